/-
  Texts as programs: what the reader makes of expressions, whatever the tokens.
-/
import Derived.Test.YtcjiafanhlhdlaaGreatDoorG11
import Derived.Test.YtcjiafanhlhdlaaGreatDoorG08
import Derived.Test.YtcjiafanhlhdlaaGreatDoorG09
import Derived.IntWalk
import Derived.Shelf.LaysC
import Derived.Ground.NamesProg
import Derived.Shelf.Strconv.ParseIntPublic10
import Derived.Test.YtcjiafanhlhdlaaGreatDoorProg
set_option linter.unusedVariables false
set_option linter.unusedSimpArgs false
set_option linter.unusedSectionVars false
namespace Go.Avm
open Go.Proofs
def Q9(L:List T)(nm:List UInt8)(p:Int)(s:RS):Res (List Ex)→Prop
 | .ok r s'=>s'.i<L.length∧HC 42 [rP,Ch] (rd L s ++fb nm p) [] (rd L s' ++No nm p r)
 | .bad q t s'=>∃v,HX 42 [rP,Ch] (rd L s ++fb nm p) (dk q t) (rd L s' ++kg v)
 | .out=>True
abbrev eR:Ex→List D:=fun e=>[fM e]
structure EJ(L:List T)(n:Nat):Prop where
 one:∀s:RS,s.i<L.length→RC L 128 [rP] eR s (gA L n s)
 place:∀s:RS,s.i<L.length→RC L 131 [rP] eR s (dQ L n s)
 call:∀(nm:List UInt8)(p:Int)(s:RS),s.i<L.length→RC L 130 [rP, .d (.str nm),dI p] eR s (gh L n nm p s)
 expr:∀(k:Int)(s:RS),s.i<L.length→RC L 100 [rP,dI k] eR s (bw L n k s)
 tail:∀(k:Int)(e:Ex)(s:RS),s.i<L.length→Hd L k s e (d9 L n k e s)
 args:∀(nm:List UInt8)(p:Int)(s:RS),s.i<L.length→Q9 L nm p s (gN L n s)
 more:∀(nm:List UInt8)(p:Int)(r:List Ex)(s:RS),s.i<L.length→r.length≤s.i→r≠[]→Ky L nm p s r (fE L n r s)
theorem EK{L:List T}(hL:dm L){n:Nat}(h:EJ L n)(nm:List UInt8)(p:Int)(s:RS)(l:s.i<L.length):Q9 L nm p s (gN L (n+1) s):=by
 simp only[gN];have c1:=cv l hL [40];have g1:=aN L [40] s;revert c1 g1;cases aG L [40] s with
 |out=>exact fun _ _=>trivial
 |bad q t s1=>exact fun c1 _=>⟨0,P0 nm p c1⟩
 |ok t1 s1=>
  intro c1 g1;have g1:=g1 t1 s1 rfl;have l1:=c1.1;simp only[Res.bind];cases h41:br L s1 [41]with
  |true=>
   have c2:=cv l1 hL [41];simp only[cond_true];revert c2;cases aG L [41] s1 with
   |out=>exact fun _=>trivial
   |bad q t s2=>exact fun c2=>⟨0,P5 nm p l1 c1.2 h41 c2⟩
   |ok t2 s2=>exact fun c2=>⟨c2.1,P4 nm p l1 c1.2 h41 c2.2⟩
  |false=>
   have c2:=h.expr 1 s1 l1;have g2:=uh L n 1 s1;simp only[cond_false];revert c2 g2;cases bw L n 1 s1 with
   |out=>exact fun _ _=>trivial
   |bad q t s2=>exact fun c2 _=>⟨0,P6 nm p l1 c1.2 h41 (Np nm p q t s2 c2)⟩
   |ok e s2=>
    intro c2 g2;have g2:=g2 e s2 rfl;have k2:=PX nm p e s2 c2.2;have c3:=h.more nm p [e] s2 c2.1 (by simp only[List.length_cons,List.length_nil];omega) (by simp);simp only;revert c3;cases fE L n [e] s2 with
    |out=>exact fun _=>trivial
    |bad q t s3=>exact fun ⟨v,c3⟩=>⟨v,P7 nm p l1 c1.2 h41 e k2 v c3⟩
    |ok r s3=>
     rintro⟨l3,hne,c3⟩;have c4:=cv l3 hL [41];simp only;revert c4;cases aG L [41] s3 with
     |out=>exact fun _=>trivial
     |bad q t s4=>exact fun c4=>⟨_,P8 nm p l1 c1.2 h41 e k2 r c3 c4⟩
     |ok t4 s4=>
      intro c4
      have hr:No nm p r=dn nm p r:=by
       cases r with
       |nil=>exact absurd rfl hne
       |cons a b=>rfl
      refine⟨c4.1, ?_⟩;rw[hr];exact P9 nm p l1 c1.2 h41 e k2 r c3 c4.2
theorem EL{L:List T}{n:Nat}(h:EJ L n)(nm:List UInt8)(p:Int)(s:RS)(l:s.i<L.length):RC L 130 [rP, .d (.str nm),dI p] eR s (gh L (n+1) nm p s):=by
 simp only[gh];have c:=h.args nm p s l;revert c;cases gN L n s with
 |out=>exact fun _=>trivial
 |bad q t s1=>exact fun ⟨v,c⟩=>Nt nm p v c
 |ok r s1=>
  intro c;refine⟨c.1, ?_⟩;cases r with
  |nil=>exact Nr nm p c.2
  |cons a b=>exact Ns nm p (a::b) c.2
theorem lF{L:List T}(hL:dm L):∀n,EJ L n
 |0=>⟨fun _ _=>trivial,fun _ _=>trivial,fun _ _ _ _=>trivial,fun _ _ _=>trivial,fun _ _ _ _=>trivial,fun _ _ _ _=>trivial,fun _ _ _ _ _ _ _=>trivial⟩
 |n+1=>by
  have h:=lF hL n;exact⟨Hc hL n h.one h.expr h.place h.call,Cg hL n h.expr,EL h,EG hL n h.one h.tail,EF hL n h.expr h.tail,EK hL h,fun nm p=>EI hL nm p n h.expr (h.more nm p)⟩
end Go.Avm
namespace Go.Avm
open Go.Proofs
def RCp{α:Type}(L:List T)(f:Nat)(args:List AV)(pre:List (Nat×aL))(post:α→List (Nat×aL))(bd:List (Nat×aL))(g:α→List D)(s:RS):Res α→Prop
 | .ok a s'=>s'.i<L.length∧HC f args (rd L s ++pre) (g a) (rd L s' ++post a)
 | .bad p e s'=>HX f args (rd L s ++pre) (dk p e) (rd L s' ++bd)
 | .out=>True
section
variable{L:List T}{F:Nat}{args:List AV}{s0:RS}{α β:Type}{g:α→List D}{pre:List (Nat×aL)}{post:α→List (Nat×aL)}{bd:List (Nat×aL)}
theorem RCp.bind{f':Nat}{args':List AV}{g':β→List D}{s:RS}{r:Res β}{k:β→RS→Res α}(h:RC L f' args' g' s r)
    (hb:∀p e s',(HX f' args' (rd L s) (dk p e) (rd L s'))→HX F args (rd L s0 ++pre) (dk p e) (rd L s' ++bd))
    (hk:∀a s',s'.i<L.length→(HC f' args' (rd L s) (g' a) (rd L s'))→RCp L F args pre post bd g s0 (k a s')):RCp L F args pre post bd g s0 (r.bind k):=by
 cases r with
 |ok a s'=>exact hk a s' h.1 h.2
 |bad p e s'=>exact hb p e s' h
 |out=>trivial
theorem RCp.bindp{f':Nat}{args':List AV}{pre':List (Nat×aL)}{post':β→List (Nat×aL)}{bd':List (Nat×aL)}{g':β→List D}{s:RS}{r:Res β}{k:β→RS→Res α}(h:RCp L f' args' pre' post' bd' g' s r)
    (hb:∀p e s',(HX f' args' (rd L s ++pre') (dk p e) (rd L s' ++bd'))→HX F args (rd L s0 ++pre) (dk p e) (rd L s' ++bd))
    (hk:∀a s',s'.i<L.length→(HC f' args' (rd L s ++pre') (g' a) (rd L s' ++post' a))→RCp L F args pre post bd g s0 (k a s')):RCp L F args pre post bd g s0 (r.bind k):=by
 cases r with
 |ok a s'=>exact hk a s' h.1 h.2
 |bad p e s'=>exact hb p e s' h
 |out=>trivial
theorem RCp.may{s:RS}(hi:s.i<L.length)(hL:dm L)(x:List UInt8){X Y:RS→Res α}
    (hb:∀p e s',(HX 45 [rP, .d (.str x)] (rd L s) (dk p e) (rd L s'))→HX F args (rd L s0 ++pre) (dk p e) (rd L s' ++bd))
    (hT:∀s',s'.i<L.length→(HC 45 [rP, .d (.str x)] (rd L s) [.bool true] (rd L s'))→RCp L F args pre post bd g s0 (X s'))
    (hF:br L s x=false→RCp L F args pre post bd g s0 (Y s)):RCp L F args pre post bd g s0 ((b8 L x s).bind fun b s1=>bif b then X s1 else Y s1):=by
 have h:=MN hi hL x;revert h;unfold b8;cases hx:br L s x with
 |false=>exact fun _=>hF hx
 |true=>
  simp only[cond_true];cases aG L x s with
  |ok t s'=>exact fun h=>hT s' h.1 h.2
  |bad p e s'=>exact fun h=>hb p e s' h
  |out=>exact fun _=>trivial
theorem RCp.ite{c:Bool}{X Y:Res α}(hT:c=true→RCp L F args pre post bd g s0 X)(hF:c=false→RCp L F args pre post bd g s0 Y):RCp L F args pre post bd g s0 (bif c then X else Y):=by
 cases h:c with
 |true=>exact hT h
 |false=>exact hF h
end
abbrev kE:List (Nat×aL):=[(300000,⟨1,none⟩)]
abbrev kV(l:List Int):AV:= .vec 300000 1 1 (l.map fun k=> .int .u8 k)
abbrev kG:Int→List D:=fun k=>[.int .u8 k]
section
variable{L:List T}(hL:dm L)
include hL
theorem IA(s:RS)(l:s.i<L.length):RCp L 44 [rP,kV [1,2,3]] kE (fun _=>kE) kE kG s (eB L [1,2,3] s):=by
 simp only[eB];refine RCp.may l hL (fD 1) ?_ ?_ ?_
 ·exact fun _ _ _ c=>qX {pans:=au Pg [(44,4,310168,⟨3,some (be c),[]⟩)]} 310000
 ·intro s1 l1 c1
  exact⟨l1,qN {calls:=tC [(44,16,310210,af c1)]} 310000⟩
 ·intro h1
  refine RCp.may l hL (fD 2) ?_ ?_ ?_
  ·exact fun _ _ _ c=>qX {calls:=tC [(44,16,310210,af (ah l (fD 1) h1))],pans:=au Pg [(44,4,310336,⟨3,some (be c),[]⟩)]} 310000
  ·intro s2 l2 c2
   exact⟨l2,qN {calls:=tC [(44,16,310210,af (ah l (fD 1) h1)),(44,16,310378,af c2)]} 310000⟩
  ·intro h2
   refine RCp.may l hL (fD 3) ?_ ?_ ?_
   ·exact fun _ _ _ c=>qX {calls:=tC [(44,16,310210,af (ah l (fD 1) h1)),(44,16,310378,af (ah l (fD 2) h2))],pans:=au Pg [(44,4,310504,⟨3,some (be c),[]⟩)]} 310000
   ·intro s3 l3 c3
    exact⟨l3,qN {calls:=tC [(44,16,310210,af (ah l (fD 1) h1)),(44,16,310378,af (ah l (fD 2) h2)),(44,16,310546,af c3)]} 310000⟩
   ·intro h3
    exact(qX {calls:=tC [(44,16,310210,af (ah l (fD 1) h1)),(44,16,310378,af (ah l (fD 2) h2)),(44,16,310546,af (ah l (fD 3) h3))],pans:=au Pg [(44,7,310609,⟨1,some (be (G5 l)),[]⟩)]} 310000:HX 44 [rP,kV [1,2,3]] (rd L s ++kE) (dk (bA L s).p 4) (rd L s ++kE))
theorem Nu(s:RS)(l:s.i<L.length):RCp L 44 [rP,kV [1,2]] kE (fun _=>kE) kE kG s (eB L [1,2] s):=by
 simp only[eB];refine RCp.may l hL (fD 1) ?_ ?_ ?_
 ·exact fun _ _ _ c=>qX {pans:=au Pg [(44,4,310168,⟨3,some (be c),[]⟩)]} 310000
 ·intro s1 l1 c1
  exact⟨l1,qN {calls:=tC [(44,16,310210,af c1)]} 310000⟩
 ·intro h1
  refine RCp.may l hL (fD 2) ?_ ?_ ?_
  ·exact fun _ _ _ c=>qX {calls:=tC [(44,16,310210,af (ah l (fD 1) h1))],pans:=au Pg [(44,4,310336,⟨3,some (be c),[]⟩)]} 310000
  ·intro s2 l2 c2
   exact⟨l2,qN {calls:=tC [(44,16,310210,af (ah l (fD 1) h1)),(44,16,310378,af c2)]} 310000⟩
  ·intro h2
   exact(qX {calls:=tC [(44,16,310210,af (ah l (fD 1) h1)),(44,16,310378,af (ah l (fD 2) h2))],pans:=au Pg [(44,7,310441,⟨1,some (be (G5 l)),[]⟩)]} 310000:HX 44 [rP,kV [1,2]] (rd L s ++kE) (dk (bA L s).p 4) (rd L s ++kE))
end
def Qa:bt→List AV
 | .mk k id nm ty n p es bd el=>[u8 k,dI id, .d (.str nm),u8 ty,dI n,dI p, .d (.ro (iY es)), .d (.ro (dY bd)), .d (.ro (dY el))]
abbrev Ra(a:bt):List (Nat×aL):=[(2235,⟨1,some (.arr 1 (Qa a))⟩)]
abbrev Rb(id p:Int):List (Nat×aL):=[(2235,⟨1,some (.arr 1 [u8 0,dI id, .d (.str []),u8 0,dI 0,dI p, .nils, .nils, .nils])⟩)]
abbrev Rd:List (Nat×aL):=[(2235,⟨1,none⟩)]
section
variable{L:List T}(hL:dm L)
include hL
theorem Nv(n:Nat)(id p:Int)(s:RS)(l:s.i<L.length):RCp L 99 [rP,pC 2235] (Rb id p) Ra Rd (fun _=>[]) s (jI L n id p s):=by
 unfold jI;refine RCp.bind (pS l hL 1 (by decide)) ?_ ?_
 ·exact fun _ _ _ c=>qX {pans:=au Pg [(99,0,299385,⟨3,some (be c),[]⟩)]} 299385
 ·intro t s1 l1 c1
  refine RCp.bind (cv l1 hL [58]) ?_ ?_
  ·exact fun _ _ _ c=>qX {calls:=tC [(99,7,299523,af c1)],pans:=au Pg [(99,1,299845,⟨1,some (be c),[]⟩)]} 299385
  ·intro _ s2 l2 c2
   refine RCp.bindp (IA hL _ l2) ?_ ?_
   ·exact fun _ _ _ c=>qX {calls:=tC [(99,7,299523,af c1),(99,14,299891,af c2)],pans:=au Pg [(99,2,299891,⟨3,some (be c),[]⟩)]} 299385
   ·intro ty s3 l3 c3
    refine RCp.ite (fun h4=> ?_) (fun h4=> ?_)
    ·
     refine RCp.bind (cv l3 hL [91]) ?_ ?_
     ·exact fun _ _ _ c=>qX {hint:=qT 99 [(25,qB h4)],calls:=tC [(99,7,299523,af c1),(99,14,299891,af c2),(99,18,300029,af c3)],pans:=au Pg [(99,4,300397,⟨1,some (be c),[]⟩)]} 299385
     ·intro _ s5 l5 c5
      refine RCp.bind (pS l5 hL 3 (by decide)) ?_ ?_
      ·exact fun _ _ _ c=>qX {hint:=qT 99 [(25,qB h4)],calls:=tC [(99,7,299523,af c1),(99,14,299891,af c2),(99,18,300029,af c3),(99,27,300443,af c5)],pans:=au Pg [(99,5,300443,⟨2,some (be c),[]⟩)]} 299385
      ·intro m s6 l6 c6
       refine RCp.bind (cv l6 hL [93]) ?_ ?_
       ·exact fun _ _ _ c=>qX {hint:=qT 99 [(25,qB h4)],calls:=tC [(99,7,299523,af c1),(99,14,299891,af c2),(99,18,300029,af c3),(99,27,300443,af c5),(99,30,300535,af c6)],pans:=au Pg [(99,6,300719,⟨1,some (be c),[]⟩)]} 299385
       ·intro _ s7 l7 c7
        refine RCp.bind (cv l7 hL [59]) ?_ ?_
        ·exact fun _ _ _ c=>qX {hint:=qT 99 [(25,qB h4)],calls:=tC [(99,7,299523,af c1),(99,14,299891,af c2),(99,18,300029,af c3),(99,27,300443,af c5),(99,30,300535,af c6),(99,35,300765,af c7)],pans:=au Pg [(99,9,300765,⟨1,some (be c),[]⟩)]} 299385
        ·intro _ s8 l8 c8
         exact⟨l8,cp aB named {hint:=qT 99 [(25,qB h4)],calls:=tC [(99,7,299523,af c1),(99,14,299891,af c2),(99,18,300029,af c3),(99,27,300443,af c5),(99,30,300535,af c6),(99,35,300765,af c7),(99,45,300811,af c8)]} 2000 299385 _ 1000000 ([(2235,6),(2235,7),(2235,8)]) ⟨rfl,rfl,rfl,by kernel_rfl,by kernel_rfl,by kernel_rfl⟩ (fun _=>by kernel_rfl)⟩
    ·
     refine RCp.may l3 hL [61] ?_ ?_ ?_
     ·exact fun _ _ _ c=>qX {hint:=qT 99 [(25,qB h4)],calls:=tC [(99,7,299523,af c1),(99,14,299891,af c2),(99,18,300029,af c3)],pans:=au Pg [(99,7,300397,⟨1,some (be c),[]⟩)]} 299385
     ·intro s5 l5 c5
      refine RCp.bind ((lF hL n).expr 1 _ l5) ?_ ?_
      ·exact fun _ _ _ c=>qX {hint:=qT 99 [(25,qB h4)],calls:=tC [(99,7,299523,af c1),(99,14,299891,af c2),(99,18,300029,af c3),(99,37,300443,af c5)],pans:=au Pg [(99,8,300443,⟨2,some (be c),[]⟩)]} 299385
      ·intro x s6 l6 c6
       obtain⟨kx,ox,nmx,nx,px,xsx⟩:=x;refine RCp.bind (cv l6 hL [59]) ?_ ?_
       ·exact fun _ _ _ c=>qX {hint:=qT 99 [(25,qB h4)],calls:=tC [(99,7,299523,af c1),(99,14,299891,af c2),(99,18,300029,af c3),(99,37,300443,af c5),(99,40,300535,af c6)],pans:=au Pg [(99,9,300719,⟨1,some (be c),[]⟩)]} 299385
       ·intro _ s7 l7 c7
        exact⟨l7,cp aB named {hint:=qT 99 [(25,qB h4)],calls:=tC [(99,7,299523,af c1),(99,14,299891,af c2),(99,18,300029,af c3),(99,37,300443,af c5),(99,40,300535,af c6),(99,45,300765,af c7)]} 2000 299385 _ 1000000 ([(2235,6),(2235,7),(2235,8)]) ⟨rfl,rfl,rfl,by kernel_rfl,by kernel_rfl,by kernel_rfl⟩ (fun _=>by kernel_rfl)⟩
     ·intro h5
      refine RCp.bind (cv l3 hL [59]) ?_ ?_
      ·exact fun _ _ _ c=>qX {hint:=qT 99 [(25,qB h4)],calls:=tC [(99,7,299523,af c1),(99,14,299891,af c2),(99,18,300029,af c3),(99,37,300443,af (ah l3 [61] h5))],pans:=au Pg [(99,9,300443,⟨1,some (be c),[]⟩)]} 299385
      ·intro _ s6 l6 c6
       exact⟨l6,cp aB named {hint:=qT 99 [(25,qB h4)],calls:=tC [(99,7,299523,af c1),(99,14,299891,af c2),(99,18,300029,af c3),(99,37,300443,af (ah l3 [61] h5)),(99,45,300489,af c6)]} 2000 299385 _ 1000000 ([(2235,6),(2235,7),(2235,8)]) ⟨rfl,rfl,rfl,by kernel_rfl,by kernel_rfl,by kernel_rfl⟩ (fun _=>by kernel_rfl)⟩
theorem EM(n:Nat)(id p:Int)(s:RS)(l:s.i<L.length):RCp L 101 [rP,pC 2235] (Rb id p) Ra Rd (fun _=>[]) s (dF L n id p s):=by
 unfold dF;refine RCp.bind (pS l hL 1 (by decide)) ?_ ?_
 ·exact fun _ _ _ c=>qX {pans:=au Pg [(101,0,10000,⟨1,some (be c),[]⟩)]} 10000
 ·intro t s1 l1 c1
  refine RCp.ite (fun h2=> ?_) (fun h2=> ?_)
  ·
   refine RCp.bind ((lF hL n).call t.t p _ l1) ?_ ?_
   ·exact fun _ _ _ c=>qX {calls:=tC [(101,7,10064,af c1),(101,26,10256,af (aV l1 [40] h2))],pans:=au Pg [(101,5,10320,⟨8,some (be c),[]⟩)]} 10000
   ·intro x s3 l3 c3
    obtain⟨kx,ox,nmx,nx,px,xsx⟩:=x;refine RCp.bind (cv l3 hL [59]) ?_ ?_
    ·exact fun _ _ _ c=>qX {calls:=tC [(101,7,10064,af c1),(101,26,10256,af (aV l1 [40] h2)),(101,35,10832,af c3)],pans:=au Pg [(101,11,11280,⟨1,some (be c),[]⟩)]} 10000
    ·intro _ s4 l4 c4
     exact⟨l4,cp aB named {calls:=tC [(101,7,10064,af c1),(101,26,10256,af (aV l1 [40] h2)),(101,35,10832,af c3),(101,63,11344,af c4)]} 2000 10000 _ 1000000 ([(2235,6),(2235,7),(2235,8)]) ⟨rfl,rfl,rfl,by kernel_rfl,by kernel_rfl,by kernel_rfl⟩ (fun _=>by kernel_rfl)⟩
  ·
   refine RCp.ite (fun h3=> ?_) (fun h3=> ?_)
   ·
    refine RCp.bind ((lF hL n).place _ l1) ?_ ?_
    ·exact fun _ _ _ c=>qX {calls:=tC [(101,7,10064,af c1),(101,26,10256,af (aV l1 [40] h2)),(101,43,10384,af (aV l1 [91] h3))],pans:=au Pg [(101,8,11024,⟨1,some (be c),[]⟩)]} 10000
    ·intro x s4 l4 c4
     obtain⟨kx,ox,nmx,nx,px,xsx⟩:=x;refine RCp.bind (cv l4 hL [61]) ?_ ?_
     ·exact fun _ _ _ c=>qX {calls:=tC [(101,7,10064,af c1),(101,26,10256,af (aV l1 [40] h2)),(101,43,10384,af (aV l1 [91] h3)),(101,52,11088,af c4)],pans:=au Pg [(101,9,11216,⟨1,some (be c),[]⟩)]} 10000
     ·intro _ s5 l5 c5
      refine RCp.bind ((lF hL n).expr 1 _ l5) ?_ ?_
      ·exact fun _ _ _ c=>qX {calls:=tC [(101,7,10064,af c1),(101,26,10256,af (aV l1 [40] h2)),(101,43,10384,af (aV l1 [91] h3)),(101,52,11088,af c4),(101,54,11280,af c5)],pans:=au Pg [(101,10,11280,⟨3,some (be c),[]⟩)]} 10000
      ·intro y s6 l6 c6
       obtain⟨ky,oy,nmy,ny,py,xsy⟩:=y;refine RCp.bind (cv l6 hL [59]) ?_ ?_
       ·exact fun _ _ _ c=>qX {calls:=tC [(101,7,10064,af c1),(101,26,10256,af (aV l1 [40] h2)),(101,43,10384,af (aV l1 [91] h3)),(101,52,11088,af c4),(101,54,11280,af c5),(101,58,11472,af c6)],pans:=au Pg [(101,11,11728,⟨1,some (be c),[]⟩)]} 10000
       ·intro _ s7 l7 c7
        exact⟨l7,cp aB named {calls:=tC [(101,7,10064,af c1),(101,26,10256,af (aV l1 [40] h2)),(101,43,10384,af (aV l1 [91] h3)),(101,52,11088,af c4),(101,54,11280,af c5),(101,58,11472,af c6),(101,63,11792,af c7)]} 2000 10000 _ 1000000 ([(2235,6),(2235,7),(2235,8)]) ⟨rfl,rfl,rfl,by kernel_rfl,by kernel_rfl,by kernel_rfl⟩ (fun _=>by kernel_rfl)⟩
   ·
    refine RCp.bind (cv l1 hL [61]) ?_ ?_
    ·exact fun _ _ _ c=>qX {calls:=tC [(101,7,10064,af c1),(101,26,10256,af (aV l1 [40] h2)),(101,43,10384,af (aV l1 [91] h3))],pans:=au Pg [(101,2,11024,⟨1,some (be c),[]⟩)]} 10000
    ·intro _ s4 l4 c4
     refine RCp.bind ((lF hL n).expr 1 _ l4) ?_ ?_
     ·exact fun _ _ _ c=>qX {calls:=tC [(101,7,10064,af c1),(101,26,10256,af (aV l1 [40] h2)),(101,43,10384,af (aV l1 [91] h3)),(101,17,11088,af c4)],pans:=au Pg [(101,3,11088,⟨2,some (be c),[]⟩)]} 10000
     ·intro x s5 l5 c5
      obtain⟨kx,ox,nmx,nx,px,xsx⟩:=x;refine RCp.bind (cv l5 hL [59]) ?_ ?_
      ·exact fun _ _ _ c=>qX {calls:=tC [(101,7,10064,af c1),(101,26,10256,af (aV l1 [40] h2)),(101,43,10384,af (aV l1 [91] h3)),(101,17,11088,af c4),(101,20,11216,af c5)],pans:=au Pg [(101,11,11472,⟨1,some (be c),[]⟩)]} 10000
      ·intro _ s6 l6 c6
       exact⟨l6,cp aB named {calls:=tC [(101,7,10064,af c1),(101,26,10256,af (aV l1 [40] h2)),(101,43,10384,af (aV l1 [91] h3)),(101,17,11088,af c4),(101,20,11216,af c5),(101,63,11536,af c6)]} 2000 10000 _ 1000000 ([(2235,6),(2235,7),(2235,8)]) ⟨rfl,rfl,rfl,by kernel_rfl,by kernel_rfl,by kernel_rfl⟩ (fun _=>by kernel_rfl)⟩
end
end Go.Avm
namespace Go.Avm
open Go.Proofs
abbrev sR:bt→List D:=fun x=>[xH x]
abbrev bR:List bt→List D:=fun l=>[.ro (dY l)]
theorem RC.bindp{L:List T}{F:Nat}{args:List AV}{s0:RS}{α β:Type}{g:α→List D}{f':Nat}{args':List AV}{pre':List (Nat×aL)}{post':β→List (Nat×aL)}{bd':List (Nat×aL)}{g':β→List D}{s:RS}{r:Res β}{k:β→RS→Res α}(h:RCp L f' args' pre' post' bd' g' s r)
    (hb:∀p e s',(HX f' args' (rd L s ++pre') (dk p e) (rd L s' ++bd'))→HX F args (rd L s0) (dk p e) (rd L s'))
    (hk:∀a s',s'.i<L.length→(HC f' args' (rd L s ++pre') (g' a) (rd L s' ++post' a))→RC L F args g s0 (k a s')):RC L F args g s0 (r.bind k):=by
 cases r with
 |ok a s'=>exact hk a s' h.1 h.2
 |bad p e s'=>exact hb p e s' h
 |out=>trivial
section
variable{L:List T}(hL:dm L)
include hL
theorem EN(n:Nat)(ihB:∀s:RS,s.i<L.length→RC L 46 [rP] bR s (b9 L n s))(s0:RS)(l0:s0.i<L.length):RC L 72 [rP] sR s0 (dU L (n+1) s0):=by
 have l:s0.st.i<L.length:=l0;simp only[dU];refine RC.may l hL [108,101,116] ?_ ?_ ?_
 ·exact fun _ _ _ c=>qX {calls:=tC [(72,16,2078,bc rfl (bp l))],pans:=au Pg [(72,4,2386,⟨1,some (be c),[]⟩)]} 1000
 ·intro s1 l1 c1
  refine RC.bindp (Nv hL n s0.st.n (bA L s0.st).p _ l1) ?_ ?_
  ·exact fun _ _ _ c=>qX {calls:=tC [(72,16,2078,bc rfl (bp l)),(72,23,2463,af c1)],pans:=au Pg [(72,5,2540,⟨1,some (be c),[]⟩)]} 1000
  ·intro x s2 l2 c2
   obtain⟨xk,xid,xnm,xty,xn,xp,xes,xbd,xel⟩:=x;exact⟨l2,qN {calls:=tC [(72,16,2078,bc rfl (bp l)),(72,23,2463,af c1),(72,25,2617,af c2)]} 1000⟩
 ·intro h1
  refine RC.may l hL [105,102] ?_ ?_ ?_
  ·exact fun _ _ _ c=>qX {calls:=tC [(72,16,2078,bc rfl (bp l)),(72,23,2463,af (ah l [108,101,116] h1))],pans:=au Pg [(72,6,2540,⟨1,some (be c),[]⟩)]} 1000
  ·intro s2 l2 c2
   refine RC.bind ((lF hL n).expr 1 _ l2) ?_ ?_
   ·exact fun _ _ _ c=>qX {calls:=tC [(72,16,2078,bc rfl (bp l)),(72,23,2463,af (ah l [108,101,116] h1)),(72,28,2617,af c2)],pans:=au Pg [(72,7,2694,⟨1,some (be c),[]⟩)]} 1000
   ·intro x s3 l3 c3
    obtain⟨kx,ox,nmx,nx,px,xsx⟩:=x;refine RC.bind (ihB _ l3) ?_ ?_
    ·exact fun _ _ _ c=>qX {calls:=tC [(72,16,2078,bc rfl (bp l)),(72,23,2463,af (ah l [108,101,116] h1)),(72,28,2617,af c2),(72,30,2771,af c3)],pans:=au Pg [(72,8,3156,⟨1,some (be c),[]⟩)]} 1000
    ·intro b1 s4 l4 c4
     refine RC.may l4 hL [101,108,115,101] ?_ ?_ ?_
     ·exact fun _ _ _ c=>qX {calls:=tC [(72,16,2078,bc rfl (bp l)),(72,23,2463,af (ah l [108,101,116] h1)),(72,28,2617,af c2),(72,30,2771,af c3),(72,35,3233,af c4)],pans:=au Pg [(72,9,3387,⟨1,some (be c),[]⟩)]} 1000
     ·intro s5 l5 c5
      refine RC.bind (ihB _ l5) ?_ ?_
      ·exact fun _ _ _ c=>qX {calls:=tC [(72,16,2078,bc rfl (bp l)),(72,23,2463,af (ah l [108,101,116] h1)),(72,28,2617,af c2),(72,30,2771,af c3),(72,35,3233,af c4),(72,38,3464,af c5)],pans:=au Pg [(72,10,3464,⟨1,some (be c),[]⟩)]} 1000
      ·intro b2 s6 l6 c6
       exact⟨l6,qN {calls:=tC [(72,16,2078,bc rfl (bp l)),(72,23,2463,af (ah l [108,101,116] h1)),(72,28,2617,af c2),(72,30,2771,af c3),(72,35,3233,af c4),(72,38,3464,af c5),(72,40,3541,af c6)]} 1000⟩
     ·intro h5
      exact⟨l4,qN {calls:=tC [(72,16,2078,bc rfl (bp l)),(72,23,2463,af (ah l [108,101,116] h1)),(72,28,2617,af c2),(72,30,2771,af c3),(72,35,3233,af c4),(72,38,3464,af (ah l4 [101,108,115,101] h5))]} 1000⟩
  ·intro h2
   refine RC.may l hL [119,104,105,108,101] ?_ ?_ ?_
   ·exact fun _ _ _ c=>qX {calls:=tC [(72,16,2078,bc rfl (bp l)),(72,23,2463,af (ah l [108,101,116] h1)),(72,28,2617,af (ah l [105,102] h2))],pans:=au Pg [(72,11,2694,⟨1,some (be c),[]⟩)]} 1000
   ·intro s3 l3 c3
    refine RC.bind ((lF hL n).expr 1 _ l3) ?_ ?_
    ·exact fun _ _ _ c=>qX {calls:=tC [(72,16,2078,bc rfl (bp l)),(72,23,2463,af (ah l [108,101,116] h1)),(72,28,2617,af (ah l [105,102] h2)),(72,44,2771,af c3)],pans:=au Pg [(72,12,2848,⟨1,some (be c),[]⟩)]} 1000
    ·intro x s4 l4 c4
     obtain⟨kx,ox,nmx,nx,px,xsx⟩:=x;refine RC.bind (ihB _ l4) ?_ ?_
     ·exact fun _ _ _ c=>qX {calls:=tC [(72,16,2078,bc rfl (bp l)),(72,23,2463,af (ah l [108,101,116] h1)),(72,28,2617,af (ah l [105,102] h2)),(72,44,2771,af c3),(72,46,2925,af c4)],pans:=au Pg [(72,13,3310,⟨1,some (be c),[]⟩)]} 1000
     ·intro b1 s5 l5 c5
      exact⟨l5,qN {calls:=tC [(72,16,2078,bc rfl (bp l)),(72,23,2463,af (ah l [108,101,116] h1)),(72,28,2617,af (ah l [105,102] h2)),(72,44,2771,af c3),(72,46,2925,af c4),(72,51,3387,af c5)]} 1000⟩
   ·intro h3
    refine RC.may l hL [114,101,116,117,114,110] ?_ ?_ ?_
    ·exact fun _ _ _ c=>qX {calls:=tC [(72,16,2078,bc rfl (bp l)),(72,23,2463,af (ah l [108,101,116] h1)),(72,28,2617,af (ah l [105,102] h2)),(72,44,2771,af (ah l [119,104,105,108,101] h3))],pans:=au Pg [(72,14,2848,⟨1,some (be c),[]⟩)]} 1000
    ·intro s4 l4 c4
     refine RC.ite (fun h5=> ?_) (fun h5=> ?_)
     ·
      refine RC.bind (cv l4 hL [59]) ?_ ?_
      ·exact fun _ _ _ c=>qX {calls:=tC [(72,16,2078,bc rfl (bp l)),(72,23,2463,af (ah l [108,101,116] h1)),(72,28,2617,af (ah l [105,102] h2)),(72,44,2771,af (ah l [119,104,105,108,101] h3)),(72,55,2925,af c4),(72,58,3233,af (aV l4 [59] h5))],pans:=au Pg [(72,18,3310,⟨1,some (be c),[]⟩)]} 1000
      ·intro _ s6 l6 c6
       exact⟨l6,qN {calls:=tC [(72,16,2078,bc rfl (bp l)),(72,23,2463,af (ah l [108,101,116] h1)),(72,28,2617,af (ah l [105,102] h2)),(72,44,2771,af (ah l [119,104,105,108,101] h3)),(72,55,2925,af c4),(72,58,3233,af (aV l4 [59] h5)),(72,65,3387,af c6)]} 1000⟩
     ·
      refine RC.bind ((lF hL n).expr 1 _ l4) ?_ ?_
      ·exact fun _ _ _ c=>qX {calls:=tC [(72,16,2078,bc rfl (bp l)),(72,23,2463,af (ah l [108,101,116] h1)),(72,28,2617,af (ah l [105,102] h2)),(72,44,2771,af (ah l [119,104,105,108,101] h3)),(72,55,2925,af c4),(72,58,3233,af (aV l4 [59] h5))],pans:=au Pg [(72,17,3310,⟨1,some (be c),[]⟩)]} 1000
      ·intro x s6 l6 c6
       obtain⟨kx,ox,nmx,nx,px,xsx⟩:=x;refine RC.bind (cv l6 hL [59]) ?_ ?_
       ·exact fun _ _ _ c=>qX {calls:=tC [(72,16,2078,bc rfl (bp l)),(72,23,2463,af (ah l [108,101,116] h1)),(72,28,2617,af (ah l [105,102] h2)),(72,44,2771,af (ah l [119,104,105,108,101] h3)),(72,55,2925,af c4),(72,58,3233,af (aV l4 [59] h5)),(72,61,3387,af c6)],pans:=au Pg [(72,18,3618,⟨1,some (be c),[]⟩)]} 1000
       ·intro _ s7 l7 c7
        exact⟨l7,qN {calls:=tC [(72,16,2078,bc rfl (bp l)),(72,23,2463,af (ah l [108,101,116] h1)),(72,28,2617,af (ah l [105,102] h2)),(72,44,2771,af (ah l [119,104,105,108,101] h3)),(72,55,2925,af c4),(72,58,3233,af (aV l4 [59] h5)),(72,61,3387,af c6),(72,65,3695,af c7)]} 1000⟩
    ·intro h4
     refine RC.may l hL [112,114,105,110,116] ?_ ?_ ?_
     ·exact fun _ _ _ c=>qX {calls:=tC [(72,16,2078,bc rfl (bp l)),(72,23,2463,af (ah l [108,101,116] h1)),(72,28,2617,af (ah l [105,102] h2)),(72,44,2771,af (ah l [119,104,105,108,101] h3)),(72,55,2925,af (ah l [114,101,116,117,114,110] h4))],pans:=au Pg [(72,19,3002,⟨1,some (be c),[]⟩)]} 1000
     ·intro s5 l5 c5
      refine RC.bind ((lF hL n).expr 1 _ l5) ?_ ?_
      ·exact fun _ _ _ c=>qX {calls:=tC [(72,16,2078,bc rfl (bp l)),(72,23,2463,af (ah l [108,101,116] h1)),(72,28,2617,af (ah l [105,102] h2)),(72,44,2771,af (ah l [119,104,105,108,101] h3)),(72,55,2925,af (ah l [114,101,116,117,114,110] h4)),(72,68,3079,af c5)],pans:=au Pg [(72,20,3156,⟨1,some (be c),[]⟩)]} 1000
      ·intro x s6 l6 c6
       obtain⟨kx,ox,nmx,nx,px,xsx⟩:=x;refine RC.bind (cv l6 hL [59]) ?_ ?_
       ·exact fun _ _ _ c=>qX {calls:=tC [(72,16,2078,bc rfl (bp l)),(72,23,2463,af (ah l [108,101,116] h1)),(72,28,2617,af (ah l [105,102] h2)),(72,44,2771,af (ah l [119,104,105,108,101] h3)),(72,55,2925,af (ah l [114,101,116,117,114,110] h4)),(72,68,3079,af c5),(72,70,3233,af c6)],pans:=au Pg [(72,21,3618,⟨1,some (be c),[]⟩)]} 1000
       ·intro _ s7 l7 c7
        exact⟨l7,qN {calls:=tC [(72,16,2078,bc rfl (bp l)),(72,23,2463,af (ah l [108,101,116] h1)),(72,28,2617,af (ah l [105,102] h2)),(72,44,2771,af (ah l [119,104,105,108,101] h3)),(72,55,2925,af (ah l [114,101,116,117,114,110] h4)),(72,68,3079,af c5),(72,70,3233,af c6),(72,75,3695,af c7)]} 1000⟩
     ·intro h5
      refine RC.bindp (EM hL n s0.st.n (bA L s0.st).p _ l) ?_ ?_
      ·exact fun _ _ _ c=>qX {calls:=tC [(72,16,2078,bc rfl (bp l)),(72,23,2463,af (ah l [108,101,116] h1)),(72,28,2617,af (ah l [105,102] h2)),(72,44,2771,af (ah l [119,104,105,108,101] h3)),(72,55,2925,af (ah l [114,101,116,117,114,110] h4)),(72,68,3079,af (ah l [112,114,105,110,116] h5))],pans:=au Pg [(72,3,3156,⟨1,some (be c),[]⟩)]} 1000
      ·intro x s6 l6 c6
       obtain⟨xk,xid,xnm,xty,xn,xp,xes,xbd,xel⟩:=x;exact⟨l6,qN {calls:=tC [(72,16,2078,bc rfl (bp l)),(72,23,2463,af (ah l [108,101,116] h1)),(72,28,2617,af (ah l [105,102] h2)),(72,44,2771,af (ah l [119,104,105,108,101] h3)),(72,55,2925,af (ah l [114,101,116,117,114,110] h4)),(72,68,3079,af (ah l [112,114,105,110,116] h5)),(72,20,3233,af c6)]} 1000⟩
end
def zV(l:List bt):List (Nat×AV):=[(0,rP),(3, .vec 200000 l.length 9 (dY l))]
abbrev wF(v:Nat):List (Nat×aL):=[(200000,⟨v,none⟩)]
def Qb(L:List T)(s:RS)(r:List bt):Res (List bt)→Prop
 | .ok r2 s'=>s'.i<L.length∧RL 17 (lO 46 3) (zV r) (rd L s ++wF r.length) (.exit 0) (zV r2) (rd L s' ++wF r2.length)
 | .bad q t s'=>∃v,RL 17 (lO 46 3) (zV r) (rd L s ++wF r.length) (.panic (dk q t)) [] (rd L s' ++wF v)
 | .out=>True
noncomputable def KA{L:List T}{s:RS}{r:List bt}{hp':List (Nat×aL)}{x:aD}{l':List (Nat×AV)}(h:RL 17 (lO 46 3) (zV r) (rd L s ++wF r.length) x l' hp'):dJ Pg:=
 ⟨17,b6 Pg 46 3,zV r,fun _=>rd L s ++wF r.length,x,l',fun _=>hp',fun rest X hP hN=>(h rest X hP hN).aw⟩
section
variable{L:List T}{s:RS}(l:s.i<L.length)(r:List bt)
include l
theorem KB(h:br L s [125]=true):RE 17 (lO 46 3) (zV r) (rd L s ++wF r.length) (.exit 0) (zV r) (rd L s ++wF r.length):=
 qE {calls:=tC [(46,7,3017,af (aV l [125] h))]} 46 3000
theorem Nw(h:br L s [125]=false){q t:Int}{s2:RS}(c:HX 72 [rP] (rd L s) (dk q t) (rd L s2)):RE 17 (lO 46 3) (zV r) (rd L s ++wF r.length) (.panic (dk q t)) [] (rd L s2 ++wF r.length):=
 qE {calls:=tC [(46,7,3017,af (aV l [125] h))],pans:=au Pg [(46,4,3034,⟨2,some (be c),[]⟩)]} 46 3000
theorem Ny(h:br L s [125]=false)(hr:r.length<1000000)(k id:Int)(nm:List UInt8)(ty n p:Int)(es:List Ex)(bd el:List bt){s2:RS}(c:HC 72 [rP] (rd L s) [xH (.mk k id nm ty n p es bd el)] (rd L s2)):RE 17 (lO 46 3) (zV r) (rd L s ++wF r.length) .normal [(0,rP),(3, .vec 200000 (r.length+1) 9 (dY r ++[xH (.mk k id nm ty n p es bd el)]))] (rd L s2 ++wF (r.length+1)):=
 qE {hint:=qT 46 [(13, .app (dY r) 1 (by rw[lS];omega))],calls:=tC [(46,7,3017,af (aV l [125] h)),(46,11,3068,af c)]} 46 3000
theorem Qc(h:br L s [125]=false)(hr:r.length<1000000)(x:bt){s2:RS}(c:HC 72 [rP] (rd L s) [xH x] (rd L s2)):RE 17 (lO 46 3) (zV r) (rd L s ++wF r.length) .normal (zV (r ++[x])) (rd L s2 ++wF (r ++[x]).length):=by
 obtain⟨k,id,nm,ty,n,p,es,bd,el⟩:=x;have e1:(r ++[bt.mk k id nm ty n p es bd el]).length=r.length+1:=by simp
 have e2:dY (r ++[bt.mk k id nm ty n p es bd el])=dY r ++[xH (.mk k id nm ty n p es bd el)]:=by rw[Gb];rfl
 simp only[zV,e1,e2];exact Ny l r h hr k id nm ty n p es bd el c
end
section
variable{L:List T}{s s1 s2 s3:RS}{t1 t2:T}{q t:Int}(c1:HC 40 [rP, .d (.str [123])] (rd L s) [tD t1] (rd L s1))
theorem Qd(c:HX 40 [rP, .d (.str [123])] (rd L s) (dk q t) (rd L s1)):HX 46 [rP] (rd L s) (dk q t) (rd L s1):=
 qX {pans:=au Pg [(46,2,1034,⟨1,some (be c),[]⟩)]} 1000
include c1
theorem Qe(v:Nat)(h:RL 17 (lO 46 3) (zV []) (rd L s1 ++wF ([]:List bt).length) (.panic (dk q t)) [] (rd L s2 ++wF v)):HX 46 [rP] (rd L s) (dk q t) (rd L s2):=
 qX {nils:=fun f r=>if f=46 then (if r=2 then some ⟨0,3,200000,9,true,false⟩else none)else none,loops:=fun f q=>if f=46 then (if q=3 then some (KA h)else none)else none,calls:=tC [(46,5,1051,af c1)]} 1000
section
variable(r:List bt)(h:RL 17 (lO 46 3) (zV []) (rd L s1 ++wF ([]:List bt).length) (.exit 0) (zV r) (rd L s2 ++wF r.length))
include r h
theorem Qf(c:HX 40 [rP, .d (.str [125])] (rd L s2) (dk q t) (rd L s3)):HX 46 [rP] (rd L s) (dk q t) (rd L s3):=
 qX {nils:=fun f r=>if f=46 then (if r=2 then some ⟨0,3,200000,9,true,false⟩else none)else none,loops:=fun f q=>if f=46 then (if q=3 then some (KA h)else none)else none,calls:=tC [(46,5,1051,af c1)],pans:=au Pg [(46,5,1051,⟨1,some (be c),[]⟩)]} 1000
theorem Qg(c:HC 40 [rP, .d (.str [125])] (rd L s2) [tD t2] (rd L s3)):HC 46 [rP] (rd L s) [.ro (dY r)] (rd L s3):=
 qN {nils:=fun f r=>if f=46 then (if r=2 then some ⟨0,3,200000,9,true,false⟩else none)else none,loops:=fun f q=>if f=46 then (if q=3 then some (KA h)else none)else none,calls:=tC [(46,5,1051,af c1),(46,15,1068,af c)]} 1000
end
end
structure Nz(L:List T)(n:Nat):Prop where
 block:∀s:RS,s.i<L.length→RC L 46 [rP] bR s (b9 L n s)
 stmts:∀(r:List bt)(s:RS),s.i<L.length→r.length≤s.i→Qb L s r (bT L n r s)
 stmt:∀s:RS,s.i<L.length→RC L 72 [rP] sR s (dU L n s)
theorem yd{L:List T}(hL:dm L):∀n,Nz L n
 |0=>⟨fun _ _=>trivial,fun _ _ _ _=>trivial,fun _ _=>trivial⟩
 |n+1=>by
  obtain⟨ihB,ihS,ihT⟩:=yd hL n;refine⟨fun s l=> ?_,fun r s l hr=> ?_,EN hL n ihB⟩
  ·simp only[b9]
   have c1:=cv l hL [123];revert c1;cases aG L [123] s with
   |out=>exact fun _=>trivial
   |bad q t s1=>exact fun c1=>Qd c1
   |ok t1 s1=>
    intro c1;have c2:=ihS [] s1 c1.1 (Nat.zero_le _);simp only[Res.bind];revert c2;cases bT L n [] s1 with
    |out=>exact fun _=>trivial
    |bad q t s2=>exact fun ⟨v,c2⟩=>Qe c1.2 v c2
    |ok r s2=>
     intro c2;have c3:=cv c2.1 hL [125];simp only;revert c3;cases aG L [125] s2 with
     |out=>exact fun _=>trivial
     |bad q t s3=>exact fun c3=>Qf c1.2 r c2.2 c3
     |ok t2 s3=>exact fun c3=>⟨c3.1,Qg c1.2 r c2.2 c3.2⟩
  ·simp only[bT]
   have hlen:r.length<1000000:=by have:=hL.len;omega
   cases h:br L s [125]with
   |true=>exact⟨l,fun rest X hP hN=>aY (KB l r h rest X hP hN) (by simp)⟩
   |false=>
    have c1:=ihT s l;have g1:=(lT L n).2.2 s;simp only[cond_false];revert c1 g1;cases dU L n s with
    |out=>exact fun _ _=>trivial
    |bad q t s1=>exact fun c1 _=>⟨_,fun rest X hP hN=>aY (Nw l r h c1 rest X hP hN) (by simp)⟩
    |ok x s1=>
     intro c1 g1;have g1:=g1 x s1 rfl;have c2:=ihS (r ++[x]) s1 c1.1 (by simp only[List.length_append,List.length_cons,List.length_nil];omega);have hgo:=Qc l r h hlen x c1.2;simp only[Res.bind];revert c2;cases bT L n (r ++[x]) s1 with
     |out=>exact fun _=>trivial
     |bad q t s2=>exact fun ⟨v,c2⟩=>⟨v,fun rest X hP hN=>aX (hgo rest X hP hN) (c2 rest X hP hN)⟩
     |ok r2 s2=>exact fun c2=>⟨c2.1,fun rest X hP hN=>aX (hgo rest X hP hN) (c2.2 rest X hP hN)⟩
end Go.Avm
namespace Go.Avm
open Go.Proofs
abbrev pc(r:List Pm):List D:=r.map jH
abbrev jr(nm:List UInt8)(p:Int)(v:Nat)(l:List D):List (Nat×aL):=[(299842,⟨1,some (.arr 1 [.d (.str nm), .vec 400000 v 3 l,u8 0, .nils,dI p])⟩),(299672,⟨1,some (.arr 1 [rP])⟩),(400000,⟨v,none⟩)]
abbrev Ci(v:Nat):List (Nat×aL):=[(299842,⟨1,none⟩),(299672,⟨1,none⟩),(400000,⟨v,none⟩)]
abbrev qk:AV:= .fn 43 [pC 299672,pC 299842]
section
variable{L:List T}(hL:dm L)
include hL
theorem EO(nm:List UInt8)(p:Int)(r:List Pm)(hr:r.length<1000000)(s:RS)(l:s.i<L.length):RCp L 43 [pC 299672,pC 299842] (jr nm p r.length (pc r)) (fun x=>jr nm p (r.length+1) (pc r ++[jH x])) (Ci r.length) (fun _=>[]) s (gB L s):=by
 unfold gB;refine RCp.bind (pS l hL 1 (by decide)) ?_ ?_
 ·exact fun _ _ _ c=>qX {pans:=au Pg [(43,0,299808,⟨1,some (be c),[]⟩)]} 299808
 ·intro t s1 l1 c1
  refine RCp.bind (cv l1 hL [58]) ?_ ?_
  ·exact fun _ _ _ c=>qX {calls:=tC [(43,4,299828,af c1)],pans:=au Pg [(43,1,299868,⟨1,some (be c),[]⟩)]} 299808
  ·intro _ s2 l2 c2
   refine RCp.bindp (IA hL _ l2) ?_ ?_
   ·exact fun _ _ _ c=>qX {calls:=tC [(43,4,299828,af c1),(43,6,299888,af c2)],pans:=au Pg [(43,2,299888,⟨6,some (be c),[7,8]⟩)]} 299808
   ·intro ty s3 l3 c3
    exact⟨l3,qN {hint:=qT 43 [(18, .app (pc r) 1 (by simp only[List.length_map];omega))],calls:=tC [(43,4,299828,af c1),(43,6,299888,af c2),(43,13,300008,af c3)]} 299808⟩
end
def EP:List (Nat×AV):=[(0,rP),(1,qk)]
def NA(L:List T)(nm:List UInt8)(p:Int)(s:RS)(r:List Pm):Res (List Pm)→Prop
 | .ok r2 s'=>s'.i<L.length∧RL 17 (lO 42 3) EP (rd L s ++jr nm p r.length (pc r)) (.exit 0) [(0,rP)] (rd L s' ++jr nm p r2.length (pc r2))
 | .bad q t s'=>∃v,RL 17 (lO 42 3) EP (rd L s ++jr nm p r.length (pc r)) (.panic (dk q t)) [] (rd L s' ++Ci v)
 | .out=>True
noncomputable def KC{L:List T}{nm:List UInt8}{p:Int}{s:RS}{r:List Pm}{hp':List (Nat×aL)}{x:aD}{l':List (Nat×AV)}(h:RL 17 (lO 42 3) EP (rd L s ++jr nm p r.length (pc r)) x l' (hp')):dJ Pg:=
 ⟨17,b6 Pg 42 3,EP,fun _=>rd L s ++jr nm p r.length (pc r),x,l',fun _=>hp',fun rest X hP hN=>(h rest X hP hN).aw⟩
section
variable{L:List T}{s:RS}(l:s.i<L.length)(nm:List UInt8)(p:Int)(r:List Pm)
include l
theorem KD(h:br L s [44]=false):
    RE 17 (lO 42 3) EP (rd L s ++jr nm p r.length (pc r)) (.exit 0) [(0,rP)] (rd L s ++jr nm p r.length (pc r)):=
 qE {calls:=tC [(42,12,3017,af (ah l [44] h))]} 42 3000
theorem KE(s1:RS)(c1:HC 45 [rP, .d (.str [44])] (rd L s) [.bool true] (rd L s1))(q t:Int)(s2:RS)(c:HX 43 [pC 299672,pC 299842] (rd L s1 ++jr nm p r.length (pc r)) (dk q t) (rd L s2 ++Ci r.length)):
    RE 17 (lO 42 3) EP (rd L s ++jr nm p r.length (pc r)) (.panic (dk q t)) [] (rd L s2 ++Ci r.length):=
 qE {calls:=tC [(42,12,3017,af c1)],pans:=au Pg [(42,4,3017,⟨1,some (be c),[]⟩)]} 42 3000
theorem Qh(s1:RS)(c1:HC 45 [rP, .d (.str [44])] (rd L s) [.bool true] (rd L s1))(x:Pm)(s2:RS)(c:HC 43 [pC 299672,pC 299842] (rd L s1 ++jr nm p r.length (pc r)) [] (rd L s2 ++jr nm p (r.length+1) (pc r ++[jH x]))):
    RE 17 (lO 42 3) EP (rd L s ++jr nm p r.length (pc r)) .normal EP (rd L s2 ++jr nm p (r.length+1) (pc r ++[jH x])):=
 qE {calls:=tC [(42,12,3017,af c1),(42,14,3034,af c)]} 42 3000
end
theorem A7(L:List T)(s:RS):Gr s (gB L s):=(il L _ s).bind fun _ s1 _=>((aN L _ s1).bind fun _ s2 _=>((nZ L _ s2).bind fun _ _ _=>Gq.ok _ _).le).le
section
variable{L:List T}(hL:dm L)(nm:List UInt8)(p:Int)
include hL
theorem IB:∀(n:Nat)(r:List Pm)(s:RS),s.i<L.length→r.length≤s.i→NA L nm p s r (dG L n r s)
 |0,_,_,_,_=>trivial
 |n+1,r,s,l,hr=>by
  have hlen:r.length<1000000:=by have:=hL.len;omega
  simp only[dG,b8];cases h:br L s [44]with
  |false=>exact⟨l,fun rest X hP hN=>aY (KD l nm p r h rest X hP hN) (by simp)⟩
  |true=>
   have hw:aG L [44] s= .ok (bA L s) s.nx:=by simp only[aG,h];rfl
   have hn:=vU hL l h;have c1:=mayT l [44] h (bA L s) s.nx (Eo l hL [44] h rfl rfl rfl rfl rfl rfl);simp only[cond_true,hw,Res.bind];have c:=EO hL nm p r hlen s.nx hn;have g:=A7 L s.nx;revert c g;cases gB L s.nx with
   |out=>exact fun _ _=>trivial
   |bad q t s2=>exact fun c _=>⟨_,fun rest X hP hN=>aY (KE l nm p r s.nx c1 q t s2 c rest X hP hN) (by simp)⟩
   |ok x s2=>
    intro c g;have g:=g x s2 rfl;have e1:(r ++[x]).length=r.length+1:=by simp
    have c2:=IB n (r ++[x]) s2 c.1 (by simp only[RS.nx]at g;omega);have hgo:=Qh l nm p r s.nx c1 x s2 c.2;have e2:pc (r ++[x])=pc r ++[jH x]:=by simp[pc]
    simp only;unfold NA at c2 ⊢;simp only[e1,e2]at c2;revert c2;cases dG L n (r ++[x]) s2 with
    |out=>exact fun _=>trivial
    |bad q t s3=>exact fun ⟨v,c2⟩=>⟨v,fun rest X hP hN=>aX (hgo rest X hP hN) (c2 rest X hP hN)⟩
    |ok a s3=>exact fun c2=>⟨c2.1,fun rest X hP hN=>aX (hgo rest X hP hN) (c2.2 rest X hP hN)⟩
end
section
variable{L:List T}(nm:List UInt8)(p:Int){s s1 s2 s3 s4:RS}{t1 t2:T}{q t:Int}
theorem Qi(c:HX 40 [rP, .d (.str [40])] (rd L s) (dk q t) (rd L s1)):
    HX 42 [rP,qk] (rd L s ++jr nm p 0 []) (dk q t) (rd L s1 ++Ci 0):=
 qX {pans:=au Pg [(42,0,1000,⟨1,some (be c),[]⟩)]} 1000
section
variable(l1:s1.i<L.length)(c1:HC 40 [rP, .d (.str [40])] (rd L s) [tD t1] (rd L s1))
include l1 c1
theorem Qj(h:br L s1 [41]=true)(c2:HC 40 [rP, .d (.str [41])] (rd L s1) [tD t2] (rd L s2)):
    HC 42 [rP,qk] (rd L s ++jr nm p 0 []) [] (rd L s2 ++jr nm p 0 []):=
 qN {calls:=tC [(42,5,1017,af c1),(42,7,1034,af (aV l1 [41] h)),(42,16,1068,af c2)]} 1000
theorem Qk(h:br L s1 [41]=true)(c2:HX 40 [rP, .d (.str [41])] (rd L s1) (dk q t) (rd L s2)):
    HX 42 [rP,qk] (rd L s ++jr nm p 0 []) (dk q t) (rd L s2 ++Ci 0):=
 qX {calls:=tC [(42,5,1017,af c1),(42,7,1034,af (aV l1 [41] h))],pans:=au Pg [(42,5,1051,⟨1,some (be c2),[]⟩)]} 1000
theorem Ql(h:br L s1 [41]=false)(c2:HX 43 [pC 299672,pC 299842] (rd L s1 ++jr nm p 0 []) (dk q t) (rd L s2 ++Ci 0)):
    HX 42 [rP,qk] (rd L s ++jr nm p 0 []) (dk q t) (rd L s2 ++Ci 0):=
 qX {calls:=tC [(42,5,1017,af c1),(42,7,1034,af (aV l1 [41] h))],pans:=au Pg [(42,2,1051,⟨1,some (be c2),[]⟩)]} 1000
theorem Qm(h0:br L s1 [41]=false)(x:Pm)(c2:HC 43 [pC 299672,pC 299842] (rd L s1 ++jr nm p 0 []) [] (rd L s2 ++jr nm p 1 [jH x]))(v:Nat)(h:RL 17 (lO 42 3) EP (rd L s2 ++jr nm p [x].length (pc [x])) (.panic (dk q t)) [] (rd L s3 ++Ci v)):
    HX 42 [rP,qk] (rd L s ++jr nm p 0 []) (dk q t) (rd L s3 ++Ci v):=
 qX {loops:=fun f q=>if f=42 then (if q=3 then some (KC (r:=[x]) h)else none)else none,calls:=tC [(42,5,1017,af c1),(42,7,1034,af (aV l1 [41] h0)),(42,10,1068,af c2)]} 1000
theorem Qn(h0:br L s1 [41]=false)(x:Pm)(c2:HC 43 [pC 299672,pC 299842] (rd L s1 ++jr nm p 0 []) [] (rd L s2 ++jr nm p 1 [jH x]))(r:List Pm)(h:RL 17 (lO 42 3) EP (rd L s2 ++jr nm p [x].length (pc [x])) (.exit 0) [(0,rP)] (rd L s3 ++jr nm p r.length (pc r)))(c3:HX 40 [rP, .d (.str [41])] (rd L s3) (dk q t) (rd L s4)):
    HX 42 [rP,qk] (rd L s ++jr nm p 0 []) (dk q t) (rd L s4 ++Ci r.length):=
 qX {loops:=fun f q=>if f=42 then (if q=3 then some (KC (r:=[x]) h)else none)else none,calls:=tC [(42,5,1017,af c1),(42,7,1034,af (aV l1 [41] h0)),(42,10,1068,af c2)],pans:=au Pg [(42,5,1068,⟨1,some (be c3),[]⟩)]} 1000
theorem Qo(h0:br L s1 [41]=false)(x:Pm)(c2:HC 43 [pC 299672,pC 299842] (rd L s1 ++jr nm p 0 []) [] (rd L s2 ++jr nm p 1 [jH x]))(r:List Pm)(h:RL 17 (lO 42 3) EP (rd L s2 ++jr nm p [x].length (pc [x])) (.exit 0) [(0,rP)] (rd L s3 ++jr nm p r.length (pc r)))(c3:HC 40 [rP, .d (.str [41])] (rd L s3) [tD t2] (rd L s4)):
    HC 42 [rP,qk] (rd L s ++jr nm p 0 []) [] (rd L s4 ++jr nm p r.length (pc r)):=
 qN {loops:=fun f q=>if f=42 then (if q=3 then some (KC (r:=[x]) h)else none)else none,calls:=tC [(42,5,1017,af c1),(42,7,1034,af (aV l1 [41] h0)),(42,10,1068,af c2),(42,16,1085,af c3)]} 1000
end
end
def Re(L:List T)(nm:List UInt8)(p:Int)(s:RS):Res (List Pm)→Prop
 | .ok r s'=>s'.i<L.length∧HC 42 [rP,qk] (rd L s ++jr nm p 0 []) [] (rd L s' ++jr nm p r.length (pc r))
 | .bad q t s'=>∃v,HX 42 [rP,qk] (rd L s ++jr nm p 0 []) (dk q t) (rd L s' ++Ci v)
 | .out=>True
theorem Hh{L:List T}(hL:dm L)(n:Nat)(nm:List UInt8)(p:Int)(s:RS)(l:s.i<L.length):Re L nm p s (dV L n s):=by
 unfold dV;have c1:=cv l hL [40];have g1:=aN L [40] s;revert c1 g1;cases aG L [40] s with
 |out=>exact fun _ _=>trivial
 |bad q t s1=>exact fun c1 _=>⟨0,Qi nm p c1⟩
 |ok t1 s1=>
  intro c1 g1;have g1:=g1 t1 s1 rfl;have l1:=c1.1;simp only[Res.bind];cases h41:br L s1 [41]with
  |true=>
   have c2:=cv l1 hL [41];simp only[cond_true];revert c2;cases aG L [41] s1 with
   |out=>exact fun _=>trivial
   |bad q t s2=>exact fun c2=>⟨0,Qk nm p l1 c1.2 h41 c2⟩
   |ok t2 s2=>exact fun c2=>⟨c2.1,Qj nm p l1 c1.2 h41 c2.2⟩
  |false=>
   have c2:=EO hL nm p [] (by decide) s1 l1;have g2:=A7 L s1;simp only[cond_false];revert c2 g2;cases gB L s1 with
   |out=>exact fun _ _=>trivial
   |bad q t s2=>exact fun c2 _=>⟨0,Ql nm p l1 c1.2 h41 c2⟩
   |ok x s2=>
    intro c2 g2;have g2:=g2 x s2 rfl;have c3:=IB hL nm p n [x] s2 c2.1 (by simp only[List.length_cons,List.length_nil];omega);simp only;revert c3;cases dG L n [x] s2 with
    |out=>exact fun _=>trivial
    |bad q t s3=>exact fun ⟨v,c3⟩=>⟨v,Qm nm p l1 c1.2 h41 x c2.2 v c3⟩
    |ok r s3=>
     rintro⟨l3,c3⟩;have c4:=cv l3 hL [41];simp only;revert c4;cases aG L [41] s3 with
     |out=>exact fun _=>trivial
     |bad q t s4=>exact fun c4=>⟨_,Qn nm p l1 c1.2 h41 x c2.2 r c3 c4⟩
     |ok t4 s4=>exact fun c4=>⟨c4.1,Qo nm p l1 c1.2 h41 x c2.2 r c3 c4.2⟩
end Go.Avm
namespace Go.Avm
open Go.Proofs
theorem RC.bindv{L:List T}{F:Nat}{args:List AV}{s0:RS}{α:Type}{g:α→List D}{nm:List UInt8}{p:Int}{s:RS}{r:Res (List Pm)}{k:List Pm→RS→Res α}(h:Re L nm p s r)
    (hb:∀q e s' v,(HX 42 [rP,qk] (rd L s ++jr nm p 0 []) (dk q e) (rd L s' ++Ci v))→HX F args (rd L s0) (dk q e) (rd L s'))
    (hk:∀a s',s'.i<L.length→(HC 42 [rP,qk] (rd L s ++jr nm p 0 []) [] (rd L s' ++jr nm p a.length (pc a)))→RC L F args g s0 (k a s')):RC L F args g s0 (r.bind k):=by
 cases r with
 |ok a s'=>exact hk a s' h.1 h.2
 |bad q e s'=>obtain⟨v,h⟩:=h;exact hb q e s' v h
 |out=>trivial
abbrev fR:Fn→List D:=fun f=>[de f]
section
variable{L:List T}(hL:dm L)
include hL
theorem Rf(n:Nat)(s:RS)(l:s.i<L.length):RC L 23 [rP] fR s (wB L n s):=by
 unfold wB;refine RC.bind (cv l hL [102,110]) ?_ ?_
 ·exact fun _ _ _ c=>qX {nils:=fun f r=>if f=23 then (if r=2 then some ⟨299842,1,400000,3,false,false⟩else none)else none,pans:=au Pg [(23,1,299719,⟨1,some (be c),[3,7]⟩)]} 299671
 ·intro t s1 l1 c1
  refine RC.bind (pS l1 hL 1 (by decide)) ?_ ?_
  ·exact fun _ _ _ c=>qX {nils:=fun f r=>if f=23 then (if r=2 then some ⟨299842,1,400000,3,false,false⟩else none)else none,calls:=tC [(23,5,299743,af c1)],pans:=au Pg [(23,1,299719,⟨4,some (be c),[7]⟩)]} 299671
  ·intro u s2 l2 c2
   refine RC.bindv (Hh hL n u.t t.p _ l2) ?_ ?_
   ·exact fun _ _ _ _ c=>qX {nils:=fun f r=>if f=23 then (if r=2 then some ⟨299842,1,400000,3,false,false⟩else none)else none,calls:=tC [(23,5,299743,af c1),(23,8,299791,af c2)],pans:=au Pg [(23,2,299887,⟨2,some (be c),[]⟩)]} 299671
   ·intro ps s3 l3 c3
    refine RC.may l3 hL [58] ?_ ?_ ?_
    ·exact fun _ _ _ c=>qX {nils:=fun f r=>if f=23 then (if r=2 then some ⟨299842,1,400000,3,false,false⟩else none)else none,calls:=tC [(23,5,299743,af c1),(23,8,299791,af c2),(23,13,299935,af c3)],pans:=au Pg [(23,3,299935,⟨1,some (be c),[]⟩)]} 299671
    ·intro s4 l4 c4
     refine RC.bindp (Nu hL _ l4) ?_ ?_
     ·exact fun _ _ _ c=>qX {nils:=fun f r=>if f=23 then (if r=2 then some ⟨299842,1,400000,3,false,false⟩else none)else none,calls:=tC [(23,5,299743,af c1),(23,8,299791,af c2),(23,13,299935,af c3),(23,15,299959,af c4)],pans:=au Pg [(23,4,299959,⟨2,some (be c),[]⟩)]} 299671
     ·intro k s5 l5 c5
      refine RC.bind ((yd hL n).block _ l5) ?_ ?_
      ·exact fun _ _ _ c=>qX {nils:=fun f r=>if f=23 then (if r=2 then some ⟨299842,1,400000,3,false,false⟩else none)else none,calls:=tC [(23,5,299743,af c1),(23,8,299791,af c2),(23,13,299935,af c3),(23,15,299959,af c4),(23,18,300007,af c5)],pans:=au Pg [(23,5,300055,⟨1,some (be c),[]⟩)]} 299671
      ·intro b s6 l6 c6
       exact⟨l6,qN {nils:=fun f r=>if f=23 then (if r=2 then some ⟨299842,1,400000,3,false,false⟩else none)else none,calls:=tC [(23,5,299743,af c1),(23,8,299791,af c2),(23,13,299935,af c3),(23,15,299959,af c4),(23,18,300007,af c5),(23,21,300079,af c6)]} 299671⟩
    ·intro h4
     refine RC.bind ((yd hL n).block _ l3) ?_ ?_
     ·exact fun _ _ _ c=>qX {nils:=fun f r=>if f=23 then (if r=2 then some ⟨299842,1,400000,3,false,false⟩else none)else none,calls:=tC [(23,5,299743,af c1),(23,8,299791,af c2),(23,13,299935,af c3),(23,15,299959,af (ah l3 [58] h4))],pans:=au Pg [(23,5,299959,⟨1,some (be c),[]⟩)]} 299671
     ·intro b s5 l5 c5
      exact⟨l5,qN {nils:=fun f r=>if f=23 then (if r=2 then some ⟨299842,1,400000,3,false,false⟩else none)else none,calls:=tC [(23,5,299743,af c1),(23,8,299791,af c2),(23,13,299935,af c3),(23,15,299959,af (ah l3 [58] h4)),(23,21,299983,af c5)]} 299671⟩
end
end Go.Avm
namespace Go.Avm
open Go.Proofs
abbrev wG(r:List Fn):List (Nat×aL):=[(499382,⟨1,some (.arr 1 [.vec 600000 r.length 5 (r.map de)])⟩),(600000,⟨r.length,none⟩),(499423,⟨1,some (.arr 1 [dI 0])⟩),(499464,⟨1,some (.arr 1 [dI 0])⟩)]
abbrev Lu:List (Nat×AV):=[(2,pC 499382),(3,pC 499423),(4,pC 499464)]
abbrev Cx:List (Nat×AV):=[(2,pC 499382),(3,pC 499423),(4,pC 499464),(6,rP)]
def Qp(L:List T)(s:RS)(r:List Fn):Res (List Fn)→Prop
 | .ok r2 s'=>RL 40 (lO 12 7) Cx (rd L s ++wG r) (.exit 0) Lu (rd L s' ++wG r2)
 | .bad q t s'=>∃r2:List Fn,RL 40 (lO 12 7) Cx (rd L s ++wG r) (.panic (dk q t)) Lu (rd L s' ++wG r2)
 | .out=>True
section
variable{L:List T}{s:RS}(l:s.i<L.length)(r:List Fn)
include l
theorem KF(h:((bA L s).k==0)=true):RE 40 (lO 12 7) Cx (rd L s ++wG r) (.exit 0) Lu (rd L s ++wG r):=
 qE {hint:=qT 12 [(31,hB Pg ((bA L s).k !=0) false (by simpa using h))],calls:=tC [(12,29,3040,af (bp l))]} 12 3000
theorem NB(h:((bA L s).k==0)=false){q t:Int}{s2:RS}(c:HX 23 [rP] (rd L s) (dk q t) (rd L s2)):RE 40 (lO 12 7) Cx (rd L s ++wG r) (.panic (dk q t)) Lu (rd L s2 ++wG r):=
 qE {hint:=qT 12 [(31,hB Pg ((bA L s).k !=0) true (by simpa using h))],calls:=tC [(12,29,3040,af (bp l))],pans:=au Pg [(12,8,3120,⟨3,some (be c),[]⟩)]} 12 3000
theorem NC(h:((bA L s).k==0)=false)(hr:r.length<1000000)(nm:List UInt8)(ps:List Pm)(k:Int)(bd:List bt)(p:Int){s2:RS}(c:HC 23 [rP] (rd L s) [de ⟨nm,ps,k,bd,p⟩] (rd L s2)):RE 40 (lO 12 7) Cx (rd L s ++wG r) .normal Cx (rd L s2 ++[(499382,⟨1,some (.arr 1 [.vec 600000 (r.length+1) 5 (r.map de ++[de ⟨nm,ps,k,bd,p⟩])])⟩),(600000,⟨r.length+1,none⟩),(499423,⟨1,some (.arr 1 [dI 0])⟩),(499464,⟨1,some (.arr 1 [dI 0])⟩)]):=
 qE {hint:=qT 12 [(31,hB Pg ((bA L s).k !=0) true (by simpa using h)),(37, .app (r.map de) 1 (by simp only[List.length_map];omega))],calls:=tC [(12,29,3040,af (bp l)),(12,35,3240,af c)]} 12 3000
end
theorem Qq{L:List T}{s:RS}(l:s.i<L.length)(r:List Fn)(h:((bA L s).k==0)=false)(hr:r.length<1000000)(x:Fn){s2:RS}(c:HC 23 [rP] (rd L s) [de x] (rd L s2)):RE 40 (lO 12 7) Cx (rd L s ++wG r) .normal Cx (rd L s2 ++wG (r ++[x])):=by
 obtain⟨nm,ps,k,bd,p⟩:=x;have e1:(r ++[Fn.mk nm ps k bd p]).length=r.length+1:=by simp
 have e2:(r ++[Fn.mk nm ps k bd p]).map de=r.map de ++[de ⟨nm,ps,k,bd,p⟩]:=by simp
 have:=NC l r h hr nm ps k bd p c;simp only[wG,e1,e2];exact this
theorem IC(L:List T)(n:Nat)(s:RS):Gr s (wB L n s):=by
 unfold wB
 have pp:∀(n:Nat)(r:List Pm)(s:RS),Gq s (dG L n r s):=fun n=>by
  induction n with
  |zero=>exact fun _ s=>Gq.out s
  |succ n ih=>
   intro r s;simp only[dG];intro a s' e;unfold b8 at e;cases h:br L s [44]<;>rw[h]at e
   ·cases e;exact Nat.le_refl _
   ·simp only[cond_true]at e
    cases hw:aG L [44] s<;>rw[hw]at e
    ·rename_i t s1
     exact Nat.le_trans (Nat.le_of_lt (aN L _ s t s1 hw)) (((A7 L s1).bind fun _ s2 _=>ih _ s2).le a s' e)
    ·cases e
    ·cases e
 refine(aN L _ s).bind fun t s1 _=>((il L _ s1).bind fun u s2 _=>Gq.bindq (?_:Gq s2 (dV L n s2)) fun ps s3 _=>(Dk L _ s3).bindq fun b s4 _=>Gq.ite ((nZ L _ s4).bind fun _ s5 _=>(((lT L n).1 s5).bind fun _ _ _=>Gq.ok _ _).le).le (((lT L n).1 s4).bind fun _ _ _=>Gq.ok _ _).le).le
 unfold dV;exact((aN L _ s2).bind fun _ s3 _=>Gq.ite ((aN L _ s3).bind fun _ _ _=>Gq.ok _ _).le ((A7 L s3).bind fun _ s4 _=>(pp n _ s4).bindq fun _ s5 _=>((aN L _ s5).bind fun _ _ _=>Gq.ok _ _).le).le).le
section
variable{L:List T}(hL:dm L)
include hL
theorem ID(N:Nat):∀(n:Nat)(r:List Fn)(s:RS),s.i<L.length→r.length≤s.i→Qp L s r (jJ L N n r s)
 |0,_,_,_,_=>trivial
 |n+1,r,s,l,hr=>by
  have hlen:r.length<1000000:=by have:=hL.len;omega
  simp only[jJ];cases h:((bA L s).k==0)with
  |true=>exact fun rest X hP hN=>aY (KF l r h rest X hP hN) (by simp)
  |false=>
   have c:=Rf hL N s l;have g:=IC L N s;simp only[cond_false];revert c g;cases wB L N s with
   |out=>exact fun _ _=>trivial
   |bad q t s2=>exact fun c _=>⟨r,fun rest X hP hN=>aY (NB l r h c rest X hP hN) (by simp)⟩
   |ok x s2=>
    intro c g;have g:=g x s2 rfl;have c2:=ID N n (r ++[x]) s2 c.1 (by simp only[List.length_append,List.length_cons,List.length_nil];omega);have hgo:=Qq l r h hlen x c.2;simp only[Res.bind];revert c2;cases jJ L N n (r ++[x]) s2 with
    |out=>exact fun _=>trivial
    |bad q t s3=>exact fun ⟨v,c2⟩=>⟨v,fun rest X hP hN=>aX (hgo rest X hP hN) (c2 rest X hP hN)⟩
    |ok a s3=>exact fun c2 rest X hP hN=>aX (hgo rest X hP hN) (c2 rest X hP hN)
end
noncomputable def ND{L:List T}{s:RS}{r:List Fn}{hp':List (Nat×aL)}{x:aD}{l':List (Nat×AV)}(h:RL 40 (lO 12 7) Cx (rd L s ++wG r) x l' hp'):dJ Pg:=
 ⟨40,b6 Pg 12 7,Cx,fun _=>rd L s ++wG r,x,l',fun _=>hp',fun rest X hP hN=>(h rest X hP hN).aw⟩
section
variable{x:List UInt8}{L:List T}
theorem EQ{a e:Int}(he:(e !=0)=true)(hs:ax Pg 21 [.str x] [.ro [], .int .i64 a, .int .i64 e]):ax Pg 12 [.str x] [.agg [.ro []], .int .i64 a, .int .i64 e]:=
 qV {hint:=qT 12 [(9, .call 21 _ _ hs),(14,qB he)]} 499380
theorem KG{q t:Int}{s2:RS}(hs:ax Pg 21 [.str x] [so L, .int .i64 0, .int .i64 0])(c:HX 23 [rP] (rd L ⟨0,0,0⟩) (dk q t) (rd L s2)):ax Pg 12 [.str x] [.agg [.ro []], .int .i64 q, .int .i64 t]:=
 qV {hint:=qT 12 [(9, .call 21 _ _ hs)],pans:=au Pg [(12,6,500060,⟨3,some (be c),[]⟩)]} 499380
theorem KH{nm:List UInt8}{ps:List Pm}{k:Int}{bd:List bt}{p:Int}{q t:Int}{s1 s2:RS}{r2:List Fn}(hs:ax Pg 21 [.str x] [so L, .int .i64 0, .int .i64 0])(c:HC 23 [rP] (rd L ⟨0,0,0⟩) [de ⟨nm,ps,k,bd,p⟩] (rd L s1))
    (h:RL 40 (lO 12 7) Cx (rd L s1 ++wG [⟨nm,ps,k,bd,p⟩]) (.panic (dk q t)) Lu (rd L s2 ++wG r2)):ax Pg 12 [.str x] [.agg [.ro []], .int .i64 q, .int .i64 t]:=
 qV {nils:=fun f r=>if f=12 then (if r=6 then some ⟨499382,0,600000,5,false,false⟩else none)else none,loops:=fun f q=>if f=12 then (if q=7 then some (ND h)else none)else none,hint:=qT 12 [(9, .call 21 _ _ hs)],calls:=tC [(12,24,500180,af c)]} 499380
theorem KI{nm:List UInt8}{ps:List Pm}{k:Int}{bd:List bt}{p:Int}{s1 s2:RS}{r2:List Fn}(hs:ax Pg 21 [.str x] [so L, .int .i64 0, .int .i64 0])(c:HC 23 [rP] (rd L ⟨0,0,0⟩) [de ⟨nm,ps,k,bd,p⟩] (rd L s1))
    (h:RL 40 (lO 12 7) Cx (rd L s1 ++wG [⟨nm,ps,k,bd,p⟩]) (.exit 0) Lu (rd L s2 ++wG r2)):ax Pg 12 [.str x] [.agg [.ro (r2.map de)], .int .i64 0, .int .i64 0]:=
 qV {nils:=fun f r=>if f=12 then (if r=6 then some ⟨499382,0,600000,5,false,false⟩else none)else none,loops:=fun f q=>if f=12 then (if q=7 then some (ND h)else none)else none,hint:=qT 12 [(9, .call 21 _ _ hs)],calls:=tC [(12,24,500180,af c)]} 499380
end
def ER:Res (List Fn)→List D
 | .ok l _=>[.agg [.ro (l.map de)], .int .i64 0, .int .i64 0]
 | .bad p e _=>[.agg [.ro []], .int .i64 p, .int .i64 e]
 | .out=>[]
theorem KJ{x:List UInt8}{L:List T}(hL:dm L)(h0:0<L.length)(hs:ax Pg 21 [.str x] [so L, .int .i64 0, .int .i64 0])(n:Nat)(hn:fX L n≠ .out):ax Pg 12 [.str x] (ER (fX L n)):=by
 unfold fX at hn ⊢;have c:=Rf hL n ⟨0,0,0⟩ h0;have g:=IC L n ⟨0,0,0⟩;revert c g hn;cases wB L n ⟨0,0,0⟩with
 |out=>exact fun hn _ _=>absurd rfl hn
 |bad q t s1=>exact fun _ c _=>KG hs c
 |ok f s1=>
  intro hn c g;have g:=g f s1 rfl;have c2:=ID hL n n [f] s1 c.1 (by simp only[List.length_cons,List.length_nil];omega);obtain⟨nm,ps,k,bd,p⟩:=f;simp only[Res.bind]at hn ⊢;revert c2 hn;cases jJ L n n [⟨nm,ps,k,bd,p⟩] s1 with
  |out=>exact fun hn _=>absurd rfl hn
  |bad q t s2=>exact fun _ ⟨r2,c2⟩=>KH hs c.2 c2
  |ok r2 s2=>exact fun _ c2=>KI hs c.2 c2
end Go.Avm
namespace Go.Avm
open Go.Proofs
def G1{α:Type}(L:List T)(s:RS)(r:Res α):Prop:=r≠ .out∧∀a s',r= .ok a s'→s.i<s'.i∧s'.i<L.length
def G0{α:Type}(L:List T)(s:RS)(r:Res α):Prop:=r≠ .out∧∀a s',r= .ok a s'→s.i≤s'.i∧s'.i<L.length
section
variable{L:List T}{α β:Type}{s:RS}
theorem G1.le{r:Res α}(h:G1 L s r):G0 L s r:=⟨h.1,fun a s' e=>⟨Nat.le_of_lt (h.2 a s' e).1,(h.2 a s' e).2⟩⟩
theorem G0.ok(a:α)(l:s.i<L.length):G0 L s (.ok a s):=⟨fun e=>(by cases e),fun _ _ e=>by cases e;exact⟨Nat.le_refl _,l⟩⟩
theorem G1.bind{r:Res α}{f:α→RS→Res β}(h:G1 L s r)(hf:∀a s',s.i<s'.i→s'.i<L.length→G0 L s' (f a s')):G1 L s (r.bind f):=by
 cases r with
 |ok a s'=>
  obtain⟨h1,h2⟩:=h.2 a s' rfl;obtain⟨h3,h4⟩:=hf a s' h1 h2;exact⟨h3,fun b s2 e=>⟨Nat.lt_of_lt_of_le h1 (h4 b s2 e).1,(h4 b s2 e).2⟩⟩
 |bad p q s'=>exact⟨fun e=>(by cases e),fun _ _ e=>by cases e⟩
 |out=>exact absurd rfl h.1
theorem G0.bind{r:Res α}{f:α→RS→Res β}(h:G0 L s r)(hf:∀a s',s.i≤s'.i→s'.i<L.length→G0 L s' (f a s')):G0 L s (r.bind f):=by
 cases r with
 |ok a s'=>
  obtain⟨h1,h2⟩:=h.2 a s' rfl;obtain⟨h3,h4⟩:=hf a s' h1 h2;exact⟨h3,fun b s2 e=>⟨Nat.le_trans h1 (h4 b s2 e).1,(h4 b s2 e).2⟩⟩
 |bad p q s'=>exact⟨fun e=>(by cases e),fun _ _ e=>by cases e⟩
 |out=>exact absurd rfl h.1
theorem G1.ite{c:Bool}{X Y:Res α}(hX:G1 L s X)(hY:G1 L s Y):G1 L s (bif c then X else Y):=by cases c<;>assumption
theorem G0.ite{c:Bool}{X Y:Res α}(hX:G0 L s X)(hY:G0 L s Y):G0 L s (bif c then X else Y):=by cases c<;>assumption
theorem G1.fail(l:s.i<L.length):G1 L s (fail L s:Res α):=⟨fun e=>(by cases e),fun _ _ e=>by cases e⟩
end
section
variable{L:List T}(hL:dm L)
include hL
theorem jp(x:List UInt8)(s:RS)(l:s.i<L.length):G1 L s (aG L x s):=by
 have h:=cv l hL x;have g:=aN L x s;revert h g;cases hw:aG L x s with
 |ok a s'=>exact fun h g=>⟨fun e=>(by cases e),fun b s2 e=>by cases e;exact⟨g _ _ rfl,h.1⟩⟩
 |bad p q s'=>exact fun _ _=>⟨fun e=>(by cases e),fun _ _ e=>by cases e⟩
 |out=>
  unfold aG at hw;cases h1:br L s x<;>rw[h1]at hw
  ·cases hw
  ·simp only[cond_true]at hw
   cases h2:(x==[40]||x==[91]||x==[123])<;>rw[h2]at hw
   ·simp only[cond_false]at hw
    cases h3:(x==[41]||x==[93]||x==[125])<;>rw[h3]at hw<;>cases hw
   ·simp only[cond_true]at hw
    cases h3:decide (200<fJ (s.op+1))<;>rw[h3]at hw<;>cases hw
theorem kh(k:Int)(hk:k≠0)(s:RS)(l:s.i<L.length):G1 L s (dT L k s):=by
 have h:=pS l hL k hk;have g:=il L k s;revert h g;cases hw:dT L k s with
 |ok a s'=>exact fun h g=>⟨fun e=>(by cases e),fun b s2 e=>by cases e;exact⟨g _ _ rfl,h.1⟩⟩
 |bad p q s'=>exact fun _ _=>⟨fun e=>(by cases e),fun _ _ e=>by cases e⟩
 |out=>
  unfold dT at hw;cases h1:((bA L s).k==k)<;>rw[h1]at hw<;>cases hw
section
variable{α:Type}{x:List UInt8}{s:RS}(l:s.i<L.length){X Y:RS→Res α}(hX:∀s',s.i<s'.i→s'.i<L.length→G0 L s' (X s'))
include α x s l X Y hX
theorem G1.mayT(hY:G1 L s (Y s)):G1 L s ((b8 L x s).bind fun b s1=>bif b then X s1 else Y s1):=by
 unfold b8;cases h:br L s x with
 |false=>exact hY
 |true=>
  simp only[cond_true];have:=(jp hL x s l).bind (f:=fun _ s1=>X s1) fun _ s' h1 h2=>hX s' h1 h2
  revert this;cases aG L x s<;>exact fun h=>h
theorem G0.mayT(hY:G0 L s (Y s)):G0 L s ((b8 L x s).bind fun b s1=>bif b then X s1 else Y s1):=by
 unfold b8;cases h:br L s x with
 |false=>exact hY
 |true=>
  simp only[cond_true];have:=((jp hL x s l).bind (f:=fun _ s1=>X s1) fun _ s' h1 h2=>hX s' h1 h2).le;revert this;cases aG L x s<;>exact fun h=>h
end
theorem wh:∀(k:List Int)(s:RS),s.i<L.length→G1 L s (eB L k s)
 |[],s,l=>G1.fail l
 |k::r,s,l=>by
  simp only[eB];exact G1.mayT hL l (fun s' h1 h2=>G0.ok _ h2) (wh r s l)
structure GA(L:List T)(n:Nat):Prop where
 one:∀s:RS,s.i<L.length→4*(L.length-s.i)+1≤n→G1 L s (gA L n s)
 place:∀s:RS,s.i<L.length→4*(L.length-s.i)+1≤n→G1 L s (dQ L n s)
 call:∀nm p (s:RS),s.i<L.length→4*(L.length-s.i)+2≤n→G1 L s (gh L n nm p s)
 args:∀s:RS,s.i<L.length→4*(L.length-s.i)+1≤n→G1 L s (gN L n s)
 more:∀l (s:RS),s.i<L.length→4*(L.length-s.i)+1≤n→G0 L s (fE L n l s)
 expr:∀k (s:RS),s.i<L.length→4*(L.length-s.i)+2≤n→G1 L s (bw L n k s)
 tail:∀k e (s:RS),s.i<L.length→4*(L.length-s.i)+1≤n→G0 L s (d9 L n k e s)
theorem Hi:∀n,GA L n
 |0=>⟨fun _ _ h=>by omega,fun _ _ h=>by omega,fun _ _ _ _ h=>by omega,fun _ _ h=>by omega,fun _ _ _ h=>by omega,fun _ _ _ h=>by omega,fun _ _ _ _ h=>by omega⟩
 |n+1=>by
  have ih:=Hi n;have W:=fun x s l=>jp hL x s l
  refine⟨fun s l h=> ?_,fun s l h=> ?_,fun nm p s l h=> ?_,fun s l h=> ?_,fun r s l h=> ?_,fun k s l h=> ?_,fun k e s l h=> ?_⟩
  ·simp only[gA]
   have un:∀(f:Ex→Ex) s',s.i<s'.i→s'.i<L.length→G0 L s' ((gA L n s').bind fun e s2=> .ok (f e) s2):=fun f s' h1 h2=>((ih.one s' h2 (by omega)).bind fun _ _ _ h4=>G0.ok _ h4).le
   refine G1.mayT hL l (fun s'=>un _ s') (G1.mayT hL l (fun s'=>un _ s') (G1.mayT hL l (fun s'=>un _ s') ?_));cases hk:((bA L s).k==3)with
   |true=>exact⟨fun e=>(by cases e),fun _ _ e=>by cases e;exact⟨Nat.lt_succ_self _,AJ hL l (by rw[eq_of_beq hk];decide)⟩⟩
   |false=>
    simp only[cond_false];refine G1.mayT hL l (fun s' _ h2=>G0.ok _ h2) (G1.mayT hL l (fun s' _ h2=>G0.ok _ h2) ?_);refine G1.mayT hL l (fun s' _ h2=>((W _ s' h2).bind fun _ s2 _ h4=>((W _ s2 h4).bind fun _ _ _ h6=>G0.ok _ h6).le).le) ?_;refine G1.mayT hL l (fun s' _ h2=>((W _ s' h2).bind fun _ s2 _ h4=>((kh hL 1 (by decide) s2 h4).bind fun _ s3 _ h6=>((W _ s3 h6).bind fun _ _ _ h8=>G0.ok _ h8).le).le).le) ?_;refine G1.ite ((W _ s l).bind fun _ s2 h3 h4=>((ih.expr _ s2 h4 (by omega)).bind fun _ s3 _ h6=>((W _ s3 h6).bind fun _ _ _ h8=>G0.ok _ h8).le).le) ?_;exact(kh hL 1 (by decide) s l).bind fun _ s2 h3 h4=>G0.ite ((ih.place s2 h4 (by omega)).bind fun _ _ _ h6=>G0.ok _ h6).le (G0.ite ((ih.call _ _ s2 h4 (by omega)).bind fun _ _ _ h6=>G0.ok _ h6).le (G0.ok _ h4))
  ·simp only[dQ]
   exact(W _ s l).bind fun _ s2 h3 h4=>((ih.expr _ s2 h4 (by omega)).bind fun _ s3 _ h6=>((W _ s3 h6).bind fun _ _ _ h8=>G0.ok _ h8).le).le
  ·simp only[gh]
   exact(ih.args s l (by omega)).bind fun _ _ _ h4=>G0.ok _ h4
  ·simp only[gN]
   exact(W _ s l).bind fun _ s2 h3 h4=>G0.ite ((W _ s2 h4).bind fun _ _ _ h6=>G0.ok _ h6).le (((ih.expr _ s2 h4 (by omega)).bind fun _ s3 h5 h6=>(ih.more _ s3 h6 (by omega)).bind fun _ s4 _ h8=>((W _ s4 h8).bind fun _ _ _ h9=>G0.ok _ h9).le).le)
  ·simp only[fE]
   exact G0.mayT hL l (fun s' h1 h2=>((ih.expr _ s' h2 (by omega)).bind fun _ s3 h5 h6=>ih.more _ s3 h6 (by omega)).le) (G0.ok _ l)
  ·simp only[bw]
   exact(ih.one s l (by omega)).bind fun _ s2 h3 h4=>ih.tail _ _ s2 h4 (by omega)
  ·simp only[d9]
   cases hz:((di L k s).1==0)with
   |true=>exact G0.ok _ l
   |false=>
    simp only[cond_false];have ln:s.nx.i<L.length:=pb l k hL xI (by simpa [di]using hz);have hx:s.nx.i=s.i+1:=rfl;have h2:=((ih.expr (fJ ((di L k s).2+1)) s.nx ln (by omega)).bind (f:=fun r s2=>d9 L n k (.mk 9 (di L k s).1 [] 0 (bA L s).p [e,r]) s2) fun _ s3 h5 h6=>ih.tail _ _ s3 h6 (by omega))
    exact⟨h2.1,fun a s' e=>⟨by have:=(h2.2 a s' e).1;omega,(h2.2 a s' e).2⟩⟩
theorem NE(n:Nat)(id p:Int)(s:RS)(l:s.i<L.length)(h:4*(L.length-s.i)+1≤n):G1 L s (jI L n id p s):=by
 have W:=fun x s l=>jp hL x s l
 unfold jI;refine(kh hL 1 (by decide) s l).bind fun _ s2 h3 h4=>((W _ s2 h4).bind fun _ s3 h5 h6=>((wh hL _ s3 h6).bind fun _ s4 h7 h8=>G0.ite ?_ ?_).le).le
 ·exact((W _ s4 h8).bind fun _ s5 _ h9=>((kh hL 3 (by decide) s5 h9).bind fun _ s6 _ h10=>((W _ s6 h10).bind fun _ s7 _ h11=>((W _ s7 h11).bind fun _ _ _ h12=>G0.ok _ h12).le).le).le).le
 ·exact(G1.mayT hL h8 (fun s' h9 h10=>(((Hi hL n).expr 1 s' h10 (by omega)).bind fun _ s6 _ h11=>((W _ s6 h11).bind fun _ _ _ h12=>G0.ok _ h12).le).le) ((W _ s4 h8).bind fun _ _ _ h12=>G0.ok _ h12)).le
theorem Hj(n:Nat)(id p:Int)(s:RS)(l:s.i<L.length)(h:4*(L.length-s.i)+1≤n):G1 L s (dF L n id p s):=by
 have W:=fun x s l=>jp hL x s l
 have A:=Hi hL n;unfold dF;refine(kh hL 1 (by decide) s l).bind fun _ s2 h3 h4=>G0.ite ((A.call _ _ s2 h4 (by omega)).bind fun _ s3 _ h6=>((W _ s3 h6).bind fun _ _ _ h8=>G0.ok _ h8).le).le (G0.ite ?_ ?_)
 ·exact((A.place s2 h4 (by omega)).bind fun _ s3 h5 h6=>((W _ s3 h6).bind fun _ s4 h7 h8=>((A.expr 1 s4 h8 (by omega)).bind fun _ s5 _ h10=>((W _ s5 h10).bind fun _ _ _ h12=>G0.ok _ h12).le).le).le).le
 ·exact((W _ s2 h4).bind fun _ s3 h5 h6=>((A.expr 1 s3 h6 (by omega)).bind fun _ s4 _ h8=>((W _ s4 h8).bind fun _ _ _ h12=>G0.ok _ h12).le).le).le
theorem ES:∀n,(∀s:RS,s.i<L.length→4*(L.length-s.i)+1≤n→G1 L s (b9 L n s))∧(∀r (s:RS),s.i<L.length→4*(L.length-s.i)+3≤n→G0 L s (bT L n r s))∧(∀s:RS,s.i<L.length→4*(L.length-s.i)+2≤n→G1 L s (dU L n s))
 |0=>⟨fun _ _ h=>by omega,fun _ _ _ h=>by omega,fun _ _ h=>by omega⟩
 |n+1=>by
  obtain⟨h1,h2,h3⟩:=ES n;have W:=fun x s l=>jp hL x s l
  have A:=Hi hL n;refine⟨fun s l h=> ?_,fun r s l h=> ?_,fun s l h=> ?_⟩
  ·simp only[b9]
   exact(W _ s l).bind fun _ s1 g1 g2=>(h2 _ s1 g2 (by omega)).bind fun _ s2 _ g4=>((W _ s2 g4).bind fun _ _ _ g6=>G0.ok _ g6).le
  ·simp only[bT]
   exact G0.ite (G0.ok _ l) ((h3 s l (by omega)).bind fun _ s1 g1 g2=>h2 _ s1 g2 (by omega)).le
  ·simp only[dU]
   have l':s.st.i<L.length:=l;have hi:s.st.i=s.i:=rfl;have key:=G1.mayT hL l' (x:=[108,101,116]) (X:=fun s1=>(jI L n s.st.n (bA L s.st).p s1).bind fun x s2=> .ok x s2) (Y:=fun s1=>(b8 L [105,102] s1).bind fun b s1=>bif b then
   (bw L n 1 s1).bind fun e s2=>(b9 L n s2).bind fun l s3=>(b8 L [101,108,115,101] s3).bind fun b s4=>
    bif b then (b9 L n s4).bind fun m s5=> .ok (.mk 4 s.st.n [] 0 0 (bA L s.st).p [e] l m) s5 else .ok (.mk 4 s.st.n [] 0 0 (bA L s.st).p [e] l []) s4
  else (b8 L [119,104,105,108,101] s1).bind fun b s1=>bif b then
   (bw L n 1 s1).bind fun e s2=>(b9 L n s2).bind fun l s3=> .ok (.mk 5 s.st.n [] 0 0 (bA L s.st).p [e] l []) s3
  else (b8 L [114,101,116,117,114,110] s1).bind fun b s1=>bif b then
   bif br L s1 [59]then (aG L [59] s1).bind fun _ s2=> .ok (.mk 6 s.st.n [] 0 0 (bA L s.st).p [] [] []) s2
   else (bw L n 1 s1).bind fun e s2=>(aG L [59] s2).bind fun _ s3=> .ok (.mk 6 s.st.n [] 0 0 (bA L s.st).p [e] [] []) s3
  else (b8 L [112,114,105,110,116] s1).bind fun b s1=>bif b then
   (bw L n 1 s1).bind fun e s2=>(aG L [59] s2).bind fun _ s3=> .ok (.mk 7 s.st.n [] 0 0 (bA L s.st).p [e] [] []) s3
  else (dF L n s.st.n (bA L s.st).p s1).bind fun x s2=> .ok x s2)
      (fun s' g1 g2=>((NE hL n _ _ s' g2 (by omega)).bind fun _ _ _ g4=>G0.ok _ g4).le) ?_
   ·exact⟨key.1,fun a s' e=>key.2 a s' e⟩
   refine G1.mayT hL l' (fun s' g1 g2=> ?_) (G1.mayT hL l' (fun s' g1 g2=> ?_) (G1.mayT hL l' (fun s' g1 g2=> ?_) (G1.mayT hL l' (fun s' g1 g2=> ?_) ?_)))
   ·exact((A.expr 1 s' g2 (by omega)).bind fun _ s2 g3 g4=>((h1 s2 g4 (by omega)).bind fun _ s3 g5 g6=>G0.mayT hL g6 (fun s4 g7 g8=>((h1 s4 g8 (by omega)).bind fun _ _ _ g10=>G0.ok _ g10).le) (G0.ok _ g6)).le).le
   ·exact((A.expr 1 s' g2 (by omega)).bind fun _ s2 g3 g4=>((h1 s2 g4 (by omega)).bind fun _ _ _ g6=>G0.ok _ g6).le).le
   ·exact G0.ite ((W _ s' g2).bind fun _ _ _ g4=>G0.ok _ g4).le ((A.expr 1 s' g2 (by omega)).bind fun _ s2 _ g4=>((W _ s2 g4).bind fun _ _ _ g6=>G0.ok _ g6).le).le
   ·exact((A.expr 1 s' g2 (by omega)).bind fun _ s2 _ g4=>((W _ s2 g4).bind fun _ _ _ g6=>G0.ok _ g6).le).le
   ·exact(Hj hL n _ _ s.st l' (by omega)).bind fun _ _ _ g4=>G0.ok _ g4
theorem A8(s:RS)(l:s.i<L.length):G1 L s (gB L s):=(kh hL 1 (by decide) s l).bind fun _ s1 _ h2=>((jp hL _ s1 h2).bind fun _ s2 _ h4=>((wh hL _ s2 h4).bind fun _ _ _ h6=>G0.ok _ h6).le).le
theorem A9:∀(n:Nat)(r:List Pm)(s:RS),s.i<L.length→L.length-s.i+1≤n→G0 L s (dG L n r s)
 |0,_,_,_,h=>by omega
 |n+1,r,s,l,h=>by
  simp only[dG];exact G0.mayT hL l (fun s' h1 h2=>((A8 hL s' h2).bind fun _ s2 h3 h4=>A9 n _ s2 h4 (by omega)).le) (G0.ok _ l)
theorem KK(n:Nat)(s:RS)(l:s.i<L.length)(h:4*(L.length-s.i)+1≤n):G1 L s (wB L n s):=by
 have W:=fun x s l=>jp hL x s l
 have B:=(ES hL n).1;unfold wB;refine(W _ s l).bind fun t s1 h1 h2=>((kh hL 1 (by decide) s1 h2).bind fun u s2 h3 h4=>(G1.bind (?_:G1 L s2 (dV L n s2)) fun ps s3 h5 h6=>G0.mayT hL h6 (fun s4 h7 h8=>((wh hL _ s4 h8).bind fun _ s5 h9 h10=>((B s5 h10 (by omega)).bind fun _ _ _ h12=>G0.ok _ h12).le).le) ((B s3 h6 (by omega)).bind fun _ _ _ h12=>G0.ok _ h12).le).le).le
 unfold dV;exact(W _ s2 h4).bind fun _ s3 h5 h6=>G0.ite ((W _ s3 h6).bind fun _ _ _ h8=>G0.ok _ h8).le ((A8 hL s3 h6).bind fun _ s4 h7 h8=>(A9 hL n _ s4 h8 (by omega)).bind fun _ s5 _ h10=>((W _ s5 h10).bind fun _ _ _ h12=>G0.ok _ h12).le).le
theorem ET(N:Nat)(hN:4*L.length+1≤N):∀(n:Nat)(r:List Fn)(s:RS),s.i<L.length→L.length-s.i+1≤n→G0 L s (jJ L N n r s)
 |0,_,_,_,h=>by omega
 |n+1,r,s,l,h=>by
  simp only[jJ];exact G0.ite (G0.ok _ l) ((KK hL N s l (by omega)).bind fun _ s2 h3 h4=>ET N hN n _ s2 h4 (by omega)).le
abbrev fuel(L:List T):Nat:=4*L.length+1
theorem Ba(h0:0<L.length):fX L (fuel L)≠ .out:=
 ((KK hL (fuel L) ⟨0,0,0⟩ h0 (by simp only[fuel];omega)).bind fun f s1 h1 h2=>ET hL (fuel L) (Nat.le_refl _) (fuel L) [f] s1 h2 (by simp only[fuel];omega)).1
end
end Go.Avm
namespace Go.Avm
open Go.Proofs
def wl:List (List UInt8):=[[102,110],[108,101,116],[105,102],[101,108,115,101],[119,104,105,108,101],[114,101,116,117,114,110],[112,114,105,110,116],[116,114,117,101],[102,97,108,115,101],[114,101,97,100],[108,101,110],[105,110,116],[98,111,111,108],[97,114,114]]
def pd:List (D×D×Nat):=[(.str [102,110], .agg [],0),(.str [108,101,116], .agg [],1),(.str [105,102], .agg [],2),(.str [101,108,115,101], .agg [],3),(.str [119,104,105,108,101], .agg [],4),(.str [114,101,116,117,114,110], .agg [],5),(.str [112,114,105,110,116], .agg [],6),(.str [116,114,117,101], .agg [],7),(.str [102,97,108,115,101], .agg [],8),(.str [114,101,97,100], .agg [],9),(.str [108,101,110], .agg [],10),(.str [105,110,116], .agg [],11),(.str [98,111,111,108], .agg [],12),(.str [97,114,114], .agg [],13)]
theorem pU(s:List UInt8):∀(l:List (List UInt8))(es:List (D×D×Nat))(n:Nat),es.map (fun e=>(e.1,e.2.1))=l.map (fun x=>(D.str x,D.agg []))→
    (∃i:Nat,l[i]? =some s∧(∀(j:Nat)(x:List UInt8),j<i→l[j]? =some x→(s==x)=false)∧b7 (.str s) es n=some (some (n+i, .agg [])))∨((∀(i:Nat)(x:List UInt8),l[i]? =some x→(s==x)=false)∧b7 (.str s) es n=some none)
 |[],es,n,h=>by
  have:es=[]:=by simpa using h
  subst this;exact .inr ⟨fun i x hx=>by simp at hx,rfl⟩
 |y::l,[],n,h=>by simp at h
 |y::l,e::es,n,h=>by
  simp only[List.map_cons,List.cons.injEq,Prod.mk.injEq]at h;obtain⟨⟨h1,h2⟩,h3⟩:=h;have hs:jv (.str s) e.1=some (s==y):=by rw[h1];rfl
  by_cases hy:(s==y)=true
  ·left
   refine⟨0,by simp[eq_of_beq hy],fun j x hj=>by omega, ?_⟩;simp only[b7,hs,hy,h2,Nat.add_zero]
  ·have hy':(s==y)=false:=by simpa using hy
   rcases pU s l es (n+1) h3 with ⟨i,g1,g2,g3⟩|⟨g1,g2⟩
   ·left
    refine⟨i+1,by simpa using g1,fun j x hj hx=> ?_, ?_⟩
    ·cases j with
     |zero=>simp at hx;subst hx;exact hy'
     |succ j=>exact g2 j x (by omega) (by simpa using hx)
    ·simp only[b7,hs,hy',g3]
     congr 3;omega
   ·right
    refine⟨fun i x hx=> ?_,by simp only[b7,hs,hy',g2]⟩;cases i with
    |zero=>simp at hx;subst hx;exact hy'
    |succ i=>exact g1 i x (by simpa using hx)
end Go.Avm
namespace Go.Avm
open Go.Proofs
def RY(P:Program)(s x:List UInt8)(t:Bool)(h:(s==x)=t):bX P:= .val (dB (s==x)) (dB t) (by rw[h])
end Go.Avm
namespace Go.Avm
open Go.Proofs
abbrev bD(b:UInt8):D:= .int .u8 (b.toNat:Int)
def Cy(k:Int)(b:UInt8):Bool:=decide (k≤(b.toNat:Int))
def Cz(b:UInt8)(k:Int):Bool:=decide ((b.toNat:Int)≤k)
def bM(b:UInt8):Bool:=Cy 48 b&&Cz b 57
def ma(b:UInt8):Bool:=Cy 97 b&&Cz b 122
def ki(b:UInt8):Bool:=ma b||bM b
def eE(b:UInt8):Bool:=((b.toNat:Int) !=10)
noncomputable def Bb(f:Nat)(lo hi:Int)(b:UInt8)(t u:Bool)(h1:Cy lo b=t)(h2:Cz b hi=u):Par Pg:=
 {hint:=fun f' k=>if f'=f then (if k=4 then some (hB Pg _ t h1)else if k=7 then some (hB Pg _ u h2)else none)else none}
theorem EU(b:UInt8):ax Pg 64 [bD b] [.bool (bM b)]:=by
 have k:∀t u,Cy 48 b=t→Cz b 57=u→ax Pg 64 [bD b] [.bool (t&&u)]:=fun t u h1 h2=>by
  cases t with
  |false=>exact bn aB named (Bb 64 48 57 b false u h1 h2) 100 (by kernel_rfl)
  |true=>exact bn aB named (Bb 64 48 57 b true u h1 h2) 100 (by kernel_rfl)
 exact k _ _ rfl rfl
theorem Ok(b:UInt8):ax Pg 66 [bD b] [.bool (ma b)]:=by
 have k:∀t u,Cy 97 b=t→Cz b 122=u→ax Pg 66 [bD b] [.bool (t&&u)]:=fun t u h1 h2=>by
  cases t with
  |false=>exact bn aB named (Bb 66 97 122 b false u h1 h2) 100 (by kernel_rfl)
  |true=>exact bn aB named (Bb 66 97 122 b true u h1 h2) 100 (by kernel_rfl)
 exact k _ _ rfl rfl
noncomputable def NF(b:UInt8)(t u:Bool)(h1:ax Pg 66 [bD b] [.bool t])(h2:ax Pg 64 [bD b] [.bool u]):Par Pg:=
 {hint:=fun f' k=>if f'=67 then (if k=4 then some (.call 66 [bD b] [.bool t] h1)else if k=7 then some (.call 64 [bD b] [.bool u] h2)else none)else none}
theorem R0(b:UInt8):ax Pg 67 [bD b] [.bool (ki b)]:=by
 have k:∀t u,ax Pg 66 [bD b] [.bool t]→ax Pg 64 [bD b] [.bool u]→ax Pg 67 [bD b] [.bool (t||u)]:=fun t u h1 h2=>by
  cases t with
  |false=>exact bn aB named (NF b false u h1 h2) 100 (by kernel_rfl)
  |true=>exact bn aB named (NF b true u h1 h2) 100 (by kernel_rfl)
 exact k _ _ (Ok b) (EU b)
theorem R1(b:UInt8):ax Pg 63 [bD b] [.bool (eE b)]:=bn aB named {} 100 (by kernel_rfl)
abbrev fN:AV:= .ptr 324 1 0 0 1
abbrev Qr(c0 c1 c2 c3:AV)(s:List UInt8)(a v:Nat)(l:List D):Nat×aL:=(324,⟨1,some (.arr 1 [c0,c1,c2,c3, .d (.str s),dN a, .vec 1 v 4 l])⟩)
def sub(s:List UInt8)(a e:Nat):List UInt8:=(s.take e).drop a
section
variable(c0 c1 c2 c3:AV)(s:List UInt8)(a v:Nat)(l:List D)(f:Nat)
def zW(i:Nat):List (Nat×AV):=[(0,fN),(1, .fn f []),(5,dN i)]
def bF:List (Nat×aL):=[Qr c0 c1 c2 c3 s a v l]
section
variable(hf:f=63∨f=64∨f=67){i:Nat}{b:UInt8}(hi:i<s.length)(hb:s[((i:Nat):Int).toNat]? =some b)
include hf i b hi hb
theorem Hk(hlen:s.length≤100000)(hp:ax Pg f [bD b] [.bool true])(rest:ab)(X:cf)(hP:X.P=Pg)(hN:X.N=39):
    AW X (lO 62 2) ⟨an (zW f i),al (bF c0 c1 c2 c3 s a v l) rest⟩ fun e' S'=>e'= .normal∧Weak X S' ⟨an (zW f (i+1)),al (bF c0 c1 c2 c3 s a v l) rest⟩:=by
 rcases hf with rfl|rfl|rfl<;>exact th aB named {hint:=fun f' k=>if f'=62 then (if k=16 then some (qL hi)else if k=24 then some (.sidx s (i:Int) b (by omega) hb)else if k=25 then some (.call _ [bD b] [.bool true] hp)
  else if k=28 then some (dL Pg i (by omega))else none)else none} 1000 62 100000 39 (by kernel_rfl) X hP hN
theorem Hl(hp:ax Pg f [bD b] [.bool false])(rest:ab)(X:cf)(hP:X.P=Pg)(hN:X.N=39):
    AW X (lO 62 2) ⟨an (zW f i),al (bF c0 c1 c2 c3 s a v l) rest⟩ fun e' S'=>e'= .exit 0∧Weak X S' ⟨an [(0,fN),(5,dN i)],al (bF c0 c1 c2 c3 s a v l) rest⟩:=
 by
 rcases hf with rfl|rfl|rfl<;>exact th aB named {hint:=fun f' k=>if f'=62 then (if k=16 then some (qL hi)else if k=24 then some (.sidx s (i:Int) b (by omega) hb)else if k=25 then some (.call _ [bD b] [.bool false] hp)
  else none)else none} 1000 62 100000 39 (by kernel_rfl) X hP hN
end
theorem KL(rest:ab)(X:cf)(hP:X.P=Pg)(hN:X.N=39):
    AW X (lO 62 2) ⟨an (zW f s.length),al (bF c0 c1 c2 c3 s a v l) rest⟩ fun e' S'=>e'= .exit 0∧Weak X S' ⟨an [(0,fN),(5,dN s.length)],al (bF c0 c1 c2 c3 s a v l) rest⟩:=
 th aB named {hint:=fun f' k=>if f'=62 then (if k=16 then some (qG s.length)else none)else none} 1000 62 100000 39 (by kernel_rfl) X hP hN
theorem Hm(hf:f=63∨f=64∨f=67)(p:UInt8→Bool)(hp:∀b,ax Pg f [bD b] [.bool (p b)])(hlen:s.length≤100000)(e:Nat)(hae:a≤e)(he:e≤s.length)(hall:∀i b,a≤i→i<e→s[i]? =some b→p b=true)(hend:∀b,s[e]? =some b→p b=false)
    (rest:ab) (X:cf) (hP:X.P=Pg) (hN:X.N=39):
    AW X (.loop (lO 62 2)) ⟨an (zW f a),al (bF c0 c1 c2 c3 s a v l) rest⟩ fun e' S'=>e'= .exit 0∧S'=⟨an [(0,fN),(5,dN e)],al (bF c0 c1 c2 c3 s a v l) rest⟩:=
 ij (P:=Pg) (N:=39) (c:=b6 Pg 62 2) (zW f) (fun _ _=>bF c0 c1 c2 c3 s a v l) (fun i=>a≤i∧i≤e) (fun i=>e-i) (.exit 0) [(0,fN),(5,dN e)] (fun _=>bF c0 c1 c2 c3 s a v l) a ⟨Nat.le_refl _,hae⟩ (by simp)
  (fun rest i hi=>by
   rcases Nat.lt_or_ge i e with h|h
   ·have hb:=List.getElem?_eq_getElem (l:=s) (i:=i) (by omega)
    have hpt:=hp s[i];rw[hall i _ hi.1 h hb]at hpt;exact .inl ⟨i+1,⟨by omega,h⟩,by omega,fun X hP hN=>Hk c0 c1 c2 c3 s a v l f hf (by omega) hb hlen hpt rest X hP hN⟩
   ·have:i=e:=by omega
    subst this;rcases Nat.lt_or_ge i s.length with h2|h2
    ·have hb:=List.getElem?_eq_getElem (l:=s) (i:=i) h2
     have hpt:=hp s[i];rw[hend _ hb]at hpt;exact .inr fun X hP hN=>Hl c0 c1 c2 c3 s a v l f hf h2 hb hpt rest X hP hN
    ·have:i=s.length:=by omega
     subst this;exact .inr fun X hP hN=>KL c0 c1 c2 c3 s a v l f rest X hP hN) rest X hP hN
noncomputable def NG(hf:f=63∨f=64∨f=67)(p:UInt8→Bool)(hp:∀b,ax Pg f [bD b] [.bool (p b)])(hlen:s.length≤100000)(e:Nat)(hae:a≤e)(he:e≤s.length)(hall:∀i b,a≤i→i<e→s[i]? =some b→p b=true)(hend:∀b,s[e]? =some b→p b=false):dJ Pg:=
 ⟨39,b6 Pg 62 2,zW f a,fun _=>bF c0 c1 c2 c3 s a v l, .exit 0,[(0,fN),(5,dN e)],fun _=>bF c0 c1 c2 c3 s a v l,Hm c0 c1 c2 c3 s a v l f hf p hp hlen e hae he hall hend⟩
noncomputable def NH(e:Nat)(H:dJ Pg)(hs:a≤e∧e≤s.length):Par Pg:=
 {hint:=fun f' k=>if f'=62 then (if k=38 then some (.sub s a e hs)else none)else none
  loops:=fun f' r=>if f'=62 then (if r=2 then some H else none)else none}
theorem Qs(hf:f=63∨f=64∨f=67)(p:UInt8→Bool)(hp:∀b,ax Pg f [bD b] [.bool (p b)])(hlen:s.length≤100000)(e:Nat)(hae:a≤e)(he:e≤s.length)(hall:∀i b,a≤i→i<e→s[i]? =some b→p b=true)(hend:∀b,s[e]? =some b→p b=false)(rest:ab):
    ay Pg 62 [fN, .fn f []] (al (bF c0 c1 c2 c3 s a v l) rest) [.d (.str (sub s a e))] (al (bF c0 c1 c2 c3 s a v l) rest):=
 ap aB named (NH s a e (NG c0 c1 c2 c3 s a v l f hf p hp hlen e hae he hall hend) ⟨hae,he⟩) 1000 100000 62 (by kernel_rfl)
end
end Go.Avm
namespace Go.Avm
open Go.Proofs
def Lv(b:UInt8):Bool:=b==32||b==9||b==10||b==13
def bN:Bool→List UInt8→Nat
 |_,[]=>0
 |true,b::r=>1+bN (eE b) r
 |false,b::r=>if Lv b then 1+bN false r else if b==35 then 1+bN true r else 0
theorem jO:∀(c:Bool)(l:List UInt8),bN c l≤l.length
 |_,[]=>by simp[bN]
 |true,b::r=>by
  have:=jO (eE b) r;simp only[bN,List.length_cons];omega
 |false,b::r=>by
  have h1:=jO false r;have h2:=jO true r;simp only[bN,List.length_cons];split
  ·omega
  ·split<;>omega
def fK(p:UInt8→Bool)(l:List UInt8):Nat:=(l.takeWhile p).length
theorem Cj(b:UInt8):eE b=(b !=10):=by
 by_cases h:b=10
 ·subst h;rfl
 ·have h1:(b !=10)=true:=by simpa using h
  have h2:eE b=true:=by
   simp only[eE,bne_iff_ne,ne_eq];intro hx;apply h;apply UInt8.toNat_inj.1;have:(b.toNat:Int)=((10:Nat):Int):=hx;exact Int.ofNat.inj this
  rw[h1,h2]
theorem sN:∀(l:List UInt8),bN true l=fK eE l+bN false (l.drop (fK eE l))
 |[]=>rfl
 |b::r=>by
  have ih:=sN r;cases hb:eE b with
  |true=>
   simp only[bN,hb,fK,List.takeWhile_cons,if_true,List.length_cons,List.drop_succ_cons]at ih ⊢;rw[ih];omega
  |false=>
   have h10:b=10:=by
    rw[Cj]at hb;simpa using hb
   subst h10;simp[bN,hb,fK,Lv]
theorem jP(p:UInt8→Bool)(s:List UInt8)(a:Nat)(ha:a≤s.length):a+fK p (s.drop a)≤s.length∧(∀i b,a≤i→i<a+fK p (s.drop a)→s[i]? =some b→p b=true)∧∀b,s[a+fK p (s.drop a)]? =some b→p b=false:=by
 have hle:fK p (s.drop a)≤(s.drop a).length:=by
  unfold fK;exact(List.takeWhile_sublist p).length_le
 have key:∀(l:List UInt8),(∀i b,i<fK p l→l[i]? =some b→p b=true)∧∀b,l[fK p l]? =some b→p b=false:=by
  intro l;induction l with
  |nil=>exact⟨fun i b _ h=>by simp at h,fun b h=>by simp at h⟩
  |cons x r ih=>
   cases hx:p x with
   |false=>simp[fK,List.takeWhile_cons,hx]
   |true=>
    have he:fK p (x::r)=fK p r+1:=by simp[fK,List.takeWhile_cons,hx]
    rw[he];refine⟨fun i b hi hb=> ?_,fun b hb=> ?_⟩
    ·cases i with
     |zero=>simp at hb;subst hb;exact hx
     |succ i=>exact ih.1 i b (by omega) (by simpa using hb)
    ·exact ih.2 b (by simpa using hb)
 refine⟨by simp at hle;omega,fun i b h1 h2 hb=> ?_,fun b hb=> ?_⟩
 ·obtain⟨j,rfl⟩:∃j,i=a+j:=⟨i-a,by omega⟩
  exact(key (s.drop a)).1 j b (by omega) (by rw[List.getElem?_drop];exact hb)
 ·exact(key (s.drop a)).2 b (by rw[List.getElem?_drop];exact hb)
theorem Hn(s:List UInt8)(a e:Nat)(h:a≤e)(he:e≤s.length):(sub s a e).length=e-a:=by
 unfold sub;rw[List.length_drop,List.length_take];omega
section
variable(c0 c1 c2 c3:AV)(s:List UInt8)(a v:Nat)(l:List D)
noncomputable def EV(f:Nat)(hf:f=63∨f=64∨f=67)(p:UInt8→Bool)(hp:∀b,ax Pg f [bD b] [.bool (p b)])(hlen:s.length≤100000)(ha:a≤s.length):fC Pg:=
 ⟨62,[fN, .fn f []],bF c0 c1 c2 c3 s a v l,[.d (.str (sub s a (a+fK p (s.drop a))))],[],
  qr rfl (Qs c0 c1 c2 c3 s a v l f hf p hp hlen _ (Nat.le_add_right _ _) (jP p s a ha).1 (jP p s a ha).2.1 (jP p s a ha).2.2)⟩
def Qt(P:Program)(s:List UInt8)(a e:Nat)(h:a≤e)(he:e≤s.length)(hlen:s.length≤100000):bX P:= .val (dI (IntKind.i64.wrap ((a:Int)+((sub s a e).length:Int)))) (dN e) (by
 congr 2;rw[Hn s a e h he,IntWalk.i64_in _ (by omega)];omega)
theorem Ho{b:UInt8}(hw:b=32∨b=9∨b=10∨b=13)(ha:a<s.length)(hb:s[((a:Nat):Int).toNat]? =some b)(hlen:s.length≤100000)(rest:ab)(X:cf)(hP:X.P=Pg)(hN:X.N=45):
    AW X (lO 37 0) ⟨an [(0,fN)],al (bF c0 c1 c2 c3 s a v l) rest⟩ fun e' S'=>e'= .normal∧Weak X S' ⟨an [(0,fN)],al (bF c0 c1 c2 c3 s (a+1) v l) rest⟩:=by
 rcases hw with rfl|rfl|rfl|rfl<;>exact th aB named {hint:=fun f' k=>if f'=37 then (if k=11 then some (qL ha)else if k=20 then some (.sidx s (a:Int) _ (by omega) hb)
  else if k=30 then some (dL Pg a (by omega))else none)else none} 1000 37 110000 45 (by kernel_rfl) X hP hN
theorem EW(ha:a<s.length)(hb:s[((a:Nat):Int).toNat]? =some 35)(hlen:s.length≤100000)(rest:ab)(X:cf)(hP:X.P=Pg)(hN:X.N=45):
    AW X (lO 37 0) ⟨an [(0,fN)],al (bF c0 c1 c2 c3 s a v l) rest⟩ fun e' S'=>e'= .normal∧Weak X S' ⟨an [(0,fN)],al (bF c0 c1 c2 c3 s (a+fK eE (s.drop a)) v l) rest⟩:=
 th aB named {hint:=fun f' k=>if f'=37 then (if k=11 then some (qL ha)else if k=20 then some (.sidx s (a:Int) _ (by omega) hb)
  else if k=42 then some (Qt Pg s a _ (Nat.le_add_right _ _) (jP eE s a (by omega)).1 hlen)else none)else none
              calls:=fun f' k _=>if f'=37 then (if k=40 then some (EV c0 c1 c2 c3 s a v l 63 (by simp) eE R1 hlen (by omega))else none)else none} 1000 37 110000 45 (by kernel_rfl) X hP hN
theorem EX(rest:ab)(X:cf)(hP:X.P=Pg)(hN:X.N=45):
    AW X (lO 37 0) ⟨an [(0,fN)],al (bF c0 c1 c2 c3 s s.length v l) rest⟩ fun e' S'=>e'= .exit 0∧Weak X S' ⟨an [(0,fN)],al (bF c0 c1 c2 c3 s s.length v l) rest⟩:=
 th aB named {hint:=fun f' k=>if f'=37 then (if k=11 then some (qG s.length)else none)else none} 1000 37 110000 45 (by kernel_rfl) X hP hN
def EY(P:Program)(b:UInt8)(k:Nat)(h:b.toNat≠k):bX P:=hB P ((b.toNat:Int)==(k:Int)) false (by simp only[beq_eq_false_iff_ne,ne_eq];omega)
theorem zX{b:UInt8}(h1:b.toNat≠32)(h2:b.toNat≠9)(h3:b.toNat≠10)(h4:b.toNat≠13)(h5:b.toNat≠35)(ha:a<s.length)(hb:s[((a:Nat):Int).toNat]? =some b)(rest:ab)(X:cf)(hP:X.P=Pg)(hN:X.N=45):
    AW X (lO 37 0) ⟨an [(0,fN)],al (bF c0 c1 c2 c3 s a v l) rest⟩ fun e' S'=>e'= .ret∧Weak X S' ⟨an [(0,fN)],al (bF c0 c1 c2 c3 s a v l) rest⟩:=
 th aB named {hint:=fun f' k=>if f'=37 then (if k=11 then some (qL ha)else if k=20 then some (.sidx s (a:Int) _ (by omega) hb)
  else if k=22 then some (EY Pg b 32 h1)else if k=23 then some (EY Pg b 9 h2)else if k=24 then some (EY Pg b 10 h3)else if k=25 then some (EY Pg b 13 h4)else if k=34 then some (EY Pg b 35 h5)else none)else none} 1000 37 110000 45 (by kernel_rfl) X hP hN
def ba(a:Nat):Nat:=a+bN false (s.drop a)
theorem Ck{b:UInt8}(h:Lv b=true):b=32∨b=9∨b=10∨b=13:=by
 simp only[Lv,Bool.or_eq_true,beq_iff_eq]at h;rcases h with ((h|h)|h)|h
 ·exact .inl h
 ·exact .inr (.inl h)
 ·exact .inr (.inr (.inl h))
 ·exact .inr (.inr (.inr h))
theorem sO{b:UInt8}{k:Nat}(hk:k<256)(h:b≠UInt8.ofNat k):b.toNat≠k:=fun hx=>h (by
 apply UInt8.toNat_inj.1;rw[hx];simp[UInt8.toNat_ofNat'];omega)
theorem ye(x:Nat)(hx:x<s.length):∃b,s[((x:Nat):Int).toNat]? =some b∧
    ((b=32∨b=9∨b=10∨b=13)∧ba s (x+1)=ba s x∨b=35∧ba s (x+fK eE (s.drop x))=ba s x∧0<fK eE (s.drop x)∨
     (b.toNat≠32∧b.toNat≠9∧b.toNat≠10∧b.toNat≠13∧b.toNat≠35)∧ba s x=x):=by
 have hd:s.drop x=s[x]::s.drop (x+1):=List.drop_eq_getElem_cons hx;refine⟨s[x],by simp[hx], ?_⟩;unfold ba;cases hw:Lv s[x]with
 |true=>
  refine .inl ⟨Ck hw, ?_⟩;rw[hd];simp only[bN,hw,if_true];omega
 |false=>
  by_cases h35:s[x]=35
  ·refine .inr (.inl ⟨h35, ?_, ?_⟩)
   ·have ht:=sN (s.drop (x+1))
    have hr:fK eE (s.drop x)=fK eE (s.drop (x+1))+1:=by
     rw[hd,h35];simp[fK,List.takeWhile_cons,show eE 35=true from rfl]
    have h2:bN false (s.drop x)=1+bN true (s.drop (x+1)):=by
     rw[hd];simp only[bN,hw,h35];rfl
    rw[h2,ht,hr,List.drop_drop];have:x+(fK eE (s.drop (x+1))+1)=x+1+fK eE (s.drop (x+1)):=by omega
    rw[this];omega
   ·rw[hd,h35]
    simp[fK,List.takeWhile_cons,show eE 35=true from rfl]
  ·refine .inr (.inr ⟨?_, ?_⟩)
   ·simp only[Lv,Bool.or_eq_false_iff,beq_eq_false_iff_ne]at hw
    exact⟨sO (by omega) hw.1.1.1,sO (by omega) hw.1.1.2,sO (by omega) hw.1.2,sO (by omega) hw.2,sO (by omega) h35⟩
   ·rw[hd]
    have:(s[x]==35)=false:=by simpa using h35
    simp only[bN,hw,this];rfl
theorem mX(a:Nat)(ha:a≤s.length):a≤ba s a∧ba s a≤s.length:=by
 have:=jO false (s.drop a);rw[List.length_drop]at this;unfold ba;omega
def mY:aD:=if ba s a=s.length then .exit 0 else .ret
theorem Cl(ha:a≤s.length)(hlen:s.length≤100000)(e:aD)(he:e=mY s a)(rest:ab)(X:cf)(hP:X.P=Pg)(hN:X.N=45):
    AW X (.loop (lO 37 0)) ⟨an [(0,fN)],al (bF c0 c1 c2 c3 s a v l) rest⟩ fun e' S'=>e'=e∧S'=⟨an [(0,fN)],al (bF c0 c1 c2 c3 s (ba s a) v l) rest⟩:=
 ij (P:=Pg) (N:=45) (c:=b6 Pg 37 0) (fun _=>[(0,fN)]) (fun x _=>bF c0 c1 c2 c3 s x v l) (fun x=>x≤s.length∧ba s x=ba s a) (fun x=>s.length-x) e [(0,fN)] (fun _=>bF c0 c1 c2 c3 s (ba s a) v l) a ⟨ha,rfl⟩
  (by rw[he];unfold mY;split<;>simp)
  (fun rest x hx=>by
   rcases Nat.lt_or_ge x s.length with h|h
   ·obtain⟨b,hb,⟨hw,h2⟩|⟨rfl,h2,h3⟩|⟨⟨n1,n2,n3,n4,n5⟩,h2⟩⟩:=ye s x h
    ·exact .inl ⟨x+1,⟨by omega,by rw[h2];exact hx.2⟩,by omega,fun X hP hN=>Ho c0 c1 c2 c3 s x v l hw h hb hlen rest X hP hN⟩
    ·exact .inl ⟨x+fK eE (s.drop x),⟨(jP eE s x hx.1).1,by rw[h2];exact hx.2⟩,by omega,fun X hP hN=>EW c0 c1 c2 c3 s x v l h hb hlen rest X hP hN⟩
    ·have hxe:ba s a=x:=by rw[←hx.2,h2]
     have:e= .ret:=by rw[he];unfold mY;rw[if_neg (by omega)]
     rw[hxe,this];exact .inr fun X hP hN=>zX c0 c1 c2 c3 s x v l n1 n2 n3 n4 n5 h hb rest X hP hN
   ·have hxe:x=s.length:=by omega
    have hb:=mX s x hx.1;rw[hx.2]at hb;have hbe:ba s a=s.length:=by omega
    have:e= .exit 0:=by rw[he];unfold mY;rw[if_pos hbe]
    rw[hbe,this,hxe];exact .inr fun X hP hN=>EX c0 c1 c2 c3 s v l rest X hP hN) rest X hP hN
noncomputable def Bc(ha:a≤s.length)(hlen:s.length≤100000)(e:aD)(he:e=mY s a):dJ Pg:=
 ⟨45,b6 Pg 37 0,[(0,fN)],fun _=>bF c0 c1 c2 c3 s a v l,e,[(0,fN)],fun _=>bF c0 c1 c2 c3 s (ba s a) v l,Cl c0 c1 c2 c3 s a v l ha hlen e he⟩
theorem KM(ha:a≤s.length)(hlen:s.length≤100000)(rest:ab):ay Pg 37 [fN] (al (bF c0 c1 c2 c3 s a v l) rest) [] (al (bF c0 c1 c2 c3 s (ba s a) v l) rest):=by
 have key:∀e,e=mY s a→(e= .exit 0∨e= .ret)→ay Pg 37 [fN] (al (bF c0 c1 c2 c3 s a v l) rest) [] (al (bF c0 c1 c2 c3 s (ba s a) v l) rest):=by
  rintro e he (rfl|rfl)
  ·exact ap aB named {loops:=fun f' r=>if f'=37 then (if r=0 then some (Bc c0 c1 c2 c3 s a v l ha hlen _ he)else none)else none} 1000 110000 37 (by kernel_rfl)
  ·exact ap aB named {loops:=fun f' r=>if f'=37 then (if r=0 then some (Bc c0 c1 c2 c3 s a v l ha hlen _ he)else none)else none} 1000 110000 37 (by kernel_rfl)
 refine key _ rfl ?_;unfold mY;split
 ·exact .inl rfl
 ·exact .inr rfl
noncomputable def Be(ha:a≤s.length)(hlen:s.length≤100000):fC Pg:=
 ⟨37,[fN],bF c0 c1 c2 c3 s a v l,[],bF c0 c1 c2 c3 s (ba s a) v l,gH (KM c0 c1 c2 c3 s a v l ha hlen)⟩
end
end Go.Avm
namespace Go.Avm
open Go.Proofs
abbrev om(kind:Int)(a:Nat)(t:List UInt8)(n:Int):D:= .agg [.int .u8 kind, .int .i64 (a:Int), .str t, .int .i64 n]
def dZ(w:Bool)(s:List UInt8)(a v m:Nat)(l:List D):List (Nat×aL):=match w with
 |false=>[Qr (.d (.int .u32 0)) (.d (.int .i32 0)) (.d (.int .u32 0)) .junk s a v l,(1,⟨v,none⟩),(120463,⟨v,none⟩),(200002,⟨0,none⟩),(200156,⟨0,none⟩),(204135,⟨0,none⟩),(210002,⟨m,none⟩),(210335,⟨m,none⟩)]
 |true=>[Qr (.d (.int .u32 1)) (.d (.int .i32 0)) (.d (.int .u32 0)) (.mp 200156 1) s a v l,(1,⟨v,none⟩),(120463,⟨v,none⟩),(200002,⟨1,none⟩),(200156,⟨1,some (.map pd 14)⟩),(204135,⟨1,none⟩),(210002,⟨m,none⟩),(210335,⟨m,none⟩)]
def NI(P:Program)(a k:Nat)(h:a+k≤1099511627776):bX P:= .val (dI (IntKind.i64.wrap ((a:Int)+(k:Int)))) (dN (a+k)) (by
 congr 2;rw[IntWalk.i64_in _ (by omega)];omega)
section
variable(w:Bool)(s:List UInt8)(a v m:Nat)(l:List D)
noncomputable def NJ(t:List UInt8)(hl:l.length+1≤549755813888)(ht:a+t.length≤1099511627776):Par Pg:=
 {hint:=fun f' k=>if f'=39 then (if k=22 then some (.app l 1 hl)else if k=31 then some (NI Pg a t.length ht)else none)else none}
theorem Qu(kd n:Int)(t:List UInt8)(hl:l.length+1≤549755813888)(ht:a+t.length≤1099511627776)(rest:ab):
    ay Pg 39 [fN, .d (.int .u8 kd), .d (.str t), .d (.int .i64 n)] (al (dZ w s a v m l) rest) [] (al (dZ w s (a+t.length) (v+1) m (l ++[om kd a t n])) rest):=by
 cases w<;>exact ap aB named (NJ a l t hl ht) 1000 120000 39 (by kernel_rfl)
noncomputable def ux(kd n:Int)(t:List UInt8)(hl:l.length+1≤549755813888)(ht:a+t.length≤1099511627776):fC Pg:=
 ⟨39,[fN, .d (.int .u8 kd), .d (.str t), .d (.int .i64 n)],dZ w s a v m l,[],dZ w s (a+t.length) (v+1) m (l ++[om kd a t n]),gH (Qu w s a v m l kd n t hl ht)⟩
noncomputable def Bf(t:List UInt8)(r:Option (Nat×D))(h:b7 (.str t) pd 0=some r):Par Pg:={hint:=fun f k=>if f=68 then (if k=18 then some (.look (.str t) pd r h)else none)else none}
def oq(w:Bool)(m:Nat):Nat:=match w with
 |false=>m
 |true=>m+1
set_option maxRecDepth 100000 in
theorem Qv(t:List UInt8)(h:b7 (.str t) pd 0=some none)(rest:ab):ay Pg 68 [fN, .d (.str t)] (al (dZ w s a v m l) rest) [dB false] (al (dZ true s a v (oq w m) l) rest):=by
 cases w
 ·exact ap aB named (Bf t _ h) 1000 200000 68 (by kernel_rfl)
 ·exact ap aB named (Bf t _ h) 1000 210000 68 (by kernel_rfl)
set_option maxRecDepth 100000 in
theorem Qw(t:List UInt8)(i:Nat)(h:b7 (.str t) pd 0=some (some (i, .agg [])))(rest:ab):ay Pg 68 [fN, .d (.str t)] (al (dZ w s a v m l) rest) [dB true] (al (dZ true s a v (oq w m) l) rest):=by
 cases w
 ·exact ap aB named (Bf t _ h) 1000 200000 68 (by kernel_rfl)
 ·exact ap aB named (Bf t _ h) 1000 210000 68 (by kernel_rfl)
def fc(t:List UInt8):Bool:=wl.contains t
theorem Qx(t:List UInt8)(rest:ab):ay Pg 68 [fN, .d (.str t)] (al (dZ w s a v m l) rest) [dB (fc t)] (al (dZ true s a v (oq w m) l) rest):=by
 rcases pU t wl pd 0 rfl with ⟨i,g1,g2,g3⟩|⟨g1,g2⟩
 ·have:fc t=true:=by
    simp only[fc,List.contains_eq_mem,decide_eq_true_eq];exact List.mem_of_getElem? g1
  rw[this];exact Qw w s a v m l t (0+i) g3 rest
 ·have:fc t=false:=by
    simp only[fc,List.contains_eq_mem,decide_eq_false_iff_not];intro hm;obtain⟨i,hi⟩:=List.getElem?_of_mem hm;have:=g1 i t hi;simp at this
  rw[this];exact Qv w s a v m l t g2 rest
noncomputable def NK(t:List UInt8)(u:Bool)(hu:fc t=u):fC Pg:=
 ⟨68,[fN, .d (.str t)],dZ w s a v m l,[dB u],dZ true s a v (oq w m) l,gH (by subst hu;exact Qx w s a v m l t)⟩
noncomputable def IE(f:Nat)(hf:f=63∨f=64∨f=67)(p:UInt8→Bool)(hp:∀b,ax Pg f [bD b] [.bool (p b)])(hlen:s.length≤100000)(ha:a≤s.length):fC Pg:=
 match w with
 |false=>EV (.d (.int .u32 0)) (.d (.int .i32 0)) (.d (.int .u32 0)) .junk s a v l f hf p hp hlen ha
 |true=>EV (.d (.int .u32 1)) (.d (.int .i32 0)) (.d (.int .u32 0)) (.mp 200156 1) s a v l f hf p hp hlen ha
noncomputable def ot(hlen:s.length≤100000)(ha:a≤s.length):fC Pg:=
 match w with
 |false=>Be (.d (.int .u32 0)) (.d (.int .i32 0)) (.d (.int .u32 0)) .junk s a v l ha hlen
 |true=>Be (.d (.int .u32 1)) (.d (.int .i32 0)) (.d (.int .u32 0)) (.mp 200156 1) s a v l ha hlen
end
end Go.Avm
namespace Go.Avm
open Go.Proofs
def pe(s:List UInt8)(a:Nat):List UInt8:=sub s a (a+fK ki (s.drop a))
section
variable(w:Bool)(s:List UInt8)(a v m:Nat)(l:List D)
noncomputable def pf(b:UInt8)(ha:a<s.length)(hb:s[((a:Nat):Int).toNat]? =some b)(hlen:s.length≤100000)(h1:bM b=false)(h2:ma b=true)(u:Bool)(hu:fc (pe s a)=u)(g:Bool)(hg:decide (12<((pe s a).length:Int))=g)
    (hl:l.length+1≤549755813888) (ht:a+(pe s a).length≤1099511627776):Par Pg:=
 {hint:=fun f' k=>if f'=38 then (if k=14 then some (.sidx s (a:Int) b (by omega) hb)else if k=17 then some (.call 64 [bD b] [.bool false] (h1▸EU b))else if k=22 then some (.call 66 [bD b] [.bool true] (h2▸Ok b))
     else if k=40 then some (hB Pg _ g hg)else none)else none
  calls:=fun f' k _=>if f'=38 then (if k=24 then some (IE w s a v l 67 (by simp) ki R0 hlen (by omega))else if k=33 then some (NK w s a v m l (pe s a) u hu)
   else if k=36 then some (ux true s a v (oq w m) l 2 0 (pe s a) hl ht)else if k=27 then some (ux true s a v (oq w m) l 1 0 (pe s a) hl ht)else none)else none}
section
variable(b:UInt8)(ha:a<s.length)(hb:s[((a:Nat):Int).toNat]? =some b)(hlen:s.length≤100000)(h1:bM b=false)(h2:ma b=true)
include b ha hb hlen h1 h2
theorem EZ(hu:fc (pe s a)=true)(hl:l.length+1≤549755813888)(ht:a+(pe s a).length≤1099511627776)(rest:ab):
    ay Pg 38 [fN] (al (dZ w s a v m l) rest) [dI 0] (al (dZ true s (a+(pe s a).length) (v+1) (oq w m) (l ++[om 2 a (pe s a) 0])) rest):=by
 cases w with
 |false=>exact ap aB named (pf false s a v m l b ha hb hlen h1 h2 true hu _ rfl hl ht) 1000 130000 38 (by kernel_rfl)
 |true=>exact ap aB named (pf true s a v m l b ha hb hlen h1 h2 true hu _ rfl hl ht) 1000 130000 38 (by kernel_rfl)
theorem E0(hu:fc (pe s a)=false)(hg:decide (12<((pe s a).length:Int))=false)(hl:l.length+1≤549755813888)(ht:a+(pe s a).length≤1099511627776)(rest:ab):
    ay Pg 38 [fN] (al (dZ w s a v m l) rest) [dI 0] (al (dZ true s (a+(pe s a).length) (v+1) (oq w m) (l ++[om 1 a (pe s a) 0])) rest):=by
 cases w with
 |false=>exact ap aB named (pf false s a v m l b ha hb hlen h1 h2 false hu false hg hl ht) 1000 130000 38 (by kernel_rfl)
 |true=>exact ap aB named (pf true s a v m l b ha hb hlen h1 h2 false hu false hg hl ht) 1000 130000 38 (by kernel_rfl)
theorem E1(hu:fc (pe s a)=false)(hg:decide (12<((pe s a).length:Int))=true)(hl:l.length+1≤549755813888)(ht:a+(pe s a).length≤1099511627776)(rest:ab):
    ay Pg 38 [fN] (al (dZ w s a v m l) rest) [dI 2] (al (dZ true s a v (oq w m) l) rest):=by
 cases w with
 |false=>exact ap aB named (pf false s a v m l b ha hb hlen h1 h2 false hu true hg hl ht) 1000 130000 38 (by kernel_rfl)
 |true=>exact ap aB named (pf true s a v m l b ha hb hlen h1 h2 false hu true hg hl ht) 1000 130000 38 (by kernel_rfl)
end
end
end Go.Avm
namespace Go.Avm
open Go.Proofs
def ou:List (List UInt8):=[[61,61],[33,61],[60,61],[62,61],[38,38],[124,124],[60,60],[62,62]]
def NL:List UInt8:=[61,61,32,33,61,32,60,61,32,62,61,32,38,38,32,124,124,32,60,60,32,62,62]
def KN:List UInt8:=[40,41,123,125,91,93,44,59,58,61,60,62,43,45,42,47,37,38,124,94,33,126]
def tN:List D:=ou.map .str
theorem E2{i:Nat}{x:List UInt8}(h:ou[i]? =some x):tN[((i:Nat):Int).toNat]? =some (.str x):=by
 simp[tN,h]
set_option maxRecDepth 100000 in
theorem Hq:ax Pg 96 [.str NL] [.ro tN]:=bn aB named {} 100000 (by kernel_rfl)
def F0(t:List UInt8)(i:Nat):List (Nat×AV):=[(0, .d (.ro tN)),(1, .d (.str t)),(7,dN 8),(8,dN i)]
noncomputable def NM(t x:List UInt8)(i:Nat)(hi:i<8)(hx:ou[i]? =some x)(u:Bool)(he:(t==x)=u):Par Pg:=
 {hint:=fun f k=>if f=126 then (if k=9 then some (qL hi)else if k=14 then some (.idx tN (i:Int) (.str x) (by omega) (E2 hx))else if k=16 then some (RY Pg t x u he)
  else if k=18 then some (dL Pg i (by omega))else none)else none}
theorem E3(t x:List UInt8)(i:Nat)(hi:i<8)(hx:ou[i]? =some x)(he:(t==x)=false)(rest:ab)(X:cf)(hP:X.P=Pg)(hN:X.N=19):
    AW X (lO 126 2) ⟨an (F0 t i),al [] rest⟩ fun e' S'=>e'= .normal∧Weak X S' ⟨an (F0 t (i+1)),al [] rest⟩:=
 th aB named (NM t x i hi hx false he) 1000 126 1000 19 (by kernel_rfl) X hP hN
theorem NN(t x:List UInt8)(i:Nat)(hi:i<8)(hx:ou[i]? =some x)(he:(t==x)=true)(rest:ab)(X:cf)(hP:X.P=Pg)(hN:X.N=19):
    AW X (lO 126 2) ⟨an (F0 t i),al [] rest⟩ fun e' S'=>e'= .ret∧Weak X S' ⟨an [(4,dN i)],al [] rest⟩:=
 th aB named (NM t x i hi hx true he) 1000 126 1000 19 (by kernel_rfl) X hP hN
theorem NP(t:List UInt8)(rest:ab)(X:cf)(hP:X.P=Pg)(hN:X.N=19):
    AW X (lO 126 2) ⟨an (F0 t 8),al [] rest⟩ fun e' S'=>e'= .exit 0∧Weak X S' ⟨an [],al [] rest⟩:=
 th aB named {} 1000 126 1000 19 (by kernel_rfl) X hP hN
theorem Hr(t:List UInt8)(i0:Nat)(h0:ou[i0]? =some t)(hlt:∀(j:Nat)(x:List UInt8),j<i0→ou[j]? =some x→(t==x)=false)(rest:ab)(X:cf)(hP:X.P=Pg)(hN:X.N=19):
    AW X (.loop (lO 126 2)) ⟨an (F0 t 0),al [] rest⟩ fun e' S'=>e'= .ret∧S'=⟨an [(4,dN i0)],al [] rest⟩:=by
 have hi0:i0<8:=(List.getElem?_eq_some_iff.1 h0).1
 exact ij (P:=Pg) (N:=19) (c:=b6 Pg 126 2) (F0 t) (fun _ _=>[]) (fun i=>i≤i0) (fun i=>8-i) .ret [(4,dN i0)] (fun _=>[]) 0 (Nat.zero_le _) (by simp)
  (fun rest i hi=>by
   rcases Nat.lt_or_ge i i0 with h|h
   ·obtain⟨x,hx⟩:∃x,ou[i]? =some x:=⟨_,List.getElem?_eq_getElem (show i<8 by omega)⟩
    exact .inl ⟨i+1,h,by omega,fun X hP hN=>E3 t x i (by omega) hx (hlt i x h hx) rest X hP hN⟩
   ·have:i=i0:=by omega
    subst this;exact .inr fun X hP hN=>NN t t i hi0 h0 (by simp) rest X hP hN) rest X hP hN
theorem Hs(t:List UInt8)(hno:∀(j:Nat)(x:List UInt8),ou[j]? =some x→(t==x)=false)(rest:ab)(X:cf)(hP:X.P=Pg)(hN:X.N=19):
    AW X (.loop (lO 126 2)) ⟨an (F0 t 0),al [] rest⟩ fun e' S'=>e'= .exit 0∧S'=⟨an [],al [] rest⟩:=
 ij (P:=Pg) (N:=19) (c:=b6 Pg 126 2) (F0 t) (fun _ _=>[]) (fun i=>i≤8) (fun i=>8-i) (.exit 0) [] (fun _=>[]) 0 (Nat.zero_le _) (by simp)
  (fun rest i hi=>by
   rcases Nat.lt_or_ge i 8 with h|h
   ·obtain⟨x,hx⟩:∃x,ou[i]? =some x:=⟨_,List.getElem?_eq_getElem (show i<8 from h)⟩
    exact .inl ⟨i+1,h,by omega,fun X hP hN=>E3 t x i h hx (hno i x hx) rest X hP hN⟩
   ·have:i=8:=by omega
    subst this;exact .inr fun X hP hN=>NP t rest X hP hN) rest X hP hN
noncomputable def Qy(t:List UInt8)(i0:Nat)(h0:ou[i0]? =some t)(hlt:∀(j:Nat)(x:List UInt8),j<i0→ou[j]? =some x→(t==x)=false):dJ Pg:=⟨19,b6 Pg 126 2,F0 t 0,fun _=>[], .ret,[(4,dN i0)],fun _=>[],Hr t i0 h0 hlt⟩
noncomputable def Qz(t:List UInt8)(hno:∀(j:Nat)(x:List UInt8),ou[j]? =some x→(t==x)=false):dJ Pg:=⟨19,b6 Pg 126 2,F0 t 0,fun _=>[], .exit 0,[],fun _=>[],Hs t hno⟩
theorem R2(t:List UInt8)(i0:Nat)(h0:ou[i0]? =some t)(hlt:∀(j:Nat)(x:List UInt8),j<i0→ou[j]? =some x→(t==x)=false):ax Pg 97 [.ro tN, .str t] [.bool true]:=
 bn aB named {loops:=fun f r=>if f=126 then (if r=2 then some (Qy t i0 h0 hlt)else none)else none} 1000 (by kernel_rfl)
theorem R3(t:List UInt8)(hno:∀(j:Nat)(x:List UInt8),ou[j]? =some x→(t==x)=false):ax Pg 97 [.ro tN, .str t] [.bool false]:=
 bn aB named {loops:=fun f r=>if f=126 then (if r=2 then some (Qz t hno)else none)else none} 1000 (by kernel_rfl)
theorem uy(t:List UInt8):∀(l:List (List UInt8)),t∈l→∃i:Nat,l[i]? =some t∧∀(j:Nat)(x:List UInt8),j<i→l[j]? =some x→(t==x)=false
 |[],h=>by simp at h
 |y::l,h=>by
  by_cases hy:t=y
  ·subst hy
   exact⟨0,rfl,fun j x hj=>by omega⟩
  ·obtain⟨i,h1,h2⟩:=uy t l (by simpa [hy]using h)
   refine⟨i+1,by simpa using h1,fun j x hj hx=> ?_⟩;cases j with
   |zero=>simp at hx;subst hx;simpa using hy
   |succ j=>exact h2 j x (by omega) (by simpa using hx)
theorem R4(t:List UInt8):ax Pg 97 [.ro tN, .str t] [.bool (ou.contains t)]:=by
 by_cases h:t∈ou
 ·obtain⟨i,h1,h2⟩:=uy t ou h
  have:ou.contains t=true:=by simpa using h
  rw[this];exact R2 t i h1 h2
 ·have:ou.contains t=false:=by simpa using h
  rw[this];refine R3 t fun j x hx=> ?_
  have:x∈ou:=List.mem_of_getElem? hx;simp only[beq_eq_false_iff_ne,ne_eq];rintro rfl;exact h this
def zY(b:UInt8):Int:=match nb ((b.toNat:Int).toNat.toUInt8) KN 0 with
 |some i=>(i:Int)
 |none=> -1
theorem R5(b:UInt8):ax Pg 98 [.str KN,bD b] [.int .i64 (zY b)]:=bn aB named {} 1000 (by kernel_rfl)
def rst(s:List UInt8)(a:Nat):List UInt8:=(s.take s.length).drop a
def pg(t:List UInt8)(k:Nat):List UInt8:=(t.take k).drop 0
section
variable(w:Bool)(s:List UInt8)(a v m:Nat)(l:List D)
noncomputable def sP(b:UInt8)(ha:a<s.length)(hb:(rst s a)[(0:Int).toNat]? =some b)(g:Bool)(hg:decide (2≤((rst s a).length:Int))=g)(u:Bool)(hu:ou.contains (pg (rst s a) 2)=u)(z:Bool)(hz:decide (0≤zY b)=z)
    (h2:g=true→2≤(rst s a).length) (h1:1≤(rst s a).length):Par Pg:=
 {hint:=fun f' k=>if f'=69 then (if k=12 then some (.sub s a s.length ⟨by omega,Nat.le_refl _⟩)else if k=15 then some (hB Pg _ g hg)else if k=17 then some (.call 96 [.str NL] [.ro tN] Hq)
     else if k=19 then (if hgt:g=true then some (.sub (rst s a) 0 2 ⟨by omega,h2 hgt⟩)else none)else if k=20 then some (.call 97 [.ro tN, .str (pg (rst s a) 2)] [.bool u] (hu▸R4 _))
     else if k=23 then (if hgt:g=true then some (.sub (rst s a) 0 2 ⟨by omega,h2 hgt⟩)else none)else if k=25 then some (.sidx (rst s a) 0 b (by omega) hb)
     else if k=26 then some (.call 98 [.str KN,bD b] [.int .i64 (zY b)] (R5 b))else if k=27 then some (hB Pg _ z hz)else if k=29 then some (.sub (rst s a) 0 1 ⟨by omega,h1⟩)else none)else none}
section
variable(c0 c1 c2 c3:AV)(b:UInt8)(ha:a<s.length)(hb:(rst s a)[(0:Int).toNat]? =some b)
include c0 c1 c2 c3 b ha hb
theorem Ht(hg:decide (2≤((rst s a).length:Int))=true)(hu:ou.contains (pg (rst s a) 2)=true)(h2:2≤(rst s a).length)(rest:ab):
    ay Pg 69 [fN] (al (bF c0 c1 c2 c3 s a v l) rest) [.d (.str (pg (rst s a) 2))] (al (bF c0 c1 c2 c3 s a v l) rest):=
 ap aB named (sP s a b ha hb true hg true hu _ rfl (fun _=>h2) (by omega)) 1000 140000 69 (by kernel_rfl)
theorem Hu(g:Bool)(hg:decide (2≤((rst s a).length:Int))=g)(hu:(g&&ou.contains (pg (rst s a) 2))=false)(h2:g=true→2≤(rst s a).length)(h1:1≤(rst s a).length)(hz:decide (0≤zY b)=true)(rest:ab):
    ay Pg 69 [fN] (al (bF c0 c1 c2 c3 s a v l) rest) [.d (.str (pg (rst s a) 1))] (al (bF c0 c1 c2 c3 s a v l) rest):=by
 cases g with
 |false=>exact ap aB named (sP s a b ha hb false hg _ rfl true hz h2 h1) 1000 140000 69 (by kernel_rfl)
 |true=>exact ap aB named (sP s a b ha hb true hg false (by simpa using hu) true hz h2 h1) 1000 140000 69 (by kernel_rfl)
theorem E4(g:Bool)(hg:decide (2≤((rst s a).length:Int))=g)(hu:(g&&ou.contains (pg (rst s a) 2))=false)(h2:g=true→2≤(rst s a).length)(h1:1≤(rst s a).length)(hz:decide (0≤zY b)=false)(rest:ab):
    ay Pg 69 [fN] (al (bF c0 c1 c2 c3 s a v l) rest) [.d (.str [])] (al (bF c0 c1 c2 c3 s a v l) rest):=by
 cases g with
 |false=>exact ap aB named (sP s a b ha hb false hg _ rfl false hz h2 h1) 1000 140000 69 (by kernel_rfl)
 |true=>exact ap aB named (sP s a b ha hb true hg false (by simpa using hu) false hz h2 h1) 1000 140000 69 (by kernel_rfl)
end
end
end Go.Avm
namespace Go.Avm
open Go.Proofs
def sQ(s:List UInt8)(a:Nat)(b:UInt8):List UInt8:=
 if (decide (2≤((rst s a).length:Int))&&ou.contains (pg (rst s a) 2))=true then pg (rst s a) 2 else if decide (0≤zY b)=true then pg (rst s a) 1 else []
section
variable(w:Bool)(s:List UInt8)(a v m:Nat)(l:List D)
theorem IG(c0 c1 c2 c3:AV)(b:UInt8)(ha:a<s.length)(hb:(rst s a)[(0:Int).toNat]? =some b)(rest:ab):
    ay Pg 69 [fN] (al (bF c0 c1 c2 c3 s a v l) rest) [.d (.str (sQ s a b))] (al (bF c0 c1 c2 c3 s a v l) rest):=by
 have h1:1≤(rst s a).length:=by
  have:=(List.getElem?_eq_some_iff.1 hb).1;omega
 have h2:∀g,decide (2≤((rst s a).length:Int))=g→g=true→2≤(rst s a).length:=by
  rintro g rfl h;have:=of_decide_eq_true h;omega
 unfold sQ;split
 ·rename_i h
  simp only[Bool.and_eq_true]at h;exact Ht s a v l c0 c1 c2 c3 b ha hb h.1 h.2 (h2 _ h.1 rfl) rest
 ·rename_i h
  have h':(decide (2≤((rst s a).length:Int))&&ou.contains (pg (rst s a) 2))=false:=by simpa only[Bool.not_eq_true]using h
  split
  ·rename_i hz
   exact Hu s a v l c0 c1 c2 c3 b ha hb _ rfl h' (h2 _ rfl) h1 hz rest
  ·rename_i hz
   exact E4 s a v l c0 c1 c2 c3 b ha hb _ rfl h' (h2 _ rfl) h1 (by simpa only[Bool.not_eq_true]using hz) rest
noncomputable def KO(b:UInt8)(ha:a<s.length)(hb:(rst s a)[(0:Int).toNat]? =some b)(t:List UInt8)(ht:sQ s a b=t):fC Pg:=
 match w with
 |false=>⟨69,[fN],bF (.d (.int .u32 0)) (.d (.int .i32 0)) (.d (.int .u32 0)) .junk s a v l,[.d (.str t)],[],qr rfl (ht▸IG s a v l _ _ _ _ b ha hb)⟩
 |true=>⟨69,[fN],bF (.d (.int .u32 1)) (.d (.int .i32 0)) (.d (.int .u32 0)) (.mp 200156 1) s a v l,[.d (.str t)],[],qr rfl (ht▸IG s a v l _ _ _ _ b ha hb)⟩
noncomputable def Bg(b:UInt8)(ha:a<s.length)(hb:s[((a:Nat):Int).toNat]? =some b)(hb':(rst s a)[(0:Int).toNat]? =some b)(h1:bM b=false)(h2:ma b=false)(t:List UInt8)(hT:sQ s a b=t)(u:Bool)(hu:(t==[])=u)
    (hl:l.length+1≤549755813888) (ht:a+t.length≤1099511627776):Par Pg:=
 {hint:=fun f' k=>if f'=38 then (if k=14 then some (.sidx s (a:Int) b (by omega) hb)else if k=17 then some (.call 64 [bD b] [.bool false] (h1▸EU b))else if k=22 then some (.call 66 [bD b] [.bool false] (h2▸Ok b))
     else if k=44 then some (hB Pg _ u hu)else none)else none
  calls:=fun f' k _=>if f'=38 then (if k=42 then some (KO w s a v l b ha hb' t hT)else if k=47 then some (ux w s a v m l 4 0 t hl ht)else none)else none}
section
variable(b:UInt8)(ha:a<s.length)(hb:s[((a:Nat):Int).toNat]? =some b)(hb':(rst s a)[(0:Int).toNat]? =some b)(h1:bM b=false)(h2:ma b=false)(t:List UInt8)(hT:sQ s a b=t)
include b ha hb hb' h1 h2 t hT
theorem E5(hu:(t==[])=false)(hl:l.length+1≤549755813888)(ht:a+t.length≤1099511627776)(rest:ab):
    ay Pg 38 [fN] (al (dZ w s a v m l) rest) [dI 0] (al (dZ w s (a+t.length) (v+1) m (l ++[om 4 a t 0])) rest):=by
 cases w with
 |false=>exact ap aB named (Bg false s a v m l b ha hb hb' h1 h2 t hT false hu hl ht) 1000 130000 38 (by kernel_rfl)
 |true=>exact ap aB named (Bg true s a v m l b ha hb hb' h1 h2 t hT false hu hl ht) 1000 130000 38 (by kernel_rfl)
theorem E6(hu:(t==[])=true)(hl:l.length+1≤549755813888)(ht:a+t.length≤1099511627776)(rest:ab):
    ay Pg 38 [fN] (al (dZ w s a v m l) rest) [dI 4] (al (dZ w s a v m l) rest):=by
 cases w with
 |false=>exact ap aB named (Bg false s a v m l b ha hb hb' h1 h2 t hT true hu hl ht) 1000 130000 38 (by kernel_rfl)
 |true=>exact ap aB named (Bg true s a v m l b ha hb hb' h1 h2 t hT true hu hl ht) 1000 130000 38 (by kernel_rfl)
end
end
end Go.Avm
namespace Go.Proofs
open Go.Shelf
def Tryz.lays174_ren:Go.Shelf.Ren:=⟨fun|174=>93|247=>120|245=>121|287=>143|279=>144|280=>145|281=>146|282=>147|321=>163|322=>164|316=>165|171=>167|205=>166|243=>177|246=>91|283=>115|284=>116|285=>117|286=>118|129=>139|317=>138|318=>140|319=>141|320=>142|337=>161|338=>162|n=>n,fun|9=>9|3=>3|2=>2|75=>105|85=>182|4=>4|167=>228|5=>5|53=>175|175=>229|46=>149|168=>231|37=>49|0=>0|210=>251|21=>21|127=>114|145=>272|143=>270|171=>201|173=>204|212=>224|51=>119|20=>20|213=>225|232=>268|233=>269|80=>70|n=>n,fun|15=>4|16=>5|17=>2|18=>6|19=>7|n=>n⟩
theorem Tryz.lays174:Go.Proofs.LaysC.n174 Tryz.prog Tryz.lays174_ren:={
 mixed:=by kernel_rfl
 f129:=Tryz.func139.trans (congrArg some (by kernel_rfl))
 f171:=Tryz.func167.trans (congrArg some (by kernel_rfl))
 f174:=Tryz.func93.trans (congrArg some (by kernel_rfl))
 f205:=Tryz.func166.trans (congrArg some (by kernel_rfl))
 f243:=Tryz.func177.trans (congrArg some (by kernel_rfl))
 f245:=Tryz.func121.trans (congrArg some (by kernel_rfl))
 f246:=Tryz.func91.trans (congrArg some (by kernel_rfl))
 f247:=Tryz.func120.trans (congrArg some (by kernel_rfl))
 f279:=Tryz.func144.trans (congrArg some (by kernel_rfl))
 f280:=Tryz.func145.trans (congrArg some (by kernel_rfl))
 f281:=Tryz.func146.trans (congrArg some (by kernel_rfl))
 f282:=Tryz.func147.trans (congrArg some (by kernel_rfl))
 f283:=Tryz.func115.trans (congrArg some (by kernel_rfl))
 f284:=Tryz.func116.trans (congrArg some (by kernel_rfl))
 f285:=Tryz.func117.trans (congrArg some (by kernel_rfl))
 f286:=Tryz.func118.trans (congrArg some (by kernel_rfl))
 f287:=Tryz.func143.trans (congrArg some (by kernel_rfl))
 f316:=Tryz.func165.trans (congrArg some (by kernel_rfl))
 f317:=Tryz.func138.trans (congrArg some (by kernel_rfl))
 f318:=Tryz.func140.trans (congrArg some (by kernel_rfl))
 f319:=Tryz.func141.trans (congrArg some (by kernel_rfl))
 f320:=Tryz.func142.trans (congrArg some (by kernel_rfl))
 f321:=Tryz.func163.trans (congrArg some (by kernel_rfl))
 f322:=Tryz.func164.trans (congrArg some (by kernel_rfl))
 f337:=Tryz.func161.trans (congrArg some (by kernel_rfl))
 f338:=Tryz.func162.trans (congrArg some (by kernel_rfl))
 t0:=Tryz.underlying0
 a0:=Tryz.isAgg0
 z0:=Tryz.sizeOf0
 v0:=Tryz.zeroValue0
 t2:=Tryz.underlying2
 a2:=Tryz.isAgg2
 z2:=Tryz.sizeOf2
 v2:=Tryz.zeroValue2
 t3:=Tryz.underlying3
 a3:=Tryz.isAgg3
 z3:=Tryz.sizeOf3
 v3:=Tryz.zeroValue3
 t4:=Tryz.underlying4
 a4:=Tryz.isAgg4
 z4:=Tryz.sizeOf4
 v4:=Tryz.zeroValue4
 t5:=Tryz.underlying5
 a5:=Tryz.isAgg5
 z5:=Tryz.sizeOf5
 v5:=Tryz.zeroValue5
 t9:=Tryz.underlying9
 a9:=Tryz.isAgg9
 z9:=Tryz.sizeOf9
 v9:=Tryz.zeroValue9
 t20:=Tryz.underlying20
 a20:=Tryz.isAgg20
 z20:=Tryz.sizeOf20
 v20:=Tryz.zeroValue20
 t21:=Tryz.underlying21
 a21:=Tryz.isAgg21
 z21:=Tryz.sizeOf21
 v21:=Tryz.zeroValue21
 t37:=Tryz.underlying49
 a37:=Tryz.isAgg49
 z37:=Tryz.sizeOf49
 v37:=Tryz.zeroValue49
 t46:=Tryz.underlying149
 a46:=Tryz.isAgg149
 z46:=Tryz.sizeOf149
 v46:=Tryz.zeroValue149
 t51:=Tryz.underlying119
 a51:=Tryz.isAgg119
 z51:=Tryz.sizeOf119
 v51:=Tryz.zeroValue119
 t53:=Tryz.underlying175
 a53:=Tryz.isAgg175
 z53:=Tryz.sizeOf175
 v53:=Tryz.zeroValue175
 t75:=Tryz.underlying105
 a75:=Tryz.isAgg105
 z75:=Tryz.sizeOf105
 v75:=Tryz.zeroValue105
 t85:=Tryz.underlying182
 a85:=Tryz.isAgg182
 z85:=Tryz.sizeOf182
 v85:=Tryz.zeroValue182
 t127:=Tryz.underlying114
 a127:=Tryz.isAgg114
 z127:=Tryz.sizeOf114
 v127:=Tryz.zeroValue114
 t143:=Tryz.underlying270
 a143:=Tryz.isAgg270
 z143:=Tryz.sizeOf270
 v143:=Tryz.zeroValue270
 t145:=Tryz.underlying272
 a145:=Tryz.isAgg272
 z145:=Tryz.sizeOf272
 v145:=Tryz.zeroValue272
 t167:=Tryz.underlying228
 a167:=Tryz.isAgg228
 z167:=Tryz.sizeOf228
 v167:=Tryz.zeroValue228
 t168:=Tryz.underlying231
 a168:=Tryz.isAgg231
 z168:=Tryz.sizeOf231
 v168:=Tryz.zeroValue231
 t171:=Tryz.underlying201
 a171:=Tryz.isAgg201
 z171:=Tryz.sizeOf201
 v171:=Tryz.zeroValue201
 t173:=Tryz.underlying204
 a173:=Tryz.isAgg204
 z173:=Tryz.sizeOf204
 v173:=Tryz.zeroValue204
 t175:=Tryz.underlying229
 a175:=Tryz.isAgg229
 z175:=Tryz.sizeOf229
 v175:=Tryz.zeroValue229
 t210:=Tryz.underlying251
 a210:=Tryz.isAgg251
 z210:=Tryz.sizeOf251
 v210:=Tryz.zeroValue251
 t212:=Tryz.underlying224
 a212:=Tryz.isAgg224
 z212:=Tryz.sizeOf224
 v212:=Tryz.zeroValue224
 t213:=Tryz.underlying225
 a213:=Tryz.isAgg225
 z213:=Tryz.sizeOf225
 t232:=Tryz.underlying268
 a232:=Tryz.isAgg268
 z232:=Tryz.sizeOf268
 v232:=Tryz.zeroValue268
 t233:=Tryz.underlying269
 a233:=Tryz.isAgg269
 z233:=Tryz.sizeOf269
 v233:=Tryz.zeroValue269
 g15:=by kernel_rfl
 g16:=by kernel_rfl
 g17:=by kernel_rfl
 g18:=by kernel_rfl
 g19:=by kernel_rfl
 t80:=Tryz.underlying70
 a80:=Tryz.isAgg70
 z80:=Tryz.sizeOf70
 v80:=Tryz.zeroValue70
 i0:=by kernel_rfl
 i2:=by kernel_rfl
 i3:=by kernel_rfl
 i4:=by kernel_rfl
 i5:=by kernel_rfl
 i9:=by kernel_rfl
 i20:=by kernel_rfl
 i21:=by kernel_rfl
 i37:=by kernel_rfl
 i46:=by kernel_rfl
 i51:=by kernel_rfl
 i53:=by kernel_rfl
 i75:=by kernel_rfl
 i80:=by kernel_rfl
 i85:=by kernel_rfl
 i127:=by kernel_rfl
 i143:=by kernel_rfl
 i145:=by kernel_rfl
 i167:=by kernel_rfl
 i168:=by kernel_rfl
 i171:=by kernel_rfl
 i173:=by kernel_rfl
 i175:=by kernel_rfl
 i210:=by kernel_rfl
 i212:=by kernel_rfl
 i232:=by kernel_rfl
 i233:=by kernel_rfl
 m15:=by kernel_rfl
 m16:=by kernel_rfl
 m17:=by kernel_rfl
 m18:=by kernel_rfl
 m19:=by kernel_rfl
 c0:=by kernel_rfl
 c2:=by kernel_rfl
 c3:=by kernel_rfl
 c4:=by kernel_rfl
 c5:=by kernel_rfl
 c9:=by kernel_rfl
 c20:=by kernel_rfl
 c21:=by kernel_rfl
 c37:=by kernel_rfl
 c46:=by kernel_rfl
 c51:=by kernel_rfl
 c53:=by kernel_rfl
 c75:=by kernel_rfl
 c80:=by kernel_rfl
 c85:=by kernel_rfl
 c127:=by kernel_rfl
 c143:=by kernel_rfl
 c145:=by kernel_rfl
 c167:=by kernel_rfl
 c168:=by kernel_rfl
 c171:=by kernel_rfl
 c173:=by kernel_rfl
 c175:=by kernel_rfl
 c210:=by kernel_rfl
 c212:=by kernel_rfl
 c213:=by kernel_rfl
 c232:=by kernel_rfl
 c233:=by kernel_rfl}
end Go.Proofs
namespace Go.Avm
open Go.Proofs Go.RowKit
def dv(acc:Nat)(l:List UInt8):Nat:=l.foldl (fun a c=>a*10+(c.toNat-48)) acc
theorem zZ(acc:Nat):dv acc []=acc:=by simp only[dv,List.foldl_nil]
theorem Bh(acc:Nat)(c:UInt8)(r:List UInt8):dv acc (c::r)=dv (acc*10+(c.toNat-48)) r:=by simp only[dv,List.foldl_cons]
theorem NQ(l:List UInt8):∀acc:Nat,acc≤dv acc l:=by
 induction l with
 |nil=>intro acc;rw[zZ];exact Nat.le_refl _
 |cons c r ih=>
  intro acc;have:=ih (acc*10+(c.toNat-48));rw[Bh];omega
theorem ph(b:UInt8):bM b=true↔48≤b.toNat∧b.toNat≤57:=by
 simp only[bM,Cy,Cz,Bool.and_eq_true,decide_eq_true_eq];omega
theorem E7(M:Nat)(hM:M=18446744073709551615):∀(l:List UInt8)(acc:Nat),(∀c∈l,bM c=true)→(dv acc l≤M→Lib.parseUintM M acc l= .ok (dv acc l))∧(acc≤M→M<dv acc l→Lib.parseUintM M acc l= .range)
 |[],acc,_=>⟨fun _=>by rw[zZ];rfl,fun h1 h2=>by rw[zZ]at h2;omega⟩
 |c::r,acc,h=>by
  have hc:=(ph c).1 (h c (by simp));have ih:=E7 M hM r (acc*10+(c.toNat-48)) (fun x hx=>h x (by simp[hx]));have hle:=NQ r (acc*10+(c.toNat-48));rw[Bh];generalize dv (acc*10+(c.toNat-48)) r=V at*;rw[Lib.parseUintM,if_pos hc];refine⟨fun h0=> ?_,fun h0 h1=> ?_⟩
  ·rw[if_neg (by omega),if_neg (by omega)]
   exact ih.1 h0
  ·split
   ·rfl
   ·split
    ·rfl
    ·exact ih.2 (by omega) h1
theorem E8(c:UInt8)(r:List UInt8)(h:∀x∈c::r,bM x=true):(dv 0 (c::r)<9223372036854775808→Lib.parseIntB 64 (c::r)= .ok (dv 0 (c::r):Int))∧(9223372036854775808≤dv 0 (c::r)→Lib.parseIntB 64 (c::r)= .range):=by
 have hc:=(ph c).1 (h c (by simp));have hm:=E7 _ (show(2^64-1:Nat)=18446744073709551615 from rfl) (c::r) 0 h;have hb:Lib.parseUintB 64 (c::r)=Lib.parseUintM (2^64-1) 0 (c::r):=by rw[Lib.parseUintB,if_neg (by simp)]
 have hx:(if c.toNat=43∨c.toNat=45 then r else c::r)=c::r:=if_neg (by omega);unfold Lib.parseIntB;simp only[hx,hb];generalize dv 0 (c::r)=V at*;have e1:(2^64-1:Nat)=18446744073709551615:=rfl;have e2:(2^(64-1):Nat)=9223372036854775808:=rfl;rw[e1]at hm ⊢;refine⟨fun h0=> ?_,fun h0=> ?_⟩
 ·rw[hm.1 (by omega)]
  simp only[e2];rw[if_neg (by omega),if_neg (by omega),if_neg (by omega)]
 ·by_cases h1:V≤18446744073709551615
  ·rw[hm.1 h1]
   simp only[e2];rw[if_pos (by omega)]
  ·rw[hm.2 (by omega) (by omega)]
theorem sS:cW Pg 93:=⟨Tryz.f93,Tryz.func93,by kernel_rfl,by kernel_rfl⟩
theorem KP{t:List UInt8}{I:Nat→Nat→Prop}{w:World}{u:Value}(h:DRep I w (.str t) u):∃s:ByteArray,u= .string s∧s.data.toList=t:=by
 cases h with
 |str _ s hs=>exact⟨s,rfl,hs⟩
theorem E9{k:IntKind}{n:Int}{I:Nat→Nat→Prop}{w:World}{u:Value}(h:DRep I w (.int k n) u):u= .int k n:=by
 cases h;rfl
theorem IH{t:List UInt8}{I:Nat→Nat→Prop}{w:World}{cargs:Array Value}(hs:cargs.size=3)(h:∀(i:Nat)(x:D)(u:Value),[D.str t, .int .i64 10, .int .i64 64][i]? =some x→cargs[i]? =some u→DRep I w x u):
    ∃s:ByteArray,cargs= #[.string s, .int .i64 10, .int .i64 64]∧s.data.toList=t:=by
 obtain⟨l⟩:=cargs;match l,hs with
 |[a,b,c],_=>
  obtain⟨s,rfl,hs⟩:=KP (h 0 _ a rfl rfl);have hb:=E9 (h 1 _ b rfl rfl);have hc:=E9 (h 2 _ c rfl rfl);subst hb;subst hc;exact⟨s,rfl,hs⟩
theorem Fa{I:Nat→Nat→Prop}{w:World}{a b:D}{x y:Value}(h1:DRep I w a x)(h2:DRep I w b y):q9 I w [a,b] (.tuple #[x,y]):=
 .inr ⟨by simp, #[x,y],rfl,rfl,fun i d u hd hu=>by
  match i with
  |0=>simp at hd hu;subst hd;subst hu;exact h1
  |1=>simp at hd hu;subst hd;subst hu;exact h2
  |i+2=>simp at hd⟩
theorem Hv(c:UInt8)(r:List UInt8)(h:∀x∈c::r,bM x=true)(hl:(c::r).length≤100000)(hv:dv 0 (c::r)<9223372036854775808):ax Pg 93 [.str (c::r), .int .i64 10, .int .i64 64] [.int .i64 (dv 0 (c::r):Int), .nili]:=by
 refine⟨sS,fun w I cargs hI hsz hargs hg=> ?_⟩;obtain⟨s,rfl,hs⟩:=IH hsz hargs;have hp:=(E8 c r h).1 hv;rw[←hs]at hp
 have hlen:s.size≤9223372036854775806:=by
  have:s.data.toList.length=(c::r).length:=by rw[hs]
  have h2:s.data.toList.length=s.size:=by rw[Array.length_toList];rfl
  omega
 refine(Any.strconv_ParseInt_10_at64_ok Tryz.lays174 s hlen _ hp w).mono ?_;rintro e w' ⟨rfl,hw⟩
 have hb:Below w.heap.size w w':=by
  rcases hw with rfl|⟨t,rfl⟩
  ·exact Below.refl _ _
  ·exact Lib.bytesWorld_below _ _ _
 refine⟨_,I,rfl,hb,fun _ _ x=>x,fun _ _ x=> .inl x,fun b o x=>Nat.lt_of_lt_of_le (hI b o x) hb.size,Fa ?_ .nili⟩;rw[hs];exact .int _ _
theorem Fb(c:UInt8)(r:List UInt8)(h:∀x∈c::r,bM x=true)(hl:(c::r).length≤100000)(hv:9223372036854775808≤dv 0 (c::r)):ax Pg 93 [.str (c::r), .int .i64 10, .int .i64 64] [.int .i64 9223372036854775807, .ifc]:=by
 refine⟨sS,fun w I cargs hI hsz hargs hg=> ?_⟩;obtain⟨s,rfl,hs⟩:=IH hsz hargs;have hp:=(E8 c r h).2 hv;rw[←hs]at hp
 have hlen:s.size≤281474976710656:=by
  have:s.data.toList.length=(c::r).length:=by rw[hs]
  have h2:s.data.toList.length=s.size:=by rw[Array.length_toList];rfl
  omega
 obtain⟨ty,v,hc⟩:∃ty v,w.cell? ⟨5,0,none⟩=some (.iface ty v):=by
  have h3:DRep I w (.rp [.ifc]) (.pointer (some ⟨5,0,none⟩)):=hg 5 [.ifc] rfl;cases h3 with
  |rp cs b o U h1 hi hc hr=>
   have h4:=hr 0 .ifc rfl;have h5:=hc 0 .ifc rfl;generalize U 0=u at h4 h5;cases h4 with
   |ifc t v=>exact⟨t,v,h5⟩
 have hsat:Lib.intSat 64 s.data.toList=9223372036854775807:=by
  have hd:=(ph c).1 (h c (by simp));rw[hs,Lib.intSat,if_neg (by simp only[List.head?_cons,Option.map_some,Option.some.injEq];omega)];rfl
 refine(Any.strconv_ParseInt_10_at64_range Tryz.lays174 s hlen hp (.iface ty v) w hc (.inr ⟨_,_,rfl⟩)).mono ?_;rintro e w' ⟨N,rfl,hN,hcell,hb⟩;refine⟨_,I,rfl,hb,fun _ _ x=>x,fun _ _ x=> .inl x,fun b o x=>Nat.lt_of_lt_of_le (hI b o x) hb.size,Fa ?_ (.ifc _ _)⟩;rw[hsat];exact .int _ _
end Go.Avm
