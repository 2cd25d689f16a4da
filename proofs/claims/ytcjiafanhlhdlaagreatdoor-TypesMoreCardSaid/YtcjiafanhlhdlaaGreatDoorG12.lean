/-
  Texts as programs: what the reader makes of expressions, whatever the tokens.
-/
import Derived.Test.YtcjiafanhlhdlaaGreatDoorG11
import Derived.Test.YtcjiafanhlhdlaaGreatDoorG08
import Derived.Test.YtcjiafanhlhdlaaGreatDoorG09
import Derived.IntWalk
import Derived.Shelf.LaysC
import Derived.Ground.NamesProg
import Derived.Shelf.Strconv.ParseIntPublic10
import Derived.Test.YtcjiafanhlhdlaaGreatDoorProg
set_option linter.unusedVariables false
set_option linter.unusedSimpArgs false
set_option linter.unusedSectionVars false
namespace Go.Avm
open Go.Proofs
def Tg(L:List T)(nm:List UInt8)(p:Int)(s:RS):Res (List Ex)→Prop
 | .ok r s'=>s'.i<L.length∧HC 42 [rP,Ds] (rd L s ++fD nm p) [] (rd L s' ++Pv nm p r)
 | .bad q t s'=>∃v,HX 42 [rP,Ds] (rd L s ++fD nm p) (dE q t) (rd L s' ++ko v)
 | .out=>True
abbrev eR:Ex→List D:=fun e=>[fW e]
structure F8(L:List T)(n:Nat):Prop where
 one:∀s:RS,s.i<L.length→RC L 128 [rP] eR s (eP L n s)
 place:∀s:RS,s.i<L.length→RC L 131 [rP] eR s (cP L n s)
 call:∀(nm:List UInt8)(p:Int)(s:RS),s.i<L.length→RC L 130 [rP, .d (.str nm),dI p] eR s (du L n nm p s)
 expr:∀(k:Int)(s:RS),s.i<L.length→RC L 100 [rP,dI k] eR s (bv L n k s)
 tail:∀(k:Int)(e:Ex)(s:RS),s.i<L.length→I3 L k s e (dw L n k e s)
 args:∀(nm:List UInt8)(p:Int)(s:RS),s.i<L.length→Tg L nm p s (eS L n s)
 more:∀(nm:List UInt8)(p:Int)(r:List Ex)(s:RS),s.i<L.length→r.length≤s.i→r≠[]→Mv L nm p s r (d8 L n r s)
theorem F9{L:List T}(hL:dF L){n:Nat}(h:F8 L n)(nm:List UInt8)(p:Int)(s:RS)(l:s.i<L.length):Tg L nm p s (eS L (n+1) s):=by
 simp only[eS];have c1:=cw l hL [40];have g1:=aO L [40] s;revert c1 g1;cases aE L [40] s with
 |out=>exact fun _ _=>trivial
 |bad q t s1=>exact fun c1 _=>⟨0,R7 nm p c1⟩
 |ok t1 s1=>
  intro c1 g1;have g1:=g1 t1 s1 rfl;have l1:=c1.1;simp only[Res.bind];cases h41:isT L s1 [41]with
  |true=>
   have c2:=cw l1 hL [41];simp only[cond_true];revert c2;cases aE L [41] s1 with
   |out=>exact fun _=>trivial
   |bad q t s2=>exact fun c2=>⟨0,R9 nm p l1 c1.2 h41 c2⟩
   |ok t2 s2=>exact fun c2=>⟨c2.1,R8 nm p l1 c1.2 h41 c2.2⟩
  |false=>
   have c2:=h.expr 1 s1 l1;have g2:=uT L n 1 s1;simp only[cond_false];revert c2 g2;cases bv L n 1 s1 with
   |out=>exact fun _ _=>trivial
   |bad q t s2=>exact fun c2 _=>⟨0,Sa nm p l1 c1.2 h41 (Pw nm p q t s2 c2)⟩
   |ok e s2=>
    intro c2 g2;have g2:=g2 e s2 rfl;have k2:=R4 nm p e s2 c2.2;have c3:=h.more nm p [e] s2 c2.1 (by simp only[List.length_cons,List.length_nil];omega) (by simp);simp only;revert c3;cases d8 L n [e] s2 with
    |out=>exact fun _=>trivial
    |bad q t s3=>exact fun ⟨v,c3⟩=>⟨v,Sb nm p l1 c1.2 h41 e k2 v c3⟩
    |ok r s3=>
     rintro⟨l3,hne,c3⟩;have c4:=cw l3 hL [41];simp only;revert c4;cases aE L [41] s3 with
     |out=>exact fun _=>trivial
     |bad q t s4=>exact fun c4=>⟨_,Sc nm p l1 c1.2 h41 e k2 r c3 c4⟩
     |ok t4 s4=>
      intro c4
      have hr:Pv nm p r=dG nm p r:=by
       cases r with
       |nil=>exact absurd rfl hne
       |cons a b=>rfl
      refine⟨c4.1, ?_⟩;rw[hr];exact Sd nm p l1 c1.2 h41 e k2 r c3 c4.2
theorem Ga{L:List T}{n:Nat}(h:F8 L n)(nm:List UInt8)(p:Int)(s:RS)(l:s.i<L.length):RC L 130 [rP, .d (.str nm),dI p] eR s (du L (n+1) nm p s):=by
 simp only[du];have c:=h.args nm p s l;revert c;cases eS L n s with
 |out=>exact fun _=>trivial
 |bad q t s1=>exact fun ⟨v,c⟩=>PA nm p v c
 |ok r s1=>
  intro c;refine⟨c.1, ?_⟩;cases r with
  |nil=>exact Py nm p c.2
  |cons a b=>exact Pz nm p (a::b) c.2
theorem lK{L:List T}(hL:dF L):∀n,F8 L n
 |0=>⟨fun _ _=>trivial,fun _ _=>trivial,fun _ _ _ _=>trivial,fun _ _ _=>trivial,fun _ _ _ _=>trivial,fun _ _ _ _=>trivial,fun _ _ _ _ _ _ _=>trivial⟩
 |n+1=>by
  have h:=lK hL n;exact⟨I1 hL n h.one h.expr h.place h.call,Dr hL n h.expr,Ga h,F5 hL n h.one h.tail,F4 hL n h.expr h.tail,F9 hL h,fun nm p=>F7 hL nm p n h.expr (h.more nm p)⟩
end Go.Avm
namespace Go.Avm
open Go.Proofs
def RCp{α:Type}(L:List T)(f:Nat)(args:List AV)(pre:List (Nat×aN))(post:α→List (Nat×aN))(bd:List (Nat×aN))(g:α→List D)(s:RS):Res α→Prop
 | .ok a s'=>s'.i<L.length∧HC f args (rd L s ++pre) (g a) (rd L s' ++post a)
 | .bad p e s'=>HX f args (rd L s ++pre) (dE p e) (rd L s' ++bd)
 | .out=>True
section
variable{L:List T}{F:Nat}{args:List AV}{s0:RS}{α β:Type}{g:α→List D}{pre:List (Nat×aN)}{post:α→List (Nat×aN)}{bd:List (Nat×aN)}
theorem RCp.bind{f':Nat}{args':List AV}{g':β→List D}{s:RS}{r:Res β}{k:β→RS→Res α}(h:RC L f' args' g' s r)
    (hb:∀p e s',(HX f' args' (rd L s) (dE p e) (rd L s'))→HX F args (rd L s0 ++pre) (dE p e) (rd L s' ++bd))
    (hk:∀a s',s'.i<L.length→(HC f' args' (rd L s) (g' a) (rd L s'))→RCp L F args pre post bd g s0 (k a s')):RCp L F args pre post bd g s0 (r.bind k):=by
 cases r with
 |ok a s'=>exact hk a s' h.1 h.2
 |bad p e s'=>exact hb p e s' h
 |out=>trivial
theorem RCp.bindp{f':Nat}{args':List AV}{pre':List (Nat×aN)}{post':β→List (Nat×aN)}{bd':List (Nat×aN)}{g':β→List D}{s:RS}{r:Res β}{k:β→RS→Res α}(h:RCp L f' args' pre' post' bd' g' s r)
    (hb:∀p e s',(HX f' args' (rd L s ++pre') (dE p e) (rd L s' ++bd'))→HX F args (rd L s0 ++pre) (dE p e) (rd L s' ++bd))
    (hk:∀a s',s'.i<L.length→(HC f' args' (rd L s ++pre') (g' a) (rd L s' ++post' a))→RCp L F args pre post bd g s0 (k a s')):RCp L F args pre post bd g s0 (r.bind k):=by
 cases r with
 |ok a s'=>exact hk a s' h.1 h.2
 |bad p e s'=>exact hb p e s' h
 |out=>trivial
theorem RCp.may{s:RS}(hi:s.i<L.length)(hL:dF L)(x:List UInt8){X Y:RS→Res α}
    (hb:∀p e s',(HX 45 [rP, .d (.str x)] (rd L s) (dE p e) (rd L s'))→HX F args (rd L s0 ++pre) (dE p e) (rd L s' ++bd))
    (hT:∀s',s'.i<L.length→(HC 45 [rP, .d (.str x)] (rd L s) [.bool true] (rd L s'))→RCp L F args pre post bd g s0 (X s'))
    (hF:isT L s x=false→RCp L F args pre post bd g s0 (Y s)):RCp L F args pre post bd g s0 ((ci L x s).bind fun b s1=>bif b then X s1 else Y s1):=by
 have h:=OQ hi hL x;revert h;unfold ci;cases hx:isT L s x with
 |false=>exact fun _=>hF hx
 |true=>
  simp only[cond_true];cases aE L x s with
  |ok t s'=>exact fun h=>hT s' h.1 h.2
  |bad p e s'=>exact fun h=>hb p e s' h
  |out=>exact fun _=>trivial
theorem RCp.ite{c:Bool}{X Y:Res α}(hT:c=true→RCp L F args pre post bd g s0 X)(hF:c=false→RCp L F args pre post bd g s0 Y):RCp L F args pre post bd g s0 (bif c then X else Y):=by
 cases h:c with
 |true=>exact hT h
 |false=>exact hF h
end
abbrev kE:List (Nat×aN):=[(300000,⟨1,none⟩)]
abbrev kV(l:List Int):AV:= .vec 300000 1 1 (l.map fun k=> .int .u8 k)
abbrev kG:Int→List D:=fun k=>[.int .u8 k]
section
variable{L:List T}(hL:dF L)
include hL
theorem Kp(s:RS)(l:s.i<L.length):RCp L 44 [rP,kV [1,2,3]] kE (fun _=>kE) kE kG s (dP L [1,2,3] s):=by
 simp only[dP];refine RCp.may l hL (dM 1) ?_ ?_ ?_
 ·exact fun _ _ _ c=>qX {pans:=au Pg [(44,4,310168,⟨3,some (bi c),[]⟩)]} 310000
 ·intro s1 l1 c1
  exact⟨l1,qN {calls:=tC [(44,16,310210,af c1)]} 310000⟩
 ·intro h1
  refine RCp.may l hL (dM 2) ?_ ?_ ?_
  ·exact fun _ _ _ c=>qX {calls:=tC [(44,16,310210,af (ah l (dM 1) h1))],pans:=au Pg [(44,4,310336,⟨3,some (bi c),[]⟩)]} 310000
  ·intro s2 l2 c2
   exact⟨l2,qN {calls:=tC [(44,16,310210,af (ah l (dM 1) h1)),(44,16,310378,af c2)]} 310000⟩
  ·intro h2
   refine RCp.may l hL (dM 3) ?_ ?_ ?_
   ·exact fun _ _ _ c=>qX {calls:=tC [(44,16,310210,af (ah l (dM 1) h1)),(44,16,310378,af (ah l (dM 2) h2))],pans:=au Pg [(44,4,310504,⟨3,some (bi c),[]⟩)]} 310000
   ·intro s3 l3 c3
    exact⟨l3,qN {calls:=tC [(44,16,310210,af (ah l (dM 1) h1)),(44,16,310378,af (ah l (dM 2) h2)),(44,16,310546,af c3)]} 310000⟩
   ·intro h3
    exact(qX {calls:=tC [(44,16,310210,af (ah l (dM 1) h1)),(44,16,310378,af (ah l (dM 2) h2)),(44,16,310546,af (ah l (dM 3) h3))],pans:=au Pg [(44,7,310609,⟨1,some (bi (IT l)),[]⟩)]} 310000:HX 44 [rP,kV [1,2,3]] (rd L s ++kE) (dE (bt L s).p 4) (rd L s ++kE))
theorem PB(s:RS)(l:s.i<L.length):RCp L 44 [rP,kV [1,2]] kE (fun _=>kE) kE kG s (dP L [1,2] s):=by
 simp only[dP];refine RCp.may l hL (dM 1) ?_ ?_ ?_
 ·exact fun _ _ _ c=>qX {pans:=au Pg [(44,4,310168,⟨3,some (bi c),[]⟩)]} 310000
 ·intro s1 l1 c1
  exact⟨l1,qN {calls:=tC [(44,16,310210,af c1)]} 310000⟩
 ·intro h1
  refine RCp.may l hL (dM 2) ?_ ?_ ?_
  ·exact fun _ _ _ c=>qX {calls:=tC [(44,16,310210,af (ah l (dM 1) h1))],pans:=au Pg [(44,4,310336,⟨3,some (bi c),[]⟩)]} 310000
  ·intro s2 l2 c2
   exact⟨l2,qN {calls:=tC [(44,16,310210,af (ah l (dM 1) h1)),(44,16,310378,af c2)]} 310000⟩
  ·intro h2
   exact(qX {calls:=tC [(44,16,310210,af (ah l (dM 1) h1)),(44,16,310378,af (ah l (dM 2) h2))],pans:=au Pg [(44,7,310441,⟨1,some (bi (IT l)),[]⟩)]} 310000:HX 44 [rP,kV [1,2]] (rd L s ++kE) (dE (bt L s).p 4) (rd L s ++kE))
end
def Se:bu→List AV
 | .mk k id nm ty n p es bd el=>[u8 k,dI id, .d (.str nm),u8 ty,dI n,dI p, .d (.ro (i7 es)), .d (.ro (ep bd)), .d (.ro (ep el))]
abbrev Th(a:bu):List (Nat×aN):=[(2235,⟨1,some (.arr 1 (Se a))⟩)]
abbrev Ti(id p:Int):List (Nat×aN):=[(2235,⟨1,some (.arr 1 [u8 0,dI id, .d (.str []),u8 0,dI 0,dI p, .nils, .nils, .nils])⟩)]
abbrev Tj:List (Nat×aN):=[(2235,⟨1,none⟩)]
section
variable{L:List T}(hL:dF L)
include hL
theorem PC(n:Nat)(id p:Int)(s:RS)(l:s.i<L.length):RCp L 99 [rP,pC 2235] (Ti id p) Th Tj (fun _=>[]) s (ip L n id p s):=by
 unfold ip;refine RCp.bind (ql l hL 1 (by decide)) ?_ ?_
 ·exact fun _ _ _ c=>qX {pans:=au Pg [(99,0,299385,⟨3,some (bi c),[]⟩)]} 299385
 ·intro t s1 l1 c1
  refine RCp.bind (cw l1 hL [58]) ?_ ?_
  ·exact fun _ _ _ c=>qX {calls:=tC [(99,7,299523,af c1)],pans:=au Pg [(99,1,299845,⟨1,some (bi c),[]⟩)]} 299385
  ·intro _ s2 l2 c2
   refine RCp.bindp (Kp hL _ l2) ?_ ?_
   ·exact fun _ _ _ c=>qX {calls:=tC [(99,7,299523,af c1),(99,14,299891,af c2)],pans:=au Pg [(99,2,299891,⟨3,some (bi c),[]⟩)]} 299385
   ·intro ty s3 l3 c3
    refine RCp.ite (fun h4=> ?_) (fun h4=> ?_)
    ·
     refine RCp.bind (cw l3 hL [91]) ?_ ?_
     ·exact fun _ _ _ c=>qX {hint:=qT 99 [(25,qB h4)],calls:=tC [(99,7,299523,af c1),(99,14,299891,af c2),(99,18,300029,af c3)],pans:=au Pg [(99,4,300397,⟨1,some (bi c),[]⟩)]} 299385
     ·intro _ s5 l5 c5
      refine RCp.bind (ql l5 hL 3 (by decide)) ?_ ?_
      ·exact fun _ _ _ c=>qX {hint:=qT 99 [(25,qB h4)],calls:=tC [(99,7,299523,af c1),(99,14,299891,af c2),(99,18,300029,af c3),(99,27,300443,af c5)],pans:=au Pg [(99,5,300443,⟨2,some (bi c),[]⟩)]} 299385
      ·intro m s6 l6 c6
       refine RCp.bind (cw l6 hL [93]) ?_ ?_
       ·exact fun _ _ _ c=>qX {hint:=qT 99 [(25,qB h4)],calls:=tC [(99,7,299523,af c1),(99,14,299891,af c2),(99,18,300029,af c3),(99,27,300443,af c5),(99,30,300535,af c6)],pans:=au Pg [(99,6,300719,⟨1,some (bi c),[]⟩)]} 299385
       ·intro _ s7 l7 c7
        refine RCp.bind (cw l7 hL [59]) ?_ ?_
        ·exact fun _ _ _ c=>qX {hint:=qT 99 [(25,qB h4)],calls:=tC [(99,7,299523,af c1),(99,14,299891,af c2),(99,18,300029,af c3),(99,27,300443,af c5),(99,30,300535,af c6),(99,35,300765,af c7)],pans:=au Pg [(99,9,300765,⟨1,some (bi c),[]⟩)]} 299385
        ·intro _ s8 l8 c8
         exact⟨l8,cp aD named {hint:=qT 99 [(25,qB h4)],calls:=tC [(99,7,299523,af c1),(99,14,299891,af c2),(99,18,300029,af c3),(99,27,300443,af c5),(99,30,300535,af c6),(99,35,300765,af c7),(99,45,300811,af c8)]} 2000 299385 _ 1000000 ([(2235,6),(2235,7),(2235,8)]) ⟨rfl,rfl,rfl,by kernel_rfl,by kernel_rfl,by kernel_rfl⟩ (fun _=>by kernel_rfl)⟩
    ·
     refine RCp.may l3 hL [61] ?_ ?_ ?_
     ·exact fun _ _ _ c=>qX {hint:=qT 99 [(25,qB h4)],calls:=tC [(99,7,299523,af c1),(99,14,299891,af c2),(99,18,300029,af c3)],pans:=au Pg [(99,7,300397,⟨1,some (bi c),[]⟩)]} 299385
     ·intro s5 l5 c5
      refine RCp.bind ((lK hL n).expr 1 _ l5) ?_ ?_
      ·exact fun _ _ _ c=>qX {hint:=qT 99 [(25,qB h4)],calls:=tC [(99,7,299523,af c1),(99,14,299891,af c2),(99,18,300029,af c3),(99,37,300443,af c5)],pans:=au Pg [(99,8,300443,⟨2,some (bi c),[]⟩)]} 299385
      ·intro x s6 l6 c6
       obtain⟨kx,ox,nmx,nx,px,xsx⟩:=x;refine RCp.bind (cw l6 hL [59]) ?_ ?_
       ·exact fun _ _ _ c=>qX {hint:=qT 99 [(25,qB h4)],calls:=tC [(99,7,299523,af c1),(99,14,299891,af c2),(99,18,300029,af c3),(99,37,300443,af c5),(99,40,300535,af c6)],pans:=au Pg [(99,9,300719,⟨1,some (bi c),[]⟩)]} 299385
       ·intro _ s7 l7 c7
        exact⟨l7,cp aD named {hint:=qT 99 [(25,qB h4)],calls:=tC [(99,7,299523,af c1),(99,14,299891,af c2),(99,18,300029,af c3),(99,37,300443,af c5),(99,40,300535,af c6),(99,45,300765,af c7)]} 2000 299385 _ 1000000 ([(2235,6),(2235,7),(2235,8)]) ⟨rfl,rfl,rfl,by kernel_rfl,by kernel_rfl,by kernel_rfl⟩ (fun _=>by kernel_rfl)⟩
     ·intro h5
      refine RCp.bind (cw l3 hL [59]) ?_ ?_
      ·exact fun _ _ _ c=>qX {hint:=qT 99 [(25,qB h4)],calls:=tC [(99,7,299523,af c1),(99,14,299891,af c2),(99,18,300029,af c3),(99,37,300443,af (ah l3 [61] h5))],pans:=au Pg [(99,9,300443,⟨1,some (bi c),[]⟩)]} 299385
      ·intro _ s6 l6 c6
       exact⟨l6,cp aD named {hint:=qT 99 [(25,qB h4)],calls:=tC [(99,7,299523,af c1),(99,14,299891,af c2),(99,18,300029,af c3),(99,37,300443,af (ah l3 [61] h5)),(99,45,300489,af c6)]} 2000 299385 _ 1000000 ([(2235,6),(2235,7),(2235,8)]) ⟨rfl,rfl,rfl,by kernel_rfl,by kernel_rfl,by kernel_rfl⟩ (fun _=>by kernel_rfl)⟩
theorem Gb(n:Nat)(id p:Int)(s:RS)(l:s.i<L.length):RCp L 101 [rP,pC 2235] (Ti id p) Th Tj (fun _=>[]) s (cE L n id p s):=by
 unfold cE;refine RCp.bind (ql l hL 1 (by decide)) ?_ ?_
 ·exact fun _ _ _ c=>qX {pans:=au Pg [(101,0,10000,⟨1,some (bi c),[]⟩)]} 10000
 ·intro t s1 l1 c1
  refine RCp.ite (fun h2=> ?_) (fun h2=> ?_)
  ·
   refine RCp.bind ((lK hL n).call t.t p _ l1) ?_ ?_
   ·exact fun _ _ _ c=>qX {calls:=tC [(101,7,10064,af c1),(101,26,10256,af (aW l1 [40] h2))],pans:=au Pg [(101,5,10320,⟨8,some (bi c),[]⟩)]} 10000
   ·intro x s3 l3 c3
    obtain⟨kx,ox,nmx,nx,px,xsx⟩:=x;refine RCp.bind (cw l3 hL [59]) ?_ ?_
    ·exact fun _ _ _ c=>qX {calls:=tC [(101,7,10064,af c1),(101,26,10256,af (aW l1 [40] h2)),(101,35,10832,af c3)],pans:=au Pg [(101,11,11280,⟨1,some (bi c),[]⟩)]} 10000
    ·intro _ s4 l4 c4
     exact⟨l4,cp aD named {calls:=tC [(101,7,10064,af c1),(101,26,10256,af (aW l1 [40] h2)),(101,35,10832,af c3),(101,63,11344,af c4)]} 2000 10000 _ 1000000 ([(2235,6),(2235,7),(2235,8)]) ⟨rfl,rfl,rfl,by kernel_rfl,by kernel_rfl,by kernel_rfl⟩ (fun _=>by kernel_rfl)⟩
  ·
   refine RCp.ite (fun h3=> ?_) (fun h3=> ?_)
   ·
    refine RCp.bind ((lK hL n).place _ l1) ?_ ?_
    ·exact fun _ _ _ c=>qX {calls:=tC [(101,7,10064,af c1),(101,26,10256,af (aW l1 [40] h2)),(101,43,10384,af (aW l1 [91] h3))],pans:=au Pg [(101,8,11024,⟨1,some (bi c),[]⟩)]} 10000
    ·intro x s4 l4 c4
     obtain⟨kx,ox,nmx,nx,px,xsx⟩:=x;refine RCp.bind (cw l4 hL [61]) ?_ ?_
     ·exact fun _ _ _ c=>qX {calls:=tC [(101,7,10064,af c1),(101,26,10256,af (aW l1 [40] h2)),(101,43,10384,af (aW l1 [91] h3)),(101,52,11088,af c4)],pans:=au Pg [(101,9,11216,⟨1,some (bi c),[]⟩)]} 10000
     ·intro _ s5 l5 c5
      refine RCp.bind ((lK hL n).expr 1 _ l5) ?_ ?_
      ·exact fun _ _ _ c=>qX {calls:=tC [(101,7,10064,af c1),(101,26,10256,af (aW l1 [40] h2)),(101,43,10384,af (aW l1 [91] h3)),(101,52,11088,af c4),(101,54,11280,af c5)],pans:=au Pg [(101,10,11280,⟨3,some (bi c),[]⟩)]} 10000
      ·intro y s6 l6 c6
       obtain⟨ky,oy,nmy,ny,py,xsy⟩:=y;refine RCp.bind (cw l6 hL [59]) ?_ ?_
       ·exact fun _ _ _ c=>qX {calls:=tC [(101,7,10064,af c1),(101,26,10256,af (aW l1 [40] h2)),(101,43,10384,af (aW l1 [91] h3)),(101,52,11088,af c4),(101,54,11280,af c5),(101,58,11472,af c6)],pans:=au Pg [(101,11,11728,⟨1,some (bi c),[]⟩)]} 10000
       ·intro _ s7 l7 c7
        exact⟨l7,cp aD named {calls:=tC [(101,7,10064,af c1),(101,26,10256,af (aW l1 [40] h2)),(101,43,10384,af (aW l1 [91] h3)),(101,52,11088,af c4),(101,54,11280,af c5),(101,58,11472,af c6),(101,63,11792,af c7)]} 2000 10000 _ 1000000 ([(2235,6),(2235,7),(2235,8)]) ⟨rfl,rfl,rfl,by kernel_rfl,by kernel_rfl,by kernel_rfl⟩ (fun _=>by kernel_rfl)⟩
   ·
    refine RCp.bind (cw l1 hL [61]) ?_ ?_
    ·exact fun _ _ _ c=>qX {calls:=tC [(101,7,10064,af c1),(101,26,10256,af (aW l1 [40] h2)),(101,43,10384,af (aW l1 [91] h3))],pans:=au Pg [(101,2,11024,⟨1,some (bi c),[]⟩)]} 10000
    ·intro _ s4 l4 c4
     refine RCp.bind ((lK hL n).expr 1 _ l4) ?_ ?_
     ·exact fun _ _ _ c=>qX {calls:=tC [(101,7,10064,af c1),(101,26,10256,af (aW l1 [40] h2)),(101,43,10384,af (aW l1 [91] h3)),(101,17,11088,af c4)],pans:=au Pg [(101,3,11088,⟨2,some (bi c),[]⟩)]} 10000
     ·intro x s5 l5 c5
      obtain⟨kx,ox,nmx,nx,px,xsx⟩:=x;refine RCp.bind (cw l5 hL [59]) ?_ ?_
      ·exact fun _ _ _ c=>qX {calls:=tC [(101,7,10064,af c1),(101,26,10256,af (aW l1 [40] h2)),(101,43,10384,af (aW l1 [91] h3)),(101,17,11088,af c4),(101,20,11216,af c5)],pans:=au Pg [(101,11,11472,⟨1,some (bi c),[]⟩)]} 10000
      ·intro _ s6 l6 c6
       exact⟨l6,cp aD named {calls:=tC [(101,7,10064,af c1),(101,26,10256,af (aW l1 [40] h2)),(101,43,10384,af (aW l1 [91] h3)),(101,17,11088,af c4),(101,20,11216,af c5),(101,63,11536,af c6)]} 2000 10000 _ 1000000 ([(2235,6),(2235,7),(2235,8)]) ⟨rfl,rfl,rfl,by kernel_rfl,by kernel_rfl,by kernel_rfl⟩ (fun _=>by kernel_rfl)⟩
end
end Go.Avm
namespace Go.Avm
open Go.Proofs
abbrev sR:bu→List D:=fun x=>[yp x]
abbrev bR:List bu→List D:=fun l=>[.ro (ep l)]
theorem RC.bindp{L:List T}{F:Nat}{args:List AV}{s0:RS}{α β:Type}{g:α→List D}{f':Nat}{args':List AV}{pre':List (Nat×aN)}{post':β→List (Nat×aN)}{bd':List (Nat×aN)}{g':β→List D}{s:RS}{r:Res β}{k:β→RS→Res α}(h:RCp L f' args' pre' post' bd' g' s r)
    (hb:∀p e s',(HX f' args' (rd L s ++pre') (dE p e) (rd L s' ++bd'))→HX F args (rd L s0) (dE p e) (rd L s'))
    (hk:∀a s',s'.i<L.length→(HC f' args' (rd L s ++pre') (g' a) (rd L s' ++post' a))→RC L F args g s0 (k a s')):RC L F args g s0 (r.bind k):=by
 cases r with
 |ok a s'=>exact hk a s' h.1 h.2
 |bad p e s'=>exact hb p e s' h
 |out=>trivial
section
variable{L:List T}(hL:dF L)
include hL
theorem Gc(n:Nat)(ihB:∀s:RS,s.i<L.length→RC L 46 [rP] bR s (bM L n s))(s0:RS)(l0:s0.i<L.length):RC L 72 [rP] sR s0 (ej L (n+1) s0):=by
 have l:s0.st.i<L.length:=l0;simp only[ej];refine RC.may l hL [108,101,116] ?_ ?_ ?_
 ·exact fun _ _ _ c=>qX {calls:=tC [(72,16,2078,bh rfl (br l))],pans:=au Pg [(72,4,2386,⟨1,some (bi c),[]⟩)]} 1000
 ·intro s1 l1 c1
  refine RC.bindp (PC hL n s0.st.n (bt L s0.st).p _ l1) ?_ ?_
  ·exact fun _ _ _ c=>qX {calls:=tC [(72,16,2078,bh rfl (br l)),(72,23,2463,af c1)],pans:=au Pg [(72,5,2540,⟨1,some (bi c),[]⟩)]} 1000
  ·intro x s2 l2 c2
   obtain⟨xk,xid,xnm,xty,xn,xp,xes,xbd,xel⟩:=x;exact⟨l2,qN {calls:=tC [(72,16,2078,bh rfl (br l)),(72,23,2463,af c1),(72,25,2617,af c2)]} 1000⟩
 ·intro h1
  refine RC.may l hL [105,102] ?_ ?_ ?_
  ·exact fun _ _ _ c=>qX {calls:=tC [(72,16,2078,bh rfl (br l)),(72,23,2463,af (ah l [108,101,116] h1))],pans:=au Pg [(72,6,2540,⟨1,some (bi c),[]⟩)]} 1000
  ·intro s2 l2 c2
   refine RC.bind ((lK hL n).expr 1 _ l2) ?_ ?_
   ·exact fun _ _ _ c=>qX {calls:=tC [(72,16,2078,bh rfl (br l)),(72,23,2463,af (ah l [108,101,116] h1)),(72,28,2617,af c2)],pans:=au Pg [(72,7,2694,⟨1,some (bi c),[]⟩)]} 1000
   ·intro x s3 l3 c3
    obtain⟨kx,ox,nmx,nx,px,xsx⟩:=x;refine RC.bind (ihB _ l3) ?_ ?_
    ·exact fun _ _ _ c=>qX {calls:=tC [(72,16,2078,bh rfl (br l)),(72,23,2463,af (ah l [108,101,116] h1)),(72,28,2617,af c2),(72,30,2771,af c3)],pans:=au Pg [(72,8,3156,⟨1,some (bi c),[]⟩)]} 1000
    ·intro b1 s4 l4 c4
     refine RC.may l4 hL [101,108,115,101] ?_ ?_ ?_
     ·exact fun _ _ _ c=>qX {calls:=tC [(72,16,2078,bh rfl (br l)),(72,23,2463,af (ah l [108,101,116] h1)),(72,28,2617,af c2),(72,30,2771,af c3),(72,35,3233,af c4)],pans:=au Pg [(72,9,3387,⟨1,some (bi c),[]⟩)]} 1000
     ·intro s5 l5 c5
      refine RC.bind (ihB _ l5) ?_ ?_
      ·exact fun _ _ _ c=>qX {calls:=tC [(72,16,2078,bh rfl (br l)),(72,23,2463,af (ah l [108,101,116] h1)),(72,28,2617,af c2),(72,30,2771,af c3),(72,35,3233,af c4),(72,38,3464,af c5)],pans:=au Pg [(72,10,3464,⟨1,some (bi c),[]⟩)]} 1000
      ·intro b2 s6 l6 c6
       exact⟨l6,qN {calls:=tC [(72,16,2078,bh rfl (br l)),(72,23,2463,af (ah l [108,101,116] h1)),(72,28,2617,af c2),(72,30,2771,af c3),(72,35,3233,af c4),(72,38,3464,af c5),(72,40,3541,af c6)]} 1000⟩
     ·intro h5
      exact⟨l4,qN {calls:=tC [(72,16,2078,bh rfl (br l)),(72,23,2463,af (ah l [108,101,116] h1)),(72,28,2617,af c2),(72,30,2771,af c3),(72,35,3233,af c4),(72,38,3464,af (ah l4 [101,108,115,101] h5))]} 1000⟩
  ·intro h2
   refine RC.may l hL [119,104,105,108,101] ?_ ?_ ?_
   ·exact fun _ _ _ c=>qX {calls:=tC [(72,16,2078,bh rfl (br l)),(72,23,2463,af (ah l [108,101,116] h1)),(72,28,2617,af (ah l [105,102] h2))],pans:=au Pg [(72,11,2694,⟨1,some (bi c),[]⟩)]} 1000
   ·intro s3 l3 c3
    refine RC.bind ((lK hL n).expr 1 _ l3) ?_ ?_
    ·exact fun _ _ _ c=>qX {calls:=tC [(72,16,2078,bh rfl (br l)),(72,23,2463,af (ah l [108,101,116] h1)),(72,28,2617,af (ah l [105,102] h2)),(72,44,2771,af c3)],pans:=au Pg [(72,12,2848,⟨1,some (bi c),[]⟩)]} 1000
    ·intro x s4 l4 c4
     obtain⟨kx,ox,nmx,nx,px,xsx⟩:=x;refine RC.bind (ihB _ l4) ?_ ?_
     ·exact fun _ _ _ c=>qX {calls:=tC [(72,16,2078,bh rfl (br l)),(72,23,2463,af (ah l [108,101,116] h1)),(72,28,2617,af (ah l [105,102] h2)),(72,44,2771,af c3),(72,46,2925,af c4)],pans:=au Pg [(72,13,3310,⟨1,some (bi c),[]⟩)]} 1000
     ·intro b1 s5 l5 c5
      exact⟨l5,qN {calls:=tC [(72,16,2078,bh rfl (br l)),(72,23,2463,af (ah l [108,101,116] h1)),(72,28,2617,af (ah l [105,102] h2)),(72,44,2771,af c3),(72,46,2925,af c4),(72,51,3387,af c5)]} 1000⟩
   ·intro h3
    refine RC.may l hL [114,101,116,117,114,110] ?_ ?_ ?_
    ·exact fun _ _ _ c=>qX {calls:=tC [(72,16,2078,bh rfl (br l)),(72,23,2463,af (ah l [108,101,116] h1)),(72,28,2617,af (ah l [105,102] h2)),(72,44,2771,af (ah l [119,104,105,108,101] h3))],pans:=au Pg [(72,14,2848,⟨1,some (bi c),[]⟩)]} 1000
    ·intro s4 l4 c4
     refine RC.ite (fun h5=> ?_) (fun h5=> ?_)
     ·
      refine RC.bind (cw l4 hL [59]) ?_ ?_
      ·exact fun _ _ _ c=>qX {calls:=tC [(72,16,2078,bh rfl (br l)),(72,23,2463,af (ah l [108,101,116] h1)),(72,28,2617,af (ah l [105,102] h2)),(72,44,2771,af (ah l [119,104,105,108,101] h3)),(72,55,2925,af c4),(72,58,3233,af (aW l4 [59] h5))],pans:=au Pg [(72,18,3310,⟨1,some (bi c),[]⟩)]} 1000
      ·intro _ s6 l6 c6
       exact⟨l6,qN {calls:=tC [(72,16,2078,bh rfl (br l)),(72,23,2463,af (ah l [108,101,116] h1)),(72,28,2617,af (ah l [105,102] h2)),(72,44,2771,af (ah l [119,104,105,108,101] h3)),(72,55,2925,af c4),(72,58,3233,af (aW l4 [59] h5)),(72,65,3387,af c6)]} 1000⟩
     ·
      refine RC.bind ((lK hL n).expr 1 _ l4) ?_ ?_
      ·exact fun _ _ _ c=>qX {calls:=tC [(72,16,2078,bh rfl (br l)),(72,23,2463,af (ah l [108,101,116] h1)),(72,28,2617,af (ah l [105,102] h2)),(72,44,2771,af (ah l [119,104,105,108,101] h3)),(72,55,2925,af c4),(72,58,3233,af (aW l4 [59] h5))],pans:=au Pg [(72,17,3310,⟨1,some (bi c),[]⟩)]} 1000
      ·intro x s6 l6 c6
       obtain⟨kx,ox,nmx,nx,px,xsx⟩:=x;refine RC.bind (cw l6 hL [59]) ?_ ?_
       ·exact fun _ _ _ c=>qX {calls:=tC [(72,16,2078,bh rfl (br l)),(72,23,2463,af (ah l [108,101,116] h1)),(72,28,2617,af (ah l [105,102] h2)),(72,44,2771,af (ah l [119,104,105,108,101] h3)),(72,55,2925,af c4),(72,58,3233,af (aW l4 [59] h5)),(72,61,3387,af c6)],pans:=au Pg [(72,18,3618,⟨1,some (bi c),[]⟩)]} 1000
       ·intro _ s7 l7 c7
        exact⟨l7,qN {calls:=tC [(72,16,2078,bh rfl (br l)),(72,23,2463,af (ah l [108,101,116] h1)),(72,28,2617,af (ah l [105,102] h2)),(72,44,2771,af (ah l [119,104,105,108,101] h3)),(72,55,2925,af c4),(72,58,3233,af (aW l4 [59] h5)),(72,61,3387,af c6),(72,65,3695,af c7)]} 1000⟩
    ·intro h4
     refine RC.may l hL [112,114,105,110,116] ?_ ?_ ?_
     ·exact fun _ _ _ c=>qX {calls:=tC [(72,16,2078,bh rfl (br l)),(72,23,2463,af (ah l [108,101,116] h1)),(72,28,2617,af (ah l [105,102] h2)),(72,44,2771,af (ah l [119,104,105,108,101] h3)),(72,55,2925,af (ah l [114,101,116,117,114,110] h4))],pans:=au Pg [(72,19,3002,⟨1,some (bi c),[]⟩)]} 1000
     ·intro s5 l5 c5
      refine RC.bind ((lK hL n).expr 1 _ l5) ?_ ?_
      ·exact fun _ _ _ c=>qX {calls:=tC [(72,16,2078,bh rfl (br l)),(72,23,2463,af (ah l [108,101,116] h1)),(72,28,2617,af (ah l [105,102] h2)),(72,44,2771,af (ah l [119,104,105,108,101] h3)),(72,55,2925,af (ah l [114,101,116,117,114,110] h4)),(72,68,3079,af c5)],pans:=au Pg [(72,20,3156,⟨1,some (bi c),[]⟩)]} 1000
      ·intro x s6 l6 c6
       obtain⟨kx,ox,nmx,nx,px,xsx⟩:=x;refine RC.bind (cw l6 hL [59]) ?_ ?_
       ·exact fun _ _ _ c=>qX {calls:=tC [(72,16,2078,bh rfl (br l)),(72,23,2463,af (ah l [108,101,116] h1)),(72,28,2617,af (ah l [105,102] h2)),(72,44,2771,af (ah l [119,104,105,108,101] h3)),(72,55,2925,af (ah l [114,101,116,117,114,110] h4)),(72,68,3079,af c5),(72,70,3233,af c6)],pans:=au Pg [(72,21,3618,⟨1,some (bi c),[]⟩)]} 1000
       ·intro _ s7 l7 c7
        exact⟨l7,qN {calls:=tC [(72,16,2078,bh rfl (br l)),(72,23,2463,af (ah l [108,101,116] h1)),(72,28,2617,af (ah l [105,102] h2)),(72,44,2771,af (ah l [119,104,105,108,101] h3)),(72,55,2925,af (ah l [114,101,116,117,114,110] h4)),(72,68,3079,af c5),(72,70,3233,af c6),(72,75,3695,af c7)]} 1000⟩
     ·intro h5
      refine RC.bindp (Gb hL n s0.st.n (bt L s0.st).p _ l) ?_ ?_
      ·exact fun _ _ _ c=>qX {calls:=tC [(72,16,2078,bh rfl (br l)),(72,23,2463,af (ah l [108,101,116] h1)),(72,28,2617,af (ah l [105,102] h2)),(72,44,2771,af (ah l [119,104,105,108,101] h3)),(72,55,2925,af (ah l [114,101,116,117,114,110] h4)),(72,68,3079,af (ah l [112,114,105,110,116] h5))],pans:=au Pg [(72,3,3156,⟨1,some (bi c),[]⟩)]} 1000
      ·intro x s6 l6 c6
       obtain⟨xk,xid,xnm,xty,xn,xp,xes,xbd,xel⟩:=x;exact⟨l6,qN {calls:=tC [(72,16,2078,bh rfl (br l)),(72,23,2463,af (ah l [108,101,116] h1)),(72,28,2617,af (ah l [105,102] h2)),(72,44,2771,af (ah l [119,104,105,108,101] h3)),(72,55,2925,af (ah l [114,101,116,117,114,110] h4)),(72,68,3079,af (ah l [112,114,105,110,116] h5)),(72,20,3233,af c6)]} 1000⟩
end
def AN(l:List bu):List (Nat×AV):=[(0,rP),(3, .vec 200000 l.length 9 (ep l))]
abbrev xt(v:Nat):List (Nat×aN):=[(200000,⟨v,none⟩)]
def Sg(L:List T)(s:RS)(r:List bu):Res (List bu)→Prop
 | .ok r2 s'=>s'.i<L.length∧RL 17 (lO 46 3) (AN r) (rd L s ++xt r.length) (.exit 0) (AN r2) (rd L s' ++xt r2.length)
 | .bad q t s'=>∃v,RL 17 (lO 46 3) (AN r) (rd L s ++xt r.length) (.panic (dE q t)) [] (rd L s' ++xt v)
 | .out=>True
noncomputable def Mx{L:List T}{s:RS}{r:List bu}{hp':List (Nat×aN)}{x:aG}{l':List (Nat×AV)}(h:RL 17 (lO 46 3) (AN r) (rd L s ++xt r.length) x l' hp'):d7 Pg:=
 ⟨17,bO Pg 46 3,AN r,fun _=>rd L s ++xt r.length,x,l',fun _=>hp',fun rest X hP hN=>(h rest X hP hN).aw⟩
section
variable{L:List T}{s:RS}(l:s.i<L.length)(r:List bu)
include l
theorem My(h:isT L s [125]=true):RE 17 (lO 46 3) (AN r) (rd L s ++xt r.length) (.exit 0) (AN r) (rd L s ++xt r.length):=
 qE {calls:=tC [(46,7,3017,af (aW l [125] h))]} 46 3000
theorem PD(h:isT L s [125]=false){q t:Int}{s2:RS}(c:HX 72 [rP] (rd L s) (dE q t) (rd L s2)):RE 17 (lO 46 3) (AN r) (rd L s ++xt r.length) (.panic (dE q t)) [] (rd L s2 ++xt r.length):=
 qE {calls:=tC [(46,7,3017,af (aW l [125] h))],pans:=au Pg [(46,4,3034,⟨2,some (bi c),[]⟩)]} 46 3000
theorem PE(h:isT L s [125]=false)(hr:r.length<1000000)(k id:Int)(nm:List UInt8)(ty n p:Int)(es:List Ex)(bd el:List bu){s2:RS}(c:HC 72 [rP] (rd L s) [yp (.mk k id nm ty n p es bd el)] (rd L s2)):RE 17 (lO 46 3) (AN r) (rd L s ++xt r.length) .normal [(0,rP),(3, .vec 200000 (r.length+1) 9 (ep r ++[yp (.mk k id nm ty n p es bd el)]))] (rd L s2 ++xt (r.length+1)):=
 qE {hint:=qT 46 [(13, .app (ep r) 1 (by rw[md];omega))],calls:=tC [(46,7,3017,af (aW l [125] h)),(46,11,3068,af c)]} 46 3000
theorem Sh(h:isT L s [125]=false)(hr:r.length<1000000)(x:bu){s2:RS}(c:HC 72 [rP] (rd L s) [yp x] (rd L s2)):RE 17 (lO 46 3) (AN r) (rd L s ++xt r.length) .normal (AN (r ++[x])) (rd L s2 ++xt (r ++[x]).length):=by
 obtain⟨k,id,nm,ty,n,p,es,bd,el⟩:=x;have e1:(r ++[bu.mk k id nm ty n p es bd el]).length=r.length+1:=by simp
 have e2:ep (r ++[bu.mk k id nm ty n p es bd el])=ep r ++[yp (.mk k id nm ty n p es bd el)]:=by rw[H1];rfl
 simp only[AN,e1,e2];exact PE l r h hr k id nm ty n p es bd el c
end
section
variable{L:List T}{s s1 s2 s3:RS}{t1 t2:T}{q t:Int}(c1:HC 40 [rP, .d (.str [123])] (rd L s) [tD t1] (rd L s1))
theorem Si(c:HX 40 [rP, .d (.str [123])] (rd L s) (dE q t) (rd L s1)):HX 46 [rP] (rd L s) (dE q t) (rd L s1):=
 qX {pans:=au Pg [(46,2,1034,⟨1,some (bi c),[]⟩)]} 1000
include c1
theorem Sj(v:Nat)(h:RL 17 (lO 46 3) (AN []) (rd L s1 ++xt ([]:List bu).length) (.panic (dE q t)) [] (rd L s2 ++xt v)):HX 46 [rP] (rd L s) (dE q t) (rd L s2):=
 qX {nils:=fun f r=>if f=46 then (if r=2 then some ⟨0,3,200000,9,true,false⟩else none)else none,loops:=fun f q=>if f=46 then (if q=3 then some (Mx h)else none)else none,calls:=tC [(46,5,1051,af c1)]} 1000
section
variable(r:List bu)(h:RL 17 (lO 46 3) (AN []) (rd L s1 ++xt ([]:List bu).length) (.exit 0) (AN r) (rd L s2 ++xt r.length))
include r h
theorem Sk(c:HX 40 [rP, .d (.str [125])] (rd L s2) (dE q t) (rd L s3)):HX 46 [rP] (rd L s) (dE q t) (rd L s3):=
 qX {nils:=fun f r=>if f=46 then (if r=2 then some ⟨0,3,200000,9,true,false⟩else none)else none,loops:=fun f q=>if f=46 then (if q=3 then some (Mx h)else none)else none,calls:=tC [(46,5,1051,af c1)],pans:=au Pg [(46,5,1051,⟨1,some (bi c),[]⟩)]} 1000
theorem Sl(c:HC 40 [rP, .d (.str [125])] (rd L s2) [tD t2] (rd L s3)):HC 46 [rP] (rd L s) [.ro (ep r)] (rd L s3):=
 qN {nils:=fun f r=>if f=46 then (if r=2 then some ⟨0,3,200000,9,true,false⟩else none)else none,loops:=fun f q=>if f=46 then (if q=3 then some (Mx h)else none)else none,calls:=tC [(46,5,1051,af c1),(46,15,1068,af c)]} 1000
end
end
structure PF(L:List T)(n:Nat):Prop where
 block:∀s:RS,s.i<L.length→RC L 46 [rP] bR s (bM L n s)
 stmts:∀(r:List bu)(s:RS),s.i<L.length→r.length≤s.i→Sg L s r (cF L n r s)
 stmt:∀s:RS,s.i<L.length→RC L 72 [rP] sR s (ej L n s)
theorem yV{L:List T}(hL:dF L):∀n,PF L n
 |0=>⟨fun _ _=>trivial,fun _ _ _ _=>trivial,fun _ _=>trivial⟩
 |n+1=>by
  obtain⟨ihB,ihS,ihT⟩:=yV hL n;refine⟨fun s l=> ?_,fun r s l hr=> ?_,Gc hL n ihB⟩
  ·simp only[bM]
   have c1:=cw l hL [123];revert c1;cases aE L [123] s with
   |out=>exact fun _=>trivial
   |bad q t s1=>exact fun c1=>Si c1
   |ok t1 s1=>
    intro c1;have c2:=ihS [] s1 c1.1 (Nat.zero_le _);simp only[Res.bind];revert c2;cases cF L n [] s1 with
    |out=>exact fun _=>trivial
    |bad q t s2=>exact fun ⟨v,c2⟩=>Sj c1.2 v c2
    |ok r s2=>
     intro c2;have c3:=cw c2.1 hL [125];simp only;revert c3;cases aE L [125] s2 with
     |out=>exact fun _=>trivial
     |bad q t s3=>exact fun c3=>Sk c1.2 r c2.2 c3
     |ok t2 s3=>exact fun c3=>⟨c3.1,Sl c1.2 r c2.2 c3.2⟩
  ·simp only[cF]
   have hlen:r.length<1000000:=by have:=hL.len;omega
   cases h:isT L s [125]with
   |true=>exact⟨l,fun rest X hP hN=>aY (My l r h rest X hP hN) (by simp)⟩
   |false=>
    have c1:=ihT s l;have g1:=(me L n).2.2 s;simp only[cond_false];revert c1 g1;cases ej L n s with
    |out=>exact fun _ _=>trivial
    |bad q t s1=>exact fun c1 _=>⟨_,fun rest X hP hN=>aY (PD l r h c1 rest X hP hN) (by simp)⟩
    |ok x s1=>
     intro c1 g1;have g1:=g1 x s1 rfl;have c2:=ihS (r ++[x]) s1 c1.1 (by simp only[List.length_append,List.length_cons,List.length_nil];omega);have hgo:=Sh l r h hlen x c1.2;simp only[Res.bind];revert c2;cases cF L n (r ++[x]) s1 with
     |out=>exact fun _=>trivial
     |bad q t s2=>exact fun ⟨v,c2⟩=>⟨v,fun rest X hP hN=>ba (hgo rest X hP hN) (c2 rest X hP hN)⟩
     |ok r2 s2=>exact fun c2=>⟨c2.1,fun rest X hP hN=>ba (hgo rest X hP hN) (c2.2 rest X hP hN)⟩
end Go.Avm
namespace Go.Avm
open Go.Proofs
abbrev pz(r:List Pm):List D:=r.map jL
abbrev jv(nm:List UInt8)(p:Int)(v:Nat)(l:List D):List (Nat×aN):=[(299842,⟨1,some (.arr 1 [.d (.str nm), .vec 400000 v 3 l,u8 0, .nils,dI p])⟩),(299672,⟨1,some (.arr 1 [rP])⟩),(400000,⟨v,none⟩)]
abbrev Dt(v:Nat):List (Nat×aN):=[(299842,⟨1,none⟩),(299672,⟨1,none⟩),(400000,⟨v,none⟩)]
abbrev qQ:AV:= .fn 43 [pC 299672,pC 299842]
section
variable{L:List T}(hL:dF L)
include hL
theorem Gd(nm:List UInt8)(p:Int)(r:List Pm)(hr:r.length<1000000)(s:RS)(l:s.i<L.length):RCp L 43 [pC 299672,pC 299842] (jv nm p r.length (pz r)) (fun x=>jv nm p (r.length+1) (pz r ++[jL x])) (Dt r.length) (fun _=>[]) s (eW L s):=by
 unfold eW;refine RCp.bind (ql l hL 1 (by decide)) ?_ ?_
 ·exact fun _ _ _ c=>qX {pans:=au Pg [(43,0,299808,⟨1,some (bi c),[]⟩)]} 299808
 ·intro t s1 l1 c1
  refine RCp.bind (cw l1 hL [58]) ?_ ?_
  ·exact fun _ _ _ c=>qX {calls:=tC [(43,4,299828,af c1)],pans:=au Pg [(43,1,299868,⟨1,some (bi c),[]⟩)]} 299808
  ·intro _ s2 l2 c2
   refine RCp.bindp (Kp hL _ l2) ?_ ?_
   ·exact fun _ _ _ c=>qX {calls:=tC [(43,4,299828,af c1),(43,6,299888,af c2)],pans:=au Pg [(43,2,299888,⟨6,some (bi c),[7,8]⟩)]} 299808
   ·intro ty s3 l3 c3
    exact⟨l3,qN {hint:=qT 43 [(18, .app (pz r) 1 (by simp only[List.length_map];omega))],calls:=tC [(43,4,299828,af c1),(43,6,299888,af c2),(43,13,300008,af c3)]} 299808⟩
end
def Ge:List (Nat×AV):=[(0,rP),(1,qQ)]
def PH(L:List T)(nm:List UInt8)(p:Int)(s:RS)(r:List Pm):Res (List Pm)→Prop
 | .ok r2 s'=>s'.i<L.length∧RL 17 (lO 42 3) Ge (rd L s ++jv nm p r.length (pz r)) (.exit 0) [(0,rP)] (rd L s' ++jv nm p r2.length (pz r2))
 | .bad q t s'=>∃v,RL 17 (lO 42 3) Ge (rd L s ++jv nm p r.length (pz r)) (.panic (dE q t)) [] (rd L s' ++Dt v)
 | .out=>True
noncomputable def Mz{L:List T}{nm:List UInt8}{p:Int}{s:RS}{r:List Pm}{hp':List (Nat×aN)}{x:aG}{l':List (Nat×AV)}(h:RL 17 (lO 42 3) Ge (rd L s ++jv nm p r.length (pz r)) x l' (hp')):d7 Pg:=
 ⟨17,bO Pg 42 3,Ge,fun _=>rd L s ++jv nm p r.length (pz r),x,l',fun _=>hp',fun rest X hP hN=>(h rest X hP hN).aw⟩
section
variable{L:List T}{s:RS}(l:s.i<L.length)(nm:List UInt8)(p:Int)(r:List Pm)
include l
theorem MA(h:isT L s [44]=false):
    RE 17 (lO 42 3) Ge (rd L s ++jv nm p r.length (pz r)) (.exit 0) [(0,rP)] (rd L s ++jv nm p r.length (pz r)):=
 qE {calls:=tC [(42,12,3017,af (ah l [44] h))]} 42 3000
theorem MB(s1:RS)(c1:HC 45 [rP, .d (.str [44])] (rd L s) [.bool true] (rd L s1))(q t:Int)(s2:RS)(c:HX 43 [pC 299672,pC 299842] (rd L s1 ++jv nm p r.length (pz r)) (dE q t) (rd L s2 ++Dt r.length)):
    RE 17 (lO 42 3) Ge (rd L s ++jv nm p r.length (pz r)) (.panic (dE q t)) [] (rd L s2 ++Dt r.length):=
 qE {calls:=tC [(42,12,3017,af c1)],pans:=au Pg [(42,4,3017,⟨1,some (bi c),[]⟩)]} 42 3000
theorem Sm(s1:RS)(c1:HC 45 [rP, .d (.str [44])] (rd L s) [.bool true] (rd L s1))(x:Pm)(s2:RS)(c:HC 43 [pC 299672,pC 299842] (rd L s1 ++jv nm p r.length (pz r)) [] (rd L s2 ++jv nm p (r.length+1) (pz r ++[jL x]))):
    RE 17 (lO 42 3) Ge (rd L s ++jv nm p r.length (pz r)) .normal Ge (rd L s2 ++jv nm p (r.length+1) (pz r ++[jL x])):=
 qE {calls:=tC [(42,12,3017,af c1),(42,14,3034,af c)]} 42 3000
end
theorem B1(L:List T)(s:RS):Gr s (eW L s):=(iq L _ s).bind fun _ s1 _=>((aO L _ s1).bind fun _ s2 _=>((oA L _ s2).bind fun _ _ _=>Gq.ok _ _).le).le
section
variable{L:List T}(hL:dF L)(nm:List UInt8)(p:Int)
include hL
theorem Kq:∀(n:Nat)(r:List Pm)(s:RS),s.i<L.length→r.length≤s.i→PH L nm p s r (cG L n r s)
 |0,_,_,_,_=>trivial
 |n+1,r,s,l,hr=>by
  have hlen:r.length<1000000:=by have:=hL.len;omega
  simp only[cG,ci];cases h:isT L s [44]with
  |false=>exact⟨l,fun rest X hP hN=>aY (MA l nm p r h rest X hP hN) (by simp)⟩
  |true=>
   have hw:aE L [44] s= .ok (bt L s) s.nx:=by simp only[aE,h];rfl
   have hn:=wI hL l h;have c1:=mayT l [44] h (bt L s) s.nx (FO l hL [44] h rfl rfl rfl rfl rfl rfl);simp only[cond_true,hw,Res.bind];have c:=Gd hL nm p r hlen s.nx hn;have g:=B1 L s.nx;revert c g;cases eW L s.nx with
   |out=>exact fun _ _=>trivial
   |bad q t s2=>exact fun c _=>⟨_,fun rest X hP hN=>aY (MB l nm p r s.nx c1 q t s2 c rest X hP hN) (by simp)⟩
   |ok x s2=>
    intro c g;have g:=g x s2 rfl;have e1:(r ++[x]).length=r.length+1:=by simp
    have c2:=Kq n (r ++[x]) s2 c.1 (by simp only[RS.nx]at g;omega);have hgo:=Sm l nm p r s.nx c1 x s2 c.2;have e2:pz (r ++[x])=pz r ++[jL x]:=by simp[pz]
    simp only;unfold PH at c2 ⊢;simp only[e1,e2]at c2;revert c2;cases cG L n (r ++[x]) s2 with
    |out=>exact fun _=>trivial
    |bad q t s3=>exact fun ⟨v,c2⟩=>⟨v,fun rest X hP hN=>ba (hgo rest X hP hN) (c2 rest X hP hN)⟩
    |ok a s3=>exact fun c2=>⟨c2.1,fun rest X hP hN=>ba (hgo rest X hP hN) (c2.2 rest X hP hN)⟩
end
section
variable{L:List T}(nm:List UInt8)(p:Int){s s1 s2 s3 s4:RS}{t1 t2:T}{q t:Int}
theorem Sn(c:HX 40 [rP, .d (.str [40])] (rd L s) (dE q t) (rd L s1)):
    HX 42 [rP,qQ] (rd L s ++jv nm p 0 []) (dE q t) (rd L s1 ++Dt 0):=
 qX {pans:=au Pg [(42,0,1000,⟨1,some (bi c),[]⟩)]} 1000
section
variable(l1:s1.i<L.length)(c1:HC 40 [rP, .d (.str [40])] (rd L s) [tD t1] (rd L s1))
include l1 c1
theorem So(h:isT L s1 [41]=true)(c2:HC 40 [rP, .d (.str [41])] (rd L s1) [tD t2] (rd L s2)):
    HC 42 [rP,qQ] (rd L s ++jv nm p 0 []) [] (rd L s2 ++jv nm p 0 []):=
 qN {calls:=tC [(42,5,1017,af c1),(42,7,1034,af (aW l1 [41] h)),(42,16,1068,af c2)]} 1000
theorem Sq(h:isT L s1 [41]=true)(c2:HX 40 [rP, .d (.str [41])] (rd L s1) (dE q t) (rd L s2)):
    HX 42 [rP,qQ] (rd L s ++jv nm p 0 []) (dE q t) (rd L s2 ++Dt 0):=
 qX {calls:=tC [(42,5,1017,af c1),(42,7,1034,af (aW l1 [41] h))],pans:=au Pg [(42,5,1051,⟨1,some (bi c2),[]⟩)]} 1000
theorem Sr(h:isT L s1 [41]=false)(c2:HX 43 [pC 299672,pC 299842] (rd L s1 ++jv nm p 0 []) (dE q t) (rd L s2 ++Dt 0)):
    HX 42 [rP,qQ] (rd L s ++jv nm p 0 []) (dE q t) (rd L s2 ++Dt 0):=
 qX {calls:=tC [(42,5,1017,af c1),(42,7,1034,af (aW l1 [41] h))],pans:=au Pg [(42,2,1051,⟨1,some (bi c2),[]⟩)]} 1000
theorem Ss(h0:isT L s1 [41]=false)(x:Pm)(c2:HC 43 [pC 299672,pC 299842] (rd L s1 ++jv nm p 0 []) [] (rd L s2 ++jv nm p 1 [jL x]))(v:Nat)(h:RL 17 (lO 42 3) Ge (rd L s2 ++jv nm p [x].length (pz [x])) (.panic (dE q t)) [] (rd L s3 ++Dt v)):
    HX 42 [rP,qQ] (rd L s ++jv nm p 0 []) (dE q t) (rd L s3 ++Dt v):=
 qX {loops:=fun f q=>if f=42 then (if q=3 then some (Mz (r:=[x]) h)else none)else none,calls:=tC [(42,5,1017,af c1),(42,7,1034,af (aW l1 [41] h0)),(42,10,1068,af c2)]} 1000
theorem Su(h0:isT L s1 [41]=false)(x:Pm)(c2:HC 43 [pC 299672,pC 299842] (rd L s1 ++jv nm p 0 []) [] (rd L s2 ++jv nm p 1 [jL x]))(r:List Pm)(h:RL 17 (lO 42 3) Ge (rd L s2 ++jv nm p [x].length (pz [x])) (.exit 0) [(0,rP)] (rd L s3 ++jv nm p r.length (pz r)))(c3:HX 40 [rP, .d (.str [41])] (rd L s3) (dE q t) (rd L s4)):
    HX 42 [rP,qQ] (rd L s ++jv nm p 0 []) (dE q t) (rd L s4 ++Dt r.length):=
 qX {loops:=fun f q=>if f=42 then (if q=3 then some (Mz (r:=[x]) h)else none)else none,calls:=tC [(42,5,1017,af c1),(42,7,1034,af (aW l1 [41] h0)),(42,10,1068,af c2)],pans:=au Pg [(42,5,1068,⟨1,some (bi c3),[]⟩)]} 1000
theorem Sv(h0:isT L s1 [41]=false)(x:Pm)(c2:HC 43 [pC 299672,pC 299842] (rd L s1 ++jv nm p 0 []) [] (rd L s2 ++jv nm p 1 [jL x]))(r:List Pm)(h:RL 17 (lO 42 3) Ge (rd L s2 ++jv nm p [x].length (pz [x])) (.exit 0) [(0,rP)] (rd L s3 ++jv nm p r.length (pz r)))(c3:HC 40 [rP, .d (.str [41])] (rd L s3) [tD t2] (rd L s4)):
    HC 42 [rP,qQ] (rd L s ++jv nm p 0 []) [] (rd L s4 ++jv nm p r.length (pz r)):=
 qN {loops:=fun f q=>if f=42 then (if q=3 then some (Mz (r:=[x]) h)else none)else none,calls:=tC [(42,5,1017,af c1),(42,7,1034,af (aW l1 [41] h0)),(42,10,1068,af c2),(42,16,1085,af c3)]} 1000
end
end
def Tk(L:List T)(nm:List UInt8)(p:Int)(s:RS):Res (List Pm)→Prop
 | .ok r s'=>s'.i<L.length∧HC 42 [rP,qQ] (rd L s ++jv nm p 0 []) [] (rd L s' ++jv nm p r.length (pz r))
 | .bad q t s'=>∃v,HX 42 [rP,qQ] (rd L s ++jv nm p 0 []) (dE q t) (rd L s' ++Dt v)
 | .out=>True
theorem I7{L:List T}(hL:dF L)(n:Nat)(nm:List UInt8)(p:Int)(s:RS)(l:s.i<L.length):Tk L nm p s (cQ L n s):=by
 unfold cQ;have c1:=cw l hL [40];have g1:=aO L [40] s;revert c1 g1;cases aE L [40] s with
 |out=>exact fun _ _=>trivial
 |bad q t s1=>exact fun c1 _=>⟨0,Sn nm p c1⟩
 |ok t1 s1=>
  intro c1 g1;have g1:=g1 t1 s1 rfl;have l1:=c1.1;simp only[Res.bind];cases h41:isT L s1 [41]with
  |true=>
   have c2:=cw l1 hL [41];simp only[cond_true];revert c2;cases aE L [41] s1 with
   |out=>exact fun _=>trivial
   |bad q t s2=>exact fun c2=>⟨0,Sq nm p l1 c1.2 h41 c2⟩
   |ok t2 s2=>exact fun c2=>⟨c2.1,So nm p l1 c1.2 h41 c2.2⟩
  |false=>
   have c2:=Gd hL nm p [] (by decide) s1 l1;have g2:=B1 L s1;simp only[cond_false];revert c2 g2;cases eW L s1 with
   |out=>exact fun _ _=>trivial
   |bad q t s2=>exact fun c2 _=>⟨0,Sr nm p l1 c1.2 h41 c2⟩
   |ok x s2=>
    intro c2 g2;have g2:=g2 x s2 rfl;have c3:=Kq hL nm p n [x] s2 c2.1 (by simp only[List.length_cons,List.length_nil];omega);simp only;revert c3;cases cG L n [x] s2 with
    |out=>exact fun _=>trivial
    |bad q t s3=>exact fun ⟨v,c3⟩=>⟨v,Ss nm p l1 c1.2 h41 x c2.2 v c3⟩
    |ok r s3=>
     rintro⟨l3,c3⟩;have c4:=cw l3 hL [41];simp only;revert c4;cases aE L [41] s3 with
     |out=>exact fun _=>trivial
     |bad q t s4=>exact fun c4=>⟨_,Su nm p l1 c1.2 h41 x c2.2 r c3 c4⟩
     |ok t4 s4=>exact fun c4=>⟨c4.1,Sv nm p l1 c1.2 h41 x c2.2 r c3 c4.2⟩
end Go.Avm
namespace Go.Avm
open Go.Proofs
theorem RC.bindv{L:List T}{F:Nat}{args:List AV}{s0:RS}{α:Type}{g:α→List D}{nm:List UInt8}{p:Int}{s:RS}{r:Res (List Pm)}{k:List Pm→RS→Res α}(h:Tk L nm p s r)
    (hb:∀q e s' v,(HX 42 [rP,qQ] (rd L s ++jv nm p 0 []) (dE q e) (rd L s' ++Dt v))→HX F args (rd L s0) (dE q e) (rd L s'))
    (hk:∀a s',s'.i<L.length→(HC 42 [rP,qQ] (rd L s ++jv nm p 0 []) [] (rd L s' ++jv nm p a.length (pz a)))→RC L F args g s0 (k a s')):RC L F args g s0 (r.bind k):=by
 cases r with
 |ok a s'=>exact hk a s' h.1 h.2
 |bad q e s'=>obtain⟨v,h⟩:=h;exact hb q e s' v h
 |out=>trivial
abbrev fR:Fn→List D:=fun f=>[cW f]
section
variable{L:List T}(hL:dF L)
include hL
theorem Tl(n:Nat)(s:RS)(l:s.i<L.length):RC L 23 [rP] fR s (qg L n s):=by
 unfold qg;refine RC.bind (cw l hL [102,110]) ?_ ?_
 ·exact fun _ _ _ c=>qX {nils:=fun f r=>if f=23 then (if r=2 then some ⟨299842,1,400000,3,false,false⟩else none)else none,pans:=au Pg [(23,1,299719,⟨1,some (bi c),[3,7]⟩)]} 299671
 ·intro t s1 l1 c1
  refine RC.bind (ql l1 hL 1 (by decide)) ?_ ?_
  ·exact fun _ _ _ c=>qX {nils:=fun f r=>if f=23 then (if r=2 then some ⟨299842,1,400000,3,false,false⟩else none)else none,calls:=tC [(23,5,299743,af c1)],pans:=au Pg [(23,1,299719,⟨4,some (bi c),[7]⟩)]} 299671
  ·intro u s2 l2 c2
   refine RC.bindv (I7 hL n u.t t.p _ l2) ?_ ?_
   ·exact fun _ _ _ _ c=>qX {nils:=fun f r=>if f=23 then (if r=2 then some ⟨299842,1,400000,3,false,false⟩else none)else none,calls:=tC [(23,5,299743,af c1),(23,8,299791,af c2)],pans:=au Pg [(23,2,299887,⟨2,some (bi c),[]⟩)]} 299671
   ·intro ps s3 l3 c3
    refine RC.may l3 hL [58] ?_ ?_ ?_
    ·exact fun _ _ _ c=>qX {nils:=fun f r=>if f=23 then (if r=2 then some ⟨299842,1,400000,3,false,false⟩else none)else none,calls:=tC [(23,5,299743,af c1),(23,8,299791,af c2),(23,13,299935,af c3)],pans:=au Pg [(23,3,299935,⟨1,some (bi c),[]⟩)]} 299671
    ·intro s4 l4 c4
     refine RC.bindp (PB hL _ l4) ?_ ?_
     ·exact fun _ _ _ c=>qX {nils:=fun f r=>if f=23 then (if r=2 then some ⟨299842,1,400000,3,false,false⟩else none)else none,calls:=tC [(23,5,299743,af c1),(23,8,299791,af c2),(23,13,299935,af c3),(23,15,299959,af c4)],pans:=au Pg [(23,4,299959,⟨2,some (bi c),[]⟩)]} 299671
     ·intro k s5 l5 c5
      refine RC.bind ((yV hL n).block _ l5) ?_ ?_
      ·exact fun _ _ _ c=>qX {nils:=fun f r=>if f=23 then (if r=2 then some ⟨299842,1,400000,3,false,false⟩else none)else none,calls:=tC [(23,5,299743,af c1),(23,8,299791,af c2),(23,13,299935,af c3),(23,15,299959,af c4),(23,18,300007,af c5)],pans:=au Pg [(23,5,300055,⟨1,some (bi c),[]⟩)]} 299671
      ·intro b s6 l6 c6
       exact⟨l6,qN {nils:=fun f r=>if f=23 then (if r=2 then some ⟨299842,1,400000,3,false,false⟩else none)else none,calls:=tC [(23,5,299743,af c1),(23,8,299791,af c2),(23,13,299935,af c3),(23,15,299959,af c4),(23,18,300007,af c5),(23,21,300079,af c6)]} 299671⟩
    ·intro h4
     refine RC.bind ((yV hL n).block _ l3) ?_ ?_
     ·exact fun _ _ _ c=>qX {nils:=fun f r=>if f=23 then (if r=2 then some ⟨299842,1,400000,3,false,false⟩else none)else none,calls:=tC [(23,5,299743,af c1),(23,8,299791,af c2),(23,13,299935,af c3),(23,15,299959,af (ah l3 [58] h4))],pans:=au Pg [(23,5,299959,⟨1,some (bi c),[]⟩)]} 299671
     ·intro b s5 l5 c5
      exact⟨l5,qN {nils:=fun f r=>if f=23 then (if r=2 then some ⟨299842,1,400000,3,false,false⟩else none)else none,calls:=tC [(23,5,299743,af c1),(23,8,299791,af c2),(23,13,299935,af c3),(23,15,299959,af (ah l3 [58] h4)),(23,21,299983,af c5)]} 299671⟩
end
end Go.Avm
namespace Go.Avm
open Go.Proofs
abbrev xu(r:List Fn):List (Nat×aN):=[(499382,⟨1,some (.arr 1 [.vec 600000 r.length 5 (r.map cW)])⟩),(600000,⟨r.length,none⟩),(499423,⟨1,some (.arr 1 [dI 0])⟩),(499464,⟨1,some (.arr 1 [dI 0])⟩)]
abbrev Nr:List (Nat×AV):=[(2,pC 499382),(3,pC 499423),(4,pC 499464)]
abbrev DP:List (Nat×AV):=[(2,pC 499382),(3,pC 499423),(4,pC 499464),(6,rP)]
def Sw(L:List T)(s:RS)(r:List Fn):Res (List Fn)→Prop
 | .ok r2 s'=>RL 40 (lO 12 7) DP (rd L s ++xu r) (.exit 0) Nr (rd L s' ++xu r2)
 | .bad q t s'=>∃r2:List Fn,RL 40 (lO 12 7) DP (rd L s ++xu r) (.panic (dE q t)) Nr (rd L s' ++xu r2)
 | .out=>True
section
variable{L:List T}{s:RS}(l:s.i<L.length)(r:List Fn)
include l
theorem MC(h:((bt L s).k==0)=true):RE 40 (lO 12 7) DP (rd L s ++xu r) (.exit 0) Nr (rd L s ++xu r):=
 qE {hint:=qT 12 [(31,hB Pg ((bt L s).k !=0) false (by simpa using h))],calls:=tC [(12,29,3040,af (br l))]} 12 3000
theorem PJ(h:((bt L s).k==0)=false){q t:Int}{s2:RS}(c:HX 23 [rP] (rd L s) (dE q t) (rd L s2)):RE 40 (lO 12 7) DP (rd L s ++xu r) (.panic (dE q t)) Nr (rd L s2 ++xu r):=
 qE {hint:=qT 12 [(31,hB Pg ((bt L s).k !=0) true (by simpa using h))],calls:=tC [(12,29,3040,af (br l))],pans:=au Pg [(12,8,3120,⟨3,some (bi c),[]⟩)]} 12 3000
theorem PK(h:((bt L s).k==0)=false)(hr:r.length<1000000)(nm:List UInt8)(ps:List Pm)(k:Int)(bd:List bu)(p:Int){s2:RS}(c:HC 23 [rP] (rd L s) [cW ⟨nm,ps,k,bd,p⟩] (rd L s2)):RE 40 (lO 12 7) DP (rd L s ++xu r) .normal DP (rd L s2 ++[(499382,⟨1,some (.arr 1 [.vec 600000 (r.length+1) 5 (r.map cW ++[cW ⟨nm,ps,k,bd,p⟩])])⟩),(600000,⟨r.length+1,none⟩),(499423,⟨1,some (.arr 1 [dI 0])⟩),(499464,⟨1,some (.arr 1 [dI 0])⟩)]):=
 qE {hint:=qT 12 [(31,hB Pg ((bt L s).k !=0) true (by simpa using h)),(37, .app (r.map cW) 1 (by simp only[List.length_map];omega))],calls:=tC [(12,29,3040,af (br l)),(12,35,3240,af c)]} 12 3000
end
theorem Sx{L:List T}{s:RS}(l:s.i<L.length)(r:List Fn)(h:((bt L s).k==0)=false)(hr:r.length<1000000)(x:Fn){s2:RS}(c:HC 23 [rP] (rd L s) [cW x] (rd L s2)):RE 40 (lO 12 7) DP (rd L s ++xu r) .normal DP (rd L s2 ++xu (r ++[x])):=by
 obtain⟨nm,ps,k,bd,p⟩:=x;have e1:(r ++[Fn.mk nm ps k bd p]).length=r.length+1:=by simp
 have e2:(r ++[Fn.mk nm ps k bd p]).map cW=r.map cW ++[cW ⟨nm,ps,k,bd,p⟩]:=by simp
 have:=PK l r h hr nm ps k bd p c;simp only[xu,e1,e2];exact this
theorem Kr(L:List T)(n:Nat)(s:RS):Gr s (qg L n s):=by
 unfold qg
 have pp:∀(n:Nat)(r:List Pm)(s:RS),Gq s (cG L n r s):=fun n=>by
  induction n with
  |zero=>exact fun _ s=>Gq.out s
  |succ n ih=>
   intro r s;simp only[cG];intro a s' e;unfold ci at e;cases h:isT L s [44]<;>rw[h]at e
   ·cases e;exact Nat.le_refl _
   ·simp only[cond_true]at e
    cases hw:aE L [44] s<;>rw[hw]at e
    ·rename_i t s1
     exact Nat.le_trans (Nat.le_of_lt (aO L _ s t s1 hw)) (((B1 L s1).bind fun _ s2 _=>ih _ s2).le a s' e)
    ·cases e
    ·cases e
 refine(aO L _ s).bind fun t s1 _=>((iq L _ s1).bind fun u s2 _=>Gq.bindq (?_:Gq s2 (cQ L n s2)) fun ps s3 _=>(EB L _ s3).bindq fun b s4 _=>Gq.ite ((oA L _ s4).bind fun _ s5 _=>(((me L n).1 s5).bind fun _ _ _=>Gq.ok _ _).le).le (((me L n).1 s4).bind fun _ _ _=>Gq.ok _ _).le).le
 unfold cQ;exact((aO L _ s2).bind fun _ s3 _=>Gq.ite ((aO L _ s3).bind fun _ _ _=>Gq.ok _ _).le ((B1 L s3).bind fun _ s4 _=>(pp n _ s4).bindq fun _ s5 _=>((aO L _ s5).bind fun _ _ _=>Gq.ok _ _).le).le).le
section
variable{L:List T}(hL:dF L)
include hL
theorem Ks(N:Nat):∀(n:Nat)(r:List Fn)(s:RS),s.i<L.length→r.length≤s.i→Sw L s r (fA L N n r s)
 |0,_,_,_,_=>trivial
 |n+1,r,s,l,hr=>by
  have hlen:r.length<1000000:=by have:=hL.len;omega
  simp only[fA];cases h:((bt L s).k==0)with
  |true=>exact fun rest X hP hN=>aY (MC l r h rest X hP hN) (by simp)
  |false=>
   have c:=Tl hL N s l;have g:=Kr L N s;simp only[cond_false];revert c g;cases qg L N s with
   |out=>exact fun _ _=>trivial
   |bad q t s2=>exact fun c _=>⟨r,fun rest X hP hN=>aY (PJ l r h c rest X hP hN) (by simp)⟩
   |ok x s2=>
    intro c g;have g:=g x s2 rfl;have c2:=Ks N n (r ++[x]) s2 c.1 (by simp only[List.length_append,List.length_cons,List.length_nil];omega);have hgo:=Sx l r h hlen x c.2;simp only[Res.bind];revert c2;cases fA L N n (r ++[x]) s2 with
    |out=>exact fun _=>trivial
    |bad q t s3=>exact fun ⟨v,c2⟩=>⟨v,fun rest X hP hN=>ba (hgo rest X hP hN) (c2 rest X hP hN)⟩
    |ok a s3=>exact fun c2 rest X hP hN=>ba (hgo rest X hP hN) (c2 rest X hP hN)
end
noncomputable def PL{L:List T}{s:RS}{r:List Fn}{hp':List (Nat×aN)}{x:aG}{l':List (Nat×AV)}(h:RL 40 (lO 12 7) DP (rd L s ++xu r) x l' hp'):d7 Pg:=
 ⟨40,bO Pg 12 7,DP,fun _=>rd L s ++xu r,x,l',fun _=>hp',fun rest X hP hN=>(h rest X hP hN).aw⟩
section
variable{x:List UInt8}{L:List T}
theorem Gf{a e:Int}(he:(e !=0)=true)(hs:aK Pg 21 [.str x] [.ro [], .int .i64 a, .int .i64 e]):aK Pg 12 [.str x] [.agg [.ro []], .int .i64 a, .int .i64 e]:=
 qV {hint:=qT 12 [(9, .call 21 _ _ hs),(14,qB he)]} 499380
theorem MD{q t:Int}{s2:RS}(hs:aK Pg 21 [.str x] [sX L, .int .i64 0, .int .i64 0])(c:HX 23 [rP] (rd L ⟨0,0,0⟩) (dE q t) (rd L s2)):aK Pg 12 [.str x] [.agg [.ro []], .int .i64 q, .int .i64 t]:=
 qV {hint:=qT 12 [(9, .call 21 _ _ hs)],pans:=au Pg [(12,6,500060,⟨3,some (bi c),[]⟩)]} 499380
theorem ME{nm:List UInt8}{ps:List Pm}{k:Int}{bd:List bu}{p:Int}{q t:Int}{s1 s2:RS}{r2:List Fn}(hs:aK Pg 21 [.str x] [sX L, .int .i64 0, .int .i64 0])(c:HC 23 [rP] (rd L ⟨0,0,0⟩) [cW ⟨nm,ps,k,bd,p⟩] (rd L s1))
    (h:RL 40 (lO 12 7) DP (rd L s1 ++xu [⟨nm,ps,k,bd,p⟩]) (.panic (dE q t)) Nr (rd L s2 ++xu r2)):aK Pg 12 [.str x] [.agg [.ro []], .int .i64 q, .int .i64 t]:=
 qV {nils:=fun f r=>if f=12 then (if r=6 then some ⟨499382,0,600000,5,false,false⟩else none)else none,loops:=fun f q=>if f=12 then (if q=7 then some (PL h)else none)else none,hint:=qT 12 [(9, .call 21 _ _ hs)],calls:=tC [(12,24,500180,af c)]} 499380
theorem MF{nm:List UInt8}{ps:List Pm}{k:Int}{bd:List bu}{p:Int}{s1 s2:RS}{r2:List Fn}(hs:aK Pg 21 [.str x] [sX L, .int .i64 0, .int .i64 0])(c:HC 23 [rP] (rd L ⟨0,0,0⟩) [cW ⟨nm,ps,k,bd,p⟩] (rd L s1))
    (h:RL 40 (lO 12 7) DP (rd L s1 ++xu [⟨nm,ps,k,bd,p⟩]) (.exit 0) Nr (rd L s2 ++xu r2)):aK Pg 12 [.str x] [.agg [.ro (r2.map cW)], .int .i64 0, .int .i64 0]:=
 qV {nils:=fun f r=>if f=12 then (if r=6 then some ⟨499382,0,600000,5,false,false⟩else none)else none,loops:=fun f q=>if f=12 then (if q=7 then some (PL h)else none)else none,hint:=qT 12 [(9, .call 21 _ _ hs)],calls:=tC [(12,24,500180,af c)]} 499380
end
def Gg:Res (List Fn)→List D
 | .ok l _=>[.agg [.ro (l.map cW)], .int .i64 0, .int .i64 0]
 | .bad p e _=>[.agg [.ro []], .int .i64 p, .int .i64 e]
 | .out=>[]
theorem MG{x:List UInt8}{L:List T}(hL:dF L)(h0:0<L.length)(hs:aK Pg 21 [.str x] [sX L, .int .i64 0, .int .i64 0])(n:Nat)(hn:cT L n≠ .out):aK Pg 12 [.str x] (Gg (cT L n)):=by
 unfold cT at hn ⊢;have c:=Tl hL n ⟨0,0,0⟩ h0;have g:=Kr L n ⟨0,0,0⟩;revert c g hn;cases qg L n ⟨0,0,0⟩with
 |out=>exact fun hn _ _=>absurd rfl hn
 |bad q t s1=>exact fun _ c _=>MD hs c
 |ok f s1=>
  intro hn c g;have g:=g f s1 rfl;have c2:=Ks hL n n [f] s1 c.1 (by simp only[List.length_cons,List.length_nil];omega);obtain⟨nm,ps,k,bd,p⟩:=f;simp only[Res.bind]at hn ⊢;revert c2 hn;cases fA L n n [⟨nm,ps,k,bd,p⟩] s1 with
  |out=>exact fun hn _=>absurd rfl hn
  |bad q t s2=>exact fun _ ⟨r2,c2⟩=>ME hs c.2 c2
  |ok r2 s2=>exact fun _ c2=>MF hs c.2 c2
end Go.Avm
namespace Go.Avm
open Go.Proofs
def G1{α:Type}(L:List T)(s:RS)(r:Res α):Prop:=r≠ .out∧∀a s',r= .ok a s'→s.i<s'.i∧s'.i<L.length
def G0{α:Type}(L:List T)(s:RS)(r:Res α):Prop:=r≠ .out∧∀a s',r= .ok a s'→s.i≤s'.i∧s'.i<L.length
section
variable{L:List T}{α β:Type}{s:RS}
theorem G1.le{r:Res α}(h:G1 L s r):G0 L s r:=⟨h.1,fun a s' e=>⟨Nat.le_of_lt (h.2 a s' e).1,(h.2 a s' e).2⟩⟩
theorem G0.ok(a:α)(l:s.i<L.length):G0 L s (.ok a s):=⟨fun e=>(by cases e),fun _ _ e=>by cases e;exact⟨Nat.le_refl _,l⟩⟩
theorem G1.bind{r:Res α}{f:α→RS→Res β}(h:G1 L s r)(hf:∀a s',s.i<s'.i→s'.i<L.length→G0 L s' (f a s')):G1 L s (r.bind f):=by
 cases r with
 |ok a s'=>
  obtain⟨h1,h2⟩:=h.2 a s' rfl;obtain⟨h3,h4⟩:=hf a s' h1 h2;exact⟨h3,fun b s2 e=>⟨Nat.lt_of_lt_of_le h1 (h4 b s2 e).1,(h4 b s2 e).2⟩⟩
 |bad p q s'=>exact⟨fun e=>(by cases e),fun _ _ e=>by cases e⟩
 |out=>exact absurd rfl h.1
theorem G0.bind{r:Res α}{f:α→RS→Res β}(h:G0 L s r)(hf:∀a s',s.i≤s'.i→s'.i<L.length→G0 L s' (f a s')):G0 L s (r.bind f):=by
 cases r with
 |ok a s'=>
  obtain⟨h1,h2⟩:=h.2 a s' rfl;obtain⟨h3,h4⟩:=hf a s' h1 h2;exact⟨h3,fun b s2 e=>⟨Nat.le_trans h1 (h4 b s2 e).1,(h4 b s2 e).2⟩⟩
 |bad p q s'=>exact⟨fun e=>(by cases e),fun _ _ e=>by cases e⟩
 |out=>exact absurd rfl h.1
theorem G1.ite{c:Bool}{X Y:Res α}(hX:G1 L s X)(hY:G1 L s Y):G1 L s (bif c then X else Y):=by cases c<;>assumption
theorem G0.ite{c:Bool}{X Y:Res α}(hX:G0 L s X)(hY:G0 L s Y):G0 L s (bif c then X else Y):=by cases c<;>assumption
theorem G1.fail(l:s.i<L.length):G1 L s (fail L s:Res α):=⟨fun e=>(by cases e),fun _ _ e=>by cases e⟩
end
section
variable{L:List T}(hL:dF L)
include hL
theorem jt(x:List UInt8)(s:RS)(l:s.i<L.length):G1 L s (aE L x s):=by
 have h:=cw l hL x;have g:=aO L x s;revert h g;cases hw:aE L x s with
 |ok a s'=>exact fun h g=>⟨fun e=>(by cases e),fun b s2 e=>by cases e;exact⟨g _ _ rfl,h.1⟩⟩
 |bad p q s'=>exact fun _ _=>⟨fun e=>(by cases e),fun _ _ e=>by cases e⟩
 |out=>
  unfold aE at hw;cases h1:isT L s x<;>rw[h1]at hw
  ·cases hw
  ·simp only[cond_true]at hw
   cases h2:(x==[40]||x==[91]||x==[123])<;>rw[h2]at hw
   ·simp only[cond_false]at hw
    cases h3:(x==[41]||x==[93]||x==[125])<;>rw[h3]at hw<;>cases hw
   ·simp only[cond_true]at hw
    cases h3:decide (200<dD (s.op+1))<;>rw[h3]at hw<;>cases hw
theorem kp(k:Int)(hk:k≠0)(s:RS)(l:s.i<L.length):G1 L s (dt L k s):=by
 have h:=ql l hL k hk;have g:=iq L k s;revert h g;cases hw:dt L k s with
 |ok a s'=>exact fun h g=>⟨fun e=>(by cases e),fun b s2 e=>by cases e;exact⟨g _ _ rfl,h.1⟩⟩
 |bad p q s'=>exact fun _ _=>⟨fun e=>(by cases e),fun _ _ e=>by cases e⟩
 |out=>
  unfold dt at hw;cases h1:((bt L s).k==k)<;>rw[h1]at hw<;>cases hw
section
variable{α:Type}{x:List UInt8}{s:RS}(l:s.i<L.length){X Y:RS→Res α}(hX:∀s',s.i<s'.i→s'.i<L.length→G0 L s' (X s'))
include α x s l X Y hX
theorem G1.mayT(hY:G1 L s (Y s)):G1 L s ((ci L x s).bind fun b s1=>bif b then X s1 else Y s1):=by
 unfold ci;cases h:isT L s x with
 |false=>exact hY
 |true=>
  simp only[cond_true];have:=(jt hL x s l).bind (f:=fun _ s1=>X s1) fun _ s' h1 h2=>hX s' h1 h2
  revert this;cases aE L x s<;>exact fun h=>h
theorem G0.mayT(hY:G0 L s (Y s)):G0 L s ((ci L x s).bind fun b s1=>bif b then X s1 else Y s1):=by
 unfold ci;cases h:isT L s x with
 |false=>exact hY
 |true=>
  simp only[cond_true];have:=((jt hL x s l).bind (f:=fun _ s1=>X s1) fun _ s' h1 h2=>hX s' h1 h2).le;revert this;cases aE L x s<;>exact fun h=>h
end
theorem wX:∀(k:List Int)(s:RS),s.i<L.length→G1 L s (dP L k s)
 |[],s,l=>G1.fail l
 |k::r,s,l=>by
  simp only[dP];exact G1.mayT hL l (fun s' h1 h2=>G0.ok _ h2) (wX r s l)
structure GA(L:List T)(n:Nat):Prop where
 one:∀s:RS,s.i<L.length→4*(L.length-s.i)+1≤n→G1 L s (eP L n s)
 place:∀s:RS,s.i<L.length→4*(L.length-s.i)+1≤n→G1 L s (cP L n s)
 call:∀nm p (s:RS),s.i<L.length→4*(L.length-s.i)+2≤n→G1 L s (du L n nm p s)
 args:∀s:RS,s.i<L.length→4*(L.length-s.i)+1≤n→G1 L s (eS L n s)
 more:∀l (s:RS),s.i<L.length→4*(L.length-s.i)+1≤n→G0 L s (d8 L n l s)
 expr:∀k (s:RS),s.i<L.length→4*(L.length-s.i)+2≤n→G1 L s (bv L n k s)
 tail:∀k e (s:RS),s.i<L.length→4*(L.length-s.i)+1≤n→G0 L s (dw L n k e s)
theorem I8:∀n,GA L n
 |0=>⟨fun _ _ h=>by omega,fun _ _ h=>by omega,fun _ _ _ _ h=>by omega,fun _ _ h=>by omega,fun _ _ _ h=>by omega,fun _ _ _ h=>by omega,fun _ _ _ _ h=>by omega⟩
 |n+1=>by
  have ih:=I8 n;have W:=fun x s l=>jt hL x s l
  refine⟨fun s l h=> ?_,fun s l h=> ?_,fun nm p s l h=> ?_,fun s l h=> ?_,fun r s l h=> ?_,fun k s l h=> ?_,fun k e s l h=> ?_⟩
  ·simp only[eP]
   have un:∀(f:Ex→Ex) s',s.i<s'.i→s'.i<L.length→G0 L s' ((eP L n s').bind fun e s2=> .ok (f e) s2):=fun f s' h1 h2=>((ih.one s' h2 (by omega)).bind fun _ _ _ h4=>G0.ok _ h4).le
   refine G1.mayT hL l (fun s'=>un _ s') (G1.mayT hL l (fun s'=>un _ s') (G1.mayT hL l (fun s'=>un _ s') ?_));cases hk:((bt L s).k==3)with
   |true=>exact⟨fun e=>(by cases e),fun _ _ e=>by cases e;exact⟨Nat.lt_succ_self _,BE hL l (by rw[eq_of_beq hk];decide)⟩⟩
   |false=>
    simp only[cond_false];refine G1.mayT hL l (fun s' _ h2=>G0.ok _ h2) (G1.mayT hL l (fun s' _ h2=>G0.ok _ h2) ?_);refine G1.mayT hL l (fun s' _ h2=>((W _ s' h2).bind fun _ s2 _ h4=>((W _ s2 h4).bind fun _ _ _ h6=>G0.ok _ h6).le).le) ?_;refine G1.mayT hL l (fun s' _ h2=>((W _ s' h2).bind fun _ s2 _ h4=>((kp hL 1 (by decide) s2 h4).bind fun _ s3 _ h6=>((W _ s3 h6).bind fun _ _ _ h8=>G0.ok _ h8).le).le).le) ?_;refine G1.ite ((W _ s l).bind fun _ s2 h3 h4=>((ih.expr _ s2 h4 (by omega)).bind fun _ s3 _ h6=>((W _ s3 h6).bind fun _ _ _ h8=>G0.ok _ h8).le).le) ?_;exact(kp hL 1 (by decide) s l).bind fun _ s2 h3 h4=>G0.ite ((ih.place s2 h4 (by omega)).bind fun _ _ _ h6=>G0.ok _ h6).le (G0.ite ((ih.call _ _ s2 h4 (by omega)).bind fun _ _ _ h6=>G0.ok _ h6).le (G0.ok _ h4))
  ·simp only[cP]
   exact(W _ s l).bind fun _ s2 h3 h4=>((ih.expr _ s2 h4 (by omega)).bind fun _ s3 _ h6=>((W _ s3 h6).bind fun _ _ _ h8=>G0.ok _ h8).le).le
  ·simp only[du]
   exact(ih.args s l (by omega)).bind fun _ _ _ h4=>G0.ok _ h4
  ·simp only[eS]
   exact(W _ s l).bind fun _ s2 h3 h4=>G0.ite ((W _ s2 h4).bind fun _ _ _ h6=>G0.ok _ h6).le (((ih.expr _ s2 h4 (by omega)).bind fun _ s3 h5 h6=>(ih.more _ s3 h6 (by omega)).bind fun _ s4 _ h8=>((W _ s4 h8).bind fun _ _ _ h9=>G0.ok _ h9).le).le)
  ·simp only[d8]
   exact G0.mayT hL l (fun s' h1 h2=>((ih.expr _ s' h2 (by omega)).bind fun _ s3 h5 h6=>ih.more _ s3 h6 (by omega)).le) (G0.ok _ l)
  ·simp only[bv]
   exact(ih.one s l (by omega)).bind fun _ s2 h3 h4=>ih.tail _ _ s2 h4 (by omega)
  ·simp only[dw]
   cases hz:((dj L k s).1==0)with
   |true=>exact G0.ok _ l
   |false=>
    simp only[cond_false];have ln:s.nx.i<L.length:=pw l k hL uS (by simpa [dj]using hz);have hx:s.nx.i=s.i+1:=rfl;have h2:=((ih.expr (dD ((dj L k s).2+1)) s.nx ln (by omega)).bind (f:=fun r s2=>dw L n k (.mk 9 (dj L k s).1 [] 0 (bt L s).p [e,r]) s2) fun _ s3 h5 h6=>ih.tail _ _ s3 h6 (by omega))
    exact⟨h2.1,fun a s' e=>⟨by have:=(h2.2 a s' e).1;omega,(h2.2 a s' e).2⟩⟩
theorem PM(n:Nat)(id p:Int)(s:RS)(l:s.i<L.length)(h:4*(L.length-s.i)+1≤n):G1 L s (ip L n id p s):=by
 have W:=fun x s l=>jt hL x s l
 unfold ip;refine(kp hL 1 (by decide) s l).bind fun _ s2 h3 h4=>((W _ s2 h4).bind fun _ s3 h5 h6=>((wX hL _ s3 h6).bind fun _ s4 h7 h8=>G0.ite ?_ ?_).le).le
 ·exact((W _ s4 h8).bind fun _ s5 _ h9=>((kp hL 3 (by decide) s5 h9).bind fun _ s6 _ h10=>((W _ s6 h10).bind fun _ s7 _ h11=>((W _ s7 h11).bind fun _ _ _ h12=>G0.ok _ h12).le).le).le).le
 ·exact(G1.mayT hL h8 (fun s' h9 h10=>(((I8 hL n).expr 1 s' h10 (by omega)).bind fun _ s6 _ h11=>((W _ s6 h11).bind fun _ _ _ h12=>G0.ok _ h12).le).le) ((W _ s4 h8).bind fun _ _ _ h12=>G0.ok _ h12)).le
theorem I9(n:Nat)(id p:Int)(s:RS)(l:s.i<L.length)(h:4*(L.length-s.i)+1≤n):G1 L s (cE L n id p s):=by
 have W:=fun x s l=>jt hL x s l
 have A:=I8 hL n;unfold cE;refine(kp hL 1 (by decide) s l).bind fun _ s2 h3 h4=>G0.ite ((A.call _ _ s2 h4 (by omega)).bind fun _ s3 _ h6=>((W _ s3 h6).bind fun _ _ _ h8=>G0.ok _ h8).le).le (G0.ite ?_ ?_)
 ·exact((A.place s2 h4 (by omega)).bind fun _ s3 h5 h6=>((W _ s3 h6).bind fun _ s4 h7 h8=>((A.expr 1 s4 h8 (by omega)).bind fun _ s5 _ h10=>((W _ s5 h10).bind fun _ _ _ h12=>G0.ok _ h12).le).le).le).le
 ·exact((W _ s2 h4).bind fun _ s3 h5 h6=>((A.expr 1 s3 h6 (by omega)).bind fun _ s4 _ h8=>((W _ s4 h8).bind fun _ _ _ h12=>G0.ok _ h12).le).le).le
theorem Gi:∀n,(∀s:RS,s.i<L.length→4*(L.length-s.i)+1≤n→G1 L s (bM L n s))∧(∀r (s:RS),s.i<L.length→4*(L.length-s.i)+3≤n→G0 L s (cF L n r s))∧(∀s:RS,s.i<L.length→4*(L.length-s.i)+2≤n→G1 L s (ej L n s))
 |0=>⟨fun _ _ h=>by omega,fun _ _ _ h=>by omega,fun _ _ h=>by omega⟩
 |n+1=>by
  obtain⟨h1,h2,h3⟩:=Gi n;have W:=fun x s l=>jt hL x s l
  have A:=I8 hL n;refine⟨fun s l h=> ?_,fun r s l h=> ?_,fun s l h=> ?_⟩
  ·simp only[bM]
   exact(W _ s l).bind fun _ s1 g1 g2=>(h2 _ s1 g2 (by omega)).bind fun _ s2 _ g4=>((W _ s2 g4).bind fun _ _ _ g6=>G0.ok _ g6).le
  ·simp only[cF]
   exact G0.ite (G0.ok _ l) ((h3 s l (by omega)).bind fun _ s1 g1 g2=>h2 _ s1 g2 (by omega)).le
  ·simp only[ej]
   have l':s.st.i<L.length:=l;have hi:s.st.i=s.i:=rfl;have key:=G1.mayT hL l' (x:=[108,101,116]) (X:=fun s1=>(ip L n s.st.n (bt L s.st).p s1).bind fun x s2=> .ok x s2) (Y:=fun s1=>(ci L [105,102] s1).bind fun b s1=>bif b then
   (bv L n 1 s1).bind fun e s2=>(bM L n s2).bind fun l s3=>(ci L [101,108,115,101] s3).bind fun b s4=>
    bif b then (bM L n s4).bind fun m s5=> .ok (.mk 4 s.st.n [] 0 0 (bt L s.st).p [e] l m) s5 else .ok (.mk 4 s.st.n [] 0 0 (bt L s.st).p [e] l []) s4
  else (ci L [119,104,105,108,101] s1).bind fun b s1=>bif b then
   (bv L n 1 s1).bind fun e s2=>(bM L n s2).bind fun l s3=> .ok (.mk 5 s.st.n [] 0 0 (bt L s.st).p [e] l []) s3
  else (ci L [114,101,116,117,114,110] s1).bind fun b s1=>bif b then
   bif isT L s1 [59]then (aE L [59] s1).bind fun _ s2=> .ok (.mk 6 s.st.n [] 0 0 (bt L s.st).p [] [] []) s2
   else (bv L n 1 s1).bind fun e s2=>(aE L [59] s2).bind fun _ s3=> .ok (.mk 6 s.st.n [] 0 0 (bt L s.st).p [e] [] []) s3
  else (ci L [112,114,105,110,116] s1).bind fun b s1=>bif b then
   (bv L n 1 s1).bind fun e s2=>(aE L [59] s2).bind fun _ s3=> .ok (.mk 7 s.st.n [] 0 0 (bt L s.st).p [e] [] []) s3
  else (cE L n s.st.n (bt L s.st).p s1).bind fun x s2=> .ok x s2)
      (fun s' g1 g2=>((PM hL n _ _ s' g2 (by omega)).bind fun _ _ _ g4=>G0.ok _ g4).le) ?_
   ·exact⟨key.1,fun a s' e=>key.2 a s' e⟩
   refine G1.mayT hL l' (fun s' g1 g2=> ?_) (G1.mayT hL l' (fun s' g1 g2=> ?_) (G1.mayT hL l' (fun s' g1 g2=> ?_) (G1.mayT hL l' (fun s' g1 g2=> ?_) ?_)))
   ·exact((A.expr 1 s' g2 (by omega)).bind fun _ s2 g3 g4=>((h1 s2 g4 (by omega)).bind fun _ s3 g5 g6=>G0.mayT hL g6 (fun s4 g7 g8=>((h1 s4 g8 (by omega)).bind fun _ _ _ g10=>G0.ok _ g10).le) (G0.ok _ g6)).le).le
   ·exact((A.expr 1 s' g2 (by omega)).bind fun _ s2 g3 g4=>((h1 s2 g4 (by omega)).bind fun _ _ _ g6=>G0.ok _ g6).le).le
   ·exact G0.ite ((W _ s' g2).bind fun _ _ _ g4=>G0.ok _ g4).le ((A.expr 1 s' g2 (by omega)).bind fun _ s2 _ g4=>((W _ s2 g4).bind fun _ _ _ g6=>G0.ok _ g6).le).le
   ·exact((A.expr 1 s' g2 (by omega)).bind fun _ s2 _ g4=>((W _ s2 g4).bind fun _ _ _ g6=>G0.ok _ g6).le).le
   ·exact(I9 hL n _ _ s.st l' (by omega)).bind fun _ _ _ g4=>G0.ok _ g4
theorem B2(s:RS)(l:s.i<L.length):G1 L s (eW L s):=(kp hL 1 (by decide) s l).bind fun _ s1 _ h2=>((jt hL _ s1 h2).bind fun _ s2 _ h4=>((wX hL _ s2 h4).bind fun _ _ _ h6=>G0.ok _ h6).le).le
theorem B3:∀(n:Nat)(r:List Pm)(s:RS),s.i<L.length→L.length-s.i+1≤n→G0 L s (cG L n r s)
 |0,_,_,_,h=>by omega
 |n+1,r,s,l,h=>by
  simp only[cG];exact G0.mayT hL l (fun s' h1 h2=>((B2 hL s' h2).bind fun _ s2 h3 h4=>B3 n _ s2 h4 (by omega)).le) (G0.ok _ l)
theorem MH(n:Nat)(s:RS)(l:s.i<L.length)(h:4*(L.length-s.i)+1≤n):G1 L s (qg L n s):=by
 have W:=fun x s l=>jt hL x s l
 have B:=(Gi hL n).1;unfold qg;refine(W _ s l).bind fun t s1 h1 h2=>((kp hL 1 (by decide) s1 h2).bind fun u s2 h3 h4=>(G1.bind (?_:G1 L s2 (cQ L n s2)) fun ps s3 h5 h6=>G0.mayT hL h6 (fun s4 h7 h8=>((wX hL _ s4 h8).bind fun _ s5 h9 h10=>((B s5 h10 (by omega)).bind fun _ _ _ h12=>G0.ok _ h12).le).le) ((B s3 h6 (by omega)).bind fun _ _ _ h12=>G0.ok _ h12).le).le).le
 unfold cQ;exact(W _ s2 h4).bind fun _ s3 h5 h6=>G0.ite ((W _ s3 h6).bind fun _ _ _ h8=>G0.ok _ h8).le ((B2 hL s3 h6).bind fun _ s4 h7 h8=>(B3 hL n _ s4 h8 (by omega)).bind fun _ s5 _ h10=>((W _ s5 h10).bind fun _ _ _ h12=>G0.ok _ h12).le).le
theorem Gj(N:Nat)(hN:4*L.length+1≤N):∀(n:Nat)(r:List Fn)(s:RS),s.i<L.length→L.length-s.i+1≤n→G0 L s (fA L N n r s)
 |0,_,_,_,h=>by omega
 |n+1,r,s,l,h=>by
  simp only[fA];exact G0.ite (G0.ok _ l) ((MH hL N s l (by omega)).bind fun _ s2 h3 h4=>Gj N hN n _ s2 h4 (by omega)).le
abbrev fuel(L:List T):Nat:=4*L.length+1
theorem B4(h0:0<L.length):cT L (fuel L)≠ .out:=
 ((MH hL (fuel L) ⟨0,0,0⟩ h0 (by simp only[fuel];omega)).bind fun f s1 h1 h2=>Gj hL (fuel L) (Nat.le_refl _) (fuel L) [f] s1 h2 (by simp only[fuel];omega)).1
end
end Go.Avm
namespace Go.Avm
open Go.Proofs
def wl:List (List UInt8):=[[102,110],[108,101,116],[105,102],[101,108,115,101],[119,104,105,108,101],[114,101,116,117,114,110],[112,114,105,110,116],[116,114,117,101],[102,97,108,115,101],[114,101,97,100],[108,101,110],[105,110,116],[98,111,111,108],[97,114,114]]
def pA:List (D×D×Nat):=[(.str [102,110], .agg [],0),(.str [108,101,116], .agg [],1),(.str [105,102], .agg [],2),(.str [101,108,115,101], .agg [],3),(.str [119,104,105,108,101], .agg [],4),(.str [114,101,116,117,114,110], .agg [],5),(.str [112,114,105,110,116], .agg [],6),(.str [116,114,117,101], .agg [],7),(.str [102,97,108,115,101], .agg [],8),(.str [114,101,97,100], .agg [],9),(.str [108,101,110], .agg [],10),(.str [105,110,116], .agg [],11),(.str [98,111,111,108], .agg [],12),(.str [97,114,114], .agg [],13)]
theorem qo(s:List UInt8):∀(l:List (List UInt8))(es:List (D×D×Nat))(n:Nat),es.map (fun e=>(e.1,e.2.1))=l.map (fun x=>(D.str x,D.agg []))→
    (∃i:Nat,l[i]? =some s∧(∀(j:Nat)(x:List UInt8),j<i→l[j]? =some x→(s==x)=false)∧b8 (.str s) es n=some (some (n+i, .agg [])))∨((∀(i:Nat)(x:List UInt8),l[i]? =some x→(s==x)=false)∧b8 (.str s) es n=some none)
 |[],es,n,h=>by
  have:es=[]:=by simpa using h
  subst this;exact .inr ⟨fun i x hx=>by simp at hx,rfl⟩
 |y::l,[],n,h=>by simp at h
 |y::l,e::es,n,h=>by
  simp only[List.map_cons,List.cons.injEq,Prod.mk.injEq]at h;obtain⟨⟨h1,h2⟩,h3⟩:=h;have hs:jB (.str s) e.1=some (s==y):=by rw[h1];rfl
  by_cases hy:(s==y)=true
  ·left
   refine⟨0,by simp[eq_of_beq hy],fun j x hj=>by omega, ?_⟩;simp only[b8,hs,hy,h2,Nat.add_zero]
  ·have hy':(s==y)=false:=by simpa using hy
   rcases qo s l es (n+1) h3 with ⟨i,g1,g2,g3⟩|⟨g1,g2⟩
   ·left
    refine⟨i+1,by simpa using g1,fun j x hj hx=> ?_, ?_⟩
    ·cases j with
     |zero=>simp at hx;subst hx;exact hy'
     |succ j=>exact g2 j x (by omega) (by simpa using hx)
    ·simp only[b8,hs,hy',g3]
     congr 3;omega
   ·right
    refine⟨fun i x hx=> ?_,by simp only[b8,hs,hy',g2]⟩;cases i with
    |zero=>simp at hx;subst hx;exact hy'
    |succ i=>exact g1 i x (by simpa using hx)
end Go.Avm
namespace Go.Avm
open Go.Proofs
def T3(P:Program)(s x:List UInt8)(t:Bool)(h:(s==x)=t):bZ P:= .val (dB (s==x)) (dB t) (by rw[h])
end Go.Avm
namespace Go.Avm
open Go.Proofs
abbrev bD(b:UInt8):D:= .int .u8 (b.toNat:Int)
def DQ(k:Int)(b:UInt8):Bool:=decide (k≤(b.toNat:Int))
def DR(b:UInt8)(k:Int):Bool:=decide ((b.toNat:Int)≤k)
def bx(b:UInt8):Bool:=DQ 48 b&&DR b 57
def jb(b:UInt8):Bool:=DQ 97 b&&DR b 122
def ju(b:UInt8):Bool:=jb b||bx b
def ed(b:UInt8):Bool:=((b.toNat:Int) !=10)
noncomputable def B5(f:Nat)(lo hi:Int)(b:UInt8)(t u:Bool)(h1:DQ lo b=t)(h2:DR b hi=u):Par Pg:=
 {hint:=fun f' k=>if f'=f then (if k=4 then some (hB Pg _ t h1)else if k=7 then some (hB Pg _ u h2)else none)else none}
theorem Gk(b:UInt8):aK Pg 64 [bD b] [.bool (bx b)]:=by
 have k:∀t u,DQ 48 b=t→DR b 57=u→aK Pg 64 [bD b] [.bool (t&&u)]:=fun t u h1 h2=>by
  cases t with
  |false=>exact bq aD named (B5 64 48 57 b false u h1 h2) 100 (by kernel_rfl)
  |true=>exact bq aD named (B5 64 48 57 b true u h1 h2) 100 (by kernel_rfl)
 exact k _ _ rfl rfl
theorem Qt(b:UInt8):aK Pg 66 [bD b] [.bool (jb b)]:=by
 have k:∀t u,DQ 97 b=t→DR b 122=u→aK Pg 66 [bD b] [.bool (t&&u)]:=fun t u h1 h2=>by
  cases t with
  |false=>exact bq aD named (B5 66 97 122 b false u h1 h2) 100 (by kernel_rfl)
  |true=>exact bq aD named (B5 66 97 122 b true u h1 h2) 100 (by kernel_rfl)
 exact k _ _ rfl rfl
noncomputable def PN(b:UInt8)(t u:Bool)(h1:aK Pg 66 [bD b] [.bool t])(h2:aK Pg 64 [bD b] [.bool u]):Par Pg:=
 {hint:=fun f' k=>if f'=67 then (if k=4 then some (.call 66 [bD b] [.bool t] h1)else if k=7 then some (.call 64 [bD b] [.bool u] h2)else none)else none}
theorem T4(b:UInt8):aK Pg 67 [bD b] [.bool (ju b)]:=by
 have k:∀t u,aK Pg 66 [bD b] [.bool t]→aK Pg 64 [bD b] [.bool u]→aK Pg 67 [bD b] [.bool (t||u)]:=fun t u h1 h2=>by
  cases t with
  |false=>exact bq aD named (PN b false u h1 h2) 100 (by kernel_rfl)
  |true=>exact bq aD named (PN b true u h1 h2) 100 (by kernel_rfl)
 exact k _ _ (Qt b) (Gk b)
theorem T5(b:UInt8):aK Pg 63 [bD b] [.bool (ed b)]:=bq aD named {} 100 (by kernel_rfl)
abbrev fX:AV:= .ptr 324 1 0 0 1
abbrev Sy(c0 c1 c2 c3:AV)(s:List UInt8)(a v:Nat)(l:List D):Nat×aN:=(324,⟨1,some (.arr 1 [c0,c1,c2,c3, .d (.str s),dN a, .vec 1 v 4 l])⟩)
def sub(s:List UInt8)(a e:Nat):List UInt8:=(s.take e).drop a
section
variable(c0 c1 c2 c3:AV)(s:List UInt8)(a v:Nat)(l:List D)(f:Nat)
def AO(i:Nat):List (Nat×AV):=[(0,fX),(1, .fn f []),(5,dN i)]
def bG:List (Nat×aN):=[Sy c0 c1 c2 c3 s a v l]
section
variable(hf:f=63∨f=64∨f=67){i:Nat}{b:UInt8}(hi:i<s.length)(hb:s[((i:Nat):Int).toNat]? =some b)
include hf i b hi hb
theorem Ja(hlen:s.length≤100000)(hp:aK Pg f [bD b] [.bool true])(rest:ab)(X:ce)(hP:X.P=Pg)(hN:X.N=39):
    AW X (lO 62 2) ⟨an (AO f i),al (bG c0 c1 c2 c3 s a v l) rest⟩ fun e' S'=>e'= .normal∧Weak X S' ⟨an (AO f (i+1)),al (bG c0 c1 c2 c3 s a v l) rest⟩:=by
 rcases hf with rfl|rfl|rfl<;>exact t6 aD named {hint:=fun f' k=>if f'=62 then (if k=16 then some (qL hi)else if k=24 then some (.sidx s (i:Int) b (by omega) hb)else if k=25 then some (.call _ [bD b] [.bool true] hp)
  else if k=28 then some (dk Pg i (by omega))else none)else none} 1000 62 100000 39 (by kernel_rfl) X hP hN
theorem Jb(hp:aK Pg f [bD b] [.bool false])(rest:ab)(X:ce)(hP:X.P=Pg)(hN:X.N=39):
    AW X (lO 62 2) ⟨an (AO f i),al (bG c0 c1 c2 c3 s a v l) rest⟩ fun e' S'=>e'= .exit 0∧Weak X S' ⟨an [(0,fX),(5,dN i)],al (bG c0 c1 c2 c3 s a v l) rest⟩:=
 by
 rcases hf with rfl|rfl|rfl<;>exact t6 aD named {hint:=fun f' k=>if f'=62 then (if k=16 then some (qL hi)else if k=24 then some (.sidx s (i:Int) b (by omega) hb)else if k=25 then some (.call _ [bD b] [.bool false] hp)
  else none)else none} 1000 62 100000 39 (by kernel_rfl) X hP hN
end
theorem MI(rest:ab)(X:ce)(hP:X.P=Pg)(hN:X.N=39):
    AW X (lO 62 2) ⟨an (AO f s.length),al (bG c0 c1 c2 c3 s a v l) rest⟩ fun e' S'=>e'= .exit 0∧Weak X S' ⟨an [(0,fX),(5,dN s.length)],al (bG c0 c1 c2 c3 s a v l) rest⟩:=
 t6 aD named {hint:=fun f' k=>if f'=62 then (if k=16 then some (qG s.length)else none)else none} 1000 62 100000 39 (by kernel_rfl) X hP hN
theorem Jc(hf:f=63∨f=64∨f=67)(p:UInt8→Bool)(hp:∀b,aK Pg f [bD b] [.bool (p b)])(hlen:s.length≤100000)(e:Nat)(hae:a≤e)(he:e≤s.length)(hall:∀i b,a≤i→i<e→s[i]? =some b→p b=true)(hend:∀b,s[e]? =some b→p b=false)
    (rest:ab) (X:ce) (hP:X.P=Pg) (hN:X.N=39):
    AW X (.loop (lO 62 2)) ⟨an (AO f a),al (bG c0 c1 c2 c3 s a v l) rest⟩ fun e' S'=>e'= .exit 0∧S'=⟨an [(0,fX),(5,dN e)],al (bG c0 c1 c2 c3 s a v l) rest⟩:=
 il (P:=Pg) (N:=39) (c:=bO Pg 62 2) (AO f) (fun _ _=>bG c0 c1 c2 c3 s a v l) (fun i=>a≤i∧i≤e) (fun i=>e-i) (.exit 0) [(0,fX),(5,dN e)] (fun _=>bG c0 c1 c2 c3 s a v l) a ⟨Nat.le_refl _,hae⟩ (by simp)
  (fun rest i hi=>by
   rcases Nat.lt_or_ge i e with h|h
   ·have hb:=List.getElem?_eq_getElem (l:=s) (i:=i) (by omega)
    have hpt:=hp s[i];rw[hall i _ hi.1 h hb]at hpt;exact .inl ⟨i+1,⟨by omega,h⟩,by omega,fun X hP hN=>Ja c0 c1 c2 c3 s a v l f hf (by omega) hb hlen hpt rest X hP hN⟩
   ·have:i=e:=by omega
    subst this;rcases Nat.lt_or_ge i s.length with h2|h2
    ·have hb:=List.getElem?_eq_getElem (l:=s) (i:=i) h2
     have hpt:=hp s[i];rw[hend _ hb]at hpt;exact .inr fun X hP hN=>Jb c0 c1 c2 c3 s a v l f hf h2 hb hpt rest X hP hN
    ·have:i=s.length:=by omega
     subst this;exact .inr fun X hP hN=>MI c0 c1 c2 c3 s a v l f rest X hP hN) rest X hP hN
noncomputable def PO(hf:f=63∨f=64∨f=67)(p:UInt8→Bool)(hp:∀b,aK Pg f [bD b] [.bool (p b)])(hlen:s.length≤100000)(e:Nat)(hae:a≤e)(he:e≤s.length)(hall:∀i b,a≤i→i<e→s[i]? =some b→p b=true)(hend:∀b,s[e]? =some b→p b=false):d7 Pg:=
 ⟨39,bO Pg 62 2,AO f a,fun _=>bG c0 c1 c2 c3 s a v l, .exit 0,[(0,fX),(5,dN e)],fun _=>bG c0 c1 c2 c3 s a v l,Jc c0 c1 c2 c3 s a v l f hf p hp hlen e hae he hall hend⟩
noncomputable def PQ(e:Nat)(H:d7 Pg)(hs:a≤e∧e≤s.length):Par Pg:=
 {hint:=fun f' k=>if f'=62 then (if k=38 then some (.sub s a e hs)else none)else none
  loops:=fun f' r=>if f'=62 then (if r=2 then some H else none)else none}
theorem Sz(hf:f=63∨f=64∨f=67)(p:UInt8→Bool)(hp:∀b,aK Pg f [bD b] [.bool (p b)])(hlen:s.length≤100000)(e:Nat)(hae:a≤e)(he:e≤s.length)(hall:∀i b,a≤i→i<e→s[i]? =some b→p b=true)(hend:∀b,s[e]? =some b→p b=false)(rest:ab):
    ay Pg 62 [fX, .fn f []] (al (bG c0 c1 c2 c3 s a v l) rest) [.d (.str (sub s a e))] (al (bG c0 c1 c2 c3 s a v l) rest):=
 ap aD named (PQ s a e (PO c0 c1 c2 c3 s a v l f hf p hp hlen e hae he hall hend) ⟨hae,he⟩) 1000 100000 62 (by kernel_rfl)
end
end Go.Avm
namespace Go.Avm
open Go.Proofs
def MJ(b:UInt8):Bool:=b==32||b==9||b==10||b==13
def aF:Bool→List UInt8→Nat
 |_,[]=>0
 |true,b::r=>1+aF (ed b) r
 |false,b::r=>if MJ b then 1+aF false r else if b==35 then 1+aF true r else 0
theorem fg:∀(c:Bool)(l:List UInt8),aF c l≤l.length
 |_,[]=>by simp[aF]
 |true,b::r=>by
  have:=fg (ed b) r;simp only[aF,List.length_cons];omega
 |false,b::r=>by
  have h1:=fg false r;have h2:=fg true r;simp only[aF,List.length_cons];split
  ·omega
  ·split<;>omega
def fU(p:UInt8→Bool)(l:List UInt8):Nat:=(l.takeWhile p).length
theorem Du(b:UInt8):ed b=(b !=10):=by
 by_cases h:b=10
 ·subst h;rfl
 ·have h1:(b !=10)=true:=by simpa using h
  have h2:ed b=true:=by
   simp only[ed,bne_iff_ne,ne_eq];intro hx;apply h;apply UInt8.toNat_inj.1;have:(b.toNat:Int)=((10:Nat):Int):=hx;exact Int.ofNat.inj this
  rw[h1,h2]
theorem tF:∀(l:List UInt8),aF true l=fU ed l+aF false (l.drop (fU ed l))
 |[]=>rfl
 |b::r=>by
  have ih:=tF r;cases hb:ed b with
  |true=>
   simp only[aF,hb,fU,List.takeWhile_cons,if_true,List.length_cons,List.drop_succ_cons]at ih ⊢;rw[ih];omega
  |false=>
   have h10:b=10:=by
    rw[Du]at hb;simpa using hb
   subst h10;simp[aF,hb,fU,MJ]
theorem jR(p:UInt8→Bool)(s:List UInt8)(a:Nat)(ha:a≤s.length):a+fU p (s.drop a)≤s.length∧(∀i b,a≤i→i<a+fU p (s.drop a)→s[i]? =some b→p b=true)∧∀b,s[a+fU p (s.drop a)]? =some b→p b=false:=by
 have hle:fU p (s.drop a)≤(s.drop a).length:=by
  unfold fU;exact(List.takeWhile_sublist p).length_le
 have key:∀(l:List UInt8),(∀i b,i<fU p l→l[i]? =some b→p b=true)∧∀b,l[fU p l]? =some b→p b=false:=by
  intro l;induction l with
  |nil=>exact⟨fun i b _ h=>by simp at h,fun b h=>by simp at h⟩
  |cons x r ih=>
   cases hx:p x with
   |false=>simp[fU,List.takeWhile_cons,hx]
   |true=>
    have he:fU p (x::r)=fU p r+1:=by simp[fU,List.takeWhile_cons,hx]
    rw[he];refine⟨fun i b hi hb=> ?_,fun b hb=> ?_⟩
    ·cases i with
     |zero=>simp at hb;subst hb;exact hx
     |succ i=>exact ih.1 i b (by omega) (by simpa using hb)
    ·exact ih.2 b (by simpa using hb)
 refine⟨by simp at hle;omega,fun i b h1 h2 hb=> ?_,fun b hb=> ?_⟩
 ·obtain⟨j,rfl⟩:∃j,i=a+j:=⟨i-a,by omega⟩
  exact(key (s.drop a)).1 j b (by omega) (by rw[List.getElem?_drop];exact hb)
 ·exact(key (s.drop a)).2 b (by rw[List.getElem?_drop];exact hb)
theorem Jd(s:List UInt8)(a e:Nat)(h:a≤e)(he:e≤s.length):(sub s a e).length=e-a:=by
 unfold sub;rw[List.length_drop,List.length_take];omega
section
variable(c0 c1 c2 c3:AV)(s:List UInt8)(a v:Nat)(l:List D)
noncomputable def Gl(f:Nat)(hf:f=63∨f=64∨f=67)(p:UInt8→Bool)(hp:∀b,aK Pg f [bD b] [.bool (p b)])(hlen:s.length≤100000)(ha:a≤s.length):fQ Pg:=
 ⟨62,[fX, .fn f []],bG c0 c1 c2 c3 s a v l,[.d (.str (sub s a (a+fU p (s.drop a))))],[],
  qY rfl (Sz c0 c1 c2 c3 s a v l f hf p hp hlen _ (Nat.le_add_right _ _) (jR p s a ha).1 (jR p s a ha).2.1 (jR p s a ha).2.2)⟩
def SA(P:Program)(s:List UInt8)(a e:Nat)(h:a≤e)(he:e≤s.length)(hlen:s.length≤100000):bZ P:= .val (dI (IntKind.i64.wrap ((a:Int)+((sub s a e).length:Int)))) (dN e) (by
 congr 2;rw[Jd s a e h he,IntWalk.i64_in _ (by omega)];omega)
theorem Je{b:UInt8}(hw:b=32∨b=9∨b=10∨b=13)(ha:a<s.length)(hb:s[((a:Nat):Int).toNat]? =some b)(hlen:s.length≤100000)(rest:ab)(X:ce)(hP:X.P=Pg)(hN:X.N=45):
    AW X (lO 37 0) ⟨an [(0,fX)],al (bG c0 c1 c2 c3 s a v l) rest⟩ fun e' S'=>e'= .normal∧Weak X S' ⟨an [(0,fX)],al (bG c0 c1 c2 c3 s (a+1) v l) rest⟩:=by
 rcases hw with rfl|rfl|rfl|rfl<;>exact t6 aD named {hint:=fun f' k=>if f'=37 then (if k=11 then some (qL ha)else if k=20 then some (.sidx s (a:Int) _ (by omega) hb)
  else if k=30 then some (dk Pg a (by omega))else none)else none} 1000 37 110000 45 (by kernel_rfl) X hP hN
theorem Gm(ha:a<s.length)(hb:s[((a:Nat):Int).toNat]? =some 35)(hlen:s.length≤100000)(rest:ab)(X:ce)(hP:X.P=Pg)(hN:X.N=45):
    AW X (lO 37 0) ⟨an [(0,fX)],al (bG c0 c1 c2 c3 s a v l) rest⟩ fun e' S'=>e'= .normal∧Weak X S' ⟨an [(0,fX)],al (bG c0 c1 c2 c3 s (a+fU ed (s.drop a)) v l) rest⟩:=
 t6 aD named {hint:=fun f' k=>if f'=37 then (if k=11 then some (qL ha)else if k=20 then some (.sidx s (a:Int) _ (by omega) hb)
  else if k=42 then some (SA Pg s a _ (Nat.le_add_right _ _) (jR ed s a (by omega)).1 hlen)else none)else none
              calls:=fun f' k _=>if f'=37 then (if k=40 then some (Gl c0 c1 c2 c3 s a v l 63 (by simp) ed T5 hlen (by omega))else none)else none} 1000 37 110000 45 (by kernel_rfl) X hP hN
theorem Gn(rest:ab)(X:ce)(hP:X.P=Pg)(hN:X.N=45):
    AW X (lO 37 0) ⟨an [(0,fX)],al (bG c0 c1 c2 c3 s s.length v l) rest⟩ fun e' S'=>e'= .exit 0∧Weak X S' ⟨an [(0,fX)],al (bG c0 c1 c2 c3 s s.length v l) rest⟩:=
 t6 aD named {hint:=fun f' k=>if f'=37 then (if k=11 then some (qG s.length)else none)else none} 1000 37 110000 45 (by kernel_rfl) X hP hN
def Gp(P:Program)(b:UInt8)(k:Nat)(h:b.toNat≠k):bZ P:=hB P ((b.toNat:Int)==(k:Int)) false (by simp only[beq_eq_false_iff_ne,ne_eq];omega)
theorem AP{b:UInt8}(h1:b.toNat≠32)(h2:b.toNat≠9)(h3:b.toNat≠10)(h4:b.toNat≠13)(h5:b.toNat≠35)(ha:a<s.length)(hb:s[((a:Nat):Int).toNat]? =some b)(rest:ab)(X:ce)(hP:X.P=Pg)(hN:X.N=45):
    AW X (lO 37 0) ⟨an [(0,fX)],al (bG c0 c1 c2 c3 s a v l) rest⟩ fun e' S'=>e'= .ret∧Weak X S' ⟨an [(0,fX)],al (bG c0 c1 c2 c3 s a v l) rest⟩:=
 t6 aD named {hint:=fun f' k=>if f'=37 then (if k=11 then some (qL ha)else if k=20 then some (.sidx s (a:Int) _ (by omega) hb)
  else if k=22 then some (Gp Pg b 32 h1)else if k=23 then some (Gp Pg b 9 h2)else if k=24 then some (Gp Pg b 10 h3)else if k=25 then some (Gp Pg b 13 h4)else if k=34 then some (Gp Pg b 35 h5)else none)else none} 1000 37 110000 45 (by kernel_rfl) X hP hN
def be(a:Nat):Nat:=a+aF false (s.drop a)
theorem Dv{b:UInt8}(h:MJ b=true):b=32∨b=9∨b=10∨b=13:=by
 simp only[MJ,Bool.or_eq_true,beq_iff_eq]at h;rcases h with ((h|h)|h)|h
 ·exact .inl h
 ·exact .inr (.inl h)
 ·exact .inr (.inr (.inl h))
 ·exact .inr (.inr (.inr h))
theorem tG{b:UInt8}{k:Nat}(hk:k<256)(h:b≠UInt8.ofNat k):b.toNat≠k:=fun hx=>h (by
 apply UInt8.toNat_inj.1;rw[hx];simp[UInt8.toNat_ofNat'];omega)
theorem yW(x:Nat)(hx:x<s.length):∃b,s[((x:Nat):Int).toNat]? =some b∧
    ((b=32∨b=9∨b=10∨b=13)∧be s (x+1)=be s x∨b=35∧be s (x+fU ed (s.drop x))=be s x∧0<fU ed (s.drop x)∨
     (b.toNat≠32∧b.toNat≠9∧b.toNat≠10∧b.toNat≠13∧b.toNat≠35)∧be s x=x):=by
 have hd:s.drop x=s[x]::s.drop (x+1):=List.drop_eq_getElem_cons hx;refine⟨s[x],by simp[hx], ?_⟩;unfold be;cases hw:MJ s[x]with
 |true=>
  refine .inl ⟨Dv hw, ?_⟩;rw[hd];simp only[aF,hw,if_true];omega
 |false=>
  by_cases h35:s[x]=35
  ·refine .inr (.inl ⟨h35, ?_, ?_⟩)
   ·have ht:=tF (s.drop (x+1))
    have hr:fU ed (s.drop x)=fU ed (s.drop (x+1))+1:=by
     rw[hd,h35];simp[fU,List.takeWhile_cons,show ed 35=true from rfl]
    have h2:aF false (s.drop x)=1+aF true (s.drop (x+1)):=by
     rw[hd];simp only[aF,hw,h35];rfl
    rw[h2,ht,hr,List.drop_drop];have:x+(fU ed (s.drop (x+1))+1)=x+1+fU ed (s.drop (x+1)):=by omega
    rw[this];omega
   ·rw[hd,h35]
    simp[fU,List.takeWhile_cons,show ed 35=true from rfl]
  ·refine .inr (.inr ⟨?_, ?_⟩)
   ·simp only[MJ,Bool.or_eq_false_iff,beq_eq_false_iff_ne]at hw
    exact⟨tG (by omega) hw.1.1.1,tG (by omega) hw.1.1.2,tG (by omega) hw.1.2,tG (by omega) hw.2,tG (by omega) h35⟩
   ·rw[hd]
    have:(s[x]==35)=false:=by simpa using h35
    simp only[aF,hw,this];rfl
theorem nh(a:Nat)(ha:a≤s.length):a≤be s a∧be s a≤s.length:=by
 have:=fg false (s.drop a);rw[List.length_drop]at this;unfold be;omega
def ni:aG:=if be s a=s.length then .exit 0 else .ret
theorem Dw(ha:a≤s.length)(hlen:s.length≤100000)(e:aG)(he:e=ni s a)(rest:ab)(X:ce)(hP:X.P=Pg)(hN:X.N=45):
    AW X (.loop (lO 37 0)) ⟨an [(0,fX)],al (bG c0 c1 c2 c3 s a v l) rest⟩ fun e' S'=>e'=e∧S'=⟨an [(0,fX)],al (bG c0 c1 c2 c3 s (be s a) v l) rest⟩:=
 il (P:=Pg) (N:=45) (c:=bO Pg 37 0) (fun _=>[(0,fX)]) (fun x _=>bG c0 c1 c2 c3 s x v l) (fun x=>x≤s.length∧be s x=be s a) (fun x=>s.length-x) e [(0,fX)] (fun _=>bG c0 c1 c2 c3 s (be s a) v l) a ⟨ha,rfl⟩
  (by rw[he];unfold ni;split<;>simp)
  (fun rest x hx=>by
   rcases Nat.lt_or_ge x s.length with h|h
   ·obtain⟨b,hb,⟨hw,h2⟩|⟨rfl,h2,h3⟩|⟨⟨n1,n2,n3,n4,n5⟩,h2⟩⟩:=yW s x h
    ·exact .inl ⟨x+1,⟨by omega,by rw[h2];exact hx.2⟩,by omega,fun X hP hN=>Je c0 c1 c2 c3 s x v l hw h hb hlen rest X hP hN⟩
    ·exact .inl ⟨x+fU ed (s.drop x),⟨(jR ed s x hx.1).1,by rw[h2];exact hx.2⟩,by omega,fun X hP hN=>Gm c0 c1 c2 c3 s x v l h hb hlen rest X hP hN⟩
    ·have hxe:be s a=x:=by rw[←hx.2,h2]
     have:e= .ret:=by rw[he];unfold ni;rw[if_neg (by omega)]
     rw[hxe,this];exact .inr fun X hP hN=>AP c0 c1 c2 c3 s x v l n1 n2 n3 n4 n5 h hb rest X hP hN
   ·have hxe:x=s.length:=by omega
    have hb:=nh s x hx.1;rw[hx.2]at hb;have hbe:be s a=s.length:=by omega
    have:e= .exit 0:=by rw[he];unfold ni;rw[if_pos hbe]
    rw[hbe,this,hxe];exact .inr fun X hP hN=>Gn c0 c1 c2 c3 s v l rest X hP hN) rest X hP hN
noncomputable def B6(ha:a≤s.length)(hlen:s.length≤100000)(e:aG)(he:e=ni s a):d7 Pg:=
 ⟨45,bO Pg 37 0,[(0,fX)],fun _=>bG c0 c1 c2 c3 s a v l,e,[(0,fX)],fun _=>bG c0 c1 c2 c3 s (be s a) v l,Dw c0 c1 c2 c3 s a v l ha hlen e he⟩
theorem MK(ha:a≤s.length)(hlen:s.length≤100000)(rest:ab):ay Pg 37 [fX] (al (bG c0 c1 c2 c3 s a v l) rest) [] (al (bG c0 c1 c2 c3 s (be s a) v l) rest):=by
 have key:∀e,e=ni s a→(e= .exit 0∨e= .ret)→ay Pg 37 [fX] (al (bG c0 c1 c2 c3 s a v l) rest) [] (al (bG c0 c1 c2 c3 s (be s a) v l) rest):=by
  rintro e he (rfl|rfl)
  ·exact ap aD named {loops:=fun f' r=>if f'=37 then (if r=0 then some (B6 c0 c1 c2 c3 s a v l ha hlen _ he)else none)else none} 1000 110000 37 (by kernel_rfl)
  ·exact ap aD named {loops:=fun f' r=>if f'=37 then (if r=0 then some (B6 c0 c1 c2 c3 s a v l ha hlen _ he)else none)else none} 1000 110000 37 (by kernel_rfl)
 refine key _ rfl ?_;unfold ni;split
 ·exact .inl rfl
 ·exact .inr rfl
noncomputable def B7(ha:a≤s.length)(hlen:s.length≤100000):fQ Pg:=
 ⟨37,[fX],bG c0 c1 c2 c3 s a v l,[],bG c0 c1 c2 c3 s (be s a) v l,gK (MK c0 c1 c2 c3 s a v l ha hlen)⟩
end
end Go.Avm
namespace Go.Avm
open Go.Proofs
abbrev oM(kind:Int)(a:Nat)(t:List UInt8)(n:Int):D:= .agg [.int .u8 kind, .int .i64 (a:Int), .str t, .int .i64 n]
def er(w:Bool)(s:List UInt8)(a v m:Nat)(l:List D):List (Nat×aN):=match w with
 |false=>[Sy (.d (.int .u32 0)) (.d (.int .i32 0)) (.d (.int .u32 0)) .junk s a v l,(1,⟨v,none⟩),(120463,⟨v,none⟩),(200002,⟨0,none⟩),(200156,⟨0,none⟩),(204135,⟨0,none⟩),(210002,⟨m,none⟩),(210335,⟨m,none⟩)]
 |true=>[Sy (.d (.int .u32 1)) (.d (.int .i32 0)) (.d (.int .u32 0)) (.mp 200156 1) s a v l,(1,⟨v,none⟩),(120463,⟨v,none⟩),(200002,⟨1,none⟩),(200156,⟨1,some (.map pA 14)⟩),(204135,⟨1,none⟩),(210002,⟨m,none⟩),(210335,⟨m,none⟩)]
def PR(P:Program)(a k:Nat)(h:a+k≤1099511627776):bZ P:= .val (dI (IntKind.i64.wrap ((a:Int)+(k:Int)))) (dN (a+k)) (by
 congr 2;rw[IntWalk.i64_in _ (by omega)];omega)
section
variable(w:Bool)(s:List UInt8)(a v m:Nat)(l:List D)
noncomputable def PS(t:List UInt8)(hl:l.length+1≤549755813888)(ht:a+t.length≤1099511627776):Par Pg:=
 {hint:=fun f' k=>if f'=39 then (if k=22 then some (.app l 1 hl)else if k=31 then some (PR Pg a t.length ht)else none)else none}
theorem SB(kd n:Int)(t:List UInt8)(hl:l.length+1≤549755813888)(ht:a+t.length≤1099511627776)(rest:ab):
    ay Pg 39 [fX, .d (.int .u8 kd), .d (.str t), .d (.int .i64 n)] (al (er w s a v m l) rest) [] (al (er w s (a+t.length) (v+1) m (l ++[oM kd a t n])) rest):=by
 cases w<;>exact ap aD named (PS a l t hl ht) 1000 120000 39 (by kernel_rfl)
noncomputable def u5(kd n:Int)(t:List UInt8)(hl:l.length+1≤549755813888)(ht:a+t.length≤1099511627776):fQ Pg:=
 ⟨39,[fX, .d (.int .u8 kd), .d (.str t), .d (.int .i64 n)],er w s a v m l,[],er w s (a+t.length) (v+1) m (l ++[oM kd a t n]),gK (SB w s a v m l kd n t hl ht)⟩
noncomputable def B8(t:List UInt8)(r:Option (Nat×D))(h:b8 (.str t) pA 0=some r):Par Pg:={hint:=fun f k=>if f=68 then (if k=18 then some (.look (.str t) pA r h)else none)else none}
def oN(w:Bool)(m:Nat):Nat:=match w with
 |false=>m
 |true=>m+1
set_option maxRecDepth 100000 in
theorem SC(t:List UInt8)(h:b8 (.str t) pA 0=some none)(rest:ab):ay Pg 68 [fX, .d (.str t)] (al (er w s a v m l) rest) [dB false] (al (er true s a v (oN w m) l) rest):=by
 cases w
 ·exact ap aD named (B8 t _ h) 1000 200000 68 (by kernel_rfl)
 ·exact ap aD named (B8 t _ h) 1000 210000 68 (by kernel_rfl)
set_option maxRecDepth 100000 in
theorem SD(t:List UInt8)(i:Nat)(h:b8 (.str t) pA 0=some (some (i, .agg [])))(rest:ab):ay Pg 68 [fX, .d (.str t)] (al (er w s a v m l) rest) [dB true] (al (er true s a v (oN w m) l) rest):=by
 cases w
 ·exact ap aD named (B8 t _ h) 1000 200000 68 (by kernel_rfl)
 ·exact ap aD named (B8 t _ h) 1000 210000 68 (by kernel_rfl)
def fE(t:List UInt8):Bool:=wl.contains t
theorem SE(t:List UInt8)(rest:ab):ay Pg 68 [fX, .d (.str t)] (al (er w s a v m l) rest) [dB (fE t)] (al (er true s a v (oN w m) l) rest):=by
 rcases qo t wl pA 0 rfl with ⟨i,g1,g2,g3⟩|⟨g1,g2⟩
 ·have:fE t=true:=by
    simp only[fE,List.contains_eq_mem,decide_eq_true_eq];exact List.mem_of_getElem? g1
  rw[this];exact SD w s a v m l t (0+i) g3 rest
 ·have:fE t=false:=by
    simp only[fE,List.contains_eq_mem,decide_eq_false_iff_not];intro hm;obtain⟨i,hi⟩:=List.getElem?_of_mem hm;have:=g1 i t hi;simp at this
  rw[this];exact SC w s a v m l t g2 rest
noncomputable def PT(t:List UInt8)(u:Bool)(hu:fE t=u):fQ Pg:=
 ⟨68,[fX, .d (.str t)],er w s a v m l,[dB u],er true s a v (oN w m) l,gK (by subst hu;exact SE w s a v m l t)⟩
noncomputable def Kt(f:Nat)(hf:f=63∨f=64∨f=67)(p:UInt8→Bool)(hp:∀b,aK Pg f [bD b] [.bool (p b)])(hlen:s.length≤100000)(ha:a≤s.length):fQ Pg:=
 match w with
 |false=>Gl (.d (.int .u32 0)) (.d (.int .i32 0)) (.d (.int .u32 0)) .junk s a v l f hf p hp hlen ha
 |true=>Gl (.d (.int .u32 1)) (.d (.int .i32 0)) (.d (.int .u32 0)) (.mp 200156 1) s a v l f hf p hp hlen ha
noncomputable def oO(hlen:s.length≤100000)(ha:a≤s.length):fQ Pg:=
 match w with
 |false=>B7 (.d (.int .u32 0)) (.d (.int .i32 0)) (.d (.int .u32 0)) .junk s a v l ha hlen
 |true=>B7 (.d (.int .u32 1)) (.d (.int .i32 0)) (.d (.int .u32 0)) (.mp 200156 1) s a v l ha hlen
end
end Go.Avm
namespace Go.Avm
open Go.Proofs
def pB(s:List UInt8)(a:Nat):List UInt8:=sub s a (a+fU ju (s.drop a))
section
variable(w:Bool)(s:List UInt8)(a v m:Nat)(l:List D)
noncomputable def pD(b:UInt8)(ha:a<s.length)(hb:s[((a:Nat):Int).toNat]? =some b)(hlen:s.length≤100000)(h1:bx b=false)(h2:jb b=true)(u:Bool)(hu:fE (pB s a)=u)(g:Bool)(hg:decide (12<((pB s a).length:Int))=g)
    (hl:l.length+1≤549755813888) (ht:a+(pB s a).length≤1099511627776):Par Pg:=
 {hint:=fun f' k=>if f'=38 then (if k=14 then some (.sidx s (a:Int) b (by omega) hb)else if k=17 then some (.call 64 [bD b] [.bool false] (h1▸Gk b))else if k=22 then some (.call 66 [bD b] [.bool true] (h2▸Qt b))
     else if k=40 then some (hB Pg _ g hg)else none)else none
  calls:=fun f' k _=>if f'=38 then (if k=24 then some (Kt w s a v l 67 (by simp) ju T4 hlen (by omega))else if k=33 then some (PT w s a v m l (pB s a) u hu)
   else if k=36 then some (u5 true s a v (oN w m) l 2 0 (pB s a) hl ht)else if k=27 then some (u5 true s a v (oN w m) l 1 0 (pB s a) hl ht)else none)else none}
section
variable(b:UInt8)(ha:a<s.length)(hb:s[((a:Nat):Int).toNat]? =some b)(hlen:s.length≤100000)(h1:bx b=false)(h2:jb b=true)
include b ha hb hlen h1 h2
theorem Gs(hu:fE (pB s a)=true)(hl:l.length+1≤549755813888)(ht:a+(pB s a).length≤1099511627776)(rest:ab):
    ay Pg 38 [fX] (al (er w s a v m l) rest) [dI 0] (al (er true s (a+(pB s a).length) (v+1) (oN w m) (l ++[oM 2 a (pB s a) 0])) rest):=by
 cases w with
 |false=>exact ap aD named (pD false s a v m l b ha hb hlen h1 h2 true hu _ rfl hl ht) 1000 130000 38 (by kernel_rfl)
 |true=>exact ap aD named (pD true s a v m l b ha hb hlen h1 h2 true hu _ rfl hl ht) 1000 130000 38 (by kernel_rfl)
theorem Gt(hu:fE (pB s a)=false)(hg:decide (12<((pB s a).length:Int))=false)(hl:l.length+1≤549755813888)(ht:a+(pB s a).length≤1099511627776)(rest:ab):
    ay Pg 38 [fX] (al (er w s a v m l) rest) [dI 0] (al (er true s (a+(pB s a).length) (v+1) (oN w m) (l ++[oM 1 a (pB s a) 0])) rest):=by
 cases w with
 |false=>exact ap aD named (pD false s a v m l b ha hb hlen h1 h2 false hu false hg hl ht) 1000 130000 38 (by kernel_rfl)
 |true=>exact ap aD named (pD true s a v m l b ha hb hlen h1 h2 false hu false hg hl ht) 1000 130000 38 (by kernel_rfl)
theorem Gu(hu:fE (pB s a)=false)(hg:decide (12<((pB s a).length:Int))=true)(hl:l.length+1≤549755813888)(ht:a+(pB s a).length≤1099511627776)(rest:ab):
    ay Pg 38 [fX] (al (er w s a v m l) rest) [dI 2] (al (er true s a v (oN w m) l) rest):=by
 cases w with
 |false=>exact ap aD named (pD false s a v m l b ha hb hlen h1 h2 false hu true hg hl ht) 1000 130000 38 (by kernel_rfl)
 |true=>exact ap aD named (pD true s a v m l b ha hb hlen h1 h2 false hu true hg hl ht) 1000 130000 38 (by kernel_rfl)
end
end
end Go.Avm
namespace Go.Avm
open Go.Proofs
def lL:List (List UInt8):=[[61,61],[33,61],[60,61],[62,61],[38,38],[124,124],[60,60],[62,62]]
def PU:List UInt8:=[61,61,32,33,61,32,60,61,32,62,61,32,38,38,32,124,124,32,60,60,32,62,62]
def ML:List UInt8:=[40,41,123,125,91,93,44,59,58,61,60,62,43,45,42,47,37,38,124,94,33,126]
def ut:List D:=lL.map .str
theorem Gw{i:Nat}{x:List UInt8}(h:lL[i]? =some x):ut[((i:Nat):Int).toNat]? =some (.str x):=by
 simp[ut,h]
set_option maxRecDepth 100000 in
theorem Jf:aK Pg 96 [.str PU] [.ro ut]:=bq aD named {} 100000 (by kernel_rfl)
def HN(t:List UInt8)(i:Nat):List (Nat×AV):=[(0, .d (.ro ut)),(1, .d (.str t)),(7,dN 8),(8,dN i)]
noncomputable def PV(t x:List UInt8)(i:Nat)(hi:i<8)(hx:lL[i]? =some x)(u:Bool)(he:(t==x)=u):Par Pg:=
 {hint:=fun f k=>if f=126 then (if k=9 then some (qL hi)else if k=14 then some (.idx ut (i:Int) (.str x) (by omega) (Gw hx))else if k=16 then some (T3 Pg t x u he)
  else if k=18 then some (dk Pg i (by omega))else none)else none}
theorem Gx(t x:List UInt8)(i:Nat)(hi:i<8)(hx:lL[i]? =some x)(he:(t==x)=false)(rest:ab)(X:ce)(hP:X.P=Pg)(hN:X.N=19):
    AW X (lO 126 2) ⟨an (HN t i),al [] rest⟩ fun e' S'=>e'= .normal∧Weak X S' ⟨an (HN t (i+1)),al [] rest⟩:=
 t6 aD named (PV t x i hi hx false he) 1000 126 1000 19 (by kernel_rfl) X hP hN
theorem PW(t x:List UInt8)(i:Nat)(hi:i<8)(hx:lL[i]? =some x)(he:(t==x)=true)(rest:ab)(X:ce)(hP:X.P=Pg)(hN:X.N=19):
    AW X (lO 126 2) ⟨an (HN t i),al [] rest⟩ fun e' S'=>e'= .ret∧Weak X S' ⟨an [(4,dN i)],al [] rest⟩:=
 t6 aD named (PV t x i hi hx true he) 1000 126 1000 19 (by kernel_rfl) X hP hN
theorem PX(t:List UInt8)(rest:ab)(X:ce)(hP:X.P=Pg)(hN:X.N=19):
    AW X (lO 126 2) ⟨an (HN t 8),al [] rest⟩ fun e' S'=>e'= .exit 0∧Weak X S' ⟨an [],al [] rest⟩:=
 t6 aD named {} 1000 126 1000 19 (by kernel_rfl) X hP hN
theorem Jg(t:List UInt8)(i0:Nat)(h0:lL[i0]? =some t)(hlt:∀(j:Nat)(x:List UInt8),j<i0→lL[j]? =some x→(t==x)=false)(rest:ab)(X:ce)(hP:X.P=Pg)(hN:X.N=19):
    AW X (.loop (lO 126 2)) ⟨an (HN t 0),al [] rest⟩ fun e' S'=>e'= .ret∧S'=⟨an [(4,dN i0)],al [] rest⟩:=by
 have hi0:i0<8:=(List.getElem?_eq_some_iff.1 h0).1
 exact il (P:=Pg) (N:=19) (c:=bO Pg 126 2) (HN t) (fun _ _=>[]) (fun i=>i≤i0) (fun i=>8-i) .ret [(4,dN i0)] (fun _=>[]) 0 (Nat.zero_le _) (by simp)
  (fun rest i hi=>by
   rcases Nat.lt_or_ge i i0 with h|h
   ·obtain⟨x,hx⟩:∃x,lL[i]? =some x:=⟨_,List.getElem?_eq_getElem (show i<8 by omega)⟩
    exact .inl ⟨i+1,h,by omega,fun X hP hN=>Gx t x i (by omega) hx (hlt i x h hx) rest X hP hN⟩
   ·have:i=i0:=by omega
    subst this;exact .inr fun X hP hN=>PW t t i hi0 h0 (by simp) rest X hP hN) rest X hP hN
theorem Jh(t:List UInt8)(hno:∀(j:Nat)(x:List UInt8),lL[j]? =some x→(t==x)=false)(rest:ab)(X:ce)(hP:X.P=Pg)(hN:X.N=19):
    AW X (.loop (lO 126 2)) ⟨an (HN t 0),al [] rest⟩ fun e' S'=>e'= .exit 0∧S'=⟨an [],al [] rest⟩:=
 il (P:=Pg) (N:=19) (c:=bO Pg 126 2) (HN t) (fun _ _=>[]) (fun i=>i≤8) (fun i=>8-i) (.exit 0) [] (fun _=>[]) 0 (Nat.zero_le _) (by simp)
  (fun rest i hi=>by
   rcases Nat.lt_or_ge i 8 with h|h
   ·obtain⟨x,hx⟩:∃x,lL[i]? =some x:=⟨_,List.getElem?_eq_getElem (show i<8 from h)⟩
    exact .inl ⟨i+1,h,by omega,fun X hP hN=>Gx t x i h hx (hno i x hx) rest X hP hN⟩
   ·have:i=8:=by omega
    subst this;exact .inr fun X hP hN=>PX t rest X hP hN) rest X hP hN
noncomputable def SF(t:List UInt8)(i0:Nat)(h0:lL[i0]? =some t)(hlt:∀(j:Nat)(x:List UInt8),j<i0→lL[j]? =some x→(t==x)=false):d7 Pg:=⟨19,bO Pg 126 2,HN t 0,fun _=>[], .ret,[(4,dN i0)],fun _=>[],Jg t i0 h0 hlt⟩
noncomputable def SG(t:List UInt8)(hno:∀(j:Nat)(x:List UInt8),lL[j]? =some x→(t==x)=false):d7 Pg:=⟨19,bO Pg 126 2,HN t 0,fun _=>[], .exit 0,[],fun _=>[],Jh t hno⟩
theorem T6(t:List UInt8)(i0:Nat)(h0:lL[i0]? =some t)(hlt:∀(j:Nat)(x:List UInt8),j<i0→lL[j]? =some x→(t==x)=false):aK Pg 97 [.ro ut, .str t] [.bool true]:=
 bq aD named {loops:=fun f r=>if f=126 then (if r=2 then some (SF t i0 h0 hlt)else none)else none} 1000 (by kernel_rfl)
theorem T7(t:List UInt8)(hno:∀(j:Nat)(x:List UInt8),lL[j]? =some x→(t==x)=false):aK Pg 97 [.ro ut, .str t] [.bool false]:=
 bq aD named {loops:=fun f r=>if f=126 then (if r=2 then some (SG t hno)else none)else none} 1000 (by kernel_rfl)
theorem u6(t:List UInt8):∀(l:List (List UInt8)),t∈l→∃i:Nat,l[i]? =some t∧∀(j:Nat)(x:List UInt8),j<i→l[j]? =some x→(t==x)=false
 |[],h=>by simp at h
 |y::l,h=>by
  by_cases hy:t=y
  ·subst hy
   exact⟨0,rfl,fun j x hj=>by omega⟩
  ·obtain⟨i,h1,h2⟩:=u6 t l (by simpa [hy]using h)
   refine⟨i+1,by simpa using h1,fun j x hj hx=> ?_⟩;cases j with
   |zero=>simp at hx;subst hx;simpa using hy
   |succ j=>exact h2 j x (by omega) (by simpa using hx)
theorem T8(t:List UInt8):aK Pg 97 [.ro ut, .str t] [.bool (lL.contains t)]:=by
 by_cases h:t∈lL
 ·obtain⟨i,h1,h2⟩:=u6 t lL h
  have:lL.contains t=true:=by simpa using h
  rw[this];exact T6 t i h1 h2
 ·have:lL.contains t=false:=by simpa using h
  rw[this];refine T7 t fun j x hx=> ?_
  have:x∈lL:=List.mem_of_getElem? hx;simp only[beq_eq_false_iff_ne,ne_eq];rintro rfl;exact h this
def AQ(b:UInt8):Int:=match nB ((b.toNat:Int).toNat.toUInt8) ML 0 with
 |some i=>(i:Int)
 |none=> -1
theorem T9(b:UInt8):aK Pg 98 [.str ML,bD b] [.int .i64 (AQ b)]:=bq aD named {} 1000 (by kernel_rfl)
def rst(s:List UInt8)(a:Nat):List UInt8:=(s.take s.length).drop a
def pE(t:List UInt8)(k:Nat):List UInt8:=(t.take k).drop 0
section
variable(w:Bool)(s:List UInt8)(a v m:Nat)(l:List D)
noncomputable def tI(b:UInt8)(ha:a<s.length)(hb:(rst s a)[(0:Int).toNat]? =some b)(g:Bool)(hg:decide (2≤((rst s a).length:Int))=g)(u:Bool)(hu:lL.contains (pE (rst s a) 2)=u)(z:Bool)(hz:decide (0≤AQ b)=z)
    (h2:g=true→2≤(rst s a).length) (h1:1≤(rst s a).length):Par Pg:=
 {hint:=fun f' k=>if f'=69 then (if k=12 then some (.sub s a s.length ⟨by omega,Nat.le_refl _⟩)else if k=15 then some (hB Pg _ g hg)else if k=17 then some (.call 96 [.str PU] [.ro ut] Jf)
     else if k=19 then (if hgt:g=true then some (.sub (rst s a) 0 2 ⟨by omega,h2 hgt⟩)else none)else if k=20 then some (.call 97 [.ro ut, .str (pE (rst s a) 2)] [.bool u] (hu▸T8 _))
     else if k=23 then (if hgt:g=true then some (.sub (rst s a) 0 2 ⟨by omega,h2 hgt⟩)else none)else if k=25 then some (.sidx (rst s a) 0 b (by omega) hb)
     else if k=26 then some (.call 98 [.str ML,bD b] [.int .i64 (AQ b)] (T9 b))else if k=27 then some (hB Pg _ z hz)else if k=29 then some (.sub (rst s a) 0 1 ⟨by omega,h1⟩)else none)else none}
section
variable(c0 c1 c2 c3:AV)(b:UInt8)(ha:a<s.length)(hb:(rst s a)[(0:Int).toNat]? =some b)
include c0 c1 c2 c3 b ha hb
theorem Ji(hg:decide (2≤((rst s a).length:Int))=true)(hu:lL.contains (pE (rst s a) 2)=true)(h2:2≤(rst s a).length)(rest:ab):
    ay Pg 69 [fX] (al (bG c0 c1 c2 c3 s a v l) rest) [.d (.str (pE (rst s a) 2))] (al (bG c0 c1 c2 c3 s a v l) rest):=
 ap aD named (tI s a b ha hb true hg true hu _ rfl (fun _=>h2) (by omega)) 1000 140000 69 (by kernel_rfl)
theorem Jj(g:Bool)(hg:decide (2≤((rst s a).length:Int))=g)(hu:(g&&lL.contains (pE (rst s a) 2))=false)(h2:g=true→2≤(rst s a).length)(h1:1≤(rst s a).length)(hz:decide (0≤AQ b)=true)(rest:ab):
    ay Pg 69 [fX] (al (bG c0 c1 c2 c3 s a v l) rest) [.d (.str (pE (rst s a) 1))] (al (bG c0 c1 c2 c3 s a v l) rest):=by
 cases g with
 |false=>exact ap aD named (tI s a b ha hb false hg _ rfl true hz h2 h1) 1000 140000 69 (by kernel_rfl)
 |true=>exact ap aD named (tI s a b ha hb true hg false (by simpa using hu) true hz h2 h1) 1000 140000 69 (by kernel_rfl)
theorem Gy(g:Bool)(hg:decide (2≤((rst s a).length:Int))=g)(hu:(g&&lL.contains (pE (rst s a) 2))=false)(h2:g=true→2≤(rst s a).length)(h1:1≤(rst s a).length)(hz:decide (0≤AQ b)=false)(rest:ab):
    ay Pg 69 [fX] (al (bG c0 c1 c2 c3 s a v l) rest) [.d (.str [])] (al (bG c0 c1 c2 c3 s a v l) rest):=by
 cases g with
 |false=>exact ap aD named (tI s a b ha hb false hg _ rfl false hz h2 h1) 1000 140000 69 (by kernel_rfl)
 |true=>exact ap aD named (tI s a b ha hb true hg false (by simpa using hu) false hz h2 h1) 1000 140000 69 (by kernel_rfl)
end
end
end Go.Avm
namespace Go.Avm
open Go.Proofs
def tJ(s:List UInt8)(a:Nat)(b:UInt8):List UInt8:=
 if (decide (2≤((rst s a).length:Int))&&lL.contains (pE (rst s a) 2))=true then pE (rst s a) 2 else if decide (0≤AQ b)=true then pE (rst s a) 1 else []
section
variable(w:Bool)(s:List UInt8)(a v m:Nat)(l:List D)
theorem Ku(c0 c1 c2 c3:AV)(b:UInt8)(ha:a<s.length)(hb:(rst s a)[(0:Int).toNat]? =some b)(rest:ab):
    ay Pg 69 [fX] (al (bG c0 c1 c2 c3 s a v l) rest) [.d (.str (tJ s a b))] (al (bG c0 c1 c2 c3 s a v l) rest):=by
 have h1:1≤(rst s a).length:=by
  have:=(List.getElem?_eq_some_iff.1 hb).1;omega
 have h2:∀g,decide (2≤((rst s a).length:Int))=g→g=true→2≤(rst s a).length:=by
  rintro g rfl h;have:=of_decide_eq_true h;omega
 unfold tJ;split
 ·rename_i h
  simp only[Bool.and_eq_true]at h;exact Ji s a v l c0 c1 c2 c3 b ha hb h.1 h.2 (h2 _ h.1 rfl) rest
 ·rename_i h
  have h':(decide (2≤((rst s a).length:Int))&&lL.contains (pE (rst s a) 2))=false:=by simpa only[Bool.not_eq_true]using h
  split
  ·rename_i hz
   exact Jj s a v l c0 c1 c2 c3 b ha hb _ rfl h' (h2 _ rfl) h1 hz rest
  ·rename_i hz
   exact Gy s a v l c0 c1 c2 c3 b ha hb _ rfl h' (h2 _ rfl) h1 (by simpa only[Bool.not_eq_true]using hz) rest
noncomputable def MM(b:UInt8)(ha:a<s.length)(hb:(rst s a)[(0:Int).toNat]? =some b)(t:List UInt8)(ht:tJ s a b=t):fQ Pg:=
 match w with
 |false=>⟨69,[fX],bG (.d (.int .u32 0)) (.d (.int .i32 0)) (.d (.int .u32 0)) .junk s a v l,[.d (.str t)],[],qY rfl (ht▸Ku s a v l _ _ _ _ b ha hb)⟩
 |true=>⟨69,[fX],bG (.d (.int .u32 1)) (.d (.int .i32 0)) (.d (.int .u32 0)) (.mp 200156 1) s a v l,[.d (.str t)],[],qY rfl (ht▸Ku s a v l _ _ _ _ b ha hb)⟩
noncomputable def B9(b:UInt8)(ha:a<s.length)(hb:s[((a:Nat):Int).toNat]? =some b)(hb':(rst s a)[(0:Int).toNat]? =some b)(h1:bx b=false)(h2:jb b=false)(t:List UInt8)(hT:tJ s a b=t)(u:Bool)(hu:(t==[])=u)
    (hl:l.length+1≤549755813888) (ht:a+t.length≤1099511627776):Par Pg:=
 {hint:=fun f' k=>if f'=38 then (if k=14 then some (.sidx s (a:Int) b (by omega) hb)else if k=17 then some (.call 64 [bD b] [.bool false] (h1▸Gk b))else if k=22 then some (.call 66 [bD b] [.bool false] (h2▸Qt b))
     else if k=44 then some (hB Pg _ u hu)else none)else none
  calls:=fun f' k _=>if f'=38 then (if k=42 then some (MM w s a v l b ha hb' t hT)else if k=47 then some (u5 w s a v m l 4 0 t hl ht)else none)else none}
section
variable(b:UInt8)(ha:a<s.length)(hb:s[((a:Nat):Int).toNat]? =some b)(hb':(rst s a)[(0:Int).toNat]? =some b)(h1:bx b=false)(h2:jb b=false)(t:List UInt8)(hT:tJ s a b=t)
include b ha hb hb' h1 h2 t hT
theorem Gz(hu:(t==[])=false)(hl:l.length+1≤549755813888)(ht:a+t.length≤1099511627776)(rest:ab):
    ay Pg 38 [fX] (al (er w s a v m l) rest) [dI 0] (al (er w s (a+t.length) (v+1) m (l ++[oM 4 a t 0])) rest):=by
 cases w with
 |false=>exact ap aD named (B9 false s a v m l b ha hb hb' h1 h2 t hT false hu hl ht) 1000 130000 38 (by kernel_rfl)
 |true=>exact ap aD named (B9 true s a v m l b ha hb hb' h1 h2 t hT false hu hl ht) 1000 130000 38 (by kernel_rfl)
theorem GB(hu:(t==[])=true)(hl:l.length+1≤549755813888)(ht:a+t.length≤1099511627776)(rest:ab):
    ay Pg 38 [fX] (al (er w s a v m l) rest) [dI 4] (al (er w s a v m l) rest):=by
 cases w with
 |false=>exact ap aD named (B9 false s a v m l b ha hb hb' h1 h2 t hT true hu hl ht) 1000 130000 38 (by kernel_rfl)
 |true=>exact ap aD named (B9 true s a v m l b ha hb hb' h1 h2 t hT true hu hl ht) 1000 130000 38 (by kernel_rfl)
end
end
end Go.Avm
namespace Go.Proofs
open Go.Shelf
def Tryz.lays174_ren:Go.Shelf.Ren:=⟨fun|174=>93|247=>120|245=>121|287=>143|279=>144|280=>145|281=>146|282=>147|321=>163|322=>164|316=>165|171=>167|205=>166|243=>177|246=>91|283=>115|284=>116|285=>117|286=>118|129=>139|317=>138|318=>140|319=>141|320=>142|337=>161|338=>162|n=>n,fun|9=>9|3=>3|2=>2|75=>105|85=>182|4=>4|167=>228|5=>5|53=>175|175=>229|46=>149|168=>231|37=>49|0=>0|210=>251|21=>21|127=>114|145=>272|143=>270|171=>201|173=>204|212=>224|51=>119|20=>20|213=>225|232=>268|233=>269|80=>70|n=>n,fun|15=>4|16=>5|17=>2|18=>6|19=>7|n=>n⟩
theorem Tryz.lays174:Go.Proofs.LaysC.n174 Tryz.prog Tryz.lays174_ren:={
 mixed:=by kernel_rfl
 f129:=Tryz.func139.trans (congrArg some (by kernel_rfl))
 f171:=Tryz.func167.trans (congrArg some (by kernel_rfl))
 f174:=Tryz.func93.trans (congrArg some (by kernel_rfl))
 f205:=Tryz.func166.trans (congrArg some (by kernel_rfl))
 f243:=Tryz.func177.trans (congrArg some (by kernel_rfl))
 f245:=Tryz.func121.trans (congrArg some (by kernel_rfl))
 f246:=Tryz.func91.trans (congrArg some (by kernel_rfl))
 f247:=Tryz.func120.trans (congrArg some (by kernel_rfl))
 f279:=Tryz.func144.trans (congrArg some (by kernel_rfl))
 f280:=Tryz.func145.trans (congrArg some (by kernel_rfl))
 f281:=Tryz.func146.trans (congrArg some (by kernel_rfl))
 f282:=Tryz.func147.trans (congrArg some (by kernel_rfl))
 f283:=Tryz.func115.trans (congrArg some (by kernel_rfl))
 f284:=Tryz.func116.trans (congrArg some (by kernel_rfl))
 f285:=Tryz.func117.trans (congrArg some (by kernel_rfl))
 f286:=Tryz.func118.trans (congrArg some (by kernel_rfl))
 f287:=Tryz.func143.trans (congrArg some (by kernel_rfl))
 f316:=Tryz.func165.trans (congrArg some (by kernel_rfl))
 f317:=Tryz.func138.trans (congrArg some (by kernel_rfl))
 f318:=Tryz.func140.trans (congrArg some (by kernel_rfl))
 f319:=Tryz.func141.trans (congrArg some (by kernel_rfl))
 f320:=Tryz.func142.trans (congrArg some (by kernel_rfl))
 f321:=Tryz.func163.trans (congrArg some (by kernel_rfl))
 f322:=Tryz.func164.trans (congrArg some (by kernel_rfl))
 f337:=Tryz.func161.trans (congrArg some (by kernel_rfl))
 f338:=Tryz.func162.trans (congrArg some (by kernel_rfl))
 t0:=Tryz.underlying0
 a0:=Tryz.isAgg0
 z0:=Tryz.sizeOf0
 v0:=Tryz.zeroValue0
 t2:=Tryz.underlying2
 a2:=Tryz.isAgg2
 z2:=Tryz.sizeOf2
 v2:=Tryz.zeroValue2
 t3:=Tryz.underlying3
 a3:=Tryz.isAgg3
 z3:=Tryz.sizeOf3
 v3:=Tryz.zeroValue3
 t4:=Tryz.underlying4
 a4:=Tryz.isAgg4
 z4:=Tryz.sizeOf4
 v4:=Tryz.zeroValue4
 t5:=Tryz.underlying5
 a5:=Tryz.isAgg5
 z5:=Tryz.sizeOf5
 v5:=Tryz.zeroValue5
 t9:=Tryz.underlying9
 a9:=Tryz.isAgg9
 z9:=Tryz.sizeOf9
 v9:=Tryz.zeroValue9
 t20:=Tryz.underlying20
 a20:=Tryz.isAgg20
 z20:=Tryz.sizeOf20
 v20:=Tryz.zeroValue20
 t21:=Tryz.underlying21
 a21:=Tryz.isAgg21
 z21:=Tryz.sizeOf21
 v21:=Tryz.zeroValue21
 t37:=Tryz.underlying49
 a37:=Tryz.isAgg49
 z37:=Tryz.sizeOf49
 v37:=Tryz.zeroValue49
 t46:=Tryz.underlying149
 a46:=Tryz.isAgg149
 z46:=Tryz.sizeOf149
 v46:=Tryz.zeroValue149
 t51:=Tryz.underlying119
 a51:=Tryz.isAgg119
 z51:=Tryz.sizeOf119
 v51:=Tryz.zeroValue119
 t53:=Tryz.underlying175
 a53:=Tryz.isAgg175
 z53:=Tryz.sizeOf175
 v53:=Tryz.zeroValue175
 t75:=Tryz.underlying105
 a75:=Tryz.isAgg105
 z75:=Tryz.sizeOf105
 v75:=Tryz.zeroValue105
 t85:=Tryz.underlying182
 a85:=Tryz.isAgg182
 z85:=Tryz.sizeOf182
 v85:=Tryz.zeroValue182
 t127:=Tryz.underlying114
 a127:=Tryz.isAgg114
 z127:=Tryz.sizeOf114
 v127:=Tryz.zeroValue114
 t143:=Tryz.underlying270
 a143:=Tryz.isAgg270
 z143:=Tryz.sizeOf270
 v143:=Tryz.zeroValue270
 t145:=Tryz.underlying272
 a145:=Tryz.isAgg272
 z145:=Tryz.sizeOf272
 v145:=Tryz.zeroValue272
 t167:=Tryz.underlying228
 a167:=Tryz.isAgg228
 z167:=Tryz.sizeOf228
 v167:=Tryz.zeroValue228
 t168:=Tryz.underlying231
 a168:=Tryz.isAgg231
 z168:=Tryz.sizeOf231
 v168:=Tryz.zeroValue231
 t171:=Tryz.underlying201
 a171:=Tryz.isAgg201
 z171:=Tryz.sizeOf201
 v171:=Tryz.zeroValue201
 t173:=Tryz.underlying204
 a173:=Tryz.isAgg204
 z173:=Tryz.sizeOf204
 v173:=Tryz.zeroValue204
 t175:=Tryz.underlying229
 a175:=Tryz.isAgg229
 z175:=Tryz.sizeOf229
 v175:=Tryz.zeroValue229
 t210:=Tryz.underlying251
 a210:=Tryz.isAgg251
 z210:=Tryz.sizeOf251
 v210:=Tryz.zeroValue251
 t212:=Tryz.underlying224
 a212:=Tryz.isAgg224
 z212:=Tryz.sizeOf224
 v212:=Tryz.zeroValue224
 t213:=Tryz.underlying225
 a213:=Tryz.isAgg225
 z213:=Tryz.sizeOf225
 t232:=Tryz.underlying268
 a232:=Tryz.isAgg268
 z232:=Tryz.sizeOf268
 v232:=Tryz.zeroValue268
 t233:=Tryz.underlying269
 a233:=Tryz.isAgg269
 z233:=Tryz.sizeOf269
 v233:=Tryz.zeroValue269
 g15:=by kernel_rfl
 g16:=by kernel_rfl
 g17:=by kernel_rfl
 g18:=by kernel_rfl
 g19:=by kernel_rfl
 t80:=Tryz.underlying70
 a80:=Tryz.isAgg70
 z80:=Tryz.sizeOf70
 v80:=Tryz.zeroValue70
 i0:=by kernel_rfl
 i2:=by kernel_rfl
 i3:=by kernel_rfl
 i4:=by kernel_rfl
 i5:=by kernel_rfl
 i9:=by kernel_rfl
 i20:=by kernel_rfl
 i21:=by kernel_rfl
 i37:=by kernel_rfl
 i46:=by kernel_rfl
 i51:=by kernel_rfl
 i53:=by kernel_rfl
 i75:=by kernel_rfl
 i80:=by kernel_rfl
 i85:=by kernel_rfl
 i127:=by kernel_rfl
 i143:=by kernel_rfl
 i145:=by kernel_rfl
 i167:=by kernel_rfl
 i168:=by kernel_rfl
 i171:=by kernel_rfl
 i173:=by kernel_rfl
 i175:=by kernel_rfl
 i210:=by kernel_rfl
 i212:=by kernel_rfl
 i232:=by kernel_rfl
 i233:=by kernel_rfl
 m15:=by kernel_rfl
 m16:=by kernel_rfl
 m17:=by kernel_rfl
 m18:=by kernel_rfl
 m19:=by kernel_rfl
 c0:=by kernel_rfl
 c2:=by kernel_rfl
 c3:=by kernel_rfl
 c4:=by kernel_rfl
 c5:=by kernel_rfl
 c9:=by kernel_rfl
 c20:=by kernel_rfl
 c21:=by kernel_rfl
 c37:=by kernel_rfl
 c46:=by kernel_rfl
 c51:=by kernel_rfl
 c53:=by kernel_rfl
 c75:=by kernel_rfl
 c80:=by kernel_rfl
 c85:=by kernel_rfl
 c127:=by kernel_rfl
 c143:=by kernel_rfl
 c145:=by kernel_rfl
 c167:=by kernel_rfl
 c168:=by kernel_rfl
 c171:=by kernel_rfl
 c173:=by kernel_rfl
 c175:=by kernel_rfl
 c210:=by kernel_rfl
 c212:=by kernel_rfl
 c213:=by kernel_rfl
 c232:=by kernel_rfl
 c233:=by kernel_rfl}
end Go.Proofs
namespace Go.Avm
open Go.Proofs Go.RowKit
def dv(acc:Nat)(l:List UInt8):Nat:=l.foldl (fun a c=>a*10+(c.toNat-48)) acc
theorem AR(acc:Nat):dv acc []=acc:=by simp only[dv,List.foldl_nil]
theorem Ca(acc:Nat)(c:UInt8)(r:List UInt8):dv acc (c::r)=dv (acc*10+(c.toNat-48)) r:=by simp only[dv,List.foldl_cons]
theorem PY(l:List UInt8):∀acc:Nat,acc≤dv acc l:=by
 induction l with
 |nil=>intro acc;rw[AR];exact Nat.le_refl _
 |cons c r ih=>
  intro acc;have:=ih (acc*10+(c.toNat-48));rw[Ca];omega
theorem pF(b:UInt8):bx b=true↔48≤b.toNat∧b.toNat≤57:=by
 simp only[bx,DQ,DR,Bool.and_eq_true,decide_eq_true_eq];omega
theorem GC(M:Nat)(hM:M=18446744073709551615):∀(l:List UInt8)(acc:Nat),(∀c∈l,bx c=true)→(dv acc l≤M→Lib.parseUintM M acc l= .ok (dv acc l))∧(acc≤M→M<dv acc l→Lib.parseUintM M acc l= .range)
 |[],acc,_=>⟨fun _=>by rw[AR];rfl,fun h1 h2=>by rw[AR]at h2;omega⟩
 |c::r,acc,h=>by
  have hc:=(pF c).1 (h c (by simp));have ih:=GC M hM r (acc*10+(c.toNat-48)) (fun x hx=>h x (by simp[hx]));have hle:=PY r (acc*10+(c.toNat-48));rw[Ca];generalize dv (acc*10+(c.toNat-48)) r=V at*;rw[Lib.parseUintM,if_pos hc];refine⟨fun h0=> ?_,fun h0 h1=> ?_⟩
  ·rw[if_neg (by omega),if_neg (by omega)]
   exact ih.1 h0
  ·split
   ·rfl
   ·split
    ·rfl
    ·exact ih.2 (by omega) h1
theorem GD(c:UInt8)(r:List UInt8)(h:∀x∈c::r,bx x=true):(dv 0 (c::r)<9223372036854775808→Lib.parseIntB 64 (c::r)= .ok (dv 0 (c::r):Int))∧(9223372036854775808≤dv 0 (c::r)→Lib.parseIntB 64 (c::r)= .range):=by
 have hc:=(pF c).1 (h c (by simp));have hm:=GC _ (show(2^64-1:Nat)=18446744073709551615 from rfl) (c::r) 0 h;have hb:Lib.parseUintB 64 (c::r)=Lib.parseUintM (2^64-1) 0 (c::r):=by rw[Lib.parseUintB,if_neg (by simp)]
 have hx:(if c.toNat=43∨c.toNat=45 then r else c::r)=c::r:=if_neg (by omega);unfold Lib.parseIntB;simp only[hx,hb];generalize dv 0 (c::r)=V at*;have e1:(2^64-1:Nat)=18446744073709551615:=rfl;have e2:(2^(64-1):Nat)=9223372036854775808:=rfl;rw[e1]at hm ⊢;refine⟨fun h0=> ?_,fun h0=> ?_⟩
 ·rw[hm.1 (by omega)]
  simp only[e2];rw[if_neg (by omega),if_neg (by omega),if_neg (by omega)]
 ·by_cases h1:V≤18446744073709551615
  ·rw[hm.1 h1]
   simp only[e2];rw[if_pos (by omega)]
  ·rw[hm.2 (by omega) (by omega)]
theorem tK:dc Pg 93:=⟨Tryz.f93,Tryz.func93,by kernel_rfl,by kernel_rfl⟩
theorem MN{t:List UInt8}{I:Nat→Nat→Prop}{w:World}{u:Value}(h:DRep I w (.str t) u):∃s:ByteArray,u= .string s∧s.data.toList=t:=by
 cases h with
 |str _ s hs=>exact⟨s,rfl,hs⟩
theorem GE{k:IntKind}{n:Int}{I:Nat→Nat→Prop}{w:World}{u:Value}(h:DRep I w (.int k n) u):u= .int k n:=by
 cases h;rfl
theorem Kv{t:List UInt8}{I:Nat→Nat→Prop}{w:World}{cargs:Array Value}(hs:cargs.size=3)(h:∀(i:Nat)(x:D)(u:Value),[D.str t, .int .i64 10, .int .i64 64][i]? =some x→cargs[i]? =some u→DRep I w x u):
    ∃s:ByteArray,cargs= #[.string s, .int .i64 10, .int .i64 64]∧s.data.toList=t:=by
 obtain⟨l⟩:=cargs;match l,hs with
 |[a,b,c],_=>
  obtain⟨s,rfl,hs⟩:=MN (h 0 _ a rfl rfl);have hb:=GE (h 1 _ b rfl rfl);have hc:=GE (h 2 _ c rfl rfl);subst hb;subst hc;exact⟨s,rfl,hs⟩
theorem GF{I:Nat→Nat→Prop}{w:World}{a b:D}{x y:Value}(h1:DRep I w a x)(h2:DRep I w b y):rU I w [a,b] (.tuple #[x,y]):=
 .inr ⟨by simp, #[x,y],rfl,rfl,fun i d u hd hu=>by
  match i with
  |0=>simp at hd hu;subst hd;subst hu;exact h1
  |1=>simp at hd hu;subst hd;subst hu;exact h2
  |i+2=>simp at hd⟩
theorem Jk(c:UInt8)(r:List UInt8)(h:∀x∈c::r,bx x=true)(hl:(c::r).length≤100000)(hv:dv 0 (c::r)<9223372036854775808):aK Pg 93 [.str (c::r), .int .i64 10, .int .i64 64] [.int .i64 (dv 0 (c::r):Int), .nili]:=by
 refine⟨tK,fun w I cargs hI hsz hargs hg=> ?_⟩;obtain⟨s,rfl,hs⟩:=Kv hsz hargs;have hp:=(GD c r h).1 hv;rw[←hs]at hp
 have hlen:s.size≤9223372036854775806:=by
  have:s.data.toList.length=(c::r).length:=by rw[hs]
  have h2:s.data.toList.length=s.size:=by rw[Array.length_toList];rfl
  omega
 refine(Any.strconv_ParseInt_10_at64_ok Tryz.lays174 s hlen _ hp w).mono ?_;rintro e w' ⟨rfl,hw⟩
 have hb:Below w.heap.size w w':=by
  rcases hw with rfl|⟨t,rfl⟩
  ·exact Below.refl _ _
  ·exact Lib.bytesWorld_below _ _ _
 refine⟨_,I,rfl,hb,fun _ _ x=>x,fun _ _ x=> .inl x,fun b o x=>Nat.lt_of_lt_of_le (hI b o x) hb.size,GF ?_ .nili⟩;rw[hs];exact .int _ _
theorem GG(c:UInt8)(r:List UInt8)(h:∀x∈c::r,bx x=true)(hl:(c::r).length≤100000)(hv:9223372036854775808≤dv 0 (c::r)):aK Pg 93 [.str (c::r), .int .i64 10, .int .i64 64] [.int .i64 9223372036854775807, .ifc]:=by
 refine⟨tK,fun w I cargs hI hsz hargs hg=> ?_⟩;obtain⟨s,rfl,hs⟩:=Kv hsz hargs;have hp:=(GD c r h).2 hv;rw[←hs]at hp
 have hlen:s.size≤281474976710656:=by
  have:s.data.toList.length=(c::r).length:=by rw[hs]
  have h2:s.data.toList.length=s.size:=by rw[Array.length_toList];rfl
  omega
 obtain⟨ty,v,hc⟩:∃ty v,w.cell? ⟨5,0,none⟩=some (.iface ty v):=by
  have h3:DRep I w (.rp [.ifc]) (.pointer (some ⟨5,0,none⟩)):=hg 5 [.ifc] rfl;cases h3 with
  |rp cs b o U h1 hi hc hr=>
   have h4:=hr 0 .ifc rfl;have h5:=hc 0 .ifc rfl;generalize U 0=u at h4 h5;cases h4 with
   |ifc t v=>exact⟨t,v,h5⟩
 have hsat:Lib.intSat 64 s.data.toList=9223372036854775807:=by
  have hd:=(pF c).1 (h c (by simp));rw[hs,Lib.intSat,if_neg (by simp only[List.head?_cons,Option.map_some,Option.some.injEq];omega)];rfl
 refine(Any.strconv_ParseInt_10_at64_range Tryz.lays174 s hlen hp (.iface ty v) w hc (.inr ⟨_,_,rfl⟩)).mono ?_;rintro e w' ⟨N,rfl,hN,hcell,hb⟩;refine⟨_,I,rfl,hb,fun _ _ x=>x,fun _ _ x=> .inl x,fun b o x=>Nat.lt_of_lt_of_le (hI b o x) hb.size,GF ?_ (.ifc _ _)⟩;rw[hsat];exact .int _ _
end Go.Avm
