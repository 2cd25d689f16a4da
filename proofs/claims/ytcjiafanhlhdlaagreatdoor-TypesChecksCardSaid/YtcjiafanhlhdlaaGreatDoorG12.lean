/-
  Texts as programs: the reader's types, variables, and statements that begin with a name.
-/
import Derived.Test.YtcjiafanhlhdlaaGreatDoorG11
import Derived.Test.YtcjiafanhlhdlaaGreatDoorG07
import Derived.Test.YtcjiafanhlhdlaaGreatDoorG09
import Derived.IntWalk
import Derived.Shelf.LaysC
import Derived.Ground.NamesProg
import Derived.Shelf.Strconv.ParseIntPublic10
import Derived.Test.YtcjiafanhlhdlaaGreatDoorProg
set_option linter.unusedVariables false
set_option linter.unusedSimpArgs false
set_option linter.unusedSectionVars false
namespace Go.Avm
open Go.Proofs
def RCp{h:Type}(L:List T)(f:Nat)(args:List AV)(c:List (Nat×aE))(b:h→List (Nat×aE))(bd:List (Nat×aE))(g:h→List D)(s:RS):Res h→Prop
 | .ok a d=>d.i<L.length∧HC f args (rd L s ++c) (g a) (rd L d ++b a)
 | .bad p e d=>HX f args (rd L s ++c) (dA p e) (rd L d ++bd)
 | .out=>True
section
variable{L:List T}{F:Nat}{args:List AV}{s0:RS}{m l:Type}{g:m→List D}{j:List (Nat×aE)}{f:m→List (Nat×aE)}{bd:List (Nat×aE)}
theorem RCp.bind{d:Nat}{b:List AV}{n:l→List D}{s:RS}{r:Res l}{k:l→RS→Res m}(h:RC L d b n s r)
    (o:∀p e c,(HX d b (rd L s) (dA p e) (rd L c))→HX F args (rd L s0 ++j) (dA p e) (rd L c ++bd))
    (q:∀a c,c.i<L.length→(HC d b (rd L s) (n a) (rd L c))→RCp L F args j f bd g s0 (k a c)):RCp L F args j f bd g s0 (r.bind k):=by
 cases r with
 |ok a c=>exact q a c h.1 h.2
 |bad p e c=>exact o p e c h
 |out=>trivial
theorem RCp.bindp{q:Nat}{b:List AV}{d:List (Nat×aE)}{c:l→List (Nat×aE)}{o:List (Nat×aE)}{t:l→List D}{s:RS}{r:Res l}{k:l→RS→Res m}(h:RCp L q b d c o t s r)
    (u:∀p e n,(HX q b (rd L s ++d) (dA p e) (rd L n ++o))→HX F args (rd L s0 ++j) (dA p e) (rd L n ++bd))
    (v:∀a n,n.i<L.length→(HC q b (rd L s ++d) (t a) (rd L n ++c a))→RCp L F args j f bd g s0 (k a n)):RCp L F args j f bd g s0 (r.bind k):=by
 cases r with
 |ok a n=>exact v a n h.1 h.2
 |bad p e n=>exact u p e n h
 |out=>trivial
theorem RCp.may{s:RS}(k:s.i<L.length)(n:dC L)(x:List UInt8){X Y:RS→Res m}
    (r:∀p e a,(HX 45 [rP, .d (.str x)] (rd L s) (dA p e) (rd L a))→HX F args (rd L s0 ++j) (dA p e) (rd L a ++bd))
    (u:∀a,a.i<L.length→(HC 45 [rP, .d (.str x)] (rd L s) [.bool true] (rd L a))→RCp L F args j f bd g s0 (X a))
    (q:bV L s x=false→RCp L F args j f bd g s0 (Y s)):RCp L F args j f bd g s0 ((cD L x s).bind fun b c=>bif b then X c else Y c):=by
 have h:=Rx k n x;revert h;unfold cD;cases o:bV L s x with
 |false=>exact fun _=>q o
 |true=>
  simp only[xW];cases aL L x s with
  |ok t a=>exact fun h=>u a h.1 h.2
  |bad p e a=>exact fun h=>r p e a h
  |out=>exact fun _=>trivial
theorem RCp.ite{c:Bool}{X Y:Res m}(a:c=true→RCp L F args j f bd g s0 X)(b:c=false→RCp L F args j f bd g s0 Y):RCp L F args j f bd g s0 (bif c then X else Y):=by
 cases h:c with
 |true=>exact a h
 |false=>exact b h
end
abbrev kE:List (Nat×aE):=[(300000,⟨1,none⟩)]
abbrev kV(l:List Int):AV:= .vec 300000 1 1 (l.map fun k=> .int .u8 k)
abbrev kG:Int→List D:=fun k=>[.int .u8 k]
section
variable{L:List T}(a:dC L)
include a
theorem LY(s:RS)(l:s.i<L.length):RCp L 44 [rP,kV [1,2,3]] kE (fun _=>kE) kE kG s (e8 L [1,2,3] s):=by
 simp only[e8];refine RCp.may l a (fU 1) ?_ ?_ ?_
 ·exact fun _ _ _ c=>qX {pans:=an Pg [(44,4,310168,⟨3,some (bg c),[]⟩)]} 310000
 ·intro n h c1
  exact⟨h,qN {calls:=tC [(44,16,310210,ad c1)]} 310000⟩
 ·intro b
  refine RCp.may l a (fU 2) ?_ ?_ ?_
  ·exact fun _ _ _ c=>qX {calls:=tC [(44,16,310210,ad (ak l (fU 1) b))],pans:=an Pg [(44,4,310336,⟨3,some (bg c),[]⟩)]} 310000
  ·intro k g d
   exact⟨g,qN {calls:=tC [(44,16,310210,ad (ak l (fU 1) b)),(44,16,310378,ad d)]} 310000⟩
  ·intro h2
   refine RCp.may l a (fU 3) ?_ ?_ ?_
   ·exact fun _ _ _ c=>qX {calls:=tC [(44,16,310210,ad (ak l (fU 1) b)),(44,16,310378,ad (ak l (fU 2) h2))],pans:=an Pg [(44,4,310504,⟨3,some (bg c),[]⟩)]} 310000
   ·intro m e f
    exact⟨e,qN {calls:=tC [(44,16,310210,ad (ak l (fU 1) b)),(44,16,310378,ad (ak l (fU 2) h2)),(44,16,310546,ad f)]} 310000⟩
   ·intro j
    exact(qX {calls:=tC [(44,16,310210,ad (ak l (fU 1) b)),(44,16,310378,ad (ak l (fU 2) h2)),(44,16,310546,ad (ak l (fU 3) j))],pans:=an Pg [(44,7,310609,⟨1,some (bg (J7 l)),[]⟩)]} 310000:HX 44 [rP,kV [1,2,3]] (rd L s ++kE) (dA (bZ L s).p 4) (rd L s ++kE))
theorem Sj(s:RS)(l:s.i<L.length):RCp L 44 [rP,kV [1,2]] kE (fun _=>kE) kE kG s (e8 L [1,2] s):=by
 simp only[e8];refine RCp.may l a (fU 1) ?_ ?_ ?_
 ·exact fun _ _ _ c=>qX {pans:=an Pg [(44,4,310168,⟨3,some (bg c),[]⟩)]} 310000
 ·intro h f c1
  exact⟨f,qN {calls:=tC [(44,16,310210,ad c1)]} 310000⟩
 ·intro b
  refine RCp.may l a (fU 2) ?_ ?_ ?_
  ·exact fun _ _ _ c=>qX {calls:=tC [(44,16,310210,ad (ak l (fU 1) b))],pans:=an Pg [(44,4,310336,⟨3,some (bg c),[]⟩)]} 310000
  ·intro g e d
   exact⟨e,qN {calls:=tC [(44,16,310210,ad (ak l (fU 1) b)),(44,16,310378,ad d)]} 310000⟩
  ·intro h2
   exact(qX {calls:=tC [(44,16,310210,ad (ak l (fU 1) b)),(44,16,310378,ad (ak l (fU 2) h2))],pans:=an Pg [(44,7,310441,⟨1,some (bg (J7 l)),[]⟩)]} 310000:HX 44 [rP,kV [1,2]] (rd L s ++kE) (dA (bZ L s).p 4) (rd L s ++kE))
end
def VG:aP→List AV
 | .mk k id nm ty n p es bd a=>[u8 k,dI id, .d (.str nm),u8 ty,dI n,dI p, .d (.ro (fJ es)), .d (.ro (cg bd)), .d (.ro (cg a))]
abbrev Xr(a:aP):List (Nat×aE):=[(2235,⟨1,some (.arr 1 (VG a))⟩)]
abbrev Xs(id p:Int):List (Nat×aE):=[(2235,⟨1,some (.arr 1 [u8 0,dI id, .d (.str []),u8 0,dI 0,dI p, .nils, .nils, .nils])⟩)]
abbrev Xt:List (Nat×aE):=[(2235,⟨1,none⟩)]
section
variable{L:List T}(a:dC L)
include a
theorem Sk(n:Nat)(id p:Int)(s:RS)(l:s.i<L.length):RCp L 99 [rP,pC 2235] (Xs id p) Xr Xt (fun _=>[]) s (jX L n id p s):=by
 unfold jX;refine RCp.bind (pB l a 1 (by decide)) ?_ ?_
 ·exact fun _ _ _ c=>qX {pans:=an Pg [(99,0,299385,⟨3,some (bg c),[]⟩)]} 299385
 ·intro t I w c1
  refine RCp.bind (cw w a [58]) ?_ ?_
  ·exact fun _ _ _ c=>qX {calls:=tC [(99,7,299523,ad c1)],pans:=an Pg [(99,1,299845,⟨1,some (bg c),[]⟩)]} 299385
  ·intro _ H y d
   refine RCp.bindp (LY a _ y) ?_ ?_
   ·exact fun _ _ _ c=>qX {calls:=tC [(99,7,299523,ad c1),(99,14,299891,ad d)],pans:=an Pg [(99,2,299891,⟨3,some (bg c),[]⟩)]} 299385
   ·intro ty M h e
    refine RCp.ite (fun b=> ?_) (fun b=> ?_)
    ·
     refine RCp.bind (cw h a [91]) ?_ ?_
     ·exact fun _ _ _ c=>qX {hint:=qT 99 [(25,qB b)],calls:=tC [(99,7,299523,ad c1),(99,14,299891,ad d),(99,18,300029,ad e)],pans:=an Pg [(99,4,300397,⟨1,some (bg c),[]⟩)]} 299385
     ·intro _ z o f
      refine RCp.bind (pB o a 3 (by decide)) ?_ ?_
      ·exact fun _ _ _ c=>qX {hint:=qT 99 [(25,qB b)],calls:=tC [(99,7,299523,ad c1),(99,14,299891,ad d),(99,18,300029,ad e),(99,27,300443,ad f)],pans:=an Pg [(99,5,300443,⟨2,some (bg c),[]⟩)]} 299385
      ·intro m r j g
       refine RCp.bind (cw j a [93]) ?_ ?_
       ·exact fun _ _ _ c=>qX {hint:=qT 99 [(25,qB b)],calls:=tC [(99,7,299523,ad c1),(99,14,299891,ad d),(99,18,300029,ad e),(99,27,300443,ad f),(99,30,300535,ad g)],pans:=an Pg [(99,6,300719,⟨1,some (bg c),[]⟩)]} 299385
       ·intro _ B q k
        refine RCp.bind (cw q a [59]) ?_ ?_
        ·exact fun _ _ _ c=>qX {hint:=qT 99 [(25,qB b)],calls:=tC [(99,7,299523,ad c1),(99,14,299891,ad d),(99,18,300029,ad e),(99,27,300443,ad f),(99,30,300535,ad g),(99,35,300765,ad k)],pans:=an Pg [(99,9,300765,⟨1,some (bg c),[]⟩)]} 299385
        ·intro _ F C v
         exact⟨C,cq b9 named {hint:=qT 99 [(25,qB b)],calls:=tC [(99,7,299523,ad c1),(99,14,299891,ad d),(99,18,300029,ad e),(99,27,300443,ad f),(99,30,300535,ad g),(99,35,300765,ad k),(99,45,300811,ad v)]} 2000 299385 _ 1000000 ([(2235,6),(2235,7),(2235,8)]) ⟨rfl,rfl,rfl,by kernel_rfl,by kernel_rfl,by kernel_rfl⟩ (fun _=>by kernel_rfl)⟩
    ·
     refine RCp.may h a [61] ?_ ?_ ?_
     ·exact fun _ _ _ c=>qX {hint:=qT 99 [(25,qB b)],calls:=tC [(99,7,299523,ad c1),(99,14,299891,ad d),(99,18,300029,ad e)],pans:=an Pg [(99,7,300397,⟨1,some (bg c),[]⟩)]} 299385
     ·intro z o f
      refine RCp.bind ((lw a n).expr 1 _ o) ?_ ?_
      ·exact fun _ _ _ c=>qX {hint:=qT 99 [(25,qB b)],calls:=tC [(99,7,299523,ad c1),(99,14,299891,ad d),(99,18,300029,ad e),(99,37,300443,ad f)],pans:=an Pg [(99,8,300443,⟨2,some (bg c),[]⟩)]} 299385
      ·intro x r j g
       obtain⟨G,J,A,E,K,D⟩:=x;refine RCp.bind (cw j a [59]) ?_ ?_
       ·exact fun _ _ _ c=>qX {hint:=qT 99 [(25,qB b)],calls:=tC [(99,7,299523,ad c1),(99,14,299891,ad d),(99,18,300029,ad e),(99,37,300443,ad f),(99,40,300535,ad g)],pans:=an Pg [(99,9,300719,⟨1,some (bg c),[]⟩)]} 299385
       ·intro _ B q k
        exact⟨q,cq b9 named {hint:=qT 99 [(25,qB b)],calls:=tC [(99,7,299523,ad c1),(99,14,299891,ad d),(99,18,300029,ad e),(99,37,300443,ad f),(99,40,300535,ad g),(99,45,300765,ad k)]} 2000 299385 _ 1000000 ([(2235,6),(2235,7),(2235,8)]) ⟨rfl,rfl,rfl,by kernel_rfl,by kernel_rfl,by kernel_rfl⟩ (fun _=>by kernel_rfl)⟩
     ·intro u
      refine RCp.bind (cw h a [59]) ?_ ?_
      ·exact fun _ _ _ c=>qX {hint:=qT 99 [(25,qB b)],calls:=tC [(99,7,299523,ad c1),(99,14,299891,ad d),(99,18,300029,ad e),(99,37,300443,ad (ak h [61] u))],pans:=an Pg [(99,9,300443,⟨1,some (bg c),[]⟩)]} 299385
      ·intro _ r j g
       exact⟨j,cq b9 named {hint:=qT 99 [(25,qB b)],calls:=tC [(99,7,299523,ad c1),(99,14,299891,ad d),(99,18,300029,ad e),(99,37,300443,ad (ak h [61] u)),(99,45,300489,ad g)]} 2000 299385 _ 1000000 ([(2235,6),(2235,7),(2235,8)]) ⟨rfl,rfl,rfl,by kernel_rfl,by kernel_rfl,by kernel_rfl⟩ (fun _=>by kernel_rfl)⟩
theorem Hn(n:Nat)(id p:Int)(s:RS)(l:s.i<L.length):RCp L 101 [rP,pC 2235] (Xs id p) Xr Xt (fun _=>[]) s (dR L n id p s):=by
 unfold dR;refine RCp.bind (pB l a 1 (by decide)) ?_ ?_
 ·exact fun _ _ _ c=>qX {pans:=an Pg [(101,0,10000,⟨1,some (bg c),[]⟩)]} 10000
 ·intro t M b c1
  refine RCp.ite (fun h2=> ?_) (fun h2=> ?_)
  ·
   refine RCp.bind ((lw a n).call t.t p _ b) ?_ ?_
   ·exact fun _ _ _ c=>qX {calls:=tC [(101,7,10064,ad c1),(101,26,10256,ad (aW b [40] h2))],pans:=an Pg [(101,5,10320,⟨8,some (bg c),[]⟩)]} 10000
   ·intro x O E z
    obtain⟨r,v,g,q,w,j⟩:=x;refine RCp.bind (cw E a [59]) ?_ ?_
    ·exact fun _ _ _ c=>qX {calls:=tC [(101,7,10064,ad c1),(101,26,10256,ad (aW b [40] h2)),(101,35,10832,ad z)],pans:=an Pg [(101,11,11280,⟨1,some (bg c),[]⟩)]} 10000
    ·intro _ u h e
     exact⟨h,cq b9 named {calls:=tC [(101,7,10064,ad c1),(101,26,10256,ad (aW b [40] h2)),(101,35,10832,ad z),(101,63,11344,ad e)]} 2000 10000 _ 1000000 ([(2235,6),(2235,7),(2235,8)]) ⟨rfl,rfl,rfl,by kernel_rfl,by kernel_rfl,by kernel_rfl⟩ (fun _=>by kernel_rfl)⟩
  ·
   refine RCp.ite (fun d=> ?_) (fun d=> ?_)
   ·
    refine RCp.bind ((lw a n).place _ b) ?_ ?_
    ·exact fun _ _ _ c=>qX {calls:=tC [(101,7,10064,ad c1),(101,26,10256,ad (aW b [40] h2)),(101,43,10384,ad (aW b [91] d))],pans:=an Pg [(101,8,11024,⟨1,some (bg c),[]⟩)]} 10000
    ·intro x u h e
     obtain⟨r,v,g,q,w,j⟩:=x;refine RCp.bind (cw h a [61]) ?_ ?_
     ·exact fun _ _ _ c=>qX {calls:=tC [(101,7,10064,ad c1),(101,26,10256,ad (aW b [40] h2)),(101,43,10384,ad (aW b [91] d)),(101,52,11088,ad e)],pans:=an Pg [(101,9,11216,⟨1,some (bg c),[]⟩)]} 10000
     ·intro _ D m f
      refine RCp.bind ((lw a n).expr 1 _ m) ?_ ?_
      ·exact fun _ _ _ c=>qX {calls:=tC [(101,7,10064,ad c1),(101,26,10256,ad (aW b [40] h2)),(101,43,10384,ad (aW b [91] d)),(101,52,11088,ad e),(101,54,11280,ad f)],pans:=an Pg [(101,10,11280,⟨3,some (bg c),[]⟩)]} 10000
      ·intro y C o k
       obtain⟨H,K,G,J,I,B⟩:=y;refine RCp.bind (cw o a [59]) ?_ ?_
       ·exact fun _ _ _ c=>qX {calls:=tC [(101,7,10064,ad c1),(101,26,10256,ad (aW b [40] h2)),(101,43,10384,ad (aW b [91] d)),(101,52,11088,ad e),(101,54,11280,ad f),(101,58,11472,ad k)],pans:=an Pg [(101,11,11728,⟨1,some (bg c),[]⟩)]} 10000
       ·intro _ N F A
        exact⟨F,cq b9 named {calls:=tC [(101,7,10064,ad c1),(101,26,10256,ad (aW b [40] h2)),(101,43,10384,ad (aW b [91] d)),(101,52,11088,ad e),(101,54,11280,ad f),(101,58,11472,ad k),(101,63,11792,ad A)]} 2000 10000 _ 1000000 ([(2235,6),(2235,7),(2235,8)]) ⟨rfl,rfl,rfl,by kernel_rfl,by kernel_rfl,by kernel_rfl⟩ (fun _=>by kernel_rfl)⟩
   ·
    refine RCp.bind (cw b a [61]) ?_ ?_
    ·exact fun _ _ _ c=>qX {calls:=tC [(101,7,10064,ad c1),(101,26,10256,ad (aW b [40] h2)),(101,43,10384,ad (aW b [91] d))],pans:=an Pg [(101,2,11024,⟨1,some (bg c),[]⟩)]} 10000
    ·intro _ u h e
     refine RCp.bind ((lw a n).expr 1 _ h) ?_ ?_
     ·exact fun _ _ _ c=>qX {calls:=tC [(101,7,10064,ad c1),(101,26,10256,ad (aW b [40] h2)),(101,43,10384,ad (aW b [91] d)),(101,17,11088,ad e)],pans:=an Pg [(101,3,11088,⟨2,some (bg c),[]⟩)]} 10000
     ·intro x D m f
      obtain⟨r,v,g,q,w,j⟩:=x;refine RCp.bind (cw m a [59]) ?_ ?_
      ·exact fun _ _ _ c=>qX {calls:=tC [(101,7,10064,ad c1),(101,26,10256,ad (aW b [40] h2)),(101,43,10384,ad (aW b [91] d)),(101,17,11088,ad e),(101,20,11216,ad f)],pans:=an Pg [(101,11,11472,⟨1,some (bg c),[]⟩)]} 10000
      ·intro _ C o k
       exact⟨o,cq b9 named {calls:=tC [(101,7,10064,ad c1),(101,26,10256,ad (aW b [40] h2)),(101,43,10384,ad (aW b [91] d)),(101,17,11088,ad e),(101,20,11216,ad f),(101,63,11536,ad k)]} 2000 10000 _ 1000000 ([(2235,6),(2235,7),(2235,8)]) ⟨rfl,rfl,rfl,by kernel_rfl,by kernel_rfl,by kernel_rfl⟩ (fun _=>by kernel_rfl)⟩
end
end Go.Avm
namespace Go.Avm
open Go.Proofs
abbrev sR:aP→List D:=fun x=>[mn x]
abbrev bR:List aP→List D:=fun l=>[.ro (cg l)]
theorem RC.bindp{L:List T}{F:Nat}{args:List AV}{s0:RS}{n l:Type}{g:n→List D}{m:Nat}{b:List AV}{d:List (Nat×aE)}{c:l→List (Nat×aE)}{j:List (Nat×aE)}{o:l→List D}{s:RS}{r:Res l}{k:l→RS→Res n}(h:RCp L m b d c j o s r)
    (q:∀p e f,(HX m b (rd L s ++d) (dA p e) (rd L f ++j))→HX F args (rd L s0) (dA p e) (rd L f))
    (t:∀a f,f.i<L.length→(HC m b (rd L s ++d) (o a) (rd L f ++c a))→RC L F args g s0 (k a f)):RC L F args g s0 (r.bind k):=by
 cases r with
 |ok a f=>exact t a f h.1 h.2
 |bad p e f=>exact q p e f h
 |out=>trivial
section
variable{L:List T}(a:dC L)
include a
theorem Ho(n:Nat)(q:∀s:RS,s.i<L.length→RC L 46 [rP] bR s (cm L n s))(s0:RS)(X:s0.i<L.length):RC L 72 [rP] sR s0 (fV L (n+1) s0):=by
 have l:s0.st.i<L.length:=X;simp only[fV];refine RC.may l a [108,101,116] ?_ ?_ ?_
 ·exact fun _ _ _ c=>qX {calls:=tC [(72,16,2078,be rfl (bq l))],pans:=an Pg [(72,4,2386,⟨1,some (bg c),[]⟩)]} 1000
 ·intro Z P c1
  refine RC.bindp (Sk a n s0.st.n (bZ L s0.st).p _ P) ?_ ?_
  ·exact fun _ _ _ c=>qX {calls:=tC [(72,16,2078,be rfl (bq l)),(72,23,2463,ad c1)],pans:=an Pg [(72,5,2540,⟨1,some (bg c),[]⟩)]} 1000
  ·intro x R C o
   obtain⟨T,M,z,J,W,S,K,D,I⟩:=x;exact⟨C,qN {calls:=tC [(72,16,2078,be rfl (bq l)),(72,23,2463,ad c1),(72,25,2617,ad o)]} 1000⟩
 ·intro b
  refine RC.may l a [105,102] ?_ ?_ ?_
  ·exact fun _ _ _ c=>qX {calls:=tC [(72,16,2078,be rfl (bq l)),(72,23,2463,ad (ak l [108,101,116] b))],pans:=an Pg [(72,6,2540,⟨1,some (bg c),[]⟩)]} 1000
  ·intro R C o
   refine RC.bind ((lw a n).expr 1 _ C) ?_ ?_
   ·exact fun _ _ _ c=>qX {calls:=tC [(72,16,2078,be rfl (bq l)),(72,23,2463,ad (ak l [108,101,116] b)),(72,28,2617,ad o)],pans:=an Pg [(72,7,2694,⟨1,some (bg c),[]⟩)]} 1000
   ·intro x V E k
    obtain⟨A,F,r,y,G,t⟩:=x;refine RC.bind (q _ E) ?_ ?_
    ·exact fun _ _ _ c=>qX {calls:=tC [(72,16,2078,be rfl (bq l)),(72,23,2463,ad (ak l [108,101,116] b)),(72,28,2617,ad o),(72,30,2771,ad k)],pans:=an Pg [(72,8,3156,⟨1,some (bg c),[]⟩)]} 1000
    ·intro Q O e d
     refine RC.may e a [101,108,115,101] ?_ ?_ ?_
     ·exact fun _ _ _ c=>qX {calls:=tC [(72,16,2078,be rfl (bq l)),(72,23,2463,ad (ak l [108,101,116] b)),(72,28,2617,ad o),(72,30,2771,ad k),(72,35,3233,ad d)],pans:=an Pg [(72,9,3387,⟨1,some (bg c),[]⟩)]} 1000
     ·intro N v m
      refine RC.bind (q _ v) ?_ ?_
      ·exact fun _ _ _ c=>qX {calls:=tC [(72,16,2078,be rfl (bq l)),(72,23,2463,ad (ak l [108,101,116] b)),(72,28,2617,ad o),(72,30,2771,ad k),(72,35,3233,ad d),(72,38,3464,ad m)],pans:=an Pg [(72,10,3464,⟨1,some (bg c),[]⟩)]} 1000
      ·intro Y w j g
       exact⟨j,qN {calls:=tC [(72,16,2078,be rfl (bq l)),(72,23,2463,ad (ak l [108,101,116] b)),(72,28,2617,ad o),(72,30,2771,ad k),(72,35,3233,ad d),(72,38,3464,ad m),(72,40,3541,ad g)]} 1000⟩
     ·intro h
      exact⟨e,qN {calls:=tC [(72,16,2078,be rfl (bq l)),(72,23,2463,ad (ak l [108,101,116] b)),(72,28,2617,ad o),(72,30,2771,ad k),(72,35,3233,ad d),(72,38,3464,ad (ak e [101,108,115,101] h))]} 1000⟩
  ·intro h2
   refine RC.may l a [119,104,105,108,101] ?_ ?_ ?_
   ·exact fun _ _ _ c=>qX {calls:=tC [(72,16,2078,be rfl (bq l)),(72,23,2463,ad (ak l [108,101,116] b)),(72,28,2617,ad (ak l [105,102] h2))],pans:=an Pg [(72,11,2694,⟨1,some (bg c),[]⟩)]} 1000
   ·intro V E k
    refine RC.bind ((lw a n).expr 1 _ E) ?_ ?_
    ·exact fun _ _ _ c=>qX {calls:=tC [(72,16,2078,be rfl (bq l)),(72,23,2463,ad (ak l [108,101,116] b)),(72,28,2617,ad (ak l [105,102] h2)),(72,44,2771,ad k)],pans:=an Pg [(72,12,2848,⟨1,some (bg c),[]⟩)]} 1000
    ·intro x O e d
     obtain⟨A,F,r,y,G,t⟩:=x;refine RC.bind (q _ e) ?_ ?_
     ·exact fun _ _ _ c=>qX {calls:=tC [(72,16,2078,be rfl (bq l)),(72,23,2463,ad (ak l [108,101,116] b)),(72,28,2617,ad (ak l [105,102] h2)),(72,44,2771,ad k),(72,46,2925,ad d)],pans:=an Pg [(72,13,3310,⟨1,some (bg c),[]⟩)]} 1000
     ·intro Q N v m
      exact⟨v,qN {calls:=tC [(72,16,2078,be rfl (bq l)),(72,23,2463,ad (ak l [108,101,116] b)),(72,28,2617,ad (ak l [105,102] h2)),(72,44,2771,ad k),(72,46,2925,ad d),(72,51,3387,ad m)]} 1000⟩
   ·intro f
    refine RC.may l a [114,101,116,117,114,110] ?_ ?_ ?_
    ·exact fun _ _ _ c=>qX {calls:=tC [(72,16,2078,be rfl (bq l)),(72,23,2463,ad (ak l [108,101,116] b)),(72,28,2617,ad (ak l [105,102] h2)),(72,44,2771,ad (ak l [119,104,105,108,101] f))],pans:=an Pg [(72,14,2848,⟨1,some (bg c),[]⟩)]} 1000
    ·intro O e d
     refine RC.ite (fun h=> ?_) (fun h=> ?_)
     ·
      refine RC.bind (cw e a [59]) ?_ ?_
      ·exact fun _ _ _ c=>qX {calls:=tC [(72,16,2078,be rfl (bq l)),(72,23,2463,ad (ak l [108,101,116] b)),(72,28,2617,ad (ak l [105,102] h2)),(72,44,2771,ad (ak l [119,104,105,108,101] f)),(72,55,2925,ad d),(72,58,3233,ad (aW e [59] h))],pans:=an Pg [(72,18,3310,⟨1,some (bg c),[]⟩)]} 1000
      ·intro _ w j g
       exact⟨j,qN {calls:=tC [(72,16,2078,be rfl (bq l)),(72,23,2463,ad (ak l [108,101,116] b)),(72,28,2617,ad (ak l [105,102] h2)),(72,44,2771,ad (ak l [119,104,105,108,101] f)),(72,55,2925,ad d),(72,58,3233,ad (aW e [59] h)),(72,65,3387,ad g)]} 1000⟩
     ·
      refine RC.bind ((lw a n).expr 1 _ e) ?_ ?_
      ·exact fun _ _ _ c=>qX {calls:=tC [(72,16,2078,be rfl (bq l)),(72,23,2463,ad (ak l [108,101,116] b)),(72,28,2617,ad (ak l [105,102] h2)),(72,44,2771,ad (ak l [119,104,105,108,101] f)),(72,55,2925,ad d),(72,58,3233,ad (aW e [59] h))],pans:=an Pg [(72,17,3310,⟨1,some (bg c),[]⟩)]} 1000
      ·intro x w j g
       obtain⟨A,F,r,y,G,t⟩:=x;refine RC.bind (cw j a [59]) ?_ ?_
       ·exact fun _ _ _ c=>qX {calls:=tC [(72,16,2078,be rfl (bq l)),(72,23,2463,ad (ak l [108,101,116] b)),(72,28,2617,ad (ak l [105,102] h2)),(72,44,2771,ad (ak l [119,104,105,108,101] f)),(72,55,2925,ad d),(72,58,3233,ad (aW e [59] h)),(72,61,3387,ad g)],pans:=an Pg [(72,18,3618,⟨1,some (bg c),[]⟩)]} 1000
       ·intro _ U H B
        exact⟨H,qN {calls:=tC [(72,16,2078,be rfl (bq l)),(72,23,2463,ad (ak l [108,101,116] b)),(72,28,2617,ad (ak l [105,102] h2)),(72,44,2771,ad (ak l [119,104,105,108,101] f)),(72,55,2925,ad d),(72,58,3233,ad (aW e [59] h)),(72,61,3387,ad g),(72,65,3695,ad B)]} 1000⟩
    ·intro u
     refine RC.may l a [112,114,105,110,116] ?_ ?_ ?_
     ·exact fun _ _ _ c=>qX {calls:=tC [(72,16,2078,be rfl (bq l)),(72,23,2463,ad (ak l [108,101,116] b)),(72,28,2617,ad (ak l [105,102] h2)),(72,44,2771,ad (ak l [119,104,105,108,101] f)),(72,55,2925,ad (ak l [114,101,116,117,114,110] u))],pans:=an Pg [(72,19,3002,⟨1,some (bg c),[]⟩)]} 1000
     ·intro N v m
      refine RC.bind ((lw a n).expr 1 _ v) ?_ ?_
      ·exact fun _ _ _ c=>qX {calls:=tC [(72,16,2078,be rfl (bq l)),(72,23,2463,ad (ak l [108,101,116] b)),(72,28,2617,ad (ak l [105,102] h2)),(72,44,2771,ad (ak l [119,104,105,108,101] f)),(72,55,2925,ad (ak l [114,101,116,117,114,110] u)),(72,68,3079,ad m)],pans:=an Pg [(72,20,3156,⟨1,some (bg c),[]⟩)]} 1000
      ·intro x w j g
       obtain⟨A,F,r,y,G,t⟩:=x;refine RC.bind (cw j a [59]) ?_ ?_
       ·exact fun _ _ _ c=>qX {calls:=tC [(72,16,2078,be rfl (bq l)),(72,23,2463,ad (ak l [108,101,116] b)),(72,28,2617,ad (ak l [105,102] h2)),(72,44,2771,ad (ak l [119,104,105,108,101] f)),(72,55,2925,ad (ak l [114,101,116,117,114,110] u)),(72,68,3079,ad m),(72,70,3233,ad g)],pans:=an Pg [(72,21,3618,⟨1,some (bg c),[]⟩)]} 1000
       ·intro _ U H B
        exact⟨H,qN {calls:=tC [(72,16,2078,be rfl (bq l)),(72,23,2463,ad (ak l [108,101,116] b)),(72,28,2617,ad (ak l [105,102] h2)),(72,44,2771,ad (ak l [119,104,105,108,101] f)),(72,55,2925,ad (ak l [114,101,116,117,114,110] u)),(72,68,3079,ad m),(72,70,3233,ad g),(72,75,3695,ad B)]} 1000⟩
     ·intro h
      refine RC.bindp (Hn a n s0.st.n (bZ L s0.st).p _ l) ?_ ?_
      ·exact fun _ _ _ c=>qX {calls:=tC [(72,16,2078,be rfl (bq l)),(72,23,2463,ad (ak l [108,101,116] b)),(72,28,2617,ad (ak l [105,102] h2)),(72,44,2771,ad (ak l [119,104,105,108,101] f)),(72,55,2925,ad (ak l [114,101,116,117,114,110] u)),(72,68,3079,ad (ak l [112,114,105,110,116] h))],pans:=an Pg [(72,3,3156,⟨1,some (bg c),[]⟩)]} 1000
      ·intro x w j g
       obtain⟨T,M,z,J,W,S,K,D,I⟩:=x;exact⟨j,qN {calls:=tC [(72,16,2078,be rfl (bq l)),(72,23,2463,ad (ak l [108,101,116] b)),(72,28,2617,ad (ak l [105,102] h2)),(72,44,2771,ad (ak l [119,104,105,108,101] f)),(72,55,2925,ad (ak l [114,101,116,117,114,110] u)),(72,68,3079,ad (ak l [112,114,105,110,116] h)),(72,20,3233,ad g)]} 1000⟩
end
def B2(l:List aP):List (Nat×AV):=[(0,rP),(3, .vec 200000 l.length 9 (cg l))]
abbrev wn(v:Nat):List (Nat×aE):=[(200000,⟨v,none⟩)]
def VH(L:List T)(s:RS)(r:List aP):Res (List aP)→Prop
 | .ok b a=>a.i<L.length∧RL 17 (lO 46 3) (B2 r) (rd L s ++wn r.length) (.exit 0) (B2 b) (rd L a ++wn b.length)
 | .bad q t a=>∃v,RL 17 (lO 46 3) (B2 r) (rd L s ++wn r.length) (.panic (dA q t)) [] (rd L a ++wn v)
 | .out=>True
noncomputable def Oq{L:List T}{s:RS}{r:List aP}{b:List (Nat×aE)}{x:aB}{l':List (Nat×AV)}(h:RL 17 (lO 46 3) (B2 r) (rd L s ++wn r.length) x l' b):dJ Pg:=
 ⟨17,aJ Pg 46 3,B2 r,fun _=>rd L s ++wn r.length,x,l',fun _=>b,fun a X c d=>(h a X c d).aw⟩
section
variable{L:List T}{s:RS}(l:s.i<L.length)(r:List aP)
include l
theorem Ot(h:bV L s [125]=true):RE 17 (lO 46 3) (B2 r) (rd L s ++wn r.length) (.exit 0) (B2 r) (rd L s ++wn r.length):=
 qE {calls:=tC [(46,7,3017,ad (aW l [125] h))]} 46 3000
theorem Sl(h:bV L s [125]=false){q t:Int}{a:RS}(c:HX 72 [rP] (rd L s) (dA q t) (rd L a)):RE 17 (lO 46 3) (B2 r) (rd L s ++wn r.length) (.panic (dA q t)) [] (rd L a ++wn r.length):=
 qE {calls:=tC [(46,7,3017,ad (aW l [125] h))],pans:=an Pg [(46,4,3034,⟨2,some (bg c),[]⟩)]} 46 3000
theorem Sm(h:bV L s [125]=false)(d:r.length<1000000)(k id:Int)(nm:List UInt8)(ty n p:Int)(es:List Ex)(bd b:List aP){a:RS}(c:HC 72 [rP] (rd L s) [mn (.mk k id nm ty n p es bd b)] (rd L a)):RE 17 (lO 46 3) (B2 r) (rd L s ++wn r.length) .normal [(0,rP),(3, .vec 200000 (r.length+1) 9 (cg r ++[mn (.mk k id nm ty n p es bd b)]))] (rd L a ++wn (r.length+1)):=
 qE {hint:=qT 46 [(13, .app (cg r) 1 (by rw[fT];omega))],calls:=tC [(46,7,3017,ad (aW l [125] h)),(46,11,3068,ad c)]} 46 3000
theorem VI(h:bV L s [125]=false)(d:r.length<1000000)(x:aP){b:RS}(c:HC 72 [rP] (rd L s) [mn x] (rd L b)):RE 17 (lO 46 3) (B2 r) (rd L s ++wn r.length) .normal (B2 (r ++[x])) (rd L b ++wn (r ++[x]).length):=by
 obtain⟨k,id,nm,ty,n,p,es,bd,a⟩:=x;have f:(r ++[aP.mk k id nm ty n p es bd a]).length=r.length+1:=by simp
 have e:cg (r ++[aP.mk k id nm ty n p es bd a])=cg r ++[mn (.mk k id nm ty n p es bd a)]:=by rw[Jl];rfl
 simp only[B2,f,e];exact Sm l r h d k id nm ty n p es bd a c
end
section
variable{L:List T}{s b a e:RS}{i g:T}{q t:Int}(c1:HC 40 [rP, .d (.str [123])] (rd L s) [tD i] (rd L b))
theorem VJ(c:HX 40 [rP, .d (.str [123])] (rd L s) (dA q t) (rd L b)):HX 46 [rP] (rd L s) (dA q t) (rd L b):=
 qX {pans:=an Pg [(46,2,1034,⟨1,some (bg c),[]⟩)]} 1000
include c1
theorem VK(v:Nat)(h:RL 17 (lO 46 3) (B2 []) (rd L b ++wn ([]:List aP).length) (.panic (dA q t)) [] (rd L a ++wn v)):HX 46 [rP] (rd L s) (dA q t) (rd L a):=
 qX {nils:=fun f r=>if f=46 then (if r=2 then some ⟨0,3,200000,9,true,false⟩else none)else none,loops:=fun f q=>if f=46 then (if q=3 then some (Oq h)else none)else none,calls:=tC [(46,5,1051,ad c1)]} 1000
section
variable(r:List aP)(h:RL 17 (lO 46 3) (B2 []) (rd L b ++wn ([]:List aP).length) (.exit 0) (B2 r) (rd L a ++wn r.length))
include r h
theorem VL(c:HX 40 [rP, .d (.str [125])] (rd L a) (dA q t) (rd L e)):HX 46 [rP] (rd L s) (dA q t) (rd L e):=
 qX {nils:=fun f r=>if f=46 then (if r=2 then some ⟨0,3,200000,9,true,false⟩else none)else none,loops:=fun f q=>if f=46 then (if q=3 then some (Oq h)else none)else none,calls:=tC [(46,5,1051,ad c1)],pans:=an Pg [(46,5,1051,⟨1,some (bg c),[]⟩)]} 1000
theorem VM(c:HC 40 [rP, .d (.str [125])] (rd L a) [tD g] (rd L e)):HC 46 [rP] (rd L s) [.ro (cg r)] (rd L e):=
 qN {nils:=fun f r=>if f=46 then (if r=2 then some ⟨0,3,200000,9,true,false⟩else none)else none,loops:=fun f q=>if f=46 then (if q=3 then some (Oq h)else none)else none,calls:=tC [(46,5,1051,ad c1),(46,15,1068,ad c)]} 1000
end
end
structure Sn(L:List T)(n:Nat):Prop where
 block:∀s:RS,s.i<L.length→RC L 46 [rP] bR s (cm L n s)
 stmts:∀(r:List aP)(s:RS),s.i<L.length→r.length≤s.i→VH L s r (dS L n r s)
 stmt:∀s:RS,s.i<L.length→RC L 72 [rP] sR s (fV L n s)
theorem z8{L:List T}(j:dC L):∀n,Sn L n
 |0=>⟨fun _ _=>trivial,fun _ _ _ _=>trivial,fun _ _=>trivial⟩
 |n+1=>by
  obtain⟨u,k,p⟩:=z8 j n;refine⟨fun s l=> ?_,fun r s l A=> ?_,Ho j n u⟩
  ·simp only[cm]
   have c1:=cw l j [123];revert c1;cases aL L [123] s with
   |out=>exact fun _=>trivial
   |bad q t e=>exact fun c1=>VJ c1
   |ok y e=>
    intro c1;have b:=k [] e c1.1 (xz _);simp only[Res.bind];revert b;cases dS L n [] e with
    |out=>exact fun _=>trivial
    |bad q t o=>exact fun ⟨v,b⟩=>VK c1.2 v b
    |ok r o=>
     intro b;have f:=cw b.1 j [125];simp only;revert f;cases aL L [125] o with
     |out=>exact fun _=>trivial
     |bad q t w=>exact fun f=>VL c1.2 r b.2 f
     |ok B w=>exact fun f=>⟨f.1,VM c1.2 r b.2 f.2⟩
  ·simp only[dS]
   have g:r.length<1000000:=by have:=j.len;omega
   cases h:bV L s [125]with
   |true=>exact⟨l,fun a X c d=>aA (Ot l r h a X c d) (by simp)⟩
   |false=>
    have c1:=p s l;have m:=(lN L n).2.2 s;simp only[xP];revert c1 m;cases fV L n s with
    |out=>exact fun _ _=>trivial
    |bad q t e=>exact fun c1 _=>⟨_,fun a X c d=>aA (Sl l r h c1 a X c d) (by simp)⟩
    |ok x e=>
     intro c1 m;have m:=m x e rfl;have b:=k (r ++[x]) e c1.1 (by simp only[xK,xG,xS];omega);have i:=VI l r h g x c1.2;simp only[Res.bind];revert b;cases dS L n (r ++[x]) e with
     |out=>exact fun _=>trivial
     |bad q t o=>exact fun ⟨v,b⟩=>⟨v,fun a X c d=>au (i a X c d) (b a X c d)⟩
     |ok z o=>exact fun b=>⟨b.1,fun a X c d=>au (i a X c d) (b.2 a X c d)⟩
end Go.Avm
namespace Go.Avm
open Go.Proofs
abbrev oT(r:List Pm):List D:=r.map cR
abbrev jd(nm:List UInt8)(p:Int)(v:Nat)(l:List D):List (Nat×aE):=[(299842,⟨1,some (.arr 1 [.d (.str nm), .vec 400000 v 3 l,u8 0, .nils,dI p])⟩),(299672,⟨1,some (.arr 1 [rP])⟩),(400000,⟨v,none⟩)]
abbrev EH(v:Nat):List (Nat×aE):=[(299842,⟨1,none⟩),(299672,⟨1,none⟩),(400000,⟨v,none⟩)]
abbrev pX:AV:= .fn 43 [pC 299672,pC 299842]
section
variable{L:List T}(a:dC L)
include a
theorem Hp(nm:List UInt8)(p:Int)(r:List Pm)(k:r.length<1000000)(s:RS)(l:s.i<L.length):RCp L 43 [pC 299672,pC 299842] (jd nm p r.length (oT r)) (fun x=>jd nm p (r.length+1) (oT r ++[cR x])) (EH r.length) (fun _=>[]) s (gD L s):=by
 unfold gD;refine RCp.bind (pB l a 1 (by decide)) ?_ ?_
 ·exact fun _ _ _ c=>qX {pans:=an Pg [(43,0,299808,⟨1,some (bg c),[]⟩)]} 299808
 ·intro t m g c1
  refine RCp.bind (cw g a [58]) ?_ ?_
  ·exact fun _ _ _ c=>qX {calls:=tC [(43,4,299828,ad c1)],pans:=an Pg [(43,1,299868,⟨1,some (bg c),[]⟩)]} 299808
  ·intro _ h f b
   refine RCp.bindp (LY a _ f) ?_ ?_
   ·exact fun _ _ _ c=>qX {calls:=tC [(43,4,299828,ad c1),(43,6,299888,ad b)],pans:=an Pg [(43,2,299888,⟨6,some (bg c),[7,8]⟩)]} 299808
   ·intro ty j d e
    exact⟨d,qN {hint:=qT 43 [(18, .app (oT r) 1 (by simp only[xO];omega))],calls:=tC [(43,4,299828,ad c1),(43,6,299888,ad b),(43,13,300008,ad e)]} 299808⟩
end
def Hq:List (Nat×AV):=[(0,rP),(1,pX)]
def So(L:List T)(nm:List UInt8)(p:Int)(s:RS)(r:List Pm):Res (List Pm)→Prop
 | .ok b a=>a.i<L.length∧RL 17 (lO 42 3) Hq (rd L s ++jd nm p r.length (oT r)) (.exit 0) [(0,rP)] (rd L a ++jd nm p b.length (oT b))
 | .bad q t a=>∃v,RL 17 (lO 42 3) Hq (rd L s ++jd nm p r.length (oT r)) (.panic (dA q t)) [] (rd L a ++EH v)
 | .out=>True
noncomputable def Ou{L:List T}{nm:List UInt8}{p:Int}{s:RS}{r:List Pm}{b:List (Nat×aE)}{x:aB}{l':List (Nat×AV)}(h:RL 17 (lO 42 3) Hq (rd L s ++jd nm p r.length (oT r)) x l' (b)):dJ Pg:=
 ⟨17,aJ Pg 42 3,Hq,fun _=>rd L s ++jd nm p r.length (oT r),x,l',fun _=>b,fun a X c d=>(h a X c d).aw⟩
section
variable{L:List T}{s:RS}(l:s.i<L.length)(nm:List UInt8)(p:Int)(r:List Pm)
include l
theorem Ov(h:bV L s [44]=false):
    RE 17 (lO 42 3) Hq (rd L s ++jd nm p r.length (oT r)) (.exit 0) [(0,rP)] (rd L s ++jd nm p r.length (oT r)):=
 qE {calls:=tC [(42,12,3017,ad (ak l [44] h))]} 42 3000
theorem Ow(b:RS)(c1:HC 45 [rP, .d (.str [44])] (rd L s) [.bool true] (rd L b))(q t:Int)(a:RS)(c:HX 43 [pC 299672,pC 299842] (rd L b ++jd nm p r.length (oT r)) (dA q t) (rd L a ++EH r.length)):
    RE 17 (lO 42 3) Hq (rd L s ++jd nm p r.length (oT r)) (.panic (dA q t)) [] (rd L a ++EH r.length):=
 qE {calls:=tC [(42,12,3017,ad c1)],pans:=an Pg [(42,4,3017,⟨1,some (bg c),[]⟩)]} 42 3000
theorem VN(b:RS)(c1:HC 45 [rP, .d (.str [44])] (rd L s) [.bool true] (rd L b))(x:Pm)(a:RS)(c:HC 43 [pC 299672,pC 299842] (rd L b ++jd nm p r.length (oT r)) [] (rd L a ++jd nm p (r.length+1) (oT r ++[cR x]))):
    RE 17 (lO 42 3) Hq (rd L s ++jd nm p r.length (oT r)) .normal Hq (rd L a ++jd nm p (r.length+1) (oT r ++[cR x])):=
 qE {calls:=tC [(42,12,3017,ad c1),(42,14,3034,ad c)]} 42 3000
end
theorem Df(L:List T)(s:RS):Gr s (gD L s):=(hO L _ s).bind fun _ b _=>((aQ L _ b).bind fun _ a _=>((nF L _ a).bind fun _ _ _=>Gq.ok _ _).le).le
section
variable{L:List T}(b:dC L)(nm:List UInt8)(p:Int)
include b
theorem LZ:∀(n:Nat)(r:List Pm)(s:RS),s.i<L.length→r.length≤s.i→So L nm p s r (dT L n r s)
 |0,_,_,_,_=>trivial
 |n+1,r,s,l,A=>by
  have o:r.length<1000000:=by have:=b.len;omega
  simp only[dT,cD];cases h:bV L s [44]with
  |false=>exact⟨l,fun d X e f=>aA (Ov l nm p r h d X e f) (by simp)⟩
  |true=>
   have hw:aL L [44] s= .ok (bZ L s) s.nx:=by simp only[aL,h];rfl
   have y:=vk b l h;have c1:=mayT l [44] h (bZ L s) s.nx (GX l b [44] h rfl rfl rfl rfl rfl rfl);simp only[xW,hw,Res.bind];have c:=Hp b nm p r o s.nx y;have g:=Df L s.nx;revert c g;cases gD L s.nx with
   |out=>exact fun _ _=>trivial
   |bad q t k=>exact fun c _=>⟨_,fun d X e f=>aA (Ow l nm p r s.nx c1 q t k c d X e f) (by simp)⟩
   |ok x k=>
    intro c g;have g:=g x k rfl;have z:(r ++[x]).length=r.length+1:=by simp
    have j:=LZ n (r ++[x]) k c.1 (by simp only[RS.nx]at g;omega);have m:=VN l nm p r s.nx c1 x k c.2;have w:oT (r ++[x])=oT r ++[cR x]:=by simp[oT]
    simp only;unfold So at j ⊢;simp only[z,w]at j;revert j;cases dT L n (r ++[x]) k with
    |out=>exact fun _=>trivial
    |bad q t u=>exact fun ⟨v,j⟩=>⟨v,fun d X e f=>au (m d X e f) (j d X e f)⟩
    |ok a u=>exact fun j=>⟨j.1,fun d X e f=>au (m d X e f) (j.2 d X e f)⟩
end
section
variable{L:List T}(nm:List UInt8)(p:Int){s a b e g:RS}{k j:T}{q t:Int}
theorem VO(c:HX 40 [rP, .d (.str [40])] (rd L s) (dA q t) (rd L a)):
    HX 42 [rP,pX] (rd L s ++jd nm p 0 []) (dA q t) (rd L a ++EH 0):=
 qX {pans:=an Pg [(42,0,1000,⟨1,some (bg c),[]⟩)]} 1000
section
variable(c:a.i<L.length)(c1:HC 40 [rP, .d (.str [40])] (rd L s) [tD k] (rd L a))
include c c1
theorem VP(h:bV L a [41]=true)(f:HC 40 [rP, .d (.str [41])] (rd L a) [tD j] (rd L b)):
    HC 42 [rP,pX] (rd L s ++jd nm p 0 []) [] (rd L b ++jd nm p 0 []):=
 qN {calls:=tC [(42,5,1017,ad c1),(42,7,1034,ad (aW c [41] h)),(42,16,1068,ad f)]} 1000
theorem VQ(h:bV L a [41]=true)(f:HX 40 [rP, .d (.str [41])] (rd L a) (dA q t) (rd L b)):
    HX 42 [rP,pX] (rd L s ++jd nm p 0 []) (dA q t) (rd L b ++EH 0):=
 qX {calls:=tC [(42,5,1017,ad c1),(42,7,1034,ad (aW c [41] h))],pans:=an Pg [(42,5,1051,⟨1,some (bg f),[]⟩)]} 1000
theorem VR(h:bV L a [41]=false)(d:HX 43 [pC 299672,pC 299842] (rd L a ++jd nm p 0 []) (dA q t) (rd L b ++EH 0)):
    HX 42 [rP,pX] (rd L s ++jd nm p 0 []) (dA q t) (rd L b ++EH 0):=
 qX {calls:=tC [(42,5,1017,ad c1),(42,7,1034,ad (aW c [41] h))],pans:=an Pg [(42,2,1051,⟨1,some (bg d),[]⟩)]} 1000
theorem VS(d:bV L a [41]=false)(x:Pm)(i:HC 43 [pC 299672,pC 299842] (rd L a ++jd nm p 0 []) [] (rd L b ++jd nm p 1 [cR x]))(v:Nat)(h:RL 17 (lO 42 3) Hq (rd L b ++jd nm p [x].length (oT [x])) (.panic (dA q t)) [] (rd L e ++EH v)):
    HX 42 [rP,pX] (rd L s ++jd nm p 0 []) (dA q t) (rd L e ++EH v):=
 qX {loops:=fun f q=>if f=42 then (if q=3 then some (Ou (r:=[x]) h)else none)else none,calls:=tC [(42,5,1017,ad c1),(42,7,1034,ad (aW c [41] d)),(42,10,1068,ad i)]} 1000
theorem VT(i:bV L a [41]=false)(x:Pm)(m:HC 43 [pC 299672,pC 299842] (rd L a ++jd nm p 0 []) [] (rd L b ++jd nm p 1 [cR x]))(r:List Pm)(h:RL 17 (lO 42 3) Hq (rd L b ++jd nm p [x].length (oT [x])) (.exit 0) [(0,rP)] (rd L e ++jd nm p r.length (oT r)))(l:HX 40 [rP, .d (.str [41])] (rd L e) (dA q t) (rd L g)):
    HX 42 [rP,pX] (rd L s ++jd nm p 0 []) (dA q t) (rd L g ++EH r.length):=
 qX {loops:=fun f q=>if f=42 then (if q=3 then some (Ou (r:=[x]) h)else none)else none,calls:=tC [(42,5,1017,ad c1),(42,7,1034,ad (aW c [41] i)),(42,10,1068,ad m)],pans:=an Pg [(42,5,1068,⟨1,some (bg l),[]⟩)]} 1000
theorem VU(i:bV L a [41]=false)(x:Pm)(m:HC 43 [pC 299672,pC 299842] (rd L a ++jd nm p 0 []) [] (rd L b ++jd nm p 1 [cR x]))(r:List Pm)(h:RL 17 (lO 42 3) Hq (rd L b ++jd nm p [x].length (oT [x])) (.exit 0) [(0,rP)] (rd L e ++jd nm p r.length (oT r)))(l:HC 40 [rP, .d (.str [41])] (rd L e) [tD j] (rd L g)):
    HC 42 [rP,pX] (rd L s ++jd nm p 0 []) [] (rd L g ++jd nm p r.length (oT r)):=
 qN {loops:=fun f q=>if f=42 then (if q=3 then some (Ou (r:=[x]) h)else none)else none,calls:=tC [(42,5,1017,ad c1),(42,7,1034,ad (aW c [41] i)),(42,10,1068,ad m),(42,16,1085,ad l)]} 1000
end
end
def Xu(L:List T)(nm:List UInt8)(p:Int)(s:RS):Res (List Pm)→Prop
 | .ok r a=>a.i<L.length∧HC 42 [rP,pX] (rd L s ++jd nm p 0 []) [] (rd L a ++jd nm p r.length (oT r))
 | .bad q t a=>∃v,HX 42 [rP,pX] (rd L s ++jd nm p 0 []) (dA q t) (rd L a ++EH v)
 | .out=>True
theorem Kj{L:List T}(h:dC L)(n:Nat)(nm:List UInt8)(p:Int)(s:RS)(l:s.i<L.length):Xu L nm p s (ed L n s):=by
 unfold ed;have c1:=cw l h [40];have j:=aQ L [40] s;revert c1 j;cases aL L [40] s with
 |out=>exact fun _ _=>trivial
 |bad q t d=>exact fun c1 _=>⟨0,VO nm p c1⟩
 |ok w d=>
  intro c1 j;have j:=j w d rfl;have c:=c1.1;simp only[Res.bind];cases b:bV L d [41]with
  |true=>
   have a:=cw c h [41];simp only[xW];revert a;cases aL L [41] d with
   |out=>exact fun _=>trivial
   |bad q t f=>exact fun a=>⟨0,VQ nm p c c1.2 b a⟩
   |ok y f=>exact fun a=>⟨a.1,VP nm p c c1.2 b a.2⟩
  |false=>
   have a:=Hp h nm p [] (by decide) d c;have k:=Df L d;simp only[xP];revert a k;cases gD L d with
   |out=>exact fun _ _=>trivial
   |bad q t f=>exact fun a _=>⟨0,VR nm p c c1.2 b a⟩
   |ok x f=>
    intro a k;have k:=k x f rfl;have g:=LZ h nm p n [x] f a.1 (by simp only[xG,xS];omega);simp only;revert g;cases dT L n [x] f with
    |out=>exact fun _=>trivial
    |bad q t m=>exact fun ⟨v,g⟩=>⟨v,VS nm p c c1.2 b x a.2 v g⟩
    |ok r m=>
     rintro⟨o,g⟩;have e:=cw o h [41];simp only;revert e;cases aL L [41] m with
     |out=>exact fun _=>trivial
     |bad q t u=>exact fun e=>⟨_,VT nm p c c1.2 b x a.2 r g e⟩
     |ok z u=>exact fun e=>⟨e.1,VU nm p c c1.2 b x a.2 r g e.2⟩
end Go.Avm
namespace Go.Avm
open Go.Proofs
theorem RC.bindv{L:List T}{F:Nat}{args:List AV}{s0:RS}{c:Type}{g:c→List D}{nm:List UInt8}{p:Int}{s:RS}{r:Res (List Pm)}{k:List Pm→RS→Res c}(h:Xu L nm p s r)
    (d:∀q e b v,(HX 42 [rP,pX] (rd L s ++jd nm p 0 []) (dA q e) (rd L b ++EH v))→HX F args (rd L s0) (dA q e) (rd L b))
    (f:∀a b,b.i<L.length→(HC 42 [rP,pX] (rd L s ++jd nm p 0 []) [] (rd L b ++jd nm p a.length (oT a)))→RC L F args g s0 (k a b)):RC L F args g s0 (r.bind k):=by
 cases r with
 |ok a b=>exact f a b h.1 h.2
 |bad q e b=>obtain⟨v,h⟩:=h;exact d q e b v h
 |out=>trivial
abbrev fR:Fn→List D:=fun f=>[bn f]
section
variable{L:List T}(a:dC L)
include a
theorem Xv(n:Nat)(s:RS)(l:s.i<L.length):RC L 23 [rP] fR s (wh L n s):=by
 unfold wh;refine RC.bind (cw l a [102,110]) ?_ ?_
 ·exact fun _ _ _ c=>qX {nils:=fun f r=>if f=23 then (if r=2 then some ⟨299842,1,400000,3,false,false⟩else none)else none,pans:=an Pg [(23,1,299719,⟨1,some (bg c),[3,7]⟩)]} 299671
 ·intro t D z c1
  refine RC.bind (pB z a 1 (by decide)) ?_ ?_
  ·exact fun _ _ _ c=>qX {nils:=fun f r=>if f=23 then (if r=2 then some ⟨299842,1,400000,3,false,false⟩else none)else none,calls:=tC [(23,5,299743,ad c1)],pans:=an Pg [(23,1,299719,⟨4,some (bg c),[7]⟩)]} 299671
  ·intro u A x d
   refine RC.bindv (Kj a n u.t t.p _ x) ?_ ?_
   ·exact fun _ _ _ _ c=>qX {nils:=fun f r=>if f=23 then (if r=2 then some ⟨299842,1,400000,3,false,false⟩else none)else none,calls:=tC [(23,5,299743,ad c1),(23,8,299791,ad d)],pans:=an Pg [(23,2,299887,⟨2,some (bg c),[]⟩)]} 299671
   ·intro ps B h e
    refine RC.may h a [58] ?_ ?_ ?_
    ·exact fun _ _ _ c=>qX {nils:=fun f r=>if f=23 then (if r=2 then some ⟨299842,1,400000,3,false,false⟩else none)else none,calls:=tC [(23,5,299743,ad c1),(23,8,299791,ad d),(23,13,299935,ad e)],pans:=an Pg [(23,3,299935,⟨1,some (bg c),[]⟩)]} 299671
    ·intro C y j
     refine RC.bindp (Sj a _ y) ?_ ?_
     ·exact fun _ _ _ c=>qX {nils:=fun f r=>if f=23 then (if r=2 then some ⟨299842,1,400000,3,false,false⟩else none)else none,calls:=tC [(23,5,299743,ad c1),(23,8,299791,ad d),(23,13,299935,ad e),(23,15,299959,ad j)],pans:=an Pg [(23,4,299959,⟨2,some (bg c),[]⟩)]} 299671
     ·intro k q m g
      refine RC.bind ((z8 a n).block _ m) ?_ ?_
      ·exact fun _ _ _ c=>qX {nils:=fun f r=>if f=23 then (if r=2 then some ⟨299842,1,400000,3,false,false⟩else none)else none,calls:=tC [(23,5,299743,ad c1),(23,8,299791,ad d),(23,13,299935,ad e),(23,15,299959,ad j),(23,18,300007,ad g)],pans:=an Pg [(23,5,300055,⟨1,some (bg c),[]⟩)]} 299671
      ·intro b E w v
       exact⟨w,qN {nils:=fun f r=>if f=23 then (if r=2 then some ⟨299842,1,400000,3,false,false⟩else none)else none,calls:=tC [(23,5,299743,ad c1),(23,8,299791,ad d),(23,13,299935,ad e),(23,15,299959,ad j),(23,18,300007,ad g),(23,21,300079,ad v)]} 299671⟩
    ·intro o
     refine RC.bind ((z8 a n).block _ h) ?_ ?_
     ·exact fun _ _ _ c=>qX {nils:=fun f r=>if f=23 then (if r=2 then some ⟨299842,1,400000,3,false,false⟩else none)else none,calls:=tC [(23,5,299743,ad c1),(23,8,299791,ad d),(23,13,299935,ad e),(23,15,299959,ad (ak h [58] o))],pans:=an Pg [(23,5,299959,⟨1,some (bg c),[]⟩)]} 299671
     ·intro b q m g
      exact⟨m,qN {nils:=fun f r=>if f=23 then (if r=2 then some ⟨299842,1,400000,3,false,false⟩else none)else none,calls:=tC [(23,5,299743,ad c1),(23,8,299791,ad d),(23,13,299935,ad e),(23,15,299959,ad (ak h [58] o)),(23,21,299983,ad g)]} 299671⟩
end
end Go.Avm
namespace Go.Avm
open Go.Proofs
abbrev wo(r:List Fn):List (Nat×aE):=[(499382,⟨1,some (.arr 1 [.vec 600000 r.length 5 (r.map bn)])⟩),(600000,⟨r.length,none⟩),(499423,⟨1,some (.arr 1 [dI 0])⟩),(499464,⟨1,some (.arr 1 [dI 0])⟩)]
abbrev P6:List (Nat×AV):=[(2,pC 499382),(3,pC 499423),(4,pC 499464)]
abbrev E5:List (Nat×AV):=[(2,pC 499382),(3,pC 499423),(4,pC 499464),(6,rP)]
def VV(L:List T)(s:RS)(r:List Fn):Res (List Fn)→Prop
 | .ok a b=>RL 40 (lO 12 7) E5 (rd L s ++wo r) (.exit 0) P6 (rd L b ++wo a)
 | .bad q t b=>∃a:List Fn,RL 40 (lO 12 7) E5 (rd L s ++wo r) (.panic (dA q t)) P6 (rd L b ++wo a)
 | .out=>True
section
variable{L:List T}{s:RS}(l:s.i<L.length)(r:List Fn)
include l
theorem Ox(h:((bZ L s).k==0)=true):RE 40 (lO 12 7) E5 (rd L s ++wo r) (.exit 0) P6 (rd L s ++wo r):=
 qE {hint:=qT 12 [(31,hB Pg ((bZ L s).k !=0) false (by simpa using h))],calls:=tC [(12,29,3040,ad (bq l))]} 12 3000
theorem Sp(h:((bZ L s).k==0)=false){q t:Int}{a:RS}(c:HX 23 [rP] (rd L s) (dA q t) (rd L a)):RE 40 (lO 12 7) E5 (rd L s ++wo r) (.panic (dA q t)) P6 (rd L a ++wo r):=
 qE {hint:=qT 12 [(31,hB Pg ((bZ L s).k !=0) true (by simpa using h))],calls:=tC [(12,29,3040,ad (bq l))],pans:=an Pg [(12,8,3120,⟨3,some (bg c),[]⟩)]} 12 3000
theorem Sq(h:((bZ L s).k==0)=false)(b:r.length<1000000)(nm:List UInt8)(ps:List Pm)(k:Int)(bd:List aP)(p:Int){a:RS}(c:HC 23 [rP] (rd L s) [bn ⟨nm,ps,k,bd,p⟩] (rd L a)):RE 40 (lO 12 7) E5 (rd L s ++wo r) .normal E5 (rd L a ++[(499382,⟨1,some (.arr 1 [.vec 600000 (r.length+1) 5 (r.map bn ++[bn ⟨nm,ps,k,bd,p⟩])])⟩),(600000,⟨r.length+1,none⟩),(499423,⟨1,some (.arr 1 [dI 0])⟩),(499464,⟨1,some (.arr 1 [dI 0])⟩)]):=
 qE {hint:=qT 12 [(31,hB Pg ((bZ L s).k !=0) true (by simpa using h)),(37, .app (r.map bn) 1 (by simp only[xO];omega))],calls:=tC [(12,29,3040,ad (bq l)),(12,35,3240,ad c)]} 12 3000
end
theorem VW{L:List T}{s:RS}(l:s.i<L.length)(r:List Fn)(h:((bZ L s).k==0)=false)(d:r.length<1000000)(x:Fn){a:RS}(c:HC 23 [rP] (rd L s) [bn x] (rd L a)):RE 40 (lO 12 7) E5 (rd L s ++wo r) .normal E5 (rd L a ++wo (r ++[x])):=by
 obtain⟨nm,ps,k,bd,p⟩:=x;have b:(r ++[Fn.mk nm ps k bd p]).length=r.length+1:=by simp
 have e:(r ++[Fn.mk nm ps k bd p]).map bn=r.map bn ++[bn ⟨nm,ps,k,bd,p⟩]:=by simp
 have:=Sq l r h d nm ps k bd p c;simp only[wo,b,e];exact this
theorem L0(L:List T)(n:Nat)(s:RS):Gr s (wh L n s):=by
 unfold wh
 have pp:∀(n:Nat)(r:List Pm)(s:RS),Gq s (dT L n r s):=fun n=>by
  induction n with
  |zero=>exact fun _ s=>Gq.out s
  |succ n k=>
   intro r s;simp only[dT];intro a j e;unfold cD at e;cases h:bV L s [44]<;>rw[h]at e
   ·cases e;exact xL _
   ·simp only[xW]at e
    cases hw:aL L [44] s<;>rw[hw]at e
    ·rename_i t g
     exact yH (zN (aQ L _ s t g hw)) (((Df L g).bind fun _ c _=>k _ c).le a j e)
    ·cases e
    ·cases e
 refine(aQ L _ s).bind fun t g _=>((hO L _ g).bind fun u c _=>Gq.bindq (?_:Gq c (ed L n c)) fun ps d _=>(FQ L _ d).bindq fun b f _=>Gq.ite ((nF L _ f).bind fun _ i _=>(((lN L n).1 i).bind fun _ _ _=>Gq.ok _ _).le).le (((lN L n).1 f).bind fun _ _ _=>Gq.ok _ _).le).le
 unfold ed;exact((aQ L _ c).bind fun _ d _=>Gq.ite ((aQ L _ d).bind fun _ _ _=>Gq.ok _ _).le ((Df L d).bind fun _ f _=>(pp n _ f).bindq fun _ i _=>((aQ L _ i).bind fun _ _ _=>Gq.ok _ _).le).le).le
section
variable{L:List T}(b:dC L)
include b
theorem L4(N:Nat):∀(n:Nat)(r:List Fn)(s:RS),s.i<L.length→r.length≤s.i→VV L s r (ld L N n r s)
 |0,_,_,_,_=>trivial
 |n+1,r,s,l,w=>by
  have o:r.length<1000000:=by have:=b.len;omega
  simp only[ld];cases h:((bZ L s).k==0)with
  |true=>exact fun d X e f=>aA (Ox l r h d X e f) (by simp)
  |false=>
   have c:=Xv b N s l;have g:=L0 L N s;simp only[xP];revert c g;cases wh L N s with
   |out=>exact fun _ _=>trivial
   |bad q t p=>exact fun c _=>⟨r,fun d X e f=>aA (Sp l r h c d X e f) (by simp)⟩
   |ok x p=>
    intro c g;have g:=g x p rfl;have j:=L4 N n (r ++[x]) p c.1 (by simp only[xK,xG,xS];omega);have m:=VW l r h o x c.2;simp only[Res.bind];revert j;cases ld L N n (r ++[x]) p with
    |out=>exact fun _=>trivial
    |bad q t u=>exact fun ⟨v,j⟩=>⟨v,fun d X e f=>au (m d X e f) (j d X e f)⟩
    |ok a u=>exact fun j d X e f=>au (m d X e f) (j d X e f)
end
noncomputable def Sr{L:List T}{s:RS}{r:List Fn}{b:List (Nat×aE)}{x:aB}{l':List (Nat×AV)}(h:RL 40 (lO 12 7) E5 (rd L s ++wo r) x l' b):dJ Pg:=
 ⟨40,aJ Pg 12 7,E5,fun _=>rd L s ++wo r,x,l',fun _=>b,fun a X c d=>(h a X c d).aw⟩
section
variable{x:List UInt8}{L:List T}
theorem Hr{a e:Int}(b:(e !=0)=true)(c:aF Pg 21 [.str x] [.ro [], .int .i64 a, .int .i64 e]):aF Pg 12 [.str x] [.agg [.ro []], .int .i64 a, .int .i64 e]:=
 qV {hint:=qT 12 [(9, .call 21 _ _ c),(14,qB b)]} 499380
theorem Oy{q t:Int}{a:RS}(b:aF Pg 21 [.str x] [rN L, .int .i64 0, .int .i64 0])(c:HX 23 [rP] (rd L ⟨0,0,0⟩) (dA q t) (rd L a)):aF Pg 12 [.str x] [.agg [.ro []], .int .i64 q, .int .i64 t]:=
 qV {hint:=qT 12 [(9, .call 21 _ _ b)],pans:=an Pg [(12,6,500060,⟨3,some (bg c),[]⟩)]} 499380
theorem Oz{nm:List UInt8}{ps:List Pm}{k:Int}{bd:List aP}{p:Int}{q t:Int}{a b:RS}{d:List Fn}(e:aF Pg 21 [.str x] [rN L, .int .i64 0, .int .i64 0])(c:HC 23 [rP] (rd L ⟨0,0,0⟩) [bn ⟨nm,ps,k,bd,p⟩] (rd L a))
    (h:RL 40 (lO 12 7) E5 (rd L a ++wo [⟨nm,ps,k,bd,p⟩]) (.panic (dA q t)) P6 (rd L b ++wo d)):aF Pg 12 [.str x] [.agg [.ro []], .int .i64 q, .int .i64 t]:=
 qV {nils:=fun f r=>if f=12 then (if r=6 then some ⟨499382,0,600000,5,false,false⟩else none)else none,loops:=fun f q=>if f=12 then (if q=7 then some (Sr h)else none)else none,hint:=qT 12 [(9, .call 21 _ _ e)],calls:=tC [(12,24,500180,ad c)]} 499380
theorem OA{nm:List UInt8}{ps:List Pm}{k:Int}{bd:List aP}{p:Int}{a d:RS}{b:List Fn}(e:aF Pg 21 [.str x] [rN L, .int .i64 0, .int .i64 0])(c:HC 23 [rP] (rd L ⟨0,0,0⟩) [bn ⟨nm,ps,k,bd,p⟩] (rd L a))
    (h:RL 40 (lO 12 7) E5 (rd L a ++wo [⟨nm,ps,k,bd,p⟩]) (.exit 0) P6 (rd L d ++wo b)):aF Pg 12 [.str x] [.agg [.ro (b.map bn)], .int .i64 0, .int .i64 0]:=
 qV {nils:=fun f r=>if f=12 then (if r=6 then some ⟨499382,0,600000,5,false,false⟩else none)else none,loops:=fun f q=>if f=12 then (if q=7 then some (Sr h)else none)else none,hint:=qT 12 [(9, .call 21 _ _ e)],calls:=tC [(12,24,500180,ad c)]} 499380
end
def Hs:Res (List Fn)→List D
 | .ok l _=>[.agg [.ro (l.map bn)], .int .i64 0, .int .i64 0]
 | .bad p e _=>[.agg [.ro []], .int .i64 p, .int .i64 e]
 | .out=>[]
theorem OB{x:List UInt8}{L:List T}(h:dC L)(l:0<L.length)(e:aF Pg 21 [.str x] [rN L, .int .i64 0, .int .i64 0])(n:Nat)(a:g8 L n≠ .out):aF Pg 12 [.str x] (Hs (g8 L n)):=by
 unfold g8 at a ⊢;have c:=Xv h n ⟨0,0,0⟩ l;have g:=L0 L n ⟨0,0,0⟩;revert c g a;cases wh L n ⟨0,0,0⟩with
 |out=>exact fun a _ _=>absurd rfl a
 |bad q t d=>exact fun _ c _=>Oy e c
 |ok f d=>
  intro a c g;have g:=g f d rfl;have b:=L4 h n n [f] d c.1 (by simp only[xG,xS];omega);obtain⟨nm,ps,k,bd,p⟩:=f;simp only[Res.bind]at a ⊢;revert b a;cases ld L n n [⟨nm,ps,k,bd,p⟩] d with
  |out=>exact fun a _=>absurd rfl a
  |bad q t i=>exact fun _ ⟨j,b⟩=>Oz e c.2 b
  |ok j i=>exact fun _ b=>OA e c.2 b
end Go.Avm
namespace Go.Avm
open Go.Proofs
def G1{c:Type}(L:List T)(s:RS)(r:Res c):Prop:=r≠ .out∧∀a b,r= .ok a b→s.i<b.i∧b.i<L.length
def G0{c:Type}(L:List T)(s:RS)(r:Res c):Prop:=r≠ .out∧∀a b,r= .ok a b→s.i≤b.i∧b.i<L.length
section
variable{L:List T}{d g:Type}{s:RS}
theorem G1.le{r:Res d}(h:G1 L s r):G0 L s r:=⟨h.1,fun a b e=>⟨zN (h.2 a b e).1,(h.2 a b e).2⟩⟩
theorem G0.ok(a:d)(l:s.i<L.length):G0 L s (.ok a s):=⟨fun e=>(by cases e),fun _ _ e=>by cases e;exact⟨xL _,l⟩⟩
theorem G1.bind{r:Res d}{f:d→RS→Res g}(h:G1 L s r)(n:∀a c,s.i<c.i→c.i<L.length→G0 L c (f a c)):G1 L s (r.bind f):=by
 cases r with
 |ok a c=>
  obtain⟨l,h2⟩:=h.2 a c rfl;obtain⟨m,k⟩:=n a c l h2;exact⟨m,fun b j e=>⟨xy l (k b j e).1,(k b j e).2⟩⟩
 |bad p q c=>exact⟨fun e=>(by cases e),fun _ _ e=>by cases e⟩
 |out=>exact absurd rfl h.1
theorem G0.bind{r:Res d}{f:d→RS→Res g}(h:G0 L s r)(n:∀a c,s.i≤c.i→c.i<L.length→G0 L c (f a c)):G0 L s (r.bind f):=by
 cases r with
 |ok a c=>
  obtain⟨l,h2⟩:=h.2 a c rfl;obtain⟨m,k⟩:=n a c l h2;exact⟨m,fun b j e=>⟨yH l (k b j e).1,(k b j e).2⟩⟩
 |bad p q c=>exact⟨fun e=>(by cases e),fun _ _ e=>by cases e⟩
 |out=>exact absurd rfl h.1
theorem G1.ite{c:Bool}{X Y:Res d}(a:G1 L s X)(b:G1 L s Y):G1 L s (bif c then X else Y):=by cases c<;>assumption
theorem G0.ite{c:Bool}{X Y:Res d}(a:G0 L s X)(b:G0 L s Y):G0 L s (bif c then X else Y):=by cases c<;>assumption
theorem G1.fail(l:s.i<L.length):G1 L s (fail L s:Res d):=⟨fun e=>(by cases e),fun _ _ e=>by cases e⟩
end
section
variable{L:List T}(c:dC L)
include c
theorem i7(x:List UInt8)(s:RS)(l:s.i<L.length):G1 L s (aL L x s):=by
 have h:=cw l c x;have g:=aQ L x s;revert h g;cases hw:aL L x s with
 |ok a f=>exact fun h g=>⟨fun e=>(by cases e),fun b k e=>by cases e;exact⟨g _ _ rfl,h.1⟩⟩
 |bad p q f=>exact fun _ _=>⟨fun e=>(by cases e),fun _ _ e=>by cases e⟩
 |out=>
  unfold aL at hw;cases j:bV L s x<;>rw[j]at hw
  ·cases hw
  ·simp only[xW]at hw
   cases h2:(x==[40]||x==[91]||x==[123])<;>rw[h2]at hw
   ·simp only[xP]at hw
    cases d:(x==[41]||x==[93]||x==[125])<;>rw[d]at hw<;>cases hw
   ·simp only[xW]at hw
    cases d:decide (200<fh (s.op+1))<;>rw[d]at hw<;>cases hw
theorem j6(k:Int)(f:k≠0)(s:RS)(l:s.i<L.length):G1 L s (eJ L k s):=by
 have h:=pB l c k f;have g:=hO L k s;revert h g;cases hw:eJ L k s with
 |ok a d=>exact fun h g=>⟨fun e=>(by cases e),fun b m e=>by cases e;exact⟨g _ _ rfl,h.1⟩⟩
 |bad p q d=>exact fun _ _=>⟨fun e=>(by cases e),fun _ _ e=>by cases e⟩
 |out=>
  unfold eJ at hw;cases j:((bZ L s).k==k)<;>rw[j]at hw<;>cases hw
section
variable{e:Type}{x:List UInt8}{s:RS}(l:s.i<L.length){X Y:RS→Res e}(d:∀a,s.i<a.i→a.i<L.length→G0 L a (X a))
include e x s l X Y d
theorem G1.mayT(i:G1 L s (Y s)):G1 L s ((cD L x s).bind fun b g=>bif b then X g else Y g):=by
 unfold cD;cases h:bV L s x with
 |false=>exact i
 |true=>
  simp only[xW];have:=(i7 c x s l).bind (f:=fun _ g=>X g) fun _ a j h2=>d a j h2
  revert this;cases aL L x s<;>exact fun h=>h
theorem G0.mayT(i:G0 L s (Y s)):G0 L s ((cD L x s).bind fun b g=>bif b then X g else Y g):=by
 unfold cD;cases h:bV L s x with
 |false=>exact i
 |true=>
  simp only[xW];have:=((i7 c x s l).bind (f:=fun _ g=>X g) fun _ a j h2=>d a j h2).le;revert this;cases aL L x s<;>exact fun h=>h
end
theorem vG:∀(k:List Int)(s:RS),s.i<L.length→G1 L s (e8 L k s)
 |[],s,l=>G1.fail l
 |k::r,s,l=>by
  simp only[e8];exact G1.mayT c l (fun a b h2=>G0.ok _ h2) (vG r s l)
structure GA(L:List T)(n:Nat):Prop where
 one:∀s:RS,s.i<L.length→4*(L.length-s.i)+1≤n→G1 L s (gQ L n s)
 place:∀s:RS,s.i<L.length→4*(L.length-s.i)+1≤n→G1 L s (d8 L n s)
 call:∀nm p (s:RS),s.i<L.length→4*(L.length-s.i)+2≤n→G1 L s (gk L n nm p s)
 args:∀s:RS,s.i<L.length→4*(L.length-s.i)+1≤n→G1 L s (gR L n s)
 more:∀l (s:RS),s.i<L.length→4*(L.length-s.i)+1≤n→G0 L s (fD L n l s)
 expr:∀k (s:RS),s.i<L.length→4*(L.length-s.i)+2≤n→G1 L s (bH L n k s)
 tail:∀k e (s:RS),s.i<L.length→4*(L.length-s.i)+1≤n→G0 L s (eK L n k e s)
theorem Kk:∀n,GA L n
 |0=>⟨fun _ _ h=>by omega,fun _ _ h=>by omega,fun _ _ _ _ h=>by omega,fun _ _ h=>by omega,fun _ _ _ h=>by omega,fun _ _ _ h=>by omega,fun _ _ _ _ h=>by omega⟩
 |n+1=>by
  have m:=Kk n;have W:=fun x s l=>i7 c x s l
  refine⟨fun s l h=> ?_,fun s l h=> ?_,fun nm p s l h=> ?_,fun s l h=> ?_,fun r s l h=> ?_,fun k s l h=> ?_,fun k e s l h=> ?_⟩
  ·simp only[gQ]
   have u:∀(f:Ex→Ex) b,s.i<b.i→b.i<L.length→G0 L b ((gQ L n b).bind fun e g=> .ok (f e) g):=fun f b C h2=>((m.one b h2 (by omega)).bind fun _ _ _ d=>G0.ok _ d).le
   refine G1.mayT c l (fun b=>u _ b) (G1.mayT c l (fun b=>u _ b) (G1.mayT c l (fun b=>u _ b) ?_));cases B:((bZ L s).k==3)with
   |true=>exact⟨fun e=>(by cases e),fun _ _ e=>by cases e;exact⟨zJ _,CV c l (by rw[eq_of_beq B];decide)⟩⟩
   |false=>
    simp only[xP];refine G1.mayT c l (fun b _ h2=>G0.ok _ h2) (G1.mayT c l (fun b _ h2=>G0.ok _ h2) ?_);refine G1.mayT c l (fun b _ h2=>((W _ b h2).bind fun _ g _ d=>((W _ g d).bind fun _ _ _ j=>G0.ok _ j).le).le) ?_;refine G1.mayT c l (fun b _ h2=>((W _ b h2).bind fun _ g _ d=>((j6 c 1 (by decide) g d).bind fun _ o _ j=>((W _ o j).bind fun _ _ _ q=>G0.ok _ q).le).le).le) ?_;refine G1.ite ((W _ s l).bind fun _ g t d=>((m.expr _ g d (by omega)).bind fun _ o _ j=>((W _ o j).bind fun _ _ _ q=>G0.ok _ q).le).le) ?_;exact(j6 c 1 (by decide) s l).bind fun _ g t d=>G0.ite ((m.place g d (by omega)).bind fun _ _ _ j=>G0.ok _ j).le (G0.ite ((m.call _ _ g d (by omega)).bind fun _ _ _ j=>G0.ok _ j).le (G0.ok _ d))
  ·simp only[d8]
   exact(W _ s l).bind fun _ g t d=>((m.expr _ g d (by omega)).bind fun _ o _ j=>((W _ o j).bind fun _ _ _ q=>G0.ok _ q).le).le
  ·simp only[gk]
   exact(m.args s l (by omega)).bind fun _ _ _ d=>G0.ok _ d
  ·simp only[gR]
   exact(W _ s l).bind fun _ g t d=>G0.ite ((W _ g d).bind fun _ _ _ j=>G0.ok _ j).le (((m.expr _ g d (by omega)).bind fun _ o v j=>(m.more _ o j (by omega)).bind fun _ A _ q=>((W _ A q).bind fun _ _ _ z=>G0.ok _ z).le).le)
  ·simp only[fD]
   exact G0.mayT c l (fun b C h2=>((m.expr _ b h2 (by omega)).bind fun _ o v j=>m.more _ o j (by omega)).le) (G0.ok _ l)
  ·simp only[bH]
   exact(m.one s l (by omega)).bind fun _ g t d=>m.tail _ _ g d (by omega)
  ·simp only[eK]
   cases w:((dY L k s).1==0)with
   |true=>exact G0.ok _ l
   |false=>
    simp only[xP];have y:s.nx.i<L.length:=oS l k c CL (by simpa [dY]using w);have D:s.nx.i=s.i+1:=rfl;have h2:=((m.expr (fh ((dY L k s).2+1)) s.nx y (by omega)).bind (f:=fun r g=>eK L n k (.mk 9 (dY L k s).1 [] 0 (bZ L s).p [e,r]) g) fun _ o v j=>m.tail _ _ o j (by omega))
    exact⟨h2.1,fun a b e=>⟨by have:=(h2.2 a b e).1;omega,(h2.2 a b e).2⟩⟩
theorem Ss(n:Nat)(id p:Int)(s:RS)(l:s.i<L.length)(h:4*(L.length-s.i)+1≤n):G1 L s (jX L n id p s):=by
 have W:=fun x s l=>i7 c x s l
 unfold jX;refine(j6 c 1 (by decide) s l).bind fun _ k y u=>((W _ k u).bind fun _ o v t=>((vG c _ o t).bind fun _ j w f=>G0.ite ?_ ?_).le).le
 ·exact((W _ j f).bind fun _ m _ g=>((j6 c 3 (by decide) m g).bind fun _ e _ b=>((W _ e b).bind fun _ r _ d=>((W _ r d).bind fun _ _ _ a=>G0.ok _ a).le).le).le).le
 ·exact(G1.mayT c f (fun q g b=>(((Kk c n).expr 1 q b (by omega)).bind fun _ e _ d=>((W _ e d).bind fun _ _ _ a=>G0.ok _ a).le).le) ((W _ j f).bind fun _ _ _ a=>G0.ok _ a)).le
theorem Kl(n:Nat)(id p:Int)(s:RS)(l:s.i<L.length)(h:4*(L.length-s.i)+1≤n):G1 L s (dR L n id p s):=by
 have W:=fun x s l=>i7 c x s l
 have A:=Kk c n;unfold dR;refine(j6 c 1 (by decide) s l).bind fun _ f r k=>G0.ite ((A.call _ _ f k (by omega)).bind fun _ b _ e=>((W _ b e).bind fun _ _ _ d=>G0.ok _ d).le).le (G0.ite ?_ ?_)
 ·exact((A.place f k (by omega)).bind fun _ b o e=>((W _ b e).bind fun _ j q d=>((A.expr 1 j d (by omega)).bind fun _ m _ g=>((W _ m g).bind fun _ _ _ a=>G0.ok _ a).le).le).le).le
 ·exact((W _ f k).bind fun _ b o e=>((A.expr 1 b e (by omega)).bind fun _ j _ d=>((W _ j d).bind fun _ _ _ a=>G0.ok _ a).le).le).le
theorem Ht:∀n,(∀s:RS,s.i<L.length→4*(L.length-s.i)+1≤n→G1 L s (cm L n s))∧(∀r (s:RS),s.i<L.length→4*(L.length-s.i)+3≤n→G0 L s (dS L n r s))∧(∀s:RS,s.i<L.length→4*(L.length-s.i)+2≤n→G1 L s (fV L n s))
 |0=>⟨fun _ _ h=>by omega,fun _ _ _ h=>by omega,fun _ _ h=>by omega⟩
 |n+1=>by
  obtain⟨y,h2,z⟩:=Ht n;have W:=fun x s l=>i7 c x s l
  have A:=Kk c n;refine⟨fun s l h=> ?_,fun r s l h=> ?_,fun s l h=> ?_⟩
  ·simp only[cm]
   exact(W _ s l).bind fun _ f t j=>(h2 _ f j (by omega)).bind fun _ d _ g=>((W _ d g).bind fun _ _ _ o=>G0.ok _ o).le
  ·simp only[dS]
   exact G0.ite (G0.ok _ l) ((z s l (by omega)).bind fun _ f t j=>h2 _ f j (by omega)).le
  ·simp only[fV]
   have l':s.st.i<L.length:=l;have G:s.st.i=s.i:=rfl;have u:=G1.mayT c l' (x:=[108,101,116]) (X:=fun f=>(jX L n s.st.n (bZ L s.st).p f).bind fun x d=> .ok x d) (Y:=fun f=>(cD L [105,102] f).bind fun b f=>bif b then
   (bH L n 1 f).bind fun e d=>(cm L n d).bind fun l q=>(cD L [101,108,115,101] q).bind fun b v=>
    bif b then (cm L n v).bind fun m C=> .ok (.mk 4 s.st.n [] 0 0 (bZ L s.st).p [e] l m) C else .ok (.mk 4 s.st.n [] 0 0 (bZ L s.st).p [e] l []) v
  else (cD L [119,104,105,108,101] f).bind fun b f=>bif b then
   (bH L n 1 f).bind fun e d=>(cm L n d).bind fun l q=> .ok (.mk 5 s.st.n [] 0 0 (bZ L s.st).p [e] l []) q
  else (cD L [114,101,116,117,114,110] f).bind fun b f=>bif b then
   bif bV L f [59]then (aL L [59] f).bind fun _ d=> .ok (.mk 6 s.st.n [] 0 0 (bZ L s.st).p [] [] []) d
   else (bH L n 1 f).bind fun e d=>(aL L [59] d).bind fun _ q=> .ok (.mk 6 s.st.n [] 0 0 (bZ L s.st).p [e] [] []) q
  else (cD L [112,114,105,110,116] f).bind fun b f=>bif b then
   (bH L n 1 f).bind fun e d=>(aL L [59] d).bind fun _ q=> .ok (.mk 7 s.st.n [] 0 0 (bZ L s.st).p [e] [] []) q
  else (dR L n s.st.n (bZ L s.st).p f).bind fun x d=> .ok x d)
      (fun k t j=>((Ss c n _ _ k j (by omega)).bind fun _ _ _ g=>G0.ok _ g).le) ?_
   ·exact⟨u.1,fun a k e=>u.2 a k e⟩
   refine G1.mayT c l' (fun k t j=> ?_) (G1.mayT c l' (fun k t j=> ?_) (G1.mayT c l' (fun k t j=> ?_) (G1.mayT c l' (fun k t j=> ?_) ?_)))
   ·exact((A.expr 1 k j (by omega)).bind fun _ d D g=>((y d g (by omega)).bind fun _ q F o=>G0.mayT c o (fun v E B=>((y v B (by omega)).bind fun _ _ _ w=>G0.ok _ w).le) (G0.ok _ o)).le).le
   ·exact((A.expr 1 k j (by omega)).bind fun _ d D g=>((y d g (by omega)).bind fun _ _ _ o=>G0.ok _ o).le).le
   ·exact G0.ite ((W _ k j).bind fun _ _ _ g=>G0.ok _ g).le ((A.expr 1 k j (by omega)).bind fun _ d _ g=>((W _ d g).bind fun _ _ _ o=>G0.ok _ o).le).le
   ·exact((A.expr 1 k j (by omega)).bind fun _ d _ g=>((W _ d g).bind fun _ _ _ o=>G0.ok _ o).le).le
   ·exact(Kl c n _ _ s.st l' (by omega)).bind fun _ _ _ g=>G0.ok _ g
theorem Dg(s:RS)(l:s.i<L.length):G1 L s (gD L s):=(j6 c 1 (by decide) s l).bind fun _ d _ h2=>((i7 c _ d h2).bind fun _ b _ e=>((vG c _ b e).bind fun _ _ _ a=>G0.ok _ a).le).le
theorem Dh:∀(n:Nat)(r:List Pm)(s:RS),s.i<L.length→L.length-s.i+1≤n→G0 L s (dT L n r s)
 |0,_,_,_,h=>by omega
 |n+1,r,s,l,h=>by
  simp only[dT];exact G0.mayT c l (fun b f h2=>((Dg c b h2).bind fun _ a e d=>Dh n _ a d (by omega)).le) (G0.ok _ l)
theorem OC(n:Nat)(s:RS)(l:s.i<L.length)(h:4*(L.length-s.i)+1≤n):G1 L s (wh L n s):=by
 have W:=fun x s l=>i7 c x s l
 have B:=(Ht c n).1;unfold wh;refine(W _ s l).bind fun t p w h2=>((j6 c 1 (by decide) p h2).bind fun u g v q=>(G1.bind (?_:G1 L g (ed L n g)) fun ps f m e=>G0.mayT c e (fun k o d=>((vG c _ k d).bind fun _ j r b=>((B j b (by omega)).bind fun _ _ _ a=>G0.ok _ a).le).le) ((B f e (by omega)).bind fun _ _ _ a=>G0.ok _ a).le).le).le
 unfold ed;exact(W _ g q).bind fun _ f m e=>G0.ite ((W _ f e).bind fun _ _ _ d=>G0.ok _ d).le ((Dg c f e).bind fun _ k o d=>(Dh c n _ k d (by omega)).bind fun _ j _ b=>((W _ j b).bind fun _ _ _ a=>G0.ok _ a).le).le
theorem Hu(N:Nat)(d:4*L.length+1≤N):∀(n:Nat)(r:List Fn)(s:RS),s.i<L.length→L.length-s.i+1≤n→G0 L s (ld L N n r s)
 |0,_,_,_,h=>by omega
 |n+1,r,s,l,h=>by
  simp only[ld];exact G0.ite (G0.ok _ l) ((OC c N s l (by omega)).bind fun _ b e a=>Hu N d n _ b a (by omega)).le
abbrev fuel(L:List T):Nat:=4*L.length+1
theorem Di(a:0<L.length):g8 L (fuel L)≠ .out:=
 ((OC c (fuel L) ⟨0,0,0⟩ a (by simp only[fuel];omega)).bind fun f b d h2=>Hu c (fuel L) (xL _) (fuel L) [f] b h2 (by simp only[fuel];omega)).1
end
end Go.Avm
namespace Go.Avm
open Go.Proofs
def wl:List (List UInt8):=[[102,110],[108,101,116],[105,102],[101,108,115,101],[119,104,105,108,101],[114,101,116,117,114,110],[112,114,105,110,116],[116,114,117,101],[102,97,108,115,101],[114,101,97,100],[108,101,110],[105,110,116],[98,111,111,108],[97,114,114]]
def oU:List (D×D×Nat):=[(.str [102,110], .agg [],0),(.str [108,101,116], .agg [],1),(.str [105,102], .agg [],2),(.str [101,108,115,101], .agg [],3),(.str [119,104,105,108,101], .agg [],4),(.str [114,101,116,117,114,110], .agg [],5),(.str [112,114,105,110,116], .agg [],6),(.str [116,114,117,101], .agg [],7),(.str [102,97,108,115,101], .agg [],8),(.str [114,101,97,100], .agg [],9),(.str [108,101,110], .agg [],10),(.str [105,110,116], .agg [],11),(.str [98,111,111,108], .agg [],12),(.str [97,114,114], .agg [],13)]
theorem pE(s:List UInt8):∀(l:List (List UInt8))(es:List (D×D×Nat))(n:Nat),es.map (fun e=>(e.1,e.2.1))=l.map (fun x=>(D.str x,D.agg []))→
    (∃i:Nat,l[i]? =some s∧(∀(j:Nat)(x:List UInt8),j<i→l[j]? =some x→(s==x)=false)∧cj (.str s) es n=some (some (n+i, .agg [])))∨((∀(i:Nat)(x:List UInt8),l[i]? =some x→(s==x)=false)∧cj (.str s) es n=some none)
 |[],es,n,h=>by
  have:es=[]:=by simpa using h
  subst this;exact .inr ⟨fun i x b=>by simp at b,rfl⟩
 |y::l,[],n,h=>by simp at h
 |y::l,e::es,n,h=>by
  simp only[xH,List.cons.injEq,xE]at h;obtain⟨⟨p,h2⟩,o⟩:=h;have f:jg (.str s) e.1=some (s==y):=by rw[p];rfl
  by_cases d:(s==y)=true
  ·left
   refine⟨0,by simp[eq_of_beq d],fun j x k=>by omega, ?_⟩;simp only[cj,f,d,h2,yo]
  ·have a:(s==y)=false:=by simpa using d
   rcases pE s l es (n+1) o with ⟨i,c,g,m⟩|⟨c,g⟩
   ·left
    refine⟨i+1,by simpa using c,fun j x k b=> ?_, ?_⟩
    ·cases j with
     |zero=>simp at b;subst b;exact a
     |succ j=>exact g j x (by omega) (by simpa using b)
    ·simp only[cj,f,a,m]
     congr 3;omega
   ·right
    refine⟨fun i x b=> ?_,by simp only[cj,f,a,g]⟩;cases i with
    |zero=>simp at b;subst b;exact a
    |succ i=>exact c i x (by simpa using b)
end Go.Avm
namespace Go.Avm
open Go.Proofs
def Yc(P:Program)(s x:List UInt8)(t:Bool)(h:(s==x)=t):bX P:= .val (dB (s==x)) (dB t) (by rw[h])
end Go.Avm
namespace Go.Avm
open Go.Proofs
abbrev bD(b:UInt8):D:= .int .u8 (b.toNat:Int)
def E6(k:Int)(b:UInt8):Bool:=decide (k≤(b.toNat:Int))
def E7(b:UInt8)(k:Int):Bool:=decide ((b.toNat:Int)≤k)
def b0(b:UInt8):Bool:=E6 48 b&&E7 b 57
def mR(b:UInt8):Bool:=E6 97 b&&E7 b 122
def pY(b:UInt8):Bool:=mR b||b0 b
def eN(b:UInt8):Bool:=((b.toNat:Int) !=10)
noncomputable def Dj(f:Nat)(c a:Int)(b:UInt8)(t u:Bool)(e:E6 c b=t)(h2:E7 b a=u):Par Pg:=
 {hint:=fun d k=>if d=f then (if k=4 then some (hB Pg _ t e)else if k=7 then some (hB Pg _ u h2)else none)else none}
theorem Hv(b:UInt8):aF Pg 64 [bD b] [.bool (b0 b)]:=by
 have k:∀t u,E6 48 b=t→E7 b 57=u→aF Pg 64 [bD b] [.bool (t&&u)]:=fun t u a h2=>by
  cases t with
  |false=>exact bp b9 named (Dj 64 48 57 b false u a h2) 100 (by kernel_rfl)
  |true=>exact bp b9 named (Dj 64 48 57 b true u a h2) 100 (by kernel_rfl)
 exact k _ _ rfl rfl
theorem T1(b:UInt8):aF Pg 66 [bD b] [.bool (mR b)]:=by
 have k:∀t u,E6 97 b=t→E7 b 122=u→aF Pg 66 [bD b] [.bool (t&&u)]:=fun t u a h2=>by
  cases t with
  |false=>exact bp b9 named (Dj 66 97 122 b false u a h2) 100 (by kernel_rfl)
  |true=>exact bp b9 named (Dj 66 97 122 b true u a h2) 100 (by kernel_rfl)
 exact k _ _ rfl rfl
noncomputable def Su(b:UInt8)(t u:Bool)(c:aF Pg 66 [bD b] [.bool t])(h2:aF Pg 64 [bD b] [.bool u]):Par Pg:=
 {hint:=fun a k=>if a=67 then (if k=4 then some (.call 66 [bD b] [.bool t] c)else if k=7 then some (.call 64 [bD b] [.bool u] h2)else none)else none}
theorem Yd(b:UInt8):aF Pg 67 [bD b] [.bool (pY b)]:=by
 have k:∀t u,aF Pg 66 [bD b] [.bool t]→aF Pg 64 [bD b] [.bool u]→aF Pg 67 [bD b] [.bool (t||u)]:=fun t u a h2=>by
  cases t with
  |false=>exact bp b9 named (Su b false u a h2) 100 (by kernel_rfl)
  |true=>exact bp b9 named (Su b true u a h2) 100 (by kernel_rfl)
 exact k _ _ (T1 b) (Hv b)
theorem Ye(b:UInt8):aF Pg 63 [bD b] [.bool (eN b)]:=bp b9 named {} 100 (by kernel_rfl)
abbrev fK:AV:= .ptr 324 1 0 0 1
abbrev VX(b c1 e c:AV)(s:List UInt8)(a v:Nat)(l:List D):Nat×aE:=(324,⟨1,some (.arr 1 [b,c1,e,c, .d (.str s),dN a, .vec 1 v 4 l])⟩)
def sub(s:List UInt8)(a e:Nat):List UInt8:=(s.take e).drop a
section
variable(g c1 m j:AV)(s:List UInt8)(a v:Nat)(l:List D)(f:Nat)
def B3(i:Nat):List (Nat×AV):=[(0,fK),(1, .fn f []),(5,dN i)]
def bK:List (Nat×aE):=[VX g c1 m j s a v l]
section
variable(e:f=63∨f=64∨f=67){i:Nat}{b:UInt8}(c:i<s.length)(d:s[((i:Nat):Int).toNat]? =some b)
include e i b c d
theorem Km(n:s.length≤100000)(hp:aF Pg f [bD b] [.bool true])(h:aa)(X:b4)(o:X.P=Pg)(q:X.N=39):
    AW X (lO 62 2) ⟨ah (B3 f i),ae (bK g c1 m j s a v l) h⟩ fun p S'=>p= .normal∧Weak X S' ⟨ah (B3 f (i+1)),ae (bK g c1 m j s a v l) h⟩:=by
 rcases e with rfl|rfl|rfl<;>exact sG b9 named {hint:=fun r k=>if r=62 then (if k=16 then some (qL c)else if k=24 then some (.sidx s (i:Int) b (by omega) d)else if k=25 then some (.call _ [bD b] [.bool true] hp)
  else if k=28 then some (bj Pg i (by omega))else none)else none} 1000 62 100000 39 (by kernel_rfl) X o q
theorem Ko(hp:aF Pg f [bD b] [.bool false])(h:aa)(X:b4)(n:X.P=Pg)(p:X.N=39):
    AW X (lO 62 2) ⟨ah (B3 f i),ae (bK g c1 m j s a v l) h⟩ fun o S'=>o= .exit 0∧Weak X S' ⟨ah [(0,fK),(5,dN i)],ae (bK g c1 m j s a v l) h⟩:=
 by
 rcases e with rfl|rfl|rfl<;>exact sG b9 named {hint:=fun q k=>if q=62 then (if k=16 then some (qL c)else if k=24 then some (.sidx s (i:Int) b (by omega) d)else if k=25 then some (.call _ [bD b] [.bool false] hp)
  else none)else none} 1000 62 100000 39 (by kernel_rfl) X n p
end
theorem OD(b:aa)(X:b4)(c:X.P=Pg)(e:X.N=39):
    AW X (lO 62 2) ⟨ah (B3 f s.length),ae (bK g c1 m j s a v l) b⟩ fun d S'=>d= .exit 0∧Weak X S' ⟨ah [(0,fK),(5,dN s.length)],ae (bK g c1 m j s a v l) b⟩:=
 sG b9 named {hint:=fun h k=>if h=62 then (if k=16 then some (qG s.length)else none)else none} 1000 62 100000 39 (by kernel_rfl) X c e
theorem Kp(x:f=63∨f=64∨f=67)(p:UInt8→Bool)(hp:∀b,aF Pg f [bD b] [.bool (p b)])(u:s.length≤100000)(e:Nat)(w:a≤e)(A:e≤s.length)(q:∀i b,a≤i→i<e→s[i]? =some b→p b=true)(r:∀b,s[e]? =some b→p b=false)
    (d:aa) (X:b4) (n:X.P=Pg) (o:X.N=39):
    AW X (.loop (lO 62 2)) ⟨ah (B3 f a),ae (bK g c1 m j s a v l) d⟩ fun z S'=>z= .exit 0∧S'=⟨ah [(0,fK),(5,dN e)],ae (bK g c1 m j s a v l) d⟩:=
 hJ (P:=Pg) (N:=39) (c:=aJ Pg 62 2) (B3 f) (fun _ _=>bK g c1 m j s a v l) (fun i=>a≤i∧i≤e) (fun i=>e-i) (.exit 0) [(0,fK),(5,dN e)] (fun _=>bK g c1 m j s a v l) a ⟨xL _,w⟩ (by simp)
  (fun d i y=>by
   rcases yR i e with h|h
   ·have t:=xD (l:=s) (i:=i) (by omega)
    have k:=hp s[i];rw[q i _ y.1 h t]at k;exact .inl ⟨i+1,⟨by omega,h⟩,by omega,fun X n o=>Km g c1 m j s a v l f x (by omega) t u k d X n o⟩
   ·have:i=e:=by omega
    subst this;rcases yR i s.length with h2|h2
    ·have t:=xD (l:=s) (i:=i) h2
     have k:=hp s[i];rw[r _ t]at k;exact .inr fun X n o=>Ko g c1 m j s a v l f x h2 t k d X n o
    ·have:i=s.length:=by omega
     subst this;exact .inr fun X n o=>OD g c1 m j s a v l f d X n o) d X n o
noncomputable def Sv(o:f=63∨f=64∨f=67)(p:UInt8→Bool)(hp:∀b,aF Pg f [bD b] [.bool (p b)])(h:s.length≤100000)(e:Nat)(k:a≤e)(n:e≤s.length)(c:∀i b,a≤i→i<e→s[i]? =some b→p b=true)(d:∀b,s[e]? =some b→p b=false):dJ Pg:=
 ⟨39,aJ Pg 62 2,B3 f a,fun _=>bK g c1 m j s a v l, .exit 0,[(0,fK),(5,dN e)],fun _=>bK g c1 m j s a v l,Kp g c1 m j s a v l f o p hp h e k n c d⟩
noncomputable def Sw(e:Nat)(H:dJ Pg)(c:a≤e∧e≤s.length):Par Pg:=
 {hint:=fun b k=>if b=62 then (if k=38 then some (.sub s a e c)else none)else none
  loops:=fun b r=>if b=62 then (if r=2 then some H else none)else none}
theorem VY(r:f=63∨f=64∨f=67)(p:UInt8→Bool)(hp:∀b,aF Pg f [bD b] [.bool (p b)])(n:s.length≤100000)(e:Nat)(o:a≤e)(q:e≤s.length)(h:∀i b,a≤i→i<e→s[i]? =some b→p b=true)(k:∀b,s[e]? =some b→p b=false)(c:aa):
    am Pg 62 [fK, .fn f []] (ae (bK g c1 m j s a v l) c) [.d (.str (sub s a e))] (ae (bK g c1 m j s a v l) c):=
 al b9 named (Sw s a e (Sv g c1 m j s a v l f r p hp n e o q h k) ⟨o,q⟩) 1000 100000 62 (by kernel_rfl)
end
end Go.Avm
namespace Go.Avm
open Go.Proofs
def P7(b:UInt8):Bool:=b==32||b==9||b==10||b==13
def cL:Bool→List UInt8→Nat
 |_,[]=>0
 |true,b::r=>1+cL (eN b) r
 |false,b::r=>if P7 b then 1+cL false r else if b==35 then 1+cL true r else 0
theorem jv:∀(c:Bool)(l:List UInt8),cL c l≤l.length
 |_,[]=>by simp[cL]
 |true,b::r=>by
  have:=jv (eN b) r;simp only[cL,xG];omega
 |false,b::r=>by
  have a:=jv false r;have h2:=jv true r;simp only[cL,xG];split
  ·omega
  ·split<;>omega
def fH(p:UInt8→Bool)(l:List UInt8):Nat:=(l.takeWhile p).length
theorem EI(b:UInt8):eN b=(b !=10):=by
 by_cases h:b=10
 ·subst h;rfl
 ·have c:(b !=10)=true:=by simpa using h
  have h2:eN b=true:=by
   simp only[eN,bne_iff_ne,ne_eq];intro a;apply h;apply UInt8.toNat_inj.1;have:(b.toNat:Int)=((10:Nat):Int):=a;exact Int.ofNat.inj this
  rw[c,h2]
theorem si:∀(l:List UInt8),cL true l=fH eN l+cL false (l.drop (fH eN l))
 |[]=>rfl
 |b::r=>by
  have d:=si r;cases a:eN b with
  |true=>
   simp only[cL,a,fH,yu,yS,xG,List.drop_succ_cons]at d ⊢;rw[d];omega
  |false=>
   have c:b=10:=by
    rw[EI]at a;simpa using a
   subst c;simp[cL,a,fH,P7]
theorem jw(p:UInt8→Bool)(s:List UInt8)(a:Nat)(n:a≤s.length):a+fH p (s.drop a)≤s.length∧(∀i b,a≤i→i<a+fH p (s.drop a)→s[i]? =some b→p b=true)∧∀b,s[a+fH p (s.drop a)]? =some b→p b=false:=by
 have f:fH p (s.drop a)≤(s.drop a).length:=by
  unfold fH;exact(List.takeWhile_sublist p).length_le
 have d:∀(l:List UInt8),(∀i b,i<fH p l→l[i]? =some b→p b=true)∧∀b,l[fH p l]? =some b→p b=false:=by
  intro l;induction l with
  |nil=>exact⟨fun i b _ h=>by simp at h,fun b h=>by simp at h⟩
  |cons x r g=>
   cases e:p x with
   |false=>simp[fH,yu,e]
   |true=>
    have k:fH p (x::r)=fH p r+1:=by simp[fH,yu,e]
    rw[k];refine⟨fun i b m c=> ?_,fun b c=> ?_⟩
    ·cases i with
     |zero=>simp at c;subst c;exact e
     |succ i=>exact g.1 i b (by omega) (by simpa using c)
    ·exact g.2 b (by simpa using c)
 refine⟨by simp at f;omega,fun i b o h2 c=> ?_,fun b c=> ?_⟩
 ·obtain⟨j,rfl⟩:∃j,i=a+j:=⟨i-a,by omega⟩
  exact(d (s.drop a)).1 j b (by omega) (by rw[xu];exact c)
 ·exact(d (s.drop a)).2 b (by rw[xu];exact c)
theorem Kq(s:List UInt8)(a e:Nat)(h:a≤e)(b:e≤s.length):(sub s a e).length=e-a:=by
 unfold sub;rw[yc,yb];omega
section
variable(g c1 j i:AV)(s:List UInt8)(a v:Nat)(l:List D)
noncomputable def Hw(f:Nat)(h:f=63∨f=64∨f=67)(p:UInt8→Bool)(hp:∀b,aF Pg f [bD b] [.bool (p b)])(c:s.length≤100000)(e:a≤s.length):eI Pg:=
 ⟨62,[fK, .fn f []],bK g c1 j i s a v l,[.d (.str (sub s a (a+fH p (s.drop a))))],[],
  p6 rfl (VY g c1 j i s a v l f h p hp c _ (zL _ _) (jw p s a e).1 (jw p s a e).2.1 (jw p s a e).2.2)⟩
def VZ(P:Program)(s:List UInt8)(a e:Nat)(h:a≤e)(c:e≤s.length)(b:s.length≤100000):bX P:= .val (dI (IntKind.i64.wrap ((a:Int)+((sub s a e).length:Int)))) (dN e) (by
 congr 2;rw[Kq s a e h c,IntWalk.i64_in _ (by omega)];omega)
theorem Kr{b:UInt8}(hw:b=32∨b=9∨b=10∨b=13)(m:a<s.length)(h:s[((a:Nat):Int).toNat]? =some b)(d:s.length≤100000)(c:aa)(X:b4)(e:X.P=Pg)(n:X.N=45):
    AW X (lO 37 0) ⟨ah [(0,fK)],ae (bK g c1 j i s a v l) c⟩ fun f S'=>f= .normal∧Weak X S' ⟨ah [(0,fK)],ae (bK g c1 j i s (a+1) v l) c⟩:=by
 rcases hw with rfl|rfl|rfl|rfl<;>exact sG b9 named {hint:=fun o k=>if o=37 then (if k=11 then some (qL m)else if k=20 then some (.sidx s (a:Int) _ (by omega) h)
  else if k=30 then some (bj Pg a (by omega))else none)else none} 1000 37 110000 45 (by kernel_rfl) X e n
theorem Hx(m:a<s.length)(h:s[((a:Nat):Int).toNat]? =some 35)(c:s.length≤100000)(b:aa)(X:b4)(e:X.P=Pg)(n:X.N=45):
    AW X (lO 37 0) ⟨ah [(0,fK)],ae (bK g c1 j i s a v l) b⟩ fun f S'=>f= .normal∧Weak X S' ⟨ah [(0,fK)],ae (bK g c1 j i s (a+fH eN (s.drop a)) v l) b⟩:=
 sG b9 named {hint:=fun d k=>if d=37 then (if k=11 then some (qL m)else if k=20 then some (.sidx s (a:Int) _ (by omega) h)
  else if k=42 then some (VZ Pg s a _ (zL _ _) (jw eN s a (by omega)).1 c)else none)else none
              calls:=fun d k _=>if d=37 then (if k=40 then some (Hw g c1 j i s a v l 63 (by simp) eN Ye c (by omega))else none)else none} 1000 37 110000 45 (by kernel_rfl) X e n
theorem Hy(b:aa)(X:b4)(c:X.P=Pg)(e:X.N=45):
    AW X (lO 37 0) ⟨ah [(0,fK)],ae (bK g c1 j i s s.length v l) b⟩ fun d S'=>d= .exit 0∧Weak X S' ⟨ah [(0,fK)],ae (bK g c1 j i s s.length v l) b⟩:=
 sG b9 named {hint:=fun f k=>if f=37 then (if k=11 then some (qG s.length)else none)else none} 1000 37 110000 45 (by kernel_rfl) X c e
def Hz(P:Program)(b:UInt8)(k:Nat)(h:b.toNat≠k):bX P:=hB P ((b.toNat:Int)==(k:Int)) false (by simp only[y6,ne_eq];omega)
theorem B4{b:UInt8}(r:b.toNat≠32)(h2:b.toNat≠9)(q:b.toNat≠10)(p:b.toNat≠13)(e:b.toNat≠35)(h:a<s.length)(m:s[((a:Nat):Int).toNat]? =some b)(c:aa)(X:b4)(d:X.P=Pg)(n:X.N=45):
    AW X (lO 37 0) ⟨ah [(0,fK)],ae (bK g c1 j i s a v l) c⟩ fun f S'=>f= .ret∧Weak X S' ⟨ah [(0,fK)],ae (bK g c1 j i s a v l) c⟩:=
 sG b9 named {hint:=fun o k=>if o=37 then (if k=11 then some (qL h)else if k=20 then some (.sidx s (a:Int) _ (by omega) m)
  else if k=22 then some (Hz Pg b 32 r)else if k=23 then some (Hz Pg b 9 h2)else if k=24 then some (Hz Pg b 10 q)else if k=25 then some (Hz Pg b 13 p)else if k=34 then some (Hz Pg b 35 e)else none)else none} 1000 37 110000 45 (by kernel_rfl) X d n
def a7(a:Nat):Nat:=a+cL false (s.drop a)
theorem EJ{b:UInt8}(h:P7 b=true):b=32∨b=9∨b=10∨b=13:=by
 simp only[P7,yQ,yI]at h;rcases h with ((h|h)|h)|h
 ·exact .inl h
 ·exact .inr (.inl h)
 ·exact .inr (.inr (.inl h))
 ·exact .inr (.inr (.inr h))
theorem sj{b:UInt8}{k:Nat}(d:k<256)(h:b≠UInt8.ofNat k):b.toNat≠k:=fun c=>h (by
 apply UInt8.toNat_inj.1;rw[c];simp[UInt8.toNat_ofNat'];omega)
theorem Aa(x:Nat)(e:x<s.length):∃b,s[((x:Nat):Int).toNat]? =some b∧
    ((b=32∨b=9∨b=10∨b=13)∧a7 s (x+1)=a7 s x∨b=35∧a7 s (x+fH eN (s.drop x))=a7 s x∧0<fH eN (s.drop x)∨
     (b.toNat≠32∧b.toNat≠9∧b.toNat≠10∧b.toNat≠13∧b.toNat≠35)∧a7 s x=x):=by
 have d:s.drop x=s[x]::s.drop (x+1):=xZ e;refine⟨s[x],by simp[e], ?_⟩;unfold a7;cases hw:P7 s[x]with
 |true=>
  refine .inl ⟨EJ hw, ?_⟩;rw[d];simp only[cL,hw,yS];omega
 |false=>
  by_cases c:s[x]=35
  ·refine .inr (.inl ⟨c, ?_, ?_⟩)
   ·have f:=si (s.drop (x+1))
    have h:fH eN (s.drop x)=fH eN (s.drop (x+1))+1:=by
     rw[d,c];simp[fH,yu,show eN 35=true from rfl]
    have h2:cL false (s.drop x)=1+cL true (s.drop (x+1)):=by
     rw[d];simp only[cL,hw,c];rfl
    rw[h2,f,h,List.drop_drop];have:x+(fH eN (s.drop (x+1))+1)=x+1+fH eN (s.drop (x+1)):=by omega
    rw[this];omega
   ·rw[d,c]
    simp[fH,yu,show eN 35=true from rfl]
  ·refine .inr (.inr ⟨?_, ?_⟩)
   ·simp only[P7,Bool.or_eq_false_iff,y6]at hw
    exact⟨sj (by omega) hw.1.1.1,sj (by omega) hw.1.1.2,sj (by omega) hw.1.2,sj (by omega) hw.2,sj (by omega) c⟩
   ·rw[d]
    have:(s[x]==35)=false:=by simpa using c
    simp only[cL,hw,this];rfl
theorem mS(a:Nat)(b:a≤s.length):a≤a7 s a∧a7 s a≤s.length:=by
 have:=jv false (s.drop a);rw[yc]at this;unfold a7;omega
def mT:aB:=if a7 s a=s.length then .exit 0 else .ret
theorem EK(w:a≤s.length)(m:s.length≤100000)(e:aB)(r:e=mT s a)(d:aa)(X:b4)(f:X.P=Pg)(k:X.N=45):
    AW X (.loop (lO 37 0)) ⟨ah [(0,fK)],ae (bK g c1 j i s a v l) d⟩ fun u S'=>u=e∧S'=⟨ah [(0,fK)],ae (bK g c1 j i s (a7 s a) v l) d⟩:=
 hJ (P:=Pg) (N:=45) (c:=aJ Pg 37 0) (fun _=>[(0,fK)]) (fun x _=>bK g c1 j i s x v l) (fun x=>x≤s.length∧a7 s x=a7 s a) (fun x=>s.length-x) e [(0,fK)] (fun _=>bK g c1 j i s (a7 s a) v l) a ⟨w,rfl⟩
  (by rw[r];unfold mT;split<;>simp)
  (fun d x o=>by
   rcases yR x s.length with h|h
   ·obtain⟨b,q,⟨hw,h2⟩|⟨rfl,h2,C⟩|⟨⟨t,y,z,B,A⟩,h2⟩⟩:=Aa s x h
    ·exact .inl ⟨x+1,⟨by omega,by rw[h2];exact o.2⟩,by omega,fun X f k=>Kr g c1 j i s x v l hw h q m d X f k⟩
    ·exact .inl ⟨x+fH eN (s.drop x),⟨(jw eN s x o.1).1,by rw[h2];exact o.2⟩,by omega,fun X f k=>Hx g c1 j i s x v l h q m d X f k⟩
    ·have n:a7 s a=x:=by rw[←o.2,h2]
     have:e= .ret:=by rw[r];unfold mT;rw[xo (by omega)]
     rw[n,this];exact .inr fun X f k=>B4 g c1 j i s x v l t y z B A h q d X f k
   ·have n:x=s.length:=by omega
    have q:=mS s x o.1;rw[o.2]at q;have p:a7 s a=s.length:=by omega
    have:e= .exit 0:=by rw[r];unfold mT;rw[xf p]
    rw[p,this,n];exact .inr fun X f k=>Hy g c1 j i s v l d X f k) d X f k
noncomputable def Dk(d:a≤s.length)(b:s.length≤100000)(e:aB)(c:e=mT s a):dJ Pg:=
 ⟨45,aJ Pg 37 0,[(0,fK)],fun _=>bK g c1 j i s a v l,e,[(0,fK)],fun _=>bK g c1 j i s (a7 s a) v l,EK g c1 j i s a v l d b e c⟩
theorem OE(k:a≤s.length)(c:s.length≤100000)(b:aa):am Pg 37 [fK] (ae (bK g c1 j i s a v l) b) [] (ae (bK g c1 j i s (a7 s a) v l) b):=by
 have d:∀e,e=mT s a→(e= .exit 0∨e= .ret)→am Pg 37 [fK] (ae (bK g c1 j i s a v l) b) [] (ae (bK g c1 j i s (a7 s a) v l) b):=by
  rintro e h (rfl|rfl)
  ·exact al b9 named {loops:=fun f r=>if f=37 then (if r=0 then some (Dk g c1 j i s a v l k c _ h)else none)else none} 1000 110000 37 (by kernel_rfl)
  ·exact al b9 named {loops:=fun f r=>if f=37 then (if r=0 then some (Dk g c1 j i s a v l k c _ h)else none)else none} 1000 110000 37 (by kernel_rfl)
 refine d _ rfl ?_;unfold mT;split
 ·exact .inl rfl
 ·exact .inr rfl
noncomputable def Dl(c:a≤s.length)(b:s.length≤100000):eI Pg:=
 ⟨37,[fK],bK g c1 j i s a v l,[],bK g c1 j i s (a7 s a) v l,gM (OE g c1 j i s a v l c b)⟩
end
end Go.Avm
namespace Go.Avm
open Go.Proofs
abbrev nU(b:Int)(a:Nat)(t:List UInt8)(n:Int):D:= .agg [.int .u8 b, .int .i64 (a:Int), .str t, .int .i64 n]
def eh(w:Bool)(s:List UInt8)(a v m:Nat)(l:List D):List (Nat×aE):=match w with
 |false=>[VX (.d (.int .u32 0)) (.d (.int .i32 0)) (.d (.int .u32 0)) .junk s a v l,(1,⟨v,none⟩),(120463,⟨v,none⟩),(200002,⟨0,none⟩),(200156,⟨0,none⟩),(204135,⟨0,none⟩),(210002,⟨m,none⟩),(210335,⟨m,none⟩)]
 |true=>[VX (.d (.int .u32 1)) (.d (.int .i32 0)) (.d (.int .u32 0)) (.mp 200156 1) s a v l,(1,⟨v,none⟩),(120463,⟨v,none⟩),(200002,⟨1,none⟩),(200156,⟨1,some (.map oU 14)⟩),(204135,⟨1,none⟩),(210002,⟨m,none⟩),(210335,⟨m,none⟩)]
def Sx(P:Program)(a k:Nat)(h:a+k≤1099511627776):bX P:= .val (dI (IntKind.i64.wrap ((a:Int)+(k:Int)))) (dN (a+k)) (by
 congr 2;rw[IntWalk.i64_in _ (by omega)];omega)
section
variable(w:Bool)(s:List UInt8)(a v m:Nat)(l:List D)
noncomputable def Sy(t:List UInt8)(d:l.length+1≤549755813888)(b:a+t.length≤1099511627776):Par Pg:=
 {hint:=fun c k=>if c=39 then (if k=22 then some (.app l 1 d)else if k=31 then some (Sx Pg a t.length b)else none)else none}
theorem V0(kd n:Int)(t:List UInt8)(e:l.length+1≤549755813888)(c:a+t.length≤1099511627776)(b:aa):
    am Pg 39 [fK, .d (.int .u8 kd), .d (.str t), .d (.int .i64 n)] (ae (eh w s a v m l) b) [] (ae (eh w s (a+t.length) (v+1) m (l ++[nU kd a t n])) b):=by
 cases w<;>exact al b9 named (Sy a l t e c) 1000 120000 39 (by kernel_rfl)
noncomputable def ub(kd n:Int)(t:List UInt8)(c:l.length+1≤549755813888)(b:a+t.length≤1099511627776):eI Pg:=
 ⟨39,[fK, .d (.int .u8 kd), .d (.str t), .d (.int .i64 n)],eh w s a v m l,[],eh w s (a+t.length) (v+1) m (l ++[nU kd a t n]),gM (V0 w s a v m l kd n t c b)⟩
noncomputable def Dm(t:List UInt8)(r:Option (Nat×D))(h:cj (.str t) oU 0=some r):Par Pg:={hint:=fun f k=>if f=68 then (if k=18 then some (.look (.str t) oU r h)else none)else none}
def nW(w:Bool)(m:Nat):Nat:=match w with
 |false=>m
 |true=>m+1
set_option maxRecDepth 100000 in
theorem V1(t:List UInt8)(h:cj (.str t) oU 0=some none)(b:aa):am Pg 68 [fK, .d (.str t)] (ae (eh w s a v m l) b) [dB false] (ae (eh true s a v (nW w m) l) b):=by
 cases w
 ·exact al b9 named (Dm t _ h) 1000 200000 68 (by kernel_rfl)
 ·exact al b9 named (Dm t _ h) 1000 210000 68 (by kernel_rfl)
set_option maxRecDepth 100000 in
theorem V2(t:List UInt8)(i:Nat)(h:cj (.str t) oU 0=some (some (i, .agg [])))(b:aa):am Pg 68 [fK, .d (.str t)] (ae (eh w s a v m l) b) [dB true] (ae (eh true s a v (nW w m) l) b):=by
 cases w
 ·exact al b9 named (Dm t _ h) 1000 200000 68 (by kernel_rfl)
 ·exact al b9 named (Dm t _ h) 1000 210000 68 (by kernel_rfl)
def gI(t:List UInt8):Bool:=wl.contains t
theorem V3(t:List UInt8)(b:aa):am Pg 68 [fK, .d (.str t)] (ae (eh w s a v m l) b) [dB (gI t)] (ae (eh true s a v (nW w m) l) b):=by
 rcases pE t wl oU 0 rfl with ⟨i,c,e,g⟩|⟨c,e⟩
 ·have:gI t=true:=by
    simp only[gI,List.contains_eq_mem,xw];exact xX c
  rw[this];exact V2 w s a v m l t (0+i) g b
 ·have:gI t=false:=by
    simp only[gI,List.contains_eq_mem,x6];intro hm;obtain⟨i,f⟩:=xg hm;have:=c i t f;simp at this
  rw[this];exact V1 w s a v m l t e b
noncomputable def Sz(t:List UInt8)(u:Bool)(b:gI t=u):eI Pg:=
 ⟨68,[fK, .d (.str t)],eh w s a v m l,[dB u],eh true s a v (nW w m) l,gM (by subst b;exact V3 w s a v m l t)⟩
noncomputable def L5(f:Nat)(g:f=63∨f=64∨f=67)(p:UInt8→Bool)(hp:∀b,aF Pg f [bD b] [.bool (p b)])(c:s.length≤100000)(e:a≤s.length):eI Pg:=
 match w with
 |false=>Hw (.d (.int .u32 0)) (.d (.int .i32 0)) (.d (.int .u32 0)) .junk s a v l f g p hp c e
 |true=>Hw (.d (.int .u32 1)) (.d (.int .i32 0)) (.d (.int .u32 0)) (.mp 200156 1) s a v l f g p hp c e
noncomputable def nX(b:s.length≤100000)(c:a≤s.length):eI Pg:=
 match w with
 |false=>Dl (.d (.int .u32 0)) (.d (.int .i32 0)) (.d (.int .u32 0)) .junk s a v l c b
 |true=>Dl (.d (.int .u32 1)) (.d (.int .i32 0)) (.d (.int .u32 0)) (.mp 200156 1) s a v l c b
end
end Go.Avm
namespace Go.Avm
open Go.Proofs
def oV(s:List UInt8)(a:Nat):List UInt8:=sub s a (a+fH pY (s.drop a))
section
variable(w:Bool)(s:List UInt8)(a v m:Nat)(l:List D)
noncomputable def oW(b:UInt8)(o:a<s.length)(i:s[((a:Nat):Int).toNat]? =some b)(c:s.length≤100000)(n:b0 b=false)(h2:mR b=true)(u:Bool)(h:gI (oV s a)=u)(g:Bool)(j:decide (12<((oV s a).length:Int))=g)
    (f:l.length+1≤549755813888) (e:a+(oV s a).length≤1099511627776):Par Pg:=
 {hint:=fun d k=>if d=38 then (if k=14 then some (.sidx s (a:Int) b (by omega) i)else if k=17 then some (.call 64 [bD b] [.bool false] (n▸Hv b))else if k=22 then some (.call 66 [bD b] [.bool true] (h2▸T1 b))
     else if k=40 then some (hB Pg _ g j)else none)else none
  calls:=fun d k _=>if d=38 then (if k=24 then some (L5 w s a v l 67 (by simp) pY Yd c (by omega))else if k=33 then some (Sz w s a v m l (oV s a) u h)
   else if k=36 then some (ub true s a v (nW w m) l 2 0 (oV s a) f e)else if k=27 then some (ub true s a v (nW w m) l 1 0 (oV s a) f e)else none)else none}
section
variable(b:UInt8)(f:a<s.length)(d:s[((a:Nat):Int).toNat]? =some b)(c:s.length≤100000)(e:b0 b=false)(h2:mR b=true)
include b f d c e h2
theorem HA(h:gI (oV s a)=true)(j:l.length+1≤549755813888)(i:a+(oV s a).length≤1099511627776)(g:aa):
    am Pg 38 [fK] (ae (eh w s a v m l) g) [dI 0] (ae (eh true s (a+(oV s a).length) (v+1) (nW w m) (l ++[nU 2 a (oV s a) 0])) g):=by
 cases w with
 |false=>exact al b9 named (oW false s a v m l b f d c e h2 true h _ rfl j i) 1000 130000 38 (by kernel_rfl)
 |true=>exact al b9 named (oW true s a v m l b f d c e h2 true h _ rfl j i) 1000 130000 38 (by kernel_rfl)
theorem HB(i:gI (oV s a)=false)(j:decide (12<((oV s a).length:Int))=false)(k:l.length+1≤549755813888)(h:a+(oV s a).length≤1099511627776)(g:aa):
    am Pg 38 [fK] (ae (eh w s a v m l) g) [dI 0] (ae (eh true s (a+(oV s a).length) (v+1) (nW w m) (l ++[nU 1 a (oV s a) 0])) g):=by
 cases w with
 |false=>exact al b9 named (oW false s a v m l b f d c e h2 false i false j k h) 1000 130000 38 (by kernel_rfl)
 |true=>exact al b9 named (oW true s a v m l b f d c e h2 false i false j k h) 1000 130000 38 (by kernel_rfl)
theorem HD(i:gI (oV s a)=false)(j:decide (12<((oV s a).length:Int))=true)(k:l.length+1≤549755813888)(h:a+(oV s a).length≤1099511627776)(g:aa):
    am Pg 38 [fK] (ae (eh w s a v m l) g) [dI 2] (ae (eh true s a v (nW w m) l) g):=by
 cases w with
 |false=>exact al b9 named (oW false s a v m l b f d c e h2 false i true j k h) 1000 130000 38 (by kernel_rfl)
 |true=>exact al b9 named (oW true s a v m l b f d c e h2 false i true j k h) 1000 130000 38 (by kernel_rfl)
end
end
end Go.Avm
namespace Go.Avm
open Go.Proofs
def nY:List (List UInt8):=[[61,61],[33,61],[60,61],[62,61],[38,38],[124,124],[60,60],[62,62]]
def SA:List UInt8:=[61,61,32,33,61,32,60,61,32,62,61,32,38,38,32,124,124,32,60,60,32,62,62]
def OF:List UInt8:=[40,41,123,125,91,93,44,59,58,61,60,62,43,45,42,47,37,38,124,94,33,126]
def ti:List D:=nY.map .str
theorem HE{i:Nat}{x:List UInt8}(h:nY[i]? =some x):ti[((i:Nat):Int).toNat]? =some (.str x):=by
 simp[ti,h]
set_option maxRecDepth 100000 in
theorem Ks:aF Pg 96 [.str SA] [.ro ti]:=bp b9 named {} 100000 (by kernel_rfl)
def I9(t:List UInt8)(i:Nat):List (Nat×AV):=[(0, .d (.ro ti)),(1, .d (.str t)),(7,dN 8),(8,dN i)]
noncomputable def SB(t x:List UInt8)(i:Nat)(b:i<8)(c:nY[i]? =some x)(u:Bool)(a:(t==x)=u):Par Pg:=
 {hint:=fun f k=>if f=126 then (if k=9 then some (qL b)else if k=14 then some (.idx ti (i:Int) (.str x) (by omega) (HE c))else if k=16 then some (Yc Pg t x u a)
  else if k=18 then some (bj Pg i (by omega))else none)else none}
theorem HF(t x:List UInt8)(i:Nat)(c:i<8)(e:nY[i]? =some x)(b:(t==x)=false)(a:aa)(X:b4)(d:X.P=Pg)(g:X.N=19):
    AW X (lO 126 2) ⟨ah (I9 t i),ae [] a⟩ fun f S'=>f= .normal∧Weak X S' ⟨ah (I9 t (i+1)),ae [] a⟩:=
 sG b9 named (SB t x i c e false b) 1000 126 1000 19 (by kernel_rfl) X d g
theorem SD(t x:List UInt8)(i:Nat)(c:i<8)(e:nY[i]? =some x)(b:(t==x)=true)(a:aa)(X:b4)(d:X.P=Pg)(g:X.N=19):
    AW X (lO 126 2) ⟨ah (I9 t i),ae [] a⟩ fun f S'=>f= .ret∧Weak X S' ⟨ah [(4,dN i)],ae [] a⟩:=
 sG b9 named (SB t x i c e true b) 1000 126 1000 19 (by kernel_rfl) X d g
theorem SE(t:List UInt8)(a:aa)(X:b4)(b:X.P=Pg)(d:X.N=19):
    AW X (lO 126 2) ⟨ah (I9 t 8),ae [] a⟩ fun c S'=>c= .exit 0∧Weak X S' ⟨ah [],ae [] a⟩:=
 sG b9 named {} 1000 126 1000 19 (by kernel_rfl) X b d
theorem Kt(t:List UInt8)(b:Nat)(l:nY[b]? =some t)(g:∀(j:Nat)(x:List UInt8),j<b→nY[j]? =some x→(t==x)=false)(a:aa)(X:b4)(d:X.P=Pg)(e:X.N=19):
    AW X (.loop (lO 126 2)) ⟨ah (I9 t 0),ae [] a⟩ fun m S'=>m= .ret∧S'=⟨ah [(4,dN b)],ae [] a⟩:=by
 have f:b<8:=(xC.1 l).1
 exact hJ (P:=Pg) (N:=19) (c:=aJ Pg 126 2) (I9 t) (fun _ _=>[]) (fun i=>i≤b) (fun i=>8-i) .ret [(4,dN b)] (fun _=>[]) 0 (xz _) (by simp)
  (fun a i n=>by
   rcases yR i b with h|h
   ·obtain⟨x,k⟩:∃x,nY[i]? =some x:=⟨_,xD (show i<8 by omega)⟩
    exact .inl ⟨i+1,h,by omega,fun X d e=>HF t x i (by omega) k (g i x h k) a X d e⟩
   ·have:i=b:=by omega
    subst this;exact .inr fun X d e=>SD t t i f l (by simp) a X d e) a X d e
theorem Ku(t:List UInt8)(e:∀(j:Nat)(x:List UInt8),nY[j]? =some x→(t==x)=false)(a:aa)(X:b4)(b:X.P=Pg)(d:X.N=19):
    AW X (.loop (lO 126 2)) ⟨ah (I9 t 0),ae [] a⟩ fun g S'=>g= .exit 0∧S'=⟨ah [],ae [] a⟩:=
 hJ (P:=Pg) (N:=19) (c:=aJ Pg 126 2) (I9 t) (fun _ _=>[]) (fun i=>i≤8) (fun i=>8-i) (.exit 0) [] (fun _=>[]) 0 (xz _) (by simp)
  (fun a i k=>by
   rcases yR i 8 with h|h
   ·obtain⟨x,f⟩:∃x,nY[i]? =some x:=⟨_,xD (show i<8 from h)⟩
    exact .inl ⟨i+1,h,by omega,fun X b d=>HF t x i h f (e i x f) a X b d⟩
   ·have:i=8:=by omega
    subst this;exact .inr fun X b d=>SE t a X b d) a X b d
noncomputable def V4(t:List UInt8)(a:Nat)(c:nY[a]? =some t)(b:∀(j:Nat)(x:List UInt8),j<a→nY[j]? =some x→(t==x)=false):dJ Pg:=⟨19,aJ Pg 126 2,I9 t 0,fun _=>[], .ret,[(4,dN a)],fun _=>[],Kt t a c b⟩
noncomputable def V5(t:List UInt8)(a:∀(j:Nat)(x:List UInt8),nY[j]? =some x→(t==x)=false):dJ Pg:=⟨19,aJ Pg 126 2,I9 t 0,fun _=>[], .exit 0,[],fun _=>[],Ku t a⟩
theorem Yf(t:List UInt8)(a:Nat)(c:nY[a]? =some t)(b:∀(j:Nat)(x:List UInt8),j<a→nY[j]? =some x→(t==x)=false):aF Pg 97 [.ro ti, .str t] [.bool true]:=
 bp b9 named {loops:=fun f r=>if f=126 then (if r=2 then some (V4 t a c b)else none)else none} 1000 (by kernel_rfl)
theorem Yg(t:List UInt8)(a:∀(j:Nat)(x:List UInt8),nY[j]? =some x→(t==x)=false):aF Pg 97 [.ro ti, .str t] [.bool false]:=
 bp b9 named {loops:=fun f r=>if f=126 then (if r=2 then some (V5 t a)else none)else none} 1000 (by kernel_rfl)
theorem uc(t:List UInt8):∀(l:List (List UInt8)),t∈l→∃i:Nat,l[i]? =some t∧∀(j:Nat)(x:List UInt8),j<i→l[j]? =some x→(t==x)=false
 |[],h=>by simp at h
 |y::l,h=>by
  by_cases a:t=y
  ·subst a
   exact⟨0,rfl,fun j x c=>by omega⟩
  ·obtain⟨i,d,h2⟩:=uc t l (by simpa [a]using h)
   refine⟨i+1,by simpa using d,fun j x c b=> ?_⟩;cases j with
   |zero=>simp at b;subst b;simpa using a
   |succ j=>exact h2 j x (by omega) (by simpa using b)
theorem Yh(t:List UInt8):aF Pg 97 [.ro ti, .str t] [.bool (nY.contains t)]:=by
 by_cases h:t∈nY
 ·obtain⟨i,b,h2⟩:=uc t nY h
  have:nY.contains t=true:=by simpa using h
  rw[this];exact Yf t i b h2
 ·have:nY.contains t=false:=by simpa using h
  rw[this];refine Yg t fun j x a=> ?_
  have:x∈nY:=xX a;simp only[y6,ne_eq];rintro rfl;exact h this
def B5(b:UInt8):Int:=match m6 ((b.toNat:Int).toNat.toUInt8) OF 0 with
 |some i=>(i:Int)
 |none=> -1
theorem Yi(b:UInt8):aF Pg 98 [.str OF,bD b] [.int .i64 (B5 b)]:=bp b9 named {} 1000 (by kernel_rfl)
def rst(s:List UInt8)(a:Nat):List UInt8:=(s.take s.length).drop a
def oX(t:List UInt8)(k:Nat):List UInt8:=(t.take k).drop 0
section
variable(w:Bool)(s:List UInt8)(a v m:Nat)(l:List D)
noncomputable def sm(b:UInt8)(n:a<s.length)(f:(rst s a)[(0:Int).toNat]? =some b)(g:Bool)(h:decide (2≤((rst s a).length:Int))=g)(u:Bool)(e:nY.contains (oX (rst s a) 2)=u)(z:Bool)(d:decide (0≤B5 b)=z)
    (h2:g=true→2≤(rst s a).length) (j:1≤(rst s a).length):Par Pg:=
 {hint:=fun i k=>if i=69 then (if k=12 then some (.sub s a s.length ⟨by omega,xL _⟩)else if k=15 then some (hB Pg _ g h)else if k=17 then some (.call 96 [.str SA] [.ro ti] Ks)
     else if k=19 then (if c:g=true then some (.sub (rst s a) 0 2 ⟨by omega,h2 c⟩)else none)else if k=20 then some (.call 97 [.ro ti, .str (oX (rst s a) 2)] [.bool u] (e▸Yh _))
     else if k=23 then (if c:g=true then some (.sub (rst s a) 0 2 ⟨by omega,h2 c⟩)else none)else if k=25 then some (.sidx (rst s a) 0 b (by omega) f)
     else if k=26 then some (.call 98 [.str OF,bD b] [.int .i64 (B5 b)] (Yi b))else if k=27 then some (hB Pg _ z d)else if k=29 then some (.sub (rst s a) 0 1 ⟨by omega,j⟩)else none)else none}
section
variable(c c1 e f:AV)(b:UInt8)(i:a<s.length)(h:(rst s a)[(0:Int).toNat]? =some b)
include c c1 e f b i h
theorem Kv(k:decide (2≤((rst s a).length:Int))=true)(j:nY.contains (oX (rst s a) 2)=true)(h2:2≤(rst s a).length)(g:aa):
    am Pg 69 [fK] (ae (bK c c1 e f s a v l) g) [.d (.str (oX (rst s a) 2))] (ae (bK c c1 e f s a v l) g):=
 al b9 named (sm s a b i h true k true j _ rfl (fun _=>h2) (by omega)) 1000 140000 69 (by kernel_rfl)
theorem Kw(g:Bool)(n:decide (2≤((rst s a).length:Int))=g)(p:(g&&nY.contains (oX (rst s a) 2))=false)(h2:g=true→2≤(rst s a).length)(o:1≤(rst s a).length)(k:decide (0≤B5 b)=true)(j:aa):
    am Pg 69 [fK] (ae (bK c c1 e f s a v l) j) [.d (.str (oX (rst s a) 1))] (ae (bK c c1 e f s a v l) j):=by
 cases g with
 |false=>exact al b9 named (sm s a b i h false n _ rfl true k h2 o) 1000 140000 69 (by kernel_rfl)
 |true=>exact al b9 named (sm s a b i h true n false (by simpa using p) true k h2 o) 1000 140000 69 (by kernel_rfl)
theorem HG(g:Bool)(n:decide (2≤((rst s a).length:Int))=g)(p:(g&&nY.contains (oX (rst s a) 2))=false)(h2:g=true→2≤(rst s a).length)(o:1≤(rst s a).length)(k:decide (0≤B5 b)=false)(j:aa):
    am Pg 69 [fK] (ae (bK c c1 e f s a v l) j) [.d (.str [])] (ae (bK c c1 e f s a v l) j):=by
 cases g with
 |false=>exact al b9 named (sm s a b i h false n _ rfl false k h2 o) 1000 140000 69 (by kernel_rfl)
 |true=>exact al b9 named (sm s a b i h true n false (by simpa using p) false k h2 o) 1000 140000 69 (by kernel_rfl)
end
end
end Go.Avm
namespace Go.Avm
open Go.Proofs
def so(s:List UInt8)(a:Nat)(b:UInt8):List UInt8:=
 if (decide (2≤((rst s a).length:Int))&&nY.contains (oX (rst s a) 2))=true then oX (rst s a) 2 else if decide (0≤B5 b)=true then oX (rst s a) 1 else []
section
variable(w:Bool)(s:List UInt8)(a v m:Nat)(l:List D)
theorem L6(e c1 f i:AV)(b:UInt8)(n:a<s.length)(j:(rst s a)[(0:Int).toNat]? =some b)(c:aa):
    am Pg 69 [fK] (ae (bK e c1 f i s a v l) c) [.d (.str (so s a b))] (ae (bK e c1 f i s a v l) c):=by
 have o:1≤(rst s a).length:=by
  have:=(xC.1 j).1;omega
 have h2:∀g,decide (2≤((rst s a).length:Int))=g→g=true→2≤(rst s a).length:=by
  rintro g rfl h;have:=xe h;omega
 unfold so;split
 ·rename_i h
  simp only[xJ]at h;exact Kv s a v l e c1 f i b n j h.1 h.2 (h2 _ h.1 rfl) c
 ·rename_i h
  have h':(decide (2≤((rst s a).length:Int))&&nY.contains (oX (rst s a) 2))=false:=by simpa only[Bool.not_eq_true]using h
  split
  ·rename_i k
   exact Kw s a v l e c1 f i b n j _ rfl h' (h2 _ rfl) o k c
  ·rename_i k
   exact HG s a v l e c1 f i b n j _ rfl h' (h2 _ rfl) o (by simpa only[Bool.not_eq_true]using k) c
noncomputable def OG(b:UInt8)(f:a<s.length)(e:(rst s a)[(0:Int).toNat]? =some b)(t:List UInt8)(c:so s a b=t):eI Pg:=
 match w with
 |false=>⟨69,[fK],bK (.d (.int .u32 0)) (.d (.int .i32 0)) (.d (.int .u32 0)) .junk s a v l,[.d (.str t)],[],p6 rfl (c▸L6 s a v l _ _ _ _ b f e)⟩
 |true=>⟨69,[fK],bK (.d (.int .u32 1)) (.d (.int .i32 0)) (.d (.int .u32 0)) (.mp 200156 1) s a v l,[.d (.str t)],[],p6 rfl (c▸L6 s a v l _ _ _ _ b f e)⟩
noncomputable def Dn(b:UInt8)(h:a<s.length)(g:s[((a:Nat):Int).toNat]? =some b)(c:(rst s a)[(0:Int).toNat]? =some b)(n:b0 b=false)(h2:mR b=false)(t:List UInt8)(i:so s a b=t)(u:Bool)(e:(t==[])=u)
    (j:l.length+1≤549755813888) (f:a+t.length≤1099511627776):Par Pg:=
 {hint:=fun d k=>if d=38 then (if k=14 then some (.sidx s (a:Int) b (by omega) g)else if k=17 then some (.call 64 [bD b] [.bool false] (n▸Hv b))else if k=22 then some (.call 66 [bD b] [.bool false] (h2▸T1 b))
     else if k=44 then some (hB Pg _ u e)else none)else none
  calls:=fun d k _=>if d=38 then (if k=42 then some (OG w s a v l b h c t i)else if k=47 then some (ub w s a v m l 4 0 t j f)else none)else none}
section
variable(b:UInt8)(e:a<s.length)(d:s[((a:Nat):Int).toNat]? =some b)(c:(rst s a)[(0:Int).toNat]? =some b)(g:b0 b=false)(h2:mR b=false)(t:List UInt8)(f:so s a b=t)
include b e d c g h2 t f
theorem HH(i:(t==[])=false)(k:l.length+1≤549755813888)(j:a+t.length≤1099511627776)(h:aa):
    am Pg 38 [fK] (ae (eh w s a v m l) h) [dI 0] (ae (eh w s (a+t.length) (v+1) m (l ++[nU 4 a t 0])) h):=by
 cases w with
 |false=>exact al b9 named (Dn false s a v m l b e d c g h2 t f false i k j) 1000 130000 38 (by kernel_rfl)
 |true=>exact al b9 named (Dn true s a v m l b e d c g h2 t f false i k j) 1000 130000 38 (by kernel_rfl)
theorem HI(i:(t==[])=true)(k:l.length+1≤549755813888)(j:a+t.length≤1099511627776)(h:aa):
    am Pg 38 [fK] (ae (eh w s a v m l) h) [dI 4] (ae (eh w s a v m l) h):=by
 cases w with
 |false=>exact al b9 named (Dn false s a v m l b e d c g h2 t f true i k j) 1000 130000 38 (by kernel_rfl)
 |true=>exact al b9 named (Dn true s a v m l b e d c g h2 t f true i k j) 1000 130000 38 (by kernel_rfl)
end
end
end Go.Avm
namespace Go.Proofs
open Go.Shelf
def Tryz.lays174_ren:Go.Shelf.Ren:=⟨fun|174=>93|247=>120|245=>121|287=>143|279=>144|280=>145|281=>146|282=>147|321=>163|322=>164|316=>165|171=>167|205=>166|243=>177|246=>91|283=>115|284=>116|285=>117|286=>118|129=>139|317=>138|318=>140|319=>141|320=>142|337=>161|338=>162|n=>n,fun|9=>9|3=>3|2=>2|75=>105|85=>182|4=>4|167=>228|5=>5|53=>175|175=>229|46=>149|168=>231|37=>49|0=>0|210=>251|21=>21|127=>114|145=>272|143=>270|171=>201|173=>204|212=>224|51=>119|20=>20|213=>225|232=>268|233=>269|80=>70|n=>n,fun|15=>4|16=>5|17=>2|18=>6|19=>7|n=>n⟩
theorem Tryz.lays174:Go.Proofs.LaysC.n174 Tryz.prog Tryz.lays174_ren:={
 mixed:=by kernel_rfl
 f129:=Tryz.func139.trans (congrArg some (by kernel_rfl))
 f171:=Tryz.func167.trans (congrArg some (by kernel_rfl))
 f174:=Tryz.func93.trans (congrArg some (by kernel_rfl))
 f205:=Tryz.func166.trans (congrArg some (by kernel_rfl))
 f243:=Tryz.func177.trans (congrArg some (by kernel_rfl))
 f245:=Tryz.func121.trans (congrArg some (by kernel_rfl))
 f246:=Tryz.func91.trans (congrArg some (by kernel_rfl))
 f247:=Tryz.func120.trans (congrArg some (by kernel_rfl))
 f279:=Tryz.func144.trans (congrArg some (by kernel_rfl))
 f280:=Tryz.func145.trans (congrArg some (by kernel_rfl))
 f281:=Tryz.func146.trans (congrArg some (by kernel_rfl))
 f282:=Tryz.func147.trans (congrArg some (by kernel_rfl))
 f283:=Tryz.func115.trans (congrArg some (by kernel_rfl))
 f284:=Tryz.func116.trans (congrArg some (by kernel_rfl))
 f285:=Tryz.func117.trans (congrArg some (by kernel_rfl))
 f286:=Tryz.func118.trans (congrArg some (by kernel_rfl))
 f287:=Tryz.func143.trans (congrArg some (by kernel_rfl))
 f316:=Tryz.func165.trans (congrArg some (by kernel_rfl))
 f317:=Tryz.func138.trans (congrArg some (by kernel_rfl))
 f318:=Tryz.func140.trans (congrArg some (by kernel_rfl))
 f319:=Tryz.func141.trans (congrArg some (by kernel_rfl))
 f320:=Tryz.func142.trans (congrArg some (by kernel_rfl))
 f321:=Tryz.func163.trans (congrArg some (by kernel_rfl))
 f322:=Tryz.func164.trans (congrArg some (by kernel_rfl))
 f337:=Tryz.func161.trans (congrArg some (by kernel_rfl))
 f338:=Tryz.func162.trans (congrArg some (by kernel_rfl))
 t0:=Tryz.underlying0
 a0:=Tryz.isAgg0
 z0:=Tryz.sizeOf0
 v0:=Tryz.zeroValue0
 t2:=Tryz.underlying2
 a2:=Tryz.isAgg2
 z2:=Tryz.sizeOf2
 v2:=Tryz.zeroValue2
 t3:=Tryz.underlying3
 a3:=Tryz.isAgg3
 z3:=Tryz.sizeOf3
 v3:=Tryz.zeroValue3
 t4:=Tryz.underlying4
 a4:=Tryz.isAgg4
 z4:=Tryz.sizeOf4
 v4:=Tryz.zeroValue4
 t5:=Tryz.underlying5
 a5:=Tryz.isAgg5
 z5:=Tryz.sizeOf5
 v5:=Tryz.zeroValue5
 t9:=Tryz.underlying9
 a9:=Tryz.isAgg9
 z9:=Tryz.sizeOf9
 v9:=Tryz.zeroValue9
 t20:=Tryz.underlying20
 a20:=Tryz.isAgg20
 z20:=Tryz.sizeOf20
 v20:=Tryz.zeroValue20
 t21:=Tryz.underlying21
 a21:=Tryz.isAgg21
 z21:=Tryz.sizeOf21
 v21:=Tryz.zeroValue21
 t37:=Tryz.underlying49
 a37:=Tryz.isAgg49
 z37:=Tryz.sizeOf49
 v37:=Tryz.zeroValue49
 t46:=Tryz.underlying149
 a46:=Tryz.isAgg149
 z46:=Tryz.sizeOf149
 v46:=Tryz.zeroValue149
 t51:=Tryz.underlying119
 a51:=Tryz.isAgg119
 z51:=Tryz.sizeOf119
 v51:=Tryz.zeroValue119
 t53:=Tryz.underlying175
 a53:=Tryz.isAgg175
 z53:=Tryz.sizeOf175
 v53:=Tryz.zeroValue175
 t75:=Tryz.underlying105
 a75:=Tryz.isAgg105
 z75:=Tryz.sizeOf105
 v75:=Tryz.zeroValue105
 t85:=Tryz.underlying182
 a85:=Tryz.isAgg182
 z85:=Tryz.sizeOf182
 v85:=Tryz.zeroValue182
 t127:=Tryz.underlying114
 a127:=Tryz.isAgg114
 z127:=Tryz.sizeOf114
 v127:=Tryz.zeroValue114
 t143:=Tryz.underlying270
 a143:=Tryz.isAgg270
 z143:=Tryz.sizeOf270
 v143:=Tryz.zeroValue270
 t145:=Tryz.underlying272
 a145:=Tryz.isAgg272
 z145:=Tryz.sizeOf272
 v145:=Tryz.zeroValue272
 t167:=Tryz.underlying228
 a167:=Tryz.isAgg228
 z167:=Tryz.sizeOf228
 v167:=Tryz.zeroValue228
 t168:=Tryz.underlying231
 a168:=Tryz.isAgg231
 z168:=Tryz.sizeOf231
 v168:=Tryz.zeroValue231
 t171:=Tryz.underlying201
 a171:=Tryz.isAgg201
 z171:=Tryz.sizeOf201
 v171:=Tryz.zeroValue201
 t173:=Tryz.underlying204
 a173:=Tryz.isAgg204
 z173:=Tryz.sizeOf204
 v173:=Tryz.zeroValue204
 t175:=Tryz.underlying229
 a175:=Tryz.isAgg229
 z175:=Tryz.sizeOf229
 v175:=Tryz.zeroValue229
 t210:=Tryz.underlying251
 a210:=Tryz.isAgg251
 z210:=Tryz.sizeOf251
 v210:=Tryz.zeroValue251
 t212:=Tryz.underlying224
 a212:=Tryz.isAgg224
 z212:=Tryz.sizeOf224
 v212:=Tryz.zeroValue224
 t213:=Tryz.underlying225
 a213:=Tryz.isAgg225
 z213:=Tryz.sizeOf225
 t232:=Tryz.underlying268
 a232:=Tryz.isAgg268
 z232:=Tryz.sizeOf268
 v232:=Tryz.zeroValue268
 t233:=Tryz.underlying269
 a233:=Tryz.isAgg269
 z233:=Tryz.sizeOf269
 v233:=Tryz.zeroValue269
 g15:=by kernel_rfl
 g16:=by kernel_rfl
 g17:=by kernel_rfl
 g18:=by kernel_rfl
 g19:=by kernel_rfl
 t80:=Tryz.underlying70
 a80:=Tryz.isAgg70
 z80:=Tryz.sizeOf70
 v80:=Tryz.zeroValue70
 i0:=by kernel_rfl
 i2:=by kernel_rfl
 i3:=by kernel_rfl
 i4:=by kernel_rfl
 i5:=by kernel_rfl
 i9:=by kernel_rfl
 i20:=by kernel_rfl
 i21:=by kernel_rfl
 i37:=by kernel_rfl
 i46:=by kernel_rfl
 i51:=by kernel_rfl
 i53:=by kernel_rfl
 i75:=by kernel_rfl
 i80:=by kernel_rfl
 i85:=by kernel_rfl
 i127:=by kernel_rfl
 i143:=by kernel_rfl
 i145:=by kernel_rfl
 i167:=by kernel_rfl
 i168:=by kernel_rfl
 i171:=by kernel_rfl
 i173:=by kernel_rfl
 i175:=by kernel_rfl
 i210:=by kernel_rfl
 i212:=by kernel_rfl
 i232:=by kernel_rfl
 i233:=by kernel_rfl
 m15:=by kernel_rfl
 m16:=by kernel_rfl
 m17:=by kernel_rfl
 m18:=by kernel_rfl
 m19:=by kernel_rfl
 c0:=by kernel_rfl
 c2:=by kernel_rfl
 c3:=by kernel_rfl
 c4:=by kernel_rfl
 c5:=by kernel_rfl
 c9:=by kernel_rfl
 c20:=by kernel_rfl
 c21:=by kernel_rfl
 c37:=by kernel_rfl
 c46:=by kernel_rfl
 c51:=by kernel_rfl
 c53:=by kernel_rfl
 c75:=by kernel_rfl
 c80:=by kernel_rfl
 c85:=by kernel_rfl
 c127:=by kernel_rfl
 c143:=by kernel_rfl
 c145:=by kernel_rfl
 c167:=by kernel_rfl
 c168:=by kernel_rfl
 c171:=by kernel_rfl
 c173:=by kernel_rfl
 c175:=by kernel_rfl
 c210:=by kernel_rfl
 c212:=by kernel_rfl
 c213:=by kernel_rfl
 c232:=by kernel_rfl
 c233:=by kernel_rfl}
end Go.Proofs
namespace Go.Avm
open Go.Proofs Go.RowKit
def dv(b:Nat)(l:List UInt8):Nat:=l.foldl (fun a c=>a*10+(c.toNat-48)) b
theorem B6(a:Nat):dv a []=a:=by simp only[dv,List.foldl_nil]
theorem Dp(a:Nat)(c:UInt8)(r:List UInt8):dv a (c::r)=dv (a*10+(c.toNat-48)) r:=by simp only[dv,List.foldl_cons]
theorem SF(l:List UInt8):∀a:Nat,a≤dv a l:=by
 induction l with
 |nil=>intro a;rw[B6];exact xL _
 |cons c r b=>
  intro a;have:=b (a*10+(c.toNat-48));rw[Dp];omega
theorem oY(b:UInt8):b0 b=true↔48≤b.toNat∧b.toNat≤57:=by
 simp only[b0,E6,E7,xJ,xw];omega
theorem HJ(M:Nat)(i:M=18446744073709551615):∀(l:List UInt8)(a:Nat),(∀c∈l,b0 c=true)→(dv a l≤M→Lib.parseUintM M a l= .ok (dv a l))∧(a≤M→M<dv a l→Lib.parseUintM M a l= .range)
 |[],a,_=>⟨fun _=>by rw[B6];rfl,fun e h2=>by rw[B6]at h2;omega⟩
 |c::r,a,h=>by
  have f:=(oY c).1 (h c (by simp));have d:=HJ M i r (a*10+(c.toNat-48)) (fun x g=>h x (by simp[g]));have j:=SF r (a*10+(c.toNat-48));rw[Dp];generalize dv (a*10+(c.toNat-48)) r=V at*;rw[Lib.parseUintM,xf f];refine⟨fun b=> ?_,fun b e=> ?_⟩
  ·rw[xo (by omega),xo (by omega)]
   exact d.1 b
  ·split
   ·rfl
   ·split
    ·rfl
    ·exact d.2 (by omega) e
theorem HK(c:UInt8)(r:List UInt8)(h:∀x∈c::r,b0 x=true):(dv 0 (c::r)<9223372036854775808→Lib.parseIntB 64 (c::r)= .ok (dv 0 (c::r):Int))∧(9223372036854775808≤dv 0 (c::r)→Lib.parseIntB 64 (c::r)= .range):=by
 have i:=(oY c).1 (h c (by simp));have hm:=HJ _ (show(2^64-1:Nat)=18446744073709551615 from rfl) (c::r) 0 h;have e:Lib.parseUintB 64 (c::r)=Lib.parseUintM (2^64-1) 0 (c::r):=by rw[Lib.parseUintB,xo (by simp)]
 have b:(if c.toNat=43∨c.toNat=45 then r else c::r)=c::r:=xo (by omega);unfold Lib.parseIntB;simp only[b,e];generalize dv 0 (c::r)=V at*;have f:(2^64-1:Nat)=18446744073709551615:=rfl;have a:(2^(64-1):Nat)=9223372036854775808:=rfl;rw[f]at hm ⊢;refine⟨fun d=> ?_,fun d=> ?_⟩
 ·rw[hm.1 (by omega)]
  simp only[a];rw[xo (by omega),xo (by omega),xo (by omega)]
 ·by_cases g:V≤18446744073709551615
  ·rw[hm.1 g]
   simp only[a];rw[xf (by omega)]
  ·rw[hm.2 (by omega) (by omega)]
theorem sp:da Pg 93:=⟨Tryz.f93,Tryz.func93,by kernel_rfl,by kernel_rfl⟩
theorem OH{t:List UInt8}{I:Nat→Nat→Prop}{w:World}{u:Value}(h:DRep I w (.str t) u):∃s:ByteArray,u= .string s∧s.data.toList=t:=by
 cases h with
 |str _ s a=>exact⟨s,rfl,a⟩
theorem HL{k:IntKind}{n:Int}{I:Nat→Nat→Prop}{w:World}{u:Value}(h:DRep I w (.int k n) u):u= .int k n:=by
 cases h;rfl
theorem L7{t:List UInt8}{I:Nat→Nat→Prop}{w:World}{d:Array Value}(e:d.size=3)(h:∀(i:Nat)(x:D)(u:Value),[D.str t, .int .i64 10, .int .i64 64][i]? =some x→d[i]? =some u→DRep I w x u):
    ∃s:ByteArray,d= #[.string s, .int .i64 10, .int .i64 64]∧s.data.toList=t:=by
 obtain⟨l⟩:=d;match l,e with
 |[a,b,c],_=>
  obtain⟨s,rfl,e⟩:=OH (h 0 _ a rfl rfl);have f:=HL (h 1 _ b rfl rfl);have g:=HL (h 2 _ c rfl rfl);subst f;subst g;exact⟨s,rfl,e⟩
theorem HM{I:Nat→Nat→Prop}{w:World}{a b:D}{x y:Value}(f:DRep I w a x)(h2:DRep I w b y):qR I w [a,b] (.tuple #[x,y]):=
 .inr ⟨by simp, #[x,y],rfl,rfl,fun i d u c e=>by
  match i with
  |0=>simp at c e;subst c;subst e;exact f
  |1=>simp at c e;subst c;subst e;exact h2
  |i+2=>simp at c⟩
theorem Kx(c:UInt8)(r:List UInt8)(h:∀x∈c::r,b0 x=true)(p:(c::r).length≤100000)(k:dv 0 (c::r)<9223372036854775808):aF Pg 93 [.str (c::r), .int .i64 10, .int .i64 64] [.int .i64 (dv 0 (c::r):Int), .nili]:=by
 refine⟨sp,fun w I g m f a n=> ?_⟩;obtain⟨s,rfl,i⟩:=L7 f a;have hp:=(HK c r h).1 k;rw[←i]at hp
 have d:s.size≤9223372036854775806:=by
  have:s.data.toList.length=(c::r).length:=by rw[i]
  have h2:s.data.toList.length=s.size:=by rw[xh];rfl
  omega
 refine(Any.strconv_ParseInt_10_at64_ok Tryz.lays174 s d _ hp w).mono ?_;rintro e l ⟨rfl,hw⟩
 have j:Below w.heap.size w l:=by
  rcases hw with rfl|⟨t,rfl⟩
  ·exact Below.refl _ _
  ·exact Lib.bytesWorld_below _ _ _
 refine⟨_,I,rfl,j,fun _ _ x=>x,fun _ _ x=> .inl x,fun b o x=>xy (m b o x) j.size,HM ?_ .nili⟩;rw[i];exact .int _ _
theorem HN(c:UInt8)(r:List UInt8)(h:∀x∈c::r,b0 x=true)(E:(c::r).length≤100000)(A:9223372036854775808≤dv 0 (c::r)):aF Pg 93 [.str (c::r), .int .i64 10, .int .i64 64] [.int .i64 9223372036854775807, .ifc]:=by
 refine⟨sp,fun w I l B k a z=> ?_⟩;obtain⟨s,rfl,j⟩:=L7 k a;have hp:=(HK c r h).2 A;rw[←j]at hp
 have d:s.size≤281474976710656:=by
  have:s.data.toList.length=(c::r).length:=by rw[j]
  have h2:s.data.toList.length=s.size:=by rw[xh];rfl
  omega
 obtain⟨ty,v,g⟩:∃ty v,w.cell? ⟨5,0,none⟩=some (.iface ty v):=by
  have q:DRep I w (.rp [.ifc]) (.pointer (some ⟨5,0,none⟩)):=z 5 [.ifc] rfl;cases q with
  |rp cs b o U H C g y=>
   have n:=y 0 .ifc rfl;have p:=g 0 .ifc rfl;generalize U 0=u at n p;cases n with
   |ifc t v=>exact⟨t,v,p⟩
 have f:Lib.intSat 64 s.data.toList=9223372036854775807:=by
  have F:=(oY c).1 (h c (by simp));rw[j,Lib.intSat,xo (by simp only[List.head?_cons,x5,xA];omega)];rfl
 refine(Any.strconv_ParseInt_10_at64_range Tryz.lays174 s d hp (.iface ty v) w g (.inr ⟨_,_,rfl⟩)).mono ?_;rintro e D ⟨N,rfl,G,i,m⟩;refine⟨_,I,rfl,m,fun _ _ x=>x,fun _ _ x=> .inl x,fun b o x=>xy (B b o x) m.size,HM ?_ (.ifc _ _)⟩;rw[f];exact .int _ _
end Go.Avm
namespace Go.Avm
open Go.Proofs
def cO(s:List UInt8)(a:Nat):List UInt8:=sub s a (a+fH b0 (s.drop a))
section
variable(w:Bool)(s:List UInt8)(a v m:Nat)(l:List D)
noncomputable def ud(c b:UInt8)(F:a<s.length)(i:s.length≤100000)(A:(cO s a)[(0:Int).toNat]? =some c)(n:Int)(e:D)(hp:aF Pg 93 [.str (cO s a), .int .i64 10, .int .i64 64] [.int .i64 n,e])
    (f:a+(cO s a).length≤1099511627776) (E:l.length+1≤549755813888) (z y x u g o:Bool) (p:decide (1<((cO s a).length:Int))=z) (q:((c.toNat:Int)==48)=y) (t:decide (((a+(cO s a).length:Nat):Int)<(s.length:Int))=x)
    (d:x=true→s[((a+(cO s a).length:Nat):Int).toNat]? =some b) (r:mR b=u) (C:E6 65 b=g) (B:E7 b 90=o):Par Pg:=
 {hint:=fun j k=>if j=65 then (if k=11 then some (.call 93 [.str (cO s a), .int .i64 10, .int .i64 64] [.int .i64 n,e] hp)else if k=20 then some (Sx Pg a (cO s a).length f)else if k=27 then some (hB Pg _ z p)
     else if k=30 then some (.sidx (cO s a) 0 c (by omega) A)else if k=31 then some (hB Pg _ y q)else if k=40 then some (hB Pg _ x t)
     else if k=47 then (if h:x=true then some (.sidx s ((a+(cO s a).length:Nat):Int) b (by omega) (d h))else none)else if k=55 then (if h:x=true then some (.sidx s ((a+(cO s a).length:Nat):Int) b (by omega) (d h))else none)
     else if k=63 then (if h:x=true then some (.sidx s ((a+(cO s a).length:Nat):Int) b (by omega) (d h))else none)else if k=48 then some (.call 66 [bD b] [.bool u] (r▸T1 b))else if k=56 then some (hB Pg _ g C)else if k=64 then some (hB Pg _ o B)else none)else none
  calls:=fun j k _=>if j=65 then (if k=8 then some (L5 w s a v l 64 (by simp) b0 Hv i (by omega))else if k=72 then some (ub w s a v m l 3 n (cO s a) E f)else none)else none}
def B7(z y x u g b:Bool):Bool:=(z&&y)||(x&&(u||(g&&b)))
section
variable(c b:UInt8)(f:a<s.length)(d:s.length≤100000)(e:(cO s a)[(0:Int).toNat]? =some c)(n:Int)
include c b f d e n
theorem HO(hp:aF Pg 93 [.str (cO s a), .int .i64 10, .int .i64 64] [.int .i64 n, .ifc])(i:a+(cO s a).length≤1099511627776)(j:l.length+1≤549755813888)(h:decide (((a+(cO s a).length:Nat):Int)<(s.length:Int))=true→s[((a+(cO s a).length:Nat):Int).toNat]? =some b)(g:aa):
    am Pg 65 [fK] (ae (eh w s a v m l) g) [dI 2] (ae (eh w s a v m l) g):=by
 cases w with
 |false=>exact al b9 named (ud false s a v m l c b f d e n .ifc hp i j _ _ _ _ _ _ rfl rfl rfl h rfl rfl rfl) 1000 150000 65 (by kernel_rfl)
 |true=>exact al b9 named (ud true s a v m l c b f d e n .ifc hp i j _ _ _ _ _ _ rfl rfl rfl h rfl rfl rfl) 1000 150000 65 (by kernel_rfl)
theorem Ky(hp:aF Pg 93 [.str (cO s a), .int .i64 10, .int .i64 64] [.int .i64 n, .nili])(k:a+(cO s a).length≤1099511627776)(C:l.length+1≤549755813888)(z y x u g o:Bool)(p:decide (1<((cO s a).length:Int))=z)(B:((c.toNat:Int)==48)=y)(r:decide (((a+(cO s a).length:Nat):Int)<(s.length:Int))=x)(j:x=true→s[((a+(cO s a).length:Nat):Int).toNat]? =some b)(q:mR b=u)(t:E6 65 b=g)(A:E7 b 90=o)(i:B7 z y x u g o=true)(h:aa):
    am Pg 65 [fK] (ae (eh w s a v m l) h) [dI 4] (ae (eh w s a v m l) h):=by
 cases w with
 |false=>cases z<;>cases y<;>cases x<;>cases u<;>cases g<;>cases o<;>first|exact absurd i (by decide)|exact al b9 named (ud false s a v m l c b f d e n .nili hp k C _ _ _ _ _ _ p B r j q t A) 1000 150000 65 (by kernel_rfl)
 |true=>cases z<;>cases y<;>cases x<;>cases u<;>cases g<;>cases o<;>first|exact absurd i (by decide)|exact al b9 named (ud true s a v m l c b f d e n .nili hp k C _ _ _ _ _ _ p B r j q t A) 1000 150000 65 (by kernel_rfl)
theorem SG(hp:aF Pg 93 [.str (cO s a), .int .i64 10, .int .i64 64] [.int .i64 n, .nili])(k:a+(cO s a).length≤1099511627776)(C:l.length+1≤549755813888)(z y x u g o:Bool)(p:decide (1<((cO s a).length:Int))=z)(B:((c.toNat:Int)==48)=y)(r:decide (((a+(cO s a).length:Nat):Int)<(s.length:Int))=x)(j:x=true→s[((a+(cO s a).length:Nat):Int).toNat]? =some b)(q:mR b=u)(t:E6 65 b=g)(A:E7 b 90=o)(i:B7 z y x u g o=false)(h:aa):
    am Pg 65 [fK] (ae (eh w s a v m l) h) [dI 0] (ae (eh w s (a+(cO s a).length) (v+1) m (l ++[nU 3 a (cO s a) n])) h):=by
 cases w with
 |false=>cases z<;>cases y<;>cases x<;>cases u<;>cases g<;>cases o<;>first|exact absurd i (by decide)|exact al b9 named (ud false s a v m l c b f d e n .nili hp k C _ _ _ _ _ _ p B r j q t A) 1000 150000 65 (by kernel_rfl)
 |true=>cases z<;>cases y<;>cases x<;>cases u<;>cases g<;>cases o<;>first|exact absurd i (by decide)|exact al b9 named (ud true s a v m l c b f d e n .nili hp k C _ _ _ _ _ _ p B r j q t A) 1000 150000 65 (by kernel_rfl)
end
noncomputable def Kz(b:UInt8)(f:a<s.length)(d:s[((a:Nat):Int).toNat]? =some b)(e:b0 b=true)(C:eI Pg):Par Pg:=
 {hint:=fun c k=>if c=38 then (if k=14 then some (.sidx s (a:Int) b (by omega) d)else if k=17 then some (.call 64 [bD b] [.bool true] (e▸Hv b))else none)else none
  calls:=fun c k _=>if c=38 then (if k=19 then some C else none)else none}
theorem sq(b:UInt8)(f:a<s.length)(e:s[((a:Nat):Int).toNat]? =some b)(g:b0 b=true)(k:Int)(d:∀c:aa,am Pg 65 [fK] (ae (eh w s a v m l) c) [dI k] (ae (eh w s a v m l) c))(c:aa):
    am Pg 38 [fK] (ae (eh w s a v m l) c) [dI k] (ae (eh w s a v m l) c):=by
 cases w with
 |false=>exact al b9 named (Kz s a b f e g ⟨65,[fK],eh false s a v m l,[dI k],eh false s a v m l,gM d⟩) 1000 130000 38 (by kernel_rfl)
 |true=>exact al b9 named (Kz s a b f e g ⟨65,[fK],eh true s a v m l,[dI k],eh true s a v m l,gM d⟩) 1000 130000 38 (by kernel_rfl)
theorem EL(b:UInt8)(g:a<s.length)(f:s[((a:Nat):Int).toNat]? =some b)(h:b0 b=true)(d v':Nat)(l':List D)(e:∀c:aa,am Pg 65 [fK] (ae (eh w s a v m l) c) [dI 0] (ae (eh w s d v' m l') c))(c:aa):
    am Pg 38 [fK] (ae (eh w s a v m l) c) [dI 0] (ae (eh w s d v' m l') c):=by
 cases w with
 |false=>exact al b9 named (Kz s a b g f h ⟨65,[fK],eh false s a v m l,[dI 0],eh false s d v' m l',gM e⟩) 1000 130000 38 (by kernel_rfl)
 |true=>exact al b9 named (Kz s a b g f h ⟨65,[fK],eh true s a v m l,[dI 0],eh true s d v' m l',gM e⟩) 1000 130000 38 (by kernel_rfl)
end
end Go.Avm
