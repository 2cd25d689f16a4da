/-
  Texts as programs: the reader's types, variables, and statements that begin with a name.
-/
import Derived.Test.YtcjiafanhlhdlaaGreatDoorG11
import Derived.Test.YtcjiafanhlhdlaaGreatDoorG08
import Derived.Test.YtcjiafanhlhdlaaGreatDoorG09
import Derived.IntWalk
import Derived.Shelf.LaysC
import Derived.Ground.NamesProg
import Derived.Shelf.Strconv.ParseIntPublic10
import Derived.Test.YtcjiafanhlhdlaaGreatDoorProg
set_option linter.unusedVariables false
set_option linter.unusedSimpArgs false
set_option linter.unusedSectionVars false
namespace Go.Avm
open Go.Proofs
def RCp{h:Type}(L:List T)(f:Nat)(args:List AV)(c:List (Nat×aK))(b:h→List (Nat×aK))(j:List (Nat×aK))(g:h→List D)(s:RS):Res h→Prop
 | .ok a d=>d.i<L.length∧HC f args (rd L s ++c) (g a) (rd L d ++b a)
 | .bad p e d=>HX f args (rd L s ++c) (dL p e) (rd L d ++j)
 | .out=>True
section
variable{L:List T}{F:Nat}{args:List AV}{s0:RS}{n m:Type}{g:n→List D}{j:List (Nat×aK)}{f:n→List (Nat×aK)}{l:List (Nat×aK)}
theorem RCp.bind{f':Nat}{b:List AV}{d:m→List D}{s:RS}{r:Res m}{k:m→RS→Res n}(h:RC L f' b d s r)
    (q:∀p e c,(HX f' b (rd L s) (dL p e) (rd L c))→HX F args (rd L s0 ++j) (dL p e) (rd L c ++l))
    (o:∀a c,c.i<L.length→(HC f' b (rd L s) (d a) (rd L c))→RCp L F args j f l g s0 (k a c)):RCp L F args j f l g s0 (r.bind k):=by
 cases r with
 |ok a c=>exact o a c h.1 h.2
 |bad p e c=>exact q p e c h
 |out=>trivial
theorem RCp.bindp{f':Nat}{b:List AV}{c:List (Nat×aK)}{d:m→List (Nat×aK)}{q:List (Nat×aK)}{t:m→List D}{s:RS}{r:Res m}{k:m→RS→Res n}(h:RCp L f' b c d q t s r)
    (v:∀p e o,(HX f' b (rd L s ++c) (dL p e) (rd L o ++q))→HX F args (rd L s0 ++j) (dL p e) (rd L o ++l))
    (u:∀a o,o.i<L.length→(HC f' b (rd L s ++c) (t a) (rd L o ++d a))→RCp L F args j f l g s0 (k a o)):RCp L F args j f l g s0 (r.bind k):=by
 cases r with
 |ok a o=>exact u a o h.1 h.2
 |bad p e o=>exact v p e o h
 |out=>trivial
theorem RCp.may{s:RS}(o:s.i<L.length)(k:dM L)(x:List UInt8){X Y:RS→Res n}
    (r:∀p e a,(HX 45 [rP, .d (.str x)] (rd L s) (dL p e) (rd L a))→HX F args (rd L s0 ++j) (dL p e) (rd L a ++l))
    (q:∀a,a.i<L.length→(HC 45 [rP, .d (.str x)] (rd L s) [.bool true] (rd L a))→RCp L F args j f l g s0 (X a))
    (u:isT L s x=false→RCp L F args j f l g s0 (Y s)):RCp L F args j f l g s0 ((aM L x s).bind fun b c=>bif b then X c else Y c):=by
 have h:=SH o k x;revert h;unfold aM;cases v:isT L s x with
 |false=>exact fun _=>u v
 |true=>
  simp only[xR];cases ah L x s with
  |ok t a=>exact fun h=>q a h.1 h.2
  |bad p e a=>exact fun h=>r p e a h
  |out=>exact fun _=>trivial
theorem RCp.ite{c:Bool}{X Y:Res n}(a:c=true→RCp L F args j f l g s0 X)(b:c=false→RCp L F args j f l g s0 Y):RCp L F args j f l g s0 (bif c then X else Y):=by
 cases h:c with
 |true=>exact a h
 |false=>exact b h
end
abbrev kE:List (Nat×aK):=[(300000,⟨1,none⟩)]
abbrev kV(l:List Int):AV:= .vec 300000 1 1 (l.map fun k=> .int .u8 k)
abbrev kG:Int→List D:=fun k=>[.int .u8 k]
section
variable{L:List T}(a:dM L)
include a
theorem Nl(s:RS)(l:s.i<L.length):RCp L 44 [rP,kV [1,2,3]] kE (fun _=>kE) kE kG s (cL L [1,2,3] s):=by
 simp only[cL];refine RCp.may l a (aN 1) ?_ ?_ ?_
 ·exact fun _ _ _ c=>qX {pans:=an Pg [(44,4,310168,⟨3,some (bh c),[]⟩)]} 310000
 ·intro k e c1
  exact⟨e,qN {calls:=tC [(44,16,310210,ab c1)]} 310000⟩
 ·intro b
  refine RCp.may l a (aN 2) ?_ ?_ ?_
  ·exact fun _ _ _ c=>qX {calls:=tC [(44,16,310210,ab (af l (aN 1) b))],pans:=an Pg [(44,4,310336,⟨3,some (bh c),[]⟩)]} 310000
  ·intro m d f
   exact⟨d,qN {calls:=tC [(44,16,310210,ab (af l (aN 1) b)),(44,16,310378,ab f)]} 310000⟩
  ·intro h2
   refine RCp.may l a (aN 3) ?_ ?_ ?_
   ·exact fun _ _ _ c=>qX {calls:=tC [(44,16,310210,ab (af l (aN 1) b)),(44,16,310378,ab (af l (aN 2) h2))],pans:=an Pg [(44,4,310504,⟨3,some (bh c),[]⟩)]} 310000
   ·intro n h g
    exact⟨h,qN {calls:=tC [(44,16,310210,ab (af l (aN 1) b)),(44,16,310378,ab (af l (aN 2) h2)),(44,16,310546,ab g)]} 310000⟩
   ·intro j
    exact(qX {calls:=tC [(44,16,310210,ab (af l (aN 1) b)),(44,16,310378,ab (af l (aN 2) h2)),(44,16,310546,ab (af l (aN 3) j))],pans:=an Pg [(44,7,310609,⟨1,some (bh (Lh l)),[]⟩)]} 310000:HX 44 [rP,kV [1,2,3]] (rd L s ++kE) (dL (aD L s).p 4) (rd L s ++kE))
theorem Tr(s:RS)(l:s.i<L.length):RCp L 44 [rP,kV [1,2]] kE (fun _=>kE) kE kG s (cL L [1,2] s):=by
 simp only[cL];refine RCp.may l a (aN 1) ?_ ?_ ?_
 ·exact fun _ _ _ c=>qX {pans:=an Pg [(44,4,310168,⟨3,some (bh c),[]⟩)]} 310000
 ·intro g e c1
  exact⟨e,qN {calls:=tC [(44,16,310210,ab c1)]} 310000⟩
 ·intro b
  refine RCp.may l a (aN 2) ?_ ?_ ?_
  ·exact fun _ _ _ c=>qX {calls:=tC [(44,16,310210,ab (af l (aN 1) b))],pans:=an Pg [(44,4,310336,⟨3,some (bh c),[]⟩)]} 310000
  ·intro h d f
   exact⟨d,qN {calls:=tC [(44,16,310210,ab (af l (aN 1) b)),(44,16,310378,ab f)]} 310000⟩
  ·intro h2
   exact(qX {calls:=tC [(44,16,310210,ab (af l (aN 1) b)),(44,16,310378,ab (af l (aN 2) h2))],pans:=an Pg [(44,7,310441,⟨1,some (bh (Lh l)),[]⟩)]} 310000:HX 44 [rP,kV [1,2]] (rd L s ++kE) (dL (aD L s).p 4) (rd L s ++kE))
end
def Wr:aP→List AV
 | .mk k id nm ty n p es a b=>[u8 k,dI id, .d (.str nm),u8 ty,dI n,dI p, .d (.ro (gZ es)), .d (.ro (dH a)), .d (.ro (dH b))]
abbrev X4(a:aP):List (Nat×aK):=[(2235,⟨1,some (.arr 1 (Wr a))⟩)]
abbrev X5(id p:Int):List (Nat×aK):=[(2235,⟨1,some (.arr 1 [u8 0,dI id, .d (.str []),u8 0,dI 0,dI p, .nils, .nils, .nils])⟩)]
abbrev X6:List (Nat×aK):=[(2235,⟨1,none⟩)]
section
variable{L:List T}(a:dM L)
include a
theorem Ts(n:Nat)(id p:Int)(s:RS)(l:s.i<L.length):RCp L 99 [rP,pC 2235] (X5 id p) X4 X6 (fun _=>[]) s (gE L n id p s):=by
 unfold gE;refine RCp.bind (pB l a 1 (by decide)) ?_ ?_
 ·exact fun _ _ _ c=>qX {pans:=an Pg [(99,0,299385,⟨3,some (bh c),[]⟩)]} 299385
 ·intro t J A c1
  refine RCp.bind (cQ A a [58]) ?_ ?_
  ·exact fun _ _ _ c=>qX {calls:=tC [(99,7,299523,ab c1)],pans:=an Pg [(99,1,299845,⟨1,some (bh c),[]⟩)]} 299385
  ·intro _ G v d
   refine RCp.bindp (Nl a _ v) ?_ ?_
   ·exact fun _ _ _ c=>qX {calls:=tC [(99,7,299523,ab c1),(99,14,299891,ab d)],pans:=an Pg [(99,2,299891,⟨3,some (bh c),[]⟩)]} 299385
   ·intro ty I h e
    refine RCp.ite (fun b=> ?_) (fun b=> ?_)
    ·
     refine RCp.bind (cQ h a [91]) ?_ ?_
     ·exact fun _ _ _ c=>qX {hint:=qT 99 [(25,qB b)],calls:=tC [(99,7,299523,ab c1),(99,14,299891,ab d),(99,18,300029,ab e)],pans:=an Pg [(99,4,300397,⟨1,some (bh c),[]⟩)]} 299385
     ·intro _ z o f
      refine RCp.bind (pB o a 3 (by decide)) ?_ ?_
      ·exact fun _ _ _ c=>qX {hint:=qT 99 [(25,qB b)],calls:=tC [(99,7,299523,ab c1),(99,14,299891,ab d),(99,18,300029,ab e),(99,27,300443,ab f)],pans:=an Pg [(99,5,300443,⟨2,some (bh c),[]⟩)]} 299385
      ·intro m r j g
       refine RCp.bind (cQ j a [93]) ?_ ?_
       ·exact fun _ _ _ c=>qX {hint:=qT 99 [(25,qB b)],calls:=tC [(99,7,299523,ab c1),(99,14,299891,ab d),(99,18,300029,ab e),(99,27,300443,ab f),(99,30,300535,ab g)],pans:=an Pg [(99,6,300719,⟨1,some (bh c),[]⟩)]} 299385
       ·intro _ C q k
        refine RCp.bind (cQ q a [59]) ?_ ?_
        ·exact fun _ _ _ c=>qX {hint:=qT 99 [(25,qB b)],calls:=tC [(99,7,299523,ab c1),(99,14,299891,ab d),(99,18,300029,ab e),(99,27,300443,ab f),(99,30,300535,ab g),(99,35,300765,ab k)],pans:=an Pg [(99,9,300765,⟨1,some (bh c),[]⟩)]} 299385
        ·intro _ K y D
         exact⟨y,cK bv named {hint:=qT 99 [(25,qB b)],calls:=tC [(99,7,299523,ab c1),(99,14,299891,ab d),(99,18,300029,ab e),(99,27,300443,ab f),(99,30,300535,ab g),(99,35,300765,ab k),(99,45,300811,ab D)]} 2000 299385 _ 1000000 ([(2235,6),(2235,7),(2235,8)]) ⟨rfl,rfl,rfl,by kernel_rfl,by kernel_rfl,by kernel_rfl⟩ (fun _=>by kernel_rfl)⟩
    ·
     refine RCp.may h a [61] ?_ ?_ ?_
     ·exact fun _ _ _ c=>qX {hint:=qT 99 [(25,qB b)],calls:=tC [(99,7,299523,ab c1),(99,14,299891,ab d),(99,18,300029,ab e)],pans:=an Pg [(99,7,300397,⟨1,some (bh c),[]⟩)]} 299385
     ·intro z o f
      refine RCp.bind ((lu a n).expr 1 _ o) ?_ ?_
      ·exact fun _ _ _ c=>qX {hint:=qT 99 [(25,qB b)],calls:=tC [(99,7,299523,ab c1),(99,14,299891,ab d),(99,18,300029,ab e),(99,37,300443,ab f)],pans:=an Pg [(99,8,300443,⟨2,some (bh c),[]⟩)]} 299385
      ·intro x r j g
       obtain⟨H,F,B,M,E,w⟩:=x;refine RCp.bind (cQ j a [59]) ?_ ?_
       ·exact fun _ _ _ c=>qX {hint:=qT 99 [(25,qB b)],calls:=tC [(99,7,299523,ab c1),(99,14,299891,ab d),(99,18,300029,ab e),(99,37,300443,ab f),(99,40,300535,ab g)],pans:=an Pg [(99,9,300719,⟨1,some (bh c),[]⟩)]} 299385
       ·intro _ C q k
        exact⟨q,cK bv named {hint:=qT 99 [(25,qB b)],calls:=tC [(99,7,299523,ab c1),(99,14,299891,ab d),(99,18,300029,ab e),(99,37,300443,ab f),(99,40,300535,ab g),(99,45,300765,ab k)]} 2000 299385 _ 1000000 ([(2235,6),(2235,7),(2235,8)]) ⟨rfl,rfl,rfl,by kernel_rfl,by kernel_rfl,by kernel_rfl⟩ (fun _=>by kernel_rfl)⟩
     ·intro u
      refine RCp.bind (cQ h a [59]) ?_ ?_
      ·exact fun _ _ _ c=>qX {hint:=qT 99 [(25,qB b)],calls:=tC [(99,7,299523,ab c1),(99,14,299891,ab d),(99,18,300029,ab e),(99,37,300443,ab (af h [61] u))],pans:=an Pg [(99,9,300443,⟨1,some (bh c),[]⟩)]} 299385
      ·intro _ r j g
       exact⟨j,cK bv named {hint:=qT 99 [(25,qB b)],calls:=tC [(99,7,299523,ab c1),(99,14,299891,ab d),(99,18,300029,ab e),(99,37,300443,ab (af h [61] u)),(99,45,300489,ab g)]} 2000 299385 _ 1000000 ([(2235,6),(2235,7),(2235,8)]) ⟨rfl,rfl,rfl,by kernel_rfl,by kernel_rfl,by kernel_rfl⟩ (fun _=>by kernel_rfl)⟩
theorem Ia(n:Nat)(id p:Int)(s:RS)(l:s.i<L.length):RCp L 101 [rP,pC 2235] (X5 id p) X4 X6 (fun _=>[]) s (ci L n id p s):=by
 unfold ci;refine RCp.bind (pB l a 1 (by decide)) ?_ ?_
 ·exact fun _ _ _ c=>qX {pans:=an Pg [(101,0,10000,⟨1,some (bh c),[]⟩)]} 10000
 ·intro t O b c1
  refine RCp.ite (fun h2=> ?_) (fun h2=> ?_)
  ·
   refine RCp.bind ((lu a n).call t.t p _ b) ?_ ?_
   ·exact fun _ _ _ c=>qX {calls:=tC [(101,7,10064,ab c1),(101,26,10256,ab (aZ b [40] h2))],pans:=an Pg [(101,5,10320,⟨8,some (bh c),[]⟩)]} 10000
   ·intro x M D w
    obtain⟨v,u,j,z,r,g⟩:=x;refine RCp.bind (cQ D a [59]) ?_ ?_
    ·exact fun _ _ _ c=>qX {calls:=tC [(101,7,10064,ab c1),(101,26,10256,ab (aZ b [40] h2)),(101,35,10832,ab w)],pans:=an Pg [(101,11,11280,⟨1,some (bh c),[]⟩)]} 10000
    ·intro _ q h e
     exact⟨h,cK bv named {calls:=tC [(101,7,10064,ab c1),(101,26,10256,ab (aZ b [40] h2)),(101,35,10832,ab w),(101,63,11344,ab e)]} 2000 10000 _ 1000000 ([(2235,6),(2235,7),(2235,8)]) ⟨rfl,rfl,rfl,by kernel_rfl,by kernel_rfl,by kernel_rfl⟩ (fun _=>by kernel_rfl)⟩
  ·
   refine RCp.ite (fun d=> ?_) (fun d=> ?_)
   ·
    refine RCp.bind ((lu a n).place _ b) ?_ ?_
    ·exact fun _ _ _ c=>qX {calls:=tC [(101,7,10064,ab c1),(101,26,10256,ab (aZ b [40] h2)),(101,43,10384,ab (aZ b [91] d))],pans:=an Pg [(101,8,11024,⟨1,some (bh c),[]⟩)]} 10000
    ·intro x q h e
     obtain⟨v,u,j,z,r,g⟩:=x;refine RCp.bind (cQ h a [61]) ?_ ?_
     ·exact fun _ _ _ c=>qX {calls:=tC [(101,7,10064,ab c1),(101,26,10256,ab (aZ b [40] h2)),(101,43,10384,ab (aZ b [91] d)),(101,52,11088,ab e)],pans:=an Pg [(101,9,11216,⟨1,some (bh c),[]⟩)]} 10000
     ·intro _ E m f
      refine RCp.bind ((lu a n).expr 1 _ m) ?_ ?_
      ·exact fun _ _ _ c=>qX {calls:=tC [(101,7,10064,ab c1),(101,26,10256,ab (aZ b [40] h2)),(101,43,10384,ab (aZ b [91] d)),(101,52,11088,ab e),(101,54,11280,ab f)],pans:=an Pg [(101,10,11280,⟨3,some (bh c),[]⟩)]} 10000
      ·intro y C o k
       obtain⟨I,H,G,N,J,F⟩:=y;refine RCp.bind (cQ o a [59]) ?_ ?_
       ·exact fun _ _ _ c=>qX {calls:=tC [(101,7,10064,ab c1),(101,26,10256,ab (aZ b [40] h2)),(101,43,10384,ab (aZ b [91] d)),(101,52,11088,ab e),(101,54,11280,ab f),(101,58,11472,ab k)],pans:=an Pg [(101,11,11728,⟨1,some (bh c),[]⟩)]} 10000
       ·intro _ K A B
        exact⟨A,cK bv named {calls:=tC [(101,7,10064,ab c1),(101,26,10256,ab (aZ b [40] h2)),(101,43,10384,ab (aZ b [91] d)),(101,52,11088,ab e),(101,54,11280,ab f),(101,58,11472,ab k),(101,63,11792,ab B)]} 2000 10000 _ 1000000 ([(2235,6),(2235,7),(2235,8)]) ⟨rfl,rfl,rfl,by kernel_rfl,by kernel_rfl,by kernel_rfl⟩ (fun _=>by kernel_rfl)⟩
   ·
    refine RCp.bind (cQ b a [61]) ?_ ?_
    ·exact fun _ _ _ c=>qX {calls:=tC [(101,7,10064,ab c1),(101,26,10256,ab (aZ b [40] h2)),(101,43,10384,ab (aZ b [91] d))],pans:=an Pg [(101,2,11024,⟨1,some (bh c),[]⟩)]} 10000
    ·intro _ q h e
     refine RCp.bind ((lu a n).expr 1 _ h) ?_ ?_
     ·exact fun _ _ _ c=>qX {calls:=tC [(101,7,10064,ab c1),(101,26,10256,ab (aZ b [40] h2)),(101,43,10384,ab (aZ b [91] d)),(101,17,11088,ab e)],pans:=an Pg [(101,3,11088,⟨2,some (bh c),[]⟩)]} 10000
     ·intro x E m f
      obtain⟨v,u,j,z,r,g⟩:=x;refine RCp.bind (cQ m a [59]) ?_ ?_
      ·exact fun _ _ _ c=>qX {calls:=tC [(101,7,10064,ab c1),(101,26,10256,ab (aZ b [40] h2)),(101,43,10384,ab (aZ b [91] d)),(101,17,11088,ab e),(101,20,11216,ab f)],pans:=an Pg [(101,11,11472,⟨1,some (bh c),[]⟩)]} 10000
      ·intro _ C o k
       exact⟨o,cK bv named {calls:=tC [(101,7,10064,ab c1),(101,26,10256,ab (aZ b [40] h2)),(101,43,10384,ab (aZ b [91] d)),(101,17,11088,ab e),(101,20,11216,ab f),(101,63,11536,ab k)]} 2000 10000 _ 1000000 ([(2235,6),(2235,7),(2235,8)]) ⟨rfl,rfl,rfl,by kernel_rfl,by kernel_rfl,by kernel_rfl⟩ (fun _=>by kernel_rfl)⟩
end
end Go.Avm
namespace Go.Avm
open Go.Proofs
abbrev sR:aP→List D:=fun x=>[sP x]
abbrev bR:List aP→List D:=fun l=>[.ro (dH l)]
theorem RC.bindp{L:List T}{F:Nat}{args:List AV}{s0:RS}{m l:Type}{g:m→List D}{f':Nat}{b:List AV}{c:List (Nat×aK)}{d:l→List (Nat×aK)}{j:List (Nat×aK)}{n:l→List D}{s:RS}{r:Res l}{k:l→RS→Res m}(h:RCp L f' b c d j n s r)
    (q:∀p e f,(HX f' b (rd L s ++c) (dL p e) (rd L f ++j))→HX F args (rd L s0) (dL p e) (rd L f))
    (o:∀a f,f.i<L.length→(HC f' b (rd L s ++c) (n a) (rd L f ++d a))→RC L F args g s0 (k a f)):RC L F args g s0 (r.bind k):=by
 cases r with
 |ok a f=>exact o a f h.1 h.2
 |bad p e f=>exact q p e f h
 |out=>trivial
section
variable{L:List T}(a:dM L)
include a
theorem Ib(n:Nat)(q:∀s:RS,s.i<L.length→RC L 46 [rP] bR s (bg L n s))(s0:RS)(T:s0.i<L.length):RC L 72 [rP] sR s0 (b6 L (n+1) s0):=by
 have l:s0.st.i<L.length:=T;simp only[b6];refine RC.may l a [108,101,116] ?_ ?_ ?_
 ·exact fun _ _ _ c=>qX {calls:=tC [(72,16,2078,bc rfl (br l))],pans:=an Pg [(72,4,2386,⟨1,some (bh c),[]⟩)]} 1000
 ·intro Z U c1
  refine RC.bindp (Ts a n s0.st.n (aD L s0.st).p _ U) ?_ ?_
  ·exact fun _ _ _ c=>qX {calls:=tC [(72,16,2078,bc rfl (br l)),(72,23,2463,ab c1)],pans:=an Pg [(72,5,2540,⟨1,some (bh c),[]⟩)]} 1000
  ·intro x S y m
   obtain⟨P,C,I,A,Q,V,H,E,K⟩:=x;exact⟨y,qN {calls:=tC [(72,16,2078,bc rfl (br l)),(72,23,2463,ab c1),(72,25,2617,ab m)]} 1000⟩
 ·intro b
  refine RC.may l a [105,102] ?_ ?_ ?_
  ·exact fun _ _ _ c=>qX {calls:=tC [(72,16,2078,bc rfl (br l)),(72,23,2463,ab (af l [108,101,116] b))],pans:=an Pg [(72,6,2540,⟨1,some (bh c),[]⟩)]} 1000
  ·intro S y m
   refine RC.bind ((lu a n).expr 1 _ y) ?_ ?_
   ·exact fun _ _ _ c=>qX {calls:=tC [(72,16,2078,bc rfl (br l)),(72,23,2463,ab (af l [108,101,116] b)),(72,28,2617,ab m)],pans:=an Pg [(72,7,2694,⟨1,some (bh c),[]⟩)]} 1000
   ·intro x X G k
    obtain⟨J,F,t,M,B,r⟩:=x;refine RC.bind (q _ G) ?_ ?_
    ·exact fun _ _ _ c=>qX {calls:=tC [(72,16,2078,bc rfl (br l)),(72,23,2463,ab (af l [108,101,116] b)),(72,28,2617,ab m),(72,30,2771,ab k)],pans:=an Pg [(72,8,3156,⟨1,some (bh c),[]⟩)]} 1000
    ·intro R N d e
     refine RC.may d a [101,108,115,101] ?_ ?_ ?_
     ·exact fun _ _ _ c=>qX {calls:=tC [(72,16,2078,bc rfl (br l)),(72,23,2463,ab (af l [108,101,116] b)),(72,28,2617,ab m),(72,30,2771,ab k),(72,35,3233,ab e)],pans:=an Pg [(72,9,3387,⟨1,some (bh c),[]⟩)]} 1000
     ·intro O v o
      refine RC.bind (q _ v) ?_ ?_
      ·exact fun _ _ _ c=>qX {calls:=tC [(72,16,2078,bc rfl (br l)),(72,23,2463,ab (af l [108,101,116] b)),(72,28,2617,ab m),(72,30,2771,ab k),(72,35,3233,ab e),(72,38,3464,ab o)],pans:=an Pg [(72,10,3464,⟨1,some (bh c),[]⟩)]} 1000
      ·intro Y w j g
       exact⟨j,qN {calls:=tC [(72,16,2078,bc rfl (br l)),(72,23,2463,ab (af l [108,101,116] b)),(72,28,2617,ab m),(72,30,2771,ab k),(72,35,3233,ab e),(72,38,3464,ab o),(72,40,3541,ab g)]} 1000⟩
     ·intro h
      exact⟨d,qN {calls:=tC [(72,16,2078,bc rfl (br l)),(72,23,2463,ab (af l [108,101,116] b)),(72,28,2617,ab m),(72,30,2771,ab k),(72,35,3233,ab e),(72,38,3464,ab (af d [101,108,115,101] h))]} 1000⟩
  ·intro h2
   refine RC.may l a [119,104,105,108,101] ?_ ?_ ?_
   ·exact fun _ _ _ c=>qX {calls:=tC [(72,16,2078,bc rfl (br l)),(72,23,2463,ab (af l [108,101,116] b)),(72,28,2617,ab (af l [105,102] h2))],pans:=an Pg [(72,11,2694,⟨1,some (bh c),[]⟩)]} 1000
   ·intro X G k
    refine RC.bind ((lu a n).expr 1 _ G) ?_ ?_
    ·exact fun _ _ _ c=>qX {calls:=tC [(72,16,2078,bc rfl (br l)),(72,23,2463,ab (af l [108,101,116] b)),(72,28,2617,ab (af l [105,102] h2)),(72,44,2771,ab k)],pans:=an Pg [(72,12,2848,⟨1,some (bh c),[]⟩)]} 1000
    ·intro x N d e
     obtain⟨J,F,t,M,B,r⟩:=x;refine RC.bind (q _ d) ?_ ?_
     ·exact fun _ _ _ c=>qX {calls:=tC [(72,16,2078,bc rfl (br l)),(72,23,2463,ab (af l [108,101,116] b)),(72,28,2617,ab (af l [105,102] h2)),(72,44,2771,ab k),(72,46,2925,ab e)],pans:=an Pg [(72,13,3310,⟨1,some (bh c),[]⟩)]} 1000
     ·intro R O v o
      exact⟨v,qN {calls:=tC [(72,16,2078,bc rfl (br l)),(72,23,2463,ab (af l [108,101,116] b)),(72,28,2617,ab (af l [105,102] h2)),(72,44,2771,ab k),(72,46,2925,ab e),(72,51,3387,ab o)]} 1000⟩
   ·intro f
    refine RC.may l a [114,101,116,117,114,110] ?_ ?_ ?_
    ·exact fun _ _ _ c=>qX {calls:=tC [(72,16,2078,bc rfl (br l)),(72,23,2463,ab (af l [108,101,116] b)),(72,28,2617,ab (af l [105,102] h2)),(72,44,2771,ab (af l [119,104,105,108,101] f))],pans:=an Pg [(72,14,2848,⟨1,some (bh c),[]⟩)]} 1000
    ·intro N d e
     refine RC.ite (fun h=> ?_) (fun h=> ?_)
     ·
      refine RC.bind (cQ d a [59]) ?_ ?_
      ·exact fun _ _ _ c=>qX {calls:=tC [(72,16,2078,bc rfl (br l)),(72,23,2463,ab (af l [108,101,116] b)),(72,28,2617,ab (af l [105,102] h2)),(72,44,2771,ab (af l [119,104,105,108,101] f)),(72,55,2925,ab e),(72,58,3233,ab (aZ d [59] h))],pans:=an Pg [(72,18,3310,⟨1,some (bh c),[]⟩)]} 1000
      ·intro _ w j g
       exact⟨j,qN {calls:=tC [(72,16,2078,bc rfl (br l)),(72,23,2463,ab (af l [108,101,116] b)),(72,28,2617,ab (af l [105,102] h2)),(72,44,2771,ab (af l [119,104,105,108,101] f)),(72,55,2925,ab e),(72,58,3233,ab (aZ d [59] h)),(72,65,3387,ab g)]} 1000⟩
     ·
      refine RC.bind ((lu a n).expr 1 _ d) ?_ ?_
      ·exact fun _ _ _ c=>qX {calls:=tC [(72,16,2078,bc rfl (br l)),(72,23,2463,ab (af l [108,101,116] b)),(72,28,2617,ab (af l [105,102] h2)),(72,44,2771,ab (af l [119,104,105,108,101] f)),(72,55,2925,ab e),(72,58,3233,ab (aZ d [59] h))],pans:=an Pg [(72,17,3310,⟨1,some (bh c),[]⟩)]} 1000
      ·intro x w j g
       obtain⟨J,F,t,M,B,r⟩:=x;refine RC.bind (cQ j a [59]) ?_ ?_
       ·exact fun _ _ _ c=>qX {calls:=tC [(72,16,2078,bc rfl (br l)),(72,23,2463,ab (af l [108,101,116] b)),(72,28,2617,ab (af l [105,102] h2)),(72,44,2771,ab (af l [119,104,105,108,101] f)),(72,55,2925,ab e),(72,58,3233,ab (aZ d [59] h)),(72,61,3387,ab g)],pans:=an Pg [(72,18,3618,⟨1,some (bh c),[]⟩)]} 1000
       ·intro _ W z D
        exact⟨z,qN {calls:=tC [(72,16,2078,bc rfl (br l)),(72,23,2463,ab (af l [108,101,116] b)),(72,28,2617,ab (af l [105,102] h2)),(72,44,2771,ab (af l [119,104,105,108,101] f)),(72,55,2925,ab e),(72,58,3233,ab (aZ d [59] h)),(72,61,3387,ab g),(72,65,3695,ab D)]} 1000⟩
    ·intro u
     refine RC.may l a [112,114,105,110,116] ?_ ?_ ?_
     ·exact fun _ _ _ c=>qX {calls:=tC [(72,16,2078,bc rfl (br l)),(72,23,2463,ab (af l [108,101,116] b)),(72,28,2617,ab (af l [105,102] h2)),(72,44,2771,ab (af l [119,104,105,108,101] f)),(72,55,2925,ab (af l [114,101,116,117,114,110] u))],pans:=an Pg [(72,19,3002,⟨1,some (bh c),[]⟩)]} 1000
     ·intro O v o
      refine RC.bind ((lu a n).expr 1 _ v) ?_ ?_
      ·exact fun _ _ _ c=>qX {calls:=tC [(72,16,2078,bc rfl (br l)),(72,23,2463,ab (af l [108,101,116] b)),(72,28,2617,ab (af l [105,102] h2)),(72,44,2771,ab (af l [119,104,105,108,101] f)),(72,55,2925,ab (af l [114,101,116,117,114,110] u)),(72,68,3079,ab o)],pans:=an Pg [(72,20,3156,⟨1,some (bh c),[]⟩)]} 1000
      ·intro x w j g
       obtain⟨J,F,t,M,B,r⟩:=x;refine RC.bind (cQ j a [59]) ?_ ?_
       ·exact fun _ _ _ c=>qX {calls:=tC [(72,16,2078,bc rfl (br l)),(72,23,2463,ab (af l [108,101,116] b)),(72,28,2617,ab (af l [105,102] h2)),(72,44,2771,ab (af l [119,104,105,108,101] f)),(72,55,2925,ab (af l [114,101,116,117,114,110] u)),(72,68,3079,ab o),(72,70,3233,ab g)],pans:=an Pg [(72,21,3618,⟨1,some (bh c),[]⟩)]} 1000
       ·intro _ W z D
        exact⟨z,qN {calls:=tC [(72,16,2078,bc rfl (br l)),(72,23,2463,ab (af l [108,101,116] b)),(72,28,2617,ab (af l [105,102] h2)),(72,44,2771,ab (af l [119,104,105,108,101] f)),(72,55,2925,ab (af l [114,101,116,117,114,110] u)),(72,68,3079,ab o),(72,70,3233,ab g),(72,75,3695,ab D)]} 1000⟩
     ·intro h
      refine RC.bindp (Ia a n s0.st.n (aD L s0.st).p _ l) ?_ ?_
      ·exact fun _ _ _ c=>qX {calls:=tC [(72,16,2078,bc rfl (br l)),(72,23,2463,ab (af l [108,101,116] b)),(72,28,2617,ab (af l [105,102] h2)),(72,44,2771,ab (af l [119,104,105,108,101] f)),(72,55,2925,ab (af l [114,101,116,117,114,110] u)),(72,68,3079,ab (af l [112,114,105,110,116] h))],pans:=an Pg [(72,3,3156,⟨1,some (bh c),[]⟩)]} 1000
      ·intro x w j g
       obtain⟨P,C,I,A,Q,V,H,E,K⟩:=x;exact⟨j,qN {calls:=tC [(72,16,2078,bc rfl (br l)),(72,23,2463,ab (af l [108,101,116] b)),(72,28,2617,ab (af l [105,102] h2)),(72,44,2771,ab (af l [119,104,105,108,101] f)),(72,55,2925,ab (af l [114,101,116,117,114,110] u)),(72,68,3079,ab (af l [112,114,105,110,116] h)),(72,20,3233,ab g)]} 1000⟩
end
def Ch(l:List aP):List (Nat×AV):=[(0,rP),(3, .vec 200000 l.length 9 (dH l))]
abbrev ws(v:Nat):List (Nat×aK):=[(200000,⟨v,none⟩)]
def Ws(L:List T)(s:RS)(r:List aP):Res (List aP)→Prop
 | .ok b a=>a.i<L.length∧RL 17 (lO 46 3) (Ch r) (rd L s ++ws r.length) (.exit 0) (Ch b) (rd L a ++ws b.length)
 | .bad q t a=>∃v,RL 17 (lO 46 3) (Ch r) (rd L s ++ws r.length) (.panic (dL q t)) [] (rd L a ++ws v)
 | .out=>True
noncomputable def PV{L:List T}{s:RS}{r:List aP}{b:List (Nat×aK)}{x:aA}{l':List (Nat×AV)}(h:RL 17 (lO 46 3) (Ch r) (rd L s ++ws r.length) x l' b):dy Pg:=
 ⟨17,bG Pg 46 3,Ch r,fun _=>rd L s ++ws r.length,x,l',fun _=>b,fun a X c d=>(h a X c d).aw⟩
section
variable{L:List T}{s:RS}(l:s.i<L.length)(r:List aP)
include l
theorem PW(h:isT L s [125]=true):RE 17 (lO 46 3) (Ch r) (rd L s ++ws r.length) (.exit 0) (Ch r) (rd L s ++ws r.length):=
 qE {calls:=tC [(46,7,3017,ab (aZ l [125] h))]} 46 3000
theorem Tt(h:isT L s [125]=false){q t:Int}{a:RS}(c:HX 72 [rP] (rd L s) (dL q t) (rd L a)):RE 17 (lO 46 3) (Ch r) (rd L s ++ws r.length) (.panic (dL q t)) [] (rd L a ++ws r.length):=
 qE {calls:=tC [(46,7,3017,ab (aZ l [125] h))],pans:=an Pg [(46,4,3034,⟨2,some (bh c),[]⟩)]} 46 3000
theorem Tu(h:isT L s [125]=false)(e:r.length<1000000)(k id:Int)(nm:List UInt8)(ty n p:Int)(es:List Ex)(a d:List aP){b:RS}(c:HC 72 [rP] (rd L s) [sP (.mk k id nm ty n p es a d)] (rd L b)):RE 17 (lO 46 3) (Ch r) (rd L s ++ws r.length) .normal [(0,rP),(3, .vec 200000 (r.length+1) 9 (dH r ++[sP (.mk k id nm ty n p es a d)]))] (rd L b ++ws (r.length+1)):=
 qE {hint:=qT 46 [(13, .app (dH r) 1 (by rw[jW];omega))],calls:=tC [(46,7,3017,ab (aZ l [125] h)),(46,11,3068,ab c)]} 46 3000
theorem Wt(h:isT L s [125]=false)(e:r.length<1000000)(x:aP){d:RS}(c:HC 72 [rP] (rd L s) [sP x] (rd L d)):RE 17 (lO 46 3) (Ch r) (rd L s ++ws r.length) .normal (Ch (r ++[x])) (rd L d ++ws (r ++[x]).length):=by
 obtain⟨k,id,nm,ty,n,p,es,a,b⟩:=x;have g:(r ++[aP.mk k id nm ty n p es a b]).length=r.length+1:=by simp
 have f:dH (r ++[aP.mk k id nm ty n p es a b])=dH r ++[sP (.mk k id nm ty n p es a b)]:=by rw[Ko];rfl
 simp only[Ch,g,f];exact Tu l r h e k id nm ty n p es a b c
end
section
variable{L:List T}{s a b e:RS}{i g:T}{q t:Int}(c1:HC 40 [rP, .d (.str [123])] (rd L s) [tD i] (rd L a))
theorem Wu(c:HX 40 [rP, .d (.str [123])] (rd L s) (dL q t) (rd L a)):HX 46 [rP] (rd L s) (dL q t) (rd L a):=
 qX {pans:=an Pg [(46,2,1034,⟨1,some (bh c),[]⟩)]} 1000
include c1
theorem Wv(v:Nat)(h:RL 17 (lO 46 3) (Ch []) (rd L a ++ws ([]:List aP).length) (.panic (dL q t)) [] (rd L b ++ws v)):HX 46 [rP] (rd L s) (dL q t) (rd L b):=
 qX {nils:=fun f r=>if f=46 then (if r=2 then some ⟨0,3,200000,9,true,false⟩else none)else none,loops:=fun f q=>if f=46 then (if q=3 then some (PV h)else none)else none,calls:=tC [(46,5,1051,ab c1)]} 1000
section
variable(r:List aP)(h:RL 17 (lO 46 3) (Ch []) (rd L a ++ws ([]:List aP).length) (.exit 0) (Ch r) (rd L b ++ws r.length))
include r h
theorem Ww(c:HX 40 [rP, .d (.str [125])] (rd L b) (dL q t) (rd L e)):HX 46 [rP] (rd L s) (dL q t) (rd L e):=
 qX {nils:=fun f r=>if f=46 then (if r=2 then some ⟨0,3,200000,9,true,false⟩else none)else none,loops:=fun f q=>if f=46 then (if q=3 then some (PV h)else none)else none,calls:=tC [(46,5,1051,ab c1)],pans:=an Pg [(46,5,1051,⟨1,some (bh c),[]⟩)]} 1000
theorem Wx(c:HC 40 [rP, .d (.str [125])] (rd L b) [tD g] (rd L e)):HC 46 [rP] (rd L s) [.ro (dH r)] (rd L e):=
 qN {nils:=fun f r=>if f=46 then (if r=2 then some ⟨0,3,200000,9,true,false⟩else none)else none,loops:=fun f q=>if f=46 then (if q=3 then some (PV h)else none)else none,calls:=tC [(46,5,1051,ab c1),(46,15,1068,ab c)]} 1000
end
end
structure Tv(L:List T)(n:Nat):Prop where
 block:∀s:RS,s.i<L.length→RC L 46 [rP] bR s (bg L n s)
 stmts:∀(r:List aP)(s:RS),s.i<L.length→r.length≤s.i→Ws L s r (cj L n r s)
 stmt:∀s:RS,s.i<L.length→RC L 72 [rP] sR s (b6 L n s)
theorem Af{L:List T}(g:dM L):∀n,Tv L n
 |0=>⟨fun _ _=>trivial,fun _ _ _ _=>trivial,fun _ _=>trivial⟩
 |n+1=>by
  obtain⟨p,k,u⟩:=Af g n;refine⟨fun s l=> ?_,fun r s l B=> ?_,Ib g n p⟩
  ·simp only[bg]
   have c1:=cQ l g [123];revert c1;cases ah L [123] s with
   |out=>exact fun _=>trivial
   |bad q t e=>exact fun c1=>Wu c1
   |ok z e=>
    intro c1;have b:=k [] e c1.1 (xz _);simp only[Res.bind];revert b;cases cj L n [] e with
    |out=>exact fun _=>trivial
    |bad q t o=>exact fun ⟨v,b⟩=>Wv c1.2 v b
    |ok r o=>
     intro b;have f:=cQ b.1 g [125];simp only;revert f;cases ah L [125] o with
     |out=>exact fun _=>trivial
     |bad q t w=>exact fun f=>Ww c1.2 r b.2 f
     |ok y w=>exact fun f=>⟨f.1,Wx c1.2 r b.2 f.2⟩
  ·simp only[cj]
   have i:r.length<1000000:=by have:=g.len;omega
   cases h:isT L s [125]with
   |true=>exact⟨l,fun a X d c=>aU (PW l r h a X d c) (by simp)⟩
   |false=>
    have c1:=u s l;have m:=(lL L n).2.2 s;simp only[xI];revert c1 m;cases b6 L n s with
    |out=>exact fun _ _=>trivial
    |bad q t e=>exact fun c1 _=>⟨_,fun a X d c=>aU (Tt l r h c1 a X d c) (by simp)⟩
    |ok x e=>
     intro c1 m;have m:=m x e rfl;have b:=k (r ++[x]) e c1.1 (by simp only[xC,xD,xF];omega);have j:=Wt l r h i x c1.2;simp only[Res.bind];revert b;cases cj L n (r ++[x]) e with
     |out=>exact fun _=>trivial
     |bad q t o=>exact fun ⟨v,b⟩=>⟨v,fun a X d c=>aR (j a X d c) (b a X d c)⟩
     |ok A o=>exact fun b=>⟨b.1,fun a X d c=>aR (j a X d c) (b.2 a X d c)⟩
end Go.Avm
namespace Go.Avm
open Go.Proofs
abbrev oT(r:List Pm):List D:=r.map g0
abbrev jk(nm:List UInt8)(p:Int)(v:Nat)(l:List D):List (Nat×aK):=[(299842,⟨1,some (.arr 1 [.d (.str nm), .vec 400000 v 3 l,u8 0, .nils,dI p])⟩),(299672,⟨1,some (.arr 1 [rP])⟩),(400000,⟨v,none⟩)]
abbrev Fi(v:Nat):List (Nat×aK):=[(299842,⟨1,none⟩),(299672,⟨1,none⟩),(400000,⟨v,none⟩)]
abbrev p3:AV:= .fn 43 [pC 299672,pC 299842]
section
variable{L:List T}(a:dM L)
include a
theorem Ic(nm:List UInt8)(p:Int)(r:List Pm)(j:r.length<1000000)(s:RS)(l:s.i<L.length):RCp L 43 [pC 299672,pC 299842] (jk nm p r.length (oT r)) (fun x=>jk nm p (r.length+1) (oT r ++[g0 x])) (Fi r.length) (fun _=>[]) s (eH L s):=by
 unfold eH;refine RCp.bind (pB l a 1 (by decide)) ?_ ?_
 ·exact fun _ _ _ c=>qX {pans:=an Pg [(43,0,299808,⟨1,some (bh c),[]⟩)]} 299808
 ·intro t h e c1
  refine RCp.bind (cQ e a [58]) ?_ ?_
  ·exact fun _ _ _ c=>qX {calls:=tC [(43,4,299828,ab c1)],pans:=an Pg [(43,1,299868,⟨1,some (bh c),[]⟩)]} 299808
  ·intro _ k d b
   refine RCp.bindp (Nl a _ d) ?_ ?_
   ·exact fun _ _ _ c=>qX {calls:=tC [(43,4,299828,ab c1),(43,6,299888,ab b)],pans:=an Pg [(43,2,299888,⟨6,some (bh c),[7,8]⟩)]} 299808
   ·intro ty m g f
    exact⟨g,qN {hint:=qT 43 [(18, .app (oT r) 1 (by simp only[xO];omega))],calls:=tC [(43,4,299828,ab c1),(43,6,299888,ab b),(43,13,300008,ab f)]} 299808⟩
end
def Id:List (Nat×AV):=[(0,rP),(1,p3)]
def Tw(L:List T)(nm:List UInt8)(p:Int)(s:RS)(r:List Pm):Res (List Pm)→Prop
 | .ok b a=>a.i<L.length∧RL 17 (lO 42 3) Id (rd L s ++jk nm p r.length (oT r)) (.exit 0) [(0,rP)] (rd L a ++jk nm p b.length (oT b))
 | .bad q t a=>∃v,RL 17 (lO 42 3) Id (rd L s ++jk nm p r.length (oT r)) (.panic (dL q t)) [] (rd L a ++Fi v)
 | .out=>True
noncomputable def PX{L:List T}{nm:List UInt8}{p:Int}{s:RS}{r:List Pm}{b:List (Nat×aK)}{x:aA}{l':List (Nat×AV)}(h:RL 17 (lO 42 3) Id (rd L s ++jk nm p r.length (oT r)) x l' (b)):dy Pg:=
 ⟨17,bG Pg 42 3,Id,fun _=>rd L s ++jk nm p r.length (oT r),x,l',fun _=>b,fun a X c d=>(h a X c d).aw⟩
section
variable{L:List T}{s:RS}(l:s.i<L.length)(nm:List UInt8)(p:Int)(r:List Pm)
include l
theorem PY(h:isT L s [44]=false):
    RE 17 (lO 42 3) Id (rd L s ++jk nm p r.length (oT r)) (.exit 0) [(0,rP)] (rd L s ++jk nm p r.length (oT r)):=
 qE {calls:=tC [(42,12,3017,ab (af l [44] h))]} 42 3000
theorem PZ(b:RS)(c1:HC 45 [rP, .d (.str [44])] (rd L s) [.bool true] (rd L b))(q t:Int)(a:RS)(c:HX 43 [pC 299672,pC 299842] (rd L b ++jk nm p r.length (oT r)) (dL q t) (rd L a ++Fi r.length)):
    RE 17 (lO 42 3) Id (rd L s ++jk nm p r.length (oT r)) (.panic (dL q t)) [] (rd L a ++Fi r.length):=
 qE {calls:=tC [(42,12,3017,ab c1)],pans:=an Pg [(42,4,3017,⟨1,some (bh c),[]⟩)]} 42 3000
theorem Wy(b:RS)(c1:HC 45 [rP, .d (.str [44])] (rd L s) [.bool true] (rd L b))(x:Pm)(a:RS)(c:HC 43 [pC 299672,pC 299842] (rd L b ++jk nm p r.length (oT r)) [] (rd L a ++jk nm p (r.length+1) (oT r ++[g0 x]))):
    RE 17 (lO 42 3) Id (rd L s ++jk nm p r.length (oT r)) .normal Id (rd L a ++jk nm p (r.length+1) (oT r ++[g0 x])):=
 qE {calls:=tC [(42,12,3017,ab c1),(42,14,3034,ab c)]} 42 3000
end
theorem DI(L:List T)(s:RS):Gr s (eH L s):=(ig L _ s).bind fun _ b _=>((aO L _ b).bind fun _ a _=>((nK L _ a).bind fun _ _ _=>Gq.ok _ _).le).le
section
variable{L:List T}(b:dM L)(nm:List UInt8)(p:Int)
include b
theorem Nm:∀(n:Nat)(r:List Pm)(s:RS),s.i<L.length→r.length≤s.i→Tw L nm p s r (cl L n r s)
 |0,_,_,_,_=>trivial
 |n+1,r,s,l,B=>by
  have m:r.length<1000000:=by have:=b.len;omega
  simp only[cl,aM];cases h:isT L s [44]with
  |false=>exact⟨l,fun d X f e=>aU (PY l nm p r h d X f e) (by simp)⟩
  |true=>
   have u:ah L [44] s= .ok (aD L s) s.nx:=by simp only[ah,h];rfl
   have w:=vy b l h;have c1:=mayT l [44] h (aD L s) s.nx (HV l b [44] h rfl rfl rfl rfl rfl rfl);simp only[xR,u,Res.bind];have c:=Ic b nm p r m s.nx w;have g:=DI L s.nx;revert c g;cases eH L s.nx with
   |out=>exact fun _ _=>trivial
   |bad q t k=>exact fun c _=>⟨_,fun d X f e=>aU (PZ l nm p r s.nx c1 q t k c d X f e) (by simp)⟩
   |ok x k=>
    intro c g;have g:=g x k rfl;have z:(r ++[x]).length=r.length+1:=by simp
    have j:=Nm n (r ++[x]) k c.1 (by simp only[RS.nx]at g;omega);have o:=Wy l nm p r s.nx c1 x k c.2;have y:oT (r ++[x])=oT r ++[g0 x]:=by simp[oT]
    simp only;unfold Tw at j ⊢;simp only[z,y]at j;revert j;cases cl L n (r ++[x]) k with
    |out=>exact fun _=>trivial
    |bad q t A=>exact fun ⟨v,j⟩=>⟨v,fun d X f e=>aR (o d X f e) (j d X f e)⟩
    |ok a A=>exact fun j=>⟨j.1,fun d X f e=>aR (o d X f e) (j.2 d X f e)⟩
end
section
variable{L:List T}(nm:List UInt8)(p:Int){s a b e g:RS}{k j:T}{q t:Int}
theorem Wz(c:HX 40 [rP, .d (.str [40])] (rd L s) (dL q t) (rd L a)):
    HX 42 [rP,p3] (rd L s ++jk nm p 0 []) (dL q t) (rd L a ++Fi 0):=
 qX {pans:=an Pg [(42,0,1000,⟨1,some (bh c),[]⟩)]} 1000
section
variable(c:a.i<L.length)(c1:HC 40 [rP, .d (.str [40])] (rd L s) [tD k] (rd L a))
include c c1
theorem WA(h:isT L a [41]=true)(f:HC 40 [rP, .d (.str [41])] (rd L a) [tD j] (rd L b)):
    HC 42 [rP,p3] (rd L s ++jk nm p 0 []) [] (rd L b ++jk nm p 0 []):=
 qN {calls:=tC [(42,5,1017,ab c1),(42,7,1034,ab (aZ c [41] h)),(42,16,1068,ab f)]} 1000
theorem WB(h:isT L a [41]=true)(f:HX 40 [rP, .d (.str [41])] (rd L a) (dL q t) (rd L b)):
    HX 42 [rP,p3] (rd L s ++jk nm p 0 []) (dL q t) (rd L b ++Fi 0):=
 qX {calls:=tC [(42,5,1017,ab c1),(42,7,1034,ab (aZ c [41] h))],pans:=an Pg [(42,5,1051,⟨1,some (bh f),[]⟩)]} 1000
theorem WC(h:isT L a [41]=false)(d:HX 43 [pC 299672,pC 299842] (rd L a ++jk nm p 0 []) (dL q t) (rd L b ++Fi 0)):
    HX 42 [rP,p3] (rd L s ++jk nm p 0 []) (dL q t) (rd L b ++Fi 0):=
 qX {calls:=tC [(42,5,1017,ab c1),(42,7,1034,ab (aZ c [41] h))],pans:=an Pg [(42,2,1051,⟨1,some (bh d),[]⟩)]} 1000
theorem WD(d:isT L a [41]=false)(x:Pm)(i:HC 43 [pC 299672,pC 299842] (rd L a ++jk nm p 0 []) [] (rd L b ++jk nm p 1 [g0 x]))(v:Nat)(h:RL 17 (lO 42 3) Id (rd L b ++jk nm p [x].length (oT [x])) (.panic (dL q t)) [] (rd L e ++Fi v)):
    HX 42 [rP,p3] (rd L s ++jk nm p 0 []) (dL q t) (rd L e ++Fi v):=
 qX {loops:=fun f q=>if f=42 then (if q=3 then some (PX (r:=[x]) h)else none)else none,calls:=tC [(42,5,1017,ab c1),(42,7,1034,ab (aZ c [41] d)),(42,10,1068,ab i)]} 1000
theorem WF(i:isT L a [41]=false)(x:Pm)(l:HC 43 [pC 299672,pC 299842] (rd L a ++jk nm p 0 []) [] (rd L b ++jk nm p 1 [g0 x]))(r:List Pm)(h:RL 17 (lO 42 3) Id (rd L b ++jk nm p [x].length (oT [x])) (.exit 0) [(0,rP)] (rd L e ++jk nm p r.length (oT r)))(m:HX 40 [rP, .d (.str [41])] (rd L e) (dL q t) (rd L g)):
    HX 42 [rP,p3] (rd L s ++jk nm p 0 []) (dL q t) (rd L g ++Fi r.length):=
 qX {loops:=fun f q=>if f=42 then (if q=3 then some (PX (r:=[x]) h)else none)else none,calls:=tC [(42,5,1017,ab c1),(42,7,1034,ab (aZ c [41] i)),(42,10,1068,ab l)],pans:=an Pg [(42,5,1068,⟨1,some (bh m),[]⟩)]} 1000
theorem WG(i:isT L a [41]=false)(x:Pm)(l:HC 43 [pC 299672,pC 299842] (rd L a ++jk nm p 0 []) [] (rd L b ++jk nm p 1 [g0 x]))(r:List Pm)(h:RL 17 (lO 42 3) Id (rd L b ++jk nm p [x].length (oT [x])) (.exit 0) [(0,rP)] (rd L e ++jk nm p r.length (oT r)))(m:HC 40 [rP, .d (.str [41])] (rd L e) [tD j] (rd L g)):
    HC 42 [rP,p3] (rd L s ++jk nm p 0 []) [] (rd L g ++jk nm p r.length (oT r)):=
 qN {loops:=fun f q=>if f=42 then (if q=3 then some (PX (r:=[x]) h)else none)else none,calls:=tC [(42,5,1017,ab c1),(42,7,1034,ab (aZ c [41] i)),(42,10,1068,ab l),(42,16,1085,ab m)]} 1000
end
end
def X7(L:List T)(nm:List UInt8)(p:Int)(s:RS):Res (List Pm)→Prop
 | .ok r a=>a.i<L.length∧HC 42 [rP,p3] (rd L s ++jk nm p 0 []) [] (rd L a ++jk nm p r.length (oT r))
 | .bad q t a=>∃v,HX 42 [rP,p3] (rd L s ++jk nm p 0 []) (dL q t) (rd L a ++Fi v)
 | .out=>True
theorem LD{L:List T}(h:dM L)(n:Nat)(nm:List UInt8)(p:Int)(s:RS)(l:s.i<L.length):X7 L nm p s (cE L n s):=by
 unfold cE;have c1:=cQ l h [40];have j:=aO L [40] s;revert c1 j;cases ah L [40] s with
 |out=>exact fun _ _=>trivial
 |bad q t d=>exact fun c1 _=>⟨0,Wz nm p c1⟩
 |ok u d=>
  intro c1 j;have j:=j u d rfl;have c:=c1.1;simp only[Res.bind];cases b:isT L d [41]with
  |true=>
   have a:=cQ c h [41];simp only[xR];revert a;cases ah L [41] d with
   |out=>exact fun _=>trivial
   |bad q t g=>exact fun a=>⟨0,WB nm p c c1.2 b a⟩
   |ok z g=>exact fun a=>⟨a.1,WA nm p c c1.2 b a.2⟩
  |false=>
   have a:=Ic h nm p [] (by decide) d c;have k:=DI L d;simp only[xI];revert a k;cases eH L d with
   |out=>exact fun _ _=>trivial
   |bad q t g=>exact fun a _=>⟨0,WC nm p c c1.2 b a⟩
   |ok x g=>
    intro a k;have k:=k x g rfl;have e:=Nm h nm p n [x] g a.1 (by simp only[xD,xF];omega);simp only;revert e;cases cl L n [x] g with
    |out=>exact fun _=>trivial
    |bad q t m=>exact fun ⟨v,e⟩=>⟨v,WD nm p c c1.2 b x a.2 v e⟩
    |ok r m=>
     rintro⟨w,e⟩;have f:=cQ w h [41];simp only;revert f;cases ah L [41] m with
     |out=>exact fun _=>trivial
     |bad q t o=>exact fun f=>⟨_,WF nm p c c1.2 b x a.2 r e f⟩
     |ok y o=>exact fun f=>⟨f.1,WG nm p c c1.2 b x a.2 r e f.2⟩
end Go.Avm
namespace Go.Avm
open Go.Proofs
theorem RC.bindv{L:List T}{F:Nat}{args:List AV}{s0:RS}{c:Type}{g:c→List D}{nm:List UInt8}{p:Int}{s:RS}{r:Res (List Pm)}{k:List Pm→RS→Res c}(h:X7 L nm p s r)
    (f:∀q e b v,(HX 42 [rP,p3] (rd L s ++jk nm p 0 []) (dL q e) (rd L b ++Fi v))→HX F args (rd L s0) (dL q e) (rd L b))
    (d:∀a b,b.i<L.length→(HC 42 [rP,p3] (rd L s ++jk nm p 0 []) [] (rd L b ++jk nm p a.length (oT a)))→RC L F args g s0 (k a b)):RC L F args g s0 (r.bind k):=by
 cases r with
 |ok a b=>exact d a b h.1 h.2
 |bad q e b=>obtain⟨v,h⟩:=h;exact f q e b v h
 |out=>trivial
abbrev fR:Fn→List D:=fun f=>[c2 f]
section
variable{L:List T}(a:dM L)
include a
theorem X8(n:Nat)(s:RS)(l:s.i<L.length):RC L 23 [rP] fR s (oF L n s):=by
 unfold oF;refine RC.bind (cQ l a [102,110]) ?_ ?_
 ·exact fun _ _ _ c=>qX {nils:=fun f r=>if f=23 then (if r=2 then some ⟨299842,1,400000,3,false,false⟩else none)else none,pans:=an Pg [(23,1,299719,⟨1,some (bh c),[3,7]⟩)]} 299671
 ·intro t B w c1
  refine RC.bind (pB w a 1 (by decide)) ?_ ?_
  ·exact fun _ _ _ c=>qX {nils:=fun f r=>if f=23 then (if r=2 then some ⟨299842,1,400000,3,false,false⟩else none)else none,calls:=tC [(23,5,299743,ab c1)],pans:=an Pg [(23,1,299719,⟨4,some (bh c),[7]⟩)]} 299671
  ·intro u D q d
   refine RC.bindv (LD a n u.t t.p _ q) ?_ ?_
   ·exact fun _ _ _ _ c=>qX {nils:=fun f r=>if f=23 then (if r=2 then some ⟨299842,1,400000,3,false,false⟩else none)else none,calls:=tC [(23,5,299743,ab c1),(23,8,299791,ab d)],pans:=an Pg [(23,2,299887,⟨2,some (bh c),[]⟩)]} 299671
   ·intro ps E h e
    refine RC.may h a [58] ?_ ?_ ?_
    ·exact fun _ _ _ c=>qX {nils:=fun f r=>if f=23 then (if r=2 then some ⟨299842,1,400000,3,false,false⟩else none)else none,calls:=tC [(23,5,299743,ab c1),(23,8,299791,ab d),(23,13,299935,ab e)],pans:=an Pg [(23,3,299935,⟨1,some (bh c),[]⟩)]} 299671
    ·intro A x m
     refine RC.bindp (Tr a _ x) ?_ ?_
     ·exact fun _ _ _ c=>qX {nils:=fun f r=>if f=23 then (if r=2 then some ⟨299842,1,400000,3,false,false⟩else none)else none,calls:=tC [(23,5,299743,ab c1),(23,8,299791,ab d),(23,13,299935,ab e),(23,15,299959,ab m)],pans:=an Pg [(23,4,299959,⟨2,some (bh c),[]⟩)]} 299671
     ·intro k v j g
      refine RC.bind ((Af a n).block _ j) ?_ ?_
      ·exact fun _ _ _ c=>qX {nils:=fun f r=>if f=23 then (if r=2 then some ⟨299842,1,400000,3,false,false⟩else none)else none,calls:=tC [(23,5,299743,ab c1),(23,8,299791,ab d),(23,13,299935,ab e),(23,15,299959,ab m),(23,18,300007,ab g)],pans:=an Pg [(23,5,300055,⟨1,some (bh c),[]⟩)]} 299671
      ·intro b C z y
       exact⟨z,qN {nils:=fun f r=>if f=23 then (if r=2 then some ⟨299842,1,400000,3,false,false⟩else none)else none,calls:=tC [(23,5,299743,ab c1),(23,8,299791,ab d),(23,13,299935,ab e),(23,15,299959,ab m),(23,18,300007,ab g),(23,21,300079,ab y)]} 299671⟩
    ·intro o
     refine RC.bind ((Af a n).block _ h) ?_ ?_
     ·exact fun _ _ _ c=>qX {nils:=fun f r=>if f=23 then (if r=2 then some ⟨299842,1,400000,3,false,false⟩else none)else none,calls:=tC [(23,5,299743,ab c1),(23,8,299791,ab d),(23,13,299935,ab e),(23,15,299959,ab (af h [58] o))],pans:=an Pg [(23,5,299959,⟨1,some (bh c),[]⟩)]} 299671
     ·intro b v j g
      exact⟨j,qN {nils:=fun f r=>if f=23 then (if r=2 then some ⟨299842,1,400000,3,false,false⟩else none)else none,calls:=tC [(23,5,299743,ab c1),(23,8,299791,ab d),(23,13,299935,ab e),(23,15,299959,ab (af h [58] o)),(23,21,299983,ab g)]} 299671⟩
end
end Go.Avm
namespace Go.Avm
open Go.Proofs
abbrev wt(r:List Fn):List (Nat×aK):=[(499382,⟨1,some (.arr 1 [.vec 600000 r.length 5 (r.map c2)])⟩),(600000,⟨r.length,none⟩),(499423,⟨1,some (.arr 1 [dI 0])⟩),(499464,⟨1,some (.arr 1 [dI 0])⟩)]
abbrev Rc:List (Nat×AV):=[(2,pC 499382),(3,pC 499423),(4,pC 499464)]
abbrev FT:List (Nat×AV):=[(2,pC 499382),(3,pC 499423),(4,pC 499464),(6,rP)]
def WH(L:List T)(s:RS)(r:List Fn):Res (List Fn)→Prop
 | .ok a b=>RL 40 (lO 12 7) FT (rd L s ++wt r) (.exit 0) Rc (rd L b ++wt a)
 | .bad q t b=>∃a:List Fn,RL 40 (lO 12 7) FT (rd L s ++wt r) (.panic (dL q t)) Rc (rd L b ++wt a)
 | .out=>True
section
variable{L:List T}{s:RS}(l:s.i<L.length)(r:List Fn)
include l
theorem P0(h:((aD L s).k==0)=true):RE 40 (lO 12 7) FT (rd L s ++wt r) (.exit 0) Rc (rd L s ++wt r):=
 qE {hint:=qT 12 [(31,hB Pg ((aD L s).k !=0) false (by simpa using h))],calls:=tC [(12,29,3040,ab (br l))]} 12 3000
theorem Tx(h:((aD L s).k==0)=false){q t:Int}{a:RS}(c:HX 23 [rP] (rd L s) (dL q t) (rd L a)):RE 40 (lO 12 7) FT (rd L s ++wt r) (.panic (dL q t)) Rc (rd L a ++wt r):=
 qE {hint:=qT 12 [(31,hB Pg ((aD L s).k !=0) true (by simpa using h))],calls:=tC [(12,29,3040,ab (br l))],pans:=an Pg [(12,8,3120,⟨3,some (bh c),[]⟩)]} 12 3000
theorem Ty(h:((aD L s).k==0)=false)(d:r.length<1000000)(nm:List UInt8)(ps:List Pm)(k:Int)(a:List aP)(p:Int){b:RS}(c:HC 23 [rP] (rd L s) [c2 ⟨nm,ps,k,a,p⟩] (rd L b)):RE 40 (lO 12 7) FT (rd L s ++wt r) .normal FT (rd L b ++[(499382,⟨1,some (.arr 1 [.vec 600000 (r.length+1) 5 (r.map c2 ++[c2 ⟨nm,ps,k,a,p⟩])])⟩),(600000,⟨r.length+1,none⟩),(499423,⟨1,some (.arr 1 [dI 0])⟩),(499464,⟨1,some (.arr 1 [dI 0])⟩)]):=
 qE {hint:=qT 12 [(31,hB Pg ((aD L s).k !=0) true (by simpa using h)),(37, .app (r.map c2) 1 (by simp only[xO];omega))],calls:=tC [(12,29,3040,ab (br l)),(12,35,3240,ab c)]} 12 3000
end
theorem WI{L:List T}{s:RS}(l:s.i<L.length)(r:List Fn)(h:((aD L s).k==0)=false)(d:r.length<1000000)(x:Fn){b:RS}(c:HC 23 [rP] (rd L s) [c2 x] (rd L b)):RE 40 (lO 12 7) FT (rd L s ++wt r) .normal FT (rd L b ++wt (r ++[x])):=by
 obtain⟨nm,ps,k,a,p⟩:=x;have f:(r ++[Fn.mk nm ps k a p]).length=r.length+1:=by simp
 have e:(r ++[Fn.mk nm ps k a p]).map c2=r.map c2 ++[c2 ⟨nm,ps,k,a,p⟩]:=by simp
 have:=Ty l r h d nm ps k a p c;simp only[wt,f,e];exact this
theorem Nn(L:List T)(n:Nat)(s:RS):Gr s (oF L n s):=by
 unfold oF
 have pp:∀(n:Nat)(r:List Pm)(s:RS),Gq s (cl L n r s):=fun n=>by
  induction n with
  |zero=>exact fun _ s=>Gq.out s
  |succ n k=>
   intro r s;simp only[cl];intro a l e;unfold aM at e;cases h:isT L s [44]<;>rw[h]at e
   ·cases e;exact xS _
   ·simp only[xR]at e
    cases j:ah L [44] s<;>rw[j]at e
    ·rename_i t f
     exact yX (zT (aO L _ s t f j)) (((DI L f).bind fun _ c _=>k _ c).le a l e)
    ·cases e
    ·cases e
 refine(aO L _ s).bind fun t f _=>((ig L _ f).bind fun u c _=>Gq.bindq (?_:Gq c (cE L n c)) fun ps g _=>(GK L _ g).bindq fun b d _=>Gq.ite ((nK L _ d).bind fun _ i _=>(((lL L n).1 i).bind fun _ _ _=>Gq.ok _ _).le).le (((lL L n).1 d).bind fun _ _ _=>Gq.ok _ _).le).le
 unfold cE;exact((aO L _ c).bind fun _ g _=>Gq.ite ((aO L _ g).bind fun _ _ _=>Gq.ok _ _).le ((DI L g).bind fun _ d _=>(pp n _ d).bindq fun _ i _=>((aO L _ i).bind fun _ _ _=>Gq.ok _ _).le).le).le
section
variable{L:List T}(b:dM L)
include b
theorem No(N:Nat):∀(n:Nat)(r:List Fn)(s:RS),s.i<L.length→r.length≤s.i→WH L s r (gF L N n r s)
 |0,_,_,_,_=>trivial
 |n+1,r,s,l,w=>by
  have m:r.length<1000000:=by have:=b.len;omega
  simp only[gF];cases h:((aD L s).k==0)with
  |true=>exact fun d X f e=>aU (P0 l r h d X f e) (by simp)
  |false=>
   have c:=X8 b N s l;have g:=Nn L N s;simp only[xI];revert c g;cases oF L N s with
   |out=>exact fun _ _=>trivial
   |bad q t p=>exact fun c _=>⟨r,fun d X f e=>aU (Tx l r h c d X f e) (by simp)⟩
   |ok x p=>
    intro c g;have g:=g x p rfl;have j:=No N n (r ++[x]) p c.1 (by simp only[xC,xD,xF];omega);have o:=WI l r h m x c.2;simp only[Res.bind];revert j;cases gF L N n (r ++[x]) p with
    |out=>exact fun _=>trivial
    |bad q t u=>exact fun ⟨v,j⟩=>⟨v,fun d X f e=>aR (o d X f e) (j d X f e)⟩
    |ok a u=>exact fun j d X f e=>aR (o d X f e) (j d X f e)
end
noncomputable def Tz{L:List T}{s:RS}{r:List Fn}{b:List (Nat×aK)}{x:aA}{l':List (Nat×AV)}(h:RL 40 (lO 12 7) FT (rd L s ++wt r) x l' b):dy Pg:=
 ⟨40,bG Pg 12 7,FT,fun _=>rd L s ++wt r,x,l',fun _=>b,fun a X c d=>(h a X c d).aw⟩
section
variable{x:List UInt8}{L:List T}
theorem Ie{a e:Int}(c:(e !=0)=true)(b:al Pg 21 [.str x] [.ro [], .int .i64 a, .int .i64 e]):al Pg 12 [.str x] [.agg [.ro []], .int .i64 a, .int .i64 e]:=
 qV {hint:=qT 12 [(9, .call 21 _ _ b),(14,qB c)]} 499380
theorem P1{q t:Int}{a:RS}(b:al Pg 21 [.str x] [rH L, .int .i64 0, .int .i64 0])(c:HX 23 [rP] (rd L ⟨0,0,0⟩) (dL q t) (rd L a)):al Pg 12 [.str x] [.agg [.ro []], .int .i64 q, .int .i64 t]:=
 qV {hint:=qT 12 [(9, .call 21 _ _ b)],pans:=an Pg [(12,6,500060,⟨3,some (bh c),[]⟩)]} 499380
theorem P2{nm:List UInt8}{ps:List Pm}{k:Int}{b:List aP}{p:Int}{q t:Int}{a g:RS}{e:List Fn}(d:al Pg 21 [.str x] [rH L, .int .i64 0, .int .i64 0])(c:HC 23 [rP] (rd L ⟨0,0,0⟩) [c2 ⟨nm,ps,k,b,p⟩] (rd L a))
    (h:RL 40 (lO 12 7) FT (rd L a ++wt [⟨nm,ps,k,b,p⟩]) (.panic (dL q t)) Rc (rd L g ++wt e)):al Pg 12 [.str x] [.agg [.ro []], .int .i64 q, .int .i64 t]:=
 qV {nils:=fun f r=>if f=12 then (if r=6 then some ⟨499382,0,600000,5,false,false⟩else none)else none,loops:=fun f q=>if f=12 then (if q=7 then some (Tz h)else none)else none,hint:=qT 12 [(9, .call 21 _ _ d)],calls:=tC [(12,24,500180,ab c)]} 499380
theorem P3{nm:List UInt8}{ps:List Pm}{k:Int}{b:List aP}{p:Int}{a g:RS}{d:List Fn}(e:al Pg 21 [.str x] [rH L, .int .i64 0, .int .i64 0])(c:HC 23 [rP] (rd L ⟨0,0,0⟩) [c2 ⟨nm,ps,k,b,p⟩] (rd L a))
    (h:RL 40 (lO 12 7) FT (rd L a ++wt [⟨nm,ps,k,b,p⟩]) (.exit 0) Rc (rd L g ++wt d)):al Pg 12 [.str x] [.agg [.ro (d.map c2)], .int .i64 0, .int .i64 0]:=
 qV {nils:=fun f r=>if f=12 then (if r=6 then some ⟨499382,0,600000,5,false,false⟩else none)else none,loops:=fun f q=>if f=12 then (if q=7 then some (Tz h)else none)else none,hint:=qT 12 [(9, .call 21 _ _ e)],calls:=tC [(12,24,500180,ab c)]} 499380
end
def Ig:Res (List Fn)→List D
 | .ok l _=>[.agg [.ro (l.map c2)], .int .i64 0, .int .i64 0]
 | .bad p e _=>[.agg [.ro []], .int .i64 p, .int .i64 e]
 | .out=>[]
theorem P4{x:List UInt8}{L:List T}(h:dM L)(l:0<L.length)(e:al Pg 21 [.str x] [rH L, .int .i64 0, .int .i64 0])(n:Nat)(a:dA L n≠ .out):al Pg 12 [.str x] (Ig (dA L n)):=by
 unfold dA at a ⊢;have c:=X8 h n ⟨0,0,0⟩ l;have g:=Nn L n ⟨0,0,0⟩;revert c g a;cases oF L n ⟨0,0,0⟩with
 |out=>exact fun a _ _=>absurd rfl a
 |bad q t d=>exact fun _ c _=>P1 e c
 |ok f d=>
  intro a c g;have g:=g f d rfl;have b:=No h n n [f] d c.1 (by simp only[xD,xF];omega);obtain⟨nm,ps,k,i,p⟩:=f;simp only[Res.bind]at a ⊢;revert b a;cases gF L n n [⟨nm,ps,k,i,p⟩] d with
  |out=>exact fun a _=>absurd rfl a
  |bad q t m=>exact fun _ ⟨j,b⟩=>P2 e c.2 b
  |ok j m=>exact fun _ b=>P3 e c.2 b
end Go.Avm
namespace Go.Avm
open Go.Proofs
def G1{c:Type}(L:List T)(s:RS)(r:Res c):Prop:=r≠ .out∧∀a b,r= .ok a b→s.i<b.i∧b.i<L.length
def G0{c:Type}(L:List T)(s:RS)(r:Res c):Prop:=r≠ .out∧∀a b,r= .ok a b→s.i≤b.i∧b.i<L.length
section
variable{L:List T}{d g:Type}{s:RS}
theorem G1.le{r:Res d}(h:G1 L s r):G0 L s r:=⟨h.1,fun a b e=>⟨zT (h.2 a b e).1,(h.2 a b e).2⟩⟩
theorem G0.ok(a:d)(l:s.i<L.length):G0 L s (.ok a s):=⟨fun e=>(by cases e),fun _ _ e=>by cases e;exact⟨xS _,l⟩⟩
theorem G1.bind{r:Res d}{f:d→RS→Res g}(h:G1 L s r)(n:∀a c,s.i<c.i→c.i<L.length→G0 L c (f a c)):G1 L s (r.bind f):=by
 cases r with
 |ok a c=>
  obtain⟨k,h2⟩:=h.2 a c rfl;obtain⟨m,j⟩:=n a c k h2;exact⟨m,fun b l e=>⟨yK k (j b l e).1,(j b l e).2⟩⟩
 |bad p q c=>exact⟨fun e=>(by cases e),fun _ _ e=>by cases e⟩
 |out=>exact absurd rfl h.1
theorem G0.bind{r:Res d}{f:d→RS→Res g}(h:G0 L s r)(n:∀a c,s.i≤c.i→c.i<L.length→G0 L c (f a c)):G0 L s (r.bind f):=by
 cases r with
 |ok a c=>
  obtain⟨k,h2⟩:=h.2 a c rfl;obtain⟨m,j⟩:=n a c k h2;exact⟨m,fun b l e=>⟨yX k (j b l e).1,(j b l e).2⟩⟩
 |bad p q c=>exact⟨fun e=>(by cases e),fun _ _ e=>by cases e⟩
 |out=>exact absurd rfl h.1
theorem G1.ite{c:Bool}{X Y:Res d}(b:G1 L s X)(a:G1 L s Y):G1 L s (bif c then X else Y):=by cases c<;>assumption
theorem G0.ite{c:Bool}{X Y:Res d}(b:G0 L s X)(a:G0 L s Y):G0 L s (bif c then X else Y):=by cases c<;>assumption
theorem G1.fail(l:s.i<L.length):G1 L s (fail L s:Res d):=⟨fun e=>(by cases e),fun _ _ e=>by cases e⟩
end
section
variable{L:List T}(c:dM L)
include c
theorem jh(x:List UInt8)(s:RS)(l:s.i<L.length):G1 L s (ah L x s):=by
 have h:=cQ l c x;have g:=aO L x s;revert h g;cases d:ah L x s with
 |ok a k=>exact fun h g=>⟨fun e=>(by cases e),fun b m e=>by cases e;exact⟨g _ _ rfl,h.1⟩⟩
 |bad p q k=>exact fun _ _=>⟨fun e=>(by cases e),fun _ _ e=>by cases e⟩
 |out=>
  unfold ah at d;cases j:isT L s x<;>rw[j]at d
  ·cases d
  ·simp only[xR]at d
   cases h2:(x==[40]||x==[91]||x==[123])<;>rw[h2]at d
   ·simp only[xI]at d
    cases f:(x==[41]||x==[93]||x==[125])<;>rw[f]at d<;>cases d
   ·simp only[xR]at d
    cases f:decide (200<b5 (s.op+1))<;>rw[f]at d<;>cases d
theorem j4(k:Int)(f:k≠0)(s:RS)(l:s.i<L.length):G1 L s (b0 L k s):=by
 have h:=pB l c k f;have g:=ig L k s;revert h g;cases d:b0 L k s with
 |ok a m=>exact fun h g=>⟨fun e=>(by cases e),fun b n e=>by cases e;exact⟨g _ _ rfl,h.1⟩⟩
 |bad p q m=>exact fun _ _=>⟨fun e=>(by cases e),fun _ _ e=>by cases e⟩
 |out=>
  unfold b0 at d;cases j:((aD L s).k==k)<;>rw[j]at d<;>cases d
section
variable{e:Type}{x:List UInt8}{s:RS}(l:s.i<L.length){X Y:RS→Res e}(d:∀a,s.i<a.i→a.i<L.length→G0 L a (X a))
include e x s l X Y d
theorem G1.mayT(i:G1 L s (Y s)):G1 L s ((aM L x s).bind fun b g=>bif b then X g else Y g):=by
 unfold aM;cases h:isT L s x with
 |false=>exact i
 |true=>
  simp only[xR];have:=(jh c x s l).bind (f:=fun _ g=>X g) fun _ a j h2=>d a j h2
  revert this;cases ah L x s<;>exact fun h=>h
theorem G0.mayT(i:G0 L s (Y s)):G0 L s ((aM L x s).bind fun b g=>bif b then X g else Y g):=by
 unfold aM;cases h:isT L s x with
 |false=>exact i
 |true=>
  simp only[xR];have:=((jh c x s l).bind (f:=fun _ g=>X g) fun _ a j h2=>d a j h2).le;revert this;cases ah L x s<;>exact fun h=>h
end
theorem vO:∀(k:List Int)(s:RS),s.i<L.length→G1 L s (cL L k s)
 |[],s,l=>G1.fail l
 |k::r,s,l=>by
  simp only[cL];exact G1.mayT c l (fun b a h2=>G0.ok _ h2) (vO r s l)
structure GA(L:List T)(n:Nat):Prop where
 one:∀s:RS,s.i<L.length→4*(L.length-s.i)+1≤n→G1 L s (dC L n s)
 place:∀s:RS,s.i<L.length→4*(L.length-s.i)+1≤n→G1 L s (ch L n s)
 call:∀nm p (s:RS),s.i<L.length→4*(L.length-s.i)+2≤n→G1 L s (dz L n nm p s)
 args:∀s:RS,s.i<L.length→4*(L.length-s.i)+1≤n→G1 L s (dU L n s)
 more:∀l (s:RS),s.i<L.length→4*(L.length-s.i)+1≤n→G0 L s (du L n l s)
 expr:∀k (s:RS),s.i<L.length→4*(L.length-s.i)+2≤n→G1 L s (aQ L n k s)
 tail:∀k e (s:RS),s.i<L.length→4*(L.length-s.i)+1≤n→G0 L s (c3 L n k e s)
theorem LE:∀n,GA L n
 |0=>⟨fun _ _ h=>by omega,fun _ _ h=>by omega,fun _ _ _ _ h=>by omega,fun _ _ h=>by omega,fun _ _ _ h=>by omega,fun _ _ _ h=>by omega,fun _ _ _ _ h=>by omega⟩
 |n+1=>by
  have m:=LE n;have W:=fun x s l=>jh c x s l
  refine⟨fun s l h=> ?_,fun s l h=> ?_,fun nm p s l h=> ?_,fun s l h=> ?_,fun r s l h=> ?_,fun k s l h=> ?_,fun k e s l h=> ?_⟩
  ·simp only[dC]
   have u:∀(f:Ex→Ex) b,s.i<b.i→b.i<L.length→G0 L b ((dC L n b).bind fun e g=> .ok (f e) g):=fun f b A h2=>((m.one b h2 (by omega)).bind fun _ _ _ d=>G0.ok _ d).le
   refine G1.mayT c l (fun b=>u _ b) (G1.mayT c l (fun b=>u _ b) (G1.mayT c l (fun b=>u _ b) ?_));cases w:((aD L s).k==3)with
   |true=>exact⟨fun e=>(by cases e),fun _ _ e=>by cases e;exact⟨zC _,Da c l (by rw[eq_of_beq w];decide)⟩⟩
   |false=>
    simp only[xI];refine G1.mayT c l (fun b _ h2=>G0.ok _ h2) (G1.mayT c l (fun b _ h2=>G0.ok _ h2) ?_);refine G1.mayT c l (fun b _ h2=>((W _ b h2).bind fun _ g _ d=>((W _ g d).bind fun _ _ _ j=>G0.ok _ j).le).le) ?_;refine G1.mayT c l (fun b _ h2=>((W _ b h2).bind fun _ g _ d=>((j4 c 1 (by decide) g d).bind fun _ o _ j=>((W _ o j).bind fun _ _ _ q=>G0.ok _ q).le).le).le) ?_;refine G1.ite ((W _ s l).bind fun _ g t d=>((m.expr _ g d (by omega)).bind fun _ o _ j=>((W _ o j).bind fun _ _ _ q=>G0.ok _ q).le).le) ?_;exact(j4 c 1 (by decide) s l).bind fun _ g t d=>G0.ite ((m.place g d (by omega)).bind fun _ _ _ j=>G0.ok _ j).le (G0.ite ((m.call _ _ g d (by omega)).bind fun _ _ _ j=>G0.ok _ j).le (G0.ok _ d))
  ·simp only[ch]
   exact(W _ s l).bind fun _ g t d=>((m.expr _ g d (by omega)).bind fun _ o _ j=>((W _ o j).bind fun _ _ _ q=>G0.ok _ q).le).le
  ·simp only[dz]
   exact(m.args s l (by omega)).bind fun _ _ _ d=>G0.ok _ d
  ·simp only[dU]
   exact(W _ s l).bind fun _ g t d=>G0.ite ((W _ g d).bind fun _ _ _ j=>G0.ok _ j).le (((m.expr _ g d (by omega)).bind fun _ o v j=>(m.more _ o j (by omega)).bind fun _ y _ q=>((W _ y q).bind fun _ _ _ z=>G0.ok _ z).le).le)
  ·simp only[du]
   exact G0.mayT c l (fun b A h2=>((m.expr _ b h2 (by omega)).bind fun _ o v j=>m.more _ o j (by omega)).le) (G0.ok _ l)
  ·simp only[aQ]
   exact(m.one s l (by omega)).bind fun _ g t d=>m.tail _ _ g d (by omega)
  ·simp only[c3]
   cases B:((ce L k s).1==0)with
   |true=>exact G0.ok _ l
   |false=>
    simp only[xI];have ln:s.nx.i<L.length:=oS l k c au (by simpa [ce]using B);have C:s.nx.i=s.i+1:=rfl;have h2:=((m.expr (b5 ((ce L k s).2+1)) s.nx ln (by omega)).bind (f:=fun r g=>c3 L n k (.mk 9 (ce L k s).1 [] 0 (aD L s).p [e,r]) g) fun _ o v j=>m.tail _ _ o j (by omega))
    exact⟨h2.1,fun a b e=>⟨by have:=(h2.2 a b e).1;omega,(h2.2 a b e).2⟩⟩
theorem TA(n:Nat)(id p:Int)(s:RS)(l:s.i<L.length)(h:4*(L.length-s.i)+1≤n):G1 L s (gE L n id p s):=by
 have W:=fun x s l=>jh c x s l
 unfold gE;refine(j4 c 1 (by decide) s l).bind fun _ o w k=>((W _ o k).bind fun _ r y t=>((vO c _ r t).bind fun _ g v e=>G0.ite ?_ ?_).le).le
 ·exact((W _ g e).bind fun _ m _ j=>((j4 c 3 (by decide) m j).bind fun _ f _ b=>((W _ f b).bind fun _ q _ d=>((W _ q d).bind fun _ _ _ a=>G0.ok _ a).le).le).le).le
 ·exact(G1.mayT c e (fun u j b=>(((LE c n).expr 1 u b (by omega)).bind fun _ f _ d=>((W _ f d).bind fun _ _ _ a=>G0.ok _ a).le).le) ((W _ g e).bind fun _ _ _ a=>G0.ok _ a)).le
theorem LF(n:Nat)(id p:Int)(s:RS)(l:s.i<L.length)(h:4*(L.length-s.i)+1≤n):G1 L s (ci L n id p s):=by
 have W:=fun x s l=>jh c x s l
 have A:=LE c n;unfold ci;refine(j4 c 1 (by decide) s l).bind fun _ k r g=>G0.ite ((A.call _ _ k g (by omega)).bind fun _ d _ e=>((W _ d e).bind fun _ _ _ b=>G0.ok _ b).le).le (G0.ite ?_ ?_)
 ·exact((A.place k g (by omega)).bind fun _ d o e=>((W _ d e).bind fun _ f q b=>((A.expr 1 f b (by omega)).bind fun _ m _ j=>((W _ m j).bind fun _ _ _ a=>G0.ok _ a).le).le).le).le
 ·exact((W _ k g).bind fun _ d o e=>((A.expr 1 d e (by omega)).bind fun _ f _ b=>((W _ f b).bind fun _ _ _ a=>G0.ok _ a).le).le).le
theorem Ih:∀n,(∀s:RS,s.i<L.length→4*(L.length-s.i)+1≤n→G1 L s (bg L n s))∧(∀r (s:RS),s.i<L.length→4*(L.length-s.i)+3≤n→G0 L s (cj L n r s))∧(∀s:RS,s.i<L.length→4*(L.length-s.i)+2≤n→G1 L s (b6 L n s))
 |0=>⟨fun _ _ h=>by omega,fun _ _ _ h=>by omega,fun _ _ h=>by omega⟩
 |n+1=>by
  obtain⟨w,h2,D⟩:=Ih n;have W:=fun x s l=>jh c x s l
  have A:=LE c n;refine⟨fun s l h=> ?_,fun r s l h=> ?_,fun s l h=> ?_⟩
  ·simp only[bg]
   exact(W _ s l).bind fun _ f t j=>(h2 _ f j (by omega)).bind fun _ d _ g=>((W _ d g).bind fun _ _ _ o=>G0.ok _ o).le
  ·simp only[cj]
   exact G0.ite (G0.ok _ l) ((D s l (by omega)).bind fun _ f t j=>h2 _ f j (by omega)).le
  ·simp only[b6]
   have l':s.st.i<L.length:=l;have F:s.st.i=s.i:=rfl;have u:=G1.mayT c l' (x:=[108,101,116]) (X:=fun f=>(gE L n s.st.n (aD L s.st).p f).bind fun x d=> .ok x d) (Y:=fun f=>(aM L [105,102] f).bind fun b f=>bif b then
   (aQ L n 1 f).bind fun e d=>(bg L n d).bind fun l q=>(aM L [101,108,115,101] q).bind fun b v=>
    bif b then (bg L n v).bind fun m B=> .ok (.mk 4 s.st.n [] 0 0 (aD L s.st).p [e] l m) B else .ok (.mk 4 s.st.n [] 0 0 (aD L s.st).p [e] l []) v
  else (aM L [119,104,105,108,101] f).bind fun b f=>bif b then
   (aQ L n 1 f).bind fun e d=>(bg L n d).bind fun l q=> .ok (.mk 5 s.st.n [] 0 0 (aD L s.st).p [e] l []) q
  else (aM L [114,101,116,117,114,110] f).bind fun b f=>bif b then
   bif isT L f [59]then (ah L [59] f).bind fun _ d=> .ok (.mk 6 s.st.n [] 0 0 (aD L s.st).p [] [] []) d
   else (aQ L n 1 f).bind fun e d=>(ah L [59] d).bind fun _ q=> .ok (.mk 6 s.st.n [] 0 0 (aD L s.st).p [e] [] []) q
  else (aM L [112,114,105,110,116] f).bind fun b f=>bif b then
   (aQ L n 1 f).bind fun e d=>(ah L [59] d).bind fun _ q=> .ok (.mk 7 s.st.n [] 0 0 (aD L s.st).p [e] [] []) q
  else (ci L n s.st.n (aD L s.st).p f).bind fun x d=> .ok x d)
      (fun k t j=>((TA c n _ _ k j (by omega)).bind fun _ _ _ g=>G0.ok _ g).le) ?_
   ·exact⟨u.1,fun a k e=>u.2 a k e⟩
   refine G1.mayT c l' (fun k t j=> ?_) (G1.mayT c l' (fun k t j=> ?_) (G1.mayT c l' (fun k t j=> ?_) (G1.mayT c l' (fun k t j=> ?_) ?_)))
   ·exact((A.expr 1 k j (by omega)).bind fun _ d z g=>((w d g (by omega)).bind fun _ q E o=>G0.mayT c o (fun v G C=>((w v C (by omega)).bind fun _ _ _ y=>G0.ok _ y).le) (G0.ok _ o)).le).le
   ·exact((A.expr 1 k j (by omega)).bind fun _ d z g=>((w d g (by omega)).bind fun _ _ _ o=>G0.ok _ o).le).le
   ·exact G0.ite ((W _ k j).bind fun _ _ _ g=>G0.ok _ g).le ((A.expr 1 k j (by omega)).bind fun _ d _ g=>((W _ d g).bind fun _ _ _ o=>G0.ok _ o).le).le
   ·exact((A.expr 1 k j (by omega)).bind fun _ d _ g=>((W _ d g).bind fun _ _ _ o=>G0.ok _ o).le).le
   ·exact(LF c n _ _ s.st l' (by omega)).bind fun _ _ _ g=>G0.ok _ g
theorem DJ(s:RS)(l:s.i<L.length):G1 L s (eH L s):=(j4 c 1 (by decide) s l).bind fun _ e _ h2=>((jh c _ e h2).bind fun _ a _ b=>((vO c _ a b).bind fun _ _ _ d=>G0.ok _ d).le).le
theorem DK:∀(n:Nat)(r:List Pm)(s:RS),s.i<L.length→L.length-s.i+1≤n→G0 L s (cl L n r s)
 |0,_,_,_,h=>by omega
 |n+1,r,s,l,h=>by
  simp only[cl];exact G0.mayT c l (fun d e h2=>((DJ c d h2).bind fun _ b f a=>DK n _ b a (by omega)).le) (G0.ok _ l)
theorem P5(n:Nat)(s:RS)(l:s.i<L.length)(h:4*(L.length-s.i)+1≤n):G1 L s (oF L n s):=by
 have W:=fun x s l=>jh c x s l
 have B:=(Ih c n).1;unfold oF;refine(W _ s l).bind fun t p r h2=>((j4 c 1 (by decide) p h2).bind fun u k v m=>(G1.bind (?_:G1 L k (cE L n k)) fun ps f q e=>G0.mayT c e (fun g o d=>((vO c _ g d).bind fun _ j w b=>((B j b (by omega)).bind fun _ _ _ a=>G0.ok _ a).le).le) ((B f e (by omega)).bind fun _ _ _ a=>G0.ok _ a).le).le).le
 unfold cE;exact(W _ k m).bind fun _ f q e=>G0.ite ((W _ f e).bind fun _ _ _ d=>G0.ok _ d).le ((DJ c f e).bind fun _ g o d=>(DK c n _ g d (by omega)).bind fun _ j _ b=>((W _ j b).bind fun _ _ _ a=>G0.ok _ a).le).le
theorem Ii(N:Nat)(d:4*L.length+1≤N):∀(n:Nat)(r:List Fn)(s:RS),s.i<L.length→L.length-s.i+1≤n→G0 L s (gF L N n r s)
 |0,_,_,_,h=>by omega
 |n+1,r,s,l,h=>by
  simp only[gF];exact G0.ite (G0.ok _ l) ((P5 c N s l (by omega)).bind fun _ a e b=>Ii N d n _ a b (by omega)).le
abbrev fuel(L:List T):Nat:=4*L.length+1
theorem vP(a:0<L.length):dA L (fuel L)≠ .out:=
 ((P5 c (fuel L) ⟨0,0,0⟩ a (by simp only[fuel];omega)).bind fun f b d h2=>Ii c (fuel L) (xS _) (fuel L) [f] b h2 (by simp only[fuel];omega)).1
end
end Go.Avm
namespace Go.Avm
open Go.Proofs
def wl:List (List UInt8):=[[102,110],[108,101,116],[105,102],[101,108,115,101],[119,104,105,108,101],[114,101,116,117,114,110],[112,114,105,110,116],[116,114,117,101],[102,97,108,115,101],[114,101,97,100],[108,101,110],[105,110,116],[98,111,111,108],[97,114,114]]
def oU:List (D×D×Nat):=[(.str [102,110], .agg [],0),(.str [108,101,116], .agg [],1),(.str [105,102], .agg [],2),(.str [101,108,115,101], .agg [],3),(.str [119,104,105,108,101], .agg [],4),(.str [114,101,116,117,114,110], .agg [],5),(.str [112,114,105,110,116], .agg [],6),(.str [116,114,117,101], .agg [],7),(.str [102,97,108,115,101], .agg [],8),(.str [114,101,97,100], .agg [],9),(.str [108,101,110], .agg [],10),(.str [105,110,116], .agg [],11),(.str [98,111,111,108], .agg [],12),(.str [97,114,114], .agg [],13)]
theorem pE(s:List UInt8):∀(l:List (List UInt8))(es:List (D×D×Nat))(n:Nat),es.map (fun e=>(e.1,e.2.1))=l.map (fun x=>(D.str x,D.agg []))→
    (∃i:Nat,l[i]? =some s∧(∀(j:Nat)(x:List UInt8),j<i→l[j]? =some x→(s==x)=false)∧cq (.str s) es n=some (some (n+i, .agg [])))∨((∀(i:Nat)(x:List UInt8),l[i]? =some x→(s==x)=false)∧cq (.str s) es n=some none)
 |[],es,n,h=>by
  have:es=[]:=by simpa using h
  subst this;exact .inr ⟨fun i x b=>by simp at b,rfl⟩
 |y::l,[],n,h=>by simp at h
 |y::l,e::es,n,h=>by
  simp only[xN,List.cons.injEq,xG]at h;obtain⟨⟨k,h2⟩,p⟩:=h;have c:jo (.str s) e.1=some (s==y):=by rw[k];rfl
  by_cases g:(s==y)=true
  ·left
   refine⟨0,by simp[eq_of_beq g],fun j x o=>by omega, ?_⟩;simp only[cq,c,g,h2,yp]
  ·have a:(s==y)=false:=by simpa using g
   rcases pE s l es (n+1) p with ⟨i,d,f,m⟩|⟨d,f⟩
   ·left
    refine⟨i+1,by simpa using d,fun j x o b=> ?_, ?_⟩
    ·cases j with
     |zero=>simp at b;subst b;exact a
     |succ j=>exact f j x (by omega) (by simpa using b)
    ·simp only[cq,c,a,m]
     congr 3;omega
   ·right
    refine⟨fun i x b=> ?_,by simp only[cq,c,a,f]⟩;cases i with
    |zero=>simp at b;subst b;exact a
    |succ i=>exact d i x (by simpa using b)
end Go.Avm
namespace Go.Avm
open Go.Proofs
def YK(P:Program)(s x:List UInt8)(t:Bool)(h:(s==x)=t):cf P:= .val (dB (s==x)) (dB t) (by rw[h])
end Go.Avm
namespace Go.Avm
open Go.Proofs
abbrev bD(b:UInt8):D:= .int .u8 (b.toNat:Int)
def FU(k:Int)(b:UInt8):Bool:=decide (k≤(b.toNat:Int))
def FV(b:UInt8)(k:Int):Bool:=decide ((b.toNat:Int)≤k)
def be(b:UInt8):Bool:=FU 48 b&&FV b 57
def gl(b:UInt8):Bool:=FU 97 b&&FV b 122
def iY(b:UInt8):Bool:=gl b||be b
def e6(b:UInt8):Bool:=((b.toNat:Int) !=10)
noncomputable def DL(f:Nat)(d a:Int)(b:UInt8)(t u:Bool)(c:FU d b=t)(h2:FV b a=u):Par Pg:=
 {hint:=fun f' k=>if f'=f then (if k=4 then some (hB Pg _ t c)else if k=7 then some (hB Pg _ u h2)else none)else none}
theorem Ij(b:UInt8):al Pg 64 [bD b] [.bool (be b)]:=by
 have k:∀t u,FU 48 b=t→FV b 57=u→al Pg 64 [bD b] [.bool (t&&u)]:=fun t u a h2=>by
  cases t with
  |false=>exact bq bv named (DL 64 48 57 b false u a h2) 100 (by kernel_rfl)
  |true=>exact bq bv named (DL 64 48 57 b true u a h2) 100 (by kernel_rfl)
 exact k _ _ rfl rfl
theorem UX(b:UInt8):al Pg 66 [bD b] [.bool (gl b)]:=by
 have k:∀t u,FU 97 b=t→FV b 122=u→al Pg 66 [bD b] [.bool (t&&u)]:=fun t u a h2=>by
  cases t with
  |false=>exact bq bv named (DL 66 97 122 b false u a h2) 100 (by kernel_rfl)
  |true=>exact bq bv named (DL 66 97 122 b true u a h2) 100 (by kernel_rfl)
 exact k _ _ rfl rfl
noncomputable def TB(b:UInt8)(t u:Bool)(a:al Pg 66 [bD b] [.bool t])(h2:al Pg 64 [bD b] [.bool u]):Par Pg:=
 {hint:=fun f' k=>if f'=67 then (if k=4 then some (.call 66 [bD b] [.bool t] a)else if k=7 then some (.call 64 [bD b] [.bool u] h2)else none)else none}
theorem YL(b:UInt8):al Pg 67 [bD b] [.bool (iY b)]:=by
 have k:∀t u,al Pg 66 [bD b] [.bool t]→al Pg 64 [bD b] [.bool u]→al Pg 67 [bD b] [.bool (t||u)]:=fun t u a h2=>by
  cases t with
  |false=>exact bq bv named (TB b false u a h2) 100 (by kernel_rfl)
  |true=>exact bq bv named (TB b true u a h2) 100 (by kernel_rfl)
 exact k _ _ (UX b) (Ij b)
theorem YM(b:UInt8):al Pg 63 [bD b] [.bool (e6 b)]:=bq bv named {} 100 (by kernel_rfl)
abbrev fU:AV:= .ptr 324 1 0 0 1
abbrev WJ(e c1 b c:AV)(s:List UInt8)(a v:Nat)(l:List D):Nat×aK:=(324,⟨1,some (.arr 1 [e,c1,b,c, .d (.str s),dN a, .vec 1 v 4 l])⟩)
def sub(s:List UInt8)(a e:Nat):List UInt8:=(s.take e).drop a
section
variable(m c1 g j:AV)(s:List UInt8)(a v:Nat)(l:List D)(f:Nat)
def Ci(i:Nat):List (Nat×AV):=[(0,fU),(1, .fn f []),(5,dN i)]
def bJ:List (Nat×aK):=[WJ m c1 g j s a v l]
section
variable(e:f=63∨f=64∨f=67){i:Nat}{b:UInt8}(d:i<s.length)(c:s[((i:Nat):Int).toNat]? =some b)
include e i b d c
theorem LG(n:s.length≤100000)(hp:al Pg f [bD b] [.bool true])(h:aa)(X:cA)(q:X.P=Pg)(p:X.N=39):
    AW X (lO 62 2) ⟨ak (Ci f i),ag (bJ m c1 g j s a v l) h⟩ fun o S'=>o= .normal∧Weak X S' ⟨ak (Ci f (i+1)),ag (bJ m c1 g j s a v l) h⟩:=by
 rcases e with rfl|rfl|rfl<;>exact sO bv named {hint:=fun f' k=>if f'=62 then (if k=16 then some (qL d)else if k=24 then some (.sidx s (i:Int) b (by omega) c)else if k=25 then some (.call _ [bD b] [.bool true] hp)
  else if k=28 then some (cy Pg i (by omega))else none)else none} 1000 62 100000 39 (by kernel_rfl) X q p
theorem LH(hp:al Pg f [bD b] [.bool false])(h:aa)(X:cA)(o:X.P=Pg)(p:X.N=39):
    AW X (lO 62 2) ⟨ak (Ci f i),ag (bJ m c1 g j s a v l) h⟩ fun n S'=>n= .exit 0∧Weak X S' ⟨ak [(0,fU),(5,dN i)],ag (bJ m c1 g j s a v l) h⟩:=
 by
 rcases e with rfl|rfl|rfl<;>exact sO bv named {hint:=fun f' k=>if f'=62 then (if k=16 then some (qL d)else if k=24 then some (.sidx s (i:Int) b (by omega) c)else if k=25 then some (.call _ [bD b] [.bool false] hp)
  else none)else none} 1000 62 100000 39 (by kernel_rfl) X o p
end
theorem P6(b:aa)(X:cA)(d:X.P=Pg)(e:X.N=39):
    AW X (lO 62 2) ⟨ak (Ci f s.length),ag (bJ m c1 g j s a v l) b⟩ fun c S'=>c= .exit 0∧Weak X S' ⟨ak [(0,fU),(5,dN s.length)],ag (bJ m c1 g j s a v l) b⟩:=
 sO bv named {hint:=fun f' k=>if f'=62 then (if k=16 then some (qG s.length)else none)else none} 1000 62 100000 39 (by kernel_rfl) X d e
theorem LI(x:f=63∨f=64∨f=67)(p:UInt8→Bool)(hp:∀b,al Pg f [bD b] [.bool (p b)])(t:s.length≤100000)(e:Nat)(w:a≤e)(A:e≤s.length)(u:∀i b,a≤i→i<e→s[i]? =some b→p b=true)(q:∀b,s[e]? =some b→p b=false)
    (d:aa) (X:cA) (o:X.P=Pg) (n:X.N=39):
    AW X (.loop (lO 62 2)) ⟨ak (Ci f a),ag (bJ m c1 g j s a v l) d⟩ fun y S'=>y= .exit 0∧S'=⟨ak [(0,fU),(5,dN e)],ag (bJ m c1 g j s a v l) d⟩:=
 hY (P:=Pg) (N:=39) (c:=bG Pg 62 2) (Ci f) (fun _ _=>bJ m c1 g j s a v l) (fun i=>a≤i∧i≤e) (fun i=>e-i) (.exit 0) [(0,fU),(5,dN e)] (fun _=>bJ m c1 g j s a v l) a ⟨xS _,w⟩ (by simp)
  (fun d i z=>by
   rcases yJ i e with h|h
   ·have r:=xH (l:=s) (i:=i) (by omega)
    have k:=hp s[i];rw[u i _ z.1 h r]at k;exact .inl ⟨i+1,⟨by omega,h⟩,by omega,fun X o n=>LG m c1 g j s a v l f x (by omega) r t k d X o n⟩
   ·have:i=e:=by omega
    subst this;rcases yJ i s.length with h2|h2
    ·have r:=xH (l:=s) (i:=i) h2
     have k:=hp s[i];rw[q _ r]at k;exact .inr fun X o n=>LH m c1 g j s a v l f x h2 r k d X o n
    ·have:i=s.length:=by omega
     subst this;exact .inr fun X o n=>P6 m c1 g j s a v l f d X o n) d X o n
noncomputable def TD(o:f=63∨f=64∨f=67)(p:UInt8→Bool)(hp:∀b,al Pg f [bD b] [.bool (p b)])(d:s.length≤100000)(e:Nat)(k:a≤e)(n:e≤s.length)(h:∀i b,a≤i→i<e→s[i]? =some b→p b=true)(c:∀b,s[e]? =some b→p b=false):dy Pg:=
 ⟨39,bG Pg 62 2,Ci f a,fun _=>bJ m c1 g j s a v l, .exit 0,[(0,fU),(5,dN e)],fun _=>bJ m c1 g j s a v l,LI m c1 g j s a v l f o p hp d e k n h c⟩
noncomputable def TF(e:Nat)(H:dy Pg)(b:a≤e∧e≤s.length):Par Pg:=
 {hint:=fun f' k=>if f'=62 then (if k=38 then some (.sub s a e b)else none)else none
  loops:=fun f' r=>if f'=62 then (if r=2 then some H else none)else none}
theorem WK(r:f=63∨f=64∨f=67)(p:UInt8→Bool)(hp:∀b,al Pg f [bD b] [.bool (p b)])(n:s.length≤100000)(e:Nat)(k:a≤e)(q:e≤s.length)(o:∀i b,a≤i→i<e→s[i]? =some b→p b=true)(h:∀b,s[e]? =some b→p b=false)(c:aa):
    ax Pg 62 [fU, .fn f []] (ag (bJ m c1 g j s a v l) c) [.d (.str (sub s a e))] (ag (bJ m c1 g j s a v l) c):=
 am bv named (TF s a e (TD m c1 g j s a v l f r p hp n e k q o h) ⟨k,q⟩) 1000 100000 62 (by kernel_rfl)
end
end Go.Avm
namespace Go.Avm
open Go.Proofs
def LJ(b:UInt8):Bool:=b==32||b==9||b==10||b==13
def bl:Bool→List UInt8→Nat
 |_,[]=>0
 |true,b::r=>1+bl (e6 b) r
 |false,b::r=>if LJ b then 1+bl false r else if b==35 then 1+bl true r else 0
theorem gV:∀(c:Bool)(l:List UInt8),bl c l≤l.length
 |_,[]=>by simp[bl]
 |true,b::r=>by
  have:=gV (e6 b) r;simp only[bl,xD];omega
 |false,b::r=>by
  have a:=gV false r;have h2:=gV true r;simp only[bl,xD];split
  ·omega
  ·split<;>omega
def fS(p:UInt8→Bool)(l:List UInt8):Nat:=(l.takeWhile p).length
theorem Fj(b:UInt8):e6 b=(b !=10):=by
 by_cases h:b=10
 ·subst h;rfl
 ·have a:(b !=10)=true:=by simpa using h
  have h2:e6 b=true:=by
   simp only[e6,bne_iff_ne,ne_eq];intro c;apply h;apply UInt8.toNat_inj.1;have:(b.toNat:Int)=((10:Nat):Int):=c;exact Int.ofNat.inj this
  rw[a,h2]
theorem sd:∀(l:List UInt8),bl true l=fS e6 l+bl false (l.drop (fS e6 l))
 |[]=>rfl
 |b::r=>by
  have d:=sd r;cases a:e6 b with
  |true=>
   simp only[bl,a,fS,yV,yS,xD,List.drop_succ_cons]at d ⊢;rw[d];omega
  |false=>
   have c:b=10:=by
    rw[Fj]at a;simpa using a
   subst c;simp[bl,a,fS,LJ]
theorem jB(p:UInt8→Bool)(s:List UInt8)(a:Nat)(m:a≤s.length):a+fS p (s.drop a)≤s.length∧(∀i b,a≤i→i<a+fS p (s.drop a)→s[i]? =some b→p b=true)∧∀b,s[a+fS p (s.drop a)]? =some b→p b=false:=by
 have e:fS p (s.drop a)≤(s.drop a).length:=by
  unfold fS;exact(List.takeWhile_sublist p).length_le
 have d:∀(l:List UInt8),(∀i b,i<fS p l→l[i]? =some b→p b=true)∧∀b,l[fS p l]? =some b→p b=false:=by
  intro l;induction l with
  |nil=>exact⟨fun i b _ h=>by simp at h,fun b h=>by simp at h⟩
  |cons x r g=>
   cases f:p x with
   |false=>simp[fS,yV,f]
   |true=>
    have k:fS p (x::r)=fS p r+1:=by simp[fS,yV,f]
    rw[k];refine⟨fun i b n c=> ?_,fun b c=> ?_⟩
    ·cases i with
     |zero=>simp at c;subst c;exact f
     |succ i=>exact g.1 i b (by omega) (by simpa using c)
    ·exact g.2 b (by simpa using c)
 refine⟨by simp at e;omega,fun i b o h2 c=> ?_,fun b c=> ?_⟩
 ·obtain⟨j,rfl⟩:∃j,i=a+j:=⟨i-a,by omega⟩
  exact(d (s.drop a)).1 j b (by omega) (by rw[xw];exact c)
 ·exact(d (s.drop a)).2 b (by rw[xw];exact c)
theorem LK(s:List UInt8)(a e:Nat)(h:a≤e)(b:e≤s.length):(sub s a e).length=e-a:=by
 unfold sub;rw[yW,zO];omega
section
variable(j c1 g i:AV)(s:List UInt8)(a v:Nat)(l:List D)
noncomputable def Ik(f:Nat)(h:f=63∨f=64∨f=67)(p:UInt8→Bool)(hp:∀b,al Pg f [bD b] [.bool (p b)])(c:s.length≤100000)(e:a≤s.length):fK Pg:=
 ⟨62,[fU, .fn f []],bJ j c1 g i s a v l,[.d (.str (sub s a (a+fS p (s.drop a))))],[],
  p9 rfl (WK j c1 g i s a v l f h p hp c _ (Nat.le_add_right _ _) (jB p s a e).1 (jB p s a e).2.1 (jB p s a e).2.2)⟩
def WL(P:Program)(s:List UInt8)(a e:Nat)(h:a≤e)(c:e≤s.length)(b:s.length≤100000):cf P:= .val (dI (IntKind.i64.wrap ((a:Int)+((sub s a e).length:Int)))) (dN e) (by
 congr 2;rw[LK s a e h c,IntWalk.i64_in _ (by omega)];omega)
theorem LL{b:UInt8}(m:b=32∨b=9∨b=10∨b=13)(e:a<s.length)(n:s[((a:Nat):Int).toNat]? =some b)(d:s.length≤100000)(c:aa)(X:cA)(o:X.P=Pg)(h:X.N=45):
    AW X (lO 37 0) ⟨ak [(0,fU)],ag (bJ j c1 g i s a v l) c⟩ fun f S'=>f= .normal∧Weak X S' ⟨ak [(0,fU)],ag (bJ j c1 g i s (a+1) v l) c⟩:=by
 rcases m with rfl|rfl|rfl|rfl<;>exact sO bv named {hint:=fun f' k=>if f'=37 then (if k=11 then some (qL e)else if k=20 then some (.sidx s (a:Int) _ (by omega) n)
  else if k=30 then some (cy Pg a (by omega))else none)else none} 1000 37 110000 45 (by kernel_rfl) X o h
theorem Il(d:a<s.length)(h:s[((a:Nat):Int).toNat]? =some 35)(b:s.length≤100000)(c:aa)(X:cA)(m:X.P=Pg)(f:X.N=45):
    AW X (lO 37 0) ⟨ak [(0,fU)],ag (bJ j c1 g i s a v l) c⟩ fun e S'=>e= .normal∧Weak X S' ⟨ak [(0,fU)],ag (bJ j c1 g i s (a+fS e6 (s.drop a)) v l) c⟩:=
 sO bv named {hint:=fun f' k=>if f'=37 then (if k=11 then some (qL d)else if k=20 then some (.sidx s (a:Int) _ (by omega) h)
  else if k=42 then some (WL Pg s a _ (Nat.le_add_right _ _) (jB e6 s a (by omega)).1 b)else none)else none
              calls:=fun f' k _=>if f'=37 then (if k=40 then some (Ik j c1 g i s a v l 63 (by simp) e6 YM b (by omega))else none)else none} 1000 37 110000 45 (by kernel_rfl) X m f
theorem Im(b:aa)(X:cA)(d:X.P=Pg)(e:X.N=45):
    AW X (lO 37 0) ⟨ak [(0,fU)],ag (bJ j c1 g i s s.length v l) b⟩ fun c S'=>c= .exit 0∧Weak X S' ⟨ak [(0,fU)],ag (bJ j c1 g i s s.length v l) b⟩:=
 sO bv named {hint:=fun f' k=>if f'=37 then (if k=11 then some (qG s.length)else none)else none} 1000 37 110000 45 (by kernel_rfl) X d e
def A7(P:Program)(b:UInt8)(k:Nat)(h:b.toNat≠k):cf P:=hB P ((b.toNat:Int)==(k:Int)) false (by simp only[yZ,ne_eq];omega)
theorem Cj{b:UInt8}(f:b.toNat≠32)(h2:b.toNat≠9)(o:b.toNat≠10)(h:b.toNat≠13)(q:b.toNat≠35)(d:a<s.length)(n:s[((a:Nat):Int).toNat]? =some b)(c:aa)(X:cA)(p:X.P=Pg)(m:X.N=45):
    AW X (lO 37 0) ⟨ak [(0,fU)],ag (bJ j c1 g i s a v l) c⟩ fun e S'=>e= .ret∧Weak X S' ⟨ak [(0,fU)],ag (bJ j c1 g i s a v l) c⟩:=
 sO bv named {hint:=fun f' k=>if f'=37 then (if k=11 then some (qL d)else if k=20 then some (.sidx s (a:Int) _ (by omega) n)
  else if k=22 then some (A7 Pg b 32 f)else if k=23 then some (A7 Pg b 9 h2)else if k=24 then some (A7 Pg b 10 o)else if k=25 then some (A7 Pg b 13 h)else if k=34 then some (A7 Pg b 35 q)else none)else none} 1000 37 110000 45 (by kernel_rfl) X p m
def ba(a:Nat):Nat:=a+bl false (s.drop a)
theorem Fk{b:UInt8}(h:LJ b=true):b=32∨b=9∨b=10∨b=13:=by
 simp only[LJ,xy,xm]at h;rcases h with ((h|h)|h)|h
 ·exact .inl h
 ·exact .inr (.inl h)
 ·exact .inr (.inr (.inl h))
 ·exact .inr (.inr (.inr h))
theorem se{b:UInt8}{k:Nat}(d:k<256)(h:b≠UInt8.ofNat k):b.toNat≠k:=fun c=>h (by
 apply UInt8.toNat_inj.1;rw[c];simp[UInt8.toNat_ofNat'];omega)
theorem Ag(x:Nat)(f:x<s.length):∃b,s[((x:Nat):Int).toNat]? =some b∧
    ((b=32∨b=9∨b=10∨b=13)∧ba s (x+1)=ba s x∨b=35∧ba s (x+fS e6 (s.drop x))=ba s x∧0<fS e6 (s.drop x)∨
     (b.toNat≠32∧b.toNat≠9∧b.toNat≠10∧b.toNat≠13∧b.toNat≠35)∧ba s x=x):=by
 have e:s.drop x=s[x]::s.drop (x+1):=yL f;refine⟨s[x],by simp[f], ?_⟩;unfold ba;cases d:LJ s[x]with
 |true=>
  refine .inl ⟨Fk d, ?_⟩;rw[e];simp only[bl,d,yS];omega
 |false=>
  by_cases c:s[x]=35
  ·refine .inr (.inl ⟨c, ?_, ?_⟩)
   ·have k:=sd (s.drop (x+1))
    have h:fS e6 (s.drop x)=fS e6 (s.drop (x+1))+1:=by
     rw[e,c];simp[fS,yV,show e6 35=true from rfl]
    have h2:bl false (s.drop x)=1+bl true (s.drop (x+1)):=by
     rw[e];simp only[bl,d,c];rfl
    rw[h2,k,h,List.drop_drop];have:x+(fS e6 (s.drop (x+1))+1)=x+1+fS e6 (s.drop (x+1)):=by omega
    rw[this];omega
   ·rw[e,c]
    simp[fS,yV,show e6 35=true from rfl]
  ·refine .inr (.inr ⟨?_, ?_⟩)
   ·simp only[LJ,zE,yZ]at d
    exact⟨se (by omega) d.1.1.1,se (by omega) d.1.1.2,se (by omega) d.1.2,se (by omega) d.2,se (by omega) c⟩
   ·rw[e]
    have:(s[x]==35)=false:=by simpa using c
    simp only[bl,d,this];rfl
theorem mT(a:Nat)(b:a≤s.length):a≤ba s a∧ba s a≤s.length:=by
 have:=gV false (s.drop a);rw[yW]at this;unfold ba;omega
def mU:aA:=if ba s a=s.length then .exit 0 else .ret
theorem Fl(u:a≤s.length)(m:s.length≤100000)(e:aA)(r:e=mU s a)(d:aa)(X:cA)(k:X.P=Pg)(f:X.N=45):
    AW X (.loop (lO 37 0)) ⟨ak [(0,fU)],ag (bJ j c1 g i s a v l) d⟩ fun t S'=>t=e∧S'=⟨ak [(0,fU)],ag (bJ j c1 g i s (ba s a) v l) d⟩:=
 hY (P:=Pg) (N:=45) (c:=bG Pg 37 0) (fun _=>[(0,fU)]) (fun x _=>bJ j c1 g i s x v l) (fun x=>x≤s.length∧ba s x=ba s a) (fun x=>s.length-x) e [(0,fU)] (fun _=>bJ j c1 g i s (ba s a) v l) a ⟨u,rfl⟩
  (by rw[r];unfold mU;split<;>simp)
  (fun d x o=>by
   rcases yJ x s.length with h|h
   ·obtain⟨b,q,⟨y,h2⟩|⟨rfl,h2,D⟩|⟨⟨A,B,w,C,z⟩,h2⟩⟩:=Ag s x h
    ·exact .inl ⟨x+1,⟨by omega,by rw[h2];exact o.2⟩,by omega,fun X k f=>LL j c1 g i s x v l y h q m d X k f⟩
    ·exact .inl ⟨x+fS e6 (s.drop x),⟨(jB e6 s x o.1).1,by rw[h2];exact o.2⟩,by omega,fun X k f=>Il j c1 g i s x v l h q m d X k f⟩
    ·have n:ba s a=x:=by rw[←o.2,h2]
     have:e= .ret:=by rw[r];unfold mU;rw[xj (by omega)]
     rw[n,this];exact .inr fun X k f=>Cj j c1 g i s x v l A B w C z h q d X k f
   ·have n:x=s.length:=by omega
    have q:=mT s x o.1;rw[o.2]at q;have p:ba s a=s.length:=by omega
    have:e= .exit 0:=by rw[r];unfold mU;rw[x9 p]
    rw[p,this,n];exact .inr fun X k f=>Im j c1 g i s v l d X k f) d X k f
noncomputable def DM(c:a≤s.length)(b:s.length≤100000)(e:aA)(d:e=mU s a):dy Pg:=
 ⟨45,bG Pg 37 0,[(0,fU)],fun _=>bJ j c1 g i s a v l,e,[(0,fU)],fun _=>bJ j c1 g i s (ba s a) v l,Fl j c1 g i s a v l c b e d⟩
theorem P7(f:a≤s.length)(c:s.length≤100000)(b:aa):ax Pg 37 [fU] (ag (bJ j c1 g i s a v l) b) [] (ag (bJ j c1 g i s (ba s a) v l) b):=by
 have d:∀e,e=mU s a→(e= .exit 0∨e= .ret)→ax Pg 37 [fU] (ag (bJ j c1 g i s a v l) b) [] (ag (bJ j c1 g i s (ba s a) v l) b):=by
  rintro e h (rfl|rfl)
  ·exact am bv named {loops:=fun f' r=>if f'=37 then (if r=0 then some (DM j c1 g i s a v l f c _ h)else none)else none} 1000 110000 37 (by kernel_rfl)
  ·exact am bv named {loops:=fun f' r=>if f'=37 then (if r=0 then some (DM j c1 g i s a v l f c _ h)else none)else none} 1000 110000 37 (by kernel_rfl)
 refine d _ rfl ?_;unfold mU;split
 ·exact .inl rfl
 ·exact .inr rfl
noncomputable def DN(c:a≤s.length)(b:s.length≤100000):fK Pg:=
 ⟨37,[fU],bJ j c1 g i s a v l,[],bJ j c1 g i s (ba s a) v l,gM (P7 j c1 g i s a v l c b)⟩
end
end Go.Avm
namespace Go.Avm
open Go.Proofs
abbrev nW(b:Int)(a:Nat)(t:List UInt8)(n:Int):D:= .agg [.int .u8 b, .int .i64 (a:Int), .str t, .int .i64 n]
def eB(w:Bool)(s:List UInt8)(a v m:Nat)(l:List D):List (Nat×aK):=match w with
 |false=>[WJ (.d (.int .u32 0)) (.d (.int .i32 0)) (.d (.int .u32 0)) .junk s a v l,(1,⟨v,none⟩),(120463,⟨v,none⟩),(200002,⟨0,none⟩),(200156,⟨0,none⟩),(204135,⟨0,none⟩),(210002,⟨m,none⟩),(210335,⟨m,none⟩)]
 |true=>[WJ (.d (.int .u32 1)) (.d (.int .i32 0)) (.d (.int .u32 0)) (.mp 200156 1) s a v l,(1,⟨v,none⟩),(120463,⟨v,none⟩),(200002,⟨1,none⟩),(200156,⟨1,some (.map oU 14)⟩),(204135,⟨1,none⟩),(210002,⟨m,none⟩),(210335,⟨m,none⟩)]
def TG(P:Program)(a k:Nat)(h:a+k≤1099511627776):cf P:= .val (dI (IntKind.i64.wrap ((a:Int)+(k:Int)))) (dN (a+k)) (by
 congr 2;rw[IntWalk.i64_in _ (by omega)];omega)
section
variable(w:Bool)(s:List UInt8)(a v m:Nat)(l:List D)
noncomputable def TH(t:List UInt8)(c:l.length+1≤549755813888)(b:a+t.length≤1099511627776):Par Pg:=
 {hint:=fun f' k=>if f'=39 then (if k=22 then some (.app l 1 c)else if k=31 then some (TG Pg a t.length b)else none)else none}
theorem WM(kd n:Int)(t:List UInt8)(e:l.length+1≤549755813888)(c:a+t.length≤1099511627776)(b:aa):
    ax Pg 39 [fU, .d (.int .u8 kd), .d (.str t), .d (.int .i64 n)] (ag (eB w s a v m l) b) [] (ag (eB w s (a+t.length) (v+1) m (l ++[nW kd a t n])) b):=by
 cases w<;>exact am bv named (TH a l t e c) 1000 120000 39 (by kernel_rfl)
noncomputable def ua(kd n:Int)(t:List UInt8)(c:l.length+1≤549755813888)(b:a+t.length≤1099511627776):fK Pg:=
 ⟨39,[fU, .d (.int .u8 kd), .d (.str t), .d (.int .i64 n)],eB w s a v m l,[],eB w s (a+t.length) (v+1) m (l ++[nW kd a t n]),gM (WM w s a v m l kd n t c b)⟩
noncomputable def DP(t:List UInt8)(r:Option (Nat×D))(h:cq (.str t) oU 0=some r):Par Pg:={hint:=fun f k=>if f=68 then (if k=18 then some (.look (.str t) oU r h)else none)else none}
def nX(w:Bool)(m:Nat):Nat:=match w with
 |false=>m
 |true=>m+1
set_option maxRecDepth 100000 in
theorem WN(t:List UInt8)(h:cq (.str t) oU 0=some none)(b:aa):ax Pg 68 [fU, .d (.str t)] (ag (eB w s a v m l) b) [dB false] (ag (eB true s a v (nX w m) l) b):=by
 cases w
 ·exact am bv named (DP t _ h) 1000 200000 68 (by kernel_rfl)
 ·exact am bv named (DP t _ h) 1000 210000 68 (by kernel_rfl)
set_option maxRecDepth 100000 in
theorem WO(t:List UInt8)(i:Nat)(h:cq (.str t) oU 0=some (some (i, .agg [])))(b:aa):ax Pg 68 [fU, .d (.str t)] (ag (eB w s a v m l) b) [dB true] (ag (eB true s a v (nX w m) l) b):=by
 cases w
 ·exact am bv named (DP t _ h) 1000 200000 68 (by kernel_rfl)
 ·exact am bv named (DP t _ h) 1000 210000 68 (by kernel_rfl)
def e8(t:List UInt8):Bool:=wl.contains t
theorem WP(t:List UInt8)(b:aa):ax Pg 68 [fU, .d (.str t)] (ag (eB w s a v m l) b) [dB (e8 t)] (ag (eB true s a v (nX w m) l) b):=by
 rcases pE t wl oU 0 rfl with ⟨i,c,e,g⟩|⟨c,e⟩
 ·have:e8 t=true:=by
    simp only[e8,zF,x6];exact x5 c
  rw[this];exact WO w s a v m l t (0+i) g b
 ·have:e8 t=false:=by
    simp only[e8,zF,xh];intro hm;obtain⟨i,f⟩:=xf hm;have:=c i t f;simp at this
  rw[this];exact WN w s a v m l t e b
noncomputable def TI(t:List UInt8)(u:Bool)(b:e8 t=u):fK Pg:=
 ⟨68,[fU, .d (.str t)],eB w s a v m l,[dB u],eB true s a v (nX w m) l,gM (by subst b;exact WP w s a v m l t)⟩
noncomputable def Np(f:Nat)(e:f=63∨f=64∨f=67)(p:UInt8→Bool)(hp:∀b,al Pg f [bD b] [.bool (p b)])(c:s.length≤100000)(g:a≤s.length):fK Pg:=
 match w with
 |false=>Ik (.d (.int .u32 0)) (.d (.int .i32 0)) (.d (.int .u32 0)) .junk s a v l f e p hp c g
 |true=>Ik (.d (.int .u32 1)) (.d (.int .i32 0)) (.d (.int .u32 0)) (.mp 200156 1) s a v l f e p hp c g
noncomputable def nY(b:s.length≤100000)(c:a≤s.length):fK Pg:=
 match w with
 |false=>DN (.d (.int .u32 0)) (.d (.int .i32 0)) (.d (.int .u32 0)) .junk s a v l c b
 |true=>DN (.d (.int .u32 1)) (.d (.int .i32 0)) (.d (.int .u32 0)) (.mp 200156 1) s a v l c b
end
end Go.Avm
namespace Go.Avm
open Go.Proofs
def oV(s:List UInt8)(a:Nat):List UInt8:=sub s a (a+fS iY (s.drop a))
section
variable(w:Bool)(s:List UInt8)(a v m:Nat)(l:List D)
noncomputable def oW(b:UInt8)(n:a<s.length)(h:s[((a:Nat):Int).toNat]? =some b)(c:s.length≤100000)(f:be b=false)(h2:gl b=true)(u:Bool)(j:e8 (oV s a)=u)(g:Bool)(i:decide (12<((oV s a).length:Int))=g)
    (e:l.length+1≤549755813888) (d:a+(oV s a).length≤1099511627776):Par Pg:=
 {hint:=fun f' k=>if f'=38 then (if k=14 then some (.sidx s (a:Int) b (by omega) h)else if k=17 then some (.call 64 [bD b] [.bool false] (f▸Ij b))else if k=22 then some (.call 66 [bD b] [.bool true] (h2▸UX b))
     else if k=40 then some (hB Pg _ g i)else none)else none
  calls:=fun f' k _=>if f'=38 then (if k=24 then some (Np w s a v l 67 (by simp) iY YL c (by omega))else if k=33 then some (TI w s a v m l (oV s a) u j)
   else if k=36 then some (ua true s a v (nX w m) l 2 0 (oV s a) e d)else if k=27 then some (ua true s a v (nX w m) l 1 0 (oV s a) e d)else none)else none}
section
variable(b:UInt8)(d:a<s.length)(e:s[((a:Nat):Int).toNat]? =some b)(c:s.length≤100000)(f:be b=false)(h2:gl b=true)
include b d e c f h2
theorem Io(j:e8 (oV s a)=true)(i:l.length+1≤549755813888)(h:a+(oV s a).length≤1099511627776)(g:aa):
    ax Pg 38 [fU] (ag (eB w s a v m l) g) [dI 0] (ag (eB true s (a+(oV s a).length) (v+1) (nX w m) (l ++[nW 2 a (oV s a) 0])) g):=by
 cases w with
 |false=>exact am bv named (oW false s a v m l b d e c f h2 true j _ rfl i h) 1000 130000 38 (by kernel_rfl)
 |true=>exact am bv named (oW true s a v m l b d e c f h2 true j _ rfl i h) 1000 130000 38 (by kernel_rfl)
theorem Ip(i:e8 (oV s a)=false)(h:decide (12<((oV s a).length:Int))=false)(k:l.length+1≤549755813888)(j:a+(oV s a).length≤1099511627776)(g:aa):
    ax Pg 38 [fU] (ag (eB w s a v m l) g) [dI 0] (ag (eB true s (a+(oV s a).length) (v+1) (nX w m) (l ++[nW 1 a (oV s a) 0])) g):=by
 cases w with
 |false=>exact am bv named (oW false s a v m l b d e c f h2 false i false h k j) 1000 130000 38 (by kernel_rfl)
 |true=>exact am bv named (oW true s a v m l b d e c f h2 false i false h k j) 1000 130000 38 (by kernel_rfl)
theorem Iq(i:e8 (oV s a)=false)(h:decide (12<((oV s a).length:Int))=true)(k:l.length+1≤549755813888)(j:a+(oV s a).length≤1099511627776)(g:aa):
    ax Pg 38 [fU] (ag (eB w s a v m l) g) [dI 2] (ag (eB true s a v (nX w m) l) g):=by
 cases w with
 |false=>exact am bv named (oW false s a v m l b d e c f h2 false i true h k j) 1000 130000 38 (by kernel_rfl)
 |true=>exact am bv named (oW true s a v m l b d e c f h2 false i true h k j) 1000 130000 38 (by kernel_rfl)
end
end
end Go.Avm
namespace Go.Avm
open Go.Proofs
def jl:List (List UInt8):=[[61,61],[33,61],[60,61],[62,61],[38,38],[124,124],[60,60],[62,62]]
def TJ:List UInt8:=[61,61,32,33,61,32,60,61,32,62,61,32,38,38,32,124,124,32,60,60,32,62,62]
def P8:List UInt8:=[40,41,123,125,91,93,44,59,58,61,60,62,43,45,42,47,37,38,124,94,33,126]
def tq:List D:=jl.map .str
theorem Ir{i:Nat}{x:List UInt8}(h:jl[i]? =some x):tq[((i:Nat):Int).toNat]? =some (.str x):=by
 simp[tq,h]
set_option maxRecDepth 100000 in
theorem LM:al Pg 96 [.str TJ] [.ro tq]:=bq bv named {} 100000 (by kernel_rfl)
def J9(t:List UInt8)(i:Nat):List (Nat×AV):=[(0, .d (.ro tq)),(1, .d (.str t)),(7,dN 8),(8,dN i)]
noncomputable def TK(t x:List UInt8)(i:Nat)(b:i<8)(a:jl[i]? =some x)(u:Bool)(c:(t==x)=u):Par Pg:=
 {hint:=fun f k=>if f=126 then (if k=9 then some (qL b)else if k=14 then some (.idx tq (i:Int) (.str x) (by omega) (Ir a))else if k=16 then some (YK Pg t x u c)
  else if k=18 then some (cy Pg i (by omega))else none)else none}
theorem Is(t x:List UInt8)(i:Nat)(c:i<8)(g:jl[i]? =some x)(e:(t==x)=false)(a:aa)(X:cA)(f:X.P=Pg)(d:X.N=19):
    AW X (lO 126 2) ⟨ak (J9 t i),ag [] a⟩ fun b S'=>b= .normal∧Weak X S' ⟨ak (J9 t (i+1)),ag [] a⟩:=
 sO bv named (TK t x i c g false e) 1000 126 1000 19 (by kernel_rfl) X f d
theorem TL(t x:List UInt8)(i:Nat)(c:i<8)(g:jl[i]? =some x)(e:(t==x)=true)(a:aa)(X:cA)(f:X.P=Pg)(d:X.N=19):
    AW X (lO 126 2) ⟨ak (J9 t i),ag [] a⟩ fun b S'=>b= .ret∧Weak X S' ⟨ak [(4,dN i)],ag [] a⟩:=
 sO bv named (TK t x i c g true e) 1000 126 1000 19 (by kernel_rfl) X f d
theorem TM(t:List UInt8)(a:aa)(X:cA)(c:X.P=Pg)(d:X.N=19):
    AW X (lO 126 2) ⟨ak (J9 t 8),ag [] a⟩ fun b S'=>b= .exit 0∧Weak X S' ⟨ak [],ag [] a⟩:=
 sO bv named {} 1000 126 1000 19 (by kernel_rfl) X c d
theorem LN(t:List UInt8)(b:Nat)(k:jl[b]? =some t)(f:∀(j:Nat)(x:List UInt8),j<b→jl[j]? =some x→(t==x)=false)(a:aa)(X:cA)(e:X.P=Pg)(d:X.N=19):
    AW X (.loop (lO 126 2)) ⟨ak (J9 t 0),ag [] a⟩ fun m S'=>m= .ret∧S'=⟨ak [(4,dN b)],ag [] a⟩:=by
 have g:b<8:=(xE.1 k).1
 exact hY (P:=Pg) (N:=19) (c:=bG Pg 126 2) (J9 t) (fun _ _=>[]) (fun i=>i≤b) (fun i=>8-i) .ret [(4,dN b)] (fun _=>[]) 0 (xz _) (by simp)
  (fun a i n=>by
   rcases yJ i b with h|h
   ·obtain⟨x,l⟩:∃x,jl[i]? =some x:=⟨_,xH (show i<8 by omega)⟩
    exact .inl ⟨i+1,h,by omega,fun X e d=>Is t x i (by omega) l (f i x h l) a X e d⟩
   ·have:i=b:=by omega
    subst this;exact .inr fun X e d=>TL t t i g k (by simp) a X e d) a X e d
theorem LO(t:List UInt8)(e:∀(j:Nat)(x:List UInt8),jl[j]? =some x→(t==x)=false)(a:aa)(X:cA)(d:X.P=Pg)(b:X.N=19):
    AW X (.loop (lO 126 2)) ⟨ak (J9 t 0),ag [] a⟩ fun g S'=>g= .exit 0∧S'=⟨ak [],ag [] a⟩:=
 hY (P:=Pg) (N:=19) (c:=bG Pg 126 2) (J9 t) (fun _ _=>[]) (fun i=>i≤8) (fun i=>8-i) (.exit 0) [] (fun _=>[]) 0 (xz _) (by simp)
  (fun a i k=>by
   rcases yJ i 8 with h|h
   ·obtain⟨x,f⟩:∃x,jl[i]? =some x:=⟨_,xH (show i<8 from h)⟩
    exact .inl ⟨i+1,h,by omega,fun X d b=>Is t x i h f (e i x f) a X d b⟩
   ·have:i=8:=by omega
    subst this;exact .inr fun X d b=>TM t a X d b) a X d b
noncomputable def WQ(t:List UInt8)(a:Nat)(c:jl[a]? =some t)(b:∀(j:Nat)(x:List UInt8),j<a→jl[j]? =some x→(t==x)=false):dy Pg:=⟨19,bG Pg 126 2,J9 t 0,fun _=>[], .ret,[(4,dN a)],fun _=>[],LN t a c b⟩
noncomputable def WR(t:List UInt8)(a:∀(j:Nat)(x:List UInt8),jl[j]? =some x→(t==x)=false):dy Pg:=⟨19,bG Pg 126 2,J9 t 0,fun _=>[], .exit 0,[],fun _=>[],LO t a⟩
theorem YN(t:List UInt8)(b:Nat)(c:jl[b]? =some t)(a:∀(j:Nat)(x:List UInt8),j<b→jl[j]? =some x→(t==x)=false):al Pg 97 [.ro tq, .str t] [.bool true]:=
 bq bv named {loops:=fun f r=>if f=126 then (if r=2 then some (WQ t b c a)else none)else none} 1000 (by kernel_rfl)
theorem YO(t:List UInt8)(a:∀(j:Nat)(x:List UInt8),jl[j]? =some x→(t==x)=false):al Pg 97 [.ro tq, .str t] [.bool false]:=
 bq bv named {loops:=fun f r=>if f=126 then (if r=2 then some (WR t a)else none)else none} 1000 (by kernel_rfl)
theorem ub(t:List UInt8):∀(l:List (List UInt8)),t∈l→∃i:Nat,l[i]? =some t∧∀(j:Nat)(x:List UInt8),j<i→l[j]? =some x→(t==x)=false
 |[],h=>by simp at h
 |y::l,h=>by
  by_cases a:t=y
  ·subst a
   exact⟨0,rfl,fun j x d=>by omega⟩
  ·obtain⟨i,c,h2⟩:=ub t l (by simpa [a]using h)
   refine⟨i+1,by simpa using c,fun j x d b=> ?_⟩;cases j with
   |zero=>simp at b;subst b;simpa using a
   |succ j=>exact h2 j x (by omega) (by simpa using b)
theorem YP(t:List UInt8):al Pg 97 [.ro tq, .str t] [.bool (jl.contains t)]:=by
 by_cases h:t∈jl
 ·obtain⟨i,a,h2⟩:=ub t jl h
  have:jl.contains t=true:=by simpa using h
  rw[this];exact YN t i a h2
 ·have:jl.contains t=false:=by simpa using h
  rw[this];refine YO t fun j x b=> ?_
  have:x∈jl:=x5 b;simp only[yZ,ne_eq];rintro rfl;exact h this
def Ck(b:UInt8):Int:=match m8 ((b.toNat:Int).toNat.toUInt8) P8 0 with
 |some i=>(i:Int)
 |none=> -1
theorem YQ(b:UInt8):al Pg 98 [.str P8,bD b] [.int .i64 (Ck b)]:=bq bv named {} 1000 (by kernel_rfl)
def rst(s:List UInt8)(a:Nat):List UInt8:=(s.take s.length).drop a
def oX(t:List UInt8)(k:Nat):List UInt8:=(t.take k).drop 0
section
variable(w:Bool)(s:List UInt8)(a v m:Nat)(l:List D)
noncomputable def sf(b:UInt8)(j:a<s.length)(e:(rst s a)[(0:Int).toNat]? =some b)(g:Bool)(f:decide (2≤((rst s a).length:Int))=g)(u:Bool)(h:jl.contains (oX (rst s a) 2)=u)(z:Bool)(i:decide (0≤Ck b)=z)
    (h2:g=true→2≤(rst s a).length) (d:1≤(rst s a).length):Par Pg:=
 {hint:=fun f' k=>if f'=69 then (if k=12 then some (.sub s a s.length ⟨by omega,xS _⟩)else if k=15 then some (hB Pg _ g f)else if k=17 then some (.call 96 [.str TJ] [.ro tq] LM)
     else if k=19 then (if c:g=true then some (.sub (rst s a) 0 2 ⟨by omega,h2 c⟩)else none)else if k=20 then some (.call 97 [.ro tq, .str (oX (rst s a) 2)] [.bool u] (h▸YP _))
     else if k=23 then (if c:g=true then some (.sub (rst s a) 0 2 ⟨by omega,h2 c⟩)else none)else if k=25 then some (.sidx (rst s a) 0 b (by omega) e)
     else if k=26 then some (.call 98 [.str P8,bD b] [.int .i64 (Ck b)] (YQ b))else if k=27 then some (hB Pg _ z i)else if k=29 then some (.sub (rst s a) 0 1 ⟨by omega,d⟩)else none)else none}
section
variable(f c1 c e:AV)(b:UInt8)(h:a<s.length)(i:(rst s a)[(0:Int).toNat]? =some b)
include f c1 c e b h i
theorem LP(j:decide (2≤((rst s a).length:Int))=true)(k:jl.contains (oX (rst s a) 2)=true)(h2:2≤(rst s a).length)(g:aa):
    ax Pg 69 [fU] (ag (bJ f c1 c e s a v l) g) [.d (.str (oX (rst s a) 2))] (ag (bJ f c1 c e s a v l) g):=
 am bv named (sf s a b h i true j true k _ rfl (fun _=>h2) (by omega)) 1000 140000 69 (by kernel_rfl)
theorem LQ(g:Bool)(n:decide (2≤((rst s a).length:Int))=g)(p:(g&&jl.contains (oX (rst s a) 2))=false)(h2:g=true→2≤(rst s a).length)(k:1≤(rst s a).length)(o:decide (0≤Ck b)=true)(j:aa):
    ax Pg 69 [fU] (ag (bJ f c1 c e s a v l) j) [.d (.str (oX (rst s a) 1))] (ag (bJ f c1 c e s a v l) j):=by
 cases g with
 |false=>exact am bv named (sf s a b h i false n _ rfl true o h2 k) 1000 140000 69 (by kernel_rfl)
 |true=>exact am bv named (sf s a b h i true n false (by simpa using p) true o h2 k) 1000 140000 69 (by kernel_rfl)
theorem It(g:Bool)(n:decide (2≤((rst s a).length:Int))=g)(p:(g&&jl.contains (oX (rst s a) 2))=false)(h2:g=true→2≤(rst s a).length)(k:1≤(rst s a).length)(o:decide (0≤Ck b)=false)(j:aa):
    ax Pg 69 [fU] (ag (bJ f c1 c e s a v l) j) [.d (.str [])] (ag (bJ f c1 c e s a v l) j):=by
 cases g with
 |false=>exact am bv named (sf s a b h i false n _ rfl false o h2 k) 1000 140000 69 (by kernel_rfl)
 |true=>exact am bv named (sf s a b h i true n false (by simpa using p) false o h2 k) 1000 140000 69 (by kernel_rfl)
end
end
end Go.Avm
namespace Go.Avm
open Go.Proofs
def si(s:List UInt8)(a:Nat)(b:UInt8):List UInt8:=
 if (decide (2≤((rst s a).length:Int))&&jl.contains (oX (rst s a) 2))=true then oX (rst s a) 2 else if decide (0≤Ck b)=true then oX (rst s a) 1 else []
section
variable(w:Bool)(s:List UInt8)(a v m:Nat)(l:List D)
theorem Nq(i c1 e f:AV)(b:UInt8)(k:a<s.length)(j:(rst s a)[(0:Int).toNat]? =some b)(c:aa):
    ax Pg 69 [fU] (ag (bJ i c1 e f s a v l) c) [.d (.str (si s a b))] (ag (bJ i c1 e f s a v l) c):=by
 have o:1≤(rst s a).length:=by
  have:=(xE.1 j).1;omega
 have h2:∀g,decide (2≤((rst s a).length:Int))=g→g=true→2≤(rst s a).length:=by
  rintro g rfl h;have:=yC h;omega
 unfold si;split
 ·rename_i h
  simp only[xL]at h;exact LP s a v l i c1 e f b k j h.1 h.2 (h2 _ h.1 rfl) c
 ·rename_i h
  have h':(decide (2≤((rst s a).length:Int))&&jl.contains (oX (rst s a) 2))=false:=by simpa only[Bool.not_eq_true]using h
  split
  ·rename_i n
   exact LQ s a v l i c1 e f b k j _ rfl h' (h2 _ rfl) o n c
  ·rename_i n
   exact It s a v l i c1 e f b k j _ rfl h' (h2 _ rfl) o (by simpa only[Bool.not_eq_true]using n) c
noncomputable def P9(b:UInt8)(e:a<s.length)(f:(rst s a)[(0:Int).toNat]? =some b)(t:List UInt8)(c:si s a b=t):fK Pg:=
 match w with
 |false=>⟨69,[fU],bJ (.d (.int .u32 0)) (.d (.int .i32 0)) (.d (.int .u32 0)) .junk s a v l,[.d (.str t)],[],p9 rfl (c▸Nq s a v l _ _ _ _ b e f)⟩
 |true=>⟨69,[fU],bJ (.d (.int .u32 1)) (.d (.int .i32 0)) (.d (.int .u32 0)) (.mp 200156 1) s a v l,[.d (.str t)],[],p9 rfl (c▸Nq s a v l _ _ _ _ b e f)⟩
noncomputable def DQ(b:UInt8)(d:a<s.length)(g:s[((a:Nat):Int).toNat]? =some b)(c:(rst s a)[(0:Int).toNat]? =some b)(e:be b=false)(h2:gl b=false)(t:List UInt8)(f:si s a b=t)(u:Bool)(h:(t==[])=u)
    (j:l.length+1≤549755813888) (i:a+t.length≤1099511627776):Par Pg:=
 {hint:=fun f' k=>if f'=38 then (if k=14 then some (.sidx s (a:Int) b (by omega) g)else if k=17 then some (.call 64 [bD b] [.bool false] (e▸Ij b))else if k=22 then some (.call 66 [bD b] [.bool false] (h2▸UX b))
     else if k=44 then some (hB Pg _ u h)else none)else none
  calls:=fun f' k _=>if f'=38 then (if k=42 then some (P9 w s a v l b d c t f)else if k=47 then some (ua w s a v m l 4 0 t j i)else none)else none}
section
variable(b:UInt8)(d:a<s.length)(g:s[((a:Nat):Int).toNat]? =some b)(c:(rst s a)[(0:Int).toNat]? =some b)(e:be b=false)(h2:gl b=false)(t:List UInt8)(f:si s a b=t)
include b d g c e h2 t f
theorem Iu(k:(t==[])=false)(j:l.length+1≤549755813888)(i:a+t.length≤1099511627776)(h:aa):
    ax Pg 38 [fU] (ag (eB w s a v m l) h) [dI 0] (ag (eB w s (a+t.length) (v+1) m (l ++[nW 4 a t 0])) h):=by
 cases w with
 |false=>exact am bv named (DQ false s a v m l b d g c e h2 t f false k j i) 1000 130000 38 (by kernel_rfl)
 |true=>exact am bv named (DQ true s a v m l b d g c e h2 t f false k j i) 1000 130000 38 (by kernel_rfl)
theorem Iv(k:(t==[])=true)(j:l.length+1≤549755813888)(i:a+t.length≤1099511627776)(h:aa):
    ax Pg 38 [fU] (ag (eB w s a v m l) h) [dI 4] (ag (eB w s a v m l) h):=by
 cases w with
 |false=>exact am bv named (DQ false s a v m l b d g c e h2 t f true k j i) 1000 130000 38 (by kernel_rfl)
 |true=>exact am bv named (DQ true s a v m l b d g c e h2 t f true k j i) 1000 130000 38 (by kernel_rfl)
end
end
end Go.Avm
namespace Go.Proofs
open Go.Shelf
def Tryz.lays174_ren:Go.Shelf.Ren:=⟨fun|174=>93|247=>120|245=>121|287=>143|279=>144|280=>145|281=>146|282=>147|321=>163|322=>164|316=>165|171=>167|205=>166|243=>177|246=>91|283=>115|284=>116|285=>117|286=>118|129=>139|317=>138|318=>140|319=>141|320=>142|337=>161|338=>162|n=>n,fun|9=>9|3=>3|2=>2|75=>105|85=>182|4=>4|167=>228|5=>5|53=>175|175=>229|46=>149|168=>231|37=>49|0=>0|210=>251|21=>21|127=>114|145=>272|143=>270|171=>201|173=>204|212=>224|51=>119|20=>20|213=>225|232=>268|233=>269|80=>70|n=>n,fun|15=>4|16=>5|17=>2|18=>6|19=>7|n=>n⟩
theorem Tryz.lays174:Go.Proofs.LaysC.n174 Tryz.prog Tryz.lays174_ren:=by constructor<;>intros<;>first|kernel_rfl|(constructor<;>intros<;>first|kernel_rfl|(constructor<;>intros<;>kernel_rfl))
end Go.Proofs
namespace Go.Avm
open Go.Proofs Go.RowKit
def dv(b:Nat)(l:List UInt8):Nat:=l.foldl (fun a c=>a*10+(c.toNat-48)) b
theorem oY(a:Nat):dv a []=a:=by simp only[dv,List.foldl_nil]
theorem lM(a:Nat)(c:UInt8)(r:List UInt8):dv a (c::r)=dv (a*10+(c.toNat-48)) r:=by simp only[dv,List.foldl_cons]
theorem TN(l:List UInt8):∀a:Nat,a≤dv a l:=by
 induction l with
 |nil=>intro a;rw[oY];exact xS _
 |cons c r b=>
  intro a;have:=b (a*10+(c.toNat-48));rw[lM];omega
theorem lN(b:UInt8):be b=true↔48≤b.toNat∧b.toNat≤57:=by
 simp only[be,FU,FV,xL,x6];omega
theorem Iw(M:Nat)(f:M=18446744073709551615):∀(l:List UInt8)(a:Nat),(∀c∈l,be c=true)→(dv a l≤M→Lib.parseUintM M a l= .ok (dv a l))∧(a≤M→M<dv a l→Lib.parseUintM M a l= .range)
 |[],a,_=>⟨fun _=>by rw[oY];rfl,fun d h2=>by rw[oY]at h2;omega⟩
 |c::r,a,h=>by
  have i:=(lN c).1 (h c (by simp));have b:=Iw M f r (a*10+(c.toNat-48)) (fun x j=>h x (by simp[j]));have g:=TN r (a*10+(c.toNat-48));rw[lM];generalize dv (a*10+(c.toNat-48)) r=V at*;rw[Lib.parseUintM,x9 i];refine⟨fun e=> ?_,fun e d=> ?_⟩
  ·rw[xj (by omega),xj (by omega)]
   exact b.1 e
  ·split
   ·rfl
   ·split
    ·rfl
    ·exact b.2 (by omega) d
theorem Ix(c:UInt8)(r:List UInt8)(h:∀x∈c::r,be x=true):(dv 0 (c::r)<9223372036854775808→Lib.parseIntB 64 (c::r)= .ok (dv 0 (c::r):Int))∧(9223372036854775808≤dv 0 (c::r)→Lib.parseIntB 64 (c::r)= .range):=by
 have i:=(lN c).1 (h c (by simp));have hm:=Iw _ (show(2^64-1:Nat)=18446744073709551615 from rfl) (c::r) 0 h;have d:Lib.parseUintB 64 (c::r)=Lib.parseUintM (2^64-1) 0 (c::r):=by rw[Lib.parseUintB,xj (by simp)]
 have g:(if c.toNat=43∨c.toNat=45 then r else c::r)=c::r:=xj (by omega);unfold Lib.parseIntB;simp only[g,d];generalize dv 0 (c::r)=V at*;have f:(2^64-1:Nat)=18446744073709551615:=rfl;have a:(2^(64-1):Nat)=9223372036854775808:=rfl;rw[f]at hm ⊢;refine⟨fun e=> ?_,fun e=> ?_⟩
 ·rw[hm.1 (by omega)]
  simp only[a];rw[xj (by omega),xj (by omega),xj (by omega)]
 ·by_cases b:V≤18446744073709551615
  ·rw[hm.1 b]
   simp only[a];rw[x9 (by omega)]
  ·rw[hm.2 (by omega) (by omega)]
theorem sj:ct Pg 93:=⟨Tryz.f93,Tryz.func93,by kernel_rfl,by kernel_rfl⟩
theorem oZ{t:List UInt8}{I:Nat→Nat→Prop}{w:World}{u:Value}(h:DRep I w (.str t) u):∃s:ByteArray,u= .string s∧s.data.toList=t:=by
 cases h with
 |str _ s a=>exact⟨s,rfl,a⟩
theorem o0{k:IntKind}{n:Int}{I:Nat→Nat→Prop}{w:World}{u:Value}(h:DRep I w (.int k n) u):u= .int k n:=by
 cases h;rfl
theorem Nr{t:List UInt8}{I:Nat→Nat→Prop}{w:World}{d:Array Value}(e:d.size=3)(h:∀(i:Nat)(x:D)(u:Value),[D.str t, .int .i64 10, .int .i64 64][i]? =some x→d[i]? =some u→DRep I w x u):
    ∃s:ByteArray,d= #[.string s, .int .i64 10, .int .i64 64]∧s.data.toList=t:=by
 obtain⟨l⟩:=d;match l,e with
 |[a,b,c],_=>
  obtain⟨s,rfl,e⟩:=oZ (h 0 _ a rfl rfl);have f:=o0 (h 1 _ b rfl rfl);have g:=o0 (h 2 _ c rfl rfl);subst f;subst g;exact⟨s,rfl,e⟩
theorem Iy{I:Nat→Nat→Prop}{w:World}{a b:D}{x y:Value}(f:DRep I w a x)(h2:DRep I w b y):mE I w [a,b] (.tuple #[x,y]):=
 .inr ⟨by simp, #[x,y],rfl,rfl,fun i d u c e=>by
  match i with
  |0=>simp at c e;subst c;subst e;exact f
  |1=>simp at c e;subst c;subst e;exact h2
  |i+2=>simp at c⟩
theorem LR(c:UInt8)(r:List UInt8)(h:∀x∈c::r,be x=true)(q:(c::r).length≤100000)(n:dv 0 (c::r)<9223372036854775808):al Pg 93 [.str (c::r), .int .i64 10, .int .i64 64] [.int .i64 (dv 0 (c::r):Int), .nili]:=by
 refine⟨sj,fun w I i l g a p=> ?_⟩;obtain⟨s,rfl,f⟩:=Nr g a;have hp:=(Ix c r h).1 n;rw[←f]at hp
 have d:s.size≤9223372036854775806:=by
  have:s.data.toList.length=(c::r).length:=by rw[f]
  have h2:s.data.toList.length=s.size:=by rw[xg];rfl
  omega
 refine(Any.strconv_ParseInt_10_at64_ok Tryz.lays174 s d _ hp w).mono ?_;rintro e k ⟨rfl,m⟩
 have j:Below w.heap.size w k:=by
  rcases m with rfl|⟨t,rfl⟩
  ·exact Below.refl _ _
  ·exact Lib.bytesWorld_below _ _ _
 refine⟨_,I,rfl,j,fun _ _ x=>x,fun _ _ x=> .inl x,fun b o x=>yK (l b o x) j.size,Iy ?_ .nili⟩;rw[f];exact .int _ _
theorem Iz(c:UInt8)(r:List UInt8)(h:∀x∈c::r,be x=true)(F:(c::r).length≤100000)(z:9223372036854775808≤dv 0 (c::r)):al Pg 93 [.str (c::r), .int .i64 10, .int .i64 64] [.int .i64 9223372036854775807, .ifc]:=by
 refine⟨sj,fun w I g y i a q=> ?_⟩;obtain⟨s,rfl,k⟩:=Nr i a;have hp:=(Ix c r h).2 z;rw[←k]at hp
 have d:s.size≤281474976710656:=by
  have:s.data.toList.length=(c::r).length:=by rw[k]
  have h2:s.data.toList.length=s.size:=by rw[xg];rfl
  omega
 obtain⟨ty,v,l⟩:∃ty v,w.cell? ⟨5,0,none⟩=some (.iface ty v):=by
  have B:DRep I w (.rp [.ifc]) (.pointer (some ⟨5,0,none⟩)):=(q 5 [.ifc] rfl).1;cases B with
  |rp cs b o U H G l A=>
   have m:=A 0 .ifc rfl;have p:=l 0 .ifc rfl;generalize U 0=u at m p;cases m with
   |ifc t v=>exact⟨t,v,p⟩
 have f:Lib.intSat 64 s.data.toList=9223372036854775807:=by
  have E:=(lN c).1 (h c (by simp));rw[k,Lib.intSat,xj (by simp only[List.head?_cons,xc,xA];omega)];rfl
 refine(Any.strconv_ParseInt_10_at64_range Tryz.lays174 s d hp (.iface ty v) w l (.inr ⟨_,_,rfl⟩)).mono ?_;rintro e C ⟨N,rfl,D,j,n⟩;refine⟨_,I,rfl,n,fun _ _ x=>x,fun _ _ x=> .inl x,fun b o x=>yK (y b o x) n.size,Iy ?_ (.ifc _ _)⟩;rw[f];exact .int _ _
end Go.Avm
namespace Go.Avm
open Go.Proofs
def da(s:List UInt8)(a:Nat):List UInt8:=sub s a (a+fS be (s.drop a))
section
variable(w:Bool)(s:List UInt8)(a v m:Nat)(l:List D)
noncomputable def uc(c b:UInt8)(E:a<s.length)(i:s.length≤100000)(q:(da s a)[(0:Int).toNat]? =some c)(n:Int)(e:D)(hp:al Pg 93 [.str (da s a), .int .i64 10, .int .i64 64] [.int .i64 n,e])
    (f:a+(da s a).length≤1099511627776) (B:l.length+1≤549755813888) (z y x u g j:Bool) (A:decide (1<((da s a).length:Int))=z) (t:((c.toNat:Int)==48)=y) (C:decide (((a+(da s a).length:Nat):Int)<(s.length:Int))=x)
    (d:x=true→s[((a+(da s a).length:Nat):Int).toNat]? =some b) (r:gl b=u) (p:FU 65 b=g) (o:FV b 90=j):Par Pg:=
 {hint:=fun f' k=>if f'=65 then (if k=11 then some (.call 93 [.str (da s a), .int .i64 10, .int .i64 64] [.int .i64 n,e] hp)else if k=20 then some (TG Pg a (da s a).length f)else if k=27 then some (hB Pg _ z A)
     else if k=30 then some (.sidx (da s a) 0 c (by omega) q)else if k=31 then some (hB Pg _ y t)else if k=40 then some (hB Pg _ x C)
     else if k=47 then (if h:x=true then some (.sidx s ((a+(da s a).length:Nat):Int) b (by omega) (d h))else none)else if k=55 then (if h:x=true then some (.sidx s ((a+(da s a).length:Nat):Int) b (by omega) (d h))else none)
     else if k=63 then (if h:x=true then some (.sidx s ((a+(da s a).length:Nat):Int) b (by omega) (d h))else none)else if k=48 then some (.call 66 [bD b] [.bool u] (r▸UX b))else if k=56 then some (hB Pg _ g p)else if k=64 then some (hB Pg _ j o)else none)else none
  calls:=fun f' k _=>if f'=65 then (if k=8 then some (Np w s a v l 64 (by simp) be Ij i (by omega))else if k=72 then some (ua w s a v m l 3 n (da s a) B f)else none)else none}
def Cl(z y x u g b:Bool):Bool:=(z&&y)||(x&&(u||(g&&b)))
section
variable(c b:UInt8)(f:a<s.length)(d:s.length≤100000)(e:(da s a)[(0:Int).toNat]? =some c)(n:Int)
include c b f d e n
theorem IA(hp:al Pg 93 [.str (da s a), .int .i64 10, .int .i64 64] [.int .i64 n, .ifc])(h:a+(da s a).length≤1099511627776)(j:l.length+1≤549755813888)(i:decide (((a+(da s a).length:Nat):Int)<(s.length:Int))=true→s[((a+(da s a).length:Nat):Int).toNat]? =some b)(g:aa):
    ax Pg 65 [fU] (ag (eB w s a v m l) g) [dI 2] (ag (eB w s a v m l) g):=by
 cases w with
 |false=>exact am bv named (uc false s a v m l c b f d e n .ifc hp h j _ _ _ _ _ _ rfl rfl rfl i rfl rfl rfl) 1000 150000 65 (by kernel_rfl)
 |true=>exact am bv named (uc true s a v m l c b f d e n .ifc hp h j _ _ _ _ _ _ rfl rfl rfl i rfl rfl rfl) 1000 150000 65 (by kernel_rfl)
theorem LT(hp:al Pg 93 [.str (da s a), .int .i64 10, .int .i64 64] [.int .i64 n, .nili])(j:a+(da s a).length≤1099511627776)(B:l.length+1≤549755813888)(z y x u g o:Bool)(A:decide (1<((da s a).length:Int))=z)(t:((c.toNat:Int)==48)=y)(C:decide (((a+(da s a).length:Nat):Int)<(s.length:Int))=x)(k:x=true→s[((a+(da s a).length:Nat):Int).toNat]? =some b)(r:gl b=u)(q:FU 65 b=g)(p:FV b 90=o)(h:Cl z y x u g o=true)(i:aa):
    ax Pg 65 [fU] (ag (eB w s a v m l) i) [dI 4] (ag (eB w s a v m l) i):=by
 cases w with
 |false=>cases z<;>cases y<;>cases x<;>cases u<;>cases g<;>cases o<;>first|exact absurd h (by decide)|exact am bv named (uc false s a v m l c b f d e n .nili hp j B _ _ _ _ _ _ A t C k r q p) 1000 150000 65 (by kernel_rfl)
 |true=>cases z<;>cases y<;>cases x<;>cases u<;>cases g<;>cases o<;>first|exact absurd h (by decide)|exact am bv named (uc true s a v m l c b f d e n .nili hp j B _ _ _ _ _ _ A t C k r q p) 1000 150000 65 (by kernel_rfl)
theorem TO(hp:al Pg 93 [.str (da s a), .int .i64 10, .int .i64 64] [.int .i64 n, .nili])(j:a+(da s a).length≤1099511627776)(B:l.length+1≤549755813888)(z y x u g o:Bool)(A:decide (1<((da s a).length:Int))=z)(t:((c.toNat:Int)==48)=y)(C:decide (((a+(da s a).length:Nat):Int)<(s.length:Int))=x)(k:x=true→s[((a+(da s a).length:Nat):Int).toNat]? =some b)(r:gl b=u)(q:FU 65 b=g)(p:FV b 90=o)(h:Cl z y x u g o=false)(i:aa):
    ax Pg 65 [fU] (ag (eB w s a v m l) i) [dI 0] (ag (eB w s (a+(da s a).length) (v+1) m (l ++[nW 3 a (da s a) n])) i):=by
 cases w with
 |false=>cases z<;>cases y<;>cases x<;>cases u<;>cases g<;>cases o<;>first|exact absurd h (by decide)|exact am bv named (uc false s a v m l c b f d e n .nili hp j B _ _ _ _ _ _ A t C k r q p) 1000 150000 65 (by kernel_rfl)
 |true=>cases z<;>cases y<;>cases x<;>cases u<;>cases g<;>cases o<;>first|exact absurd h (by decide)|exact am bv named (uc true s a v m l c b f d e n .nili hp j B _ _ _ _ _ _ A t C k r q p) 1000 150000 65 (by kernel_rfl)
end
noncomputable def LU(b:UInt8)(e:a<s.length)(c:s[((a:Nat):Int).toNat]? =some b)(d:be b=true)(C:fK Pg):Par Pg:=
 {hint:=fun f' k=>if f'=38 then (if k=14 then some (.sidx s (a:Int) b (by omega) c)else if k=17 then some (.call 64 [bD b] [.bool true] (d▸Ij b))else none)else none
  calls:=fun f' k _=>if f'=38 then (if k=19 then some C else none)else none}
theorem sm(b:UInt8)(d:a<s.length)(f:s[((a:Nat):Int).toNat]? =some b)(e:be b=true)(k:Int)(g:∀c:aa,ax Pg 65 [fU] (ag (eB w s a v m l) c) [dI k] (ag (eB w s a v m l) c))(c:aa):
    ax Pg 38 [fU] (ag (eB w s a v m l) c) [dI k] (ag (eB w s a v m l) c):=by
 cases w with
 |false=>exact am bv named (LU s a b d f e ⟨65,[fU],eB false s a v m l,[dI k],eB false s a v m l,gM g⟩) 1000 130000 38 (by kernel_rfl)
 |true=>exact am bv named (LU s a b d f e ⟨65,[fU],eB true s a v m l,[dI k],eB true s a v m l,gM g⟩) 1000 130000 38 (by kernel_rfl)
theorem Fm(b:UInt8)(f:a<s.length)(h:s[((a:Nat):Int).toNat]? =some b)(g:be b=true)(e d:Nat)(l':List D)(i:∀c:aa,ax Pg 65 [fU] (ag (eB w s a v m l) c) [dI 0] (ag (eB w s e d m l') c))(c:aa):
    ax Pg 38 [fU] (ag (eB w s a v m l) c) [dI 0] (ag (eB w s e d m l') c):=by
 cases w with
 |false=>exact am bv named (LU s a b f h g ⟨65,[fU],eB false s a v m l,[dI 0],eB false s e d m l',gM i⟩) 1000 130000 38 (by kernel_rfl)
 |true=>exact am bv named (LU s a b f h g ⟨65,[fU],eB true s a v m l,[dI 0],eB true s e d m l',gM i⟩) 1000 130000 38 (by kernel_rfl)
end
end Go.Avm
