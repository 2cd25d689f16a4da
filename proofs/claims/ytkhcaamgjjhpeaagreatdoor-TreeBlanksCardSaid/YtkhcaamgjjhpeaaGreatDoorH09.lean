/-
  Texts as programs: the reader's statements.
-/
import Derived.Test.YtkhcaamgjjhpeaaGreatDoorH08
import Derived.Test.YtkhcaamgjjhpeaaGreatDoorH07
import Derived.IntWalk
import Derived.Shelf.LaysC
import Derived.Ground.NamesProg
import Derived.Shelf.Strconv.ParseIntPublic10
import Derived.Test.YtkhcaamgjjhpeaaGreatDoorProg
set_option linter.unusedSectionVars false
namespace Go.Avm
open Go.Proofs
abbrev sR : St' → List D := fun x => [stD x]
abbrev bR : List St' → List D := fun l => [.ro (stL l)]
theorem RC.bindp {L : List T} {F : Nat} {args : List AV} {s0 : RS} {α β : Type} {g : α → List D} {f' : Nat} {args' : List AV} {pre' : List (Nat × Ent)} {post' : β → List (Nat × Ent)} {bd' : List (Nat × Ent)} {g' : β → List D} {s : RS} {r : Res β} {k : β → RS → Res α} (h : RCp L f' args' pre' post' bd' g' s r)
    (hb : ∀ p e s', (HX f' args' (rd L s ++ pre') (flt p e) (rd L s' ++ bd')) → HX F args (rd L s0) (flt p e) (rd L s'))
    (hk : ∀ a s', s'.i < L.length → (HC f' args' (rd L s ++ pre') (g' a) (rd L s' ++ post' a)) → RC L F args g s0 (k a s')) : RC L F args g s0 (r.bind k) := by
 cases r with
 | ok a s' => exact hk a s' h.1 h.2
 | bad p e s' => exact hb p e s' h
 | out => trivial
section
variable {L : List T} (hL : Toks L)
include hL
theorem stmtStep (n : Nat) (ihB : ∀ s : RS, s.i < L.length → RC L 40 [rP] bR s (sBlock L n s)) (s0 : RS) (l0 : s0.i < L.length) : RC L 62 [rP] sR s0 (sStmt L (n + 1) s0) := by
 have l : s0.st.i < L.length := l0
 simp only [sStmt]
 refine RC.may l hL [108, 101, 116] ?_ ?_ ?_
 ·exact fun _ _ _ c => qX { calls := tC [(62, 16, 2078, cRo rfl (nowR l))], pans := tabP Pg [(62, 4, 2386, ⟨1, some (pOf c), []⟩)] } 1000
 ·intro s1 l1 c1
  refine RC.bindp (letR hL n s0.st.n (cur L s0.st).p _ l1) ?_ ?_
  ·exact fun _ _ _ c => qX { calls := tC [(62, 16, 2078, cRo rfl (nowR l)), (62, 23, 2463, cOf c1)], pans := tabP Pg [(62, 5, 2540, ⟨1, some (pOf c), []⟩)] } 1000
  ·intro x s2 l2 c2
   obtain ⟨xk, xid, xnm, xty, xn, xp, xes, xbd, xel⟩ := x
   exact ⟨l2, qN { calls := tC [(62, 16, 2078, cRo rfl (nowR l)), (62, 23, 2463, cOf c1), (62, 25, 2617, cOf c2)] } 1000⟩
 ·intro h1
  refine RC.may l hL [105, 102] ?_ ?_ ?_
  ·exact fun _ _ _ c => qX { calls := tC [(62, 16, 2078, cRo rfl (nowR l)), (62, 23, 2463, cOf (mayF l [108, 101, 116] h1))], pans := tabP Pg [(62, 6, 2540, ⟨1, some (pOf c), []⟩)] } 1000
  ·intro s2 l2 c2
   refine RC.bind ((exAll hL n).expr 1 _ l2) ?_ ?_
   ·exact fun _ _ _ c => qX { calls := tC [(62, 16, 2078, cRo rfl (nowR l)), (62, 23, 2463, cOf (mayF l [108, 101, 116] h1)), (62, 28, 2617, cOf c2)], pans := tabP Pg [(62, 7, 2694, ⟨1, some (pOf c), []⟩)] } 1000
   ·intro x s3 l3 c3
    obtain ⟨kx, ox, nmx, nx, px, xsx⟩ := x
    refine RC.bind (ihB _ l3) ?_ ?_
    ·exact fun _ _ _ c => qX { calls := tC [(62, 16, 2078, cRo rfl (nowR l)), (62, 23, 2463, cOf (mayF l [108, 101, 116] h1)), (62, 28, 2617, cOf c2), (62, 30, 2771, cOf c3)], pans := tabP Pg [(62, 8, 3156, ⟨1, some (pOf c), []⟩)] } 1000
    ·intro b1 s4 l4 c4
     refine RC.may l4 hL [101, 108, 115, 101] ?_ ?_ ?_
     ·exact fun _ _ _ c => qX { calls := tC [(62, 16, 2078, cRo rfl (nowR l)), (62, 23, 2463, cOf (mayF l [108, 101, 116] h1)), (62, 28, 2617, cOf c2), (62, 30, 2771, cOf c3), (62, 35, 3233, cOf c4)], pans := tabP Pg [(62, 9, 3387, ⟨1, some (pOf c), []⟩)] } 1000
     ·intro s5 l5 c5
      refine RC.bind (ihB _ l5) ?_ ?_
      ·exact fun _ _ _ c => qX { calls := tC [(62, 16, 2078, cRo rfl (nowR l)), (62, 23, 2463, cOf (mayF l [108, 101, 116] h1)), (62, 28, 2617, cOf c2), (62, 30, 2771, cOf c3), (62, 35, 3233, cOf c4), (62, 38, 3464, cOf c5)], pans := tabP Pg [(62, 10, 3464, ⟨1, some (pOf c), []⟩)] } 1000
      ·intro b2 s6 l6 c6
       exact ⟨l6, qN { calls := tC [(62, 16, 2078, cRo rfl (nowR l)), (62, 23, 2463, cOf (mayF l [108, 101, 116] h1)), (62, 28, 2617, cOf c2), (62, 30, 2771, cOf c3), (62, 35, 3233, cOf c4), (62, 38, 3464, cOf c5), (62, 40, 3541, cOf c6)] } 1000⟩
     ·intro h5
      exact ⟨l4, qN { calls := tC [(62, 16, 2078, cRo rfl (nowR l)), (62, 23, 2463, cOf (mayF l [108, 101, 116] h1)), (62, 28, 2617, cOf c2), (62, 30, 2771, cOf c3), (62, 35, 3233, cOf c4), (62, 38, 3464, cOf (mayF l4 [101, 108, 115, 101] h5))] } 1000⟩
  ·intro h2
   refine RC.may l hL [119, 104, 105, 108, 101] ?_ ?_ ?_
   ·exact fun _ _ _ c => qX { calls := tC [(62, 16, 2078, cRo rfl (nowR l)), (62, 23, 2463, cOf (mayF l [108, 101, 116] h1)), (62, 28, 2617, cOf (mayF l [105, 102] h2))], pans := tabP Pg [(62, 11, 2694, ⟨1, some (pOf c), []⟩)] } 1000
   ·intro s3 l3 c3
    refine RC.bind ((exAll hL n).expr 1 _ l3) ?_ ?_
    ·exact fun _ _ _ c => qX { calls := tC [(62, 16, 2078, cRo rfl (nowR l)), (62, 23, 2463, cOf (mayF l [108, 101, 116] h1)), (62, 28, 2617, cOf (mayF l [105, 102] h2)), (62, 44, 2771, cOf c3)], pans := tabP Pg [(62, 12, 2848, ⟨1, some (pOf c), []⟩)] } 1000
    ·intro x s4 l4 c4
     obtain ⟨kx, ox, nmx, nx, px, xsx⟩ := x
     refine RC.bind (ihB _ l4) ?_ ?_
     ·exact fun _ _ _ c => qX { calls := tC [(62, 16, 2078, cRo rfl (nowR l)), (62, 23, 2463, cOf (mayF l [108, 101, 116] h1)), (62, 28, 2617, cOf (mayF l [105, 102] h2)), (62, 44, 2771, cOf c3), (62, 46, 2925, cOf c4)], pans := tabP Pg [(62, 13, 3310, ⟨1, some (pOf c), []⟩)] } 1000
     ·intro b1 s5 l5 c5
      exact ⟨l5, qN { calls := tC [(62, 16, 2078, cRo rfl (nowR l)), (62, 23, 2463, cOf (mayF l [108, 101, 116] h1)), (62, 28, 2617, cOf (mayF l [105, 102] h2)), (62, 44, 2771, cOf c3), (62, 46, 2925, cOf c4), (62, 51, 3387, cOf c5)] } 1000⟩
   ·intro h3
    refine RC.may l hL [114, 101, 116, 117, 114, 110] ?_ ?_ ?_
    ·exact fun _ _ _ c => qX { calls := tC [(62, 16, 2078, cRo rfl (nowR l)), (62, 23, 2463, cOf (mayF l [108, 101, 116] h1)), (62, 28, 2617, cOf (mayF l [105, 102] h2)), (62, 44, 2771, cOf (mayF l [119, 104, 105, 108, 101] h3))], pans := tabP Pg [(62, 14, 2848, ⟨1, some (pOf c), []⟩)] } 1000
    ·intro s4 l4 c4
     refine RC.ite (fun h5 => ?_) (fun h5 => ?_)
     ·
      refine RC.bind (wantR l4 hL [59]) ?_ ?_
      ·exact fun _ _ _ c => qX { calls := tC [(62, 16, 2078, cRo rfl (nowR l)), (62, 23, 2463, cOf (mayF l [108, 101, 116] h1)), (62, 28, 2617, cOf (mayF l [105, 102] h2)), (62, 44, 2771, cOf (mayF l [119, 104, 105, 108, 101] h3)), (62, 55, 2925, cOf c4), (62, 58, 3233, cOf (isRT l4 [59] h5))], pans := tabP Pg [(62, 18, 3310, ⟨1, some (pOf c), []⟩)] } 1000
      ·intro _ s6 l6 c6
       exact ⟨l6, qN { calls := tC [(62, 16, 2078, cRo rfl (nowR l)), (62, 23, 2463, cOf (mayF l [108, 101, 116] h1)), (62, 28, 2617, cOf (mayF l [105, 102] h2)), (62, 44, 2771, cOf (mayF l [119, 104, 105, 108, 101] h3)), (62, 55, 2925, cOf c4), (62, 58, 3233, cOf (isRT l4 [59] h5)), (62, 65, 3387, cOf c6)] } 1000⟩
     ·
      refine RC.bind ((exAll hL n).expr 1 _ l4) ?_ ?_
      ·exact fun _ _ _ c => qX { calls := tC [(62, 16, 2078, cRo rfl (nowR l)), (62, 23, 2463, cOf (mayF l [108, 101, 116] h1)), (62, 28, 2617, cOf (mayF l [105, 102] h2)), (62, 44, 2771, cOf (mayF l [119, 104, 105, 108, 101] h3)), (62, 55, 2925, cOf c4), (62, 58, 3233, cOf (isRT l4 [59] h5))], pans := tabP Pg [(62, 17, 3310, ⟨1, some (pOf c), []⟩)] } 1000
      ·intro x s6 l6 c6
       obtain ⟨kx, ox, nmx, nx, px, xsx⟩ := x
       refine RC.bind (wantR l6 hL [59]) ?_ ?_
       ·exact fun _ _ _ c => qX { calls := tC [(62, 16, 2078, cRo rfl (nowR l)), (62, 23, 2463, cOf (mayF l [108, 101, 116] h1)), (62, 28, 2617, cOf (mayF l [105, 102] h2)), (62, 44, 2771, cOf (mayF l [119, 104, 105, 108, 101] h3)), (62, 55, 2925, cOf c4), (62, 58, 3233, cOf (isRT l4 [59] h5)), (62, 61, 3387, cOf c6)], pans := tabP Pg [(62, 18, 3618, ⟨1, some (pOf c), []⟩)] } 1000
       ·intro _ s7 l7 c7
        exact ⟨l7, qN { calls := tC [(62, 16, 2078, cRo rfl (nowR l)), (62, 23, 2463, cOf (mayF l [108, 101, 116] h1)), (62, 28, 2617, cOf (mayF l [105, 102] h2)), (62, 44, 2771, cOf (mayF l [119, 104, 105, 108, 101] h3)), (62, 55, 2925, cOf c4), (62, 58, 3233, cOf (isRT l4 [59] h5)), (62, 61, 3387, cOf c6), (62, 65, 3695, cOf c7)] } 1000⟩
    ·intro h4
     refine RC.may l hL [112, 114, 105, 110, 116] ?_ ?_ ?_
     ·exact fun _ _ _ c => qX { calls := tC [(62, 16, 2078, cRo rfl (nowR l)), (62, 23, 2463, cOf (mayF l [108, 101, 116] h1)), (62, 28, 2617, cOf (mayF l [105, 102] h2)), (62, 44, 2771, cOf (mayF l [119, 104, 105, 108, 101] h3)), (62, 55, 2925, cOf (mayF l [114, 101, 116, 117, 114, 110] h4))], pans := tabP Pg [(62, 19, 3002, ⟨1, some (pOf c), []⟩)] } 1000
     ·intro s5 l5 c5
      refine RC.bind ((exAll hL n).expr 1 _ l5) ?_ ?_
      ·exact fun _ _ _ c => qX { calls := tC [(62, 16, 2078, cRo rfl (nowR l)), (62, 23, 2463, cOf (mayF l [108, 101, 116] h1)), (62, 28, 2617, cOf (mayF l [105, 102] h2)), (62, 44, 2771, cOf (mayF l [119, 104, 105, 108, 101] h3)), (62, 55, 2925, cOf (mayF l [114, 101, 116, 117, 114, 110] h4)), (62, 68, 3079, cOf c5)], pans := tabP Pg [(62, 20, 3156, ⟨1, some (pOf c), []⟩)] } 1000
      ·intro x s6 l6 c6
       obtain ⟨kx, ox, nmx, nx, px, xsx⟩ := x
       refine RC.bind (wantR l6 hL [59]) ?_ ?_
       ·exact fun _ _ _ c => qX { calls := tC [(62, 16, 2078, cRo rfl (nowR l)), (62, 23, 2463, cOf (mayF l [108, 101, 116] h1)), (62, 28, 2617, cOf (mayF l [105, 102] h2)), (62, 44, 2771, cOf (mayF l [119, 104, 105, 108, 101] h3)), (62, 55, 2925, cOf (mayF l [114, 101, 116, 117, 114, 110] h4)), (62, 68, 3079, cOf c5), (62, 70, 3233, cOf c6)], pans := tabP Pg [(62, 21, 3618, ⟨1, some (pOf c), []⟩)] } 1000
       ·intro _ s7 l7 c7
        exact ⟨l7, qN { calls := tC [(62, 16, 2078, cRo rfl (nowR l)), (62, 23, 2463, cOf (mayF l [108, 101, 116] h1)), (62, 28, 2617, cOf (mayF l [105, 102] h2)), (62, 44, 2771, cOf (mayF l [119, 104, 105, 108, 101] h3)), (62, 55, 2925, cOf (mayF l [114, 101, 116, 117, 114, 110] h4)), (62, 68, 3079, cOf c5), (62, 70, 3233, cOf c6), (62, 75, 3695, cOf c7)] } 1000⟩
     ·intro h5
      refine RC.bindp (namedR hL n s0.st.n (cur L s0.st).p _ l) ?_ ?_
      ·exact fun _ _ _ c => qX { calls := tC [(62, 16, 2078, cRo rfl (nowR l)), (62, 23, 2463, cOf (mayF l [108, 101, 116] h1)), (62, 28, 2617, cOf (mayF l [105, 102] h2)), (62, 44, 2771, cOf (mayF l [119, 104, 105, 108, 101] h3)), (62, 55, 2925, cOf (mayF l [114, 101, 116, 117, 114, 110] h4)), (62, 68, 3079, cOf (mayF l [112, 114, 105, 110, 116] h5))], pans := tabP Pg [(62, 3, 3156, ⟨1, some (pOf c), []⟩)] } 1000
      ·intro x s6 l6 c6
       obtain ⟨xk, xid, xnm, xty, xn, xp, xes, xbd, xel⟩ := x
       exact ⟨l6, qN { calls := tC [(62, 16, 2078, cRo rfl (nowR l)), (62, 23, 2463, cOf (mayF l [108, 101, 116] h1)), (62, 28, 2617, cOf (mayF l [105, 102] h2)), (62, 44, 2771, cOf (mayF l [119, 104, 105, 108, 101] h3)), (62, 55, 2925, cOf (mayF l [114, 101, 116, 117, 114, 110] h4)), (62, 68, 3079, cOf (mayF l [112, 114, 105, 110, 116] h5)), (62, 20, 3233, cOf c6)] } 1000⟩
end
def blL (l : List St') : List (Nat × AV) := [(0, rP), (3, .vec 200000 l.length 9 (stL l))]
abbrev blE (v : Nat) : List (Nat × Ent) := [(200000, ⟨v, none⟩)]
def BlAt (L : List T) (s : RS) (r : List St') : Res (List St') → Prop
 | .ok r2 s' => s'.i < L.length ∧ RL 17 (lO 40 3) (blL r) (rd L s ++ blE r.length) (.exit 0) (blL r2) (rd L s' ++ blE r2.length)
 | .bad q t s' => ∃ v, RL 17 (lO 40 3) (blL r) (rd L s ++ blE r.length) (.panic (flt q t)) [] (rd L s' ++ blE v)
 | .out => True
noncomputable def blLH {L : List T} {s : RS} {r : List St'} {hp' : List (Nat × Ent)} {x : AExit} {l' : List (Nat × AV)} (h : RL 17 (lO 40 3) (blL r) (rd L s ++ blE r.length) x l' hp') : LHint Pg :=
 ⟨17, loopOf Pg 40 3, blL r, fun _ => rd L s ++ blE r.length, x, l', fun _ => hp', fun rest X hP hN => (h rest X hP hN).aw⟩
section
variable {L : List T} {s : RS} (l : s.i < L.length) (r : List St')
include l
theorem blStop (h : isT L s [125] = true) : RE 17 (lO 40 3) (blL r) (rd L s ++ blE r.length) (.exit 0) (blL r) (rd L s ++ blE r.length) :=
 qE { calls := tC [(40, 7, 3017, cOf (isRT l [125] h))] } 40 3000
theorem blBad (h : isT L s [125] = false) {q t : Int} {s2 : RS} (c : HX 62 [rP] (rd L s) (flt q t) (rd L s2)) : RE 17 (lO 40 3) (blL r) (rd L s ++ blE r.length) (.panic (flt q t)) [] (rd L s2 ++ blE r.length) :=
 qE { calls := tC [(40, 7, 3017, cOf (isRT l [125] h))], pans := tabP Pg [(40, 4, 3034, ⟨2, some (pOf c), []⟩)] } 40 3000
theorem blGo0 (h : isT L s [125] = false) (hr : r.length < 1000000) (k id : Int) (nm : List UInt8) (ty n p : Int) (es : List Ex) (bd el : List St') {s2 : RS} (c : HC 62 [rP] (rd L s) [stD (.mk k id nm ty n p es bd el)] (rd L s2)) : RE 17 (lO 40 3) (blL r) (rd L s ++ blE r.length) .normal [(0, rP), (3, .vec 200000 (r.length + 1) 9 (stL r ++ [stD (.mk k id nm ty n p es bd el)]))] (rd L s2 ++ blE (r.length + 1)) :=
 qE { hint := qT 40 [(13, .app (stL r) 1 (by rw [stL_len]; omega))], calls := tC [(40, 7, 3017, cOf (isRT l [125] h)), (40, 11, 3068, cOf c)] } 40 3000
theorem blGo (h : isT L s [125] = false) (hr : r.length < 1000000) (x : St') {s2 : RS} (c : HC 62 [rP] (rd L s) [stD x] (rd L s2)) : RE 17 (lO 40 3) (blL r) (rd L s ++ blE r.length) .normal (blL (r ++ [x])) (rd L s2 ++ blE (r ++ [x]).length) := by
 obtain ⟨k, id, nm, ty, n, p, es, bd, el⟩ := x
 have e1 : (r ++ [St'.mk k id nm ty n p es bd el]).length = r.length + 1 := by simp
 have e2 : stL (r ++ [St'.mk k id nm ty n p es bd el]) = stL r ++ [stD (.mk k id nm ty n p es bd el)] := by rw [stL_app]; rfl
 simp only [blL, e1, e2]
 exact blGo0 l r h hr k id nm ty n p es bd el c
end
section
variable {L : List T} {s s1 s2 s3 : RS} {t1 t2 : T} {q t : Int} (c1 : HC 34 [rP, .d (.str [123])] (rd L s) [tD t1] (rd L s1))
theorem bkP1 (c : HX 34 [rP, .d (.str [123])] (rd L s) (flt q t) (rd L s1)) : HX 40 [rP] (rd L s) (flt q t) (rd L s1) :=
 qX { pans := tabP Pg [(40, 2, 1034, ⟨1, some (pOf c), []⟩)] } 1000
include c1
theorem bkP2 (v : Nat) (h : RL 17 (lO 40 3) (blL []) (rd L s1 ++ blE ([] : List St').length) (.panic (flt q t)) [] (rd L s2 ++ blE v)) : HX 40 [rP] (rd L s) (flt q t) (rd L s2) :=
 qX { nils := fun f r => if f = 40 then (if r = 2 then some ⟨0, 3, 200000, 9, true, false⟩ else none) else none, loops := fun f q => if f = 40 then (if q = 3 then some (blLH h) else none) else none, calls := tC [(40, 5, 1051, cOf c1)] } 1000
section
variable (r : List St') (h : RL 17 (lO 40 3) (blL []) (rd L s1 ++ blE ([] : List St').length) (.exit 0) (blL r) (rd L s2 ++ blE r.length))
include r h
theorem bkP3 (c : HX 34 [rP, .d (.str [125])] (rd L s2) (flt q t) (rd L s3)) : HX 40 [rP] (rd L s) (flt q t) (rd L s3) :=
 qX { nils := fun f r => if f = 40 then (if r = 2 then some ⟨0, 3, 200000, 9, true, false⟩ else none) else none, loops := fun f q => if f = 40 then (if q = 3 then some (blLH h) else none) else none, calls := tC [(40, 5, 1051, cOf c1)], pans := tabP Pg [(40, 5, 1051, ⟨1, some (pOf c), []⟩)] } 1000
theorem bkOk (c : HC 34 [rP, .d (.str [125])] (rd L s2) [tD t2] (rd L s3)) : HC 40 [rP] (rd L s) [.ro (stL r)] (rd L s3) :=
 qN { nils := fun f r => if f = 40 then (if r = 2 then some ⟨0, 3, 200000, 9, true, false⟩ else none) else none, loops := fun f q => if f = 40 then (if q = 3 then some (blLH h) else none) else none, calls := tC [(40, 5, 1051, cOf c1), (40, 15, 1068, cOf c)] } 1000
end
end
structure StAll (L : List T) (n : Nat) : Prop where
 block : ∀ s : RS, s.i < L.length → RC L 40 [rP] bR s (sBlock L n s)
 stmts : ∀ (r : List St') (s : RS), s.i < L.length → r.length ≤ s.i → BlAt L s r (sStmts L n r s)
 stmt : ∀ s : RS, s.i < L.length → RC L 62 [rP] sR s (sStmt L n s)
theorem stAll {L : List T} (hL : Toks L) : ∀ n, StAll L n
 | 0 => ⟨fun _ _ => trivial, fun _ _ _ _ => trivial, fun _ _ => trivial⟩
 | n + 1 => by
  obtain ⟨ihB, ihS, ihT⟩ := stAll hL n
  refine ⟨fun s l => ?_, fun r s l hr => ?_, stmtStep hL n ihB⟩
  ·simp only [sBlock]
   have c1 := wantR l hL [123]
   revert c1
   cases sWant L [123] s with
   | out => exact fun _ => trivial
   | bad q t s1 => exact fun c1 => bkP1 c1
   | ok t1 s1 =>
    intro c1
    have c2 := ihS [] s1 c1.1 (Nat.zero_le _)
    simp only [Res.bind]
    revert c2
    cases sStmts L n [] s1 with
    | out => exact fun _ => trivial
    | bad q t s2 => exact fun ⟨v, c2⟩ => bkP2 c1.2 v c2
    | ok r s2 =>
     intro c2
     have c3 := wantR c2.1 hL [125]
     simp only
     revert c3
     cases sWant L [125] s2 with
     | out => exact fun _ => trivial
     | bad q t s3 => exact fun c3 => bkP3 c1.2 r c2.2 c3
     | ok t2 s3 => exact fun c3 => ⟨c3.1, bkOk c1.2 r c2.2 c3.2⟩
  ·simp only [sStmts]
   have hlen : r.length < 1000000 := by have := hL.len; omega
   cases h : isT L s [125] with
   | true => exact ⟨l, fun rest X hP hN => lw_stop (blStop l r h rest X hP hN) (by simp)⟩
   | false =>
    have c1 := ihT s l
    have g1 := (stmt_gr L n).2.2 s
    simp only [cond_false]
    revert c1 g1
    cases sStmt L n s with
    | out => exact fun _ _ => trivial
    | bad q t s1 => exact fun c1 _ => ⟨_, fun rest X hP hN => lw_stop (blBad l r h c1 rest X hP hN) (by simp)⟩
    | ok x s1 =>
     intro c1 g1
     have g1 := g1 x s1 rfl
     have c2 := ihS (r ++ [x]) s1 c1.1 (by simp only [List.length_append, List.length_cons, List.length_nil]; omega)
     have hgo := blGo l r h hlen x c1.2
     simp only [Res.bind]
     revert c2
     cases sStmts L n (r ++ [x]) s1 with
     | out => exact fun _ => trivial
     | bad q t s2 => exact fun ⟨v, c2⟩ => ⟨v, fun rest X hP hN => lw_step (hgo rest X hP hN) (c2 rest X hP hN)⟩
     | ok r2 s2 => exact fun c2 => ⟨c2.1, fun rest X hP hN => lw_step (hgo rest X hP hN) (c2.2 rest X hP hN)⟩
end Go.Avm
namespace Go.Avm
open Go.Proofs
abbrev pmL (r : List Pm) : List D := r.map pmD
abbrev fuE (nm : List UInt8) (p : Int) (v : Nat) (l : List D) : List (Nat × Ent) := [(299842, ⟨1, some (.arr 1 [.d (.str nm), .vec 400000 v 3 l, u8 0, .nils, dI p])⟩), (299672, ⟨1, some (.arr 1 [rP])⟩), (400000, ⟨v, none⟩)]
abbrev fuB (v : Nat) : List (Nat × Ent) := [(299842, ⟨1, none⟩), (299672, ⟨1, none⟩), (400000, ⟨v, none⟩)]
abbrev pclo : AV := .fn 37 [pC 299672, pC 299842]
section
variable {L : List T} (hL : Toks L)
include hL
theorem paramR (nm : List UInt8) (p : Int) (r : List Pm) (hr : r.length < 1000000) (s : RS) (l : s.i < L.length) : RCp L 37 [pC 299672, pC 299842] (fuE nm p r.length (pmL r)) (fun x => fuE nm p (r.length + 1) (pmL r ++ [pmD x])) (fuB r.length) (fun _ => []) s (sParam L s) := by
 unfold sParam
 refine RCp.bind (takeR l hL 1 (by decide)) ?_ ?_
 ·exact fun _ _ _ c => qX { pans := tabP Pg [(37, 0, 299808, ⟨1, some (pOf c), []⟩)] } 299808
 ·intro t s1 l1 c1
  refine RCp.bind (wantR l1 hL [58]) ?_ ?_
  ·exact fun _ _ _ c => qX { calls := tC [(37, 4, 299828, cOf c1)], pans := tabP Pg [(37, 1, 299868, ⟨1, some (pOf c), []⟩)] } 299808
  ·intro _ s2 l2 c2
   refine RCp.bindp (kind3 hL _ l2) ?_ ?_
   ·exact fun _ _ _ c => qX { calls := tC [(37, 4, 299828, cOf c1), (37, 6, 299888, cOf c2)], pans := tabP Pg [(37, 2, 299888, ⟨6, some (pOf c), [7, 8]⟩)] } 299808
   ·intro ty s3 l3 c3
    exact ⟨l3, qN { hint := qT 37 [(18, .app (pmL r) 1 (by simp only [List.length_map]; omega))], calls := tC [(37, 4, 299828, cOf c1), (37, 6, 299888, cOf c2), (37, 13, 300008, cOf c3)] } 299808⟩
end
def ppL : List (Nat × AV) := [(0, rP), (1, pclo)]
def PpAt (L : List T) (nm : List UInt8) (p : Int) (s : RS) (r : List Pm) : Res (List Pm) → Prop
 | .ok r2 s' => s'.i < L.length ∧ RL 17 (lO 36 3) ppL (rd L s ++ fuE nm p r.length (pmL r)) (.exit 0) [(0, rP)] (rd L s' ++ fuE nm p r2.length (pmL r2))
 | .bad q t s' => ∃ v, RL 17 (lO 36 3) ppL (rd L s ++ fuE nm p r.length (pmL r)) (.panic (flt q t)) [] (rd L s' ++ fuB v)
 | .out => True
noncomputable def ppLH {L : List T} {nm : List UInt8} {p : Int} {s : RS} {r : List Pm} {hp' : List (Nat × Ent)} {x : AExit} {l' : List (Nat × AV)} (h : RL 17 (lO 36 3) ppL (rd L s ++ fuE nm p r.length (pmL r)) x l' (hp')) : LHint Pg :=
 ⟨17, loopOf Pg 36 3, ppL, fun _ => rd L s ++ fuE nm p r.length (pmL r), x, l', fun _ => hp', fun rest X hP hN => (h rest X hP hN).aw⟩
section
variable {L : List T} {s : RS} (l : s.i < L.length) (nm : List UInt8) (p : Int) (r : List Pm)
include l
theorem ppStop (h : isT L s [44] = false) :
    RE 17 (lO 36 3) ppL (rd L s ++ fuE nm p r.length (pmL r)) (.exit 0) [(0, rP)] (rd L s ++ fuE nm p r.length (pmL r)) :=
 qE { calls := tC [(36, 12, 3017, cOf (mayF l [44] h))] } 36 3000
theorem ppBad2 (s1 : RS) (c1 : HC 39 [rP, .d (.str [44])] (rd L s) [.bool true] (rd L s1)) (q t : Int) (s2 : RS) (c : HX 37 [pC 299672, pC 299842] (rd L s1 ++ fuE nm p r.length (pmL r)) (flt q t) (rd L s2 ++ fuB r.length)) :
    RE 17 (lO 36 3) ppL (rd L s ++ fuE nm p r.length (pmL r)) (.panic (flt q t)) [] (rd L s2 ++ fuB r.length) :=
 qE { calls := tC [(36, 12, 3017, cOf c1)], pans := tabP Pg [(36, 4, 3017, ⟨1, some (pOf c), []⟩)] } 36 3000
theorem ppGo (s1 : RS) (c1 : HC 39 [rP, .d (.str [44])] (rd L s) [.bool true] (rd L s1)) (x : Pm) (s2 : RS) (c : HC 37 [pC 299672, pC 299842] (rd L s1 ++ fuE nm p r.length (pmL r)) [] (rd L s2 ++ fuE nm p (r.length + 1) (pmL r ++ [pmD x]))) :
    RE 17 (lO 36 3) ppL (rd L s ++ fuE nm p r.length (pmL r)) .normal ppL (rd L s2 ++ fuE nm p (r.length + 1) (pmL r ++ [pmD x])) :=
 qE { calls := tC [(36, 12, 3017, cOf c1), (36, 14, 3034, cOf c)] } 36 3000
end
theorem pm_gr (L : List T) (s : RS) : Gr s (sParam L s) := (take_gr L _ s).bind fun _ s1 _ => ((want_gr L _ s1).bind fun _ s2 _ => ((kind_gr L _ s2).bind fun _ _ _ => Gq.ok _ _).le).le
section
variable {L : List T} (hL : Toks L) (nm : List UInt8) (p : Int)
include hL
theorem ppAll : ∀ (n : Nat) (r : List Pm) (s : RS), s.i < L.length → r.length ≤ s.i → PpAt L nm p s r (sPMore L n r s)
 | 0, _, _, _, _ => trivial
 | n + 1, r, s, l, hr => by
  have hlen : r.length < 1000000 := by have := hL.len; omega
  simp only [sPMore, sMay]
  cases h : isT L s [44] with
  | false => exact ⟨l, fun rest X hP hN => lw_stop (ppStop l nm p r h rest X hP hN) (by simp)⟩
  | true =>
   have hw : sWant L [44] s = .ok (cur L s) s.nx := by simp only [sWant, h]; rfl
   have hn := isT_nx hL l h
   have c1 := mayT l [44] h (cur L s) s.nx (want0 l hL [44] h rfl rfl rfl rfl rfl rfl)
   simp only [cond_true, hw, Res.bind]
   have c := paramR hL nm p r hlen s.nx hn
   have g := pm_gr L s.nx
   revert c g
   cases sParam L s.nx with
   | out => exact fun _ _ => trivial
   | bad q t s2 => exact fun c _ => ⟨_, fun rest X hP hN => lw_stop (ppBad2 l nm p r s.nx c1 q t s2 c rest X hP hN) (by simp)⟩
   | ok x s2 =>
    intro c g
    have g := g x s2 rfl
    have e1 : (r ++ [x]).length = r.length + 1 := by simp
    have c2 := ppAll n (r ++ [x]) s2 c.1 (by simp only [RS.nx] at g; omega)
    have hgo := ppGo l nm p r s.nx c1 x s2 c.2
    have e2 : pmL (r ++ [x]) = pmL r ++ [pmD x] := by simp [pmL]
    simp only
    unfold PpAt at c2 ⊢
    simp only [e1, e2] at c2
    revert c2
    cases sPMore L n (r ++ [x]) s2 with
    | out => exact fun _ => trivial
    | bad q t s3 => exact fun ⟨v, c2⟩ => ⟨v, fun rest X hP hN => lw_step (hgo rest X hP hN) (c2 rest X hP hN)⟩
    | ok a s3 => exact fun c2 => ⟨c2.1, fun rest X hP hN => lw_step (hgo rest X hP hN) (c2.2 rest X hP hN)⟩
end
section
variable {L : List T} (nm : List UInt8) (p : Int) {s s1 s2 s3 s4 : RS} {t1 t2 : T} {q t : Int}
theorem plP1 (c : HX 34 [rP, .d (.str [40])] (rd L s) (flt q t) (rd L s1)) :
    HX 36 [rP, pclo] (rd L s ++ fuE nm p 0 []) (flt q t) (rd L s1 ++ fuB 0) :=
 qX { pans := tabP Pg [(36, 0, 1000, ⟨1, some (pOf c), []⟩)] } 1000
section
variable (l1 : s1.i < L.length) (c1 : HC 34 [rP, .d (.str [40])] (rd L s) [tD t1] (rd L s1))
include l1 c1
theorem plE0 (h : isT L s1 [41] = true) (c2 : HC 34 [rP, .d (.str [41])] (rd L s1) [tD t2] (rd L s2)) :
    HC 36 [rP, pclo] (rd L s ++ fuE nm p 0 []) [] (rd L s2 ++ fuE nm p 0 []) :=
 qN { calls := tC [(36, 5, 1017, cOf c1), (36, 7, 1034, cOf (isRT l1 [41] h)), (36, 16, 1068, cOf c2)] } 1000
theorem plE1 (h : isT L s1 [41] = true) (c2 : HX 34 [rP, .d (.str [41])] (rd L s1) (flt q t) (rd L s2)) :
    HX 36 [rP, pclo] (rd L s ++ fuE nm p 0 []) (flt q t) (rd L s2 ++ fuB 0) :=
 qX { calls := tC [(36, 5, 1017, cOf c1), (36, 7, 1034, cOf (isRT l1 [41] h))], pans := tabP Pg [(36, 5, 1051, ⟨1, some (pOf c2), []⟩)] } 1000
theorem plB1 (h : isT L s1 [41] = false) (c2 : HX 37 [pC 299672, pC 299842] (rd L s1 ++ fuE nm p 0 []) (flt q t) (rd L s2 ++ fuB 0)) :
    HX 36 [rP, pclo] (rd L s ++ fuE nm p 0 []) (flt q t) (rd L s2 ++ fuB 0) :=
 qX { calls := tC [(36, 5, 1017, cOf c1), (36, 7, 1034, cOf (isRT l1 [41] h))], pans := tabP Pg [(36, 2, 1051, ⟨1, some (pOf c2), []⟩)] } 1000
theorem plB2 (h0 : isT L s1 [41] = false) (x : Pm) (c2 : HC 37 [pC 299672, pC 299842] (rd L s1 ++ fuE nm p 0 []) [] (rd L s2 ++ fuE nm p 1 [pmD x])) (v : Nat) (h : RL 17 (lO 36 3) ppL (rd L s2 ++ fuE nm p [x].length (pmL [x])) (.panic (flt q t)) [] (rd L s3 ++ fuB v)) :
    HX 36 [rP, pclo] (rd L s ++ fuE nm p 0 []) (flt q t) (rd L s3 ++ fuB v) :=
 qX { loops := fun f q => if f = 36 then (if q = 3 then some (ppLH (r := [x]) h) else none) else none, calls := tC [(36, 5, 1017, cOf c1), (36, 7, 1034, cOf (isRT l1 [41] h0)), (36, 10, 1068, cOf c2)] } 1000
theorem plB3 (h0 : isT L s1 [41] = false) (x : Pm) (c2 : HC 37 [pC 299672, pC 299842] (rd L s1 ++ fuE nm p 0 []) [] (rd L s2 ++ fuE nm p 1 [pmD x])) (r : List Pm) (h : RL 17 (lO 36 3) ppL (rd L s2 ++ fuE nm p [x].length (pmL [x])) (.exit 0) [(0, rP)] (rd L s3 ++ fuE nm p r.length (pmL r))) (c3 : HX 34 [rP, .d (.str [41])] (rd L s3) (flt q t) (rd L s4)) :
    HX 36 [rP, pclo] (rd L s ++ fuE nm p 0 []) (flt q t) (rd L s4 ++ fuB r.length) :=
 qX { loops := fun f q => if f = 36 then (if q = 3 then some (ppLH (r := [x]) h) else none) else none, calls := tC [(36, 5, 1017, cOf c1), (36, 7, 1034, cOf (isRT l1 [41] h0)), (36, 10, 1068, cOf c2)], pans := tabP Pg [(36, 5, 1068, ⟨1, some (pOf c3), []⟩)] } 1000
theorem plOk (h0 : isT L s1 [41] = false) (x : Pm) (c2 : HC 37 [pC 299672, pC 299842] (rd L s1 ++ fuE nm p 0 []) [] (rd L s2 ++ fuE nm p 1 [pmD x])) (r : List Pm) (h : RL 17 (lO 36 3) ppL (rd L s2 ++ fuE nm p [x].length (pmL [x])) (.exit 0) [(0, rP)] (rd L s3 ++ fuE nm p r.length (pmL r))) (c3 : HC 34 [rP, .d (.str [41])] (rd L s3) [tD t2] (rd L s4)) :
    HC 36 [rP, pclo] (rd L s ++ fuE nm p 0 []) [] (rd L s4 ++ fuE nm p r.length (pmL r)) :=
 qN { loops := fun f q => if f = 36 then (if q = 3 then some (ppLH (r := [x]) h) else none) else none, calls := tC [(36, 5, 1017, cOf c1), (36, 7, 1034, cOf (isRT l1 [41] h0)), (36, 10, 1068, cOf c2), (36, 16, 1085, cOf c3)] } 1000
end
end
def PaC (L : List T) (nm : List UInt8) (p : Int) (s : RS) : Res (List Pm) → Prop
 | .ok r s' => s'.i < L.length ∧ HC 36 [rP, pclo] (rd L s ++ fuE nm p 0 []) [] (rd L s' ++ fuE nm p r.length (pmL r))
 | .bad q t s' => ∃ v, HX 36 [rP, pclo] (rd L s ++ fuE nm p 0 []) (flt q t) (rd L s' ++ fuB v)
 | .out => True
theorem paramsR {L : List T} (hL : Toks L) (n : Nat) (nm : List UInt8) (p : Int) (s : RS) (l : s.i < L.length) : PaC L nm p s (sParams L n s) := by
 unfold sParams
 have c1 := wantR l hL [40]
 have g1 := want_gr L [40] s
 revert c1 g1
 cases sWant L [40] s with
 | out => exact fun _ _ => trivial
 | bad q t s1 => exact fun c1 _ => ⟨0, plP1 nm p c1⟩
 | ok t1 s1 =>
  intro c1 g1
  have g1 := g1 t1 s1 rfl
  have l1 := c1.1
  simp only [Res.bind]
  cases h41 : isT L s1 [41] with
  | true =>
   have c2 := wantR l1 hL [41]
   simp only [cond_true]
   revert c2
   cases sWant L [41] s1 with
   | out => exact fun _ => trivial
   | bad q t s2 => exact fun c2 => ⟨0, plE1 nm p l1 c1.2 h41 c2⟩
   | ok t2 s2 => exact fun c2 => ⟨c2.1, plE0 nm p l1 c1.2 h41 c2.2⟩
  | false =>
   have c2 := paramR hL nm p [] (by decide) s1 l1
   have g2 := pm_gr L s1
   simp only [cond_false]
   revert c2 g2
   cases sParam L s1 with
   | out => exact fun _ _ => trivial
   | bad q t s2 => exact fun c2 _ => ⟨0, plB1 nm p l1 c1.2 h41 c2⟩
   | ok x s2 =>
    intro c2 g2
    have g2 := g2 x s2 rfl
    have c3 := ppAll hL nm p n [x] s2 c2.1 (by simp only [List.length_cons, List.length_nil]; omega)
    simp only
    revert c3
    cases sPMore L n [x] s2 with
    | out => exact fun _ => trivial
    | bad q t s3 => exact fun ⟨v, c3⟩ => ⟨v, plB2 nm p l1 c1.2 h41 x c2.2 v c3⟩
    | ok r s3 =>
     rintro ⟨l3, c3⟩
     have c4 := wantR l3 hL [41]
     simp only
     revert c4
     cases sWant L [41] s3 with
     | out => exact fun _ => trivial
     | bad q t s4 => exact fun c4 => ⟨_, plB3 nm p l1 c1.2 h41 x c2.2 r c3 c4⟩
     | ok t4 s4 => exact fun c4 => ⟨c4.1, plOk nm p l1 c1.2 h41 x c2.2 r c3 c4.2⟩
end Go.Avm
namespace Go.Avm
open Go.Proofs
theorem RC.bindv {L : List T} {F : Nat} {args : List AV} {s0 : RS} {α : Type} {g : α → List D} {nm : List UInt8} {p : Int} {s : RS} {r : Res (List Pm)} {k : List Pm → RS → Res α} (h : PaC L nm p s r)
    (hb : ∀ q e s' v, (HX 36 [rP, pclo] (rd L s ++ fuE nm p 0 []) (flt q e) (rd L s' ++ fuB v)) → HX F args (rd L s0) (flt q e) (rd L s'))
    (hk : ∀ a s', s'.i < L.length → (HC 36 [rP, pclo] (rd L s ++ fuE nm p 0 []) [] (rd L s' ++ fuE nm p a.length (pmL a))) → RC L F args g s0 (k a s')) : RC L F args g s0 (r.bind k) := by
 cases r with
 | ok a s' => exact hk a s' h.1 h.2
 | bad q e s' => obtain ⟨v, h⟩ := h; exact hb q e s' v h
 | out => trivial
abbrev fR : Fn → List D := fun f => [fnD f]
section
variable {L : List T} (hL : Toks L)
include hL
theorem fnR (n : Nat) (s : RS) (l : s.i < L.length) : RC L 21 [rP] fR s (sFn L n s) := by
 unfold sFn
 refine RC.bind (wantR l hL [102, 110]) ?_ ?_
 ·exact fun _ _ _ c => qX { nils := fun f r => if f = 21 then (if r = 2 then some ⟨299842, 1, 400000, 3, false, false⟩ else none) else none, pans := tabP Pg [(21, 1, 299719, ⟨1, some (pOf c), [3, 7]⟩)] } 299671
 ·intro t s1 l1 c1
  refine RC.bind (takeR l1 hL 1 (by decide)) ?_ ?_
  ·exact fun _ _ _ c => qX { nils := fun f r => if f = 21 then (if r = 2 then some ⟨299842, 1, 400000, 3, false, false⟩ else none) else none, calls := tC [(21, 5, 299743, cOf c1)], pans := tabP Pg [(21, 1, 299719, ⟨4, some (pOf c), [7]⟩)] } 299671
  ·intro u s2 l2 c2
   refine RC.bindv (paramsR hL n u.t t.p _ l2) ?_ ?_
   ·exact fun _ _ _ _ c => qX { nils := fun f r => if f = 21 then (if r = 2 then some ⟨299842, 1, 400000, 3, false, false⟩ else none) else none, calls := tC [(21, 5, 299743, cOf c1), (21, 8, 299791, cOf c2)], pans := tabP Pg [(21, 2, 299887, ⟨2, some (pOf c), []⟩)] } 299671
   ·intro ps s3 l3 c3
    refine RC.may l3 hL [58] ?_ ?_ ?_
    ·exact fun _ _ _ c => qX { nils := fun f r => if f = 21 then (if r = 2 then some ⟨299842, 1, 400000, 3, false, false⟩ else none) else none, calls := tC [(21, 5, 299743, cOf c1), (21, 8, 299791, cOf c2), (21, 13, 299935, cOf c3)], pans := tabP Pg [(21, 3, 299935, ⟨1, some (pOf c), []⟩)] } 299671
    ·intro s4 l4 c4
     refine RC.bindp (kind2 hL _ l4) ?_ ?_
     ·exact fun _ _ _ c => qX { nils := fun f r => if f = 21 then (if r = 2 then some ⟨299842, 1, 400000, 3, false, false⟩ else none) else none, calls := tC [(21, 5, 299743, cOf c1), (21, 8, 299791, cOf c2), (21, 13, 299935, cOf c3), (21, 15, 299959, cOf c4)], pans := tabP Pg [(21, 4, 299959, ⟨2, some (pOf c), []⟩)] } 299671
     ·intro k s5 l5 c5
      refine RC.bind ((stAll hL n).block _ l5) ?_ ?_
      ·exact fun _ _ _ c => qX { nils := fun f r => if f = 21 then (if r = 2 then some ⟨299842, 1, 400000, 3, false, false⟩ else none) else none, calls := tC [(21, 5, 299743, cOf c1), (21, 8, 299791, cOf c2), (21, 13, 299935, cOf c3), (21, 15, 299959, cOf c4), (21, 18, 300007, cOf c5)], pans := tabP Pg [(21, 5, 300055, ⟨1, some (pOf c), []⟩)] } 299671
      ·intro b s6 l6 c6
       exact ⟨l6, qN { nils := fun f r => if f = 21 then (if r = 2 then some ⟨299842, 1, 400000, 3, false, false⟩ else none) else none, calls := tC [(21, 5, 299743, cOf c1), (21, 8, 299791, cOf c2), (21, 13, 299935, cOf c3), (21, 15, 299959, cOf c4), (21, 18, 300007, cOf c5), (21, 21, 300079, cOf c6)] } 299671⟩
    ·intro h4
     refine RC.bind ((stAll hL n).block _ l3) ?_ ?_
     ·exact fun _ _ _ c => qX { nils := fun f r => if f = 21 then (if r = 2 then some ⟨299842, 1, 400000, 3, false, false⟩ else none) else none, calls := tC [(21, 5, 299743, cOf c1), (21, 8, 299791, cOf c2), (21, 13, 299935, cOf c3), (21, 15, 299959, cOf (mayF l3 [58] h4))], pans := tabP Pg [(21, 5, 299959, ⟨1, some (pOf c), []⟩)] } 299671
     ·intro b s5 l5 c5
      exact ⟨l5, qN { nils := fun f r => if f = 21 then (if r = 2 then some ⟨299842, 1, 400000, 3, false, false⟩ else none) else none, calls := tC [(21, 5, 299743, cOf c1), (21, 8, 299791, cOf c2), (21, 13, 299935, cOf c3), (21, 15, 299959, cOf (mayF l3 [58] h4)), (21, 21, 299983, cOf c5)] } 299671⟩
end
end Go.Avm
namespace Go.Avm
open Go.Proofs
abbrev pgE (r : List Fn) : List (Nat × Ent) := [(499382, ⟨1, some (.arr 1 [.vec 600000 r.length 5 (r.map fnD)])⟩), (600000, ⟨r.length, none⟩), (499423, ⟨1, some (.arr 1 [dI 0])⟩), (499464, ⟨1, some (.arr 1 [dI 0])⟩)]
abbrev pgS : List (Nat × AV) := [(2, pC 499382), (3, pC 499423), (4, pC 499464)]
abbrev pgL : List (Nat × AV) := [(2, pC 499382), (3, pC 499423), (4, pC 499464), (6, rP)]
def PgAt (L : List T) (s : RS) (r : List Fn) : Res (List Fn) → Prop
 | .ok r2 s' => RL 40 (lO 9 7) pgL (rd L s ++ pgE r) (.exit 0) pgS (rd L s' ++ pgE r2)
 | .bad q t s' => ∃ r2 : List Fn, RL 40 (lO 9 7) pgL (rd L s ++ pgE r) (.panic (flt q t)) pgS (rd L s' ++ pgE r2)
 | .out => True
section
variable {L : List T} {s : RS} (l : s.i < L.length) (r : List Fn)
include l
theorem pgStop (h : ((cur L s).k == 0) = true) : RE 40 (lO 9 7) pgL (rd L s ++ pgE r) (.exit 0) pgS (rd L s ++ pgE r) :=
 qE { hint := qT 9 [(31, hB Pg ((cur L s).k != 0) false (by simpa using h))], calls := tC [(9, 29, 3040, cOf (nowR l))] } 9 3000
theorem pgBad (h : ((cur L s).k == 0) = false) {q t : Int} {s2 : RS} (c : HX 21 [rP] (rd L s) (flt q t) (rd L s2)) : RE 40 (lO 9 7) pgL (rd L s ++ pgE r) (.panic (flt q t)) pgS (rd L s2 ++ pgE r) :=
 qE { hint := qT 9 [(31, hB Pg ((cur L s).k != 0) true (by simpa using h))], calls := tC [(9, 29, 3040, cOf (nowR l))], pans := tabP Pg [(9, 8, 3120, ⟨3, some (pOf c), []⟩)] } 9 3000
theorem pgGo0 (h : ((cur L s).k == 0) = false) (hr : r.length < 1000000) (nm : List UInt8) (ps : List Pm) (k : Int) (bd : List St') (p : Int) {s2 : RS} (c : HC 21 [rP] (rd L s) [fnD ⟨nm, ps, k, bd, p⟩] (rd L s2)) : RE 40 (lO 9 7) pgL (rd L s ++ pgE r) .normal pgL (rd L s2 ++ [(499382, ⟨1, some (.arr 1 [.vec 600000 (r.length + 1) 5 (r.map fnD ++ [fnD ⟨nm, ps, k, bd, p⟩])])⟩), (600000, ⟨r.length + 1, none⟩), (499423, ⟨1, some (.arr 1 [dI 0])⟩), (499464, ⟨1, some (.arr 1 [dI 0])⟩)]) :=
 qE { hint := qT 9 [(31, hB Pg ((cur L s).k != 0) true (by simpa using h)), (37, .app (r.map fnD) 1 (by simp only [List.length_map]; omega))], calls := tC [(9, 29, 3040, cOf (nowR l)), (9, 35, 3240, cOf c)] } 9 3000
end
theorem pgGo {L : List T} {s : RS} (l : s.i < L.length) (r : List Fn) (h : ((cur L s).k == 0) = false) (hr : r.length < 1000000) (x : Fn) {s2 : RS} (c : HC 21 [rP] (rd L s) [fnD x] (rd L s2)) : RE 40 (lO 9 7) pgL (rd L s ++ pgE r) .normal pgL (rd L s2 ++ pgE (r ++ [x])) := by
 obtain ⟨nm, ps, k, bd, p⟩ := x
 have e1 : (r ++ [Fn.mk nm ps k bd p]).length = r.length + 1 := by simp
 have e2 : (r ++ [Fn.mk nm ps k bd p]).map fnD = r.map fnD ++ [fnD ⟨nm, ps, k, bd, p⟩] := by simp
 have := pgGo0 l r h hr nm ps k bd p c
 simp only [pgE, e1, e2]
 exact this
theorem fn_gr (L : List T) (n : Nat) (s : RS) : Gr s (sFn L n s) := by
 unfold sFn
 have pp : ∀ (n : Nat) (r : List Pm) (s : RS), Gq s (sPMore L n r s) := fun n => by
  induction n with
  | zero => exact fun _ s => Gq.out s
  | succ n ih =>
   intro r s
   simp only [sPMore]
   intro a s' e
   unfold sMay at e
   cases h : isT L s [44] <;> rw [h] at e
   ·cases e; exact Nat.le_refl _
   ·simp only [cond_true] at e
    cases hw : sWant L [44] s <;> rw [hw] at e
    ·rename_i t s1
     exact Nat.le_trans (Nat.le_of_lt (want_gr L _ s t s1 hw)) (((pm_gr L s1).bind fun _ s2 _ => ih _ s2).le a s' e)
    ·cases e
    ·cases e
 refine (want_gr L _ s).bind fun t s1 _ => ((take_gr L _ s1).bind fun u s2 _ => Gq.bindq (?_ : Gq s2 (sParams L n s2)) fun ps s3 _ => (may_gq L _ s3).bindq fun b s4 _ => Gq.ite ((kind_gr L _ s4).bind fun _ s5 _ => (((stmt_gr L n).1 s5).bind fun _ _ _ => Gq.ok _ _).le).le (((stmt_gr L n).1 s4).bind fun _ _ _ => Gq.ok _ _).le).le
 unfold sParams
 exact ((want_gr L _ s2).bind fun _ s3 _ => Gq.ite ((want_gr L _ s3).bind fun _ _ _ => Gq.ok _ _).le ((pm_gr L s3).bind fun _ s4 _ => (pp n _ s4).bindq fun _ s5 _ => ((want_gr L _ s5).bind fun _ _ _ => Gq.ok _ _).le).le).le
section
variable {L : List T} (hL : Toks L)
include hL
theorem pgAll (N : Nat) : ∀ (n : Nat) (r : List Fn) (s : RS), s.i < L.length → r.length ≤ s.i → PgAt L s r (sFns L N n r s)
 | 0, _, _, _, _ => trivial
 | n + 1, r, s, l, hr => by
  have hlen : r.length < 1000000 := by have := hL.len; omega
  simp only [sFns]
  cases h : ((cur L s).k == 0) with
  | true => exact fun rest X hP hN => lw_stop (pgStop l r h rest X hP hN) (by simp)
  | false =>
   have c := fnR hL N s l
   have g := fn_gr L N s
   simp only [cond_false]
   revert c g
   cases sFn L N s with
   | out => exact fun _ _ => trivial
   | bad q t s2 => exact fun c _ => ⟨r, fun rest X hP hN => lw_stop (pgBad l r h c rest X hP hN) (by simp)⟩
   | ok x s2 =>
    intro c g
    have g := g x s2 rfl
    have c2 := pgAll N n (r ++ [x]) s2 c.1 (by simp only [List.length_append, List.length_cons, List.length_nil]; omega)
    have hgo := pgGo l r h hlen x c.2
    simp only [Res.bind]
    revert c2
    cases sFns L N n (r ++ [x]) s2 with
    | out => exact fun _ => trivial
    | bad q t s3 => exact fun ⟨v, c2⟩ => ⟨v, fun rest X hP hN => lw_step (hgo rest X hP hN) (c2 rest X hP hN)⟩
    | ok a s3 => exact fun c2 rest X hP hN => lw_step (hgo rest X hP hN) (c2 rest X hP hN)
end
noncomputable def pgLH {L : List T} {s : RS} {r : List Fn} {hp' : List (Nat × Ent)} {x : AExit} {l' : List (Nat × AV)} (h : RL 40 (lO 9 7) pgL (rd L s ++ pgE r) x l' hp') : LHint Pg :=
 ⟨40, loopOf Pg 9 7, pgL, fun _ => rd L s ++ pgE r, x, l', fun _ => hp', fun rest X hP hN => (h rest X hP hN).aw⟩
section
variable {x : List UInt8} {L : List T}
theorem parseE {a e : Int} (he : (e != 0) = true) (hs : Pure Pg 19 [.str x] [.ro [], .int .i64 a, .int .i64 e]) : Pure Pg 9 [.str x] [.agg [.ro []], .int .i64 a, .int .i64 e] :=
 qV { hint := qT 9 [(9, .call 19 _ _ hs), (14, qB he)] } 499380
theorem parseB {q t : Int} {s2 : RS} (hs : Pure Pg 19 [.str x] [toksD L, .int .i64 0, .int .i64 0]) (c : HX 21 [rP] (rd L ⟨0, 0, 0⟩) (flt q t) (rd L s2)) : Pure Pg 9 [.str x] [.agg [.ro []], .int .i64 q, .int .i64 t] :=
 qV { hint := qT 9 [(9, .call 19 _ _ hs)], pans := tabP Pg [(9, 6, 500060, ⟨3, some (pOf c), []⟩)] } 499380
theorem parseL {nm : List UInt8} {ps : List Pm} {k : Int} {bd : List St'} {p : Int} {q t : Int} {s1 s2 : RS} {r2 : List Fn} (hs : Pure Pg 19 [.str x] [toksD L, .int .i64 0, .int .i64 0]) (c : HC 21 [rP] (rd L ⟨0, 0, 0⟩) [fnD ⟨nm, ps, k, bd, p⟩] (rd L s1))
    (h : RL 40 (lO 9 7) pgL (rd L s1 ++ pgE [⟨nm, ps, k, bd, p⟩]) (.panic (flt q t)) pgS (rd L s2 ++ pgE r2)) : Pure Pg 9 [.str x] [.agg [.ro []], .int .i64 q, .int .i64 t] :=
 qV { nils := fun f r => if f = 9 then (if r = 6 then some ⟨499382, 0, 600000, 5, false, false⟩ else none) else none, loops := fun f q => if f = 9 then (if q = 7 then some (pgLH h) else none) else none, hint := qT 9 [(9, .call 19 _ _ hs)], calls := tC [(9, 24, 500180, cOf c)] } 499380
theorem parseO {nm : List UInt8} {ps : List Pm} {k : Int} {bd : List St'} {p : Int} {s1 s2 : RS} {r2 : List Fn} (hs : Pure Pg 19 [.str x] [toksD L, .int .i64 0, .int .i64 0]) (c : HC 21 [rP] (rd L ⟨0, 0, 0⟩) [fnD ⟨nm, ps, k, bd, p⟩] (rd L s1))
    (h : RL 40 (lO 9 7) pgL (rd L s1 ++ pgE [⟨nm, ps, k, bd, p⟩]) (.exit 0) pgS (rd L s2 ++ pgE r2)) : Pure Pg 9 [.str x] [.agg [.ro (r2.map fnD)], .int .i64 0, .int .i64 0] :=
 qV { nils := fun f r => if f = 9 then (if r = 6 then some ⟨499382, 0, 600000, 5, false, false⟩ else none) else none, loops := fun f q => if f = 9 then (if q = 7 then some (pgLH h) else none) else none, hint := qT 9 [(9, .call 19 _ _ hs)], calls := tC [(9, 24, 500180, cOf c)] } 499380
end
def prOut : Res (List Fn) → List D
 | .ok l _ => [.agg [.ro (l.map fnD)], .int .i64 0, .int .i64 0]
 | .bad p e _ => [.agg [.ro []], .int .i64 p, .int .i64 e]
 | .out => []
theorem parseC {x : List UInt8} {L : List T} (hL : Toks L) (h0 : 0 < L.length) (hs : Pure Pg 19 [.str x] [toksD L, .int .i64 0, .int .i64 0]) (n : Nat) (hn : sProg L n ≠ .out) : Pure Pg 9 [.str x] (prOut (sProg L n)) := by
 unfold sProg at hn ⊢
 have c := fnR hL n ⟨0, 0, 0⟩ h0
 have g := fn_gr L n ⟨0, 0, 0⟩
 revert c g hn
 cases sFn L n ⟨0, 0, 0⟩ with
 | out => exact fun hn _ _ => absurd rfl hn
 | bad q t s1 => exact fun _ c _ => parseB hs c
 | ok f s1 =>
  intro hn c g
  have g := g f s1 rfl
  have c2 := pgAll hL n n [f] s1 c.1 (by simp only [List.length_cons, List.length_nil]; omega)
  obtain ⟨nm, ps, k, bd, p⟩ := f
  simp only [Res.bind] at hn ⊢
  revert c2 hn
  cases sFns L n n [⟨nm, ps, k, bd, p⟩] s1 with
  | out => exact fun hn _ => absurd rfl hn
  | bad q t s2 => exact fun _ ⟨r2, c2⟩ => parseL hs c.2 c2
  | ok r2 s2 => exact fun _ c2 => parseO hs c.2 c2
end Go.Avm
namespace Go.Avm
open Go.Proofs
def G1 {α : Type} (L : List T) (s : RS) (r : Res α) : Prop := r ≠ .out ∧ ∀ a s', r = .ok a s' → s.i < s'.i ∧ s'.i < L.length
def G0 {α : Type} (L : List T) (s : RS) (r : Res α) : Prop := r ≠ .out ∧ ∀ a s', r = .ok a s' → s.i ≤ s'.i ∧ s'.i < L.length
section
variable {L : List T} {α β : Type} {s : RS}
theorem G1.le {r : Res α} (h : G1 L s r) : G0 L s r := ⟨h.1, fun a s' e => ⟨Nat.le_of_lt (h.2 a s' e).1, (h.2 a s' e).2⟩⟩
theorem G0.ok (a : α) (l : s.i < L.length) : G0 L s (.ok a s) := ⟨fun e => (by cases e), fun _ _ e => by cases e; exact ⟨Nat.le_refl _, l⟩⟩
theorem G1.bind {r : Res α} {f : α → RS → Res β} (h : G1 L s r) (hf : ∀ a s', s.i < s'.i → s'.i < L.length → G0 L s' (f a s')) : G1 L s (r.bind f) := by
 cases r with
 | ok a s' =>
  obtain ⟨h1, h2⟩ := h.2 a s' rfl
  obtain ⟨h3, h4⟩ := hf a s' h1 h2
  exact ⟨h3, fun b s2 e => ⟨Nat.lt_of_lt_of_le h1 (h4 b s2 e).1, (h4 b s2 e).2⟩⟩
 | bad p q s' => exact ⟨fun e => (by cases e), fun _ _ e => by cases e⟩
 | out => exact absurd rfl h.1
theorem G0.bind {r : Res α} {f : α → RS → Res β} (h : G0 L s r) (hf : ∀ a s', s.i ≤ s'.i → s'.i < L.length → G0 L s' (f a s')) : G0 L s (r.bind f) := by
 cases r with
 | ok a s' =>
  obtain ⟨h1, h2⟩ := h.2 a s' rfl
  obtain ⟨h3, h4⟩ := hf a s' h1 h2
  exact ⟨h3, fun b s2 e => ⟨Nat.le_trans h1 (h4 b s2 e).1, (h4 b s2 e).2⟩⟩
 | bad p q s' => exact ⟨fun e => (by cases e), fun _ _ e => by cases e⟩
 | out => exact absurd rfl h.1
theorem G1.ite {c : Bool} {X Y : Res α} (hX : G1 L s X) (hY : G1 L s Y) : G1 L s (bif c then X else Y) := by cases c <;> assumption
theorem G0.ite {c : Bool} {X Y : Res α} (hX : G0 L s X) (hY : G0 L s Y) : G0 L s (bif c then X else Y) := by cases c <;> assumption
theorem G1.fail (l : s.i < L.length) : G1 L s (fail L s : Res α) := ⟨fun e => (by cases e), fun _ _ e => by cases e⟩
end
section
variable {L : List T} (hL : Toks L)
include hL
theorem g_want (x : List UInt8) (s : RS) (l : s.i < L.length) : G1 L s (sWant L x s) := by
 have h := wantR l hL x
 have g := want_gr L x s
 revert h g
 cases hw : sWant L x s with
 | ok a s' => exact fun h g => ⟨fun e => (by cases e), fun b s2 e => by cases e; exact ⟨g _ _ rfl, h.1⟩⟩
 | bad p q s' => exact fun _ _ => ⟨fun e => (by cases e), fun _ _ e => by cases e⟩
 | out =>
  unfold sWant at hw
  cases h1 : isT L s x <;> rw [h1] at hw
  ·cases hw
  ·simp only [cond_true] at hw
   cases h2 : (x == [40] || x == [91] || x == [123]) <;> rw [h2] at hw
   ·simp only [cond_false] at hw
    cases h3 : (x == [41] || x == [93] || x == [125]) <;> rw [h3] at hw <;> cases hw
   ·simp only [cond_true] at hw
    cases h3 : decide (200 < w64 (s.op + 1)) <;> rw [h3] at hw <;> cases hw
theorem g_take (k : Int) (hk : k ≠ 0) (s : RS) (l : s.i < L.length) : G1 L s (sTake L k s) := by
 have h := takeR l hL k hk
 have g := take_gr L k s
 revert h g
 cases hw : sTake L k s with
 | ok a s' => exact fun h g => ⟨fun e => (by cases e), fun b s2 e => by cases e; exact ⟨g _ _ rfl, h.1⟩⟩
 | bad p q s' => exact fun _ _ => ⟨fun e => (by cases e), fun _ _ e => by cases e⟩
 | out =>
  unfold sTake at hw
  cases h1 : ((cur L s).k == k) <;> rw [h1] at hw <;> cases hw
section
variable {α : Type} {x : List UInt8} {s : RS} (l : s.i < L.length) {X Y : RS → Res α} (hX : ∀ s', s.i < s'.i → s'.i < L.length → G0 L s' (X s'))
include α x s l X Y hX
theorem G1.mayT (hY : G1 L s (Y s)) : G1 L s ((sMay L x s).bind fun b s1 => bif b then X s1 else Y s1) := by
 unfold sMay
 cases h : isT L s x with
 | false => exact hY
 | true =>
  simp only [cond_true]
  have := (g_want hL x s l).bind (f := fun _ s1 => X s1) fun _ s' h1 h2 => hX s' h1 h2
  revert this
  cases sWant L x s <;> exact fun h => h
theorem G0.mayT (hY : G0 L s (Y s)) : G0 L s ((sMay L x s).bind fun b s1 => bif b then X s1 else Y s1) := by
 unfold sMay
 cases h : isT L s x with
 | false => exact hY
 | true =>
  simp only [cond_true]
  have := ((g_want hL x s l).bind (f := fun _ s1 => X s1) fun _ s' h1 h2 => hX s' h1 h2).le
  revert this
  cases sWant L x s <;> exact fun h => h
end
theorem g_kind : ∀ (k : List Int) (s : RS), s.i < L.length → G1 L s (sKind L k s)
 | [], s, l => G1.fail l
 | k :: r, s, l => by
  simp only [sKind]
  exact G1.mayT hL l (fun s' h1 h2 => G0.ok _ h2) (g_kind r s l)
structure GA (L : List T) (n : Nat) : Prop where
 one : ∀ s : RS, s.i < L.length → 4 * (L.length - s.i) + 1 ≤ n → G1 L s (sOne L n s)
 place : ∀ s : RS, s.i < L.length → 4 * (L.length - s.i) + 1 ≤ n → G1 L s (sPlace L n s)
 call : ∀ nm p (s : RS), s.i < L.length → 4 * (L.length - s.i) + 2 ≤ n → G1 L s (sCall L n nm p s)
 args : ∀ s : RS, s.i < L.length → 4 * (L.length - s.i) + 1 ≤ n → G1 L s (sArgs L n s)
 more : ∀ l (s : RS), s.i < L.length → 4 * (L.length - s.i) + 1 ≤ n → G0 L s (sMore L n l s)
 expr : ∀ k (s : RS), s.i < L.length → 4 * (L.length - s.i) + 2 ≤ n → G1 L s (sExpr L n k s)
 tail : ∀ k e (s : RS), s.i < L.length → 4 * (L.length - s.i) + 1 ≤ n → G0 L s (sTail L n k e s)
theorem gAll : ∀ n, GA L n
 | 0 => ⟨fun _ _ h => by omega, fun _ _ h => by omega, fun _ _ _ _ h => by omega, fun _ _ h => by omega, fun _ _ _ h => by omega, fun _ _ _ h => by omega, fun _ _ _ _ h => by omega⟩
 | n + 1 => by
  have ih := gAll n
  have W := fun x s l => g_want hL x s l
  refine ⟨fun s l h => ?_, fun s l h => ?_, fun nm p s l h => ?_, fun s l h => ?_, fun r s l h => ?_, fun k s l h => ?_, fun k e s l h => ?_⟩
  ·simp only [sOne]
   have un : ∀ (f : Ex → Ex) s', s.i < s'.i → s'.i < L.length → G0 L s' ((sOne L n s').bind fun e s2 => .ok (f e) s2) := fun f s' h1 h2 => ((ih.one s' h2 (by omega)).bind fun _ _ _ h4 => G0.ok _ h4).le
   refine G1.mayT hL l (fun s' => un _ s') (G1.mayT hL l (fun s' => un _ s') (G1.mayT hL l (fun s' => un _ s') ?_))
   cases hk : ((cur L s).k == 3) with
   | true => exact ⟨fun e => (by cases e), fun _ _ e => by cases e; exact ⟨Nat.lt_succ_self _, nx_lt hL l (by rw [eq_of_beq hk]; decide)⟩⟩
   | false =>
    simp only [cond_false]
    refine G1.mayT hL l (fun s' _ h2 => G0.ok _ h2) (G1.mayT hL l (fun s' _ h2 => G0.ok _ h2) ?_)
    refine G1.mayT hL l (fun s' _ h2 => ((W _ s' h2).bind fun _ s2 _ h4 => ((W _ s2 h4).bind fun _ _ _ h6 => G0.ok _ h6).le).le) ?_
    refine G1.mayT hL l (fun s' _ h2 => ((W _ s' h2).bind fun _ s2 _ h4 => ((g_take hL 1 (by decide) s2 h4).bind fun _ s3 _ h6 => ((W _ s3 h6).bind fun _ _ _ h8 => G0.ok _ h8).le).le).le) ?_
    refine G1.ite ((W _ s l).bind fun _ s2 h3 h4 => ((ih.expr _ s2 h4 (by omega)).bind fun _ s3 _ h6 => ((W _ s3 h6).bind fun _ _ _ h8 => G0.ok _ h8).le).le) ?_
    exact (g_take hL 1 (by decide) s l).bind fun _ s2 h3 h4 => G0.ite ((ih.place s2 h4 (by omega)).bind fun _ _ _ h6 => G0.ok _ h6).le (G0.ite ((ih.call _ _ s2 h4 (by omega)).bind fun _ _ _ h6 => G0.ok _ h6).le (G0.ok _ h4))
  ·simp only [sPlace]
   exact (W _ s l).bind fun _ s2 h3 h4 => ((ih.expr _ s2 h4 (by omega)).bind fun _ s3 _ h6 => ((W _ s3 h6).bind fun _ _ _ h8 => G0.ok _ h8).le).le
  ·simp only [sCall]
   exact (ih.args s l (by omega)).bind fun _ _ _ h4 => G0.ok _ h4
  ·simp only [sArgs]
   exact (W _ s l).bind fun _ s2 h3 h4 => G0.ite ((W _ s2 h4).bind fun _ _ _ h6 => G0.ok _ h6).le (((ih.expr _ s2 h4 (by omega)).bind fun _ s3 h5 h6 => (ih.more _ s3 h6 (by omega)).bind fun _ s4 _ h8 => ((W _ s4 h8).bind fun _ _ _ h9 => G0.ok _ h9).le).le)
  ·simp only [sMore]
   exact G0.mayT hL l (fun s' h1 h2 => ((ih.expr _ s' h2 (by omega)).bind fun _ s3 h5 h6 => ih.more _ s3 h6 (by omega)).le) (G0.ok _ l)
  ·simp only [sExpr]
   exact (ih.one s l (by omega)).bind fun _ s2 h3 h4 => ih.tail _ _ s2 h4 (by omega)
  ·simp only [sTail]
   cases hz : ((sSign L k s).1 == 0) with
   | true => exact G0.ok _ l
   | false =>
    simp only [cond_false]
    have ln : s.nx.i < L.length := sign_some l k hL signs (by simpa [sSign] using hz)
    have hx : s.nx.i = s.i + 1 := rfl
    have h2 := ((ih.expr (w64 ((sSign L k s).2 + 1)) s.nx ln (by omega)).bind (f := fun r s2 => sTail L n k (.mk 9 (sSign L k s).1 [] 0 (cur L s).p [e, r]) s2) fun _ s3 h5 h6 => ih.tail _ _ s3 h6 (by omega))
    exact ⟨h2.1, fun a s' e => ⟨by have := (h2.2 a s' e).1; omega, (h2.2 a s' e).2⟩⟩
theorem g_let (n : Nat) (id p : Int) (s : RS) (l : s.i < L.length) (h : 4 * (L.length - s.i) + 1 ≤ n) : G1 L s (sLet L n id p s) := by
 have W := fun x s l => g_want hL x s l
 unfold sLet
 refine (g_take hL 1 (by decide) s l).bind fun _ s2 h3 h4 => ((W _ s2 h4).bind fun _ s3 h5 h6 => ((g_kind hL _ s3 h6).bind fun _ s4 h7 h8 => G0.ite ?_ ?_).le).le
 ·exact ((W _ s4 h8).bind fun _ s5 _ h9 => ((g_take hL 3 (by decide) s5 h9).bind fun _ s6 _ h10 => ((W _ s6 h10).bind fun _ s7 _ h11 => ((W _ s7 h11).bind fun _ _ _ h12 => G0.ok _ h12).le).le).le).le
 ·exact (G1.mayT hL h8 (fun s' h9 h10 => (((gAll hL n).expr 1 s' h10 (by omega)).bind fun _ s6 _ h11 => ((W _ s6 h11).bind fun _ _ _ h12 => G0.ok _ h12).le).le) ((W _ s4 h8).bind fun _ _ _ h12 => G0.ok _ h12)).le
theorem g_named (n : Nat) (id p : Int) (s : RS) (l : s.i < L.length) (h : 4 * (L.length - s.i) + 1 ≤ n) : G1 L s (sNamed L n id p s) := by
 have W := fun x s l => g_want hL x s l
 have A := gAll hL n
 unfold sNamed
 refine (g_take hL 1 (by decide) s l).bind fun _ s2 h3 h4 => G0.ite ((A.call _ _ s2 h4 (by omega)).bind fun _ s3 _ h6 => ((W _ s3 h6).bind fun _ _ _ h8 => G0.ok _ h8).le).le (G0.ite ?_ ?_)
 ·exact ((A.place s2 h4 (by omega)).bind fun _ s3 h5 h6 => ((W _ s3 h6).bind fun _ s4 h7 h8 => ((A.expr 1 s4 h8 (by omega)).bind fun _ s5 _ h10 => ((W _ s5 h10).bind fun _ _ _ h12 => G0.ok _ h12).le).le).le).le
 ·exact ((W _ s2 h4).bind fun _ s3 h5 h6 => ((A.expr 1 s3 h6 (by omega)).bind fun _ s4 _ h8 => ((W _ s4 h8).bind fun _ _ _ h12 => G0.ok _ h12).le).le).le
theorem g_stmt : ∀ n, (∀ s : RS, s.i < L.length → 4 * (L.length - s.i) + 1 ≤ n → G1 L s (sBlock L n s)) ∧ (∀ r (s : RS), s.i < L.length → 4 * (L.length - s.i) + 3 ≤ n → G0 L s (sStmts L n r s)) ∧ (∀ s : RS, s.i < L.length → 4 * (L.length - s.i) + 2 ≤ n → G1 L s (sStmt L n s))
 | 0 => ⟨fun _ _ h => by omega, fun _ _ _ h => by omega, fun _ _ h => by omega⟩
 | n + 1 => by
  obtain ⟨h1, h2, h3⟩ := g_stmt n
  have W := fun x s l => g_want hL x s l
  have A := gAll hL n
  refine ⟨fun s l h => ?_, fun r s l h => ?_, fun s l h => ?_⟩
  ·simp only [sBlock]
   exact (W _ s l).bind fun _ s1 g1 g2 => (h2 _ s1 g2 (by omega)).bind fun _ s2 _ g4 => ((W _ s2 g4).bind fun _ _ _ g6 => G0.ok _ g6).le
  ·simp only [sStmts]
   exact G0.ite (G0.ok _ l) ((h3 s l (by omega)).bind fun _ s1 g1 g2 => h2 _ s1 g2 (by omega)).le
  ·simp only [sStmt]
   have l' : s.st.i < L.length := l
   have hi : s.st.i = s.i := rfl
   have key := G1.mayT hL l' (x := [108, 101, 116]) (X := fun s1 => (sLet L n s.st.n (cur L s.st).p s1).bind fun x s2 => .ok x s2) (Y := fun s1 => (sMay L [105, 102] s1).bind fun b s1 => bif b then
   (sExpr L n 1 s1).bind fun e s2 => (sBlock L n s2).bind fun l s3 => (sMay L [101, 108, 115, 101] s3).bind fun b s4 =>
    bif b then (sBlock L n s4).bind fun m s5 => .ok (.mk 4 s.st.n [] 0 0 (cur L s.st).p [e] l m) s5 else .ok (.mk 4 s.st.n [] 0 0 (cur L s.st).p [e] l []) s4
  else (sMay L [119, 104, 105, 108, 101] s1).bind fun b s1 => bif b then
   (sExpr L n 1 s1).bind fun e s2 => (sBlock L n s2).bind fun l s3 => .ok (.mk 5 s.st.n [] 0 0 (cur L s.st).p [e] l []) s3
  else (sMay L [114, 101, 116, 117, 114, 110] s1).bind fun b s1 => bif b then
   bif isT L s1 [59] then (sWant L [59] s1).bind fun _ s2 => .ok (.mk 6 s.st.n [] 0 0 (cur L s.st).p [] [] []) s2
   else (sExpr L n 1 s1).bind fun e s2 => (sWant L [59] s2).bind fun _ s3 => .ok (.mk 6 s.st.n [] 0 0 (cur L s.st).p [e] [] []) s3
  else (sMay L [112, 114, 105, 110, 116] s1).bind fun b s1 => bif b then
   (sExpr L n 1 s1).bind fun e s2 => (sWant L [59] s2).bind fun _ s3 => .ok (.mk 7 s.st.n [] 0 0 (cur L s.st).p [e] [] []) s3
  else (sNamed L n s.st.n (cur L s.st).p s1).bind fun x s2 => .ok x s2)
      (fun s' g1 g2 => ((g_let hL n _ _ s' g2 (by omega)).bind fun _ _ _ g4 => G0.ok _ g4).le) ?_
   ·exact ⟨key.1, fun a s' e => key.2 a s' e⟩
   refine G1.mayT hL l' (fun s' g1 g2 => ?_) (G1.mayT hL l' (fun s' g1 g2 => ?_) (G1.mayT hL l' (fun s' g1 g2 => ?_) (G1.mayT hL l' (fun s' g1 g2 => ?_) ?_)))
   ·exact ((A.expr 1 s' g2 (by omega)).bind fun _ s2 g3 g4 => ((h1 s2 g4 (by omega)).bind fun _ s3 g5 g6 => G0.mayT hL g6 (fun s4 g7 g8 => ((h1 s4 g8 (by omega)).bind fun _ _ _ g10 => G0.ok _ g10).le) (G0.ok _ g6)).le).le
   ·exact ((A.expr 1 s' g2 (by omega)).bind fun _ s2 g3 g4 => ((h1 s2 g4 (by omega)).bind fun _ _ _ g6 => G0.ok _ g6).le).le
   ·exact G0.ite ((W _ s' g2).bind fun _ _ _ g4 => G0.ok _ g4).le ((A.expr 1 s' g2 (by omega)).bind fun _ s2 _ g4 => ((W _ s2 g4).bind fun _ _ _ g6 => G0.ok _ g6).le).le
   ·exact ((A.expr 1 s' g2 (by omega)).bind fun _ s2 _ g4 => ((W _ s2 g4).bind fun _ _ _ g6 => G0.ok _ g6).le).le
   ·exact (g_named hL n _ _ s.st l' (by omega)).bind fun _ _ _ g4 => G0.ok _ g4
theorem g_param (s : RS) (l : s.i < L.length) : G1 L s (sParam L s) := (g_take hL 1 (by decide) s l).bind fun _ s1 _ h2 => ((g_want hL _ s1 h2).bind fun _ s2 _ h4 => ((g_kind hL _ s2 h4).bind fun _ _ _ h6 => G0.ok _ h6).le).le
theorem g_pmore : ∀ (n : Nat) (r : List Pm) (s : RS), s.i < L.length → L.length - s.i + 1 ≤ n → G0 L s (sPMore L n r s)
 | 0, _, _, _, h => by omega
 | n + 1, r, s, l, h => by
  simp only [sPMore]
  exact G0.mayT hL l (fun s' h1 h2 => ((g_param hL s' h2).bind fun _ s2 h3 h4 => g_pmore n _ s2 h4 (by omega)).le) (G0.ok _ l)
theorem g_fn (n : Nat) (s : RS) (l : s.i < L.length) (h : 4 * (L.length - s.i) + 1 ≤ n) : G1 L s (sFn L n s) := by
 have W := fun x s l => g_want hL x s l
 have B := (g_stmt hL n).1
 unfold sFn
 refine (W _ s l).bind fun t s1 h1 h2 => ((g_take hL 1 (by decide) s1 h2).bind fun u s2 h3 h4 => (G1.bind (?_ : G1 L s2 (sParams L n s2)) fun ps s3 h5 h6 => G0.mayT hL h6 (fun s4 h7 h8 => ((g_kind hL _ s4 h8).bind fun _ s5 h9 h10 => ((B s5 h10 (by omega)).bind fun _ _ _ h12 => G0.ok _ h12).le).le) ((B s3 h6 (by omega)).bind fun _ _ _ h12 => G0.ok _ h12).le).le).le
 unfold sParams
 exact (W _ s2 h4).bind fun _ s3 h5 h6 => G0.ite ((W _ s3 h6).bind fun _ _ _ h8 => G0.ok _ h8).le ((g_param hL s3 h6).bind fun _ s4 h7 h8 => (g_pmore hL n _ s4 h8 (by omega)).bind fun _ s5 _ h10 => ((W _ s5 h10).bind fun _ _ _ h12 => G0.ok _ h12).le).le
theorem g_fns (N : Nat) (hN : 4 * L.length + 1 ≤ N) : ∀ (n : Nat) (r : List Fn) (s : RS), s.i < L.length → L.length - s.i + 1 ≤ n → G0 L s (sFns L N n r s)
 | 0, _, _, _, h => by omega
 | n + 1, r, s, l, h => by
  simp only [sFns]
  exact G0.ite (G0.ok _ l) ((g_fn hL N s l (by omega)).bind fun _ s2 h3 h4 => g_fns N hN n _ s2 h4 (by omega)).le
abbrev fuel (L : List T) : Nat := 4 * L.length + 1
theorem prog_no (h0 : 0 < L.length) : sProg L (fuel L) ≠ .out :=
 ((g_fn hL (fuel L) ⟨0, 0, 0⟩ h0 (by simp only [fuel]; omega)).bind fun f s1 h1 h2 => g_fns hL (fuel L) (Nat.le_refl _) (fuel L) [f] s1 h2 (by simp only [fuel]; omega)).1
end
end Go.Avm
namespace Go.Avm
open Go.Proofs
def wl : List (List UInt8) := [[102, 110], [108, 101, 116], [105, 102], [101, 108, 115, 101], [119, 104, 105, 108, 101], [114, 101, 116, 117, 114, 110], [112, 114, 105, 110, 116], [116, 114, 117, 101], [102, 97, 108, 115, 101], [114, 101, 97, 100], [108, 101, 110], [105, 110, 116], [98, 111, 111, 108], [97, 114, 114]]
def wordsE : List (D × D × Nat) := [(.str [102, 110], .agg [], 0), (.str [108, 101, 116], .agg [], 1), (.str [105, 102], .agg [], 2), (.str [101, 108, 115, 101], .agg [], 3), (.str [119, 104, 105, 108, 101], .agg [], 4), (.str [114, 101, 116, 117, 114, 110], .agg [], 5), (.str [112, 114, 105, 110, 116], .agg [], 6), (.str [116, 114, 117, 101], .agg [], 7), (.str [102, 97, 108, 115, 101], .agg [], 8), (.str [114, 101, 97, 100], .agg [], 9), (.str [108, 101, 110], .agg [], 10), (.str [105, 110, 116], .agg [], 11), (.str [98, 111, 111, 108], .agg [], 12), (.str [97, 114, 114], .agg [], 13)]
theorem findD_words (s : List UInt8) : ∀ (l : List (List UInt8)) (es : List (D × D × Nat)) (n : Nat), es.map (fun e => (e.1, e.2.1)) = l.map (fun x => (D.str x, D.agg [])) →
    (∃ i : Nat, l[i]? = some s ∧ (∀ (j : Nat) (x : List UInt8), j < i → l[j]? = some x → (s == x) = false) ∧ findD (.str s) es n = some (some (n + i, .agg []))) ∨ ((∀ (i : Nat) (x : List UInt8), l[i]? = some x → (s == x) = false) ∧ findD (.str s) es n = some none)
 | [], es, n, h => by
  have : es = [] := by simpa using h
  subst this
  exact .inr ⟨fun i x hx => by simp at hx, rfl⟩
 | y :: l, [], n, h => by simp at h
 | y :: l, e :: es, n, h => by
  simp only [List.map_cons, List.cons.injEq, Prod.mk.injEq] at h
  obtain ⟨⟨h1, h2⟩, h3⟩ := h
  have hs : sameD (.str s) e.1 = some (s == y) := by rw [h1]; rfl
  by_cases hy : (s == y) = true
  ·left
   refine ⟨0, by simp [eq_of_beq hy], fun j x hj => by omega, ?_⟩
   simp only [findD, hs, hy, h2, Nat.add_zero]
  ·have hy' : (s == y) = false := by simpa using hy
   rcases findD_words s l es (n + 1) h3 with ⟨i, g1, g2, g3⟩ | ⟨g1, g2⟩
   ·left
    refine ⟨i + 1, by simpa using g1, fun j x hj hx => ?_, ?_⟩
    ·cases j with
     | zero => simp at hx; subst hx; exact hy'
     | succ j => exact g2 j x (by omega) (by simpa using hx)
    ·simp only [findD, hs, hy', g3]
     congr 3
     omega
   ·right
    refine ⟨fun i x hx => ?_, by simp only [findD, hs, hy', g2]⟩
    cases i with
    | zero => simp at hx; subst hx; exact hy'
    | succ i => exact g1 i x (by simpa using hx)
end Go.Avm
namespace Go.Avm
open Go.Proofs
def wd : List D := wl.map .str
theorem wd_get {i : Nat} {x : List UInt8} (h : wl[i]? = some x) : wd[((i : Nat) : Int).toNat]? = some (.str x) := by
 simp [wd, h]
def hEq (P : Program) (s x : List UInt8) (t : Bool) (h : (s == x) = t) : Hint P := .val (dB (s == x)) (dB t) (by rw [h])
def refL (s : List UInt8) (i : Nat) : List (Nat × AV) := [(0, .d (.str s)), (2, dB false), (5, .vec 20 1 1 wd), (6, dN 14), (7, dN i)]
theorem refNext (s x : List UInt8) (i : Nat) (hi : i < 14) (hx : wl[i]? = some x) (he : (s == x) = false) (rest : Heap) (X : Fix) (hP : X.P = Pg) (hN : X.N = 15) :
    AW X (lO 28 2) ⟨envOf (refL s i), ovl [] rest⟩ fun e' S' => e' = .normal ∧ Weak X S' ⟨envOf (refL s (i + 1)), ovl [] rest⟩ :=
 seg okP named { hint := fun f k => if f = 28 then (if k = 8 then some (qL hi) else if k = 9 then some (.idx wd (i : Int) (.str x) (by omega) (wd_get hx)) else if k = 13 then some (hEq Pg s x false he)
  else if k = 14 then some (hSucc Pg i (by omega)) else none) else none } 1000 28 1000 15 (by kernel_rfl) X hP hN
theorem refHit (s x : List UInt8) (i : Nat) (hi : i < 14) (hx : wl[i]? = some x) (he : (s == x) = true) (rest : Heap) (X : Fix) (hP : X.P = Pg) (hN : X.N = 15) :
    AW X (lO 28 2) ⟨envOf (refL s i), ovl [] rest⟩ fun e' S' => e' = .ret ∧ Weak X S' ⟨envOf [(2, dB true)], ovl [] rest⟩ :=
 seg okP named { hint := fun f k => if f = 28 then (if k = 8 then some (qL hi) else if k = 9 then some (.idx wd (i : Int) (.str x) (by omega) (wd_get hx)) else if k = 13 then some (hEq Pg s x true he)
  else none) else none } 1000 28 1000 15 (by kernel_rfl) X hP hN
theorem refEnd (s : List UInt8) (rest : Heap) (X : Fix) (hP : X.P = Pg) (hN : X.N = 15) :
    AW X (lO 28 2) ⟨envOf (refL s 14), ovl [] rest⟩ fun e' S' => e' = .exit 0 ∧ Weak X S' ⟨envOf [(2, dB false)], ovl [] rest⟩ :=
 seg okP named {} 1000 28 1000 15 (by kernel_rfl) X hP hN
theorem refLoopT (s : List UInt8) (i0 : Nat) (h0 : wl[i0]? = some s) (hlt : ∀ (j : Nat) (x : List UInt8), j < i0 → wl[j]? = some x → (s == x) = false) (rest : Heap) (X : Fix) (hP : X.P = Pg) (hN : X.N = 15) :
    AW X (.loop (lO 28 2)) ⟨envOf (refL s 0), ovl [] rest⟩ fun e' S' => e' = .ret ∧ S' = ⟨envOf [(2, dB true)], ovl [] rest⟩ := by
 have hi0 : i0 < 14 := (List.getElem?_eq_some_iff.1 h0).1
 exact loop_of_segs (P := Pg) (N := 15) (c := loopOf Pg 28 2) (refL s) (fun _ _ => []) (fun i => i ≤ i0) (fun i => 14 - i) .ret [(2, dB true)] (fun _ => []) 0 (Nat.zero_le _) (by simp)
  (fun rest i hi => by
   rcases Nat.lt_or_ge i i0 with h | h
   ·obtain ⟨x, hx⟩ : ∃ x, wl[i]? = some x := ⟨_, List.getElem?_eq_getElem (show i < 14 by omega)⟩
    exact .inl ⟨i + 1, h, by omega, fun X hP hN => refNext s x i (by omega) hx (hlt i x h hx) rest X hP hN⟩
   ·have : i = i0 := by omega
    subst this
    exact .inr fun X hP hN => refHit s s i hi0 h0 (by simp) rest X hP hN) rest X hP hN
theorem refLoopF (s : List UInt8) (hno : ∀ (j : Nat) (x : List UInt8), wl[j]? = some x → (s == x) = false) (rest : Heap) (X : Fix) (hP : X.P = Pg) (hN : X.N = 15) :
    AW X (.loop (lO 28 2)) ⟨envOf (refL s 0), ovl [] rest⟩ fun e' S' => e' = .exit 0 ∧ S' = ⟨envOf [(2, dB false)], ovl [] rest⟩ :=
 loop_of_segs (P := Pg) (N := 15) (c := loopOf Pg 28 2) (refL s) (fun _ _ => []) (fun i => i ≤ 14) (fun i => 14 - i) (.exit 0) [(2, dB false)] (fun _ => []) 0 (Nat.zero_le _) (by simp)
  (fun rest i hi => by
   rcases Nat.lt_or_ge i 14 with h | h
   ·obtain ⟨x, hx⟩ : ∃ x, wl[i]? = some x := ⟨_, List.getElem?_eq_getElem (show i < 14 from h)⟩
    exact .inl ⟨i + 1, h, by omega, fun X hP hN => refNext s x i h hx (hno i x hx) rest X hP hN⟩
   ·have : i = 14 := by omega
    subst this
    exact .inr fun X hP hN => refEnd s rest X hP hN) rest X hP hN
noncomputable def refLT (s : List UInt8) (i0 : Nat) (h0 : wl[i0]? = some s) (hlt : ∀ (j : Nat) (x : List UInt8), j < i0 → wl[j]? = some x → (s == x) = false) : LHint Pg := ⟨15, loopOf Pg 28 2, refL s 0, fun _ => [], .ret, [(2, dB true)], fun _ => [], refLoopT s i0 h0 hlt⟩
noncomputable def refLF (s : List UInt8) (hno : ∀ (j : Nat) (x : List UInt8), wl[j]? = some x → (s == x) = false) : LHint Pg := ⟨15, loopOf Pg 28 2, refL s 0, fun _ => [], .exit 0, [(2, dB false)], fun _ => [], refLoopF s hno⟩
theorem refT (s : List UInt8) (i0 : Nat) (h0 : wl[i0]? = some s) (hlt : ∀ (j : Nat) (x : List UInt8), j < i0 → wl[j]? = some x → (s == x) = false) : Pure Pg 28 [.str s] [.bool true] :=
 pure_of_run okP named { loops := fun f r => if f = 28 then (if r = 2 then some (refLT s i0 h0 hlt) else none) else none } 1000 (by kernel_rfl)
theorem refF (s : List UInt8) (hno : ∀ (j : Nat) (x : List UInt8), wl[j]? = some x → (s == x) = false) : Pure Pg 28 [.str s] [.bool false] :=
 pure_of_run okP named { loops := fun f r => if f = 28 then (if r = 2 then some (refLF s hno) else none) else none } 1000 (by kernel_rfl)
end Go.Avm
namespace Go.Avm
open Go.Proofs
abbrev bD (b : UInt8) : D := .int .u8 (b.toNat : Int)
def ge8 (k : Int) (b : UInt8) : Bool := decide (k ≤ (b.toNat : Int))
def le8 (b : UInt8) (k : Int) : Bool := decide ((b.toNat : Int) ≤ k)
def isDig (b : UInt8) : Bool := ge8 48 b && le8 b 57
def isSm (b : UInt8) : Bool := ge8 97 b && le8 b 122
def isNm (b : UInt8) : Bool := isSm b || isDig b
def notNl (b : UInt8) : Bool := ((b.toNat : Int) != 10)
noncomputable def rngPr (f : Nat) (lo hi : Int) (b : UInt8) (t u : Bool) (h1 : ge8 lo b = t) (h2 : le8 b hi = u) : Par Pg :=
 { hint := fun f' k => if f' = f then (if k = 4 then some (hB Pg _ t h1) else if k = 7 then some (hB Pg _ u h2) else none) else none }
theorem digC (b : UInt8) : Pure Pg 54 [bD b] [.bool (isDig b)] := by
 have k : ∀ t u, ge8 48 b = t → le8 b 57 = u → Pure Pg 54 [bD b] [.bool (t && u)] := fun t u h1 h2 => by
  cases t with
  | false => exact pure_of_run okP named (rngPr 54 48 57 b false u h1 h2) 100 (by kernel_rfl)
  | true => exact pure_of_run okP named (rngPr 54 48 57 b true u h1 h2) 100 (by kernel_rfl)
 exact k _ _ rfl rfl
theorem smC (b : UInt8) : Pure Pg 56 [bD b] [.bool (isSm b)] := by
 have k : ∀ t u, ge8 97 b = t → le8 b 122 = u → Pure Pg 56 [bD b] [.bool (t && u)] := fun t u h1 h2 => by
  cases t with
  | false => exact pure_of_run okP named (rngPr 56 97 122 b false u h1 h2) 100 (by kernel_rfl)
  | true => exact pure_of_run okP named (rngPr 56 97 122 b true u h1 h2) 100 (by kernel_rfl)
 exact k _ _ rfl rfl
noncomputable def nmPr (b : UInt8) (t u : Bool) (h1 : Pure Pg 56 [bD b] [.bool t]) (h2 : Pure Pg 54 [bD b] [.bool u]) : Par Pg :=
 { hint := fun f' k => if f' = 57 then (if k = 4 then some (.call 56 [bD b] [.bool t] h1) else if k = 7 then some (.call 54 [bD b] [.bool u] h2) else none) else none }
theorem nmC (b : UInt8) : Pure Pg 57 [bD b] [.bool (isNm b)] := by
 have k : ∀ t u, Pure Pg 56 [bD b] [.bool t] → Pure Pg 54 [bD b] [.bool u] → Pure Pg 57 [bD b] [.bool (t || u)] := fun t u h1 h2 => by
  cases t with
  | false => exact pure_of_run okP named (nmPr b false u h1 h2) 100 (by kernel_rfl)
  | true => exact pure_of_run okP named (nmPr b true u h1 h2) 100 (by kernel_rfl)
 exact k _ _ (smC b) (digC b)
theorem nlC (b : UInt8) : Pure Pg 53 [bD b] [.bool (notNl b)] := pure_of_run okP named {} 100 (by kernel_rfl)
abbrev scP : AV := .ptr 324 1 0 0 1
abbrev scE (c0 c1 c2 c3 : AV) (s : List UInt8) (a v : Nat) (l : List D) : Nat × Ent := (324, ⟨1, some (.arr 1 [c0, c1, c2, c3, .d (.str s), dN a, .vec 1 v 4 l])⟩)
def sub (s : List UInt8) (a e : Nat) : List UInt8 := (s.take e).drop a
section
variable (c0 c1 c2 c3 : AV) (s : List UInt8) (a v : Nat) (l : List D) (f : Nat)
def runL (i : Nat) : List (Nat × AV) := [(0, scP), (1, .fn f []), (5, dN i)]
def runHp : List (Nat × Ent) := [scE c0 c1 c2 c3 s a v l]
section
variable (hf : f = 53 ∨ f = 54 ∨ f = 57) {i : Nat} {b : UInt8} (hi : i < s.length) (hb : s[((i : Nat) : Int).toNat]? = some b)
include hf i b hi hb
theorem runStep (hlen : s.length ≤ 100000) (hp : Pure Pg f [bD b] [.bool true]) (rest : Heap) (X : Fix) (hP : X.P = Pg) (hN : X.N = 39) :
    AW X (lO 52 2) ⟨envOf (runL f i), ovl (runHp c0 c1 c2 c3 s a v l) rest⟩ fun e' S' => e' = .normal ∧ Weak X S' ⟨envOf (runL f (i + 1)), ovl (runHp c0 c1 c2 c3 s a v l) rest⟩ := by
 rcases hf with rfl | rfl | rfl <;> exact seg okP named { hint := fun f' k => if f' = 52 then (if k = 16 then some (qL hi) else if k = 24 then some (.sidx s (i : Int) b (by omega) hb) else if k = 25 then some (.call _ [bD b] [.bool true] hp)
  else if k = 28 then some (hSucc Pg i (by omega)) else none) else none } 1000 52 100000 39 (by kernel_rfl) X hP hN
theorem runStop (hp : Pure Pg f [bD b] [.bool false]) (rest : Heap) (X : Fix) (hP : X.P = Pg) (hN : X.N = 39) :
    AW X (lO 52 2) ⟨envOf (runL f i), ovl (runHp c0 c1 c2 c3 s a v l) rest⟩ fun e' S' => e' = .exit 0 ∧ Weak X S' ⟨envOf [(0, scP), (5, dN i)], ovl (runHp c0 c1 c2 c3 s a v l) rest⟩ :=
 by
 rcases hf with rfl | rfl | rfl <;> exact seg okP named { hint := fun f' k => if f' = 52 then (if k = 16 then some (qL hi) else if k = 24 then some (.sidx s (i : Int) b (by omega) hb) else if k = 25 then some (.call _ [bD b] [.bool false] hp)
  else none) else none } 1000 52 100000 39 (by kernel_rfl) X hP hN
end
theorem runEnd (rest : Heap) (X : Fix) (hP : X.P = Pg) (hN : X.N = 39) :
    AW X (lO 52 2) ⟨envOf (runL f s.length), ovl (runHp c0 c1 c2 c3 s a v l) rest⟩ fun e' S' => e' = .exit 0 ∧ Weak X S' ⟨envOf [(0, scP), (5, dN s.length)], ovl (runHp c0 c1 c2 c3 s a v l) rest⟩ :=
 seg okP named { hint := fun f' k => if f' = 52 then (if k = 16 then some (qG s.length) else none) else none } 1000 52 100000 39 (by kernel_rfl) X hP hN
theorem runLoop (hf : f = 53 ∨ f = 54 ∨ f = 57) (p : UInt8 → Bool) (hp : ∀ b, Pure Pg f [bD b] [.bool (p b)]) (hlen : s.length ≤ 100000) (e : Nat) (hae : a ≤ e) (he : e ≤ s.length) (hall : ∀ i b, a ≤ i → i < e → s[i]? = some b → p b = true) (hend : ∀ b, s[e]? = some b → p b = false)
    (rest : Heap) (X : Fix) (hP : X.P = Pg) (hN : X.N = 39) :
    AW X (.loop (lO 52 2)) ⟨envOf (runL f a), ovl (runHp c0 c1 c2 c3 s a v l) rest⟩ fun e' S' => e' = .exit 0 ∧ S' = ⟨envOf [(0, scP), (5, dN e)], ovl (runHp c0 c1 c2 c3 s a v l) rest⟩ :=
 loop_of_segs (P := Pg) (N := 39) (c := loopOf Pg 52 2) (runL f) (fun _ _ => runHp c0 c1 c2 c3 s a v l) (fun i => a ≤ i ∧ i ≤ e) (fun i => e - i) (.exit 0) [(0, scP), (5, dN e)] (fun _ => runHp c0 c1 c2 c3 s a v l) a ⟨Nat.le_refl _, hae⟩ (by simp)
  (fun rest i hi => by
   rcases Nat.lt_or_ge i e with h | h
   ·have hb := List.getElem?_eq_getElem (l := s) (i := i) (by omega)
    have hpt := hp s[i]
    rw [hall i _ hi.1 h hb] at hpt
    exact .inl ⟨i + 1, ⟨by omega, h⟩, by omega, fun X hP hN => runStep c0 c1 c2 c3 s a v l f hf (by omega) hb hlen hpt rest X hP hN⟩
   ·have : i = e := by omega
    subst this
    rcases Nat.lt_or_ge i s.length with h2 | h2
    ·have hb := List.getElem?_eq_getElem (l := s) (i := i) h2
     have hpt := hp s[i]
     rw [hend _ hb] at hpt
     exact .inr fun X hP hN => runStop c0 c1 c2 c3 s a v l f hf h2 hb hpt rest X hP hN
    ·have : i = s.length := by omega
     subst this
     exact .inr fun X hP hN => runEnd c0 c1 c2 c3 s a v l f rest X hP hN) rest X hP hN
noncomputable def runLH (hf : f = 53 ∨ f = 54 ∨ f = 57) (p : UInt8 → Bool) (hp : ∀ b, Pure Pg f [bD b] [.bool (p b)]) (hlen : s.length ≤ 100000) (e : Nat) (hae : a ≤ e) (he : e ≤ s.length) (hall : ∀ i b, a ≤ i → i < e → s[i]? = some b → p b = true) (hend : ∀ b, s[e]? = some b → p b = false) : LHint Pg :=
 ⟨39, loopOf Pg 52 2, runL f a, fun _ => runHp c0 c1 c2 c3 s a v l, .exit 0, [(0, scP), (5, dN e)], fun _ => runHp c0 c1 c2 c3 s a v l, runLoop c0 c1 c2 c3 s a v l f hf p hp hlen e hae he hall hend⟩
noncomputable def runPr (e : Nat) (H : LHint Pg) (hs : a ≤ e ∧ e ≤ s.length) : Par Pg :=
 { hint := fun f' k => if f' = 52 then (if k = 38 then some (.sub s a e hs) else none) else none
   loops := fun f' r => if f' = 52 then (if r = 2 then some H else none) else none }
theorem runC (hf : f = 53 ∨ f = 54 ∨ f = 57) (p : UInt8 → Bool) (hp : ∀ b, Pure Pg f [bD b] [.bool (p b)]) (hlen : s.length ≤ 100000) (e : Nat) (hae : a ≤ e) (he : e ≤ s.length) (hall : ∀ i b, a ≤ i → i < e → s[i]? = some b → p b = true) (hend : ∀ b, s[e]? = some b → p b = false) (rest : Heap) :
    HCall Pg 52 [scP, .fn f []] (ovl (runHp c0 c1 c2 c3 s a v l) rest) [.d (.str (sub s a e))] (ovl (runHp c0 c1 c2 c3 s a v l) rest) :=
 hcall_of_run okP named (runPr s a e (runLH c0 c1 c2 c3 s a v l f hf p hp hlen e hae he hall hend) ⟨hae, he⟩) 1000 100000 52 (by kernel_rfl)
end
end Go.Avm
namespace Go.Avm
open Go.Proofs
def wsp (b : UInt8) : Bool := b == 32 || b == 9 || b == 10 || b == 13
def skipN : Bool → List UInt8 → Nat
 | _, [] => 0
 | true, b :: r => 1 + skipN (notNl b) r
 | false, b :: r => if wsp b then 1 + skipN false r else if b == 35 then 1 + skipN true r else 0
theorem skipN_le : ∀ (c : Bool) (l : List UInt8), skipN c l ≤ l.length
 | _, [] => by simp [skipN]
 | true, b :: r => by
  have := skipN_le (notNl b) r
  simp only [skipN, List.length_cons]; omega
 | false, b :: r => by
  have h1 := skipN_le false r
  have h2 := skipN_le true r
  simp only [skipN, List.length_cons]
  split
  ·omega
  ·split <;> omega
def runN (p : UInt8 → Bool) (l : List UInt8) : Nat := (l.takeWhile p).length
theorem notNl_iff (b : UInt8) : notNl b = (b != 10) := by
 by_cases h : b = 10
 ·subst h; rfl
 ·have h1 : (b != 10) = true := by simpa using h
  have h2 : notNl b = true := by
   simp only [notNl, bne_iff_ne, ne_eq]
   intro hx
   apply h
   apply UInt8.toNat_inj.1
   have : (b.toNat : Int) = ((10 : Nat) : Int) := hx
   exact Int.ofNat.inj this
  rw [h1, h2]
theorem skipN_true : ∀ (l : List UInt8), skipN true l = runN notNl l + skipN false (l.drop (runN notNl l))
 | [] => rfl
 | b :: r => by
  have ih := skipN_true r
  cases hb : notNl b with
  | true =>
   simp only [skipN, hb, runN, List.takeWhile_cons, if_true, List.length_cons, List.drop_succ_cons] at ih ⊢
   rw [ih]; omega
  | false =>
   have h10 : b = 10 := by
    rw [notNl_iff] at hb
    simpa using hb
   subst h10
   simp [skipN, hb, runN, wsp]
theorem runN_spec (p : UInt8 → Bool) (s : List UInt8) (a : Nat) (ha : a ≤ s.length) : a + runN p (s.drop a) ≤ s.length ∧ (∀ i b, a ≤ i → i < a + runN p (s.drop a) → s[i]? = some b → p b = true) ∧ ∀ b, s[a + runN p (s.drop a)]? = some b → p b = false := by
 have hle : runN p (s.drop a) ≤ (s.drop a).length := by
  unfold runN
  exact (List.takeWhile_sublist p).length_le
 have key : ∀ (l : List UInt8), (∀ i b, i < runN p l → l[i]? = some b → p b = true) ∧ ∀ b, l[runN p l]? = some b → p b = false := by
  intro l
  induction l with
  | nil => exact ⟨fun i b _ h => by simp at h, fun b h => by simp at h⟩
  | cons x r ih =>
   cases hx : p x with
   | false => simp [runN, List.takeWhile_cons, hx]
   | true =>
    have he : runN p (x :: r) = runN p r + 1 := by simp [runN, List.takeWhile_cons, hx]
    rw [he]
    refine ⟨fun i b hi hb => ?_, fun b hb => ?_⟩
    ·cases i with
     | zero => simp at hb; subst hb; exact hx
     | succ i => exact ih.1 i b (by omega) (by simpa using hb)
    ·exact ih.2 b (by simpa using hb)
 refine ⟨by simp at hle; omega, fun i b h1 h2 hb => ?_, fun b hb => ?_⟩
 ·obtain ⟨j, rfl⟩ : ∃ j, i = a + j := ⟨i - a, by omega⟩
  exact (key (s.drop a)).1 j b (by omega) (by rw [List.getElem?_drop]; exact hb)
 ·exact (key (s.drop a)).2 b (by rw [List.getElem?_drop]; exact hb)
theorem sub_len (s : List UInt8) (a e : Nat) (h : a ≤ e) (he : e ≤ s.length) : (sub s a e).length = e - a := by
 unfold sub
 rw [List.length_drop, List.length_take]
 omega
section
variable (c0 c1 c2 c3 : AV) (s : List UInt8) (a v : Nat) (l : List D)
noncomputable def runCH (f : Nat) (hf : f = 53 ∨ f = 54 ∨ f = 57) (p : UInt8 → Bool) (hp : ∀ b, Pure Pg f [bD b] [.bool (p b)]) (hlen : s.length ≤ 100000) (ha : a ≤ s.length) : CHint Pg :=
 ⟨52, [scP, .fn f []], runHp c0 c1 c2 c3 s a v l, [.d (.str (sub s a (a + runN p (s.drop a))))], [],
  fits_ro rfl (runC c0 c1 c2 c3 s a v l f hf p hp hlen _ (Nat.le_add_right _ _) (runN_spec p s a ha).1 (runN_spec p s a ha).2.1 (runN_spec p s a ha).2.2)⟩
def hLen (P : Program) (s : List UInt8) (a e : Nat) (h : a ≤ e) (he : e ≤ s.length) (hlen : s.length ≤ 100000) : Hint P := .val (dI (IntKind.i64.wrap ((a : Int) + ((sub s a e).length : Int)))) (dN e) (by
 congr 2
 rw [sub_len s a e h he, IntWalk.i64_in _ (by omega)]
 omega)
theorem blankWs {b : UInt8} (hw : b = 32 ∨ b = 9 ∨ b = 10 ∨ b = 13) (ha : a < s.length) (hb : s[((a : Nat) : Int).toNat]? = some b) (hlen : s.length ≤ 100000) (rest : Heap) (X : Fix) (hP : X.P = Pg) (hN : X.N = 45) :
    AW X (lO 31 0) ⟨envOf [(0, scP)], ovl (runHp c0 c1 c2 c3 s a v l) rest⟩ fun e' S' => e' = .normal ∧ Weak X S' ⟨envOf [(0, scP)], ovl (runHp c0 c1 c2 c3 s (a + 1) v l) rest⟩ := by
 rcases hw with rfl | rfl | rfl | rfl <;> exact seg okP named { hint := fun f' k => if f' = 31 then (if k = 11 then some (qL ha) else if k = 20 then some (.sidx s (a : Int) _ (by omega) hb)
  else if k = 30 then some (hSucc Pg a (by omega)) else none) else none } 1000 31 110000 45 (by kernel_rfl) X hP hN
theorem blankRem (ha : a < s.length) (hb : s[((a : Nat) : Int).toNat]? = some 35) (hlen : s.length ≤ 100000) (rest : Heap) (X : Fix) (hP : X.P = Pg) (hN : X.N = 45) :
    AW X (lO 31 0) ⟨envOf [(0, scP)], ovl (runHp c0 c1 c2 c3 s a v l) rest⟩ fun e' S' => e' = .normal ∧ Weak X S' ⟨envOf [(0, scP)], ovl (runHp c0 c1 c2 c3 s (a + runN notNl (s.drop a)) v l) rest⟩ :=
 seg okP named { hint := fun f' k => if f' = 31 then (if k = 11 then some (qL ha) else if k = 20 then some (.sidx s (a : Int) _ (by omega) hb)
  else if k = 42 then some (hLen Pg s a _ (Nat.le_add_right _ _) (runN_spec notNl s a (by omega)).1 hlen) else none) else none
                 calls := fun f' k _ => if f' = 31 then (if k = 40 then some (runCH c0 c1 c2 c3 s a v l 53 (by simp) notNl nlC hlen (by omega)) else none) else none } 1000 31 110000 45 (by kernel_rfl) X hP hN
theorem blankEnd (rest : Heap) (X : Fix) (hP : X.P = Pg) (hN : X.N = 45) :
    AW X (lO 31 0) ⟨envOf [(0, scP)], ovl (runHp c0 c1 c2 c3 s s.length v l) rest⟩ fun e' S' => e' = .exit 0 ∧ Weak X S' ⟨envOf [(0, scP)], ovl (runHp c0 c1 c2 c3 s s.length v l) rest⟩ :=
 seg okP named { hint := fun f' k => if f' = 31 then (if k = 11 then some (qG s.length) else none) else none } 1000 31 110000 45 (by kernel_rfl) X hP hN
def hNe (P : Program) (b : UInt8) (k : Nat) (h : b.toNat ≠ k) : Hint P := hB P ((b.toNat : Int) == (k : Int)) false (by simp only [beq_eq_false_iff_ne, ne_eq]; omega)
theorem blankOther {b : UInt8} (h1 : b.toNat ≠ 32) (h2 : b.toNat ≠ 9) (h3 : b.toNat ≠ 10) (h4 : b.toNat ≠ 13) (h5 : b.toNat ≠ 35) (ha : a < s.length) (hb : s[((a : Nat) : Int).toNat]? = some b) (rest : Heap) (X : Fix) (hP : X.P = Pg) (hN : X.N = 45) :
    AW X (lO 31 0) ⟨envOf [(0, scP)], ovl (runHp c0 c1 c2 c3 s a v l) rest⟩ fun e' S' => e' = .ret ∧ Weak X S' ⟨envOf [(0, scP)], ovl (runHp c0 c1 c2 c3 s a v l) rest⟩ :=
 seg okP named { hint := fun f' k => if f' = 31 then (if k = 11 then some (qL ha) else if k = 20 then some (.sidx s (a : Int) _ (by omega) hb)
  else if k = 22 then some (hNe Pg b 32 h1) else if k = 23 then some (hNe Pg b 9 h2) else if k = 24 then some (hNe Pg b 10 h3) else if k = 25 then some (hNe Pg b 13 h4) else if k = 34 then some (hNe Pg b 35 h5) else none) else none } 1000 31 110000 45 (by kernel_rfl) X hP hN
def blankTo (a : Nat) : Nat := a + skipN false (s.drop a)
theorem wsp_cases {b : UInt8} (h : wsp b = true) : b = 32 ∨ b = 9 ∨ b = 10 ∨ b = 13 := by
 simp only [wsp, Bool.or_eq_true, beq_iff_eq] at h
 rcases h with ((h | h) | h) | h
 ·exact .inl h
 ·exact .inr (.inl h)
 ·exact .inr (.inr (.inl h))
 ·exact .inr (.inr (.inr h))
theorem ne_nat {b : UInt8} {k : Nat} (hk : k < 256) (h : b ≠ UInt8.ofNat k) : b.toNat ≠ k := fun hx => h (by
 apply UInt8.toNat_inj.1
 rw [hx]
 simp [UInt8.toNat_ofNat']
 omega)
theorem blank_cases (x : Nat) (hx : x < s.length) : ∃ b, s[((x : Nat) : Int).toNat]? = some b ∧
    ((b = 32 ∨ b = 9 ∨ b = 10 ∨ b = 13) ∧ blankTo s (x + 1) = blankTo s x ∨ b = 35 ∧ blankTo s (x + runN notNl (s.drop x)) = blankTo s x ∧ 0 < runN notNl (s.drop x) ∨
     (b.toNat ≠ 32 ∧ b.toNat ≠ 9 ∧ b.toNat ≠ 10 ∧ b.toNat ≠ 13 ∧ b.toNat ≠ 35) ∧ blankTo s x = x) := by
 have hd : s.drop x = s[x] :: s.drop (x + 1) := List.drop_eq_getElem_cons hx
 refine ⟨s[x], by simp [hx], ?_⟩
 unfold blankTo
 cases hw : wsp s[x] with
 | true =>
  refine .inl ⟨wsp_cases hw, ?_⟩
  rw [hd]
  simp only [skipN, hw, if_true]
  omega
 | false =>
  by_cases h35 : s[x] = 35
  ·refine .inr (.inl ⟨h35, ?_, ?_⟩)
   ·have ht := skipN_true (s.drop (x + 1))
    have hr : runN notNl (s.drop x) = runN notNl (s.drop (x + 1)) + 1 := by
     rw [hd, h35]
     simp [runN, List.takeWhile_cons, show notNl 35 = true from rfl]
    have h2 : skipN false (s.drop x) = 1 + skipN true (s.drop (x + 1)) := by
     rw [hd]
     simp only [skipN, hw, h35]
     rfl
    rw [h2, ht, hr, List.drop_drop]
    have : x + (runN notNl (s.drop (x + 1)) + 1) = x + 1 + runN notNl (s.drop (x + 1)) := by omega
    rw [this]; omega
   ·rw [hd, h35]
    simp [runN, List.takeWhile_cons, show notNl 35 = true from rfl]
  ·refine .inr (.inr ⟨?_, ?_⟩)
   ·simp only [wsp, Bool.or_eq_false_iff, beq_eq_false_iff_ne] at hw
    exact ⟨ne_nat (by omega) hw.1.1.1, ne_nat (by omega) hw.1.1.2, ne_nat (by omega) hw.1.2, ne_nat (by omega) hw.2, ne_nat (by omega) h35⟩
   ·rw [hd]
    have : (s[x] == 35) = false := by simpa using h35
    simp only [skipN, hw, this]
    rfl
theorem blankTo_le (a : Nat) (ha : a ≤ s.length) : a ≤ blankTo s a ∧ blankTo s a ≤ s.length := by
 have := skipN_le false (s.drop a)
 rw [List.length_drop] at this
 unfold blankTo
 omega
def blankE : AExit := if blankTo s a = s.length then .exit 0 else .ret
theorem blankLoop (ha : a ≤ s.length) (hlen : s.length ≤ 100000) (e : AExit) (he : e = blankE s a) (rest : Heap) (X : Fix) (hP : X.P = Pg) (hN : X.N = 45) :
    AW X (.loop (lO 31 0)) ⟨envOf [(0, scP)], ovl (runHp c0 c1 c2 c3 s a v l) rest⟩ fun e' S' => e' = e ∧ S' = ⟨envOf [(0, scP)], ovl (runHp c0 c1 c2 c3 s (blankTo s a) v l) rest⟩ :=
 loop_of_segs (P := Pg) (N := 45) (c := loopOf Pg 31 0) (fun _ => [(0, scP)]) (fun x _ => runHp c0 c1 c2 c3 s x v l) (fun x => x ≤ s.length ∧ blankTo s x = blankTo s a) (fun x => s.length - x) e [(0, scP)] (fun _ => runHp c0 c1 c2 c3 s (blankTo s a) v l) a ⟨ha, rfl⟩
  (by rw [he]; unfold blankE; split <;> simp)
  (fun rest x hx => by
   rcases Nat.lt_or_ge x s.length with h | h
   ·obtain ⟨b, hb, ⟨hw, h2⟩ | ⟨rfl, h2, h3⟩ | ⟨⟨n1, n2, n3, n4, n5⟩, h2⟩⟩ := blank_cases s x h
    ·exact .inl ⟨x + 1, ⟨by omega, by rw [h2]; exact hx.2⟩, by omega, fun X hP hN => blankWs c0 c1 c2 c3 s x v l hw h hb hlen rest X hP hN⟩
    ·exact .inl ⟨x + runN notNl (s.drop x), ⟨(runN_spec notNl s x hx.1).1, by rw [h2]; exact hx.2⟩, by omega, fun X hP hN => blankRem c0 c1 c2 c3 s x v l h hb hlen rest X hP hN⟩
    ·have hxe : blankTo s a = x := by rw [← hx.2, h2]
     have : e = .ret := by rw [he]; unfold blankE; rw [if_neg (by omega)]
     rw [hxe, this]
     exact .inr fun X hP hN => blankOther c0 c1 c2 c3 s x v l n1 n2 n3 n4 n5 h hb rest X hP hN
   ·have hxe : x = s.length := by omega
    have hb := blankTo_le s x hx.1
    rw [hx.2] at hb
    have hbe : blankTo s a = s.length := by omega
    have : e = .exit 0 := by rw [he]; unfold blankE; rw [if_pos hbe]
    rw [hbe, this, hxe]
    exact .inr fun X hP hN => blankEnd c0 c1 c2 c3 s v l rest X hP hN) rest X hP hN
noncomputable def blankLH (ha : a ≤ s.length) (hlen : s.length ≤ 100000) (e : AExit) (he : e = blankE s a) : LHint Pg :=
 ⟨45, loopOf Pg 31 0, [(0, scP)], fun _ => runHp c0 c1 c2 c3 s a v l, e, [(0, scP)], fun _ => runHp c0 c1 c2 c3 s (blankTo s a) v l, blankLoop c0 c1 c2 c3 s a v l ha hlen e he⟩
theorem blankC (ha : a ≤ s.length) (hlen : s.length ≤ 100000) (rest : Heap) : HCall Pg 31 [scP] (ovl (runHp c0 c1 c2 c3 s a v l) rest) [] (ovl (runHp c0 c1 c2 c3 s (blankTo s a) v l) rest) := by
 have key : ∀ e, e = blankE s a → (e = .exit 0 ∨ e = .ret) → HCall Pg 31 [scP] (ovl (runHp c0 c1 c2 c3 s a v l) rest) [] (ovl (runHp c0 c1 c2 c3 s (blankTo s a) v l) rest) := by
  rintro e he (rfl | rfl)
  ·exact hcall_of_run okP named { loops := fun f' r => if f' = 31 then (if r = 0 then some (blankLH c0 c1 c2 c3 s a v l ha hlen _ he) else none) else none } 1000 110000 31 (by kernel_rfl)
  ·exact hcall_of_run okP named { loops := fun f' r => if f' = 31 then (if r = 0 then some (blankLH c0 c1 c2 c3 s a v l ha hlen _ he) else none) else none } 1000 110000 31 (by kernel_rfl)
 refine key _ rfl ?_
 unfold blankE
 split
 ·exact .inl rfl
 ·exact .inr rfl
noncomputable def blankCH (ha : a ≤ s.length) (hlen : s.length ≤ 100000) : CHint Pg :=
 ⟨31, [scP], runHp c0 c1 c2 c3 s a v l, [], runHp c0 c1 c2 c3 s (blankTo s a) v l, fits_of (blankC c0 c1 c2 c3 s a v l ha hlen)⟩
end
end Go.Avm
namespace Go.Avm
open Go.Proofs
abbrev tokD (kind : Int) (a : Nat) (t : List UInt8) (n : Int) : D := .agg [.int .u8 kind, .int .i64 (a : Int), .str t, .int .i64 n]
def stE (w : Bool) (s : List UInt8) (a v m : Nat) (l : List D) : List (Nat × Ent) := match w with
 | false => [scE (.d (.int .u32 0)) (.d (.int .i32 0)) (.d (.int .u32 0)) .junk s a v l, (1, ⟨v, none⟩), (120463, ⟨v, none⟩), (200002, ⟨0, none⟩), (200156, ⟨0, none⟩), (204135, ⟨0, none⟩), (210002, ⟨m, none⟩), (210335, ⟨m, none⟩)]
 | true => [scE (.d (.int .u32 1)) (.d (.int .i32 0)) (.d (.int .u32 0)) (.mp 200156 1) s a v l, (1, ⟨v, none⟩), (120463, ⟨v, none⟩), (200002, ⟨1, none⟩), (200156, ⟨1, some (.map wordsE 14)⟩), (204135, ⟨1, none⟩), (210002, ⟨m, none⟩), (210335, ⟨m, none⟩)]
def hAdd (P : Program) (a k : Nat) (h : a + k ≤ 1099511627776) : Hint P := .val (dI (IntKind.i64.wrap ((a : Int) + (k : Int)))) (dN (a + k)) (by
 congr 2
 rw [IntWalk.i64_in _ (by omega)]
 omega)
section
variable (w : Bool) (s : List UInt8) (a v m : Nat) (l : List D)
noncomputable def putPr (t : List UInt8) (hl : l.length + 1 ≤ 549755813888) (ht : a + t.length ≤ 1099511627776) : Par Pg :=
 { hint := fun f' k => if f' = 33 then (if k = 22 then some (.app l 1 hl) else if k = 31 then some (hAdd Pg a t.length ht) else none) else none }
theorem putC (kd n : Int) (t : List UInt8) (hl : l.length + 1 ≤ 549755813888) (ht : a + t.length ≤ 1099511627776) (rest : Heap) :
    HCall Pg 33 [scP, .d (.int .u8 kd), .d (.str t), .d (.int .i64 n)] (ovl (stE w s a v m l) rest) [] (ovl (stE w s (a + t.length) (v + 1) m (l ++ [tokD kd a t n])) rest) := by
 cases w <;> exact hcall_of_run okP named (putPr a l t hl ht) 1000 120000 33 (by kernel_rfl)
noncomputable def putCH (kd n : Int) (t : List UInt8) (hl : l.length + 1 ≤ 549755813888) (ht : a + t.length ≤ 1099511627776) : CHint Pg :=
 ⟨33, [scP, .d (.int .u8 kd), .d (.str t), .d (.int .i64 n)], stE w s a v m l, [], stE w s (a + t.length) (v + 1) m (l ++ [tokD kd a t n]), fits_of (putC w s a v m l kd n t hl ht)⟩
noncomputable def hasPr (t : List UInt8) (r : Option (Nat × D)) (h : findD (.str t) wordsE 0 = some r) : Par Pg := { hint := fun f k => if f = 58 then (if k = 18 then some (.look (.str t) wordsE r h) else none) else none }
def mNext (w : Bool) (m : Nat) : Nat := match w with
 | false => m
 | true => m + 1
set_option maxRecDepth 100000 in
theorem hasF (t : List UInt8) (h : findD (.str t) wordsE 0 = some none) (rest : Heap) : HCall Pg 58 [scP, .d (.str t)] (ovl (stE w s a v m l) rest) [dB false] (ovl (stE true s a v (mNext w m) l) rest) := by
 cases w
 ·exact hcall_of_run okP named (hasPr t _ h) 1000 200000 58 (by kernel_rfl)
 ·exact hcall_of_run okP named (hasPr t _ h) 1000 210000 58 (by kernel_rfl)
set_option maxRecDepth 100000 in
theorem hasT (t : List UInt8) (i : Nat) (h : findD (.str t) wordsE 0 = some (some (i, .agg []))) (rest : Heap) : HCall Pg 58 [scP, .d (.str t)] (ovl (stE w s a v m l) rest) [dB true] (ovl (stE true s a v (mNext w m) l) rest) := by
 cases w
 ·exact hcall_of_run okP named (hasPr t _ h) 1000 200000 58 (by kernel_rfl)
 ·exact hcall_of_run okP named (hasPr t _ h) 1000 210000 58 (by kernel_rfl)
def isWord (t : List UInt8) : Bool := wl.contains t
theorem hasC (t : List UInt8) (rest : Heap) : HCall Pg 58 [scP, .d (.str t)] (ovl (stE w s a v m l) rest) [dB (isWord t)] (ovl (stE true s a v (mNext w m) l) rest) := by
 rcases findD_words t wl wordsE 0 rfl with ⟨i, g1, g2, g3⟩ | ⟨g1, g2⟩
 ·have : isWord t = true := by
    simp only [isWord, List.contains_eq_mem, decide_eq_true_eq]
    exact List.mem_of_getElem? g1
  rw [this]
  exact hasT w s a v m l t (0 + i) g3 rest
 ·have : isWord t = false := by
    simp only [isWord, List.contains_eq_mem, decide_eq_false_iff_not]
    intro hm
    obtain ⟨i, hi⟩ := List.getElem?_of_mem hm
    have := g1 i t hi
    simp at this
  rw [this]
  exact hasF w s a v m l t g2 rest
noncomputable def hasCH (t : List UInt8) (u : Bool) (hu : isWord t = u) : CHint Pg :=
 ⟨58, [scP, .d (.str t)], stE w s a v m l, [dB u], stE true s a v (mNext w m) l, fits_of (by subst hu; exact hasC w s a v m l t)⟩
noncomputable def runSt (f : Nat) (hf : f = 53 ∨ f = 54 ∨ f = 57) (p : UInt8 → Bool) (hp : ∀ b, Pure Pg f [bD b] [.bool (p b)]) (hlen : s.length ≤ 100000) (ha : a ≤ s.length) : CHint Pg :=
 match w with
 | false => runCH (.d (.int .u32 0)) (.d (.int .i32 0)) (.d (.int .u32 0)) .junk s a v l f hf p hp hlen ha
 | true => runCH (.d (.int .u32 1)) (.d (.int .i32 0)) (.d (.int .u32 0)) (.mp 200156 1) s a v l f hf p hp hlen ha
noncomputable def blankSt (hlen : s.length ≤ 100000) (ha : a ≤ s.length) : CHint Pg :=
 match w with
 | false => blankCH (.d (.int .u32 0)) (.d (.int .i32 0)) (.d (.int .u32 0)) .junk s a v l ha hlen
 | true => blankCH (.d (.int .u32 1)) (.d (.int .i32 0)) (.d (.int .u32 0)) (.mp 200156 1) s a v l ha hlen
end
end Go.Avm
namespace Go.Avm
open Go.Proofs
def nmT (s : List UInt8) (a : Nat) : List UInt8 := sub s a (a + runN isNm (s.drop a))
section
variable (w : Bool) (s : List UInt8) (a v m : Nat) (l : List D)
noncomputable def nextPr (b : UInt8) (ha : a < s.length) (hb : s[((a : Nat) : Int).toNat]? = some b) (hlen : s.length ≤ 100000) (h1 : isDig b = false) (h2 : isSm b = true) (u : Bool) (hu : isWord (nmT s a) = u) (g : Bool) (hg : decide (12 < ((nmT s a).length : Int)) = g)
    (hl : l.length + 1 ≤ 549755813888) (ht : a + (nmT s a).length ≤ 1099511627776) : Par Pg :=
 { hint := fun f' k => if f' = 32 then (if k = 14 then some (.sidx s (a : Int) b (by omega) hb) else if k = 17 then some (.call 54 [bD b] [.bool false] (h1 ▸ digC b)) else if k = 22 then some (.call 56 [bD b] [.bool true] (h2 ▸ smC b))
     else if k = 40 then some (hB Pg _ g hg) else none) else none
   calls := fun f' k _ => if f' = 32 then (if k = 24 then some (runSt w s a v l 57 (by simp) isNm nmC hlen (by omega)) else if k = 33 then some (hasCH w s a v m l (nmT s a) u hu)
    else if k = 36 then some (putCH true s a v (mNext w m) l 2 0 (nmT s a) hl ht) else if k = 27 then some (putCH true s a v (mNext w m) l 1 0 (nmT s a) hl ht) else none) else none }
section
variable (b : UInt8) (ha : a < s.length) (hb : s[((a : Nat) : Int).toNat]? = some b) (hlen : s.length ≤ 100000) (h1 : isDig b = false) (h2 : isSm b = true)
include b ha hb hlen h1 h2
theorem nextWord (hu : isWord (nmT s a) = true) (hl : l.length + 1 ≤ 549755813888) (ht : a + (nmT s a).length ≤ 1099511627776) (rest : Heap) :
    HCall Pg 32 [scP] (ovl (stE w s a v m l) rest) [dI 0] (ovl (stE true s (a + (nmT s a).length) (v + 1) (mNext w m) (l ++ [tokD 2 a (nmT s a) 0])) rest) := by
 cases w with
 | false => exact hcall_of_run okP named (nextPr false s a v m l b ha hb hlen h1 h2 true hu _ rfl hl ht) 1000 130000 32 (by kernel_rfl)
 | true => exact hcall_of_run okP named (nextPr true s a v m l b ha hb hlen h1 h2 true hu _ rfl hl ht) 1000 130000 32 (by kernel_rfl)
theorem nextName (hu : isWord (nmT s a) = false) (hg : decide (12 < ((nmT s a).length : Int)) = false) (hl : l.length + 1 ≤ 549755813888) (ht : a + (nmT s a).length ≤ 1099511627776) (rest : Heap) :
    HCall Pg 32 [scP] (ovl (stE w s a v m l) rest) [dI 0] (ovl (stE true s (a + (nmT s a).length) (v + 1) (mNext w m) (l ++ [tokD 1 a (nmT s a) 0])) rest) := by
 cases w with
 | false => exact hcall_of_run okP named (nextPr false s a v m l b ha hb hlen h1 h2 false hu false hg hl ht) 1000 130000 32 (by kernel_rfl)
 | true => exact hcall_of_run okP named (nextPr true s a v m l b ha hb hlen h1 h2 false hu false hg hl ht) 1000 130000 32 (by kernel_rfl)
theorem nextLong (hu : isWord (nmT s a) = false) (hg : decide (12 < ((nmT s a).length : Int)) = true) (hl : l.length + 1 ≤ 549755813888) (ht : a + (nmT s a).length ≤ 1099511627776) (rest : Heap) :
    HCall Pg 32 [scP] (ovl (stE w s a v m l) rest) [dI 2] (ovl (stE true s a v (mNext w m) l) rest) := by
 cases w with
 | false => exact hcall_of_run okP named (nextPr false s a v m l b ha hb hlen h1 h2 false hu true hg hl ht) 1000 130000 32 (by kernel_rfl)
 | true => exact hcall_of_run okP named (nextPr true s a v m l b ha hb hlen h1 h2 false hu true hg hl ht) 1000 130000 32 (by kernel_rfl)
end
end
end Go.Avm
namespace Go.Avm
open Go.Proofs
def prs : List (List UInt8) := [[61, 61], [33, 61], [60, 61], [62, 61], [38, 38], [124, 124], [60, 60], [62, 62]]
def prsS : List UInt8 := [61, 61, 32, 33, 61, 32, 60, 61, 32, 62, 61, 32, 38, 38, 32, 124, 124, 32, 60, 60, 32, 62, 62]
def sgnS : List UInt8 := [40, 41, 123, 125, 91, 93, 44, 59, 58, 61, 60, 62, 43, 45, 42, 47, 37, 38, 124, 94, 33, 126]
def prsD : List D := prs.map .str
theorem prsD_get {i : Nat} {x : List UInt8} (h : prs[i]? = some x) : prsD[((i : Nat) : Int).toNat]? = some (.str x) := by
 simp [prsD, h]
set_option maxRecDepth 100000 in
theorem fieldsC : Pure Pg 73 [.str prsS] [.ro prsD] := pure_of_run okP named {} 100000 (by kernel_rfl)
def ixL (t : List UInt8) (i : Nat) : List (Nat × AV) := [(0, .d (.ro prsD)), (1, .d (.str t)), (7, dN 8), (8, dN i)]
noncomputable def ixPr (t x : List UInt8) (i : Nat) (hi : i < 8) (hx : prs[i]? = some x) (u : Bool) (he : (t == x) = u) : Par Pg :=
 { hint := fun f k => if f = 97 then (if k = 9 then some (qL hi) else if k = 14 then some (.idx prsD (i : Int) (.str x) (by omega) (prsD_get hx)) else if k = 16 then some (hEq Pg t x u he)
   else if k = 18 then some (hSucc Pg i (by omega)) else none) else none }
theorem ixNext (t x : List UInt8) (i : Nat) (hi : i < 8) (hx : prs[i]? = some x) (he : (t == x) = false) (rest : Heap) (X : Fix) (hP : X.P = Pg) (hN : X.N = 19) :
    AW X (lO 97 2) ⟨envOf (ixL t i), ovl [] rest⟩ fun e' S' => e' = .normal ∧ Weak X S' ⟨envOf (ixL t (i + 1)), ovl [] rest⟩ :=
 seg okP named (ixPr t x i hi hx false he) 1000 97 1000 19 (by kernel_rfl) X hP hN
theorem ixHit (t x : List UInt8) (i : Nat) (hi : i < 8) (hx : prs[i]? = some x) (he : (t == x) = true) (rest : Heap) (X : Fix) (hP : X.P = Pg) (hN : X.N = 19) :
    AW X (lO 97 2) ⟨envOf (ixL t i), ovl [] rest⟩ fun e' S' => e' = .ret ∧ Weak X S' ⟨envOf [(4, dN i)], ovl [] rest⟩ :=
 seg okP named (ixPr t x i hi hx true he) 1000 97 1000 19 (by kernel_rfl) X hP hN
theorem ixEnd (t : List UInt8) (rest : Heap) (X : Fix) (hP : X.P = Pg) (hN : X.N = 19) :
    AW X (lO 97 2) ⟨envOf (ixL t 8), ovl [] rest⟩ fun e' S' => e' = .exit 0 ∧ Weak X S' ⟨envOf [], ovl [] rest⟩ :=
 seg okP named {} 1000 97 1000 19 (by kernel_rfl) X hP hN
theorem ixLoopT (t : List UInt8) (i0 : Nat) (h0 : prs[i0]? = some t) (hlt : ∀ (j : Nat) (x : List UInt8), j < i0 → prs[j]? = some x → (t == x) = false) (rest : Heap) (X : Fix) (hP : X.P = Pg) (hN : X.N = 19) :
    AW X (.loop (lO 97 2)) ⟨envOf (ixL t 0), ovl [] rest⟩ fun e' S' => e' = .ret ∧ S' = ⟨envOf [(4, dN i0)], ovl [] rest⟩ := by
 have hi0 : i0 < 8 := (List.getElem?_eq_some_iff.1 h0).1
 exact loop_of_segs (P := Pg) (N := 19) (c := loopOf Pg 97 2) (ixL t) (fun _ _ => []) (fun i => i ≤ i0) (fun i => 8 - i) .ret [(4, dN i0)] (fun _ => []) 0 (Nat.zero_le _) (by simp)
  (fun rest i hi => by
   rcases Nat.lt_or_ge i i0 with h | h
   ·obtain ⟨x, hx⟩ : ∃ x, prs[i]? = some x := ⟨_, List.getElem?_eq_getElem (show i < 8 by omega)⟩
    exact .inl ⟨i + 1, h, by omega, fun X hP hN => ixNext t x i (by omega) hx (hlt i x h hx) rest X hP hN⟩
   ·have : i = i0 := by omega
    subst this
    exact .inr fun X hP hN => ixHit t t i hi0 h0 (by simp) rest X hP hN) rest X hP hN
theorem ixLoopF (t : List UInt8) (hno : ∀ (j : Nat) (x : List UInt8), prs[j]? = some x → (t == x) = false) (rest : Heap) (X : Fix) (hP : X.P = Pg) (hN : X.N = 19) :
    AW X (.loop (lO 97 2)) ⟨envOf (ixL t 0), ovl [] rest⟩ fun e' S' => e' = .exit 0 ∧ S' = ⟨envOf [], ovl [] rest⟩ :=
 loop_of_segs (P := Pg) (N := 19) (c := loopOf Pg 97 2) (ixL t) (fun _ _ => []) (fun i => i ≤ 8) (fun i => 8 - i) (.exit 0) [] (fun _ => []) 0 (Nat.zero_le _) (by simp)
  (fun rest i hi => by
   rcases Nat.lt_or_ge i 8 with h | h
   ·obtain ⟨x, hx⟩ : ∃ x, prs[i]? = some x := ⟨_, List.getElem?_eq_getElem (show i < 8 from h)⟩
    exact .inl ⟨i + 1, h, by omega, fun X hP hN => ixNext t x i h hx (hno i x hx) rest X hP hN⟩
   ·have : i = 8 := by omega
    subst this
    exact .inr fun X hP hN => ixEnd t rest X hP hN) rest X hP hN
noncomputable def ixLT (t : List UInt8) (i0 : Nat) (h0 : prs[i0]? = some t) (hlt : ∀ (j : Nat) (x : List UInt8), j < i0 → prs[j]? = some x → (t == x) = false) : LHint Pg := ⟨19, loopOf Pg 97 2, ixL t 0, fun _ => [], .ret, [(4, dN i0)], fun _ => [], ixLoopT t i0 h0 hlt⟩
noncomputable def ixLF (t : List UInt8) (hno : ∀ (j : Nat) (x : List UInt8), prs[j]? = some x → (t == x) = false) : LHint Pg := ⟨19, loopOf Pg 97 2, ixL t 0, fun _ => [], .exit 0, [], fun _ => [], ixLoopF t hno⟩
theorem ctT (t : List UInt8) (i0 : Nat) (h0 : prs[i0]? = some t) (hlt : ∀ (j : Nat) (x : List UInt8), j < i0 → prs[j]? = some x → (t == x) = false) : Pure Pg 74 [.ro prsD, .str t] [.bool true] :=
 pure_of_run okP named { loops := fun f r => if f = 97 then (if r = 2 then some (ixLT t i0 h0 hlt) else none) else none } 1000 (by kernel_rfl)
theorem ctF (t : List UInt8) (hno : ∀ (j : Nat) (x : List UInt8), prs[j]? = some x → (t == x) = false) : Pure Pg 74 [.ro prsD, .str t] [.bool false] :=
 pure_of_run okP named { loops := fun f r => if f = 97 then (if r = 2 then some (ixLF t hno) else none) else none } 1000 (by kernel_rfl)
theorem first_hit (t : List UInt8) : ∀ (l : List (List UInt8)), t ∈ l → ∃ i : Nat, l[i]? = some t ∧ ∀ (j : Nat) (x : List UInt8), j < i → l[j]? = some x → (t == x) = false
 | [], h => by simp at h
 | y :: l, h => by
  by_cases hy : t = y
  ·subst hy
   exact ⟨0, rfl, fun j x hj => by omega⟩
  ·obtain ⟨i, h1, h2⟩ := first_hit t l (by simpa [hy] using h)
   refine ⟨i + 1, by simpa using h1, fun j x hj hx => ?_⟩
   cases j with
   | zero => simp at hx; subst hx; simpa using hy
   | succ j => exact h2 j x (by omega) (by simpa using hx)
theorem ctC (t : List UInt8) : Pure Pg 74 [.ro prsD, .str t] [.bool (prs.contains t)] := by
 by_cases h : t ∈ prs
 ·obtain ⟨i, h1, h2⟩ := first_hit t prs h
  have : prs.contains t = true := by simpa using h
  rw [this]
  exact ctT t i h1 h2
 ·have : prs.contains t = false := by simpa using h
  rw [this]
  refine ctF t fun j x hx => ?_
  have : x ∈ prs := List.mem_of_getElem? hx
  simp only [beq_eq_false_iff_ne, ne_eq]
  rintro rfl
  exact h this
def idxB (b : UInt8) : Int := match firstAt ((b.toNat : Int).toNat.toUInt8) sgnS 0 with
 | some i => (i : Int)
 | none => -1
theorem ibC (b : UInt8) : Pure Pg 75 [.str sgnS, bD b] [.int .i64 (idxB b)] := pure_of_run okP named {} 1000 (by kernel_rfl)
def rst (s : List UInt8) (a : Nat) : List UInt8 := (s.take s.length).drop a
def pre2 (t : List UInt8) (k : Nat) : List UInt8 := (t.take k).drop 0
section
variable (w : Bool) (s : List UInt8) (a v m : Nat) (l : List D)
noncomputable def signPr (b : UInt8) (ha : a < s.length) (hb : (rst s a)[(0 : Int).toNat]? = some b) (g : Bool) (hg : decide (2 ≤ ((rst s a).length : Int)) = g) (u : Bool) (hu : prs.contains (pre2 (rst s a) 2) = u) (z : Bool) (hz : decide (0 ≤ idxB b) = z)
    (h2 : g = true → 2 ≤ (rst s a).length) (h1 : 1 ≤ (rst s a).length) : Par Pg :=
 { hint := fun f' k => if f' = 59 then (if k = 12 then some (.sub s a s.length ⟨by omega, Nat.le_refl _⟩) else if k = 15 then some (hB Pg _ g hg) else if k = 17 then some (.call 73 [.str prsS] [.ro prsD] fieldsC)
     else if k = 19 then (if hgt : g = true then some (.sub (rst s a) 0 2 ⟨by omega, h2 hgt⟩) else none) else if k = 20 then some (.call 74 [.ro prsD, .str (pre2 (rst s a) 2)] [.bool u] (hu ▸ ctC _))
     else if k = 23 then (if hgt : g = true then some (.sub (rst s a) 0 2 ⟨by omega, h2 hgt⟩) else none) else if k = 25 then some (.sidx (rst s a) 0 b (by omega) hb)
     else if k = 26 then some (.call 75 [.str sgnS, bD b] [.int .i64 (idxB b)] (ibC b)) else if k = 27 then some (hB Pg _ z hz) else if k = 29 then some (.sub (rst s a) 0 1 ⟨by omega, h1⟩) else none) else none }
section
variable (c0 c1 c2 c3 : AV) (b : UInt8) (ha : a < s.length) (hb : (rst s a)[(0 : Int).toNat]? = some b)
include c0 c1 c2 c3 b ha hb
theorem signTwo (hg : decide (2 ≤ ((rst s a).length : Int)) = true) (hu : prs.contains (pre2 (rst s a) 2) = true) (h2 : 2 ≤ (rst s a).length) (rest : Heap) :
    HCall Pg 59 [scP] (ovl (runHp c0 c1 c2 c3 s a v l) rest) [.d (.str (pre2 (rst s a) 2))] (ovl (runHp c0 c1 c2 c3 s a v l) rest) :=
 hcall_of_run okP named (signPr s a b ha hb true hg true hu _ rfl (fun _ => h2) (by omega)) 1000 140000 59 (by kernel_rfl)
theorem signOne (g : Bool) (hg : decide (2 ≤ ((rst s a).length : Int)) = g) (hu : (g && prs.contains (pre2 (rst s a) 2)) = false) (h2 : g = true → 2 ≤ (rst s a).length) (h1 : 1 ≤ (rst s a).length) (hz : decide (0 ≤ idxB b) = true) (rest : Heap) :
    HCall Pg 59 [scP] (ovl (runHp c0 c1 c2 c3 s a v l) rest) [.d (.str (pre2 (rst s a) 1))] (ovl (runHp c0 c1 c2 c3 s a v l) rest) := by
 cases g with
 | false => exact hcall_of_run okP named (signPr s a b ha hb false hg _ rfl true hz h2 h1) 1000 140000 59 (by kernel_rfl)
 | true => exact hcall_of_run okP named (signPr s a b ha hb true hg false (by simpa using hu) true hz h2 h1) 1000 140000 59 (by kernel_rfl)
theorem signNone (g : Bool) (hg : decide (2 ≤ ((rst s a).length : Int)) = g) (hu : (g && prs.contains (pre2 (rst s a) 2)) = false) (h2 : g = true → 2 ≤ (rst s a).length) (h1 : 1 ≤ (rst s a).length) (hz : decide (0 ≤ idxB b) = false) (rest : Heap) :
    HCall Pg 59 [scP] (ovl (runHp c0 c1 c2 c3 s a v l) rest) [.d (.str [])] (ovl (runHp c0 c1 c2 c3 s a v l) rest) := by
 cases g with
 | false => exact hcall_of_run okP named (signPr s a b ha hb false hg _ rfl false hz h2 h1) 1000 140000 59 (by kernel_rfl)
 | true => exact hcall_of_run okP named (signPr s a b ha hb true hg false (by simpa using hu) false hz h2 h1) 1000 140000 59 (by kernel_rfl)
end
end
end Go.Avm
namespace Go.Avm
open Go.Proofs
def signT (s : List UInt8) (a : Nat) (b : UInt8) : List UInt8 :=
 if (decide (2 ≤ ((rst s a).length : Int)) && prs.contains (pre2 (rst s a) 2)) = true then pre2 (rst s a) 2 else if decide (0 ≤ idxB b) = true then pre2 (rst s a) 1 else []
section
variable (w : Bool) (s : List UInt8) (a v m : Nat) (l : List D)
theorem signC (c0 c1 c2 c3 : AV) (b : UInt8) (ha : a < s.length) (hb : (rst s a)[(0 : Int).toNat]? = some b) (rest : Heap) :
    HCall Pg 59 [scP] (ovl (runHp c0 c1 c2 c3 s a v l) rest) [.d (.str (signT s a b))] (ovl (runHp c0 c1 c2 c3 s a v l) rest) := by
 have h1 : 1 ≤ (rst s a).length := by
  have := (List.getElem?_eq_some_iff.1 hb).1
  omega
 have h2 : ∀ g, decide (2 ≤ ((rst s a).length : Int)) = g → g = true → 2 ≤ (rst s a).length := by
  rintro g rfl h
  have := of_decide_eq_true h
  omega
 unfold signT
 split
 ·rename_i h
  simp only [Bool.and_eq_true] at h
  exact signTwo s a v l c0 c1 c2 c3 b ha hb h.1 h.2 (h2 _ h.1 rfl) rest
 ·rename_i h
  have h' : (decide (2 ≤ ((rst s a).length : Int)) && prs.contains (pre2 (rst s a) 2)) = false := by simpa only [Bool.not_eq_true] using h
  split
  ·rename_i hz
   exact signOne s a v l c0 c1 c2 c3 b ha hb _ rfl h' (h2 _ rfl) h1 hz rest
  ·rename_i hz
   exact signNone s a v l c0 c1 c2 c3 b ha hb _ rfl h' (h2 _ rfl) h1 (by simpa only [Bool.not_eq_true] using hz) rest
noncomputable def signSt (b : UInt8) (ha : a < s.length) (hb : (rst s a)[(0 : Int).toNat]? = some b) (t : List UInt8) (ht : signT s a b = t) : CHint Pg :=
 match w with
 | false => ⟨59, [scP], runHp (.d (.int .u32 0)) (.d (.int .i32 0)) (.d (.int .u32 0)) .junk s a v l, [.d (.str t)], [], fits_ro rfl (ht ▸ signC s a v l _ _ _ _ b ha hb)⟩
 | true => ⟨59, [scP], runHp (.d (.int .u32 1)) (.d (.int .i32 0)) (.d (.int .u32 0)) (.mp 200156 1) s a v l, [.d (.str t)], [], fits_ro rfl (ht ▸ signC s a v l _ _ _ _ b ha hb)⟩
noncomputable def sgnPr (b : UInt8) (ha : a < s.length) (hb : s[((a : Nat) : Int).toNat]? = some b) (hb' : (rst s a)[(0 : Int).toNat]? = some b) (h1 : isDig b = false) (h2 : isSm b = false) (t : List UInt8) (hT : signT s a b = t) (u : Bool) (hu : (t == []) = u)
    (hl : l.length + 1 ≤ 549755813888) (ht : a + t.length ≤ 1099511627776) : Par Pg :=
 { hint := fun f' k => if f' = 32 then (if k = 14 then some (.sidx s (a : Int) b (by omega) hb) else if k = 17 then some (.call 54 [bD b] [.bool false] (h1 ▸ digC b)) else if k = 22 then some (.call 56 [bD b] [.bool false] (h2 ▸ smC b))
     else if k = 44 then some (hB Pg _ u hu) else none) else none
   calls := fun f' k _ => if f' = 32 then (if k = 42 then some (signSt w s a v l b ha hb' t hT) else if k = 47 then some (putCH w s a v m l 4 0 t hl ht) else none) else none }
section
variable (b : UInt8) (ha : a < s.length) (hb : s[((a : Nat) : Int).toNat]? = some b) (hb' : (rst s a)[(0 : Int).toNat]? = some b) (h1 : isDig b = false) (h2 : isSm b = false) (t : List UInt8) (hT : signT s a b = t)
include b ha hb hb' h1 h2 t hT
theorem nextSign (hu : (t == []) = false) (hl : l.length + 1 ≤ 549755813888) (ht : a + t.length ≤ 1099511627776) (rest : Heap) :
    HCall Pg 32 [scP] (ovl (stE w s a v m l) rest) [dI 0] (ovl (stE w s (a + t.length) (v + 1) m (l ++ [tokD 4 a t 0])) rest) := by
 cases w with
 | false => exact hcall_of_run okP named (sgnPr false s a v m l b ha hb hb' h1 h2 t hT false hu hl ht) 1000 130000 32 (by kernel_rfl)
 | true => exact hcall_of_run okP named (sgnPr true s a v m l b ha hb hb' h1 h2 t hT false hu hl ht) 1000 130000 32 (by kernel_rfl)
theorem nextNone (hu : (t == []) = true) (hl : l.length + 1 ≤ 549755813888) (ht : a + t.length ≤ 1099511627776) (rest : Heap) :
    HCall Pg 32 [scP] (ovl (stE w s a v m l) rest) [dI 4] (ovl (stE w s a v m l) rest) := by
 cases w with
 | false => exact hcall_of_run okP named (sgnPr false s a v m l b ha hb hb' h1 h2 t hT true hu hl ht) 1000 130000 32 (by kernel_rfl)
 | true => exact hcall_of_run okP named (sgnPr true s a v m l b ha hb hb' h1 h2 t hT true hu hl ht) 1000 130000 32 (by kernel_rfl)
end
end
end Go.Avm
namespace Go.Proofs
open Go.Shelf
def Tryz.lays174_ren : Go.Shelf.Ren := ⟨fun | 174 => 70 | 247 => 91 | 245 => 92 | 287 => 113 | 279 => 114 | 280 => 115 | 281 => 116 | 282 => 117 | 321 => 132 | 322 => 133 | 316 => 134 | 171 => 136 | 205 => 135 | 243 => 148 | 246 => 111 | 283 => 127 | 284 => 128 | 285 => 129 | 286 => 130 | 129 => 144 | 317 => 143 | 318 => 145 | 319 => 146 | 320 => 147 | 337 => 157 | 338 => 158 | n => n, fun | 9 => 9 | 3 => 3 | 2 => 2 | 75 => 125 | 85 => 132 | 4 => 4 | 167 => 172 | 5 => 5 | 53 => 167 | 175 => 173 | 46 => 144 | 168 => 175 | 37 => 50 | 0 => 0 | 210 => 197 | 21 => 21 | 127 => 131 | 145 => 220 | 143 => 218 | 171 => 189 | 173 => 192 | 212 => 214 | 51 => 85 | 20 => 20 | 213 => 215 | 232 => 232 | 233 => 233 | 80 => 109 | n => n, fun | 15 => 3 | 16 => 4 | 17 => 5 | 18 => 6 | 19 => 7 | n => n⟩
theorem Tryz.lays174 : Go.Proofs.LaysC.n174 Tryz.prog Tryz.lays174_ren := {
 mixed := by kernel_rfl
 f129 := Tryz.func144.trans (congrArg some (by kernel_rfl))
 f171 := Tryz.func136.trans (congrArg some (by kernel_rfl))
 f174 := Tryz.func70.trans (congrArg some (by kernel_rfl))
 f205 := Tryz.func135.trans (congrArg some (by kernel_rfl))
 f243 := Tryz.func148.trans (congrArg some (by kernel_rfl))
 f245 := Tryz.func92.trans (congrArg some (by kernel_rfl))
 f246 := Tryz.func111.trans (congrArg some (by kernel_rfl))
 f247 := Tryz.func91.trans (congrArg some (by kernel_rfl))
 f279 := Tryz.func114.trans (congrArg some (by kernel_rfl))
 f280 := Tryz.func115.trans (congrArg some (by kernel_rfl))
 f281 := Tryz.func116.trans (congrArg some (by kernel_rfl))
 f282 := Tryz.func117.trans (congrArg some (by kernel_rfl))
 f283 := Tryz.func127.trans (congrArg some (by kernel_rfl))
 f284 := Tryz.func128.trans (congrArg some (by kernel_rfl))
 f285 := Tryz.func129.trans (congrArg some (by kernel_rfl))
 f286 := Tryz.func130.trans (congrArg some (by kernel_rfl))
 f287 := Tryz.func113.trans (congrArg some (by kernel_rfl))
 f316 := Tryz.func134.trans (congrArg some (by kernel_rfl))
 f317 := Tryz.func143.trans (congrArg some (by kernel_rfl))
 f318 := Tryz.func145.trans (congrArg some (by kernel_rfl))
 f319 := Tryz.func146.trans (congrArg some (by kernel_rfl))
 f320 := Tryz.func147.trans (congrArg some (by kernel_rfl))
 f321 := Tryz.func132.trans (congrArg some (by kernel_rfl))
 f322 := Tryz.func133.trans (congrArg some (by kernel_rfl))
 f337 := Tryz.func157.trans (congrArg some (by kernel_rfl))
 f338 := Tryz.func158.trans (congrArg some (by kernel_rfl))
 t0 := Tryz.underlying0
 a0 := Tryz.isAgg0
 z0 := Tryz.sizeOf0
 v0 := Tryz.zeroValue0
 t2 := Tryz.underlying2
 a2 := Tryz.isAgg2
 z2 := Tryz.sizeOf2
 v2 := Tryz.zeroValue2
 t3 := Tryz.underlying3
 a3 := Tryz.isAgg3
 z3 := Tryz.sizeOf3
 v3 := Tryz.zeroValue3
 t4 := Tryz.underlying4
 a4 := Tryz.isAgg4
 z4 := Tryz.sizeOf4
 v4 := Tryz.zeroValue4
 t5 := Tryz.underlying5
 a5 := Tryz.isAgg5
 z5 := Tryz.sizeOf5
 v5 := Tryz.zeroValue5
 t9 := Tryz.underlying9
 a9 := Tryz.isAgg9
 z9 := Tryz.sizeOf9
 v9 := Tryz.zeroValue9
 t20 := Tryz.underlying20
 a20 := Tryz.isAgg20
 z20 := Tryz.sizeOf20
 v20 := Tryz.zeroValue20
 t21 := Tryz.underlying21
 a21 := Tryz.isAgg21
 z21 := Tryz.sizeOf21
 v21 := Tryz.zeroValue21
 t37 := Tryz.underlying50
 a37 := Tryz.isAgg50
 z37 := Tryz.sizeOf50
 v37 := Tryz.zeroValue50
 t46 := Tryz.underlying144
 a46 := Tryz.isAgg144
 z46 := Tryz.sizeOf144
 v46 := Tryz.zeroValue144
 t51 := Tryz.underlying85
 a51 := Tryz.isAgg85
 z51 := Tryz.sizeOf85
 v51 := Tryz.zeroValue85
 t53 := Tryz.underlying167
 a53 := Tryz.isAgg167
 z53 := Tryz.sizeOf167
 v53 := Tryz.zeroValue167
 t75 := Tryz.underlying125
 a75 := Tryz.isAgg125
 z75 := Tryz.sizeOf125
 v75 := Tryz.zeroValue125
 t85 := Tryz.underlying132
 a85 := Tryz.isAgg132
 z85 := Tryz.sizeOf132
 v85 := Tryz.zeroValue132
 t127 := Tryz.underlying131
 a127 := Tryz.isAgg131
 z127 := Tryz.sizeOf131
 v127 := Tryz.zeroValue131
 t143 := Tryz.underlying218
 a143 := Tryz.isAgg218
 z143 := Tryz.sizeOf218
 v143 := Tryz.zeroValue218
 t145 := Tryz.underlying220
 a145 := Tryz.isAgg220
 z145 := Tryz.sizeOf220
 v145 := Tryz.zeroValue220
 t167 := Tryz.underlying172
 a167 := Tryz.isAgg172
 z167 := Tryz.sizeOf172
 v167 := Tryz.zeroValue172
 t168 := Tryz.underlying175
 a168 := Tryz.isAgg175
 z168 := Tryz.sizeOf175
 v168 := Tryz.zeroValue175
 t171 := Tryz.underlying189
 a171 := Tryz.isAgg189
 z171 := Tryz.sizeOf189
 v171 := Tryz.zeroValue189
 t173 := Tryz.underlying192
 a173 := Tryz.isAgg192
 z173 := Tryz.sizeOf192
 v173 := Tryz.zeroValue192
 t175 := Tryz.underlying173
 a175 := Tryz.isAgg173
 z175 := Tryz.sizeOf173
 v175 := Tryz.zeroValue173
 t210 := Tryz.underlying197
 a210 := Tryz.isAgg197
 z210 := Tryz.sizeOf197
 v210 := Tryz.zeroValue197
 t212 := Tryz.underlying214
 a212 := Tryz.isAgg214
 z212 := Tryz.sizeOf214
 v212 := Tryz.zeroValue214
 t213 := Tryz.underlying215
 a213 := Tryz.isAgg215
 z213 := Tryz.sizeOf215
 t232 := Tryz.underlying232
 a232 := Tryz.isAgg232
 z232 := Tryz.sizeOf232
 v232 := Tryz.zeroValue232
 t233 := Tryz.underlying233
 a233 := Tryz.isAgg233
 z233 := Tryz.sizeOf233
 v233 := Tryz.zeroValue233
 g15 := by kernel_rfl
 g16 := by kernel_rfl
 g17 := by kernel_rfl
 g18 := by kernel_rfl
 g19 := by kernel_rfl
 t80 := Tryz.underlying109
 a80 := Tryz.isAgg109
 z80 := Tryz.sizeOf109
 v80 := Tryz.zeroValue109
 i0 := by kernel_rfl
 i2 := by kernel_rfl
 i3 := by kernel_rfl
 i4 := by kernel_rfl
 i5 := by kernel_rfl
 i9 := by kernel_rfl
 i20 := by kernel_rfl
 i21 := by kernel_rfl
 i37 := by kernel_rfl
 i46 := by kernel_rfl
 i51 := by kernel_rfl
 i53 := by kernel_rfl
 i75 := by kernel_rfl
 i80 := by kernel_rfl
 i85 := by kernel_rfl
 i127 := by kernel_rfl
 i143 := by kernel_rfl
 i145 := by kernel_rfl
 i167 := by kernel_rfl
 i168 := by kernel_rfl
 i171 := by kernel_rfl
 i173 := by kernel_rfl
 i175 := by kernel_rfl
 i210 := by kernel_rfl
 i212 := by kernel_rfl
 i232 := by kernel_rfl
 i233 := by kernel_rfl
 m15 := by kernel_rfl
 m16 := by kernel_rfl
 m17 := by kernel_rfl
 m18 := by kernel_rfl
 m19 := by kernel_rfl
 c0 := by kernel_rfl
 c2 := by kernel_rfl
 c3 := by kernel_rfl
 c4 := by kernel_rfl
 c5 := by kernel_rfl
 c9 := by kernel_rfl
 c20 := by kernel_rfl
 c21 := by kernel_rfl
 c37 := by kernel_rfl
 c46 := by kernel_rfl
 c51 := by kernel_rfl
 c53 := by kernel_rfl
 c75 := by kernel_rfl
 c80 := by kernel_rfl
 c85 := by kernel_rfl
 c127 := by kernel_rfl
 c143 := by kernel_rfl
 c145 := by kernel_rfl
 c167 := by kernel_rfl
 c168 := by kernel_rfl
 c171 := by kernel_rfl
 c173 := by kernel_rfl
 c175 := by kernel_rfl
 c210 := by kernel_rfl
 c212 := by kernel_rfl
 c213 := by kernel_rfl
 c232 := by kernel_rfl
 c233 := by kernel_rfl }
end Go.Proofs
namespace Go.Avm
open Go.Proofs Go.RowKit
def dv (acc : Nat) (l : List UInt8) : Nat := l.foldl (fun a c => a * 10 + (c.toNat - 48)) acc
theorem dv_nil (acc : Nat) : dv acc [] = acc := by simp only [dv, List.foldl_nil]
theorem dv_cons (acc : Nat) (c : UInt8) (r : List UInt8) : dv acc (c :: r) = dv (acc * 10 + (c.toNat - 48)) r := by simp only [dv, List.foldl_cons]
theorem dv_le (l : List UInt8) : ∀ acc : Nat, acc ≤ dv acc l := by
 induction l with
 | nil => intro acc; rw [dv_nil]; exact Nat.le_refl _
 | cons c r ih =>
  intro acc
  have := ih (acc * 10 + (c.toNat - 48))
  rw [dv_cons]
  omega
theorem isDig_iff (b : UInt8) : isDig b = true ↔ 48 ≤ b.toNat ∧ b.toNat ≤ 57 := by
 simp only [isDig, ge8, le8, Bool.and_eq_true, decide_eq_true_eq]
 omega
theorem parseM (M : Nat) (hM : M = 18446744073709551615) : ∀ (l : List UInt8) (acc : Nat), (∀ c ∈ l, isDig c = true) → (dv acc l ≤ M → Lib.parseUintM M acc l = .ok (dv acc l)) ∧ (acc ≤ M → M < dv acc l → Lib.parseUintM M acc l = .range)
 | [], acc, _ => ⟨fun _ => by rw [dv_nil]; rfl, fun h1 h2 => by rw [dv_nil] at h2; omega⟩
 | c :: r, acc, h => by
  have hc := (isDig_iff c).1 (h c (by simp))
  have ih := parseM M hM r (acc * 10 + (c.toNat - 48)) (fun x hx => h x (by simp [hx]))
  have hle := dv_le r (acc * 10 + (c.toNat - 48))
  rw [dv_cons]
  generalize dv (acc * 10 + (c.toNat - 48)) r = V at *
  rw [Lib.parseUintM, if_pos hc]
  refine ⟨fun h0 => ?_, fun h0 h1 => ?_⟩
  ·rw [if_neg (by omega), if_neg (by omega)]
   exact ih.1 h0
  ·split
   ·rfl
   ·split
    ·rfl
    ·exact ih.2 (by omega) h1
theorem parseI (c : UInt8) (r : List UInt8) (h : ∀ x ∈ c :: r, isDig x = true) : (dv 0 (c :: r) < 9223372036854775808 → Lib.parseIntB 64 (c :: r) = .ok (dv 0 (c :: r) : Int)) ∧ (9223372036854775808 ≤ dv 0 (c :: r) → Lib.parseIntB 64 (c :: r) = .range) := by
 have hc := (isDig_iff c).1 (h c (by simp))
 have hm := parseM _ (show (2 ^ 64 - 1 : Nat) = 18446744073709551615 from rfl) (c :: r) 0 h
 have hb : Lib.parseUintB 64 (c :: r) = Lib.parseUintM (2 ^ 64 - 1) 0 (c :: r) := by rw [Lib.parseUintB, if_neg (by simp)]
 have hx : (if c.toNat = 43 ∨ c.toNat = 45 then r else c :: r) = c :: r := if_neg (by omega)
 unfold Lib.parseIntB
 simp only [hx, hb]
 generalize dv 0 (c :: r) = V at *
 have e1 : (2 ^ 64 - 1 : Nat) = 18446744073709551615 := rfl
 have e2 : (2 ^ (64 - 1) : Nat) = 9223372036854775808 := rfl
 rw [e1] at hm ⊢
 refine ⟨fun h0 => ?_, fun h0 => ?_⟩
 ·rw [hm.1 (by omega)]
  simp only [e2]
  rw [if_neg (by omega), if_neg (by omega), if_neg (by omega)]
 ·by_cases h1 : V ≤ 18446744073709551615
  ·rw [hm.1 h1]
   simp only [e2]
   rw [if_pos (by omega)]
  ·rw [hm.2 (by omega) (by omega)]
theorem callable70 : Callable Pg 70 := ⟨Tryz.f70, Tryz.func70, by kernel_rfl, by kernel_rfl⟩
theorem strArg {t : List UInt8} {I : Nat → Nat → Prop} {w : World} {u : Value} (h : DRep I w (.str t) u) : ∃ s : ByteArray, u = .string s ∧ s.data.toList = t := by
 cases h with
 | str _ s hs => exact ⟨s, rfl, hs⟩
theorem intArg {k : IntKind} {n : Int} {I : Nat → Nat → Prop} {w : World} {u : Value} (h : DRep I w (.int k n) u) : u = .int k n := by
 cases h; rfl
theorem args3 {t : List UInt8} {I : Nat → Nat → Prop} {w : World} {cargs : Array Value} (hs : cargs.size = 3) (h : ∀ (i : Nat) (x : D) (u : Value), [D.str t, .int .i64 10, .int .i64 64][i]? = some x → cargs[i]? = some u → DRep I w x u) :
    ∃ s : ByteArray, cargs = #[.string s, .int .i64 10, .int .i64 64] ∧ s.data.toList = t := by
 obtain ⟨l⟩ := cargs
 match l, hs with
 | [a, b, c], _ =>
  obtain ⟨s, rfl, hs⟩ := strArg (h 0 _ a rfl rfl)
  have hb := intArg (h 1 _ b rfl rfl)
  have hc := intArg (h 2 _ c rfl rfl)
  subst hb; subst hc
  exact ⟨s, rfl, hs⟩
theorem retTwo {I : Nat → Nat → Prop} {w : World} {a b : D} {x y : Value} (h1 : DRep I w a x) (h2 : DRep I w b y) : RetRep I w [a, b] (.tuple #[x, y]) :=
 .inr ⟨by simp, #[x, y], rfl, rfl, fun i d u hd hu => by
  match i with
  | 0 => simp at hd hu; subst hd; subst hu; exact h1
  | 1 => simp at hd hu; subst hd; subst hu; exact h2
  | i + 2 => simp at hd⟩
theorem parseOk (c : UInt8) (r : List UInt8) (h : ∀ x ∈ c :: r, isDig x = true) (hl : (c :: r).length ≤ 100000) (hv : dv 0 (c :: r) < 9223372036854775808) : Pure Pg 70 [.str (c :: r), .int .i64 10, .int .i64 64] [.int .i64 (dv 0 (c :: r) : Int), .nili] := by
 refine ⟨callable70, fun w I cargs hI hsz hargs hg => ?_⟩
 obtain ⟨s, rfl, hs⟩ := args3 hsz hargs
 have hp := (parseI c r h).1 hv
 rw [← hs] at hp
 have hlen : s.size ≤ 9223372036854775806 := by
  have : s.data.toList.length = (c :: r).length := by rw [hs]
  have h2 : s.data.toList.length = s.size := by rw [Array.length_toList]; rfl
  omega
 refine (Any.strconv_ParseInt_10_at64_ok Tryz.lays174 s hlen _ hp w).mono ?_
 rintro e w' ⟨rfl, hw⟩
 have hb : Below w.heap.size w w' := by
  rcases hw with rfl | ⟨t, rfl⟩
  ·exact Below.refl _ _
  ·exact Lib.bytesWorld_below _ _ _
 refine ⟨_, I, rfl, hb, fun _ _ x => x, fun _ _ x => .inl x, fun b o x => Nat.lt_of_lt_of_le (hI b o x) hb.size, retTwo ?_ .nili⟩
 rw [hs]
 exact .int _ _
theorem parseErr (c : UInt8) (r : List UInt8) (h : ∀ x ∈ c :: r, isDig x = true) (hl : (c :: r).length ≤ 100000) (hv : 9223372036854775808 ≤ dv 0 (c :: r)) : Pure Pg 70 [.str (c :: r), .int .i64 10, .int .i64 64] [.int .i64 9223372036854775807, .ifc] := by
 refine ⟨callable70, fun w I cargs hI hsz hargs hg => ?_⟩
 obtain ⟨s, rfl, hs⟩ := args3 hsz hargs
 have hp := (parseI c r h).2 hv
 rw [← hs] at hp
 have hlen : s.size ≤ 281474976710656 := by
  have : s.data.toList.length = (c :: r).length := by rw [hs]
  have h2 : s.data.toList.length = s.size := by rw [Array.length_toList]; rfl
  omega
 obtain ⟨ty, v, hc⟩ : ∃ ty v, w.cell? ⟨4, 0, none⟩ = some (.iface ty v) := by
  have h3 : DRep I w (.rp [.ifc]) (.pointer (some ⟨4, 0, none⟩)) := hg 4 [.ifc] rfl
  cases h3 with
  | rp cs b o U h1 hi hc hr =>
   have h4 := hr 0 .ifc rfl
   have h5 := hc 0 .ifc rfl
   generalize U 0 = u at h4 h5
   cases h4 with
   | ifc t v => exact ⟨t, v, h5⟩
 have hsat : Lib.intSat 64 s.data.toList = 9223372036854775807 := by
  have hd := (isDig_iff c).1 (h c (by simp))
  rw [hs, Lib.intSat, if_neg (by simp only [List.head?_cons, Option.map_some, Option.some.injEq]; omega)]
  rfl
 refine (Any.strconv_ParseInt_10_at64_range Tryz.lays174 s hlen hp (.iface ty v) w hc (.inr ⟨_, _, rfl⟩)).mono ?_
 rintro e w' ⟨N, rfl, hN, hcell, hb⟩
 refine ⟨_, I, rfl, hb, fun _ _ x => x, fun _ _ x => .inl x, fun b o x => Nat.lt_of_lt_of_le (hI b o x) hb.size, retTwo ?_ (.ifc _ _)⟩
 rw [hsat]
 exact .int _ _
end Go.Avm
namespace Go.Avm
open Go.Proofs
def digT (s : List UInt8) (a : Nat) : List UInt8 := sub s a (a + runN isDig (s.drop a))
section
variable (w : Bool) (s : List UInt8) (a v m : Nat) (l : List D)
noncomputable def numPr (c b : UInt8) (ha : a < s.length) (hlen : s.length ≤ 100000) (h0 : (digT s a)[(0 : Int).toNat]? = some c) (n : Int) (e : D) (hp : Pure Pg 70 [.str (digT s a), .int .i64 10, .int .i64 64] [.int .i64 n, e])
    (hta : a + (digT s a).length ≤ 1099511627776) (hl : l.length + 1 ≤ 549755813888) (z y x u g k9 : Bool) (hz : decide (1 < ((digT s a).length : Int)) = z) (hy : ((c.toNat : Int) == 48) = y) (hx : decide (((a + (digT s a).length : Nat) : Int) < (s.length : Int)) = x)
    (hxb : x = true → s[((a + (digT s a).length : Nat) : Int).toNat]? = some b) (hu : isSm b = u) (hg : ge8 65 b = g) (hk : le8 b 90 = k9) : Par Pg :=
 { hint := fun f' k => if f' = 55 then (if k = 11 then some (.call 70 [.str (digT s a), .int .i64 10, .int .i64 64] [.int .i64 n, e] hp) else if k = 20 then some (hAdd Pg a (digT s a).length hta) else if k = 27 then some (hB Pg _ z hz)
     else if k = 30 then some (.sidx (digT s a) 0 c (by omega) h0) else if k = 31 then some (hB Pg _ y hy) else if k = 40 then some (hB Pg _ x hx)
     else if k = 47 then (if h : x = true then some (.sidx s ((a + (digT s a).length : Nat) : Int) b (by omega) (hxb h)) else none) else if k = 55 then (if h : x = true then some (.sidx s ((a + (digT s a).length : Nat) : Int) b (by omega) (hxb h)) else none)
     else if k = 63 then (if h : x = true then some (.sidx s ((a + (digT s a).length : Nat) : Int) b (by omega) (hxb h)) else none) else if k = 48 then some (.call 56 [bD b] [.bool u] (hu ▸ smC b)) else if k = 56 then some (hB Pg _ g hg) else if k = 64 then some (hB Pg _ k9 hk) else none) else none
   calls := fun f' k _ => if f' = 55 then (if k = 8 then some (runSt w s a v l 54 (by simp) isDig digC hlen (by omega)) else if k = 72 then some (putCH w s a v m l 3 n (digT s a) hl hta) else none) else none }
def numBad (z y x u g k9 : Bool) : Bool := (z && y) || (x && (u || (g && k9)))
section
variable (c b : UInt8) (ha : a < s.length) (hlen : s.length ≤ 100000) (h0 : (digT s a)[(0 : Int).toNat]? = some c) (n : Int)
include c b ha hlen h0 n
theorem numGreat (hp : Pure Pg 70 [.str (digT s a), .int .i64 10, .int .i64 64] [.int .i64 n, .ifc]) (hta : a + (digT s a).length ≤ 1099511627776) (hl : l.length + 1 ≤ 549755813888) (hxb : decide (((a + (digT s a).length : Nat) : Int) < (s.length : Int)) = true → s[((a + (digT s a).length : Nat) : Int).toNat]? = some b) (rest : Heap) :
    HCall Pg 55 [scP] (ovl (stE w s a v m l) rest) [dI 2] (ovl (stE w s a v m l) rest) := by
 cases w with
 | false => exact hcall_of_run okP named (numPr false s a v m l c b ha hlen h0 n .ifc hp hta hl _ _ _ _ _ _ rfl rfl rfl hxb rfl rfl rfl) 1000 150000 55 (by kernel_rfl)
 | true => exact hcall_of_run okP named (numPr true s a v m l c b ha hlen h0 n .ifc hp hta hl _ _ _ _ _ _ rfl rfl rfl hxb rfl rfl rfl) 1000 150000 55 (by kernel_rfl)
theorem numFour (hp : Pure Pg 70 [.str (digT s a), .int .i64 10, .int .i64 64] [.int .i64 n, .nili]) (hta : a + (digT s a).length ≤ 1099511627776) (hl : l.length + 1 ≤ 549755813888) (z y x u g k9 : Bool) (hz : decide (1 < ((digT s a).length : Int)) = z) (hy : ((c.toNat : Int) == 48) = y) (hx : decide (((a + (digT s a).length : Nat) : Int) < (s.length : Int)) = x) (hxb : x = true → s[((a + (digT s a).length : Nat) : Int).toNat]? = some b) (hu : isSm b = u) (hg : ge8 65 b = g) (hk : le8 b 90 = k9) (hbad : numBad z y x u g k9 = true) (rest : Heap) :
    HCall Pg 55 [scP] (ovl (stE w s a v m l) rest) [dI 4] (ovl (stE w s a v m l) rest) := by
 cases w with
 | false => cases z <;> cases y <;> cases x <;> cases u <;> cases g <;> cases k9 <;> first | exact absurd hbad (by decide) | exact hcall_of_run okP named (numPr false s a v m l c b ha hlen h0 n .nili hp hta hl _ _ _ _ _ _ hz hy hx hxb hu hg hk) 1000 150000 55 (by kernel_rfl)
 | true => cases z <;> cases y <;> cases x <;> cases u <;> cases g <;> cases k9 <;> first | exact absurd hbad (by decide) | exact hcall_of_run okP named (numPr true s a v m l c b ha hlen h0 n .nili hp hta hl _ _ _ _ _ _ hz hy hx hxb hu hg hk) 1000 150000 55 (by kernel_rfl)
theorem numOk (hp : Pure Pg 70 [.str (digT s a), .int .i64 10, .int .i64 64] [.int .i64 n, .nili]) (hta : a + (digT s a).length ≤ 1099511627776) (hl : l.length + 1 ≤ 549755813888) (z y x u g k9 : Bool) (hz : decide (1 < ((digT s a).length : Int)) = z) (hy : ((c.toNat : Int) == 48) = y) (hx : decide (((a + (digT s a).length : Nat) : Int) < (s.length : Int)) = x) (hxb : x = true → s[((a + (digT s a).length : Nat) : Int).toNat]? = some b) (hu : isSm b = u) (hg : ge8 65 b = g) (hk : le8 b 90 = k9) (hbad : numBad z y x u g k9 = false) (rest : Heap) :
    HCall Pg 55 [scP] (ovl (stE w s a v m l) rest) [dI 0] (ovl (stE w s (a + (digT s a).length) (v + 1) m (l ++ [tokD 3 a (digT s a) n])) rest) := by
 cases w with
 | false => cases z <;> cases y <;> cases x <;> cases u <;> cases g <;> cases k9 <;> first | exact absurd hbad (by decide) | exact hcall_of_run okP named (numPr false s a v m l c b ha hlen h0 n .nili hp hta hl _ _ _ _ _ _ hz hy hx hxb hu hg hk) 1000 150000 55 (by kernel_rfl)
 | true => cases z <;> cases y <;> cases x <;> cases u <;> cases g <;> cases k9 <;> first | exact absurd hbad (by decide) | exact hcall_of_run okP named (numPr true s a v m l c b ha hlen h0 n .nili hp hta hl _ _ _ _ _ _ hz hy hx hxb hu hg hk) 1000 150000 55 (by kernel_rfl)
end
noncomputable def nxPr (b : UInt8) (ha : a < s.length) (hb : s[((a : Nat) : Int).toNat]? = some b) (h1 : isDig b = true) (C : CHint Pg) : Par Pg :=
 { hint := fun f' k => if f' = 32 then (if k = 14 then some (.sidx s (a : Int) b (by omega) hb) else if k = 17 then some (.call 54 [bD b] [.bool true] (h1 ▸ digC b)) else none) else none
   calls := fun f' k _ => if f' = 32 then (if k = 19 then some C else none) else none }
theorem nextNumErr (b : UInt8) (ha : a < s.length) (hb : s[((a : Nat) : Int).toNat]? = some b) (h1 : isDig b = true) (k : Int) (hc : ∀ rest : Heap, HCall Pg 55 [scP] (ovl (stE w s a v m l) rest) [dI k] (ovl (stE w s a v m l) rest)) (rest : Heap) :
    HCall Pg 32 [scP] (ovl (stE w s a v m l) rest) [dI k] (ovl (stE w s a v m l) rest) := by
 cases w with
 | false => exact hcall_of_run okP named (nxPr s a b ha hb h1 ⟨55, [scP], stE false s a v m l, [dI k], stE false s a v m l, fits_of hc⟩) 1000 130000 32 (by kernel_rfl)
 | true => exact hcall_of_run okP named (nxPr s a b ha hb h1 ⟨55, [scP], stE true s a v m l, [dI k], stE true s a v m l, fits_of hc⟩) 1000 130000 32 (by kernel_rfl)
theorem nextNumOk (b : UInt8) (ha : a < s.length) (hb : s[((a : Nat) : Int).toNat]? = some b) (h1 : isDig b = true) (a' v' : Nat) (l' : List D) (hc : ∀ rest : Heap, HCall Pg 55 [scP] (ovl (stE w s a v m l) rest) [dI 0] (ovl (stE w s a' v' m l') rest)) (rest : Heap) :
    HCall Pg 32 [scP] (ovl (stE w s a v m l) rest) [dI 0] (ovl (stE w s a' v' m l') rest) := by
 cases w with
 | false => exact hcall_of_run okP named (nxPr s a b ha hb h1 ⟨55, [scP], stE false s a v m l, [dI 0], stE false s a' v' m l', fits_of hc⟩) 1000 130000 32 (by kernel_rfl)
 | true => exact hcall_of_run okP named (nxPr s a b ha hb h1 ⟨55, [scP], stE true s a v m l, [dI 0], stE true s a' v' m l', fits_of hc⟩) 1000 130000 32 (by kernel_rfl)
end
end Go.Avm
namespace Go.Avm
open Go.Proofs
abbrev Tok := Int × List UInt8 × Int
def great (b : UInt8) : Bool := ge8 65 b && le8 b 90
def letter : List UInt8 → Bool
 | [] => false
 | b :: _ => isSm b || great b
def sg1 (b : UInt8) : Bool := decide (0 ≤ idxB b)
def sgnL (b : UInt8) (r : List UInt8) : List UInt8 :=
 match r with
 | [] => if sg1 b then [b] else []
 | c :: _ => if prs.contains [b, c] then [b, c] else if sg1 b then [b] else []
def tokL : List UInt8 → Except Int Tok
 | [] => .error 4
 | b :: r =>
  if isDig b then
   if 9223372036854775808 ≤ dv 0 ((b :: r).takeWhile isDig) then .error 2
   else if (decide (1 < ((b :: r).takeWhile isDig).length) && b.toNat == 48) || letter ((b :: r).drop ((b :: r).takeWhile isDig).length) then .error 4
   else .ok (3, (b :: r).takeWhile isDig, dv 0 ((b :: r).takeWhile isDig))
  else if isSm b then
   if isWord ((b :: r).takeWhile isNm) then .ok (2, (b :: r).takeWhile isNm, 0)
   else if 12 < ((b :: r).takeWhile isNm).length then .error 2 else .ok (1, (b :: r).takeWhile isNm, 0)
  else if sgnL b r = [] then .error 4 else .ok (4, sgnL b r, 0)
theorem tw_take (p : UInt8 → Bool) (l : List UInt8) : l.take (l.takeWhile p).length = l.takeWhile p := (List.prefix_iff_eq_take.1 (List.takeWhile_prefix p)).symm
theorem tw_le (p : UInt8 → Bool) (l : List UInt8) : (l.takeWhile p).length ≤ l.length := (List.takeWhile_sublist p).length_le
theorem sub_tw (p : UInt8 → Bool) (s : List UInt8) (a : Nat) : sub s a (a + runN p (s.drop a)) = (s.drop a).takeWhile p := by
 unfold sub runN
 rw [List.drop_take, Nat.add_sub_cancel_left, tw_take]
theorem rst_eq (s : List UInt8) (a : Nat) : rst s a = s.drop a := by rw [rst, List.take_length]
theorem pre2_eq (t : List UInt8) (k : Nat) : pre2 t k = t.take k := by rw [pre2, List.drop_zero]
theorem signT_eq (s : List UInt8) (a : Nat) (b : UInt8) (r : List UInt8) (h : s.drop a = b :: r) : signT s a b = sgnL b r := by
 unfold signT sgnL
 simp only [rst_eq, pre2_eq, h]
 cases r with
 | nil => simp [sg1]
 | cons c r =>
  have : decide (2 ≤ ((b :: c :: r).length : Int)) = true := by simp only [List.length_cons, decide_eq_true_eq]; omega
  rw [this, Bool.true_and]
  simp [sg1]
theorem tw_ne (p : UInt8 → Bool) (b : UInt8) (r : List UInt8) (h : p b = true) : ∃ t, (b :: r).takeWhile p = b :: t := ⟨r.takeWhile p, by simp [h]⟩
theorem tw_all (p : UInt8 → Bool) : ∀ (l : List UInt8), ∀ x ∈ l.takeWhile p, p x = true
 | [], x, hx => by simp at hx
 | b :: r, x, hx => by
  by_cases hb : p b = true
  ·rw [List.takeWhile_cons, if_pos hb] at hx
   rcases List.mem_cons.1 hx with rfl | hx
   ·exact hb
   ·exact tw_all p r x hx
  ·rw [List.takeWhile_cons, if_neg hb] at hx
   simp at hx
theorem isSm_isNm {b : UInt8} (h : isSm b = true) : isNm b = true := by simp [isNm, h]
theorem sgnL_pre (b : UInt8) (r : List UInt8) : sgnL b r <+: b :: r := by
 unfold sgnL
 cases r with
 | nil => dsimp only; split <;> simp
 | cons c r =>
  dsimp only
  split
  ·exact ⟨r, rfl⟩
  ·split
   ·exact ⟨c :: r, rfl⟩
   ·exact List.nil_prefix
theorem tokL_pre {b : UInt8} {r : List UInt8} {kd n : Int} {t : List UInt8} (h : tokL (b :: r) = .ok (kd, t, n)) : t <+: b :: r ∧ t ≠ [] := by
 rw [tokL] at h
 split at h
 ·rename_i hd
  split at h
  ·cases h
  ·split at h
   ·cases h
   ·cases h
    refine ⟨List.takeWhile_prefix _, ?_⟩
    obtain ⟨u, hu⟩ := tw_ne isDig b r hd
    rw [hu]; simp
 ·split at h
  ·rename_i hs
   obtain ⟨u, hu⟩ := tw_ne isNm b r (isSm_isNm hs)
   split at h
   ·cases h
    exact ⟨List.takeWhile_prefix _, by rw [hu]; simp⟩
   ·split at h
    ·cases h
    ·cases h
     exact ⟨List.takeWhile_prefix _, by rw [hu]; simp⟩
  ·split at h
   ·cases h
   ·rename_i hne
    cases h
    exact ⟨sgnL_pre b r, hne⟩
def NextSays (w : Bool) (s : List UInt8) (a v m : Nat) (l : List D) : Except Int Tok → Prop
 | .error k => ∃ w' m', k ≠ 0 ∧ ∀ rest : Heap, HCall Pg 32 [scP] (ovl (stE w s a v m l) rest) [dI k] (ovl (stE w' s a v m' l) rest)
 | .ok (kd, t, n) => ∃ w' m', ∀ rest : Heap, HCall Pg 32 [scP] (ovl (stE w s a v m l) rest) [dI 0] (ovl (stE w' s (a + t.length) (v + 1) m' (l ++ [tokD kd a t n])) rest)
section
variable (w : Bool) (s : List UInt8) (a v m : Nat) (l : List D)
theorem nextDig (b : UInt8) (r : List UInt8) (ha : a < s.length) (hr : s.drop a = b :: r) (hb : s[((a : Nat) : Int).toNat]? = some b) (hlen : s.length ≤ 100000) (hl : l.length + 1 ≤ 549755813888) (hd : isDig b = true) : NextSays w s a v m l (tokL (b :: r)) := by
 have hT : digT s a = (b :: r).takeWhile isDig := by rw [digT, sub_tw, hr]
 obtain ⟨t, ht⟩ := tw_ne isDig b r hd
 have hall := tw_all isDig (b :: r)
 have hle := tw_le isDig (b :: r)
 have hrl : (b :: r).length = s.length - a := by rw [← hr, List.length_drop]
 have htl : a + (digT s a).length ≤ s.length := by rw [hT]; omega
 have h0 : (digT s a)[(0 : Int).toNat]? = some b := by rw [hT, ht]; rfl
 have hbeh : ∀ c, s[a + (digT s a).length]? = some c → (b :: r).drop ((b :: r).takeWhile isDig).length = c :: ((b :: r).drop ((b :: r).takeWhile isDig).length).tail := fun c hc => by
  have : ((b :: r).drop ((b :: r).takeWhile isDig).length).head? = some c := by
   rw [hT, ← hr] at hc
   rw [List.head?_drop, ← hr, List.getElem?_drop]
   exact hc
  cases hq : (b :: r).drop ((b :: r).takeWhile isDig).length with
  | nil => rw [hq] at this; simp at this
  | cons x y => rw [hq] at this; simp at this; subst this; rfl
 by_cases hv : 9223372036854775808 ≤ dv 0 ((b :: r).takeWhile isDig)
 ·have e : tokL (b :: r) = .error 2 := by rw [tokL, if_pos hd, if_pos hv]
  rw [e]
  obtain ⟨c, hc⟩ : ∃ c, decide (((a + (digT s a).length : Nat) : Int) < (s.length : Int)) = true → s[((a + (digT s a).length : Nat) : Int).toNat]? = some c := by
   by_cases hx : a + (digT s a).length < s.length
   ·exact ⟨s[a + (digT s a).length], fun _ => by simp only [Int.toNat_natCast]; exact List.getElem?_eq_getElem hx⟩
   ·exact ⟨0, fun h => by have := of_decide_eq_true h; omega⟩
  refine ⟨w, m, by decide, nextNumErr w s a v m l b ha hb hd 2 (numGreat w s a v m l b c ha hlen h0 9223372036854775807 ?_ (by omega) hl hc)⟩
  rw [hT]
  rw [ht] at hv hall ⊢
  exact parseErr b t hall (by rw [← ht]; omega) hv
 ·have hp : Pure Pg 70 [.str (digT s a), .int .i64 10, .int .i64 64] [.int .i64 (dv 0 (digT s a) : Int), .nili] := by
    rw [hT]
    rw [ht] at hv hall ⊢
    exact parseOk b t hall (by rw [← ht]; omega) (by omega)
  obtain ⟨c, x, hx, hxb, hlet⟩ : ∃ c x, decide (((a + (digT s a).length : Nat) : Int) < (s.length : Int)) = x ∧ (x = true → s[((a + (digT s a).length : Nat) : Int).toNat]? = some c) ∧ letter ((b :: r).drop ((b :: r).takeWhile isDig).length) = (x && (isSm c || (ge8 65 c && le8 c 90))) := by
   by_cases hx : a + (digT s a).length < s.length
   ·have hg : s[a + (digT s a).length]? = some s[a + (digT s a).length] := List.getElem?_eq_getElem hx
    refine ⟨s[a + (digT s a).length], true, by simp only [decide_eq_true_eq]; omega, fun _ => by simp only [Int.toNat_natCast]; exact hg, ?_⟩
    rw [hbeh _ hg]; rfl
   ·refine ⟨0, false, by simp only [decide_eq_false_iff_not]; omega, fun h => (by cases h), ?_⟩
    have : (b :: r).drop ((b :: r).takeWhile isDig).length = [] := List.drop_eq_nil_iff.2 (by rw [← hT]; omega)
    rw [this]; rfl
  have hz : decide (1 < ((digT s a).length : Int)) = decide (1 < ((b :: r).takeWhile isDig).length) := by rw [hT]; exact decide_eq_decide.2 (by omega)
  have hy : ((b.toNat : Int) == 48) = (b.toNat == 48) := by
   rw [Bool.eq_iff_iff]; simp only [beq_iff_eq]; omega
  by_cases hbad : numBad (decide (1 < ((b :: r).takeWhile isDig).length)) (b.toNat == 48) x (isSm c) (ge8 65 c) (le8 c 90) = true
  ·have e : tokL (b :: r) = .error 4 := by
     rw [tokL, if_pos hd, if_neg hv, if_pos]
     rw [hlet]
     exact hbad
   rw [e]
   exact ⟨w, m, by decide, nextNumErr w s a v m l b ha hb hd 4 (numFour w s a v m l b c ha hlen h0 _ hp (by omega) hl _ _ _ _ _ _ hz hy hx hxb rfl rfl rfl hbad)⟩
  ·have e : tokL (b :: r) = .ok (3, (b :: r).takeWhile isDig, dv 0 ((b :: r).takeWhile isDig)) := by
     rw [tokL, if_pos hd, if_neg hv, if_neg]
     rw [hlet]
     exact hbad
   rw [e, ← hT]
   exact ⟨w, m, nextNumOk w s a v m l b ha hb hd _ _ _ (numOk w s a v m l b c ha hlen h0 _ hp (by omega) hl _ _ _ _ _ _ hz hy hx hxb rfl rfl rfl (by simpa only [Bool.not_eq_true] using hbad))⟩
theorem nextC (b : UInt8) (r : List UInt8) (ha : a < s.length) (hr : s.drop a = b :: r) (hlen : s.length ≤ 100000) (hl : l.length + 1 ≤ 549755813888) : NextSays w s a v m l (tokL (b :: r)) := by
 have hb0 : s[a]? = some b := by
  have : (s.drop a)[0]? = some b := by rw [hr]; rfl
  rwa [List.getElem?_drop, Nat.add_zero] at this
 have hb : s[((a : Nat) : Int).toNat]? = some b := by simpa using hb0
 have hrl : (b :: r).length = s.length - a := by rw [← hr, List.length_drop]
 cases hd : isDig b with
 | true => exact nextDig w s a v m l b r ha hr hb hlen hl hd
 | false =>
  cases hs : isSm b with
  | true =>
   have hT : nmT s a = (b :: r).takeWhile isNm := by rw [nmT, sub_tw, hr]
   have hle := tw_le isNm (b :: r)
   have hta : a + (nmT s a).length ≤ 1099511627776 := by rw [hT]; omega
   have e : tokL (b :: r) = (if isWord (nmT s a) then .ok (2, nmT s a, 0) else if 12 < (nmT s a).length then .error 2 else .ok (1, nmT s a, 0)) := by
    rw [tokL, if_neg (by simp [hd]), if_pos hs, hT]
   rw [e]
   cases hu : isWord (nmT s a) with
   | true => exact ⟨_, _, nextWord w s a v m l b ha hb hlen hd hs hu hl hta⟩
   | false =>
    rw [if_neg (by simp)]
    by_cases h12 : 12 < (nmT s a).length
    ·rw [if_pos h12]
     exact ⟨_, _, by decide, nextLong w s a v m l b ha hb hlen hd hs hu (by simp only [decide_eq_true_eq]; omega) hl hta⟩
    ·rw [if_neg h12]
     exact ⟨_, _, nextName w s a v m l b ha hb hlen hd hs hu (by simp only [decide_eq_false_iff_not]; omega) hl hta⟩
  | false =>
   have e : tokL (b :: r) = (if sgnL b r = [] then .error 4 else .ok (4, sgnL b r, 0)) := by
    rw [tokL, if_neg (by simp [hd]), if_neg (by simp [hs])]
   have hT := signT_eq s a b r hr
   have hb' : (rst s a)[(0 : Int).toNat]? = some b := by rw [rst_eq, hr]; rfl
   have hle := (sgnL_pre b r).length_le
   rw [e]
   by_cases h0 : sgnL b r = []
   ·rw [if_pos h0]
    exact ⟨_, _, by decide, nextNone w s a v m l b ha hb hb' hd hs _ hT (by rw [h0]; rfl) hl (by omega)⟩
   ·rw [if_neg h0]
    exact ⟨_, _, nextSign w s a v m l b ha hb hb' hd hs _ hT (by simpa using h0) hl (by omega)⟩
end
end Go.Avm
