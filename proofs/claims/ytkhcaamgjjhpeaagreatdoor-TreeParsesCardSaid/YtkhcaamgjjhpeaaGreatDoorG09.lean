/-
  Texts as programs: the reader's statements.
-/
import Derived.Test.YtkhcaamgjjhpeaaGreatDoorG08
import Derived.Test.YtkhcaamgjjhpeaaGreatDoorG07
set_option linter.unusedSectionVars false
namespace Go.Avm
open Go.Proofs
abbrev sR : St' → List D := fun x => [stD x]
abbrev bR : List St' → List D := fun l => [.ro (stL l)]
theorem RC.bindp {L : List T} {F : Nat} {args : List AV} {s0 : RS} {α β : Type} {g : α → List D} {f' : Nat} {args' : List AV} {pre' : List (Nat × Ent)} {post' : β → List (Nat × Ent)} {bd' : List (Nat × Ent)} {g' : β → List D} {s : RS} {r : Res β} {k : β → RS → Res α} (h : RCp L f' args' pre' post' bd' g' s r)
    (hb : ∀ p e s', (HX f' args' (rd L s ++ pre') (flt p e) (rd L s' ++ bd')) → HX F args (rd L s0) (flt p e) (rd L s'))
    (hk : ∀ a s', s'.i < L.length → (HC f' args' (rd L s ++ pre') (g' a) (rd L s' ++ post' a)) → RC L F args g s0 (k a s')) : RC L F args g s0 (r.bind k) := by
 cases r with
 | ok a s' => exact hk a s' h.1 h.2
 | bad p e s' => exact hb p e s' h
 | out => trivial
section
variable {L : List T} (hL : Toks L)
include hL
theorem stmtStep (n : Nat) (ihB : ∀ s : RS, s.i < L.length → RC L 40 [rP] bR s (sBlock L n s)) (s0 : RS) (l0 : s0.i < L.length) : RC L 62 [rP] sR s0 (sStmt L (n + 1) s0) := by
 have l : s0.st.i < L.length := l0
 simp only [sStmt]
 refine RC.may l hL [108, 101, 116] ?_ ?_ ?_
 ·exact fun _ _ _ c => qX { calls := tC [(62, 16, 2078, cRo rfl (nowR l))], pans := tabP Pg [(62, 4, 2386, ⟨1, some (pOf c), []⟩)] } 1000
 ·intro s1 l1 c1
  refine RC.bindp (letR hL n s0.st.n (cur L s0.st).p _ l1) ?_ ?_
  ·exact fun _ _ _ c => qX { calls := tC [(62, 16, 2078, cRo rfl (nowR l)), (62, 23, 2463, cOf c1)], pans := tabP Pg [(62, 5, 2540, ⟨1, some (pOf c), []⟩)] } 1000
  ·intro x s2 l2 c2
   obtain ⟨xk, xid, xnm, xty, xn, xp, xes, xbd, xel⟩ := x
   exact ⟨l2, qN { calls := tC [(62, 16, 2078, cRo rfl (nowR l)), (62, 23, 2463, cOf c1), (62, 25, 2617, cOf c2)] } 1000⟩
 ·intro h1
  refine RC.may l hL [105, 102] ?_ ?_ ?_
  ·exact fun _ _ _ c => qX { calls := tC [(62, 16, 2078, cRo rfl (nowR l)), (62, 23, 2463, cOf (mayF l [108, 101, 116] h1))], pans := tabP Pg [(62, 6, 2540, ⟨1, some (pOf c), []⟩)] } 1000
  ·intro s2 l2 c2
   refine RC.bind ((exAll hL n).expr 1 _ l2) ?_ ?_
   ·exact fun _ _ _ c => qX { calls := tC [(62, 16, 2078, cRo rfl (nowR l)), (62, 23, 2463, cOf (mayF l [108, 101, 116] h1)), (62, 28, 2617, cOf c2)], pans := tabP Pg [(62, 7, 2694, ⟨1, some (pOf c), []⟩)] } 1000
   ·intro x s3 l3 c3
    obtain ⟨kx, ox, nmx, nx, px, xsx⟩ := x
    refine RC.bind (ihB _ l3) ?_ ?_
    ·exact fun _ _ _ c => qX { calls := tC [(62, 16, 2078, cRo rfl (nowR l)), (62, 23, 2463, cOf (mayF l [108, 101, 116] h1)), (62, 28, 2617, cOf c2), (62, 30, 2771, cOf c3)], pans := tabP Pg [(62, 8, 3156, ⟨1, some (pOf c), []⟩)] } 1000
    ·intro b1 s4 l4 c4
     refine RC.may l4 hL [101, 108, 115, 101] ?_ ?_ ?_
     ·exact fun _ _ _ c => qX { calls := tC [(62, 16, 2078, cRo rfl (nowR l)), (62, 23, 2463, cOf (mayF l [108, 101, 116] h1)), (62, 28, 2617, cOf c2), (62, 30, 2771, cOf c3), (62, 35, 3233, cOf c4)], pans := tabP Pg [(62, 9, 3387, ⟨1, some (pOf c), []⟩)] } 1000
     ·intro s5 l5 c5
      refine RC.bind (ihB _ l5) ?_ ?_
      ·exact fun _ _ _ c => qX { calls := tC [(62, 16, 2078, cRo rfl (nowR l)), (62, 23, 2463, cOf (mayF l [108, 101, 116] h1)), (62, 28, 2617, cOf c2), (62, 30, 2771, cOf c3), (62, 35, 3233, cOf c4), (62, 38, 3464, cOf c5)], pans := tabP Pg [(62, 10, 3464, ⟨1, some (pOf c), []⟩)] } 1000
      ·intro b2 s6 l6 c6
       exact ⟨l6, qN { calls := tC [(62, 16, 2078, cRo rfl (nowR l)), (62, 23, 2463, cOf (mayF l [108, 101, 116] h1)), (62, 28, 2617, cOf c2), (62, 30, 2771, cOf c3), (62, 35, 3233, cOf c4), (62, 38, 3464, cOf c5), (62, 40, 3541, cOf c6)] } 1000⟩
     ·intro h5
      exact ⟨l4, qN { calls := tC [(62, 16, 2078, cRo rfl (nowR l)), (62, 23, 2463, cOf (mayF l [108, 101, 116] h1)), (62, 28, 2617, cOf c2), (62, 30, 2771, cOf c3), (62, 35, 3233, cOf c4), (62, 38, 3464, cOf (mayF l4 [101, 108, 115, 101] h5))] } 1000⟩
  ·intro h2
   refine RC.may l hL [119, 104, 105, 108, 101] ?_ ?_ ?_
   ·exact fun _ _ _ c => qX { calls := tC [(62, 16, 2078, cRo rfl (nowR l)), (62, 23, 2463, cOf (mayF l [108, 101, 116] h1)), (62, 28, 2617, cOf (mayF l [105, 102] h2))], pans := tabP Pg [(62, 11, 2694, ⟨1, some (pOf c), []⟩)] } 1000
   ·intro s3 l3 c3
    refine RC.bind ((exAll hL n).expr 1 _ l3) ?_ ?_
    ·exact fun _ _ _ c => qX { calls := tC [(62, 16, 2078, cRo rfl (nowR l)), (62, 23, 2463, cOf (mayF l [108, 101, 116] h1)), (62, 28, 2617, cOf (mayF l [105, 102] h2)), (62, 44, 2771, cOf c3)], pans := tabP Pg [(62, 12, 2848, ⟨1, some (pOf c), []⟩)] } 1000
    ·intro x s4 l4 c4
     obtain ⟨kx, ox, nmx, nx, px, xsx⟩ := x
     refine RC.bind (ihB _ l4) ?_ ?_
     ·exact fun _ _ _ c => qX { calls := tC [(62, 16, 2078, cRo rfl (nowR l)), (62, 23, 2463, cOf (mayF l [108, 101, 116] h1)), (62, 28, 2617, cOf (mayF l [105, 102] h2)), (62, 44, 2771, cOf c3), (62, 46, 2925, cOf c4)], pans := tabP Pg [(62, 13, 3310, ⟨1, some (pOf c), []⟩)] } 1000
     ·intro b1 s5 l5 c5
      exact ⟨l5, qN { calls := tC [(62, 16, 2078, cRo rfl (nowR l)), (62, 23, 2463, cOf (mayF l [108, 101, 116] h1)), (62, 28, 2617, cOf (mayF l [105, 102] h2)), (62, 44, 2771, cOf c3), (62, 46, 2925, cOf c4), (62, 51, 3387, cOf c5)] } 1000⟩
   ·intro h3
    refine RC.may l hL [114, 101, 116, 117, 114, 110] ?_ ?_ ?_
    ·exact fun _ _ _ c => qX { calls := tC [(62, 16, 2078, cRo rfl (nowR l)), (62, 23, 2463, cOf (mayF l [108, 101, 116] h1)), (62, 28, 2617, cOf (mayF l [105, 102] h2)), (62, 44, 2771, cOf (mayF l [119, 104, 105, 108, 101] h3))], pans := tabP Pg [(62, 14, 2848, ⟨1, some (pOf c), []⟩)] } 1000
    ·intro s4 l4 c4
     refine RC.ite (fun h5 => ?_) (fun h5 => ?_)
     ·
      refine RC.bind (wantR l4 hL [59]) ?_ ?_
      ·exact fun _ _ _ c => qX { calls := tC [(62, 16, 2078, cRo rfl (nowR l)), (62, 23, 2463, cOf (mayF l [108, 101, 116] h1)), (62, 28, 2617, cOf (mayF l [105, 102] h2)), (62, 44, 2771, cOf (mayF l [119, 104, 105, 108, 101] h3)), (62, 55, 2925, cOf c4), (62, 58, 3233, cOf (isRT l4 [59] h5))], pans := tabP Pg [(62, 18, 3310, ⟨1, some (pOf c), []⟩)] } 1000
      ·intro _ s6 l6 c6
       exact ⟨l6, qN { calls := tC [(62, 16, 2078, cRo rfl (nowR l)), (62, 23, 2463, cOf (mayF l [108, 101, 116] h1)), (62, 28, 2617, cOf (mayF l [105, 102] h2)), (62, 44, 2771, cOf (mayF l [119, 104, 105, 108, 101] h3)), (62, 55, 2925, cOf c4), (62, 58, 3233, cOf (isRT l4 [59] h5)), (62, 65, 3387, cOf c6)] } 1000⟩
     ·
      refine RC.bind ((exAll hL n).expr 1 _ l4) ?_ ?_
      ·exact fun _ _ _ c => qX { calls := tC [(62, 16, 2078, cRo rfl (nowR l)), (62, 23, 2463, cOf (mayF l [108, 101, 116] h1)), (62, 28, 2617, cOf (mayF l [105, 102] h2)), (62, 44, 2771, cOf (mayF l [119, 104, 105, 108, 101] h3)), (62, 55, 2925, cOf c4), (62, 58, 3233, cOf (isRT l4 [59] h5))], pans := tabP Pg [(62, 17, 3310, ⟨1, some (pOf c), []⟩)] } 1000
      ·intro x s6 l6 c6
       obtain ⟨kx, ox, nmx, nx, px, xsx⟩ := x
       refine RC.bind (wantR l6 hL [59]) ?_ ?_
       ·exact fun _ _ _ c => qX { calls := tC [(62, 16, 2078, cRo rfl (nowR l)), (62, 23, 2463, cOf (mayF l [108, 101, 116] h1)), (62, 28, 2617, cOf (mayF l [105, 102] h2)), (62, 44, 2771, cOf (mayF l [119, 104, 105, 108, 101] h3)), (62, 55, 2925, cOf c4), (62, 58, 3233, cOf (isRT l4 [59] h5)), (62, 61, 3387, cOf c6)], pans := tabP Pg [(62, 18, 3618, ⟨1, some (pOf c), []⟩)] } 1000
       ·intro _ s7 l7 c7
        exact ⟨l7, qN { calls := tC [(62, 16, 2078, cRo rfl (nowR l)), (62, 23, 2463, cOf (mayF l [108, 101, 116] h1)), (62, 28, 2617, cOf (mayF l [105, 102] h2)), (62, 44, 2771, cOf (mayF l [119, 104, 105, 108, 101] h3)), (62, 55, 2925, cOf c4), (62, 58, 3233, cOf (isRT l4 [59] h5)), (62, 61, 3387, cOf c6), (62, 65, 3695, cOf c7)] } 1000⟩
    ·intro h4
     refine RC.may l hL [112, 114, 105, 110, 116] ?_ ?_ ?_
     ·exact fun _ _ _ c => qX { calls := tC [(62, 16, 2078, cRo rfl (nowR l)), (62, 23, 2463, cOf (mayF l [108, 101, 116] h1)), (62, 28, 2617, cOf (mayF l [105, 102] h2)), (62, 44, 2771, cOf (mayF l [119, 104, 105, 108, 101] h3)), (62, 55, 2925, cOf (mayF l [114, 101, 116, 117, 114, 110] h4))], pans := tabP Pg [(62, 19, 3002, ⟨1, some (pOf c), []⟩)] } 1000
     ·intro s5 l5 c5
      refine RC.bind ((exAll hL n).expr 1 _ l5) ?_ ?_
      ·exact fun _ _ _ c => qX { calls := tC [(62, 16, 2078, cRo rfl (nowR l)), (62, 23, 2463, cOf (mayF l [108, 101, 116] h1)), (62, 28, 2617, cOf (mayF l [105, 102] h2)), (62, 44, 2771, cOf (mayF l [119, 104, 105, 108, 101] h3)), (62, 55, 2925, cOf (mayF l [114, 101, 116, 117, 114, 110] h4)), (62, 68, 3079, cOf c5)], pans := tabP Pg [(62, 20, 3156, ⟨1, some (pOf c), []⟩)] } 1000
      ·intro x s6 l6 c6
       obtain ⟨kx, ox, nmx, nx, px, xsx⟩ := x
       refine RC.bind (wantR l6 hL [59]) ?_ ?_
       ·exact fun _ _ _ c => qX { calls := tC [(62, 16, 2078, cRo rfl (nowR l)), (62, 23, 2463, cOf (mayF l [108, 101, 116] h1)), (62, 28, 2617, cOf (mayF l [105, 102] h2)), (62, 44, 2771, cOf (mayF l [119, 104, 105, 108, 101] h3)), (62, 55, 2925, cOf (mayF l [114, 101, 116, 117, 114, 110] h4)), (62, 68, 3079, cOf c5), (62, 70, 3233, cOf c6)], pans := tabP Pg [(62, 21, 3618, ⟨1, some (pOf c), []⟩)] } 1000
       ·intro _ s7 l7 c7
        exact ⟨l7, qN { calls := tC [(62, 16, 2078, cRo rfl (nowR l)), (62, 23, 2463, cOf (mayF l [108, 101, 116] h1)), (62, 28, 2617, cOf (mayF l [105, 102] h2)), (62, 44, 2771, cOf (mayF l [119, 104, 105, 108, 101] h3)), (62, 55, 2925, cOf (mayF l [114, 101, 116, 117, 114, 110] h4)), (62, 68, 3079, cOf c5), (62, 70, 3233, cOf c6), (62, 75, 3695, cOf c7)] } 1000⟩
     ·intro h5
      refine RC.bindp (namedR hL n s0.st.n (cur L s0.st).p _ l) ?_ ?_
      ·exact fun _ _ _ c => qX { calls := tC [(62, 16, 2078, cRo rfl (nowR l)), (62, 23, 2463, cOf (mayF l [108, 101, 116] h1)), (62, 28, 2617, cOf (mayF l [105, 102] h2)), (62, 44, 2771, cOf (mayF l [119, 104, 105, 108, 101] h3)), (62, 55, 2925, cOf (mayF l [114, 101, 116, 117, 114, 110] h4)), (62, 68, 3079, cOf (mayF l [112, 114, 105, 110, 116] h5))], pans := tabP Pg [(62, 3, 3156, ⟨1, some (pOf c), []⟩)] } 1000
      ·intro x s6 l6 c6
       obtain ⟨xk, xid, xnm, xty, xn, xp, xes, xbd, xel⟩ := x
       exact ⟨l6, qN { calls := tC [(62, 16, 2078, cRo rfl (nowR l)), (62, 23, 2463, cOf (mayF l [108, 101, 116] h1)), (62, 28, 2617, cOf (mayF l [105, 102] h2)), (62, 44, 2771, cOf (mayF l [119, 104, 105, 108, 101] h3)), (62, 55, 2925, cOf (mayF l [114, 101, 116, 117, 114, 110] h4)), (62, 68, 3079, cOf (mayF l [112, 114, 105, 110, 116] h5)), (62, 20, 3233, cOf c6)] } 1000⟩
end
def blL (l : List St') : List (Nat × AV) := [(0, rP), (3, .vec 200000 l.length 9 (stL l))]
abbrev blE (v : Nat) : List (Nat × Ent) := [(200000, ⟨v, none⟩)]
def BlAt (L : List T) (s : RS) (r : List St') : Res (List St') → Prop
 | .ok r2 s' => s'.i < L.length ∧ RL 17 (lO 40 3) (blL r) (rd L s ++ blE r.length) (.exit 0) (blL r2) (rd L s' ++ blE r2.length)
 | .bad q t s' => ∃ v, RL 17 (lO 40 3) (blL r) (rd L s ++ blE r.length) (.panic (flt q t)) [] (rd L s' ++ blE v)
 | .out => True
noncomputable def blLH {L : List T} {s : RS} {r : List St'} {hp' : List (Nat × Ent)} {x : AExit} {l' : List (Nat × AV)} (h : RL 17 (lO 40 3) (blL r) (rd L s ++ blE r.length) x l' hp') : LHint Pg :=
 ⟨17, loopOf Pg 40 3, blL r, fun _ => rd L s ++ blE r.length, x, l', fun _ => hp', fun rest X hP hN => (h rest X hP hN).aw⟩
section
variable {L : List T} {s : RS} (l : s.i < L.length) (r : List St')
include l
theorem blStop (h : isT L s [125] = true) : RE 17 (lO 40 3) (blL r) (rd L s ++ blE r.length) (.exit 0) (blL r) (rd L s ++ blE r.length) :=
 qE { calls := tC [(40, 7, 3017, cOf (isRT l [125] h))] } 40 3000
theorem blBad (h : isT L s [125] = false) {q t : Int} {s2 : RS} (c : HX 62 [rP] (rd L s) (flt q t) (rd L s2)) : RE 17 (lO 40 3) (blL r) (rd L s ++ blE r.length) (.panic (flt q t)) [] (rd L s2 ++ blE r.length) :=
 qE { calls := tC [(40, 7, 3017, cOf (isRT l [125] h))], pans := tabP Pg [(40, 4, 3034, ⟨2, some (pOf c), []⟩)] } 40 3000
theorem blGo0 (h : isT L s [125] = false) (hr : r.length < 1000000) (k id : Int) (nm : List UInt8) (ty n p : Int) (es : List Ex) (bd el : List St') {s2 : RS} (c : HC 62 [rP] (rd L s) [stD (.mk k id nm ty n p es bd el)] (rd L s2)) : RE 17 (lO 40 3) (blL r) (rd L s ++ blE r.length) .normal [(0, rP), (3, .vec 200000 (r.length + 1) 9 (stL r ++ [stD (.mk k id nm ty n p es bd el)]))] (rd L s2 ++ blE (r.length + 1)) :=
 qE { hint := qT 40 [(13, .app (stL r) 1 (by rw [stL_len]; omega))], calls := tC [(40, 7, 3017, cOf (isRT l [125] h)), (40, 11, 3068, cOf c)] } 40 3000
theorem blGo (h : isT L s [125] = false) (hr : r.length < 1000000) (x : St') {s2 : RS} (c : HC 62 [rP] (rd L s) [stD x] (rd L s2)) : RE 17 (lO 40 3) (blL r) (rd L s ++ blE r.length) .normal (blL (r ++ [x])) (rd L s2 ++ blE (r ++ [x]).length) := by
 obtain ⟨k, id, nm, ty, n, p, es, bd, el⟩ := x
 have e1 : (r ++ [St'.mk k id nm ty n p es bd el]).length = r.length + 1 := by simp
 have e2 : stL (r ++ [St'.mk k id nm ty n p es bd el]) = stL r ++ [stD (.mk k id nm ty n p es bd el)] := by rw [stL_app]; rfl
 simp only [blL, e1, e2]
 exact blGo0 l r h hr k id nm ty n p es bd el c
end
section
variable {L : List T} {s s1 s2 s3 : RS} {t1 t2 : T} {q t : Int} (c1 : HC 34 [rP, .d (.str [123])] (rd L s) [tD t1] (rd L s1))
theorem bkP1 (c : HX 34 [rP, .d (.str [123])] (rd L s) (flt q t) (rd L s1)) : HX 40 [rP] (rd L s) (flt q t) (rd L s1) :=
 qX { pans := tabP Pg [(40, 2, 1034, ⟨1, some (pOf c), []⟩)] } 1000
include c1
theorem bkP2 (v : Nat) (h : RL 17 (lO 40 3) (blL []) (rd L s1 ++ blE ([] : List St').length) (.panic (flt q t)) [] (rd L s2 ++ blE v)) : HX 40 [rP] (rd L s) (flt q t) (rd L s2) :=
 qX { nils := fun f r => if f = 40 then (if r = 2 then some ⟨0, 3, 200000, 9, true, false⟩ else none) else none, loops := fun f q => if f = 40 then (if q = 3 then some (blLH h) else none) else none, calls := tC [(40, 5, 1051, cOf c1)] } 1000
section
variable (r : List St') (h : RL 17 (lO 40 3) (blL []) (rd L s1 ++ blE ([] : List St').length) (.exit 0) (blL r) (rd L s2 ++ blE r.length))
include r h
theorem bkP3 (c : HX 34 [rP, .d (.str [125])] (rd L s2) (flt q t) (rd L s3)) : HX 40 [rP] (rd L s) (flt q t) (rd L s3) :=
 qX { nils := fun f r => if f = 40 then (if r = 2 then some ⟨0, 3, 200000, 9, true, false⟩ else none) else none, loops := fun f q => if f = 40 then (if q = 3 then some (blLH h) else none) else none, calls := tC [(40, 5, 1051, cOf c1)], pans := tabP Pg [(40, 5, 1051, ⟨1, some (pOf c), []⟩)] } 1000
theorem bkOk (c : HC 34 [rP, .d (.str [125])] (rd L s2) [tD t2] (rd L s3)) : HC 40 [rP] (rd L s) [.ro (stL r)] (rd L s3) :=
 qN { nils := fun f r => if f = 40 then (if r = 2 then some ⟨0, 3, 200000, 9, true, false⟩ else none) else none, loops := fun f q => if f = 40 then (if q = 3 then some (blLH h) else none) else none, calls := tC [(40, 5, 1051, cOf c1), (40, 15, 1068, cOf c)] } 1000
end
end
structure StAll (L : List T) (n : Nat) : Prop where
 block : ∀ s : RS, s.i < L.length → RC L 40 [rP] bR s (sBlock L n s)
 stmts : ∀ (r : List St') (s : RS), s.i < L.length → r.length ≤ s.i → BlAt L s r (sStmts L n r s)
 stmt : ∀ s : RS, s.i < L.length → RC L 62 [rP] sR s (sStmt L n s)
theorem stAll {L : List T} (hL : Toks L) : ∀ n, StAll L n
 | 0 => ⟨fun _ _ => trivial, fun _ _ _ _ => trivial, fun _ _ => trivial⟩
 | n + 1 => by
  obtain ⟨ihB, ihS, ihT⟩ := stAll hL n
  refine ⟨fun s l => ?_, fun r s l hr => ?_, stmtStep hL n ihB⟩
  ·simp only [sBlock]
   have c1 := wantR l hL [123]
   revert c1
   cases sWant L [123] s with
   | out => exact fun _ => trivial
   | bad q t s1 => exact fun c1 => bkP1 c1
   | ok t1 s1 =>
    intro c1
    have c2 := ihS [] s1 c1.1 (Nat.zero_le _)
    simp only [Res.bind]
    revert c2
    cases sStmts L n [] s1 with
    | out => exact fun _ => trivial
    | bad q t s2 => exact fun ⟨v, c2⟩ => bkP2 c1.2 v c2
    | ok r s2 =>
     intro c2
     have c3 := wantR c2.1 hL [125]
     simp only
     revert c3
     cases sWant L [125] s2 with
     | out => exact fun _ => trivial
     | bad q t s3 => exact fun c3 => bkP3 c1.2 r c2.2 c3
     | ok t2 s3 => exact fun c3 => ⟨c3.1, bkOk c1.2 r c2.2 c3.2⟩
  ·simp only [sStmts]
   have hlen : r.length < 1000000 := by have := hL.len; omega
   cases h : isT L s [125] with
   | true => exact ⟨l, fun rest X hP hN => lw_stop (blStop l r h rest X hP hN) (by simp)⟩
   | false =>
    have c1 := ihT s l
    have g1 := (stmt_gr L n).2.2 s
    simp only [cond_false]
    revert c1 g1
    cases sStmt L n s with
    | out => exact fun _ _ => trivial
    | bad q t s1 => exact fun c1 _ => ⟨_, fun rest X hP hN => lw_stop (blBad l r h c1 rest X hP hN) (by simp)⟩
    | ok x s1 =>
     intro c1 g1
     have g1 := g1 x s1 rfl
     have c2 := ihS (r ++ [x]) s1 c1.1 (by simp only [List.length_append, List.length_cons, List.length_nil]; omega)
     have hgo := blGo l r h hlen x c1.2
     simp only [Res.bind]
     revert c2
     cases sStmts L n (r ++ [x]) s1 with
     | out => exact fun _ => trivial
     | bad q t s2 => exact fun ⟨v, c2⟩ => ⟨v, fun rest X hP hN => lw_step (hgo rest X hP hN) (c2 rest X hP hN)⟩
     | ok r2 s2 => exact fun c2 => ⟨c2.1, fun rest X hP hN => lw_step (hgo rest X hP hN) (c2.2 rest X hP hN)⟩
end Go.Avm
namespace Go.Avm
open Go.Proofs
abbrev pmL (r : List Pm) : List D := r.map pmD
abbrev fuE (nm : List UInt8) (p : Int) (v : Nat) (l : List D) : List (Nat × Ent) := [(299842, ⟨1, some (.arr 1 [.d (.str nm), .vec 400000 v 3 l, u8 0, .nils, dI p])⟩), (299672, ⟨1, some (.arr 1 [rP])⟩), (400000, ⟨v, none⟩)]
abbrev fuB (v : Nat) : List (Nat × Ent) := [(299842, ⟨1, none⟩), (299672, ⟨1, none⟩), (400000, ⟨v, none⟩)]
abbrev pclo : AV := .fn 37 [pC 299672, pC 299842]
section
variable {L : List T} (hL : Toks L)
include hL
theorem paramR (nm : List UInt8) (p : Int) (r : List Pm) (hr : r.length < 1000000) (s : RS) (l : s.i < L.length) : RCp L 37 [pC 299672, pC 299842] (fuE nm p r.length (pmL r)) (fun x => fuE nm p (r.length + 1) (pmL r ++ [pmD x])) (fuB r.length) (fun _ => []) s (sParam L s) := by
 unfold sParam
 refine RCp.bind (takeR l hL 1 (by decide)) ?_ ?_
 ·exact fun _ _ _ c => qX { pans := tabP Pg [(37, 0, 299808, ⟨1, some (pOf c), []⟩)] } 299808
 ·intro t s1 l1 c1
  refine RCp.bind (wantR l1 hL [58]) ?_ ?_
  ·exact fun _ _ _ c => qX { calls := tC [(37, 4, 299828, cOf c1)], pans := tabP Pg [(37, 1, 299868, ⟨1, some (pOf c), []⟩)] } 299808
  ·intro _ s2 l2 c2
   refine RCp.bindp (kind3 hL _ l2) ?_ ?_
   ·exact fun _ _ _ c => qX { calls := tC [(37, 4, 299828, cOf c1), (37, 6, 299888, cOf c2)], pans := tabP Pg [(37, 2, 299888, ⟨6, some (pOf c), [7, 8]⟩)] } 299808
   ·intro ty s3 l3 c3
    exact ⟨l3, qN { hint := qT 37 [(18, .app (pmL r) 1 (by simp only [List.length_map]; omega))], calls := tC [(37, 4, 299828, cOf c1), (37, 6, 299888, cOf c2), (37, 13, 300008, cOf c3)] } 299808⟩
end
def ppL : List (Nat × AV) := [(0, rP), (1, pclo)]
def PpAt (L : List T) (nm : List UInt8) (p : Int) (s : RS) (r : List Pm) : Res (List Pm) → Prop
 | .ok r2 s' => s'.i < L.length ∧ RL 17 (lO 36 3) ppL (rd L s ++ fuE nm p r.length (pmL r)) (.exit 0) [(0, rP)] (rd L s' ++ fuE nm p r2.length (pmL r2))
 | .bad q t s' => ∃ v, RL 17 (lO 36 3) ppL (rd L s ++ fuE nm p r.length (pmL r)) (.panic (flt q t)) [] (rd L s' ++ fuB v)
 | .out => True
noncomputable def ppLH {L : List T} {nm : List UInt8} {p : Int} {s : RS} {r : List Pm} {hp' : List (Nat × Ent)} {x : AExit} {l' : List (Nat × AV)} (h : RL 17 (lO 36 3) ppL (rd L s ++ fuE nm p r.length (pmL r)) x l' (hp')) : LHint Pg :=
 ⟨17, loopOf Pg 36 3, ppL, fun _ => rd L s ++ fuE nm p r.length (pmL r), x, l', fun _ => hp', fun rest X hP hN => (h rest X hP hN).aw⟩
section
variable {L : List T} {s : RS} (l : s.i < L.length) (nm : List UInt8) (p : Int) (r : List Pm)
include l
theorem ppStop (h : isT L s [44] = false) :
    RE 17 (lO 36 3) ppL (rd L s ++ fuE nm p r.length (pmL r)) (.exit 0) [(0, rP)] (rd L s ++ fuE nm p r.length (pmL r)) :=
 qE { calls := tC [(36, 12, 3017, cOf (mayF l [44] h))] } 36 3000
theorem ppBad2 (s1 : RS) (c1 : HC 39 [rP, .d (.str [44])] (rd L s) [.bool true] (rd L s1)) (q t : Int) (s2 : RS) (c : HX 37 [pC 299672, pC 299842] (rd L s1 ++ fuE nm p r.length (pmL r)) (flt q t) (rd L s2 ++ fuB r.length)) :
    RE 17 (lO 36 3) ppL (rd L s ++ fuE nm p r.length (pmL r)) (.panic (flt q t)) [] (rd L s2 ++ fuB r.length) :=
 qE { calls := tC [(36, 12, 3017, cOf c1)], pans := tabP Pg [(36, 4, 3017, ⟨1, some (pOf c), []⟩)] } 36 3000
theorem ppGo (s1 : RS) (c1 : HC 39 [rP, .d (.str [44])] (rd L s) [.bool true] (rd L s1)) (x : Pm) (s2 : RS) (c : HC 37 [pC 299672, pC 299842] (rd L s1 ++ fuE nm p r.length (pmL r)) [] (rd L s2 ++ fuE nm p (r.length + 1) (pmL r ++ [pmD x]))) :
    RE 17 (lO 36 3) ppL (rd L s ++ fuE nm p r.length (pmL r)) .normal ppL (rd L s2 ++ fuE nm p (r.length + 1) (pmL r ++ [pmD x])) :=
 qE { calls := tC [(36, 12, 3017, cOf c1), (36, 14, 3034, cOf c)] } 36 3000
end
theorem pm_gr (L : List T) (s : RS) : Gr s (sParam L s) := (take_gr L _ s).bind fun _ s1 _ => ((want_gr L _ s1).bind fun _ s2 _ => ((kind_gr L _ s2).bind fun _ _ _ => Gq.ok _ _).le).le
section
variable {L : List T} (hL : Toks L) (nm : List UInt8) (p : Int)
include hL
theorem ppAll : ∀ (n : Nat) (r : List Pm) (s : RS), s.i < L.length → r.length ≤ s.i → PpAt L nm p s r (sPMore L n r s)
 | 0, _, _, _, _ => trivial
 | n + 1, r, s, l, hr => by
  have hlen : r.length < 1000000 := by have := hL.len; omega
  simp only [sPMore, sMay]
  cases h : isT L s [44] with
  | false => exact ⟨l, fun rest X hP hN => lw_stop (ppStop l nm p r h rest X hP hN) (by simp)⟩
  | true =>
   have hw : sWant L [44] s = .ok (cur L s) s.nx := by simp only [sWant, h]; rfl
   have hn := isT_nx hL l h
   have c1 := mayT l [44] h (cur L s) s.nx (want0 l hL [44] h rfl rfl rfl rfl rfl rfl)
   simp only [cond_true, hw, Res.bind]
   have c := paramR hL nm p r hlen s.nx hn
   have g := pm_gr L s.nx
   revert c g
   cases sParam L s.nx with
   | out => exact fun _ _ => trivial
   | bad q t s2 => exact fun c _ => ⟨_, fun rest X hP hN => lw_stop (ppBad2 l nm p r s.nx c1 q t s2 c rest X hP hN) (by simp)⟩
   | ok x s2 =>
    intro c g
    have g := g x s2 rfl
    have e1 : (r ++ [x]).length = r.length + 1 := by simp
    have c2 := ppAll n (r ++ [x]) s2 c.1 (by simp only [RS.nx] at g; omega)
    have hgo := ppGo l nm p r s.nx c1 x s2 c.2
    have e2 : pmL (r ++ [x]) = pmL r ++ [pmD x] := by simp [pmL]
    simp only
    unfold PpAt at c2 ⊢
    simp only [e1, e2] at c2
    revert c2
    cases sPMore L n (r ++ [x]) s2 with
    | out => exact fun _ => trivial
    | bad q t s3 => exact fun ⟨v, c2⟩ => ⟨v, fun rest X hP hN => lw_step (hgo rest X hP hN) (c2 rest X hP hN)⟩
    | ok a s3 => exact fun c2 => ⟨c2.1, fun rest X hP hN => lw_step (hgo rest X hP hN) (c2.2 rest X hP hN)⟩
end
section
variable {L : List T} (nm : List UInt8) (p : Int) {s s1 s2 s3 s4 : RS} {t1 t2 : T} {q t : Int}
theorem plP1 (c : HX 34 [rP, .d (.str [40])] (rd L s) (flt q t) (rd L s1)) :
    HX 36 [rP, pclo] (rd L s ++ fuE nm p 0 []) (flt q t) (rd L s1 ++ fuB 0) :=
 qX { pans := tabP Pg [(36, 0, 1000, ⟨1, some (pOf c), []⟩)] } 1000
section
variable (l1 : s1.i < L.length) (c1 : HC 34 [rP, .d (.str [40])] (rd L s) [tD t1] (rd L s1))
include l1 c1
theorem plE0 (h : isT L s1 [41] = true) (c2 : HC 34 [rP, .d (.str [41])] (rd L s1) [tD t2] (rd L s2)) :
    HC 36 [rP, pclo] (rd L s ++ fuE nm p 0 []) [] (rd L s2 ++ fuE nm p 0 []) :=
 qN { calls := tC [(36, 5, 1017, cOf c1), (36, 7, 1034, cOf (isRT l1 [41] h)), (36, 16, 1068, cOf c2)] } 1000
theorem plE1 (h : isT L s1 [41] = true) (c2 : HX 34 [rP, .d (.str [41])] (rd L s1) (flt q t) (rd L s2)) :
    HX 36 [rP, pclo] (rd L s ++ fuE nm p 0 []) (flt q t) (rd L s2 ++ fuB 0) :=
 qX { calls := tC [(36, 5, 1017, cOf c1), (36, 7, 1034, cOf (isRT l1 [41] h))], pans := tabP Pg [(36, 5, 1051, ⟨1, some (pOf c2), []⟩)] } 1000
theorem plB1 (h : isT L s1 [41] = false) (c2 : HX 37 [pC 299672, pC 299842] (rd L s1 ++ fuE nm p 0 []) (flt q t) (rd L s2 ++ fuB 0)) :
    HX 36 [rP, pclo] (rd L s ++ fuE nm p 0 []) (flt q t) (rd L s2 ++ fuB 0) :=
 qX { calls := tC [(36, 5, 1017, cOf c1), (36, 7, 1034, cOf (isRT l1 [41] h))], pans := tabP Pg [(36, 2, 1051, ⟨1, some (pOf c2), []⟩)] } 1000
theorem plB2 (h0 : isT L s1 [41] = false) (x : Pm) (c2 : HC 37 [pC 299672, pC 299842] (rd L s1 ++ fuE nm p 0 []) [] (rd L s2 ++ fuE nm p 1 [pmD x])) (v : Nat) (h : RL 17 (lO 36 3) ppL (rd L s2 ++ fuE nm p [x].length (pmL [x])) (.panic (flt q t)) [] (rd L s3 ++ fuB v)) :
    HX 36 [rP, pclo] (rd L s ++ fuE nm p 0 []) (flt q t) (rd L s3 ++ fuB v) :=
 qX { loops := fun f q => if f = 36 then (if q = 3 then some (ppLH (r := [x]) h) else none) else none, calls := tC [(36, 5, 1017, cOf c1), (36, 7, 1034, cOf (isRT l1 [41] h0)), (36, 10, 1068, cOf c2)] } 1000
theorem plB3 (h0 : isT L s1 [41] = false) (x : Pm) (c2 : HC 37 [pC 299672, pC 299842] (rd L s1 ++ fuE nm p 0 []) [] (rd L s2 ++ fuE nm p 1 [pmD x])) (r : List Pm) (h : RL 17 (lO 36 3) ppL (rd L s2 ++ fuE nm p [x].length (pmL [x])) (.exit 0) [(0, rP)] (rd L s3 ++ fuE nm p r.length (pmL r))) (c3 : HX 34 [rP, .d (.str [41])] (rd L s3) (flt q t) (rd L s4)) :
    HX 36 [rP, pclo] (rd L s ++ fuE nm p 0 []) (flt q t) (rd L s4 ++ fuB r.length) :=
 qX { loops := fun f q => if f = 36 then (if q = 3 then some (ppLH (r := [x]) h) else none) else none, calls := tC [(36, 5, 1017, cOf c1), (36, 7, 1034, cOf (isRT l1 [41] h0)), (36, 10, 1068, cOf c2)], pans := tabP Pg [(36, 5, 1068, ⟨1, some (pOf c3), []⟩)] } 1000
theorem plOk (h0 : isT L s1 [41] = false) (x : Pm) (c2 : HC 37 [pC 299672, pC 299842] (rd L s1 ++ fuE nm p 0 []) [] (rd L s2 ++ fuE nm p 1 [pmD x])) (r : List Pm) (h : RL 17 (lO 36 3) ppL (rd L s2 ++ fuE nm p [x].length (pmL [x])) (.exit 0) [(0, rP)] (rd L s3 ++ fuE nm p r.length (pmL r))) (c3 : HC 34 [rP, .d (.str [41])] (rd L s3) [tD t2] (rd L s4)) :
    HC 36 [rP, pclo] (rd L s ++ fuE nm p 0 []) [] (rd L s4 ++ fuE nm p r.length (pmL r)) :=
 qN { loops := fun f q => if f = 36 then (if q = 3 then some (ppLH (r := [x]) h) else none) else none, calls := tC [(36, 5, 1017, cOf c1), (36, 7, 1034, cOf (isRT l1 [41] h0)), (36, 10, 1068, cOf c2), (36, 16, 1085, cOf c3)] } 1000
end
end
def PaC (L : List T) (nm : List UInt8) (p : Int) (s : RS) : Res (List Pm) → Prop
 | .ok r s' => s'.i < L.length ∧ HC 36 [rP, pclo] (rd L s ++ fuE nm p 0 []) [] (rd L s' ++ fuE nm p r.length (pmL r))
 | .bad q t s' => ∃ v, HX 36 [rP, pclo] (rd L s ++ fuE nm p 0 []) (flt q t) (rd L s' ++ fuB v)
 | .out => True
theorem paramsR {L : List T} (hL : Toks L) (n : Nat) (nm : List UInt8) (p : Int) (s : RS) (l : s.i < L.length) : PaC L nm p s (sParams L n s) := by
 unfold sParams
 have c1 := wantR l hL [40]
 have g1 := want_gr L [40] s
 revert c1 g1
 cases sWant L [40] s with
 | out => exact fun _ _ => trivial
 | bad q t s1 => exact fun c1 _ => ⟨0, plP1 nm p c1⟩
 | ok t1 s1 =>
  intro c1 g1
  have g1 := g1 t1 s1 rfl
  have l1 := c1.1
  simp only [Res.bind]
  cases h41 : isT L s1 [41] with
  | true =>
   have c2 := wantR l1 hL [41]
   simp only [cond_true]
   revert c2
   cases sWant L [41] s1 with
   | out => exact fun _ => trivial
   | bad q t s2 => exact fun c2 => ⟨0, plE1 nm p l1 c1.2 h41 c2⟩
   | ok t2 s2 => exact fun c2 => ⟨c2.1, plE0 nm p l1 c1.2 h41 c2.2⟩
  | false =>
   have c2 := paramR hL nm p [] (by decide) s1 l1
   have g2 := pm_gr L s1
   simp only [cond_false]
   revert c2 g2
   cases sParam L s1 with
   | out => exact fun _ _ => trivial
   | bad q t s2 => exact fun c2 _ => ⟨0, plB1 nm p l1 c1.2 h41 c2⟩
   | ok x s2 =>
    intro c2 g2
    have g2 := g2 x s2 rfl
    have c3 := ppAll hL nm p n [x] s2 c2.1 (by simp only [List.length_cons, List.length_nil]; omega)
    simp only
    revert c3
    cases sPMore L n [x] s2 with
    | out => exact fun _ => trivial
    | bad q t s3 => exact fun ⟨v, c3⟩ => ⟨v, plB2 nm p l1 c1.2 h41 x c2.2 v c3⟩
    | ok r s3 =>
     rintro ⟨l3, c3⟩
     have c4 := wantR l3 hL [41]
     simp only
     revert c4
     cases sWant L [41] s3 with
     | out => exact fun _ => trivial
     | bad q t s4 => exact fun c4 => ⟨_, plB3 nm p l1 c1.2 h41 x c2.2 r c3 c4⟩
     | ok t4 s4 => exact fun c4 => ⟨c4.1, plOk nm p l1 c1.2 h41 x c2.2 r c3 c4.2⟩
end Go.Avm
namespace Go.Avm
open Go.Proofs
theorem RC.bindv {L : List T} {F : Nat} {args : List AV} {s0 : RS} {α : Type} {g : α → List D} {nm : List UInt8} {p : Int} {s : RS} {r : Res (List Pm)} {k : List Pm → RS → Res α} (h : PaC L nm p s r)
    (hb : ∀ q e s' v, (HX 36 [rP, pclo] (rd L s ++ fuE nm p 0 []) (flt q e) (rd L s' ++ fuB v)) → HX F args (rd L s0) (flt q e) (rd L s'))
    (hk : ∀ a s', s'.i < L.length → (HC 36 [rP, pclo] (rd L s ++ fuE nm p 0 []) [] (rd L s' ++ fuE nm p a.length (pmL a))) → RC L F args g s0 (k a s')) : RC L F args g s0 (r.bind k) := by
 cases r with
 | ok a s' => exact hk a s' h.1 h.2
 | bad q e s' => obtain ⟨v, h⟩ := h; exact hb q e s' v h
 | out => trivial
abbrev fR : Fn → List D := fun f => [fnD f]
section
variable {L : List T} (hL : Toks L)
include hL
theorem fnR (n : Nat) (s : RS) (l : s.i < L.length) : RC L 21 [rP] fR s (sFn L n s) := by
 unfold sFn
 refine RC.bind (wantR l hL [102, 110]) ?_ ?_
 ·exact fun _ _ _ c => qX { nils := fun f r => if f = 21 then (if r = 2 then some ⟨299842, 1, 400000, 3, false, false⟩ else none) else none, pans := tabP Pg [(21, 1, 299719, ⟨1, some (pOf c), [3, 7]⟩)] } 299671
 ·intro t s1 l1 c1
  refine RC.bind (takeR l1 hL 1 (by decide)) ?_ ?_
  ·exact fun _ _ _ c => qX { nils := fun f r => if f = 21 then (if r = 2 then some ⟨299842, 1, 400000, 3, false, false⟩ else none) else none, calls := tC [(21, 5, 299743, cOf c1)], pans := tabP Pg [(21, 1, 299719, ⟨4, some (pOf c), [7]⟩)] } 299671
  ·intro u s2 l2 c2
   refine RC.bindv (paramsR hL n u.t t.p _ l2) ?_ ?_
   ·exact fun _ _ _ _ c => qX { nils := fun f r => if f = 21 then (if r = 2 then some ⟨299842, 1, 400000, 3, false, false⟩ else none) else none, calls := tC [(21, 5, 299743, cOf c1), (21, 8, 299791, cOf c2)], pans := tabP Pg [(21, 2, 299887, ⟨2, some (pOf c), []⟩)] } 299671
   ·intro ps s3 l3 c3
    refine RC.may l3 hL [58] ?_ ?_ ?_
    ·exact fun _ _ _ c => qX { nils := fun f r => if f = 21 then (if r = 2 then some ⟨299842, 1, 400000, 3, false, false⟩ else none) else none, calls := tC [(21, 5, 299743, cOf c1), (21, 8, 299791, cOf c2), (21, 13, 299935, cOf c3)], pans := tabP Pg [(21, 3, 299935, ⟨1, some (pOf c), []⟩)] } 299671
    ·intro s4 l4 c4
     refine RC.bindp (kind2 hL _ l4) ?_ ?_
     ·exact fun _ _ _ c => qX { nils := fun f r => if f = 21 then (if r = 2 then some ⟨299842, 1, 400000, 3, false, false⟩ else none) else none, calls := tC [(21, 5, 299743, cOf c1), (21, 8, 299791, cOf c2), (21, 13, 299935, cOf c3), (21, 15, 299959, cOf c4)], pans := tabP Pg [(21, 4, 299959, ⟨2, some (pOf c), []⟩)] } 299671
     ·intro k s5 l5 c5
      refine RC.bind ((stAll hL n).block _ l5) ?_ ?_
      ·exact fun _ _ _ c => qX { nils := fun f r => if f = 21 then (if r = 2 then some ⟨299842, 1, 400000, 3, false, false⟩ else none) else none, calls := tC [(21, 5, 299743, cOf c1), (21, 8, 299791, cOf c2), (21, 13, 299935, cOf c3), (21, 15, 299959, cOf c4), (21, 18, 300007, cOf c5)], pans := tabP Pg [(21, 5, 300055, ⟨1, some (pOf c), []⟩)] } 299671
      ·intro b s6 l6 c6
       exact ⟨l6, qN { nils := fun f r => if f = 21 then (if r = 2 then some ⟨299842, 1, 400000, 3, false, false⟩ else none) else none, calls := tC [(21, 5, 299743, cOf c1), (21, 8, 299791, cOf c2), (21, 13, 299935, cOf c3), (21, 15, 299959, cOf c4), (21, 18, 300007, cOf c5), (21, 21, 300079, cOf c6)] } 299671⟩
    ·intro h4
     refine RC.bind ((stAll hL n).block _ l3) ?_ ?_
     ·exact fun _ _ _ c => qX { nils := fun f r => if f = 21 then (if r = 2 then some ⟨299842, 1, 400000, 3, false, false⟩ else none) else none, calls := tC [(21, 5, 299743, cOf c1), (21, 8, 299791, cOf c2), (21, 13, 299935, cOf c3), (21, 15, 299959, cOf (mayF l3 [58] h4))], pans := tabP Pg [(21, 5, 299959, ⟨1, some (pOf c), []⟩)] } 299671
     ·intro b s5 l5 c5
      exact ⟨l5, qN { nils := fun f r => if f = 21 then (if r = 2 then some ⟨299842, 1, 400000, 3, false, false⟩ else none) else none, calls := tC [(21, 5, 299743, cOf c1), (21, 8, 299791, cOf c2), (21, 13, 299935, cOf c3), (21, 15, 299959, cOf (mayF l3 [58] h4)), (21, 21, 299983, cOf c5)] } 299671⟩
end
end Go.Avm
namespace Go.Avm
open Go.Proofs
abbrev pgE (r : List Fn) : List (Nat × Ent) := [(499382, ⟨1, some (.arr 1 [.vec 600000 r.length 5 (r.map fnD)])⟩), (600000, ⟨r.length, none⟩), (499423, ⟨1, some (.arr 1 [dI 0])⟩), (499464, ⟨1, some (.arr 1 [dI 0])⟩)]
abbrev pgS : List (Nat × AV) := [(2, pC 499382), (3, pC 499423), (4, pC 499464)]
abbrev pgL : List (Nat × AV) := [(2, pC 499382), (3, pC 499423), (4, pC 499464), (6, rP)]
def PgAt (L : List T) (s : RS) (r : List Fn) : Res (List Fn) → Prop
 | .ok r2 s' => RL 40 (lO 9 7) pgL (rd L s ++ pgE r) (.exit 0) pgS (rd L s' ++ pgE r2)
 | .bad q t s' => ∃ r2 : List Fn, RL 40 (lO 9 7) pgL (rd L s ++ pgE r) (.panic (flt q t)) pgS (rd L s' ++ pgE r2)
 | .out => True
section
variable {L : List T} {s : RS} (l : s.i < L.length) (r : List Fn)
include l
theorem pgStop (h : ((cur L s).k == 0) = true) : RE 40 (lO 9 7) pgL (rd L s ++ pgE r) (.exit 0) pgS (rd L s ++ pgE r) :=
 qE { hint := qT 9 [(31, hB Pg ((cur L s).k != 0) false (by simpa using h))], calls := tC [(9, 29, 3040, cOf (nowR l))] } 9 3000
theorem pgBad (h : ((cur L s).k == 0) = false) {q t : Int} {s2 : RS} (c : HX 21 [rP] (rd L s) (flt q t) (rd L s2)) : RE 40 (lO 9 7) pgL (rd L s ++ pgE r) (.panic (flt q t)) pgS (rd L s2 ++ pgE r) :=
 qE { hint := qT 9 [(31, hB Pg ((cur L s).k != 0) true (by simpa using h))], calls := tC [(9, 29, 3040, cOf (nowR l))], pans := tabP Pg [(9, 8, 3120, ⟨3, some (pOf c), []⟩)] } 9 3000
theorem pgGo0 (h : ((cur L s).k == 0) = false) (hr : r.length < 1000000) (nm : List UInt8) (ps : List Pm) (k : Int) (bd : List St') (p : Int) {s2 : RS} (c : HC 21 [rP] (rd L s) [fnD ⟨nm, ps, k, bd, p⟩] (rd L s2)) : RE 40 (lO 9 7) pgL (rd L s ++ pgE r) .normal pgL (rd L s2 ++ [(499382, ⟨1, some (.arr 1 [.vec 600000 (r.length + 1) 5 (r.map fnD ++ [fnD ⟨nm, ps, k, bd, p⟩])])⟩), (600000, ⟨r.length + 1, none⟩), (499423, ⟨1, some (.arr 1 [dI 0])⟩), (499464, ⟨1, some (.arr 1 [dI 0])⟩)]) :=
 qE { hint := qT 9 [(31, hB Pg ((cur L s).k != 0) true (by simpa using h)), (37, .app (r.map fnD) 1 (by simp only [List.length_map]; omega))], calls := tC [(9, 29, 3040, cOf (nowR l)), (9, 35, 3240, cOf c)] } 9 3000
end
theorem pgGo {L : List T} {s : RS} (l : s.i < L.length) (r : List Fn) (h : ((cur L s).k == 0) = false) (hr : r.length < 1000000) (x : Fn) {s2 : RS} (c : HC 21 [rP] (rd L s) [fnD x] (rd L s2)) : RE 40 (lO 9 7) pgL (rd L s ++ pgE r) .normal pgL (rd L s2 ++ pgE (r ++ [x])) := by
 obtain ⟨nm, ps, k, bd, p⟩ := x
 have e1 : (r ++ [Fn.mk nm ps k bd p]).length = r.length + 1 := by simp
 have e2 : (r ++ [Fn.mk nm ps k bd p]).map fnD = r.map fnD ++ [fnD ⟨nm, ps, k, bd, p⟩] := by simp
 have := pgGo0 l r h hr nm ps k bd p c
 simp only [pgE, e1, e2]
 exact this
theorem fn_gr (L : List T) (n : Nat) (s : RS) : Gr s (sFn L n s) := by
 unfold sFn
 have pp : ∀ (n : Nat) (r : List Pm) (s : RS), Gq s (sPMore L n r s) := fun n => by
  induction n with
  | zero => exact fun _ s => Gq.out s
  | succ n ih =>
   intro r s
   simp only [sPMore]
   intro a s' e
   unfold sMay at e
   cases h : isT L s [44] <;> rw [h] at e
   ·cases e; exact Nat.le_refl _
   ·simp only [cond_true] at e
    cases hw : sWant L [44] s <;> rw [hw] at e
    ·rename_i t s1
     exact Nat.le_trans (Nat.le_of_lt (want_gr L _ s t s1 hw)) (((pm_gr L s1).bind fun _ s2 _ => ih _ s2).le a s' e)
    ·cases e
    ·cases e
 refine (want_gr L _ s).bind fun t s1 _ => ((take_gr L _ s1).bind fun u s2 _ => Gq.bindq (?_ : Gq s2 (sParams L n s2)) fun ps s3 _ => (may_gq L _ s3).bindq fun b s4 _ => Gq.ite ((kind_gr L _ s4).bind fun _ s5 _ => (((stmt_gr L n).1 s5).bind fun _ _ _ => Gq.ok _ _).le).le (((stmt_gr L n).1 s4).bind fun _ _ _ => Gq.ok _ _).le).le
 unfold sParams
 exact ((want_gr L _ s2).bind fun _ s3 _ => Gq.ite ((want_gr L _ s3).bind fun _ _ _ => Gq.ok _ _).le ((pm_gr L s3).bind fun _ s4 _ => (pp n _ s4).bindq fun _ s5 _ => ((want_gr L _ s5).bind fun _ _ _ => Gq.ok _ _).le).le).le
section
variable {L : List T} (hL : Toks L)
include hL
theorem pgAll (N : Nat) : ∀ (n : Nat) (r : List Fn) (s : RS), s.i < L.length → r.length ≤ s.i → PgAt L s r (sFns L N n r s)
 | 0, _, _, _, _ => trivial
 | n + 1, r, s, l, hr => by
  have hlen : r.length < 1000000 := by have := hL.len; omega
  simp only [sFns]
  cases h : ((cur L s).k == 0) with
  | true => exact fun rest X hP hN => lw_stop (pgStop l r h rest X hP hN) (by simp)
  | false =>
   have c := fnR hL N s l
   have g := fn_gr L N s
   simp only [cond_false]
   revert c g
   cases sFn L N s with
   | out => exact fun _ _ => trivial
   | bad q t s2 => exact fun c _ => ⟨r, fun rest X hP hN => lw_stop (pgBad l r h c rest X hP hN) (by simp)⟩
   | ok x s2 =>
    intro c g
    have g := g x s2 rfl
    have c2 := pgAll N n (r ++ [x]) s2 c.1 (by simp only [List.length_append, List.length_cons, List.length_nil]; omega)
    have hgo := pgGo l r h hlen x c.2
    simp only [Res.bind]
    revert c2
    cases sFns L N n (r ++ [x]) s2 with
    | out => exact fun _ => trivial
    | bad q t s3 => exact fun ⟨v, c2⟩ => ⟨v, fun rest X hP hN => lw_step (hgo rest X hP hN) (c2 rest X hP hN)⟩
    | ok a s3 => exact fun c2 rest X hP hN => lw_step (hgo rest X hP hN) (c2 rest X hP hN)
end
noncomputable def pgLH {L : List T} {s : RS} {r : List Fn} {hp' : List (Nat × Ent)} {x : AExit} {l' : List (Nat × AV)} (h : RL 40 (lO 9 7) pgL (rd L s ++ pgE r) x l' hp') : LHint Pg :=
 ⟨40, loopOf Pg 9 7, pgL, fun _ => rd L s ++ pgE r, x, l', fun _ => hp', fun rest X hP hN => (h rest X hP hN).aw⟩
section
variable {x : List UInt8} {L : List T}
theorem parseE {a e : Int} (he : (e != 0) = true) (hs : Pure Pg 19 [.str x] [.ro [], .int .i64 a, .int .i64 e]) : Pure Pg 9 [.str x] [.agg [.ro []], .int .i64 a, .int .i64 e] :=
 qV { hint := qT 9 [(9, .call 19 _ _ hs), (14, qB he)] } 499380
theorem parseB {q t : Int} {s2 : RS} (hs : Pure Pg 19 [.str x] [toksD L, .int .i64 0, .int .i64 0]) (c : HX 21 [rP] (rd L ⟨0, 0, 0⟩) (flt q t) (rd L s2)) : Pure Pg 9 [.str x] [.agg [.ro []], .int .i64 q, .int .i64 t] :=
 qV { hint := qT 9 [(9, .call 19 _ _ hs)], pans := tabP Pg [(9, 6, 500060, ⟨3, some (pOf c), []⟩)] } 499380
theorem parseL {nm : List UInt8} {ps : List Pm} {k : Int} {bd : List St'} {p : Int} {q t : Int} {s1 s2 : RS} {r2 : List Fn} (hs : Pure Pg 19 [.str x] [toksD L, .int .i64 0, .int .i64 0]) (c : HC 21 [rP] (rd L ⟨0, 0, 0⟩) [fnD ⟨nm, ps, k, bd, p⟩] (rd L s1))
    (h : RL 40 (lO 9 7) pgL (rd L s1 ++ pgE [⟨nm, ps, k, bd, p⟩]) (.panic (flt q t)) pgS (rd L s2 ++ pgE r2)) : Pure Pg 9 [.str x] [.agg [.ro []], .int .i64 q, .int .i64 t] :=
 qV { nils := fun f r => if f = 9 then (if r = 6 then some ⟨499382, 0, 600000, 5, false, false⟩ else none) else none, loops := fun f q => if f = 9 then (if q = 7 then some (pgLH h) else none) else none, hint := qT 9 [(9, .call 19 _ _ hs)], calls := tC [(9, 24, 500180, cOf c)] } 499380
theorem parseO {nm : List UInt8} {ps : List Pm} {k : Int} {bd : List St'} {p : Int} {s1 s2 : RS} {r2 : List Fn} (hs : Pure Pg 19 [.str x] [toksD L, .int .i64 0, .int .i64 0]) (c : HC 21 [rP] (rd L ⟨0, 0, 0⟩) [fnD ⟨nm, ps, k, bd, p⟩] (rd L s1))
    (h : RL 40 (lO 9 7) pgL (rd L s1 ++ pgE [⟨nm, ps, k, bd, p⟩]) (.exit 0) pgS (rd L s2 ++ pgE r2)) : Pure Pg 9 [.str x] [.agg [.ro (r2.map fnD)], .int .i64 0, .int .i64 0] :=
 qV { nils := fun f r => if f = 9 then (if r = 6 then some ⟨499382, 0, 600000, 5, false, false⟩ else none) else none, loops := fun f q => if f = 9 then (if q = 7 then some (pgLH h) else none) else none, hint := qT 9 [(9, .call 19 _ _ hs)], calls := tC [(9, 24, 500180, cOf c)] } 499380
end
def prOut : Res (List Fn) → List D
 | .ok l _ => [.agg [.ro (l.map fnD)], .int .i64 0, .int .i64 0]
 | .bad p e _ => [.agg [.ro []], .int .i64 p, .int .i64 e]
 | .out => []
theorem parseC {x : List UInt8} {L : List T} (hL : Toks L) (h0 : 0 < L.length) (hs : Pure Pg 19 [.str x] [toksD L, .int .i64 0, .int .i64 0]) (n : Nat) (hn : sProg L n ≠ .out) : Pure Pg 9 [.str x] (prOut (sProg L n)) := by
 unfold sProg at hn ⊢
 have c := fnR hL n ⟨0, 0, 0⟩ h0
 have g := fn_gr L n ⟨0, 0, 0⟩
 revert c g hn
 cases sFn L n ⟨0, 0, 0⟩ with
 | out => exact fun hn _ _ => absurd rfl hn
 | bad q t s1 => exact fun _ c _ => parseB hs c
 | ok f s1 =>
  intro hn c g
  have g := g f s1 rfl
  have c2 := pgAll hL n n [f] s1 c.1 (by simp only [List.length_cons, List.length_nil]; omega)
  obtain ⟨nm, ps, k, bd, p⟩ := f
  simp only [Res.bind] at hn ⊢
  revert c2 hn
  cases sFns L n n [⟨nm, ps, k, bd, p⟩] s1 with
  | out => exact fun hn _ => absurd rfl hn
  | bad q t s2 => exact fun _ ⟨r2, c2⟩ => parseL hs c.2 c2
  | ok r2 s2 => exact fun _ c2 => parseO hs c.2 c2
end Go.Avm
namespace Go.Avm
open Go.Proofs
def G1 {α : Type} (L : List T) (s : RS) (r : Res α) : Prop := r ≠ .out ∧ ∀ a s', r = .ok a s' → s.i < s'.i ∧ s'.i < L.length
def G0 {α : Type} (L : List T) (s : RS) (r : Res α) : Prop := r ≠ .out ∧ ∀ a s', r = .ok a s' → s.i ≤ s'.i ∧ s'.i < L.length
section
variable {L : List T} {α β : Type} {s : RS}
theorem G1.le {r : Res α} (h : G1 L s r) : G0 L s r := ⟨h.1, fun a s' e => ⟨Nat.le_of_lt (h.2 a s' e).1, (h.2 a s' e).2⟩⟩
theorem G0.ok (a : α) (l : s.i < L.length) : G0 L s (.ok a s) := ⟨fun e => (by cases e), fun _ _ e => by cases e; exact ⟨Nat.le_refl _, l⟩⟩
theorem G1.bind {r : Res α} {f : α → RS → Res β} (h : G1 L s r) (hf : ∀ a s', s.i < s'.i → s'.i < L.length → G0 L s' (f a s')) : G1 L s (r.bind f) := by
 cases r with
 | ok a s' =>
  obtain ⟨h1, h2⟩ := h.2 a s' rfl
  obtain ⟨h3, h4⟩ := hf a s' h1 h2
  exact ⟨h3, fun b s2 e => ⟨Nat.lt_of_lt_of_le h1 (h4 b s2 e).1, (h4 b s2 e).2⟩⟩
 | bad p q s' => exact ⟨fun e => (by cases e), fun _ _ e => by cases e⟩
 | out => exact absurd rfl h.1
theorem G0.bind {r : Res α} {f : α → RS → Res β} (h : G0 L s r) (hf : ∀ a s', s.i ≤ s'.i → s'.i < L.length → G0 L s' (f a s')) : G0 L s (r.bind f) := by
 cases r with
 | ok a s' =>
  obtain ⟨h1, h2⟩ := h.2 a s' rfl
  obtain ⟨h3, h4⟩ := hf a s' h1 h2
  exact ⟨h3, fun b s2 e => ⟨Nat.le_trans h1 (h4 b s2 e).1, (h4 b s2 e).2⟩⟩
 | bad p q s' => exact ⟨fun e => (by cases e), fun _ _ e => by cases e⟩
 | out => exact absurd rfl h.1
theorem G1.ite {c : Bool} {X Y : Res α} (hX : G1 L s X) (hY : G1 L s Y) : G1 L s (bif c then X else Y) := by cases c <;> assumption
theorem G0.ite {c : Bool} {X Y : Res α} (hX : G0 L s X) (hY : G0 L s Y) : G0 L s (bif c then X else Y) := by cases c <;> assumption
theorem G1.fail (l : s.i < L.length) : G1 L s (fail L s : Res α) := ⟨fun e => (by cases e), fun _ _ e => by cases e⟩
end
section
variable {L : List T} (hL : Toks L)
include hL
theorem g_want (x : List UInt8) (s : RS) (l : s.i < L.length) : G1 L s (sWant L x s) := by
 have h := wantR l hL x
 have g := want_gr L x s
 revert h g
 cases hw : sWant L x s with
 | ok a s' => exact fun h g => ⟨fun e => (by cases e), fun b s2 e => by cases e; exact ⟨g _ _ rfl, h.1⟩⟩
 | bad p q s' => exact fun _ _ => ⟨fun e => (by cases e), fun _ _ e => by cases e⟩
 | out =>
  unfold sWant at hw
  cases h1 : isT L s x <;> rw [h1] at hw
  ·cases hw
  ·simp only [cond_true] at hw
   cases h2 : (x == [40] || x == [91] || x == [123]) <;> rw [h2] at hw
   ·simp only [cond_false] at hw
    cases h3 : (x == [41] || x == [93] || x == [125]) <;> rw [h3] at hw <;> cases hw
   ·simp only [cond_true] at hw
    cases h3 : decide (200 < w64 (s.op + 1)) <;> rw [h3] at hw <;> cases hw
theorem g_take (k : Int) (hk : k ≠ 0) (s : RS) (l : s.i < L.length) : G1 L s (sTake L k s) := by
 have h := takeR l hL k hk
 have g := take_gr L k s
 revert h g
 cases hw : sTake L k s with
 | ok a s' => exact fun h g => ⟨fun e => (by cases e), fun b s2 e => by cases e; exact ⟨g _ _ rfl, h.1⟩⟩
 | bad p q s' => exact fun _ _ => ⟨fun e => (by cases e), fun _ _ e => by cases e⟩
 | out =>
  unfold sTake at hw
  cases h1 : ((cur L s).k == k) <;> rw [h1] at hw <;> cases hw
section
variable {α : Type} {x : List UInt8} {s : RS} (l : s.i < L.length) {X Y : RS → Res α} (hX : ∀ s', s.i < s'.i → s'.i < L.length → G0 L s' (X s'))
include α x s l X Y hX
theorem G1.mayT (hY : G1 L s (Y s)) : G1 L s ((sMay L x s).bind fun b s1 => bif b then X s1 else Y s1) := by
 unfold sMay
 cases h : isT L s x with
 | false => exact hY
 | true =>
  simp only [cond_true]
  have := (g_want hL x s l).bind (f := fun _ s1 => X s1) fun _ s' h1 h2 => hX s' h1 h2
  revert this
  cases sWant L x s <;> exact fun h => h
theorem G0.mayT (hY : G0 L s (Y s)) : G0 L s ((sMay L x s).bind fun b s1 => bif b then X s1 else Y s1) := by
 unfold sMay
 cases h : isT L s x with
 | false => exact hY
 | true =>
  simp only [cond_true]
  have := ((g_want hL x s l).bind (f := fun _ s1 => X s1) fun _ s' h1 h2 => hX s' h1 h2).le
  revert this
  cases sWant L x s <;> exact fun h => h
end
theorem g_kind : ∀ (k : List Int) (s : RS), s.i < L.length → G1 L s (sKind L k s)
 | [], s, l => G1.fail l
 | k :: r, s, l => by
  simp only [sKind]
  exact G1.mayT hL l (fun s' h1 h2 => G0.ok _ h2) (g_kind r s l)
structure GA (L : List T) (n : Nat) : Prop where
 one : ∀ s : RS, s.i < L.length → 4 * (L.length - s.i) + 1 ≤ n → G1 L s (sOne L n s)
 place : ∀ s : RS, s.i < L.length → 4 * (L.length - s.i) + 1 ≤ n → G1 L s (sPlace L n s)
 call : ∀ nm p (s : RS), s.i < L.length → 4 * (L.length - s.i) + 2 ≤ n → G1 L s (sCall L n nm p s)
 args : ∀ s : RS, s.i < L.length → 4 * (L.length - s.i) + 1 ≤ n → G1 L s (sArgs L n s)
 more : ∀ l (s : RS), s.i < L.length → 4 * (L.length - s.i) + 1 ≤ n → G0 L s (sMore L n l s)
 expr : ∀ k (s : RS), s.i < L.length → 4 * (L.length - s.i) + 2 ≤ n → G1 L s (sExpr L n k s)
 tail : ∀ k e (s : RS), s.i < L.length → 4 * (L.length - s.i) + 1 ≤ n → G0 L s (sTail L n k e s)
theorem gAll : ∀ n, GA L n
 | 0 => ⟨fun _ _ h => by omega, fun _ _ h => by omega, fun _ _ _ _ h => by omega, fun _ _ h => by omega, fun _ _ _ h => by omega, fun _ _ _ h => by omega, fun _ _ _ _ h => by omega⟩
 | n + 1 => by
  have ih := gAll n
  have W := fun x s l => g_want hL x s l
  refine ⟨fun s l h => ?_, fun s l h => ?_, fun nm p s l h => ?_, fun s l h => ?_, fun r s l h => ?_, fun k s l h => ?_, fun k e s l h => ?_⟩
  ·simp only [sOne]
   have un : ∀ (f : Ex → Ex) s', s.i < s'.i → s'.i < L.length → G0 L s' ((sOne L n s').bind fun e s2 => .ok (f e) s2) := fun f s' h1 h2 => ((ih.one s' h2 (by omega)).bind fun _ _ _ h4 => G0.ok _ h4).le
   refine G1.mayT hL l (fun s' => un _ s') (G1.mayT hL l (fun s' => un _ s') (G1.mayT hL l (fun s' => un _ s') ?_))
   cases hk : ((cur L s).k == 3) with
   | true => exact ⟨fun e => (by cases e), fun _ _ e => by cases e; exact ⟨Nat.lt_succ_self _, nx_lt hL l (by rw [eq_of_beq hk]; decide)⟩⟩
   | false =>
    simp only [cond_false]
    refine G1.mayT hL l (fun s' _ h2 => G0.ok _ h2) (G1.mayT hL l (fun s' _ h2 => G0.ok _ h2) ?_)
    refine G1.mayT hL l (fun s' _ h2 => ((W _ s' h2).bind fun _ s2 _ h4 => ((W _ s2 h4).bind fun _ _ _ h6 => G0.ok _ h6).le).le) ?_
    refine G1.mayT hL l (fun s' _ h2 => ((W _ s' h2).bind fun _ s2 _ h4 => ((g_take hL 1 (by decide) s2 h4).bind fun _ s3 _ h6 => ((W _ s3 h6).bind fun _ _ _ h8 => G0.ok _ h8).le).le).le) ?_
    refine G1.ite ((W _ s l).bind fun _ s2 h3 h4 => ((ih.expr _ s2 h4 (by omega)).bind fun _ s3 _ h6 => ((W _ s3 h6).bind fun _ _ _ h8 => G0.ok _ h8).le).le) ?_
    exact (g_take hL 1 (by decide) s l).bind fun _ s2 h3 h4 => G0.ite ((ih.place s2 h4 (by omega)).bind fun _ _ _ h6 => G0.ok _ h6).le (G0.ite ((ih.call _ _ s2 h4 (by omega)).bind fun _ _ _ h6 => G0.ok _ h6).le (G0.ok _ h4))
  ·simp only [sPlace]
   exact (W _ s l).bind fun _ s2 h3 h4 => ((ih.expr _ s2 h4 (by omega)).bind fun _ s3 _ h6 => ((W _ s3 h6).bind fun _ _ _ h8 => G0.ok _ h8).le).le
  ·simp only [sCall]
   exact (ih.args s l (by omega)).bind fun _ _ _ h4 => G0.ok _ h4
  ·simp only [sArgs]
   exact (W _ s l).bind fun _ s2 h3 h4 => G0.ite ((W _ s2 h4).bind fun _ _ _ h6 => G0.ok _ h6).le (((ih.expr _ s2 h4 (by omega)).bind fun _ s3 h5 h6 => (ih.more _ s3 h6 (by omega)).bind fun _ s4 _ h8 => ((W _ s4 h8).bind fun _ _ _ h9 => G0.ok _ h9).le).le)
  ·simp only [sMore]
   exact G0.mayT hL l (fun s' h1 h2 => ((ih.expr _ s' h2 (by omega)).bind fun _ s3 h5 h6 => ih.more _ s3 h6 (by omega)).le) (G0.ok _ l)
  ·simp only [sExpr]
   exact (ih.one s l (by omega)).bind fun _ s2 h3 h4 => ih.tail _ _ s2 h4 (by omega)
  ·simp only [sTail]
   cases hz : ((sSign L k s).1 == 0) with
   | true => exact G0.ok _ l
   | false =>
    simp only [cond_false]
    have ln : s.nx.i < L.length := sign_some l k hL signs (by simpa [sSign] using hz)
    have hx : s.nx.i = s.i + 1 := rfl
    have h2 := ((ih.expr (w64 ((sSign L k s).2 + 1)) s.nx ln (by omega)).bind (f := fun r s2 => sTail L n k (.mk 9 (sSign L k s).1 [] 0 (cur L s).p [e, r]) s2) fun _ s3 h5 h6 => ih.tail _ _ s3 h6 (by omega))
    exact ⟨h2.1, fun a s' e => ⟨by have := (h2.2 a s' e).1; omega, (h2.2 a s' e).2⟩⟩
theorem g_let (n : Nat) (id p : Int) (s : RS) (l : s.i < L.length) (h : 4 * (L.length - s.i) + 1 ≤ n) : G1 L s (sLet L n id p s) := by
 have W := fun x s l => g_want hL x s l
 unfold sLet
 refine (g_take hL 1 (by decide) s l).bind fun _ s2 h3 h4 => ((W _ s2 h4).bind fun _ s3 h5 h6 => ((g_kind hL _ s3 h6).bind fun _ s4 h7 h8 => G0.ite ?_ ?_).le).le
 ·exact ((W _ s4 h8).bind fun _ s5 _ h9 => ((g_take hL 3 (by decide) s5 h9).bind fun _ s6 _ h10 => ((W _ s6 h10).bind fun _ s7 _ h11 => ((W _ s7 h11).bind fun _ _ _ h12 => G0.ok _ h12).le).le).le).le
 ·exact (G1.mayT hL h8 (fun s' h9 h10 => (((gAll hL n).expr 1 s' h10 (by omega)).bind fun _ s6 _ h11 => ((W _ s6 h11).bind fun _ _ _ h12 => G0.ok _ h12).le).le) ((W _ s4 h8).bind fun _ _ _ h12 => G0.ok _ h12)).le
theorem g_named (n : Nat) (id p : Int) (s : RS) (l : s.i < L.length) (h : 4 * (L.length - s.i) + 1 ≤ n) : G1 L s (sNamed L n id p s) := by
 have W := fun x s l => g_want hL x s l
 have A := gAll hL n
 unfold sNamed
 refine (g_take hL 1 (by decide) s l).bind fun _ s2 h3 h4 => G0.ite ((A.call _ _ s2 h4 (by omega)).bind fun _ s3 _ h6 => ((W _ s3 h6).bind fun _ _ _ h8 => G0.ok _ h8).le).le (G0.ite ?_ ?_)
 ·exact ((A.place s2 h4 (by omega)).bind fun _ s3 h5 h6 => ((W _ s3 h6).bind fun _ s4 h7 h8 => ((A.expr 1 s4 h8 (by omega)).bind fun _ s5 _ h10 => ((W _ s5 h10).bind fun _ _ _ h12 => G0.ok _ h12).le).le).le).le
 ·exact ((W _ s2 h4).bind fun _ s3 h5 h6 => ((A.expr 1 s3 h6 (by omega)).bind fun _ s4 _ h8 => ((W _ s4 h8).bind fun _ _ _ h12 => G0.ok _ h12).le).le).le
theorem g_stmt : ∀ n, (∀ s : RS, s.i < L.length → 4 * (L.length - s.i) + 1 ≤ n → G1 L s (sBlock L n s)) ∧ (∀ r (s : RS), s.i < L.length → 4 * (L.length - s.i) + 3 ≤ n → G0 L s (sStmts L n r s)) ∧ (∀ s : RS, s.i < L.length → 4 * (L.length - s.i) + 2 ≤ n → G1 L s (sStmt L n s))
 | 0 => ⟨fun _ _ h => by omega, fun _ _ _ h => by omega, fun _ _ h => by omega⟩
 | n + 1 => by
  obtain ⟨h1, h2, h3⟩ := g_stmt n
  have W := fun x s l => g_want hL x s l
  have A := gAll hL n
  refine ⟨fun s l h => ?_, fun r s l h => ?_, fun s l h => ?_⟩
  ·simp only [sBlock]
   exact (W _ s l).bind fun _ s1 g1 g2 => (h2 _ s1 g2 (by omega)).bind fun _ s2 _ g4 => ((W _ s2 g4).bind fun _ _ _ g6 => G0.ok _ g6).le
  ·simp only [sStmts]
   exact G0.ite (G0.ok _ l) ((h3 s l (by omega)).bind fun _ s1 g1 g2 => h2 _ s1 g2 (by omega)).le
  ·simp only [sStmt]
   have l' : s.st.i < L.length := l
   have hi : s.st.i = s.i := rfl
   have key := G1.mayT hL l' (x := [108, 101, 116]) (X := fun s1 => (sLet L n s.st.n (cur L s.st).p s1).bind fun x s2 => .ok x s2) (Y := fun s1 => (sMay L [105, 102] s1).bind fun b s1 => bif b then
   (sExpr L n 1 s1).bind fun e s2 => (sBlock L n s2).bind fun l s3 => (sMay L [101, 108, 115, 101] s3).bind fun b s4 =>
    bif b then (sBlock L n s4).bind fun m s5 => .ok (.mk 4 s.st.n [] 0 0 (cur L s.st).p [e] l m) s5 else .ok (.mk 4 s.st.n [] 0 0 (cur L s.st).p [e] l []) s4
  else (sMay L [119, 104, 105, 108, 101] s1).bind fun b s1 => bif b then
   (sExpr L n 1 s1).bind fun e s2 => (sBlock L n s2).bind fun l s3 => .ok (.mk 5 s.st.n [] 0 0 (cur L s.st).p [e] l []) s3
  else (sMay L [114, 101, 116, 117, 114, 110] s1).bind fun b s1 => bif b then
   bif isT L s1 [59] then (sWant L [59] s1).bind fun _ s2 => .ok (.mk 6 s.st.n [] 0 0 (cur L s.st).p [] [] []) s2
   else (sExpr L n 1 s1).bind fun e s2 => (sWant L [59] s2).bind fun _ s3 => .ok (.mk 6 s.st.n [] 0 0 (cur L s.st).p [e] [] []) s3
  else (sMay L [112, 114, 105, 110, 116] s1).bind fun b s1 => bif b then
   (sExpr L n 1 s1).bind fun e s2 => (sWant L [59] s2).bind fun _ s3 => .ok (.mk 7 s.st.n [] 0 0 (cur L s.st).p [e] [] []) s3
  else (sNamed L n s.st.n (cur L s.st).p s1).bind fun x s2 => .ok x s2)
      (fun s' g1 g2 => ((g_let hL n _ _ s' g2 (by omega)).bind fun _ _ _ g4 => G0.ok _ g4).le) ?_
   ·exact ⟨key.1, fun a s' e => key.2 a s' e⟩
   refine G1.mayT hL l' (fun s' g1 g2 => ?_) (G1.mayT hL l' (fun s' g1 g2 => ?_) (G1.mayT hL l' (fun s' g1 g2 => ?_) (G1.mayT hL l' (fun s' g1 g2 => ?_) ?_)))
   ·exact ((A.expr 1 s' g2 (by omega)).bind fun _ s2 g3 g4 => ((h1 s2 g4 (by omega)).bind fun _ s3 g5 g6 => G0.mayT hL g6 (fun s4 g7 g8 => ((h1 s4 g8 (by omega)).bind fun _ _ _ g10 => G0.ok _ g10).le) (G0.ok _ g6)).le).le
   ·exact ((A.expr 1 s' g2 (by omega)).bind fun _ s2 g3 g4 => ((h1 s2 g4 (by omega)).bind fun _ _ _ g6 => G0.ok _ g6).le).le
   ·exact G0.ite ((W _ s' g2).bind fun _ _ _ g4 => G0.ok _ g4).le ((A.expr 1 s' g2 (by omega)).bind fun _ s2 _ g4 => ((W _ s2 g4).bind fun _ _ _ g6 => G0.ok _ g6).le).le
   ·exact ((A.expr 1 s' g2 (by omega)).bind fun _ s2 _ g4 => ((W _ s2 g4).bind fun _ _ _ g6 => G0.ok _ g6).le).le
   ·exact (g_named hL n _ _ s.st l' (by omega)).bind fun _ _ _ g4 => G0.ok _ g4
theorem g_param (s : RS) (l : s.i < L.length) : G1 L s (sParam L s) := (g_take hL 1 (by decide) s l).bind fun _ s1 _ h2 => ((g_want hL _ s1 h2).bind fun _ s2 _ h4 => ((g_kind hL _ s2 h4).bind fun _ _ _ h6 => G0.ok _ h6).le).le
theorem g_pmore : ∀ (n : Nat) (r : List Pm) (s : RS), s.i < L.length → L.length - s.i + 1 ≤ n → G0 L s (sPMore L n r s)
 | 0, _, _, _, h => by omega
 | n + 1, r, s, l, h => by
  simp only [sPMore]
  exact G0.mayT hL l (fun s' h1 h2 => ((g_param hL s' h2).bind fun _ s2 h3 h4 => g_pmore n _ s2 h4 (by omega)).le) (G0.ok _ l)
theorem g_fn (n : Nat) (s : RS) (l : s.i < L.length) (h : 4 * (L.length - s.i) + 1 ≤ n) : G1 L s (sFn L n s) := by
 have W := fun x s l => g_want hL x s l
 have B := (g_stmt hL n).1
 unfold sFn
 refine (W _ s l).bind fun t s1 h1 h2 => ((g_take hL 1 (by decide) s1 h2).bind fun u s2 h3 h4 => (G1.bind (?_ : G1 L s2 (sParams L n s2)) fun ps s3 h5 h6 => G0.mayT hL h6 (fun s4 h7 h8 => ((g_kind hL _ s4 h8).bind fun _ s5 h9 h10 => ((B s5 h10 (by omega)).bind fun _ _ _ h12 => G0.ok _ h12).le).le) ((B s3 h6 (by omega)).bind fun _ _ _ h12 => G0.ok _ h12).le).le).le
 unfold sParams
 exact (W _ s2 h4).bind fun _ s3 h5 h6 => G0.ite ((W _ s3 h6).bind fun _ _ _ h8 => G0.ok _ h8).le ((g_param hL s3 h6).bind fun _ s4 h7 h8 => (g_pmore hL n _ s4 h8 (by omega)).bind fun _ s5 _ h10 => ((W _ s5 h10).bind fun _ _ _ h12 => G0.ok _ h12).le).le
theorem g_fns (N : Nat) (hN : 4 * L.length + 1 ≤ N) : ∀ (n : Nat) (r : List Fn) (s : RS), s.i < L.length → L.length - s.i + 1 ≤ n → G0 L s (sFns L N n r s)
 | 0, _, _, _, h => by omega
 | n + 1, r, s, l, h => by
  simp only [sFns]
  exact G0.ite (G0.ok _ l) ((g_fn hL N s l (by omega)).bind fun _ s2 h3 h4 => g_fns N hN n _ s2 h4 (by omega)).le
abbrev fuel (L : List T) : Nat := 4 * L.length + 1
theorem prog_no (h0 : 0 < L.length) : sProg L (fuel L) ≠ .out :=
 ((g_fn hL (fuel L) ⟨0, 0, 0⟩ h0 (by simp only [fuel]; omega)).bind fun f s1 h1 h2 => g_fns hL (fuel L) (Nat.le_refl _) (fuel L) [f] s1 h2 (by simp only [fuel]; omega)).1
end
end Go.Avm
namespace Go.Avm
open Go.Proofs
abbrev qP : AV := .ptr 520000 1 0 0 1
abbrev qd (L : List T) (s : RS) : List (Nat × Ent) := [(520000, ⟨1, some (.arr 1 [.d (toksD L), dN s.i, dI s.op, dI s.n, dI 0, dI 0])⟩)]
abbrev qe (L : List T) (s : RS) (p e : Int) : List (Nat × Ent) := [(520000, ⟨1, some (.arr 1 [.d (toksD L), dN s.i, dI s.op, dI s.n, dI p, dI e])⟩)]
abbrev zT : T := ⟨0, 0, [], 0⟩
section
variable {L : List T} {s : RS} (l : s.i < L.length)
include l
theorem qNow : HC 23 [qP] (qd L s) [tD (cur L s)] (qd L s) :=
 qN { hint := qT 23 [(17, hCur Pg l)] } 1000
theorem qFail (k : Int) : HC 63 [qP, dI k] (qd L s) [] (qe L s (cur L s).p k) :=
 qN { hint := qT 63 [(19, hCur Pg l)] } 1000
theorem qIsA (x : List UInt8) (h1 : ((cur L s).k == 2) = true) : HC 43 [qP, .d (.str x)] (qd L s) [.bool ((cur L s).t == x)] (qd L s) :=
 qN { hint := qT 43 [(10, qB h1)], calls := tC [(43, 7, 1044, cOf (qNow l))] } 1000
theorem qIsB (x : List UInt8) (h1 : ((cur L s).k == 2) = false) (h2 : ((cur L s).k == 4) = true) : HC 43 [qP, .d (.str x)] (qd L s) [.bool ((cur L s).t == x)] (qd L s) :=
 qN { hint := qT 43 [(10, qB h1), (14, qB h2)], calls := tC [(43, 7, 1044, cOf (qNow l))] } 1000
theorem qIsN (x : List UInt8) (h1 : ((cur L s).k == 2) = false) (h2 : ((cur L s).k == 4) = false) : HC 43 [qP, .d (.str x)] (qd L s) [.bool false] (qd L s) :=
 qN { hint := qT 43 [(10, qB h1), (14, qB h2)], calls := tC [(43, 7, 1044, cOf (qNow l))] } 1000
theorem qIs (x : List UInt8) {b : Bool} (h : isT L s x = b) : HC 43 [qP, .d (.str x)] (qd L s) [.bool b] (qd L s) := by
 subst h
 unfold isT
 cases h1 : ((cur L s).k == 2) with
 | true => exact qIsA l x h1
 | false => cases h2 : ((cur L s).k == 4) with
  | true => exact qIsB l x h1 h2
  | false => exact qIsN l x h1 h2
end
section
variable (L : List T) (s : RS) (p : Int) {e : Int} (he : (e == 0) = false)
include he
theorem zNow : HC 23 [qP] (qe L s p e) [tD zT] (qe L s p e) :=
 qN { hint := qT 23 [(7, hB Pg (e != 0) true (by simpa using he))] } 1000
theorem zFail (k : Int) : HC 63 [qP, dI k] (qe L s p e) [] (qe L s p e) :=
 qN { hint := qT 63 [(8, qB he)] } 1000
theorem zIs (x : List UInt8) : HC 43 [qP, .d (.str x)] (qe L s p e) [.bool false] (qe L s p e) :=
 qN { calls := tC [(43, 7, 1044, cOf (zNow L s p he))] } 1000
theorem zSkip (x : List UInt8) : HC 41 [qP, .d (.str x)] (qe L s p e) [] (qe L s p e) :=
 qN { calls := tC [(41, 6, 1116, cOf (zIs L s p he x)), (41, 9, 1232, cOf (zFail L s p he 4))] } 1000
theorem zHas (x : List UInt8) : HC 44 [qP, .d (.str x)] (qe L s p e) [.bool false] (qe L s p e) :=
 qN { calls := tC [(44, 7, 1051, cOf (zIs L s p he x))] } 1000
theorem zName : HC 42 [qP] (qe L s p e) [.str []] (qe L s p e) :=
 qN { calls := tC [(42, 5, 1040, cOf (zNow L s p he)), (42, 10, 1160, cOf (zFail L s p he 4))] } 1000
theorem zTyped3 : HC 45 [qP, dB true] (qe L s p e) [.int .u8 0] (qe L s p e) :=
 qN { calls := tC [(45, 19, 1264, cOf (zHas L s p he (tName 1))), (45, 19, 1576, cOf (zHas L s p he (tName 2))), (45, 19, 1912, cOf (zHas L s p he (tName 3))), (45, 23, 2080, cOf (zFail L s p he 4))] } 1000
end
end Go.Avm
namespace Go.Avm
open Go.Proofs
structure Inv (L : List T) (s : RS) : Prop where
 lt : s.i < L.length
 lo : -(s.i : Int) ≤ s.op
 hi : s.op ≤ 200
def RF {α : Type} (L : List T) (f : Nat) (args : List AV) (g : α → List D) (s : RS) : Res α → Prop
 | .ok a s' => Inv L s' ∧ HC f args (qd L s) (g a) (qd L s')
 | .bad p e _ => (e == 0) = false ∧ ∃ (a : α) (s' : RS), HC f args (qd L s) (g a) (qe L s' p e)
 | .out => True
theorem w64_in {x : Int} (h1 : -2000000 ≤ x) (h2 : x ≤ 2000000) : w64 x = x := IntWalk.i64_in _ (by omega)
section
variable {L : List T} (hL : Toks L) {s : RS} (v : Inv L s)
include hL v
theorem qSkipF (x : List UInt8) (h : isT L s x = false) : HC 41 [qP, .d (.str x)] (qd L s) [] (qe L s (cur L s).p 4) :=
 qN { calls := tC [(41, 6, 1116, cOf (qIs v.lt x h)), (41, 9, 1232, cOf (qFail v.lt 4))] } 1000
theorem qSkip0 (x : List UInt8) (h : isT L s x = true) (h1 : (x == [40]) = false) (h2 : (x == [91]) = false) (h3 : (x == [123]) = false) (h4 : (x == [41]) = false) (h5 : (x == [93]) = false) (h6 : (x == [125]) = false) :
    HC 41 [qP, .d (.str x)] (qd L s) [] (qd L s.nx) :=
 qN { hint := qT 41 [(11, qB h1), (14, qB h2), (18, qB h3), (35, qB h4), (38, qB h5), (42, qB h6), (55, hSucc Pg s.i (by have := hL.len; have := v.lt; omega))], calls := tC [(41, 6, 1116, cOf (qIs v.lt x h))] } 1000
theorem qSkipO40 (h : isT L s [40] = true) (hd : (s.op == 200) = false) :
    HC 41 [qP, .d (.str [40])] (qd L s) [] (qd L ⟨s.i + 1, w64 (s.op + 1), s.n⟩) :=
 qN { hint := qT 41 [(24, qB hd), (55, hSucc Pg s.i (by have := hL.len; have := v.lt; omega))], calls := tC [(41, 6, 1116, cOf (qIs v.lt [40] h))] } 1000
theorem qSkipD40 (h : isT L s [40] = true) (hd : (s.op == 200) = true) :
    HC 41 [qP, .d (.str [40])] (qd L s) [] (qe L s (cur L s).p 5) :=
 qN { hint := qT 41 [(24, qB hd)], calls := tC [(41, 6, 1116, cOf (qIs v.lt [40] h)), (41, 26, 1870, cOf (qFail v.lt 5))] } 1000
theorem qSkipO91 (h : isT L s [91] = true) (hd : (s.op == 200) = false) :
    HC 41 [qP, .d (.str [91])] (qd L s) [] (qd L ⟨s.i + 1, w64 (s.op + 1), s.n⟩) :=
 qN { hint := qT 41 [(24, qB hd), (55, hSucc Pg s.i (by have := hL.len; have := v.lt; omega))], calls := tC [(41, 6, 1116, cOf (qIs v.lt [91] h))] } 1000
theorem qSkipD91 (h : isT L s [91] = true) (hd : (s.op == 200) = true) :
    HC 41 [qP, .d (.str [91])] (qd L s) [] (qe L s (cur L s).p 5) :=
 qN { hint := qT 41 [(24, qB hd)], calls := tC [(41, 6, 1116, cOf (qIs v.lt [91] h)), (41, 26, 1986, cOf (qFail v.lt 5))] } 1000
theorem qSkipO123 (h : isT L s [123] = true) (hd : (s.op == 200) = false) :
    HC 41 [qP, .d (.str [123])] (qd L s) [] (qd L ⟨s.i + 1, w64 (s.op + 1), s.n⟩) :=
 qN { hint := qT 41 [(24, qB hd), (55, hSucc Pg s.i (by have := hL.len; have := v.lt; omega))], calls := tC [(41, 6, 1116, cOf (qIs v.lt [123] h))] } 1000
theorem qSkipD123 (h : isT L s [123] = true) (hd : (s.op == 200) = true) :
    HC 41 [qP, .d (.str [123])] (qd L s) [] (qe L s (cur L s).p 5) :=
 qN { hint := qT 41 [(24, qB hd)], calls := tC [(41, 6, 1116, cOf (qIs v.lt [123] h)), (41, 26, 2102, cOf (qFail v.lt 5))] } 1000
theorem qSkipC41 (h : isT L s [41] = true) :
    HC 41 [qP, .d (.str [41])] (qd L s) [] (qd L ⟨s.i + 1, w64 (s.op - 1), s.n⟩) :=
 qN { hint := qT 41 [(55, hSucc Pg s.i (by have := hL.len; have := v.lt; omega))], calls := tC [(41, 6, 1116, cOf (qIs v.lt [41] h))] } 1000
theorem qSkipC93 (h : isT L s [93] = true) :
    HC 41 [qP, .d (.str [93])] (qd L s) [] (qd L ⟨s.i + 1, w64 (s.op - 1), s.n⟩) :=
 qN { hint := qT 41 [(55, hSucc Pg s.i (by have := hL.len; have := v.lt; omega))], calls := tC [(41, 6, 1116, cOf (qIs v.lt [93] h))] } 1000
theorem qSkipC125 (h : isT L s [125] = true) :
    HC 41 [qP, .d (.str [125])] (qd L s) [] (qd L ⟨s.i + 1, w64 (s.op - 1), s.n⟩) :=
 qN { hint := qT 41 [(55, hSucc Pg s.i (by have := hL.len; have := v.lt; omega))], calls := tC [(41, 6, 1116, cOf (qIs v.lt [125] h))] } 1000
theorem qSkip (x : List UInt8) : RF L 41 [qP, .d (.str x)] (fun _ => []) s (sWant L x s) := by
 unfold sWant
 have hlen := hL.len
 have hlt := v.lt
 have hlo := v.lo
 have hhi := v.hi
 cases h : isT L s x with
 | false => exact ⟨rfl, cur L s, s, qSkipF hL v x h⟩
 | true =>
  have hn := isT_nx hL v.lt h
  have up : w64 (s.op + 1) = s.op + 1 := w64_in (by omega) (by omega)
  have dn : w64 (s.op - 1) = s.op - 1 := w64_in (by omega) (by omega)
  have io : (s.op == 200) = false → Inv L ⟨s.i + 1, w64 (s.op + 1), s.n⟩ := fun hd => by
   have : s.op ≠ 200 := by simpa using hd
   exact ⟨hn, by rw [up]; simp only; omega, by rw [up]; simp only; omega⟩
  have ic : Inv L ⟨s.i + 1, w64 (s.op - 1), s.n⟩ := ⟨hn, by rw [dn]; simp only; omega, by rw [dn]; simp only; omega⟩
  have dd : decide (200 < w64 (s.op + 1)) = (s.op == 200) := by
   rw [up]
   by_cases h0 : s.op = 200
   ·rw [h0]; rfl
   ·have : ¬ 200 < s.op + 1 := by omega
    simp [h0, this]
  simp only [cond_true, dd]
  cases h1 : (x == [40]) with
  | true =>
   obtain rfl : x = [40] := eq_of_beq h1
   simp only [Bool.true_or, cond_true]
   cases hd : (s.op == 200) with
   | true => exact ⟨rfl, cur L s, s, qSkipD40 hL v h hd⟩
   | false => exact ⟨io hd, qSkipO40 hL v h hd⟩
  | false => cases h2 : (x == [91]) with
  | true =>
   obtain rfl : x = [91] := eq_of_beq h2
   simp only [Bool.true_or, Bool.or_true, cond_true]
   cases hd : (s.op == 200) with
   | true => exact ⟨rfl, cur L s, s, qSkipD91 hL v h hd⟩
   | false => exact ⟨io hd, qSkipO91 hL v h hd⟩
  | false => cases h3 : (x == [123]) with
  | true =>
   obtain rfl : x = [123] := eq_of_beq h3
   simp only [Bool.true_or, Bool.or_true, cond_true]
   cases hd : (s.op == 200) with
   | true => exact ⟨rfl, cur L s, s, qSkipD123 hL v h hd⟩
   | false => exact ⟨io hd, qSkipO123 hL v h hd⟩
  | false => cases h4 : (x == [41]) with
  | true =>
   obtain rfl : x = [41] := eq_of_beq h4
   exact ⟨ic, qSkipC41 hL v h⟩
  | false => cases h5 : (x == [93]) with
  | true =>
   obtain rfl : x = [93] := eq_of_beq h5
   exact ⟨ic, qSkipC93 hL v h⟩
  | false => cases h6 : (x == [125]) with
  | true =>
   obtain rfl : x = [125] := eq_of_beq h6
   exact ⟨ic, qSkipC125 hL v h⟩
  | false => exact ⟨⟨hn, by simp only [RS.nx]; omega, hhi⟩, qSkip0 hL v x h h1 h2 h3 h4 h5 h6⟩
theorem qHasF (x : List UInt8) (h : isT L s x = false) : HC 44 [qP, .d (.str x)] (qd L s) [.bool false] (qd L s) :=
 qN { calls := tC [(44, 7, 1051, cOf (qIs v.lt x h))] } 1000
theorem qHasT (x : List UInt8) (h : isT L s x = true) (s' : RS) (c : HC 41 [qP, .d (.str x)] (qd L s) [] (qd L s')) : HC 44 [qP, .d (.str x)] (qd L s) [.bool true] (qd L s') :=
 qN { calls := tC [(44, 7, 1051, cOf (qIs v.lt x h)), (44, 11, 1102, cOf c)] } 1000
theorem qNameT (h : (cur L s).k = 1) : HC 42 [qP] (qd L s) [.str (cur L s).t] (qd L s.nx) :=
 qN { hint := qT 42 [(8, hB Pg ((cur L s).k != 1) false (by simp [h])), (15, hSucc Pg s.i (by have := hL.len; have := v.lt; omega))], calls := tC [(42, 5, 1040, cOf (qNow v.lt))] } 1000
theorem qNameF (h : (cur L s).k ≠ 1) : HC 42 [qP] (qd L s) [.str []] (qe L s (cur L s).p 4) :=
 qN { hint := qT 42 [(8, hB Pg ((cur L s).k != 1) true (by simpa using h))], calls := tC [(42, 5, 1040, cOf (qNow v.lt)), (42, 10, 1160, cOf (qFail v.lt 4))] } 1000
theorem qName : RF L 42 [qP] (fun t => [.str t.t]) s (sTake L 1 s) := by
 unfold sTake
 cases h : ((cur L s).k == 1) with
 | true =>
  have h := eq_of_beq h
  have := v.lo
  exact ⟨⟨nx_lt hL v.lt (by rw [h]; decide), by simp only [RS.nx]; omega, v.hi⟩, qNameT hL v h⟩
 | false => exact ⟨rfl, zT, s, qNameF hL v (by simpa using h)⟩
def noBr (x : List UInt8) : Bool := !(x == [40]) && !(x == [91]) && !(x == [123]) && !(x == [41]) && !(x == [93]) && !(x == [125])
omit hL v in
theorem want_nb {x : List UInt8} (hb : noBr x = true) (h : isT L s x = true) : sWant L x s = .ok (cur L s) s.nx := by
 simp only [noBr, Bool.and_eq_true, Bool.not_eq_true'] at hb
 obtain ⟨⟨⟨⟨⟨h1, h2⟩, h3⟩, h4⟩, h5⟩, h6⟩ := hb
 simp only [sWant, h, h1, h2, h3, h4, h5, h6, Bool.or_false, cond_true, cond_false]
theorem inv_nx {x' : List UInt8} (h : isT L s x' = true) : Inv L s.nx := ⟨isT_nx hL v.lt h, by have := v.lo; simp only [RS.nx]; omega, v.hi⟩
theorem qHas (x : List UInt8) (hb : noBr x = true) (h : isT L s x = true) : HC 44 [qP, .d (.str x)] (qd L s) [.bool true] (qd L s.nx) := by
 simp only [noBr, Bool.and_eq_true, Bool.not_eq_true'] at hb
 obtain ⟨⟨⟨⟨⟨h1, h2⟩, h3⟩, h4⟩, h5⟩, h6⟩ := hb
 exact qHasT hL v x h s.nx (qSkip0 hL v x h h1 h2 h3 h4 h5 h6)
theorem qTy1 (b : Bool) (h1 : isT L s (tName 1) = true) : HC 45 [qP, dB b] (qd L s) [.int .u8 1] (qd L s.nx) :=
 qN { calls := tC [(45, 19, 1264, cOf (qHas hL v (tName 1) rfl h1))] } 1000
theorem qTy2 (b : Bool) (h1 : isT L s (tName 1) = false) (h2 : isT L s (tName 2) = true) : HC 45 [qP, dB b] (qd L s) [.int .u8 2] (qd L s.nx) :=
 qN { calls := tC [(45, 19, 1264, cOf (qHasF hL v (tName 1) h1)), (45, 19, 1576, cOf (qHas hL v (tName 2) rfl h2))] } 1000
section
variable (h1 : isT L s (tName 1) = false) (h2 : isT L s (tName 2) = false)
include h1 h2
theorem qTy3 (h3 : isT L s (tName 3) = true) : HC 45 [qP, dB true] (qd L s) [.int .u8 3] (qd L s.nx) :=
 qN { calls := tC [(45, 19, 1264, cOf (qHasF hL v (tName 1) h1)), (45, 19, 1576, cOf (qHasF hL v (tName 2) h2)), (45, 19, 1912, cOf (qHas hL v (tName 3) rfl h3))] } 1000
theorem qTyN3 (h3 : isT L s (tName 3) = false) : HC 45 [qP, dB true] (qd L s) [.int .u8 0] (qe L s (cur L s).p 4) :=
 qN { calls := tC [(45, 19, 1264, cOf (qHasF hL v (tName 1) h1)), (45, 19, 1576, cOf (qHasF hL v (tName 2) h2)), (45, 19, 1912, cOf (qHasF hL v (tName 3) h3)), (45, 23, 2080, cOf (qFail v.lt 4))] } 1000
theorem qTyN2 : HC 45 [qP, dB false] (qd L s) [.int .u8 0] (qe L s (cur L s).p 4) :=
 qN { calls := tC [(45, 19, 1264, cOf (qHasF hL v (tName 1) h1)), (45, 19, 1576, cOf (qHasF hL v (tName 2) h2)), (45, 23, 2032, cOf (qFail v.lt 4))] } 1000
end
omit hL v in
theorem may_nb {x : List UInt8} (hb : noBr x = true) : sMay L x s = bif isT L s x then .ok true s.nx else .ok false s := by
 unfold sMay
 cases h : isT L s x with
 | false => rfl
 | true => simp only [cond_true, want_nb hb h, Res.bind]
theorem qTyped3 : RF L 45 [qP, dB true] (fun k => [.int .u8 k]) s (sKind L [1, 2, 3] s) := by
 simp only [sKind, may_nb (L := L) (s := s) (x := tName 1) rfl]
 cases h1 : isT L s (tName 1) with
 | true => exact ⟨inv_nx hL v h1, qTy1 hL v true h1⟩
 | false =>
  simp only [cond_false, Res.bind, may_nb (L := L) (s := s) (x := tName 2) rfl]
  cases h2 : isT L s (tName 2) with
  | true => exact ⟨inv_nx hL v h2, qTy2 hL v true h1 h2⟩
  | false =>
   simp only [cond_false, may_nb (L := L) (s := s) (x := tName 3) rfl]
   cases h3 : isT L s (tName 3) with
   | true => exact ⟨inv_nx hL v h3, qTy3 hL v h1 h2 h3⟩
   | false => exact ⟨rfl, 0, s, qTyN3 hL v h1 h2 h3⟩
theorem qTyped2 : RF L 45 [qP, dB false] (fun k => [.int .u8 k]) s (sKind L [1, 2] s) := by
 simp only [sKind, may_nb (L := L) (s := s) (x := tName 1) rfl]
 cases h1 : isT L s (tName 1) with
 | true => exact ⟨inv_nx hL v h1, qTy1 hL v false h1⟩
 | false =>
  simp only [cond_false, Res.bind, may_nb (L := L) (s := s) (x := tName 2) rfl]
  cases h2 : isT L s (tName 2) with
  | true => exact ⟨inv_nx hL v h2, qTy2 hL v false h1 h2⟩
  | false => exact ⟨rfl, 0, s, qTyN2 hL v h1 h2⟩
end
end Go.Avm
namespace Go.Avm
open Go.Proofs
section
variable (L : List T)
def exactOf (s : RS) (k : Int) : List (Int × List UInt8 × Int) → Int
 | [] => 0
 | (o, x, l) :: r => bif l == k && isT L s x then o else exactOf s k r
mutual
def rUn : Nat → RS → Res Ex
 | 0, _ => .out
 | n + 1, s => (sMay L [45] s).bind fun b s1 => bif b then (rUn n s1).bind fun e s2 => .ok (.mk 8 19 [] 0 (cur L s).p [e]) s2 else
  (sMay L [126] s1).bind fun b s1 => bif b then (rUn n s1).bind fun e s2 => .ok (.mk 8 20 [] 0 (cur L s).p [e]) s2 else
  (sMay L [33] s1).bind fun b s1 => bif b then (rUn n s1).bind fun e s2 => .ok (.mk 8 21 [] 0 (cur L s).p [e]) s2 else
  bif (cur L s).k == 3 then .ok (.mk 1 0 [] (cur L s).n (cur L s).p []) s1.nx else
  (sMay L [116, 114, 117, 101] s1).bind fun b s1 => bif b then .ok (.mk 2 0 [] 1 (cur L s).p []) s1 else
  (sMay L [102, 97, 108, 115, 101] s1).bind fun b s1 => bif b then .ok (.mk 2 0 [] 0 (cur L s).p []) s1 else
  (sMay L [114, 101, 97, 100] s1).bind fun b s1 => bif b then (sWant L [40] s1).bind fun _ s2 => (sWant L [41] s2).bind fun _ s3 => .ok (.mk 6 0 [] 0 (cur L s).p []) s3 else
  (sMay L [108, 101, 110] s1).bind fun b s1 => bif b then (sWant L [40] s1).bind fun _ s2 => (sTake L 1 s2).bind fun t s3 => (sWant L [41] s3).bind fun _ s4 => .ok (.mk 7 0 t.t 0 (cur L s).p []) s4 else
  bif isT L s1 [40] then (sWant L [40] s1).bind fun _ s2 => (rLev n 1 s2).bind fun e s3 => (sWant L [41] s3).bind fun _ s4 => .ok e s4 else
  (sTake L 1 s1).bind fun t s2 => bif isT L s2 [91] then (rPl n s2).bind fun e s3 => .ok (.mk 4 0 t.t 0 (cur L s).p [e]) s3 else
  bif isT L s2 [40] then (rAr n s2).bind fun l s3 => .ok (.mk 5 0 t.t 0 (cur L s).p l) s3 else .ok (.mk 3 0 t.t 0 (cur L s).p []) s2
def rPl : Nat → RS → Res Ex
 | 0, _ => .out
 | n + 1, s => (sWant L [91] s).bind fun _ s1 => (rLev n 1 s1).bind fun e s2 => (sWant L [93] s2).bind fun _ s3 => .ok e s3
def rAr : Nat → RS → Res (List Ex)
 | 0, _ => .out
 | n + 1, s => (sWant L [40] s).bind fun _ s1 => bif isT L s1 [41] then (sWant L [41] s1).bind fun _ s2 => .ok [] s2 else
  (rLev n 1 s1).bind fun e s2 => (rMo n [e] s2).bind fun l s3 => (sWant L [41] s3).bind fun _ s4 => .ok l s4
def rMo : Nat → List Ex → RS → Res (List Ex)
 | 0, _, _ => .out
 | n + 1, l, s => (sMay L [44] s).bind fun b s1 => bif b then (rLev n 1 s1).bind fun e s2 => rMo n (l ++ [e]) s2 else .ok l s1
def rLev : Nat → Int → RS → Res Ex
 | 0, _, _ => .out
 | n + 1, k, s => bif k == 11 then rUn n s else (rLev n (w64 (k + 1)) s).bind fun e s1 => rTl n k e s1
def rTl : Nat → Int → Ex → RS → Res Ex
 | 0, _, _, _ => .out
 | n + 1, k, e, s => bif exactOf L s k signs == 0 then .ok e s else
  (rLev n (w64 (k + 1)) s.nx).bind fun r s2 => rTl n k (.mk 9 (exactOf L s k signs) [] 0 (cur L s).p [e, r]) s2
end
end
section
variable {L : List T} {F : Nat} {args : List AV} {s0 : RS} {α β : Type} {g : α → List D}
theorem RF.bind {f' : Nat} {args' : List AV} {g' : β → List D} {s : RS} {r : Res β} {k : β → RS → Res α} (h : RF L f' args' g' s r)
    (hb : ∀ p e a s', (e == 0) = false → (HC f' args' (qd L s) (g' a) (qe L s' p e)) → ∃ (b : α) (s' : RS), HC F args (qd L s0) (g b) (qe L s' p e))
    (hk : ∀ a s', Inv L s' → (HC f' args' (qd L s) (g' a) (qd L s')) → RF L F args g s0 (k a s')) : RF L F args g s0 (r.bind k) := by
 cases r with
 | ok a s' => exact hk a s' h.1 h.2
 | bad p e s' =>
  obtain ⟨he, a, s2, c⟩ := h
  exact ⟨he, hb p e a s2 he c⟩
 | out => trivial
theorem RF.may {s : RS} (x : List UInt8) (hn : noBr x = true) {X Y : RS → Res α} (hT : isT L s x = true → RF L F args g s0 (X s.nx)) (hF : isT L s x = false → RF L F args g s0 (Y s)) : RF L F args g s0 ((sMay L x s).bind fun b s1 => bif b then X s1 else Y s1) := by
 rw [may_nb hn]
 cases h : isT L s x with
 | true => exact hT h
 | false => exact hF h
theorem RF.ite {c : Bool} {X Y : Res α} (hT : c = true → RF L F args g s0 X) (hF : c = false → RF L F args g s0 Y) : RF L F args g s0 (bif c then X else Y) := by
 cases h : c with
 | true => exact hT h
 | false => exact hF h
end
abbrev eZ : Ex := .mk 0 0 [] 0 0 []
section
variable (L : List T) (s : RS) (p : Int) {e : Int} (he : (e == 0) = false)
include he
end
end Go.Avm
namespace Go.Avm
open Go.Proofs
section
variable (L : List T) (s : RS) (p : Int) {e : Int} (he : (e == 0) = false)
include he
theorem zLev (k : Int) : HC 79 [qP, dI k] (qe L s p e) [exD eZ] (qe L s p e) :=
 qN { hint := qT 79 [(16, hB Pg (e != 0) true (by simpa using he))] } 1000
end
section
variable {L : List T} (hL : Toks L)
include hL
theorem qPlace (n : Nat) (ihL : ∀ (k : Int) (s : RS), Inv L s → RF L 79 [qP, dI k] eR s (rLev L n k s)) (s : RS) (v : Inv L s) : RF L 81 [qP] eR s (rPl L (n + 1) s) := by
 simp only [rPl]
 refine RF.bind (qSkip hL v [91]) ?_ ?_
 ·intro p e a s' he c
  exact ⟨eZ, s', qN { calls := tC [(81, 5, 1022, cOf c), (81, 7, 1033, cOf (zLev L s' p he 1)), (81, 9, 1066, cOf (zSkip L s' p he [93]))] } 1000⟩
 ·intro _ s1 v1 c1
  refine RF.bind (ihL 1 _ v1) ?_ ?_
  ·intro p e a s' he c
   obtain ⟨ka, oa, na, ma, pa, ya⟩ := a
   exact ⟨.mk ka oa na ma pa ya, s', qN { calls := tC [(81, 5, 1022, cOf c1), (81, 7, 1033, cOf c), (81, 9, 1066, cOf (zSkip L s' p he [93]))] } 1000⟩
  ·intro x s2 v2 c2
   obtain ⟨kx, ox, nx, mx, px, yx⟩ := x
   refine RF.bind (qSkip hL v2 [93]) ?_ ?_
   ·intro p e a s' he c
    exact ⟨(.mk kx ox nx mx px yx), s', qN { calls := tC [(81, 5, 1022, cOf c1), (81, 7, 1033, cOf c2), (81, 9, 1066, cOf c)] } 1000⟩
   ·intro _ s3 v3 c3
    exact ⟨v3, qN { calls := tC [(81, 5, 1022, cOf c1), (81, 7, 1033, cOf c2), (81, 9, 1066, cOf c3)] } 1000⟩
theorem qUnary (n : Nat) (ih : ∀ s : RS, Inv L s → RF L 103 [qP] eR s (rUn L n s)) (ihL : ∀ (k : Int) (s : RS), Inv L s → RF L 79 [qP, dI k] eR s (rLev L n k s)) (ihP : ∀ s : RS, Inv L s → RF L 81 [qP] eR s (rPl L n s)) (ihA : ∀ s : RS, Inv L s → RF L 80 [qP] (fun l => [.ro (exL l)]) s (rAr L n s)) (s : RS) (v : Inv L s) : RF L 103 [qP] eR s (rUn L (n + 1) s) := by
 simp only [rUn]
 refine RF.may [45] rfl (fun h1 => ?_) (fun h1 => ?_)
 ·
  refine RF.bind (ih _ (inv_nx hL v h1)) ?_ ?_
  ·intro p e a s' he c
   obtain ⟨ka, oa, na, ma, pa, ya⟩ := a
   exact ⟨.mk 8 19 [] 0 (cur L s).p [.mk ka oa na ma pa ya], s', qN { calls := tC [(103, 12, 1218, cOf (qNow v.lt)), (103, 27, 3180, cOf (qHas hL v [45] rfl h1)), (103, 32, 3834, cOf c)] } 1000⟩
  ·intro x s2 v2 c2
   obtain ⟨kx, ox, nx, mx, px, yx⟩ := x
   exact ⟨v2, qN { calls := tC [(103, 12, 1218, cOf (qNow v.lt)), (103, 27, 3180, cOf (qHas hL v [45] rfl h1)), (103, 32, 3834, cOf c2)] } 1000⟩
 ·
  refine RF.may [126] rfl (fun h2 => ?_) (fun h2 => ?_)
  ·
   refine RF.bind (ih _ (inv_nx hL v h2)) ?_ ?_
   ·intro p e a s' he c
    obtain ⟨ka, oa, na, ma, pa, ya⟩ := a
    exact ⟨.mk 8 20 [] 0 (cur L s).p [.mk ka oa na ma pa ya], s', qN { calls := tC [(103, 12, 1218, cOf (qNow v.lt)), (103, 27, 3180, cOf (qHasF hL v [45] h1)), (103, 27, 4597, cOf (qHas hL v [126] rfl h2)), (103, 32, 5251, cOf c)] } 1000⟩
   ·intro x s3 v3 c3
    obtain ⟨kx, ox, nx, mx, px, yx⟩ := x
    exact ⟨v3, qN { calls := tC [(103, 12, 1218, cOf (qNow v.lt)), (103, 27, 3180, cOf (qHasF hL v [45] h1)), (103, 27, 4597, cOf (qHas hL v [126] rfl h2)), (103, 32, 5251, cOf c3)] } 1000⟩
  ·
   refine RF.may [33] rfl (fun h3 => ?_) (fun h3 => ?_)
   ·
    refine RF.bind (ih _ (inv_nx hL v h3)) ?_ ?_
    ·intro p e a s' he c
     obtain ⟨ka, oa, na, ma, pa, ya⟩ := a
     exact ⟨.mk 8 21 [] 0 (cur L s).p [.mk ka oa na ma pa ya], s', qN { calls := tC [(103, 12, 1218, cOf (qNow v.lt)), (103, 27, 3180, cOf (qHasF hL v [45] h1)), (103, 27, 4597, cOf (qHasF hL v [126] h2)), (103, 27, 6014, cOf (qHas hL v [33] rfl h3)), (103, 32, 6668, cOf c)] } 1000⟩
    ·intro x s4 v4 c4
     obtain ⟨kx, ox, nx, mx, px, yx⟩ := x
     exact ⟨v4, qN { calls := tC [(103, 12, 1218, cOf (qNow v.lt)), (103, 27, 3180, cOf (qHasF hL v [45] h1)), (103, 27, 4597, cOf (qHasF hL v [126] h2)), (103, 27, 6014, cOf (qHas hL v [33] rfl h3)), (103, 32, 6668, cOf c4)] } 1000⟩
   ·
    refine RF.ite (fun h4 => ?_) (fun h4 => ?_)
    ·
     exact ⟨⟨nx_lt hL v.lt (by rw [eq_of_beq h4]; decide), by have := v.lo; simp only [RS.nx]; omega, v.hi⟩, qN { hint := qT 103 [(58, qB h4), (63, hSucc Pg s.i (by have := hL.len; have := v.lt; omega))], calls := tC [(103, 12, 1218, cOf (qNow v.lt)), (103, 27, 3180, cOf (qHasF hL v [45] h1)), (103, 27, 4597, cOf (qHasF hL v [126] h2)), (103, 27, 6014, cOf (qHasF hL v [33] h3))] } 1000⟩
    ·
     refine RF.may [116, 114, 117, 101] rfl (fun h5 => ?_) (fun h5 => ?_)
     ·
      exact ⟨(inv_nx hL v h5), qN { hint := qT 103 [(58, qB h4)], calls := tC [(103, 12, 1218, cOf (qNow v.lt)), (103, 27, 3180, cOf (qHasF hL v [45] h1)), (103, 27, 4597, cOf (qHasF hL v [126] h2)), (103, 27, 6014, cOf (qHasF hL v [33] h3)), (103, 72, 7104, cOf (qHas hL v [116, 114, 117, 101] rfl h5))] } 1000⟩
     ·
      refine RF.may [102, 97, 108, 115, 101] rfl (fun h6 => ?_) (fun h6 => ?_)
      ·
       exact ⟨(inv_nx hL v h6), qN { hint := qT 103 [(58, qB h4)], calls := tC [(103, 12, 1218, cOf (qNow v.lt)), (103, 27, 3180, cOf (qHasF hL v [45] h1)), (103, 27, 4597, cOf (qHasF hL v [126] h2)), (103, 27, 6014, cOf (qHasF hL v [33] h3)), (103, 72, 7104, cOf (qHasF hL v [116, 114, 117, 101] h5)), (103, 77, 7322, cOf (qHas hL v [102, 97, 108, 115, 101] rfl h6))] } 1000⟩
      ·
       refine RF.may [114, 101, 97, 100] rfl (fun h7 => ?_) (fun h7 => ?_)
       ·
        refine RF.bind (qSkip hL (inv_nx hL v h7) [40]) ?_ ?_
        ·intro p e a s' he c
         exact ⟨.mk 6 0 [] 0 (cur L s).p [], s', qN { hint := qT 103 [(58, qB h4)], calls := tC [(103, 12, 1218, cOf (qNow v.lt)), (103, 27, 3180, cOf (qHasF hL v [45] h1)), (103, 27, 4597, cOf (qHasF hL v [126] h2)), (103, 27, 6014, cOf (qHasF hL v [33] h3)), (103, 72, 7104, cOf (qHasF hL v [116, 114, 117, 101] h5)), (103, 77, 7322, cOf (qHasF hL v [102, 97, 108, 115, 101] h6)), (103, 81, 7540, cOf (qHas hL v [114, 101, 97, 100] rfl h7)), (103, 83, 7758, cOf c), (103, 85, 7867, cOf (zSkip L s' p he [41]))] } 1000⟩
        ·intro _ s8 v8 c8
         refine RF.bind (qSkip hL v8 [41]) ?_ ?_
         ·intro p e a s' he c
          exact ⟨.mk 6 0 [] 0 (cur L s).p [], s', qN { hint := qT 103 [(58, qB h4)], calls := tC [(103, 12, 1218, cOf (qNow v.lt)), (103, 27, 3180, cOf (qHasF hL v [45] h1)), (103, 27, 4597, cOf (qHasF hL v [126] h2)), (103, 27, 6014, cOf (qHasF hL v [33] h3)), (103, 72, 7104, cOf (qHasF hL v [116, 114, 117, 101] h5)), (103, 77, 7322, cOf (qHasF hL v [102, 97, 108, 115, 101] h6)), (103, 81, 7540, cOf (qHas hL v [114, 101, 97, 100] rfl h7)), (103, 83, 7758, cOf c8), (103, 85, 7867, cOf c)] } 1000⟩
         ·intro _ s9 v9 c9
          exact ⟨v9, qN { hint := qT 103 [(58, qB h4)], calls := tC [(103, 12, 1218, cOf (qNow v.lt)), (103, 27, 3180, cOf (qHasF hL v [45] h1)), (103, 27, 4597, cOf (qHasF hL v [126] h2)), (103, 27, 6014, cOf (qHasF hL v [33] h3)), (103, 72, 7104, cOf (qHasF hL v [116, 114, 117, 101] h5)), (103, 77, 7322, cOf (qHasF hL v [102, 97, 108, 115, 101] h6)), (103, 81, 7540, cOf (qHas hL v [114, 101, 97, 100] rfl h7)), (103, 83, 7758, cOf c8), (103, 85, 7867, cOf c9)] } 1000⟩
       ·
        refine RF.may [108, 101, 110] rfl (fun h8 => ?_) (fun h8 => ?_)
        ·
         refine RF.bind (qSkip hL (inv_nx hL v h8) [40]) ?_ ?_
         ·intro p e a s' he c
          exact ⟨.mk 7 0 zT.t 0 (cur L s).p [], s', qN { hint := qT 103 [(58, qB h4)], calls := tC [(103, 12, 1218, cOf (qNow v.lt)), (103, 27, 3180, cOf (qHasF hL v [45] h1)), (103, 27, 4597, cOf (qHasF hL v [126] h2)), (103, 27, 6014, cOf (qHasF hL v [33] h3)), (103, 72, 7104, cOf (qHasF hL v [116, 114, 117, 101] h5)), (103, 77, 7322, cOf (qHasF hL v [102, 97, 108, 115, 101] h6)), (103, 81, 7540, cOf (qHasF hL v [114, 101, 97, 100] h7)), (103, 89, 7758, cOf (qHas hL v [108, 101, 110] rfl h8)), (103, 91, 7976, cOf c), (103, 93, 8085, cOf (zName L s' p he)), (103, 97, 8630, cOf (zSkip L s' p he [41]))] } 1000⟩
         ·intro _ s9 v9 c9
          refine RF.bind (qName hL v9) ?_ ?_
          ·intro p e a s' he c
           exact ⟨.mk 7 0 a.t 0 (cur L s).p [], s', qN { hint := qT 103 [(58, qB h4)], calls := tC [(103, 12, 1218, cOf (qNow v.lt)), (103, 27, 3180, cOf (qHasF hL v [45] h1)), (103, 27, 4597, cOf (qHasF hL v [126] h2)), (103, 27, 6014, cOf (qHasF hL v [33] h3)), (103, 72, 7104, cOf (qHasF hL v [116, 114, 117, 101] h5)), (103, 77, 7322, cOf (qHasF hL v [102, 97, 108, 115, 101] h6)), (103, 81, 7540, cOf (qHasF hL v [114, 101, 97, 100] h7)), (103, 89, 7758, cOf (qHas hL v [108, 101, 110] rfl h8)), (103, 91, 7976, cOf c9), (103, 93, 8085, cOf c), (103, 97, 8630, cOf (zSkip L s' p he [41]))] } 1000⟩
          ·intro t s10 v10 c10
           refine RF.bind (qSkip hL v10 [41]) ?_ ?_
           ·intro p e a s' he c
            exact ⟨.mk 7 0 t.t 0 (cur L s).p [], s', qN { hint := qT 103 [(58, qB h4)], calls := tC [(103, 12, 1218, cOf (qNow v.lt)), (103, 27, 3180, cOf (qHasF hL v [45] h1)), (103, 27, 4597, cOf (qHasF hL v [126] h2)), (103, 27, 6014, cOf (qHasF hL v [33] h3)), (103, 72, 7104, cOf (qHasF hL v [116, 114, 117, 101] h5)), (103, 77, 7322, cOf (qHasF hL v [102, 97, 108, 115, 101] h6)), (103, 81, 7540, cOf (qHasF hL v [114, 101, 97, 100] h7)), (103, 89, 7758, cOf (qHas hL v [108, 101, 110] rfl h8)), (103, 91, 7976, cOf c9), (103, 93, 8085, cOf c10), (103, 97, 8630, cOf c)] } 1000⟩
           ·intro _ s11 v11 c11
            exact ⟨v11, qN { hint := qT 103 [(58, qB h4)], calls := tC [(103, 12, 1218, cOf (qNow v.lt)), (103, 27, 3180, cOf (qHasF hL v [45] h1)), (103, 27, 4597, cOf (qHasF hL v [126] h2)), (103, 27, 6014, cOf (qHasF hL v [33] h3)), (103, 72, 7104, cOf (qHasF hL v [116, 114, 117, 101] h5)), (103, 77, 7322, cOf (qHasF hL v [102, 97, 108, 115, 101] h6)), (103, 81, 7540, cOf (qHasF hL v [114, 101, 97, 100] h7)), (103, 89, 7758, cOf (qHas hL v [108, 101, 110] rfl h8)), (103, 91, 7976, cOf c9), (103, 93, 8085, cOf c10), (103, 97, 8630, cOf c11)] } 1000⟩
        ·
         refine RF.ite (fun h9 => ?_) (fun h9 => ?_)
         ·
          refine RF.bind (qSkip hL v [40]) ?_ ?_
          ·intro p e a s' he c
           exact ⟨eZ, s', qN { hint := qT 103 [(58, qB h4)], calls := tC [(103, 12, 1218, cOf (qNow v.lt)), (103, 27, 3180, cOf (qHasF hL v [45] h1)), (103, 27, 4597, cOf (qHasF hL v [126] h2)), (103, 27, 6014, cOf (qHasF hL v [33] h3)), (103, 72, 7104, cOf (qHasF hL v [116, 114, 117, 101] h5)), (103, 77, 7322, cOf (qHasF hL v [102, 97, 108, 115, 101] h6)), (103, 81, 7540, cOf (qHasF hL v [114, 101, 97, 100] h7)), (103, 89, 7758, cOf (qHasF hL v [108, 101, 110] h8)), (103, 100, 7976, cOf (qIs v.lt [40] h9)), (103, 102, 8194, cOf c), (103, 104, 8303, cOf (zLev L s' p he 1)), (103, 106, 8630, cOf (zSkip L s' p he [41]))] } 1000⟩
          ·intro _ s10 v10 c10
           refine RF.bind (ihL 1 _ v10) ?_ ?_
           ·intro p e a s' he c
            obtain ⟨ka, oa, na, ma, pa, ya⟩ := a
            exact ⟨.mk ka oa na ma pa ya, s', qN { hint := qT 103 [(58, qB h4)], calls := tC [(103, 12, 1218, cOf (qNow v.lt)), (103, 27, 3180, cOf (qHasF hL v [45] h1)), (103, 27, 4597, cOf (qHasF hL v [126] h2)), (103, 27, 6014, cOf (qHasF hL v [33] h3)), (103, 72, 7104, cOf (qHasF hL v [116, 114, 117, 101] h5)), (103, 77, 7322, cOf (qHasF hL v [102, 97, 108, 115, 101] h6)), (103, 81, 7540, cOf (qHasF hL v [114, 101, 97, 100] h7)), (103, 89, 7758, cOf (qHasF hL v [108, 101, 110] h8)), (103, 100, 7976, cOf (qIs v.lt [40] h9)), (103, 102, 8194, cOf c10), (103, 104, 8303, cOf c), (103, 106, 8630, cOf (zSkip L s' p he [41]))] } 1000⟩
           ·intro x s11 v11 c11
            obtain ⟨kx, ox, nx, mx, px, yx⟩ := x
            refine RF.bind (qSkip hL v11 [41]) ?_ ?_
            ·intro p e a s' he c
             exact ⟨(.mk kx ox nx mx px yx), s', qN { hint := qT 103 [(58, qB h4)], calls := tC [(103, 12, 1218, cOf (qNow v.lt)), (103, 27, 3180, cOf (qHasF hL v [45] h1)), (103, 27, 4597, cOf (qHasF hL v [126] h2)), (103, 27, 6014, cOf (qHasF hL v [33] h3)), (103, 72, 7104, cOf (qHasF hL v [116, 114, 117, 101] h5)), (103, 77, 7322, cOf (qHasF hL v [102, 97, 108, 115, 101] h6)), (103, 81, 7540, cOf (qHasF hL v [114, 101, 97, 100] h7)), (103, 89, 7758, cOf (qHasF hL v [108, 101, 110] h8)), (103, 100, 7976, cOf (qIs v.lt [40] h9)), (103, 102, 8194, cOf c10), (103, 104, 8303, cOf c11), (103, 106, 8630, cOf c)] } 1000⟩
            ·intro _ s12 v12 c12
             exact ⟨v12, qN { hint := qT 103 [(58, qB h4)], calls := tC [(103, 12, 1218, cOf (qNow v.lt)), (103, 27, 3180, cOf (qHasF hL v [45] h1)), (103, 27, 4597, cOf (qHasF hL v [126] h2)), (103, 27, 6014, cOf (qHasF hL v [33] h3)), (103, 72, 7104, cOf (qHasF hL v [116, 114, 117, 101] h5)), (103, 77, 7322, cOf (qHasF hL v [102, 97, 108, 115, 101] h6)), (103, 81, 7540, cOf (qHasF hL v [114, 101, 97, 100] h7)), (103, 89, 7758, cOf (qHasF hL v [108, 101, 110] h8)), (103, 100, 7976, cOf (qIs v.lt [40] h9)), (103, 102, 8194, cOf c10), (103, 104, 8303, cOf c11), (103, 106, 8630, cOf c12)] } 1000⟩
         ·
          refine RF.bind (qName hL v) ?_ ?_
          ·intro p e a s' he c
           exact ⟨.mk 3 0 a.t 0 (cur L s).p [], s', qN { hint := qT 103 [(58, qB h4)], calls := tC [(103, 12, 1218, cOf (qNow v.lt)), (103, 27, 3180, cOf (qHasF hL v [45] h1)), (103, 27, 4597, cOf (qHasF hL v [126] h2)), (103, 27, 6014, cOf (qHasF hL v [33] h3)), (103, 72, 7104, cOf (qHasF hL v [116, 114, 117, 101] h5)), (103, 77, 7322, cOf (qHasF hL v [102, 97, 108, 115, 101] h6)), (103, 81, 7540, cOf (qHasF hL v [114, 101, 97, 100] h7)), (103, 89, 7758, cOf (qHasF hL v [108, 101, 110] h8)), (103, 100, 7976, cOf (qIs v.lt [40] h9)), (103, 38, 8194, cOf c), (103, 42, 8739, cOf (zIs L s' p he [91])), (103, 50, 8848, cOf (zIs L s' p he [40]))] } 1000⟩
          ·intro t s10 v10 c10
           refine RF.ite (fun h11 => ?_) (fun h11 => ?_)
           ·
            refine RF.bind (ihP _ v10) ?_ ?_
            ·intro p e a s' he c
             obtain ⟨ka, oa, na, ma, pa, ya⟩ := a
             exact ⟨.mk 4 0 t.t 0 (cur L s).p [.mk ka oa na ma pa ya], s', qN { hint := qT 103 [(58, qB h4)], calls := tC [(103, 12, 1218, cOf (qNow v.lt)), (103, 27, 3180, cOf (qHasF hL v [45] h1)), (103, 27, 4597, cOf (qHasF hL v [126] h2)), (103, 27, 6014, cOf (qHasF hL v [33] h3)), (103, 72, 7104, cOf (qHasF hL v [116, 114, 117, 101] h5)), (103, 77, 7322, cOf (qHasF hL v [102, 97, 108, 115, 101] h6)), (103, 81, 7540, cOf (qHasF hL v [114, 101, 97, 100] h7)), (103, 89, 7758, cOf (qHasF hL v [108, 101, 110] h8)), (103, 100, 7976, cOf (qIs v.lt [40] h9)), (103, 38, 8194, cOf c10), (103, 42, 8739, cOf (qIs v10.lt [91] h11)), (103, 45, 9066, cOf c)] } 1000⟩
            ·intro x s12 v12 c12
             obtain ⟨kx, ox, nx, mx, px, yx⟩ := x
             exact ⟨v12, qN { hint := qT 103 [(58, qB h4)], calls := tC [(103, 12, 1218, cOf (qNow v.lt)), (103, 27, 3180, cOf (qHasF hL v [45] h1)), (103, 27, 4597, cOf (qHasF hL v [126] h2)), (103, 27, 6014, cOf (qHasF hL v [33] h3)), (103, 72, 7104, cOf (qHasF hL v [116, 114, 117, 101] h5)), (103, 77, 7322, cOf (qHasF hL v [102, 97, 108, 115, 101] h6)), (103, 81, 7540, cOf (qHasF hL v [114, 101, 97, 100] h7)), (103, 89, 7758, cOf (qHasF hL v [108, 101, 110] h8)), (103, 100, 7976, cOf (qIs v.lt [40] h9)), (103, 38, 8194, cOf c10), (103, 42, 8739, cOf (qIs v10.lt [91] h11)), (103, 45, 9066, cOf c12)] } 1000⟩
           ·
            refine RF.ite (fun h12 => ?_) (fun h12 => ?_)
            ·
             refine RF.bind (ihA _ v10) ?_ ?_
             ·intro p e a s' he c
              exact ⟨.mk 5 0 t.t 0 (cur L s).p a, s', qN { hint := qT 103 [(58, qB h4)], calls := tC [(103, 12, 1218, cOf (qNow v.lt)), (103, 27, 3180, cOf (qHasF hL v [45] h1)), (103, 27, 4597, cOf (qHasF hL v [126] h2)), (103, 27, 6014, cOf (qHasF hL v [33] h3)), (103, 72, 7104, cOf (qHasF hL v [116, 114, 117, 101] h5)), (103, 77, 7322, cOf (qHasF hL v [102, 97, 108, 115, 101] h6)), (103, 81, 7540, cOf (qHasF hL v [114, 101, 97, 100] h7)), (103, 89, 7758, cOf (qHasF hL v [108, 101, 110] h8)), (103, 100, 7976, cOf (qIs v.lt [40] h9)), (103, 38, 8194, cOf c10), (103, 42, 8739, cOf (qIs v10.lt [91] h11)), (103, 50, 8848, cOf (qIs v10.lt [40] h12)), (103, 53, 9175, cOf c)] } 1000⟩
             ·intro ys s13 v13 c13
              exact ⟨v13, qN { hint := qT 103 [(58, qB h4)], calls := tC [(103, 12, 1218, cOf (qNow v.lt)), (103, 27, 3180, cOf (qHasF hL v [45] h1)), (103, 27, 4597, cOf (qHasF hL v [126] h2)), (103, 27, 6014, cOf (qHasF hL v [33] h3)), (103, 72, 7104, cOf (qHasF hL v [116, 114, 117, 101] h5)), (103, 77, 7322, cOf (qHasF hL v [102, 97, 108, 115, 101] h6)), (103, 81, 7540, cOf (qHasF hL v [114, 101, 97, 100] h7)), (103, 89, 7758, cOf (qHasF hL v [108, 101, 110] h8)), (103, 100, 7976, cOf (qIs v.lt [40] h9)), (103, 38, 8194, cOf c10), (103, 42, 8739, cOf (qIs v10.lt [91] h11)), (103, 50, 8848, cOf (qIs v10.lt [40] h12)), (103, 53, 9175, cOf c13)] } 1000⟩
            ·
             exact ⟨v10, qN { hint := qT 103 [(58, qB h4)], calls := tC [(103, 12, 1218, cOf (qNow v.lt)), (103, 27, 3180, cOf (qHasF hL v [45] h1)), (103, 27, 4597, cOf (qHasF hL v [126] h2)), (103, 27, 6014, cOf (qHasF hL v [33] h3)), (103, 72, 7104, cOf (qHasF hL v [116, 114, 117, 101] h5)), (103, 77, 7322, cOf (qHasF hL v [102, 97, 108, 115, 101] h6)), (103, 81, 7540, cOf (qHasF hL v [114, 101, 97, 100] h7)), (103, 89, 7758, cOf (qHasF hL v [108, 101, 110] h8)), (103, 100, 7976, cOf (qIs v.lt [40] h9)), (103, 38, 8194, cOf c10), (103, 42, 8739, cOf (qIs v10.lt [91] h11)), (103, 50, 8848, cOf (qIs v10.lt [40] h12))] } 1000⟩
end
end Go.Avm
namespace Go.Avm
open Go.Proofs
theorem rsF1 : Pure Pg 14 [.int .u8 1] [.str [43], .int .i64 9] := pure_of_exec okP named (fun _ _ => false) (fun _ => false) 1000 (by kernel_rfl)
theorem rsF2 : Pure Pg 14 [.int .u8 2] [.str [45], .int .i64 9] := pure_of_exec okP named (fun _ _ => false) (fun _ => false) 1000 (by kernel_rfl)
theorem rsF3 : Pure Pg 14 [.int .u8 3] [.str [42], .int .i64 10] := pure_of_exec okP named (fun _ _ => false) (fun _ => false) 1000 (by kernel_rfl)
theorem rsF4 : Pure Pg 14 [.int .u8 4] [.str [47], .int .i64 10] := pure_of_exec okP named (fun _ _ => false) (fun _ => false) 1000 (by kernel_rfl)
theorem rsF5 : Pure Pg 14 [.int .u8 5] [.str [37], .int .i64 10] := pure_of_exec okP named (fun _ _ => false) (fun _ => false) 1000 (by kernel_rfl)
theorem rsF6 : Pure Pg 14 [.int .u8 6] [.str [38], .int .i64 7] := pure_of_exec okP named (fun _ _ => false) (fun _ => false) 1000 (by kernel_rfl)
theorem rsF7 : Pure Pg 14 [.int .u8 7] [.str [124], .int .i64 5] := pure_of_exec okP named (fun _ _ => false) (fun _ => false) 1000 (by kernel_rfl)
theorem rsF8 : Pure Pg 14 [.int .u8 8] [.str [94], .int .i64 6] := pure_of_exec okP named (fun _ _ => false) (fun _ => false) 1000 (by kernel_rfl)
theorem rsF9 : Pure Pg 14 [.int .u8 9] [.str [60, 60], .int .i64 8] := pure_of_exec okP named (fun _ _ => false) (fun _ => false) 1000 (by kernel_rfl)
theorem rsF10 : Pure Pg 14 [.int .u8 10] [.str [62, 62], .int .i64 8] := pure_of_exec okP named (fun _ _ => false) (fun _ => false) 1000 (by kernel_rfl)
theorem rsF11 : Pure Pg 14 [.int .u8 11] [.str [60], .int .i64 4] := pure_of_exec okP named (fun _ _ => false) (fun _ => false) 1000 (by kernel_rfl)
theorem rsF12 : Pure Pg 14 [.int .u8 12] [.str [60, 61], .int .i64 4] := pure_of_exec okP named (fun _ _ => false) (fun _ => false) 1000 (by kernel_rfl)
theorem rsF13 : Pure Pg 14 [.int .u8 13] [.str [62], .int .i64 4] := pure_of_exec okP named (fun _ _ => false) (fun _ => false) 1000 (by kernel_rfl)
theorem rsF14 : Pure Pg 14 [.int .u8 14] [.str [62, 61], .int .i64 4] := pure_of_exec okP named (fun _ _ => false) (fun _ => false) 1000 (by kernel_rfl)
theorem rsF15 : Pure Pg 14 [.int .u8 15] [.str [61, 61], .int .i64 3] := pure_of_exec okP named (fun _ _ => false) (fun _ => false) 1000 (by kernel_rfl)
theorem rsF16 : Pure Pg 14 [.int .u8 16] [.str [33, 61], .int .i64 3] := pure_of_exec okP named (fun _ _ => false) (fun _ => false) 1000 (by kernel_rfl)
theorem rsF17 : Pure Pg 14 [.int .u8 17] [.str [38, 38], .int .i64 2] := pure_of_exec okP named (fun _ _ => false) (fun _ => false) 1000 (by kernel_rfl)
theorem rsF18 : Pure Pg 14 [.int .u8 18] [.str [124, 124], .int .i64 1] := pure_of_exec okP named (fun _ _ => false) (fun _ => false) 1000 (by kernel_rfl)
def lastOf (L : List T) (s : RS) (k : Int) : Int → List (Int × List UInt8 × Int) → Int
 | a, [] => a
 | a, (o, x, l) :: r => lastOf L s k (bif l == k && isT L s x then o else a) r
abbrev lvL (k : Int) : List (Nat × AV) := [(0, qP), (1, dI k), (4, pC 1004), (5, pC 1808)]
abbrev lvI (k a o : Int) : List (Nat × AV) := [(0, qP), (1, dI k), (4, pC 1004), (5, pC 1808), (6, u8 a), (7, u8 o)]
abbrev lvO (k a : Int) : List (Nat × AV) := [(0, qP), (1, dI k), (4, pC 1004), (5, pC 1808), (6, u8 a)]
abbrev lvH (L : List T) (s : RS) (e : Ex) : List (Nat × Ent) := qd L s ++ [z0E 1004, exE 1808 e]
def OpS (L : List T) (s : RS) (e0 : Ex) (k a o : Int) (e : AExit) (l' : List (Nat × AV)) : Prop := RE 73 (lO 79 9) (lvI k a o) (lvH L s e0) e l' (lvH L s e0)
def OpAt (L : List T) (s : RS) (e0 : Ex) (k a o r : Int) : Prop := RL 73 (lO 79 9) (lvI k a o) (lvH L s e0) (.exit 2) (lvO k r) (lvH L s e0)
theorem op_step {L : List T} {s : RS} {e0 : Ex} {k a o o2 l : Int} {x : List UInt8} {R : List (Int × List UInt8 × Int)} (hA : (l == k) = false → OpS L s e0 k a o .normal (lvI k a o2))
    (hB : (l == k) = true → isT L s x = false → OpS L s e0 k a o .normal (lvI k a o2)) (hC : (l == k) = true → isT L s x = true → OpS L s e0 k a o .normal (lvI k o o2))
    (hn : ∀ a, OpAt L s e0 k a o2 (lastOf L s k a R)) : OpAt L s e0 k a o (lastOf L s k a ((o, x, l) :: R)) := fun rest X hP hN => by
 simp only [lastOf]
 cases h1 : (l == k) with
 | false => exact lw_step (hA h1 rest X hP hN) (hn a rest X hP hN)
 | true => cases h2 : isT L s x with
  | false => exact lw_step (hB h1 h2 rest X hP hN) (hn a rest X hP hN)
  | true => exact lw_step (hC h1 h2 rest X hP hN) (hn o rest X hP hN)
section
variable {L : List T} {s : RS} (hi : s.i < L.length) (k a : Int) {ek eo : Int} {enm : List UInt8} {en ep : Int} {exs : List Ex}
include hi
theorem op19 : RE 73 (lO 79 9) (lvI k a 19) (lvH L s (.mk ek eo enm en ep exs)) (.exit 2) (lvO k a) (lvH L s (.mk ek eo enm en ep exs)) :=
 qE {} 79 2000
theorem opE : OpAt L s (.mk ek eo enm en ep exs) k a 19 a := fun rest X hP hN => lw_stop (op19 hi k a rest X hP hN) (by simp)
theorem opA1 (h : ((9 : Int) == k) = false) : RE 73 (lO 79 9) (lvI k a 1) (lvH L s (.mk ek eo enm en ep exs)) .normal (lvI k a 2) (lvH L s (.mk ek eo enm en ep exs)) :=
 qE { hint := qT 79 [(37, .call 14 _ _ rsF1), (42, qB h)] } 79 2000
theorem opB1 (h : ((9 : Int) == k) = true) (h2 : isT L s [43] = false) : RE 73 (lO 79 9) (lvI k a 1) (lvH L s (.mk ek eo enm en ep exs)) .normal (lvI k a 2) (lvH L s (.mk ek eo enm en ep exs)) :=
 qE { hint := qT 79 [(37, .call 14 _ _ rsF1), (42, qB h)], calls := tC [(79, 46, 3022, cOf (qIs hi [43] h2))] } 79 2000
theorem opC1 (h : ((9 : Int) == k) = true) (h2 : isT L s [43] = true) : RE 73 (lO 79 9) (lvI k a 1) (lvH L s (.mk ek eo enm en ep exs)) .normal (lvI k 1 2) (lvH L s (.mk ek eo enm en ep exs)) :=
 qE { hint := qT 79 [(37, .call 14 _ _ rsF1), (42, qB h)], calls := tC [(79, 46, 3022, cOf (qIs hi [43] h2))] } 79 2000
theorem opA2 (h : ((9 : Int) == k) = false) : RE 73 (lO 79 9) (lvI k a 2) (lvH L s (.mk ek eo enm en ep exs)) .normal (lvI k a 3) (lvH L s (.mk ek eo enm en ep exs)) :=
 qE { hint := qT 79 [(37, .call 14 _ _ rsF2), (42, qB h)] } 79 2000
theorem opB2 (h : ((9 : Int) == k) = true) (h2 : isT L s [45] = false) : RE 73 (lO 79 9) (lvI k a 2) (lvH L s (.mk ek eo enm en ep exs)) .normal (lvI k a 3) (lvH L s (.mk ek eo enm en ep exs)) :=
 qE { hint := qT 79 [(37, .call 14 _ _ rsF2), (42, qB h)], calls := tC [(79, 46, 3022, cOf (qIs hi [45] h2))] } 79 2000
theorem opC2 (h : ((9 : Int) == k) = true) (h2 : isT L s [45] = true) : RE 73 (lO 79 9) (lvI k a 2) (lvH L s (.mk ek eo enm en ep exs)) .normal (lvI k 2 3) (lvH L s (.mk ek eo enm en ep exs)) :=
 qE { hint := qT 79 [(37, .call 14 _ _ rsF2), (42, qB h)], calls := tC [(79, 46, 3022, cOf (qIs hi [45] h2))] } 79 2000
theorem opA3 (h : ((10 : Int) == k) = false) : RE 73 (lO 79 9) (lvI k a 3) (lvH L s (.mk ek eo enm en ep exs)) .normal (lvI k a 4) (lvH L s (.mk ek eo enm en ep exs)) :=
 qE { hint := qT 79 [(37, .call 14 _ _ rsF3), (42, qB h)] } 79 2000
theorem opB3 (h : ((10 : Int) == k) = true) (h2 : isT L s [42] = false) : RE 73 (lO 79 9) (lvI k a 3) (lvH L s (.mk ek eo enm en ep exs)) .normal (lvI k a 4) (lvH L s (.mk ek eo enm en ep exs)) :=
 qE { hint := qT 79 [(37, .call 14 _ _ rsF3), (42, qB h)], calls := tC [(79, 46, 3022, cOf (qIs hi [42] h2))] } 79 2000
theorem opC3 (h : ((10 : Int) == k) = true) (h2 : isT L s [42] = true) : RE 73 (lO 79 9) (lvI k a 3) (lvH L s (.mk ek eo enm en ep exs)) .normal (lvI k 3 4) (lvH L s (.mk ek eo enm en ep exs)) :=
 qE { hint := qT 79 [(37, .call 14 _ _ rsF3), (42, qB h)], calls := tC [(79, 46, 3022, cOf (qIs hi [42] h2))] } 79 2000
theorem opA4 (h : ((10 : Int) == k) = false) : RE 73 (lO 79 9) (lvI k a 4) (lvH L s (.mk ek eo enm en ep exs)) .normal (lvI k a 5) (lvH L s (.mk ek eo enm en ep exs)) :=
 qE { hint := qT 79 [(37, .call 14 _ _ rsF4), (42, qB h)] } 79 2000
theorem opB4 (h : ((10 : Int) == k) = true) (h2 : isT L s [47] = false) : RE 73 (lO 79 9) (lvI k a 4) (lvH L s (.mk ek eo enm en ep exs)) .normal (lvI k a 5) (lvH L s (.mk ek eo enm en ep exs)) :=
 qE { hint := qT 79 [(37, .call 14 _ _ rsF4), (42, qB h)], calls := tC [(79, 46, 3022, cOf (qIs hi [47] h2))] } 79 2000
theorem opC4 (h : ((10 : Int) == k) = true) (h2 : isT L s [47] = true) : RE 73 (lO 79 9) (lvI k a 4) (lvH L s (.mk ek eo enm en ep exs)) .normal (lvI k 4 5) (lvH L s (.mk ek eo enm en ep exs)) :=
 qE { hint := qT 79 [(37, .call 14 _ _ rsF4), (42, qB h)], calls := tC [(79, 46, 3022, cOf (qIs hi [47] h2))] } 79 2000
theorem opA5 (h : ((10 : Int) == k) = false) : RE 73 (lO 79 9) (lvI k a 5) (lvH L s (.mk ek eo enm en ep exs)) .normal (lvI k a 6) (lvH L s (.mk ek eo enm en ep exs)) :=
 qE { hint := qT 79 [(37, .call 14 _ _ rsF5), (42, qB h)] } 79 2000
theorem opB5 (h : ((10 : Int) == k) = true) (h2 : isT L s [37] = false) : RE 73 (lO 79 9) (lvI k a 5) (lvH L s (.mk ek eo enm en ep exs)) .normal (lvI k a 6) (lvH L s (.mk ek eo enm en ep exs)) :=
 qE { hint := qT 79 [(37, .call 14 _ _ rsF5), (42, qB h)], calls := tC [(79, 46, 3022, cOf (qIs hi [37] h2))] } 79 2000
theorem opC5 (h : ((10 : Int) == k) = true) (h2 : isT L s [37] = true) : RE 73 (lO 79 9) (lvI k a 5) (lvH L s (.mk ek eo enm en ep exs)) .normal (lvI k 5 6) (lvH L s (.mk ek eo enm en ep exs)) :=
 qE { hint := qT 79 [(37, .call 14 _ _ rsF5), (42, qB h)], calls := tC [(79, 46, 3022, cOf (qIs hi [37] h2))] } 79 2000
theorem opA6 (h : ((7 : Int) == k) = false) : RE 73 (lO 79 9) (lvI k a 6) (lvH L s (.mk ek eo enm en ep exs)) .normal (lvI k a 7) (lvH L s (.mk ek eo enm en ep exs)) :=
 qE { hint := qT 79 [(37, .call 14 _ _ rsF6), (42, qB h)] } 79 2000
theorem opB6 (h : ((7 : Int) == k) = true) (h2 : isT L s [38] = false) : RE 73 (lO 79 9) (lvI k a 6) (lvH L s (.mk ek eo enm en ep exs)) .normal (lvI k a 7) (lvH L s (.mk ek eo enm en ep exs)) :=
 qE { hint := qT 79 [(37, .call 14 _ _ rsF6), (42, qB h)], calls := tC [(79, 46, 3022, cOf (qIs hi [38] h2))] } 79 2000
theorem opC6 (h : ((7 : Int) == k) = true) (h2 : isT L s [38] = true) : RE 73 (lO 79 9) (lvI k a 6) (lvH L s (.mk ek eo enm en ep exs)) .normal (lvI k 6 7) (lvH L s (.mk ek eo enm en ep exs)) :=
 qE { hint := qT 79 [(37, .call 14 _ _ rsF6), (42, qB h)], calls := tC [(79, 46, 3022, cOf (qIs hi [38] h2))] } 79 2000
theorem opA7 (h : ((5 : Int) == k) = false) : RE 73 (lO 79 9) (lvI k a 7) (lvH L s (.mk ek eo enm en ep exs)) .normal (lvI k a 8) (lvH L s (.mk ek eo enm en ep exs)) :=
 qE { hint := qT 79 [(37, .call 14 _ _ rsF7), (42, qB h)] } 79 2000
theorem opB7 (h : ((5 : Int) == k) = true) (h2 : isT L s [124] = false) : RE 73 (lO 79 9) (lvI k a 7) (lvH L s (.mk ek eo enm en ep exs)) .normal (lvI k a 8) (lvH L s (.mk ek eo enm en ep exs)) :=
 qE { hint := qT 79 [(37, .call 14 _ _ rsF7), (42, qB h)], calls := tC [(79, 46, 3022, cOf (qIs hi [124] h2))] } 79 2000
theorem opC7 (h : ((5 : Int) == k) = true) (h2 : isT L s [124] = true) : RE 73 (lO 79 9) (lvI k a 7) (lvH L s (.mk ek eo enm en ep exs)) .normal (lvI k 7 8) (lvH L s (.mk ek eo enm en ep exs)) :=
 qE { hint := qT 79 [(37, .call 14 _ _ rsF7), (42, qB h)], calls := tC [(79, 46, 3022, cOf (qIs hi [124] h2))] } 79 2000
theorem opA8 (h : ((6 : Int) == k) = false) : RE 73 (lO 79 9) (lvI k a 8) (lvH L s (.mk ek eo enm en ep exs)) .normal (lvI k a 9) (lvH L s (.mk ek eo enm en ep exs)) :=
 qE { hint := qT 79 [(37, .call 14 _ _ rsF8), (42, qB h)] } 79 2000
theorem opB8 (h : ((6 : Int) == k) = true) (h2 : isT L s [94] = false) : RE 73 (lO 79 9) (lvI k a 8) (lvH L s (.mk ek eo enm en ep exs)) .normal (lvI k a 9) (lvH L s (.mk ek eo enm en ep exs)) :=
 qE { hint := qT 79 [(37, .call 14 _ _ rsF8), (42, qB h)], calls := tC [(79, 46, 3022, cOf (qIs hi [94] h2))] } 79 2000
theorem opC8 (h : ((6 : Int) == k) = true) (h2 : isT L s [94] = true) : RE 73 (lO 79 9) (lvI k a 8) (lvH L s (.mk ek eo enm en ep exs)) .normal (lvI k 8 9) (lvH L s (.mk ek eo enm en ep exs)) :=
 qE { hint := qT 79 [(37, .call 14 _ _ rsF8), (42, qB h)], calls := tC [(79, 46, 3022, cOf (qIs hi [94] h2))] } 79 2000
theorem opA9 (h : ((8 : Int) == k) = false) : RE 73 (lO 79 9) (lvI k a 9) (lvH L s (.mk ek eo enm en ep exs)) .normal (lvI k a 10) (lvH L s (.mk ek eo enm en ep exs)) :=
 qE { hint := qT 79 [(37, .call 14 _ _ rsF9), (42, qB h)] } 79 2000
theorem opB9 (h : ((8 : Int) == k) = true) (h2 : isT L s [60, 60] = false) : RE 73 (lO 79 9) (lvI k a 9) (lvH L s (.mk ek eo enm en ep exs)) .normal (lvI k a 10) (lvH L s (.mk ek eo enm en ep exs)) :=
 qE { hint := qT 79 [(37, .call 14 _ _ rsF9), (42, qB h)], calls := tC [(79, 46, 3022, cOf (qIs hi [60, 60] h2))] } 79 2000
theorem opC9 (h : ((8 : Int) == k) = true) (h2 : isT L s [60, 60] = true) : RE 73 (lO 79 9) (lvI k a 9) (lvH L s (.mk ek eo enm en ep exs)) .normal (lvI k 9 10) (lvH L s (.mk ek eo enm en ep exs)) :=
 qE { hint := qT 79 [(37, .call 14 _ _ rsF9), (42, qB h)], calls := tC [(79, 46, 3022, cOf (qIs hi [60, 60] h2))] } 79 2000
theorem opA10 (h : ((8 : Int) == k) = false) : RE 73 (lO 79 9) (lvI k a 10) (lvH L s (.mk ek eo enm en ep exs)) .normal (lvI k a 11) (lvH L s (.mk ek eo enm en ep exs)) :=
 qE { hint := qT 79 [(37, .call 14 _ _ rsF10), (42, qB h)] } 79 2000
theorem opB10 (h : ((8 : Int) == k) = true) (h2 : isT L s [62, 62] = false) : RE 73 (lO 79 9) (lvI k a 10) (lvH L s (.mk ek eo enm en ep exs)) .normal (lvI k a 11) (lvH L s (.mk ek eo enm en ep exs)) :=
 qE { hint := qT 79 [(37, .call 14 _ _ rsF10), (42, qB h)], calls := tC [(79, 46, 3022, cOf (qIs hi [62, 62] h2))] } 79 2000
theorem opC10 (h : ((8 : Int) == k) = true) (h2 : isT L s [62, 62] = true) : RE 73 (lO 79 9) (lvI k a 10) (lvH L s (.mk ek eo enm en ep exs)) .normal (lvI k 10 11) (lvH L s (.mk ek eo enm en ep exs)) :=
 qE { hint := qT 79 [(37, .call 14 _ _ rsF10), (42, qB h)], calls := tC [(79, 46, 3022, cOf (qIs hi [62, 62] h2))] } 79 2000
theorem opA11 (h : ((4 : Int) == k) = false) : RE 73 (lO 79 9) (lvI k a 11) (lvH L s (.mk ek eo enm en ep exs)) .normal (lvI k a 12) (lvH L s (.mk ek eo enm en ep exs)) :=
 qE { hint := qT 79 [(37, .call 14 _ _ rsF11), (42, qB h)] } 79 2000
theorem opB11 (h : ((4 : Int) == k) = true) (h2 : isT L s [60] = false) : RE 73 (lO 79 9) (lvI k a 11) (lvH L s (.mk ek eo enm en ep exs)) .normal (lvI k a 12) (lvH L s (.mk ek eo enm en ep exs)) :=
 qE { hint := qT 79 [(37, .call 14 _ _ rsF11), (42, qB h)], calls := tC [(79, 46, 3022, cOf (qIs hi [60] h2))] } 79 2000
theorem opC11 (h : ((4 : Int) == k) = true) (h2 : isT L s [60] = true) : RE 73 (lO 79 9) (lvI k a 11) (lvH L s (.mk ek eo enm en ep exs)) .normal (lvI k 11 12) (lvH L s (.mk ek eo enm en ep exs)) :=
 qE { hint := qT 79 [(37, .call 14 _ _ rsF11), (42, qB h)], calls := tC [(79, 46, 3022, cOf (qIs hi [60] h2))] } 79 2000
theorem opA12 (h : ((4 : Int) == k) = false) : RE 73 (lO 79 9) (lvI k a 12) (lvH L s (.mk ek eo enm en ep exs)) .normal (lvI k a 13) (lvH L s (.mk ek eo enm en ep exs)) :=
 qE { hint := qT 79 [(37, .call 14 _ _ rsF12), (42, qB h)] } 79 2000
theorem opB12 (h : ((4 : Int) == k) = true) (h2 : isT L s [60, 61] = false) : RE 73 (lO 79 9) (lvI k a 12) (lvH L s (.mk ek eo enm en ep exs)) .normal (lvI k a 13) (lvH L s (.mk ek eo enm en ep exs)) :=
 qE { hint := qT 79 [(37, .call 14 _ _ rsF12), (42, qB h)], calls := tC [(79, 46, 3022, cOf (qIs hi [60, 61] h2))] } 79 2000
theorem opC12 (h : ((4 : Int) == k) = true) (h2 : isT L s [60, 61] = true) : RE 73 (lO 79 9) (lvI k a 12) (lvH L s (.mk ek eo enm en ep exs)) .normal (lvI k 12 13) (lvH L s (.mk ek eo enm en ep exs)) :=
 qE { hint := qT 79 [(37, .call 14 _ _ rsF12), (42, qB h)], calls := tC [(79, 46, 3022, cOf (qIs hi [60, 61] h2))] } 79 2000
theorem opA13 (h : ((4 : Int) == k) = false) : RE 73 (lO 79 9) (lvI k a 13) (lvH L s (.mk ek eo enm en ep exs)) .normal (lvI k a 14) (lvH L s (.mk ek eo enm en ep exs)) :=
 qE { hint := qT 79 [(37, .call 14 _ _ rsF13), (42, qB h)] } 79 2000
theorem opB13 (h : ((4 : Int) == k) = true) (h2 : isT L s [62] = false) : RE 73 (lO 79 9) (lvI k a 13) (lvH L s (.mk ek eo enm en ep exs)) .normal (lvI k a 14) (lvH L s (.mk ek eo enm en ep exs)) :=
 qE { hint := qT 79 [(37, .call 14 _ _ rsF13), (42, qB h)], calls := tC [(79, 46, 3022, cOf (qIs hi [62] h2))] } 79 2000
theorem opC13 (h : ((4 : Int) == k) = true) (h2 : isT L s [62] = true) : RE 73 (lO 79 9) (lvI k a 13) (lvH L s (.mk ek eo enm en ep exs)) .normal (lvI k 13 14) (lvH L s (.mk ek eo enm en ep exs)) :=
 qE { hint := qT 79 [(37, .call 14 _ _ rsF13), (42, qB h)], calls := tC [(79, 46, 3022, cOf (qIs hi [62] h2))] } 79 2000
theorem opA14 (h : ((4 : Int) == k) = false) : RE 73 (lO 79 9) (lvI k a 14) (lvH L s (.mk ek eo enm en ep exs)) .normal (lvI k a 15) (lvH L s (.mk ek eo enm en ep exs)) :=
 qE { hint := qT 79 [(37, .call 14 _ _ rsF14), (42, qB h)] } 79 2000
theorem opB14 (h : ((4 : Int) == k) = true) (h2 : isT L s [62, 61] = false) : RE 73 (lO 79 9) (lvI k a 14) (lvH L s (.mk ek eo enm en ep exs)) .normal (lvI k a 15) (lvH L s (.mk ek eo enm en ep exs)) :=
 qE { hint := qT 79 [(37, .call 14 _ _ rsF14), (42, qB h)], calls := tC [(79, 46, 3022, cOf (qIs hi [62, 61] h2))] } 79 2000
theorem opC14 (h : ((4 : Int) == k) = true) (h2 : isT L s [62, 61] = true) : RE 73 (lO 79 9) (lvI k a 14) (lvH L s (.mk ek eo enm en ep exs)) .normal (lvI k 14 15) (lvH L s (.mk ek eo enm en ep exs)) :=
 qE { hint := qT 79 [(37, .call 14 _ _ rsF14), (42, qB h)], calls := tC [(79, 46, 3022, cOf (qIs hi [62, 61] h2))] } 79 2000
theorem opA15 (h : ((3 : Int) == k) = false) : RE 73 (lO 79 9) (lvI k a 15) (lvH L s (.mk ek eo enm en ep exs)) .normal (lvI k a 16) (lvH L s (.mk ek eo enm en ep exs)) :=
 qE { hint := qT 79 [(37, .call 14 _ _ rsF15), (42, qB h)] } 79 2000
theorem opB15 (h : ((3 : Int) == k) = true) (h2 : isT L s [61, 61] = false) : RE 73 (lO 79 9) (lvI k a 15) (lvH L s (.mk ek eo enm en ep exs)) .normal (lvI k a 16) (lvH L s (.mk ek eo enm en ep exs)) :=
 qE { hint := qT 79 [(37, .call 14 _ _ rsF15), (42, qB h)], calls := tC [(79, 46, 3022, cOf (qIs hi [61, 61] h2))] } 79 2000
theorem opC15 (h : ((3 : Int) == k) = true) (h2 : isT L s [61, 61] = true) : RE 73 (lO 79 9) (lvI k a 15) (lvH L s (.mk ek eo enm en ep exs)) .normal (lvI k 15 16) (lvH L s (.mk ek eo enm en ep exs)) :=
 qE { hint := qT 79 [(37, .call 14 _ _ rsF15), (42, qB h)], calls := tC [(79, 46, 3022, cOf (qIs hi [61, 61] h2))] } 79 2000
theorem opA16 (h : ((3 : Int) == k) = false) : RE 73 (lO 79 9) (lvI k a 16) (lvH L s (.mk ek eo enm en ep exs)) .normal (lvI k a 17) (lvH L s (.mk ek eo enm en ep exs)) :=
 qE { hint := qT 79 [(37, .call 14 _ _ rsF16), (42, qB h)] } 79 2000
theorem opB16 (h : ((3 : Int) == k) = true) (h2 : isT L s [33, 61] = false) : RE 73 (lO 79 9) (lvI k a 16) (lvH L s (.mk ek eo enm en ep exs)) .normal (lvI k a 17) (lvH L s (.mk ek eo enm en ep exs)) :=
 qE { hint := qT 79 [(37, .call 14 _ _ rsF16), (42, qB h)], calls := tC [(79, 46, 3022, cOf (qIs hi [33, 61] h2))] } 79 2000
theorem opC16 (h : ((3 : Int) == k) = true) (h2 : isT L s [33, 61] = true) : RE 73 (lO 79 9) (lvI k a 16) (lvH L s (.mk ek eo enm en ep exs)) .normal (lvI k 16 17) (lvH L s (.mk ek eo enm en ep exs)) :=
 qE { hint := qT 79 [(37, .call 14 _ _ rsF16), (42, qB h)], calls := tC [(79, 46, 3022, cOf (qIs hi [33, 61] h2))] } 79 2000
theorem opA17 (h : ((2 : Int) == k) = false) : RE 73 (lO 79 9) (lvI k a 17) (lvH L s (.mk ek eo enm en ep exs)) .normal (lvI k a 18) (lvH L s (.mk ek eo enm en ep exs)) :=
 qE { hint := qT 79 [(37, .call 14 _ _ rsF17), (42, qB h)] } 79 2000
theorem opB17 (h : ((2 : Int) == k) = true) (h2 : isT L s [38, 38] = false) : RE 73 (lO 79 9) (lvI k a 17) (lvH L s (.mk ek eo enm en ep exs)) .normal (lvI k a 18) (lvH L s (.mk ek eo enm en ep exs)) :=
 qE { hint := qT 79 [(37, .call 14 _ _ rsF17), (42, qB h)], calls := tC [(79, 46, 3022, cOf (qIs hi [38, 38] h2))] } 79 2000
theorem opC17 (h : ((2 : Int) == k) = true) (h2 : isT L s [38, 38] = true) : RE 73 (lO 79 9) (lvI k a 17) (lvH L s (.mk ek eo enm en ep exs)) .normal (lvI k 17 18) (lvH L s (.mk ek eo enm en ep exs)) :=
 qE { hint := qT 79 [(37, .call 14 _ _ rsF17), (42, qB h)], calls := tC [(79, 46, 3022, cOf (qIs hi [38, 38] h2))] } 79 2000
theorem opA18 (h : ((1 : Int) == k) = false) : RE 73 (lO 79 9) (lvI k a 18) (lvH L s (.mk ek eo enm en ep exs)) .normal (lvI k a 19) (lvH L s (.mk ek eo enm en ep exs)) :=
 qE { hint := qT 79 [(37, .call 14 _ _ rsF18), (42, qB h)] } 79 2000
theorem opB18 (h : ((1 : Int) == k) = true) (h2 : isT L s [124, 124] = false) : RE 73 (lO 79 9) (lvI k a 18) (lvH L s (.mk ek eo enm en ep exs)) .normal (lvI k a 19) (lvH L s (.mk ek eo enm en ep exs)) :=
 qE { hint := qT 79 [(37, .call 14 _ _ rsF18), (42, qB h)], calls := tC [(79, 46, 3022, cOf (qIs hi [124, 124] h2))] } 79 2000
theorem opC18 (h : ((1 : Int) == k) = true) (h2 : isT L s [124, 124] = true) : RE 73 (lO 79 9) (lvI k a 18) (lvH L s (.mk ek eo enm en ep exs)) .normal (lvI k 18 19) (lvH L s (.mk ek eo enm en ep exs)) :=
 qE { hint := qT 79 [(37, .call 14 _ _ rsF18), (42, qB h)], calls := tC [(79, 46, 3022, cOf (qIs hi [124, 124] h2))] } 79 2000
theorem op1 : OpAt L s (.mk ek eo enm en ep exs) k a 1 (lastOf L s k a signs) :=
 op_step (opA1 hi k a) (opB1 hi k a) (opC1 hi k a) (fun a2 => op_step (opA2 hi k a2) (opB2 hi k a2) (opC2 hi k a2) (fun a3 => op_step (opA3 hi k a3) (opB3 hi k a3) (opC3 hi k a3) (fun a4 => op_step (opA4 hi k a4) (opB4 hi k a4) (opC4 hi k a4) (fun a5 => op_step (opA5 hi k a5) (opB5 hi k a5) (opC5 hi k a5) (fun a6 => op_step (opA6 hi k a6) (opB6 hi k a6) (opC6 hi k a6) (fun a7 => op_step (opA7 hi k a7) (opB7 hi k a7) (opC7 hi k a7) (fun a8 => op_step (opA8 hi k a8) (opB8 hi k a8) (opC8 hi k a8) (fun a9 => op_step (opA9 hi k a9) (opB9 hi k a9) (opC9 hi k a9) (fun a10 => op_step (opA10 hi k a10) (opB10 hi k a10) (opC10 hi k a10) (fun a11 => op_step (opA11 hi k a11) (opB11 hi k a11) (opC11 hi k a11) (fun a12 => op_step (opA12 hi k a12) (opB12 hi k a12) (opC12 hi k a12) (fun a13 => op_step (opA13 hi k a13) (opB13 hi k a13) (opC13 hi k a13) (fun a14 => op_step (opA14 hi k a14) (opB14 hi k a14) (opC14 hi k a14) (fun a15 => op_step (opA15 hi k a15) (opB15 hi k a15) (opC15 hi k a15) (fun a16 => op_step (opA16 hi k a16) (opB16 hi k a16) (opC16 hi k a16) (fun a17 => op_step (opA17 hi k a17) (opB17 hi k a17) (opC17 hi k a17) (fun a18 => op_step (opA18 hi k a18) (opB18 hi k a18) (opC18 hi k a18) (fun a19 => opE hi k a19))))))))))))))))))
end
noncomputable def opLH {L : List T} {s : RS} {e0 : Ex} {k a r : Int} (h : OpAt L s e0 k a 1 r) : LHint Pg :=
 ⟨73, loopOf Pg 79 9, lvI k a 1, fun _ => lvH L s e0, .exit 2, lvO k r, fun _ => lvH L s e0, fun rest X hP hN => (h rest X hP hN).aw⟩
abbrev lvE : List (Nat × AV) := [(4, pC 1004), (5, pC 1808)]
abbrev lvZ (L : List T) (s : RS) (p er : Int) (e : Ex) : List (Nat × Ent) := qe L s p er ++ [z0E 1004, exE 1808 e]
def LvAt (L : List T) (k : Int) (s : RS) (e : Ex) : Res Ex → Prop
 | .ok a s' => Inv L s' ∧ RL 73 (lO 79 6) (lvL k) (lvH L s e) (.exit 0) lvE (lvH L s' a)
 | .bad p q _ => (q == 0) = false ∧ ∃ (a : Ex) (s' : RS), RL 73 (lO 79 6) (lvL k) (lvH L s e) (.exit 0) lvE (lvZ L s' p q a)
 | .out => True
section
variable {L : List T} (hL : Toks L) {s : RS} (v : Inv L s) (least : Int) (k o : Int) (nm : List UInt8) (n p : Int) (xs : List Ex) (op : Int) (hx : OpAt L s (.mk k o nm n p xs) least 0 1 op)
include v hL hx
theorem lvStop (h : (op == 0) = true) : RE 73 (lO 79 6) (lvL least) (lvH L s (.mk k o nm n p xs)) (.exit 0) lvE (lvH L s (.mk k o nm n p xs)) :=
 qE { loops := fun f q => if f = 79 then (if q = 9 then some (opLH hx) else none) else none, hint := qT 79 [(50, qB h)] } 79 2000
theorem lvGo (h : (op == 0) = false) (k2 o2 : Int) (nm2 : List UInt8) (n2 p2 : Int) (xs2 : List Ex) (s2 : RS) (c : HC 79 [qP, dI (w64 (least + 1))] (qd L s.nx) [exD (.mk k2 o2 nm2 n2 p2 xs2)] (qd L s2)) :
    RE 73 (lO 79 6) (lvL least) (lvH L s (.mk k o nm n p xs)) .normal (lvL least) (lvH L s2 (.mk 9 op [] 0 (cur L s).p [.mk k o nm n p xs, .mk k2 o2 nm2 n2 p2 xs2])) :=
 segC okP named { loops := fun f q => if f = 79 then (if q = 9 then some (opLH hx) else none) else none, hint := qT 79 [(50, qB h), (60, hSucc Pg s.i (by have := hL.len; have := v.lt; omega))], calls := tC [(79, 53, 2803, cOf (qNow v.lt)), (79, 66, 3898, cOf c)] } 2000 79 2000 73 1000000 ([(1808, 5)]) ⟨rfl, rfl, rfl, by kernel_rfl, by kernel_rfl, by kernel_rfl⟩ (by kernel_rfl) (by kernel_rfl) (fun _ => by kernel_rfl)
theorem lvBad (h : (op == 0) = false) (k2 o2 : Int) (nm2 : List UInt8) (n2 p2 : Int) (xs2 : List Ex) (s2 : RS) (q r : Int) (c : HC 79 [qP, dI (w64 (least + 1))] (qd L s.nx) [exD (.mk k2 o2 nm2 n2 p2 xs2)] (qe L s2 q r)) :
    RE 73 (lO 79 6) (lvL least) (lvH L s (.mk k o nm n p xs)) .normal (lvL least) (lvZ L s2 q r (.mk 9 op [] 0 (cur L s).p [.mk k o nm n p xs, .mk k2 o2 nm2 n2 p2 xs2])) :=
 segC okP named { loops := fun f q => if f = 79 then (if q = 9 then some (opLH hx) else none) else none, hint := qT 79 [(50, qB h), (60, hSucc Pg s.i (by have := hL.len; have := v.lt; omega))], calls := tC [(79, 53, 2803, cOf (qNow v.lt)), (79, 66, 3898, cOf c)] } 2000 79 2000 73 1000000 ([(1808, 5)]) ⟨rfl, rfl, rfl, by kernel_rfl, by kernel_rfl, by kernel_rfl⟩ (by kernel_rfl) (by kernel_rfl) (fun _ => by kernel_rfl)
end
theorem lvEnd (L : List T) (s : RS) (q : Int) {r : Int} (he : (r == 0) = false) (least k o : Int) (nm : List UInt8) (n p : Int) (xs : List Ex) : RE 73 (lO 79 6) (lvL least) (lvZ L s q r (.mk k o nm n p xs)) (.exit 0) lvE (lvZ L s q r (.mk k o nm n p xs)) :=
 qE { hint := qT 79 [(30, qB he)] } 79 2000
noncomputable def lvLH {L : List T} {least : Int} {s : RS} {e : Ex} {hp' : List (Nat × Ent)} {x : AExit} {l' : List (Nat × AV)} (h : RL 73 (lO 79 6) (lvL least) (lvH L s e) x l' hp') : LHint Pg :=
 ⟨73, loopOf Pg 79 6, lvL least, fun _ => lvH L s e, x, l', fun _ => hp', fun rest X hP hN => (h rest X hP hN).aw⟩
theorem lv11 {L : List T} {s s2 : RS} {k o : Int} {nm : List UInt8} {n p : Int} {xs : List Ex} (c : HC 103 [qP] (qd L s) [exD (.mk k o nm n p xs)] (qd L s2)) : HC 79 [qP, dI 11] (qd L s) [exD (.mk k o nm n p xs)] (qd L s2) :=
 qN { calls := tC [(79, 21, 1657, cOf c)] } 1000
theorem lv11z {L : List T} {s s2 : RS} {q r k o : Int} {nm : List UInt8} {n p : Int} {xs : List Ex} (c : HC 103 [qP] (qd L s) [exD (.mk k o nm n p xs)] (qe L s2 q r)) : HC 79 [qP, dI 11] (qd L s) [exD (.mk k o nm n p xs)] (qe L s2 q r) :=
 qN { calls := tC [(79, 21, 1657, cOf c)] } 1000
section
variable {L : List T} {least : Int} (hk : (least == 11) = false) {s s1 s2 : RS} {k o : Int} {nm : List UInt8} {n p : Int} {xs : List Ex} {k2 o2 : Int} {nm2 : List UInt8} {n2 p2 : Int} {xs2 : List Ex} {q r : Int}
include hk
theorem lvOk (c : HC 79 [qP, dI (w64 (least + 1))] (qd L s) [exD (.mk k o nm n p xs)] (qd L s1))
    (h : RL 73 (lO 79 6) (lvL least) (lvH L s1 (.mk k o nm n p xs)) (.exit 0) lvE (lvH L s2 (.mk k2 o2 nm2 n2 p2 xs2))) :
    HC 79 [qP, dI least] (qd L s) [exD (.mk k2 o2 nm2 n2 p2 xs2)] (qd L s2) :=
 qN { loops := fun f q => if f = 79 then (if q = 6 then some (lvLH h) else none) else none, hint := qT 79 [(19, qB hk)], calls := tC [(79, 25, 1803, cOf c)] } 1000
theorem lvOkz (c : HC 79 [qP, dI (w64 (least + 1))] (qd L s) [exD (.mk k o nm n p xs)] (qd L s1))
    (h : RL 73 (lO 79 6) (lvL least) (lvH L s1 (.mk k o nm n p xs)) (.exit 0) lvE (lvZ L s2 q r (.mk k2 o2 nm2 n2 p2 xs2))) :
    HC 79 [qP, dI least] (qd L s) [exD (.mk k2 o2 nm2 n2 p2 xs2)] (qe L s2 q r) :=
 qN { loops := fun f q => if f = 79 then (if q = 6 then some (lvLH h) else none) else none, hint := qT 79 [(19, qB hk)], calls := tC [(79, 25, 1803, cOf c)] } 1000
theorem lvFz (hr : (r == 0) = false) (c : HC 79 [qP, dI (w64 (least + 1))] (qd L s) [exD (.mk k o nm n p xs)] (qe L s1 q r)) :
    HC 79 [qP, dI least] (qd L s) [exD (.mk k o nm n p xs)] (qe L s1 q r) :=
 qN { hint := qT 79 [(19, qB hk), (30, qB hr)], calls := tC [(79, 25, 1803, cOf c)] } 1000
end
theorem isT_inj {L : List T} {s : RS} {x y : List UInt8} (h : isT L s x = true) (h2 : isT L s y = true) : x = y := by
 simp only [isT, Bool.and_eq_true] at h h2
 exact (eq_of_beq h.2).symm.trans (eq_of_beq h2.2)
theorem last_none {L : List T} {s : RS} {k : Int} {x : List UInt8} (h : isT L s x = true) : ∀ (l : List (Int × List UInt8 × Int)) (a : Int), (∀ p ∈ l, p.2.1 ≠ x) → lastOf L s k a l = a
 | [], _, _ => rfl
 | (o, y, m) :: r, a, hl => by
  have : isT L s y = false := by
   cases h2 : isT L s y with
   | false => rfl
   | true => exact absurd (isT_inj h2 h) (hl (o, y, m) (by simp))
  simp only [lastOf, this, Bool.and_false, cond_false]
  exact last_none h r a fun p hp => hl p (by simp [hp])
theorem last_exact {L : List T} {s : RS} {k : Int} : ∀ l : List (Int × List UInt8 × Int), (l.map fun p => p.2.1).Nodup → lastOf L s k 0 l = exactOf L s k l
 | [], _ => rfl
 | (o, x, m) :: r, h => by
  simp only [List.map_cons, List.nodup_cons] at h
  simp only [lastOf, exactOf]
  cases hc : (m == k && isT L s x) with
  | true => exact last_none (Bool.and_eq_true .. ▸ hc).2 r o fun p hp e => h.1 (List.mem_map.2 ⟨p, hp, e⟩)
  | false => exact last_exact r h.2
theorem opX {L : List T} {s : RS} (hi : s.i < L.length) (k : Int) (e0 : Ex) : OpAt L s e0 k 0 1 (exactOf L s k signs) := last_exact (L := L) (s := s) (k := k) signs (by decide) ▸ (match e0 with | .mk _ _ _ _ _ _ => op1 hi k 0)
theorem exact_some {L : List T} (hL : Toks L) {s : RS} (l0 : s.i < L.length) {k : Int} : ∀ l : List (Int × List UInt8 × Int), exactOf L s k l ≠ 0 → s.i + 1 < L.length
 | [], h => by simp [exactOf] at h
 | (o, x, m) :: r, h => by
  simp only [exactOf] at h
  cases hc : (m == k && isT L s x) with
  | true => exact isT_nx hL l0 (Bool.and_eq_true .. ▸ hc).2
  | false => rw [hc] at h; exact exact_some hL l0 r h
section
variable {L : List T} (hL : Toks L)
include hL
theorem qTail (n : Nat) (ihL : ∀ (k : Int) (s : RS), Inv L s → RF L 79 [qP, dI k] eR s (rLev L n k s)) (ihT : ∀ (k : Int) (e : Ex) (s : RS), Inv L s → LvAt L k s e (rTl L n k e s))
    (least : Int) (e : Ex) (s : RS) (v : Inv L s) : LvAt L least s e (rTl L (n + 1) least e s) := by
 obtain ⟨k, o, nm, m, p, xs⟩ := e
 have hx := opX v.lt least (.mk k o nm m p xs)
 simp only [rTl]
 cases h : (exactOf L s least signs == 0) with
 | true => exact ⟨v, fun rest X hP hN => lw_stop (lvStop hL v least k o nm m p xs _ hx h rest X hP hN) (by simp)⟩
 | false =>
  have ln : s.nx.i < L.length := exact_some hL v.lt signs (by simpa using h)
  have vn : Inv L s.nx := ⟨ln, by have := v.lo; simp only [RS.nx]; omega, v.hi⟩
  have c := ihL (w64 (least + 1)) s.nx vn
  simp only [cond_false]
  revert c
  cases rLev L n (w64 (least + 1)) s.nx with
  | out => exact fun _ => trivial
  | bad q r s2 =>
   rintro ⟨hr, ⟨k2, o2, nm2, n2, p2, xs2⟩, s3, c⟩
   exact ⟨hr, _, s3, fun rest X hP hN => lw_step (lvBad hL v least k o nm m p xs _ hx h k2 o2 nm2 n2 p2 xs2 s3 q r c rest X hP hN) (lw_stop (lvEnd L s3 q hr least 9 (exactOf L s least signs) [] 0 (cur L s).p [.mk k o nm m p xs, .mk k2 o2 nm2 n2 p2 xs2] rest X hP hN) (by simp))⟩
  | ok e2 s2 =>
   obtain ⟨k2, o2, nm2, n2, p2, xs2⟩ := e2
   intro c
   have c2 := ihT least (.mk 9 (exactOf L s least signs) [] 0 (cur L s).p [.mk k o nm m p xs, .mk k2 o2 nm2 n2 p2 xs2]) s2 c.1
   simp only [Res.bind]
   revert c2
   cases rTl L n least (.mk 9 (exactOf L s least signs) [] 0 (cur L s).p [.mk k o nm m p xs, .mk k2 o2 nm2 n2 p2 xs2]) s2 with
   | out => exact fun _ => trivial
   | bad q r s3 => exact fun ⟨hr, a, s4, c2⟩ => ⟨hr, a, s4, fun rest X hP hN => lw_step (lvGo hL v least k o nm m p xs _ hx h k2 o2 nm2 n2 p2 xs2 s2 c.2 rest X hP hN) (c2 rest X hP hN)⟩
   | ok a s3 => exact fun c2 => ⟨c2.1, fun rest X hP hN => lw_step (lvGo hL v least k o nm m p xs _ hx h k2 o2 nm2 n2 p2 xs2 s2 c.2 rest X hP hN) (c2.2 rest X hP hN)⟩
theorem qLev (n : Nat) (ih : ∀ s : RS, Inv L s → RF L 103 [qP] eR s (rUn L n s)) (ihL : ∀ (k : Int) (s : RS), Inv L s → RF L 79 [qP, dI k] eR s (rLev L n k s)) (ihT : ∀ (k : Int) (e : Ex) (s : RS), Inv L s → LvAt L k s e (rTl L n k e s))
    (least : Int) (s : RS) (v : Inv L s) : RF L 79 [qP, dI least] eR s (rLev L (n + 1) least s) := by
 simp only [rLev]
 cases hk : (least == 11) with
 | true =>
  obtain rfl := eq_of_beq hk
  have c := ih s v
  simp only [cond_true]
  revert c
  cases rUn L n s with
  | out => exact fun _ => trivial
  | ok a s2 => obtain ⟨k, o, nm, m, p, xs⟩ := a; exact fun c => ⟨c.1, lv11 c.2⟩
  | bad q r s2 => exact fun ⟨hr, ⟨k, o, nm, m, p, xs⟩, s3, c⟩ => ⟨hr, _, s3, lv11z c⟩
 | false =>
  have c := ihL (w64 (least + 1)) s v
  simp only [cond_false]
  revert c
  cases rLev L n (w64 (least + 1)) s with
  | out => exact fun _ => trivial
  | bad q r s2 => exact fun ⟨hr, ⟨k, o, nm, m, p, xs⟩, s3, c⟩ => ⟨hr, _, s3, lvFz hk hr c⟩
  | ok e s1 =>
   obtain ⟨k, o, nm, m, p, xs⟩ := e
   intro c
   have c2 := ihT least (.mk k o nm m p xs) s1 c.1
   simp only [Res.bind]
   revert c2
   cases rTl L n least (.mk k o nm m p xs) s1 with
   | out => exact fun _ => trivial
   | bad q r s3 => exact fun ⟨hr, ⟨k2, o2, nm2, n2, p2, xs2⟩, s4, c2⟩ => ⟨hr, _, s4, lvOkz hk c.2 c2⟩
   | ok a s3 =>
    obtain ⟨k2, o2, nm2, n2, p2, xs2⟩ := a
    exact fun c2 => ⟨c2.1, lvOk hk c.2 c2.2⟩
end
end Go.Avm
namespace Go.Avm
open Go.Proofs
abbrev arL (l : List Ex) : List (Nat × AV) := [(0, qP), (3, .vec 200000 l.length 6 (exL l))]
abbrev arE (v : Nat) : List (Nat × Ent) := [(200000, ⟨v, none⟩)]
abbrev xL : List Ex → List D := fun l => [.ro (exL l)]
def ArAt (L : List T) (s : RS) (r : List Ex) : Res (List Ex) → Prop
 | .ok r2 s' => Inv L s' ∧ RL 31 (lO 80 5) (arL r) (qd L s ++ arE r.length) (.exit 0) (arL r2) (qd L s' ++ arE r2.length)
 | .bad q t _ => (t == 0) = false ∧ ∃ (r2 : List Ex) (s' : RS), RL 31 (lO 80 5) (arL r) (qd L s ++ arE r.length) (.exit 0) (arL r2) (qe L s' q t ++ arE r2.length)
 | .out => True
noncomputable def arLH {r : List Ex} {hp hp' : List (Nat × Ent)} {l' : List (Nat × AV)} (h : RL 31 (lO 80 5) (arL r) hp (.exit 0) l' hp') : LHint Pg :=
 ⟨31, loopOf Pg 80 5, arL r, fun _ => hp, .exit 0, l', fun _ => hp', fun rest X hP hN => (h rest X hP hN).aw⟩
section
variable {L : List T} (hL : Toks L) {s : RS} (v : Inv L s) (r : List Ex)
include hL v
theorem arStop (h : isT L s [44] = false) : RE 31 (lO 80 5) (arL r) (qd L s ++ arE r.length) (.exit 0) (arL r) (qd L s ++ arE r.length) :=
 qE { calls := tC [(80, 22, 3031, cOf (qHasF hL v [44] h))] } 80 3000
section
variable (h : isT L s [44] = true) (hr : r.length < 1000000)
include h hr
theorem arGo0 (k o : Int) (nm : List UInt8) (n p : Int) (xs : List Ex) {s2 : RS} (c : HC 79 [qP, dI 1] (qd L s.nx) [exD (.mk k o nm n p xs)] (qd L s2)) : RE 31 (lO 80 5) (arL r) (qd L s ++ arE r.length) .normal [(0, qP), (3, .vec 200000 (r.length + 1) 6 (exL r ++ [exD (.mk k o nm n p xs)]))] (qd L s2 ++ arE (r.length + 1)) :=
 qE { hint := qT 80 [(27, .app (exL r) 1 (by rw [exL_len]; omega))], calls := tC [(80, 22, 3031, cOf (qHas hL v [44] rfl h)), (80, 25, 3093, cOf c)] } 80 3000
theorem arBad0 (k o : Int) (nm : List UInt8) (n p : Int) (xs : List Ex) {s2 : RS} {q t : Int} (c : HC 79 [qP, dI 1] (qd L s.nx) [exD (.mk k o nm n p xs)] (qe L s2 q t)) : RE 31 (lO 80 5) (arL r) (qd L s ++ arE r.length) .normal [(0, qP), (3, .vec 200000 (r.length + 1) 6 (exL r ++ [exD (.mk k o nm n p xs)]))] (qe L s2 q t ++ arE (r.length + 1)) :=
 qE { hint := qT 80 [(27, .app (exL r) 1 (by rw [exL_len]; omega))], calls := tC [(80, 22, 3031, cOf (qHas hL v [44] rfl h)), (80, 25, 3093, cOf c)] } 80 3000
theorem arGo (x : Ex) {s2 : RS} (c : HC 79 [qP, dI 1] (qd L s.nx) [exD x] (qd L s2)) : RE 31 (lO 80 5) (arL r) (qd L s ++ arE r.length) .normal (arL (r ++ [x])) (qd L s2 ++ arE (r ++ [x]).length) := by
 obtain ⟨k, o, nm, n, p, xs⟩ := x
 have e1 : (r ++ [Ex.mk k o nm n p xs]).length = r.length + 1 := by simp
 have e2 : exL (r ++ [Ex.mk k o nm n p xs]) = exL r ++ [exD (.mk k o nm n p xs)] := by rw [exL_app]; rfl
 simp only [arL, e1, e2]
 exact arGo0 hL v r h hr k o nm n p xs c
theorem arBad (x : Ex) {s2 : RS} {q t : Int} (c : HC 79 [qP, dI 1] (qd L s.nx) [exD x] (qe L s2 q t)) : RE 31 (lO 80 5) (arL r) (qd L s ++ arE r.length) .normal (arL (r ++ [x])) (qe L s2 q t ++ arE (r ++ [x]).length) := by
 obtain ⟨k, o, nm, n, p, xs⟩ := x
 have e1 : (r ++ [Ex.mk k o nm n p xs]).length = r.length + 1 := by simp
 have e2 : exL (r ++ [Ex.mk k o nm n p xs]) = exL r ++ [exD (.mk k o nm n p xs)] := by rw [exL_app]; rfl
 simp only [arL, e1, e2]
 exact arBad0 hL v r h hr k o nm n p xs c
end
end
theorem arEnd (L : List T) (s : RS) (q : Int) {t : Int} (he : (t == 0) = false) (r : List Ex) : RE 31 (lO 80 5) (arL r) (qe L s q t ++ arE r.length) (.exit 0) (arL r) (qe L s q t ++ arE r.length) :=
 qE { calls := tC [(80, 22, 3031, cOf (zHas L s q he [44]))] } 80 3000
section
variable {L : List T} {s s1 s2 s3 s4 : RS} {q t : Int}
theorem arZ1 (ht : (t == 0) = false) (c1 : HC 41 [qP, .d (.str [40])] (qd L s) [] (qe L s1 q t)) : HC 80 [qP] (qd L s) [.ro []] (qe L s1 q t) :=
 qN { hint := qT 80 [(14, qB ht)], calls := tC [(80, 5, 1093, cOf c1), (80, 7, 1124, cRo rfl (zIs L s1 q ht [41])), (80, 29, 1403, cOf (zSkip L s1 q ht [41]))] } 1000
variable (c1 : HC 41 [qP, .d (.str [40])] (qd L s) [] (qd L s1)) (l1 : s1.i < L.length)
include c1 l1
theorem arO1 (h : isT L s1 [41] = true) (c2 : HC 41 [qP, .d (.str [41])] (qd L s1) [] (qd L s2)) : HC 80 [qP] (qd L s) [.ro []] (qd L s2) :=
 qN { calls := tC [(80, 5, 1093, cOf c1), (80, 7, 1124, cRo rfl (qIs l1 [41] h)), (80, 29, 1248, cOf c2)] } 1000
theorem arO1z (h : isT L s1 [41] = true) (c2 : HC 41 [qP, .d (.str [41])] (qd L s1) [] (qe L s2 q t)) : HC 80 [qP] (qd L s) [.ro []] (qe L s2 q t) :=
 qN { calls := tC [(80, 5, 1093, cOf c1), (80, 7, 1124, cRo rfl (qIs l1 [41] h)), (80, 29, 1248, cOf c2)] } 1000
variable (h : isT L s1 [41] = false) (k o : Int) (nm : List UInt8) (n p : Int) (xs : List Ex) (r : List Ex)
include h
theorem arZ2 (ht : (t == 0) = false) (c2 : HC 79 [qP, dI 1] (qd L s1) [exD (.mk k o nm n p xs)] (qe L s2 q t))
    (hl : RL 31 (lO 80 5) (arL [.mk k o nm n p xs]) (qe L s2 q t ++ arE 1) (.exit 0) (arL r) (qe L s3 q t ++ arE r.length)) : HC 80 [qP] (qd L s) [.ro (exL r)] (qe L s3 q t) :=
 qN { nils := fun f r => if f = 80 then (if r = 4 then some ⟨0, 3, 200000, 6, true, false⟩ else none) else none, loops := fun f q => if f = 80 then (if q = 5 then some (arLH hl) else none) else none, calls := tC [(80, 5, 1093, cOf c1), (80, 7, 1124, cRo rfl (qIs l1 [41] h)), (80, 18, 1434, cOf c2), (80, 29, 1558, cOf (zSkip L s3 q ht [41]))] } 1000
theorem arZ3 (ht : (t == 0) = false) (c2 : HC 79 [qP, dI 1] (qd L s1) [exD (.mk k o nm n p xs)] (qd L s2))
    (hl : RL 31 (lO 80 5) (arL [.mk k o nm n p xs]) (qd L s2 ++ arE 1) (.exit 0) (arL r) (qe L s3 q t ++ arE r.length)) : HC 80 [qP] (qd L s) [.ro (exL r)] (qe L s3 q t) :=
 qN { nils := fun f r => if f = 80 then (if r = 4 then some ⟨0, 3, 200000, 6, true, false⟩ else none) else none, loops := fun f q => if f = 80 then (if q = 5 then some (arLH hl) else none) else none, calls := tC [(80, 5, 1093, cOf c1), (80, 7, 1124, cRo rfl (qIs l1 [41] h)), (80, 18, 1434, cOf c2), (80, 29, 1558, cOf (zSkip L s3 q ht [41]))] } 1000
section
variable (c2 : HC 79 [qP, dI 1] (qd L s1) [exD (.mk k o nm n p xs)] (qd L s2)) (hl : RL 31 (lO 80 5) (arL [.mk k o nm n p xs]) (qd L s2 ++ arE 1) (.exit 0) (arL r) (qd L s3 ++ arE r.length))
include c2 hl
theorem arO2 (c3 : HC 41 [qP, .d (.str [41])] (qd L s3) [] (qd L s4)) : HC 80 [qP] (qd L s) [.ro (exL r)] (qd L s4) :=
 qN { nils := fun f r => if f = 80 then (if r = 4 then some ⟨0, 3, 200000, 6, true, false⟩ else none) else none, loops := fun f q => if f = 80 then (if q = 5 then some (arLH hl) else none) else none, calls := tC [(80, 5, 1093, cOf c1), (80, 7, 1124, cRo rfl (qIs l1 [41] h)), (80, 18, 1434, cOf c2), (80, 29, 1558, cOf c3)] } 1000
theorem arO2z (c3 : HC 41 [qP, .d (.str [41])] (qd L s3) [] (qe L s4 q t)) : HC 80 [qP] (qd L s) [.ro (exL r)] (qe L s4 q t) :=
 qN { nils := fun f r => if f = 80 then (if r = 4 then some ⟨0, 3, 200000, 6, true, false⟩ else none) else none, loops := fun f q => if f = 80 then (if q = 5 then some (arLH hl) else none) else none, calls := tC [(80, 5, 1093, cOf c1), (80, 7, 1124, cRo rfl (qIs l1 [41] h)), (80, 18, 1434, cOf c2), (80, 29, 1558, cOf c3)] } 1000
end
end
end Go.Avm
namespace Go.Avm
open Go.Proofs
theorem rTree_gr (L : List T) : ∀ n, (∀ s, Gr s (rUn L n s)) ∧ (∀ s, Gr s (rPl L n s)) ∧ (∀ s, Gr s (rAr L n s)) ∧ (∀ l s, Gq s (rMo L n l s)) ∧ (∀ k s, Gr s (rLev L n k s)) ∧ (∀ k e s, Gq s (rTl L n k e s))
 | 0 => ⟨fun s => Gr.out s, fun s => Gr.out s, fun s => Gr.out s, fun _ s => Gq.out s, fun _ s => Gr.out s, fun _ _ s => Gq.out s⟩
 | n + 1 => by
  obtain ⟨h1, h2, h4, h5, h6, h7⟩ := rTree_gr L n
  refine ⟨fun s => ?_, fun s => ?_, fun s => ?_, fun l s => ?_, fun k s => ?_, fun k e s => ?_⟩
  ·simp only [rUn]
   have un : ∀ (f : Ex → Ex) s', Gq s' ((rUn L n s').bind fun e s2 => .ok (f e) s2) := fun f s' => ((h1 s').bind fun _ _ _ => Gq.ok _ _).le
   refine Gr.mayT (fun s' _ => un _ s') (Gr.mayT (fun s' _ => un _ s') (Gr.mayT (fun s' _ => un _ s') (Gr.ite (fun _ _ e => by cases e; exact Nat.lt_succ_self _) ?_)))
   refine Gr.mayT (fun s' _ => Gq.ok _ _) (Gr.mayT (fun s' _ => Gq.ok _ _) ?_)
   refine Gr.mayT (fun s' _ => ((want_gr L _ s').bind fun _ _ _ => ((want_gr L _ _).bind fun _ _ _ => Gq.ok _ _).le).le) ?_
   refine Gr.mayT (fun s' _ => ((want_gr L _ s').bind fun _ _ _ => ((take_gr L _ _).bind fun _ _ _ => ((want_gr L _ _).bind fun _ _ _ => Gq.ok _ _).le).le).le) ?_
   refine Gr.ite ((want_gr L _ s).bind fun _ _ _ => ((h6 _ _).bind fun _ _ _ => ((want_gr L _ _).bind fun _ _ _ => Gq.ok _ _).le).le) ?_
   refine (take_gr L _ s).bind fun _ s' _ => Gq.ite ((h2 s').bind fun _ _ _ => Gq.ok _ _).le (Gq.ite ((h4 s').bind fun _ _ _ => Gq.ok _ _).le (Gq.ok _ _))
  ·simp only [rPl]
   exact (want_gr L _ s).bind fun _ _ _ => ((h6 _ _).bind fun _ _ _ => ((want_gr L _ _).bind fun _ _ _ => Gq.ok _ _).le).le
  ·simp only [rAr]
   exact (want_gr L _ s).bind fun _ s1 _ => Gq.ite ((want_gr L _ s1).bind fun _ _ _ => Gq.ok _ _).le ((h6 _ s1).bind fun _ s2 _ => (h5 _ s2).bindq fun _ s3 _ => ((want_gr L _ s3).bind fun _ _ _ => Gq.ok _ _).le).le
  ·simp only [rMo]
   intro a s' e
   unfold sMay at e
   cases h : isT L s [44] <;> rw [h] at e
   ·cases e; exact Nat.le_refl _
   ·simp only [cond_true] at e
    cases hw : sWant L [44] s <;> rw [hw] at e
    ·rename_i t s1
     have g1 := want_gr L _ s t s1 hw
     exact Nat.le_trans (Nat.le_of_lt g1) (((h6 1 s1).bind fun _ s2 _ => h5 _ s2).le a s' e)
    ·cases e
    ·cases e
  ·simp only [rLev]
   exact Gr.ite (h1 s) ((h6 _ s).bind fun _ s1 _ => h7 _ _ s1)
  ·simp only [rTl]
   refine Gq.ite (Gq.ok _ _) (fun a s' e2 => ?_)
   have := ((h6 (w64 (k + 1)) s.nx).bind fun _ s2 _ => h7 _ _ s2) a s' e2
   simp only [RS.nx] at this
   omega
section
variable {L : List T} (hL : Toks L)
include hL
section
variable (n : Nat) (ihL : ∀ (k : Int) (s : RS), Inv L s → RF L 79 [qP, dI k] eR s (rLev L n k s)) (ihM : ∀ (r : List Ex) (s : RS), Inv L s → r.length ≤ s.i → ArAt L s r (rMo L n r s))
include n ihL ihM
theorem qMore (r : List Ex) (s : RS) (v : Inv L s) (hr : r.length ≤ s.i) : ArAt L s r (rMo L (n + 1) r s) := by
 have hlen : r.length < 1000000 := by have := hL.len; have := v.lt; omega
 simp only [rMo, may_nb (L := L) (s := s) (x := [44]) rfl]
 cases h : isT L s [44] with
 | false => exact ⟨v, fun rest X hP hN => lw_stop (arStop hL v r h rest X hP hN) (by simp)⟩
 | true =>
  have vn := inv_nx hL v h
  have c := ihL 1 s.nx vn
  have g : ∀ a s2, rLev L n 1 s.nx = .ok a s2 → s.nx.i < s2.i := fun a s2 he => (rTree_gr L n).2.2.2.2.1 1 s.nx a s2 he
  simp only [cond_true, Res.bind]
  revert c
  cases he : rLev L n 1 s.nx with
  | out => exact fun _ => trivial
  | bad q t s2 => exact fun ⟨ht, a, s3, c⟩ => ⟨ht, r ++ [a], s3, fun rest X hP hN => lw_step (arBad hL v r h hlen a c rest X hP hN) (lw_stop (arEnd L s3 q ht (r ++ [a]) rest X hP hN) (by simp))⟩
  | ok e s2 =>
   intro c
   have h3 := g e s2 he
   have c2 := ihM (r ++ [e]) s2 c.1 (by simp only [List.length_append, List.length_cons, List.length_nil, RS.nx] at *; omega)
   simp only
   revert c2
   cases rMo L n (r ++ [e]) s2 with
   | out => exact fun _ => trivial
   | bad q t s3 => exact fun ⟨ht, r2, s4, c2⟩ => ⟨ht, r2, s4, fun rest X hP hN => lw_step (arGo hL v r h hlen e c.2 rest X hP hN) (c2 rest X hP hN)⟩
   | ok a s3 => exact fun c2 => ⟨c2.1, fun rest X hP hN => lw_step (arGo hL v r h hlen e c.2 rest X hP hN) (c2.2 rest X hP hN)⟩
theorem qArgs (s : RS) (v : Inv L s) : RF L 80 [qP] xL s (rAr L (n + 1) s) := by
 simp only [rAr]
 refine RF.bind (qSkip hL v [40]) (fun q t _ s' ht c => ⟨[], s', arZ1 ht c⟩) (fun _ s1 v1 c1 => ?_)
 refine RF.ite (fun h => ?_) (fun h => ?_)
 ·exact RF.bind (qSkip hL v1 [41]) (fun q t _ s' ht c => ⟨[], s', arO1z c1 v1.lt h c⟩) (fun _ s2 v2 c2 => ⟨v2, arO1 c1 v1.lt h c2⟩)
 ·have c := ihL 1 s1 v1
  have g : ∀ a s2, rLev L n 1 s1 = .ok a s2 → s1.i < s2.i := fun a s2 he => (rTree_gr L n).2.2.2.2.1 1 s1 a s2 he
  revert c
  cases he : rLev L n 1 s1 with
  | out => exact fun _ => trivial
  | bad q t s2 =>
   rintro ⟨ht, ⟨k, o, nm, m, p, xs⟩, s3, c⟩
   exact ⟨ht, _, s3, arZ2 c1 v1.lt h k o nm m p xs [.mk k o nm m p xs] ht c fun rest X hP hN => lw_stop (arEnd L s3 q ht _ rest X hP hN) (by simp)⟩
  | ok e s2 =>
   obtain ⟨k, o, nm, m, p, xs⟩ := e
   intro c
   have h3 := g _ s2 he
   have c2 := ihM [.mk k o nm m p xs] s2 c.1 (by simp only [List.length_cons, List.length_nil]; omega)
   simp only [Res.bind]
   revert c2
   cases rMo L n [.mk k o nm m p xs] s2 with
   | out => exact fun _ => trivial
   | bad q t s3 => exact fun ⟨ht, r2, s4, c2⟩ => ⟨ht, r2, s4, arZ3 c1 v1.lt h k o nm m p xs r2 ht c.2 c2⟩
   | ok r2 s3 =>
    intro c2
    exact RF.bind (qSkip hL c2.1 [41]) (fun q t _ s' ht c3 => ⟨r2, s', arO2z c1 v1.lt h k o nm m p xs r2 c.2 c2.2 c3⟩) (fun _ s4 v4 c3 => ⟨v4, arO2 c1 v1.lt h k o nm m p xs r2 c.2 c2.2 c3⟩)
end
end
structure RAll (L : List T) (n : Nat) : Prop where
 un : ∀ s : RS, Inv L s → RF L 103 [qP] eR s (rUn L n s)
 pl : ∀ s : RS, Inv L s → RF L 81 [qP] eR s (rPl L n s)
 ar : ∀ s : RS, Inv L s → RF L 80 [qP] xL s (rAr L n s)
 mo : ∀ (r : List Ex) (s : RS), Inv L s → r.length ≤ s.i → ArAt L s r (rMo L n r s)
 lev : ∀ (k : Int) (s : RS), Inv L s → RF L 79 [qP, dI k] eR s (rLev L n k s)
 tl : ∀ (k : Int) (e : Ex) (s : RS), Inv L s → LvAt L k s e (rTl L n k e s)
theorem rAll {L : List T} (hL : Toks L) : ∀ n, RAll L n
 | 0 => ⟨fun _ _ => trivial, fun _ _ => trivial, fun _ _ => trivial, fun _ _ _ _ => trivial, fun _ _ _ => trivial, fun _ _ _ _ => trivial⟩
 | n + 1 => by
  have ih := rAll hL n
  exact ⟨fun s v => qUnary hL n ih.un ih.lev ih.pl ih.ar s v, fun s v => qPlace hL n ih.lev s v, fun s v => qArgs hL n ih.lev ih.mo s v, fun r s v hr => qMore hL n ih.lev ih.mo r s v hr, fun k s v => qLev hL n ih.un ih.lev ih.tl k s v, fun k e s v => qTail hL n ih.lev ih.tl k e s v⟩
end Go.Avm
