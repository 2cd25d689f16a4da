/-
  Texts as programs: the reader's statements.
-/
import Derived.Test.YtkhcaamgjjhpeaaGreatDoorTrJ
set_option linter.unusedSectionVars false
namespace Go.Avm
open Go.Proofs

abbrev sR : St' → List D := fun x => [stD x]
abbrev bR : List St' → List D := fun l => [.ro (stL l)]
theorem RC.bindp {L : List T} {F : Nat} {args : List AV} {s0 : RS} {α β : Type} {g : α → List D} {f' : Nat} {args' : List AV} {pre' : List (Nat × Ent)} {post' : β → List (Nat × Ent)} {bd' : List (Nat × Ent)} {g' : β → List D} {s : RS} {r : Res β} {k : β → RS → Res α} (h : RCp L f' args' pre' post' bd' g' s r)
    (hb : ∀ p e s', (∀ rest : Heap, HPan Tryz.prog f' args' (ovl (rd L s ++ pre') rest) (flt p e) (ovl (rd L s' ++ bd') rest)) → ∀ rest : Heap, HPan Tryz.prog F args (ovl (rd L s0) rest) (flt p e) (ovl (rd L s') rest))
    (hk : ∀ a s', s'.i < L.length → (∀ rest : Heap, HCall Tryz.prog f' args' (ovl (rd L s ++ pre') rest) ((g' a).map .d) (ovl (rd L s' ++ post' a) rest)) → RC L F args g s0 (k a s')) : RC L F args g s0 (r.bind k) := by
  cases r with
  | ok a s' => exact hk a s' h.1 h.2
  | bad p e s' => exact hb p e s' h
  | out => trivial
section
variable {L : List T} (hL : Toks L)
include hL
theorem stmtStep (n : Nat) (ihB : ∀ s : RS, s.i < L.length → RC L 40 [rP] bR s (sBlock L n s)) (s0 : RS) (l0 : s0.i < L.length) : RC L 62 [rP] sR s0 (sStmt L (n + 1) s0) := by
  have l : s0.st.i < L.length := l0
  simp only [sStmt]
  refine RC.may l hL [108, 101, 116] ?_ ?_ ?_
  · exact fun _ _ _ c => hcleanP_of_run okP named { calls := tabC Tryz.prog [(62, 16, 2078, cRo rfl (nowR l))], pans := tabP Tryz.prog [(62, 4, 2386, ⟨1, some (pOf c), []⟩)] } 2000 1000 _ 1000000 ⟨rfl, rfl, rfl, by kernel_rfl, by kernel_rfl, by kernel_rfl⟩ (by kernel_rfl) (fun _ => by kernel_rfl)
  · intro s1 l1 c1
    refine RC.bindp (letR hL n s0.st.n (cur L s0.st).p _ l1) ?_ ?_
    · exact fun _ _ _ c => hcleanP_of_run okP named { calls := tabC Tryz.prog [(62, 16, 2078, cRo rfl (nowR l)), (62, 23, 2463, cOf c1)], pans := tabP Tryz.prog [(62, 5, 2540, ⟨1, some (pOf c), []⟩)] } 2000 1000 _ 1000000 ⟨rfl, rfl, rfl, by kernel_rfl, by kernel_rfl, by kernel_rfl⟩ (by kernel_rfl) (fun _ => by kernel_rfl)
    · intro x s2 l2 c2
      obtain ⟨xk, xid, xnm, xty, xn, xp, xes, xbd, xel⟩ := x
      exact ⟨l2, hclean_of_run okP named { calls := tabC Tryz.prog [(62, 16, 2078, cRo rfl (nowR l)), (62, 23, 2463, cOf c1), (62, 25, 2617, cOf c2)] } 2000 1000 _ 1000000 ⟨rfl, rfl, rfl, by kernel_rfl, by kernel_rfl, by kernel_rfl⟩ (fun _ => by kernel_rfl)⟩
  · intro h1
    refine RC.may l hL [105, 102] ?_ ?_ ?_
    · exact fun _ _ _ c => hcleanP_of_run okP named { calls := tabC Tryz.prog [(62, 16, 2078, cRo rfl (nowR l)), (62, 23, 2463, cOf (mayF l [108, 101, 116] h1))], pans := tabP Tryz.prog [(62, 6, 2540, ⟨1, some (pOf c), []⟩)] } 2000 1000 _ 1000000 ⟨rfl, rfl, rfl, by kernel_rfl, by kernel_rfl, by kernel_rfl⟩ (by kernel_rfl) (fun _ => by kernel_rfl)
    · intro s2 l2 c2
      refine RC.bind ((exAll hL n).expr 1 _ l2) ?_ ?_
      · exact fun _ _ _ c => hcleanP_of_run okP named { calls := tabC Tryz.prog [(62, 16, 2078, cRo rfl (nowR l)), (62, 23, 2463, cOf (mayF l [108, 101, 116] h1)), (62, 28, 2617, cOf c2)], pans := tabP Tryz.prog [(62, 7, 2694, ⟨1, some (pOf c), []⟩)] } 2000 1000 _ 1000000 ⟨rfl, rfl, rfl, by kernel_rfl, by kernel_rfl, by kernel_rfl⟩ (by kernel_rfl) (fun _ => by kernel_rfl)
      · intro x s3 l3 c3
        obtain ⟨kx, ox, nmx, nx, px, xsx⟩ := x
        refine RC.bind (ihB _ l3) ?_ ?_
        · exact fun _ _ _ c => hcleanP_of_run okP named { calls := tabC Tryz.prog [(62, 16, 2078, cRo rfl (nowR l)), (62, 23, 2463, cOf (mayF l [108, 101, 116] h1)), (62, 28, 2617, cOf c2), (62, 30, 2771, cOf c3)], pans := tabP Tryz.prog [(62, 8, 3156, ⟨1, some (pOf c), []⟩)] } 2000 1000 _ 1000000 ⟨rfl, rfl, rfl, by kernel_rfl, by kernel_rfl, by kernel_rfl⟩ (by kernel_rfl) (fun _ => by kernel_rfl)
        · intro b1 s4 l4 c4
          refine RC.may l4 hL [101, 108, 115, 101] ?_ ?_ ?_
          · exact fun _ _ _ c => hcleanP_of_run okP named { calls := tabC Tryz.prog [(62, 16, 2078, cRo rfl (nowR l)), (62, 23, 2463, cOf (mayF l [108, 101, 116] h1)), (62, 28, 2617, cOf c2), (62, 30, 2771, cOf c3), (62, 35, 3233, cOf c4)], pans := tabP Tryz.prog [(62, 9, 3387, ⟨1, some (pOf c), []⟩)] } 2000 1000 _ 1000000 ⟨rfl, rfl, rfl, by kernel_rfl, by kernel_rfl, by kernel_rfl⟩ (by kernel_rfl) (fun _ => by kernel_rfl)
          · intro s5 l5 c5
            refine RC.bind (ihB _ l5) ?_ ?_
            · exact fun _ _ _ c => hcleanP_of_run okP named { calls := tabC Tryz.prog [(62, 16, 2078, cRo rfl (nowR l)), (62, 23, 2463, cOf (mayF l [108, 101, 116] h1)), (62, 28, 2617, cOf c2), (62, 30, 2771, cOf c3), (62, 35, 3233, cOf c4), (62, 38, 3464, cOf c5)], pans := tabP Tryz.prog [(62, 10, 3464, ⟨1, some (pOf c), []⟩)] } 2000 1000 _ 1000000 ⟨rfl, rfl, rfl, by kernel_rfl, by kernel_rfl, by kernel_rfl⟩ (by kernel_rfl) (fun _ => by kernel_rfl)
            · intro b2 s6 l6 c6
              exact ⟨l6, hclean_of_run okP named { calls := tabC Tryz.prog [(62, 16, 2078, cRo rfl (nowR l)), (62, 23, 2463, cOf (mayF l [108, 101, 116] h1)), (62, 28, 2617, cOf c2), (62, 30, 2771, cOf c3), (62, 35, 3233, cOf c4), (62, 38, 3464, cOf c5), (62, 40, 3541, cOf c6)] } 2000 1000 _ 1000000 ⟨rfl, rfl, rfl, by kernel_rfl, by kernel_rfl, by kernel_rfl⟩ (fun _ => by kernel_rfl)⟩
          · intro h5
            exact ⟨l4, hclean_of_run okP named { calls := tabC Tryz.prog [(62, 16, 2078, cRo rfl (nowR l)), (62, 23, 2463, cOf (mayF l [108, 101, 116] h1)), (62, 28, 2617, cOf c2), (62, 30, 2771, cOf c3), (62, 35, 3233, cOf c4), (62, 38, 3464, cOf (mayF l4 [101, 108, 115, 101] h5))] } 2000 1000 _ 1000000 ⟨rfl, rfl, rfl, by kernel_rfl, by kernel_rfl, by kernel_rfl⟩ (fun _ => by kernel_rfl)⟩
    · intro h2
      refine RC.may l hL [119, 104, 105, 108, 101] ?_ ?_ ?_
      · exact fun _ _ _ c => hcleanP_of_run okP named { calls := tabC Tryz.prog [(62, 16, 2078, cRo rfl (nowR l)), (62, 23, 2463, cOf (mayF l [108, 101, 116] h1)), (62, 28, 2617, cOf (mayF l [105, 102] h2))], pans := tabP Tryz.prog [(62, 11, 2694, ⟨1, some (pOf c), []⟩)] } 2000 1000 _ 1000000 ⟨rfl, rfl, rfl, by kernel_rfl, by kernel_rfl, by kernel_rfl⟩ (by kernel_rfl) (fun _ => by kernel_rfl)
      · intro s3 l3 c3
        refine RC.bind ((exAll hL n).expr 1 _ l3) ?_ ?_
        · exact fun _ _ _ c => hcleanP_of_run okP named { calls := tabC Tryz.prog [(62, 16, 2078, cRo rfl (nowR l)), (62, 23, 2463, cOf (mayF l [108, 101, 116] h1)), (62, 28, 2617, cOf (mayF l [105, 102] h2)), (62, 44, 2771, cOf c3)], pans := tabP Tryz.prog [(62, 12, 2848, ⟨1, some (pOf c), []⟩)] } 2000 1000 _ 1000000 ⟨rfl, rfl, rfl, by kernel_rfl, by kernel_rfl, by kernel_rfl⟩ (by kernel_rfl) (fun _ => by kernel_rfl)
        · intro x s4 l4 c4
          obtain ⟨kx, ox, nmx, nx, px, xsx⟩ := x
          refine RC.bind (ihB _ l4) ?_ ?_
          · exact fun _ _ _ c => hcleanP_of_run okP named { calls := tabC Tryz.prog [(62, 16, 2078, cRo rfl (nowR l)), (62, 23, 2463, cOf (mayF l [108, 101, 116] h1)), (62, 28, 2617, cOf (mayF l [105, 102] h2)), (62, 44, 2771, cOf c3), (62, 46, 2925, cOf c4)], pans := tabP Tryz.prog [(62, 13, 3310, ⟨1, some (pOf c), []⟩)] } 2000 1000 _ 1000000 ⟨rfl, rfl, rfl, by kernel_rfl, by kernel_rfl, by kernel_rfl⟩ (by kernel_rfl) (fun _ => by kernel_rfl)
          · intro b1 s5 l5 c5
            exact ⟨l5, hclean_of_run okP named { calls := tabC Tryz.prog [(62, 16, 2078, cRo rfl (nowR l)), (62, 23, 2463, cOf (mayF l [108, 101, 116] h1)), (62, 28, 2617, cOf (mayF l [105, 102] h2)), (62, 44, 2771, cOf c3), (62, 46, 2925, cOf c4), (62, 51, 3387, cOf c5)] } 2000 1000 _ 1000000 ⟨rfl, rfl, rfl, by kernel_rfl, by kernel_rfl, by kernel_rfl⟩ (fun _ => by kernel_rfl)⟩
      · intro h3
        refine RC.may l hL [114, 101, 116, 117, 114, 110] ?_ ?_ ?_
        · exact fun _ _ _ c => hcleanP_of_run okP named { calls := tabC Tryz.prog [(62, 16, 2078, cRo rfl (nowR l)), (62, 23, 2463, cOf (mayF l [108, 101, 116] h1)), (62, 28, 2617, cOf (mayF l [105, 102] h2)), (62, 44, 2771, cOf (mayF l [119, 104, 105, 108, 101] h3))], pans := tabP Tryz.prog [(62, 14, 2848, ⟨1, some (pOf c), []⟩)] } 2000 1000 _ 1000000 ⟨rfl, rfl, rfl, by kernel_rfl, by kernel_rfl, by kernel_rfl⟩ (by kernel_rfl) (fun _ => by kernel_rfl)
        · intro s4 l4 c4
          refine RC.ite (fun h5 => ?_) (fun h5 => ?_)
          ·
            refine RC.bind (wantR l4 hL [59]) ?_ ?_
            · exact fun _ _ _ c => hcleanP_of_run okP named { calls := tabC Tryz.prog [(62, 16, 2078, cRo rfl (nowR l)), (62, 23, 2463, cOf (mayF l [108, 101, 116] h1)), (62, 28, 2617, cOf (mayF l [105, 102] h2)), (62, 44, 2771, cOf (mayF l [119, 104, 105, 108, 101] h3)), (62, 55, 2925, cOf c4), (62, 58, 3233, cOf (isRT l4 [59] h5))], pans := tabP Tryz.prog [(62, 18, 3310, ⟨1, some (pOf c), []⟩)] } 2000 1000 _ 1000000 ⟨rfl, rfl, rfl, by kernel_rfl, by kernel_rfl, by kernel_rfl⟩ (by kernel_rfl) (fun _ => by kernel_rfl)
            · intro _ s6 l6 c6
              exact ⟨l6, hclean_of_run okP named { calls := tabC Tryz.prog [(62, 16, 2078, cRo rfl (nowR l)), (62, 23, 2463, cOf (mayF l [108, 101, 116] h1)), (62, 28, 2617, cOf (mayF l [105, 102] h2)), (62, 44, 2771, cOf (mayF l [119, 104, 105, 108, 101] h3)), (62, 55, 2925, cOf c4), (62, 58, 3233, cOf (isRT l4 [59] h5)), (62, 65, 3387, cOf c6)] } 2000 1000 _ 1000000 ⟨rfl, rfl, rfl, by kernel_rfl, by kernel_rfl, by kernel_rfl⟩ (fun _ => by kernel_rfl)⟩
          ·
            refine RC.bind ((exAll hL n).expr 1 _ l4) ?_ ?_
            · exact fun _ _ _ c => hcleanP_of_run okP named { calls := tabC Tryz.prog [(62, 16, 2078, cRo rfl (nowR l)), (62, 23, 2463, cOf (mayF l [108, 101, 116] h1)), (62, 28, 2617, cOf (mayF l [105, 102] h2)), (62, 44, 2771, cOf (mayF l [119, 104, 105, 108, 101] h3)), (62, 55, 2925, cOf c4), (62, 58, 3233, cOf (isRT l4 [59] h5))], pans := tabP Tryz.prog [(62, 17, 3310, ⟨1, some (pOf c), []⟩)] } 2000 1000 _ 1000000 ⟨rfl, rfl, rfl, by kernel_rfl, by kernel_rfl, by kernel_rfl⟩ (by kernel_rfl) (fun _ => by kernel_rfl)
            · intro x s6 l6 c6
              obtain ⟨kx, ox, nmx, nx, px, xsx⟩ := x
              refine RC.bind (wantR l6 hL [59]) ?_ ?_
              · exact fun _ _ _ c => hcleanP_of_run okP named { calls := tabC Tryz.prog [(62, 16, 2078, cRo rfl (nowR l)), (62, 23, 2463, cOf (mayF l [108, 101, 116] h1)), (62, 28, 2617, cOf (mayF l [105, 102] h2)), (62, 44, 2771, cOf (mayF l [119, 104, 105, 108, 101] h3)), (62, 55, 2925, cOf c4), (62, 58, 3233, cOf (isRT l4 [59] h5)), (62, 61, 3387, cOf c6)], pans := tabP Tryz.prog [(62, 18, 3618, ⟨1, some (pOf c), []⟩)] } 2000 1000 _ 1000000 ⟨rfl, rfl, rfl, by kernel_rfl, by kernel_rfl, by kernel_rfl⟩ (by kernel_rfl) (fun _ => by kernel_rfl)
              · intro _ s7 l7 c7
                exact ⟨l7, hclean_of_run okP named { calls := tabC Tryz.prog [(62, 16, 2078, cRo rfl (nowR l)), (62, 23, 2463, cOf (mayF l [108, 101, 116] h1)), (62, 28, 2617, cOf (mayF l [105, 102] h2)), (62, 44, 2771, cOf (mayF l [119, 104, 105, 108, 101] h3)), (62, 55, 2925, cOf c4), (62, 58, 3233, cOf (isRT l4 [59] h5)), (62, 61, 3387, cOf c6), (62, 65, 3695, cOf c7)] } 2000 1000 _ 1000000 ⟨rfl, rfl, rfl, by kernel_rfl, by kernel_rfl, by kernel_rfl⟩ (fun _ => by kernel_rfl)⟩
        · intro h4
          refine RC.may l hL [112, 114, 105, 110, 116] ?_ ?_ ?_
          · exact fun _ _ _ c => hcleanP_of_run okP named { calls := tabC Tryz.prog [(62, 16, 2078, cRo rfl (nowR l)), (62, 23, 2463, cOf (mayF l [108, 101, 116] h1)), (62, 28, 2617, cOf (mayF l [105, 102] h2)), (62, 44, 2771, cOf (mayF l [119, 104, 105, 108, 101] h3)), (62, 55, 2925, cOf (mayF l [114, 101, 116, 117, 114, 110] h4))], pans := tabP Tryz.prog [(62, 19, 3002, ⟨1, some (pOf c), []⟩)] } 2000 1000 _ 1000000 ⟨rfl, rfl, rfl, by kernel_rfl, by kernel_rfl, by kernel_rfl⟩ (by kernel_rfl) (fun _ => by kernel_rfl)
          · intro s5 l5 c5
            refine RC.bind ((exAll hL n).expr 1 _ l5) ?_ ?_
            · exact fun _ _ _ c => hcleanP_of_run okP named { calls := tabC Tryz.prog [(62, 16, 2078, cRo rfl (nowR l)), (62, 23, 2463, cOf (mayF l [108, 101, 116] h1)), (62, 28, 2617, cOf (mayF l [105, 102] h2)), (62, 44, 2771, cOf (mayF l [119, 104, 105, 108, 101] h3)), (62, 55, 2925, cOf (mayF l [114, 101, 116, 117, 114, 110] h4)), (62, 68, 3079, cOf c5)], pans := tabP Tryz.prog [(62, 20, 3156, ⟨1, some (pOf c), []⟩)] } 2000 1000 _ 1000000 ⟨rfl, rfl, rfl, by kernel_rfl, by kernel_rfl, by kernel_rfl⟩ (by kernel_rfl) (fun _ => by kernel_rfl)
            · intro x s6 l6 c6
              obtain ⟨kx, ox, nmx, nx, px, xsx⟩ := x
              refine RC.bind (wantR l6 hL [59]) ?_ ?_
              · exact fun _ _ _ c => hcleanP_of_run okP named { calls := tabC Tryz.prog [(62, 16, 2078, cRo rfl (nowR l)), (62, 23, 2463, cOf (mayF l [108, 101, 116] h1)), (62, 28, 2617, cOf (mayF l [105, 102] h2)), (62, 44, 2771, cOf (mayF l [119, 104, 105, 108, 101] h3)), (62, 55, 2925, cOf (mayF l [114, 101, 116, 117, 114, 110] h4)), (62, 68, 3079, cOf c5), (62, 70, 3233, cOf c6)], pans := tabP Tryz.prog [(62, 21, 3618, ⟨1, some (pOf c), []⟩)] } 2000 1000 _ 1000000 ⟨rfl, rfl, rfl, by kernel_rfl, by kernel_rfl, by kernel_rfl⟩ (by kernel_rfl) (fun _ => by kernel_rfl)
              · intro _ s7 l7 c7
                exact ⟨l7, hclean_of_run okP named { calls := tabC Tryz.prog [(62, 16, 2078, cRo rfl (nowR l)), (62, 23, 2463, cOf (mayF l [108, 101, 116] h1)), (62, 28, 2617, cOf (mayF l [105, 102] h2)), (62, 44, 2771, cOf (mayF l [119, 104, 105, 108, 101] h3)), (62, 55, 2925, cOf (mayF l [114, 101, 116, 117, 114, 110] h4)), (62, 68, 3079, cOf c5), (62, 70, 3233, cOf c6), (62, 75, 3695, cOf c7)] } 2000 1000 _ 1000000 ⟨rfl, rfl, rfl, by kernel_rfl, by kernel_rfl, by kernel_rfl⟩ (fun _ => by kernel_rfl)⟩
          · intro h5
            refine RC.bindp (namedR hL n s0.st.n (cur L s0.st).p _ l) ?_ ?_
            · exact fun _ _ _ c => hcleanP_of_run okP named { calls := tabC Tryz.prog [(62, 16, 2078, cRo rfl (nowR l)), (62, 23, 2463, cOf (mayF l [108, 101, 116] h1)), (62, 28, 2617, cOf (mayF l [105, 102] h2)), (62, 44, 2771, cOf (mayF l [119, 104, 105, 108, 101] h3)), (62, 55, 2925, cOf (mayF l [114, 101, 116, 117, 114, 110] h4)), (62, 68, 3079, cOf (mayF l [112, 114, 105, 110, 116] h5))], pans := tabP Tryz.prog [(62, 3, 3156, ⟨1, some (pOf c), []⟩)] } 2000 1000 _ 1000000 ⟨rfl, rfl, rfl, by kernel_rfl, by kernel_rfl, by kernel_rfl⟩ (by kernel_rfl) (fun _ => by kernel_rfl)
            · intro x s6 l6 c6
              obtain ⟨xk, xid, xnm, xty, xn, xp, xes, xbd, xel⟩ := x
              exact ⟨l6, hclean_of_run okP named { calls := tabC Tryz.prog [(62, 16, 2078, cRo rfl (nowR l)), (62, 23, 2463, cOf (mayF l [108, 101, 116] h1)), (62, 28, 2617, cOf (mayF l [105, 102] h2)), (62, 44, 2771, cOf (mayF l [119, 104, 105, 108, 101] h3)), (62, 55, 2925, cOf (mayF l [114, 101, 116, 117, 114, 110] h4)), (62, 68, 3079, cOf (mayF l [112, 114, 105, 110, 116] h5)), (62, 20, 3233, cOf c6)] } 2000 1000 _ 1000000 ⟨rfl, rfl, rfl, by kernel_rfl, by kernel_rfl, by kernel_rfl⟩ (fun _ => by kernel_rfl)⟩
end
/-! ### Blocks -/
def blL (l : List St') : List (Nat × AV) := [(0, rP), (3, .vec 200000 l.length 9 (stL l))]
abbrev blE (v : Nat) : List (Nat × Ent) := [(200000, ⟨v, none⟩)]
def BlAt (L : List T) (s : RS) (r : List St') : Res (List St') → Prop
  | .ok r2 s' => s'.i < L.length ∧ ∀ (rest : Heap) (X : Fix), X.P = Tryz.prog → X.N = 17 → LW X (loopOf Tryz.prog 40 3) ⟨envOf (blL r), ovl (rd L s ++ blE r.length) rest⟩ fun e' S' => e' = .exit 0 ∧ S' = ⟨envOf (blL r2), ovl (rd L s' ++ blE r2.length) rest⟩
  | .bad q t s' => ∃ v, ∀ (rest : Heap) (X : Fix), X.P = Tryz.prog → X.N = 17 → LW X (loopOf Tryz.prog 40 3) ⟨envOf (blL r), ovl (rd L s ++ blE r.length) rest⟩ fun e' S' => e' = .panic (flt q t) ∧ S' = ⟨envOf [], ovl (rd L s' ++ blE v) rest⟩
  | .out => True
noncomputable def blLH {L : List T} {s : RS} {r : List St'} {hp' : List (Nat × Ent)} {x : AExit} {l' : List (Nat × AV)} (h : ∀ (rest : Heap) (X : Fix), X.P = Tryz.prog → X.N = 17 → LW X (loopOf Tryz.prog 40 3) ⟨envOf (blL r), ovl (rd L s ++ blE r.length) rest⟩ fun e' S' => e' = x ∧ S' = ⟨envOf l', ovl hp' rest⟩) : LHint Tryz.prog :=
  ⟨17, loopOf Tryz.prog 40 3, blL r, fun _ => rd L s ++ blE r.length, x, l', fun _ => hp', fun rest X hP hN => (h rest X hP hN).aw⟩
section
variable {L : List T} {s : RS} (l : s.i < L.length) (r : List St')
include l
theorem blStop (h : isT L s [125] = true) : ∀ (rest : Heap) (X : Fix), X.P = Tryz.prog → X.N = 17 → AW X (loopOf Tryz.prog 40 3) ⟨envOf (blL r), ovl (rd L s ++ blE r.length) rest⟩ fun e' S' => e' = .exit 0 ∧ S' = ⟨envOf (blL r), ovl (rd L s ++ blE r.length) rest⟩ :=
  segC okP named { calls := tabC Tryz.prog [(40, 7, 3017, cOf (isRT l [125] h))] } 2000 40 3000 17 1000000 ([]) ⟨rfl, rfl, rfl, by kernel_rfl, by kernel_rfl, by kernel_rfl⟩ (by kernel_rfl) (by kernel_rfl) (fun _ => by kernel_rfl)
theorem blBad (h : isT L s [125] = false) {q t : Int} {s2 : RS} (c : ∀ rest : Heap, HPan Tryz.prog 62 [rP] (ovl (rd L s) rest) (flt q t) (ovl (rd L s2) rest)) : ∀ (rest : Heap) (X : Fix), X.P = Tryz.prog → X.N = 17 → AW X (loopOf Tryz.prog 40 3) ⟨envOf (blL r), ovl (rd L s ++ blE r.length) rest⟩ fun e' S' => e' = .panic (flt q t) ∧ S' = ⟨envOf [], ovl (rd L s2 ++ blE r.length) rest⟩ :=
  segC okP named { calls := tabC Tryz.prog [(40, 7, 3017, cOf (isRT l [125] h))], pans := tabP Tryz.prog [(40, 4, 3034, ⟨2, some (pOf c), []⟩)] } 2000 40 3000 17 1000000 ([]) ⟨rfl, rfl, rfl, by kernel_rfl, by kernel_rfl, by kernel_rfl⟩ (by kernel_rfl) (by kernel_rfl) (fun _ => by kernel_rfl)
theorem blGo0 (h : isT L s [125] = false) (hr : r.length < 1000000) (k id : Int) (nm : List UInt8) (ty n p : Int) (es : List Ex) (bd el : List St') {s2 : RS} (c : ∀ rest : Heap, HCall Tryz.prog 62 [rP] (ovl (rd L s) rest) ([stD (.mk k id nm ty n p es bd el)].map .d) (ovl (rd L s2) rest)) : ∀ (rest : Heap) (X : Fix), X.P = Tryz.prog → X.N = 17 → AW X (loopOf Tryz.prog 40 3) ⟨envOf (blL r), ovl (rd L s ++ blE r.length) rest⟩ fun e' S' => e' = .normal ∧ S' = ⟨envOf [(0, rP), (3, .vec 200000 (r.length + 1) 9 (stL r ++ [stD (.mk k id nm ty n p es bd el)]))], ovl (rd L s2 ++ blE (r.length + 1)) rest⟩ :=
  segC okP named { hint := tabH Tryz.prog [(40, 13, .app (stL r) 1 (by rw [stL_len]; omega))], calls := tabC Tryz.prog [(40, 7, 3017, cOf (isRT l [125] h)), (40, 11, 3068, cOf c)] } 2000 40 3000 17 1000000 ([]) ⟨rfl, rfl, rfl, by kernel_rfl, by kernel_rfl, by kernel_rfl⟩ (by kernel_rfl) (by kernel_rfl) (fun _ => by kernel_rfl)
theorem blGo (h : isT L s [125] = false) (hr : r.length < 1000000) (x : St') {s2 : RS} (c : ∀ rest : Heap, HCall Tryz.prog 62 [rP] (ovl (rd L s) rest) ([stD x].map .d) (ovl (rd L s2) rest)) : ∀ (rest : Heap) (X : Fix), X.P = Tryz.prog → X.N = 17 → AW X (loopOf Tryz.prog 40 3) ⟨envOf (blL r), ovl (rd L s ++ blE r.length) rest⟩ fun e' S' => e' = .normal ∧ S' = ⟨envOf (blL (r ++ [x])), ovl (rd L s2 ++ blE (r ++ [x]).length) rest⟩ := by
  obtain ⟨k, id, nm, ty, n, p, es, bd, el⟩ := x
  have e1 : (r ++ [St'.mk k id nm ty n p es bd el]).length = r.length + 1 := by simp
  have e2 : stL (r ++ [St'.mk k id nm ty n p es bd el]) = stL r ++ [stD (.mk k id nm ty n p es bd el)] := by rw [stL_app]; rfl
  simp only [blL, e1, e2]
  exact blGo0 l r h hr k id nm ty n p es bd el c
end
section
variable {L : List T} {s s1 s2 s3 : RS} {t1 t2 : T} {q t : Int} (c1 : ∀ rest : Heap, HCall Tryz.prog 34 [rP, .d (.str [123])] (ovl (rd L s) rest) ([tD t1].map .d) (ovl (rd L s1) rest))
theorem bkP1 (c : ∀ rest : Heap, HPan Tryz.prog 34 [rP, .d (.str [123])] (ovl (rd L s) rest) (flt q t) (ovl (rd L s1) rest)) : ∀ rest : Heap, HPan Tryz.prog 40 [rP] (ovl (rd L s) rest) (flt q t) (ovl (rd L s1) rest) :=
  hcleanP_of_run okP named { pans := tabP Tryz.prog [(40, 2, 1034, ⟨1, some (pOf c), []⟩)] } 2000 1000 _ 1000000 ⟨rfl, rfl, rfl, by kernel_rfl, by kernel_rfl, by kernel_rfl⟩ (by kernel_rfl) (fun _ => by kernel_rfl)
include c1
theorem bkP2 (v : Nat) (h : ∀ (rest : Heap) (X : Fix), X.P = Tryz.prog → X.N = 17 → LW X (loopOf Tryz.prog 40 3) ⟨envOf (blL []), ovl (rd L s1 ++ blE ([] : List St').length) rest⟩ fun e' S' => e' = .panic (flt q t) ∧ S' = ⟨envOf [], ovl (rd L s2 ++ blE v) rest⟩) : ∀ rest : Heap, HPan Tryz.prog 40 [rP] (ovl (rd L s) rest) (flt q t) (ovl (rd L s2) rest) :=
  hcleanP_of_run okP named { nils := fun f r => if f = 40 then (if r = 2 then some ⟨0, 3, 200000, 9, true, false⟩ else none) else none, loops := fun f q => if f = 40 then (if q = 3 then some (blLH h) else none) else none, calls := tabC Tryz.prog [(40, 5, 1051, cOf c1)] } 2000 1000 _ 1000000 ⟨rfl, rfl, rfl, by kernel_rfl, by kernel_rfl, by kernel_rfl⟩ (by kernel_rfl) (fun _ => by kernel_rfl)
theorem bkP3 (r : List St') (h : ∀ (rest : Heap) (X : Fix), X.P = Tryz.prog → X.N = 17 → LW X (loopOf Tryz.prog 40 3) ⟨envOf (blL []), ovl (rd L s1 ++ blE ([] : List St').length) rest⟩ fun e' S' => e' = .exit 0 ∧ S' = ⟨envOf (blL r), ovl (rd L s2 ++ blE r.length) rest⟩) (c : ∀ rest : Heap, HPan Tryz.prog 34 [rP, .d (.str [125])] (ovl (rd L s2) rest) (flt q t) (ovl (rd L s3) rest)) : ∀ rest : Heap, HPan Tryz.prog 40 [rP] (ovl (rd L s) rest) (flt q t) (ovl (rd L s3) rest) :=
  hcleanP_of_run okP named { nils := fun f r => if f = 40 then (if r = 2 then some ⟨0, 3, 200000, 9, true, false⟩ else none) else none, loops := fun f q => if f = 40 then (if q = 3 then some (blLH h) else none) else none, calls := tabC Tryz.prog [(40, 5, 1051, cOf c1)], pans := tabP Tryz.prog [(40, 5, 1051, ⟨1, some (pOf c), []⟩)] } 2000 1000 _ 1000000 ⟨rfl, rfl, rfl, by kernel_rfl, by kernel_rfl, by kernel_rfl⟩ (by kernel_rfl) (fun _ => by kernel_rfl)
theorem bkOk (r : List St') (h : ∀ (rest : Heap) (X : Fix), X.P = Tryz.prog → X.N = 17 → LW X (loopOf Tryz.prog 40 3) ⟨envOf (blL []), ovl (rd L s1 ++ blE ([] : List St').length) rest⟩ fun e' S' => e' = .exit 0 ∧ S' = ⟨envOf (blL r), ovl (rd L s2 ++ blE r.length) rest⟩) (c : ∀ rest : Heap, HCall Tryz.prog 34 [rP, .d (.str [125])] (ovl (rd L s2) rest) ([tD t2].map .d) (ovl (rd L s3) rest)) : ∀ rest : Heap, HCall Tryz.prog 40 [rP] (ovl (rd L s) rest) ([.ro (stL r)].map .d) (ovl (rd L s3) rest) :=
  hclean_of_run okP named { nils := fun f r => if f = 40 then (if r = 2 then some ⟨0, 3, 200000, 9, true, false⟩ else none) else none, loops := fun f q => if f = 40 then (if q = 3 then some (blLH h) else none) else none, calls := tabC Tryz.prog [(40, 5, 1051, cOf c1), (40, 15, 1068, cOf c)] } 2000 1000 _ 1000000 ⟨rfl, rfl, rfl, by kernel_rfl, by kernel_rfl, by kernel_rfl⟩ (fun _ => by kernel_rfl)
end
structure StAll (L : List T) (n : Nat) : Prop where
  block : ∀ s : RS, s.i < L.length → RC L 40 [rP] bR s (sBlock L n s)
  stmts : ∀ (r : List St') (s : RS), s.i < L.length → r.length ≤ s.i → BlAt L s r (sStmts L n r s)
  stmt : ∀ s : RS, s.i < L.length → RC L 62 [rP] sR s (sStmt L n s)
theorem stAll {L : List T} (hL : Toks L) : ∀ n, StAll L n
  | 0 => ⟨fun _ _ => trivial, fun _ _ _ _ => trivial, fun _ _ => trivial⟩
  | n + 1 => by
    obtain ⟨ihB, ihS, ihT⟩ := stAll hL n
    refine ⟨fun s l => ?_, fun r s l hr => ?_, stmtStep hL n ihB⟩
    · simp only [sBlock]
      have c1 := wantR l hL [123]
      revert c1
      cases sWant L [123] s with
      | out => exact fun _ => trivial
      | bad q t s1 => exact fun c1 => bkP1 c1
      | ok t1 s1 =>
        intro c1
        have c2 := ihS [] s1 c1.1 (Nat.zero_le _)
        simp only [Res.bind]
        revert c2
        cases sStmts L n [] s1 with
        | out => exact fun _ => trivial
        | bad q t s2 => exact fun ⟨v, c2⟩ => bkP2 c1.2 v c2
        | ok r s2 =>
          intro c2
          have c3 := wantR c2.1 hL [125]
          simp only
          revert c3
          cases sWant L [125] s2 with
          | out => exact fun _ => trivial
          | bad q t s3 => exact fun c3 => bkP3 c1.2 r c2.2 c3
          | ok t2 s3 => exact fun c3 => ⟨c3.1, bkOk c1.2 r c2.2 c3.2⟩
    · simp only [sStmts]
      have hlen : r.length < 1000000 := by have := hL.len; omega
      cases h : isT L s [125] with
      | true => exact ⟨l, fun rest X hP hN => lw_stop (blStop l r h rest X hP hN) (by simp)⟩
      | false =>
        have c1 := ihT s l
        have g1 := (stmt_gr L n).2.2 s
        simp only [cond_false]
        revert c1 g1
        cases sStmt L n s with
        | out => exact fun _ _ => trivial
        | bad q t s1 => exact fun c1 _ => ⟨_, fun rest X hP hN => lw_stop (blBad l r h c1 rest X hP hN) (by simp)⟩
        | ok x s1 =>
          intro c1 g1
          have g1 := g1 x s1 rfl
          have c2 := ihS (r ++ [x]) s1 c1.1 (by simp only [List.length_append, List.length_cons, List.length_nil]; omega)
          have hgo := blGo l r h hlen x c1.2
          simp only [Res.bind]
          revert c2
          cases sStmts L n (r ++ [x]) s1 with
          | out => exact fun _ => trivial
          | bad q t s2 => exact fun ⟨v, c2⟩ => ⟨v, fun rest X hP hN => lw_step (hgo rest X hP hN) (c2 rest X hP hN)⟩
          | ok r2 s2 => exact fun c2 => ⟨c2.1, fun rest X hP hN => lw_step (hgo rest X hP hN) (c2.2 rest X hP hN)⟩
end Go.Avm
