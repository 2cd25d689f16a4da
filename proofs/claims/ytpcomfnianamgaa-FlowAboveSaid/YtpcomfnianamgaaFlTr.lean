/-
  FlowTree.
-/
import Derived.Test.YtpcomfnianamgaaFlOr
set_option linter.unusedSectionVars false
namespace Go.Avm
open Go.Proofs Go.Avm.Dom

noncomputable def trD (g : Graph) : List D := (List.range g.length).map fun a => rowB (domsL g a)
noncomputable def trO (g : Graph) (up : List Int) (b : Nat) : List (Nat × AV) := [(0, .d (rowsN g)), (3, .d (rowD up)), (5, .d (.ro (trD g))), (6, .d (rowB (reachL g 0 none))), (34, dN g.length), (35, dN b)]
noncomputable def trI (g : Graph) (up : List Int) (b a : Nat) : List (Nat × AV) := [(0, .d (rowsN g)), (3, .d (rowD up)), (5, .d (.ro (trD g))), (6, .d (rowB (reachL g 0 none))), (7, dN b), (34, dN g.length), (35, dN b), (53, dN g.length), (54, dN a)]
section
variable (g : Graph) (up : List Int) (b a : Nat) (u : Int)
theorem trNo (ha : a < g.length) (hgl : g.length < 100000) (h1 : (reachL g 0 none)[a]? = some false) (rest : Heap) (X : Fix) (hP : X.P = Try.prog) (hN : X.N = 83) :
    AW X (loopOf Try.prog 11 15) ⟨envOf (trI g up b a), ovl [] rest⟩ fun e' S' => e' = .normal ∧ Weak X S' ⟨envOf (trI g up b (a + 1)), ovl [] rest⟩ :=
  seg okP named { hint := tabH Try.prog [(11, 55, hLt Try.prog a g.length true (by simpa using ha)), (11, 59, hIxB Try.prog (reachL g 0 none) a false h1), (11, 81, hSucc Try.prog a (by omega))] } 2000 11 500000 83 (by kernel_rfl) X hP hN
theorem trNo2 (ha : a < g.length) (hgl : g.length < 100000) (h1 : (reachL g 0 none)[a]? = some true) (h2 : (reachL g 0 none)[b]? = some false) (rest : Heap) (X : Fix) (hP : X.P = Try.prog) (hN : X.N = 83) :
    AW X (loopOf Try.prog 11 15) ⟨envOf (trI g up b a), ovl [] rest⟩ fun e' S' => e' = .normal ∧ Weak X S' ⟨envOf (trI g up b (a + 1)), ovl [] rest⟩ :=
  seg okP named { hint := tabH Try.prog [(11, 55, hLt Try.prog a g.length true (by simpa using ha)), (11, 59, hIxB Try.prog (reachL g 0 none) a true h1), (11, 64, hIxB Try.prog (reachL g 0 none) b false h2), (11, 81, hSucc Try.prog a (by omega))] } 2000 11 500000 83 (by kernel_rfl) X hP hN
theorem trMet_true (ha : a < g.length) (hgl : g.length < 100000) (h1 : (reachL g 0 none)[a]? = some true) (h2 : (reachL g 0 none)[b]? = some true) (hc : Pure Try.prog 45 [rowD up, .int .i64 (a : Int), .int .i64 (b : Int)] [.bool true]) (h3 : (trD g)[a]? = some (rowB (domsL g a))) (h4 : (domsL g a)[b]? = some true) (rest : Heap) (X : Fix) (hP : X.P = Try.prog) (hN : X.N = 83) :
    AW X (loopOf Try.prog 11 15) ⟨envOf (trI g up b a), ovl [] rest⟩ fun e' S' => e' = .normal ∧ Weak X S' ⟨envOf (trI g up b (a + 1)), ovl [] rest⟩ :=
  seg okP named { hint := tabH Try.prog [(11, 55, hLt Try.prog a g.length true (by simpa using ha)), (11, 59, hIxB Try.prog (reachL g 0 none) a true h1), (11, 64, hIxB Try.prog (reachL g 0 none) b true h2), (11, 71, .call 45 _ _ hc), (11, 74, .idx (trD g) ((a : Nat) : Int) (rowB (domsL g a)) (by omega) h3), (11, 77, hIxB Try.prog (domsL g a) b true h4), (11, 81, hSucc Try.prog a (by omega))] } 2000 11 500000 83 (by kernel_rfl) X hP hN
theorem trMet_false (ha : a < g.length) (hgl : g.length < 100000) (h1 : (reachL g 0 none)[a]? = some true) (h2 : (reachL g 0 none)[b]? = some true) (hc : Pure Try.prog 45 [rowD up, .int .i64 (a : Int), .int .i64 (b : Int)] [.bool false]) (h3 : (trD g)[a]? = some (rowB (domsL g a))) (h4 : (domsL g a)[b]? = some false) (rest : Heap) (X : Fix) (hP : X.P = Try.prog) (hN : X.N = 83) :
    AW X (loopOf Try.prog 11 15) ⟨envOf (trI g up b a), ovl [] rest⟩ fun e' S' => e' = .normal ∧ Weak X S' ⟨envOf (trI g up b (a + 1)), ovl [] rest⟩ :=
  seg okP named { hint := tabH Try.prog [(11, 55, hLt Try.prog a g.length true (by simpa using ha)), (11, 59, hIxB Try.prog (reachL g 0 none) a true h1), (11, 64, hIxB Try.prog (reachL g 0 none) b true h2), (11, 71, .call 45 _ _ hc), (11, 74, .idx (trD g) ((a : Nat) : Int) (rowB (domsL g a)) (by omega) h3), (11, 77, hIxB Try.prog (domsL g a) b false h4), (11, 81, hSucc Try.prog a (by omega))] } 2000 11 500000 83 (by kernel_rfl) X hP hN
theorem trIStop (rest : Heap) (X : Fix) (hP : X.P = Try.prog) (hN : X.N = 83) :
    AW X (loopOf Try.prog 11 15) ⟨envOf (trI g up b g.length), ovl [] rest⟩ fun e' S' => e' = .exit 2 ∧ Weak X S' ⟨envOf (trO g up b), ovl [] rest⟩ :=
  seg okP named { hint := tabH Try.prog [(11, 55, hLt Try.prog g.length g.length false (by simp))] } 2000 11 500000 83 (by kernel_rfl) X hP hN
section
variable (hl : ∀ (rest : Heap) (X : Fix), X.P = Try.prog → X.N = 83 → AW X (.loop (loopOf Try.prog 11 15)) ⟨envOf (trI g up b 0), ovl [] rest⟩ fun e' S' => e' = .exit 2 ∧ S' = ⟨envOf (trO g up b), ovl [] rest⟩)
include hl
theorem trO0 (hb : b < g.length) (h0 : b = 0) (hgl : g.length < 100000) (h1 : (reachL g 0 none)[b]? = some true) (rest : Heap) (X : Fix) (hP : X.P = Try.prog) (hN : X.N = 83) :
    AW X (loopOf Try.prog 11 10) ⟨envOf (trO g up b), ovl [] rest⟩ fun e' S' => e' = .normal ∧ Weak X S' ⟨envOf (trO g up (b + 1)), ovl [] rest⟩ :=
  seg okP named { loops := fun f q => if f = 11 then (if q = 15 then some ⟨83, loopOf Try.prog 11 15, trI g up b 0, fun _ => [], .exit 2, trO g up b, fun _ => [], hl⟩ else none) else none, hint := tabH Try.prog [(11, 36, hLt Try.prog b g.length true (by simpa using hb)), (11, 40, hIxB Try.prog (reachL g 0 none) b true h1), (11, 43, hEq Try.prog (b : Int) 0 true (by simp [h0])), (11, 53, hLenG Try.prog g), (11, 82, hSucc Try.prog b (by omega))] } 2000 11 500000 83 (by kernel_rfl) X hP hN
theorem trOR (hb : b < g.length) (h0 : b ≠ 0) (hgl : g.length < 100000) (h1 : (reachL g 0 none)[b]? = some true) (hu : up[b]? = some u) (hu0 : 0 ≤ u) (rest : Heap) (X : Fix) (hP : X.P = Try.prog) (hN : X.N = 83) :
    AW X (loopOf Try.prog 11 10) ⟨envOf (trO g up b), ovl [] rest⟩ fun e' S' => e' = .normal ∧ Weak X S' ⟨envOf (trO g up (b + 1)), ovl [] rest⟩ :=
  seg okP named { loops := fun f q => if f = 11 then (if q = 15 then some ⟨83, loopOf Try.prog 11 15, trI g up b 0, fun _ => [], .exit 2, trO g up b, fun _ => [], hl⟩ else none) else none, hint := tabH Try.prog [(11, 36, hLt Try.prog b g.length true (by simpa using hb)), (11, 40, hIxB Try.prog (reachL g 0 none) b true h1), (11, 43, hEq Try.prog (b : Int) 0 false (beq_eq_false_iff_ne.2 (by omega))), (11, 47, hIx Try.prog up b u hu), (11, 49, hB Try.prog (decide ((0 : Int) ≤ u)) true (dec_true hu0)), (11, 53, hLenG Try.prog g), (11, 82, hSucc Try.prog b (by omega))] } 2000 11 500000 83 (by kernel_rfl) X hP hN
theorem trOU (hb : b < g.length) (h0 : b ≠ 0) (hgl : g.length < 100000) (h1 : (reachL g 0 none)[b]? = some false) (hu : up[b]? = some (-1)) (rest : Heap) (X : Fix) (hP : X.P = Try.prog) (hN : X.N = 83) :
    AW X (loopOf Try.prog 11 10) ⟨envOf (trO g up b), ovl [] rest⟩ fun e' S' => e' = .normal ∧ Weak X S' ⟨envOf (trO g up (b + 1)), ovl [] rest⟩ :=
  seg okP named { loops := fun f q => if f = 11 then (if q = 15 then some ⟨83, loopOf Try.prog 11 15, trI g up b 0, fun _ => [], .exit 2, trO g up b, fun _ => [], hl⟩ else none) else none, hint := tabH Try.prog [(11, 36, hLt Try.prog b g.length true (by simpa using hb)), (11, 40, hIxB Try.prog (reachL g 0 none) b false h1), (11, 43, hEq Try.prog (b : Int) 0 false (beq_eq_false_iff_ne.2 (by omega))), (11, 47, hIx Try.prog up b (-1) hu), (11, 53, hLenG Try.prog g), (11, 82, hSucc Try.prog b (by omega))] } 2000 11 500000 83 (by kernel_rfl) X hP hN
end
theorem trOStop (rest : Heap) (X : Fix) (hP : X.P = Try.prog) (hN : X.N = 83) :
    AW X (loopOf Try.prog 11 10) ⟨envOf (trO g up g.length), ovl [] rest⟩ fun e' S' => e' = .exit 0 ∧ Weak X S' ⟨envOf [], ovl [] rest⟩ :=
  seg okP named { hint := tabH Try.prog [(11, 36, hLt Try.prog g.length g.length false (by simp))] } 2000 11 500000 83 (by kernel_rfl) X hP hN
end
section
variable {g : Graph} (hg : Valid g) (hg0 : 0 < g.length) (hgl : g.length < 100000) {U : Nat → Nat} (hU : Fixed g U)
include hg hg0 hgl hU
theorem all_get {b : Nat} (hb : b < g.length) : (Dom.Reached g b → (reachL g 0 none)[b]? = some true) ∧ (¬ Dom.Reached g b → (reachL g 0 none)[b]? = some false) := by
  have h := reachL_get (g := g) (n := 0) (but := none) hb
  have hm := reachL_met (g := g) (n := 0) (but := none) hb
  constructor
  · intro hr
    rw [h, hm.2 ⟨hg0, hr⟩]
  · intro hr
    rw [h]
    congr 1
    cases e : met (reachL g 0 none) b with
    | false => rfl
    | true => exact absurd (hm.1 e).2 hr
open Classical in
theorem trILoop (b : Nat) (hb : b < g.length) (rest : Heap) (X : Fix) (hP : X.P = Try.prog) (hN : X.N = 83) :
    AW X (.loop (loopOf Try.prog 11 15)) ⟨envOf (trI g (outL2 g (allO U)) b 0), ovl [] rest⟩ fun e' S' => e' = .exit 2 ∧ S' = ⟨envOf (trO g (outL2 g (allO U)) b), ovl [] rest⟩ :=
  (lw_count g.length (fun a => ⟨envOf (trI g (outL2 g (allO U)) b a), ovl [] rest⟩) (by simp) (fun a ha => by
    by_cases h1 : Dom.Reached g a
    · by_cases h2 : Dom.Reached g b
      · obtain ⟨i, hi, rfl⟩ := nodeAt_ex hg hg0 h1
        obtain ⟨j, hj, rfl⟩ := nodeAt_ex hg hg0 h2
        have hov := overC hg hU.good hgl (reachN_le hg hg0) hi hj
        have hiff := anc_doms hg hU hi hj
        have h3 : (trD g)[nodeAt g i]? = some (rowB (domsL g (nodeAt g i))) := by simp [trD, ha]
        have h4 : (domsL g (nodeAt g i))[nodeAt g j]? = some (domB g (nodeAt g i) (nodeAt g j)) := by simp [domsL, hb]
        by_cases hd : Doms g (nodeAt g i) (nodeAt g j)
        · rw [decide_eq_true (hiff.2 hd)] at hov
          rw [domB_true hd] at h4
          exact trMet_true g _ _ _ ha hgl ((all_get hg hg0 hgl hU ha).1 h1) ((all_get hg hg0 hgl hU hb).1 h2) hov h3 h4 rest X hP hN
        · rw [decide_eq_false (fun h => hd (hiff.1 h))] at hov
          rw [domB_false hd] at h4
          exact trMet_false g _ _ _ ha hgl ((all_get hg hg0 hgl hU ha).1 h1) ((all_get hg hg0 hgl hU hb).1 h2) hov h3 h4 rest X hP hN
      · exact trNo2 g _ b a ha hgl ((all_get hg hg0 hgl hU ha).1 h1) ((all_get hg hg0 hgl hU hb).2 h2) rest X hP hN
    · exact trNo g _ b a ha hgl ((all_get hg hg0 hgl hU ha).2 h1) rest X hP hN)
    (trIStop g _ b rest X hP hN)).aw
theorem trOLoop (rest : Heap) (X : Fix) (hP : X.P = Try.prog) (hN : X.N = 83) :
    AW X (.loop (loopOf Try.prog 11 10)) ⟨envOf (trO g (outL2 g (allO U)) 0), ovl [] rest⟩ fun e' S' => e' = .exit 0 ∧ S' = ⟨envOf [], ovl [] rest⟩ :=
  (lw_count g.length (fun b => ⟨envOf (trO g (outL2 g (allO U)) b), ovl [] rest⟩) (by simp) (fun b hb => by
    have hl := fun rest X hP hN => trILoop hg hg0 hgl hU b hb rest X hP hN
    by_cases h0 : b = 0
    · exact trO0 g _ b hl hb h0 hgl ((all_get hg hg0 hgl hU hb).1 (h0 ▸ .refl (by simp))) rest X hP hN
    · by_cases h1 : Dom.Reached g b
      · have ha := (all_get hg hg0 hgl hU hb).1 h1
        obtain ⟨j, hj, rfl⟩ := nodeAt_ex hg hg0 h1
        have hj0 : j ≠ 0 := fun e => h0 (by rw [e, nodeAt_zero hg0])
        exact trOR g _ _ _ hl hb h0 hgl ha (outL_node hg hj (by omega) (by unfold allO; rw [if_neg hj0])) (by omega) rest X hP hN
      · exact trOU g _ b hl hb h0 hgl ((all_get hg hg0 hgl hU hb).2 h1) (up_un hg hg0 hgl hU hb h1).1 rest X hP hN)
    (trOStop g _ rest X hP hN)).aw
end
theorem treeBad {gs t : List (List Int)} (ht : Pure Try.prog 36 [rowsD gs] [rowsD t]) (h38 : Pure Try.prog 38 [rowsD t] [rowsD t]) (h42 : Pure Try.prog 42 [rowsD t] [.ro [], .int .i64 3]) : Pure Try.prog 11 [rowsD gs] [.bool true] :=
  pure_of_run okP named { hint := tabH Try.prog [(11, 9, .call 35 _ _ awake05), (11, 12, .call 36 _ _ ht), (11, 15, .call 38 _ _ h38), (11, 16, .call 42 _ _ h42)] } 2000 (by kernel_rfl)
theorem treeNil {gs : List (List Int)} (ht : Pure Try.prog 36 [rowsD gs] [rowsD []]) (h38 : Pure Try.prog 38 [rowsD []] [rowsD []]) (h42 : Pure Try.prog 42 [rowsD []] [.ro [], .int .i64 0]) : Pure Try.prog 11 [rowsD gs] [.bool true] :=
  pure_of_run okP named { hint := tabH Try.prog [(11, 9, .call 35 _ _ awake05), (11, 12, .call 36 _ _ ht), (11, 15, .call 38 _ _ h38), (11, 16, .call 42 _ _ h42)] } 2000 (by kernel_rfl)
theorem treeOk {gs : List (List Int)} {g : Graph} {up : List Int} (hg0 : 0 < g.length) (ht : Pure Try.prog 36 [rowsD gs] [rowsN g]) (h38 : Pure Try.prog 38 [rowsN g] [rowsN g]) (h42 : Pure Try.prog 42 [rowsN g] [rowD up, .int .i64 0])
    (h43 : Pure Try.prog 43 [rowsN g] [.ro (trD g)]) (h44 : Pure Try.prog 44 [rowsN g, .int .i64 0, .int .i64 (-1)] [rowB (reachL g 0 none)])
    (hl : ∀ (rest : Heap) (X : Fix), X.P = Try.prog → X.N = 83 → AW X (.loop (loopOf Try.prog 11 10)) ⟨envOf (trO g up 0), ovl [] rest⟩ fun e' S' => e' = .exit 0 ∧ S' = ⟨envOf [], ovl [] rest⟩) : Pure Try.prog 11 [rowsD gs] [.bool true] :=
  pure_of_run okP named { loops := fun f q => if f = 11 then (if q = 10 then some ⟨83, loopOf Try.prog 11 10, trO g up 0, fun _ => [], .exit 0, [], fun _ => [], hl⟩ else none) else none, hint := tabH Try.prog [(11, 9, .call 35 _ _ awake05), (11, 12, .call 36 _ _ ht), (11, 15, .call 38 _ _ h38), (11, 16, .call 42 _ _ h42), (11, 23, hLenG Try.prog g), (11, 24, hEq Try.prog (g.length : Int) 0 false (beq_eq_false_iff_ne.2 (by omega))), (11, 30, .call 43 _ _ h43), (11, 32, .call 44 _ _ h44), (11, 34, hLenG Try.prog g)] } 2000 (by kernel_rfl)
theorem treePure (gs : List (List Int)) (hl : gs.length ≤ 9223372036854775807) : Pure Try.prog 11 [rowsD gs] [.bool true] := by
  have hT := tame_is gs
  have ht := tameC gs hl
  generalize tameF gs = t at hT ht
  have h38 := tame_twin hT
  cases hk : okG t with
  | false =>
    obtain ⟨h73, h39⟩ := tame_check hT 3 (by rw [hk]; rfl)
    exact treeBad ht h38 (above42Bad h73)
  | true =>
    obtain ⟨h73, h39⟩ := tame_check hT 0 (by rw [hk]; rfl)
    obtain ⟨g, rfl, hg, hgl, hr⟩ := tame_nat hT hk
    have hsr := succ_len (g := g) (fun l hl => by have := hr l hl; omega)
    obtain ⟨U, hU, h74⟩ := aboveC hg (by omega) hsr
    have h42 := above42 h73 h74
    rcases Nat.eq_zero_or_pos g.length with h0 | h0
    · have : g = [] := List.length_eq_zero_iff.1 h0
      subst this
      exact treeNil ht h38 h42
    · exact treeOk h0 ht h38 h42 (domsC hg (by omega) hsr) (reachC hg (but := none) (n := 0) (by omega) (by omega) hsr) (fun rest X hP hN => trOLoop hg h0 (by omega) hU rest X hP hN)
end Go.Avm
