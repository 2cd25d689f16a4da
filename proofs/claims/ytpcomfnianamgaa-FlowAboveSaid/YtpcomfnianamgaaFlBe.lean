/-
  Flow: the program's borders: who comes into which row.
-/
import Derived.Test.YtpcomfnianamgaaFlBd
set_option linter.unusedSectionVars false
namespace Go.Avm
open Go.Proofs Go.Avm.Dom Go.RowKit

structure BdH (n vC : Nat) (h : Heap) (rows : List (List Int)) : Prop where
  ex : ∃ cs, h 974 = ⟨vC, some (.arr 1 cs)⟩ ∧ RowsK 800000 n h cs rows
def RowsLe (M : Nat) (rows : List (List Int)) : Prop := ∀ r ∈ rows, r.length ≤ M
theorem RowsLe.set {M : Nat} {rows : List (List Int)} (h : RowsLe M rows) {c : Nat} {r : List Int} (hr : r.length ≤ M + 1) : RowsLe (M + 1) (rows.set c r) := fun x hx => by
  rcases List.mem_or_eq_of_mem_set hx with h1 | h1
  · have := h x h1; omega
  · subst h1; exact hr
theorem BdH.len {n vC : Nat} {h : Heap} {rows : List (List Int)} (hh : BdH n vC h rows) : rows.length = n := hh.ex.elim fun _ hx => hx.2.2.1
section
variable (up : List Int) (F : Graph) (ord : List Nat) (n vC i b : Nat) (row : List Nat) (k c : Nat) (ub u : Int)
theorem bdStepH (hn : n < 100000) (hc : c < n) (hub : up[b]? = some ub) (hne : (!((c : Int) == ub)) = true) (hu : up[c]? = some u) {h : Heap} {rows : List (List Int)} (hh : BdH n vC h rows) {r : List Int} (hr : rows[c]? = some r) (hrl : r.length < 1000000000) :
    ∃ h', BdH n vC h' (rows.set c (r ++ [(b : Int)])) ∧ ∀ X : Fix, X.P = Try.prog → X.N = 95 →
      AW X (loopOf Try.prog 50 15) ⟨envOf (bd15 up F ord n vC i b row k (c : Int)), h⟩ fun e' S' => e' = .normal ∧ Weak X S' ⟨envOf (bd15 up F ord n vC i b row k u), h'⟩ := by
  obtain ⟨cs, hC, hR⟩ := hh.ex
  refine Exists.elim (rowStep (P := Try.prog) (N := 95) (c := loopOf Try.prog 50 15) (l := bd15 up F ord n vC i b row k (c : Int)) (l' := bd15 up F ord n vC i b row k u) (C := 974) (A := 70) (K := 800000) (n := n) (b := c) (Ts := [501689]) (r := r) (r' := r ++ [(b : Int)]) (h := h)
    (by omega) (fun t ht => ⟨by omega, by omega, by simp only [List.mem_cons, List.not_mem_nil, or_false]; omega⟩) ⟨by simp, by simp⟩ hC hR hc hr (fun cs1 vA rest hcell hl => ?_)) (fun h' hx => ?_)
  · exact ⟨vA + 1, [(501689, ⟨(rest 501689).ver + 1, none⟩)], rfl, fun X hP hN => bdStep up F ord n vC i b row k c ub u hc hub hne hu cs1 vA (rest 501689).ver r hcell hrl rest X hP hN⟩
  · obtain ⟨cs', c', R', _, hs⟩ := hx
    exact ⟨h', ⟨cs', c', R'⟩, hs⟩
end
/-- Who is met on the way up from j, below what is above b. -/
def Visit (U : Nat → Nat) (ib m j : Nat) : Prop := Anc U m j ∧ (ib = 0 ∨ ¬ Anc U m (U ib))
section
variable {g : Graph} (hg : Valid g) (hg0 : 0 < g.length) (hgl : g.length < 100000) {U : Nat → Nat} (hU : Fixed g U)
include hg hg0 hgl hU
theorem up_at {j : Nat} (hj : j < reachN g) : (outL2 g (allO U))[nodeAt g j]? = some (if j = 0 then -1 else (nodeAt g (U j) : Int)) := by
  by_cases h0 : j = 0
  · subst h0
    rw [if_pos rfl]
    exact outL_none hg hg0 hj (by simp [allO])
  · rw [if_neg h0]
    exact outL_node hg hj (by omega) (by unfold allO; rw [if_neg h0])
theorem bdWalk (ord : List Nat) (vC i ib : Nat) (hib : ib < reachN g) (row : List Nat) (k : Nat) : ∀ (j : Nat), j < reachN g → (ib = 0 ∨ Anc U (U ib) j) → ∀ (h : Heap) (rows : List (List Int)) (M : Nat), BdH g.length vC h rows → RowsLe M rows → M + j + 1 < 1000000000 →
    ∃ h' rows', BdH g.length vC h' rows' ∧ RowsLe (M + j + 1) rows' ∧ (∀ v x, v < g.length → (x ∈ rows'.getD v [] ↔ x ∈ rows.getD v [] ∨ (x = (nodeAt g ib : Int) ∧ ∃ m, m < reachN g ∧ v = nodeAt g m ∧ Visit U ib m j))) ∧
      ∀ X : Fix, X.P = Try.prog → X.N = 95 → LW X (loopOf Try.prog 50 15) ⟨envOf (bd15 (outL2 g (allO U)) (intoOf g) ord g.length vC i (nodeAt g ib) row k (nodeAt g j : Int)), h⟩ fun e' S' => e' = .exit 4 ∧ S' = ⟨envOf (bd11 (outL2 g (allO U)) (intoOf g) ord g.length vC i (nodeAt g ib) row k), h'⟩ := fun j => by
  induction j using Nat.strongRecOn with
  | ind j ih =>
    intro hj hanc h rows M hh hM hMl
    have hub := up_at hg hg0 hgl hU hib
    have huj := up_at hg hg0 hgl hU hj
    have hgood := hU.good
    have hnl := nodeAt_lt hg hj
    by_cases hstop : ib ≠ 0 ∧ U ib = j
    · rw [if_neg hstop.1, hstop.2] at hub
      refine ⟨h, rows, hh, fun r hr => by have := hM r hr; omega, fun v x hv => ?_, fun X hP hN => lw_end (bdMet _ _ ord _ vC i _ row k (nodeAt g j) _ hub (by simp) h X hP hN) (by simp)⟩
      constructor
      · exact .inl
      · rintro (h1 | ⟨_, m, _, _, h2, h3⟩)
        · exact h1
        · rcases h3 with h3 | h3
          · exact absurd h3 hstop.1
          · rw [hstop.2] at h3; exact absurd h2 h3
    · have hne : (!(((nodeAt g j : Nat) : Int) == (if ib = 0 then -1 else (nodeAt g (U ib) : Int)))) = true := by
        by_cases h0 : ib = 0
        · rw [if_pos h0, beq_eq_false_iff_ne.2 (by omega)]; rfl
        · rw [if_neg h0, int_ne (fun e => hstop ⟨h0, (nodeAt_inj hg hj (by have := hgood ib (by omega) hib; omega) e).symm⟩)]; rfl
      have hrl : rows.length = g.length := hh.len
      have hget : rows[nodeAt g j]? = some (rows.getD (nodeAt g j) []) := by
        rw [List.getD_eq_getElem?_getD, List.getElem?_eq_getElem (by omega)]; rfl
      have hrow := hM _ (List.mem_of_getElem? hget)
      obtain ⟨h1, hh1, hs⟩ := bdStepH (outL2 g (allO U)) (intoOf g) ord g.length vC i (nodeAt g ib) row k (nodeAt g j) _ _ hgl hnl hub hne huj hh hget (by omega)
      have hM1 : RowsLe (M + 1) (rows.set (nodeAt g j) (rows.getD (nodeAt g j) [] ++ [((nodeAt g ib : Nat) : Int)])) := hM.set (by rw [List.length_append, List.length_singleton]; omega)
      have hset : ∀ v x, v < g.length → (x ∈ (rows.set (nodeAt g j) (rows.getD (nodeAt g j) [] ++ [((nodeAt g ib : Nat) : Int)])).getD v [] ↔ x ∈ rows.getD v [] ∨ (v = nodeAt g j ∧ x = (nodeAt g ib : Int))) := fun v x hv => by
        by_cases e : v = nodeAt g j
        · subst e
          rw [List.getD_eq_getElem?_getD (l := rows.set _ _), List.getElem?_set_self (by omega)]
          simp
        · rw [List.getD_eq_getElem?_getD (l := rows.set _ _), List.getElem?_set_ne (Ne.symm e), ← List.getD_eq_getElem?_getD]
          simp [e]
      have hvj : Visit U ib j j := ⟨.refl j, by
        by_cases h0 : ib = 0
        · exact .inl h0
        · refine .inr fun ha => hstop ⟨h0, ?_⟩
          have h2 := hanc.resolve_left h0
          have hui := hgood ib (by omega) hib
          have l1 := anc_le hgood (U ib) (by omega) j ha
          have l2 := anc_le hgood j hj (U ib) h2
          omega⟩
      by_cases h0 : j = 0
      · rw [if_pos h0] at huj hs
        have hib0 : ib = 0 := Classical.byContradiction fun hne0 => by
          have h2 := hanc.resolve_left hne0
          rw [h0] at h2
          exact hstop ⟨hne0, (anc_zero_iff h2).trans h0.symm⟩
        refine ⟨h1, _, hh1, fun r hr => by have := hM1 r hr; omega, fun v x hv => ?_, fun X hP hN => lw_seg (hs X hP hN) (lw_end (bdTop _ _ ord _ vC i _ row k h1 X hP hN) (by simp))⟩
        rw [hset v x hv]
        constructor
        · rintro (h2 | ⟨h2, h3⟩)
          · exact .inl h2
          · exact .inr ⟨h3, j, hj, h2, hvj⟩
        · rintro (h2 | ⟨h3, m, hm, h4, h5⟩)
          · exact .inl h2
          · refine .inr ⟨?_, h3⟩
            have := h5.1
            rw [h0] at this
            rw [h4, anc_zero_iff this, h0]
      · rw [if_neg h0] at huj hs
        have hlt := hgood j (by omega) hj
        have hanc2 : ib = 0 ∨ Anc U (U ib) (U j) := by
          by_cases hi0 : ib = 0
          · exact .inl hi0
          · exact .inr (anc_up_of_ne (hanc.resolve_left hi0) (fun e => hstop ⟨hi0, e⟩)).2
        obtain ⟨h2, rows2, hh2, hM2, hmem, hl⟩ := ih (U j) hlt (by omega) hanc2 h1 _ (M + 1) hh1 hM1 (by omega)
        refine ⟨h2, rows2, hh2, fun r hr => by have := hM2 r hr; omega, fun v x hv => ?_, fun X hP hN => lw_seg (hs X hP hN) (hl X hP hN)⟩
        rw [hmem v x hv, hset v x hv]
        constructor
        · rintro ((h3 | ⟨h3, h4⟩) | ⟨h3, m, hm, h4, h5, h6⟩)
          · exact .inl h3
          · exact .inr ⟨h4, j, hj, h3, hvj⟩
          · exact .inr ⟨h3, m, hm, h4, .up (by omega) h5, h6⟩
        · rintro (h3 | ⟨h3, m, hm, h4, h5, h6⟩)
          · exact .inl (.inl h3)
          · by_cases e : m = j
            · subst e; exact .inl (.inr ⟨h4, h3⟩)
            · exact .inr ⟨h3, m, hm, h4, (anc_up_of_ne h5 e).2, h6⟩
end
end Go.Avm
