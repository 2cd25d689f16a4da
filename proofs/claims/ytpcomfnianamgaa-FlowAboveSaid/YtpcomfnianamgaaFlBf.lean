/-
  Flow: the program's borders: all walks.
-/
import Derived.Test.YtpcomfnianamgaaFlBe
set_option linter.unusedSectionVars false
namespace Go.Avm
open Go.Proofs Go.Avm.Dom Go.RowKit

section
variable {g : Graph} (hg : Valid g) (hg0 : 0 < g.length) (hgl : g.length < 1000) {U : Nat → Nat} (hU : Fixed g U)
include hg hg0 hgl hU
theorem visit_iff {ib j : Nat} (hib : ib < reachN g) (hj : j < reachN g) (v : Nat) : (∃ m, m < reachN g ∧ v = nodeAt g m ∧ Visit U ib m j) ↔ Doms g v (nodeAt g j) ∧ (v = nodeAt g ib ∨ ¬ Doms g v (nodeAt g ib)) := by
  have hgood := hU.good
  constructor
  · rintro ⟨m, hm, rfl, h1, h2⟩
    refine ⟨(anc_doms hg hU hm hj).1 h1, ?_⟩
    by_cases h0 : ib = 0
    · subst h0
      by_cases hm0 : m = 0
      · subst hm0; exact .inl rfl
      · refine .inr fun hd => hm0 (anc_zero_iff ((anc_doms hg hU hm hib).2 hd))
    · have h3 := h2.resolve_left h0
      have hup := up_doms hg hg0 hU (by omega) hib
      by_cases e : nodeAt g m = nodeAt g ib
      · exact .inl e
      · exact .inr fun hd => h3 ((anc_doms hg hU hm (by have := hup.1; omega)).2 (hup.2.2.2.1 _ hd e))
  · rintro ⟨h1, h2⟩
    obtain ⟨m, hm, rfl⟩ := nodeAt_ex hg hg0 h1.1
    refine ⟨m, hm, rfl, (anc_doms hg hU hm hj).2 h1, ?_⟩
    by_cases h0 : ib = 0
    · exact .inl h0
    · refine .inr fun ha => ?_
      have hup := up_doms hg hg0 hU (by omega) hib
      have hd := (anc_doms hg hU hm (by have := hup.1; omega)).1 ha
      have hdb := hup.2.2.2.2 _ hd
      rcases h2 with h2 | h2
      · rw [h2] at hd
        exact hup.2.2.1 (doms_anti hg hg0 hU hup.2.1 hd)
      · exact h2 hdb
theorem pred_anc {ib j : Nat} (hib : ib < reachN g) (hj : j < reachN g) (hs : nodeAt g ib ∈ succ g (nodeAt g j)) : ib = 0 ∨ Anc U (U ib) j := by
  by_cases h0 : ib = 0
  · exact .inl h0
  · have hup := up_doms hg hg0 hU (by omega) hib
    refine .inr ((anc_doms hg hU (by have := hup.1; omega) hj).2 ⟨hup.2.1.1, nodeAt_reached hg hj, .inr fun hr => ?_⟩)
    exact (hup.2.1.2.2.resolve_left hup.2.2.1) (.step hr hs (by simpa using fun e => hup.2.2.1 e.symm))
set_option maxRecDepth 100000 in
theorem bdPreds (ord : List Nat) (vC i ib : Nat) (hib : ib < reachN g) : ∀ (m k : Nat) (h : Heap) (rows : List (List Int)) (M : Nat), ((intoOf g).getD (nodeAt g ib) []).length - k = m → k ≤ ((intoOf g).getD (nodeAt g ib) []).length → BdH g.length vC h rows → RowsLe M rows → M + m * 1000 < 100000000 →
    ∃ h' rows', BdH g.length vC h' rows' ∧ RowsLe (M + m * 1000) rows' ∧ (∀ v x, v < g.length → (x ∈ rows'.getD v [] ↔ x ∈ rows.getD v [] ∨ (x = (nodeAt g ib : Int) ∧ ∃ p ∈ ((intoOf g).getD (nodeAt g ib) []).drop k, Doms g v p ∧ (v = nodeAt g ib ∨ ¬ Doms g v (nodeAt g ib))))) ∧
      ∀ X : Fix, X.P = Try.prog → X.N = 95 → LW X (loopOf Try.prog 50 11) ⟨envOf (bd11 (outL2 g (allO U)) (intoOf g) ord g.length vC i (nodeAt g ib) ((intoOf g).getD (nodeAt g ib) []) k), h⟩ fun e' S' => e' = .exit 2 ∧ S' = ⟨envOf (bd8 (outL2 g (allO U)) (intoOf g) ord g.length vC i), h'⟩ := fun m => by
  have hml := reachN_le hg hg0
  have hrl := into_len g (nodeAt g ib)
  induction m with
  | zero =>
    intro k h rows M hm hk hh hM _
    have : k = ((intoOf g).getD (nodeAt g ib) []).length := by omega
    subst this
    refine ⟨h, rows, hh, fun r hr => by have := hM r hr; omega, fun v x hv => ?_, fun X hP hN => lw_end (bd11Stop _ _ ord _ vC i _ _ h X hP hN) (by simp)⟩
    rw [List.drop_length]
    simp
  | succ m ih =>
    intro k h rows M hm hk hh hM hMl
    have hlt : k < ((intoOf g).getD (nodeAt g ib) []).length := by omega
    have hget : ((intoOf g).getD (nodeAt g ib) [])[k]? = some ((intoOf g).getD (nodeAt g ib) [])[k] := List.getElem?_eq_getElem hlt
    have hdrop : ((intoOf g).getD (nodeAt g ib) []).drop k = ((intoOf g).getD (nodeAt g ib) [])[k] :: ((intoOf g).getD (nodeAt g ib) []).drop (k + 1) := List.drop_eq_getElem_cons hlt
    have hmem : ((intoOf g).getD (nodeAt g ib) [])[k] ∈ (intoOf g).getD (nodeAt g ib) [] := List.getElem_mem hlt
    generalize ((intoOf g).getD (nodeAt g ib) [])[k] = p at hget hdrop hmem
    have hp := intoOf_mem.1 hmem
    rw [hdrop]
    by_cases hr : Dom.Reached g p
    · obtain ⟨j, hj, rfl⟩ := nodeAt_ex hg hg0 hr
      obtain ⟨h1, rows1, hh1, hM1, hmem1, hl1⟩ := bdWalk hg hg0 (by omega) hU ord vC i ib hib ((intoOf g).getD (nodeAt g ib) []) k j hj (pred_anc hg hg0 hgl hU hib hj hp.2.2) h rows M hh hM (by omega)
      obtain ⟨h2, rows2, hh2, hM2, hmem2, hl2⟩ := ih (k + 1) h1 rows1 (M + 1000) (by omega) (by omega) hh1 (fun r hr => by have := hM1 r hr; omega) (by omega)
      refine ⟨h2, rows2, hh2, fun r hr => by have := hM2 r hr; omega, fun v x hv => ?_, fun X hP hN => ?_⟩
      · rw [hmem2 v x hv, hmem1 v x hv, visit_iff hg hg0 hgl hU hib hj]
        constructor
        · rintro ((h3 | ⟨h3, h4⟩) | ⟨h3, q, hq, h4⟩)
          · exact .inl h3
          · exact .inr ⟨h3, _, List.mem_cons_self, h4⟩
          · exact .inr ⟨h3, q, List.mem_cons_of_mem _ hq, h4⟩
        · rintro (h3 | ⟨h3, q, hq, h4⟩)
          · exact .inl (.inl h3)
          · rcases List.mem_cons.1 hq with rfl | hq
            · exact .inl (.inr ⟨h3, h4⟩)
            · exact .inr ⟨h3, q, hq, h4⟩
      · have hu := up_at hg hg0 (by omega) hU hj
        by_cases h0 : j = 0
        · exact lw_seg (bdRoot _ _ ord _ vC i _ _ k h h1 _ hlt (by omega) hget (by rw [h0, nodeAt_zero hg0]) hl1 X hP hN) (hl2 X hP hN)
        · rw [if_neg h0] at hu
          exact lw_seg (bdNear _ _ ord _ vC i _ _ k _ h h1 _ hlt (by omega) hget (fun e => h0 (nodeAt_inj hg hj (by omega) (e.trans (nodeAt_zero hg0).symm))) hu (by omega) hl1 X hP hN) (hl2 X hP hN)
    · obtain ⟨h2, rows2, hh2, hM2, hmem2, hl2⟩ := ih (k + 1) h rows M (by omega) (by omega) hh hM (by omega)
      have hun := up_un hg hg0 (by omega) hU hp.2.1 hr
      refine ⟨h2, rows2, hh2, fun r hr => by have := hM2 r hr; omega, fun v x hv => ?_, fun X hP hN => lw_seg (bdFar _ _ ord _ vC i _ _ k p hlt (by omega) hget hun.2 hun.1 h X hP hN) (hl2 X hP hN)⟩
      rw [hmem2 v x hv]
      constructor
      · rintro (h3 | ⟨h3, q, hq, h4⟩)
        · exact .inl h3
        · exact .inr ⟨h3, q, List.mem_cons_of_mem _ hq, h4⟩
      · rintro (h3 | ⟨h3, q, hq, h4⟩)
        · exact .inl h3
        · rcases List.mem_cons.1 hq with rfl | hq
          · exact absurd h4.1.2.1 hr
          · exact .inr ⟨h3, q, hq, h4⟩
set_option maxRecDepth 100000 in
theorem bdNodes (vC : Nat) : ∀ (m i : Nat) (h : Heap) (rows : List (List Int)) (M : Nat), (orderOf g).length - i = m → i ≤ (orderOf g).length → BdH g.length vC h rows → RowsLe M rows → M + m * 1000000 < 100000000 →
    ∃ h' rows' M', BdH g.length vC h' rows' ∧ RowsLe M' rows' ∧ M' < 1000000000 ∧ (∀ v x, v < g.length → (x ∈ rows'.getD v [] ↔ x ∈ rows.getD v [] ∨ ∃ b ∈ (orderOf g).drop i, x = (b : Int) ∧ Border g v b)) ∧
      ∀ X : Fix, X.P = Try.prog → X.N = 95 → LW X (loopOf Try.prog 50 8) ⟨envOf (bd8 (outL2 g (allO U)) (intoOf g) (orderOf g) g.length vC i), h⟩ fun e' S' => e' = .exit 0 ∧ S' = ⟨envOf [(6, .sl 974 vC 0 g.length 1)], h'⟩ := fun m => by
  have hml := reachN_le hg hg0
  induction m with
  | zero =>
    intro i h rows M hm hi hh hM hMM
    have : i = (orderOf g).length := by omega
    subst this
    refine ⟨h, rows, M, hh, hM, by omega, fun v x hv => ?_, fun X hP hN => lw_end (bd8Stop _ _ (orderOf g) _ vC h X hP hN) (by simp)⟩
    rw [List.drop_length]
    simp
  | succ m ih =>
    intro i h rows M hm hi hh hM hMl
    have hlt : i < reachN g := by unfold reachN; omega
    have hget := nodeAt_get hlt
    have hdrop : (orderOf g).drop i = nodeAt g i :: (orderOf g).drop (i + 1) := by
      rw [List.drop_eq_getElem_cons (by unfold reachN at hlt; exact hlt)]
      congr 1
      rw [List.getElem?_eq_getElem (by unfold reachN at hlt; exact hlt)] at hget
      exact Option.some.inj hget
    have hrl := into_len g (nodeAt g i)
    have hmul : ((intoOf g).getD (nodeAt g i) []).length * 1000 ≤ 1000000 := by omega
    obtain ⟨h1, rows1, hh1, hM1, hmem1, hl1⟩ := bdPreds hg hg0 hgl hU (orderOf g) vC i i hlt _ 0 h rows M rfl (Nat.zero_le _) hh hM (by omega)
    obtain ⟨h2, rows2, M2, hh2, hM2, hM2l, hmem2, hl2⟩ := ih (i + 1) h1 rows1 (M + 1000000) (by omega) (by omega) hh1 (fun r hr => by have := hM1 r hr; omega) (by omega)
    refine ⟨h2, rows2, M2, hh2, hM2, hM2l, fun v x hv => ?_, fun X hP hN => lw_seg (bd8Round _ _ (orderOf g) _ vC i _ _ h h1 (by unfold reachN at hlt; exact hlt) (by unfold reachN at hml; omega) (intsN_get hget) (into_row (nodeAt_lt hg hlt)) hl1 X hP hN) (hl2 X hP hN)⟩
    rw [hmem2 v x hv, hmem1 v x hv, hdrop, List.drop_zero]
    constructor
    · rintro ((h3 | ⟨h3, p, hp, h4, h5⟩) | ⟨b, hb, h3⟩)
      · exact .inl h3
      · exact .inr ⟨_, List.mem_cons_self, h3, ⟨p, (intoOf_mem.1 hp).2.2, h4⟩, h5⟩
      · exact .inr ⟨b, List.mem_cons_of_mem _ hb, h3⟩
    · rintro (h3 | ⟨b, hb, h3, ⟨p, hp, h4⟩, h5⟩)
      · exact .inl (.inl h3)
      · rcases List.mem_cons.1 hb with rfl | hb
        · have hl := succ_lt hg hp
          exact .inl (.inr ⟨h3, p, intoOf_mem.2 ⟨hl.1, hl.2, hp⟩, h4, h5⟩)
        · exact .inr ⟨b, hb, h3, ⟨p, hp, h4⟩, h5⟩
end
end Go.Avm
