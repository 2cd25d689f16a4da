/-
  The abstract machine, part X: rows that grow, counted from a key; one of them at a time under a written key.
-/
import Derived.Test.YtpcomfnianamgaaFlOne
set_option linter.unusedSectionVars false
namespace Go.Avm
open Go.Proofs Go.RowKit

/-- The rows, counted from key K. -/
def RowsK (K n : Nat) (h : Heap) (cs : List AV) (rows : List (List Int)) : Prop :=
  cs.length = n ∧ rows.length = n ∧ ∀ a, a < n → ∃ c r, cs[a]? = some c ∧ rows[a]? = some r ∧ RowAt h (K + a) c r
theorem RowsK.nils (K n : Nat) (h : Heap) : RowsK K n h (List.replicate n .nils) (List.replicate n []) :=
  ⟨by simp, by simp, fun a ha => ⟨.nils, [], by simp [ha], by simp [ha], .inl ⟨rfl, rfl⟩⟩⟩
theorem RowsK.congr {K n : Nat} {h h' : Heap} {cs : List AV} {rows : List (List Int)} (hR : RowsK K n h cs rows) (he : ∀ a, a < n → h' (K + a) = h (K + a)) : RowsK K n h' cs rows :=
  ⟨hR.1, hR.2.1, fun a ha => by
    obtain ⟨c, r, h1, h2, h3⟩ := hR.2.2 a ha
    exact ⟨c, r, h1, h2, h3.congr (he a ha)⟩⟩
def verOnly (h : Heap) (ks : List Nat) : List (Nat × Ent) := ks.map fun k => (k, ⟨(h k).ver, none⟩)
theorem verOnly_fits (h : Heap) (ks : List Nat) : Fits h (verOnly h ks) := fun p hp => by
  simp only [verOnly, List.mem_map] at hp
  obtain ⟨k, _, rfl⟩ := hp
  exact ⟨rfl, .inl rfl⟩
theorem weak_fitsX {h : Heap} {l : List (Nat × Ent)} (hf : Fits h l) : WeakH h (ovl l h) := fun X env => weak_heap (ovl_sub h l hf)
/-- One row is turned. -/
theorem rowStep {P : Program} {N : Nat} {c : Code} {l l' : List (Nat × AV)} {C A K n vC b : Nat} {Ts : List Nat} {cs : List AV} {rows : List (List Int)} {r r' : List Int} {h : Heap}
    (kAC : A ≠ C) (kK : ∀ t, t < n → K + t ≠ C ∧ K + t ≠ A ∧ K + t ∉ Ts) (kT : C ∉ Ts ∧ A ∉ Ts) (hC : h C = ⟨vC, some (.arr 1 cs)⟩) (hR : RowsK K n h cs rows) (hb : b < n) (hr : rows[b]? = some r)
    (hseg : ∀ (cs1 : List AV) (vA : Nat) (rest : Heap), cs1[0 + b]? = some (.sl A vA 0 r.length 1) → cs1.length = n → ∃ (vA' : Nat) (tmp' : List (Nat × Ent)), tmp'.map (·.1) = Ts ∧
      ∀ X : Fix, X.P = P → X.N = N → AW X c ⟨envOf l, ovl ((C, ⟨vC, some (.arr 1 cs1)⟩) :: (A, ⟨vA, some (.arr 1 (r.map dI))⟩) :: verOnly rest Ts) rest⟩ fun e' S' => e' = .normal ∧ Weak X S' ⟨envOf l', ovl ((C, ⟨vC, some (.arr 1 (cs1.set (0 + b) (.sl A vA' 0 r'.length 1)))⟩) :: (A, ⟨vA', some (.arr 1 (r'.map dI))⟩) :: tmp') rest⟩) :
    ∃ h' cs', h' C = ⟨vC, some (.arr 1 cs')⟩ ∧ RowsK K n h' cs' (rows.set b r') ∧ (∀ k, k ≠ C → k ≠ A → k ≠ K + b → k ∉ Ts → h' k = h k) ∧
      ∀ X : Fix, X.P = P → X.N = N → AW X c ⟨envOf l, h⟩ fun e' S' => e' = .normal ∧ Weak X S' ⟨envOf l', h'⟩ := by
  obtain ⟨hcl, hrl, hRr⟩ := hR
  obtain ⟨cb, rb, hcb, hrb, hRb⟩ := hRr b hb
  rw [hr] at hrb
  cases hrb
  obtain ⟨vA, h1, w1, f1, c1, o1⟩ := focus (A := A) (kK b hb).2.1 (Ne.symm (kK b hb).1) (Ne.symm kAC) hC hcb hRb
  have hset : (cs.set b (.sl A vA 0 r.length 1))[0 + b]? = some (.sl A vA 0 r.length 1) := by rw [Nat.zero_add, List.getElem?_set_self (by omega)]
  have hfit : Fits h1 ((C, ⟨vC, some (.arr 1 (cs.set b (.sl A vA 0 r.length 1)))⟩) :: (A, ⟨vA, some (.arr 1 (r.map dI))⟩) :: verOnly h1 Ts) := by
    intro p hp
    simp only [List.mem_cons] at hp
    rcases hp with rfl | rfl | hp
    · exact ⟨by rw [c1], .inr (by rw [c1])⟩
    · exact ⟨by rw [f1], .inr (by rw [f1])⟩
    · exact verOnly_fits h1 Ts p hp
  obtain ⟨vA', tmp', ht, hs⟩ := hseg (cs.set b (.sl A vA 0 r.length 1)) vA h1 hset (by simpa using hcl)
  generalize hcs3 : (cs.set b (.sl A vA 0 r.length 1)).set (0 + b) (.sl A vA' 0 r'.length 1) = cs3 at hs
  have hcs3b : cs3[b]? = some (.sl A vA' 0 r'.length 1) := by rw [← hcs3, Nat.zero_add, List.getElem?_set_self (by simp; omega)]
  have hcs3o : ∀ t, t ≠ b → cs3[t]? = cs[t]? := fun t ht => by rw [← hcs3, Nat.zero_add, List.getElem?_set_ne (Ne.symm ht), List.getElem?_set_ne (Ne.symm ht)]
  have hcs3l : cs3.length = n := by rw [← hcs3]; simpa using hcl
  generalize hh3 : ovl ((C, ⟨vC, some (.arr 1 cs3)⟩) :: (A, ⟨vA', some (.arr 1 (r'.map dI))⟩) :: tmp') h1 = h3 at hs
  have e1 : h3 C = ⟨vC, some (.arr 1 cs3)⟩ := by rw [← hh3]; simp only [ovl, upd_same]
  have e2 : h3 A = ⟨vA', some (.arr 1 (r'.map dI))⟩ := by
    rw [← hh3]
    simp only [ovl]
    rw [upd_ne _ _ kAC, upd_same]
  have ho3 : ∀ k, k ≠ C → k ≠ A → k ∉ Ts → h3 k = h1 k := fun k k1 k2 k3 => by
    rw [← hh3]
    refine ovl_ne _ _ ?_
    simp only [List.map_cons, ht, List.mem_cons, not_or]
    exact ⟨k1, k2, k3⟩
  obtain ⟨y, h4, w4, r4, c4, _, o4⟩ := unfocus (A := A) (K := K + b) (a := b) (r := r') (Ne.symm (kK b hb).2.1) (Ne.symm (kK b hb).1) (Ne.symm kAC) e1 hcs3b e2
  refine ⟨h4, cs3.set b y, c4, ⟨by simpa using hcs3l, by simpa using hrl, fun t ht => ?_⟩, fun k k1 k2 k3 k4 => ?_, fun X hP hN => ?_⟩
  · by_cases htb : t = b
    · subst htb
      exact ⟨y, r', by rw [List.getElem?_set_self (by omega)], by rw [List.getElem?_set_self (by omega)], r4⟩
    · obtain ⟨c, r0, g1, g2, g3⟩ := hRr t ht
      refine ⟨c, r0, by rw [List.getElem?_set_ne (Ne.symm htb), hcs3o t htb]; exact g1, by rw [List.getElem?_set_ne (Ne.symm htb)]; exact g2, g3.congr ?_⟩
      have k1 := kK t ht
      rw [o4 _ k1.2.1 k1.1 (by omega), ho3 _ k1.1 k1.2.1 k1.2.2, o1 _ k1.2.1 k1.1 (by omega)]
  · rw [o4 _ k2 k1 k3, ho3 _ k1 k2 k4, o1 _ k2 k1 k3]
  · refine AW.weak ((w1.trans (weak_fitsX hfit)) X _) ((hs X hP hN).mono ?_)
    rintro e' S' ⟨he, hw⟩
    exact ⟨he, hw.trans (w4 X _)⟩
/-- All rows are read alone from here on. -/
theorem freezeK {K n C vC : Nat} {rows : List (List Int)} (hrl : rows.length = n) (kC : ∀ t, t < n → K + t ≠ C) : ∀ (m i : Nat) (h : Heap) (cs : List AV), n - i = m → i ≤ n → h C = ⟨vC, some (.arr 1 cs)⟩ → cs.length = n →
    (∀ t r, t < i → rows[t]? = some r → cs[t]? = some (.d (rowD r))) → (∀ t, i ≤ t → t < n → ∃ c r, cs[t]? = some c ∧ rows[t]? = some r ∧ RowAt h (K + t) c r) →
    ∃ h', WeakH h h' ∧ h' C = ⟨vC, some (.arr 1 (rows.map fun r => .d (rowD r)))⟩ ∧ ∀ k, k ≠ C → (∀ t, t < n → k ≠ K + t) → h' k = h k
  | 0, i, h, cs, hm, hi, hC, hl, hd, hr => by
    have hin : i = n := by omega
    subst hin
    refine ⟨h, WeakH.refl h, ?_, fun _ _ _ => rfl⟩
    rw [hC]
    congr 3
    apply List.ext_getElem?
    intro t
    rcases Nat.lt_or_ge t i with ht | ht
    · rw [hd t rows[t] ht (List.getElem?_eq_getElem (by omega)), List.getElem?_map, List.getElem?_eq_getElem (by omega)]
      rfl
    · rw [List.getElem?_eq_none (by omega), List.getElem?_eq_none (by simp; omega)]
  | m + 1, i, h, cs, hm, hi, hC, hl, hd, hr => by
    have hlt : i < n := by omega
    obtain ⟨c, r, h1, h2, h3⟩ := hr i (Nat.le_refl _) hlt
    obtain ⟨h', w, c', o⟩ := freezeRow (Ne.symm (kC i hlt)) hC h1 h3
    obtain ⟨h'', w2, c2, o2⟩ := freezeK hrl kC m (i + 1) h' (cs.set i (.d (.ro (r.map fun x => .int .i64 x)))) (by omega) (by omega) c' (by simpa using hl) (fun t q ht hq => by
      by_cases hti : t = i
      · subst hti
        rw [h2] at hq
        cases hq
        rw [List.getElem?_set_self (by omega)]
      · rw [List.getElem?_set_ne (Ne.symm hti)]
        exact hd t q (by omega) hq) (fun t ht htn => by
      obtain ⟨c0, r0, g1, g2, g3⟩ := hr t (by omega) htn
      exact ⟨c0, r0, by rw [List.getElem?_set_ne (by omega)]; exact g1, g2, g3.congr (o _ (kC t htn) (by omega))⟩)
    exact ⟨h'', w.trans w2, c2, fun k k1 k2 => (o2 k k1 k2).trans (o k k1 (k2 i hlt))⟩
theorem freezeRowsK {K n C vC : Nat} {rows : List (List Int)} {h : Heap} {cs : List AV} (kC : ∀ t, t < n → K + t ≠ C) (hC : h C = ⟨vC, some (.arr 1 cs)⟩) (hR : RowsK K n h cs rows) :
    ∃ h', WeakH h h' ∧ h' C = ⟨vC, some (.arr 1 (rows.map fun r => .d (rowD r)))⟩ ∧ ∀ k, k ≠ C → (∀ t, t < n → k ≠ K + t) → h' k = h k :=
  freezeK hR.2.1 kC n 0 h cs rfl (Nat.zero_le _) hC hR.1 (fun t _ ht => by omega) (fun t _ ht => hR.2.2 t ht)
end Go.Avm
