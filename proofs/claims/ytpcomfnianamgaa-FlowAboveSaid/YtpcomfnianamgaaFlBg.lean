/-
  Flow: the program's borders: each row sorted.
-/
import Derived.Test.YtpcomfnianamgaaFlBf
set_option linter.unusedSectionVars false
namespace Go.Avm
open Go.Proofs Go.Avm.Dom Go.RowKit

/-- Rows below t are data, the others grow. -/
structure SoH (n vC : Nat) (h : Heap) (rows : List (List Int)) (fin : Nat → List Int) (t : Nat) : Prop where
  ex : ∃ cs, h 974 = ⟨vC, some (.arr 1 cs)⟩ ∧ cs.length = n ∧ rows.length = n ∧ (∀ s, s < t → s < n → cs[s]? = some (.d (rowD (fin s)))) ∧ ∀ s, t ≤ s → s < n → ∃ c r, cs[s]? = some c ∧ rows[s]? = some r ∧ RowAt h (800000 + s) c r
theorem view_cut (h : Heap) (v : Nat) (r z : List Int) (hk : h 70 = ⟨v, some (.arr 1 ((r ++ z).map dI))⟩) : view 4 h (.sl 70 v 0 r.length 1) = some (rowD r, [70]) := by
  rw [view_sl, hk]
  simp only [List.drop_zero]
  rw [if_pos ⟨trivial, by simp⟩, List.map_append, List.take_left' (by simp), viewI 2 h r]
  rfl
theorem soStep (n vC t : Nat) (ht : t < n) (hnl : n < 100000) {h : Heap} {rows : List (List Int)} {fin : Nat → List Int} (hh : SoH n vC h rows fin t) (hrl : ∀ r ∈ rows, r.length < 1000000000) (hfin : ∀ r, rows[t]? = some r → Go.Lib.compact (sortZ r) = fin t) :
    ∃ h', SoH n vC h' rows fin (t + 1) ∧ ∀ X : Fix, X.P = Try.prog → X.N = 95 →
      AW X (loopOf Try.prog 50 21) ⟨envOf (bd21 n vC t), h⟩ fun e' S' => e' = .normal ∧ Weak X S' ⟨envOf (bd21 n vC (t + 1)), h'⟩ := by
  obtain ⟨cs, hC, hcl, hrows, hd, hr⟩ := hh.ex
  obtain ⟨c, r, hc, hrt, hRow⟩ := hr t (Nat.le_refl _) ht
  obtain ⟨vA, h1, w1, f1, c1, o1⟩ := focus (A := 70) (a := t) (K := 800000 + t) (C := 974) (by omega) (by omega) (by omega) hC hc hRow
  have hlen := hrl r (List.mem_of_getElem? hrt)
  have hcell : (cs.set t (.sl 70 vA 0 r.length 1))[0 + t]? = some (.sl 70 vA 0 r.length 1) := by rw [Nat.zero_add, List.getElem?_set_self (by omega)]
  have hov : ovl [(974, (⟨vC, some (.arr 1 (cs.set t (.sl 70 vA 0 r.length 1)))⟩ : Ent)), (70, ⟨vA, some (.arr 1 (r.map dI))⟩)] h1 = h1 := At.ovl fun p hp => by
    simp only [List.mem_cons, List.not_mem_nil, or_false] at hp
    rcases hp with rfl | rfl
    · exact c1
    · exact f1
  have hfr := hfin r hrt
  generalize hcs3 : (cs.set t (.sl 70 vA 0 r.length 1)).set (0 + t) (.sl 70 vA 0 (Go.Lib.compact (sortZ r)).length 1) = cs3
  generalize hh3 : ovl [(974, (⟨vC, some (.arr 1 cs3)⟩ : Ent)), (70, ⟨vA, some (.arr 1 ((compZ (sortZ r)).map dI))⟩)] h1 = h3
  have e1 : h3 974 = ⟨vC, some (.arr 1 cs3)⟩ := by rw [← hh3]; simp [ovl, upd]
  have e2 : h3 70 = ⟨vA, some (.arr 1 ((compZ (sortZ r)).map dI))⟩ := by rw [← hh3]; simp [ovl, upd]
  have e3 : ∀ k, k ≠ 974 → k ≠ 70 → h3 k = h1 k := fun k k1 k2 => by rw [← hh3]; simp [ovl, upd, k1, k2]
  have hcs3t : cs3[t]? = some (.sl 70 vA 0 (Go.Lib.compact (sortZ r)).length 1) := by rw [← hcs3, Nat.zero_add, List.getElem?_set_self (by simp; omega)]
  have hcs3o : ∀ s, s ≠ t → cs3[s]? = cs[s]? := fun s hs => by rw [← hcs3, Nat.zero_add, List.getElem?_set_ne (Ne.symm hs), List.getElem?_set_ne (Ne.symm hs)]
  have hcs3l : cs3.length = n := by rw [← hcs3]; simpa using hcl
  have hview := view_cut h3 vA (Go.Lib.compact (sortZ r)) _ e2
  refine ⟨upd (updAll h3 (kill h3 [70])) 974 ⟨(h3 974).ver, some (.arr 1 (cs3.set t (.d (rowD (Go.Lib.compact (sortZ r))))))⟩, ?_, fun X hP hN => AW.weak (w1 X _) ?_⟩
  rotate_left
  · have hs := bdSort n vC t ht hnl (cs.set t (.sl 70 vA 0 r.length 1)) vA r hcell hlen h1 X hP hN
    rw [hov, hcs3, hh3] at hs
    exact hs.mono fun e' S' hx => ⟨hx.1, hx.2.trans (weak_freeze (C := 974) (a := t) (by simp) (by rw [e1]) hcs3t rfl hview)⟩
  · refine ⟨cs3.set t (.d (rowD (Go.Lib.compact (sortZ r)))), ?_, by simpa using hcs3l, hrows, fun s hs hsn => ?_, fun s hs hsn => ?_⟩
    · rw [upd_same, e1]
    · by_cases e : s = t
      · subst e
        rw [List.getElem?_set_self (by omega), hfr]
      · rw [List.getElem?_set_ne (Ne.symm e), hcs3o s e]
        exact hd s (by omega) hsn
    · obtain ⟨c', r', g1, g2, g3⟩ := hr s (by omega) hsn
      refine ⟨c', r', by rw [List.getElem?_set_ne (by omega), hcs3o s (by omega)]; exact g1, g2, g3.congr ?_⟩
      rw [upd_ne _ _ (by omega), updAll_kill, if_neg (by simp; omega), e3 _ (by omega) (by omega), o1 _ (by omega) (by omega) (by omega)]
theorem soLoop (n vC : Nat) (hnl : n < 100000) {rows : List (List Int)} {fin : Nat → List Int} (hrl : ∀ r ∈ rows, r.length < 1000000000) (hfin : ∀ t r, rows[t]? = some r → Go.Lib.compact (sortZ r) = fin t) : ∀ (m t : Nat) (h : Heap), n - t = m → t ≤ n → SoH n vC h rows fin t →
    ∃ h', h' 974 = ⟨vC, some (.arr 1 (((List.range n).map fun s => rowD (fin s)).map .d))⟩ ∧ ∀ X : Fix, X.P = Try.prog → X.N = 95 → LW X (loopOf Try.prog 50 21) ⟨envOf (bd21 n vC t), h⟩ fun e' S' => e' = .exit 6 ∧ S' = ⟨envOf [(6, .sl 974 vC 0 n 1)], h'⟩
  | 0, t, h, hm, ht, hh => by
    have : t = n := by omega
    subst this
    obtain ⟨cs, hC, hcl, _, hd, _⟩ := hh.ex
    refine ⟨h, ?_, fun X hP hN => lw_end (bd21Stop t vC h X hP hN) (by simp)⟩
    rw [hC]
    congr 3
    apply List.ext_getElem?
    intro s
    rcases Nat.lt_or_ge s t with hs | hs
    · rw [hd s hs hs]
      simp [hs]
    · rw [List.getElem?_eq_none (by omega), List.getElem?_eq_none (by simpa using hs)]
  | m + 1, t, h, hm, ht, hh => by
    obtain ⟨h1, hh1, hs⟩ := soStep n vC t (by omega) hnl hh hrl (hfin t)
    obtain ⟨h', e, hl⟩ := soLoop n vC hnl hrl hfin m (t + 1) h1 (by omega) (by omega) hh1
    exact ⟨h', e, fun X hP hN => lw_seg (hs X hP hN) (hl X hP hN)⟩
end Go.Avm
