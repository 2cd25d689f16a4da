/-
  Flow: the program's borders: the walks.
-/
import Derived.Test.YtpcomfnianamgaaFlAc
import Derived.Test.YtpcomfnianamgaaFlTwo
set_option linter.unusedSectionVars false
namespace Go.Avm
open Go.Proofs Go.Avm.Dom

def bd8 (up : List Int) (F : Graph) (ord : List Nat) (n vC i : Nat) : List (Nat × AV) := [(5, .d (rowD up)), (6, .sl 974 vC 0 n 1), (7, .d (rowsN F)), (28, .d (.ro (intsN ord))), (29, dN ord.length), (30, dN i)]
def bd11 (up : List Int) (F : Graph) (ord : List Nat) (n vC i b : Nat) (row : List Nat) (k : Nat) : List (Nat × AV) := bd8 up F ord n vC i ++ [(9, dN b), (37, .d (rowN row)), (38, dN row.length), (39, dN k)]
def bd15 (up : List Int) (F : Graph) (ord : List Nat) (n vC i b : Nat) (row : List Nat) (k : Nat) (c : Int) : List (Nat × AV) := bd11 up F ord n vC i b row k ++ [(12, dI c)]
section
variable (up : List Int) (F : Graph) (ord : List Nat) (n vC i b : Nat) (row : List Nat) (k c : Nat) (ub u : Int)
theorem bdStep (hc : c < n) (hub : up[b]? = some ub) (hne : (!((c : Int) == ub)) = true) (hu : up[c]? = some u) (cs : List AV) (vA w : Nat) (r : List Int) (hcell : cs[0 + c]? = some (.sl 70 vA 0 r.length 1)) (hrl : r.length < 1000000000) (rest : Heap) (X : Fix) (hP : X.P = Try.prog) (hN : X.N = 95) :
    AW X (loopOf Try.prog 50 15) ⟨envOf (bd15 up F ord n vC i b row k (c : Int)), ovl [(974, ⟨vC, some (.arr 1 cs)⟩), (70, ⟨vA, some (.arr 1 (r.map dI))⟩), (501689, ⟨w, none⟩)] rest⟩ fun e' S' => e' = .normal ∧ Weak X S' ⟨envOf (bd15 up F ord n vC i b row k u), ovl [(974, ⟨vC, some (.arr 1 (cs.set (0 + c) (.sl 70 (vA + 1) 0 (r ++ [(b : Int)]).length 1)))⟩), (70, ⟨vA + 1, some (.arr 1 ((r ++ [(b : Int)]).map dI))⟩), (501689, ⟨w + 1, none⟩)] rest⟩ := by
  rw [← dI_app, List.length_append]
  exact seg okP named { hint := tabH Try.prog [(50, 59, hIx Try.prog up b ub hub), (50, 61, hNeq Try.prog (c : Int) ub true hne), (50, 71, hInb Try.prog c n hc), (50, 72, .elt cs (0 + c) _ hcell), (50, 75, .apps (r.map dI) r.length 1 ⟨by simp, by omega⟩), (50, 76, hInb Try.prog c n hc), (50, 117010, .elt cs (0 + c) _ hcell), (50, 65, hIx Try.prog up c u hu)] } 2000 50 500000 95 (by kernel_rfl) X hP hN
theorem bdTop (rest : Heap) (X : Fix) (hP : X.P = Try.prog) (hN : X.N = 95) :
    AW X (loopOf Try.prog 50 15) ⟨envOf (bd15 up F ord n vC i b row k (-1)), ovl [] rest⟩ fun e' S' => e' = .exit 4 ∧ Weak X S' ⟨envOf (bd11 up F ord n vC i b row k), ovl [] rest⟩ :=
  seg okP named { hint := tabH Try.prog [] } 2000 50 500000 95 (by kernel_rfl) X hP hN
theorem bdMet (hub : up[b]? = some ub) (heq : (!((c : Int) == ub)) = false) (rest : Heap) (X : Fix) (hP : X.P = Try.prog) (hN : X.N = 95) :
    AW X (loopOf Try.prog 50 15) ⟨envOf (bd15 up F ord n vC i b row k (c : Int)), ovl [] rest⟩ fun e' S' => e' = .exit 4 ∧ Weak X S' ⟨envOf (bd11 up F ord n vC i b row k), ovl [] rest⟩ :=
  seg okP named { hint := tabH Try.prog [(50, 59, hIx Try.prog up b ub hub), (50, 61, hNeq Try.prog (c : Int) ub false heq)] } 2000 50 500000 95 (by kernel_rfl) X hP hN
/-! One that goes on to b -/
theorem bdFar (p : Nat) (hk : k < row.length) (hrl : row.length < 100000) (hp : row[k]? = some p) (h0 : p ≠ 0) (hu : up[p]? = some (-1)) (rest : Heap) (X : Fix) (hP : X.P = Try.prog) (hN : X.N = 95) :
    AW X (loopOf Try.prog 50 11) ⟨envOf (bd11 up F ord n vC i b row k), ovl [] rest⟩ fun e' S' => e' = .normal ∧ Weak X S' ⟨envOf (bd11 up F ord n vC i b row (k + 1)), ovl [] rest⟩ :=
  seg okP named { hint := tabH Try.prog [(50, 40, hLt Try.prog k row.length true (by simpa using hk)), (50, 41, hIxN Try.prog row k p hp), (50, 44, hNeq Try.prog (p : Int) 0 true (by rw [beq_eq_false_iff_ne.2 (by omega)]; rfl)), (50, 48, hIx Try.prog up p (-1) hu), (50, 77, hSucc Try.prog k (by omega))] } 2000 50 500000 95 (by kernel_rfl) X hP hN
variable (h h' : Heap)
theorem bdRoot (p : Nat) (hk : k < row.length) (hrl : row.length < 100000) (hp : row[k]? = some p) (h0 : p = 0)
    (hl : ∀ X : Fix, X.P = Try.prog → X.N = 95 → LW X (loopOf Try.prog 50 15) ⟨envOf (bd15 up F ord n vC i b row k (p : Int)), h⟩ fun e' S' => e' = .exit 4 ∧ S' = ⟨envOf (bd11 up F ord n vC i b row k), h'⟩) (X : Fix) (hP : X.P = Try.prog) (hN : X.N = 95) :
    AW X (loopOf Try.prog 50 11) ⟨envOf (bd11 up F ord n vC i b row k), h⟩ fun e' S' => e' = .normal ∧ Weak X S' ⟨envOf (bd11 up F ord n vC i b row (k + 1)), h'⟩ :=
  segZ okP named { hint := tabH Try.prog [(50, 40, hLt Try.prog k row.length true (by simpa using hk)), (50, 41, hIxN Try.prog row k p hp), (50, 44, hNeq Try.prog (p : Int) 0 false (by simp [h0])), (50, 77, hSucc Try.prog k (by omega))] } ({ loops := fun q => if q = 15 then some ⟨95, loopOf Try.prog 50 15, bd15 up F ord n vC i b row k (p : Int), h, .exit 4, bd11 up F ord n vC i b row k, h', fun X hP hN => (hl X hP hN).aw.mono fun e' S' hh => ⟨hh.1, hh.2 ▸ Weak.refl _⟩⟩ else none }) 2000 50 500000 95 (by kernel_rfl) X hP hN
theorem bdNear (p : Nat) (hk : k < row.length) (hrl : row.length < 100000) (hp : row[k]? = some p) (h0 : p ≠ 0) (hu : up[p]? = some u) (hu0 : 0 ≤ u)
    (hl : ∀ X : Fix, X.P = Try.prog → X.N = 95 → LW X (loopOf Try.prog 50 15) ⟨envOf (bd15 up F ord n vC i b row k (p : Int)), h⟩ fun e' S' => e' = .exit 4 ∧ S' = ⟨envOf (bd11 up F ord n vC i b row k), h'⟩) (X : Fix) (hP : X.P = Try.prog) (hN : X.N = 95) :
    AW X (loopOf Try.prog 50 11) ⟨envOf (bd11 up F ord n vC i b row k), h⟩ fun e' S' => e' = .normal ∧ Weak X S' ⟨envOf (bd11 up F ord n vC i b row (k + 1)), h'⟩ :=
  segZ okP named { hint := tabH Try.prog [(50, 40, hLt Try.prog k row.length true (by simpa using hk)), (50, 41, hIxN Try.prog row k p hp), (50, 44, hNeq Try.prog (p : Int) 0 true (by rw [beq_eq_false_iff_ne.2 (by omega)]; rfl)), (50, 48, hIx Try.prog up p u hu), (50, 50, hB Try.prog (decide (u < 0)) false (dec_false (by omega))), (50, 77, hSucc Try.prog k (by omega))] } ({ loops := fun q => if q = 15 then some ⟨95, loopOf Try.prog 50 15, bd15 up F ord n vC i b row k (p : Int), h, .exit 4, bd11 up F ord n vC i b row k, h', fun X hP hN => (hl X hP hN).aw.mono fun e' S' hh => ⟨hh.1, hh.2 ▸ Weak.refl _⟩⟩ else none }) 2000 50 500000 95 (by kernel_rfl) X hP hN
theorem bd11Stop (X : Fix) (hP : X.P = Try.prog) (hN : X.N = 95) :
    AW X (loopOf Try.prog 50 11) ⟨envOf (bd11 up F ord n vC i b row row.length), h⟩ fun e' S' => e' = .exit 2 ∧ Weak X S' ⟨envOf (bd8 up F ord n vC i), h⟩ :=
  segZ okP named { hint := tabH Try.prog [(50, 40, hLt Try.prog row.length row.length false (by simp))] } ({}) 2000 50 500000 95 (by kernel_rfl) X hP hN
theorem bd8Round (hi : i < ord.length) (hol : ord.length < 100000) (ho : (intsN ord)[i]? = some (.int .i64 (b : Int))) (hr : F[b]? = some row)
    (hl : ∀ X : Fix, X.P = Try.prog → X.N = 95 → LW X (loopOf Try.prog 50 11) ⟨envOf (bd11 up F ord n vC i b row 0), h⟩ fun e' S' => e' = .exit 2 ∧ S' = ⟨envOf (bd8 up F ord n vC i), h'⟩) (X : Fix) (hP : X.P = Try.prog) (hN : X.N = 95) :
    AW X (loopOf Try.prog 50 8) ⟨envOf (bd8 up F ord n vC i), h⟩ fun e' S' => e' = .normal ∧ Weak X S' ⟨envOf (bd8 up F ord n vC (i + 1)), h'⟩ :=
  segZ okP named { hint := tabH Try.prog [(50, 31, hLt Try.prog i ord.length true (by simpa using hi)), (50, 32, .idx (intsN ord) ((i : Nat) : Int) (.int .i64 (b : Int)) (by omega) ho), (50, 36, hIxG Try.prog F b row hr), (50, 38, hLenN Try.prog row), (50, 78, hSucc Try.prog i (by omega))] } ({ loops := fun q => if q = 11 then some ⟨95, loopOf Try.prog 50 11, bd11 up F ord n vC i b row 0, h, .exit 2, bd8 up F ord n vC i, h', fun X hP hN => (hl X hP hN).aw.mono fun e' S' hh => ⟨hh.1, hh.2 ▸ Weak.refl _⟩⟩ else none }) 2000 50 500000 95 (by kernel_rfl) X hP hN
theorem bd8Stop (X : Fix) (hP : X.P = Try.prog) (hN : X.N = 95) :
    AW X (loopOf Try.prog 50 8) ⟨envOf (bd8 up F ord n vC ord.length), h⟩ fun e' S' => e' = .exit 0 ∧ Weak X S' ⟨envOf [(6, .sl 974 vC 0 n 1)], h⟩ :=
  segZ okP named { hint := tabH Try.prog [(50, 31, hLt Try.prog ord.length ord.length false (by simp))] } ({}) 2000 50 500000 95 (by kernel_rfl) X hP hN
/-! Sorting a row, and striking what is there twice -/
def bd21 (n vC t : Nat) : List (Nat × AV) := [(6, .sl 974 vC 0 n 1), (79, .sl 974 vC 0 n 1), (80, dN n), (81, dN t)]
theorem sortNil70 (v : Nat) (rest : Heap) : HCall Try.prog 79 [.sl 70 v 0 0 1] (ovl [(70, ⟨v, some (.arr 1 [])⟩)] rest) [] (ovl [(70, ⟨v, some (.arr 1 [])⟩)] rest) :=
  hcall_of_run okP named { hint := tabH Try.prog [] } 2000 800000 _ (by kernel_rfl)
theorem bdSort (t : Nat) (ht : t < n) (hnl : n < 100000) (cs : List AV) (vA : Nat) (r : List Int) (hcell : cs[0 + t]? = some (.sl 70 vA 0 r.length 1)) (hrl : r.length < 1000000000) (rest : Heap) (X : Fix) (hP : X.P = Try.prog) (hN : X.N = 95) :
    AW X (loopOf Try.prog 50 21) ⟨envOf (bd21 n vC t), ovl [(974, ⟨vC, some (.arr 1 cs)⟩), (70, ⟨vA, some (.arr 1 (r.map dI))⟩)] rest⟩ fun e' S' => e' = .normal ∧ Weak X S' ⟨envOf (bd21 n vC (t + 1)), ovl [(974, ⟨vC, some (.arr 1 (cs.set (0 + t) (.sl 70 vA 0 (Go.Lib.compact (sortZ r)).length 1)))⟩), (70, ⟨vA, some (.arr 1 ((compZ (sortZ r)).map dI))⟩)] rest⟩ := by
  have hsl : (sortZ r).length = r.length := by simp [sortZ]
  have hc1 : ∀ rest : Heap, HCall Try.prog 79 [.sl 70 vA 0 r.length 1] (ovl [(70, ⟨vA, some (.arr 1 (r.map dI))⟩)] rest) [] (ovl [(70, ⟨vA, some (.arr 1 ((sortZ r).map dI))⟩)] rest) := fun rest => by
    by_cases hne : r = []
    · subst hne
      have e : sortZ [] = [] := by simp [sortZ]
      rw [e]
      exact sortNil70 vA rest
    have h1 := sortC (k := 70) (v := vA) hne hrl (h := ovl [(70, ⟨vA, some (.arr 1 (r.map dI))⟩)] rest) (by simp [ovl, upd])
    have e : upd (ovl [(70, ⟨vA, some (.arr 1 (r.map dI))⟩)] rest) 70 ⟨vA, some (.arr 1 ((sortZ r).map dI))⟩ = ovl [(70, ⟨vA, some (.arr 1 ((sortZ r).map dI))⟩)] rest := by
      funext k
      simp only [ovl, upd]
      split <;> rfl
    rw [e] at h1
    exact h1
  have hc2 : ∀ rest : Heap, HCall Try.prog 81 [.sl 70 vA 0 r.length 1] (ovl [(70, ⟨vA, some (.arr 1 ((sortZ r).map dI))⟩)] rest) [.sl 70 vA 0 (Go.Lib.compact (sortZ r)).length 1] (ovl [(70, ⟨vA, some (.arr 1 ((compZ (sortZ r)).map dI))⟩)] rest) := fun rest => by
    have h1 := compC (k := 70) (v := vA) (zs := sortZ r) (by rw [hsl]; exact hrl) (h := ovl [(70, ⟨vA, some (.arr 1 ((sortZ r).map dI))⟩)] rest) (by simp [ovl, upd])
    rw [hsl] at h1
    have e : upd (ovl [(70, ⟨vA, some (.arr 1 ((sortZ r).map dI))⟩)] rest) 70 ⟨vA, some (.arr 1 ((compZ (sortZ r)).map dI))⟩ = ovl [(70, ⟨vA, some (.arr 1 ((compZ (sortZ r)).map dI))⟩)] rest := by
      funext k
      simp only [ovl, upd]
      split <;> rfl
    rw [e] at h1
    exact h1
  exact seg okP named { calls := fun f s _ => if f = 50 then (if s = 87 then some ⟨79, _, _, _, _, fits_of hc1⟩ else if s = 91 then some ⟨81, _, _, _, _, fits_of hc2⟩ else none) else none, hint := tabH Try.prog [(50, 82, hLt Try.prog t n true (by simpa using ht)), (50, 84, hInb Try.prog t n ht), (50, 85, .elt cs (0 + t) _ hcell), (50, 92, hInb Try.prog t n ht), (50, 124005, .elt cs (0 + t) _ hcell), (50, 93, hSucc Try.prog t (by omega))] } 2000 50 500000 95 (by kernel_rfl) X hP hN
theorem bd21Stop (X : Fix) (hP : X.P = Try.prog) (hN : X.N = 95) :
    AW X (loopOf Try.prog 50 21) ⟨envOf (bd21 n vC n), h⟩ fun e' S' => e' = .exit 6 ∧ Weak X S' ⟨envOf [(6, .sl 974 vC 0 n 1)], h⟩ :=
  segZ okP named { hint := tabH Try.prog [(50, 82, hLt Try.prog n n false (by simp))] } ({}) 2000 50 500000 95 (by kernel_rfl) X hP hN
end
/-! ### What a row becomes -/
theorem compact_sorted {zs : List Int} (hs : zs.Pairwise (· ≤ ·)) : (Go.Lib.compact zs).Pairwise (· < ·) := by
  have hle : ∀ i j : Nat, i ≤ j → (hj : j < zs.length) → zs.toArray[i]! ≤ zs.toArray[j]! := fun i j hij hj => by
    have hi : i < zs.length := by omega
    rcases Nat.lt_or_eq_of_le hij with h | h
    · have := List.pairwise_iff_getElem.1 hs i j hi hj h
      simpa [getElem!_pos, hi, hj] using this
    · subst h; exact Int.le_refl _
  unfold Go.Lib.compact Go.Lib.compactUpTo
  rw [List.pairwise_map]
  refine List.Pairwise.imp_of_mem (R := fun i j : Nat => i < j) (fun {i j} hi hj hij => ?_) (List.pairwise_lt_range.filter _)
  have h2 := List.mem_filter.1 hj
  have hjl : j < zs.length := List.mem_range.1 h2.1
  have hne : zs.toArray[j]! ≠ zs.toArray[j - 1]! := fun e => by
    have := h2.2
    rw [Go.Lib.keeps_neg (by omega) e] at this
    cases this
  have h3 := hle i (j - 1) (by omega) (by omega)
  have h4 := hle (j - 1) j (by omega) hjl
  exact Int.lt_of_le_of_lt h3 (Int.lt_iff_le_and_ne.2 ⟨h4, fun e => hne e.symm⟩)
theorem compact_is {zs : List Int} {n : Nat} {p : Nat → Bool} (hm : ∀ x, x ∈ zs ↔ ∃ v : Nat, x = (v : Int) ∧ v < n ∧ p v = true) : Go.Lib.compact (sortZ zs) = natR ((List.range n).filter p) := by
  have hs : (sortZ zs).Pairwise (· ≤ ·) := (List.pairwise_mergeSort (le := fun x y : Int => decide (x ≤ y)) (fun a b c h1 h2 => by simp at *; omega) (fun a b => by simp; omega) _).imp fun h => by simpa using h
  have hc := compact_sorted hs
  have hr : (natR ((List.range n).filter p)).Pairwise (· < ·) := by
    rw [List.pairwise_map]
    exact (List.pairwise_lt_range.filter _).imp fun h => by omega
  have hmem : ∀ x, x ∈ Go.Lib.compact (sortZ zs) ↔ x ∈ natR ((List.range n).filter p) := fun x => by
    rw [mem_compact, show (x ∈ sortZ zs ↔ _) from (List.mergeSort_perm zs _).mem_iff, hm]
    simp only [List.mem_map, List.mem_filter, List.mem_range]
    constructor
    · rintro ⟨v, rfl, h1, h2⟩; exact ⟨v, ⟨h1, h2⟩, rfl⟩
    · rintro ⟨v, ⟨h1, h2⟩, rfl⟩; exact ⟨v, rfl, h1, h2⟩
  have hp := (List.perm_ext_iff_of_nodup (hc.imp fun h => Int.ne_of_lt h) (hr.imp fun h => Int.ne_of_lt h)).2 hmem
  exact List.Perm.eq_of_pairwise (le := fun a b => a < b) (fun a b _ _ h1 h2 => absurd h1 (by omega)) hc hr hp
end Go.Avm
