/-
  PaintPaints: the walk.
-/
import Derived.Test.YtpcomfnianamgaaPf0
set_option linter.unusedSectionVars false
namespace Go.Avm
open Go.Proofs

/-! ### So many pairs as colours -/
theorem nrPair_le1 (c : List Int) (i : Int) (s : List Bool × Nat) (p : Int × Int) : (nrPair c i s p).2 ≤ s.2 + 1 := by
  have h : ∀ (s : List Bool × Nat) a b, (nrSee c i s a b).2 ≤ s.2 + 1 := fun s a b => by
    unfold nrSee
    split <;> simp
  have hno : ∀ (s : List Bool × Nat) a b, ¬ (a = i ∧ b ≠ i) → nrSee c i s a b = s := fun s a b hn => by
    unfold nrSee
    rw [if_neg]
    unfold nrHit
    intro hh
    simp only [Bool.and_eq_true, beq_iff_eq, bne_iff_ne, ne_eq] at hh
    exact hn ⟨hh.1.1.1, hh.1.1.2⟩
  unfold nrPair
  by_cases h1 : p.1 = i ∧ p.2 ≠ i
  · rw [hno _ p.2 p.1 (fun h2 => h1.2 h2.1)]
    exact h s p.1 p.2
  · rw [hno s p.1 p.2 h1]
    exact h s p.2 p.1
theorem nearF_le (ps : List (Int × Int)) (c : List Int) (i : Int) : nearF ps c i ≤ ps.length := by
  have : ∀ (l : List (Int × Int)) (s : List Bool × Nat), (l.foldl (nrPair c i) s).2 ≤ s.2 + l.length := by
    intro l
    induction l with
    | nil => intro s; exact Nat.le_refl _
    | cons p l ih =>
      intro s
      rw [List.foldl_cons]
      have h1 := ih (nrPair c i s p)
      have h2 := nrPair_le1 c i s p
      simp only [List.length_cons]
      omega
  have h := this ps (List.replicate 17 false, 0)
  unfold nearF
  simp only at h
  omega
theorem many_pairs {n K : Nat} {ps : List (Int × Int)} {c : List Int} (h : Painted n K ps c) (hK : K ≤ 16) {x : Int} (hx : x ∈ c) (hneg : x < 0) : K ≤ ps.length := by
  obtain ⟨i, hi, rfl⟩ := List.getElem_of_mem hx
  have hlen := h.len
  have := near_ge (ps := ps) (c := c) (i := (i : Int)) hK (h.full (i : Int) (by omega) (by simp; omega) (by rw [Int.toNat_natCast, List.getElem?_eq_getElem hi]; exact hneg))
  exact Nat.le_trans this (nearF_le ps c i)
/-- How many have no colour. -/
def negF (c : List Int) (j : Nat) : Nat := (c.take j).countP (fun x => decide (x < 0))
theorem negF_succ {c : List Int} {j : Nat} (h : j < c.length) : negF c (j + 1) = negF c j + (if c[j] < 0 then 1 else 0) := by
  rw [negF, List.take_succ_eq_append_getElem h, List.countP_append]
  simp [negF]

/-! ### The walk -/
def p1L (n k : Int) (P L : List (Int × Int)) (c : D) (e : Int) (i : Nat) : List (Nat × AV) := [(0, dI n), (1, .d (pairsD P)), (2, .d (pairsD L)), (3, dI k), (9, .d (pairsD P)), (11, .d c), (12, dI e), (44, .d (pairsD P)), (45, dN P.length), (46, dN i)]
def p0L (n k : Int) (P L : List (Int × Int)) (c : D) (e : Int) : List (Nat × AV) := [(0, dI n), (1, .d (pairsD P)), (2, .d (pairsD L)), (3, dI k), (11, .d c), (12, dI e)]
section
variable (n k : Int) (P L : List (Int × Int)) (c : D) (e : Int) (i : Nat) (x y : Int)
theorem p1Round (hi : i < P.length) (hs : i < 9223372036854775807) (hp : P[i] = (x, y)) (rest : Heap) (X : Fix) (hP : X.P = Try.prog) (hN : X.N = 118) :
    AW X (loopOf Try.prog 6 9) ⟨envOf (p1L n k P L c e i), ovl [] rest⟩ fun e' S' => e' = .normal ∧ Weak X S' ⟨envOf (p1L n k P L c e (i + 1)), ovl [] rest⟩ :=
  seg okP named { hint := fun f s => if f = 6 then (if s = 47 then some (hLt Try.prog i P.length true (by simpa using hi)) else if s = 51 ∨ s = 55 then some (.idx (P.map pairD) ((i : Nat) : Int) (pairD (x, y)) (by omega) (by rw [← hp]; exact getP hi))
    else if s = 57 then some (.val (dB (!((x == x) && ((y == y) && true)))) (dB false) (by simp)) else if s = 58 then some (hSucc Try.prog i hs) else none) else none } 1000 6 500000 118 (by kernel_rfl) X hP hN
theorem p1Stop (rest : Heap) (X : Fix) (hP : X.P = Try.prog) (hN : X.N = 118) :
    AW X (loopOf Try.prog 6 9) ⟨envOf (p1L n k P L c e P.length), ovl [] rest⟩ fun e' S' => e' = .exit 0 ∧ Weak X S' ⟨envOf (p0L n k P L c e), ovl [] rest⟩ :=
  seg okP named { hint := fun f s => if f = 6 then (if s = 47 then some (hLt Try.prog P.length P.length false (by simp)) else none) else none } 1000 6 500000 118 (by kernel_rfl) X hP hN
end
theorem p1Loop (n k : Int) (P L : List (Int × Int)) (c : D) (e : Int) (hl : P.length < 1000000) (rest : Heap) (X : Fix) (hP : X.P = Try.prog) (hN : X.N = 118) :
    AW X (.loop (loopOf Try.prog 6 9)) ⟨envOf (p1L n k P L c e 0), ovl [] rest⟩ fun e' S' => e' = .exit 0 ∧ S' = ⟨envOf (p0L n k P L c e), ovl [] rest⟩ := by
  refine loop_of_segs (P := Try.prog) (N := 118) (c := loopOf Try.prog 6 9) (fun i => p1L n k P L c e i) (fun _ _ => []) (fun i => i ≤ P.length) (fun i => P.length - i) (.exit 0) _ (fun _ => []) 0 (Nat.zero_le _) (by simp) (fun rest i hi => ?_) rest X hP hN
  rcases Nat.lt_or_ge i P.length with h | h
  · exact .inl ⟨i + 1, h, by omega, fun X hP hN => p1Round n k P L c e i P[i].1 P[i].2 h (by omega) rfl rest X hP hN⟩
  · have : i = P.length := by omega
    subst this
    exact .inr fun X hP hN => p1Stop n k P L c e rest X hP hN
def p2L (n k : Int) (P : List (Int × Int)) (c : List Int) (m j : Nat) : List (Nat × AV) := [(0, dI n), (1, .d (pairsD P)), (3, dI k), (11, .d (cD c)), (12, dI 0), (15, dN m), (76, .d (cD c)), (77, dN c.length), (78, dN j)]
def p3L (n k : Int) (P : List (Int × Int)) (c : List Int) (m : Nat) : List (Nat × AV) := [(0, dI n), (1, .d (pairsD P)), (3, dI k), (11, .d (cD c)), (12, dI 0), (15, dN m)]
section
variable (n k : Int) (P : List (Int × Int)) (c : List Int) (m j : Nat) (z : Int)
theorem p2Neg (hj : j < c.length) (hs : j < 9223372036854775807) (hz : c[j] = z) (h0 : decide (z < 0) = true) (hm : m < 1000000) (rest : Heap) (X : Fix) (hP : X.P = Try.prog) (hN : X.N = 118) :
    AW X (loopOf Try.prog 6 20) ⟨envOf (p2L n k P c m j), ovl [] rest⟩ fun e' S' => e' = .normal ∧ Weak X S' ⟨envOf (p2L n k P c (m + 1) (j + 1)), ovl [] rest⟩ :=
  seg okP named { hint := fun f s => if f = 6 then (if s = 79 then some (hLt Try.prog j c.length true (by simpa using hj)) else if s = 80 then some (.idx (c.map fun z => D.int .i64 z) ((j : Nat) : Int) (.int .i64 z) (by omega) (by rw [← hz]; exact getCN hj)) else if s = 83 then some (.val (dB (decide (z < 0))) (dB true) (by rw [h0]))
    else if s = 85 then some (hSucc Try.prog m (by omega)) else if s = 86 then some (hSucc Try.prog j hs) else none) else none } 1000 6 500000 118 (by kernel_rfl) X hP hN
theorem p2Pos (hj : j < c.length) (hs : j < 9223372036854775807) (hz : c[j] = z) (h0 : decide (z < 0) = false) (rest : Heap) (X : Fix) (hP : X.P = Try.prog) (hN : X.N = 118) :
    AW X (loopOf Try.prog 6 20) ⟨envOf (p2L n k P c m j), ovl [] rest⟩ fun e' S' => e' = .normal ∧ Weak X S' ⟨envOf (p2L n k P c m (j + 1)), ovl [] rest⟩ :=
  seg okP named { hint := fun f s => if f = 6 then (if s = 79 then some (hLt Try.prog j c.length true (by simpa using hj)) else if s = 80 then some (.idx (c.map fun z => D.int .i64 z) ((j : Nat) : Int) (.int .i64 z) (by omega) (by rw [← hz]; exact getCN hj)) else if s = 83 then some (.val (dB (decide (z < 0))) (dB false) (by rw [h0]))
    else if s = 86 then some (hSucc Try.prog j hs) else none) else none } 1000 6 500000 118 (by kernel_rfl) X hP hN
theorem p2Stop (rest : Heap) (X : Fix) (hP : X.P = Try.prog) (hN : X.N = 118) :
    AW X (loopOf Try.prog 6 20) ⟨envOf (p2L n k P c m c.length), ovl [] rest⟩ fun e' S' => e' = .exit 2 ∧ Weak X S' ⟨envOf (p3L n k P c m), ovl [] rest⟩ :=
  seg okP named { hint := fun f s => if f = 6 then (if s = 79 then some (hLt Try.prog c.length c.length false (by simp)) else none) else none } 1000 6 500000 118 (by kernel_rfl) X hP hN
end
theorem p2Loop (n k : Int) (P : List (Int × Int)) (c : List Int) (hl : c.length < 100000) (rest : Heap) (X : Fix) (hP : X.P = Try.prog) (hN : X.N = 118) :
    AW X (.loop (loopOf Try.prog 6 20)) ⟨envOf (p2L n k P c 0 0), ovl [] rest⟩ fun e' S' => e' = .exit 2 ∧ S' = ⟨envOf (p3L n k P c (negF c c.length)), ovl [] rest⟩ := by
  refine loop_of_segs (P := Try.prog) (N := 118) (c := loopOf Try.prog 6 20) (fun j => p2L n k P c (negF c j) j) (fun _ _ => []) (fun j => j ≤ c.length) (fun j => c.length - j) (.exit 2) _ (fun _ => []) 0 (Nat.zero_le _) (by simp) (fun rest j hj => ?_) rest X hP hN
  rcases Nat.lt_or_ge j c.length with h | h
  · refine .inl ⟨j + 1, h, by omega, fun X hP hN => ?_⟩
    have hle : negF c j ≤ j := by
      unfold negF
      refine Nat.le_trans List.countP_le_length ?_
      simp
      omega
    rw [negF_succ h]
    by_cases hx : c[j] < 0
    · rw [if_pos hx]
      exact p2Neg n k P c _ j c[j] h (by omega) rfl (by simpa using hx) (by omega) rest X hP hN
    · rw [if_neg hx]
      exact p2Pos n k P c _ j c[j] h (by omega) rfl (by simpa using hx) rest X hP hN
  · have : j = c.length := by omega
    subst this
    exact .inr fun X hP hN => p2Stop n k P c _ rest X hP hN
end Go.Avm
