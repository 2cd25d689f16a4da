/-
  PaintCliques: the walk.
-/
import Derived.Test.YtpcomfnianamgaaPaFour
set_option linter.unusedSectionVars false
namespace Go.Avm
open Go.Proofs

/-! ### The pairs -/
def clRow (a i : Nat) : List (Int × Int) := (List.range i).map fun (b : Nat) => ((a : Int), (b : Int))
def clTo : Nat → List (Int × Int)
  | 0 => []
  | a + 1 => clTo a ++ clRow a a
theorem clRow_succ (a i : Nat) : clRow a (i + 1) = clRow a i ++ [((a : Int), (i : Int))] := by
  rw [clRow, List.range_succ, List.map_append]
  rfl
theorem clRow_len (a i : Nat) : (clRow a i).length = i := by simp [clRow]
theorem clTo_len (a : Nat) (h : a ≤ 30) : (clTo a).length ≤ 30 * a := by
  induction a with
  | zero => exact Nat.le_refl _
  | succ a ih =>
    have := ih (by omega)
    rw [clTo, List.length_append, clRow_len]
    omega
theorem clTo_mem {m : Nat} {p : Int × Int} : p ∈ clTo m ↔ ∃ a b : Nat, b < a ∧ a < m ∧ p = ((a : Int), (b : Int)) := by
  induction m with
  | zero =>
    refine ⟨fun h => (by cases h), fun ⟨a, b, _, h, _⟩ => by omega⟩
  | succ m ih =>
    rw [clTo, List.mem_append, ih]
    constructor
    · rintro (⟨a, b, h1, h2, h3⟩ | h)
      · exact ⟨a, b, h1, by omega, h3⟩
      · obtain ⟨b, hb, rfl⟩ := List.mem_map.1 h
        exact ⟨m, b, List.mem_range.1 hb, by omega, rfl⟩
    · rintro ⟨a, b, h1, h2, rfl⟩
      by_cases ha : a = m
      · subst ha
        exact .inr (List.mem_map.2 ⟨b, List.mem_range.2 h1, rfl⟩)
      · exact .inl ⟨a, b, h1, by omega, rfl⟩
theorem cl_ok (m : Nat) : (clTo m).all (inP m) = true := List.all_eq_true.2 (fun p hp => inP_iff.2 (by
  obtain ⟨a, b, h1, h2, rfl⟩ := clTo_mem.1 hp
  simp only
  omega))
theorem cl_nbr {m : Nat} {x y : Nat} (hx : x < m) (hy : y < m) (hne : x ≠ y) : Nbr (clTo m) (x : Int) (y : Int) := by
  rcases Nat.lt_or_ge x y with h | h
  · exact ⟨((y : Int), (x : Int)), clTo_mem.2 ⟨y, x, h, hy, rfl⟩, by simp; omega, .inr ⟨rfl, rfl⟩⟩
  · exact ⟨((x : Int), (y : Int)), clTo_mem.2 ⟨x, y, by omega, hx, rfl⟩, by simp; omega, .inl ⟨rfl, rfl⟩⟩
/-- Whose colours were seen. -/
def sawF (c : List Int) (j : Nat) : List Bool × Nat := (c.take j).foldl (fun s x => if x < 0 then s else (s.1.set x.toNat true, s.2 + 1)) (List.replicate 16 false, 0)
theorem sawF_neg {c : List Int} {j : Nat} (h : j < c.length) (hx : c[j] < 0) : sawF c (j + 1) = sawF c j := by
  rw [sawF, List.take_succ_eq_append_getElem h, List.foldl_append]
  simp [hx, sawF]
theorem sawF_pos {c : List Int} {j : Nat} (h : j < c.length) (hx : ¬ c[j] < 0) : sawF c (j + 1) = ((sawF c j).1.set c[j].toNat true, (sawF c j).2 + 1) := by
  rw [sawF, List.take_succ_eq_append_getElem h, List.foldl_append]
  simp [hx, sawF]
theorem sawF_len (c : List Int) (j : Nat) : (sawF c j).1.length = 16 := by
  have : ∀ (l : List Int) (s : List Bool × Nat), (l.foldl (fun s x => if x < 0 then s else (s.1.set x.toNat true, s.2 + 1)) s).1.length = s.1.length := by
    intro l
    induction l with
    | nil => intro s; rfl
    | cons x l ih =>
      intro s
      rw [List.foldl_cons, ih]
      split <;> simp
  rw [sawF, this, List.length_replicate]
section
variable {m K : Nat} {c : List Int} (h : Painted m K (clTo m) c) (hK : K ≤ 16)
include h
theorem cl_diff {i j : Nat} (hi : i < m) (hj : j < m) (hne : i ≠ j) (hp : 0 ≤ c[i]'(by rw [h.len]; exact hi)) : c[i]'(by rw [h.len]; exact hi) ≠ c[j]'(by rw [h.len]; exact hj) := by
  have hlen := h.len
  have := h.ne (i : Int) (j : Int) (cl_nbr hi hj hne)
  rw [Int.toNat_natCast, Int.toNat_natCast, List.getElem?_eq_getElem (by omega), List.getElem?_eq_getElem (by omega)] at this
  exact this hp
include hK
theorem saw_spec : ∀ j, j ≤ m → (sawF c j).2 = (sawF c j).1.count true ∧ ∀ q : Nat, (sawF c j).1[q]? = some true ↔ ∃ i, ∃ hi : i < j, ∃ hi2 : i < c.length, c[i] = (q : Int)
  | 0, _ => by
    refine ⟨by simp [sawF], fun q => ⟨fun hq => ?_, fun ⟨i, hi, _⟩ => by omega⟩⟩
    exfalso
    have hq2 : (List.replicate 16 false)[q]? = some true := hq
    rw [List.getElem?_replicate] at hq2
    split at hq2 <;> simp at hq2
  | j + 1, hj => by
    have hlen := h.len
    have hjl : j < c.length := by omega
    obtain ⟨g1, g2⟩ := saw_spec j (by omega)
    by_cases hx : c[j] < 0
    · rw [sawF_neg hjl hx]
      refine ⟨g1, fun q => ?_⟩
      rw [g2 q]
      constructor
      · rintro ⟨i, hi, hi2, e⟩
        exact ⟨i, by omega, hi2, e⟩
      · rintro ⟨i, hi, hi2, e⟩
        by_cases hij : i = j
        · subst hij; omega
        · exact ⟨i, by omega, hi2, e⟩
    · rw [sawF_pos hjl hx]
      have hr := h.rng _ (List.getElem_mem hjl)
      have hf : (sawF c j).1[c[j].toNat]? = some false := by
        have hl : c[j].toNat < (sawF c j).1.length := by rw [sawF_len]; omega
        cases hb : (sawF c j).1[c[j].toNat] with
        | false => rw [List.getElem?_eq_getElem hl, hb]
        | true =>
          exfalso
          obtain ⟨i, hi, hi2, e⟩ := (g2 c[j].toNat).1 (by rw [List.getElem?_eq_getElem hl, hb])
          exact cl_diff h (i := i) (j := j) (by omega) (by omega) (by omega) (by omega) (by omega)
      refine ⟨by simp only; rw [count_set hf, g1], fun q => ?_⟩
      simp only
      rw [List.getElem?_set]
      by_cases hq : c[j].toNat = q
      · rw [if_pos hq, if_pos (by rw [sawF_len]; omega)]
        exact ⟨fun _ => ⟨j, by omega, hjl, by omega⟩, fun _ => rfl⟩
      · rw [if_neg hq, g2 q]
        constructor
        · rintro ⟨i, hi, hi2, e⟩
          exact ⟨i, by omega, hi2, e⟩
        · rintro ⟨i, hi, hi2, e⟩
          by_cases hij : i = j
          · subst hij; omega
          · exact ⟨i, by omega, hi2, e⟩
end
theorem count_le {l : List Bool} {K : Nat} (h : ∀ q : Nat, l[q]? = some true → q < K) : l.count true ≤ K := by
  induction l generalizing K with
  | nil => simp
  | cons b l ih =>
    cases K with
    | zero =>
      have hb : b = false := by
        cases b with
        | false => rfl
        | true => have := h 0 (by simp); omega
      subst hb
      have h2 : l.count true ≤ 0 := ih (fun q hq => by have := h (q + 1) (by simpa using hq); omega)
      simpa using h2
    | succ K =>
      have h2 := ih (K := K) (fun q hq => by have := h (q + 1) (by simpa using hq); omega)
      rw [List.count_cons]
      split <;> omega
theorem saw_le (c : List Int) : ∀ j, j ≤ c.length → (sawF c j).2 ≤ j
  | 0, _ => Nat.le_refl _
  | j + 1, hj => by
    have h := saw_le c j (by omega)
    by_cases hx : c[j] < 0
    · rw [sawF_neg (by omega) hx]; omega
    · rw [sawF_pos (by omega) hx]; simp only; omega
theorem saw_all (c : List Int) (hc : ∀ x ∈ c, 0 ≤ x) : ∀ j, j ≤ c.length → (sawF c j).2 = j
  | 0, _ => rfl
  | j + 1, hj => by
    have h := saw_all c hc j (by omega)
    have hx : ¬ c[j] < 0 := by have := hc _ (List.getElem_mem (show j < c.length by omega)); omega
    rw [sawF_pos (by omega) hx]
    simp only
    omega
theorem saw_min {m K : Nat} {c : List Int} (h : Painted m K (clTo m) c) (hK : K ≤ 16) : (sawF c m).2 = min m K := by
  have hlen := h.len
  obtain ⟨g1, g2⟩ := saw_spec h hK m (Nat.le_refl _)
  have hle := saw_le c m (by omega)
  have hleK : (sawF c m).2 ≤ K := by
    rw [g1]
    refine count_le (fun q hq => ?_)
    obtain ⟨i, _, hi2, e⟩ := (g2 q).1 hq
    have := (h.rng _ (List.getElem_mem hi2)).2
    omega
  by_cases hall : ∀ x ∈ c, 0 ≤ x
  · have := saw_all c hall m (by omega)
    omega
  · obtain ⟨x, hx, hneg⟩ : ∃ x ∈ c, x < 0 := by
      apply Classical.byContradiction
      intro hno
      exact hall (fun x hx => by
        apply Classical.byContradiction
        intro h2
        exact hno ⟨x, hx, by omega⟩)
    obtain ⟨i, hi, rfl⟩ := List.getElem_of_mem hx
    have hge : K ≤ (sawF c m).2 := by
      rw [g1]
      refine count_ge (fun q hq => (g2 q).2 ?_)
      obtain ⟨y, ⟨p, hp, _, hn⟩, hc⟩ := h.full (i : Int) (by omega) (by simp; omega) (by rw [Int.toNat_natCast, List.getElem?_eq_getElem hi]; exact hneg) q hq
      obtain ⟨a, b, h1, h2, rfl⟩ := clTo_mem.1 hp
      have hy : y.toNat < c.length := by
        rcases hn with ⟨_, h3⟩ | ⟨_, h3⟩
        · subst h3; simp only [Int.toNat_natCast]; omega
        · subst h3; simp only [Int.toNat_natCast]; omega
      rw [List.getElem?_eq_getElem hy] at hc
      exact ⟨y.toNat, by omega, hy, hc⟩
    omega

/-! ### The walk -/
def q1L (m K a b v : Nat) : List (Nat × AV) := [(5, dN m), (6, dN K), (7, vecP (v + b) (clTo a ++ clRow a b)), (8, dN a), (24, dN m), (25, dN a), (28, dN a), (29, dN b)]
def q1E (v w : Nat) : List (Nat × Ent) := [(12, ⟨v, none⟩), (500603, ⟨w, none⟩)]
def q0L (m K a v : Nat) : List (Nat × AV) := [(5, dN m), (6, dN K), (7, vecP v (clTo a)), (24, dN m), (25, dN a)]
section
variable (m K a b v w : Nat)
theorem q1Round (hb : b < a) (ha : a < 100) (rest : Heap) (X : Fix) (hP : X.P = Try.prog) (hN : X.N = 81) :
    AW X (loopOf Try.prog 9 9) ⟨envOf (q1L m K a b v), ovl (q1E (v + b) w) rest⟩ fun e' S' => e' = .normal ∧ Weak X S' ⟨envOf (q1L m K a (b + 1) v), ovl (q1E (v + (b + 1)) (w + 1)) rest⟩ := by
  have hl : ((clTo a ++ clRow a b).map pairD).length + 1 ≤ 549755813888 := by
    have : ∀ a, (clTo a).length ≤ a * a := by
      intro a
      induction a with
      | zero => exact Nat.le_refl _
      | succ a ih =>
        rw [clTo, List.length_append, clRow_len]
        have : (a + 1) * (a + 1) = a * a + 2 * a + 1 := by rw [Nat.add_mul, Nat.mul_add]; omega
        omega
    have h1 := this a
    have h2 : a * a ≤ 100 * 100 := Nat.mul_le_mul (by omega) (by omega)
    simp only [List.length_map, List.length_append, clRow_len]
    omega
  unfold q1L vecP
  rw [clRow_succ, ← List.append_assoc, ← appP]
  exact seg okP named { hint := fun f s => if f = 9 then (if s = 30 then some (hLt Try.prog b a true (by simpa using hb)) else if s = 37 then some (.app ((clTo a ++ clRow a b).map pairD) 1 hl) else if s = 38 then some (hSucc Try.prog b (by omega)) else none) else none } 1000 9 500000 81 (by kernel_rfl) X hP hN
theorem q1Stop (rest : Heap) (X : Fix) (hP : X.P = Try.prog) (hN : X.N = 81) :
    AW X (loopOf Try.prog 9 9) ⟨envOf (q1L m K a a v), ovl (q1E (v + a) w) rest⟩ fun e' S' => e' = .exit 2 ∧ Weak X S' ⟨envOf [(5, dN m), (6, dN K), (7, vecP (v + a) (clTo a ++ clRow a a)), (24, dN m), (25, dN a)], ovl (q1E (v + a) w) rest⟩ :=
  seg okP named { hint := fun f s => if f = 9 then (if s = 30 then some (hLt Try.prog a a false (by simp)) else none) else none } 1000 9 500000 81 (by kernel_rfl) X hP hN
end
def q1H (v b : Nat) (rest : Heap) : List (Nat × Ent) := q1E (v + b) ((rest 500603).ver + b)
theorem q1Loop (m K a v : Nat) (ha : a < 100) (rest : Heap) (X : Fix) (hP : X.P = Try.prog) (hN : X.N = 81) :
    AW X (.loop (loopOf Try.prog 9 9)) ⟨envOf (q1L m K a 0 v), ovl (q1H v 0 rest) rest⟩ fun e' S' => e' = .exit 2 ∧ S' = ⟨envOf [(5, dN m), (6, dN K), (7, vecP (v + a) (clTo a ++ clRow a a)), (24, dN m), (25, dN a)], ovl (q1H v a rest) rest⟩ := by
  refine loop_of_segs (P := Try.prog) (N := 81) (c := loopOf Try.prog 9 9) (fun b => q1L m K a b v) (fun b rest => q1H v b rest) (fun b => b ≤ a) (fun b => a - b) (.exit 2) _ (fun rest => q1H v a rest) 0 (Nat.zero_le _) (by simp) (fun rest b hb => ?_) rest X hP hN
  rcases Nat.lt_or_ge b a with h | h
  · exact .inl ⟨b + 1, h, by omega, fun X hP hN => q1Round m K a b v _ h ha rest X hP hN⟩
  · have : b = a := by omega
    subst this
    exact .inr fun X hP hN => q1Stop m K b v _ rest X hP hN
def q1L0 (m K a v : Nat) : List (Nat × AV) := [(5, dN m), (6, dN K), (7, vecP v (clTo a)), (8, dN a), (24, dN m), (25, dN a), (28, dN a), (29, dN 0)]
def q1H0 (v : Nat) (rest : Heap) : List (Nat × Ent) := q1E v (rest 500603).ver
theorem q0Round (m K a v w : Nat) (ha : a < m) (hm : m < 100) (rest : Heap) (X : Fix) (hP : X.P = Try.prog) (hN : X.N = 81) :
    AW X (loopOf Try.prog 9 6) ⟨envOf (q0L m K a v), ovl (q1E v w) rest⟩ fun e' S' => e' = .normal ∧ Weak X S' ⟨envOf (q0L m K (a + 1) (v + a)), ovl (q1E (v + a) (w + a)) rest⟩ := by
  have hq : ∀ (rest : Heap) (X : Fix), X.P = Try.prog → X.N = 81 → AW X (.loop (loopOf Try.prog 9 9)) ⟨envOf (q1L0 m K a v), ovl (q1H0 v rest) rest⟩ fun e' S' => e' = .exit 2 ∧ S' = ⟨envOf [(5, dN m), (6, dN K), (7, vecP (v + a) (clTo a ++ clRow a a)), (24, dN m), (25, dN a)], ovl (q1H v a rest) rest⟩ := fun rest X hP hN => by
    have h := q1Loop m K a v (by omega) rest X hP hN
    have e : clTo a ++ clRow a 0 = clTo a := by simp [clRow]
    unfold q1L at h
    rw [e] at h
    exact h
  exact seg okP named { hint := fun f s => if f = 9 then (if s = 26 then some (hLt Try.prog a m true (by simpa using ha)) else if s = 39 then some (hSucc Try.prog a (by omega)) else none) else none
                        loops := fun f r => if f = 9 then (if r = 9 then some ⟨81, loopOf Try.prog 9 9, q1L0 m K a v, fun rest => q1H0 v rest, .exit 2, [(5, dN m), (6, dN K), (7, vecP (v + a) (clTo a ++ clRow a a)), (24, dN m), (25, dN a)], fun rest => q1H v a rest, hq⟩ else none) else none } 1000 9 400000 81 (by kernel_rfl) X hP hN
theorem q0Stop (m K v w : Nat) (rest : Heap) (X : Fix) (hP : X.P = Try.prog) (hN : X.N = 81) :
    AW X (loopOf Try.prog 9 6) ⟨envOf (q0L m K m v), ovl (q1E v w) rest⟩ fun e' S' => e' = .exit 0 ∧ Weak X S' ⟨envOf [(5, dN m), (6, dN K), (7, vecP v (clTo m))], ovl (q1E v w) rest⟩ :=
  seg okP named { hint := fun f s => if f = 9 then (if s = 26 then some (hLt Try.prog m m false (by simp)) else none) else none } 1000 9 400000 81 (by kernel_rfl) X hP hN
theorem q0Loop (m K : Nat) (hm : m < 100) : ∀ (r a v w : Nat), m - a = r → a ≤ m → ∃ v' w' : Nat, ∀ (rest : Heap) (X : Fix), X.P = Try.prog → X.N = 81 →
    LW X (loopOf Try.prog 9 6) ⟨envOf (q0L m K a v), ovl (q1E v w) rest⟩ fun e' S' => e' = .exit 0 ∧ S' = ⟨envOf [(5, dN m), (6, dN K), (7, vecP v' (clTo m))], ovl (q1E v' w') rest⟩
  | 0, a, v, w, hr, ha => by
    have : a = m := by omega
    subst this
    exact ⟨v, w, fun rest X hP hN => lw_end (q0Stop a K v w rest X hP hN) (by simp)⟩
  | r + 1, a, v, w, hr, ha => by
    obtain ⟨v', w', h⟩ := q0Loop m K hm r (a + 1) (v + a) (w + a) (by omega) (by omega)
    exact ⟨v', w', fun rest X hP hN => lw_seg (q0Round m K a v w (by omega) hm rest X hP hN) (h rest X hP hN)⟩

/-! ### Each colour once -/
def q3L (m K cnt : Nat) (c : List Int) (j : Nat) : List (Nat × AV) := [(5, dN m), (6, dN K), (12, .ptr 2361 1 0 0 1), (13, dN cnt), (55, .d (cD c)), (56, dN c.length), (57, dN j)]
def q3E (seen : List AV) : List (Nat × Ent) := [(2361, ⟨1, some (.arr 1 seen)⟩)]
section
variable (m K cnt : Nat) (c : List Int) (j : Nat) (z : Int) (seen : List AV)
theorem q3Neg (hj : j < c.length) (hs : j < 9223372036854775807) (hz : c[j] = z) (h0 : decide (z < 0) = true) (rest : Heap) (X : Fix) (hP : X.P = Try.prog) (hN : X.N = 81) :
    AW X (loopOf Try.prog 9 20) ⟨envOf (q3L m K cnt c j), ovl (q3E seen) rest⟩ fun e' S' => e' = .normal ∧ Weak X S' ⟨envOf (q3L m K cnt c (j + 1)), ovl (q3E seen) rest⟩ :=
  seg okP named { hint := fun f s => if f = 9 then (if s = 58 then some (hLt Try.prog j c.length true (by simpa using hj)) else if s = 59 then some (.idx (c.map fun z => D.int .i64 z) ((j : Nat) : Int) (.int .i64 z) (by omega) (by rw [← hz]; exact getCN hj)) else if s = 62 then some (.val (dB (decide (z < 0))) (dB true) (by rw [h0]))
    else if s = 75 then some (hSucc Try.prog j hs) else none) else none } 1000 9 400000 81 (by kernel_rfl) X hP hN
theorem q3Pos (hj : j < c.length) (hs : j < 9223372036854775807) (hz : c[j] = z) (h0 : decide (z < 0) = false) (hzK : decide ((K : Int) ≤ z) = false) (hz0 : 0 ≤ z) (hz16 : z.toNat < 16) (hsn : seen[0 + z.toNat * 1]? = some (dB false)) (hcnt : cnt < 1000000) (rest : Heap) (X : Fix) (hP : X.P = Try.prog) (hN : X.N = 81) :
    AW X (loopOf Try.prog 9 20) ⟨envOf (q3L m K cnt c j), ovl (q3E seen) rest⟩ fun e' S' => e' = .normal ∧ Weak X S' ⟨envOf (q3L m K (cnt + 1) c (j + 1)), ovl (q3E (seen.set (0 + z.toNat * 1) (dB true))) rest⟩ :=
  seg okP named { hint := fun f s => if f = 9 then (if s = 58 then some (hLt Try.prog j c.length true (by simpa using hj)) else if s = 59 then some (.idx (c.map fun z => D.int .i64 z) ((j : Nat) : Int) (.int .i64 z) (by omega) (by rw [← hz]; exact getCN hj)) else if s = 62 then some (.val (dB (decide (z < 0))) (dB false) (by rw [h0]))
    else if s = 65 then some (.val (dB (decide ((K : Int) ≤ z))) (dB false) (by rw [hzK])) else if s = 68 ∨ s = 72 then some (.inb z 16 hz0 hz16) else if s = 69 ∨ s = 125002 then some (.elt seen (0 + z.toNat * 1) (dB false) hsn) else if s = 74 then some (hSucc Try.prog cnt (by omega))
    else if s = 75 then some (hSucc Try.prog j hs) else none) else none } 1000 9 400000 81 (by kernel_rfl) X hP hN
theorem q3Stop (rest : Heap) (X : Fix) (hP : X.P = Try.prog) (hN : X.N = 81) :
    AW X (loopOf Try.prog 9 20) ⟨envOf (q3L m K cnt c c.length), ovl (q3E seen) rest⟩ fun e' S' => e' = .exit 4 ∧ Weak X S' ⟨envOf [(5, dN m), (6, dN K), (13, dN cnt)], ovl (q3E seen) rest⟩ :=
  seg okP named { hint := fun f s => if f = 9 then (if s = 58 then some (hLt Try.prog c.length c.length false (by simp)) else none) else none } 1000 9 400000 81 (by kernel_rfl) X hP hN
end
theorem q3Loop (m K : Nat) (c : List Int) (hm : m < 1000) (hK : K ≤ 16) (h : Painted m K (clTo m) c) (rest : Heap) (X : Fix) (hP : X.P = Try.prog) (hN : X.N = 81) :
    AW X (.loop (loopOf Try.prog 9 20)) ⟨envOf (q3L m K 0 c 0), ovl (q3E ((sawF c 0).1.map dB)) rest⟩ fun e' S' => e' = .exit 4 ∧ S' = ⟨envOf [(5, dN m), (6, dN K), (13, dN (min m K))], ovl (q3E ((sawF c m).1.map dB)) rest⟩ := by
  have hlen := h.len
  refine loop_of_segs (P := Try.prog) (N := 81) (c := loopOf Try.prog 9 20) (fun j => q3L m K (sawF c j).2 c j) (fun j _ => q3E ((sawF c j).1.map dB)) (fun j => j ≤ m) (fun j => m - j) (.exit 4) _ (fun _ => q3E ((sawF c m).1.map dB)) 0 (Nat.zero_le _) (by simp) (fun rest j hj => ?_) rest X hP hN
  rcases Nat.lt_or_ge j m with hlt | hge
  · refine .inl ⟨j + 1, hlt, by omega, fun X hP hN => ?_⟩
    have hjl : j < c.length := by omega
    by_cases hx : c[j] < 0
    · rw [sawF_neg hjl hx]
      exact q3Neg m K _ c j c[j] _ hjl (by omega) rfl (by simpa using hx) rest X hP hN
    · have hr := h.rng _ (List.getElem_mem hjl)
      obtain ⟨g1, g2⟩ := saw_spec h hK j (by omega)
      have hle := saw_le c j (by omega)
      have hf : ((sawF c j).1.map dB)[0 + c[j].toNat * 1]? = some (dB false) := by
        have hl : c[j].toNat < (sawF c j).1.length := by rw [sawF_len]; omega
        have hb : (sawF c j).1[c[j].toNat] = false := by
          cases hb : (sawF c j).1[c[j].toNat] with
          | false => rfl
          | true =>
            exfalso
            obtain ⟨i, hi, hi2, e⟩ := (g2 c[j].toNat).1 (by rw [List.getElem?_eq_getElem hl, hb])
            exact cl_diff h (i := i) (j := j) (by omega) (by omega) (by omega) (by omega) (by omega)
        simp [hl, hb]
      rw [sawF_pos hjl hx, ← mapSetB]
      have := q3Pos m K (sawF c j).2 c j c[j] _ hjl (by omega) rfl (by simpa using hx) (by simp; omega) (by omega) (by omega) hf (by omega) rest X hP hN
      rw [Nat.zero_add, Nat.mul_one] at this
      exact this
  · have : j = c.length := by omega
    subst this
    have hmm : m = c.length := by omega
    refine .inr fun X hP hN => ?_
    have e := saw_min h hK
    have h1 := q3Stop m K (sawF c c.length).2 c ((sawF c c.length).1.map dB) rest X hP hN
    rw [← hmm] at h1 ⊢
    rw [e] at h1 ⊢
    exact h1
/-- PaintCliques. -/
theorem cliquesPure (n k : Int) (hn : 0 ≤ n ∧ n ≤ 255) (hk : 0 ≤ k ∧ k ≤ 255) : Pure Try.prog 9 [.int .u8 n, .int .u8 k] [.bool true] := by
  obtain ⟨m, hm⟩ : ∃ m : Nat, n.tmod 30 = (m : Int) := ⟨(n.tmod 30).toNat, by rw [Int.tmod_eq_emod_of_nonneg hn.1]; omega⟩
  obtain ⟨K, hq⟩ : ∃ q : Nat, k.tmod 17 = (q : Int) := ⟨(k.tmod 17).toNat, by rw [Int.tmod_eq_emod_of_nonneg hk.1]; omega⟩
  have hm30 : m < 30 := by rw [Int.tmod_eq_emod_of_nonneg hn.1] at hm; omega
  have hK : K ≤ 16 := by rw [Int.tmod_eq_emod_of_nonneg hk.1] at hq; omega
  have hcl := clTo_len m (by omega)
  obtain ⟨v, w, hl0⟩ := q0Loop m K (by omega) m 0 0 0 rfl (Nat.zero_le _)
  obtain ⟨O, hO, hP⟩ := paintC m K (clTo m) [] (by omega) hK (by omega) (by simp) (cl_ok m) rfl
  have hc := paint_painted (n := m) (K := K) (pairs := clTo m) (likes := []) (by omega) (by simp) (cl_ok m) rfl hO
  have hlen := hc.len
  generalize paintF m K (clTo m) [] O = c at hP hc hlen
  have hm8 : dI (IntKind.i64.wrap (n.tmod 30)) = dN m := by
    unfold dI
    rw [hm, i64_small m (by omega)]
  have hq8 : dI (IntKind.i64.wrap (k.tmod 17)) = dN K := by
    unfold dI
    rw [hq, i64_small K (by omega)]
  exact pure_of_run okP named {
    hint := fun f s => if f = 9 then (if s = 16 then some (.call 30 [] [.bool true] awake17) else if s = 20 then some (.val (dI (IntKind.i64.wrap (n.tmod 30))) (dN m) hm8) else if s = 23 then some (.val (dI (IntKind.i64.wrap (k.tmod 17))) (dN K) hq8)
        else if s = 44 then some (.call 32 [.int .i64 (m : Int), pairsD (clTo m), .ro [], .int .i64 (K : Int)] [cD c, .int .i64 0] hP) else if s = 51 then some (.val (dN (c.map fun x => D.int .i64 x).length) (dN m) (by simp [hlen])) else if s = 53 then some (.val (dB ((m : Int) != (m : Int))) (dB false) (by simp))
        else if s = 56 then some (.val (dN (c.map fun x => D.int .i64 x).length) (dN c.length) (by simp)) else if s = 79 then some (.val (dI (mnI m K)) (dN (min m K)) (by
          unfold dI mnI
          congr 2
          split <;> omega)) else if s = 80 then some (.val (dB (((min m K : Nat) : Int) == ((min m K : Nat) : Int))) (dB true) (by simp)) else none) else none
    nils2 := fun f r => if f = 9 then (if r = 5 then [⟨0, 7, 12, 2, true, false⟩] else []) else []
    loops := fun f r => if f = 9 then (if r = 6 then some ⟨81, loopOf Try.prog 9 6, q0L m K 0 0, fun _ => q1E 0 0, .exit 0, [(5, dN m), (6, dN K), (7, vecP v (clTo m))], fun _ => q1E v w, fun rest X hP hN => (hl0 rest X hP hN).aw⟩
      else if r = 20 then some ⟨81, loopOf Try.prog 9 20, q3L m K 0 c 0, fun _ => q3E ((sawF c 0).1.map dB), .exit 4, [(5, dN m), (6, dN K), (13, dN (min m K))], fun _ => q3E ((sawF c m).1.map dB), q3Loop m K c (by omega) hK hc⟩ else none) else none } 1000 (by kernel_rfl)
end Go.Avm
