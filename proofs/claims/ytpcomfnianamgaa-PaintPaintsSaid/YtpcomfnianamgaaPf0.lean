/-
  The document's answer of paint: Check.
-/
import Derived.Test.YtpcomfnianamgaaPe
set_option linter.unusedSectionVars false
namespace Go.Avm
open Go.Proofs

/-- A pair out of range, as the document looks at it. -/
def ckBad (n x y : Int) : Bool := decide (x < 0) || decide (n ≤ x) || decide (y < 0) || decide (n ≤ y)
theorem ck_inP (n : Nat) (p : Int × Int) : ckBad n p.1 p.2 = !inP n p := by
  have h := inP_iff (n := n) (p := p)
  cases hb : inP n p with
  | true =>
    rw [hb] at h
    have := h.1 rfl
    simp [ckBad]
    omega
  | false =>
    rw [hb] at h
    have h2 : ¬ ((0 ≤ p.1 ∧ p.1.toNat < n) ∧ 0 ≤ p.2 ∧ p.2.toNat < n) := fun hx => by have := h.2 hx; cases this
    simp only [ckBad, Bool.not_false, Bool.or_eq_true, decide_eq_true_eq]
    omega
/-- The row of the two lists. -/
def ckRows (P L : List (Int × Int)) : List D := [pairsD P, pairsD L]
def ckO (n : Int) (P L : List (Int × Int)) (o : Nat) : List (Nat × AV) := [(0, dI n), (29, .vec 1100 1 1 (ckRows P L)), (30, dN 2), (31, dN o)]
def ckL (n : Int) (l : List (Int × Int)) (o i : Nat) (P L : List (Int × Int)) : List (Nat × AV) := [(0, dI n), (29, .vec 1100 1 1 (ckRows P L)), (30, dN 2), (31, dN o), (35, .d (pairsD l)), (36, dN l.length), (37, dN i)]
def ckE (w : Nat) : List (Nat × Ent) := [(500201, ⟨w, none⟩)]
section
variable (n : Int) (l P L : List (Int × Int)) (o i w : Nat) (x y : Int)
noncomputable def ckPr (hi : i < l.length) (hs : i < 9223372036854775807) (hp : l[i] = (x, y)) (b1 b2 b3 b4 : Bool) (h1 : decide (x < 0) = b1) (h2 : decide (n ≤ x) = b2) (h3 : decide (y < 0) = b3) (h4 : decide (n ≤ y) = b4) : Par Try.prog :=
  { hint := fun f s => if f = 33 then (if s = 38 then some (hLt Try.prog i l.length true (by simpa using hi)) else if s = 39 then some (.idx (l.map pairD) ((i : Nat) : Int) (pairD (x, y)) (by omega) (by rw [← hp]; exact getP hi))
      else if s = 43 then some (.val (dB (decide (x < 0))) (dB b1) (by rw [h1])) else if s = 48 then some (.val (dB (decide (n ≤ x))) (dB b2) (by rw [h2])) else if s = 53 then some (.val (dB (decide (y < 0))) (dB b3) (by rw [h3])) else if s = 59 then some (.val (dB (decide (n ≤ y))) (dB b4) (by rw [h4]))
      else if s = 61 then some (hSucc Try.prog i hs) else none) else none }
theorem ckNext (hi : i < l.length) (hs : i < 9223372036854775807) (hp : l[i] = (x, y)) (hb : ckBad n x y = false) (rest : Heap) (X : Fix) (hP : X.P = Try.prog) (hN : X.N = 63) :
    AW X (loopOf Try.prog 33 7) ⟨envOf (ckL n l o i P L), ovl (ckE w) rest⟩ fun e' S' => e' = .normal ∧ Weak X S' ⟨envOf (ckL n l o (i + 1) P L), ovl (ckE (w + 1)) rest⟩ := by
  unfold ckBad at hb
  simp only [Bool.or_eq_false_iff] at hb
  exact seg okP named (ckPr n l i x y hi hs hp false false false false hb.1.1.1 hb.1.1.2 hb.1.2 hb.2) 1000 33 500000 63 (by kernel_rfl) X hP hN
theorem ckFound (hi : i < l.length) (hs : i < 9223372036854775807) (hp : l[i] = (x, y)) (hb : ckBad n x y = true) (rest : Heap) (X : Fix) (hP : X.P = Try.prog) (hN : X.N = 63) :
    AW X (loopOf Try.prog 33 7) ⟨envOf (ckL n l o i P L), ovl (ckE w) rest⟩ fun e' S' => e' = .ret ∧ Weak X S' ⟨envOf [(8, dN 3)], ovl (ckE (w + 1)) rest⟩ := by
  unfold ckBad at hb
  cases h1 : decide (x < 0) with
  | true => exact seg okP named (ckPr n l i x y hi hs hp true _ _ _ h1 rfl rfl rfl) 1000 33 500000 63 (by kernel_rfl) X hP hN
  | false =>
    cases h2 : decide (n ≤ x) with
    | true => exact seg okP named (ckPr n l i x y hi hs hp false true _ _ h1 h2 rfl rfl) 1000 33 500000 63 (by kernel_rfl) X hP hN
    | false =>
      cases h3 : decide (y < 0) with
      | true => exact seg okP named (ckPr n l i x y hi hs hp false false true _ h1 h2 h3 rfl) 1000 33 500000 63 (by kernel_rfl) X hP hN
      | false =>
        rw [h1, h2, h3] at hb
        exact seg okP named (ckPr n l i x y hi hs hp false false false true h1 h2 h3 (by simpa using hb)) 1000 33 500000 63 (by kernel_rfl) X hP hN
theorem ckStop (rest : Heap) (X : Fix) (hP : X.P = Try.prog) (hN : X.N = 63) :
    AW X (loopOf Try.prog 33 7) ⟨envOf (ckL n l o l.length P L), ovl (ckE w) rest⟩ fun e' S' => e' = .exit 2 ∧ Weak X S' ⟨envOf (ckO n P L o), ovl (ckE w) rest⟩ :=
  seg okP named { hint := fun f s => if f = 33 then (if s = 38 then some (hLt Try.prog l.length l.length false (by simp)) else none) else none } 1000 33 500000 63 (by kernel_rfl) X hP hN
end
def ckH (j : Nat) (rest : Heap) : List (Nat × Ent) := ckE ((rest 500201).ver + j)
theorem ckLoopOk (n : Nat) (l P L : List (Int × Int)) (o : Nat) (hl : l.length < 1000000) (hok : l.all (inP n) = true) (rest : Heap) (X : Fix) (hP : X.P = Try.prog) (hN : X.N = 63) :
    AW X (.loop (loopOf Try.prog 33 7)) ⟨envOf (ckL n l o 0 P L), ovl (ckH 0 rest) rest⟩ fun e' S' => e' = .exit 2 ∧ S' = ⟨envOf (ckO n P L o), ovl (ckH l.length rest) rest⟩ := by
  refine loop_of_segs (P := Try.prog) (N := 63) (c := loopOf Try.prog 33 7) (fun i => ckL n l o i P L) (fun i rest => ckH i rest) (fun i => i ≤ l.length) (fun i => l.length - i) (.exit 2) _ (fun rest => ckH l.length rest) 0 (Nat.zero_le _) (by simp) (fun rest i hi => ?_) rest X hP hN
  rcases Nat.lt_or_ge i l.length with h | h
  · have := List.all_eq_true.1 hok _ (List.getElem_mem h)
    exact .inl ⟨i + 1, h, by omega, fun X hP hN => ckNext n l P L o i _ l[i].1 l[i].2 h (by omega) rfl (by rw [ck_inP, this]; rfl) rest X hP hN⟩
  · have : i = l.length := by omega
    subst this
    exact .inr fun X hP hN => ckStop n l P L o _ rest X hP hN
theorem ckLoopBad (n : Nat) (l P L : List (Int × Int)) (o j : Nat) (hj : j < l.length) (hl : l.length < 1000000) (hb : ∀ i, (h : i < j) → inP n l[i] = true) (hf : inP n l[j] = false) (rest : Heap) (X : Fix) (hP : X.P = Try.prog) (hN : X.N = 63) :
    AW X (.loop (loopOf Try.prog 33 7)) ⟨envOf (ckL n l o 0 P L), ovl (ckH 0 rest) rest⟩ fun e' S' => e' = .ret ∧ S' = ⟨envOf [(8, dN 3)], ovl (ckH (j + 1) rest) rest⟩ := by
  refine loop_of_segs (P := Try.prog) (N := 63) (c := loopOf Try.prog 33 7) (fun i => ckL n l o i P L) (fun i rest => ckH i rest) (fun i => i ≤ j) (fun i => j - i) .ret _ (fun rest => ckH (j + 1) rest) 0 (Nat.zero_le _) (by simp) (fun rest i hi => ?_) rest X hP hN
  rcases Nat.lt_or_ge i j with h | h
  · exact .inl ⟨i + 1, h, by omega, fun X hP hN => ckNext n l P L o i _ l[i].1 l[i].2 (by omega) (by omega) rfl (by rw [ck_inP, hb i h]; rfl) rest X hP hN⟩
  · have : i = j := by omega
    subst this
    exact .inr fun X hP hN => ckFound n l P L o i _ l[i].1 l[i].2 hj (by omega) rfl (by rw [ck_inP, hf]; rfl) rest X hP hN
section
variable (n : Nat) (l P L : List (Int × Int)) (w : Nat)
noncomputable def coPr (o : Nat) (e : Exit) (l' : List (Nat × AV)) (j : Nat) (h : ∀ (rest : Heap) (X : Fix), X.P = Try.prog → X.N = 63 → AW X (.loop (loopOf Try.prog 33 7)) ⟨envOf (ckL n l o 0 P L), ovl (ckH 0 rest) rest⟩ fun e' S' => e' = e ∧ S' = ⟨envOf l', ovl (ckH j rest) rest⟩) : Par Try.prog :=
  { hint := fun f s => if f = 33 then (if s = 36 then some (.val (dN (l.map pairD).length) (dN l.length) (by simp)) else none) else none
    loops := fun f r => if f = 33 then (if r = 7 then some ⟨63, loopOf Try.prog 33 7, ckL n l o 0 P L, fun rest => ckH 0 rest, e, l', fun rest => ckH j rest, h⟩ else none) else none }
theorem coOk0 (hl : P.length < 1000000) (hok : P.all (inP n) = true) (rest : Heap) (X : Fix) (hP : X.P = Try.prog) (hN : X.N = 63) :
    AW X (loopOf Try.prog 33 4) ⟨envOf (ckO n P L 0), ovl (ckE w) rest⟩ fun e' S' => e' = .normal ∧ Weak X S' ⟨envOf (ckO n P L 1), ovl (ckE (w + P.length)) rest⟩ :=
  seg okP named (coPr n P P L 0 (.exit 2) (ckO n P L 0) P.length (ckLoopOk n P P L 0 hl hok)) 1000 33 400000 63 (by kernel_rfl) X hP hN
theorem coOk1 (hl : L.length < 1000000) (hok : L.all (inP n) = true) (rest : Heap) (X : Fix) (hP : X.P = Try.prog) (hN : X.N = 63) :
    AW X (loopOf Try.prog 33 4) ⟨envOf (ckO n P L 1), ovl (ckE w) rest⟩ fun e' S' => e' = .normal ∧ Weak X S' ⟨envOf (ckO n P L 2), ovl (ckE (w + L.length)) rest⟩ :=
  seg okP named (coPr n L P L 1 (.exit 2) (ckO n P L 1) L.length (ckLoopOk n L P L 1 hl hok)) 1000 33 400000 63 (by kernel_rfl) X hP hN
theorem coBad0 (j : Nat) (hj : j < P.length) (hl : P.length < 1000000) (hb : ∀ i, (h : i < j) → inP n P[i] = true) (hf : inP n P[j] = false) (rest : Heap) (X : Fix) (hP : X.P = Try.prog) (hN : X.N = 63) :
    AW X (loopOf Try.prog 33 4) ⟨envOf (ckO n P L 0), ovl (ckE w) rest⟩ fun e' S' => e' = .ret ∧ Weak X S' ⟨envOf [(8, dN 3)], ovl (ckE (w + (j + 1))) rest⟩ :=
  seg okP named (coPr n P P L 0 .ret [(8, dN 3)] (j + 1) (ckLoopBad n P P L 0 j hj hl hb hf)) 1000 33 400000 63 (by kernel_rfl) X hP hN
theorem coBad1 (j : Nat) (hj : j < L.length) (hl : L.length < 1000000) (hb : ∀ i, (h : i < j) → inP n L[i] = true) (hf : inP n L[j] = false) (rest : Heap) (X : Fix) (hP : X.P = Try.prog) (hN : X.N = 63) :
    AW X (loopOf Try.prog 33 4) ⟨envOf (ckO n P L 1), ovl (ckE w) rest⟩ fun e' S' => e' = .ret ∧ Weak X S' ⟨envOf [(8, dN 3)], ovl (ckE (w + (j + 1))) rest⟩ :=
  seg okP named (coPr n L P L 1 .ret [(8, dN 3)] (j + 1) (ckLoopBad n L P L 1 j hj hl hb hf)) 1000 33 400000 63 (by kernel_rfl) X hP hN
theorem coStop (rest : Heap) (X : Fix) (hP : X.P = Try.prog) (hN : X.N = 63) :
    AW X (loopOf Try.prog 33 4) ⟨envOf (ckO n P L 2), ovl (ckE w) rest⟩ fun e' S' => e' = .exit 0 ∧ Weak X S' ⟨envOf [], ovl (ckE w) rest⟩ :=
  seg okP named {} 1000 33 400000 63 (by kernel_rfl) X hP hN
end
def ckArgH (n k : Int) (b1 b2 b3 b4 : Bool) (h1 : decide (n < 0) = b1) (h2 : decide ((60000 : Int) < n) = b2) (h3 : decide (k < 0) = b3) (h4 : decide ((16 : Int) < k) = b4) : Nat → Option (Hint Try.prog) := fun s =>
  if s = 14 then some (.val (dB (decide (n < 0))) (dB b1) (by rw [h1])) else if s = 17 then some (.val (dB (decide ((60000 : Int) < n))) (dB b2) (by rw [h2])) else if s = 21 then some (.val (dB (decide (k < 0))) (dB b3) (by rw [h3])) else if s = 25 then some (.val (dB (decide ((16 : Int) < k))) (dB b4) (by rw [h4])) else none
theorem checkArg (n k : Int) (P L : D) (h : n < 0 ∨ 60000 < n ∨ k < 0 ∨ 16 < k) : Pure Try.prog 33 [.int .i64 n, P, L, .int .i64 k] [.int .i64 1] := by
  cases h1 : decide (n < 0) with
  | true => exact pure_of_run okP named { hint := fun f => if f = 33 then ckArgH n k true _ _ _ h1 rfl rfl rfl else fun _ => none } 1000 (by kernel_rfl)
  | false =>
    cases h2 : decide ((60000 : Int) < n) with
    | true => exact pure_of_run okP named { hint := fun f => if f = 33 then ckArgH n k false true _ _ h1 h2 rfl rfl else fun _ => none } 1000 (by kernel_rfl)
    | false =>
      cases h3 : decide (k < 0) with
      | true => exact pure_of_run okP named { hint := fun f => if f = 33 then ckArgH n k false false true _ h1 h2 h3 rfl else fun _ => none } 1000 (by kernel_rfl)
      | false =>
        have h4 : decide ((16 : Int) < k) = true := by
          simp at h1 h2 h3 ⊢
          omega
        exact pure_of_run okP named { hint := fun f => if f = 33 then ckArgH n k false false false true h1 h2 h3 h4 else fun _ => none } 1000 (by kernel_rfl)
noncomputable def ckTop (n K : Nat) (hn : n ≤ 60000) (hK : K ≤ 16) (P L : List (Int × Int)) (e : Exit) (l' : List (Nat × AV)) (w : Nat) (h : ∀ (rest : Heap) (X : Fix), X.P = Try.prog → X.N = 63 → LW X (loopOf Try.prog 33 4) ⟨envOf (ckO n P L 0), ovl (ckE 0) rest⟩ fun e' S' => e' = e ∧ S' = ⟨envOf l', ovl (ckE w) rest⟩) : Par Try.prog :=
  { hint := fun f => if f = 33 then ckArgH n K false false false false (by simp) (by simp; omega) (by simp) (by simp; omega) else fun _ => none
    loops := fun f r => if f = 33 then (if r = 4 then some ⟨63, loopOf Try.prog 33 4, ckO n P L 0, fun _ => ckE 0, e, l', fun _ => ckE w, fun rest X hP hN => (h rest X hP hN).aw⟩ else none) else none }
/-- Check. -/
theorem checkC (n K : Nat) (hn : n ≤ 60000) (hK : K ≤ 16) (P L : List (Int × Int)) (hp : P.length < 1000000) (hl : L.length < 1000000) :
    Pure Try.prog 33 [.int .i64 n, pairsD P, pairsD L, .int .i64 K] [.int .i64 (if (P.all (inP n) && L.all (inP n)) = true then 0 else 3)] := by
  have bad : ∀ l : List (Int × Int), l.all (inP n) = false → ∃ j, ∃ hj : j < l.length, (∀ i, (h : i < j) → inP n l[i] = true) ∧ inP n l[j] = false := fun l h => by
    cases hf : l.findIdx? (fun p => !inP n p) with
    | none =>
      rw [List.findIdx?_eq_none_iff] at hf
      have : l.all (inP n) = true := List.all_eq_true.2 (fun p hp => by simpa using hf p hp)
      rw [h] at this
      cases this
    | some j =>
      rw [List.findIdx?_eq_some_iff_getElem] at hf
      obtain ⟨h1, h2, h3⟩ := hf
      exact ⟨j, h1, fun i hi => by simpa using h3 i hi, by simpa using h2⟩
  cases h1 : P.all (inP n) with
  | false =>
    obtain ⟨j, hj, hb, hf⟩ := bad P h1
    rw [if_neg (by simp)]
    exact pure_of_run okP named (ckTop n K hn hK P L .ret [(8, dN 3)] (0 + (j + 1)) (fun rest X hP hN => lw_end (coBad0 n P L 0 j hj hp hb hf rest X hP hN) (by simp))) 1000 (by kernel_rfl)
  | true =>
    cases h2 : L.all (inP n) with
    | false =>
      obtain ⟨j, hj, hb, hf⟩ := bad L h2
      rw [if_neg (by simp)]
      exact pure_of_run okP named (ckTop n K hn hK P L .ret [(8, dN 3)] (0 + P.length + (j + 1)) (fun rest X hP hN => lw_seg (coOk0 n P L 0 hp h1 rest X hP hN) (lw_end (coBad1 n P L _ j hj hl hb hf rest X hP hN) (by simp)))) 1000 (by kernel_rfl)
    | true =>
      rw [if_pos (by simp)]
      exact pure_of_run okP named (ckTop n K hn hK P L (.exit 0) [] (0 + P.length + L.length) (fun rest X hP hN => lw_seg (coOk0 n P L 0 hp h1 rest X hP hN) (lw_seg (coOk1 n P L _ hl h2 rest X hP hN) (lw_end (coStop n P L _ rest X hP hN) (by simp))))) 1000 (by kernel_rfl)
end Go.Avm
