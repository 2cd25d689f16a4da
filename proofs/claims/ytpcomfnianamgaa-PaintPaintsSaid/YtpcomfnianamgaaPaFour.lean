/-
  The document's answer of paint: how many colours a node's neighbours have; is it a painting?
-/
import Derived.Test.YtpcomfnianamgaaPaThree
import Derived.Test.YtpcomfnianamgaaPaAw
set_option linter.unusedSectionVars false
namespace Go.Avm
open Go.Proofs

/-! ### Near -/
/-- A look at a pair, from its end k. -/
def nrHit (c : List Int) (i : Int) (seen : List Bool) (a b : Int) : Bool := a == i && b != i && decide (0 ≤ (c[b.toNat]?).getD 0) && !((seen[((c[b.toNat]?).getD 0).toNat]?).getD true)
def nrSee (c : List Int) (i : Int) (s : List Bool × Nat) (a b : Int) : List Bool × Nat := if nrHit c i s.1 a b then (s.1.set ((c[b.toNat]?).getD 0).toNat true, s.2 + 1) else s
/-- The two looks at a pair. -/
def nrPair (c : List Int) (i : Int) (s : List Bool × Nat) (p : Int × Int) : List Bool × Nat := nrSee c i (nrSee c i s p.1 p.2) p.2 p.1
def nearF (ps : List (Int × Int)) (c : List Int) (i : Int) : Nat := (ps.foldl (nrPair c i) (List.replicate 17 false, 0)).2
theorem nrSee_len (c : List Int) (i : Int) (s : List Bool × Nat) (a b : Int) : (nrSee c i s a b).1.length = s.1.length := by
  unfold nrSee
  split <;> simp
def nrL (ps : List (Int × Int)) (c : List Int) (i : Int) (w m j : Nat) (k : Nat) : List (Nat × AV) :=
  [(1, .d (.ro (c.map fun z => .int .i64 z))), (2, dI i), (7, .sl 78 1 0 17 1), (8, dN m), (10, .ptr 500205 w 0 0 1), (14, .d (pairsD ps)), (15, dN ps.length), (16, dN j), (20, dN k)]
def nrE (w : Nat) (seen : List AV) (x y : Int) : List (Nat × Ent) := [(78, ⟨1, some (.arr 1 seen)⟩), (500205, ⟨w, some (.arr 1 [dI x, dI y])⟩)]
section
variable (ps : List (Int × Int)) (c : List Int) (i : Int) (m j k w : Nat) (seen : List AV) (x y a b q : Int)
noncomputable def nrPr (b1 b2 b3 : Bool) (h1 : (a == i) = b1) (h2 : (b != i) = b2) (h3 : decide (0 ≤ q) = b3) (hb0 : 0 ≤ b) (hb : (c.map fun z => D.int .i64 z)[b.toNat]? = some (.int .i64 q)) (hint2 : Nat → Option (Hint Try.prog)) : Par Try.prog :=
  { hint := fun f s => if f = 72 then (if s = 31 then some (.val (dB (a == i)) (dB b1) (by rw [h1])) else if s = 35 then some (.val (dB (b != i)) (dB b2) (by rw [h2])) else if s = 40 ∨ s = 48 ∨ s = 57 then some (.idx (c.map fun z => D.int .i64 z) b (.int .i64 q) hb0 hb)
      else if s = 42 then some (.val (dB (decide (0 ≤ q))) (dB b3) (by rw [h3])) else hint2 s) else none }
theorem nrNo1 (hk : (k = 0 ∧ a = x ∧ b = y) ∨ (k = 1 ∧ a = y ∧ b = x)) (h1 : (a == i) = false) (rest : Heap) (X : Fix) (hP : X.P = Try.prog) (hN : X.N = 65) :
    AW X (loopOf Try.prog 72 7) ⟨envOf (nrL ps c i w m j k), ovl (nrE w seen x y) rest⟩ fun e' S' => e' = .normal ∧ Weak X S' ⟨envOf (nrL ps c i w m j (k + 1)), ovl (nrE w seen x y) rest⟩ := by
  rcases hk with ⟨rfl, rfl, rfl⟩ | ⟨rfl, rfl, rfl⟩
  · exact seg okP named { hint := fun f s => if f = 72 then (if s = 31 then some (.val (dB (a == i)) (dB false) (by rw [h1])) else none) else none } 1000 72 600000 65 (by kernel_rfl) X hP hN
  · exact seg okP named { hint := fun f s => if f = 72 then (if s = 31 then some (.val (dB (a == i)) (dB false) (by rw [h1])) else none) else none } 1000 72 600000 65 (by kernel_rfl) X hP hN
theorem nrNo2 (hk : (k = 0 ∧ a = x ∧ b = y) ∨ (k = 1 ∧ a = y ∧ b = x)) (h1 : (a == i) = true) (h2 : (b != i) = false) (rest : Heap) (X : Fix) (hP : X.P = Try.prog) (hN : X.N = 65) :
    AW X (loopOf Try.prog 72 7) ⟨envOf (nrL ps c i w m j k), ovl (nrE w seen x y) rest⟩ fun e' S' => e' = .normal ∧ Weak X S' ⟨envOf (nrL ps c i w m j (k + 1)), ovl (nrE w seen x y) rest⟩ := by
  rcases hk with ⟨rfl, rfl, rfl⟩ | ⟨rfl, rfl, rfl⟩
  · exact seg okP named { hint := fun f s => if f = 72 then (if s = 31 then some (.val (dB (a == i)) (dB true) (by rw [h1])) else if s = 35 then some (.val (dB (b != i)) (dB false) (by rw [h2])) else none) else none } 1000 72 600000 65 (by kernel_rfl) X hP hN
  · exact seg okP named { hint := fun f s => if f = 72 then (if s = 31 then some (.val (dB (a == i)) (dB true) (by rw [h1])) else if s = 35 then some (.val (dB (b != i)) (dB false) (by rw [h2])) else none) else none } 1000 72 600000 65 (by kernel_rfl) X hP hN
theorem nrNo3 (hk : (k = 0 ∧ a = x ∧ b = y) ∨ (k = 1 ∧ a = y ∧ b = x)) (h1 : (a == i) = true) (h2 : (b != i) = true) (h3 : decide (0 ≤ q) = false) (hb0 : 0 ≤ b) (hb : (c.map fun z => D.int .i64 z)[b.toNat]? = some (.int .i64 q)) (rest : Heap) (X : Fix) (hP : X.P = Try.prog) (hN : X.N = 65) :
    AW X (loopOf Try.prog 72 7) ⟨envOf (nrL ps c i w m j k), ovl (nrE w seen x y) rest⟩ fun e' S' => e' = .normal ∧ Weak X S' ⟨envOf (nrL ps c i w m j (k + 1)), ovl (nrE w seen x y) rest⟩ := by
  rcases hk with ⟨rfl, rfl, rfl⟩ | ⟨rfl, rfl, rfl⟩
  · exact seg okP named (nrPr c i a b q true true false h1 h2 h3 hb0 hb fun _ => none) 1000 72 600000 65 (by kernel_rfl) X hP hN
  · exact seg okP named (nrPr c i a b q true true false h1 h2 h3 hb0 hb fun _ => none) 1000 72 600000 65 (by kernel_rfl) X hP hN
noncomputable def nrHx (hq0 : 0 ≤ q) (hq : q.toNat < 17) (t : Bool) (ht : seen[0 + q.toNat]? = some (dB t)) (hm : m < 1099511627776) : Nat → Option (Hint Try.prog) := fun s =>
  if s = 50 ∨ s = 59 then some (.inb q 17 hq0 hq) else if s = 51 ∨ s = 111006 then some (.elt seen (0 + q.toNat) (dB t) ht) else if s = 61 then some (hSucc Try.prog m (by omega)) else none
theorem nrNo4 (hk : (k = 0 ∧ a = x ∧ b = y) ∨ (k = 1 ∧ a = y ∧ b = x)) (h1 : (a == i) = true) (h2 : (b != i) = true) (h3 : decide (0 ≤ q) = true) (hb0 : 0 ≤ b) (hb : (c.map fun z => D.int .i64 z)[b.toNat]? = some (.int .i64 q)) (hq0 : 0 ≤ q) (hq : q.toNat < 17) (ht : seen[0 + q.toNat]? = some (dB true)) (hm : m < 1099511627776) (rest : Heap) (X : Fix) (hP : X.P = Try.prog) (hN : X.N = 65) :
    AW X (loopOf Try.prog 72 7) ⟨envOf (nrL ps c i w m j k), ovl (nrE w seen x y) rest⟩ fun e' S' => e' = .normal ∧ Weak X S' ⟨envOf (nrL ps c i w m j (k + 1)), ovl (nrE w seen x y) rest⟩ := by
  rcases hk with ⟨rfl, rfl, rfl⟩ | ⟨rfl, rfl, rfl⟩
  · exact seg okP named (nrPr c i a b q true true true h1 h2 h3 hb0 hb (nrHx m seen q hq0 hq true ht hm)) 1000 72 600000 65 (by kernel_rfl) X hP hN
  · exact seg okP named (nrPr c i a b q true true true h1 h2 h3 hb0 hb (nrHx m seen q hq0 hq true ht hm)) 1000 72 600000 65 (by kernel_rfl) X hP hN
theorem nrYes (hk : (k = 0 ∧ a = x ∧ b = y) ∨ (k = 1 ∧ a = y ∧ b = x)) (h1 : (a == i) = true) (h2 : (b != i) = true) (h3 : decide (0 ≤ q) = true) (hb0 : 0 ≤ b) (hb : (c.map fun z => D.int .i64 z)[b.toNat]? = some (.int .i64 q)) (hq0 : 0 ≤ q) (hq : q.toNat < 17) (ht : seen[0 + q.toNat]? = some (dB false)) (hm : m < 1099511627776) (rest : Heap) (X : Fix) (hP : X.P = Try.prog) (hN : X.N = 65) :
    AW X (loopOf Try.prog 72 7) ⟨envOf (nrL ps c i w m j k), ovl (nrE w seen x y) rest⟩ fun e' S' => e' = .normal ∧ Weak X S' ⟨envOf (nrL ps c i w (m + 1) j (k + 1)), ovl (nrE w (seen.set (0 + q.toNat) (dB true)) x y) rest⟩ := by
  rcases hk with ⟨rfl, rfl, rfl⟩ | ⟨rfl, rfl, rfl⟩
  · exact seg okP named (nrPr c i a b q true true true h1 h2 h3 hb0 hb (nrHx m seen q hq0 hq false ht hm)) 1000 72 600000 65 (by kernel_rfl) X hP hN
  · exact seg okP named (nrPr c i a b q true true true h1 h2 h3 hb0 hb (nrHx m seen q hq0 hq false ht hm)) 1000 72 600000 65 (by kernel_rfl) X hP hN
theorem nrEnd (rest : Heap) (X : Fix) (hP : X.P = Try.prog) (hN : X.N = 65) :
    AW X (loopOf Try.prog 72 7) ⟨envOf (nrL ps c i w m j 2), ovl (nrE w seen x y) rest⟩ fun e' S' => e' = .exit 2 ∧ Weak X S' ⟨envOf (nrL ps c i w m j 2), ovl (nrE w seen x y) rest⟩ :=
  seg okP named {} 1000 72 600000 65 (by kernel_rfl) X hP hN
end
theorem getC {c : List Int} {b : Int} (h : b.toNat < c.length) : (c.map fun z => D.int .i64 z)[b.toNat]? = some (.int .i64 ((c[b.toNat]?).getD 0)) := by
  simp [h]
section
variable (ps : List (Int × Int)) (c : List Int) (hc : ∀ z ∈ c, z < 17) (i : Int) (j w : Nat) (x y : Int)
include hc
theorem nrRound (m k : Nat) (a b : Int) (seen : List Bool) (hk : (k = 0 ∧ a = x ∧ b = y) ∨ (k = 1 ∧ a = y ∧ b = x)) (hb0 : 0 ≤ b) (hbn : b.toNat < c.length) (hl : seen.length = 17) (hm : m < 1099511627776) (rest : Heap) (X : Fix) (hP : X.P = Try.prog) (hN : X.N = 65) :
    AW X (loopOf Try.prog 72 7) ⟨envOf (nrL ps c i w m j k), ovl (nrE w (seen.map dB) x y) rest⟩ fun e' S' => e' = .normal ∧ Weak X S' ⟨envOf (nrL ps c i w (nrSee c i (seen, m) a b).2 j (k + 1)), ovl (nrE w ((nrSee c i (seen, m) a b).1.map dB) x y) rest⟩ := by
  have hg := getC hbn
  unfold nrSee nrHit
  cases h1 : (a == i) with
  | false => simpa using nrNo1 ps c i m j k w (seen.map dB) x y a b hk h1 rest X hP hN
  | true =>
    cases h2 : (b != i) with
    | false => simpa using nrNo2 ps c i m j k w (seen.map dB) x y a b hk h1 h2 rest X hP hN
    | true =>
      have hq17 : (c[b.toNat]?).getD 0 < 17 := by
        rw [List.getElem?_eq_getElem hbn]
        exact hc _ (List.getElem_mem hbn)
      generalize (c[b.toNat]?).getD 0 = q at hg hq17
      cases h3 : decide (0 ≤ q) with
      | false => simpa using nrNo3 ps c i m j k w (seen.map dB) x y a b q hk h1 h2 h3 hb0 hg rest X hP hN
      | true =>
        have hq0 : 0 ≤ q := by simpa using h3
        have hqs : q.toNat < seen.length := by omega
        cases h4 : seen[q.toNat] with
        | true =>
          have := nrNo4 ps c i m j k w (seen.map dB) x y a b q hk h1 h2 h3 hb0 hg hq0 (by omega) (getMapB (by rw [List.getElem?_eq_getElem hqs, h4])) hm rest X hP hN
          simpa [List.getElem?_eq_getElem hqs, h4] using this
        | false =>
          have := nrYes ps c i m j k w (seen.map dB) x y a b q hk h1 h2 h3 hb0 hg hq0 (by omega) (getMapB (by rw [List.getElem?_eq_getElem hqs, h4])) hm rest X hP hN
          rw [Nat.zero_add, mapSetB] at this
          simpa [List.getElem?_eq_getElem hqs, h4] using this
theorem nrInner (m : Nat) (seen : List Bool) (hx0 : 0 ≤ x) (hxn : x.toNat < c.length) (hy0 : 0 ≤ y) (hyn : y.toNat < c.length) (hl : seen.length = 17) (hm : m < 1000000000000) (rest : Heap) (X : Fix) (hP : X.P = Try.prog) (hN : X.N = 65) :
    LW X (loopOf Try.prog 72 7) ⟨envOf (nrL ps c i w m j 0), ovl (nrE w (seen.map dB) x y) rest⟩ fun e' S' => e' = .exit 2 ∧ S' = ⟨envOf (nrL ps c i w (nrPair c i (seen, m) (x, y)).2 j 2), ovl (nrE w ((nrPair c i (seen, m) (x, y)).1.map dB) x y) rest⟩ := by
  have hm2 : (nrSee c i (seen, m) x y).2 ≤ m + 1 := by
    unfold nrSee
    split <;> simp
  exact lw_seg (nrRound ps c hc i j w x y m 0 x y seen (.inl ⟨rfl, rfl, rfl⟩) hy0 hyn hl (by omega) rest X hP hN)
    (lw_seg (nrRound ps c hc i j w x y _ 1 y x _ (.inr ⟨rfl, rfl, rfl⟩) hx0 hxn (by rw [nrSee_len]; exact hl) (by omega) rest X hP hN) (lw_end (nrEnd ps c i _ j w _ x y rest X hP hN) (by simp)))
end
theorem nrPair_len (c : List Int) (i : Int) (s : List Bool × Nat) (p : Int × Int) : (nrPair c i s p).1.length = s.1.length := by
  rw [nrPair, nrSee_len, nrSee_len]
theorem nrPair_le (c : List Int) (i : Int) (s : List Bool × Nat) (p : Int × Int) : (nrPair c i s p).2 ≤ s.2 + 2 := by
  have h : ∀ (s : List Bool × Nat) a b, (nrSee c i s a b).2 ≤ s.2 + 1 := fun s a b => by
    unfold nrSee
    split <;> simp
  have h1 := h s p.1 p.2
  have h2 := h (nrSee c i s p.1 p.2) p.2 p.1
  unfold nrPair
  omega
def nrAt (ps : List (Int × Int)) (c : List Int) (i : Int) (j : Nat) : List Bool × Nat := (ps.take j).foldl (nrPair c i) (List.replicate 17 false, 0)
theorem nrAt_succ {ps : List (Int × Int)} {c : List Int} {i : Int} {j : Nat} (h : j < ps.length) : nrAt ps c i (j + 1) = nrPair c i (nrAt ps c i j) ps[j] := by
  rw [nrAt, List.take_succ_eq_append_getElem h, List.foldl_append]
  rfl
theorem nrAt_len (ps : List (Int × Int)) (c : List Int) (i : Int) (j : Nat) : (nrAt ps c i j).1.length = 17 := by
  have : ∀ (l : List (Int × Int)) (s : List Bool × Nat), (l.foldl (nrPair c i) s).1.length = s.1.length := by
    intro l
    induction l with
    | nil => intro s; rfl
    | cons p l ih => intro s; rw [List.foldl_cons, ih, nrPair_len]
  rw [nrAt, this, List.length_replicate]
theorem nrAt_le (ps : List (Int × Int)) (c : List Int) (i : Int) (j : Nat) : (nrAt ps c i j).2 ≤ 2 * ps.length := by
  have : ∀ (l : List (Int × Int)) (s : List Bool × Nat), (l.foldl (nrPair c i) s).2 ≤ s.2 + 2 * l.length := by
    intro l
    induction l with
    | nil => intro s; exact Nat.le_refl _
    | cons p l ih =>
      intro s
      rw [List.foldl_cons]
      have h1 := ih (nrPair c i s p)
      have h2 := nrPair_le c i s p
      simp only [List.length_cons]
      omega
  have h := this (ps.take j) (List.replicate 17 false, 0)
  have hl : (ps.take j).length ≤ ps.length := by simp; omega
  unfold nrAt
  simp only at h
  omega
def noL (ps : List (Int × Int)) (c : List Int) (i : Int) (m j : Nat) : List (Nat × AV) :=
  [(1, .d (.ro (c.map fun z => .int .i64 z))), (2, dI i), (7, .sl 78 1 0 17 1), (8, dN m), (14, .d (pairsD ps)), (15, dN ps.length), (16, dN j)]
def noE (w : Nat) (seen : List AV) : List (Nat × Ent) := [(78, ⟨1, some (.arr 1 seen)⟩), (500205, ⟨w, none⟩)]
section
variable (ps : List (Int × Int)) (c : List Int) (i : Int) (m m' j w : Nat) (seen seen' : List AV) (x y : Int)
noncomputable def noPr (hj : j < ps.length) (hs : j < 9223372036854775807) (hp : ps[j] = (x, y)) (h : ∀ (rest : Heap) (X : Fix), X.P = Try.prog → X.N = 65 → LW X (loopOf Try.prog 72 7) ⟨envOf (nrL ps c i (w + 1) m j 0), ovl (nrE (w + 1) seen x y) rest⟩ fun e' S' => e' = .exit 2 ∧ S' = ⟨envOf (nrL ps c i (w + 1) m' j 2), ovl (nrE (w + 1) seen' x y) rest⟩) : Par Try.prog :=
  { hint := fun f s => if f = 72 then (if s = 17 then some (hLt Try.prog j ps.length true (by simpa using hj)) else if s = 18 then some (.idx (ps.map pairD) ((j : Nat) : Int) (pairD (x, y)) (by omega) (by rw [← hp]; exact getP hj)) else if s = 63 then some (hSucc Try.prog j hs) else none) else none
    loops := fun f r => if f = 72 then (if r = 7 then some ⟨65, loopOf Try.prog 72 7, nrL ps c i (w + 1) m j 0, fun _ => nrE (w + 1) seen x y, .exit 2, nrL ps c i (w + 1) m' j 2, fun _ => nrE (w + 1) seen' x y, fun rest X hP hN => (h rest X hP hN).aw⟩ else none) else none }
theorem noRound (hj : j < ps.length) (hs : j < 9223372036854775807) (hp : ps[j] = (x, y)) (h : ∀ (rest : Heap) (X : Fix), X.P = Try.prog → X.N = 65 → LW X (loopOf Try.prog 72 7) ⟨envOf (nrL ps c i (w + 1) m j 0), ovl (nrE (w + 1) seen x y) rest⟩ fun e' S' => e' = .exit 2 ∧ S' = ⟨envOf (nrL ps c i (w + 1) m' j 2), ovl (nrE (w + 1) seen' x y) rest⟩) (rest : Heap) (X : Fix) (hP : X.P = Try.prog) (hN : X.N = 65) :
    AW X (loopOf Try.prog 72 4) ⟨envOf (noL ps c i m j), ovl (noE w seen) rest⟩ fun e' S' => e' = .normal ∧ Weak X S' ⟨envOf (noL ps c i m' (j + 1)), ovl (noE (w + 1) seen') rest⟩ :=
  seg okP named (noPr ps c i m m' j w seen seen' x y hj hs hp h) 1000 72 500000 65 (by kernel_rfl) X hP hN
theorem noStop (rest : Heap) (X : Fix) (hP : X.P = Try.prog) (hN : X.N = 65) :
    AW X (loopOf Try.prog 72 4) ⟨envOf (noL ps c i m ps.length), ovl (noE w seen) rest⟩ fun e' S' => e' = .exit 0 ∧ Weak X S' ⟨envOf [(8, dN m)], ovl (noE w seen) rest⟩ :=
  seg okP named { hint := fun f s => if f = 72 then (if s = 17 then some (hLt Try.prog ps.length ps.length false (by simp)) else none) else none } 1000 72 500000 65 (by kernel_rfl) X hP hN
end
def noH (ps : List (Int × Int)) (c : List Int) (i : Int) (j : Nat) (rest : Heap) : List (Nat × Ent) := noE ((rest 500205).ver + j) ((nrAt ps c i j).1.map dB)
theorem noLoop (ps : List (Int × Int)) (c : List Int) (i : Int) (hc : ∀ z ∈ c, z < 17) (hl : ps.length ≤ 100000000000) (hr : ∀ p ∈ ps, (0 ≤ p.1 ∧ p.1.toNat < c.length) ∧ 0 ≤ p.2 ∧ p.2.toNat < c.length) (rest : Heap) (X : Fix) (hP : X.P = Try.prog) (hN : X.N = 65) :
    AW X (.loop (loopOf Try.prog 72 4)) ⟨envOf (noL ps c i 0 0), ovl (noH ps c i 0 rest) rest⟩ fun e' S' => e' = .exit 0 ∧ S' = ⟨envOf [(8, dN (nearF ps c i))], ovl (noH ps c i ps.length rest) rest⟩ := by
  refine loop_of_segs (P := Try.prog) (N := 65) (c := loopOf Try.prog 72 4) (fun j => noL ps c i (nrAt ps c i j).2 j) (fun j rest => noH ps c i j rest) (fun j => j ≤ ps.length) (fun j => ps.length - j) (.exit 0) [(8, dN (nearF ps c i))] (fun rest => noH ps c i ps.length rest) 0 (Nat.zero_le _) (by simp) (fun rest j hj => ?_) rest X hP hN
  rcases Nat.lt_or_ge j ps.length with h | h
  · obtain ⟨⟨h0, h1⟩, g0, g1⟩ := hr _ (List.getElem_mem h)
    refine .inl ⟨j + 1, h, by omega, fun X hP hN => ?_⟩
    have hle := nrAt_le ps c i j
    have := noRound ps c i (nrAt ps c i j).2 (nrPair c i (nrAt ps c i j) ps[j]).2 j ((rest 500205).ver + j) ((nrAt ps c i j).1.map dB) ((nrPair c i (nrAt ps c i j) ps[j]).1.map dB) ps[j].1 ps[j].2 h (by omega) rfl
      (fun rest X hP hN => nrInner ps c hc i j _ ps[j].1 ps[j].2 _ _ h0 h1 g0 g1 (nrAt_len ps c i j) (by omega) rest X hP hN) rest X hP hN
    unfold noH
    rw [nrAt_succ h]
    exact this
  · have : j = ps.length := by omega
    subst this
    refine .inr fun X hP hN => ?_
    have h2 : nearF ps c i = (nrAt ps c i ps.length).2 := by rw [nearF, nrAt, List.take_length]
    rw [h2]
    exact noStop ps c i _ _ _ rest X hP hN
/-- Near. -/
theorem nearC (ps : List (Int × Int)) (c : List Int) (i : Int) (hc : ∀ z ∈ c, z < 17) (hl : ps.length ≤ 100000000000) (hr : ∀ p ∈ ps, (0 ≤ p.1 ∧ p.1.toNat < c.length) ∧ 0 ≤ p.2 ∧ p.2.toNat < c.length) :
    Pure Try.prog 72 [pairsD ps, .ro (c.map fun z => .int .i64 z), .int .i64 i] [.int .i64 (nearF ps c i : Nat)] :=
  pure_of_run okP named { hint := fun f s => if f = 72 then (if s = 15 then some (.val (dN (ps.map pairD).length) (dN ps.length) (by simp)) else none) else none
                          loops := fun f r => if f = 72 then (if r = 4 then some ⟨65, loopOf Try.prog 72 4, noL ps c i 0 0, fun rest => noH ps c i 0 rest, .exit 0, [(8, dN (nearF ps c i))], fun rest => noH ps c i ps.length rest, noLoop ps c i hc hl hr⟩ else none) else none } 1000 (by kernel_rfl)
end Go.Avm
/-
  The document's answer of paint: Right, where it says yes.
-/
set_option linter.unusedSectionVars false
namespace Go.Avm
open Go.Proofs

abbrev cD (c : List Int) : D := .ro (c.map fun z => .int .i64 z)
def rgL (ps : List (Int × Int)) (K : Nat) (c : List Int) : List (Nat × AV) := [(1, .d (pairsD ps)), (2, dN K), (3, .d (cD c))]
def rg1 (ps : List (Int × Int)) (K : Nat) (c : List Int) (i : Nat) : List (Nat × AV) := [(1, .d (pairsD ps)), (2, dN K), (3, .d (cD c)), (19, .d (cD c)), (20, dN c.length), (21, dN i)]
def rg2 (ps : List (Int × Int)) (K : Nat) (c : List Int) (i : Nat) : List (Nat × AV) := [(1, .d (pairsD ps)), (2, dN K), (3, .d (cD c)), (33, .d (pairsD ps)), (34, dN ps.length), (35, dN i)]
def rg3 (ps : List (Int × Int)) (K : Nat) (c : List Int) (i : Nat) : List (Nat × AV) := [(1, .d (pairsD ps)), (2, dN K), (3, .d (cD c)), (66, .d (cD c)), (67, dN c.length), (68, dN i)]
def rgE (w : Nat) : List (Nat × Ent) := [(500264, ⟨w, none⟩)]
theorem getCN {c : List Int} {i : Nat} (h : i < c.length) : (c.map fun z => D.int .i64 z)[((i : Nat) : Int).toNat]? = some (.int .i64 c[i]) := by simp [h]
section
variable (ps : List (Int × Int)) (K : Nat) (c : List Int) (i w : Nat) (x y z q r : Int)
theorem rg1Round (hi : i < c.length) (hs : i < 9223372036854775807) (hz : c[i] = z) (h1 : decide (z < -1) = false) (h2 : decide ((K : Int) ≤ z) = false) (rest : Heap) (X : Fix) (hP : X.P = Try.prog) (hN : X.N = 84) :
    AW X (loopOf Try.prog 34 4) ⟨envOf (rg1 ps K c i), ovl [] rest⟩ fun e' S' => e' = .normal ∧ Weak X S' ⟨envOf (rg1 ps K c (i + 1)), ovl [] rest⟩ :=
  seg okP named { hint := fun f s => if f = 34 then (if s = 22 then some (hLt Try.prog i c.length true (by simpa using hi)) else if s = 23 then some (.idx (c.map fun z => D.int .i64 z) ((i : Nat) : Int) (.int .i64 z) (by omega) (by rw [← hz]; exact getCN hi))
    else if s = 26 then some (.val (dB (decide (z < -1))) (dB false) (by rw [h1])) else if s = 30 then some (.val (dB (decide ((K : Int) ≤ z))) (dB false) (by rw [h2])) else if s = 32 then some (hSucc Try.prog i hs) else none) else none } 1000 34 500000 84 (by kernel_rfl) X hP hN
theorem rg1Stop (rest : Heap) (X : Fix) (hP : X.P = Try.prog) (hN : X.N = 84) :
    AW X (loopOf Try.prog 34 4) ⟨envOf (rg1 ps K c c.length), ovl [] rest⟩ fun e' S' => e' = .exit 0 ∧ Weak X S' ⟨envOf (rgL ps K c), ovl [] rest⟩ :=
  seg okP named { hint := fun f s => if f = 34 then (if s = 22 then some (hLt Try.prog c.length c.length false (by simp)) else none) else none } 1000 34 500000 84 (by kernel_rfl) X hP hN
noncomputable def rg2Pr (hi : i < ps.length) (hs : i < 9223372036854775807) (hp : ps[i] = (x, y)) (t : Bool) (ht : (x != y) = t) (hint2 : Nat → Option (Hint Try.prog)) : Par Try.prog :=
  { hint := fun f s => if f = 34 then (if s = 36 then some (hLt Try.prog i ps.length true (by simpa using hi)) else if s = 37 then some (.idx (ps.map pairD) ((i : Nat) : Int) (pairD (x, y)) (by omega) (by rw [← hp]; exact getP hi)) else if s = 43 then some (.val (dB (x != y)) (dB t) (by rw [ht])) else if s = 65 then some (hSucc Try.prog i hs) else hint2 s) else none }
noncomputable def rg2Hx (hx0 : 0 ≤ x) (hx : (c.map fun z => D.int .i64 z)[x.toNat]? = some (.int .i64 q)) (g : Bool) (hg : decide (0 ≤ q) = g) (hint2 : Nat → Option (Hint Try.prog)) : Nat → Option (Hint Try.prog) := fun s =>
  if s = 48 ∨ s = 56 then some (.idx (c.map fun z => D.int .i64 z) x (.int .i64 q) hx0 hx) else if s = 50 then some (.val (dB (decide (0 ≤ q))) (dB g) (by rw [hg])) else hint2 s
theorem rg2Same (hi : i < ps.length) (hs : i < 9223372036854775807) (hp : ps[i] = (x, y)) (ht : (x != y) = false) (rest : Heap) (X : Fix) (hP : X.P = Try.prog) (hN : X.N = 84) :
    AW X (loopOf Try.prog 34 10) ⟨envOf (rg2 ps K c i), ovl (rgE w) rest⟩ fun e' S' => e' = .normal ∧ Weak X S' ⟨envOf (rg2 ps K c (i + 1)), ovl (rgE (w + 1)) rest⟩ :=
  seg okP named (rg2Pr ps i x y hi hs hp false ht fun _ => none) 1000 34 500000 84 (by kernel_rfl) X hP hN
theorem rg2Neg (hi : i < ps.length) (hs : i < 9223372036854775807) (hp : ps[i] = (x, y)) (ht : (x != y) = true) (hx0 : 0 ≤ x) (hx : (c.map fun z => D.int .i64 z)[x.toNat]? = some (.int .i64 q)) (hg : decide (0 ≤ q) = false) (rest : Heap) (X : Fix) (hP : X.P = Try.prog) (hN : X.N = 84) :
    AW X (loopOf Try.prog 34 10) ⟨envOf (rg2 ps K c i), ovl (rgE w) rest⟩ fun e' S' => e' = .normal ∧ Weak X S' ⟨envOf (rg2 ps K c (i + 1)), ovl (rgE (w + 1)) rest⟩ :=
  seg okP named (rg2Pr ps i x y hi hs hp true ht (rg2Hx c x q hx0 hx false hg fun _ => none)) 1000 34 500000 84 (by kernel_rfl) X hP hN
theorem rg2Pos (hi : i < ps.length) (hs : i < 9223372036854775807) (hp : ps[i] = (x, y)) (ht : (x != y) = true) (hx0 : 0 ≤ x) (hx : (c.map fun z => D.int .i64 z)[x.toNat]? = some (.int .i64 q)) (hg : decide (0 ≤ q) = true) (hy0 : 0 ≤ y) (hy : (c.map fun z => D.int .i64 z)[y.toNat]? = some (.int .i64 r)) (he : (q == r) = false) (rest : Heap) (X : Fix) (hP : X.P = Try.prog) (hN : X.N = 84) :
    AW X (loopOf Try.prog 34 10) ⟨envOf (rg2 ps K c i), ovl (rgE w) rest⟩ fun e' S' => e' = .normal ∧ Weak X S' ⟨envOf (rg2 ps K c (i + 1)), ovl (rgE (w + 1)) rest⟩ :=
  seg okP named (rg2Pr ps i x y hi hs hp true ht (rg2Hx c x q hx0 hx true hg fun s => if s = 61 then some (.idx (c.map fun z => D.int .i64 z) y (.int .i64 r) hy0 hy) else if s = 63 then some (hEqI Try.prog q r false he) else none)) 1000 34 500000 84 (by kernel_rfl) X hP hN
theorem rg2Stop (rest : Heap) (X : Fix) (hP : X.P = Try.prog) (hN : X.N = 84) :
    AW X (loopOf Try.prog 34 10) ⟨envOf (rg2 ps K c ps.length), ovl (rgE w) rest⟩ fun e' S' => e' = .exit 2 ∧ Weak X S' ⟨envOf (rgL ps K c), ovl (rgE w) rest⟩ :=
  seg okP named { hint := fun f s => if f = 34 then (if s = 36 then some (hLt Try.prog ps.length ps.length false (by simp)) else none) else none } 1000 34 500000 84 (by kernel_rfl) X hP hN
noncomputable def rg3Pr (hi : i < c.length) (hs : i < 9223372036854775807) (hz : c[i] = z) (t : Bool) (ht : decide (z < 0) = t) (hint2 : Nat → Option (Hint Try.prog)) : Par Try.prog :=
  { hint := fun f s => if f = 34 then (if s = 69 then some (hLt Try.prog i c.length true (by simpa using hi)) else if s = 71 then some (.idx (c.map fun z => D.int .i64 z) ((i : Nat) : Int) (.int .i64 z) (by omega) (by rw [← hz]; exact getCN hi)) else if s = 74 then some (.val (dB (decide (z < 0))) (dB t) (by rw [ht])) else if s = 83 then some (hSucc Try.prog i hs) else hint2 s) else none }
theorem rg3Pos (hi : i < c.length) (hs : i < 9223372036854775807) (hz : c[i] = z) (ht : decide (z < 0) = false) (rest : Heap) (X : Fix) (hP : X.P = Try.prog) (hN : X.N = 84) :
    AW X (loopOf Try.prog 34 16) ⟨envOf (rg3 ps K c i), ovl [] rest⟩ fun e' S' => e' = .normal ∧ Weak X S' ⟨envOf (rg3 ps K c (i + 1)), ovl [] rest⟩ :=
  seg okP named (rg3Pr c i z hi hs hz false ht fun _ => none) 1000 34 500000 84 (by kernel_rfl) X hP hN
theorem rg3Neg (m : Nat) (hi : i < c.length) (hs : i < 9223372036854775807) (hz : c[i] = z) (ht : decide (z < 0) = true) (hm : Pure Try.prog 72 [pairsD ps, cD c, .int .i64 (i : Int)] [.int .i64 (m : Int)]) (hk : decide ((m : Int) < (K : Int)) = false) (rest : Heap) (X : Fix) (hP : X.P = Try.prog) (hN : X.N = 84) :
    AW X (loopOf Try.prog 34 16) ⟨envOf (rg3 ps K c i), ovl [] rest⟩ fun e' S' => e' = .normal ∧ Weak X S' ⟨envOf (rg3 ps K c (i + 1)), ovl [] rest⟩ :=
  seg okP named (rg3Pr c i z hi hs hz true ht fun s => if s = 79 then some (.call 72 [pairsD ps, cD c, .int .i64 (i : Int)] [.int .i64 (m : Int)] hm) else if s = 81 then some (.val (dB (decide ((m : Int) < (K : Int)))) (dB false) (by rw [hk])) else none) 1000 34 500000 84 (by kernel_rfl) X hP hN
theorem rg3Stop (rest : Heap) (X : Fix) (hP : X.P = Try.prog) (hN : X.N = 84) :
    AW X (loopOf Try.prog 34 16) ⟨envOf (rg3 ps K c c.length), ovl [] rest⟩ fun e' S' => e' = .exit 4 ∧ Weak X S' ⟨envOf [], ovl [] rest⟩ :=
  seg okP named { hint := fun f s => if f = 34 then (if s = 69 then some (hLt Try.prog c.length c.length false (by simp)) else none) else none } 1000 34 500000 84 (by kernel_rfl) X hP hN
end
end Go.Avm
/-
  The document's answer of paint: Right says yes to a painting.
-/
set_option linter.unusedSectionVars false
namespace Go.Avm
open Go.Proofs

/-! ### How many colours are near -/
theorem count_set {l : List Bool} {q : Nat} (h : l[q]? = some false) : (l.set q true).count true = l.count true + 1 := by
  induction l generalizing q with
  | nil => simp at h
  | cons b l ih =>
    cases q with
    | zero =>
      simp at h
      subst h
      simp
    | succ q =>
      simp at h
      simp only [List.set_cons_succ, List.count_cons]
      rw [ih h]
      omega
theorem count_ge {l : List Bool} {K : Nat} (h : ∀ q, q < K → l[q]? = some true) : K ≤ l.count true := by
  induction K generalizing l with
  | zero => exact Nat.zero_le _
  | succ K ih =>
    cases l with
    | nil => have := h 0 (by omega); simp at this
    | cons b l =>
      have h0 := h 0 (by omega)
      simp at h0
      subst h0
      have := ih (l := l) (fun q hq => by simpa using h (q + 1) (by omega))
      simp
      omega
theorem nrSee_count {c : List Int} {i : Int} {s : List Bool × Nat} {a b : Int} (hs : s.2 = s.1.count true) : (nrSee c i s a b).2 = (nrSee c i s a b).1.count true := by
  unfold nrSee
  by_cases h : nrHit c i s.1 a b = true
  · rw [if_pos h]
    unfold nrHit at h
    simp only [Bool.and_eq_true, Bool.not_eq_true'] at h
    have h2 : s.1[((c[b.toNat]?).getD 0).toNat]? = some false := by
      have := h.2
      cases hq : s.1[((c[b.toNat]?).getD 0).toNat]? with
      | none => rw [hq] at this; simp at this
      | some v => rw [hq] at this; simp at this; rw [this]
    simp only
    rw [count_set h2, hs]
  · rw [if_neg h]
    exact hs
theorem nrSee_mono {c : List Int} {i : Int} {s : List Bool × Nat} {a b : Int} {q : Nat} (h : s.1[q]? = some true) : (nrSee c i s a b).1[q]? = some true := by
  unfold nrSee
  split
  · simp only
    rw [List.getElem?_set]
    have := (List.getElem?_eq_some_iff.1 h).1
    split
    · rw [if_pos (by omega)]
    · exact h
  · exact h
theorem nrSee_hit {c : List Int} {i : Int} {s : List Bool × Nat} {a b : Int} {q : Nat} (ha : a = i) (hb : b ≠ i) (hq : (c[b.toNat]?).getD 0 = (q : Int)) (hl : q < s.1.length) : (nrSee c i s a b).1[q]? = some true := by
  unfold nrSee nrHit
  rw [hq]
  have h1 : (a == i) = true := by simpa using ha
  have h2 : (b != i) = true := by simpa using hb
  have h3 : decide (0 ≤ (q : Int)) = true := by simp
  rw [h1, h2, h3, Int.toNat_natCast]
  cases hv : s.1[q] with
  | true =>
    have e : s.1[q]? = some true := by rw [List.getElem?_eq_getElem hl, hv]
    simp [e]
  | false =>
    have e : s.1[q]? = some false := by rw [List.getElem?_eq_getElem hl, hv]
    simp only [e, Option.getD_some, Bool.and_self, Bool.not_false, if_true, Bool.and_true]
    rw [List.getElem?_set_self hl]
theorem nrFold {c : List Int} {i : Int} : ∀ (l : List (Int × Int)) (s : List Bool × Nat), s.2 = s.1.count true → s.1.length = 17 →
    (l.foldl (nrPair c i) s).2 = (l.foldl (nrPair c i) s).1.count true ∧ (∀ q : Nat, s.1[q]? = some true → (l.foldl (nrPair c i) s).1[q]? = some true) ∧
      ∀ q : Nat, q < 17 → ∀ y, Nbr l i y → (c[y.toNat]?).getD 0 = (q : Int) → (l.foldl (nrPair c i) s).1[q]? = some true
  | [], s, hs, hl => ⟨hs, fun q h => h, fun q _ y ⟨p, hp, _⟩ => by cases hp⟩
  | p :: l, s, hs, hl => by
    obtain ⟨g1, g2, g3⟩ := nrFold (c := c) (i := i) l (nrPair c i s p) (nrSee_count (nrSee_count hs)) (by rw [nrPair_len]; exact hl)
    rw [List.foldl_cons]
    refine ⟨g1, fun q h => g2 q (nrSee_mono (nrSee_mono h)), fun q hq y ⟨p', hp', hne, h⟩ hc => ?_⟩
    rcases List.mem_cons.1 hp' with rfl | hp'
    · refine g2 q ?_
      unfold nrPair
      rcases h with ⟨h1, h2⟩ | ⟨h1, h2⟩
      · exact nrSee_mono (nrSee_hit h1 (by rw [← h1]; exact Ne.symm hne) (by rw [h2]; exact hc) (by rw [hl]; exact hq))
      · exact nrSee_hit h1 (by rw [← h1]; exact hne) (by rw [h2]; exact hc) (by rw [nrSee_len, hl]; exact hq)
    · exact g3 q hq y ⟨p', hp', hne, h⟩ hc
theorem near_ge {ps : List (Int × Int)} {c : List Int} {i : Int} {K : Nat} (hK : K ≤ 16) (h : ∀ q : Nat, q < K → ∃ y, Nbr ps i y ∧ (c[y.toNat]?).getD 0 = (q : Int)) : K ≤ nearF ps c i := by
  obtain ⟨g1, _, g3⟩ := nrFold (c := c) (i := i) ps (List.replicate 17 false, 0) (by decide) (by simp)
  unfold nearF
  rw [g1]
  refine count_ge (fun q hq => ?_)
  obtain ⟨y, h1, h2⟩ := h q hq
  exact g3 q (by omega) y h1 h2

/-! ### Right -/
def rgH (j : Nat) (rest : Heap) : List (Nat × Ent) := rgE ((rest 500264).ver + j)
theorem rightC2 {n K : Nat} {ps : List (Int × Int)} {c : List Int} (hn : n ≤ 60000) (hK : K ≤ 16) (hl : ps.length ≤ 1000000) (hp : ps.all (inP n) = true) (hc : Painted n K ps c) :
    Pure Try.prog 34 [.int .i64 n, pairsD ps, .int .i64 K, cD c] [.bool true] := by
  have hpr : ∀ p ∈ ps, (0 ≤ p.1 ∧ p.1.toNat < n) ∧ 0 ≤ p.2 ∧ p.2.toNat < n := fun p h => inP_iff.1 (List.all_eq_true.1 hp p h)
  have hlen := hc.len
  have h1 : ∀ (rest : Heap) (X : Fix), X.P = Try.prog → X.N = 84 → AW X (.loop (loopOf Try.prog 34 4)) ⟨envOf (rg1 ps K c 0), ovl [] rest⟩ fun e' S' => e' = .exit 0 ∧ S' = ⟨envOf (rgL ps K c), ovl [] rest⟩ := fun rest X hP hN => by
    refine loop_of_segs (P := Try.prog) (N := 84) (c := loopOf Try.prog 34 4) (fun i => rg1 ps K c i) (fun _ _ => []) (fun i => i ≤ c.length) (fun i => c.length - i) (.exit 0) (rgL ps K c) (fun _ => []) 0 (Nat.zero_le _) (by simp) (fun rest i hi => ?_) rest X hP hN
    rcases Nat.lt_or_ge i c.length with h | h
    · obtain ⟨g1, g2⟩ := hc.rng _ (List.getElem_mem h)
      exact .inl ⟨i + 1, h, by omega, fun X hP hN => rg1Round ps K c i c[i] h (by omega) rfl (by simp; omega) (by simp; omega) rest X hP hN⟩
    · have : i = c.length := by omega
      subst this
      exact .inr fun X hP hN => rg1Stop ps K c rest X hP hN
  have h2 : ∀ (rest : Heap) (X : Fix), X.P = Try.prog → X.N = 84 → AW X (.loop (loopOf Try.prog 34 10)) ⟨envOf (rg2 ps K c 0), ovl (rgH 0 rest) rest⟩ fun e' S' => e' = .exit 2 ∧ S' = ⟨envOf (rgL ps K c), ovl (rgH ps.length rest) rest⟩ := fun rest X hP hN => by
    refine loop_of_segs (P := Try.prog) (N := 84) (c := loopOf Try.prog 34 10) (fun i => rg2 ps K c i) (fun i rest => rgH i rest) (fun i => i ≤ ps.length) (fun i => ps.length - i) (.exit 2) (rgL ps K c) (fun rest => rgH ps.length rest) 0 (Nat.zero_le _) (by simp) (fun rest i hi => ?_) rest X hP hN
    rcases Nat.lt_or_ge i ps.length with h | h
    · obtain ⟨⟨x0, x1⟩, y0, y1⟩ := hpr _ (List.getElem_mem h)
      refine .inl ⟨i + 1, h, by omega, fun X hP hN => ?_⟩
      by_cases he : ps[i].1 = ps[i].2
      · exact rg2Same ps K c i _ ps[i].1 ps[i].2 h (by omega) rfl (by simp [he]) rest X hP hN
      · have hgx := getC (c := c) (b := ps[i].1) (by omega)
        have hgy := getC (c := c) (b := ps[i].2) (by omega)
        by_cases hq : 0 ≤ (c[ps[i].1.toNat]?).getD 0
        · have hne := hc.ne ps[i].1 ps[i].2 ⟨ps[i], List.getElem_mem h, he, .inl ⟨rfl, rfl⟩⟩ hq
          exact rg2Pos ps K c i _ ps[i].1 ps[i].2 _ _ h (by omega) rfl (by simp [he]) x0 hgx (by simpa using hq) y0 hgy (by simpa using hne) rest X hP hN
        · exact rg2Neg ps K c i _ ps[i].1 ps[i].2 _ h (by omega) rfl (by simp [he]) x0 hgx (by simpa using hq) rest X hP hN
    · have : i = ps.length := by omega
      subst this
      exact .inr fun X hP hN => rg2Stop ps K c _ rest X hP hN
  have h3 : ∀ (rest : Heap) (X : Fix), X.P = Try.prog → X.N = 84 → AW X (.loop (loopOf Try.prog 34 16)) ⟨envOf (rg3 ps K c 0), ovl [] rest⟩ fun e' S' => e' = .exit 4 ∧ S' = ⟨envOf [], ovl [] rest⟩ := fun rest X hP hN => by
    refine loop_of_segs (P := Try.prog) (N := 84) (c := loopOf Try.prog 34 16) (fun i => rg3 ps K c i) (fun _ _ => []) (fun i => i ≤ c.length) (fun i => c.length - i) (.exit 4) [] (fun _ => []) 0 (Nat.zero_le _) (by simp) (fun rest i hi => ?_) rest X hP hN
    rcases Nat.lt_or_ge i c.length with h | h
    · refine .inl ⟨i + 1, h, by omega, fun X hP hN => ?_⟩
      by_cases hz : c[i] < 0
      · have hnear := nearC ps c (i : Int) (fun z hz => by have := (hc.rng z hz).2; omega) (by omega) (by rw [hlen]; exact hpr)
        have hge := near_ge (ps := ps) (c := c) (i := (i : Int)) hK (hc.full (i : Int) (by omega) (by simp; omega) (by rw [Int.toNat_natCast, List.getElem?_eq_getElem h]; exact hz))
        exact rg3Neg ps K c i c[i] (nearF ps c i) h (by omega) rfl (by simpa using hz) hnear (by simp; omega) rest X hP hN
      · exact rg3Pos ps K c i c[i] h (by omega) rfl (by simpa using hz) rest X hP hN
    · have : i = c.length := by omega
      subst this
      exact .inr fun X hP hN => rg3Stop ps K c rest X hP hN
  exact pure_of_run okP named {
    hint := fun f s => if f = 34 then (if s = 16 then some (.val (dN (c.map fun z => D.int .i64 z).length) (dN n) (by simp [hlen])) else if s = 18 then some (.val (dB ((n : Int) != (n : Int))) (dB false) (by simp)) else if s = 20 ∨ s = 67 then some (.val (dN (c.map fun z => D.int .i64 z).length) (dN c.length) (by simp))
      else if s = 34 then some (.val (dN (ps.map pairD).length) (dN ps.length) (by simp)) else none) else none
    loops := fun f r => if f = 34 then (if r = 4 then some ⟨84, loopOf Try.prog 34 4, rg1 ps K c 0, fun _ => [], .exit 0, rgL ps K c, fun _ => [], h1⟩ else if r = 10 then some ⟨84, loopOf Try.prog 34 10, rg2 ps K c 0, fun rest => rgH 0 rest, .exit 2, rgL ps K c, fun rest => rgH ps.length rest, h2⟩
      else if r = 16 then some ⟨84, loopOf Try.prog 34 16, rg3 ps K c 0, fun _ => [], .exit 4, [], fun _ => [], h3⟩ else none) else none } 1000 (by kernel_rfl)
end Go.Avm
/-
  PaintLikes: the walk.
-/
set_option linter.unusedSectionVars false
namespace Go.Avm
open Go.Proofs

/-- A number, made small. -/
def redI (m : Nat) (x : Int) : Nat := ((IntKind.u64.wrap x).tmod ((m + 1 : Nat) : Int)).toNat
def redP (m : Nat) (p : Int × Int) : Int × Int := ((redI m p.1 : Nat), (redI m p.2 : Nat))
theorem u64_in (x : Int) : 0 ≤ IntKind.u64.wrap x ∧ IntKind.u64.wrap x < 18446744073709551616 := by
  have e : IntKind.u64.wrap x = x % 18446744073709551616 := rfl
  rw [e]
  omega
theorem redI_lt (m : Nat) (x : Int) (hm : m < 1000) : redI m x < m + 1 ∧ IntKind.i64.wrap ((IntKind.u64.wrap x).tmod ((m + 1 : Nat) : Int)) = (redI m x : Int) := by
  have h := u64_in x
  unfold redI
  generalize IntKind.u64.wrap x = y at h
  have e : y.tmod ((m + 1 : Nat) : Int) = y % ((m + 1 : Nat) : Int) := Int.tmod_eq_emod_of_nonneg h.1
  have h1 : 0 ≤ y % ((m + 1 : Nat) : Int) := Int.emod_nonneg _ (by omega)
  have h2 : y % ((m + 1 : Nat) : Int) < ((m + 1 : Nat) : Int) := Int.emod_lt_of_pos _ (by omega)
  rw [e]
  refine ⟨by omega, ?_⟩
  rw [IntWalk.i64_in _ (by omega)]
  omega
theorem appP (l : List (Int × Int)) (p : Int × Int) : l.map pairD ++ [pairD p] = (l ++ [p]).map pairD := by simp
abbrev vecP (v : Nat) (l : List (Int × Int)) : AV := .vec 12 v 2 (l.map pairD)
abbrev dU8 (k : Int) : AV := .d (.int .u8 k)
def lkE (w1 w2 v : Nat) : List (Nat × Ent) := [(500386, ⟨w1, none⟩), (502396, ⟨w2, none⟩), (12, ⟨v, none⟩)]
def k1L (m : Nat) (k : Int) (L : List (Int × Int)) (v : Nat) (l : List (Int × Int)) (i : Nat) : List (Nat × AV) := [(2, dU8 k), (7, dN (m + 1)), (8, vecP v l), (21, .d (pairsD L)), (22, dN L.length), (23, dN i)]
section
variable (m : Nat) (k : Int) (L : List (Int × Int)) (v w1 w2 : Nat) (l : List (Int × Int)) (i : Nat) (x y : Int)
noncomputable def k1Pr (hi : i < L.length) (hs : i < 9223372036854775807) (hp : L[i] = (x, y)) (t : Bool) (ht : decide ((i : Int) < 100) = t) (hint2 : Nat → Option (Hint Try.prog)) : Par Try.prog :=
  { hint := fun f s => if f = 7 then (if s = 24 then some (hLt Try.prog i L.length true (by simpa using hi)) else if s = 26 then some (.idx (L.map pairD) ((i : Nat) : Int) (pairD (x, y)) (by omega) (by rw [← hp]; exact getP hi)) else if s = 29 then some (.val (dB (decide ((i : Int) < 100))) (dB t) (by rw [ht]))
      else if s = 48 then some (hSucc Try.prog i hs) else hint2 s) else none }
noncomputable def k1Hx (hm : m < 1000) (hl : (l.map pairD).length + 1 ≤ 549755813888) : Nat → Option (Hint Try.prog) := fun s =>
  if s = 35 ∨ s = 42 then some (.val (.d (.int .u64 (IntKind.u64.wrap ((m + 1 : Nat) : Int)))) (.d (.int .u64 ((m + 1 : Nat) : Int))) (by
    congr 2
    have e : IntKind.u64.wrap ((m + 1 : Nat) : Int) = ((m + 1 : Nat) : Int) % 18446744073709551616 := rfl
    rw [e]
    omega))
  else if s = 37 then some (.val (dI (IntKind.i64.wrap ((IntKind.u64.wrap x).tmod ((m + 1 : Nat) : Int)))) (dN (redI m x)) (by unfold dI; rw [(redI_lt m x hm).2]))
  else if s = 44 then some (.val (dI (IntKind.i64.wrap ((IntKind.u64.wrap y).tmod ((m + 1 : Nat) : Int)))) (dN (redI m y)) (by unfold dI; rw [(redI_lt m y hm).2]))
  else if s = 47 then some (.app (l.map pairD) 1 hl) else none
theorem k1Late (hi : i < L.length) (hs : i < 9223372036854775807) (hp : L[i] = (x, y)) (ht : decide ((i : Int) < 100) = false) (rest : Heap) (X : Fix) (hP : X.P = Try.prog) (hN : X.N = 94) :
    AW X (loopOf Try.prog 7 6) ⟨envOf (k1L m k L v l i), ovl (lkE w1 w2 v) rest⟩ fun e' S' => e' = .normal ∧ Weak X S' ⟨envOf (k1L m k L v l (i + 1)), ovl (lkE (w1 + 1) w2 v) rest⟩ :=
  seg okP named (k1Pr L i x y hi hs hp false ht fun _ => none) 1000 7 500000 94 (by kernel_rfl) X hP hN
theorem k1Early (hi : i < L.length) (hs : i < 9223372036854775807) (hp : L[i] = (x, y)) (ht : decide ((i : Int) < 100) = true) (hm : m < 1000) (hl : (l.map pairD).length + 1 ≤ 549755813888) (rest : Heap) (X : Fix) (hP : X.P = Try.prog) (hN : X.N = 94) :
    AW X (loopOf Try.prog 7 6) ⟨envOf (k1L m k L v l i), ovl (lkE w1 w2 v) rest⟩ fun e' S' => e' = .normal ∧ Weak X S' ⟨envOf (k1L m k L (v + 1) (l ++ [redP m (x, y)]) (i + 1)), ovl (lkE (w1 + 1) (w2 + 1) (v + 1)) rest⟩ := by
  unfold k1L vecP
  rw [← appP]
  exact seg okP named (k1Pr L i x y hi hs hp true ht (k1Hx m l x y hm hl)) 1000 7 500000 94 (by kernel_rfl) X hP hN
theorem k1Stop (rest : Heap) (X : Fix) (hP : X.P = Try.prog) (hN : X.N = 94) :
    AW X (loopOf Try.prog 7 6) ⟨envOf (k1L m k L v l L.length), ovl (lkE w1 w2 v) rest⟩ fun e' S' => e' = .exit 0 ∧ Weak X S' ⟨envOf [(2, dU8 k), (7, dN (m + 1)), (8, vecP v l)], ovl (lkE w1 w2 v) rest⟩ :=
  seg okP named { hint := fun f s => if f = 7 then (if s = 24 then some (hLt Try.prog L.length L.length false (by simp)) else none) else none } 1000 7 500000 94 (by kernel_rfl) X hP hN
end
def kl (m : Nat) (L : List (Int × Int)) (i : Nat) : List (Int × Int) := ((L.take i).take 100).map (redP m)
theorem kl_len (m : Nat) (L : List (Int × Int)) (i : Nat) : (kl m L i).length ≤ 100 := by simp [kl]; omega
theorem kl_early {m : Nat} {L : List (Int × Int)} {i : Nat} (hi : i < L.length) (h : i < 100) : kl m L (i + 1) = kl m L i ++ [redP m L[i]] := by
  unfold kl
  rw [List.take_take, List.take_take, Nat.min_eq_right (by omega), Nat.min_eq_right (by omega), List.take_succ_eq_append_getElem hi, List.map_append]
  rfl
theorem kl_late {m : Nat} {L : List (Int × Int)} {i : Nat} (h : 100 ≤ i) : kl m L (i + 1) = kl m L i := by
  unfold kl
  rw [List.take_take, List.take_take, Nat.min_eq_left (by omega), Nat.min_eq_left (by omega)]
theorem k1Loop (m : Nat) (hm : m < 1000) (k : Int) (L : List (Int × Int)) (hL : L.length ≤ 9223372036854775807) : ∀ (r i w1 w2 v : Nat), L.length - i = r → i ≤ L.length → ∃ w1' w2' v' : Nat, ∀ (rest : Heap) (X : Fix), X.P = Try.prog → X.N = 94 →
    LW X (loopOf Try.prog 7 6) ⟨envOf (k1L m k L v (kl m L i) i), ovl (lkE w1 w2 v) rest⟩ fun e' S' => e' = .exit 0 ∧ S' = ⟨envOf [(2, dU8 k), (7, dN (m + 1)), (8, vecP v' (kl m L L.length))], ovl (lkE w1' w2' v') rest⟩
  | 0, i, w1, w2, v, hr, hi => by
    have : i = L.length := by omega
    subst this
    exact ⟨w1, w2, v, fun rest X hP hN => lw_end (k1Stop m k L v w1 w2 _ rest X hP hN) (by simp)⟩
  | r + 1, i, w1, w2, v, hr, hi => by
    have hlt : i < L.length := by omega
    rcases Nat.lt_or_ge i 100 with h | h
    · obtain ⟨a, b, c, g⟩ := k1Loop m hm k L hL r (i + 1) (w1 + 1) (w2 + 1) (v + 1) (by omega) (by omega)
      refine ⟨a, b, c, fun rest X hP hN => ?_⟩
      have hs := k1Early m k L v w1 w2 (kl m L i) i L[i].1 L[i].2 hlt (by omega) rfl (by simp; omega) hm (by have := kl_len m L i; simp; omega) rest X hP hN
      have hg := g rest X hP hN
      rw [kl_early hlt h] at hg
      exact lw_seg hs hg
    · obtain ⟨a, b, c, g⟩ := k1Loop m hm k L hL r (i + 1) (w1 + 1) w2 v (by omega) (by omega)
      refine ⟨a, b, c, fun rest X hP hN => ?_⟩
      have hs := k1Late m k L v w1 w2 (kl m L i) i L[i].1 L[i].2 hlt (by omega) rfl (by simp; omega) rest X hP hN
      have hg := g rest X hP hN
      rw [kl_late h] at hg
      exact lw_seg hs hg

/-! ### Each pair alike -/
abbrev intsD (c : List Int) : D := .ro (c.map fun x => .int .i64 x)
def k2L (v : Nat) (l : List (Int × Int)) (c : List Int) (i : Nat) : List (Nat × AV) := [(11, .d (intsD c)), (68, vecP v l), (69, dN l.length), (70, dN i)]
def k2E (w : Nat) : List (Nat × Ent) := [(500296, ⟨w, none⟩)]
section
variable (v w : Nat) (l : List (Int × Int)) (c : List Int) (i : Nat) (x y : Int)
noncomputable def k2Pr (hi : i < l.length) (hs : i < 9223372036854775807) (hp : l[i] = (x, y)) (h0 : 0 ≤ x) (g0 : 0 ≤ y) (hx : (c.map fun z => D.int .i64 z)[x.toNat]? = some (.int .i64 0)) (hy : (c.map fun z => D.int .i64 z)[y.toNat]? = some (.int .i64 0)) : Par Try.prog :=
  { hint := fun f s => if f = 7 then (if s = 71 then some (hLt Try.prog i l.length true (by simpa using hi)) else if s = 72 then some (.idx (l.map pairD) ((i : Nat) : Int) (pairD (x, y)) (by omega) (by rw [← hp]; exact getP hi))
      else if s = 77 ∨ s = 89 then some (.idx (c.map fun z => D.int .i64 z) x (.int .i64 0) h0 hx) else if s = 82 then some (.idx (c.map fun z => D.int .i64 z) y (.int .i64 0) g0 hy) else if s = 93 then some (hSucc Try.prog i hs) else none) else none }
theorem k2Round (hi : i < l.length) (hs : i < 9223372036854775807) (hp : l[i] = (x, y)) (h0 : 0 ≤ x) (g0 : 0 ≤ y) (hx : (c.map fun z => D.int .i64 z)[x.toNat]? = some (.int .i64 0)) (hy : (c.map fun z => D.int .i64 z)[y.toNat]? = some (.int .i64 0)) (rest : Heap) (X : Fix) (hP : X.P = Try.prog) (hN : X.N = 94) :
    AW X (loopOf Try.prog 7 15) ⟨envOf (k2L v l c i), ovl (k2E w) rest⟩ fun e' S' => e' = .normal ∧ Weak X S' ⟨envOf (k2L v l c (i + 1)), ovl (k2E (w + 1)) rest⟩ :=
  seg okP named (k2Pr l c i x y hi hs hp h0 g0 hx hy) 1000 7 500000 94 (by kernel_rfl) X hP hN
theorem k2Stop (rest : Heap) (X : Fix) (hP : X.P = Try.prog) (hN : X.N = 94) :
    AW X (loopOf Try.prog 7 15) ⟨envOf (k2L v l c l.length), ovl (k2E w) rest⟩ fun e' S' => e' = .exit 2 ∧ Weak X S' ⟨envOf [], ovl (k2E w) rest⟩ :=
  seg okP named { hint := fun f s => if f = 7 then (if s = 71 then some (hLt Try.prog l.length l.length false (by simp)) else none) else none } 1000 7 500000 94 (by kernel_rfl) X hP hN
end
def k2H (j : Nat) (rest : Heap) : List (Nat × Ent) := k2E ((rest 500296).ver + j)
theorem k2Loop (v : Nat) (l : List (Int × Int)) (c : List Int) (hl : l.length < 1099511627776) (hc : ∀ p ∈ l, (0 ≤ p.1 ∧ (c.map fun z => D.int .i64 z)[p.1.toNat]? = some (.int .i64 0)) ∧ 0 ≤ p.2 ∧ (c.map fun z => D.int .i64 z)[p.2.toNat]? = some (.int .i64 0)) (rest : Heap) (X : Fix) (hP : X.P = Try.prog) (hN : X.N = 94) :
    AW X (.loop (loopOf Try.prog 7 15)) ⟨envOf (k2L v l c 0), ovl (k2H 0 rest) rest⟩ fun e' S' => e' = .exit 2 ∧ S' = ⟨envOf [], ovl (k2H l.length rest) rest⟩ := by
  refine loop_of_segs (P := Try.prog) (N := 94) (c := loopOf Try.prog 7 15) (fun i => k2L v l c i) (fun i rest => k2H i rest) (fun i => i ≤ l.length) (fun i => l.length - i) (.exit 2) [] (fun rest => k2H l.length rest) 0 (Nat.zero_le _) (by simp) (fun rest i hi => ?_) rest X hP hN
  rcases Nat.lt_or_ge i l.length with h | h
  · obtain ⟨⟨h0, h1⟩, g0, g1⟩ := hc _ (List.getElem_mem h)
    exact .inl ⟨i + 1, h, by omega, fun X hP hN => k2Round v _ l c i l[i].1 l[i].2 h (by omega) rfl h0 g0 h1 g1 rest X hP hN⟩
  · have : i = l.length := by omega
    subst this
    exact .inr fun X hP hN => k2Stop v _ l c rest X hP hN

theorem i64_small (n : Nat) (h : n < 1000000) : IntKind.i64.wrap (n : Int) = (n : Int) := by rw [IntWalk.i64_in _ (by omega)]
/-- PaintLikes. -/
theorem likesPure (n k : Int) (hn : 0 ≤ n ∧ n ≤ 255) (hk : 0 ≤ k ∧ k ≤ 255) (L : List (Int × Int)) (hL : L.length ≤ 9223372036854775807) : Pure Try.prog 7 [.int .u8 n, pairsD L, .int .u8 k] [.bool true] := by
  obtain ⟨m, hm⟩ : ∃ m : Nat, n.tmod 40 = (m : Int) := ⟨(n.tmod 40).toNat, by rw [Int.tmod_eq_emod_of_nonneg hn.1]; omega⟩
  obtain ⟨q, hq⟩ : ∃ q : Nat, k.tmod 16 = (q : Int) := ⟨(k.tmod 16).toNat, by rw [Int.tmod_eq_emod_of_nonneg hk.1]; omega⟩
  have hm40 : m < 40 := by rw [Int.tmod_eq_emod_of_nonneg hn.1] at hm; omega
  have hq16 : q < 16 := by rw [Int.tmod_eq_emod_of_nonneg hk.1] at hq; omega
  obtain ⟨w1, w2, v, hl1⟩ := k1Loop m (by omega) k L hL L.length 0 0 0 0 rfl (Nat.zero_le _)
  have hkl : (kl m L L.length).length ≤ 100 := kl_len m L _
  have hrange : ∀ p ∈ kl m L L.length, (0 ≤ p.1 ∧ p.1.toNat < m + 1) ∧ 0 ≤ p.2 ∧ p.2.toNat < m + 1 := fun p hp => by
    obtain ⟨z, _, rfl⟩ := List.mem_map.1 hp
    have h1 := (redI_lt m z.1 (by omega)).1
    have h2 := (redI_lt m z.2 (by omega)).1
    simp only [redP]
    omega
  have hall : (kl m L L.length).all (inP (m + 1)) = true := List.all_eq_true.2 (fun p hp => inP_iff.2 (hrange p hp))
  have ht := twinsC (kl m L L.length) 100 (by omega)
  rw [List.take_of_length_le hkl] at ht
  obtain ⟨O, hO, hP⟩ := paintC (m + 1) (q + 1) [] (kl m L L.length) (by omega) (by omega) (by simp) (by omega) rfl hall
  have hz := paint_zero (n := m + 1) (K := q + 1) (by omega) (by omega) hall hO
  have hlen := (paint_painted (n := m + 1) (K := q + 1) (pairs := []) (by simp) (by omega) rfl hall hO).len
  generalize paintF (m + 1) (q + 1) [] (kl m L L.length) O = c at hP hz hlen
  have hget : ∀ x : Int, x.toNat < m + 1 → (c.map fun z => D.int .i64 z)[x.toNat]? = some (.int .i64 0) := fun x hx => by
    have hx' : x.toNat < c.length := by omega
    have h0 : c[x.toNat] = 0 := hz c[x.toNat] (List.getElem_mem hx')
    simp [hx', h0]
  have hl2 := k2Loop v (kl m L L.length) c (by omega) (fun p hp => ⟨⟨(hrange p hp).1.1, hget _ (hrange p hp).1.2⟩, (hrange p hp).2.1, hget _ (hrange p hp).2.2⟩)
  exact pure_of_run okP named {
    hint := fun f s => if f = 7 then (if s = 15 then some (.call 30 [] [.bool true] awake17) else if s = 20 then some (.val (dI (IntKind.i64.wrap (1 + IntKind.i64.wrap (n.tmod 40)))) (dN (m + 1)) (by
          unfold dI
          rw [hm, i64_small m (by omega), IntWalk.i64_in _ (by omega)]
          congr 2
          omega))
        else if s = 22 then some (.val (dN (L.map pairD).length) (dN L.length) (by simp)) else if s = 52 then some (.call 31 [pairsD (kl m L L.length), .int .i64 100] [pairsD (kl m L L.length)] ht)
        else if s = 56 then some (.val (dI (IntKind.i64.wrap (1 + IntKind.i64.wrap (k.tmod 16)))) (dN (q + 1)) (by
          unfold dI
          rw [hq, i64_small q (by omega), IntWalk.i64_in _ (by omega)]
          congr 2
          omega))
        else if s = 57 then some (.call 32 [.int .i64 ((m + 1 : Nat) : Int), .ro [], pairsD (kl m L L.length), .int .i64 ((q + 1 : Nat) : Int)] [intsD c, .int .i64 0] hP)
        else if s = 64 then some (.val (dN (c.map fun x => D.int .i64 x).length) (dN (m + 1)) (by simp [hlen])) else if s = 66 then some (.val (dB (((m + 1 : Nat) : Int) != ((m + 1 : Nat) : Int))) (dB false) (by simp))
        else if s = 69 then some (.val (dN ((kl m L L.length).map pairD).length) (dN (kl m L L.length).length) (by simp)) else none) else none
    nils2 := fun f r => if f = 7 then (if r = 5 then [⟨0, 8, 12, 2, true, false⟩] else []) else []
    loops := fun f r => if f = 7 then (if r = 6 then some ⟨94, loopOf Try.prog 7 6, k1L m k L 0 [] 0, fun _ => lkE 0 0 0, .exit 0, [(2, dU8 k), (7, dN (m + 1)), (8, vecP v (kl m L L.length))], fun _ => lkE w1 w2 v, fun rest X hP hN => (hl1 rest X hP hN).aw⟩
      else if r = 15 then some ⟨94, loopOf Try.prog 7 15, k2L v (kl m L L.length) c 0, fun rest => k2H 0 rest, .exit 2, [], fun rest => k2H (kl m L L.length).length rest, hl2⟩ else none) else none } 1000 (by kernel_rfl)
end Go.Avm
/-
  PaintRings: the walk.
-/
set_option linter.unusedSectionVars false
namespace Go.Avm
open Go.Proofs

def ringTo (m i : Nat) : List (Int × Int) := (List.range i).map fun (j : Nat) => ((j : Int), (((j + 1) % (m + 1) : Nat) : Int))
abbrev ringL (m : Nat) : List (Int × Int) := ringTo m (m + 1)
theorem ringTo_succ (m i : Nat) : ringTo m (i + 1) = ringTo m i ++ [((i : Int), (((i + 1) % (m + 1) : Nat) : Int))] := by
  rw [ringTo, List.range_succ, List.map_append]
  rfl
theorem ringTo_len (m i : Nat) : (ringTo m i).length = i := by simp [ringTo]
theorem ring_mem {m : Nat} {p : Int × Int} (h : p ∈ ringL m) : ∃ j : Nat, j < m + 1 ∧ p.1 = j ∧ p.2 = (if j = m then (0 : Int) else j + 1) := by
  obtain ⟨j, hj, rfl⟩ := List.mem_map.1 h
  have hj := List.mem_range.1 hj
  refine ⟨j, hj, rfl, ?_⟩
  by_cases he : j = m
  · subst he
    simp
  · rw [if_neg he]
    simp only
    rw [Nat.mod_eq_of_lt (by omega)]
    omega
theorem ring_ok (m : Nat) : (ringL m).all (inP (m + 1)) = true := List.all_eq_true.2 (fun p hp => inP_iff.2 (by
  obtain ⟨j, hj, h1, h2⟩ := ring_mem hp
  rw [h1, h2]
  split <;> omega))
theorem ring_painted {m : Nat} {c : List Int} (h : Painted (m + 1) 3 (ringL m) c) : ∀ x ∈ c, 0 ≤ x := by
  intro z hz
  obtain ⟨i, hi, rfl⟩ := List.getElem_of_mem hz
  have hlen := h.len
  apply Classical.byContradiction
  intro hneg
  have hfull := h.full (i : Int) (by omega) (by simp; omega) (by rw [Int.toNat_natCast, List.getElem?_eq_getElem hi]; simpa using hneg)
  obtain ⟨y0, ⟨p0, m0, _, n0⟩, c0⟩ := hfull 0 (by omega)
  obtain ⟨y1, ⟨p1, m1, _, n1⟩, c1⟩ := hfull 1 (by omega)
  obtain ⟨y2, ⟨p2, m2, _, n2⟩, c2⟩ := hfull 2 (by omega)
  have e01 : y0 ≠ y1 := fun e => by subst e; omega
  have e02 : y0 ≠ y2 := fun e => by subst e; omega
  have e12 : y1 ≠ y2 := fun e => by subst e; omega
  obtain ⟨j0, k0, a0, b0⟩ := ring_mem m0
  obtain ⟨j1, k1, a1, b1⟩ := ring_mem m1
  obtain ⟨j2, k2, a2, b2⟩ := ring_mem m2
  rw [a0, b0] at n0
  rw [a1, b1] at n1
  rw [a2, b2] at n2
  split at n0 <;> split at n1 <;> split at n2 <;> omega
def r1L (m : Nat) (k : Int) (i : Nat) : List (Nat × AV) := [(1, dU8 k), (5, dN (m + 1)), (6, vecP i (ringTo m i)), (20, dN (m + 1)), (21, dN i)]
def r1E (v w : Nat) : List (Nat × Ent) := [(12, ⟨v, none⟩), (500811, ⟨w, none⟩)]
def r2L (m : Nat) (k : Int) (c : List Int) (i : Nat) : List (Nat × AV) := [(1, dU8 k), (5, dN (m + 1)), (51, .d (cD c)), (52, dN c.length), (53, dN i)]
section
variable (m : Nat) (k : Int) (i w : Nat) (c : List Int) (z : Int)
theorem r1Round (hi : i < m + 1) (hm : m < 1000) (rest : Heap) (X : Fix) (hP : X.P = Try.prog) (hN : X.N = 78) :
    AW X (loopOf Try.prog 8 6) ⟨envOf (r1L m k i), ovl (r1E i w) rest⟩ fun e' S' => e' = .normal ∧ Weak X S' ⟨envOf (r1L m k (i + 1)), ovl (r1E (i + 1) (w + 1)) rest⟩ := by
  unfold r1L vecP
  rw [ringTo_succ, ← appP]
  exact seg okP named { hint := fun f s => if f = 8 then (if s = 22 then some (hLt Try.prog i (m + 1) true (by simpa using hi)) else if s = 27 ∨ s = 33 then some (hSucc Try.prog i (by omega)) else if s = 29 then some (.val (dI (((i + 1 : Nat) : Int).tmod ((m + 1 : Nat) : Int))) (dN ((i + 1) % (m + 1))) (by
      unfold dI
      congr 2))
    else if s = 32 then some (.app ((ringTo m i).map pairD) 1 (by simp [ringTo_len]; omega)) else none) else none } 1000 8 500000 78 (by kernel_rfl) X hP hN
theorem r1Stop (rest : Heap) (X : Fix) (hP : X.P = Try.prog) (hN : X.N = 78) :
    AW X (loopOf Try.prog 8 6) ⟨envOf (r1L m k (m + 1)), ovl (r1E (m + 1) w) rest⟩ fun e' S' => e' = .exit 0 ∧ Weak X S' ⟨envOf [(1, dU8 k), (5, dN (m + 1)), (6, vecP (m + 1) (ringL m))], ovl (r1E (m + 1) w) rest⟩ :=
  seg okP named { hint := fun f s => if f = 8 then (if s = 22 then some (hLt Try.prog (m + 1) (m + 1) false (by simp)) else none) else none } 1000 8 500000 78 (by kernel_rfl) X hP hN
theorem r2Round (hi : i < c.length) (hs : i < 9223372036854775807) (hz : c[i] = z) (h0 : decide (z < 0) = false) (rest : Heap) (X : Fix) (hP : X.P = Try.prog) (hN : X.N = 78) :
    AW X (loopOf Try.prog 8 14) ⟨envOf (r2L m k c i), ovl [] rest⟩ fun e' S' => e' = .normal ∧ Weak X S' ⟨envOf (r2L m k c (i + 1)), ovl [] rest⟩ :=
  seg okP named { hint := fun f s => if f = 8 then (if s = 54 then some (hLt Try.prog i c.length true (by simpa using hi)) else if s = 55 then some (.idx (c.map fun z => D.int .i64 z) ((i : Nat) : Int) (.int .i64 z) (by omega) (by rw [← hz]; exact getCN hi)) else if s = 58 then some (.val (dB (decide (z < 0))) (dB false) (by rw [h0]))
    else if s = 59 then some (hSucc Try.prog i hs) else none) else none } 1000 8 500000 78 (by kernel_rfl) X hP hN
theorem r2Stop (rest : Heap) (X : Fix) (hP : X.P = Try.prog) (hN : X.N = 78) :
    AW X (loopOf Try.prog 8 14) ⟨envOf (r2L m k c c.length), ovl [] rest⟩ fun e' S' => e' = .exit 2 ∧ Weak X S' ⟨envOf [(1, dU8 k), (5, dN (m + 1))], ovl [] rest⟩ :=
  seg okP named { hint := fun f s => if f = 8 then (if s = 54 then some (hLt Try.prog c.length c.length false (by simp)) else none) else none } 1000 8 500000 78 (by kernel_rfl) X hP hN
end
def r1H (i : Nat) (rest : Heap) : List (Nat × Ent) := r1E i ((rest 500811).ver + i)
theorem r1Loop (m : Nat) (k : Int) (hm : m < 1000) (rest : Heap) (X : Fix) (hP : X.P = Try.prog) (hN : X.N = 78) :
    AW X (.loop (loopOf Try.prog 8 6)) ⟨envOf (r1L m k 0), ovl (r1H 0 rest) rest⟩ fun e' S' => e' = .exit 0 ∧ S' = ⟨envOf [(1, dU8 k), (5, dN (m + 1)), (6, vecP (m + 1) (ringL m))], ovl (r1H (m + 1) rest) rest⟩ := by
  refine loop_of_segs (P := Try.prog) (N := 78) (c := loopOf Try.prog 8 6) (fun i => r1L m k i) (fun i rest => r1H i rest) (fun i => i ≤ m + 1) (fun i => m + 1 - i) (.exit 0) _ (fun rest => r1H (m + 1) rest) 0 (Nat.zero_le _) (by simp) (fun rest i hi => ?_) rest X hP hN
  rcases Nat.lt_or_ge i (m + 1) with h | h
  · exact .inl ⟨i + 1, h, by omega, fun X hP hN => r1Round m k i _ h hm rest X hP hN⟩
  · have : i = m + 1 := by omega
    subst this
    exact .inr fun X hP hN => r1Stop m k _ rest X hP hN
theorem r2Loop (m : Nat) (k : Int) (c : List Int) (hl : c.length < 1000000) (hc : ∀ x ∈ c, 0 ≤ x) (rest : Heap) (X : Fix) (hP : X.P = Try.prog) (hN : X.N = 78) :
    AW X (.loop (loopOf Try.prog 8 14)) ⟨envOf (r2L m k c 0), ovl [] rest⟩ fun e' S' => e' = .exit 2 ∧ S' = ⟨envOf [(1, dU8 k), (5, dN (m + 1))], ovl [] rest⟩ := by
  refine loop_of_segs (P := Try.prog) (N := 78) (c := loopOf Try.prog 8 14) (fun i => r2L m k c i) (fun _ _ => []) (fun i => i ≤ c.length) (fun i => c.length - i) (.exit 2) _ (fun _ => []) 0 (Nat.zero_le _) (by simp) (fun rest i hi => ?_) rest X hP hN
  rcases Nat.lt_or_ge i c.length with h | h
  · exact .inl ⟨i + 1, h, by omega, fun X hP hN => r2Round m k i c c[i] h (by omega) rfl (by have := hc _ (List.getElem_mem h); simpa using this) rest X hP hN⟩
  · have : i = c.length := by omega
    subst this
    exact .inr fun X hP hN => r2Stop m k c rest X hP hN
/-- PaintRings. -/
theorem ringsPure (n k : Int) (hn : 0 ≤ n ∧ n ≤ 255) (hk : 0 ≤ k ∧ k ≤ 255) : Pure Try.prog 8 [.int .u8 n, .int .u8 k] [.bool true] := by
  obtain ⟨a, ha⟩ : ∃ a : Nat, n.tmod 40 = (a : Int) := ⟨(n.tmod 40).toNat, by rw [Int.tmod_eq_emod_of_nonneg hn.1]; omega⟩
  obtain ⟨q, hq⟩ : ∃ q : Nat, k.tmod 17 = (q : Int) := ⟨(k.tmod 17).toNat, by rw [Int.tmod_eq_emod_of_nonneg hk.1]; omega⟩
  have ha40 : a < 40 := by rw [Int.tmod_eq_emod_of_nonneg hn.1] at ha; omega
  have hq17 : q < 17 := by rw [Int.tmod_eq_emod_of_nonneg hk.1] at hq; omega
  obtain ⟨m, hm⟩ : ∃ m : Nat, m = a + 2 := ⟨_, rfl⟩
  have hrl : (ringL m).length = m + 1 := ringTo_len m (m + 1)
  have ht := twinsC (ringL m) (m + 1) (by omega)
  rw [List.take_of_length_le (by omega)] at ht
  obtain ⟨O, hO, hP⟩ := paintC (m + 1) 3 (ringL m) [] (by omega) (by omega) (by omega) (by simp) (ring_ok m) rfl
  have hc := paint_painted (n := m + 1) (K := 3) (pairs := ringL m) (likes := []) (by omega) (by simp) (ring_ok m) rfl hO
  have hr := rightC2 (by omega) (by omega) (by omega) (ring_ok m) hc
  have hc0 := ring_painted hc
  have hlen := hc.len
  generalize paintF (m + 1) 3 (ringL m) [] O = c at hP hc hr hc0 hlen
  obtain ⟨O2, hO2, hP2⟩ := paintC (m + 1) q [] [] (by omega) (by omega) (by simp) (by simp) rfl rfl
  have hd := paint_painted (n := m + 1) (K := q) (pairs := []) (likes := []) (by simp) (by simp) rfl rfl hO2
  have hr2 := rightC2 (by omega) (by omega) (by simp) rfl hd
  generalize paintF (m + 1) q [] [] O2 = d at hP2 hd hr2
  have hq8 : dI (IntKind.i64.wrap (k.tmod 17)) = dN q := by
    unfold dI
    rw [hq, i64_small q (by omega)]
  exact pure_of_run okP named {
    hint := fun f s => if f = 8 then (if s = 14 then some (.call 30 [] [.bool true] awake17) else if s = 19 then some (.val (dI (IntKind.i64.wrap (3 + IntKind.i64.wrap (n.tmod 40)))) (dN (m + 1)) (by
          unfold dI
          rw [ha, i64_small a (by omega), IntWalk.i64_in _ (by omega)]
          congr 2
          omega))
        else if s = 38 then some (.call 31 [pairsD (ringL m), .int .i64 ((m + 1 : Nat) : Int)] [pairsD (ringL m)] ht) else if s = 39 then some (.call 32 [.int .i64 ((m + 1 : Nat) : Int), pairsD (ringL m), .ro [], .int .i64 3] [cD c, .int .i64 0] hP)
        else if s = 48 then some (.call 34 [.int .i64 ((m + 1 : Nat) : Int), pairsD (ringL m), .int .i64 3, cD c] [.bool true] hr) else if s = 52 then some (.val (dN (c.map fun x => D.int .i64 x).length) (dN c.length) (by simp))
        else if s = 64 ∨ s = 74 then some (.val (dI (IntKind.i64.wrap (k.tmod 17))) (dN q) hq8) else if s = 65 then some (.call 32 [.int .i64 ((m + 1 : Nat) : Int), .ro [], .ro [], .int .i64 (q : Int)] [cD d, .int .i64 0] hP2)
        else if s = 76 then some (.call 34 [.int .i64 ((m + 1 : Nat) : Int), .ro [], .int .i64 (q : Int), cD d] [.bool true] hr2) else none) else none
    nils2 := fun f r => if f = 8 then (if r = 5 then [⟨0, 6, 12, 2, true, false⟩] else []) else []
    loops := fun f r => if f = 8 then (if r = 6 then some ⟨78, loopOf Try.prog 8 6, r1L m k 0, fun rest => r1H 0 rest, .exit 0, [(1, dU8 k), (5, dN (m + 1)), (6, vecP (m + 1) (ringL m))], fun rest => r1H (m + 1) rest, r1Loop m k (by omega)⟩
      else if r = 14 then some ⟨78, loopOf Try.prog 8 14, r2L m k c 0, fun _ => [], .exit 2, [(1, dU8 k), (5, dN (m + 1))], fun _ => [], r2Loop m k c (by omega) hc0⟩ else none) else none } 1000 (by kernel_rfl)
end Go.Avm
