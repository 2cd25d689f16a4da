/-
  Checks of code at its limits, part B: the loops over a block's instructions: what is made, what is read.
-/
import Derived.Test.YtecncapbehdkjaaLimA
namespace Go.Avm
open Go.Proofs

abbrev zI (n : Int) : D := .int .i64 n
/-- The instructions: one that makes value 0, and so many that print it. -/
def x0D : D := .agg [.int .u8 30, zI 0, .ro [], zI 7, zI 0, .ro []]
def x1D : D := .agg [.int .u8 40, zI (-1), .ro [zI 0], zI 0, zI 0, .ro []]
def insts (m : Nat) : List D := x0D :: List.replicate m x1D
theorem insts_get (m j : Nat) (h : j < m) : (insts m)[((j + 1 : Nat) : Int).toNat]? = some x1D := by
  simp [insts, List.getElem?_replicate, h]

def chk3 (c : Nat → AV) : List AV := [c 0, c 1, c 2, c 3, c 4, dI 3, c 6, c 7, c 8, .sl 13743 1 0 3 2]
def made0 : List AV := [spotA, spotA, spotA]
def made1 : List AV := [spotZ, spotA, spotA]
def madeAt : Nat → List AV
  | 0 => made0
  | _ + 1 => made1
def one1 : Nat → Nat
  | 0 => 0
  | _ + 1 => 1
def pre1 : Nat → Nat
  | 0 => 0
  | k + 1 => k
def makesHp (c : Nat → AV) (i : Nat) (rest : Heap) : List (Nat × Ent) := [(442, ⟨1, some (.arr 1 (chk3 c))⟩), (13743, ⟨1, some (.arr 2 (madeAt i))⟩), (1000392, ⟨(rest 1000392).ver + i, none⟩), (1000964, ⟨(rest 1000964).ver + i, none⟩),
  (1005488, ⟨(rest 1005488).ver + i, none⟩), (1008752, ⟨(rest 1008752).ver + one1 i, none⟩)]
def makesL (m i : Nat) : List (Nat × AV) := [(0, .ptr 442 1 0 0 1), (3, dI 0), (14, dI 1), (15, dI 0), (61, .d (.ro (insts m))), (62, dN (m + 1)), (63, dN i)]
def makesO : List (Nat × AV) := [(0, .ptr 442 1 0 0 1), (3, dI 0), (14, dI 1), (15, dI 0)]
def makesPr (m i : Nat) (y : D) (h : i < m + 1) (hm : m ≤ 100000) (hy : (insts m)[(i : Int).toNat]? = some y) : Par Try.prog :=
  { hint := fun f k => if f = 74 then (if k = 64 then some (hLt Try.prog i (m + 1) true (by simpa using h)) else if k = 94 then some (hSucc Try.prog i (by omega)) else if k = 66 then some (.idx (insts m) (i : Int) y (by omega) hy) else none) else none }

theorem makesStep0 (c : Nat → AV) (m : Nat) (hm : m ≤ 100000) (rest : Heap) (X : Fix) (hP : X.P = Try.prog) (hN : X.N = 96) :
    AW X (loopOf Try.prog 74 11) ⟨envOf (makesL m 0), ovl (makesHp c 0 rest) rest⟩ fun e' S' => e' = .normal ∧ Weak X S' ⟨envOf (makesL m 1), ovl (makesHp c 1 rest) rest⟩ :=
  seg mixed named (makesPr m 0 x0D (by omega) hm rfl) 1000 74 1000000 96 (by kernel_rfl) X hP hN
theorem makesStep (c : Nat → AV) (m j : Nat) (h : j < m) (hm : m ≤ 100000) (rest : Heap) (X : Fix) (hP : X.P = Try.prog) (hN : X.N = 96) :
    AW X (loopOf Try.prog 74 11) ⟨envOf (makesL m (j + 1)), ovl (makesHp c (j + 1) rest) rest⟩ fun e' S' => e' = .normal ∧ Weak X S' ⟨envOf (makesL m (j + 2)), ovl (makesHp c (j + 2) rest) rest⟩ :=
  seg mixed named (makesPr m (j + 1) x1D (by omega) hm (insts_get m j h)) 1000 74 1000000 96 (by kernel_rfl) X hP hN
theorem makesEnd (c : Nat → AV) (m : Nat) (rest : Heap) (X : Fix) (hP : X.P = Try.prog) (hN : X.N = 96) :
    AW X (loopOf Try.prog 74 11) ⟨envOf (makesL m (m + 1)), ovl (makesHp c (m + 1) rest) rest⟩ fun e' S' => e' = .exit 4 ∧ Weak X S' ⟨envOf makesO, ovl (makesHp c (m + 1) rest) rest⟩ :=
  seg mixed named { hint := fun f k => if f = 74 then (if k = 64 then some (hLt Try.prog (m + 1) (m + 1) false (by simp)) else none) else none } 1000 74 1000000 96 (by kernel_rfl) X hP hN
theorem makesLoop (c : Nat → AV) (m : Nat) (hm : m ≤ 100000) (rest : Heap) (X : Fix) (hP : X.P = Try.prog) (hN : X.N = 96) :
    AW X (.loop (loopOf Try.prog 74 11)) ⟨envOf (makesL m 0), ovl (makesHp c 0 rest) rest⟩ fun e' S' => e' = .exit 4 ∧ S' = ⟨envOf makesO, ovl (makesHp c (m + 1) rest) rest⟩ :=
  loop_of_segs (P := Try.prog) (N := 96) (c := loopOf Try.prog 74 11) (makesL m) (makesHp c) (fun i => i ≤ m + 1) (fun i => m + 1 - i) (.exit 4) makesO (makesHp c (m + 1)) 0 (Nat.zero_le _) (by simp)
    (fun rest i hi => by
      rcases Nat.lt_or_ge i (m + 1) with hlt | hge
      · refine .inl ⟨i + 1, hlt, by omega, fun X hP hN => ?_⟩
        cases i with
        | zero => exact makesStep0 c m hm rest X hP hN
        | succ j => exact makesStep c m j (by omega) hm rest X hP hN
      · have : i = m + 1 := by omega
        subst this
        exact .inr fun X hP hN => makesEnd c m rest X hP hN) rest X hP hN

def readsHp (c : Nat → AV) (i : Nat) (rest : Heap) : List (Nat × Ent) := [(442, ⟨1, some (.arr 1 (chk3 c))⟩), (13743, ⟨1, some (.arr 2 made1)⟩), (2000596, ⟨(rest 2000596).ver + i, none⟩), (2002925, ⟨(rest 2002925).ver + pre1 i, none⟩), (2004262, ⟨(rest 2004262).ver + pre1 i, none⟩)]
def readsL (p4 p5 : AV) (m i : Nat) : List (Nat × AV) := [(0, .ptr 442 1 0 0 1), (3, dI 0), (4, p4), (5, p5), (22, dI 1), (23, dI 0), (77, .d (.ro (insts m))), (78, dN (m + 1)), (79, dN i)]
def readsO (p4 p5 : AV) : List (Nat × AV) := [(0, .ptr 442 1 0 0 1), (3, dI 0), (4, p4), (5, p5), (22, dI 1), (23, dI 0)]
def hPos (P : Program) (n : Nat) : Hint P := .val (dB (decide ((0 : Int) < ((n + 1 : Nat) : Int)))) (dB true) (by
  congr 2
  simp)
def readsPr (m i : Nat) (y : D) (h : i < m + 1) (hm : m ≤ 100000) (hy : (insts m)[(i : Int).toNat]? = some y) (j : Nat) : Par Try.prog :=
  { hint := fun f k => if f = 75 then (if k = 80 then some (hLt Try.prog i (m + 1) true (by simpa using h)) else if k = 128 then some (hSucc Try.prog i (by omega)) else if k = 82 then some (.idx (insts m) (i : Int) y (by omega) hy) else none)
      else if f = 92 then (if k = 39 then some (hPos Try.prog j) else none) else none }
theorem readsStep0 (c : Nat → AV) (p4 p5 : AV) (m : Nat) (hm : m ≤ 100000) (rest : Heap) (X : Fix) (hP : X.P = Try.prog) (hN : X.N = 146) :
    AW X (loopOf Try.prog 75 17) ⟨envOf (readsL p4 p5 m 0), ovl (readsHp c 0 rest) rest⟩ fun e' S' => e' = .normal ∧ Weak X S' ⟨envOf (readsL p4 p5 m 1), ovl (readsHp c 1 rest) rest⟩ :=
  seg mixed named (readsPr m 0 x0D (by omega) hm rfl 0) 1000 75 2000000 146 (by kernel_rfl) X hP hN
theorem readsStep (c : Nat → AV) (p4 p5 : AV) (m j : Nat) (h : j < m) (hm : m ≤ 100000) (rest : Heap) (X : Fix) (hP : X.P = Try.prog) (hN : X.N = 146) :
    AW X (loopOf Try.prog 75 17) ⟨envOf (readsL p4 p5 m (j + 1)), ovl (readsHp c (j + 1) rest) rest⟩ fun e' S' => e' = .normal ∧ Weak X S' ⟨envOf (readsL p4 p5 m (j + 2)), ovl (readsHp c (j + 2) rest) rest⟩ :=
  seg mixed named (readsPr m (j + 1) x1D (by omega) hm (insts_get m j h) j) 1000 75 2000000 146 (by kernel_rfl) X hP hN
theorem readsEnd (c : Nat → AV) (p4 p5 : AV) (m : Nat) (rest : Heap) (X : Fix) (hP : X.P = Try.prog) (hN : X.N = 146) :
    AW X (loopOf Try.prog 75 17) ⟨envOf (readsL p4 p5 m (m + 1)), ovl (readsHp c (m + 1) rest) rest⟩ fun e' S' => e' = .exit 6 ∧ Weak X S' ⟨envOf (readsO p4 p5), ovl (readsHp c (m + 1) rest) rest⟩ :=
  seg mixed named { hint := fun f k => if f = 75 then (if k = 80 then some (hLt Try.prog (m + 1) (m + 1) false (by simp)) else none) else none } 1000 75 2000000 146 (by kernel_rfl) X hP hN
theorem readsLoop (c : Nat → AV) (p4 p5 : AV) (m : Nat) (hm : m ≤ 100000) (rest : Heap) (X : Fix) (hP : X.P = Try.prog) (hN : X.N = 146) :
    AW X (.loop (loopOf Try.prog 75 17)) ⟨envOf (readsL p4 p5 m 0), ovl (readsHp c 0 rest) rest⟩ fun e' S' => e' = .exit 6 ∧ S' = ⟨envOf (readsO p4 p5), ovl (readsHp c (m + 1) rest) rest⟩ :=
  loop_of_segs (P := Try.prog) (N := 146) (c := loopOf Try.prog 75 17) (readsL p4 p5 m) (readsHp c) (fun i => i ≤ m + 1) (fun i => m + 1 - i) (.exit 6) (readsO p4 p5) (readsHp c (m + 1)) 0 (Nat.zero_le _) (by simp)
    (fun rest i hi => by
      rcases Nat.lt_or_ge i (m + 1) with hlt | hge
      · refine .inl ⟨i + 1, hlt, by omega, fun X hP hN => ?_⟩
        cases i with
        | zero => exact readsStep0 c p4 p5 m hm rest X hP hN
        | succ j => exact readsStep c p4 p5 m j (by omega) hm rest X hP hN
      · have : i = m + 1 := by omega
        subst this
        exact .inr fun X hP hN => readsEnd c p4 p5 m rest X hP hN) rest X hP hN
end Go.Avm
