/-
  Checks of code at its limits, part E: the law's own loop.
-/
import Derived.Test.YtecncapbehdkjaaLimD
namespace Go.Avm
open Go.Proofs

def lawL (a0 : Int) (m i : Nat) : List (Nat × AV) := [(0, .d (.int .u8 a0)), (3, .ptr 349 1 0 0 1), (4, dN (m + 1)), (5, .sl 963 1 0 (m + 1) 6), (19, dN (m + 1)), (20, dN i)]
def lawO (a0 : Int) (m : Nat) : List (Nat × AV) := [(0, .d (.int .u8 a0)), (3, .ptr 349 1 0 0 1), (4, dN (m + 1)), (5, .sl 963 1 0 (m + 1) 6)]
def lawHp (es : List AV) (i : Nat) (rest : Heap) : List (Nat × Ent) := [(963, ⟨1, some (.arr 6 es)⟩), (3000400, ⟨(rest 3000400).ver + i, none⟩)]
theorem lawStep (a0 : Int) (m i : Nat) (hm : m ≤ 100000) (h : i < m + 1) (rest : Heap) (X : Fix) (hP : X.P = Try.prog) (hN : X.N = 75) :
    AW X (loopOf Try.prog 5 7) ⟨envOf (lawL a0 m i), ovl (lawHp (fillI (m + 1) i) i rest) rest⟩ fun e' S' => e' = .normal ∧ Weak X S' ⟨envOf (lawL a0 m (i + 1)), ovl (lawHp (fillI (m + 1) (i + 1)) (i + 1) rest) rest⟩ := by
  have hs := seg mixed named { hint := fun f k => if f = 5 then (if k = 21 then some (hLt Try.prog i (m + 1) true (by simpa using h)) else if k = 28 then some (hSucc Try.prog i (by omega))
    else if k = 27 then some (.inb (i : Int) (m + 1) (by omega) (by simpa using h)) else if k = 109005 then some (.elt (fillI (m + 1) i) (0 + i) zeroA (fillI_get (m + 1) i h)) else none) else none } 1000 5 3000000 75
    (c := loopOf Try.prog 5 7) (l := lawL a0 m i) (l' := lawL a0 m (i + 1)) (hp := lawHp (fillI (m + 1) i) i rest) (hp' := lawHp ((fillI (m + 1) i).set (0 + i) x1A) (i + 1) rest) (rest := rest) (e := .normal) (by kernel_rfl) X hP hN
  rw [fillI_set (m + 1) i h] at hs
  exact hs
theorem lawEnd (a0 : Int) (m : Nat) (rest : Heap) (X : Fix) (hP : X.P = Try.prog) (hN : X.N = 75) :
    AW X (loopOf Try.prog 5 7) ⟨envOf (lawL a0 m (m + 1)), ovl (lawHp (fillI (m + 1) (m + 1)) (m + 1) rest) rest⟩ fun e' S' => e' = .exit 0 ∧ Weak X S' ⟨envOf (lawO a0 m), ovl (lawHp (fillI (m + 1) (m + 1)) (m + 1) rest) rest⟩ :=
  seg mixed named { hint := fun f k => if f = 5 then (if k = 21 then some (hLt Try.prog (m + 1) (m + 1) false (by simp)) else none) else none } 1000 5 3000000 75 (by kernel_rfl) X hP hN
theorem lawLoop (a0 : Int) (m : Nat) (hm : m ≤ 100000) (rest : Heap) (X : Fix) (hP : X.P = Try.prog) (hN : X.N = 75) :
    AW X (.loop (loopOf Try.prog 5 7)) ⟨envOf (lawL a0 m 0), ovl (lawHp (List.replicate (m + 1) zeroA) 0 rest) rest⟩ fun e' S' => e' = .exit 0 ∧ S' = ⟨envOf (lawO a0 m), ovl (lawHp (List.replicate (m + 1) x1A) (m + 1) rest) rest⟩ := by
  have := loop_of_segs (P := Try.prog) (N := 75) (c := loopOf Try.prog 5 7) (fun i => lawL a0 m i) (fun i rest => lawHp (fillI (m + 1) i) i rest) (fun i => i ≤ m + 1) (fun i => m + 1 - i) (.exit 0) (lawO a0 m) (fun rest => lawHp (fillI (m + 1) (m + 1)) (m + 1) rest) 0 (Nat.zero_le _) (by simp)
    (fun rest i hi => by
      rcases Nat.lt_or_ge i (m + 1) with hlt | hge
      · exact .inl ⟨i + 1, hlt, by omega, fun X hP hN => lawStep a0 m i hm hlt rest X hP hN⟩
      · have : i = m + 1 := by omega
        subst this
        exact .inr fun X hP hN => lawEnd a0 m rest X hP hN) rest X hP hN
  rw [fillI_zero, fillI_end] at this
  exact this
noncomputable def lawLH (a0 : Int) (m : Nat) (hm : m ≤ 100000) : LHint Try.prog := ⟨75, loopOf Try.prog 5 7, lawL a0 m 0, lawHp (List.replicate (m + 1) zeroA) 0, .exit 0, lawO a0 m, lawHp (List.replicate (m + 1) x1A) (m + 1), lawLoop a0 m hm⟩
def lawW (m : Nat) : WHint := ⟨5, 963, m + 1, x0A :: List.replicate m x1A, insts m, by simp, view_insts m⟩

def hLe (P : Program) (k W : Nat) (t : Bool) (h : decide (W + 1 ≤ k) = t) : Hint P := .val (dB (decide (((W + 1 : Nat) : Int) ≤ (k : Int)))) (dB t) (by
  congr 2
  rw [← h]
  congr 1
  simp; omega)
def hK (P : Program) (a0 : Int) (base m : Nat) (h : (base : Int) + a0.tmod 10 = ((m + 1 : Nat) : Int)) (h1 : base ≤ 100000) (h0 : 0 ≤ a0.tmod 10) (h2 : a0.tmod 10 < 10) : Hint P := .val (dI (IntKind.i64.wrap ((base : Int) + IntKind.i64.wrap (a0.tmod 10)))) (dN (m + 1)) (by
  congr 2
  rw [IntWalk.i64_in (a0.tmod 10) (by omega), IntWalk.i64_in _ (by omega)]
  exact h)
/-- What the law's run is told: t: is there too much? -/
noncomputable def lawPr (a0 : Int) (m W : Nat) (hm : m ≤ 100000) (t : Bool) (c1 c2 : Int) (h0 : 0 ≤ a0.tmod 10) (h2 : a0.tmod 10 < 10) (h3 : ((39995 : Nat) : Int) + a0.tmod 10 = ((m + 1 : Nat) : Int)) (h4 : ((59995 : Nat) : Int) + a0.tmod 10 = ((W + 1 : Nat) : Int))
    (p1 : Pure Try.prog 16 [codeD ((W + 1 : Nat) : Int) (insts 0)] [.int .i64 c1]) (p2 : Pure Try.prog 16 [codeD 3 (insts m)] [.int .i64 c2]) (l1 : decide (W + 1 ≤ 60000) = !t) (l2 : decide (m + 1 ≤ 40000) = !t) (l3 : decide (40000 < m + 1) = t) : Par Try.prog :=
  { obm := fun f s => if f = 29 then (if s = 5 then true else if s = 10 then true else if s = 12 then true else false) else false
    hp := fun f => if f = 29 then true else false
    hint := fun f k => if f = 5 then (if k = 9 then some (.call 13 [] [.bool true] awakeP) else if k = 15 then some (hK Try.prog a0 39995 m h3 (by omega) h0 h2) else if k = 17 then some (.mk ((m + 1 : Nat) : Int) (by omega) (by omega))
      else if k = 46 then some (hK Try.prog a0 59995 W h4 (by omega) h0 h2) else if k = 50 then some (.call 16 [codeD ((W + 1 : Nat) : Int) (insts 0)] [.int .i64 c1] p1) else if k = 57 then some (hLe Try.prog 60000 W (!t) l1)
      else if k = 60 then some (.call 16 [codeD 3 (insts m)] [.int .i64 c2] p2) else if k = 62 then some (hLe Try.prog 40000 m (!t) l2) else if k = 69 then some (hGt Try.prog 40000 m t l3) else if k = 31 then some (.inb 0 (m + 1) (by omega) (by simp)) else none) else none
    loops := fun f r => if f = 5 then (if r = 7 then some (lawLH a0 m hm) else none) else none
    weaks := fun f r => if f = 5 then (if r = 12 then some (lawW m) else none) else none }
end Go.Avm
