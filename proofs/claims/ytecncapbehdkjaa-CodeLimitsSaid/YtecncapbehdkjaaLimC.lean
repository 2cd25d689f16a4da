/-
  Checks of code at its limits, part C: what code.fun answers.
-/
import Derived.Test.YtecncapbehdkjaaLimB
namespace Go.Avm
open Go.Proofs

def blkD (l : List D) : D := .agg [.ro [], .ro l, .int .u8 3, zI 0, zI 0, zI 0]
def fnD (V : Int) (l : List D) : D := .agg [zI 0, zI 0, zI V, .ro [blkD l]]
def codeD (V : Int) (l : List D) : D := .agg [.ro [fnD V l], .ro [], zI 0]
def cellsC (V : Int) (l : List D) : Nat → AV
  | 0 => .d (.ro [fnD V l])
  | 1 => .d (.ro [])
  | 5 => dI V
  | 6 => .d (.ro [blkD l])
  | 7 => .d (.ro [.ro []])
  | 8 => .d (.ro [zI (-1)])
  | _ => dI 0
def hLen (P : Program) (m : Nat) : Hint P := .val (.d (.int .i64 ((insts m).length : Int))) (dN (m + 1)) (by simp [insts])
def p4R : AV := .ptr 21956 1 0 0 1
def p5R : AV := .ptr 23125 1 0 0 1
noncomputable def makesLH (m : Nat) (hm : m ≤ 100000) : LHint Try.prog := ⟨96, loopOf Try.prog 74 11, makesL m 0, makesHp (cellsC 3 (insts m)) 0, .exit 4, makesO, makesHp (cellsC 3 (insts m)) (m + 1), makesLoop (cellsC 3 (insts m)) m hm⟩
noncomputable def readsLH (m : Nat) (hm : m ≤ 100000) : LHint Try.prog := ⟨146, loopOf Try.prog 75 17, readsL p4R p5R m 0, readsHp (cellsC 3 (insts m)) 0, .exit 6, readsO p4R p5R, readsHp (cellsC 3 (insts m)) (m + 1), readsLoop (cellsC 3 (insts m)) p4R p5R m hm⟩
noncomputable def funPr (m : Nat) (hm : m ≤ 100000) : Par Try.prog := {
  hint := fun f k => if f = 74 then (if k = 62 then some (hLen Try.prog m) else none) else if f = 75 then (if k = 31 then some (hLen Try.prog m) else if k = 78 then some (hLen Try.prog m) else none) else if f = 92 then (if k = 39 then some (hPos Try.prog m) else none) else none
  loops := fun f r => if f = 74 then (if r = 11 then some (makesLH m hm) else none) else if f = 75 then (if r = 17 then some (readsLH m hm) else none) else none }
noncomputable def initLH (W : Nat) (hW : W + 1 ≤ 100000) : LHint Try.prog := ⟨72, loopOf Try.prog 54 6, initL (W + 1) 0, fun _ => initHp (cellsC ((W + 1 : Nat) : Int) (insts 0)) (W + 1) (List.replicate (W + 1) spotZ), .exit 0, [(5, .ptr 442 1 0 0 1)],
  fun _ => initHp (cellsC ((W + 1 : Nat) : Int) (insts 0)) (W + 1) (List.replicate (W + 1) spotA), fun rest X hP hN => initLoop _ (W + 1) hW rest X hP hN⟩
def hNeg (P : Program) (W : Nat) : Hint P := .val (dB (decide (((W + 1 : Nat) : Int) < 0))) (dB false) (by
  congr 2)
def hGt (P : Program) (k : Nat) (W : Nat) (t : Bool) (h : decide (k < W + 1) = t) : Hint P := .val (dB (decide ((k : Int) < ((W + 1 : Nat) : Int)))) (dB t) (by
  congr 2
  rw [← h]
  congr 1
  simp; omega)
noncomputable def funPrD (W : Nat) (hW : W + 1 ≤ 100000) (t : Bool) (ht : decide (60000 < W + 1) = t) : Par Try.prog := {
  hint := fun f k => if f = 54 then (if k = 32 then some (hNeg Try.prog W) else if k = 37 then some (hGt Try.prog 60000 W t ht) else if k = 47 then some (.mk ((W + 1 : Nat) : Int) (by omega) (by omega)) else none) else if f = 105 then (if k = 14 then some (hPos Try.prog W) else none) else none
  loops := fun f r => if f = 54 then (if r = 6 then some (initLH W hW) else none) else none }
set_option maxRecDepth 100000 in
theorem funC (m : Nat) (hm : m ≤ 100000) : Pure Try.prog 54 [codeD 3 (insts m), fnD 3 (insts m)] [.bool true] :=
  pure_of_run mixed named (funPr m hm) 100000 (by kernel_rfl)

set_option maxRecDepth 100000 in
theorem funD (W : Nat) (hW : W + 1 ≤ 100000) (h : W + 1 ≤ 60000) : Pure Try.prog 54 [codeD ((W + 1 : Nat) : Int) (insts 0), fnD ((W + 1 : Nat) : Int) (insts 0)] [.bool true] :=
  pure_of_run mixed named (funPrD W hW false (by simp; omega)) 100000 (by kernel_rfl)
set_option maxRecDepth 100000 in
theorem funD' (W : Nat) (hW : W + 1 ≤ 100000) (h : 60000 < W + 1) : Pure Try.prog 54 [codeD ((W + 1 : Nat) : Int) (insts 0), fnD ((W + 1 : Nat) : Int) (insts 0)] [.bool false] :=
  pure_of_run mixed named (funPrD W hW true (by simp; omega)) 100000 (by kernel_rfl)
end Go.Avm
