/-
  Checks of code at its limits, part D: what code.Size and code.Check answer; the law's own loop.
-/
import Derived.Test.YtecncapbehdkjaaLimC
namespace Go.Avm
open Go.Proofs

def hSum (P : Program) (m : Nat) (h : m ≤ 100000) : Hint P := .val (dI (IntKind.i64.wrap (0 + ((m + 1 : Nat) : Int)))) (dN (m + 1)) (by
  congr 2
  rw [IntWalk.i64_in _ (by omega)]
  simp)
def sizePr (m : Nat) (hm : m ≤ 100000) : Par Try.prog := {
  hint := fun f k => if f = 20 then (if k = 28 then some (hLen Try.prog m) else if k = 29 then some (hSum Try.prog m hm) else if k = 30 then some (hSum Try.prog m hm) else none) else none }
theorem sizeC (m : Nat) (hm : m ≤ 100000) : Pure Try.prog 20 [codeD 3 (insts m)] [.int .i64 ((m + 1 : Nat) : Int)] :=
  pure_of_run mixed named (sizePr m hm) 1000 (by kernel_rfl)

noncomputable def checkPr (m : Nat) (hm : m ≤ 100000) (t : Bool) (ht : decide (40000 < m + 1) = t) : Par Try.prog := {
  hint := fun f k => if f = 16 then (if k = 9 then some (.call 20 [codeD 3 (insts m)] [.int .i64 ((m + 1 : Nat) : Int)] (sizeC m hm)) else if k = 10 then some (hGt Try.prog 40000 m t ht)
    else if k = 57 then some (.call 54 [codeD 3 (insts m), fnD 3 (insts m)] [.bool true] (funC m hm)) else none) else none }
set_option maxRecDepth 100000 in
theorem checkC (m : Nat) (hm : m ≤ 100000) (h : m + 1 ≤ 40000) : Pure Try.prog 16 [codeD 3 (insts m)] [.int .i64 0] :=
  pure_of_run mixed named (checkPr m hm false (by simp; omega)) 1000 (by kernel_rfl)
set_option maxRecDepth 100000 in
theorem checkC' (m : Nat) (hm : m ≤ 100000) (h : 40000 < m + 1) : Pure Try.prog 16 [codeD 3 (insts m)] [.int .i64 15] :=
  pure_of_run mixed named (checkPr m hm true (by simp; omega)) 1000 (by kernel_rfl)
noncomputable def checkPrD (W : Nat) (b : Bool) (h : Pure Try.prog 54 [codeD ((W + 1 : Nat) : Int) (insts 0), fnD ((W + 1 : Nat) : Int) (insts 0)] [.bool b]) : Par Try.prog := {
  hint := fun f k => if f = 16 then (if k = 57 then some (.call 54 [codeD ((W + 1 : Nat) : Int) (insts 0), fnD ((W + 1 : Nat) : Int) (insts 0)] [.bool b] h) else none) else none }
set_option maxRecDepth 100000 in
theorem checkD (W : Nat) (h : W + 1 ≤ 60000) : Pure Try.prog 16 [codeD ((W + 1 : Nat) : Int) (insts 0)] [.int .i64 0] :=
  pure_of_run mixed named (checkPrD W true (funD W (by omega) h)) 1000 (by kernel_rfl)
set_option maxRecDepth 100000 in
theorem checkD' (W : Nat) (hW : W + 1 ≤ 100000) (h : 60000 < W + 1) : Pure Try.prog 16 [codeD ((W + 1 : Nat) : Int) (insts 0)] [.int .i64 3] :=
  pure_of_run mixed named (checkPrD W false (funD' W hW h)) 1000 (by kernel_rfl)
set_option maxRecDepth 100000 in
theorem awakeP : Pure Try.prog 13 [] [.bool true] :=
  pure_true mixed named (fun _ _ => false) (fun _ => false) 100000 (by kernel_rfl)

/-! ### The law's loop: a list is filled -/
def x0A : AV := .agg [.d (.int .u8 30), dI 0, .nils, dI 7, dI 0, .nils]
def x1A : AV := .agg [.d (.int .u8 40), dI (-1), .d (.ro [zI 0]), dI 0, dI 0, .nils]
def zeroA : AV := .agg [.d (.int .u8 0), dI 0, .nils, dI 0, dI 0, .nils]
def fillI (V i : Nat) : List AV := List.replicate i x1A ++ List.replicate (V - i) zeroA
theorem fillI_set (V i : Nat) (h : i < V) : (fillI V i).set (0 + i) x1A = fillI V (i + 1) := by
  unfold fillI
  obtain ⟨m, hm⟩ : ∃ m, V - i = m + 1 := ⟨V - i - 1, by omega⟩
  have h2 : V - (i + 1) = m := by omega
  rw [hm, h2, Nat.zero_add, List.set_append_right _ _ (by simp), List.length_replicate, Nat.sub_self, List.replicate_succ, List.set_cons_zero, List.replicate_succ' (n := i)]
  simp
theorem fillI_get (V i : Nat) (h : i < V) : (fillI V i)[0 + i]? = some zeroA := by
  unfold fillI
  rw [Nat.zero_add, List.getElem?_append_right (by simp), List.length_replicate, Nat.sub_self, List.getElem?_replicate]
  simp; omega
theorem fillI_end (V : Nat) : fillI V V = List.replicate V x1A := by simp [fillI]
theorem fillI_zero (V : Nat) : fillI V 0 = List.replicate V zeroA := by simp [fillI]
theorem view_insts (m : Nat) (h : Heap) : viewL (view 3 h) (x0A :: List.replicate m x1A) = some (insts m, []) := by
  have h1 : view 3 h x1A = some (x1D, []) := rfl
  have hr : ∀ m, viewL (view 3 h) (List.replicate m x1A) = some (List.replicate m x1D, []) := by
    intro m
    induction m with
    | zero => rfl
    | succ m ih => rw [List.replicate_succ, viewL, h1, ih]; rfl
  rw [viewL, hr m]
  rfl
end Go.Avm
