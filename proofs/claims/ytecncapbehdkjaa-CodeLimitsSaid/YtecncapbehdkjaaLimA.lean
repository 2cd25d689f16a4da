/-
  Checks of code at its limits, part A: the loop that lays out 'made' in code.fun.
-/
import Derived.Test.YtecncapbehdkjaaAvmT
import Derived.Test.YtecncapbehdkjaaRows
import Derived.IntWalk
namespace Go.Avm
open Go.Proofs

def bodyOf (P : Program) (f : Nat) : Code := ((P.funcs[f]?).bind (·.body)).getD .skip
def findLoop (r : Nat) : Code → Option Code
  | .loop x => if firstReg x = r then some x else findLoop r x
  | .seq x y => match findLoop r x with
    | some c => some c
    | none => findLoop r y
  | .block _ x => findLoop r x
  | .cond _ x y => match findLoop r x with
    | some c => some c
    | none => findLoop r y
  | _ => none
def loopOf (P : Program) (f r : Nat) : Code := (findLoop r (bodyOf P f)).getD .skip

abbrev dN (n : Nat) : AV := .d (.int .i64 (n : Int))
abbrev dI (n : Int) : AV := .d (.int .i64 n)
abbrev dB (b : Bool) : AV := .d (.bool b)
def hLt (P : Program) (a b : Nat) (t : Bool) (h : decide (a < b) = t) : Hint P := .val (dB (decide ((a : Int) < (b : Int)))) (dB t) (by
  congr 2
  rw [← h]
  simp)
def hSucc (P : Program) (i : Nat) (h : i < 1099511627776) : Hint P := .val (dI (IntKind.i64.wrap ((i : Int) + 1))) (dN (i + 1)) (by
  congr 2
  rw [IntWalk.i64_in _ (by omega)]
  simp)

def spotA : AV := .d (.agg [.int .i64 (-1), .int .i64 0])
def spotZ : AV := .d (.agg [.int .i64 0, .int .i64 0])
def madeI (V i : Nat) : List AV := List.replicate i spotA ++ List.replicate (V - i) spotZ
theorem madeI_set (V i : Nat) (h : i < V) : (madeI V i).set (0 + i) spotA = madeI V (i + 1) := by
  unfold madeI
  obtain ⟨m, hm⟩ : ∃ m, V - i = m + 1 := ⟨V - i - 1, by omega⟩
  have h2 : V - (i + 1) = m := by omega
  rw [hm, h2, Nat.zero_add, List.set_append_right _ _ (by simp), List.length_replicate, Nat.sub_self, List.replicate_succ, List.set_cons_zero, List.replicate_succ' (n := i)]
  simp
theorem madeI_get (V i : Nat) (h : i < V) : (madeI V i)[0 + i]? = some spotZ := by
  unfold madeI
  rw [Nat.zero_add, List.getElem?_append_right (by simp), List.length_replicate, Nat.sub_self, List.getElem?_replicate]
  simp; omega
theorem madeI_end (V : Nat) : madeI V V = List.replicate V spotA := by simp [madeI]
theorem madeI_zero (V : Nat) : madeI V 0 = List.replicate V spotZ := by simp [madeI]

theorem mixed : Try.prog.follows .mixedOrders = true := Try.checked.mixed
theorem named : namedB Try.prog = true := by kernel_rfl

/-- The cells of a checker. -/
def chk (c : Nat → AV) (V : Nat) : List AV := [c 0, c 1, c 2, c 3, c 4, c 5, c 6, c 7, c 8, .sl 13743 1 0 V 2]
def initHp (c : Nat → AV) (V : Nat) (es : List AV) : List (Nat × Ent) := [(442, ⟨1, some (.arr 1 (chk c V))⟩), (13743, ⟨1, some (.arr 2 es)⟩)]
def initL (V i : Nat) : List (Nat × AV) := [(5, .ptr 442 1 0 0 1), (54, dN V), (55, dN i)]

theorem initStep (c : Nat → AV) (V i : Nat) (hV : V ≤ 100000) (h : i < V) (rest : Heap) (X : Fix) (hP : X.P = Try.prog) (hN : X.N = 72) :
    AW X (loopOf Try.prog 54 6) ⟨envOf (initL V i), ovl (initHp c V (madeI V i)) rest⟩ fun e' S' => e' = .normal ∧ Weak X S' ⟨envOf (initL V (i + 1)), ovl (initHp c V (madeI V (i + 1))) rest⟩ := by
  have hs := seg mixed named { hint := fun f k => if f = 54 then (if k = 56 then some (hLt Try.prog i V true (by simpa using h)) else if k = 65 then some (hSucc Try.prog i (by omega))
    else if k = 63 then some (.inb (i : Int) V (by omega) (by simpa using h)) else if k = 108007 then some (.elt (madeI V i) (0 + i) spotZ (madeI_get V i h)) else none) else none } 1000 54 1000 72
    (c := loopOf Try.prog 54 6) (l := initL V i) (l' := initL V (i + 1)) (hp := initHp c V (madeI V i)) (hp' := initHp c V ((madeI V i).set (0 + i) spotA)) (rest := rest) (e := .normal) (by kernel_rfl) X hP hN
  rw [madeI_set V i h] at hs
  exact hs
theorem initEnd (c : Nat → AV) (V : Nat) (rest : Heap) (X : Fix) (hP : X.P = Try.prog) (hN : X.N = 72) :
    AW X (loopOf Try.prog 54 6) ⟨envOf (initL V V), ovl (initHp c V (madeI V V)) rest⟩ fun e' S' => e' = .exit 0 ∧ Weak X S' ⟨envOf [(5, .ptr 442 1 0 0 1)], ovl (initHp c V (madeI V V)) rest⟩ :=
  seg mixed named { hint := fun f k => if f = 54 then (if k = 56 then some (hLt Try.prog V V false (by simp)) else none) else none } 1000 54 1000 72 (by kernel_rfl) X hP hN
theorem initLoop (c : Nat → AV) (V : Nat) (hV : V ≤ 100000) (rest : Heap) (X : Fix) (hP : X.P = Try.prog) (hN : X.N = 72) :
    AW X (.loop (loopOf Try.prog 54 6)) ⟨envOf (initL V 0), ovl (initHp c V (List.replicate V spotZ)) rest⟩ fun e' S' => e' = .exit 0 ∧ S' = ⟨envOf [(5, .ptr 442 1 0 0 1)], ovl (initHp c V (List.replicate V spotA)) rest⟩ := by
  have := loop_of_segs (P := Try.prog) (N := 72) (c := loopOf Try.prog 54 6) (fun i => initL V i) (fun i _ => initHp c V (madeI V i)) (fun i => i ≤ V) (fun i => V - i) (.exit 0) [(5, .ptr 442 1 0 0 1)] (fun _ => initHp c V (madeI V V)) 0 (Nat.zero_le _) (by simp)
    (fun rest i hi => by
      rcases Nat.lt_or_ge i V with hlt | hge
      · exact .inl ⟨i + 1, hlt, by omega, fun X hP hN => initStep c V i hV hlt rest X hP hN⟩
      · have : i = V := by omega
        subst this
        exact .inr fun X hP hN => initEnd c i rest X hP hN) rest X hP hN
  rw [madeI_zero, madeI_end] at this
  exact this
end Go.Avm
