/-
  Paint: what every text of these laws needs: no package variables are read; short names.
-/
import Derived.Test.YtpcomfnianamgaaAvmV
import Derived.Test.YtpcomfnianamgaaProg
import Derived.Test.YtpcomfnianamgaaChecked
import Derived.IntWalk
set_option linter.unusedSectionVars false
namespace Go.Avm
open Go.Proofs

instance paTab : GlobTab := ⟨fun _ => none, none, fun _ => none⟩
theorem extOk : ExtAll Try.prog := fun g k h => by cases h
theorem okP : OkP Try.prog := ⟨Try.checked.mixed, extOk⟩
theorem onceAll : OnceAll Try.prog := fun g h => by cases h
theorem named : Named Try.prog := named_of (by kernel_rfl) onceAll

abbrev dN (n : Nat) : AV := .d (.int .i64 (n : Int))
abbrev dB (b : Bool) : AV := .d (.bool b)
def hLt (P : Program) (a b : Nat) (t : Bool) (h : decide (a < b) = t) : Hint P := .val (dB (decide ((a : Int) < (b : Int)))) (dB t) (by
  congr 2
  rw [← h]
  simp)
def hSucc (P : Program) (i : Nat) (h : i < 9223372036854775807) : Hint P := .val (dI (IntKind.i64.wrap ((i : Int) + 1))) (dN (i + 1)) (by
  unfold dI
  congr 2
  rw [IntWalk.i64_in _ (by omega)]
  simp)
def bodyOf (P : Program) (f : Nat) : Code := ((P.funcs[f]?).bind (·.body)).getD .skip
def findLoop (r : Nat) : Code → Option Code
  | .loop x => if firstReg x = r then some x else findLoop r x
  | .seq x y => match findLoop r x with
    | some c => some c
    | none => findLoop r y
  | .block _ x => findLoop r x
  | .cond _ x y => match findLoop r x with
    | some c => some c
    | none => findLoop r y
  | _ => none
def loopOf (P : Program) (f r : Nat) : Code := (findLoop r (bodyOf P f)).getD .skip
def obmP (f s : Nat) : Bool := (f == 68 && (s == 78 || s == 88 || s == 151 || s == 170)) || (f == 70)
end Go.Avm
