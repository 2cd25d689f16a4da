/-
  Texts as programs: what the model and a law's text say beside the program.
-/
import Derived.Test.YtkhcaamgjjhpeaaGreatDoorTrOnceB
import Derived.IntWalk
set_option linter.unusedSectionVars false
namespace Go.Avm
open Go.Proofs

/-- What the model and a law's text say beside the program: a table of package strings, sync.Once, a function without a body. -/
def asciiTab : List D := (List.range 256).map fun n => .int .u8 (if n = 9 ∨ n = 10 ∨ n = 11 ∨ n = 12 ∨ n = 13 ∨ n = 32 then 1 else 0)
instance lexTab : GlobTab := ⟨fun g => if g = 0 then some asciiTab else if g = 4 then some [.ifc] else none, some 71, fun g => if g = 123 then some .indexByte else if g = 104 then some .same else none⟩
theorem extOk : ExtAll Tryz.prog := fun g k h => by
  have h' : (if g = 123 then some ExtK.indexByte else if g = 104 then some ExtK.same else none) = some k := h
  split at h'
  · rename_i hg
    subst hg
    cases h'
    exact ⟨Tryz.f123, Tryz.func123, by kernel_rfl, by kernel_rfl, by kernel_rfl, by show Extern.find Tryz.f123 = some Extern.BytealgIndexByte.indexByte; kernel_rfl⟩
  · split at h'
    · rename_i hg
      subst hg
      cases h'
      exact ⟨Tryz.f104, Tryz.func104, by kernel_rfl, by kernel_rfl, by kernel_rfl, by show Extern.find Tryz.f104 = some Extern.AbiNoEscape.same; kernel_rfl⟩
    · cases h'
theorem okP : OkP Tryz.prog := ⟨Tryz.checked.mixed, extOk⟩
theorem onceAll : OnceAll Tryz.prog := fun g h => by
  have h' : some 71 = some g := h
  cases h'
  exact onceOk
theorem named : Named Tryz.prog := named_of (by kernel_rfl) onceAll

abbrev dN (n : Nat) : AV := .d (.int .i64 (n : Int))
abbrev dI (n : Int) : AV := .d (.int .i64 n)
abbrev dB (b : Bool) : AV := .d (.bool b)
def hLt (P : Program) (a b : Nat) (t : Bool) (h : decide (a < b) = t) : Hint P := .val (dB (decide ((a : Int) < (b : Int)))) (dB t) (by
  congr 2
  rw [← h]
  simp)
def hSucc (P : Program) (i : Nat) (h : i < 1099511627776) : Hint P := .val (dI (IntKind.i64.wrap ((i : Int) + 1))) (dN (i + 1)) (by
  congr 2
  rw [IntWalk.i64_in _ (by omega)]
  simp)
def bodyOf (P : Program) (f : Nat) : Code := ((P.funcs[f]?).bind (·.body)).getD .skip
def findLoop (r : Nat) : Code → Option Code
  | .loop x => if firstReg x = r then some x else findLoop r x
  | .seq x y => match findLoop r x with
    | some c => some c
    | none => findLoop r y
  | .block _ x => findLoop r x
  | .cond _ x y => match findLoop r x with
    | some c => some c
    | none => findLoop r y
  | _ => none
def loopOf (P : Program) (f r : Nat) : Code := (findLoop r (bodyOf P f)).getD .skip
end Go.Avm
