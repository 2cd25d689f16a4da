/-
  The abstract machine, part P: a whole run's answer, by the kernel.
-/
import Derived.Test.YtkhcaamgjjhpeaaGreatDoorAvmO
set_option linter.unusedSectionVars false
namespace Go.Avm
variable [GlobTab]

def isTrue : Option (List D) → Bool
  | some [.bool b] => b
  | _ => false
theorem isTrue_eq {r : Option (List D)} (h : isTrue r = true) : r = some [.bool true] := by
  unfold isTrue at h
  split at h
  · subst h; rfl
  · cases h
def namedB (P : Program) : Bool := P.funcs.all fun fn => !(fn.name == "runtime.NumGoroutine")
theorem named_of {P : Program} (h : namedB P = true) (ho : OnceAll P) : Named P := ⟨fun g fn hf => by
  have := Array.all_eq_true_iff_forall_mem.1 h fn (Array.mem_of_getElem? hf)
  simpa using this, ho⟩
theorem pure_true {P : Program} (hm : OkP P) (hn : Named P) (obm : Nat → Nat → Bool) (hp : Nat → Bool) (n : Nat) {g : Nat} {ds : List D} (h : isTrue (callDE P (execE P obm hp .none n) g ds) = true) : Pure P g ds [.bool true] :=
  pure_of_exec hm hn obm hp n (isTrue_eq h)
end Go.Avm
