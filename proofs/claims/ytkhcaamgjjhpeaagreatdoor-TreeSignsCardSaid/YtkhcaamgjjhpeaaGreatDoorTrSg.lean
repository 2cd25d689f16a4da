/-
  Texts as programs: each operation's sign, each type's name, over data.
-/
import Derived.Test.YtkhcaamgjjhpeaaGreatDoorTrAw
set_option linter.unusedSectionVars false
namespace Go.Avm
open Go.Proofs
noncomputable def sgPar : Par Tryz.prog := { hint := fun f s => bif Nat.beq f 5 && Nat.beq s 17 then some (.call 11 [] [.bool true] awake02) else none }
noncomputable def sgRun (n : Nat) : Option (AExit × Pairs) := pureRun Tryz.prog (execH Tryz.prog sgPar 1000) 5 [.int .u8 (n : Int)] [.bool true]
set_option maxRecDepth 100000 in
theorem sgk0 : (List.range' 0 32).map (fun n : Nat => outL (sgRun n)) = (List.range' 0 32).map (fun n : Nat => outR .ret (sgRun n)) := by kernel_rfl
set_option maxRecDepth 100000 in
theorem sgk1 : (List.range' 32 32).map (fun n : Nat => outL (sgRun n)) = (List.range' 32 32).map (fun n : Nat => outR .ret (sgRun n)) := by kernel_rfl
set_option maxRecDepth 100000 in
theorem sgk2 : (List.range' 64 32).map (fun n : Nat => outL (sgRun n)) = (List.range' 64 32).map (fun n : Nat => outR .ret (sgRun n)) := by kernel_rfl
set_option maxRecDepth 100000 in
theorem sgk3 : (List.range' 96 32).map (fun n : Nat => outL (sgRun n)) = (List.range' 96 32).map (fun n : Nat => outR .ret (sgRun n)) := by kernel_rfl
set_option maxRecDepth 100000 in
theorem sgk4 : (List.range' 128 32).map (fun n : Nat => outL (sgRun n)) = (List.range' 128 32).map (fun n : Nat => outR .ret (sgRun n)) := by kernel_rfl
set_option maxRecDepth 100000 in
theorem sgk5 : (List.range' 160 32).map (fun n : Nat => outL (sgRun n)) = (List.range' 160 32).map (fun n : Nat => outR .ret (sgRun n)) := by kernel_rfl
set_option maxRecDepth 100000 in
theorem sgk6 : (List.range' 192 32).map (fun n : Nat => outL (sgRun n)) = (List.range' 192 32).map (fun n : Nat => outR .ret (sgRun n)) := by kernel_rfl
set_option maxRecDepth 100000 in
theorem sgk7 : (List.range' 224 32).map (fun n : Nat => outL (sgRun n)) = (List.range' 224 32).map (fun n : Nat => outR .ret (sgRun n)) := by kernel_rfl
theorem sgAt {n : Nat} (hn : n < 256) : outL (sgRun n) = outR .ret (sgRun n) := by
  have key : ∀ a, (List.range' a 32).map (fun n : Nat => outL (sgRun n)) = (List.range' a 32).map (fun n : Nat => outR .ret (sgRun n)) → a ≤ n → n < a + 32 → outL (sgRun n) = outR .ret (sgRun n) := fun a h h1 h2 => List.map_inj_left.1 h n (by rw [List.mem_range'_1]; exact ⟨h1, h2⟩)
  rcases Nat.lt_or_ge n 32 with h | h
  · exact key 0 sgk0 (by omega) (by omega)
  rcases Nat.lt_or_ge n 64 with h1 | h1
  · exact key 32 sgk1 (by omega) (by omega)
  rcases Nat.lt_or_ge n 96 with h2 | h2
  · exact key 64 sgk2 (by omega) (by omega)
  rcases Nat.lt_or_ge n 128 with h3 | h3
  · exact key 96 sgk3 (by omega) (by omega)
  rcases Nat.lt_or_ge n 160 with h4 | h4
  · exact key 128 sgk4 (by omega) (by omega)
  rcases Nat.lt_or_ge n 192 with h5 | h5
  · exact key 160 sgk5 (by omega) (by omega)
  rcases Nat.lt_or_ge n 224 with h6 | h6
  · exact key 192 sgk6 (by omega) (by omega)
  exact key 224 sgk7 (by omega) (by omega)
theorem signsPure {n : Nat} (hn : n < 256) : Pure Tryz.prog 5 [.int .u8 (n : Int)] [.bool true] := pure_of_run okP named sgPar 1000 (sgAt hn)
end Go.Avm
