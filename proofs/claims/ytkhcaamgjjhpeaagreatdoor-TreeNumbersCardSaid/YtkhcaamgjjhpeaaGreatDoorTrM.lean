/-
  Texts as programs: the signs, known ahead.
-/
import Derived.Test.YtkhcaamgjjhpeaaGreatDoorTrA
import Derived.Test.YtkhcaamgjjhpeaaGreatDoorAvmTe
set_option linter.unusedSectionVars false
namespace Go.Avm
open Go.Proofs
theorem sgF1 : Pure Tryz.prog 13 [.int .u8 1] [.str [43], .int .i64 9] := pure_of_exec okP named (fun _ _ => false) (fun _ => false) 1000 (by kernel_rfl)
theorem sgF2 : Pure Tryz.prog 13 [.int .u8 2] [.str [45], .int .i64 9] := pure_of_exec okP named (fun _ _ => false) (fun _ => false) 1000 (by kernel_rfl)
theorem sgF3 : Pure Tryz.prog 13 [.int .u8 3] [.str [42], .int .i64 10] := pure_of_exec okP named (fun _ _ => false) (fun _ => false) 1000 (by kernel_rfl)
theorem sgF4 : Pure Tryz.prog 13 [.int .u8 4] [.str [47], .int .i64 10] := pure_of_exec okP named (fun _ _ => false) (fun _ => false) 1000 (by kernel_rfl)
theorem sgF5 : Pure Tryz.prog 13 [.int .u8 5] [.str [37], .int .i64 10] := pure_of_exec okP named (fun _ _ => false) (fun _ => false) 1000 (by kernel_rfl)
theorem sgF6 : Pure Tryz.prog 13 [.int .u8 6] [.str [38], .int .i64 7] := pure_of_exec okP named (fun _ _ => false) (fun _ => false) 1000 (by kernel_rfl)
theorem sgF7 : Pure Tryz.prog 13 [.int .u8 7] [.str [124], .int .i64 5] := pure_of_exec okP named (fun _ _ => false) (fun _ => false) 1000 (by kernel_rfl)
theorem sgF8 : Pure Tryz.prog 13 [.int .u8 8] [.str [94], .int .i64 6] := pure_of_exec okP named (fun _ _ => false) (fun _ => false) 1000 (by kernel_rfl)
theorem sgF9 : Pure Tryz.prog 13 [.int .u8 9] [.str [60, 60], .int .i64 8] := pure_of_exec okP named (fun _ _ => false) (fun _ => false) 1000 (by kernel_rfl)
theorem sgF10 : Pure Tryz.prog 13 [.int .u8 10] [.str [62, 62], .int .i64 8] := pure_of_exec okP named (fun _ _ => false) (fun _ => false) 1000 (by kernel_rfl)
theorem sgF11 : Pure Tryz.prog 13 [.int .u8 11] [.str [60], .int .i64 4] := pure_of_exec okP named (fun _ _ => false) (fun _ => false) 1000 (by kernel_rfl)
theorem sgF12 : Pure Tryz.prog 13 [.int .u8 12] [.str [60, 61], .int .i64 4] := pure_of_exec okP named (fun _ _ => false) (fun _ => false) 1000 (by kernel_rfl)
theorem sgF13 : Pure Tryz.prog 13 [.int .u8 13] [.str [62], .int .i64 4] := pure_of_exec okP named (fun _ _ => false) (fun _ => false) 1000 (by kernel_rfl)
theorem sgF14 : Pure Tryz.prog 13 [.int .u8 14] [.str [62, 61], .int .i64 4] := pure_of_exec okP named (fun _ _ => false) (fun _ => false) 1000 (by kernel_rfl)
theorem sgF15 : Pure Tryz.prog 13 [.int .u8 15] [.str [61, 61], .int .i64 3] := pure_of_exec okP named (fun _ _ => false) (fun _ => false) 1000 (by kernel_rfl)
theorem sgF16 : Pure Tryz.prog 13 [.int .u8 16] [.str [33, 61], .int .i64 3] := pure_of_exec okP named (fun _ _ => false) (fun _ => false) 1000 (by kernel_rfl)
theorem sgF17 : Pure Tryz.prog 13 [.int .u8 17] [.str [38, 38], .int .i64 2] := pure_of_exec okP named (fun _ _ => false) (fun _ => false) 1000 (by kernel_rfl)
theorem sgF18 : Pure Tryz.prog 13 [.int .u8 18] [.str [124, 124], .int .i64 1] := pure_of_exec okP named (fun _ _ => false) (fun _ => false) 1000 (by kernel_rfl)
theorem sgF19 : Pure Tryz.prog 13 [.int .u8 19] [.str [45], .int .i64 11] := pure_of_exec okP named (fun _ _ => false) (fun _ => false) 1000 (by kernel_rfl)
theorem sgF20 : Pure Tryz.prog 13 [.int .u8 20] [.str [126], .int .i64 11] := pure_of_exec okP named (fun _ _ => false) (fun _ => false) 1000 (by kernel_rfl)
theorem sgF21 : Pure Tryz.prog 13 [.int .u8 21] [.str [33], .int .i64 11] := pure_of_exec okP named (fun _ _ => false) (fun _ => false) 1000 (by kernel_rfl)
def sgL : List (List D) := [[.str [43], .int .i64 9], [.str [45], .int .i64 9], [.str [42], .int .i64 10], [.str [47], .int .i64 10], [.str [37], .int .i64 10], [.str [38], .int .i64 7], [.str [124], .int .i64 5], [.str [94], .int .i64 6], [.str [60, 60], .int .i64 8], [.str [62, 62], .int .i64 8], [.str [60], .int .i64 4], [.str [60, 61], .int .i64 4], [.str [62], .int .i64 4], [.str [62, 61], .int .i64 4], [.str [61, 61], .int .i64 3], [.str [33, 61], .int .i64 3], [.str [38, 38], .int .i64 2], [.str [124, 124], .int .i64 1], [.str [45], .int .i64 11], [.str [126], .int .i64 11], [.str [33], .int .i64 11]]
def sgM (g : Nat) (ds : List D) : Option (List D) := match Nat.beq g 13 with
  | true => match ds with
    | [.int .u8 (.ofNat (n + 1))] => sgL[n]?
    | _ => none
  | false => none
theorem sgM_ok (g : Nat) (ds rs : List D) (h : sgM g ds = some rs) : Pure Tryz.prog g ds rs := by
  unfold sgM at h
  split at h
  case h_2 => cases h
  rename_i hg
  obtain rfl := Nat.eq_of_beq_eq_true hg
  split at h
  case h_2 => cases h
  rename_i n
  match n, h with
  | 0, h => simp [sgL] at h; subst h; exact sgF1
  | 1, h => simp [sgL] at h; subst h; exact sgF2
  | 2, h => simp [sgL] at h; subst h; exact sgF3
  | 3, h => simp [sgL] at h; subst h; exact sgF4
  | 4, h => simp [sgL] at h; subst h; exact sgF5
  | 5, h => simp [sgL] at h; subst h; exact sgF6
  | 6, h => simp [sgL] at h; subst h; exact sgF7
  | 7, h => simp [sgL] at h; subst h; exact sgF8
  | 8, h => simp [sgL] at h; subst h; exact sgF9
  | 9, h => simp [sgL] at h; subst h; exact sgF10
  | 10, h => simp [sgL] at h; subst h; exact sgF11
  | 11, h => simp [sgL] at h; subst h; exact sgF12
  | 12, h => simp [sgL] at h; subst h; exact sgF13
  | 13, h => simp [sgL] at h; subst h; exact sgF14
  | 14, h => simp [sgL] at h; subst h; exact sgF15
  | 15, h => simp [sgL] at h; subst h; exact sgF16
  | 16, h => simp [sgL] at h; subst h; exact sgF17
  | 17, h => simp [sgL] at h; subst h; exact sgF18
  | 18, h => simp [sgL] at h; subst h; exact sgF19
  | 19, h => simp [sgL] at h; subst h; exact sgF20
  | 20, h => simp [sgL] at h; subst h; exact sgF21
  | n + 21, h => simp [sgL] at h
def signsM : Memo Tryz.prog := ⟨sgM, sgM_ok⟩
end Go.Avm
