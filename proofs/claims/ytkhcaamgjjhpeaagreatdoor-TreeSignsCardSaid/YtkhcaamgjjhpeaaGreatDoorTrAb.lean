/-
  Texts as programs: the document's third example.
-/
import Derived.Test.YtkhcaamgjjhpeaaGreatDoorTrP
import Derived.Test.YtkhcaamgjjhpeaaGreatDoorTrAc
set_option linter.unusedSectionVars false
namespace Go.Avm
open Go.Proofs
theorem toks_mk (l : List T) (e : T) (he : e.k = 0) (hl : l.length + 1 < 1000000) : Toks (l ++ [e]) :=
  ⟨by simpa using hl, fun i x hx hk => by
    rw [List.length_append, List.length_singleton]
    rcases Nat.lt_or_ge i l.length with h | h
    · omega
    · rw [List.getElem?_append_right h] at hx
      cases hi : i - l.length with
      | zero =>
        rw [hi] at hx
        simp only [List.getElem?_cons_zero, Option.some.injEq] at hx
        rw [← hx, he] at hk
        exact absurd rfl hk
      | succ j => rw [hi] at hx; simp at hx⟩
def isDone {α : Type} : Res α → Bool
  | .out => false
  | _ => true
theorem isDone_ne {α : Type} {r : Res α} (h : isDone r = true) : r ≠ .out := fun e => by rw [e] at h; cases h
def lx3L : List T := [⟨2, 0, [102, 110], 0⟩, ⟨1, 3, [109, 97, 105, 110], 0⟩, ⟨4, 7, [40], 0⟩, ⟨4, 8, [41], 0⟩, ⟨4, 9, [58], 0⟩, ⟨2, 11, [105, 110, 116], 0⟩, ⟨4, 15, [123], 0⟩, ⟨2, 17, [114, 101, 116, 117, 114, 110], 0⟩, ⟨4, 24, [40], 0⟩, ⟨3, 25, [49], 1⟩, ⟨4, 27, [45], 0⟩, ⟨3, 29, [50], 2⟩, ⟨4, 30, [41], 0⟩, ⟨4, 32, [45], 0⟩, ⟨4, 34, [40], 0⟩, ⟨3, 35, [51], 3⟩, ⟨4, 37, [45], 0⟩, ⟨3, 39, [52], 4⟩, ⟨4, 40, [41], 0⟩, ⟨4, 41, [59], 0⟩, ⟨4, 43, [125], 0⟩]
def lx3E : T := ⟨0, 44, [], 0⟩
set_option maxRecDepth 100000 in
theorem lx3P : Pure Tryz.prog 19 [.str [102, 110, 32, 109, 97, 105, 110, 40, 41, 58, 32, 105, 110, 116, 32, 123, 32, 114, 101, 116, 117, 114, 110, 32, 40, 49, 32, 45, 32, 50, 41, 32, 45, 32, 40, 51, 32, 45, 32, 52, 41, 59, 32, 125]] [toksD (lx3L ++ [lx3E]), .int .i64 0, .int .i64 0] := lexT3
set_option maxRecDepth 100000 in
theorem awP3 : Pure Tryz.prog 9 [.str [102, 110, 32, 109, 97, 105, 110, 40, 41, 58, 32, 105, 110, 116, 32, 123, 32, 114, 101, 116, 117, 114, 110, 32, 40, 49, 32, 45, 32, 50, 41, 32, 45, 32, 40, 51, 32, 45, 32, 52, 41, 59, 32, 125]] [.agg [.ro [.agg [.str [109, 97, 105, 110], .ro [], .int .u8 1, .ro [.agg [.int .u8 6, .int .i64 1, .str [], .int .u8 0, .int .i64 0, .int .i64 17, .ro [.agg [.int .u8 9, .int .u8 2, .str [], .int .i64 0, .int .i64 32, .ro [.agg [.int .u8 9, .int .u8 2, .str [], .int .i64 0, .int .i64 27, .ro [.agg [.int .u8 1, .int .u8 0, .str [], .int .i64 1, .int .i64 25, .ro []], .agg [.int .u8 1, .int .u8 0, .str [], .int .i64 2, .int .i64 29, .ro []]]], .agg [.int .u8 9, .int .u8 2, .str [], .int .i64 0, .int .i64 37, .ro [.agg [.int .u8 1, .int .u8 0, .str [], .int .i64 3, .int .i64 35, .ro []], .agg [.int .u8 1, .int .u8 0, .str [], .int .i64 4, .int .i64 39, .ro []]]]]]], .ro [], .ro []]], .int .i64 0]]], .int .i64 0, .int .i64 0] := by
  have h := parseC (toks_mk lx3L lx3E rfl (by decide)) (by simp) lx3P 60 (isDone_ne (by kernel_rfl))
  have e : prOut (sProg (lx3L ++ [lx3E]) 60) = [.agg [.ro [.agg [.str [109, 97, 105, 110], .ro [], .int .u8 1, .ro [.agg [.int .u8 6, .int .i64 1, .str [], .int .u8 0, .int .i64 0, .int .i64 17, .ro [.agg [.int .u8 9, .int .u8 2, .str [], .int .i64 0, .int .i64 32, .ro [.agg [.int .u8 9, .int .u8 2, .str [], .int .i64 0, .int .i64 27, .ro [.agg [.int .u8 1, .int .u8 0, .str [], .int .i64 1, .int .i64 25, .ro []], .agg [.int .u8 1, .int .u8 0, .str [], .int .i64 2, .int .i64 29, .ro []]]], .agg [.int .u8 9, .int .u8 2, .str [], .int .i64 0, .int .i64 37, .ro [.agg [.int .u8 1, .int .u8 0, .str [], .int .i64 3, .int .i64 35, .ro []], .agg [.int .u8 1, .int .u8 0, .str [], .int .i64 4, .int .i64 39, .ro []]]]]]], .ro [], .ro []]], .int .i64 0]]], .int .i64 0, .int .i64 0] := by kernel_rfl
  rw [e] at h
  exact h
end Go.Avm
