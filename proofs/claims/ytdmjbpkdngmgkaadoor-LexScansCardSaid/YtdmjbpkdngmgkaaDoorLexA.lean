/-
  The words of the language: what lex.Word and the document's answer say of every text.
-/
import Derived.Test.YtdmjbpkdngmgkaaDoorOnceB
import Derived.IntWalk
set_option linter.unusedSectionVars false
namespace Go.Avm
open Go.Proofs

/-- What the model and a law's text say beside the program: a table of package strings, sync.Once, a function without a body. -/
def asciiTab : List D := (List.range 256).map fun n => .int .u8 (if n = 9 ∨ n = 10 ∨ n = 11 ∨ n = 12 ∨ n = 13 ∨ n = 32 then 1 else 0)
instance lexTab : GlobTab := ⟨fun g => if g = 0 then some asciiTab else if g = 3 then some [.ifc] else none, some 29, fun g => if g = 53 then some .indexByte else none⟩
theorem extOk : ExtAll Tryd.prog := fun g k h => by
  have h' : (if g = 53 then some ExtK.indexByte else none) = some k := h
  split at h'
  · rename_i hg
    subst hg
    cases h'
    exact ⟨Tryd.f53, Tryd.func53, by kernel_rfl, by kernel_rfl, by kernel_rfl, by show Extern.find Tryd.f53 = some Extern.BytealgIndexByte.indexByte; kernel_rfl⟩
  · cases h'
theorem okP : OkP Tryd.prog := ⟨Tryd.checked.mixed, extOk⟩
theorem onceAll : OnceAll Tryd.prog := fun g h => by
  have h' : some 29 = some g := h
  cases h'
  exact onceOk
theorem named : Named Tryd.prog := named_of (by kernel_rfl) onceAll

abbrev dN (n : Nat) : AV := .d (.int .i64 (n : Int))
abbrev dI (n : Int) : AV := .d (.int .i64 n)
abbrev dB (b : Bool) : AV := .d (.bool b)
def hLt (P : Program) (a b : Nat) (t : Bool) (h : decide (a < b) = t) : Hint P := .val (dB (decide ((a : Int) < (b : Int)))) (dB t) (by
  congr 2
  rw [← h]
  simp)
def hSucc (P : Program) (i : Nat) (h : i < 1099511627776) : Hint P := .val (dI (IntKind.i64.wrap ((i : Int) + 1))) (dN (i + 1)) (by
  congr 2
  rw [IntWalk.i64_in _ (by omega)]
  simp)
def bodyOf (P : Program) (f : Nat) : Code := ((P.funcs[f]?).bind (·.body)).getD .skip
def findLoop (r : Nat) : Code → Option Code
  | .loop x => if firstReg x = r then some x else findLoop r x
  | .seq x y => match findLoop r x with
    | some c => some c
    | none => findLoop r y
  | .block _ x => findLoop r x
  | .cond _ x y => match findLoop r x with
    | some c => some c
    | none => findLoop r y
  | _ => none
def loopOf (P : Program) (f r : Nat) : Code := (findLoop r (bodyOf P f)).getD .skip

/-- The words. -/
def wl : List (List UInt8) := [[102, 110], [108, 101, 116], [105, 102], [101, 108, 115, 101], [119, 104, 105, 108, 101], [114, 101, 116, 117, 114, 110], [112, 114, 105, 110, 116], [116, 114, 117, 101], [102, 97, 108, 115, 101], [114, 101, 97, 100], [108, 101, 110], [105, 110, 116], [98, 111, 111, 108], [97, 114, 114]]
def wordsE : List (D × D × Nat) := [(.str [102, 110], .agg [], 0), (.str [108, 101, 116], .agg [], 1), (.str [105, 102], .agg [], 2), (.str [101, 108, 115, 101], .agg [], 3), (.str [119, 104, 105, 108, 101], .agg [], 4), (.str [114, 101, 116, 117, 114, 110], .agg [], 5), (.str [112, 114, 105, 110, 116], .agg [], 6), (.str [116, 114, 117, 101], .agg [], 7), (.str [102, 97, 108, 115, 101], .agg [], 8), (.str [114, 101, 97, 100], .agg [], 9), (.str [108, 101, 110], .agg [], 10), (.str [105, 110, 116], .agg [], 11), (.str [98, 111, 111, 108], .agg [], 12), (.str [97, 114, 114], .agg [], 13)]

theorem findD_words (s : List UInt8) : ∀ (l : List (List UInt8)) (es : List (D × D × Nat)) (n : Nat), es.map (fun e => (e.1, e.2.1)) = l.map (fun x => (D.str x, D.agg [])) →
    (∃ i : Nat, l[i]? = some s ∧ (∀ (j : Nat) (x : List UInt8), j < i → l[j]? = some x → (s == x) = false) ∧ findD (.str s) es n = some (some (n + i, .agg []))) ∨ ((∀ (i : Nat) (x : List UInt8), l[i]? = some x → (s == x) = false) ∧ findD (.str s) es n = some none)
  | [], es, n, h => by
    have : es = [] := by simpa using h
    subst this
    exact .inr ⟨fun i x hx => by simp at hx, rfl⟩
  | y :: l, [], n, h => by simp at h
  | y :: l, e :: es, n, h => by
    simp only [List.map_cons, List.cons.injEq, Prod.mk.injEq] at h
    obtain ⟨⟨h1, h2⟩, h3⟩ := h
    have hs : sameD (.str s) e.1 = some (s == y) := by rw [h1]; rfl
    by_cases hy : (s == y) = true
    · left
      refine ⟨0, by simp [eq_of_beq hy], fun j x hj => by omega, ?_⟩
      simp only [findD, hs, hy, h2, Nat.add_zero]
    · have hy' : (s == y) = false := by simpa using hy
      rcases findD_words s l es (n + 1) h3 with ⟨i, g1, g2, g3⟩ | ⟨g1, g2⟩
      · left
        refine ⟨i + 1, by simpa using g1, fun j x hj hx => ?_, ?_⟩
        · cases j with
          | zero => simp at hx; subst hx; exact hy'
          | succ j => exact g2 j x (by omega) (by simpa using hx)
        · simp only [findD, hs, hy', g3]
          congr 3
          omega
      · right
        refine ⟨fun i x hx => ?_, by simp only [findD, hs, hy', g2]⟩
        cases i with
        | zero => simp at hx; subst hx; exact hy'
        | succ i => exact g1 i x (by simpa using hx)

/-! ### lex.Word -/
noncomputable def wordPr (s : List UInt8) (r : Option (Nat × D)) (h : findD (.str s) wordsE 0 = some r) : Par Tryd.prog := { hint := fun f k => if f = 21 then (if k = 18 then some (.look (.str s) wordsE r h) else none) else none }
set_option maxRecDepth 100000 in
theorem wordT (s : List UInt8) (i : Nat) (h : findD (.str s) wordsE 0 = some (some (i, .agg []))) : Pure Tryd.prog 13 [.str s] [.bool true] :=
  pure_of_run okP named (wordPr s _ h) 100000 (by kernel_rfl)
set_option maxRecDepth 100000 in
theorem wordF (s : List UInt8) (h : findD (.str s) wordsE 0 = some none) : Pure Tryd.prog 13 [.str s] [.bool false] :=
  pure_of_run okP named (wordPr s _ h) 100000 (by kernel_rfl)
end Go.Avm
