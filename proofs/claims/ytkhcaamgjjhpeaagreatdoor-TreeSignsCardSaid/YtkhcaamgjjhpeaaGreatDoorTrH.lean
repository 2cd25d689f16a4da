/-
  Texts as programs: tables of hints; the reader's part of the heap; what a reader's function answers.
-/
import Derived.Test.YtkhcaamgjjhpeaaGreatDoorTrA
import Derived.Test.YtkhcaamgjjhpeaaGreatDoorTrSp
set_option linter.unusedSectionVars false
namespace Go.Avm
open Go.Proofs

def lookK {P : Program} (f s : Nat) : List (Nat × Nat × Hint P) → Option (Hint P)
  | [] => none
  | (f', s', h) :: r => bif Nat.beq f f' && Nat.beq s s' then some h else lookK f s r
def tabH (P : Program) (l : List (Nat × Nat × Hint P)) : Nat → Nat → Option (Hint P) := fun f s => lookK f s l
def lookKB {P : Program} (f s b : Nat) : List (Nat × Nat × Nat × Hint P) → Option (Hint P)
  | [] => none
  | (f', s', b', h) :: r => bif Nat.beq f f' && Nat.beq s s' && Nat.beq b b' then some h else lookKB f s b r
def tabHB (P : Program) (l : List (Nat × Nat × Nat × Hint P)) : Nat → Nat → Nat → Option (Hint P) := fun f s b => lookKB f s b l
def lookC {P : Program} (f s b : Nat) : List (Nat × Nat × Nat × CHint P) → Option (CHint P)
  | [] => none
  | (f', s', b', h) :: r => bif Nat.beq f f' && Nat.beq s s' && Nat.beq b b' then some h else lookC f s b r
def tabC (P : Program) (l : List (Nat × Nat × Nat × CHint P)) : Nat → Nat → Nat → Option (CHint P) := fun f s b => lookC f s b l
def lookP {P : Program} (f s b : Nat) : List (Nat × Nat × Nat × PHint P) → Option (PHint P)
  | [] => none
  | (f', s', b', h) :: r => bif Nat.beq f f' && Nat.beq s s' && Nat.beq b b' then some h else lookP f s b r
def tabP (P : Program) (l : List (Nat × Nat × Nat × PHint P)) : Nat → Nat → Nat → Option (PHint P) := fun f s b => lookP f s b l
def cOf {P : Program} {g : Nat} {args rs : List AV} {pre post : List (Nat × Ent)} (h : ∀ rest : Heap, HCall P g args (ovl pre rest) rs (ovl post rest)) : CHint P := ⟨g, args, pre, rs, post, fits_of h⟩
/-- A call that looks alone. -/
def cRo {P : Program} {g : Nat} {args rs : List AV} {pre : List (Nat × Ent)} (hs : (pre.all fun p => p.2.ob.isSome) = true) (h : ∀ rest : Heap, HCall P g args (ovl pre rest) rs (ovl pre rest)) : CHint P := ⟨g, args, pre, rs, [], fits_ro hs h⟩
theorem hpan_forget {P : Program} {g : Nat} {args : List AV} {x : AV} {h h1 h2 : Heap} (hc : HPan P g args h1 x h2) (hh : ∀ k, (h1 k).ver = (h k).ver ∧ ((h1 k).ob = none ∨ (h1 k).ob = (h k).ob)) : HPan P g args h x h2 :=
  ⟨hc.1, fun G B w0 I0 w cargs hr hs hargs => hc.2 G B w0 I0 w cargs (hr.forget hh) hs hargs⟩
def pOf {P : Program} {g : Nat} {args : List AV} {x : AV} {pre post : List (Nat × Ent)} (h : ∀ rest : Heap, HPan P g args (ovl pre rest) x (ovl post rest)) : PCall P := ⟨g, args, pre, x, post, fun h' hf => hpan_forget (h h') (ovl_sub h' pre hf)⟩
def hB (P : Program) (a b : Bool) (h : a = b) : Hint P := .val (dB a) (dB b) (by rw [h])

/-! ### The reader -/
abbrev toksD (L : List T) : D := .ro (L.map tD)
/-- The reader's object. -/
abbrev rdC (L : List T) (s : RS) : List AV := [.d (toksD L), dN s.i, dI s.op, dI s.n]
abbrev rd (L : List T) (s : RS) : List (Nat × Ent) := [(500000, ⟨1, some (.arr 1 (rdC L s))⟩)]
abbrev rP : AV := .ptr 500000 1 0 0 1
abbrev flt (p e : Int) : AV := .iv 102 (.d (.agg [.int .i64 p, .int .i64 e]))
/-- What a call of a reader's function does. -/
def RC {α : Type} (L : List T) (f : Nat) (args : List AV) (g : α → List D) (s : RS) : Res α → Prop
  | .ok a s' => s'.i < L.length ∧ ∀ rest : Heap, HCall Tryz.prog f args (ovl (rd L s) rest) ((g a).map .d) (ovl (rd L s') rest)
  | .bad p e s' => ∀ rest : Heap, HPan Tryz.prog f args (ovl (rd L s) rest) (flt p e) (ovl (rd L s') rest)
  | .out => True
/-- Tokens of which the last alone is the end. -/
structure Toks (L : List T) : Prop where
  len : L.length < 1000000
  last : ∀ i x, L[i]? = some x → x.k ≠ 0 → i + 1 < L.length
theorem cur_get {L : List T} {s : RS} (h : s.i < L.length) : L[s.i]? = some (cur L s) := by
  unfold cur
  rw [List.getD_eq_getElem?_getD, List.getElem?_eq_getElem h]
  rfl
theorem nx_lt {L : List T} (hL : Toks L) {s : RS} (h : s.i < L.length) (hk : (cur L s).k ≠ 0) : s.i + 1 < L.length := hL.last s.i _ (cur_get h) hk
theorem isT_nx {L : List T} (hL : Toks L) {s : RS} (h : s.i < L.length) {x : List UInt8} (hi : isT L s x = true) : s.i + 1 < L.length := nx_lt hL h fun h0 => by
  unfold isT at hi
  rw [h0] at hi
  simp at hi
def hCur (P : Program) {L : List T} {s : RS} (h : s.i < L.length) : Hint P := .idx (L.map tD) ((s.i : Nat) : Int) (tD (cur L s)) (by omega) (by rw [Int.toNat_natCast, List.getElem?_map, cur_get h]; rfl)
end Go.Avm
