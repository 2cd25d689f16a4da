/-
  The scanner of texts, part C: bytes' kinds; how far bytes go that are so.
-/
import Derived.Test.YtdmjbpkdngmgkaaDoorLexB
set_option linter.unusedSectionVars false
namespace Go.Avm
open Go.Proofs

abbrev bD (b : UInt8) : D := .int .u8 (b.toNat : Int)
def hB (P : Program) (X t : Bool) (h : X = t) : Hint P := .val (dB X) (dB t) (by rw [h])
def ge8 (k : Int) (b : UInt8) : Bool := decide (k ≤ (b.toNat : Int))
def le8 (b : UInt8) (k : Int) : Bool := decide ((b.toNat : Int) ≤ k)
def isDig (b : UInt8) : Bool := ge8 48 b && le8 b 57
def isSm (b : UInt8) : Bool := ge8 97 b && le8 b 122
def isNm (b : UInt8) : Bool := isSm b || isDig b
def notNl (b : UInt8) : Bool := ((b.toNat : Int) != 10)

noncomputable def rngPr (f : Nat) (lo hi : Int) (b : UInt8) (t u : Bool) (h1 : ge8 lo b = t) (h2 : le8 b hi = u) : Par Tryd.prog :=
  { hint := fun f' k => if f' = f then (if k = 4 then some (hB Tryd.prog _ t h1) else if k = 7 then some (hB Tryd.prog _ u h2) else none) else none }
theorem digC (b : UInt8) : Pure Tryd.prog 24 [bD b] [.bool (isDig b)] := by
  have k : ∀ t u, ge8 48 b = t → le8 b 57 = u → Pure Tryd.prog 24 [bD b] [.bool (t && u)] := fun t u h1 h2 => by
    cases t with
    | false => exact pure_of_run okP named (rngPr 24 48 57 b false u h1 h2) 100 (by kernel_rfl)
    | true => exact pure_of_run okP named (rngPr 24 48 57 b true u h1 h2) 100 (by kernel_rfl)
  exact k _ _ rfl rfl
theorem smC (b : UInt8) : Pure Tryd.prog 26 [bD b] [.bool (isSm b)] := by
  have k : ∀ t u, ge8 97 b = t → le8 b 122 = u → Pure Tryd.prog 26 [bD b] [.bool (t && u)] := fun t u h1 h2 => by
    cases t with
    | false => exact pure_of_run okP named (rngPr 26 97 122 b false u h1 h2) 100 (by kernel_rfl)
    | true => exact pure_of_run okP named (rngPr 26 97 122 b true u h1 h2) 100 (by kernel_rfl)
  exact k _ _ rfl rfl
noncomputable def nmPr (b : UInt8) (t u : Bool) (h1 : Pure Tryd.prog 26 [bD b] [.bool t]) (h2 : Pure Tryd.prog 24 [bD b] [.bool u]) : Par Tryd.prog :=
  { hint := fun f' k => if f' = 27 then (if k = 4 then some (.call 26 [bD b] [.bool t] h1) else if k = 7 then some (.call 24 [bD b] [.bool u] h2) else none) else none }
theorem nmC (b : UInt8) : Pure Tryd.prog 27 [bD b] [.bool (isNm b)] := by
  have k : ∀ t u, Pure Tryd.prog 26 [bD b] [.bool t] → Pure Tryd.prog 24 [bD b] [.bool u] → Pure Tryd.prog 27 [bD b] [.bool (t || u)] := fun t u h1 h2 => by
    cases t with
    | false => exact pure_of_run okP named (nmPr b false u h1 h2) 100 (by kernel_rfl)
    | true => exact pure_of_run okP named (nmPr b true u h1 h2) 100 (by kernel_rfl)
  exact k _ _ (smC b) (digC b)
theorem nlC (b : UInt8) : Pure Tryd.prog 23 [bD b] [.bool (notNl b)] := pure_of_run okP named {} 100 (by kernel_rfl)

/-! ### The scanner -/
abbrev scP : AV := .ptr 324 1 0 0 1
/-- The scanner's object: what it knows of words (four cells), the text, the place, the tokens (so many versions ago there was none). -/
abbrev scE (c0 c1 c2 c3 : AV) (s : List UInt8) (a v : Nat) (l : List D) : Nat × Ent := (324, ⟨1, some (.arr 1 [c0, c1, c2, c3, .d (.str s), dN a, .vec 1 v 4 l])⟩)
def sub (s : List UInt8) (a e : Nat) : List UInt8 := (s.take e).drop a

section
variable (c0 c1 c2 c3 : AV) (s : List UInt8) (a v : Nat) (l : List D) (f : Nat)
def runL (i : Nat) : List (Nat × AV) := [(0, scP), (1, .fn f []), (5, dN i)]
def runHp : List (Nat × Ent) := [scE c0 c1 c2 c3 s a v l]
theorem runStep (hf : f = 23 ∨ f = 24 ∨ f = 27) {i : Nat} {b : UInt8} (hi : i < s.length) (hb : s[((i : Nat) : Int).toNat]? = some b) (hlen : s.length ≤ 100000) (hp : Pure Tryd.prog f [bD b] [.bool true]) (rest : Heap) (X : Fix) (hP : X.P = Tryd.prog) (hN : X.N = 39) :
    AW X (loopOf Tryd.prog 22 2) ⟨envOf (runL f i), ovl (runHp c0 c1 c2 c3 s a v l) rest⟩ fun e' S' => e' = .normal ∧ Weak X S' ⟨envOf (runL f (i + 1)), ovl (runHp c0 c1 c2 c3 s a v l) rest⟩ := by
  rcases hf with rfl | rfl | rfl <;> exact seg okP named { hint := fun f' k => if f' = 22 then (if k = 16 then some (hLt Tryd.prog i s.length true (by simpa using hi)) else if k = 24 then some (.sidx s (i : Int) b (by omega) hb) else if k = 25 then some (.call _ [bD b] [.bool true] hp)
    else if k = 28 then some (hSucc Tryd.prog i (by omega)) else none) else none } 1000 22 100000 39 (by kernel_rfl) X hP hN
theorem runStop (hf : f = 23 ∨ f = 24 ∨ f = 27) {i : Nat} {b : UInt8} (hi : i < s.length) (hb : s[((i : Nat) : Int).toNat]? = some b) (hp : Pure Tryd.prog f [bD b] [.bool false]) (rest : Heap) (X : Fix) (hP : X.P = Tryd.prog) (hN : X.N = 39) :
    AW X (loopOf Tryd.prog 22 2) ⟨envOf (runL f i), ovl (runHp c0 c1 c2 c3 s a v l) rest⟩ fun e' S' => e' = .exit 0 ∧ Weak X S' ⟨envOf [(0, scP), (5, dN i)], ovl (runHp c0 c1 c2 c3 s a v l) rest⟩ :=
  by
  rcases hf with rfl | rfl | rfl <;> exact seg okP named { hint := fun f' k => if f' = 22 then (if k = 16 then some (hLt Tryd.prog i s.length true (by simpa using hi)) else if k = 24 then some (.sidx s (i : Int) b (by omega) hb) else if k = 25 then some (.call _ [bD b] [.bool false] hp)
    else none) else none } 1000 22 100000 39 (by kernel_rfl) X hP hN
theorem runEnd (rest : Heap) (X : Fix) (hP : X.P = Tryd.prog) (hN : X.N = 39) :
    AW X (loopOf Tryd.prog 22 2) ⟨envOf (runL f s.length), ovl (runHp c0 c1 c2 c3 s a v l) rest⟩ fun e' S' => e' = .exit 0 ∧ Weak X S' ⟨envOf [(0, scP), (5, dN s.length)], ovl (runHp c0 c1 c2 c3 s a v l) rest⟩ :=
  seg okP named { hint := fun f' k => if f' = 22 then (if k = 16 then some (hLt Tryd.prog s.length s.length false (by simp)) else none) else none } 1000 22 100000 39 (by kernel_rfl) X hP hN

theorem runLoop (hf : f = 23 ∨ f = 24 ∨ f = 27) (p : UInt8 → Bool) (hp : ∀ b, Pure Tryd.prog f [bD b] [.bool (p b)]) (hlen : s.length ≤ 100000) (e : Nat) (hae : a ≤ e) (he : e ≤ s.length) (hall : ∀ i b, a ≤ i → i < e → s[i]? = some b → p b = true) (hend : ∀ b, s[e]? = some b → p b = false)
    (rest : Heap) (X : Fix) (hP : X.P = Tryd.prog) (hN : X.N = 39) :
    AW X (.loop (loopOf Tryd.prog 22 2)) ⟨envOf (runL f a), ovl (runHp c0 c1 c2 c3 s a v l) rest⟩ fun e' S' => e' = .exit 0 ∧ S' = ⟨envOf [(0, scP), (5, dN e)], ovl (runHp c0 c1 c2 c3 s a v l) rest⟩ :=
  loop_of_segs (P := Tryd.prog) (N := 39) (c := loopOf Tryd.prog 22 2) (runL f) (fun _ _ => runHp c0 c1 c2 c3 s a v l) (fun i => a ≤ i ∧ i ≤ e) (fun i => e - i) (.exit 0) [(0, scP), (5, dN e)] (fun _ => runHp c0 c1 c2 c3 s a v l) a ⟨Nat.le_refl _, hae⟩ (by simp)
    (fun rest i hi => by
      rcases Nat.lt_or_ge i e with h | h
      · have hb := List.getElem?_eq_getElem (l := s) (i := i) (by omega)
        have hpt := hp s[i]
        rw [hall i _ hi.1 h hb] at hpt
        exact .inl ⟨i + 1, ⟨by omega, h⟩, by omega, fun X hP hN => runStep c0 c1 c2 c3 s a v l f hf (by omega) hb hlen hpt rest X hP hN⟩
      · have : i = e := by omega
        subst this
        rcases Nat.lt_or_ge i s.length with h2 | h2
        · have hb := List.getElem?_eq_getElem (l := s) (i := i) h2
          have hpt := hp s[i]
          rw [hend _ hb] at hpt
          exact .inr fun X hP hN => runStop c0 c1 c2 c3 s a v l f hf h2 hb hpt rest X hP hN
        · have : i = s.length := by omega
          subst this
          exact .inr fun X hP hN => runEnd c0 c1 c2 c3 s a v l f rest X hP hN) rest X hP hN

noncomputable def runLH (hf : f = 23 ∨ f = 24 ∨ f = 27) (p : UInt8 → Bool) (hp : ∀ b, Pure Tryd.prog f [bD b] [.bool (p b)]) (hlen : s.length ≤ 100000) (e : Nat) (hae : a ≤ e) (he : e ≤ s.length) (hall : ∀ i b, a ≤ i → i < e → s[i]? = some b → p b = true) (hend : ∀ b, s[e]? = some b → p b = false) : LHint Tryd.prog :=
  ⟨39, loopOf Tryd.prog 22 2, runL f a, fun _ => runHp c0 c1 c2 c3 s a v l, .exit 0, [(0, scP), (5, dN e)], fun _ => runHp c0 c1 c2 c3 s a v l, runLoop c0 c1 c2 c3 s a v l f hf p hp hlen e hae he hall hend⟩
noncomputable def runPr (e : Nat) (H : LHint Tryd.prog) (hs : a ≤ e ∧ e ≤ s.length) : Par Tryd.prog :=
  { hint := fun f' k => if f' = 22 then (if k = 38 then some (.sub s a e hs) else none) else none
    loops := fun f' r => if f' = 22 then (if r = 2 then some H else none) else none }
/-- run: what it hands back. -/
theorem runC (hf : f = 23 ∨ f = 24 ∨ f = 27) (p : UInt8 → Bool) (hp : ∀ b, Pure Tryd.prog f [bD b] [.bool (p b)]) (hlen : s.length ≤ 100000) (e : Nat) (hae : a ≤ e) (he : e ≤ s.length) (hall : ∀ i b, a ≤ i → i < e → s[i]? = some b → p b = true) (hend : ∀ b, s[e]? = some b → p b = false) (rest : Heap) :
    HCall Tryd.prog 22 [scP, .fn f []] (ovl (runHp c0 c1 c2 c3 s a v l) rest) [.d (.str (sub s a e))] (ovl (runHp c0 c1 c2 c3 s a v l) rest) :=
  hcall_of_run okP named (runPr s a e (runLH c0 c1 c2 c3 s a v l f hf p hp hlen e hae he hall hend) ⟨hae, he⟩) 1000 100000 22 (by kernel_rfl)
end
end Go.Avm
