/-
  The words of the language: what lex.Word and the document's answer say of every text.
-/
import Derived.Test.YtkhcaamgjjhpeaaGreatDoorTrOne
import Derived.IntWalk
set_option linter.unusedSectionVars false
namespace Go.Avm
open Go.Proofs

/-- The words. -/
def wl : List (List UInt8) := [[102, 110], [108, 101, 116], [105, 102], [101, 108, 115, 101], [119, 104, 105, 108, 101], [114, 101, 116, 117, 114, 110], [112, 114, 105, 110, 116], [116, 114, 117, 101], [102, 97, 108, 115, 101], [114, 101, 97, 100], [108, 101, 110], [105, 110, 116], [98, 111, 111, 108], [97, 114, 114]]
def wordsE : List (D × D × Nat) := [(.str [102, 110], .agg [], 0), (.str [108, 101, 116], .agg [], 1), (.str [105, 102], .agg [], 2), (.str [101, 108, 115, 101], .agg [], 3), (.str [119, 104, 105, 108, 101], .agg [], 4), (.str [114, 101, 116, 117, 114, 110], .agg [], 5), (.str [112, 114, 105, 110, 116], .agg [], 6), (.str [116, 114, 117, 101], .agg [], 7), (.str [102, 97, 108, 115, 101], .agg [], 8), (.str [114, 101, 97, 100], .agg [], 9), (.str [108, 101, 110], .agg [], 10), (.str [105, 110, 116], .agg [], 11), (.str [98, 111, 111, 108], .agg [], 12), (.str [97, 114, 114], .agg [], 13)]

theorem findD_words (s : List UInt8) : ∀ (l : List (List UInt8)) (es : List (D × D × Nat)) (n : Nat), es.map (fun e => (e.1, e.2.1)) = l.map (fun x => (D.str x, D.agg [])) →
    (∃ i : Nat, l[i]? = some s ∧ (∀ (j : Nat) (x : List UInt8), j < i → l[j]? = some x → (s == x) = false) ∧ findD (.str s) es n = some (some (n + i, .agg []))) ∨ ((∀ (i : Nat) (x : List UInt8), l[i]? = some x → (s == x) = false) ∧ findD (.str s) es n = some none)
  | [], es, n, h => by
    have : es = [] := by simpa using h
    subst this
    exact .inr ⟨fun i x hx => by simp at hx, rfl⟩
  | y :: l, [], n, h => by simp at h
  | y :: l, e :: es, n, h => by
    simp only [List.map_cons, List.cons.injEq, Prod.mk.injEq] at h
    obtain ⟨⟨h1, h2⟩, h3⟩ := h
    have hs : sameD (.str s) e.1 = some (s == y) := by rw [h1]; rfl
    by_cases hy : (s == y) = true
    · left
      refine ⟨0, by simp [eq_of_beq hy], fun j x hj => by omega, ?_⟩
      simp only [findD, hs, hy, h2, Nat.add_zero]
    · have hy' : (s == y) = false := by simpa using hy
      rcases findD_words s l es (n + 1) h3 with ⟨i, g1, g2, g3⟩ | ⟨g1, g2⟩
      · left
        refine ⟨i + 1, by simpa using g1, fun j x hj hx => ?_, ?_⟩
        · cases j with
          | zero => simp at hx; subst hx; exact hy'
          | succ j => exact g2 j x (by omega) (by simpa using hx)
        · simp only [findD, hs, hy', g3]
          congr 3
          omega
      · right
        refine ⟨fun i x hx => ?_, by simp only [findD, hs, hy', g2]⟩
        cases i with
        | zero => simp at hx; subst hx; exact hy'
        | succ i => exact g1 i x (by simpa using hx)

end Go.Avm
/-
  The words of the language: the document's answer for every text; the law.
-/
set_option linter.unusedSectionVars false
namespace Go.Avm
open Go.Proofs

def wd : List D := wl.map .str
theorem wd_get {i : Nat} {x : List UInt8} (h : wl[i]? = some x) : wd[((i : Nat) : Int).toNat]? = some (.str x) := by
  simp [wd, h]
def hEq (P : Program) (s x : List UInt8) (t : Bool) (h : (s == x) = t) : Hint P := .val (dB (s == x)) (dB t) (by rw [h])
def refL (s : List UInt8) (i : Nat) : List (Nat × AV) := [(0, .d (.str s)), (2, dB false), (5, .vec 20 1 1 wd), (6, dN 14), (7, dN i)]
theorem refNext (s x : List UInt8) (i : Nat) (hi : i < 14) (hx : wl[i]? = some x) (he : (s == x) = false) (rest : Heap) (X : Fix) (hP : X.P = Tryz.prog) (hN : X.N = 15) :
    AW X (loopOf Tryz.prog 28 2) ⟨envOf (refL s i), ovl [] rest⟩ fun e' S' => e' = .normal ∧ Weak X S' ⟨envOf (refL s (i + 1)), ovl [] rest⟩ :=
  seg okP named { hint := fun f k => if f = 28 then (if k = 8 then some (hLt Tryz.prog i 14 true (by simpa using hi)) else if k = 9 then some (.idx wd (i : Int) (.str x) (by omega) (wd_get hx)) else if k = 13 then some (hEq Tryz.prog s x false he)
    else if k = 14 then some (hSucc Tryz.prog i (by omega)) else none) else none } 1000 28 1000 15 (by kernel_rfl) X hP hN
theorem refHit (s x : List UInt8) (i : Nat) (hi : i < 14) (hx : wl[i]? = some x) (he : (s == x) = true) (rest : Heap) (X : Fix) (hP : X.P = Tryz.prog) (hN : X.N = 15) :
    AW X (loopOf Tryz.prog 28 2) ⟨envOf (refL s i), ovl [] rest⟩ fun e' S' => e' = .ret ∧ Weak X S' ⟨envOf [(2, dB true)], ovl [] rest⟩ :=
  seg okP named { hint := fun f k => if f = 28 then (if k = 8 then some (hLt Tryz.prog i 14 true (by simpa using hi)) else if k = 9 then some (.idx wd (i : Int) (.str x) (by omega) (wd_get hx)) else if k = 13 then some (hEq Tryz.prog s x true he)
    else none) else none } 1000 28 1000 15 (by kernel_rfl) X hP hN
theorem refEnd (s : List UInt8) (rest : Heap) (X : Fix) (hP : X.P = Tryz.prog) (hN : X.N = 15) :
    AW X (loopOf Tryz.prog 28 2) ⟨envOf (refL s 14), ovl [] rest⟩ fun e' S' => e' = .exit 0 ∧ Weak X S' ⟨envOf [(2, dB false)], ovl [] rest⟩ :=
  seg okP named {} 1000 28 1000 15 (by kernel_rfl) X hP hN
theorem refLoopT (s : List UInt8) (i0 : Nat) (h0 : wl[i0]? = some s) (hlt : ∀ (j : Nat) (x : List UInt8), j < i0 → wl[j]? = some x → (s == x) = false) (rest : Heap) (X : Fix) (hP : X.P = Tryz.prog) (hN : X.N = 15) :
    AW X (.loop (loopOf Tryz.prog 28 2)) ⟨envOf (refL s 0), ovl [] rest⟩ fun e' S' => e' = .ret ∧ S' = ⟨envOf [(2, dB true)], ovl [] rest⟩ := by
  have hi0 : i0 < 14 := (List.getElem?_eq_some_iff.1 h0).1
  exact loop_of_segs (P := Tryz.prog) (N := 15) (c := loopOf Tryz.prog 28 2) (refL s) (fun _ _ => []) (fun i => i ≤ i0) (fun i => 14 - i) .ret [(2, dB true)] (fun _ => []) 0 (Nat.zero_le _) (by simp)
    (fun rest i hi => by
      rcases Nat.lt_or_ge i i0 with h | h
      · obtain ⟨x, hx⟩ : ∃ x, wl[i]? = some x := ⟨_, List.getElem?_eq_getElem (show i < 14 by omega)⟩
        exact .inl ⟨i + 1, h, by omega, fun X hP hN => refNext s x i (by omega) hx (hlt i x h hx) rest X hP hN⟩
      · have : i = i0 := by omega
        subst this
        exact .inr fun X hP hN => refHit s s i hi0 h0 (by simp) rest X hP hN) rest X hP hN
theorem refLoopF (s : List UInt8) (hno : ∀ (j : Nat) (x : List UInt8), wl[j]? = some x → (s == x) = false) (rest : Heap) (X : Fix) (hP : X.P = Tryz.prog) (hN : X.N = 15) :
    AW X (.loop (loopOf Tryz.prog 28 2)) ⟨envOf (refL s 0), ovl [] rest⟩ fun e' S' => e' = .exit 0 ∧ S' = ⟨envOf [(2, dB false)], ovl [] rest⟩ :=
  loop_of_segs (P := Tryz.prog) (N := 15) (c := loopOf Tryz.prog 28 2) (refL s) (fun _ _ => []) (fun i => i ≤ 14) (fun i => 14 - i) (.exit 0) [(2, dB false)] (fun _ => []) 0 (Nat.zero_le _) (by simp)
    (fun rest i hi => by
      rcases Nat.lt_or_ge i 14 with h | h
      · obtain ⟨x, hx⟩ : ∃ x, wl[i]? = some x := ⟨_, List.getElem?_eq_getElem (show i < 14 from h)⟩
        exact .inl ⟨i + 1, h, by omega, fun X hP hN => refNext s x i h hx (hno i x hx) rest X hP hN⟩
      · have : i = 14 := by omega
        subst this
        exact .inr fun X hP hN => refEnd s rest X hP hN) rest X hP hN
noncomputable def refLT (s : List UInt8) (i0 : Nat) (h0 : wl[i0]? = some s) (hlt : ∀ (j : Nat) (x : List UInt8), j < i0 → wl[j]? = some x → (s == x) = false) : LHint Tryz.prog := ⟨15, loopOf Tryz.prog 28 2, refL s 0, fun _ => [], .ret, [(2, dB true)], fun _ => [], refLoopT s i0 h0 hlt⟩
noncomputable def refLF (s : List UInt8) (hno : ∀ (j : Nat) (x : List UInt8), wl[j]? = some x → (s == x) = false) : LHint Tryz.prog := ⟨15, loopOf Tryz.prog 28 2, refL s 0, fun _ => [], .exit 0, [(2, dB false)], fun _ => [], refLoopF s hno⟩
theorem refT (s : List UInt8) (i0 : Nat) (h0 : wl[i0]? = some s) (hlt : ∀ (j : Nat) (x : List UInt8), j < i0 → wl[j]? = some x → (s == x) = false) : Pure Tryz.prog 28 [.str s] [.bool true] :=
  pure_of_run okP named { loops := fun f r => if f = 28 then (if r = 2 then some (refLT s i0 h0 hlt) else none) else none } 1000 (by kernel_rfl)
theorem refF (s : List UInt8) (hno : ∀ (j : Nat) (x : List UInt8), wl[j]? = some x → (s == x) = false) : Pure Tryz.prog 28 [.str s] [.bool false] :=
  pure_of_run okP named { loops := fun f r => if f = 28 then (if r = 2 then some (refLF s hno) else none) else none } 1000 (by kernel_rfl)

end Go.Avm
/-
  The scanner of texts, part C: bytes' kinds; how far bytes go that are so.
-/
set_option linter.unusedSectionVars false
namespace Go.Avm
open Go.Proofs

abbrev bD (b : UInt8) : D := .int .u8 (b.toNat : Int)
def ge8 (k : Int) (b : UInt8) : Bool := decide (k ≤ (b.toNat : Int))
def le8 (b : UInt8) (k : Int) : Bool := decide ((b.toNat : Int) ≤ k)
def isDig (b : UInt8) : Bool := ge8 48 b && le8 b 57
def isSm (b : UInt8) : Bool := ge8 97 b && le8 b 122
def isNm (b : UInt8) : Bool := isSm b || isDig b
def notNl (b : UInt8) : Bool := ((b.toNat : Int) != 10)

noncomputable def rngPr (f : Nat) (lo hi : Int) (b : UInt8) (t u : Bool) (h1 : ge8 lo b = t) (h2 : le8 b hi = u) : Par Tryz.prog :=
  { hint := fun f' k => if f' = f then (if k = 4 then some (hB Tryz.prog _ t h1) else if k = 7 then some (hB Tryz.prog _ u h2) else none) else none }
theorem digC (b : UInt8) : Pure Tryz.prog 54 [bD b] [.bool (isDig b)] := by
  have k : ∀ t u, ge8 48 b = t → le8 b 57 = u → Pure Tryz.prog 54 [bD b] [.bool (t && u)] := fun t u h1 h2 => by
    cases t with
    | false => exact pure_of_run okP named (rngPr 54 48 57 b false u h1 h2) 100 (by kernel_rfl)
    | true => exact pure_of_run okP named (rngPr 54 48 57 b true u h1 h2) 100 (by kernel_rfl)
  exact k _ _ rfl rfl
theorem smC (b : UInt8) : Pure Tryz.prog 56 [bD b] [.bool (isSm b)] := by
  have k : ∀ t u, ge8 97 b = t → le8 b 122 = u → Pure Tryz.prog 56 [bD b] [.bool (t && u)] := fun t u h1 h2 => by
    cases t with
    | false => exact pure_of_run okP named (rngPr 56 97 122 b false u h1 h2) 100 (by kernel_rfl)
    | true => exact pure_of_run okP named (rngPr 56 97 122 b true u h1 h2) 100 (by kernel_rfl)
  exact k _ _ rfl rfl
noncomputable def nmPr (b : UInt8) (t u : Bool) (h1 : Pure Tryz.prog 56 [bD b] [.bool t]) (h2 : Pure Tryz.prog 54 [bD b] [.bool u]) : Par Tryz.prog :=
  { hint := fun f' k => if f' = 57 then (if k = 4 then some (.call 56 [bD b] [.bool t] h1) else if k = 7 then some (.call 54 [bD b] [.bool u] h2) else none) else none }
theorem nmC (b : UInt8) : Pure Tryz.prog 57 [bD b] [.bool (isNm b)] := by
  have k : ∀ t u, Pure Tryz.prog 56 [bD b] [.bool t] → Pure Tryz.prog 54 [bD b] [.bool u] → Pure Tryz.prog 57 [bD b] [.bool (t || u)] := fun t u h1 h2 => by
    cases t with
    | false => exact pure_of_run okP named (nmPr b false u h1 h2) 100 (by kernel_rfl)
    | true => exact pure_of_run okP named (nmPr b true u h1 h2) 100 (by kernel_rfl)
  exact k _ _ (smC b) (digC b)
theorem nlC (b : UInt8) : Pure Tryz.prog 53 [bD b] [.bool (notNl b)] := pure_of_run okP named {} 100 (by kernel_rfl)

/-! ### The scanner -/
abbrev scP : AV := .ptr 324 1 0 0 1
/-- The scanner's object: what it knows of words (four cells), the text, the place, the tokens (so many versions ago there was none). -/
abbrev scE (c0 c1 c2 c3 : AV) (s : List UInt8) (a v : Nat) (l : List D) : Nat × Ent := (324, ⟨1, some (.arr 1 [c0, c1, c2, c3, .d (.str s), dN a, .vec 1 v 4 l])⟩)
def sub (s : List UInt8) (a e : Nat) : List UInt8 := (s.take e).drop a

section
variable (c0 c1 c2 c3 : AV) (s : List UInt8) (a v : Nat) (l : List D) (f : Nat)
def runL (i : Nat) : List (Nat × AV) := [(0, scP), (1, .fn f []), (5, dN i)]
def runHp : List (Nat × Ent) := [scE c0 c1 c2 c3 s a v l]
theorem runStep (hf : f = 53 ∨ f = 54 ∨ f = 57) {i : Nat} {b : UInt8} (hi : i < s.length) (hb : s[((i : Nat) : Int).toNat]? = some b) (hlen : s.length ≤ 100000) (hp : Pure Tryz.prog f [bD b] [.bool true]) (rest : Heap) (X : Fix) (hP : X.P = Tryz.prog) (hN : X.N = 39) :
    AW X (loopOf Tryz.prog 52 2) ⟨envOf (runL f i), ovl (runHp c0 c1 c2 c3 s a v l) rest⟩ fun e' S' => e' = .normal ∧ Weak X S' ⟨envOf (runL f (i + 1)), ovl (runHp c0 c1 c2 c3 s a v l) rest⟩ := by
  rcases hf with rfl | rfl | rfl <;> exact seg okP named { hint := fun f' k => if f' = 52 then (if k = 16 then some (hLt Tryz.prog i s.length true (by simpa using hi)) else if k = 24 then some (.sidx s (i : Int) b (by omega) hb) else if k = 25 then some (.call _ [bD b] [.bool true] hp)
    else if k = 28 then some (hSucc Tryz.prog i (by omega)) else none) else none } 1000 52 100000 39 (by kernel_rfl) X hP hN
theorem runStop (hf : f = 53 ∨ f = 54 ∨ f = 57) {i : Nat} {b : UInt8} (hi : i < s.length) (hb : s[((i : Nat) : Int).toNat]? = some b) (hp : Pure Tryz.prog f [bD b] [.bool false]) (rest : Heap) (X : Fix) (hP : X.P = Tryz.prog) (hN : X.N = 39) :
    AW X (loopOf Tryz.prog 52 2) ⟨envOf (runL f i), ovl (runHp c0 c1 c2 c3 s a v l) rest⟩ fun e' S' => e' = .exit 0 ∧ Weak X S' ⟨envOf [(0, scP), (5, dN i)], ovl (runHp c0 c1 c2 c3 s a v l) rest⟩ :=
  by
  rcases hf with rfl | rfl | rfl <;> exact seg okP named { hint := fun f' k => if f' = 52 then (if k = 16 then some (hLt Tryz.prog i s.length true (by simpa using hi)) else if k = 24 then some (.sidx s (i : Int) b (by omega) hb) else if k = 25 then some (.call _ [bD b] [.bool false] hp)
    else none) else none } 1000 52 100000 39 (by kernel_rfl) X hP hN
theorem runEnd (rest : Heap) (X : Fix) (hP : X.P = Tryz.prog) (hN : X.N = 39) :
    AW X (loopOf Tryz.prog 52 2) ⟨envOf (runL f s.length), ovl (runHp c0 c1 c2 c3 s a v l) rest⟩ fun e' S' => e' = .exit 0 ∧ Weak X S' ⟨envOf [(0, scP), (5, dN s.length)], ovl (runHp c0 c1 c2 c3 s a v l) rest⟩ :=
  seg okP named { hint := fun f' k => if f' = 52 then (if k = 16 then some (hLt Tryz.prog s.length s.length false (by simp)) else none) else none } 1000 52 100000 39 (by kernel_rfl) X hP hN

theorem runLoop (hf : f = 53 ∨ f = 54 ∨ f = 57) (p : UInt8 → Bool) (hp : ∀ b, Pure Tryz.prog f [bD b] [.bool (p b)]) (hlen : s.length ≤ 100000) (e : Nat) (hae : a ≤ e) (he : e ≤ s.length) (hall : ∀ i b, a ≤ i → i < e → s[i]? = some b → p b = true) (hend : ∀ b, s[e]? = some b → p b = false)
    (rest : Heap) (X : Fix) (hP : X.P = Tryz.prog) (hN : X.N = 39) :
    AW X (.loop (loopOf Tryz.prog 52 2)) ⟨envOf (runL f a), ovl (runHp c0 c1 c2 c3 s a v l) rest⟩ fun e' S' => e' = .exit 0 ∧ S' = ⟨envOf [(0, scP), (5, dN e)], ovl (runHp c0 c1 c2 c3 s a v l) rest⟩ :=
  loop_of_segs (P := Tryz.prog) (N := 39) (c := loopOf Tryz.prog 52 2) (runL f) (fun _ _ => runHp c0 c1 c2 c3 s a v l) (fun i => a ≤ i ∧ i ≤ e) (fun i => e - i) (.exit 0) [(0, scP), (5, dN e)] (fun _ => runHp c0 c1 c2 c3 s a v l) a ⟨Nat.le_refl _, hae⟩ (by simp)
    (fun rest i hi => by
      rcases Nat.lt_or_ge i e with h | h
      · have hb := List.getElem?_eq_getElem (l := s) (i := i) (by omega)
        have hpt := hp s[i]
        rw [hall i _ hi.1 h hb] at hpt
        exact .inl ⟨i + 1, ⟨by omega, h⟩, by omega, fun X hP hN => runStep c0 c1 c2 c3 s a v l f hf (by omega) hb hlen hpt rest X hP hN⟩
      · have : i = e := by omega
        subst this
        rcases Nat.lt_or_ge i s.length with h2 | h2
        · have hb := List.getElem?_eq_getElem (l := s) (i := i) h2
          have hpt := hp s[i]
          rw [hend _ hb] at hpt
          exact .inr fun X hP hN => runStop c0 c1 c2 c3 s a v l f hf h2 hb hpt rest X hP hN
        · have : i = s.length := by omega
          subst this
          exact .inr fun X hP hN => runEnd c0 c1 c2 c3 s a v l f rest X hP hN) rest X hP hN

noncomputable def runLH (hf : f = 53 ∨ f = 54 ∨ f = 57) (p : UInt8 → Bool) (hp : ∀ b, Pure Tryz.prog f [bD b] [.bool (p b)]) (hlen : s.length ≤ 100000) (e : Nat) (hae : a ≤ e) (he : e ≤ s.length) (hall : ∀ i b, a ≤ i → i < e → s[i]? = some b → p b = true) (hend : ∀ b, s[e]? = some b → p b = false) : LHint Tryz.prog :=
  ⟨39, loopOf Tryz.prog 52 2, runL f a, fun _ => runHp c0 c1 c2 c3 s a v l, .exit 0, [(0, scP), (5, dN e)], fun _ => runHp c0 c1 c2 c3 s a v l, runLoop c0 c1 c2 c3 s a v l f hf p hp hlen e hae he hall hend⟩
noncomputable def runPr (e : Nat) (H : LHint Tryz.prog) (hs : a ≤ e ∧ e ≤ s.length) : Par Tryz.prog :=
  { hint := fun f' k => if f' = 52 then (if k = 38 then some (.sub s a e hs) else none) else none
    loops := fun f' r => if f' = 52 then (if r = 2 then some H else none) else none }
/-- run: what it hands back. -/
theorem runC (hf : f = 53 ∨ f = 54 ∨ f = 57) (p : UInt8 → Bool) (hp : ∀ b, Pure Tryz.prog f [bD b] [.bool (p b)]) (hlen : s.length ≤ 100000) (e : Nat) (hae : a ≤ e) (he : e ≤ s.length) (hall : ∀ i b, a ≤ i → i < e → s[i]? = some b → p b = true) (hend : ∀ b, s[e]? = some b → p b = false) (rest : Heap) :
    HCall Tryz.prog 52 [scP, .fn f []] (ovl (runHp c0 c1 c2 c3 s a v l) rest) [.d (.str (sub s a e))] (ovl (runHp c0 c1 c2 c3 s a v l) rest) :=
  hcall_of_run okP named (runPr s a e (runLH c0 c1 c2 c3 s a v l f hf p hp hlen e hae he hall hend) ⟨hae, he⟩) 1000 100000 52 (by kernel_rfl)
end
end Go.Avm
/-
  The scanner of texts, part D: blanks and remarks are passed over.
-/
set_option linter.unusedSectionVars false
namespace Go.Avm
open Go.Proofs

def wsp (b : UInt8) : Bool := b == 32 || b == 9 || b == 10 || b == 13
/-- So many bytes are passed over; in a remark or not. -/
def skipN : Bool → List UInt8 → Nat
  | _, [] => 0
  | true, b :: r => 1 + skipN (notNl b) r
  | false, b :: r => if wsp b then 1 + skipN false r else if b == 35 then 1 + skipN true r else 0
theorem skipN_le : ∀ (c : Bool) (l : List UInt8), skipN c l ≤ l.length
  | _, [] => by simp [skipN]
  | true, b :: r => by
    have := skipN_le (notNl b) r
    simp only [skipN, List.length_cons]; omega
  | false, b :: r => by
    have h1 := skipN_le false r
    have h2 := skipN_le true r
    simp only [skipN, List.length_cons]
    split
    · omega
    · split <;> omega
def runN (p : UInt8 → Bool) (l : List UInt8) : Nat := (l.takeWhile p).length
theorem notNl_iff (b : UInt8) : notNl b = (b != 10) := by
  by_cases h : b = 10
  · subst h; rfl
  · have h1 : (b != 10) = true := by simpa using h
    have h2 : notNl b = true := by
      simp only [notNl, bne_iff_ne, ne_eq]
      intro hx
      apply h
      apply UInt8.toNat_inj.1
      have : (b.toNat : Int) = ((10 : Nat) : Int) := hx
      exact Int.ofNat.inj this
    rw [h1, h2]
theorem skipN_true : ∀ (l : List UInt8), skipN true l = runN notNl l + skipN false (l.drop (runN notNl l))
  | [] => rfl
  | b :: r => by
    have ih := skipN_true r
    cases hb : notNl b with
    | true =>
      simp only [skipN, hb, runN, List.takeWhile_cons, if_true, List.length_cons, List.drop_succ_cons] at ih ⊢
      rw [ih]; omega
    | false =>
      have h10 : b = 10 := by
        rw [notNl_iff] at hb
        simpa using hb
      subst h10
      simp [skipN, hb, runN, wsp]

theorem runN_spec (p : UInt8 → Bool) (s : List UInt8) (a : Nat) (ha : a ≤ s.length) : a + runN p (s.drop a) ≤ s.length ∧ (∀ i b, a ≤ i → i < a + runN p (s.drop a) → s[i]? = some b → p b = true) ∧ ∀ b, s[a + runN p (s.drop a)]? = some b → p b = false := by
  have hle : runN p (s.drop a) ≤ (s.drop a).length := by
    unfold runN
    exact (List.takeWhile_sublist p).length_le
  have key : ∀ (l : List UInt8), (∀ i b, i < runN p l → l[i]? = some b → p b = true) ∧ ∀ b, l[runN p l]? = some b → p b = false := by
    intro l
    induction l with
    | nil => exact ⟨fun i b _ h => by simp at h, fun b h => by simp at h⟩
    | cons x r ih =>
      cases hx : p x with
      | false => simp [runN, List.takeWhile_cons, hx]
      | true =>
        have he : runN p (x :: r) = runN p r + 1 := by simp [runN, List.takeWhile_cons, hx]
        rw [he]
        refine ⟨fun i b hi hb => ?_, fun b hb => ?_⟩
        · cases i with
          | zero => simp at hb; subst hb; exact hx
          | succ i => exact ih.1 i b (by omega) (by simpa using hb)
        · exact ih.2 b (by simpa using hb)
  refine ⟨by simp at hle; omega, fun i b h1 h2 hb => ?_, fun b hb => ?_⟩
  · obtain ⟨j, rfl⟩ : ∃ j, i = a + j := ⟨i - a, by omega⟩
    exact (key (s.drop a)).1 j b (by omega) (by rw [List.getElem?_drop]; exact hb)
  · exact (key (s.drop a)).2 b (by rw [List.getElem?_drop]; exact hb)
theorem sub_len (s : List UInt8) (a e : Nat) (h : a ≤ e) (he : e ≤ s.length) : (sub s a e).length = e - a := by
  unfold sub
  rw [List.length_drop, List.length_take]
  omega

section
variable (c0 c1 c2 c3 : AV) (s : List UInt8) (a v : Nat) (l : List D)
noncomputable def runCH (f : Nat) (hf : f = 53 ∨ f = 54 ∨ f = 57) (p : UInt8 → Bool) (hp : ∀ b, Pure Tryz.prog f [bD b] [.bool (p b)]) (hlen : s.length ≤ 100000) (ha : a ≤ s.length) : CHint Tryz.prog :=
  ⟨52, [scP, .fn f []], runHp c0 c1 c2 c3 s a v l, [.d (.str (sub s a (a + runN p (s.drop a))))], [],
    fits_ro rfl (runC c0 c1 c2 c3 s a v l f hf p hp hlen _ (Nat.le_add_right _ _) (runN_spec p s a ha).1 (runN_spec p s a ha).2.1 (runN_spec p s a ha).2.2)⟩

def hLen (P : Program) (s : List UInt8) (a e : Nat) (h : a ≤ e) (he : e ≤ s.length) (hlen : s.length ≤ 100000) : Hint P := .val (dI (IntKind.i64.wrap ((a : Int) + ((sub s a e).length : Int)))) (dN e) (by
  congr 2
  rw [sub_len s a e h he, IntWalk.i64_in _ (by omega)]
  omega)

theorem blankWs {b : UInt8} (hw : b = 32 ∨ b = 9 ∨ b = 10 ∨ b = 13) (ha : a < s.length) (hb : s[((a : Nat) : Int).toNat]? = some b) (hlen : s.length ≤ 100000) (rest : Heap) (X : Fix) (hP : X.P = Tryz.prog) (hN : X.N = 45) :
    AW X (loopOf Tryz.prog 31 0) ⟨envOf [(0, scP)], ovl (runHp c0 c1 c2 c3 s a v l) rest⟩ fun e' S' => e' = .normal ∧ Weak X S' ⟨envOf [(0, scP)], ovl (runHp c0 c1 c2 c3 s (a + 1) v l) rest⟩ := by
  rcases hw with rfl | rfl | rfl | rfl <;> exact seg okP named { hint := fun f' k => if f' = 31 then (if k = 11 then some (hLt Tryz.prog a s.length true (by simpa using ha)) else if k = 20 then some (.sidx s (a : Int) _ (by omega) hb)
    else if k = 30 then some (hSucc Tryz.prog a (by omega)) else none) else none } 1000 31 110000 45 (by kernel_rfl) X hP hN
theorem blankRem (ha : a < s.length) (hb : s[((a : Nat) : Int).toNat]? = some 35) (hlen : s.length ≤ 100000) (rest : Heap) (X : Fix) (hP : X.P = Tryz.prog) (hN : X.N = 45) :
    AW X (loopOf Tryz.prog 31 0) ⟨envOf [(0, scP)], ovl (runHp c0 c1 c2 c3 s a v l) rest⟩ fun e' S' => e' = .normal ∧ Weak X S' ⟨envOf [(0, scP)], ovl (runHp c0 c1 c2 c3 s (a + runN notNl (s.drop a)) v l) rest⟩ :=
  seg okP named { hint := fun f' k => if f' = 31 then (if k = 11 then some (hLt Tryz.prog a s.length true (by simpa using ha)) else if k = 20 then some (.sidx s (a : Int) _ (by omega) hb)
    else if k = 42 then some (hLen Tryz.prog s a _ (Nat.le_add_right _ _) (runN_spec notNl s a (by omega)).1 hlen) else none) else none
                  calls := fun f' k _ => if f' = 31 then (if k = 40 then some (runCH c0 c1 c2 c3 s a v l 53 (by simp) notNl nlC hlen (by omega)) else none) else none } 1000 31 110000 45 (by kernel_rfl) X hP hN
theorem blankEnd (rest : Heap) (X : Fix) (hP : X.P = Tryz.prog) (hN : X.N = 45) :
    AW X (loopOf Tryz.prog 31 0) ⟨envOf [(0, scP)], ovl (runHp c0 c1 c2 c3 s s.length v l) rest⟩ fun e' S' => e' = .exit 0 ∧ Weak X S' ⟨envOf [(0, scP)], ovl (runHp c0 c1 c2 c3 s s.length v l) rest⟩ :=
  seg okP named { hint := fun f' k => if f' = 31 then (if k = 11 then some (hLt Tryz.prog s.length s.length false (by simp)) else none) else none } 1000 31 110000 45 (by kernel_rfl) X hP hN
def hNe (P : Program) (b : UInt8) (k : Nat) (h : b.toNat ≠ k) : Hint P := hB P ((b.toNat : Int) == (k : Int)) false (by simp only [beq_eq_false_iff_ne, ne_eq]; omega)
theorem blankOther {b : UInt8} (h1 : b.toNat ≠ 32) (h2 : b.toNat ≠ 9) (h3 : b.toNat ≠ 10) (h4 : b.toNat ≠ 13) (h5 : b.toNat ≠ 35) (ha : a < s.length) (hb : s[((a : Nat) : Int).toNat]? = some b) (rest : Heap) (X : Fix) (hP : X.P = Tryz.prog) (hN : X.N = 45) :
    AW X (loopOf Tryz.prog 31 0) ⟨envOf [(0, scP)], ovl (runHp c0 c1 c2 c3 s a v l) rest⟩ fun e' S' => e' = .ret ∧ Weak X S' ⟨envOf [(0, scP)], ovl (runHp c0 c1 c2 c3 s a v l) rest⟩ :=
  seg okP named { hint := fun f' k => if f' = 31 then (if k = 11 then some (hLt Tryz.prog a s.length true (by simpa using ha)) else if k = 20 then some (.sidx s (a : Int) _ (by omega) hb)
    else if k = 22 then some (hNe Tryz.prog b 32 h1) else if k = 23 then some (hNe Tryz.prog b 9 h2) else if k = 24 then some (hNe Tryz.prog b 10 h3) else if k = 25 then some (hNe Tryz.prog b 13 h4) else if k = 34 then some (hNe Tryz.prog b 35 h5) else none) else none } 1000 31 110000 45 (by kernel_rfl) X hP hN

def blankTo (a : Nat) : Nat := a + skipN false (s.drop a)
theorem wsp_cases {b : UInt8} (h : wsp b = true) : b = 32 ∨ b = 9 ∨ b = 10 ∨ b = 13 := by
  simp only [wsp, Bool.or_eq_true, beq_iff_eq] at h
  rcases h with ((h | h) | h) | h
  · exact .inl h
  · exact .inr (.inl h)
  · exact .inr (.inr (.inl h))
  · exact .inr (.inr (.inr h))
theorem ne_nat {b : UInt8} {k : Nat} (hk : k < 256) (h : b ≠ UInt8.ofNat k) : b.toNat ≠ k := fun hx => h (by
  apply UInt8.toNat_inj.1
  rw [hx]
  simp [UInt8.toNat_ofNat']
  omega)
theorem blank_cases (x : Nat) (hx : x < s.length) : ∃ b, s[((x : Nat) : Int).toNat]? = some b ∧
    ((b = 32 ∨ b = 9 ∨ b = 10 ∨ b = 13) ∧ blankTo s (x + 1) = blankTo s x ∨ b = 35 ∧ blankTo s (x + runN notNl (s.drop x)) = blankTo s x ∧ 0 < runN notNl (s.drop x) ∨
      (b.toNat ≠ 32 ∧ b.toNat ≠ 9 ∧ b.toNat ≠ 10 ∧ b.toNat ≠ 13 ∧ b.toNat ≠ 35) ∧ blankTo s x = x) := by
  have hd : s.drop x = s[x] :: s.drop (x + 1) := List.drop_eq_getElem_cons hx
  refine ⟨s[x], by simp [hx], ?_⟩
  unfold blankTo
  cases hw : wsp s[x] with
  | true =>
    refine .inl ⟨wsp_cases hw, ?_⟩
    rw [hd]
    simp only [skipN, hw, if_true]
    omega
  | false =>
    by_cases h35 : s[x] = 35
    · refine .inr (.inl ⟨h35, ?_, ?_⟩)
      · have ht := skipN_true (s.drop (x + 1))
        have hr : runN notNl (s.drop x) = runN notNl (s.drop (x + 1)) + 1 := by
          rw [hd, h35]
          simp [runN, List.takeWhile_cons, show notNl 35 = true from rfl]
        have h2 : skipN false (s.drop x) = 1 + skipN true (s.drop (x + 1)) := by
          rw [hd]
          simp only [skipN, hw, h35]
          rfl
        rw [h2, ht, hr, List.drop_drop]
        have : x + (runN notNl (s.drop (x + 1)) + 1) = x + 1 + runN notNl (s.drop (x + 1)) := by omega
        rw [this]; omega
      · rw [hd, h35]
        simp [runN, List.takeWhile_cons, show notNl 35 = true from rfl]
    · refine .inr (.inr ⟨?_, ?_⟩)
      · simp only [wsp, Bool.or_eq_false_iff, beq_eq_false_iff_ne] at hw
        exact ⟨ne_nat (by omega) hw.1.1.1, ne_nat (by omega) hw.1.1.2, ne_nat (by omega) hw.1.2, ne_nat (by omega) hw.2, ne_nat (by omega) h35⟩
      · rw [hd]
        have : (s[x] == 35) = false := by simpa using h35
        simp only [skipN, hw, this]
        rfl
theorem blankTo_le (a : Nat) (ha : a ≤ s.length) : a ≤ blankTo s a ∧ blankTo s a ≤ s.length := by
  have := skipN_le false (s.drop a)
  rw [List.length_drop] at this
  unfold blankTo
  omega
def blankE : AExit := if blankTo s a = s.length then .exit 0 else .ret
theorem blankLoop (ha : a ≤ s.length) (hlen : s.length ≤ 100000) (e : AExit) (he : e = blankE s a) (rest : Heap) (X : Fix) (hP : X.P = Tryz.prog) (hN : X.N = 45) :
    AW X (.loop (loopOf Tryz.prog 31 0)) ⟨envOf [(0, scP)], ovl (runHp c0 c1 c2 c3 s a v l) rest⟩ fun e' S' => e' = e ∧ S' = ⟨envOf [(0, scP)], ovl (runHp c0 c1 c2 c3 s (blankTo s a) v l) rest⟩ :=
  loop_of_segs (P := Tryz.prog) (N := 45) (c := loopOf Tryz.prog 31 0) (fun _ => [(0, scP)]) (fun x _ => runHp c0 c1 c2 c3 s x v l) (fun x => x ≤ s.length ∧ blankTo s x = blankTo s a) (fun x => s.length - x) e [(0, scP)] (fun _ => runHp c0 c1 c2 c3 s (blankTo s a) v l) a ⟨ha, rfl⟩
    (by rw [he]; unfold blankE; split <;> simp)
    (fun rest x hx => by
      rcases Nat.lt_or_ge x s.length with h | h
      · obtain ⟨b, hb, ⟨hw, h2⟩ | ⟨rfl, h2, h3⟩ | ⟨⟨n1, n2, n3, n4, n5⟩, h2⟩⟩ := blank_cases s x h
        · exact .inl ⟨x + 1, ⟨by omega, by rw [h2]; exact hx.2⟩, by omega, fun X hP hN => blankWs c0 c1 c2 c3 s x v l hw h hb hlen rest X hP hN⟩
        · exact .inl ⟨x + runN notNl (s.drop x), ⟨(runN_spec notNl s x hx.1).1, by rw [h2]; exact hx.2⟩, by omega, fun X hP hN => blankRem c0 c1 c2 c3 s x v l h hb hlen rest X hP hN⟩
        · have hxe : blankTo s a = x := by rw [← hx.2, h2]
          have : e = .ret := by rw [he]; unfold blankE; rw [if_neg (by omega)]
          rw [hxe, this]
          exact .inr fun X hP hN => blankOther c0 c1 c2 c3 s x v l n1 n2 n3 n4 n5 h hb rest X hP hN
      · have hxe : x = s.length := by omega
        have hb := blankTo_le s x hx.1
        rw [hx.2] at hb
        have hbe : blankTo s a = s.length := by omega
        have : e = .exit 0 := by rw [he]; unfold blankE; rw [if_pos hbe]
        rw [hbe, this, hxe]
        exact .inr fun X hP hN => blankEnd c0 c1 c2 c3 s v l rest X hP hN) rest X hP hN
noncomputable def blankLH (ha : a ≤ s.length) (hlen : s.length ≤ 100000) (e : AExit) (he : e = blankE s a) : LHint Tryz.prog :=
  ⟨45, loopOf Tryz.prog 31 0, [(0, scP)], fun _ => runHp c0 c1 c2 c3 s a v l, e, [(0, scP)], fun _ => runHp c0 c1 c2 c3 s (blankTo s a) v l, blankLoop c0 c1 c2 c3 s a v l ha hlen e he⟩
/-- blank. -/
theorem blankC (ha : a ≤ s.length) (hlen : s.length ≤ 100000) (rest : Heap) : HCall Tryz.prog 31 [scP] (ovl (runHp c0 c1 c2 c3 s a v l) rest) [] (ovl (runHp c0 c1 c2 c3 s (blankTo s a) v l) rest) := by
  have key : ∀ e, e = blankE s a → (e = .exit 0 ∨ e = .ret) → HCall Tryz.prog 31 [scP] (ovl (runHp c0 c1 c2 c3 s a v l) rest) [] (ovl (runHp c0 c1 c2 c3 s (blankTo s a) v l) rest) := by
    rintro e he (rfl | rfl)
    · exact hcall_of_run okP named { loops := fun f' r => if f' = 31 then (if r = 0 then some (blankLH c0 c1 c2 c3 s a v l ha hlen _ he) else none) else none } 1000 110000 31 (by kernel_rfl)
    · exact hcall_of_run okP named { loops := fun f' r => if f' = 31 then (if r = 0 then some (blankLH c0 c1 c2 c3 s a v l ha hlen _ he) else none) else none } 1000 110000 31 (by kernel_rfl)
  refine key _ rfl ?_
  unfold blankE
  split
  · exact .inl rfl
  · exact .inr rfl
noncomputable def blankCH (ha : a ≤ s.length) (hlen : s.length ≤ 100000) : CHint Tryz.prog :=
  ⟨31, [scP], runHp c0 c1 c2 c3 s a v l, [], runHp c0 c1 c2 c3 s (blankTo s a) v l, fits_of (blankC c0 c1 c2 c3 s a v l ha hlen)⟩
end
end Go.Avm
/-
  The scanner of texts, part E: a token is put; is it a word?
-/
set_option linter.unusedSectionVars false
namespace Go.Avm
open Go.Proofs

abbrev tokD (kind : Int) (a : Nat) (t : List UInt8) (n : Int) : D := .agg [.int .u8 kind, .int .i64 (a : Int), .str t, .int .i64 n]
/-- What the scanner's part of the heap is: are the words made? -/
def stE (w : Bool) (s : List UInt8) (a v m : Nat) (l : List D) : List (Nat × Ent) := match w with
  | false => [scE (.d (.int .u32 0)) (.d (.int .i32 0)) (.d (.int .u32 0)) .junk s a v l, (1, ⟨v, none⟩), (120463, ⟨v, none⟩), (200002, ⟨0, none⟩), (200156, ⟨0, none⟩), (204135, ⟨0, none⟩), (210002, ⟨m, none⟩), (210335, ⟨m, none⟩)]
  | true => [scE (.d (.int .u32 1)) (.d (.int .i32 0)) (.d (.int .u32 0)) (.mp 200156 1) s a v l, (1, ⟨v, none⟩), (120463, ⟨v, none⟩), (200002, ⟨1, none⟩), (200156, ⟨1, some (.map wordsE 14)⟩), (204135, ⟨1, none⟩), (210002, ⟨m, none⟩), (210335, ⟨m, none⟩)]
def hAdd (P : Program) (a k : Nat) (h : a + k ≤ 1099511627776) : Hint P := .val (dI (IntKind.i64.wrap ((a : Int) + (k : Int)))) (dN (a + k)) (by
  congr 2
  rw [IntWalk.i64_in _ (by omega)]
  omega)
section
variable (w : Bool) (s : List UInt8) (a v m : Nat) (l : List D)
noncomputable def putPr (t : List UInt8) (hl : l.length + 1 ≤ 549755813888) (ht : a + t.length ≤ 1099511627776) : Par Tryz.prog :=
  { hint := fun f' k => if f' = 33 then (if k = 22 then some (.app l 1 hl) else if k = 31 then some (hAdd Tryz.prog a t.length ht) else none) else none }
theorem putC (kd n : Int) (t : List UInt8) (hl : l.length + 1 ≤ 549755813888) (ht : a + t.length ≤ 1099511627776) (rest : Heap) :
    HCall Tryz.prog 33 [scP, .d (.int .u8 kd), .d (.str t), .d (.int .i64 n)] (ovl (stE w s a v m l) rest) [] (ovl (stE w s (a + t.length) (v + 1) m (l ++ [tokD kd a t n])) rest) := by
  cases w <;> exact hcall_of_run okP named (putPr a l t hl ht) 1000 120000 33 (by kernel_rfl)
noncomputable def putCH (kd n : Int) (t : List UInt8) (hl : l.length + 1 ≤ 549755813888) (ht : a + t.length ≤ 1099511627776) : CHint Tryz.prog :=
  ⟨33, [scP, .d (.int .u8 kd), .d (.str t), .d (.int .i64 n)], stE w s a v m l, [], stE w s (a + t.length) (v + 1) m (l ++ [tokD kd a t n]), fits_of (putC w s a v m l kd n t hl ht)⟩

noncomputable def hasPr (t : List UInt8) (r : Option (Nat × D)) (h : findD (.str t) wordsE 0 = some r) : Par Tryz.prog := { hint := fun f k => if f = 58 then (if k = 18 then some (.look (.str t) wordsE r h) else none) else none }
def mNext (w : Bool) (m : Nat) : Nat := match w with
  | false => m
  | true => m + 1
set_option maxRecDepth 100000 in
theorem hasF (t : List UInt8) (h : findD (.str t) wordsE 0 = some none) (rest : Heap) : HCall Tryz.prog 58 [scP, .d (.str t)] (ovl (stE w s a v m l) rest) [dB false] (ovl (stE true s a v (mNext w m) l) rest) := by
  cases w
  · exact hcall_of_run okP named (hasPr t _ h) 1000 200000 58 (by kernel_rfl)
  · exact hcall_of_run okP named (hasPr t _ h) 1000 210000 58 (by kernel_rfl)
set_option maxRecDepth 100000 in
theorem hasT (t : List UInt8) (i : Nat) (h : findD (.str t) wordsE 0 = some (some (i, .agg []))) (rest : Heap) : HCall Tryz.prog 58 [scP, .d (.str t)] (ovl (stE w s a v m l) rest) [dB true] (ovl (stE true s a v (mNext w m) l) rest) := by
  cases w
  · exact hcall_of_run okP named (hasPr t _ h) 1000 200000 58 (by kernel_rfl)
  · exact hcall_of_run okP named (hasPr t _ h) 1000 210000 58 (by kernel_rfl)
def isWord (t : List UInt8) : Bool := wl.contains t
theorem hasC (t : List UInt8) (rest : Heap) : HCall Tryz.prog 58 [scP, .d (.str t)] (ovl (stE w s a v m l) rest) [dB (isWord t)] (ovl (stE true s a v (mNext w m) l) rest) := by
  rcases findD_words t wl wordsE 0 rfl with ⟨i, g1, g2, g3⟩ | ⟨g1, g2⟩
  · have : isWord t = true := by
      simp only [isWord, List.contains_eq_mem, decide_eq_true_eq]
      exact List.mem_of_getElem? g1
    rw [this]
    exact hasT w s a v m l t (0 + i) g3 rest
  · have : isWord t = false := by
      simp only [isWord, List.contains_eq_mem, decide_eq_false_iff_not]
      intro hm
      obtain ⟨i, hi⟩ := List.getElem?_of_mem hm
      have := g1 i t hi
      simp at this
    rw [this]
    exact hasF w s a v m l t g2 rest
noncomputable def hasCH (t : List UInt8) (u : Bool) (hu : isWord t = u) : CHint Tryz.prog :=
  ⟨58, [scP, .d (.str t)], stE w s a v m l, [dB u], stE true s a v (mNext w m) l, fits_of (by subst hu; exact hasC w s a v m l t)⟩
noncomputable def runSt (f : Nat) (hf : f = 53 ∨ f = 54 ∨ f = 57) (p : UInt8 → Bool) (hp : ∀ b, Pure Tryz.prog f [bD b] [.bool (p b)]) (hlen : s.length ≤ 100000) (ha : a ≤ s.length) : CHint Tryz.prog :=
  match w with
  | false => runCH (.d (.int .u32 0)) (.d (.int .i32 0)) (.d (.int .u32 0)) .junk s a v l f hf p hp hlen ha
  | true => runCH (.d (.int .u32 1)) (.d (.int .i32 0)) (.d (.int .u32 0)) (.mp 200156 1) s a v l f hf p hp hlen ha
noncomputable def blankSt (hlen : s.length ≤ 100000) (ha : a ≤ s.length) : CHint Tryz.prog :=
  match w with
  | false => blankCH (.d (.int .u32 0)) (.d (.int .i32 0)) (.d (.int .u32 0)) .junk s a v l ha hlen
  | true => blankCH (.d (.int .u32 1)) (.d (.int .i32 0)) (.d (.int .u32 0)) (.mp 200156 1) s a v l ha hlen
end
end Go.Avm
/-
  The scanner of texts, part F: a word or a name is next.
-/
set_option linter.unusedSectionVars false
namespace Go.Avm
open Go.Proofs

def nmT (s : List UInt8) (a : Nat) : List UInt8 := sub s a (a + runN isNm (s.drop a))
section
variable (w : Bool) (s : List UInt8) (a v m : Nat) (l : List D)
noncomputable def nextPr (b : UInt8) (ha : a < s.length) (hb : s[((a : Nat) : Int).toNat]? = some b) (hlen : s.length ≤ 100000) (h1 : isDig b = false) (h2 : isSm b = true) (u : Bool) (hu : isWord (nmT s a) = u) (g : Bool) (hg : decide (12 < ((nmT s a).length : Int)) = g)
    (hl : l.length + 1 ≤ 549755813888) (ht : a + (nmT s a).length ≤ 1099511627776) : Par Tryz.prog :=
  { hint := fun f' k => if f' = 32 then (if k = 14 then some (.sidx s (a : Int) b (by omega) hb) else if k = 17 then some (.call 54 [bD b] [.bool false] (h1 ▸ digC b)) else if k = 22 then some (.call 56 [bD b] [.bool true] (h2 ▸ smC b))
      else if k = 40 then some (hB Tryz.prog _ g hg) else none) else none
    calls := fun f' k _ => if f' = 32 then (if k = 24 then some (runSt w s a v l 57 (by simp) isNm nmC hlen (by omega)) else if k = 33 then some (hasCH w s a v m l (nmT s a) u hu)
      else if k = 36 then some (putCH true s a v (mNext w m) l 2 0 (nmT s a) hl ht) else if k = 27 then some (putCH true s a v (mNext w m) l 1 0 (nmT s a) hl ht) else none) else none }
theorem nextWord (b : UInt8) (ha : a < s.length) (hb : s[((a : Nat) : Int).toNat]? = some b) (hlen : s.length ≤ 100000) (h1 : isDig b = false) (h2 : isSm b = true) (hu : isWord (nmT s a) = true)
    (hl : l.length + 1 ≤ 549755813888) (ht : a + (nmT s a).length ≤ 1099511627776) (rest : Heap) :
    HCall Tryz.prog 32 [scP] (ovl (stE w s a v m l) rest) [dI 0] (ovl (stE true s (a + (nmT s a).length) (v + 1) (mNext w m) (l ++ [tokD 2 a (nmT s a) 0])) rest) := by
  cases w with
  | false => exact hcall_of_run okP named (nextPr false s a v m l b ha hb hlen h1 h2 true hu _ rfl hl ht) 1000 130000 32 (by kernel_rfl)
  | true => exact hcall_of_run okP named (nextPr true s a v m l b ha hb hlen h1 h2 true hu _ rfl hl ht) 1000 130000 32 (by kernel_rfl)
theorem nextName (b : UInt8) (ha : a < s.length) (hb : s[((a : Nat) : Int).toNat]? = some b) (hlen : s.length ≤ 100000) (h1 : isDig b = false) (h2 : isSm b = true) (hu : isWord (nmT s a) = false) (hg : decide (12 < ((nmT s a).length : Int)) = false)
    (hl : l.length + 1 ≤ 549755813888) (ht : a + (nmT s a).length ≤ 1099511627776) (rest : Heap) :
    HCall Tryz.prog 32 [scP] (ovl (stE w s a v m l) rest) [dI 0] (ovl (stE true s (a + (nmT s a).length) (v + 1) (mNext w m) (l ++ [tokD 1 a (nmT s a) 0])) rest) := by
  cases w with
  | false => exact hcall_of_run okP named (nextPr false s a v m l b ha hb hlen h1 h2 false hu false hg hl ht) 1000 130000 32 (by kernel_rfl)
  | true => exact hcall_of_run okP named (nextPr true s a v m l b ha hb hlen h1 h2 false hu false hg hl ht) 1000 130000 32 (by kernel_rfl)
theorem nextLong (b : UInt8) (ha : a < s.length) (hb : s[((a : Nat) : Int).toNat]? = some b) (hlen : s.length ≤ 100000) (h1 : isDig b = false) (h2 : isSm b = true) (hu : isWord (nmT s a) = false) (hg : decide (12 < ((nmT s a).length : Int)) = true)
    (hl : l.length + 1 ≤ 549755813888) (ht : a + (nmT s a).length ≤ 1099511627776) (rest : Heap) :
    HCall Tryz.prog 32 [scP] (ovl (stE w s a v m l) rest) [dI 2] (ovl (stE true s a v (mNext w m) l) rest) := by
  cases w with
  | false => exact hcall_of_run okP named (nextPr false s a v m l b ha hb hlen h1 h2 false hu true hg hl ht) 1000 130000 32 (by kernel_rfl)
  | true => exact hcall_of_run okP named (nextPr true s a v m l b ha hb hlen h1 h2 false hu true hg hl ht) 1000 130000 32 (by kernel_rfl)
end
end Go.Avm
/-
  The scanner of texts, part G: signs.
-/
set_option linter.unusedSectionVars false
namespace Go.Avm
open Go.Proofs

def prs : List (List UInt8) := [[61, 61], [33, 61], [60, 61], [62, 61], [38, 38], [124, 124], [60, 60], [62, 62]]
def prsS : List UInt8 := [61, 61, 32, 33, 61, 32, 60, 61, 32, 62, 61, 32, 38, 38, 32, 124, 124, 32, 60, 60, 32, 62, 62]
def sgnS : List UInt8 := [40, 41, 123, 125, 91, 93, 44, 59, 58, 61, 60, 62, 43, 45, 42, 47, 37, 38, 124, 94, 33, 126]
def prsD : List D := prs.map .str
theorem prsD_get {i : Nat} {x : List UInt8} (h : prs[i]? = some x) : prsD[((i : Nat) : Int).toNat]? = some (.str x) := by
  simp [prsD, h]
set_option maxRecDepth 100000 in
theorem fieldsC : Pure Tryz.prog 73 [.str prsS] [.ro prsD] := pure_of_run okP named {} 100000 (by kernel_rfl)

/-! ### slices.Index over the signs of two bytes -/
def ixL (t : List UInt8) (i : Nat) : List (Nat × AV) := [(0, .d (.ro prsD)), (1, .d (.str t)), (7, dN 8), (8, dN i)]
noncomputable def ixPr (t x : List UInt8) (i : Nat) (hi : i < 8) (hx : prs[i]? = some x) (u : Bool) (he : (t == x) = u) : Par Tryz.prog :=
  { hint := fun f k => if f = 97 then (if k = 9 then some (hLt Tryz.prog i 8 true (by simpa using hi)) else if k = 14 then some (.idx prsD (i : Int) (.str x) (by omega) (prsD_get hx)) else if k = 16 then some (hEq Tryz.prog t x u he)
    else if k = 18 then some (hSucc Tryz.prog i (by omega)) else none) else none }
theorem ixNext (t x : List UInt8) (i : Nat) (hi : i < 8) (hx : prs[i]? = some x) (he : (t == x) = false) (rest : Heap) (X : Fix) (hP : X.P = Tryz.prog) (hN : X.N = 19) :
    AW X (loopOf Tryz.prog 97 2) ⟨envOf (ixL t i), ovl [] rest⟩ fun e' S' => e' = .normal ∧ Weak X S' ⟨envOf (ixL t (i + 1)), ovl [] rest⟩ :=
  seg okP named (ixPr t x i hi hx false he) 1000 97 1000 19 (by kernel_rfl) X hP hN
theorem ixHit (t x : List UInt8) (i : Nat) (hi : i < 8) (hx : prs[i]? = some x) (he : (t == x) = true) (rest : Heap) (X : Fix) (hP : X.P = Tryz.prog) (hN : X.N = 19) :
    AW X (loopOf Tryz.prog 97 2) ⟨envOf (ixL t i), ovl [] rest⟩ fun e' S' => e' = .ret ∧ Weak X S' ⟨envOf [(4, dN i)], ovl [] rest⟩ :=
  seg okP named (ixPr t x i hi hx true he) 1000 97 1000 19 (by kernel_rfl) X hP hN
theorem ixEnd (t : List UInt8) (rest : Heap) (X : Fix) (hP : X.P = Tryz.prog) (hN : X.N = 19) :
    AW X (loopOf Tryz.prog 97 2) ⟨envOf (ixL t 8), ovl [] rest⟩ fun e' S' => e' = .exit 0 ∧ Weak X S' ⟨envOf [], ovl [] rest⟩ :=
  seg okP named {} 1000 97 1000 19 (by kernel_rfl) X hP hN
theorem ixLoopT (t : List UInt8) (i0 : Nat) (h0 : prs[i0]? = some t) (hlt : ∀ (j : Nat) (x : List UInt8), j < i0 → prs[j]? = some x → (t == x) = false) (rest : Heap) (X : Fix) (hP : X.P = Tryz.prog) (hN : X.N = 19) :
    AW X (.loop (loopOf Tryz.prog 97 2)) ⟨envOf (ixL t 0), ovl [] rest⟩ fun e' S' => e' = .ret ∧ S' = ⟨envOf [(4, dN i0)], ovl [] rest⟩ := by
  have hi0 : i0 < 8 := (List.getElem?_eq_some_iff.1 h0).1
  exact loop_of_segs (P := Tryz.prog) (N := 19) (c := loopOf Tryz.prog 97 2) (ixL t) (fun _ _ => []) (fun i => i ≤ i0) (fun i => 8 - i) .ret [(4, dN i0)] (fun _ => []) 0 (Nat.zero_le _) (by simp)
    (fun rest i hi => by
      rcases Nat.lt_or_ge i i0 with h | h
      · obtain ⟨x, hx⟩ : ∃ x, prs[i]? = some x := ⟨_, List.getElem?_eq_getElem (show i < 8 by omega)⟩
        exact .inl ⟨i + 1, h, by omega, fun X hP hN => ixNext t x i (by omega) hx (hlt i x h hx) rest X hP hN⟩
      · have : i = i0 := by omega
        subst this
        exact .inr fun X hP hN => ixHit t t i hi0 h0 (by simp) rest X hP hN) rest X hP hN
theorem ixLoopF (t : List UInt8) (hno : ∀ (j : Nat) (x : List UInt8), prs[j]? = some x → (t == x) = false) (rest : Heap) (X : Fix) (hP : X.P = Tryz.prog) (hN : X.N = 19) :
    AW X (.loop (loopOf Tryz.prog 97 2)) ⟨envOf (ixL t 0), ovl [] rest⟩ fun e' S' => e' = .exit 0 ∧ S' = ⟨envOf [], ovl [] rest⟩ :=
  loop_of_segs (P := Tryz.prog) (N := 19) (c := loopOf Tryz.prog 97 2) (ixL t) (fun _ _ => []) (fun i => i ≤ 8) (fun i => 8 - i) (.exit 0) [] (fun _ => []) 0 (Nat.zero_le _) (by simp)
    (fun rest i hi => by
      rcases Nat.lt_or_ge i 8 with h | h
      · obtain ⟨x, hx⟩ : ∃ x, prs[i]? = some x := ⟨_, List.getElem?_eq_getElem (show i < 8 from h)⟩
        exact .inl ⟨i + 1, h, by omega, fun X hP hN => ixNext t x i h hx (hno i x hx) rest X hP hN⟩
      · have : i = 8 := by omega
        subst this
        exact .inr fun X hP hN => ixEnd t rest X hP hN) rest X hP hN
noncomputable def ixLT (t : List UInt8) (i0 : Nat) (h0 : prs[i0]? = some t) (hlt : ∀ (j : Nat) (x : List UInt8), j < i0 → prs[j]? = some x → (t == x) = false) : LHint Tryz.prog := ⟨19, loopOf Tryz.prog 97 2, ixL t 0, fun _ => [], .ret, [(4, dN i0)], fun _ => [], ixLoopT t i0 h0 hlt⟩
noncomputable def ixLF (t : List UInt8) (hno : ∀ (j : Nat) (x : List UInt8), prs[j]? = some x → (t == x) = false) : LHint Tryz.prog := ⟨19, loopOf Tryz.prog 97 2, ixL t 0, fun _ => [], .exit 0, [], fun _ => [], ixLoopF t hno⟩
theorem ctT (t : List UInt8) (i0 : Nat) (h0 : prs[i0]? = some t) (hlt : ∀ (j : Nat) (x : List UInt8), j < i0 → prs[j]? = some x → (t == x) = false) : Pure Tryz.prog 74 [.ro prsD, .str t] [.bool true] :=
  pure_of_run okP named { loops := fun f r => if f = 97 then (if r = 2 then some (ixLT t i0 h0 hlt) else none) else none } 1000 (by kernel_rfl)
theorem ctF (t : List UInt8) (hno : ∀ (j : Nat) (x : List UInt8), prs[j]? = some x → (t == x) = false) : Pure Tryz.prog 74 [.ro prsD, .str t] [.bool false] :=
  pure_of_run okP named { loops := fun f r => if f = 97 then (if r = 2 then some (ixLF t hno) else none) else none } 1000 (by kernel_rfl)
theorem first_hit (t : List UInt8) : ∀ (l : List (List UInt8)), t ∈ l → ∃ i : Nat, l[i]? = some t ∧ ∀ (j : Nat) (x : List UInt8), j < i → l[j]? = some x → (t == x) = false
  | [], h => by simp at h
  | y :: l, h => by
    by_cases hy : t = y
    · subst hy
      exact ⟨0, rfl, fun j x hj => by omega⟩
    · obtain ⟨i, h1, h2⟩ := first_hit t l (by simpa [hy] using h)
      refine ⟨i + 1, by simpa using h1, fun j x hj hx => ?_⟩
      cases j with
      | zero => simp at hx; subst hx; simpa using hy
      | succ j => exact h2 j x (by omega) (by simpa using hx)
theorem ctC (t : List UInt8) : Pure Tryz.prog 74 [.ro prsD, .str t] [.bool (prs.contains t)] := by
  by_cases h : t ∈ prs
  · obtain ⟨i, h1, h2⟩ := first_hit t prs h
    have : prs.contains t = true := by simpa using h
    rw [this]
    exact ctT t i h1 h2
  · have : prs.contains t = false := by simpa using h
    rw [this]
    refine ctF t fun j x hx => ?_
    have : x ∈ prs := List.mem_of_getElem? hx
    simp only [beq_eq_false_iff_ne, ne_eq]
    rintro rfl
    exact h this

/-! ### sign -/
def idxB (b : UInt8) : Int := match firstAt ((b.toNat : Int).toNat.toUInt8) sgnS 0 with
  | some i => (i : Int)
  | none => -1
theorem ibC (b : UInt8) : Pure Tryz.prog 75 [.str sgnS, bD b] [.int .i64 (idxB b)] := pure_of_run okP named {} 1000 (by kernel_rfl)
def rst (s : List UInt8) (a : Nat) : List UInt8 := (s.take s.length).drop a
def pre2 (t : List UInt8) (k : Nat) : List UInt8 := (t.take k).drop 0

section
variable (w : Bool) (s : List UInt8) (a v m : Nat) (l : List D)
noncomputable def signPr (b : UInt8) (ha : a < s.length) (hb : (rst s a)[(0 : Int).toNat]? = some b) (g : Bool) (hg : decide (2 ≤ ((rst s a).length : Int)) = g) (u : Bool) (hu : prs.contains (pre2 (rst s a) 2) = u) (z : Bool) (hz : decide (0 ≤ idxB b) = z)
    (h2 : g = true → 2 ≤ (rst s a).length) (h1 : 1 ≤ (rst s a).length) : Par Tryz.prog :=
  { hint := fun f' k => if f' = 59 then (if k = 12 then some (.sub s a s.length ⟨by omega, Nat.le_refl _⟩) else if k = 15 then some (hB Tryz.prog _ g hg) else if k = 17 then some (.call 73 [.str prsS] [.ro prsD] fieldsC)
      else if k = 19 then (if hgt : g = true then some (.sub (rst s a) 0 2 ⟨by omega, h2 hgt⟩) else none) else if k = 20 then some (.call 74 [.ro prsD, .str (pre2 (rst s a) 2)] [.bool u] (hu ▸ ctC _))
      else if k = 23 then (if hgt : g = true then some (.sub (rst s a) 0 2 ⟨by omega, h2 hgt⟩) else none) else if k = 25 then some (.sidx (rst s a) 0 b (by omega) hb)
      else if k = 26 then some (.call 75 [.str sgnS, bD b] [.int .i64 (idxB b)] (ibC b)) else if k = 27 then some (hB Tryz.prog _ z hz) else if k = 29 then some (.sub (rst s a) 0 1 ⟨by omega, h1⟩) else none) else none }
theorem signTwo (c0 c1 c2 c3 : AV) (b : UInt8) (ha : a < s.length) (hb : (rst s a)[(0 : Int).toNat]? = some b) (hg : decide (2 ≤ ((rst s a).length : Int)) = true) (hu : prs.contains (pre2 (rst s a) 2) = true) (h2 : 2 ≤ (rst s a).length) (rest : Heap) :
    HCall Tryz.prog 59 [scP] (ovl (runHp c0 c1 c2 c3 s a v l) rest) [.d (.str (pre2 (rst s a) 2))] (ovl (runHp c0 c1 c2 c3 s a v l) rest) :=
  hcall_of_run okP named (signPr s a b ha hb true hg true hu _ rfl (fun _ => h2) (by omega)) 1000 140000 59 (by kernel_rfl)
theorem signOne (c0 c1 c2 c3 : AV) (b : UInt8) (ha : a < s.length) (hb : (rst s a)[(0 : Int).toNat]? = some b) (g : Bool) (hg : decide (2 ≤ ((rst s a).length : Int)) = g) (hu : (g && prs.contains (pre2 (rst s a) 2)) = false) (h2 : g = true → 2 ≤ (rst s a).length) (h1 : 1 ≤ (rst s a).length) (hz : decide (0 ≤ idxB b) = true) (rest : Heap) :
    HCall Tryz.prog 59 [scP] (ovl (runHp c0 c1 c2 c3 s a v l) rest) [.d (.str (pre2 (rst s a) 1))] (ovl (runHp c0 c1 c2 c3 s a v l) rest) := by
  cases g with
  | false => exact hcall_of_run okP named (signPr s a b ha hb false hg _ rfl true hz h2 h1) 1000 140000 59 (by kernel_rfl)
  | true => exact hcall_of_run okP named (signPr s a b ha hb true hg false (by simpa using hu) true hz h2 h1) 1000 140000 59 (by kernel_rfl)
theorem signNone (c0 c1 c2 c3 : AV) (b : UInt8) (ha : a < s.length) (hb : (rst s a)[(0 : Int).toNat]? = some b) (g : Bool) (hg : decide (2 ≤ ((rst s a).length : Int)) = g) (hu : (g && prs.contains (pre2 (rst s a) 2)) = false) (h2 : g = true → 2 ≤ (rst s a).length) (h1 : 1 ≤ (rst s a).length) (hz : decide (0 ≤ idxB b) = false) (rest : Heap) :
    HCall Tryz.prog 59 [scP] (ovl (runHp c0 c1 c2 c3 s a v l) rest) [.d (.str [])] (ovl (runHp c0 c1 c2 c3 s a v l) rest) := by
  cases g with
  | false => exact hcall_of_run okP named (signPr s a b ha hb false hg _ rfl false hz h2 h1) 1000 140000 59 (by kernel_rfl)
  | true => exact hcall_of_run okP named (signPr s a b ha hb true hg false (by simpa using hu) false hz h2 h1) 1000 140000 59 (by kernel_rfl)
end
end Go.Avm
/-
  The scanner of texts, part H: a sign is next.
-/
set_option linter.unusedSectionVars false
namespace Go.Avm
open Go.Proofs

/-- The sign that begins here. -/
def signT (s : List UInt8) (a : Nat) (b : UInt8) : List UInt8 :=
  if (decide (2 ≤ ((rst s a).length : Int)) && prs.contains (pre2 (rst s a) 2)) = true then pre2 (rst s a) 2 else if decide (0 ≤ idxB b) = true then pre2 (rst s a) 1 else []
section
variable (w : Bool) (s : List UInt8) (a v m : Nat) (l : List D)
theorem signC (c0 c1 c2 c3 : AV) (b : UInt8) (ha : a < s.length) (hb : (rst s a)[(0 : Int).toNat]? = some b) (rest : Heap) :
    HCall Tryz.prog 59 [scP] (ovl (runHp c0 c1 c2 c3 s a v l) rest) [.d (.str (signT s a b))] (ovl (runHp c0 c1 c2 c3 s a v l) rest) := by
  have h1 : 1 ≤ (rst s a).length := by
    have := (List.getElem?_eq_some_iff.1 hb).1
    omega
  have h2 : ∀ g, decide (2 ≤ ((rst s a).length : Int)) = g → g = true → 2 ≤ (rst s a).length := by
    rintro g rfl h
    have := of_decide_eq_true h
    omega
  unfold signT
  split
  · rename_i h
    simp only [Bool.and_eq_true] at h
    exact signTwo s a v l c0 c1 c2 c3 b ha hb h.1 h.2 (h2 _ h.1 rfl) rest
  · rename_i h
    have h' : (decide (2 ≤ ((rst s a).length : Int)) && prs.contains (pre2 (rst s a) 2)) = false := by simpa only [Bool.not_eq_true] using h
    split
    · rename_i hz
      exact signOne s a v l c0 c1 c2 c3 b ha hb _ rfl h' (h2 _ rfl) h1 hz rest
    · rename_i hz
      exact signNone s a v l c0 c1 c2 c3 b ha hb _ rfl h' (h2 _ rfl) h1 (by simpa only [Bool.not_eq_true] using hz) rest
noncomputable def signSt (b : UInt8) (ha : a < s.length) (hb : (rst s a)[(0 : Int).toNat]? = some b) (t : List UInt8) (ht : signT s a b = t) : CHint Tryz.prog :=
  match w with
  | false => ⟨59, [scP], runHp (.d (.int .u32 0)) (.d (.int .i32 0)) (.d (.int .u32 0)) .junk s a v l, [.d (.str t)], [], fits_ro rfl (ht ▸ signC s a v l _ _ _ _ b ha hb)⟩
  | true => ⟨59, [scP], runHp (.d (.int .u32 1)) (.d (.int .i32 0)) (.d (.int .u32 0)) (.mp 200156 1) s a v l, [.d (.str t)], [], fits_ro rfl (ht ▸ signC s a v l _ _ _ _ b ha hb)⟩
noncomputable def sgnPr (b : UInt8) (ha : a < s.length) (hb : s[((a : Nat) : Int).toNat]? = some b) (hb' : (rst s a)[(0 : Int).toNat]? = some b) (h1 : isDig b = false) (h2 : isSm b = false) (t : List UInt8) (hT : signT s a b = t) (u : Bool) (hu : (t == []) = u)
    (hl : l.length + 1 ≤ 549755813888) (ht : a + t.length ≤ 1099511627776) : Par Tryz.prog :=
  { hint := fun f' k => if f' = 32 then (if k = 14 then some (.sidx s (a : Int) b (by omega) hb) else if k = 17 then some (.call 54 [bD b] [.bool false] (h1 ▸ digC b)) else if k = 22 then some (.call 56 [bD b] [.bool false] (h2 ▸ smC b))
      else if k = 44 then some (hB Tryz.prog _ u hu) else none) else none
    calls := fun f' k _ => if f' = 32 then (if k = 42 then some (signSt w s a v l b ha hb' t hT) else if k = 47 then some (putCH w s a v m l 4 0 t hl ht) else none) else none }
theorem nextSign (b : UInt8) (ha : a < s.length) (hb : s[((a : Nat) : Int).toNat]? = some b) (hb' : (rst s a)[(0 : Int).toNat]? = some b) (h1 : isDig b = false) (h2 : isSm b = false) (t : List UInt8) (hT : signT s a b = t) (hu : (t == []) = false)
    (hl : l.length + 1 ≤ 549755813888) (ht : a + t.length ≤ 1099511627776) (rest : Heap) :
    HCall Tryz.prog 32 [scP] (ovl (stE w s a v m l) rest) [dI 0] (ovl (stE w s (a + t.length) (v + 1) m (l ++ [tokD 4 a t 0])) rest) := by
  cases w with
  | false => exact hcall_of_run okP named (sgnPr false s a v m l b ha hb hb' h1 h2 t hT false hu hl ht) 1000 130000 32 (by kernel_rfl)
  | true => exact hcall_of_run okP named (sgnPr true s a v m l b ha hb hb' h1 h2 t hT false hu hl ht) 1000 130000 32 (by kernel_rfl)
theorem nextNone (b : UInt8) (ha : a < s.length) (hb : s[((a : Nat) : Int).toNat]? = some b) (hb' : (rst s a)[(0 : Int).toNat]? = some b) (h1 : isDig b = false) (h2 : isSm b = false) (t : List UInt8) (hT : signT s a b = t) (hu : (t == []) = true)
    (hl : l.length + 1 ≤ 549755813888) (ht : a + t.length ≤ 1099511627776) (rest : Heap) :
    HCall Tryz.prog 32 [scP] (ovl (stE w s a v m l) rest) [dI 4] (ovl (stE w s a v m l) rest) := by
  cases w with
  | false => exact hcall_of_run okP named (sgnPr false s a v m l b ha hb hb' h1 h2 t hT true hu hl ht) 1000 130000 32 (by kernel_rfl)
  | true => exact hcall_of_run okP named (sgnPr true s a v m l b ha hb hb' h1 h2 t hT true hu hl ht) 1000 130000 32 (by kernel_rfl)
end
end Go.Avm
