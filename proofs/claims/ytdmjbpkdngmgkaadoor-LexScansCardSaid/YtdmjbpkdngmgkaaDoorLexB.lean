/-
  The words of the language: the document's answer for every text; the law.
-/
import Derived.Test.YtdmjbpkdngmgkaaDoorLexA
set_option linter.unusedSectionVars false
namespace Go.Avm
open Go.Proofs

def wd : List D := wl.map .str
theorem wd_get {i : Nat} {x : List UInt8} (h : wl[i]? = some x) : wd[((i : Nat) : Int).toNat]? = some (.str x) := by
  simp [wd, h]
def hEq (P : Program) (s x : List UInt8) (t : Bool) (h : (s == x) = t) : Hint P := .val (dB (s == x)) (dB t) (by rw [h])
def refL (s : List UInt8) (i : Nat) : List (Nat × AV) := [(0, .d (.str s)), (2, dB false), (5, .vec 20 1 1 wd), (6, dN 14), (7, dN i)]
theorem refNext (s x : List UInt8) (i : Nat) (hi : i < 14) (hx : wl[i]? = some x) (he : (s == x) = false) (rest : Heap) (X : Fix) (hP : X.P = Tryd.prog) (hN : X.N = 15) :
    AW X (loopOf Tryd.prog 14 2) ⟨envOf (refL s i), ovl [] rest⟩ fun e' S' => e' = .normal ∧ Weak X S' ⟨envOf (refL s (i + 1)), ovl [] rest⟩ :=
  seg okP named { hint := fun f k => if f = 14 then (if k = 8 then some (hLt Tryd.prog i 14 true (by simpa using hi)) else if k = 9 then some (.idx wd (i : Int) (.str x) (by omega) (wd_get hx)) else if k = 13 then some (hEq Tryd.prog s x false he)
    else if k = 14 then some (hSucc Tryd.prog i (by omega)) else none) else none } 1000 14 1000 15 (by kernel_rfl) X hP hN
theorem refHit (s x : List UInt8) (i : Nat) (hi : i < 14) (hx : wl[i]? = some x) (he : (s == x) = true) (rest : Heap) (X : Fix) (hP : X.P = Tryd.prog) (hN : X.N = 15) :
    AW X (loopOf Tryd.prog 14 2) ⟨envOf (refL s i), ovl [] rest⟩ fun e' S' => e' = .ret ∧ Weak X S' ⟨envOf [(2, dB true)], ovl [] rest⟩ :=
  seg okP named { hint := fun f k => if f = 14 then (if k = 8 then some (hLt Tryd.prog i 14 true (by simpa using hi)) else if k = 9 then some (.idx wd (i : Int) (.str x) (by omega) (wd_get hx)) else if k = 13 then some (hEq Tryd.prog s x true he)
    else none) else none } 1000 14 1000 15 (by kernel_rfl) X hP hN
theorem refEnd (s : List UInt8) (rest : Heap) (X : Fix) (hP : X.P = Tryd.prog) (hN : X.N = 15) :
    AW X (loopOf Tryd.prog 14 2) ⟨envOf (refL s 14), ovl [] rest⟩ fun e' S' => e' = .exit 0 ∧ Weak X S' ⟨envOf [(2, dB false)], ovl [] rest⟩ :=
  seg okP named {} 1000 14 1000 15 (by kernel_rfl) X hP hN
theorem refLoopT (s : List UInt8) (i0 : Nat) (h0 : wl[i0]? = some s) (hlt : ∀ (j : Nat) (x : List UInt8), j < i0 → wl[j]? = some x → (s == x) = false) (rest : Heap) (X : Fix) (hP : X.P = Tryd.prog) (hN : X.N = 15) :
    AW X (.loop (loopOf Tryd.prog 14 2)) ⟨envOf (refL s 0), ovl [] rest⟩ fun e' S' => e' = .ret ∧ S' = ⟨envOf [(2, dB true)], ovl [] rest⟩ := by
  have hi0 : i0 < 14 := (List.getElem?_eq_some_iff.1 h0).1
  exact loop_of_segs (P := Tryd.prog) (N := 15) (c := loopOf Tryd.prog 14 2) (refL s) (fun _ _ => []) (fun i => i ≤ i0) (fun i => 14 - i) .ret [(2, dB true)] (fun _ => []) 0 (Nat.zero_le _) (by simp)
    (fun rest i hi => by
      rcases Nat.lt_or_ge i i0 with h | h
      · obtain ⟨x, hx⟩ : ∃ x, wl[i]? = some x := ⟨_, List.getElem?_eq_getElem (show i < 14 by omega)⟩
        exact .inl ⟨i + 1, h, by omega, fun X hP hN => refNext s x i (by omega) hx (hlt i x h hx) rest X hP hN⟩
      · have : i = i0 := by omega
        subst this
        exact .inr fun X hP hN => refHit s s i hi0 h0 (by simp) rest X hP hN) rest X hP hN
theorem refLoopF (s : List UInt8) (hno : ∀ (j : Nat) (x : List UInt8), wl[j]? = some x → (s == x) = false) (rest : Heap) (X : Fix) (hP : X.P = Tryd.prog) (hN : X.N = 15) :
    AW X (.loop (loopOf Tryd.prog 14 2)) ⟨envOf (refL s 0), ovl [] rest⟩ fun e' S' => e' = .exit 0 ∧ S' = ⟨envOf [(2, dB false)], ovl [] rest⟩ :=
  loop_of_segs (P := Tryd.prog) (N := 15) (c := loopOf Tryd.prog 14 2) (refL s) (fun _ _ => []) (fun i => i ≤ 14) (fun i => 14 - i) (.exit 0) [(2, dB false)] (fun _ => []) 0 (Nat.zero_le _) (by simp)
    (fun rest i hi => by
      rcases Nat.lt_or_ge i 14 with h | h
      · obtain ⟨x, hx⟩ : ∃ x, wl[i]? = some x := ⟨_, List.getElem?_eq_getElem (show i < 14 from h)⟩
        exact .inl ⟨i + 1, h, by omega, fun X hP hN => refNext s x i h hx (hno i x hx) rest X hP hN⟩
      · have : i = 14 := by omega
        subst this
        exact .inr fun X hP hN => refEnd s rest X hP hN) rest X hP hN
noncomputable def refLT (s : List UInt8) (i0 : Nat) (h0 : wl[i0]? = some s) (hlt : ∀ (j : Nat) (x : List UInt8), j < i0 → wl[j]? = some x → (s == x) = false) : LHint Tryd.prog := ⟨15, loopOf Tryd.prog 14 2, refL s 0, fun _ => [], .ret, [(2, dB true)], fun _ => [], refLoopT s i0 h0 hlt⟩
noncomputable def refLF (s : List UInt8) (hno : ∀ (j : Nat) (x : List UInt8), wl[j]? = some x → (s == x) = false) : LHint Tryd.prog := ⟨15, loopOf Tryd.prog 14 2, refL s 0, fun _ => [], .exit 0, [(2, dB false)], fun _ => [], refLoopF s hno⟩
theorem refT (s : List UInt8) (i0 : Nat) (h0 : wl[i0]? = some s) (hlt : ∀ (j : Nat) (x : List UInt8), j < i0 → wl[j]? = some x → (s == x) = false) : Pure Tryd.prog 14 [.str s] [.bool true] :=
  pure_of_run okP named { loops := fun f r => if f = 14 then (if r = 2 then some (refLT s i0 h0 hlt) else none) else none } 1000 (by kernel_rfl)
theorem refF (s : List UInt8) (hno : ∀ (j : Nat) (x : List UInt8), wl[j]? = some x → (s == x) = false) : Pure Tryd.prog 14 [.str s] [.bool false] :=
  pure_of_run okP named { loops := fun f r => if f = 14 then (if r = 2 then some (refLF s hno) else none) else none } 1000 (by kernel_rfl)

set_option maxRecDepth 100000 in
theorem awakeP : Pure Tryd.prog 11 [] [.bool true] := pure_true okP named (fun _ _ => false) (fun _ => false) 100000 (by kernel_rfl)

noncomputable def lawPr (s : List UInt8) (b : Bool) (h1 : Pure Tryd.prog 13 [.str s] [.bool b]) (h2 : Pure Tryd.prog 14 [.str s] [.bool b]) : Par Tryd.prog :=
  { hint := fun f k => if f = 4 then (if k = 3 then some (.call 11 [] [.bool true] awakeP) else if k = 6 then some (.call 13 [.str s] [.bool b] h1) else if k = 8 then some (.call 14 [.str s] [.bool b] h2) else none) else none }
theorem lawT (s : List UInt8) (h1 : Pure Tryd.prog 13 [.str s] [.bool true]) (h2 : Pure Tryd.prog 14 [.str s] [.bool true]) : Pure Tryd.prog 4 [.str s] [.bool true] :=
  pure_of_run okP named (lawPr s true h1 h2) 1000 (by kernel_rfl)
theorem lawF (s : List UInt8) (h1 : Pure Tryd.prog 13 [.str s] [.bool false]) (h2 : Pure Tryd.prog 14 [.str s] [.bool false]) : Pure Tryd.prog 4 [.str s] [.bool true] :=
  pure_of_run okP named (lawPr s false h1 h2) 1000 (by kernel_rfl)
/-- The law, on data. -/
theorem lexWordsLaw (s : List UInt8) : Pure Tryd.prog 4 [.str s] [.bool true] := by
  rcases findD_words s wl wordsE 0 rfl with ⟨i, g1, g2, g3⟩ | ⟨g1, g2⟩
  · exact lawT s (wordT s (0 + i) g3) (refT s i g1 g2)
  · exact lawF s (wordF s g2) (refF s g1)
end Go.Avm
