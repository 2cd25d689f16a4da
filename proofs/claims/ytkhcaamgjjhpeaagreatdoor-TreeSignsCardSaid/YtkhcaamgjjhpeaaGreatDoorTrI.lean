/-
  Texts as programs: what the reader makes of expressions, whatever the tokens.
-/
import Derived.Test.YtkhcaamgjjhpeaaGreatDoorTrG
set_option linter.unusedSectionVars false
namespace Go.Avm
open Go.Proofs

def ArC (L : List T) (nm : List UInt8) (p : Int) (s : RS) : Res (List Ex) → Prop
  | .ok r s' => s'.i < L.length ∧ ∀ rest : Heap, HCall Tryz.prog 36 [rP, clo] (ovl (rd L s ++ acc0 nm p) rest) ([].map .d) (ovl (rd L s' ++ accE nm p r) rest)
  | .bad q t s' => ∃ v, ∀ rest : Heap, HPan Tryz.prog 36 [rP, clo] (ovl (rd L s ++ acc0 nm p) rest) (flt q t) (ovl (rd L s' ++ accB v) rest)
  | .out => True
abbrev eR : Ex → List D := fun e => [exD e]
structure ExAll (L : List T) (n : Nat) : Prop where
  one : ∀ s : RS, s.i < L.length → RC L 99 [rP] eR s (sOne L n s)
  place : ∀ s : RS, s.i < L.length → RC L 102 [rP] eR s (sPlace L n s)
  call : ∀ (nm : List UInt8) (p : Int) (s : RS), s.i < L.length → RC L 101 [rP, .d (.str nm), dI p] eR s (sCall L n nm p s)
  expr : ∀ (k : Int) (s : RS), s.i < L.length → RC L 77 [rP, dI k] eR s (sExpr L n k s)
  tail : ∀ (k : Int) (e : Ex) (s : RS), s.i < L.length → TlAt L k s e (sTail L n k e s)
  args : ∀ (nm : List UInt8) (p : Int) (s : RS), s.i < L.length → ArC L nm p s (sArgs L n s)
  more : ∀ (nm : List UInt8) (p : Int) (r : List Ex) (s : RS), s.i < L.length → r.length ≤ s.i → r ≠ [] → LiAt L nm p s r (sMore L n r s)
theorem argsStep {L : List T} (hL : Toks L) {n : Nat} (h : ExAll L n) (nm : List UInt8) (p : Int) (s : RS) (l : s.i < L.length) : ArC L nm p s (sArgs L (n + 1) s) := by
  simp only [sArgs]
  have c1 := wantR l hL [40]
  have g1 := want_gr L [40] s
  revert c1 g1
  cases sWant L [40] s with
  | out => exact fun _ _ => trivial
  | bad q t s1 => exact fun c1 _ => ⟨0, liP1 nm p c1⟩
  | ok t1 s1 =>
    intro c1 g1
    have g1 := g1 t1 s1 rfl
    have l1 := c1.1
    simp only [Res.bind]
    cases h41 : isT L s1 [41] with
    | true =>
      have c2 := wantR l1 hL [41]
      simp only [cond_true]
      revert c2
      cases sWant L [41] s1 with
      | out => exact fun _ => trivial
      | bad q t s2 => exact fun c2 => ⟨0, liE1 nm p l1 c1.2 h41 c2⟩
      | ok t2 s2 => exact fun c2 => ⟨c2.1, liE0 nm p l1 c1.2 h41 c2.2⟩
    | false =>
      have c2 := h.expr 1 s1 l1
      have g2 := exprGrows L n 1 s1
      simp only [cond_false]
      revert c2 g2
      cases sExpr L n 1 s1 with
      | out => exact fun _ _ => trivial
      | bad q t s2 => exact fun c2 _ => ⟨0, liB1 nm p l1 c1.2 h41 (cloP0 nm p q t s2 c2)⟩
      | ok e s2 =>
        intro c2 g2
        have g2 := g2 e s2 rfl
        have k2 := clo0 nm p e s2 c2.2
        have c3 := h.more nm p [e] s2 c2.1 (by simp only [List.length_cons, List.length_nil]; omega) (by simp)
        simp only
        revert c3
        cases sMore L n [e] s2 with
        | out => exact fun _ => trivial
        | bad q t s3 => exact fun ⟨v, c3⟩ => ⟨v, liB2 nm p l1 c1.2 h41 e k2 v c3⟩
        | ok r s3 =>
          rintro ⟨l3, hne, c3⟩
          have c4 := wantR l3 hL [41]
          simp only
          revert c4
          cases sWant L [41] s3 with
          | out => exact fun _ => trivial
          | bad q t s4 => exact fun c4 => ⟨_, liB3 nm p l1 c1.2 h41 e k2 r c3 c4⟩
          | ok t4 s4 =>
            intro c4
            have hr : accE nm p r = accN nm p r := by
              cases r with
              | nil => exact absurd rfl hne
              | cons a b => rfl
            refine ⟨c4.1, ?_⟩
            rw [hr]
            exact liOk nm p l1 c1.2 h41 e k2 r c3 c4.2
theorem callStep {L : List T} {n : Nat} (h : ExAll L n) (nm : List UInt8) (p : Int) (s : RS) (l : s.i < L.length) : RC L 101 [rP, .d (.str nm), dI p] eR s (sCall L (n + 1) nm p s) := by
  simp only [sCall]
  have c := h.args nm p s l
  revert c
  cases sArgs L n s with
  | out => exact fun _ => trivial
  | bad q t s1 => exact fun ⟨v, c⟩ => caBad nm p v c
  | ok r s1 =>
    intro c
    refine ⟨c.1, ?_⟩
    cases r with
    | nil => exact caOk0 nm p c.2
    | cons a b => exact caOkN nm p (a :: b) c.2
theorem exAll {L : List T} (hL : Toks L) : ∀ n, ExAll L n
  | 0 => ⟨fun _ _ => trivial, fun _ _ => trivial, fun _ _ _ _ => trivial, fun _ _ _ => trivial, fun _ _ _ _ => trivial, fun _ _ _ _ => trivial, fun _ _ _ _ _ _ _ => trivial⟩
  | n + 1 => by
    have h := exAll hL n
    exact ⟨oneStep hL n h.one h.expr h.place h.call, placeStep hL n h.expr, callStep h, exprStep hL n h.one h.tail, tailStep hL n h.expr h.tail, argsStep hL h, fun nm p => moreStep hL nm p n h.expr (h.more nm p)⟩
end Go.Avm
