/-
  The scanner of texts, part L: the rounds of lex.Scan.
-/
import Derived.Test.YtdmjbpkdngmgkaaDoorLexK
set_option linter.unusedSectionVars false
namespace Go.Avm
open Go.Proofs

section
variable {X : Fix} {c : Code} {S S' : St} {Q : Exit → St → Prop}
theorem LW.weak (hw : Weak X S S') (h : LW X c S' Q) : LW X c S Q := fun G a w hh => by
  obtain ⟨G1, e1, h1⟩ := hw G a w hh
  exact loopGoes_mono (h G1 a w h1) fun e a' w' ⟨S', G', q, e2, r⟩ => ⟨S', G', q, e1.trans e2, r⟩
theorem lw_seg {S1 : St} (h : AW X c S fun e' S' => e' = .normal ∧ Weak X S' S1) (hl : LW X c S1 Q) : LW X c S Q :=
  lw_round (h.mono fun e' S' ⟨he, hw⟩ => by subst he; exact hl.weak hw)
theorem lw_end {S2 : St} {e : Exit} (h : AW X c S fun e' S' => e' = e ∧ Weak X S' S2) (he : e ≠ .normal) : LW X c S fun e' S' => e' = e ∧ S' = S2 :=
  lw_round (aw_post (h.mono fun e' S' ⟨h1, hw⟩ => ⟨S2, hw, by
    subst h1
    cases e' with
    | normal => exact absurd rfl he
    | _ => exact ⟨rfl, rfl⟩⟩))
end

/-- The tokens from here on (where no blank is), or the first fault. -/
def scanB : Nat → List UInt8 → Nat → Except (Nat × Int) (List (Nat × Tok))
  | 0, _, _ => .ok []
  | _ + 1, [], _ => .ok []
  | n + 1, b :: r, a => match tokL (b :: r) with
    | .error k => .error (a, k)
    | .ok t => match scanB n (((b :: r).drop t.2.1.length).drop (skipN false ((b :: r).drop t.2.1.length))) (a + t.2.1.length + skipN false ((b :: r).drop t.2.1.length)) with
      | .error e => .error e
      | .ok ts => .ok ((a, t) :: ts)
def scanF (s : List UInt8) : Except (Nat × Int) (List (Nat × Tok)) := scanB (s.length + 1) (s.drop (skipN false s)) (skipN false s)
def tokOf (x : Nat × Tok) : D := tokD x.2.1 x.1 x.2.2.1 x.2.2.2

def scL (s : List UInt8) : List (Nat × AV) := [(0, .d (.str s)), (5, scP)]
section
variable (w w1 : Bool) (s : List UInt8) (a v m : Nat) (l : List D)
noncomputable def rdPr (ha : a < s.length) (a1 v1 m1 : Nat) (l1 : List D) (k : Int) (z : Bool) (hz : (k != 0) = z) (hlen : s.length ≤ 100000) (ha1 : a1 ≤ s.length) (hc : ∀ rest : Heap, HCall Tryd.prog 16 [scP] (ovl (stE w s a v m l) rest) [dI k] (ovl (stE w1 s a1 v1 m1 l1) rest)) : Par Tryd.prog :=
  { hint := fun f' i => if f' = 9 then (if i = 21 then some (hLt Tryd.prog a s.length true (by simpa using ha)) else if i = 27 then some (hB Tryd.prog _ z hz) else none) else none
    calls := fun f' i _ => if f' = 9 then (if i = 25 then some ⟨16, [scP], stE w s a v m l, [dI k], stE w1 s a1 v1 m1 l1, fits_of hc⟩ else if i = 23 then some (blankSt w1 s a1 v1 l1 hlen ha1) else none) else none }
theorem scanNext (ha : a < s.length) (a1 v1 m1 : Nat) (l1 : List D) (hlen : s.length ≤ 100000) (ha1 : a1 ≤ s.length) (hc : ∀ rest : Heap, HCall Tryd.prog 16 [scP] (ovl (stE w s a v m l) rest) [dI 0] (ovl (stE w1 s a1 v1 m1 l1) rest)) (rest : Heap) (X : Fix) (hP : X.P = Tryd.prog) (hN : X.N = 39) :
    AW X (loopOf Tryd.prog 9 5) ⟨envOf (scL s), ovl (stE w s a v m l) rest⟩ fun e' S' => e' = .normal ∧ Weak X S' ⟨envOf (scL s), ovl (stE w1 s (blankTo s a1) v1 m1 l1) rest⟩ := by
  cases w with
  | false => cases w1 with
    | false => exact seg okP named (rdPr false false s a v m l ha a1 v1 m1 l1 0 false rfl hlen ha1 hc) 1000 9 300000 39 (by kernel_rfl) X hP hN
    | true => exact seg okP named (rdPr false true s a v m l ha a1 v1 m1 l1 0 false rfl hlen ha1 hc) 1000 9 300000 39 (by kernel_rfl) X hP hN
  | true => cases w1 with
    | false => exact seg okP named (rdPr true false s a v m l ha a1 v1 m1 l1 0 false rfl hlen ha1 hc) 1000 9 300000 39 (by kernel_rfl) X hP hN
    | true => exact seg okP named (rdPr true true s a v m l ha a1 v1 m1 l1 0 false rfl hlen ha1 hc) 1000 9 300000 39 (by kernel_rfl) X hP hN
theorem scanErr (ha : a < s.length) (m1 : Nat) (k : Int) (hk : k ≠ 0) (hlen : s.length ≤ 100000) (hc : ∀ rest : Heap, HCall Tryd.prog 16 [scP] (ovl (stE w s a v m l) rest) [dI k] (ovl (stE w1 s a v m1 l) rest)) (rest : Heap) (X : Fix) (hP : X.P = Tryd.prog) (hN : X.N = 39) :
    AW X (loopOf Tryd.prog 9 5) ⟨envOf (scL s), ovl (stE w s a v m l) rest⟩ fun e' S' => e' = .ret ∧ Weak X S' ⟨envOf [(2, .nils), (3, dN a), (4, dI k)], ovl (stE w1 s a v m1 l) rest⟩ := by
  cases w with
  | false => cases w1 with
    | false => exact seg okP named (rdPr false false s a v m l ha a v m1 l k true (by simpa using hk) hlen (by omega) hc) 1000 9 300000 39 (by kernel_rfl) X hP hN
    | true => exact seg okP named (rdPr false true s a v m l ha a v m1 l k true (by simpa using hk) hlen (by omega) hc) 1000 9 300000 39 (by kernel_rfl) X hP hN
  | true => cases w1 with
    | false => exact seg okP named (rdPr true false s a v m l ha a v m1 l k true (by simpa using hk) hlen (by omega) hc) 1000 9 300000 39 (by kernel_rfl) X hP hN
    | true => exact seg okP named (rdPr true true s a v m l ha a v m1 l k true (by simpa using hk) hlen (by omega) hc) 1000 9 300000 39 (by kernel_rfl) X hP hN
theorem scanStop (rest : Heap) (X : Fix) (hP : X.P = Tryd.prog) (hN : X.N = 39) :
    AW X (loopOf Tryd.prog 9 5) ⟨envOf (scL s), ovl (stE w s s.length v m l) rest⟩ fun e' S' => e' = .exit 0 ∧ Weak X S' ⟨envOf (scL s), ovl (stE w s s.length v m l) rest⟩ := by
  cases w with
  | false => exact seg okP named { hint := fun f' k => if f' = 9 then (if k = 21 then some (hLt Tryd.prog s.length s.length false (by simp)) else none) else none } 1000 9 300000 39 (by kernel_rfl) X hP hN
  | true => exact seg okP named { hint := fun f' k => if f' = 9 then (if k = 21 then some (hLt Tryd.prog s.length s.length false (by simp)) else none) else none } 1000 9 300000 39 (by kernel_rfl) X hP hN
end
end Go.Avm
