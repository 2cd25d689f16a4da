/-
  PROVED HERE: teasellaw17.PaintPaints returns true for all numbers and all pairs, whatever the memory and the order that regions draw. No condition.
-/
import Derived.Test.YtpcomfnianamgaaRows
import Derived.Test.YtpcomfnianamgaaPg
import Derived.Test.YtpcomfnianamgaaPaLaid
namespace Go.Proofs.Ytpcomfnianamgaa.paintPaints
open Go.ChangeShapes Go.WideShapes Go.ChangeAt Go.RowKit Go.Avm

theorem own : ownKnob Try.prog.godebug = none := by kernel_rfl
theorem laidOut : laidOutB Try.prog = true := by kernel_rfl

theorem walk (a0 : Int) (w0 : (Lit.int .i64 a0).wf = true) (v1 : Value) (l1 : List (Int × Int)) (I1 : Nat → Nat → Prop) (hl1 : l1.length ≤ 9223372036854775807) (v2 : Value) (l2 : List (Int × Int)) (I2 : Nat → Nat → Prop) (hl2 : l2.length ≤ 9223372036854775807) (a3 : Int) (w3 : (Lit.int .i64 a3).wf = true) (w : World) (hr1 : DRep I1 w (.ro (l1.map pairD)) v1) (hw1 : ∀ b o, I1 b o → b < w.heap.size) (hr2 : DRep I2 w (.ro (l2.map pairD)) v2) (hw2 : ∀ b o, I2 b o → b < w.heap.size) : Calls Try.prog 6 #[.int .i64 a0, v1, v2, .int .i64 a3] w fun e w' => e = .returned (.bool true) ∧ Below w.heap.size w w' := by
  have ⟨b0, c0⟩ : -9223372036854775808 ≤ a0 ∧ a0 ≤ 9223372036854775807 := by
    simp [Lit.wf, IntKind.min, IntKind.max, IntKind.signed, IntKind.bits] at w0
    omega
  have ⟨b3, c3⟩ : -9223372036854775808 ≤ a3 ∧ a3 ≤ 9223372036854775807 := by
    simp [Lit.wf, IntKind.min, IntKind.max, IntKind.signed, IntKind.bits] at w3
    omega
  refine calls_of_pure (paintsPure a0 a3 l1 l2) (I := fun b o => I1 b o ∨ I2 b o) (fun g cs h => by cases h) (fun b o h => h.elim (hw1 b o) (hw2 b o)) rfl ?_
  intro i x u hx hu
  match i with
  | 0 => simp at hx hu; subst hx; subst hu; exact .int _ _
  | 1 => simp at hx hu; subst hx; subst hu; exact hr1.mono (fun _ _ x => .inl x) (fun _ _ _ => rfl)
  | 2 => simp at hx hu; subst hx; subst hu; exact hr2.mono (fun _ _ x => .inr x) (fun _ _ _ => rfl)
  | 3 => simp at hx hu; subst hx; subst hu; exact .int _ _
  | i + 4 => simp at hx

set_option maxRecDepth 100000 in
theorem lifted (os : Os) (started : os.Started) (H : Type) (enc : TypeId × Value → H) :
    ReturnsInHanded {} Try.checked os 6 .any (Rows.paintPaintsSpec.pre6 enc Try.prog Try.f6 Rows.paintPaintsRow.domain false) (Rows.paintPaintsSpec.post enc Try.prog Try.f6 false true false false) := by
  refine returnsInHanded_of_change (C := Try.checked) own started (by kernel_rfl) Try.func6
    (ChangeSpec.witness6 (enc := enc) (C := Try.checked) false ⟨#[], #[.int .i64 0, .slice none 0 0, .slice none 0 0, .int .i64 0], []⟩ 8 (by kernel_rfl) (by kernel_rfl) (by kernel_rfl) (by kernel_rfl)) ?_
  intro W base args ds gs before hval0 hW hcnd _
  have hval : ∀ (j : Nat) t v, Try.f6.params[j]? = some t → args[j]? = some v → Value.okWide Try.prog W .any base t v := hval0
  have hW' := hW
  obtain ⟨p, q, hA0, hV, rfl, hfz, hnd⟩ := hW
  have hA : DataW.TrodAll enc Try.prog W 0 (fun _ => true) true Try.f6.params.toList args.toList ds p := hA0
  rw [Try.params6] at hA hval
  obtain ⟨v0, vs0, d0, ds0, p0, q0, hargs0, rfl, rfl, h0, r0⟩ := trodAll_cons hA
  obtain ⟨v1, vs1, d1, ds1, p1, q1, hargs1, rfl, rfl, h1, r1⟩ := trodAll_cons r0
  obtain ⟨v2, vs2, d2, ds2, p2, q2, hargs2, rfl, rfl, h2, r2⟩ := trodAll_cons r1
  obtain ⟨v3, vs3, d3, ds3, p3, q3, hargs3, rfl, rfl, h3, r3⟩ := trodAll_cons r2
  obtain ⟨rfl, rfl, rfl⟩ := trodAll_nil r3
  subst hargs3
  subst hargs2
  subst hargs1
  obtain rfl : args = #[v0, v1, v2, v3] := by cases args; simp_all
  obtain ⟨rfl, rfl⟩ := trodVars_none hV
  obtain ⟨a0, rfl, rfl, rfl, w0⟩ := open_int Try.underlying3 (hval 0 3 v0 rfl rfl) h0
  obtain ⟨l1, I1, hl1, hr1, hw1⟩ := pairsArg (hval 1 56 v1 rfl rfl) h1
  obtain ⟨l2, I2, hl2, hr2, hw2⟩ := pairsArg (hval 2 56 v2 rfl rfl) h2
  obtain ⟨a3, rfl, rfl, rfl, w3⟩ := open_int Try.underlying3 (hval 3 3 v3 rfl rfl) h3
  refine (walk a0 w0 v1 l1 I1 hl1 v2 l2 I2 hl2 a3 w3 W hr1 hw1 hr2 hw2).mono fun e W' ⟨he, hg⟩ => ?_
  subst he
  exact ⟨_, rfl, law_post (tb := 4) laidOut rfl rfl (by kernel_rfl) Try.underlying4 (fun t ht => by
    rw [Try.params6] at ht
    simp at ht
    have hm : t = 3 ∨ t = 56 := by
      rcases ht with rfl | rfl | rfl | rfl <;> decide
    rcases hm with rfl | rfl
    · exact ⟨by kernel_rfl, of_decide_eq_true (by kernel_rfl)⟩
    · exact ⟨by kernel_rfl, of_decide_eq_true (by kernel_rfl)⟩) hW' hg⟩

theorem over : Rows.paintPaintsRow.holds Try.pinned (OpenSpec.ofChange Rows.paintPaintsSpec) :=
  OpenClaim.holds_of_wide 6 Try.f6 rfl rfl rfl rfl rfl rfl rfl ⟨rfl, rfl, rfl, rfl, rfl⟩ rfl rfl rfl rfl rfl (by kernel_rfl) Try.func6 (by kernel_rfl)
    (of_decide_eq_true (by kernel_rfl)) (by unfold Func.isWrapper; first | (rw [if_pos (by decide +kernel)]; kernel_rfl) | (rw [if_neg (by decide +kernel)]; exact ⟨rfl, rfl⟩))
    (fun os started H enc _ => lifted os started H enc)

/-- The statement. -/
theorem proved : Rows.PaintPaintsSaid :=
  over
#print axioms proved
end Go.Proofs.Ytpcomfnianamgaa.paintPaints
