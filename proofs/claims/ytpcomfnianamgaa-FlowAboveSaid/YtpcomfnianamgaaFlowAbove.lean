/-
  PROVED HERE: teasellaw05.FlowAbove returns true for every graph, whatever the memory and the order that regions draw. No condition.
-/
import Derived.Test.YtpcomfnianamgaaRows
import Derived.Test.YtpcomfnianamgaaFlAb
import Derived.Test.YtpcomfnianamgaaFlLaid
namespace Go.Proofs.Ytpcomfnianamgaa.flowAbove
open Go.ChangeShapes Go.WideShapes Go.ChangeAt Go.RowKit Go.Avm

theorem own : ownKnob Try.prog.godebug = none := by kernel_rfl
theorem laidOut : laidOutB Try.prog = true := by kernel_rfl

theorem walk (v0 : Value) (l0 : List (List Int)) (I0 : Nat → Nat → Prop) (hl0 : l0.length ≤ 9223372036854775807) (w : World) (hr0 : DRep I0 w (rowsD l0) v0) (hw0 : ∀ b o, I0 b o → b < w.heap.size) : Calls Try.prog 14 #[v0] w fun e w' => e = .returned (.bool true) ∧ Below w.heap.size w w' := by
  refine calls_of_pure (abovePure l0 hl0) (I := fun b o => I0 b o) (fun g cs h => by cases h) (fun b o h => hw0 b o h) rfl ?_
  intro i x u hx hu
  match i with
  | 0 => simp at hx hu; subst hx; subst hu; exact hr0
  | i + 1 => simp at hx

set_option maxRecDepth 100000 in
theorem lifted (os : Os) (started : os.Started) (H : Type) (enc : TypeId × Value → H) :
    ReturnsInHanded {} Try.checked os 14 .any (Rows.flowAboveSpec.pre6 enc Try.prog Try.f14 Rows.flowAboveRow.domain false) (Rows.flowAboveSpec.post enc Try.prog Try.f14 false true false false) := by
  refine returnsInHanded_of_change (C := Try.checked) own started (by kernel_rfl) Try.func14
    (ChangeSpec.witness6 (enc := enc) (C := Try.checked) false ⟨#[], #[.slice none 0 0], []⟩ 8 (by kernel_rfl) (by kernel_rfl) (by kernel_rfl) (by kernel_rfl)) ?_
  intro W base args ds gs before hval0 hW hcnd _
  have hval : ∀ (j : Nat) t v, Try.f14.params[j]? = some t → args[j]? = some v → Value.okWide Try.prog W .any base t v := hval0
  have hW' := hW
  obtain ⟨p, q, hA0, hV, rfl, hfz, hnd⟩ := hW
  have hA : DataW.TrodAll enc Try.prog W 0 (fun _ => true) true Try.f14.params.toList args.toList ds p := hA0
  rw [Try.params14] at hA hval
  obtain ⟨v0, vs0, d0, ds0, p0, q0, hargs0, rfl, rfl, h0, r0⟩ := trodAll_cons hA
  obtain ⟨rfl, rfl, rfl⟩ := trodAll_nil r0
  obtain rfl : args = #[v0] := by cases args; simp_all
  obtain ⟨rfl, rfl⟩ := trodVars_none hV
  obtain ⟨l0, I0, hl0, hr0, hw0⟩ := rowsArg (hval 0 47 v0 rfl rfl) h0
  refine (walk v0 l0 I0 hl0 W hr0 hw0).mono fun e W' ⟨he, hg⟩ => ?_
  subst he
  exact ⟨_, rfl, law_post (tb := 4) laidOut rfl rfl (by kernel_rfl) Try.underlying4 (fun t ht => by
    rw [Try.params14] at ht
    simp at ht
    subst ht
    exact ⟨by kernel_rfl, of_decide_eq_true (by kernel_rfl)⟩) hW' hg⟩

theorem over : Rows.flowAboveRow.holds Try.pinned (OpenSpec.ofChange Rows.flowAboveSpec) :=
  OpenClaim.holds_of_wide 14 Try.f14 rfl rfl rfl rfl rfl rfl rfl ⟨rfl, rfl, rfl, rfl, rfl⟩ rfl rfl rfl rfl rfl (by kernel_rfl) Try.func14 (by kernel_rfl)
    (of_decide_eq_true (by kernel_rfl)) (by unfold Func.isWrapper; first | (rw [if_pos (by decide +kernel)]; kernel_rfl) | (rw [if_neg (by decide +kernel)]; exact ⟨rfl, rfl⟩))
    (fun os started H enc _ => lifted os started H enc)

/-- The statement. -/
theorem proved : Rows.FlowAboveSaid :=
  over
#print axioms proved
end Go.Proofs.Ytpcomfnianamgaa.flowAbove
