/-
  PROVED HERE: teasellaw06.CodeShapes returns true for every Op, whatever the memory and the order that regions draw. No condition.
-/
import Derived.Test.YtecncapbehdkjaaRows
import Derived.Test.YtecncapbehdkjaaAvmQ
namespace Go.Proofs.Ytecncapbehdkjaa.codeShapes
open Go.ChangeShapes Go.WideShapes Go.ChangeAt Go.RowKit Go.Avm

theorem own : ownKnob Try.prog.godebug = none := by kernel_rfl
theorem laidOut : laidOutB Try.prog = true := by kernel_rfl
theorem named : namedB Try.prog = true := by kernel_rfl

theorem all_ops : (List.range 256).all (fun n => isTrue (callDE Try.prog (execE Try.prog (fun _ _ => false) (fun _ => false) 100000) 4 [.int .u8 (n : Int)])) = true := by kernel_rfl

theorem law (a : Int) (h0 : 0 ≤ a) (h1 : a < 256) : Pure Try.prog 4 [.int .u8 a] [.bool true] := by
  have h := List.all_eq_true.1 all_ops a.toNat (List.mem_range.2 (by omega))
  have hc : ((a.toNat : Nat) : Int) = a := Int.toNat_of_nonneg h0
  rw [hc] at h
  exact pure_true Try.checked.mixed named _ _ _ h

theorem walk (a0 : Int) (w0 : (Lit.int .u8 a0).wf = true) (w : World) :
    Calls Try.prog 4 #[.int .u8 a0] w fun e w' => e = .returned (.bool true) ∧ Below w.heap.size w w' := by
  have hw : 0 ≤ a0 ∧ a0 < 256 := by
    simp [Lit.wf, IntKind.min, IntKind.max, IntKind.signed, IntKind.bits] at w0
    omega
  refine calls_of_pure (law a0 hw.1 hw.2) (I := fun _ _ => False) (fun _ _ h => h.elim) rfl ?_
  intro i x u hx hu
  cases i with
  | zero => simp at hx hu; subst hx; subst hu; exact .int _ _
  | succ i => simp at hx

set_option maxRecDepth 100000 in
theorem lifted (os : Os) (started : os.Started) (H : Type) (enc : TypeId × Value → H) :
    ReturnsInHanded {} Try.checked os 4 .any (Rows.codeShapesSpec.pre6 enc Try.prog Try.f4 Rows.codeShapesRow.domain false) (Rows.codeShapesSpec.post enc Try.prog Try.f4 false true false false) := by
  refine returnsInHanded_of_change (C := Try.checked) own started (by kernel_rfl) Try.func4
    (ChangeSpec.witness6 (enc := enc) (C := Try.checked) false ⟨#[], #[.int .u8 0], []⟩ 8 (by kernel_rfl) (by kernel_rfl) (by kernel_rfl) (by kernel_rfl)) ?_
  intro W base args ds gs before hval0 hW hcnd _
  have hval : ∀ (j : Nat) t v, Try.f4.params[j]? = some t → args[j]? = some v → Value.okWide Try.prog W .any base t v := hval0
  have hW' := hW
  obtain ⟨p, q, hA0, hV, rfl, hfz, hnd⟩ := hW
  have hA : DataW.TrodAll enc Try.prog W 0 (fun _ => true) true Try.f4.params.toList args.toList ds p := hA0
  rw [Try.params4] at hA hval
  obtain ⟨v0, vs0, d0, ds0, p0, q0, hargs, rfl, rfl, h0, r0⟩ := trodAll_cons hA
  obtain ⟨rfl, rfl, rfl⟩ := trodAll_nil r0
  obtain rfl : args = #[v0] := by cases args; simp_all
  obtain ⟨rfl, rfl⟩ := trodVars_none hV
  obtain ⟨a0, rfl, rfl, rfl, w0⟩ := open_int Try.underlying5 (hval 0 5 v0 rfl rfl) h0
  refine (walk a0 w0 W).mono fun e W' ⟨he, hg⟩ => ?_
  subst he
  exact ⟨_, rfl, law_post (tb := 4) laidOut rfl rfl (by kernel_rfl) Try.underlying4 (fun t ht => by
    rw [Try.params4] at ht
    simp at ht
    subst ht
    exact ⟨by kernel_rfl, of_decide_eq_true (by kernel_rfl)⟩) hW' hg⟩

theorem over : Rows.codeShapesRow.holds Try.pinned (OpenSpec.ofChange Rows.codeShapesSpec) :=
  OpenClaim.holds_of_wide 4 Try.f4 rfl rfl rfl rfl rfl rfl rfl ⟨rfl, rfl, rfl, rfl, rfl⟩ rfl rfl rfl rfl rfl (by kernel_rfl) Try.func4 (by kernel_rfl)
    (of_decide_eq_true (by kernel_rfl)) (by unfold Func.isWrapper; first | (rw [if_pos (by decide +kernel)]; kernel_rfl) | (rw [if_neg (by decide +kernel)]; exact ⟨rfl, rfl⟩))
    (fun os started H enc _ => lifted os started H enc)

/-- The statement. -/
theorem proved : Rows.CodeShapesSaid :=
  over
#print axioms proved
end Go.Proofs.Ytecncapbehdkjaa.codeShapes
