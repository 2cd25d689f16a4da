/-
  PROVED HERE: teasellaw06.CodeLimits returns true for every byte, whatever the memory and the order that regions draw. No condition.
-/
import Derived.Test.YtecncapbehdkjaaRows
import Derived.Test.YtecncapbehdkjaaLimE
namespace Go.Proofs.Ytecncapbehdkjaa.codeLimits
open Go.ChangeShapes Go.WideShapes Go.ChangeAt Go.RowKit Go.Avm

theorem own : ownKnob Try.prog.godebug = none := by kernel_rfl
theorem laidOut : laidOutB Try.prog = true := by kernel_rfl
set_option maxRecDepth 100000 in
theorem small (a0 : Int) (m W : Nat) (hm : m ≤ 100000) (hW : W + 1 ≤ 60000) (hm2 : m + 1 ≤ 40000) (h0 : 0 ≤ a0.tmod 10) (h2 : a0.tmod 10 < 10) (h3 : ((39995 : Nat) : Int) + a0.tmod 10 = ((m + 1 : Nat) : Int)) (h4 : ((59995 : Nat) : Int) + a0.tmod 10 = ((W + 1 : Nat) : Int)) :
    Pure Try.prog 5 [.int .u8 a0] [.bool true] :=
  pure_of_run mixed named (lawPr a0 m W hm false 0 0 h0 h2 h3 h4 (checkD W hW) (checkC m hm hm2) (by simp; omega) (by simp; omega) (by simp; omega)) 1000 (by kernel_rfl)
set_option maxRecDepth 100000 in
theorem great (a0 : Int) (m W : Nat) (hm : m ≤ 100000) (hW : W + 1 ≤ 100000) (hW2 : 60000 < W + 1) (hm2 : 40000 < m + 1) (h0 : 0 ≤ a0.tmod 10) (h2 : a0.tmod 10 < 10) (h3 : ((39995 : Nat) : Int) + a0.tmod 10 = ((m + 1 : Nat) : Int)) (h4 : ((59995 : Nat) : Int) + a0.tmod 10 = ((W + 1 : Nat) : Int)) :
    Pure Try.prog 5 [.int .u8 a0] [.bool true] :=
  pure_of_run mixed named (lawPr a0 m W hm true 3 15 h0 h2 h3 h4 (checkD' W hW hW2) (checkC' m hm hm2) (by simp; omega) (by simp; omega) (by simp; omega)) 1000 (by kernel_rfl)
theorem law (a : Int) (h0 : 0 ≤ a) : Pure Try.prog 5 [.int .u8 a] [.bool true] := by
  have e : a.tmod 10 = a % 10 := Int.tmod_eq_emod_of_nonneg h0
  have g0 : 0 ≤ a.tmod 10 := by rw [e]; omega
  have g1 : a.tmod 10 < 10 := by rw [e]; omega
  obtain ⟨r, hr⟩ := Int.eq_ofNat_of_zero_le g0
  by_cases h5 : r ≤ 5
  · exact small a (39994 + r) (59994 + r) (by omega) (by omega) (by omega) g0 g1 (by omega) (by omega)
  · exact great a (39994 + r) (59994 + r) (by omega) (by omega) (by omega) (by omega) g0 g1 (by omega) (by omega)

theorem walk (a0 : Int) (w0 : (Lit.int .u8 a0).wf = true) (w : World) :
    Calls Try.prog 5 #[.int .u8 a0] w fun e w' => e = .returned (.bool true) ∧ Below w.heap.size w w' := by
  have hw : 0 ≤ a0 ∧ a0 < 256 := by
    simp [Lit.wf, IntKind.min, IntKind.max, IntKind.signed, IntKind.bits] at w0
    omega
  refine calls_of_pure (law a0 hw.1) (I := fun _ _ => False) (fun _ _ h => h.elim) rfl ?_
  intro i x u hx hu
  cases i with
  | zero => simp at hx hu; subst hx; subst hu; exact .int _ _
  | succ i => simp at hx

set_option maxRecDepth 100000 in
theorem lifted (os : Os) (started : os.Started) (H : Type) (enc : TypeId × Value → H) :
    ReturnsInHanded {} Try.checked os 5 .any (Rows.codeLimitsSpec.pre6 enc Try.prog Try.f5 Rows.codeLimitsRow.domain false) (Rows.codeLimitsSpec.post enc Try.prog Try.f5 false true false false) := by
  refine returnsInHanded_of_change (C := Try.checked) own started (by kernel_rfl) Try.func5
    (ChangeSpec.witness6 (enc := enc) (C := Try.checked) false ⟨#[], #[.int .u8 0], []⟩ 8 (by kernel_rfl) (by kernel_rfl) (by kernel_rfl) (by kernel_rfl)) ?_
  intro W base args ds gs before hval0 hW hcnd _
  have hval : ∀ (j : Nat) t v, Try.f5.params[j]? = some t → args[j]? = some v → Value.okWide Try.prog W .any base t v := hval0
  have hW' := hW
  obtain ⟨p, q, hA0, hV, rfl, hfz, hnd⟩ := hW
  have hA : DataW.TrodAll enc Try.prog W 0 (fun _ => true) true Try.f5.params.toList args.toList ds p := hA0
  rw [Try.params5] at hA hval
  obtain ⟨v0, vs0, d0, ds0, p0, q0, hargs, rfl, rfl, h0, r0⟩ := trodAll_cons hA
  obtain ⟨rfl, rfl, rfl⟩ := trodAll_nil r0
  obtain rfl : args = #[v0] := by cases args; simp_all
  obtain ⟨rfl, rfl⟩ := trodVars_none hV
  obtain ⟨a0, rfl, rfl, rfl, w0⟩ := open_int Try.underlying5 (hval 0 5 v0 rfl rfl) h0
  refine (walk a0 w0 W).mono fun e W' ⟨he, hg⟩ => ?_
  subst he
  exact ⟨_, rfl, law_post (tb := 4) laidOut rfl rfl (by kernel_rfl) Try.underlying4 (fun t ht => by
    rw [Try.params5] at ht
    simp at ht
    subst ht
    exact ⟨by kernel_rfl, of_decide_eq_true (by kernel_rfl)⟩) hW' hg⟩

theorem over : Rows.codeLimitsRow.holds Try.pinned (OpenSpec.ofChange Rows.codeLimitsSpec) :=
  OpenClaim.holds_of_wide 5 Try.f5 rfl rfl rfl rfl rfl rfl rfl ⟨rfl, rfl, rfl, rfl, rfl⟩ rfl rfl rfl rfl rfl (by kernel_rfl) Try.func5 (by kernel_rfl)
    (of_decide_eq_true (by kernel_rfl)) (by unfold Func.isWrapper; first | (rw [if_pos (by decide +kernel)]; kernel_rfl) | (rw [if_neg (by decide +kernel)]; exact ⟨rfl, rfl⟩))
    (fun os started H enc _ => lifted os started H enc)

/-- The statement. -/
theorem proved : Rows.CodeLimitsSaid :=
  over
#print axioms proved
end Go.Proofs.Ytecncapbehdkjaa.codeLimits
