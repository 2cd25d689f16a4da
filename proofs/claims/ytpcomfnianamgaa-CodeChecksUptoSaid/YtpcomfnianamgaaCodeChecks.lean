/-
  PROVED HERE: teasellaw06.CodeChecks returns true for all code, whatever the memory and the order that regions draw, where the arguments are of bulk at most 1048576 (the second form).
-/
import Derived.Test.YtpcomfnianamgaaRows
import Derived.Test.YtpcomfnianamgaaG12
import Derived.WalkKit
import Derived.ProofKit
import Derived.OpenShut
import Derived.JoinedCond
namespace Go.Proofs.Ytpcomfnianamgaa.codeChecks
open Go.ChangeShapes Go.WideShapes Go.ChangeAt Go.RowKit Go.Avm
theorem own : ownKnob Pg.godebug = none := by kernel_rfl
theorem laidOut : laidOutB Pg = true := by kernel_rfl
theorem walk (v0 : Value) (c0 : CodeR) (I0 : Nat → Nat → Prop) (hw0 : ∀ f ∈ c0.funs, wfF f) (hz0 : szAll c0 ≤ 1048576) (w : World) (hr0 : DRep I0 w (codeD c0) v0) (hl0 : ∀ b o, I0 b o → b < w.heap.size) : Calls Pg 3 #[v0] w fun e w' => e = .returned (.bool true) ∧ Below w.heap.size w w' := by
 refine calls_of_pure (checksPure c0 hw0 hz0) (I := I0) (fun g cs h => by cases h) hl0 rfl ?_
 intro i x u hx hu
 match i with
 | 0 => simp at hx hu; subst hx; subst hu; exact hr0
 | i + 1 => simp at hx
set_option maxRecDepth 100000 in
theorem contract (H : Type) (enc : TypeId × Value → H) (W : World) (base : Nat) (args : Array Value) (ds gs : List (DataW H)) (before : List MemPlace)
    (hval0 : ∀ (j : Nat) t v, Try.f3.params[j]? = some t → args[j]? = some v → Value.okWide Pg W .any base t v)
    (hW : DataW.Whole enc Pg Try.f3.params.toList Rows.codeChecksSpec.vars false W args.toList ds gs before) (hk : Rows.uptoSmall H (ds ++ gs) = true) :
    Calls Pg 3 args W fun e W' => ∃ v, e = .returned v ∧ Rows.codeChecksSpec.post enc Pg Try.f3 false true false false W args v W' := by
 have hval := hval0
 have hW' := hW
 obtain ⟨p, q, hA0, hV, rfl, hfz, hnd⟩ := hW
 have hA : DataW.TrodAll enc Pg W 0 (fun _ => true) true Try.f3.params.toList args.toList ds p := hA0
 rw [Try.params3] at hA hval
 obtain ⟨v0, vs0, d0, ds0, p0, q0, hargs0, rfl, rfl, h0, r0⟩ := trodAll_cons hA
 obtain ⟨rfl, rfl, rfl⟩ := trodAll_nil r0
 obtain rfl : args = #[v0] := by cases args; simp_all
 obtain ⟨rfl, rfl⟩ := trodVars_none hV
 have hbb := of_decide_eq_true hk
 simp only [List.cons_append, List.nil_append, Rows.uptoBulkAll] at hbb
 have hb0 : Rows.uptoBulk d0 ≤ 1048576 := by omega
 obtain ⟨c0, I0, hw0, hz0, hr0, hl0⟩ := codeArg (hval 0 25 v0 rfl rfl) h0 hb0
 refine (walk v0 c0 I0 hw0 hz0 W hr0 hl0).mono fun e W' ⟨he, hg⟩ => ?_
 subst he
 exact ⟨_, rfl, law_post (tb := 4) laidOut rfl rfl (by kernel_rfl) Try.underlying4 (fun t ht => by
  rw [Try.params3] at ht
  simp at ht
  subst ht
  exact ⟨by kernel_rfl, of_decide_eq_true (by kernel_rfl)⟩) hW' hg⟩
set_option maxRecDepth 100000 in
theorem lifted (os : Os) (started : os.Started) (H : Type) (enc : TypeId × Value → H) (F : Stop.Interp) :
    ReturnsInHanded {} Try.checked os 3 .any ((Rows.OpenSpec.upto Rows.codeChecksSpec).pre6 enc Pg Try.f3 Rows.codeChecksUptoRow.domain false) (((Rows.OpenSpec.upto Rows.codeChecksSpec).at F).post enc Pg Try.f3 false true false false) := by
 refine returnsInHanded_of_cond (C := Try.checked) (s := Rows.OpenSpec.upto Rows.codeChecksSpec) (k := Rows.uptoSmall) rfl own started (by kernel_rfl) Try.func3
  (OpenSpec.witness (enc := enc) (C := Try.checked) (s := Rows.OpenSpec.upto Rows.codeChecksSpec) (k := Rows.uptoSmall) rfl false ⟨#[], #[.agg #[.slice none 0 0, .slice none 0 0, .int .i64 0]], []⟩ 8 (by kernel_rfl) (by kernel_rfl) (by kernel_rfl)
   (x := ([.agg [.nil, .nil, .lit (.int .i64 0)]], [], [])) (by kernel_rfl) rfl (by kernel_rfl)) ?_
 intro W base args ds gs before hval hW _ hk _
 exact contract H enc W base args ds gs before hval hW hk
theorem over : Rows.codeChecksUptoRow.holds Try.pinned (Rows.OpenSpec.upto Rows.codeChecksSpec) :=
 OpenClaim.holds_of_cond 3 Try.f3 rfl rfl rfl rfl rfl rfl rfl ⟨rfl, rfl, rfl, rfl, rfl⟩ rfl rfl rfl rfl rfl (by kernel_rfl) Try.func3 (by kernel_rfl)
  (of_decide_eq_true (by kernel_rfl)) (by unfold Func.isWrapper; first | (rw [if_pos (by decide +kernel)]; kernel_rfl) | (rw [if_neg (by decide +kernel)]; exact ⟨rfl, rfl⟩))
  (fun os started H enc _ F => lifted os started H enc F)
theorem proved : Rows.CodeChecksUptoSaid :=
 over
#print axioms proved
end Go.Proofs.Ytpcomfnianamgaa.codeChecks
