/-
  PROVED HERE: teasellaw01.LexApart returns true for every text and all gaps, whatever the memory (with the listed package variables as they are listed) and the order that regions draw. No other condition.
-/
import Derived.Test.YtdmjbpkdngmgkaaDoorCards
import Derived.Test.YtdmjbpkdngmgkaaDoorTie
import Derived.Test.YtdmjbpkdngmgkaaDoorLexT
import Derived.Test.YtdmjbpkdngmgkaaDoorLexLaid
import Derived.ProofKit
import Derived.OpenShut
import Derived.SevenTiedAt
set_option linter.unusedSectionVars false
namespace Go.Proofs.YtdmjbpkdngmgkaaDoor.lexApart
open Go.ChangeShapes Go.WideShapes Go.ChangeAt Go.RowKit Go.Avm Go.ChangeMaps

theorem own : ownKnob Tryd.prog.godebug = none := by kernel_rfl
theorem laidOut : laidOutB Tryd.prog = true := by kernel_rfl

theorem walk (s : ByteArray) (v : Value) (l : List UInt8) (I' : Nat → Nat → Prop) (w : World) (h : LexMem w) (hr : DRep I' w (.ro (l.map bD)) v) (hlow : ∀ b o, I' b o → b < w.heap.size) : Calls Tryd.prog 5 #[.string s, v] w fun e w' => e = .returned (.bool true) ∧ Below w.heap.size w w' := by
  refine calls_of_pure (apartLaw s.data.toList l) (I := fun b o => lexImm b o ∨ I' b o) (argGlobs h I') (fun b o hb => hb.elim (lexLow h b o) (hlow b o)) rfl ?_
  intro i x u hx hu
  match i with
  | 0 => simp at hx hu; subst hx; subst hu; exact .str _ s rfl
  | 1 => simp at hx hu; subst hx; subst hu; exact hr.mono (fun _ _ x => .inr x) (fun _ _ _ => rfl)
  | i + 2 => simp at hx

set_option maxRecDepth 100000 in
theorem lifted (os : Os) (started : os.Started) (H : Type) (enc : TypeId × Value → H) :
    ReturnsInHanded {} Tryd.checked os 5 .any (fun w args => (Rows.lexApartSpec.pre enc Tryd.prog Tryd.f5 Rows.lexApartRow.domain false w args ∧ laidMetH Tryd.prog Rows.lexApartRow.laid w) ∧ sizedMet enc Tryd.prog Tryd.f5 (OpenSpec.ofChange Rows.lexApartSpec) false w args)
      (Rows.lexApartSpec.post enc Tryd.prog Tryd.f5 false true false false) := by
  refine returnsInHanded_of_change_and (C := Tryd.checked) (X := fun w _ => laidMetH Tryd.prog Rows.lexApartRow.laid w) (fun _ _ _ hh h => h.of_heap hh) own started (by kernel_rfl) Tryd.func5
    (ChangeSpec.witness_shaped (enc := enc) (C := Tryd.checked) (os := os) (X := fun w _ => laidMetH Tryd.prog Rows.lexApartRow.laid w) false (World.laidAll Tryd.prog os Rows.lexApartRow.laid) #[.string ByteArray.empty, .slice none 0 0] 8 (World.laidAll_os _ _ _)
      (World.shaped_of_ZipB (by kernel_rfl) (by kernel_rfl)) (by kernel_rfl) (by kernel_rfl) (by kernel_rfl)
      (by rw [MakeChecks.laidMetH_plain _ _ _ (by kernel_rfl)]; exact laidMet_laidAll _ (by kernel_rfl) (by kernel_rfl))) ?_
  intro W base args ds gs before hval0 hW hc _ hL _
  have hval : ∀ (j : Nat) t v, Tryd.f5.params[j]? = some t → args[j]? = some v → Value.okWide Tryd.prog W .any base t v := hval0
  have hW' := hW
  obtain ⟨p, q, hA0, hV, rfl, hfz, hnd⟩ := hW
  have hA : DataW.TrodAll enc Tryd.prog W 0 (fun _ => true) true Tryd.f5.params.toList args.toList ds p := hA0
  rw [Tryd.params5] at hA hval
  obtain ⟨v0, v1, d0, d1, p0, p1, rfl, rfl, rfl, h0, h1⟩ := trodAll_two hA
  obtain ⟨rfl, rfl⟩ := trodVars_none hV
  obtain ⟨s, rfl, rfl, rfl, hs⟩ := open_string Tryd.underlying9 (hval 0 9 v0 rfl rfl) h0
  obtain ⟨l, I', hr, hlow⟩ := bytesArg (hval 1 31 v1 rfl rfl) h1
  refine (walk s v1 l I' W (lexMem hL) hr hlow).mono fun e W' ⟨he, hg⟩ => ?_
  subst he
  exact ⟨_, rfl, law_post (tb := 4) laidOut rfl rfl (by kernel_rfl) Tryd.underlying4 (fun t ht => by
    rw [Tryd.params5] at ht
    simp at ht
    have hm : t = 9 ∨ t = 31 := by simpa using ht
    rcases hm with rfl | rfl
    · exact ⟨by kernel_rfl, of_decide_eq_true (by kernel_rfl)⟩
    · exact ⟨by kernel_rfl, of_decide_eq_true (by kernel_rfl)⟩) hW' hg⟩

theorem over : Rows.lexApartRow.holds Tryd.pinned (OpenSpec.ofChange Rows.lexApartSpec) :=
  OpenClaim.holds_of_wide 5 Tryd.f5 rfl rfl rfl rfl rfl rfl rfl ⟨rfl, rfl, rfl, rfl, rfl⟩ rfl rfl rfl rfl rfl (by kernel_rfl) Tryd.func5 (by kernel_rfl)
    (of_decide_eq_true (by kernel_rfl)) (by unfold Func.isWrapper; first | (rw [if_pos (by decide +kernel)]; kernel_rfl) | (rw [if_neg (by decide +kernel)]; exact ⟨rfl, rfl⟩))
    (fun os started H enc _ => lifted os started H enc)

theorem plain (f : FuncId) (fn : Func) (hf : Tryd.pinned.checked.prog.funcNamed Rows.lexApartRow.func = some f) (hfn : Tryd.pinned.checked.prog.funcs[f]? = some fn) :
    true = Tryd.pinned.checked.prog.looks [] ∧ ∀ (j : Nat) t, fn.params[j]? = some t → Tryd.pinned.checked.prog.wantsStandIn t = false := by
  obtain rfl : f = 5 := Option.some.inj ((show Tryd.prog.funcNamed Rows.lexApartRow.func = some 5 by kernel_rfl).symm.trans hf) |>.symm
  obtain rfl : fn = Tryd.f5 := (Option.some.inj (Tryd.func5.symm.trans hfn)).symm
  refine ⟨by kernel_rfl, fun j t ht => ?_⟩
  rw [Tryd.params5] at ht
  have hm : t = 9 ∨ t = 31 := by simpa using Array.mem_of_getElem? ht
  rcases hm with rfl | rfl
  · exact (show Tryd.prog.wantsStandIn 9 = false by kernel_rfl)
  · exact (show Tryd.prog.wantsStandIn 31 = false by kernel_rfl)

/-- The statement: the tied card. -/
theorem proved : Rows.LexApartCardSaid :=
  Claim7.holds_tied_plain_at .later [] _ _ _ _ over (fun _ h => by cases h) (by kernel_rfl) (fun _ h => by cases h) lexApart_row_tie rfl ⟨rfl, rfl⟩ (by kernel_rfl) rfl plain (by kernel_rfl)
#print axioms proved
end Go.Proofs.YtdmjbpkdngmgkaaDoor.lexApart
