/-
  PROVED HERE: teasellaw02.TreeBlanks returns true for every text and all gaps, whatever the memory (with the listed package variables as they are listed) and the order that regions draw. No other condition.
-/
import Derived.Test.YtkhcaamgjjhpeaaGreatDoorCards
import Derived.Test.YtkhcaamgjjhpeaaGreatDoorTie
import Derived.Test.YtkhcaamgjjhpeaaGreatDoorH10
import Derived.Test.YtkhcaamgjjhpeaaGreatDoorH11
import Derived.ProofKit
import Derived.OpenShut
import Derived.SevenTiedAt
set_option linter.unusedSectionVars false
namespace Go.Proofs.YtkhcaamgjjhpeaaGreatDoor.treeBlanks
open Go.ChangeShapes Go.WideShapes Go.ChangeAt Go.RowKit Go.Avm Go.ChangeMaps

theorem own : ownKnob Tryz.prog.godebug = none := by kernel_rfl
theorem laidOut : laidOutB Tryz.prog = true := by kernel_rfl

theorem walk (s : ByteArray) (v : Value) (l : List UInt8) (I' : Nat → Nat → Prop) (w : World) (h : LexMem w) (hr : DRep I' w (.ro (l.map bD)) v) (hlow : ∀ b o, I' b o → b < w.heap.size) : Calls Tryz.prog 7 #[.string s, v] w fun e w' => e = .returned (.bool true) ∧ Below w.heap.size w w' := by
  refine calls_of_pure (blanksPure s.data.toList l) (I := fun b o => lexImm b o ∨ I' b o) (argGlobs h I') (fun b o hb => hb.elim (lexLow h b o) (hlow b o)) rfl ?_
  intro i x u hx hu
  match i with
  | 0 => simp at hx hu; subst hx; subst hu; exact .str _ s rfl
  | 1 => simp at hx hu; subst hx; subst hu; exact hr.mono (fun _ _ x => .inr x) (fun _ _ _ => rfl)
  | i + 2 => simp at hx

set_option maxRecDepth 100000 in
theorem lifted (os : Os) (started : os.Started) (H : Type) (enc : TypeId × Value → H) :
    ReturnsInHanded {} Tryz.checked os 7 .any (fun w args => (Rows.treeBlanksSpec.pre enc Tryz.prog Tryz.f7 Rows.treeBlanksRow.domain false w args ∧ laidMetH Tryz.prog Rows.treeBlanksRow.laid w) ∧ sizedMet enc Tryz.prog Tryz.f7 (OpenSpec.ofChange Rows.treeBlanksSpec) false w args)
      (Rows.treeBlanksSpec.post enc Tryz.prog Tryz.f7 false true false false) := by
  refine returnsInHanded_of_change_and (C := Tryz.checked) (X := fun w _ => laidMetH Tryz.prog Rows.treeBlanksRow.laid w) (fun _ _ _ hh h => h.of_heap hh) own started (by kernel_rfl) Tryz.func7
    (ChangeSpec.witness_shaped (enc := enc) (C := Tryz.checked) (os := os) (X := fun w _ => laidMetH Tryz.prog Rows.treeBlanksRow.laid w) false (World.laidAll Tryz.prog os Rows.treeBlanksRow.laid) #[.string ByteArray.empty, .slice none 0 0] 8 (World.laidAll_os _ _ _)
      (World.shaped_of_ZipB (by kernel_rfl) (by kernel_rfl)) (by kernel_rfl) (by kernel_rfl) (by kernel_rfl)
      (by rw [MakeChecks.laidMetH_plain _ _ _ (by kernel_rfl)]; exact laidMet_laidAll _ (by kernel_rfl) (by kernel_rfl))) ?_
  intro W base args ds gs before hval0 hW hc _ hL _
  have hval : ∀ (j : Nat) t v, Tryz.f7.params[j]? = some t → args[j]? = some v → Value.okWide Tryz.prog W .any base t v := hval0
  have hW' := hW
  obtain ⟨p, q, hA0, hV, rfl, hfz, hnd⟩ := hW
  have hA : DataW.TrodAll enc Tryz.prog W 0 (fun _ => true) true Tryz.f7.params.toList args.toList ds p := hA0
  rw [Tryz.params7] at hA hval
  obtain ⟨v0, v1, d0, d1, p0, p1, rfl, rfl, rfl, h0, h1⟩ := trodAll_two hA
  obtain ⟨rfl, rfl⟩ := trodVars_none hV
  obtain ⟨s, rfl, rfl, rfl, hs⟩ := open_string Tryz.underlying9 (hval 0 9 v0 rfl rfl) h0
  obtain ⟨l, I', hr, hlow⟩ := bytesArg (hval 1 50 v1 rfl rfl) h1
  refine (walk s v1 l I' W (lexMem hL) hr hlow).mono fun e W' ⟨he, hg⟩ => ?_
  subst he
  exact ⟨_, rfl, law_post (tb := 4) laidOut rfl rfl (by kernel_rfl) Tryz.underlying4 (fun t ht => by
    rw [Tryz.params7] at ht
    simp at ht
    have hm : t = 9 ∨ t = 50 := by simpa using ht
    rcases hm with rfl | rfl
    · exact ⟨by kernel_rfl, of_decide_eq_true (by kernel_rfl)⟩
    · exact ⟨by kernel_rfl, of_decide_eq_true (by kernel_rfl)⟩) hW' hg⟩

theorem over : Rows.treeBlanksRow.holds Tryz.pinned (OpenSpec.ofChange Rows.treeBlanksSpec) :=
  OpenClaim.holds_of_wide 7 Tryz.f7 rfl rfl rfl rfl rfl rfl rfl ⟨rfl, rfl, rfl, rfl, rfl⟩ rfl rfl rfl rfl rfl (by kernel_rfl) Tryz.func7 (by kernel_rfl)
    (of_decide_eq_true (by kernel_rfl)) (by unfold Func.isWrapper; first | (rw [if_pos (by decide +kernel)]; kernel_rfl) | (rw [if_neg (by decide +kernel)]; exact ⟨rfl, rfl⟩))
    (fun os started H enc _ => lifted os started H enc)

theorem plain (f : FuncId) (fn : Func) (hf : Tryz.pinned.checked.prog.funcNamed Rows.treeBlanksRow.func = some f) (hfn : Tryz.pinned.checked.prog.funcs[f]? = some fn) :
    true = Tryz.pinned.checked.prog.looks [] ∧ ∀ (j : Nat) t, fn.params[j]? = some t → Tryz.pinned.checked.prog.wantsStandIn t = false := by
  obtain rfl : f = 7 := Option.some.inj ((show Tryz.prog.funcNamed Rows.treeBlanksRow.func = some 7 by kernel_rfl).symm.trans hf) |>.symm
  obtain rfl : fn = Tryz.f7 := (Option.some.inj (Tryz.func7.symm.trans hfn)).symm
  refine ⟨by kernel_rfl, fun j t ht => ?_⟩
  rw [Tryz.params7] at ht
  have hm : t = 9 ∨ t = 50 := by simpa using Array.mem_of_getElem? ht
  rcases hm with rfl | rfl
  · exact (show Tryz.prog.wantsStandIn 9 = false by kernel_rfl)
  · exact (show Tryz.prog.wantsStandIn 50 = false by kernel_rfl)

/-- The statement: the tied card. -/
theorem proved : Rows.TreeBlanksCardSaid :=
  Claim7.holds_tied_plain_at .later [] _ _ _ _ over (fun _ h => by cases h) (by kernel_rfl) (fun _ h => by cases h) treeBlanks_row_tie rfl ⟨rfl, rfl⟩ (by kernel_rfl) rfl plain (by kernel_rfl)
#print axioms proved
end Go.Proofs.YtkhcaamgjjhpeaaGreatDoor.treeBlanks
