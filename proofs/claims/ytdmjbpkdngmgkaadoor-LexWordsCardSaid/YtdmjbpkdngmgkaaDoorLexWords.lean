/-
  PROVED HERE: teasellaw01.LexWords returns true for every text, whatever the memory (with the listed package variables as they are listed) and the order that regions draw. No other condition.
-/
import Derived.Test.YtdmjbpkdngmgkaaDoorCards
import Derived.Test.YtdmjbpkdngmgkaaDoorTie
import Derived.Test.YtdmjbpkdngmgkaaDoorLexB
import Derived.ProofKit
import Derived.OpenShut
import Derived.LaidMore
import Derived.LaidSub
import Derived.Lay
import Derived.MakeChecks
import Derived.ChangeMaps5
import Derived.Lib.LaidTab
import Derived.SevenTiedAt
set_option linter.unusedSectionVars false
namespace Go.Proofs.YtdmjbpkdngmgkaaDoor.lexWords
open Go.ChangeShapes Go.WideShapes Go.ChangeAt Go.RowKit Go.Avm Go.ChangeMaps

theorem own : ownKnob Tryd.prog.godebug = none := by kernel_rfl
theorem laidOut : laidOutB Tryd.prog = true := by kernel_rfl
def zs : List Int := (List.range 256).map fun n => if n = 9 ∨ n = 10 ∨ n = 11 ∨ n = 12 ∨ n = 13 ∨ n = 32 then 1 else 0
theorem tab_zs : asciiTab = zs.map fun z => .int .u8 z := by
  unfold asciiTab zs
  rw [List.map_map]
  rfl
theorem gTab : Tryd.prog.globalNamed "strings.asciiSpace" = some 0 := by kernel_rfl
theorem gTabType : (Tryd.prog.globals[0]?).map (·.type) = some 78 := by kernel_rfl
theorem cells78 : Tryd.prog.cellsOf 78 = 256 := by kernel_rfl
theorem cells5 : Tryd.prog.cellsOf 5 = 1 := by kernel_rfl
theorem only : (Rows.lexWordsRow.laid.filter fun x => x.1 == "strings.asciiSpace") = [("strings.asciiSpace", Lib.tabData .u8 zs)] := by kernel_rfl
theorem table {W : World} (h : laidMetH Tryd.prog Rows.lexWordsRow.laid W) : Lib.TabIs Tryd.prog W "strings.asciiSpace" .u8 zs := by
  have h1 := h.filter fun x => x.1 == "strings.asciiSpace"
  rw [only, MakeChecks.laidMetH_plain _ _ _ (by kernel_rfl)] at h1
  exact Lib.tabIs_of_head gTab gTabType Tryd.underlying78 Tryd.underlying5 cells5 cells78 h1
theorem globs {W : World} (h : Lib.TabIs Tryd.prog W "strings.asciiSpace" .u8 zs) : Globs (fun b o => b = 0 ∧ o < 256) W := fun g cs hg => by
  have hg' : (if g = 0 then some asciiTab else none) = some cs := hg
  split at hg'
  case isFalse => cases hg'
  rename_i hg0
  subst hg0
  cases hg'
  have hlen : zs.length = 256 := by simp [zs]
  have hget : ∀ (t : Nat) (c : D), asciiTab[t]? = some c → t < 256 ∧ c = .int .u8 (zs.getD t 0) := fun t c hc => by
    rw [tab_zs, List.getElem?_map, Option.map_eq_some_iff] at hc
    obtain ⟨z, hz, rfl⟩ := hc
    refine ⟨by rw [← hlen]; exact (List.getElem?_eq_some_iff.1 hz).1, ?_⟩
    rw [List.getD, hz]; rfl
  refine .rp asciiTab 0 0 (fun t => .int .u8 (zs.getD t 0)) (fun e he => ?_) (fun t c hc => ⟨rfl, by rw [Nat.zero_add]; exact (hget t c hc).1⟩) (fun t c hc => ?_) (fun t c hc => ?_)
  · obtain ⟨t, ht⟩ := List.getElem?_of_mem he
    rw [(hget t e ht).2]; rfl
  · rw [Nat.zero_add]
    exact h.cell gTab t (by rw [hlen]; exact (hget t c hc).1)
  · rw [(hget t c hc).2]
    exact .int _ _

theorem walk (s : ByteArray) (w : World) (h : Lib.TabIs Tryd.prog w "strings.asciiSpace" .u8 zs) : Calls Tryd.prog 4 #[.string s] w fun e w' => e = .returned (.bool true) ∧ Below w.heap.size w w' := by
  refine calls_of_pure (lexWordsLaw s.data.toList) (I := fun b o => b = 0 ∧ o < 256) (globs h) (fun b o hbo => ?_) rfl ?_
  · obtain ⟨rfl, ho⟩ := hbo
    have hc := h.cell gTab 0 (by simp [zs])
    unfold World.cell? at hc
    cases hh : w.heap[0]? with
    | none => rw [hh] at hc; cases hc
    | some o => exact (Array.getElem?_eq_some_iff.1 hh).1
  · intro i x u hx hu
    cases i with
    | zero => simp at hx hu; subst hx; subst hu; exact .str _ s rfl
    | succ i => simp at hx

set_option maxRecDepth 100000 in
theorem lifted (os : Os) (started : os.Started) (H : Type) (enc : TypeId × Value → H) :
    ReturnsInHanded {} Tryd.checked os 4 .any (fun w args => (Rows.lexWordsSpec.pre enc Tryd.prog Tryd.f4 Rows.lexWordsRow.domain false w args ∧ laidMetH Tryd.prog Rows.lexWordsRow.laid w) ∧ sizedMet enc Tryd.prog Tryd.f4 (OpenSpec.ofChange Rows.lexWordsSpec) false w args)
      (Rows.lexWordsSpec.post enc Tryd.prog Tryd.f4 false true false false) := by
  refine returnsInHanded_of_change_and (C := Tryd.checked) (X := fun w _ => laidMetH Tryd.prog Rows.lexWordsRow.laid w) (fun _ _ _ hh h => h.of_heap hh) own started (by kernel_rfl) Tryd.func4
    (ChangeSpec.witness_shaped (enc := enc) (C := Tryd.checked) (os := os) (X := fun w _ => laidMetH Tryd.prog Rows.lexWordsRow.laid w) false (World.laidAll Tryd.prog os Rows.lexWordsRow.laid) #[.string ByteArray.empty] 8 (World.laidAll_os _ _ _)
      (World.shaped_of_ZipB (by kernel_rfl) (by kernel_rfl)) (by kernel_rfl) (by kernel_rfl) (by kernel_rfl)
      (by rw [MakeChecks.laidMetH_plain _ _ _ (by kernel_rfl)]; exact laidMet_laidAll _ (by kernel_rfl) (by kernel_rfl))) ?_
  intro W base args ds gs before hval0 hW hc _ hL _
  have hval : ∀ (j : Nat) t v, Tryd.f4.params[j]? = some t → args[j]? = some v → Value.okWide Tryd.prog W .any base t v := hval0
  have hW' := hW
  obtain ⟨p, q, hA0, hV, rfl, hfz, hnd⟩ := hW
  have hA : DataW.TrodAll enc Tryd.prog W 0 (fun _ => true) true Tryd.f4.params.toList args.toList ds p := hA0
  rw [Tryd.params4] at hA hval
  obtain ⟨v0, d0, rfl, rfl, h0⟩ := trodAll_one hA
  obtain ⟨rfl, rfl⟩ := trodVars_none hV
  obtain ⟨s, rfl, rfl, rfl, hs⟩ := open_string Tryd.underlying9 (hval 0 9 v0 rfl rfl) h0
  refine (walk s W (table hL)).mono fun e W' ⟨he, hg⟩ => ?_
  subst he
  exact ⟨_, rfl, law_post (tb := 4) laidOut rfl rfl (by kernel_rfl) Tryd.underlying4 (fun t ht => by
    rw [Tryd.params4] at ht
    simp at ht
    subst ht
    exact ⟨by kernel_rfl, of_decide_eq_true (by kernel_rfl)⟩) hW' hg⟩

theorem over : Rows.lexWordsRow.holds Tryd.pinned (OpenSpec.ofChange Rows.lexWordsSpec) :=
  OpenClaim.holds_of_wide 4 Tryd.f4 rfl rfl rfl rfl rfl rfl rfl ⟨rfl, rfl, rfl, rfl, rfl⟩ rfl rfl rfl rfl rfl (by kernel_rfl) Tryd.func4 (by kernel_rfl)
    (of_decide_eq_true (by kernel_rfl)) (by unfold Func.isWrapper; first | (rw [if_pos (by decide +kernel)]; kernel_rfl) | (rw [if_neg (by decide +kernel)]; exact ⟨rfl, rfl⟩))
    (fun os started H enc _ => lifted os started H enc)

theorem plain (f : FuncId) (fn : Func) (hf : Tryd.pinned.checked.prog.funcNamed Rows.lexWordsRow.func = some f) (hfn : Tryd.pinned.checked.prog.funcs[f]? = some fn) :
    true = Tryd.pinned.checked.prog.looks [] ∧ ∀ (j : Nat) t, fn.params[j]? = some t → Tryd.pinned.checked.prog.wantsStandIn t = false := by
  obtain rfl : f = 4 := Option.some.inj ((show Tryd.prog.funcNamed Rows.lexWordsRow.func = some 4 by kernel_rfl).symm.trans hf) |>.symm
  obtain rfl : fn = Tryd.f4 := (Option.some.inj (Tryd.func4.symm.trans hfn)).symm
  refine ⟨by kernel_rfl, fun j t ht => ?_⟩
  rw [Tryd.params4] at ht
  obtain rfl : t = 9 := by simpa using Array.mem_of_getElem? ht
  exact (show Tryd.prog.wantsStandIn 9 = false by kernel_rfl)

/-- The statement: the tied card. -/
theorem proved : Rows.LexWordsCardSaid :=
  Claim7.holds_tied_plain_at .later [] _ _ _ _ over (fun _ h => by cases h) (by kernel_rfl) (fun _ h => by cases h) lexWords_row_tie rfl ⟨rfl, rfl⟩ (by kernel_rfl) rfl plain (by kernel_rfl)
#print axioms proved
end Go.Proofs.YtdmjbpkdngmgkaaDoor.lexWords
