/-
  PROVED HERE: teasellaw03.TypesPoints returns true for every text, whatever the memory (with the listed package variables as they are listed) and the order that regions draw. No other condition.
-/
import Derived.Test.YtcjiafanhlhdlaaGreatDoorCards
import Derived.Test.YtcjiafanhlhdlaaGreatDoorTie
import Derived.Test.YtcjiafanhlhdlaaGreatDoorG14
import Derived.ProofKit
import Derived.OpenShut
import Derived.SevenTiedAt
set_option linter.unusedVariables false
set_option linter.unusedSimpArgs false
set_option linter.unusedSectionVars false
namespace Go.Proofs.YtcjiafanhlhdlaaGreatDoor.typesPoints
open Go.ChangeShapes Go.WideShapes Go.ChangeAt Go.RowKit Go.Avm Go.ChangeMaps
theorem own:ownKnob Pg.godebug=none:=by kernel_rfl
theorem GY:laidOutB Pg=true:=by kernel_rfl
theorem Py(s:ByteArray)(w:World)(h:vC w):Calls Pg 5 #[.string s] w fun e w'=>e= .returned (.bool true)∧Below w.heap.size w w':=by
 refine sH (zi s.data.toList) (I:=zj) (EV h) (Ke h) rfl ?_;intro i x u hx hu;match i with
 |0=>simp at hx hu;subst hx;subst hu;exact .str _ s rfl
 |i+1=>simp at hx
set_option maxRecDepth 100000 in
theorem Kf(os:Os)(started:os.Started)(H:Type)(enc:TypeId×Value→H):
    ReturnsInHanded {} Tryz.checked os 5 .any (fun w args=>(Rows.typesPointsSpec.pre enc Pg Tryz.f5 Rows.typesPointsRow.domain false w args∧laidMetH Pg Rows.typesPointsRow.laid w)∧sizedMet enc Pg Tryz.f5 (OpenSpec.ofChange Rows.typesPointsSpec) false w args)
     (Rows.typesPointsSpec.post enc Pg Tryz.f5 false true false false):=by
 refine returnsInHanded_of_change_and (C:=Tryz.checked) (X:=fun w _=>laidMetH Pg Rows.typesPointsRow.laid w) (fun _ _ _ hh h=>h.of_heap hh) own started (by kernel_rfl) Tryz.func5
  (ChangeSpec.witness_shaped (enc:=enc) (C:=Tryz.checked) (os:=os) (X:=fun w _=>laidMetH Pg Rows.typesPointsRow.laid w) false (World.laidAll Pg os Rows.typesPointsRow.laid) #[.string ByteArray.empty] 8 (World.laidAll_os _ _ _)
   (World.shaped_of_ZipB (by kernel_rfl) (by kernel_rfl)) (by kernel_rfl) (by kernel_rfl) (by kernel_rfl)
   (by rw[MakeChecks.laidMetH_plain _ _ _ (by kernel_rfl)];exact laidMet_laidAll _ (by kernel_rfl) (by kernel_rfl))) ?_
 intro W base args ds gs before hval0 hW hc _ hL _;have hval:∀(j:Nat) t v,Tryz.f5.params[j]? =some t→args[j]? =some v→Value.okWide Pg W .any base t v:=hval0;have hW':=hW;obtain⟨p,q,hA0,hV,rfl,hfz,hnd⟩:=hW;have hA:DataW.TrodAll enc Pg W 0 (fun _=>true) true Tryz.f5.params.toList args.toList ds p:=hA0;rw[Tryz.params5]at hA hval;obtain⟨v0,d0,rfl,rfl,h0⟩:=trodAll_one hA;obtain⟨rfl,rfl⟩:=trodVars_none hV;obtain⟨s,rfl,rfl,rfl,hs⟩:=open_string Tryz.underlying9 (hval 0 9 v0 rfl rfl) h0;refine(Py s W (Kd hL)).mono fun e W' ⟨he,hg⟩=> ?_
 subst he
 exact⟨_,rfl,B8 (tb:=4) GY rfl rfl (by kernel_rfl) Tryz.underlying4 (fun t ht=>by
  rw[Tryz.params5]at ht;simp at ht;subst ht;exact⟨by kernel_rfl,of_decide_eq_true (by kernel_rfl)⟩) hW' hg⟩
theorem Pz:Rows.typesPointsRow.holds Tryz.pinned (OpenSpec.ofChange Rows.typesPointsSpec):=
 OpenClaim.holds_of_wide 5 Tryz.f5 rfl rfl rfl rfl rfl rfl rfl ⟨rfl,rfl,rfl,rfl,rfl⟩ rfl rfl rfl rfl rfl (by kernel_rfl) Tryz.func5 (by kernel_rfl)
  (of_decide_eq_true (by kernel_rfl)) (by unfold Func.isWrapper;first|(rw[if_pos (by decide +kernel)];kernel_rfl)|(rw[if_neg (by decide +kernel)];exact⟨rfl,rfl⟩))
  (fun os started H enc _=>Kf os started H enc)
theorem gI(f:FuncId)(fn:Func)(hf:Tryz.pinned.checked.prog.funcNamed Rows.typesPointsRow.func=some f)(hfn:Tryz.pinned.checked.prog.funcs[f]? =some fn):
    true=Tryz.pinned.checked.prog.looks []∧∀(j:Nat) t,fn.params[j]? =some t→Tryz.pinned.checked.prog.wantsStandIn t=false:=by
 obtain rfl:f=5:=Option.some.inj ((show Pg.funcNamed Rows.typesPointsRow.func=some 5 by kernel_rfl).symm.trans hf)|>.symm
 obtain rfl:fn=Tryz.f5:=(Option.some.inj (Tryz.func5.symm.trans hfn)).symm;refine⟨by kernel_rfl,fun j t ht=> ?_⟩;rw[Tryz.params5]at ht;obtain rfl:t=9:=by simpa using Array.mem_of_getElem? ht
 exact(show Pg.wantsStandIn 9=false by kernel_rfl)
theorem proved:Rows.TypesPointsCardSaid:=
 Claim7.holds_tied_plain_at .later [] _ _ _ _ Pz (fun _ h=>by cases h) (by kernel_rfl) (fun _ h=>by cases h) typesPoints_row_tie rfl ⟨rfl,rfl⟩ (by kernel_rfl) rfl gI (by kernel_rfl)
#print axioms proved
end Go.Proofs.YtcjiafanhlhdlaaGreatDoor.typesPoints
