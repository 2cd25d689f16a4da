/-
  PROVED HERE: teasellaw03.TypesMore returns true for every text, in front and behind, whatever the memory (with the listed package variables as they are listed) and the order that regions draw. No other condition.
-/
import Derived.Test.YtcjiafanhlhdlaaGreatDoorCards
import Derived.Test.YtcjiafanhlhdlaaGreatDoorTie
import Derived.Test.YtcjiafanhlhdlaaGreatDoorG14
import Derived.ProofKit
import Derived.OpenShut
import Derived.SevenTiedAt
set_option linter.unusedVariables false
set_option linter.unusedSimpArgs false
set_option linter.unusedSectionVars false
namespace Go.Proofs.YtcjiafanhlhdlaaGreatDoor.typesMore
open Go.ChangeShapes Go.WideShapes Go.ChangeAt Go.RowKit Go.Avm Go.ChangeMaps
theorem own:ownKnob Pg.godebug=none:=by kernel_rfl
theorem JO:laidOutB Pg=true:=by kernel_rfl
theorem SQ(s:ByteArray)(b:Bool)(w:World)(h:xm w):Calls Pg 7 #[.string s, .bool b] w fun e w'=>e= .returned (.bool true)∧Below w.heap.size w w':=by
 refine ul (HA s.data.toList b) (I:=Bf) (HE h) (Nj h) rfl ?_;intro i x u hx hu;match i with
 |0=>simp at hx hu;subst hx;subst hu;exact .str _ s rfl
 |1=>simp at hx hu;subst hx;subst hu;exact .bool _
 |i+2=>simp at hx
set_option maxRecDepth 100000 in
theorem Nk(os:Os)(started:os.Started)(H:Type)(enc:TypeId×Value→H):
    ReturnsInHanded {} Tryz.checked os 7 .any (fun w args=>(Rows.typesMoreSpec.pre enc Pg Tryz.f7 Rows.typesMoreRow.domain false w args∧laidMetH Pg Rows.typesMoreRow.laid w)∧sizedMet enc Pg Tryz.f7 (OpenSpec.ofChange Rows.typesMoreSpec) false w args)
     (Rows.typesMoreSpec.post enc Pg Tryz.f7 false true false false):=by
 refine returnsInHanded_of_change_and (C:=Tryz.checked) (X:=fun w _=>laidMetH Pg Rows.typesMoreRow.laid w) (fun _ _ _ hh h=>h.of_heap hh) own started (by kernel_rfl) Tryz.func7
  (ChangeSpec.witness_shaped (enc:=enc) (C:=Tryz.checked) (os:=os) (X:=fun w _=>laidMetH Pg Rows.typesMoreRow.laid w) false (World.laidAll Pg os Rows.typesMoreRow.laid) #[.string ByteArray.empty, .bool false] 8 (World.laidAll_os _ _ _)
   (World.shaped_of_ZipB (by kernel_rfl) (by kernel_rfl)) (by kernel_rfl) (by kernel_rfl) (by kernel_rfl)
   (by rw[MakeChecks.laidMetH_plain _ _ _ (by kernel_rfl)];exact laidMet_laidAll _ (by kernel_rfl) (by kernel_rfl))) ?_
 intro W base args ds gs before hval0 hW hc _ hL _;have hval:∀(j:Nat) t v,Tryz.f7.params[j]? =some t→args[j]? =some v→Value.okWide Pg W .any base t v:=hval0;have hW':=hW;obtain⟨p,q,hA0,hV,rfl,hfz,hnd⟩:=hW;have hA:DataW.TrodAll enc Pg W 0 (fun _=>true) true Tryz.f7.params.toList args.toList ds p:=hA0;rw[Tryz.params7]at hA hval;obtain⟨v0,v1,d0,d1,p0,p1,rfl,rfl,rfl,h0,h1⟩:=trodAll_two hA;obtain⟨rfl,rfl⟩:=trodVars_none hV;obtain⟨s,rfl,rfl,rfl,hs⟩:=open_string Tryz.underlying9 (hval 0 9 v0 rfl rfl) h0;obtain⟨b,rfl,rfl,rfl⟩:=open_bool Tryz.underlying4 (hval 1 4 v1 rfl rfl) h1;refine(SQ s b W (Ni hL)).mono fun e W' ⟨he,hg⟩=> ?_
 subst he
 exact⟨_,rfl,Eg (tb:=4) JO rfl rfl (by kernel_rfl) Tryz.underlying4 (fun t ht=>by
  rw[Tryz.params7]at ht;simp at ht;have hm:t=9∨t=4:=by simpa using ht
  rcases hm with rfl|rfl
  ·exact⟨by kernel_rfl,of_decide_eq_true (by kernel_rfl)⟩
  ·exact⟨by kernel_rfl,of_decide_eq_true (by kernel_rfl)⟩) hW' hg⟩
theorem SR:Rows.typesMoreRow.holds Tryz.pinned (OpenSpec.ofChange Rows.typesMoreSpec):=
 OpenClaim.holds_of_wide 7 Tryz.f7 rfl rfl rfl rfl rfl rfl rfl ⟨rfl,rfl,rfl,rfl,rfl⟩ rfl rfl rfl rfl rfl (by kernel_rfl) Tryz.func7 (by kernel_rfl)
  (of_decide_eq_true (by kernel_rfl)) (by unfold Func.isWrapper;first|(rw[if_pos (by decide +kernel)];kernel_rfl)|(rw[if_neg (by decide +kernel)];exact⟨rfl,rfl⟩))
  (fun os started H enc _=>Nk os started H enc)
theorem ig(f:FuncId)(fn:Func)(hf:Tryz.pinned.checked.prog.funcNamed Rows.typesMoreRow.func=some f)(hfn:Tryz.pinned.checked.prog.funcs[f]? =some fn):
    true=Tryz.pinned.checked.prog.looks []∧∀(j:Nat) t,fn.params[j]? =some t→Tryz.pinned.checked.prog.wantsStandIn t=false:=by
 obtain rfl:f=7:=Option.some.inj ((show Pg.funcNamed Rows.typesMoreRow.func=some 7 by kernel_rfl).symm.trans hf)|>.symm
 obtain rfl:fn=Tryz.f7:=(Option.some.inj (Tryz.func7.symm.trans hfn)).symm;refine⟨by kernel_rfl,fun j t ht=> ?_⟩;rw[Tryz.params7]at ht;have hm:t=9∨t=4:=by simpa using Array.mem_of_getElem? ht
 rcases hm with rfl|rfl
 ·exact(show Pg.wantsStandIn 9=false by kernel_rfl)
 ·exact(show Pg.wantsStandIn 4=false by kernel_rfl)
theorem proved:Rows.TypesMoreCardSaid:=
 Claim7.holds_tied_plain_at .later [] _ _ _ _ SR (fun _ h=>by cases h) (by kernel_rfl) (fun _ h=>by cases h) typesMore_row_tie rfl ⟨rfl,rfl⟩ (by kernel_rfl) rfl ig (by kernel_rfl)
#print axioms proved
end Go.Proofs.YtcjiafanhlhdlaaGreatDoor.typesMore
