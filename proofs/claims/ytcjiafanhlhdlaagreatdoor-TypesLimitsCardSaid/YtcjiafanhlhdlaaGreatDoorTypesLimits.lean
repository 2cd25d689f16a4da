/-
  PROVED HERE: teasellaw03.TypesLimits returns true for every three numbers, whatever the memory (with the listed package variables as they are listed) and the order that regions draw. No other condition.
-/
import Derived.Test.YtcjiafanhlhdlaaGreatDoorCards
import Derived.Test.YtcjiafanhlhdlaaGreatDoorTie
import Derived.Test.YtcjiafanhlhdlaaGreatDoorG14
import Derived.ProofKit
import Derived.OpenShut
import Derived.SevenTiedAt
set_option linter.unusedVariables false
set_option linter.unusedSimpArgs false
set_option linter.unusedSectionVars false
namespace Go.Proofs.YtcjiafanhlhdlaaGreatDoor.typesLimits
open Go.ChangeShapes Go.WideShapes Go.ChangeAt Go.RowKit Go.Avm Go.ChangeMaps
theorem own:ownKnob Pg.godebug=none:=by kernel_rfl
theorem HY:laidOutB Pg=true:=by kernel_rfl
theorem QO(a b c:Int)(wa:(Lit.int .u16 a).wf=true)(wb:(Lit.int .u16 b).wf=true)(wc:(Lit.int .u8 c).wf=true)(w:World)(h:wz w):Calls Pg 6 #[.int .u16 a, .int .u16 b, .int .u8 c] w fun e w'=>e= .returned (.bool true)∧Below w.heap.size w w':=by
 have hw:0≤a∧a<65536:=by
  simp[Lit.wf,IntKind.min,IntKind.max,IntKind.signed,IntKind.bits]at wa;omega
 have hw1:0≤b∧b<65536:=by
  simp[Lit.wf,IntKind.min,IntKind.max,IntKind.signed,IntKind.bits]at wb;omega
 have hw2:0≤c∧c<256:=by
  simp[Lit.wf,IntKind.min,IntKind.max,IntKind.signed,IntKind.bits]at wc;omega
 obtain⟨n,rfl⟩:∃n:Nat,a=(n:Int):=⟨a.toNat,by omega⟩
 obtain⟨m,rfl⟩:∃m:Nat,b=(m:Int):=⟨b.toNat,by omega⟩
 obtain⟨k,rfl⟩:∃k:Nat,c=(k:Int):=⟨c.toNat,by omega⟩
 refine tG (An n m k (by omega) (by omega) (by omega)) (I:=Ao) (FS h) (Ln h) rfl ?_;intro i x u hx hu;match i with
 |0=>simp at hx hu;subst hx;subst hu;exact .int _ _
 |1=>simp at hx hu;subst hx;subst hu;exact .int _ _
 |2=>simp at hx hu;subst hx;subst hu;exact .int _ _
 |i+3=>simp at hx
set_option maxRecDepth 100000 in
theorem Lo(os:Os)(started:os.Started)(H:Type)(enc:TypeId×Value→H):
    ReturnsInHanded {} Tryz.checked os 6 .any (fun w args=>(Rows.typesLimitsSpec.pre enc Pg Tryz.f6 Rows.typesLimitsRow.domain false w args∧laidMetH Pg Rows.typesLimitsRow.laid w)∧sizedMet enc Pg Tryz.f6 (OpenSpec.ofChange Rows.typesLimitsSpec) false w args)
     (Rows.typesLimitsSpec.post enc Pg Tryz.f6 false true false false):=by
 refine returnsInHanded_of_change_and (C:=Tryz.checked) (X:=fun w _=>laidMetH Pg Rows.typesLimitsRow.laid w) (fun _ _ _ hh h=>h.of_heap hh) own started (by kernel_rfl) Tryz.func6
  (ChangeSpec.witness_shaped (enc:=enc) (C:=Tryz.checked) (os:=os) (X:=fun w _=>laidMetH Pg Rows.typesLimitsRow.laid w) false (World.laidAll Pg os Rows.typesLimitsRow.laid) #[.int .u16 0, .int .u16 0, .int .u8 0] 8 (World.laidAll_os _ _ _)
   (World.shaped_of_ZipB (by kernel_rfl) (by kernel_rfl)) (by kernel_rfl) (by kernel_rfl) (by kernel_rfl)
   (by rw[MakeChecks.laidMetH_plain _ _ _ (by kernel_rfl)];exact laidMet_laidAll _ (by kernel_rfl) (by kernel_rfl))) ?_
 intro W base args ds gs before hval0 hW hc _ hL _;have hval:∀(j:Nat) t v,Tryz.f6.params[j]? =some t→args[j]? =some v→Value.okWide Pg W .any base t v:=hval0;have hW':=hW;obtain⟨p,q,hA0,hV,rfl,hfz,hnd⟩:=hW;have hA:DataW.TrodAll enc Pg W 0 (fun _=>true) true Tryz.f6.params.toList args.toList ds p:=hA0;rw[Tryz.params6]at hA hval;obtain⟨v0,v1,v2,d0,d1,d2,p0,p1,p2,rfl,rfl,rfl,h0,h1,h2⟩:=trodAll_three hA;obtain⟨rfl,rfl⟩:=trodVars_none hV;obtain⟨a,rfl,rfl,rfl,wa⟩:=open_int Tryz.underlying48 (hval 0 48 v0 rfl rfl) h0;obtain⟨b,rfl,rfl,rfl,wb⟩:=open_int Tryz.underlying48 (hval 1 48 v1 rfl rfl) h1;obtain⟨c,rfl,rfl,rfl,wc⟩:=open_int Tryz.underlying5 (hval 2 5 v2 rfl rfl) h2;refine(QO a b c wa wb wc W (Lm hL)).mono fun e W' ⟨he,hg⟩=> ?_
 subst he
 exact⟨_,rfl,C1 (tb:=4) HY rfl rfl (by kernel_rfl) Tryz.underlying4 (fun t ht=>by
  rw[Tryz.params6]at ht;simp at ht;have hm:t=48∨t=5:=by simpa using ht
  rcases hm with rfl|rfl
  ·exact⟨by kernel_rfl,of_decide_eq_true (by kernel_rfl)⟩
  ·exact⟨by kernel_rfl,of_decide_eq_true (by kernel_rfl)⟩) hW' hg⟩
theorem QP:Rows.typesLimitsRow.holds Tryz.pinned (OpenSpec.ofChange Rows.typesLimitsSpec):=
 OpenClaim.holds_of_wide 6 Tryz.f6 rfl rfl rfl rfl rfl rfl rfl ⟨rfl,rfl,rfl,rfl,rfl⟩ rfl rfl rfl rfl rfl (by kernel_rfl) Tryz.func6 (by kernel_rfl)
  (of_decide_eq_true (by kernel_rfl)) (by unfold Func.isWrapper;first|(rw[if_pos (by decide +kernel)];kernel_rfl)|(rw[if_neg (by decide +kernel)];exact⟨rfl,rfl⟩))
  (fun os started H enc _=>Lo os started H enc)
theorem hZ(f:FuncId)(fn:Func)(hf:Tryz.pinned.checked.prog.funcNamed Rows.typesLimitsRow.func=some f)(hfn:Tryz.pinned.checked.prog.funcs[f]? =some fn):
    true=Tryz.pinned.checked.prog.looks []∧∀(j:Nat) t,fn.params[j]? =some t→Tryz.pinned.checked.prog.wantsStandIn t=false:=by
 obtain rfl:f=6:=Option.some.inj ((show Pg.funcNamed Rows.typesLimitsRow.func=some 6 by kernel_rfl).symm.trans hf)|>.symm
 obtain rfl:fn=Tryz.f6:=(Option.some.inj (Tryz.func6.symm.trans hfn)).symm;refine⟨by kernel_rfl,fun j t ht=> ?_⟩;rw[Tryz.params6]at ht;have hm:t=48∨t=5:=by simpa using Array.mem_of_getElem? ht
 rcases hm with rfl|rfl
 ·exact(show Pg.wantsStandIn 48=false by kernel_rfl)
 ·exact(show Pg.wantsStandIn 5=false by kernel_rfl)
theorem proved:Rows.TypesLimitsCardSaid:=
 Claim7.holds_tied_plain_at .later [] _ _ _ _ QP (fun _ h=>by cases h) (by kernel_rfl) (fun _ h=>by cases h) typesLimits_row_tie rfl ⟨rfl,rfl⟩ (by kernel_rfl) rfl hZ (by kernel_rfl)
#print axioms proved
end Go.Proofs.YtcjiafanhlhdlaaGreatDoor.typesLimits
