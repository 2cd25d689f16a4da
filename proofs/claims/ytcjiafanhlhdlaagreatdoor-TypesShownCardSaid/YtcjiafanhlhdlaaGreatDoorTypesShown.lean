/-
  PROVED HERE: teasellaw03.TypesShown returns true for every text, whatever the memory (with the listed package variables as they are listed) and the order that regions draw. No other condition.
-/
import Derived.Test.YtcjiafanhlhdlaaGreatDoorCards
import Derived.Test.YtcjiafanhlhdlaaGreatDoorTie
import Derived.Test.YtcjiafanhlhdlaaGreatDoorG16
import Derived.ProofKit
import Derived.OpenShut
import Derived.SevenTiedAt
set_option linter.unusedVariables false
set_option linter.unusedSimpArgs false
set_option linter.unusedSectionVars false
namespace Go.Proofs.YtcjiafanhlhdlaaGreatDoor.typesShown
open Go.ChangeShapes Go.WideShapes Go.ChangeAt Go.RowKit Go.Avm Go.ChangeMaps
theorem own:ownKnob Pg.godebug=none:=by kernel_rfl
theorem MM:laidOutB Pg=true:=by kernel_rfl
theorem XG(s:ByteArray)(w:World)(h:wo w):Calls Pg 3 #[.string s] w fun e c=>e= .returned (.bool true)∧Below w.heap.size w c:=by
 refine ti (FQ s.data.toList) (I:=CL) (JZ h) (Q5 h) rfl ?_;intro i x u a b;match i with
 |0=>simp at a b;subst a;subst b;exact .str _ s rfl
 |i+1=>simp at a
set_option maxRecDepth 100000 in
theorem Q6(os:Os)(a:os.Started)(H:Type)(enc:TypeId×Value→H):
    ReturnsInHanded {} Tryz.checked os 3 .any (fun w args=>(Rows.typesShownSpec.pre enc Pg Tryz.f3 Rows.typesShownRow.domain false w args∧laidMetH Pg Rows.typesShownRow.laid w)∧sizedMet enc Pg Tryz.f3 (OpenSpec.ofChange Rows.typesShownSpec) false w args)
     (Rows.typesShownSpec.post enc Pg Tryz.f3 false true false false):=by
 refine returnsInHanded_of_change_and (C:=Tryz.checked) (X:=fun w _=>laidMetH Pg Rows.typesShownRow.laid w) (fun _ _ _ n h=>h.of_heap n) own a (by kernel_rfl) Tryz.func3
  (ChangeSpec.witness_shaped (enc:=enc) (C:=Tryz.checked) (os:=os) (X:=fun w _=>laidMetH Pg Rows.typesShownRow.laid w) false (World.laidAll Pg os Rows.typesShownRow.laid) #[.string ByteArray.empty] 8 (World.laidAll_os _ _ _)
   (World.shaped_of_ZipB (by kernel_rfl) (by kernel_rfl)) (by kernel_rfl) (by kernel_rfl) (by kernel_rfl)
   (by rw[MakeChecks.laidMetH_plain _ _ _ (by kernel_rfl)];exact laidMet_laidAll _ (by kernel_rfl) (by kernel_rfl))) ?_
 intro W d args ds E f c l F _ x _;have b:∀(j:Nat) t v,Tryz.f3.params[j]? =some t→args[j]? =some v→Value.okWide Pg W .any d t v:=c;have g:=l;obtain⟨p,q,k,z,rfl,u,B⟩:=l;have m:DataW.TrodAll enc Pg W 0 (fun _=>true) true Tryz.f3.params.toList args.toList ds p:=k;rw[Tryz.params3]at m b;obtain⟨A,I,rfl,rfl,y⟩:=trodAll_one m;obtain⟨rfl,rfl⟩:=trodVars_none z;obtain⟨s,rfl,rfl,rfl,D⟩:=open_string Tryz.underlying9 (b 0 9 A rfl rfl) y;refine(XG s W (Q4 x)).mono fun e G ⟨r,o⟩=> ?_
 subst r
 exact⟨_,rfl,Gl (tb:=4) MM rfl rfl (by kernel_rfl) Tryz.underlying4 (fun t i=>by
  rw[Tryz.params3]at i;simp at i;subst i;exact⟨by kernel_rfl,yC (by kernel_rfl)⟩) g o⟩
theorem XH:Rows.typesShownRow.holds Tryz.pinned (OpenSpec.ofChange Rows.typesShownSpec):=
 OpenClaim.holds_of_wide 3 Tryz.f3 rfl rfl rfl rfl rfl rfl rfl ⟨rfl,rfl,rfl,rfl,rfl⟩ rfl rfl rfl rfl rfl (by kernel_rfl) Tryz.func3 (by kernel_rfl)
  (yC (by kernel_rfl)) (by unfold Func.isWrapper;first|(rw[x9 (by decide +kernel)];kernel_rfl)|(rw[xj (by decide +kernel)];exact⟨rfl,rfl⟩))
  (fun os a H enc _=>Q6 os a H enc)
theorem hP(f:FuncId)(fn:Func)(c:Tryz.pinned.checked.prog.funcNamed Rows.typesShownRow.func=some f)(a:Tryz.pinned.checked.prog.funcs[f]? =some fn):
    true=Tryz.pinned.checked.prog.looks []∧∀(j:Nat) t,fn.params[j]? =some t→Tryz.pinned.checked.prog.wantsStandIn t=false:=by
 obtain rfl:f=3:=Option.some.inj ((show Pg.funcNamed Rows.typesShownRow.func=some 3 by kernel_rfl).symm.trans c)|>.symm
 obtain rfl:fn=Tryz.f3:=(Option.some.inj (Tryz.func3.symm.trans a)).symm;refine⟨by kernel_rfl,fun j t b=> ?_⟩;rw[Tryz.params3]at b;obtain rfl:t=9:=by simpa using yx b
 exact(show Pg.wantsStandIn 9=false by kernel_rfl)
theorem proved:Rows.TypesShownCardSaid:=
 Claim7.holds_tied_plain_at .later [] _ _ _ _ XH (fun _ h=>by cases h) (by kernel_rfl) (fun _ h=>by cases h) typesShown_row_tie rfl ⟨rfl,rfl⟩ (by kernel_rfl) rfl hP (by kernel_rfl)
#print axioms proved
end Go.Proofs.YtcjiafanhlhdlaaGreatDoor.typesShown
