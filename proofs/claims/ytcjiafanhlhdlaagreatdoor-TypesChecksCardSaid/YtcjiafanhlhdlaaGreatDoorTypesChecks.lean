/-
  PROVED HERE: teasellaw03.TypesChecks returns true for every text, whatever the memory (with the listed package variables as they are listed) and the order that regions draw. No other condition.
-/
import Derived.Test.YtcjiafanhlhdlaaGreatDoorCards
import Derived.Test.YtcjiafanhlhdlaaGreatDoorTie
import Derived.Test.YtcjiafanhlhdlaaGreatDoorG16
import Derived.ProofKit
import Derived.OpenShut
import Derived.SevenTiedAt
set_option linter.unusedVariables false
set_option linter.unusedSimpArgs false
set_option linter.unusedSectionVars false
namespace Go.Proofs.YtcjiafanhlhdlaaGreatDoor.typesChecks
open Go.ChangeShapes Go.WideShapes Go.ChangeAt Go.RowKit Go.Avm Go.ChangeMaps
theorem own:ownKnob Pg.godebug=none:=by kernel_rfl
theorem Lq:laidOutB Pg=true:=by kernel_rfl
theorem W5(s:ByteArray)(w:World)(h:wg w):Calls Pg 4 #[.string s] w fun e c=>e= .returned (.bool true)∧Below w.heap.size w c:=by
 refine sZ (Cp s.data.toList) (I:=Cq) (IZ h) (PY h) rfl ?_;intro i x u a b;match i with
 |0=>simp at a b;subst a;subst b;exact .str _ s rfl
 |i+1=>simp at a
set_option maxRecDepth 100000 in
theorem PZ(os:Os)(a:os.Started)(H:Type)(enc:TypeId×Value→H):
    ReturnsInHanded {} Tryz.checked os 4 .any (fun w args=>(Rows.typesChecksSpec.pre enc Pg Tryz.f4 Rows.typesChecksRow.domain false w args∧laidMetH Pg Rows.typesChecksRow.laid w)∧sizedMet enc Pg Tryz.f4 (OpenSpec.ofChange Rows.typesChecksSpec) false w args)
     (Rows.typesChecksSpec.post enc Pg Tryz.f4 false true false false):=by
 refine returnsInHanded_of_change_and (C:=Tryz.checked) (X:=fun w _=>laidMetH Pg Rows.typesChecksRow.laid w) (fun _ _ _ n h=>h.of_heap n) own a (by kernel_rfl) Tryz.func4
  (ChangeSpec.witness_shaped (enc:=enc) (C:=Tryz.checked) (os:=os) (X:=fun w _=>laidMetH Pg Rows.typesChecksRow.laid w) false (World.laidAll Pg os Rows.typesChecksRow.laid) #[.string ByteArray.empty] 8 (World.laidAll_os _ _ _)
   (World.shaped_of_ZipB (by kernel_rfl) (by kernel_rfl)) (by kernel_rfl) (by kernel_rfl) (by kernel_rfl)
   (by rw[MakeChecks.laidMetH_plain _ _ _ (by kernel_rfl)];exact laidMet_laidAll _ (by kernel_rfl) (by kernel_rfl))) ?_
 intro W d args ds G f c l D _ z _;have b:∀(j:Nat) t v,Tryz.f4.params[j]? =some t→args[j]? =some v→Value.okWide Pg W .any d t v:=c;have k:=l;obtain⟨p,q,i,y,rfl,x,B⟩:=l;have m:DataW.TrodAll enc Pg W 0 (fun _=>true) true Tryz.f4.params.toList args.toList ds p:=i;rw[Tryz.params4]at m b;obtain⟨r,E,rfl,rfl,A⟩:=trodAll_one m;obtain⟨rfl,rfl⟩:=trodVars_none y;obtain⟨s,rfl,rfl,rfl,F⟩:=open_string Tryz.underlying9 (b 0 9 r rfl rfl) A;refine(W5 s W (PX z)).mono fun e I ⟨u,o⟩=> ?_
 subst u
 exact⟨_,rfl,Fw (tb:=4) Lq rfl rfl (by kernel_rfl) Tryz.underlying4 (fun t g=>by
  rw[Tryz.params4]at g;simp at g;subst g;exact⟨by kernel_rfl,xe (by kernel_rfl)⟩) k o⟩
theorem W6:Rows.typesChecksRow.holds Tryz.pinned (OpenSpec.ofChange Rows.typesChecksSpec):=
 OpenClaim.holds_of_wide 4 Tryz.f4 rfl rfl rfl rfl rfl rfl rfl ⟨rfl,rfl,rfl,rfl,rfl⟩ rfl rfl rfl rfl rfl (by kernel_rfl) Tryz.func4 (by kernel_rfl)
  (xe (by kernel_rfl)) (by unfold Func.isWrapper;first|(rw[xf (by decide +kernel)];kernel_rfl)|(rw[xo (by decide +kernel)];exact⟨rfl,rfl⟩))
  (fun os a H enc _=>PZ os a H enc)
theorem hD(f:FuncId)(fn:Func)(c:Tryz.pinned.checked.prog.funcNamed Rows.typesChecksRow.func=some f)(a:Tryz.pinned.checked.prog.funcs[f]? =some fn):
    true=Tryz.pinned.checked.prog.looks []∧∀(j:Nat) t,fn.params[j]? =some t→Tryz.pinned.checked.prog.wantsStandIn t=false:=by
 obtain rfl:f=4:=Option.some.inj ((show Pg.funcNamed Rows.typesChecksRow.func=some 4 by kernel_rfl).symm.trans c)|>.symm
 obtain rfl:fn=Tryz.f4:=(Option.some.inj (Tryz.func4.symm.trans a)).symm;refine⟨by kernel_rfl,fun j t b=> ?_⟩;rw[Tryz.params4]at b;obtain rfl:t=9:=by simpa using yv b
 exact(show Pg.wantsStandIn 9=false by kernel_rfl)
theorem proved:Rows.TypesChecksCardSaid:=
 Claim7.holds_tied_plain_at .later [] _ _ _ _ W6 (fun _ h=>by cases h) (by kernel_rfl) (fun _ h=>by cases h) typesChecks_row_tie rfl ⟨rfl,rfl⟩ (by kernel_rfl) rfl hD (by kernel_rfl)
#print axioms proved
end Go.Proofs.YtcjiafanhlhdlaaGreatDoor.typesChecks
