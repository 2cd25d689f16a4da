/-
  PROVED HERE: teasellaw04.SourceValues returns true for every operation and all numbers, whatever the memory and the order that regions draw. No condition.
-/
import Derived.Test.YtcjiafanhlhdlaaGreatRows
import Derived.Test.YtcjiafanhlhdlaaGreatG12
import Derived.Test.YtcjiafanhlhdlaaGreatG06
namespace Go.Proofs.YtcjiafanhlhdlaaGreat.sourceValues
open Go.ChangeShapes Go.WideShapes Go.ChangeAt Go.RowKit Go.Avm
theorem own:ownKnob Pg.godebug=none:=by kernel_rfl
theorem wV:laidOutB Pg=true:=by kernel_rfl
theorem EF(f:Int)(w0:(Lit.int .u8 f).wf=true)(d:Int)(p:(Lit.int .i64 d).wf=true)(j:Int)(m:(Lit.int .i64 j).wf=true)(w:World):Calls Pg 4 #[.int .u8 f, .int .i64 d, .int .i64 j] w fun e k=>e= .returned (.bool true)∧Below w.heap.size w k:=by
 have ⟨r,s⟩:0≤f∧f≤255:=by
  simp[Lit.wf,IntKind.min,IntKind.max,IntKind.signed,IntKind.bits]at w0;omega
 have ⟨q,c1⟩: -9223372036854775808≤d∧d≤9223372036854775807:=by
  simp[Lit.wf,IntKind.min,IntKind.max,IntKind.signed,IntKind.bits]at p;omega
 have ⟨l,n⟩: -9223372036854775808≤j∧j≤9223372036854775807:=by
  simp[Lit.wf,IntKind.min,IntKind.max,IntKind.signed,IntKind.bits]at m;omega
 refine mZ (rz f d j ⟨l,n⟩) (I:=fun b o=>False) (fun g cs h=>by cases h) (fun _ _ h=>h.elim) rfl ?_;intro i x u a c;match i with
 |0=>simp at a c;subst a;subst c;exact .int _ _
 |1=>simp at a c;subst a;subst c;exact .int _ _
 |2=>simp at a c;subst a;subst c;exact .int _ _
 |i+3=>simp at a
set_option maxRecDepth 100000 in
theorem Bs(s:Os)(c:s.Started)(H:Type)(enc:TypeId×Value→H):
    ReturnsInHanded {} Tryz.checked s 4 .any (Rows.sourceValuesSpec.pre6 enc Pg Tryz.f4 Rows.sourceValuesRow.domain false) (Rows.sourceValuesSpec.post enc Pg Tryz.f4 false true false false):=by
 refine returnsInHanded_of_change (C:=Tryz.checked) own c (by kernel_rfl) Tryz.func4
  (ChangeSpec.witness6 (enc:=enc) (C:=Tryz.checked) false ⟨#[], #[.int .u8 0, .int .i64 0, .int .i64 0],[]⟩ 8 (by kernel_rfl) (by kernel_rfl) (by kernel_rfl) (by kernel_rfl)) ?_
 intro W h a ds gs i g x w _;have b:∀(j:Nat) t v,Tryz.f4.params[j]? =some t→a[j]? =some v→Value.okWide Pg W .any h t v:=g;have m:=x;obtain⟨p,q,l,K,rfl,A,V⟩:=x;have y:DataW.TrodAll enc Pg W 0 (fun _=>true) true Tryz.f4.params.toList a.toList ds p:=l;rw[Tryz.params4]at y b;obtain⟨r,L,Y,E,p0,q0,k,rfl,rfl,F,J⟩:=trodAll_cons y;obtain⟨o,M,d1,N,p1,X,f,rfl,rfl,Q,U⟩:=trodAll_cons J;obtain⟨u,T,d2,z,Z,q2,d,rfl,rfl,h2,G⟩:=trodAll_cons U;obtain⟨rfl,rfl,rfl⟩:=trodAll_nil G;subst d;subst f;obtain rfl:a= #[r,o,u]:=by cases a;simp_all
 obtain⟨rfl,rfl⟩:=trodVars_none K;obtain⟨O,rfl,rfl,rfl,w0⟩:=open_int Tryz.underlying5 (b 0 5 r rfl rfl) F;obtain⟨R,rfl,rfl,rfl,S⟩:=open_int Tryz.underlying2 (b 1 2 o rfl rfl) Q;obtain⟨D,rfl,rfl,rfl,I⟩:=open_int Tryz.underlying2 (b 2 2 u rfl rfl) h2;refine(EF O w0 R S D I W).mono fun e W' ⟨B,P⟩=> ?_
 subst B
 exact⟨_,rfl,tO (tb:=4) wV rfl rfl (by kernel_rfl) Tryz.underlying4 (fun t n=>by
  rw[Tryz.params4]at n;simp at n
  have hm:t=5∨t=2:=by
   rcases n with rfl|rfl|rfl<;>decide
  rcases hm with rfl|rfl
  ·exact⟨by kernel_rfl,xw (by kernel_rfl)⟩
  ·exact⟨by kernel_rfl,xw (by kernel_rfl)⟩) m P⟩
theorem EG:Rows.sourceValuesRow.holds Tryz.pinned (OpenSpec.ofChange Rows.sourceValuesSpec):=
 OpenClaim.holds_of_wide 4 Tryz.f4 rfl rfl rfl rfl rfl rfl rfl ⟨rfl,rfl,rfl,rfl,rfl⟩ rfl rfl rfl rfl rfl (by kernel_rfl) Tryz.func4 (by kernel_rfl)
  (xw (by kernel_rfl)) (by unfold Func.isWrapper;first|(rw[xW (by decide +kernel)];kernel_rfl)|(rw[xi (by decide +kernel)];exact⟨rfl,rfl⟩))
  (fun b a H enc _=>Bs b a H enc)
theorem proved:Rows.SourceValuesSaid:=
 EG
#print axioms proved
end Go.Proofs.YtcjiafanhlhdlaaGreat.sourceValues
