/-
  The abstract machine, part Mb: in whatever order a region draws its steps, they end as they do one behind the other, if steps that may change places touch unlike things.
-/
import Derived.Test.YtcjiafanhlhdlaaGreatDoorG03
import Derived.RangeFuncNested
import Derived.RangeFuncRecord
import Derived.RangeFuncLeaves
set_option linter.unusedVariables false
set_option linter.unusedSimpArgs false
set_option linter.unusedSectionVars false
namespace Go.Avm
open Go.RowKit
variable[aJ]
theorem bV:∀(wr:List (Nat×aN))(h:ab){k:Nat},k∉wr.map (·.1)→aq h wr k=h k
 |[],_,_,_=>rfl
 |(a,e)::r,h,k,hk=>by
  simp only[List.map_cons,List.mem_cons,not_or]at hk;simp only[aq];rw[bV r _ hk.2,am _ _ hk.1]
theorem lW:∀(wr:List (Nat×aN))(h h2:ab){k:Nat},k∈wr.map (·.1)→aq h wr k=aq h2 wr k
 |[],_,_,_,hk=>by simp at hk
 |(a,e)::r,h,h2,k,hk=>by
  simp only[aq];by_cases hr:k∈r.map (·.1)
  ·exact lW r _ _ hr
  ·rw[bV r _ hr,bV r _ hr]
   simp only[List.map_cons,List.mem_cons,hr,or_false]at hk;subst hk;rw[ak,ak]
theorem xO{a b:List (Nat×aN)}(h:ab)(hd:∀k,k∈a.map (·.1)→k∉b.map (·.1)):aq (aq h a) b=aq (aq h b) a:=by
 funext k;by_cases ha:k∈a.map (·.1)
 ·rw[bV b _ (hd k ha)]
  exact lW a _ _ ha
 ·rw[bV a _ ha]
  by_cases hb:k∈b.map (·.1)
  ·exact lW b _ _ hb
  ·rw[bV b _ hb,bV b _ hb,bV a _ ha]
theorem jh{N:Nat}{env env':Nat→AV}{dst:Option Nat}{x:AV}(h:dS N env dst x=some env'){t:Nat}(ht:dst≠some t):env' t=env t:=by
 cases dst with
 |none=>simp only[dS,Option.some.injEq]at h;rw[h]
 |some d=>
  simp only[dS]at h;split at h
  ·simp only[Option.some.injEq]at h
   subst h;exact am _ _ (fun e=>ht (by rw[e]))
  ·cases h
theorem CM{N:Nat}{env e1 e2:Nat→AV}{d d':Option Nat}{x y:AV}(hne:∀t,d=some t→d'≠some t)(h1:dS N env d x=some e1)(h2:dS N e1 d' y=some e2):
    ∃e1',dS N env d' y=some e1'∧dS N e1' d x=some e2:=by
 cases d with
 |none=>simp only[dS,Option.some.injEq]at h1;subst h1;exact⟨e2,h2,rfl⟩
 |some a=>
  cases d' with
  |none=>simp only[dS,Option.some.injEq]at h2;subst h2;exact⟨env,rfl,h1⟩
  |some b=>
   simp only[dS]at h1 h2 ⊢;split at h1
   ·rename_i ha
    split at h2
    ·rename_i hb
     simp only[Option.some.injEq]at h1 h2;subst h1;subst h2;refine⟨aM env b y,by rw[if_pos hb], ?_⟩;rw[if_pos ha,DT _ _ _ (fun e=>hne b (by rw[e]) rfl)]
    ·cases h2
   ·cases h1
section
variable{P:Program}{cfg:iA}{N:Nat}{ops:Array Oper}
def D1(ops:Array Oper)(o:Oper)(ft:Foot)(S S':St):Prop:=
 (∀t∈o.looksAt ops,S'.env t=S.env t)∧(ft.all=true→S'.heap=S.heap)∧(ft.all=false→∀k∈ft.rd,S'.heap k=S.heap k)
theorem cI{o:Oper}{env env':Nat→AV}(h:∀t∈o.looksAt ops,env' t=env t):db ops o env'=db ops o env:=by
 unfold db;cases hg:o.guard with
 |none=>rfl
 |some gw=>
  obtain⟨j,want⟩:=gw;simp only;cases ht:(ops[j]?).bind (·.dst)with
  |none=>rfl
  |some t=>
   simp only;rw[h t (by simp[Oper.looksAt,hg,ht])]
theorem jG{o:Oper}{env env':Nat→AV}(h:∀t∈o.looksAt ops,env' t=env t):∀x∈o.op.operands,opd env' x=opd env x:=by
 intro x hx;cases x with
 |tmp t=>exact h t (List.mem_append_left _ (List.mem_filterMap.2 ⟨.tmp t,by simpa using hx,rfl⟩))
 |_=>rfl
theorem eJ{o:Oper}{env env':Nat→AV}(h:∀t∈o.looksAt ops,env' t=env t):dr o env'=dr o env:=by
 have ho:=jG h;unfold dr;cases hop:o.op with
 |call c=>
  simp only;rw[hop]at ho;simp only[Op.operands]at ho;cases hc:c.callee with
  |value f=>
   simp only;have hargs:c.args.toList.map (opd env')=c.args.toList.map (opd env):=List.map_congr_left fun x hx=>ho x (by simp[Call.operands,Array.mem_toList_iff.1 hx])
   rw[ho f (by simp[Call.operands,hc]),hargs]
  |_=>rfl
 |_=>rfl
theorem xP{o:Oper}{env env':Nat→AV}(h:∀t∈o.looksAt ops,env' t=env t):nC o env'=nC o env:=by
 have ho:=jG h;unfold nC;cases hop:o.op with
 |call c=>
  simp only;rw[hop]at ho;simp only[Op.operands]at ho;cases hc:c.callee with
  |value f=>
   simp only;have hargs:c.args.toList.map (opd env')=c.args.toList.map (opd env):=List.map_congr_left fun x hx=>ho x (by simp[Call.operands,Array.mem_toList_iff.1 hx])
   rw[ho f (by simp[Call.operands,hc]),hargs]
  |_=>rfl
 |_=>rfl
theorem v8(post:List Nat)(h1:ab):(gI post h1).map (·.1)=post:=by
 unfold gI;rw[List.map_map];exact List.map_id' _
theorem ez{i:Nat}{o:Oper}{S S1:St}{ob:List Obl}{ft:Foot}(hs:bF P cfg N ops i o S=some (S1,ob,ft)):
    ∃(v:AV)(act:ab→ab),dS N S.env o.dst v=some S1.env∧S1.heap=act S.heap∧(ft.all=false→∃wr,act=(fun hh=>aq hh wr)∧ft.wr=wr.map (·.1))∧(ft.all=true→(∃h',act=fun _=>h')∧∀k,k∉ft.wr→act S.heap k=S.heap k)∧
     ∀S' env',D1 ops o ft S S'→dS N S'.env o.dst v=some env'→bF P cfg N ops i o S'=some (⟨env',act S'.heap⟩,ob,ft):=by
 unfold bF at hs;split at hs
 ·rename_i hw
  split at hs
  ·rename_i rs h' tk hhc
   split at hs;case isFalse=>cases hs
   rename_i htk;split at hs
   ·rename_i g args hco
    simp only[Option.map_eq_some_iff,Prod.mk.injEq]at hs;obtain⟨env,hp,rfl,rfl,rfl⟩:=hs;refine⟨gY rs,fun _=>h',hp,rfl,fun hx=>(by simp at hx),fun _=>⟨⟨h',rfl⟩,htk⟩,fun S' env' ha hp'=> ?_⟩;have hh:S'.heap=S.heap:=ha.2.1 rfl;unfold bF;rw[cI ha.1,hw];simp only[hhc];rw[eJ ha.1,hco,hh,if_pos htk];simp only[hp',Option.map_some]
   ·rename_i hcn
    split at hs
    ·rename_i k v args hco
     simp only[Option.map_eq_some_iff,Prod.mk.injEq]at hs;obtain⟨env,hp,rfl,rfl,rfl⟩:=hs;refine⟨gY rs,fun _=>h',hp,rfl,fun hx=>(by simp at hx),fun _=>⟨⟨h',rfl⟩,htk⟩,fun S' env' ha hp'=> ?_⟩;have hh:S'.heap=S.heap:=ha.2.1 rfl;unfold bF;rw[cI ha.1,hw];simp only[hhc];rw[eJ ha.1,hcn,xP ha.1,hco,hh,if_pos htk];simp only[hp',Option.map_some]
    ·cases hs
  ·rename_i pre rs post hhc
   split at hs
   ·rename_i g args hco
    split at hs;case isFalse=>cases hs
    rename_i hfits;simp only[Option.map_eq_some_iff,Prod.mk.injEq]at hs;obtain⟨env,hp,rfl,rfl,rfl⟩:=hs;refine⟨gY rs,fun hh=>aq hh post.reverse,hp,rfl,fun _=>⟨post.reverse,rfl,rfl⟩,fun hx=>(by simp at hx),fun S' env' ha hp'=> ?_⟩;unfold bF;rw[cI ha.1,hw];simp only[hhc];rw[eJ ha.1,hco]
    have hf2:mn S'.heap pre:=fun p hp=>by
     rw[ha.2.2 rfl p.1 (List.mem_map_of_mem hp)];exact hfits p hp
    simp only[hp',Option.map_some];rw[if_pos hf2]
   ·cases hs
  ·rename_i pre h0 rs post h1 hhc
   split at hs
   ·rename_i g args hco
    split at hs;case isFalse=>cases hs
    rename_i hfits;simp only[Option.map_eq_some_iff,Prod.mk.injEq]at hs;obtain⟨env,hp,rfl,rfl,rfl⟩:=hs;refine⟨gY rs,fun hh=>aq hh (gI post h1),hp,rfl,fun _=>⟨gI post h1,rfl,(v8 post h1).symm⟩,fun hx=>(by simp at hx),fun S' env' ha hp'=> ?_⟩;unfold bF;rw[cI ha.1,hw];simp only[hhc];rw[eJ ha.1,hco]
    have hf2:∀k∈pre,S'.heap k=h0 k:=fun k hk=>by
     rw[ha.2.2 rfl k hk];exact hfits k hk
    simp only[hp',Option.map_some];rw[if_pos hf2]
   ·cases hs
  ·rename_i hhc
   split at hs
   ·rename_i out hc
    simp only[Option.map_eq_some_iff,Prod.mk.injEq]at hs;obtain⟨env,hp,rfl,rfl,rfl⟩:=hs;refine⟨out.val,fun hh=>aq hh out.wr,hp,rfl,fun _=>⟨out.wr,rfl,rfl⟩,fun hx=>(by simp at hx),fun S' env' ha hp'=> ?_⟩;unfold bF;rw[cI ha.1,hw];simp only[hhc]
    have hc':bN P cfg i o (opd S'.env) S'.heap=some out:=by
     rw[zM (jG ha.1)];exact sm hc (ha.2.2 rfl)
    simp only[hc',hp',Option.map_some]
   ·cases hs
 ·rename_i hw
  simp only[Option.map_eq_some_iff,Prod.mk.injEq]at hs;obtain⟨env,hp,rfl,rfl,rfl⟩:=hs;refine⟨.tup [],fun hh=>aq hh [],hp,rfl,fun _=>⟨[],rfl,rfl⟩,fun hx=>(by simp at hx),fun S' env' ha hp'=> ?_⟩;unfold bF;rw[cI ha.1,hw];simp only[hp',Option.map_some,aq]
 ·cases hs
def Foot.apart(x y:Foot):Bool:=
 if x.all then !y.all&&y.wr.isEmpty&&y.rd.all (fun k=> !x.wr.contains k)
 else if y.all then x.wr.isEmpty&&x.rd.all (fun k=> !y.wr.contains k)
 else x.wr.all (fun k=> !y.rd.contains k&& !y.wr.contains k)&&y.wr.all (fun k=> !x.rd.contains k)
theorem m4{i j:Nat}{oi oj:Oper}{S S1 S2:St}{obi obj:List Obl}{fi fj:Foot}(hap:oi.apart ops oj=true)(hf:fi.apart fj=true)(hi:bF P cfg N ops i oi S=some (S1,obi,fi))
    (hj:bF P cfg N ops j oj S1=some (S2,obj,fj)):∃S1',bF P cfg N ops j oj S=some (S1',obj,fj)∧bF P cfg N ops i oi S1'=some (S2,obi,fi):=by
 obtain⟨g1,g2,g3⟩:=Oper.apart_spec hap;obtain⟨vi,ai,hpi,hhi,hwi,hAi,hli⟩:=ez hi;obtain⟨vj,aj,hpj,hhj,hwj,hAj,hlj⟩:=ez hj;obtain⟨e1',hq1,hq2⟩:=CM g2 hpi hpj
 have hnw:∀{f:Foot}{a:ab→ab},(f.all=false→∃wr,a=(fun hh=>aq hh wr)∧f.wr=wr.map (·.1))→f.all=false→f.wr=[]→∀hh,a hh=hh:=by
  intro f a hw hall hnil hh;obtain⟨wr,rfl,hk⟩:=hw hall;rw[hnil]at hk;have:wr=[]:=List.map_eq_nil_iff.1 hk.symm;rw[this];rfl
 have hne:∀{f:Foot}{a:ab→ab},(f.all=false→∃wr,a=(fun hh=>aq hh wr)∧f.wr=wr.map (·.1))→f.all=false→∀hh k,k∉f.wr→a hh k=hh k:=by
  intro f a hw hall hh k hk;obtain⟨wr,rfl,hkk⟩:=hw hall;exact bV wr _ (by rw[←hkk];exact hk)
 have agj:D1 ops oj fj S1 S:=by
  refine⟨fun t ht=>(jh hpi (fun e=>g1 t e ht)).symm,fun hall=> ?_,fun hall k hk=> ?_⟩
  ·rw[hhi]
   cases hia:fi.all with
   |true=>simp[Foot.apart,hia,hall]at hf
   |false=>
    simp[Foot.apart,hia,hall]at hf;exact(hnw hwi hia hf.1 _).symm
  ·rw[hhi]
   cases hia:fi.all with
   |true=>
    simp[Foot.apart,hia,hall]at hf;exact((hAi hia).2 k (hf.2 k hk)).symm
   |false=>
    simp[Foot.apart,hia,hall]at hf;exact(hne hwi hia _ k (fun hx=>(hf.1 k hx).1 hk)).symm
 have h1:=hlj S e1' agj hq1;refine⟨_,h1, ?_⟩
 have agi:D1 ops oi fi S ⟨e1',aj S.heap⟩:=by
  refine⟨fun t ht=>jh hq1 (fun e=>g3 t e ht),fun hall=> ?_,fun hall k hk=> ?_⟩
  ·simp[Foot.apart,hall]at hf
   exact hnw hwj hf.1.1 hf.1.2 _
  ·cases hja:fj.all with
   |true=>
    simp[Foot.apart,hall,hja]at hf;obtain⟨⟨h',rfl⟩,hkeep⟩:=hAj hja;have hs1:S1.heap=S.heap:=by rw[hhi];exact hnw hwi hall hf.1 _
    have:=hkeep k (hf.2 k hk);rw[hs1]at this;exact this
   |false=>
    simp[Foot.apart,hall,hja]at hf;exact hne hwj hja _ k (fun hx=>hf.2 k hx hk)
 have h2:=hli _ S2.env agi hq2;rw[h2]
 have:ai (aj S.heap)=S2.heap:=by
  rw[hhj,hhi];cases hia:fi.all with
  |true=>
   simp[Foot.apart,hia]at hf;rw[hnw hwj hf.1.1 hf.1.2,hnw hwj hf.1.1 hf.1.2]
  |false=>
   cases hja:fj.all with
   |true=>
    simp[Foot.apart,hia,hja]at hf;rw[hnw hwi hia hf.1,hnw hwi hia hf.1]
   |false=>
    simp[Foot.apart,hia,hja]at hf;obtain⟨wi,rfl,hki⟩:=hwi hia;obtain⟨wj,rfl,hkj⟩:=hwj hja;exact xO _ (fun k hk hx=>(hf.1 k (by rw[hki];exact hx)).2 (by rw[hkj];exact hk))
 rw[this]
def D2(P:Program)(cfg:iA)(N:Nat)(ops:Array Oper)(F:Nat→Foot):Nat→Array Bool→St→St→Prop
 |0,listed,S,Sf=>Region.ready .any ops listed=[]∧S=Sf
 |fuel+1,listed,S,Sf=>(Region.ready .any ops listed=[]→S=Sf)∧
  ∀i∈Region.ready .any ops listed,∃o S1 ob,ops[i]? =some o∧bF P cfg N ops i o S=some (S1,ob,F i)∧fT P ob∧D2 P cfg N ops F fuel (listed.setIfInBounds i true) S1 Sf
def Bk(ops:Array Oper)(F:Nat→Foot)(listed:Array Bool)(i:Nat):Bool:=
 match ops[i]? with
 |none=>false
 |some oi=>(List.range ops.size).all fun j=>j==i||listed.getD j true||match ops[j]? with
     |some oj=>oj.after.any (fun e=>Region.binds .any e&&e.on==i)||(oi.apart ops oj&&(F i).apart (F j))
     |none=>true
theorem zN{F:Nat→Foot}{i:Nat}{oi:Oper}{listed:Array Bool}(hi:ops[i]? =some oi)(h:Bk ops F listed i=true)(j:Nat)(oj:Oper)
    (hj:ops[j]? =some oj) (hne:j≠i) (hun:listed.getD j true=false) (hno:∀e∈oj.after,Region.binds .any e=true→e.on≠i):
    oi.apart ops oj=true∧(F i).apart (F j)=true:=by
 simp only[Bk,hi,List.all_eq_true,List.mem_range]at h;have h1:=h j (Array.getElem?_eq_some_iff.1 hj).1;simp only[hj,Bool.or_eq_true,beq_iff_eq,hne,false_or,hun,Bool.false_eq_true]at h1;rcases h1 with h1|h1
 ·obtain⟨e,he,hb⟩:=Array.any_eq_true'.1 h1
  simp only[Bool.and_eq_true,beq_iff_eq]at hb;exact absurd hb.2 (hno e he hb.1)
 ·simpa using h1
def JR(ops:Array Oper)(listed:Array Bool)(i:Nat):Nat→Nat→Array Bool→Array Bool
 |0,_,bl=>bl
 |fuel+1,k,bl=>JR ops listed i fuel (k+1) (bl.push (match ops[k]? with
     |some ok=> !(k==i)&&(!(listed.getD k true)&&ok.after.any fun e=>Region.binds .any e&&(e.on==i||bl.getD e.on false))
     |none=>false))
def JS(ops:Array Oper)(listed:Array Bool)(i:Nat)(bl:Array Bool)(j:Nat)(oj:Oper):Bool:=
 !(j==i)&&(!(listed.getD j true)&&oj.after.any fun e=>Region.binds .any e&&(e.on==i||(decide (e.on<ops.size)&&bl.getD e.on false)))
def D3(ops:Array Oper)(F:Nat→Foot)(listed:Array Bool)(i:Nat)(bl:Array Bool):Bool:=
 match ops[i]? with
 |none=>false
 |some oi=>(List.range ops.size).all fun j=>match ops[j]? with
     |some oj=>match bl.getD j false with
      |true=>JS ops listed i bl j oj
      |false=>j==i||listed.getD j true||(oi.apart ops oj&&(F i).apart (F j))
     |none=>true
def HS(ops:Array Oper)(F:Nat→Foot)(oi:Oper)(i:Nat)(listed:Array Bool):Prop:=
 ∃B:Nat→Bool,(∀j oj,ops[j]? =some oj→B j=true→j≠i∧listed.getD j true=false∧∃e∈oj.after,Region.binds .any e=true∧(e.on=i∨((∃ok,ops[e.on]? =some ok)∧B e.on=true)))∧
  ∀j oj,ops[j]? =some oj→j≠i→listed.getD j true=false→B j=false→(∀e∈oj.after,Region.binds .any e=true→e.on≠i)→oi.apart ops oj=true∧(F i).apart (F j)=true
theorem zO{F:Nat→Foot}{i:Nat}{oi:Oper}{listed:Array Bool}(hi:ops[i]? =some oi)(h:Bk ops F listed i=true):HS ops F oi i listed:=
 ⟨fun _=>false,fun _ _ _ h=>(by cases h),fun j oj h1 h2 h3 _ h4=>zN hi h j oj h1 h2 h3 h4⟩
theorem zP{F:Nat→Foot}{i:Nat}{oi:Oper}{listed:Array Bool}{bl:Array Bool}(hi:ops[i]? =some oi)(h:D3 ops F listed i bl=true):HS ops F oi i listed:=by
 simp only[D3,hi,List.all_eq_true,List.mem_range]at h;refine⟨fun j=>bl.getD j false,fun j oj hj hb=> ?_,fun j oj hj hne hun hb _=> ?_⟩
 ·have hb:bl.getD j false=true:=hb
  have h1:=h j (Array.getElem?_eq_some_iff.1 hj).1;rw[hj]at h1;simp only[hb]at h1;unfold JS at h1;simp only[Bool.and_eq_true,Bool.not_eq_true',beq_eq_false_iff_ne,ne_eq]at h1;obtain⟨h2,h3,h4⟩:=h1;obtain⟨e,he,hb2⟩:=Array.any_eq_true'.1 h4;simp only[Bool.and_eq_true,Bool.or_eq_true,beq_iff_eq,decide_eq_true_eq]at hb2;refine⟨h2,h3,e,he,hb2.1, ?_⟩;rcases hb2.2 with h5|h5
  ·exact .inl h5
  ·exact .inr ⟨⟨ops[e.on]'h5.1,Array.getElem?_eq_getElem h5.1⟩,h5.2⟩
 ·have hb:bl.getD j false=false:=hb
  have h1:=h j (Array.getElem?_eq_some_iff.1 hj).1;rw[hj]at h1;simp only[hb,Bool.or_eq_true,beq_iff_eq,hne,false_or,hun,Bool.false_eq_true,Bool.and_eq_true]at h1;exact h1
theorem zQ{F:Nat→Foot}{i:Nat}{oi:Oper}(hi:ops[i]? =some oi){ob:List Obl}(hob:fT P ob):
    ∀(fuel:Nat)(listed:Array Bool)(S S1 Sf:St),HS ops F oi i listed→
     i∈Region.ready .any ops listed→bF P cfg N ops i oi S=some (S1,ob,F i)→
     D2 P cfg N ops F fuel (listed.setIfInBounds i true) S1 Sf→D2 P cfg N ops F (fuel+1) listed S Sf:=by
 intro fuel;induction fuel with
 |zero=>
  intro listed S S1 Sf _ hr hy H;refine⟨fun h=>(by rw[h]at hr;cases hr),fun j hj=> ?_⟩;by_cases hji:j=i
  ·subst hji;exact⟨oi,S1,ob,hi,hy,hob,H⟩
  ·have:=ready_mono hj hji
   rw[H.1]at this;cases this
 |succ fuel ih=>
  intro listed S S1 Sf hfree hr hy H;refine⟨fun h=>(by rw[h]at hr;cases hr),fun j hj=> ?_⟩;by_cases hji:j=i
  ·subst hji;exact⟨oi,S1,ob,hi,hy,hob,H⟩
  ·obtain⟨oj',S2,obj,hoj',hstj,hobj,H2⟩:=H.2 j (ready_mono hj hji)
   obtain⟨hjun,oj,hoj,hall⟩:=mem_ready.1 hj;have heq:oj'=oj:=by rw[hoj]at hoj';exact(Option.some.inj hoj').symm
   subst heq
   have hlisted:∀t,listed.getD t true=false→∀e∈oj'.after,Region.binds .any e=true→e.on≠t:=fun t h0 e he hb heq=>by
    have h1:=hall e he hb;rw[heq]at h1;rcases Nat.lt_or_ge t listed.size with h'|h'
    ·simp[h']at h0 h1;rw[h0]at h1;cases h1
    ·simp[Array.getElem?_eq_none h']at h1
   have hnot:=hlisted i (mem_ready.1 hr).1;obtain⟨B,hB1,hB2⟩:=hfree
   have hBj:B j=false:=by
    cases hb:B j with
    |false=>rfl
    |true=>
     obtain⟨_,_,e,he,h1,h2⟩:=hB1 j oj' hoj hb;rcases h2 with h2|⟨⟨ok,hok⟩,h2⟩
     ·exact absurd h2 (hnot e he h1)
     ·exact absurd rfl (hlisted e.on (hB1 e.on ok hok h2).2.1 e he h1)
   obtain⟨a1,a2⟩:=hB2 j oj' hoj hji hjun hBj hnot;obtain⟨S1',k1,k2⟩:=m4 a1 a2 hy hstj
   have hun':∀k,(listed.setIfInBounds j true).getD k true=false→listed.getD k true=false:=fun k hun=>by
    by_cases hjk:j=k
    ·subst hjk;exact hjun
    ·rw[getD_set_ne true hjk]at hun;exact hun
   have hfree':HS ops F oi i (listed.setIfInBounds j true):=⟨B,fun k ok hk hb=>by
    obtain⟨g1,g2,g3⟩:=hB1 k ok hk hb;have hjk:j≠k:=fun e=>by rw[e,hb]at hBj;cases hBj
    exact⟨g1,by rw[getD_set_ne true hjk];exact g2,g3⟩,fun k ok hk hki hun hb hno=>hB2 k ok hk hki (hun' k hun) hb hno⟩
   refine⟨oj',S1',obj,hoj,k1,hobj,ih (listed.setIfInBounds j true) S1' S2 Sf hfree' (ready_mono hr (Ne.symm hji)) k2 ?_⟩;rw[Array.setIfInBounds_comm _ _ hji];exact H2
def D4(ops:Array Oper)(F:Nat→Foot):Nat→Nat→Array Bool→Bool
 |0,_,listed=>(Region.ready .any ops listed).isEmpty
 |fuel+1,k,listed=>(Region.ready .any ops listed).contains k&&(Bk ops F listed k||D3 ops F listed k (JR ops listed k ops.size 0 #[]))&&D4 ops F fuel (k+1) (listed.setIfInBounds k true)
def so(ops:Array Oper)(fts:List Foot):Bool:=D4 ops (fun i=>(fts[i]?).getD ⟨0,[],[],false⟩) ops.size 0 (Array.replicate ops.size false)
theorem xQ{F:Nat→Foot}:∀(n k:Nat)(listed:Array Bool)(S Sf:St)(ob:List Obl)(fts:List Foot),dm P cfg N ops (List.range' k n) S=some (Sf,ob,fts)→fT P ob→
    (∀j f,fts[j]? =some f→F (k+j)=f)→D4 ops F n k listed=true→D2 P cfg N ops F n listed S Sf
 |0,k,listed,S,Sf,ob,fts,hr,_,_,hl=>by
  simp only[List.range'_zero,dm,Option.some.injEq,Prod.mk.injEq]at hr;exact⟨by simpa [D4]using hl,hr.1⟩
 |n+1,k,listed,S,Sf,ob,fts,hr,hob,hF,hl=>by
  rw[List.range'_succ]at hr;simp only[dm]at hr;split at hr
  ·cases hr
  ·rename_i o ho
   split at hr
   ·cases hr
   ·rename_i st hst
    split at hr
    ·cases hr
    ·rename_i rs hrs
     simp only[Option.some.injEq,Prod.mk.injEq]at hr;obtain⟨rfl,rfl,rfl⟩:=hr;obtain⟨S1,ob1,ft1⟩:=st;obtain⟨S2,ob2,ft2⟩:=rs;simp only[D4,Bool.and_eq_true]at hl;obtain⟨⟨h1,h2⟩,h3⟩:=hl;have hft:F k=ft1:=by simpa using hF 0 ft1 (by simp)
     refine zQ ho (fun c hc=>hob c (List.mem_append_left _ hc)) n listed S S1 S2 ((Bool.or_eq_true _ _▸h2).elim (zO ho) (zP ho)) (by simpa using h1) (by rw[hft];exact hst)
      (xQ n (k+1) _ S1 S2 ob2 ft2 hrs (fun c hc=>hob c (List.mem_append_right _ hc)) (fun j f hj=> ?_) h3)
     have:=hF (j+1) f (by simpa using hj);rw[←this];congr 1;omega
variable{G:Gh}{B:Nat}{w0 w:World}{I0:Nat→Nat→Prop}
theorem mB{D:List Deferred}(hx:iG P)(r:Option Nat)(n:Nat){F:Nat→Foot}{Q:Exit→Act→World→Prop}{Sf:St}:∀(fuel:Nat)(listed:Array Bool)(G:Gh)(w:World)(S:St)(a:Act),HR G B w0 I0 S.heap w→FR G w N D S.env a→D2 P cfg N ops F fuel listed S Sf→
    (∀a' w' G',Ext G w G' w'→HR G' B w0 I0 Sf.heap w'→FR G' w' N D Sf.env a'→Q .normal a' w')→wpAnyIn (FF r) n P .any ops Q fuel listed a w
 |0,listed,G,w,S,a,hr,hf,h,hq=>by
  obtain⟨h1,rfl⟩:=h;exact⟨h1,hq a w G (Ext.refl G w) hr hf⟩
 |fuel+1,listed,G,w,S,a,hr,hf,h,hq=>by
  refine⟨fun hn=> ?_,fun i hi=> ?_⟩
  ·have:=h.1 hn
   subst this;exact hq a w G (Ext.refl G w) hr hf
  ·obtain⟨o,S1,ob,ho,hst,hob,h2⟩:=h.2 i hi
   unfold wpOpIn;simp only[ho];exact fO hx hr hf hst hob r n (fun a' w' G' e1 h3 h4=>mB hx r n fuel _ G' w' S1 a' h3 h4 h2 (fun a2 w2 G2 g1 g2 g3=>hq a2 w2 G2 (e1.trans g1) g2 g3))
theorem o7{D:List Deferred}(hm:g0 P)(r:Option Nat)(n:Nat){id:Nat}{S Sf:St}{a:Act}{ob:List Obl}{fts:List Foot}{Q:Exit→Act→World→Prop}(hr:HR G B w0 I0 S.heap w)(hf:FR G w N D S.env a)
    (hrun:dm P cfg N ops (List.range ops.size) S=some (Sf,ob,fts)) (hl:so ops fts=true) (hob:fT P ob)
    (hq:∀a' w' G',Ext G w G' w'→HR G' B w0 I0 Sf.heap w'→FR G' w' N D Sf.env a'→Q .normal a' w'):(Code.region id ops true).wpIn (FF r) n P Q a w:=by
 refine wpIn_region_any hm.mixed ?_;rw[List.range_eq_range']at hrun;have hany:=xQ ops.size 0 (Array.replicate ops.size false) S Sf ob fts hrun hob (fun j f hj=>by simp[hj]) hl;exact mB hm.ext r n ops.size _ G w.drew S a hr.drew (hf.mono (Ext.drew G w)) hany (fun a' w' G' e1 h1 h2=>hq a' w' G' ((Ext.drew G w).trans e1) h1 h2)
end
end Go.Avm
namespace Go.Avm
open Go.RowKit
variable[aJ]
def iY(P:Program)(f:Nat)(args:List AV)(h:ab)(x:AV)(h':ab):Prop:=
 dc P f∧∀(G:Gh)(B:Nat)(w0:World)(I0:Nat→Nat→Prop)(w:World)(cargs:Array Value),HR G B w0 I0 h w→cargs.size=args.length→
  (∀(i:Nat)(x:AV)(u:Value),args[i]? =some x→cargs[i]? =some u→Rep G w x u)→
  Calls P f cargs w fun e w'=>∃v G',e= .panicked [{v,recovered:=false}]∧Ext G w G' w'∧HR G' B w0 I0 h' w'∧Rep G' w' x v
def CN(P:Program)(o:Oper)(S:St)(x:AV)(h':ab):Prop:=
 (∃u t y,o.op= .panic u∧opd S.env u=x∧x= .iv t y∧h'=S.heap)∨(∃g args,dr o S.env=some (g,args)∧iY P g args S.heap x h')
def m5(ops:Array Oper):List Nat:=ops.toList.filterMap (·.dst)
def lc(ops:Array Oper)(env:Nat→AV):Nat→AV:=fun t=>if (m5 ops).contains t=true then .junk else env t
section
variable{P:Program}{cfg:iA}{N:Nat}{ops:Array Oper}{G:Gh}{B:Nat}{w0 w:World}{I0:Nat→Nat→Prop}
theorem nS{p:Nat}{o:Oper}(ho:ops[p]? =some o){t:Nat}(ht:(m5 ops).contains t=false):o.dst≠some t:=fun e=>by
 have:t∈m5 ops:=List.mem_filterMap.2 ⟨o,by rw[Array.mem_toList_iff];exact Array.mem_of_getElem? ho,e⟩;rw[List.contains_iff_mem.2 this]at ht;cases ht
theorem zR{D:List Deferred}{o:Oper}{S:St}{x:AV}{h':ab}(r:Option Nat)(n:Nat){a:Act}{next:Act→World→Prop}{Q:Exit→Act→World→Prop}(hr:HR G B w0 I0 S.heap w)(hf:FR G w N D S.env a)
    (hp:CN P o S x h') (hq:∀v w' G',Ext G w G' w'→HR G' B w0 I0 h' w'→FR G' w' N D S.env a→Rep G' w' x v→Q (.panic [{v,recovered:=false}]) a w'):o.wpIn (FF r) n P a w next Q:=by
 rcases hp with ⟨u,t,y,hop,hx,rfl,rfl⟩|⟨g,args,hco,hcb,hcall⟩
 ·have hru:=hf.opd hr.maps.glob u
  rw[hx]at hru
  obtain⟨v,hv,hrv⟩:∃v,a.eval u= .iface t v∧Rep G w (.iv t y) (.iface t v):=by
   generalize a.eval u=vu at hru;cases hru with
   |iv _ v h=>exact⟨v,rfl, .iv _ v h⟩
  have hrun:(execOp a.eval o).run P w= .halt (.panic (.iface t v)) w:=by
   unfold execOp;rw[hop];simp only[hv];rfl
  exact⟨fun _ _=>trivial,by
   rw[Oper.semAt_eq _ _ _ (fun c e=>by rw[hop]at e;cases e),hrun,Oper.uponIn_panic];exact hq _ w G (Ext.refl G w) hr hf hrv⟩
 ·unfold dr at hco
  split at hco
  ·rename_i c hop
   split at hco
   ·rename_i f hcal
    split at hco
    ·rename_i g' caps hfn
     simp only[Option.some.injEq,Prod.mk.injEq]at hco;obtain⟨rfl,rfl⟩:=hco;obtain⟨vs,hsz,hrep,henter⟩:=jF (P:=P) (ty:=o.type) (ρ:=a.eval) (fun x=>hf.opd hr.maps.glob x) hcal hfn
     have hrun:(execOp a.eval o).run P w= .ok (.enter g' (c.args.map a.eval ++vs)) w:=by
      unfold execOp;rw[hop];exact henter.trans (de hcb _ w)
     refine⟨fun _ _=>trivial, ?_⟩;rw[Oper.semAt_eq _ _ _ (fun c e=>by rw[hop]at e;cases e),hrun,Oper.uponIn_enter];refine⟨fun x=>(by cases x),(vZ r (n-1) (hcall G B w0 I0 w _ hr hsz hrep)).mono ?_⟩;rintro e w' ⟨v,G',rfl,h1,h2,h3⟩;exact hq v w' G' h1 h2 (hf.mono h1) h3
    ·cases hco
   ·cases hco
  ·cases hco
theorem FR.junk{D:List Deferred}{env env':Nat→AV}{a:Act}(hf:FR G w N D env a)(h:∀t,env' t=env t∨env' t= .junk):FR G w N D env' a:=
 ⟨hf.size,hf.nod,fun t ht=>by
  rcases h t with e|e
  ·rw[e];exact hf.rep t ht
  ·rw[e];exact .junk _,fun t ht=>by
  rcases h t with e|e
  ·rw[e];exact hf.out t ht
  ·exact e⟩
def nT(P:Program)(ops:Array Oper)(p:Nat)(env0:Nat→AV)(x:AV)(h':ab)(S:St):Prop:=
 (∃o,ops[p]? =some o∧db ops o S.env=some true∧CN P o S x h')∧∀t,(m5 ops).contains t=false→S.env t=env0 t
theorem wa{D:List Deferred}{p:Nat}{env0:Nat→AV}{x:AV}{h':ab}{S:St}(r:Option Nat)(n:Nat){a:Act}{K:Act→World→Prop}{Q:Exit→Act→World→Prop}(hr:HR G B w0 I0 S.heap w)(hf:FR G w N D S.env a)
    (h:nT P ops p env0 x h' S) (hq:∀v w' G',Ext G w G' w'→HR G' B w0 I0 h' w'→FR G' w' N D (lc ops env0) a→Rep G' w' x v→Q (.panic [{v,recovered:=false}]) a w'):wpOpIn (FF r) n P ops Q p K a w:=by
 obtain⟨⟨o,ho,hw,hp⟩,hj⟩:=h;unfold wpOpIn;simp only[ho];rw[if_pos (qS hf hw)];refine zR r n hr hf hp (fun v w' G' h1 h2 h3 h4=>hq v w' G' h1 h2 (h3.junk fun t=> ?_) h4);unfold lc;split
 ·exact .inr rfl
 ·rename_i ht
  exact .inl (hj t (by simpa using ht)).symm
theorem CO{p k:Nat}{ok op:Oper}{env0:Nat→AV}{x:AV}{h':ab}{S S1:St}{ob:List Obl}{f:Foot}(hk:ops[k]? =some ok)(hop:ops[p]? =some op)(hs:bF P cfg N ops k ok S=some (S1,ob,f))(hap:ok.apart ops op=true)
    (hall:f.all=false) (hwr:f.wr=[]) (h:nT P ops p env0 x h' S1):nT P ops p env0 x h' S:=by
 obtain⟨⟨o,ho,hw,hp⟩,hj⟩:=h;rw[hop]at ho;cases ho;obtain⟨g1,_,_⟩:=Oper.apart_spec hap;obtain⟨v,act,hpt,hh,hwi,_,_⟩:=ez hs;obtain⟨wr,rfl,hkk⟩:=hwi hall;have hnil:wr=[]:=List.map_eq_nil_iff.1 (hkk.symm.trans hwr);subst hnil;have hheap:S1.heap=S.heap:=hh;have hag:∀t∈op.looksAt ops,S.env t=S1.env t:=fun t ht=>(jh hpt (fun e=>g1 t e ht)).symm
 refine⟨⟨op,hop,by rw[cI (o:=op) (env:=S1.env) (env':=S.env) hag];exact hw, ?_⟩,fun t ht=>by rw[←hj t ht,jh hpt (nS hk ht)]⟩;rcases hp with ⟨u,t,y,e1,e2,e3,e4⟩|⟨g,args,e1,e2⟩
 ·refine .inl ⟨u,t,y,e1, ?_,e3,e4.trans hheap⟩
  rw[jG hag u (by rw[e1];simp[Op.operands])];exact e2
 ·refine .inr ⟨g,args, ?_,by rw[←hheap];exact e2⟩
  rw[eJ hag];exact e1
def D5(P:Program)(cfg:iA)(N:Nat)(ops:Array Oper)(F:Nat→Foot)(p:Nat)(L:St→Prop):Nat→Array Bool→St→Prop
 |0,_,_=>False
 |fuel+1,listed,S=>Region.ready .any ops listed≠[]∧
  ∀i∈Region.ready .any ops listed,(i=p∧L S)∨(i<p∧∃o S1 ob,ops[i]? =some o∧bF P cfg N ops i o S=some (S1,ob,F i)∧fT P ob∧D5 P cfg N ops F p L fuel (listed.setIfInBounds i true) S1)
def D6(ops:Array Oper)(F:Nat→Foot)(p:Nat)(listed:Array Bool)(k:Nat):Bool:=
 match ops[k]?,ops[p]? with
 |some ok,some op=>((List.range p).all fun j=>j==k||listed.getD j true||match ops[j]? with
     |some oj=>oj.after.any (fun e=>Region.binds .any e&&e.on==k)||(ok.apart ops oj&&(F k).apart (F j))
     |none=>true)&&(op.after.any (fun e=>Region.binds .any e&&e.on==k)||(ok.apart ops op&& !(F k).all&&(F k).wr.isEmpty))
 |_,_=>false
theorem zS{F:Nat→Foot}{p k:Nat}{ok op:Oper}{env0:Nat→AV}{x:AV}{h':ab}(hk:ops[k]? =some ok)(hp:ops[p]? =some op)(hkp:k<p){ob:List Obl}(hob:fT P ob):
    ∀(fuel:Nat)(listed:Array Bool)(S S1:St),
     (∀j oj,j<p→ops[j]? =some oj→j≠k→listed.getD j true=false→(∀e∈oj.after,Region.binds .any e=true→e.on≠k)→ok.apart ops oj=true∧(F k).apart (F j)=true)→
     ((∀e∈op.after,Region.binds .any e=true→e.on≠k)→ok.apart ops op=true∧(F k).all=false∧(F k).wr=[])→
     k∈Region.ready .any ops listed→bF P cfg N ops k ok S=some (S1,ob,F k)→
     D5 P cfg N ops F p (nT P ops p env0 x h') fuel (listed.setIfInBounds k true) S1→D5 P cfg N ops F p (nT P ops p env0 x h') (fuel+1) listed S:=by
 intro fuel;induction fuel with
 |zero=>intro listed S S1 _ _ _ _ H;exact H.elim
 |succ fuel ih=>
  intro listed S S1 hfree hpf hr hy H;refine⟨fun h=>(by rw[h]at hr;cases hr),fun j hj=> ?_⟩;by_cases hjk:j=k
  ·subst hjk;exact .inr ⟨hkp,ok,S1,ob,hk,hy,hob,H⟩
  ·obtain⟨hjun,oj,hoj,hall⟩:=mem_ready.1 hj
   have hnot:∀e∈oj.after,Region.binds .any e=true→e.on≠k:=fun e he hb heq=>by
    have h1:=hall e he hb;have h0:=(mem_ready.1 hr).1;rw[heq]at h1;rcases Nat.lt_or_ge k listed.size with h'|h'
    ·simp[h']at h0 h1;rw[h0]at h1;cases h1
    ·simp[Array.getElem?_eq_none h']at h1
   rcases H.2 j (ready_mono hj hjk)with ⟨rfl,hl⟩|⟨hjp,oj',S2,obj,hoj',hstj,hobj,H2⟩
   ·left
    have e:oj=op:=by rw[hp]at hoj;exact(Option.some.inj hoj).symm
    subst e;obtain⟨q1,q2,q3⟩:=hpf hnot;exact⟨rfl,CO hk hp hy q1 q2 q3 hl⟩
   ·right
    have heq:oj'=oj:=by rw[hoj]at hoj';exact(Option.some.inj hoj').symm
    subst heq;obtain⟨a1,a2⟩:=hfree j oj' hjp hoj hjk hjun hnot;obtain⟨S1',k1,k2⟩:=m4 a1 a2 hy hstj;refine⟨hjp,oj',S1',obj,hoj,k1,hobj,ih (listed.setIfInBounds j true) S1' S2 (fun i oi hip hi hik hun hno=> ?_) hpf (ready_mono hr (Ne.symm hjk)) k2 ?_⟩
    ·refine hfree i oi hip hi hik ?_ hno
     by_cases hji:j=i
     ·subst hji;exact hjun
     ·rw[getD_set_ne true hji]at hun;exact hun
    ·rw[Array.setIfInBounds_comm _ _ hjk]
     exact H2
theorem zT{F:Nat→Foot}{p k:Nat}{ok op:Oper}{listed:Array Bool}(hk:ops[k]? =some ok)(hp:ops[p]? =some op)(h:D6 ops F p listed k=true):
    (∀j oj,j<p→ops[j]? =some oj→j≠k→listed.getD j true=false→(∀e∈oj.after,Region.binds .any e=true→e.on≠k)→ok.apart ops oj=true∧(F k).apart (F j)=true)∧
    ((∀e∈op.after,Region.binds .any e=true→e.on≠k)→ok.apart ops op=true∧(F k).all=false∧(F k).wr=[]):=by
 simp only[D6,hk,hp,Bool.and_eq_true]at h;obtain⟨h1,h2⟩:=h;refine⟨fun j oj hjp hj hne hun hno=> ?_,fun hno=> ?_⟩
 ·simp only[List.all_eq_true,List.mem_range]at h1
  have h1:=h1 j hjp;simp only[hj,Bool.or_eq_true,beq_iff_eq,hne,false_or,hun,Bool.false_eq_true]at h1;rcases h1 with h1|h1
  ·obtain⟨e,he,hb⟩:=Array.any_eq_true'.1 h1
   simp only[Bool.and_eq_true,beq_iff_eq]at hb;exact absurd hb.2 (hno e he hb.1)
  ·simpa using h1
 ·rw[Bool.or_eq_true]at h2
  rcases h2 with h2|h2
  ·obtain⟨e,he,hb⟩:=Array.any_eq_true'.1 h2
   simp only[Bool.and_eq_true,beq_iff_eq]at hb;exact absurd hb.2 (hno e he hb.1)
  ·simp only[Bool.and_eq_true,Bool.not_eq_true',List.isEmpty_iff]at h2
   exact⟨h2.1.1,h2.1.2,h2.2⟩
def xR(ops:Array Oper)(F:Nat→Foot)(p:Nat):Nat→Nat→Array Bool→Bool
 |0,_,listed=>match Region.ready .any ops listed with
  |[i]=>i==p
  |_=>false
 |n+1,k,listed=>(Region.ready .any ops listed).contains k&&D6 ops F p listed k&&xR ops F p n (k+1) (listed.setIfInBounds k true)
def o8(ops:Array Oper)(fts:List Foot)(p:Nat):Bool:=xR ops (fun i=>(fts[i]?).getD ⟨0,[],[],false⟩) p p 0 (Array.replicate ops.size false)
theorem xS{F:Nat→Foot}{p:Nat}{op:Oper}{env0:Nat→AV}{x:AV}{h':ab}(hp:ops[p]? =some op):∀(n k:Nat)(listed:Array Bool)(S Sf:St)(ob:List Obl)(fts:List Foot),k+n=p→dm P cfg N ops (List.range' k n) S=some (Sf,ob,fts)→fT P ob→
    (∀j f,fts[j]? =some f→F (k+j)=f)→xR ops F p n k listed=true→nT P ops p env0 x h' Sf→D5 P cfg N ops F p (nT P ops p env0 x h') (n+1) listed S
 |0,k,listed,S,Sf,ob,fts,hkn,hr,_,_,hl,hL=>by
  simp only[List.range'_zero,dm,Option.some.injEq,Prod.mk.injEq]at hr;obtain⟨rfl,_,_⟩:=hr;simp only[xR]at hl;split at hl
  ·rename_i i hri
   rw[beq_iff_eq]at hl;subst hl
   exact⟨by rw[hri];simp,fun j hj=>by
    rw[hri]at hj;simp only[List.mem_singleton]at hj;exact .inl ⟨hj,hL⟩⟩
  ·cases hl
 |n+1,k,listed,S,Sf,ob,fts,hkn,hr,hob,hF,hl,hL=>by
  rw[List.range'_succ]at hr;simp only[dm]at hr;split at hr
  ·cases hr
  ·rename_i o ho
   split at hr
   ·cases hr
   ·rename_i st hst
    split at hr
    ·cases hr
    ·rename_i rs hrs
     simp only[Option.some.injEq,Prod.mk.injEq]at hr;obtain⟨rfl,rfl,rfl⟩:=hr;obtain⟨S1,ob1,ft1⟩:=st;obtain⟨S2,ob2,ft2⟩:=rs;simp only[xR,Bool.and_eq_true]at hl;obtain⟨⟨h1,h2⟩,h3⟩:=hl;have hft:F k=ft1:=by simpa using hF 0 ft1 (by simp)
     obtain⟨f1,f2⟩:=zT ho hp h2
     refine zS ho hp (by omega) (fun c hc=>hob c (List.mem_append_left _ hc)) (n+1) listed S S1 f1 f2 (by simpa using h1) (by rw[hft];exact hst)
      (xS hp n (k+1) _ S1 S2 ob2 ft2 (by omega) hrs (fun c hc=>hob c (List.mem_append_right _ hc)) (fun j f hj=> ?_) h3 hL)
     have:=hF (j+1) f (by simpa using hj);rw[←this];congr 1;omega
theorem mC{D:List Deferred}(hx:iG P)(r:Option Nat)(n:Nat){F:Nat→Foot}{p:Nat}{env0:Nat→AV}{x:AV}{h':ab}{Q:Exit→Act→World→Prop}:∀(fuel:Nat)(listed:Array Bool)(G:Gh)(w:World)(S:St)(a:Act),HR G B w0 I0 S.heap w→FR G w N D S.env a→
    D5 P cfg N ops F p (nT P ops p env0 x h') fuel listed S→
    (∀v a' w' G',Ext G w G' w'→HR G' B w0 I0 h' w'→FR G' w' N D (lc ops env0) a'→Rep G' w' x v→Q (.panic [{v,recovered:=false}]) a' w')→∀fuel',fuel≤fuel'→wpAnyIn (FF r) n P .any ops Q fuel' listed a w
 |0,listed,G,w,S,a,hr,hf,h,hq,fuel',_=>h.elim
 |fuel+1,listed,G,w,S,a,hr,hf,h,hq,0,hle=>absurd hle (by omega)
 |fuel+1,listed,G,w,S,a,hr,hf,h,hq,fuel'+1,hle=>by
  refine⟨fun hn=>absurd hn h.1,fun i hi=> ?_⟩;rcases h.2 i hi with ⟨rfl,hL⟩|⟨_,o,S1,ob,ho,hst,hob,h2⟩
  ·exact wa r n hr hf hL (fun v w' G' g1 g2 g3 g4=>hq v a w' G' g1 g2 g3 g4)
  ·unfold wpOpIn
   simp only[ho];exact fO hx hr hf hst hob r n (fun a' w' G' e1 h3 h4=>mC hx r n fuel _ G' w' S1 a' h3 h4 h2 (fun v a2 w2 G2 g1 g2 g3 g4=>hq v a2 w2 G2 (e1.trans g1) g2 g3 g4) fuel' (by omega))
theorem sp{D:List Deferred}(hm:g0 P)(r:Option Nat)(n:Nat){id p:Nat}{op:Oper}{S Sf:St}{a:Act}{ob:List Obl}{fts:List Foot}{x:AV}{h':ab}{Q:Exit→Act→World→Prop}(hr:HR G B w0 I0 S.heap w)(hf:FR G w N D S.env a)
    (hp:ops[p]? =some op) (hrun:dm P cfg N ops (List.range' 0 p) S=some (Sf,ob,fts)) (hl:o8 ops fts p=true) (hob:fT P ob) (hL:nT P ops p S.env x h' Sf)
    (hq:∀v a' w' G',Ext G w G' w'→HR G' B w0 I0 h' w'→FR G' w' N D (lc ops S.env) a'→Rep G' w' x v→Q (.panic [{v,recovered:=false}]) a' w'):(Code.region id ops true).wpIn (FF r) n P Q a w:=by
 refine wpIn_region_any hm.mixed ?_;have hany:=xS hp p 0 (Array.replicate ops.size false) S Sf ob fts (by omega) hrun hob (fun j f hj=>by simp[hj]) hl hL;exact mC hm.ext r n (p+1) _ G w.drew S a hr.drew (hf.mono (Ext.drew G w)) hany (fun v a' w' G' e1 h1 h2 h3=>hq v a' w' G' ((Ext.drew G w).trans e1) h1 h2 h3) ops.size (Array.getElem?_eq_some_iff.1 hp).1
theorem xU{D:List Deferred}(hx:iG P)(r:Option Nat)(n:Nat){Q:Exit→Act→World→Prop}{p:Nat}{rest:List Nat}{env0:Nat→AV}{x:AV}{h':ab}:∀(l:List Nat){G:Gh}{w:World}{S S':St}{a:Act}{ob:List Obl}{fts:List Foot},
    HR G B w0 I0 S.heap w→FR G w N D S.env a→dm P cfg N ops l S=some (S',ob,fts)→fT P ob→nT P ops p env0 x h' S'→
    (∀v a' w' G',Ext G w G' w'→HR G' B w0 I0 h' w'→FR G' w' N D (lc ops env0) a'→Rep G' w' x v→Q (.panic [{v,recovered:=false}]) a' w')→wpOpsIn (FF r) n P ops Q (l ++p::rest) a w
 |[],G,w,S,S',a,ob,fts,hr,hf,hs,hob,hL,hq=>by
  simp only[dm,Option.some.injEq,Prod.mk.injEq]at hs;obtain⟨rfl,_,_⟩:=hs;rw[List.nil_append,wpOpsIn_cons];exact wa r n hr hf hL (fun v w' G' g1 g2 g3 g4=>hq v a w' G' g1 g2 g3 g4)
 |i::rl,G,w,S,S',a,ob,fts,hr,hf,hs,hob,hL,hq=>by
  simp only[dm]at hs;split at hs
  ·cases hs
  ·rename_i o ho
   split at hs
   ·cases hs
   ·rename_i st hst
    split at hs
    ·cases hs
    ·rename_i rs hrs
     simp only[Option.some.injEq,Prod.mk.injEq]at hs;obtain⟨rfl,rfl,rfl⟩:=hs;obtain⟨S1,ob1,ft1⟩:=st;obtain⟨S2,ob2,ft2⟩:=rs;rw[List.cons_append,wpOpsIn_cons];unfold wpOpIn;simp only[ho]
     exact fO hx hr hf hst (fun c hc=>hob c (List.mem_append_left _ hc)) r n (fun a' w' G' h1 h2 h3=>
      xU hx r n rl h2 h3 hrs (fun c hc=>hob c (List.mem_append_right _ hc)) hL (fun v a2 w2 G2 g1 g2 g3 g4=>hq v a2 w2 G2 (h1.trans g1) g2 g3 g4))
theorem p6{p m:Nat}(h:p<m):List.range m=List.range' 0 p ++p::List.range' (p+1) (m-p-1):=by
 rw[List.range_eq_range',show m=p+(m-p) by omega,←List.range'_append_1,show(p+(m-p))-p-1=m-p-1 by omega];congr 1;rw[show m-p=(m-p-1)+1 by omega,List.range'_succ];simp
theorem zU{D:List Deferred}(hm:g0 P)(r:Option Nat)(n:Nat){id p:Nat}{op:Oper}{S Sf:St}{a:Act}{ob:List Obl}{fts:List Foot}{x:AV}{h':ab}{Q:Exit→Act→World→Prop}(hr:HR G B w0 I0 S.heap w)(hf:FR G w N D S.env a)
    (hp:ops[p]? =some op) (hrun:dm P cfg N ops (List.range' 0 p) S=some (Sf,ob,fts)) (hob:fT P ob) (hL:nT P ops p S.env x h' Sf)
    (hq:∀v a' w' G',Ext G w G' w'→HR G' B w0 I0 h' w'→FR G' w' N D (lc ops S.env) a'→Rep G' w' x v→Q (.panic [{v,recovered:=false}]) a' w'):(Code.region id ops false).wpIn (FF r) n P Q a w:=by
 refine wpIn_region ?_;rw[p6 (Array.getElem?_eq_some_iff.1 hp).1];exact xU hm.ext r n _ hr hf hrun hob hL hq
end
end Go.Avm
namespace Go.Avm
open Go.RowKit
variable[aJ]
structure ce where
 P:Program
 B:Nat
 w0:World
 I0:Nat→Nat→Prop
 N:Nat
 mixed:g0 P
 rnd:Option Nat:=none
 s0:Nat:=0
 dl:List Deferred:=[]
def gn(bs:List Nat):List Deferred:=bs.map fun b=>{target:= .collected b,args:= #[]}
structure Side0(X:ce)(w:World)(bs:List Nat):Prop where
 nd:bs.Nodup
 low:∀b∈bs,X.s0≤b
 live:∀b∈bs,w.heap[b]? =some (.deferred (some []))
 book:∀l,X.rnd=some l→∃r,w.heap[l]? =some (.loop r)
 s0:X.s0≤w.heap.size
theorem Side0.mono{X:ce}{G G':Gh}{w w':World}{bs:List Nat}(h:Side0 X w bs)(e:Ext G w G' w'):Side0 X w' bs:=
 ⟨h.nd,h.low,fun b hb=>by
  obtain⟨o,h1,h2⟩:=e.kept b _ rfl (h.live b hb);cases h2;exact h1,fun l hl=>by
  obtain⟨r,hr⟩:=h.book l hl;obtain⟨o,h1,r',rfl⟩:=e.kept l _ rfl hr;exact⟨r',h1⟩,Nat.le_trans h.s0 e.size⟩
def fc(X:ce)(G:Gh)(S:St)(a:Act)(w:World):Prop:=HR G X.B X.w0 X.I0 S.heap w∧∃bs,FR G w X.N (gn bs ++X.dl) S.env a∧Side0 X w bs
inductive aG where
 |normal
 |exit (id:Nat)
 |ret
 |panic (x:AV)
def XRep(G:Gh)(w:World):aG→Exit→Prop
 | .normal, .normal=>True
 | .exit i, .exit j=>i=j
 | .ret, .ret=>True
 | .panic x, .panic ch=>∃v,ch=[{v,recovered:=false}]∧Rep G w x v
 |_,_=>False
theorem XRep.normal{G:Gh}{w:World}{e:Exit}(h:XRep G w .normal e):e= .normal:=by cases e<;>first|rfl|exact h.elim
theorem XRep.exit{G:Gh}{w:World}{i:Nat}{e:Exit}(h:XRep G w (.exit i) e):e= .exit i:=by cases e<;>first|exact h.elim|(cases h;rfl)
theorem XRep.ret{G:Gh}{w:World}{e:Exit}(h:XRep G w .ret e):e= .ret:=by cases e<;>first|rfl|exact h.elim
theorem XRep.panic{G:Gh}{w:World}{x:AV}{e:Exit}(h:XRep G w (.panic x) e):∃v,e= .panic [{v,recovered:=false}]∧Rep G w x v:=by
 cases e<;>first|exact h.elim|(obtain⟨v,rfl,hr⟩:=h;exact⟨v,rfl,hr⟩)
theorem XRep.mono{G G':Gh}{w w':World}{e':aG}{e:Exit}(h:XRep G w e' e)(x:Ext G w G' w'):XRep G' w' e' e:=by
 cases e'<;>cases e<;>first|exact h|(obtain⟨v,h1,h2⟩:=h;exact⟨v,h1,h2.mono x⟩)
def AW(X:ce)(c:Code)(S:St)(Q:aG→St→Prop):Prop:=
 ∀G a w,fc X G S a w→c.wpIn (FF X.rnd) 0 X.P (fun e a' w'=>∃e' S' G',XRep G' w' e' e∧Q e' S'∧Ext G w G' w'∧fc X G' S' a' w') a w
def Weak(X:ce)(S S':St):Prop:=∀G a w,fc X G S a w→∃G',Ext G w G' w∧fc X G' S' a w
def Bl(K:St→Prop)(Q:aG→St→Prop):aG→St→Prop
 | .normal,S=>K S
 |e,S=>Q e S
def sq(id:Nat)(Q:aG→St→Prop):aG→St→Prop
 | .exit i,S=>if i=id then Q .normal S else Q (.exit i) S
 |e,S=>Q e S
theorem j5{p:Nat→Prop}(h:∃n,p n):∃n,p n∧∀m,p m→n≤m:=by
 obtain⟨n,hn⟩:=h;induction n using Nat.strongRecOn with
 |_ n ih=>
  by_cases hx:∃m,m<n∧p m
  ·obtain⟨m,hm,hp⟩:=hx
   exact ih m hm hp
  ·refine⟨n,hn,fun m hm=> ?_⟩
   rcases Nat.lt_or_ge m n with hlt|hge
   ·exact absurd ⟨m,hlt,hm⟩ hx
   ·exact hge
noncomputable def aa(p:Nat→Prop):Nat:=by
 classical
 exact if h:∃n,p n then (j5 h).choose else 0
theorem zV{p:Nat→Prop}(h:∃n,p n):p (aa p):=by
 unfold aa;rw[dif_pos h];exact(j5 h).choose_spec.1
theorem D7{p:Nat→Prop}{m:Nat}(h:p m):aa p≤m:=by
 unfold aa;rw[dif_pos ⟨m,h⟩];exact(j5 ⟨m,h⟩).choose_spec.2 m h
section
variable{X:ce}{S S':St}{Q Q':aG→St→Prop}
theorem Weak.refl(S:St):Weak X S S:=fun G a w h=>⟨G,Ext.refl G w,h⟩
theorem Weak.trans{S'':St}(h:Weak X S S')(k:Weak X S' S''):Weak X S S'':=fun G a w hh=>by
 obtain⟨G1,e1,h1⟩:=h G a w hh;obtain⟨G2,e2,h2⟩:=k G1 a w h1;exact⟨G2,e1.trans e2,h2⟩
theorem AW.mono{c:Code}(h:AW X c S Q)(hq:∀e S,Q e S→Q' e S):AW X c S Q':=fun G a w hh=>
 wpIn_mono (h G a w hh) fun e a' w' ⟨e',S',G',x,q,r⟩=>⟨e',S',G',x,hq e' S' q,r⟩
theorem AW.weak{c:Code}(hw:Weak X S S')(h:AW X c S' Q):AW X c S Q:=fun G a w hh=>by
 obtain⟨G1,e1,h1⟩:=hw G a w hh;exact wpIn_mono (h G1 a w h1) fun e a' w' ⟨e',S',G',x,q,e2,r⟩=>⟨e',S',G',x,q,e1.trans e2,r⟩
theorem dU{x y:Code}(h:AW X x S (Bl (fun S'=>AW X y S' Q) Q)):AW X (.seq x y) S Q:=fun G a w hh=>by
 refine wpIn_seq (wpIn_mono (h G a w hh) ?_);rintro e a' w' ⟨e',S',G',x,q,e1,r⟩;cases e' with
 |normal=>
  obtain rfl:=x.normal;exact wpIn_mono (q G' a' w' r) fun e a2 w2 ⟨e3,S2,G2,x2,q2,e2,r2⟩=>⟨e3,S2,G2,x2,q2,e1.trans e2,r2⟩
 |exit i=>obtain rfl:=x.exit;exact⟨_,S',G',x,q,e1,r⟩
 |ret=>obtain rfl:=x.ret;exact⟨_,S',G',x,q,e1,r⟩
 |panic d=>obtain⟨v,rfl,hv⟩:=x.panic;exact⟨_,S',G',x,q,e1,r⟩
theorem iJ{id:Nat}{c:Code}(h:AW X c S (sq id Q)):AW X (.block id c) S Q:=fun G a w hh=>by
 refine wpIn_block (wpIn_mono (h G a w hh) ?_);rintro e a' w' ⟨e',S',G',x,q,e1,r⟩;cases e' with
 |exit i=>
  obtain rfl:=x.exit;simp only[sq]at q;simp only[Exit.inBlock];split at q
  ·rename_i hi;rw[if_pos hi];exact⟨.normal,S',G',trivial,q,e1,r⟩
  ·rename_i hi;rw[if_neg hi];exact⟨_,S',G',x,q,e1,r⟩
 |normal=>obtain rfl:=x.normal;exact⟨_,S',G',x,q,e1,r⟩
 |ret=>obtain rfl:=x.ret;exact⟨_,S',G',x,q,e1,r⟩
 |panic d=>obtain⟨v,rfl,hv⟩:=x.panic;exact⟨_,S',G',x,q,e1,r⟩
theorem nU(h:Q .normal S):AW X .skip S Q:=fun G a w hh=>wpIn_skip ⟨.normal,S,G,trivial,h,Ext.refl G w,hh⟩
theorem qU{id:Nat}(h:Q (.exit id) S):AW X (.exit id) S Q:=fun G a w hh=>wpIn_exit ⟨.exit _,S,G,rfl,h,Ext.refl G w,hh⟩
theorem D8(h:Q .ret S):AW X .ret S Q:=fun G a w hh=>wpIn_ret ⟨.ret,S,G,trivial,h,Ext.refl G w,hh⟩
theorem gJ{c:Operand}{x y:Code}{b:Bool}(hc:opd S.env c= .d (.bool b))(ht:b=true→AW X x S Q)(hf:b=false→AW X y S Q):AW X (.cond c x y) S Q:=fun G a w hh=>by
 obtain⟨bs,hf0,hs0⟩:=hh.2;have hr:=hf0.opd hh.1.maps.glob c;rw[hc]at hr
 have hv:a.eval c= .bool b:=by
  generalize a.eval c=v at hr;cases hr with|d hd=>cases hd;rfl
 exact wpIn_cond_split hv (fun h=>ht h G a w hh) (fun h=>hf h G a w hh)
theorem uB{id:Nat}{ops:Array Oper}{cfg:iA}{ob:List Obl}{fts:List Foot}(hr:dm X.P cfg X.N ops (List.range ops.size) S=some (S',ob,fts))(hob:fT X.P ob)(h:Q .normal S'):
    AW X (.region id ops false) S Q:=fun G a w hh=>
 hh.2.elim fun bs hf=>wpIn_region (mY X.mixed.ext X.rnd 0 _ hh.1 hf.1 hr hob fun a' w' G' e1 h1 h2=>⟨.normal,S',G',trivial,h,e1,h1,bs,h2,hf.2.mono e1⟩)
theorem mD{id:Nat}{ops:Array Oper}{cfg:iA}{ob:List Obl}{fts:List Foot}(hr:dm X.P cfg X.N ops (List.range ops.size) S=some (S',ob,fts))(hl:so ops fts=true)(hob:fT X.P ob)(h:Q .normal S'):
    AW X (.region id ops true) S Q:=fun G a w hh=>
 hh.2.elim fun bs hf=>o7 X.mixed X.rnd 0 hh.1 hf.1 hr hl hob fun a' w' G' e1 h1 h2=>⟨.normal,S',G',trivial,h,e1,h1,bs,h2,hf.2.mono e1⟩
theorem mE{id p:Nat}{draw:Bool}{ops:Array Oper}{cfg:iA}{ob:List Obl}{fts:List Foot}{op:Oper}{Sp:St}{x:AV}{h':ab}(hp:ops[p]? =some op)(hr:dm X.P cfg X.N ops (List.range' 0 p) S=some (Sp,ob,fts))(hob:fT X.P ob)
    (hL:nT X.P ops p S.env x h' Sp) (hd:draw=false∨o8 ops fts p=true) (h:Q (.panic x) ⟨lc ops S.env,h'⟩):AW X (.region id ops draw) S Q:=fun G a w hh=>by
 obtain⟨bs,hf⟩:=hh.2
 have fin:∀v a' w' G',Ext G w G' w'→HR G' X.B X.w0 X.I0 h' w'→FR G' w' X.N (gn bs ++X.dl) (lc ops S.env) a'→Rep G' w' x v→∃e' S' G'',XRep G'' w' e' (.panic [{v,recovered:=false}])∧Q e' S'∧Ext G w G'' w'∧fc X G'' S' a' w':=
  fun v a' w' G' e1 h1 h2 h3=>⟨.panic x,_,G',⟨v,rfl,h3⟩,h,e1,h1,bs,h2,hf.2.mono e1⟩
 cases draw with
 |false=>exact zU X.mixed X.rnd 0 hh.1 hf.1 hp hr hob hL fin
 |true=>exact sp X.mixed X.rnd 0 hh.1 hf.1 hp hr (hd.resolve_left (by simp)) hob hL fin
theorem D9{c:Code}{ι:Type}(F:ι→St)(J:ι→Prop)(μ:ι→Nat)(x0:ι)(h0:Weak X S (F x0))(j0:J x0)
    (hI:∀x,J x→AW X c (F x) (Bl (fun S'=>∃y,Weak X S' (F y)∧J y∧μ y<μ x) Q)):AW X (.loop c) S Q:=by
 refine AW.weak h0 (fun G a w hh=> ?_)
 let p:Act→World→Nat→Prop:=fun a' w' n=>∃y G',Ext G w G' w'∧fc X G' (F y) a' w'∧J y∧μ y=n
 refine wpIn_loop (fun a' w'=>∃n,p a' w' n) (fun a' w'=>aa (p a' w')) ⟨μ x0,x0,G,Ext.refl G w,hh,j0,rfl⟩ ?_;intro a1 w1 hp;obtain⟨y1,G1,e1,h1,i1,m1⟩:=zV hp;refine wpIn_mono (hI y1 i1 G1 a1 w1 h1) ?_;rintro e a' w' ⟨e',S',G',x,q,e2,r⟩;cases e' with
 |normal=>
  obtain rfl:=x.normal;obtain⟨y,hw,i2,hlt⟩:=q;obtain⟨G2,e3,h3⟩:=hw G' a' w' r;have hp2:p a' w' (μ y):=⟨y,G2,(e1.trans e2).trans e3,h3,i2,rfl⟩
  refine⟨⟨_,hp2⟩, ?_⟩;have:=D7 hp2;omega
 |exit i=>obtain rfl:=x.exit;exact⟨_,S',G',x,q,e1.trans e2,r⟩
 |ret=>obtain rfl:=x.ret;exact⟨_,S',G',x,q,e1.trans e2,r⟩
 |panic d=>obtain⟨v,rfl,hv⟩:=x.panic;exact⟨_,S',G',x,q,e1.trans e2,r⟩
theorem Ea{env env':Nat→AV}{heap:ab}(h:∀t,env' t=env t∨env' t= .junk):Weak X ⟨env,heap⟩ ⟨env',heap⟩:=fun G a w hh=>by
 obtain⟨hr,bs,hf,hs⟩:=hh
 exact⟨G,Ext.refl G w,hr,bs,⟨hf.size,hf.nod,fun t ht=>by
  rcases h t with e|e
  ·show Rep G w (env' t) _;rw[e];exact hf.rep t ht
  ·show Rep G w (env' t) _;rw[e];exact .junk _,fun t ht=>by
  rcases h t with e|e
  ·show env' t=_;rw[e];exact hf.out t ht
  ·exact e⟩,hs⟩
theorem m6{env:Nat→AV}{heap:ab}{l:List (Nat×AV)}(h:∀p∈l,p.2=env p.1):Weak X ⟨env,heap⟩ ⟨an l,heap⟩:=Ea (np env l h)
end
def xV:Obj→Bool
 | .deferred _=>true
 |_=>false
structure Shut(B:Nat)(w w':World):Prop where
 os:w'.os=w.os
 tape:w'.tape=w.tape
 output:w'.output=w.output
 size:w'.heap.size=w.heap.size
 oth:∀(b:Nat)(o:Obj),xV o=false→w.heap[b]? =some o→w'.heap[b]? =some o
 low:∀b,b<B→w'.heap[b]? =w.heap[b]?
 cell:∀p:Addr,w'.cell? p=w.cell? p
theorem Shut.refl(B:Nat)(w:World):Shut B w w:=⟨rfl,rfl,rfl,rfl,fun _ _ _ h=>h,fun _ _=>rfl,fun _=>rfl⟩
theorem Shut.trans{B:Nat}{w w' w'':World}(h:Shut B w w')(k:Shut B w' w''):Shut B w w'':=
 ⟨k.os.trans h.os,k.tape.trans h.tape,k.output.trans h.output,k.size.trans h.size,fun b o hb x=>k.oth b o hb (h.oth b o hb x),fun b hb=>(k.low b hb).trans (h.low b hb),fun p=>(k.cell p).trans (h.cell p)⟩
theorem Shut.put{B b:Nat}{w:World}{o o':Obj}(hb:w.heap[b]? =some o)(hk:xV o=true)(hk':xV o'=true)(hB:B≤b):Shut B w (w.putObj b o'):=by
 have hlt:=(Array.getElem?_eq_some_iff.1 hb).1;refine⟨rfl,rfl,rfl,by simp,fun b' o'' hn x=> ?_,fun b' hb'=>World.putObj_heap_other (by omega),fun p=> ?_⟩
 ·have hne:b'≠b:=by
    rintro rfl;rw[hb]at x;simp only[Option.some.injEq]at x;subst x;rw[hk]at hn;cases hn
  rw[World.putObj_heap_other hne];exact x
 ·unfold World.cell?
  by_cases hp:p.block=b
  ·rw[hp,World.putObj_heap_same hlt,hb]
   cases o<;>cases o'<;>first|rfl|(simp[xV]at hk;done)|(simp[xV]at hk';done)
  ·rw[World.putObj_heap_other hp]
theorem Rep.shut{G:Gh}{B:Nat}{w w':World}{x:AV}{v:Value}(h:Rep G w x v)(e:Shut B w w'):Rep G w' x v:=by
 induction h with
 |junk v=>exact .junk v
 |d h=>exact .d (h.mono (fun _ _ x=>x) (fun _ _ _=>e.cell _))
 |nils=>exact .nils
 |es ao=>exact .es ao
 |vecNil k ver sz=>exact .vecNil k ver sz
 |vec k ver l L hL hfr hlen hsz h=>exact .vec k ver l L hL hfr hlen hsz (h.mono (fun _ _ x=>x) (fun _ _ _=>e.cell _))
 |slNil k ver sz=>exact .slNil k ver sz
 |sl k ver off len c L hL hc hlen=>exact .sl k ver off len c L hL hc hlen
 |ptr k ver i off L hL=>exact .ptr k ver i off L hL
 |agg cs vs hl h1 _ ih=>exact .agg cs vs hl h1 ih
 |tup cs vs hl _ ih=>exact .tup cs vs hl ih
 |fn f caps vs hl _ ih=>exact .fn f caps vs hl ih
 |mp k ver b hL=>exact .mp k ver b hL
 |yld k ver b hL=>exact .yld k ver b hL
 |itr k ver b hL=>exact .itr k ver b hL
 |iv t v _ ih=>exact .iv t v ih
 |vp k ver l L hL h1 hlen h=>exact .vp k ver l L hL h1 hlen (h.mono (fun _ _ x=>x) (fun _ _ _=>e.cell _))
theorem HR.shut{G:Gh}{B:Nat}{w0 w w':World}{I0:Nat→Nat→Prop}{h:ab}(hr:HR G B w0 I0 h w)(e:Shut B w w'):HR G B w0 I0 h w':=by
 refine⟨hr.below.trans ⟨e.os,e.tape,e.output,by rw[e.size];exact Nat.le_refl _,e.low⟩,by rw[e.size];exact hr.bsz,fun b o x=>by rw[e.size];exact hr.immlt b o x,hr.i0,hr.immlow,hr.fresh,fun k L hL=> ?_,hr.dis,fun k ob ho=> ?_,hr.lim,⟨fun k v b x=> ?_,fun k k' b l l' x x'=>hr.maps.inj k k' b l l' x x',fun k es c x=> ?_,fun k fno N env ps Ua bd st x=> ?_,fun k km vm since seen x=> ?_,hr.maps.glob.mono (fun _ _ x=>x) (fun _ _ _=>e.cell _)⟩⟩
 ·obtain⟨h1,⟨arr,e',h2,h3⟩,h4⟩:=hr.own k L hL
  exact⟨h1,⟨arr,e',e.oth _ _ rfl h2,h3⟩,h4⟩
 ·have h1:=hr.objs k ob ho
  cases ob with
  |map _ _=>trivial
  |lp _ _ _ _ _ _ _=>trivial
  |itr _ _ _ _=>trivial
  |typ _ _ _ _=>exact h1
  |arr sz es=>
   rcases h1 with h1|⟨L,g1,g2,g3,g4,g5,g6,g7⟩
   ·exact .inl h1
   ·exact .inr ⟨L,g1,g2,g3,g4,g5,g6,fun t c ht=>by
      obtain⟨u,k1,k2,k3⟩:=g7 t c ht;exact⟨u,(e.cell _).trans k1,k2,k3.shut e⟩⟩
 ·obtain⟨g1,⟨o,g2,g2'⟩,g3⟩:=hr.maps.low k v b x
  exact⟨g1,⟨o,g2,e.oth _ _ (by cases o<;>first|rfl|cases g2) g2'⟩,g3⟩
 ·obtain⟨b,g1,ms,g2,g3,g4⟩:=hr.maps.obj k es c x
  exact⟨b,g1,ms,e.oth _ _ rfl g2,g3,fun i q m hq hm=>by
   obtain⟨k1,k2,k3⟩:=g4 i q m hq hm;exact⟨k1.mono (fun _ _ x=>x) (fun _ _ _=>e.cell _),k2.mono (fun _ _ x=>x) (fun _ _ _=>e.cell _),k3⟩⟩
 ·obtain⟨b,r,g1,g2,g3⟩:=hr.maps.loops k fno N env ps Ua bd st x
  exact⟨b,r,g1,e.oth _ _ rfl g2,g3.size,fun t ht=>(g3.rep t ht).shut e,g3.out,g3.ps,g3.Ua,g3.bd,g3.state,g3.pending⟩
 ·obtain⟨b,bm,sa,c0,g1,g2,g3,g4⟩:=hr.maps.iters k km vm since seen x
  exact⟨b,bm,sa,c0,g1,g2,e.oth _ _ rfl g3,g4⟩
theorem FR.shut{G:Gh}{B N:Nat}{DL:List Deferred}{w w':World}{env:Nat→AV}{a:Act}(hf:FR G w N DL env a)(e:Shut B w w'):FR G w' N DL env a:=⟨hf.size,hf.nod,fun t ht=>(hf.rep t ht).shut e,hf.out⟩
theorem dV{P:Program}{F:Fence}{n B:Nat}{fn:Func}{tmps:Array Value}{R:Ending→World→Prop}{rest:List Deferred}{u:FrameMode}(hu:u≠ .run):∀(bs:List Nat)(w:World),bs.Nodup→(∀b∈bs,B≤b)→(∀b∈bs,w.heap[b]? =some (.deferred (some [])))→
    (∀w',Shut B w w'→(∀b,b∉bs→w'.heap[b]? =w.heap[b]?)→LeavesInM F n P fn tmps R rest u w')→LeavesInM F n P fn tmps R (gn bs ++rest) u w
 |[],w,_,_,_,h=>h w (Shut.refl B w) (fun _ _=>rfl)
 |b::bs,w,hnd,hlow,hlive,h=>by
  have hb:=hlive b (by simp);rw[List.nodup_cons]at hnd;refine⟨hu, .inl ⟨b,_,rfl,run_takeDeferred hb,dV hu bs _ hnd.2 (fun x hx=>hlow x (by simp[hx])) (fun x hx=> ?_) (fun w' hs ho=> ?_)⟩⟩
  ·have hne:x≠b:=fun e=>hnd.1 (e▸hx)
   rw[World.putObj_heap_other hne];exact hlive x (by simp[hx])
  ·refine h w' ((Shut.put hb rfl rfl (hlow b (by simp))).trans hs) (fun x hx=> ?_)
   simp only[List.mem_cons,not_or]at hx;rw[ho x hx.2,World.putObj_heap_other hx.1]
def HT(P:Program)(S:St):ResultVar→Option D
 | .tmp t=>(view 12 S.heap (S.env t)).map (·.1)
 | .cell t ty=>match fq P ty (S.env t) S.heap with
  |some out=>(view 12 S.heap out.val).map (·.1)
  |none=>none
def mF(P:Program)(S:St):List ResultVar→Option (List D)
 |[]=>some []
 |r::l=>match HT P S r,mF P S l with
  |some x,some xs=>some (x::xs)
  |_,_=>none
def m7(G:Gh)(h:ab):Nat→Nat→Prop:=fun b o=>G.imm b o∨∃k L,G.loc k (h k).ver=some L∧L.b=b
def ui(tmps:Array Value):ResultVar→Sem Value
 | .tmp t=>pure (tmps.getD t undef)
 | .cell a t=>do loadVar t (←asAddr (tmps.getD a undef))
theorem zW{DL:List Deferred}{P:Program}{G:Gh}{B:Nat}{w0 w:World}{I0:Nat→Nat→Prop}{N:Nat}{S:St}{a:Act}(hr:HR G B w0 I0 S.heap w)(hf:FR G w N DL S.env a){rv:ResultVar}{x:D}(hx:HT P S rv=some x):
    ∃v,(ui a.tmps rv).run P w= .ok v w∧DRep (m7 G S.heap) w x v:=by
 have up:∀{ks:List Nat}{y:D}{v:Value},DRep (dn G S.heap ks) w y v→DRep (m7 G S.heap) w y v:=fun hd=>hd.mono (by
  rintro b o (x|⟨k,_,L,hL,hb⟩)
  ·exact .inl x
  ·exact .inr ⟨k,L,hL,hb⟩) (fun _ _ _=>rfl)
 cases rv with
 |tmp t=>
  simp only[HT,Option.map_eq_some_iff]at hx;obtain⟨⟨y,ks⟩,hv,rfl⟩:=hx;exact⟨_,rfl,up (dT hr 12 _ _ _ _ hv (hf.opd hr.maps.glob (.tmp t)))⟩
 |cell t ty=>
  simp only[HT]at hx;split at hx
  ·rename_i out ho
   simp only[Option.map_eq_some_iff]at hx;obtain⟨⟨y,ks⟩,hv,rfl⟩:=hx;obtain⟨v,hrun,_,_,hrep⟩:=jY hr (hf.opd hr.maps.glob (.tmp t)) ho;refine⟨v, ?_,up (dT hr 12 _ _ _ _ hv hrep)⟩;simp only[Instr.loadAt,Instr.sureAddr,Act.eval]at hrun;simp only[ui];generalize a.tmps.getD t undef=u at hrun;cases u with
   |pointer ao=>
    cases ao with
    |some ad=>simpa [asAddr]using hrun
    |none=>simp at hrun
   |_=>simp at hrun
  ·cases hx
theorem uj{DL:List Deferred}{P:Program}{G:Gh}{B:Nat}{w0 w:World}{I0:Nat→Nat→Prop}{N:Nat}{S:St}{a:Act}(hr:HR G B w0 I0 S.heap w)(hf:FR G w N DL S.env a){fn:Func}{rs:List D}(hx:mF P S fn.results.toList=some rs):
    ∃v,(results fn a.tmps).run P w= .ok v w∧rU (m7 G S.heap) w rs v:=by
 have key:∀(l:List ResultVar)(rs:List D),mF P S l=some rs→∃vs:List Value,vs.length=rs.length∧
     (l.mapM (ui a.tmps)).run P w= .ok vs w∧
     ∀(i:Nat)(x:D)(u:Value),rs[i]? =some x→vs[i]? =some u→DRep (m7 G S.heap) w x u:=by
  intro l;induction l with
  |nil=>intro rs h;simp[mF]at h;subst h;exact⟨[],rfl,rfl,by simp⟩
  |cons r l ih=>
   intro rs h;simp only[mF]at h;split at h
   ·rename_i x xs hx hxs
    simp only[Option.some.injEq]at h;subst h;obtain⟨vs,h1,h2,h3⟩:=ih xs hxs;obtain⟨v,g1,g2⟩:=zW hr hf hx;refine⟨v::vs,by simp[h1], ?_,fun i y u hy hu=> ?_⟩
    ·rw[List.mapM_cons,Sem.run_bind]
     rw[g1,Result.andThen_ok,Sem.run_bind,h2,Result.andThen_ok];rfl
    ·cases i with
     |zero=>simp at hy hu;subst hy;subst hu;exact g2
     |succ i=>exact h3 i y u (by simpa using hy) (by simpa using hu)
   ·cases h
 obtain⟨vs,h1,h2,h3⟩:=key _ _ hx
 have hm:(fn.results.mapM (ui a.tmps)).run P w= .ok vs.toArray w:=by
  rw[Array.mapM_eq_mapM_toList,Sem.run_map,h2];rfl
 refine⟨if h:vs.toArray.size=1 then vs.toArray[0]else .tuple vs.toArray, ?_, ?_⟩
 ·have hv:results fn a.tmps=(do let vs ←fn.results.mapM (ui a.tmps);pure (if h:vs.size=1 then vs[0]else .tuple vs)):=by
    unfold results;congr 1
  rw[hv,Sem.run_bind,hm];rfl
 ·by_cases hone:rs.length=1
  ·obtain⟨x,hx1⟩:=List.length_eq_one_iff.1 hone
   have hvs:vs.length=1:=by omega
   obtain⟨v,hv⟩:=List.length_eq_one_iff.1 hvs;subst hx1;subst hv;exact .inl ⟨x,rfl,h3 0 x v rfl rfl⟩
  ·have:¬(vs.toArray.size=1):=by simp;omega
   rw[dif_neg this];exact .inr ⟨hone,_,rfl,by simp[h1],fun i x u a b=>h3 i x u a (by simpa using b)⟩
def ji(args:List D):St:=⟨fun t=>match args[t]? with|some x=> .d x|none=> .junk,fun _=>⟨0,none⟩⟩
theorem sr{P:Program}(hm:g0 P){f:Nat}{fn:Func}{c:Code}{args rs:List D}(hf:P.funcs[f]? =some fn)(hb:fn.body=some c)(hn:(fn.name== "runtime.NumGoroutine")=false)(hl:args.length≤fn.ntmps)
    (h:∀X:ce,X.P=P→X.N=fn.ntmps→AW X c (ji args) fun e S'=>(e= .normal∨e= .ret)∧mF P S' fn.results.toList=some rs):aK P f args rs:=by
 refine⟨⟨fn,hf,by rw[hb];rfl,hn⟩,fun w I cargs hI hs hargs hglob=>callsIn_wide.1 (callsIn_of_wp_marks (F:=FF none) (n:=0) hf hb trivial ?_)⟩
 let X:ce:=⟨P,w.heap.size,w,I,fn.ntmps,hm,none,w.heap.size,[]⟩
 have hstart:fc X ⟨I,fun _ _=>none,fun _=>0,fun _ _=>none⟩ (ji args) {tmps:=cargs ++Array.replicate (fn.ntmps-cargs.size) undef,defers:=[]} w:=by
  refine⟨⟨Below.refl _ _,Nat.le_refl _,hI,fun _ _ x=>x,fun _ _ x _=>x,fun k v L x=>by simp at x,fun k L x=>by simp at x,fun k k' L L' x=>by simp at x,fun k ob x=>by simp[ji]at x,fun _=>rfl,⟨fun k v b x=>by simp at x,fun k k' b l l' x=>by simp at x,fun k es c x=>by simp[ji]at x,fun k fno N env ps Ua bd st x=>by simp[ji]at x,fun k km vm since seen x=>by simp[ji]at x,hglob⟩⟩,[],⟨?_,rfl, ?_, ?_⟩,List.nodup_nil,fun _ h=>(by cases h),fun _ h=>(by cases h),fun _ h=>(by cases h),Nat.le_refl _⟩
  ·show(cargs ++Array.replicate (fn.ntmps-cargs.size) undef).size=fn.ntmps
   simp[hs];omega
  ·intro t _
   show Rep _ _ (match args[t]? with|some x=>AV.d x|none=> .junk) ((cargs ++Array.replicate (fn.ntmps-cargs.size) undef).getD t undef);cases ha:args[t]? with
   |none=>exact .junk _
   |some x=>
    have hlt:t<cargs.size:=by rw[hs];exact(List.getElem?_eq_some_iff.1 ha).1
    have hu:cargs[t]? =some cargs[t]:=Array.getElem?_eq_getElem hlt;rw[Array.getD_eq_getD_getElem?,Array.getElem?_append_left hlt,hu];exact .d (hargs t x _ ha hu)
  ·intro t ht
   show(match args[t]? with|some x=>AV.d x|none=> .junk)= .junk;rw[List.getElem?_eq_none (by have:X.N=fn.ntmps:=rfl;omega)]
 refine wpIn_mono (h X rfl rfl _ _ _ hstart) ?_;rintro e a' w' ⟨e',S',G',xr,⟨he,hres⟩,hex,hr,bs,hfr,hside⟩
 have fin:∀R:Ending→World→Prop,(∀v w2 I',Below w.heap.size w w2→(∀b o,I b o→I' b o)→(∀b o,I' b o→I b o∨w.heap.size≤b)→(∀b o,I' b o→b<w2.heap.size)→rU I' w2 rs v→R (.returned v) w2)→
     LeavesInM (FF none) 0 P fn a'.tmps R a'.defers .returning w':=fun R hR=>by
  rw[hfr.nod];refine dV (B:=w.heap.size) (by simp) bs w' hside.nd hside.low hside.live (fun w2 hsh _=> ?_);have hr2:=hr.shut hsh;obtain⟨v,hv,hret⟩:=uj hr2 (hfr.shut hsh) hres;show ∃v,(results fn a'.tmps).run P w2= .ok v w2∧R (.returned v) w2;refine⟨v,hv,hR v w2 (m7 G' S'.heap) hr2.below (fun b o x=> .inl (hr.i0 b o x)) ?_ ?_ hret⟩
  ·rintro b o (x|⟨k,L,hL,rfl⟩)
   ·rcases Nat.lt_or_ge b w.heap.size with hlt|hge
    ·exact .inl (hr.immlow b o x hlt)
    ·exact .inr hge
   ·exact .inr (hr.own k L hL).1
  ·rintro b o (x|⟨k,L,hL,rfl⟩)
   ·exact hr2.immlt b o x
   ·exact hr2.blt hL
 rcases he with rfl|rfl
 ·obtain rfl:=xr.normal
  exact fin _ fun v w2 I' c1 c2 c3 c4 c5=>⟨v,I',rfl,c1,c2,c3,c4,c5⟩
 ·obtain rfl:=xr.ret
  exact fin _ fun v w2 I' c1 c2 c3 c4 c5=>⟨v,I',rfl,c1,c2,c3,c4,c5⟩
def jH(N:Nat):(Nat→AV)→List Nat→List AV→Option (Nat→AV)
 |env,[],[]=>some env
 |env,p::ps,x::xs=>if p<N then jH N (aM env p x) ps xs else none
 |_,_,_=>none
theorem uC{N:Nat}:∀{ps:List Nat}{xs:List AV}{env env1:Nat→AV},jH N env ps xs=some env1→ps.length=xs.length
 |[],[],_,_,_=>rfl
 |p::ps,x::xs,env,env1,h=>by
  simp only[jH]at h;split at h
  ·simp[uC h]
  ·cases h
 |[],_::_,_,_,h=>by simp[jH]at h
 |_::_,[],_,_,h=>by simp[jH]at h
theorem uD{G:Gh}{w:World}{N:Nat}:∀{ps:List Nat}{xs:List AV}{env env1:Nat→AV}(vs:List Value)(tmps:Array Value),jH N env ps xs=some env1→vs.length=xs.length→tmps.size=N→
    (∀(i:Nat)(x:AV)(u:Value),xs[i]? =some x→vs[i]? =some u→Rep G w x u)→(∀t,t<N→Rep G w (env t) (tmps.getD t undef))→(∀t,N≤t→env t= .junk)→
    ((ps.zip vs).foldl (fun tmps (p:Nat×Value)=>tmps.setIfInBounds p.1 p.2) tmps).size=N∧
    (∀t,t<N→Rep G w (env1 t) (((ps.zip vs).foldl (fun tmps (p:Nat×Value)=>tmps.setIfInBounds p.1 p.2) tmps).getD t undef))∧(∀t,N≤t→env1 t= .junk)
 |[],[],env,env1,vs,tmps,h,hl,hs,hv,hr,ho=>by
  simp only[jH,Option.some.injEq]at h;subst h;exact⟨hs,hr,ho⟩
 |p::ps,x::xs,env,env1,[],tmps,h,hl,hs,hv,hr,ho=>by simp at hl
 |p::ps,x::xs,env,env1,v::vs,tmps,h,hl,hs,hv,hr,ho=>by
  simp only[jH]at h;split at h
  ·rename_i hp
   simp only[List.zip_cons_cons,List.foldl_cons];refine uD vs _ h (by simpa using hl) (by simpa using hs) (fun i y u hy hu=>hv (i+1) y u (by simpa using hy) (by simpa using hu)) (fun t ht=> ?_) (fun t ht=> ?_)
   ·simp only[Array.getD_eq_getD_getElem?,Array.getElem?_setIfInBounds]
    by_cases htp:p=t
    ·subst htp
     simp only[ak,if_true,hs,hp,Option.getD_some];exact hv 0 x v rfl rfl
    ·rw[if_neg htp,am _ _ (fun e=>htp e.symm)]
     have:=hr t ht;rwa [Array.getD_eq_getD_getElem?]at this
   ·rw[am _ _ (by omega)];exact ho t ht
  ·cases h
 |[],_::_,_,_,_,_,h,_,_,_,_,_=>by simp[jH]at h
 |_::_,[],_,_,_,_,h,_,_,_,_,_=>by simp[jH]at h
def Eb(Q:aG→St→Prop)(S:St):LSt→Prop
 | .ready=>Q .normal S
 | .done .ret=>Q .ret S
 | .done (.exit id)=>Q (.exit id) S
 |_=>False
theorem nV{X:ce}{S:St}{Q:aG→St→Prop}{g:Operand}{ps:Array Nat}{Ua bd:Code}{gf k fno:Nat}{caps rs:List AV}{h2:ab}{f2 N2:Nat}{env2:List (Nat×AV)}{ps2:Array Nat}{as2 bd2:Code}{st:LSt}
    (hg:opd S.env g= .fn gf caps) {el:List (Nat×AV)} (hel:∀p∈el,p.2=S.env p.1)
    (hc:ay X.P gf (.yld k ((S.heap k).ver+1)::caps) (aM S.heap k ⟨(S.heap k).ver+1,some (.lp fno X.N el ps Ua bd .ready)⟩) rs h2)
    (hk:(h2 k).ver=(S.heap k).ver+1) (hl:(h2 k).ob=some (.lp f2 N2 env2 ps2 as2 bd2 st))
    (hq:Eb Q ⟨S.env,aM h2 k ⟨(h2 k).ver,none⟩⟩ st):AW X (.rangeFunc g ps Ua bd) S Q:=fun G a w ⟨hr,bs,hf,hs⟩=>by
 refine wpIn_rangeFunc (fun fn _=> ?_);have hfr:=hf.opd hr.maps.glob g;rw[hg]at hfr
 obtain⟨vs,hfv,hvl,hcr⟩:∃vs:Array Value,a.eval g= .func (.func gf) #[] vs∧vs.size=caps.length∧∀(i:Nat)(x:AV)(u:Value),caps[i]? =some x→vs[i]? =some u→Rep G w x u:=by
  generalize a.eval g=vf at hfr;cases hfr with
  |fn _ _ vs hl hh=>exact⟨vs,rfl,hl,hh⟩
 obtain⟨hcb,hcall⟩:=hc
 have bN:∀(l:Nat)(mark:List Deferred)(w1:World)(rec:Loop)(bs':List Nat),(Instr.enterLoop fn a.tmps ps Ua bd (FF X.rnd).round).run X.P w= .ok (l,mark) w1→HR G X.B X.w0 X.I0 S.heap w1→Ext G w G w1→w1.heap[l]? =some (.loop rec)→
     rec.tmps=a.tmps→rec.params=ps→rec.assign=Ua→rec.body=bd→rec.state= .ready→rec.pending=none→X.B≤l→(∀k v,G.mloc k v≠some l)→mark ++gn bs=gn bs'→Side0 X w1 bs'→
     ∃(l:Nat)(mark:List Deferred)(w₁:World)(d:Deferred)(w₁':World)(f:FuncId)(args:Array Value)(w₂:World),
      (Instr.enterLoop fn a.tmps ps Ua bd (FF X.rnd).round).run X.P w= .ok (l,mark) w₁∧(resolve a.eval (rangeCall g l) 0).run X.P w₁= .ok d w₁'∧(∀f',Target.leads X.P w₁' d.target d.args=some f'→(FF X.rnd).fn f')∧
      (invoke d.target d.args).run X.P w₁'= .ok (.enter f args) w₂∧((FF X.rnd).depth.isSome=true→1≤0)∧
      CallsIn (FF X.rnd) (0-1) X.P f args w₂ (rangePost (FF X.rnd) 0 X.P l (fun e a' w'=>∃e' S' G',XRep G' w' e' e∧Q e' S'∧Ext G w G' w'∧fc X G' S' a' w') {a with defers:=mark ++a.defers}):=by
  intro l mark w1 rec bs' he hr1 e1 hrec r1 r2 r3 r4 r5 r6 hB hnew hmk hside
  obtain⟨hr2,e2⟩:=hr1.newFix k (b:=l) (ob:= .lp fno X.N el ps Ua bd .ready) (o:= .loop rec) rfl (fun _ _ _ _ e=>by cases e) hB hnew rfl hrec (fun _ _ e=>by cases e) (fun fno' N' env' ps' as' bd' st' e=>by
   cases e
   exact⟨rec,hrec,by rw[r1];exact hf.size,fun t ht=>by
    rw[r1];rcases np S.env el hel t with e|e
    ·rw[e];exact(hf.rep t ht).mono e1
    ·rw[e];exact .junk _,fun t ht=>by
    rcases np S.env el hel t with e|e
    ·rw[e];exact hf.out t ht
    ·exact e,r2,r3,r4,r5,r6⟩)
  have hml:(G.atMap k ((S.heap k).ver+1) l).mloc k ((S.heap k).ver+1)=some l:=by simp[Gh.atMap]
  refine⟨l,mark,w1,{target:= .fn (.func gf) vs,args:= #[.func (.yield l) #[] #[]]},w1,gf, #[.func (.yield l) #[] #[]] ++vs,w1,he, ?_,fun _ _=>trivial, ?_,fun x=>(by cases x), ?_⟩
  ·simp only[resolve,hfv]
   simp[go_sem]
  ·have:=de hcb (#[.func (.yield l) #[] #[]] ++vs) w1
   simpa [invoke]using this
  ·have hsz2:(#[Value.func (.yield l) #[] #[]] ++vs).size=(AV.yld k ((S.heap k).ver+1)::caps).length:=by simp[hvl];omega
   have hrep2:∀(i:Nat)(x:AV)(u:Value),(AV.yld k ((S.heap k).ver+1)::caps)[i]? =some x→(#[Value.func (.yield l) #[] #[]] ++vs)[i]? =some u→Rep (G.atMap k ((S.heap k).ver+1) l) w1 x u:=by
    intro i x u hx hu;cases i with
    |zero=>
     rw[Array.getElem?_append_left (by simp)]at hu;simp at hx hu;subst hx;subst hu;exact .yld _ _ _ hml
    |succ i=>
     rw[Array.getElem?_append_right (by simp)]at hu;simp at hx hu;exact(hcr i x u hx hu).mono (e1.trans e2)
   have hcall2:=hcall _ X.B X.w0 X.I0 w1 _ hr2 hsz2 hrep2;have hcall3:=vZ X.rnd (0-1) hcall2;refine hcall3.mono ?_
   ·rintro e w' ⟨v,G',rfl,e3,hr3,_⟩
    obtain⟨b,r,g1,g2,g3⟩:=hr3.maps.loops k f2 N2 env2 ps2 as2 bd2 st hl
    have hb:b=l:=by
     rw[hk,e3.mloc _ _ _ hml]at g1;exact(Option.some.inj g1).symm
    subst hb
    have hnb:r.state≠ .busy:=by
     rw[g3.state];cases st with
     |busy=>exact absurd hq (by simp[Eb])
     |_=>simp[LSt.state]
    have hend:=run_endLoop (P:=X.P) g2 hnb;have hpend:=g3.pending;obtain⟨hr4,e4⟩:=hr3.setFix (k:=k) (o':= .loop {r with state:= .exhausted}) (ob':=none) (by rw[hl];rfl) g1 g2 rfl rfl (fun _=>⟨_,rfl⟩) (fun x e=>by cases e) (fun _ _ e=>by cases e) (fun _ _ _ _ _ _ _ e=>by cases e);obtain⟨w4,hw4⟩:∃w4,w'.putObj b (.loop {r with state:= .exhausted})=w4:=⟨_,rfl⟩
    rw[hw4]at hend hr4 e4;rw[hpend]at hend;have ex:Ext G w G' w4:=((e1.trans e2).trans e3).trans e4
    have hh:fc X G' ⟨S.env,aM h2 k ⟨(h2 k).ver,none⟩⟩ {a with defers:=mark ++a.defers} w4:=
     ⟨hr4,bs',⟨hf.size,by show mark ++a.defers=_;rw[hf.nod,←List.append_assoc,hmk],fun t ht=>(hf.rep t ht).mono ex,hf.out⟩,hside.mono ((e2.trans e3).trans e4)⟩
    refine⟨st.pending,_,hend, ?_⟩;cases st with
    |ready=>exact⟨.normal,_,G',trivial,hq,ex,hh⟩
    |busy=>exact absurd hq (by simp[Eb])
    |done c=>
     cases c with
     |ret=>exact wpIn_ret ⟨.ret,_,G',trivial,hq,ex,hh⟩
     |exit id=>exact wpIn_exit ⟨.exit id,_,G',rfl,hq,ex,hh⟩
     |_=>exact absurd hq (by simp[Eb])
 have hmb:∀k v,∀b,G.mloc k v=some b→b<w.heap.size:=fun k v b x=>by
  obtain⟨_,⟨o,_,h2⟩,_⟩:=hr.maps.low _ _ _ x;exact(Array.getElem?_eq_some_iff.1 h2).1
 cases hrnd:X.rnd with
 |none=>
  have ho:=run_enterLoop_outer (P:=X.P) (w:=w) fn a.tmps ps Ua bd;have hr1:=hr.allocAny (.deferred (some []));have e1:=Ext.alloc hr (.deferred (some []));have hr2:=hr1.allocAny (.loop {state:= .ready,pending:=none,fn,tmps:=a.tmps,params:=ps,assign:=Ua,body:=bd,defers:=w.heap.size});have e2:=Ext.alloc hr1 (.loop {state:= .ready,pending:=none,fn,tmps:=a.tmps,params:=ps,assign:=Ua,body:=bd,defers:=w.heap.size});have hloop:=World.alloc_heap_new (w.alloc (.deferred (some []))) (.loop {state:= .ready,pending:=none,fn,tmps:=a.tmps,params:=ps,assign:=Ua,body:=bd,defers:=w.heap.size});rw[World.size_alloc]at hloop
  have hdef:((w.alloc (.deferred (some []))).alloc (.loop {state:= .ready,pending:=none,fn,tmps:=a.tmps,params:=ps,assign:=Ua,body:=bd,defers:=w.heap.size})).heap[w.heap.size]? =some (.deferred (some [])):=
   (dh (by simp)).trans (World.alloc_heap_new w _)
  have hside:=hs.mono (e1.trans e2);rw[←hrnd]
  refine bN _ _ _ _ (w.heap.size::bs) (by rw[show(FF X.rnd).round=none from hrnd];exact ho) hr2 (e1.trans e2) hloop rfl rfl rfl rfl rfl rfl (by have:=hr.bsz;omega) (fun k v x=>by have:=hmb _ _ _ x;omega) rfl
   ⟨List.nodup_cons.2 ⟨fun hx=> ?_,hs.nd⟩,fun b hb=> ?_,fun b hb=> ?_,hside.book,hside.s0⟩
  ·have:=(Array.getElem?_eq_some_iff.1 (hs.live _ hx)).1
   omega
  ·rcases List.mem_cons.1 hb with rfl|hb
   ·exact hs.s0
   ·exact hs.low b hb
  ·rcases List.mem_cons.1 hb with rfl|hb
   ·exact hdef
   ·exact hside.live b hb
 |some l0=>
  obtain⟨r0,hr0⟩:=hs.book l0 hrnd;have ho:=run_enterLoop_inner (P:=X.P) (w:=w) hr0 fn a.tmps ps Ua bd;have hr1:=hr.allocAny (.loop {state:= .ready,pending:=none,fn,tmps:=a.tmps,params:=ps,assign:=Ua,body:=bd,defers:=r0.defers});have e1:=Ext.alloc hr (.loop {state:= .ready,pending:=none,fn,tmps:=a.tmps,params:=ps,assign:=Ua,body:=bd,defers:=r0.defers});rw[←hrnd];exact bN _ _ _ _ bs (by rw[show(FF X.rnd).round=some l0 from hrnd];exact ho) hr1 e1 (World.alloc_heap_new w _) rfl rfl rfl rfl rfl rfl hr.bsz (fun k v x=>by have:=hmb _ _ _ x;omega) rfl (hs.mono e1)
def su:aG→Option (Bool×LSt)
 | .normal=>some (true, .ready)
 | .ret=>some (false, .done .ret)
 | .exit id=>some (false, .done (.exit id))
 |_=>none
set_option maxHeartbeats 1000000 in
theorem p7{P:Program}(hm:g0 P){k v:Nat}{args:List AV}{h:ab}{fno N:Nat}{env:List (Nat×AV)}{env1:Nat→AV}{ps:Array Nat}{Ua bd:Code}(hv:(h k).ver=v)(hob:(h k).ob=some (.lp fno N env ps Ua bd .ready))
    (henv:jH N (an env) ps.toList args=some env1) {S1:St} (h1:∀X:ce,X.P=P→X.N=N→AW X Ua ⟨env1,h⟩ fun e S'=>e= .normal∧S'=S1)
    {f1 N1:Nat} {e1:List (Nat×AV)} {ps1:Array Nat} {as1 bd1:Code} (hv1:(S1.heap k).ver=v) (hob1:(S1.heap k).ob=some (.lp f1 N1 e1 ps1 as1 bd1 .ready)) {e:aG} {S2:St}
    (h2:∀X:ce,X.P=P→X.N=N→AW X bd ⟨S1.env,aM S1.heap k ⟨v,some (.lp f1 N1 e1 ps1 as1 bd1 .busy)⟩⟩ fun e' S'=>e'=e∧S'=S2)
    {f2 N2:Nat} {e2:List (Nat×AV)} {ps2:Array Nat} {as2 bd2:Code} {st2 st:LSt} {b:Bool} (hv2:(S2.heap k).ver=v) (hob2:(S2.heap k).ob=some (.lp f2 N2 e2 ps2 as2 bd2 st2)) (ho:su e=some (b,st)):
    xK P k v args h [.d (.bool b)] (aM S2.heap k ⟨v,some (.lp f2 N2 e2 ps2 as2 bd2 st)⟩):=fun G B w0 I0 w cargs hr hsz hargs l hl=>by
 obtain⟨l',r,g1,g2,g3⟩:=hr.maps.loops k fno N env ps Ua bd .ready hob
 have hll:l'=l:=by
  rw[hv,hl]at g1;exact(Option.some.inj g1).symm
 subst hll;have hplen:=uC henv;obtain⟨q1,q2,q3⟩:=uD (G:=G) (w:=w) cargs.toList r.tmps henv (by simpa using hsz) g3.size (fun i x u hx hu=>hargs i x u hx (by simpa using hu)) g3.rep g3.out
 have hfold:((r.params.zip cargs).foldl (fun tmps (p:Nat×Value)=>tmps.setIfInBounds p.1 p.2) r.tmps)=((ps.toList.zip cargs.toList).foldl (fun tmps (p:Nat×Value)=>tmps.setIfInBounds p.1 p.2) r.tmps):=by
  rw[g3.ps,←Array.foldl_toList,Array.toList_zip]
 refine⟨r.fn,_,r.assign,r.body,run_yield g2 (by rw[g3.ps,hsz,←hplen];simp),fun rr=> ?_⟩;rw[g3.Ua,g3.bd];have hfold2:(Array.foldl (fun tmps x=>match x with|(t,a)=>tmps.setIfInBounds t a) r.tmps (r.params.zip cargs))=((ps.toList.zip cargs.toList).foldl (fun tmps (p:Nat×Value)=>tmps.setIfInBounds p.1 p.2) r.tmps):=hfold;rw[hfold2];refine roundIn_of_wpIn (F:=FF rr) trivial ?_
 let X:ce:=⟨P,B,w0,I0,N,hm,some l',w.heap.size,[]⟩
 have hstart:fc X G ⟨env1,h⟩ {tmps:=((ps.toList.zip cargs.toList).foldl (fun tmps (p:Nat×Value)=>tmps.setIfInBounds p.1 p.2) r.tmps),defers:=[]} w:=
  ⟨hr,[],⟨q1,rfl,q2,q3⟩,List.nodup_nil,fun _ h=>(by cases h),fun _ h=>(by cases h),fun l hl=>by cases hl;exact⟨r,g2⟩,Nat.le_refl _⟩
 refine wpIn_mono (h1 X rfl rfl G _ w hstart) ?_;rintro e' a' w' ⟨_,S',G',xr1,⟨rfl,rfl⟩,x1,y1,bs1,z1,s1⟩;obtain rfl:=xr1.normal;obtain⟨l2,r2,k1,k2,k3⟩:=y1.maps.loops k f1 N1 e1 ps1 as1 bd1 .ready hob1
 have hll:l2=l':=by
  rw[hv1,x1.mloc _ _ _ hl]at k1;exact(Option.some.inj k1).symm
 subst hll;refine⟨_,run_beginRound k2 k3.state, ?_⟩
 obtain⟨y2,x2⟩:=y1.setFix (k:=k) (o':= .loop {r2 with state:= .busy}) (ob':=some (.lp f1 N1 e1 ps1 as1 bd1 .busy)) (by rw[hob1];rfl) k1 k2 rfl rfl (fun _=>⟨_,rfl⟩) (fun x e=>by cases e;rfl) (fun _ _ e=>by cases e) (fun _ _ _ _ _ _ _ e=>by
  cases e;exact⟨_,World.putObj_heap_same (Array.getElem?_eq_some_iff.1 k2).1,k3.size,k3.rep,k3.out,k3.ps,k3.Ua,k3.bd,rfl,k3.pending⟩)
 rw[hv1]at y2;refine wpIn_mono (h2 X rfl rfl G' _ _ ⟨y2,bs1,z1.mono x2,s1.mono x2⟩) ?_;rintro e' a'' w'' ⟨e9,S'',G'',xr2,⟨rfl,rfl⟩,x3,y3,-⟩;obtain⟨l3,r3,m1,m2,m3⟩:=y3.maps.loops k f2 N2 e2 ps2 as2 bd2 st2 hob2
 have hll:l3=l2:=by
  rw[hv2,x3.mloc _ _ _ (x2.mloc _ _ _ (x1.mloc _ _ _ hl))]at m1;exact(Option.some.inj m1).symm
 subst hll
 have fin:∀(jump:Option Code),jump.isNone=b→(if jump.isNone=true then LoopState.ready else .done)=st.state→jump=st.pending→∃vv w3,(Instr.endRound l3 jump).run P w''= .ok vv w3∧∃x G',Ending.returned vv= .returned x∧Ext G w G' w3∧HR G' B w0 I0 (aM S''.heap k ⟨v,some (.lp f2 N2 e2 ps2 as2 bd2 st)⟩) w3∧Rep G' w3 (gY [.d (.bool b)]) x:=by
  intro jump j1 j2 j3
  obtain⟨y4,x4⟩:=y3.setFix (k:=k) (o':= .loop {r3 with state:=if jump.isNone then .ready else .done,pending:=jump}) (ob':=some (.lp f2 N2 e2 ps2 as2 bd2 st)) (by rw[hob2];rfl) m1 m2 rfl rfl (fun _=>⟨_,rfl⟩) (fun x e=>by cases e;rfl) (fun _ _ e=>by cases e) (fun _ _ _ _ _ _ _ e=>by
   cases e;exact⟨_,World.putObj_heap_same (Array.getElem?_eq_some_iff.1 m2).1,m3.size,m3.rep,m3.out,m3.ps,m3.Ua,m3.bd,j2,j3⟩)
  rw[hv2]at y4;exact⟨_,_,run_endRound jump m2,_,G'',rfl,(x1.trans x2).trans (x3.trans x4),y4,by rw[j1];exact .d (.bool b)⟩
 cases e9 with
 |normal=>obtain rfl:=xr2.normal;cases ho;exact fin none rfl rfl rfl
 |ret=>obtain rfl:=xr2.ret;cases ho;exact fin (some .ret) rfl rfl rfl
 |exit id=>obtain rfl:=xr2.exit;cases ho;exact fin (some (.exit id)) rfl rfl rfl
 |panic x=>cases ho
end Go.Avm
