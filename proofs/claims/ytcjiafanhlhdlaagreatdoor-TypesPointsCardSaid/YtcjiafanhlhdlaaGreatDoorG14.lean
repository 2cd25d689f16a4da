/-
  Types: what is known at a statement is right (plain).
-/
import Derived.Test.YtcjiafanhlhdlaaGreatDoorG13
import Derived.Test.YtcjiafanhlhdlaaGreatDoorRows
import Derived.Test.YtcjiafanhlhdlaaGreatDoorG12
import Derived.Laws.StandIn
import Derived.LaidMore
import Derived.LaidSub
import Derived.Lay
import Derived.MakeChecks
import Derived.ChangeMaps5
import Derived.Lib.LaidTab
import Derived.Stop.LaidErr
import Derived.ChangeSlices
import Derived.OpenShut
import Derived.Deep.Slices
set_option linter.unusedVariables false
set_option linter.unusedSimpArgs false
set_option linter.unusedSectionVars false
namespace Go.Avm
open Go.Proofs
theorem TR.bind_ok{α β:Type}{r:TR α}{f:α→TR β}{b:β}(h:r.bind f= .ok b):∃a,r= .ok a∧f a= .ok b:=by
 cases r with
 |ok a=>exact⟨a,rfl,h⟩
 |bad p e=>cases h
 |out=>cases h
theorem dz{α:Type}{b:Bool}{x y:TR α}{a:α}(h:(bif b then x else y)= .ok a):(b=true∧x= .ok a)∨(b=false∧y= .ok a):=by
 cases b
 ·exact .inr ⟨rfl,h⟩
 ·exact .inl ⟨rfl,h⟩
structure PtOk(vs:List Vr)(fn id:Nat)(p:Pt):Prop where
 fn:p.fn=(fn:Int)
 inc:p.seen.Pairwise (· < ·)
 sn:∀v∈p.seen,∃x,vs[v]? =some x∧x.st<(id:Int)
 sure:∃P:Nat→Bool,p.sure=p.seen.filter P
theorem PtOk.mono{vs ws:List Vr}{fn id:Nat}{p:Pt}(h:PtOk vs fn id p)(hv:vs<+:ws):PtOk ws fn id p where
 fn:=h.fn
 inc:=h.inc
 sn:=fun v hm=>by
  obtain⟨x,h1,h2⟩:=h.sn v hm;obtain⟨t,rfl⟩:=hv;exact⟨x,by rw[List.getElem?_append_left (List.getElem?_eq_some_iff.1 h1).1];exact h1,h2⟩
 sure:=h.sure
structure PI(c:CS):Prop where
 nv:c.vars.length≤255
 inc:(c.seen.map (·.2)).Pairwise (· < ·)
 sn:∀p∈c.seen,p.2<c.vars.length
 st:∀v∈c.vars,v.st<(c.pts.length:Int)
structure RR(fn:Nat)(c c':CS):Prop where
 vp:c.vars<+:c'.vars
 pp:∃new,c'.pts=c.pts ++new∧∀i p,new[i]? =some p→PtOk c'.vars fn (c.pts.length+i) p
theorem RR.refl{fn:Nat}{c c':CS}(hv:c.vars<+:c'.vars)(hp:c'.pts=c.pts):RR fn c c':=⟨hv,[],by rw[hp,List.append_nil],fun i p h=>by simp at h⟩
theorem RR.trans{fn:Nat}{a b c:CS}(h1:RR fn a b)(h2:RR fn b c):RR fn a c:=by
 obtain⟨v1,n1,p1,q1⟩:=h1;obtain⟨v2,n2,p2,q2⟩:=h2;refine⟨v1.trans v2,n1 ++n2,by rw[p2,p1,List.append_assoc],fun i p h=> ?_⟩;by_cases hi:i<n1.length
 ·rw[List.getElem?_append_left hi]at h
  exact(q1 i p h).mono v2
 ·rw[List.getElem?_append_right (by omega)]at h
  have:=q2 _ p h;rw[p1,List.length_append]at this;rw[show a.pts.length+i=a.pts.length+n1.length+(i-n1.length) by omega];exact this
theorem PI.back{c a:CS}(hc:PI c)(ha:PI a){fn:Nat}(r:RR fn c a)(q:SureL):PI {a with seen:=c.seen,sure:=q} where
 nv:=ha.nv
 inc:=hc.inc
 sn:=fun p hp=>Nat.lt_of_lt_of_le (hc.sn p hp) r.vp.length_le
 st:=ha.st
theorem J5{fs:List Fn}{fn:Nat}{deep:Int}{nm:List UInt8}{id ty n p:Int}{es:List Ex}{c c':CS}(hc:PI c)(hid:id<(c.pts.length:Int))(h:sL fs deep nm id ty n p es c= .ok c'):PI c'∧RR fn c c':=by
 unfold sL at h;rcases dz h with ⟨_,h⟩|⟨_,h⟩
 ·cases h
 obtain⟨_,_,h⟩:=TR.bind_ok h;rcases dz h with ⟨_,h⟩|⟨_,h⟩
 ·cases h
 rcases dz h with ⟨_,h⟩|⟨_,h⟩
 ·cases h
 rcases dz h with ⟨_,h⟩|⟨_,h⟩
 ·cases h
 rcases dz h with ⟨_,h⟩|⟨_,h⟩
 ·cases h
 rcases dz h with ⟨_,h⟩|⟨hl,h⟩
 ·cases h
 have hl:=of_decide_eq_false hl
 have key:PI (c.add ⟨nm,ty,n,id⟩):=by
  refine⟨?_, ?_, ?_, ?_⟩
  ·simp only[CS.add,List.length_append,List.length_singleton];omega
  ·simp only[CS.add,List.map_append,List.map_cons,List.map_nil]
   rw[List.pairwise_append];refine⟨hc.inc,List.pairwise_singleton _ _,fun a ha b hb=> ?_⟩;rw[List.mem_singleton.1 hb];obtain⟨p,hp,rfl⟩:=List.mem_map.1 ha;exact hc.sn p hp
  ·intro p hp
   simp only[CS.add,List.length_append,List.length_singleton];rcases List.mem_append.1 hp with hp|hp
   ·have:=hc.sn p hp;omega
   ·rw[List.mem_singleton.1 hp];exact Nat.lt_succ_self _
  ·intro v hv
   rcases List.mem_append.1 hv with hv|hv
   ·exact hc.st v hv
   ·rw[List.mem_singleton.1 hv];exact hid
 have hr:c.vars<+:(c.add ⟨nm,ty,n,id⟩).vars:=List.prefix_append _ _;injection h with h
 subst h;cases (ty==3|| !es.isEmpty)with
 |true=>exact⟨⟨key.nv,key.inc,key.sn,key.st⟩,RR.refl hr rfl⟩
 |false=>exact⟨key,RR.refl hr rfl⟩
theorem GP{fs:List Fn}{fn:Nat}{p:Int}{es:List Ex}{c c':CS}(h:kM fs fn p es c= .ok c'):c'=c:=by
 unfold kM at h;split at h
 ·cases h
 ·rcases dz h with ⟨_,h⟩|⟨_,h⟩
  ·split at h
   ·cases h;rfl
   ·obtain⟨_,_,h⟩:=TR.bind_ok h;cases h
  ·split at h
   ·cases h
   ·obtain⟨_,_,h⟩:=TR.bind_ok h;cases h;rfl
mutual
theorem GQ(fs:List Fn)(fn:Nat):∀(x:bt)(deep:Int)(c c':CS),PI c→jQ fs fn deep x c= .ok c'→PI c'∧RR fn c c'
 | .mk k id nm ty n p es bd el,deep,c0,c',hc0,h=>by
  unfold jQ at h;rcases dz h with ⟨hg,h⟩|⟨_,h⟩
  case inr=>cases h
  simp only[Bool.and_eq_true,beq_iff_eq]at hg;obtain⟨hid,_⟩:=hg
  have hc:PI {c0 with pts:=c0.pts ++[c0.pt fn]}:=⟨hc0.nv,hc0.inc,hc0.sn,fun v hv=>by
   have:=hc0.st v hv;show v.st<((c0.pts ++[c0.pt fn]).length:Int);simp only[List.length_append,List.length_singleton];omega⟩
  have hr:RR fn c0 {c0 with pts:=c0.pts ++[c0.pt fn]}:=by
   refine⟨List.prefix_refl _,[c0.pt fn],rfl,fun i p hi=> ?_⟩;cases i with
   |succ i=>simp at hi
   |zero=>
    simp only[List.getElem?_cons_zero,Option.some.injEq]at hi;subst hi;refine⟨rfl,hc0.inc,fun v hv=> ?_,c0.sure.has,rfl⟩;obtain⟨q,hq,rfl⟩:=List.mem_map.1 hv;have h1:=hc0.sn q hq;exact⟨_,List.getElem?_eq_getElem h1,hc0.st _ (List.getElem_mem h1)⟩
  have done:∀{c1:CS},PI c1∧RR fn {c0 with pts:=c0.pts ++[c0.pt fn]} c1→PI c1∧RR fn c0 c1:=fun ⟨a,b⟩=>⟨a,hr.trans b⟩
  have same:∀q:SureL,PI {c0 with pts:=c0.pts ++[c0.pt fn],sure:=q}∧RR fn {c0 with pts:=c0.pts ++[c0.pt fn]} {c0 with pts:=c0.pts ++[c0.pt fn],sure:=q}:=fun q=>⟨⟨hc.nv,hc.inc,hc.sn,hc.st⟩,RR.refl (List.prefix_refl _) rfl⟩
  apply done;rcases dz h with ⟨_,h⟩|⟨_,h⟩
  ·exact J5 hc (by show id<((c0.pts ++[c0.pt fn]).length:Int);simp only[List.length_append,List.length_singleton];omega) h
  rcases dz h with ⟨_,h⟩|⟨_,h⟩
  ·obtain⟨_,_,h⟩:=TR.bind_ok h
   rcases dz h with ⟨_,h⟩|⟨_,h⟩
   ·cases h
   obtain⟨_,_,h⟩:=TR.bind_ok h;cases h;exact same _
  rcases dz h with ⟨_,h⟩|⟨_,h⟩
  ·obtain⟨_,_,h⟩:=TR.bind_ok h
   obtain⟨_,_,h⟩:=TR.bind_ok h;cases h;exact same _
  rcases dz h with ⟨_,h⟩|⟨_,h⟩
  ·obtain⟨_,_,h⟩:=TR.bind_ok h
   obtain⟨a,ha,h⟩:=TR.bind_ok h;obtain⟨b,hb,h⟩:=TR.bind_ok h;obtain⟨ia,ra⟩:=k6 fs fn bd _ _ _ _ hc ha;obtain⟨ib,rb⟩:=k6 fs fn el _ _ _ _ (hc.back ia ra c0.sure) hb;have ra2:RR fn {c0 with pts:=c0.pts ++[c0.pt fn]} {a with seen:=c0.seen,sure:=c0.sure}:=⟨ra.vp,ra.pp⟩
   have r2:=ra2.trans rb;cases h;exact⟨hc.back ib r2 _,⟨r2.vp,r2.pp⟩⟩
  rcases dz h with ⟨_,h⟩|⟨_,h⟩
  ·obtain⟨_,_,h⟩:=TR.bind_ok h
   obtain⟨a,ha,h⟩:=TR.bind_ok h;obtain⟨ia,ra⟩:=k6 fs fn bd _ _ _ _ hc ha;cases h;exact⟨hc.back ia ra _,⟨ra.vp,ra.pp⟩⟩
  rcases dz h with ⟨_,h⟩|⟨_,h⟩
  ·rw[GP h]
   exact same _
  rcases dz h with ⟨_,h⟩|⟨_,h⟩
  ·obtain⟨_,_,h⟩:=TR.bind_ok h
   cases h;exact same _
  rcases dz h with ⟨_,h⟩|⟨_,h⟩
  ·split at h
   ·cases h
   ·obtain⟨_,_,h⟩:=TR.bind_ok h
    cases h;exact same _
  ·cases h
   exact same _
theorem k6(fs:List Fn)(fn:Nat):∀(l:List bt)(deep:Int)(prev:Bool)(c c':CS),PI c→bF fs fn deep prev l c= .ok c'→PI c'∧RR fn c c'
 |[],deep,prev,c,c',hc,h=>by
  unfold bF at h;cases h;exact⟨hc,RR.refl (List.prefix_refl _) rfl⟩
 |x::r,deep,prev,c,c',hc,h=>by
  unfold bF at h;rcases dz h with ⟨_,h⟩|⟨_,h⟩
  ·cases h
  obtain⟨a,ha,h⟩:=TR.bind_ok h;obtain⟨ia,ra⟩:=GQ fs fn x _ _ _ hc ha;obtain⟨ib,rb⟩:=k6 fs fn r _ _ _ _ ia h;exact⟨ib,ra.trans rb⟩
end
theorem J6{c:CS}{p:Pm}(hc:PI c)(hl:c.vars.length<255)(hp:1≤c.pts.length):PI (c.par p):=by
 refine⟨?_, ?_, ?_, ?_⟩
 ·simp only[CS.par,CS.add,List.length_append,List.length_singleton];omega
 ·simp only[CS.par,CS.add,List.map_append,List.map_cons,List.map_nil]
  rw[List.pairwise_append];refine⟨hc.inc,List.pairwise_singleton _ _,fun a ha b hb=> ?_⟩;rw[List.mem_singleton.1 hb];obtain⟨p,hp,rfl⟩:=List.mem_map.1 ha;exact hc.sn p hp
 ·intro p hp
  simp only[CS.par,CS.add,List.length_append,List.length_singleton];rcases List.mem_append.1 hp with hp|hp
  ·have:=hc.sn p hp;omega
  ·rw[List.mem_singleton.1 hp];exact Nat.lt_succ_self _
 ·intro v hv
  rcases List.mem_append.1 hv with hv|hv
  ·exact hc.st v hv
  ·rw[List.mem_singleton.1 hv]
   show(0:Int)<(c.pts.length:Int);omega
theorem Az:∀(ps:List Pm)(c:CS),PI c→c.vars.length+ps.length≤255→1≤c.pts.length→PI (ps.foldl CS.par c)
 |[],_,h,_,_=>h
 |p::r,c,h,hl,hp=>by
  simp only[List.length_cons]at hl;exact Az r (c.par p) (J6 h (by omega) hp) (by simp only[CS.par,CS.add,List.length_append,List.length_singleton];omega) hp
def GR(rows:List (List Vr))(id:Nat)(p:Pt):Prop:=∃(fn:Nat)(vs:List Vr),rows[fn]? =some vs∧vs.length≤255∧PtOk vs fn id p
theorem GS{fs:List Fn}{i:Nat}{f:Fn}{pts:List Pt}{q:List Vr×List Pt}(hl:f.ps.length≤6)(hp:1≤pts.length)(h:kU fs i f pts= .ok q):q.1.length≤255∧∃new,q.2=pts ++new∧∀j p,new[j]? =some p→PtOk q.1 i (pts.length+j) p:=by
 unfold kU at h;obtain⟨c,hc,h⟩:=TR.bind_ok h;obtain⟨a,ha,hc⟩:=TR.bind_ok hc;have h0:PI (f.ps.foldl CS.par ⟨[],[],⟨[],0⟩,pts⟩):=Az _ _ ⟨by simp,List.Pairwise.nil,fun _ h=>by simp at h,fun _ h=>by simp at h⟩ (by show 0+f.ps.length≤255;omega) hp;obtain⟨ia,ra⟩:=k6 fs i f.bd _ _ _ _ h0 ha;cases hc;rcases dz h with ⟨_,h⟩|⟨_,h⟩
 case inr=>cases h
 cases h;refine⟨ia.nv, ?_⟩;have:=ra.pp;rw[vo]at this;exact this
theorem tZ{fs:List Fn}:∀(lB:List Fn)(i:Nat)(rows:List (List Vr))(pts:List Pt)(q:List (List Vr)×List Pt),(∀f∈lB,f.ps.length≤6)→rows.length=i→1≤pts.length→(∀vs∈rows,vs.length≤255)→(∀id p,pts[id]? =some p→(id=0∧p=dU)∨GR rows id p)→cv fs i lB rows pts= .ok q→q.1.length=i+lB.length∧(∀vs∈q.1,vs.length≤255)∧∀id p,q.2[id]? =some p→(id=0∧p=dU)∨GR q.1 id p
 |[],i,rows,pts,q,_,hr,_,hv,hq,h=>by
  unfold cv at h;cases h;exact⟨hr,hv,hq⟩
 |f::r,i,rows,pts,q,hf,hr,hp,hv,hq,h=>by
  unfold cv at h;obtain⟨a,ha,h⟩:=TR.bind_ok h;obtain⟨h1,new,h2,h3⟩:=GS (hf f (List.mem_cons_self ..)) hp ha
  have:=tZ r (i+1) (rows ++[a.1]) a.2 q (fun g hg=>hf g (List.mem_cons_of_mem _ hg)) (by simp[hr]) (by rw[h2,List.length_append];omega) (fun vs hm=>by
   rcases List.mem_append.1 hm with hm|hm
   ·exact hv vs hm
   ·rw[List.mem_singleton.1 hm];exact h1) ?_ h
  ·exact⟨by simp only[List.length_cons];omega,this.2⟩
  intro id p hip;rw[h2]at hip;by_cases hi:id<pts.length
  ·rw[List.getElem?_append_left hi]at hip
   rcases hq id p hip with hz|⟨fn,vs,g1,g2,g3⟩
   ·exact .inl hz
   ·refine .inr ⟨fn,vs, ?_,g2,g3⟩
    rw[List.getElem?_append_left (List.getElem?_eq_some_iff.1 g1).1];exact g1
  ·rw[List.getElem?_append_right (by omega)]at hip
   have:=h3 _ p hip;rw[show pts.length+(id-pts.length)=id by omega]at this;exact .inr ⟨i,a.1,by rw[List.getElem?_append_right (by omega),hr];simp,h1,this⟩
theorem ER{fs:List Fn}{q:List (List Vr)×List Pt}(h:eK fs= .ok q):∀id p,q.2[id]? =some p→GR q.1 id p:=by
 unfold eK at h;obtain⟨u,hu,h⟩:=TR.bind_ok h
 obtain⟨h1,hv,h2⟩:=tZ fs 0 [] [dU] q (fun f hf=>(oP hu f hf).1) rfl (by simp) (fun _ h=>by simp at h) (fun id p hi=>by
  cases id with
  |zero=>simp only[List.getElem?_cons_zero,Option.some.injEq]at hi;exact .inl ⟨rfl,hi.symm⟩
  |succ id=>simp at hi) h
 intro id p hi;rcases h2 id p hi with ⟨rfl,rfl⟩|h3
 ·cases fs with
  |nil=>cases hu
  |cons f r=>
   have hl:0<q.1.length:=by rw[h1];simp
   exact⟨0,_,List.getElem?_eq_getElem hl,hv _ (List.getElem_mem hl),rfl,List.Pairwise.nil,fun _ h=>by simp[dU]at h,fun _=>true,rfl⟩
 ·exact h3
theorem AA:∀(S:List Nat)(lo n:Nat),S.Pairwise (· < ·)→(∀v∈S,lo≤v∧v<n)→S.length≤n-lo
 |[],_,_,_,_=>Nat.zero_le _
 |v::r,lo,n,hp,hb=>by
  rw[List.pairwise_cons]at hp;have h1:=hb v (List.mem_cons_self ..);have:=AA r (v+1) n hp.2 fun w hw=>⟨hp.1 w hw,(hb w (List.mem_cons_of_mem _ hw)).2⟩
  simp only[List.length_cons];omega
theorem PtOk.len{vs:List Vr}{fn id:Nat}{p:Pt}(h:PtOk vs fn id p):p.seen.length≤vs.length:=by
 have:=AA p.seen 0 vs.length h.inc fun v hv=>by
  obtain⟨x,h1,_⟩:=h.sn v hv;exact⟨Nat.zero_le _,(List.getElem?_eq_some_iff.1 h1).1⟩
 omega
end Go.Avm
namespace Go.Avm
open Go.Proofs
def NZ{α:Type}(r:TR α):Prop:=∀p e,r= .bad p e→e≠0
theorem NZ.bind{α β:Type}{r:TR α}{f:α→TR β}(h:NZ r)(hf:∀a,NZ (f a)):NZ (r.bind f):=fun p e he=>by
 cases r with
 |ok a=>exact hf a p e he
 |bad p' e'=>cases he;exact h _ _ rfl
 |out=>cases he
theorem NZ.bif{α:Type}{b:Bool}{x y:TR α}(hx:NZ x)(hy:NZ y):NZ (bif b then x else y):=by cases b<;>assumption
theorem NZ.ok{α:Type}{a:α}:NZ (TR.ok a):=fun _ _ h=>by cases h
theorem NZ.out{α:Type}:NZ (TR.out:TR α):=fun _ _ h=>by cases h
theorem NZ.bad{α:Type}{p e:Int}(h:e≠0):NZ (TR.bad p e:TR α):=fun _ _ q=>by cases q;exact h
theorem vz(E:TE)(nm:List UInt8)(p:Int):NZ (mt E nm p):=by
 unfold mt;split
 ·exact NZ.ok
 ·exact NZ.bad (by decide)
theorem vA(E:TE)(nm:List UInt8)(p:Int):NZ (rn E nm p):=NZ.bind (vz _ _ _) fun _=>NZ.bif NZ.ok (NZ.bad (by decide))
mutual
theorem AB(E:TE):∀x:Ex,NZ (dV E x)
 | .mk k o nm n p xs=>by
  have hN:=fun ts eq=>gy E xs ts eq
  unfold dV;refine NZ.bif NZ.ok (NZ.bif (NZ.bind (vz _ _ _) fun _=>NZ.bif NZ.ok (NZ.bad (by decide))) ?_);refine NZ.bif (NZ.bind (vA _ _ _) fun _=>NZ.bind (hN _ _) fun _=>NZ.ok) ?_;refine NZ.bif (NZ.bind (vA _ _ _) fun _=>NZ.ok) (NZ.bif ?_ ?_)
  ·split
   ·exact NZ.bad (by decide)
   ·exact NZ.bif (NZ.bind (hN _ _) fun _=>NZ.ok) (NZ.bad (by decide))
  ·refine NZ.bif (NZ.bif (NZ.bind (hN _ _) fun _=>NZ.ok) (NZ.bind (hN _ _) fun _=>NZ.ok)) (NZ.bif (NZ.bif NZ.out ?_) NZ.ok)
   exact NZ.bif (NZ.bind (hN _ _) fun _=>NZ.ok) (NZ.bif (NZ.bind (hN _ _) fun _=>NZ.ok) (NZ.bind (hN _ _) fun _=>NZ.ok))
theorem gy(E:TE):∀(xs:List Ex)(ts:List (List Int))(eq:Bool),NZ (aG E xs ts eq)
 |[],[],_=>by unfold aG;exact NZ.ok
 |_::_,[],_=>by unfold aG;exact NZ.ok
 |[],_::_,_=>by unfold aG;exact NZ.out
 |x::xs,ts::r,eq=>by
  unfold aG;exact NZ.bind (AB E x) fun t=>NZ.bif (gy E xs _ false) (NZ.bad (by decide))
end
theorem J7(fs:List Fn)(deep:Int)(nm:List UInt8)(id ty n p:Int)(es:List Ex)(c:CS):NZ (sL fs deep nm id ty n p es c):=by
 unfold sL;exact NZ.bif NZ.out (NZ.bind (gy _ _ _ _) fun _=>NZ.bif NZ.out (NZ.bif (NZ.bad (by decide)) (NZ.bif (NZ.bad (by decide)) (NZ.bif (NZ.bad (by decide)) (NZ.bif (NZ.bad (by decide)) NZ.ok)))))
theorem GT(fs:List Fn)(fn:Nat)(p:Int)(es:List Ex)(c:CS):NZ (kM fs fn p es c):=by
 unfold kM;split
 ·exact NZ.out
 ·refine NZ.bif ?_ ?_
  ·split
   ·exact NZ.ok
   ·exact NZ.bind (AB _ _) fun _=>NZ.bad (by decide)
  ·split
   ·exact NZ.bad (by decide)
   ·exact NZ.bind (NZ.bind (AB _ _) fun _=>NZ.bif NZ.ok (NZ.bad (by decide))) fun _=>NZ.ok
mutual
theorem GU(fs:List Fn)(fn:Nat):∀(x:bt)(deep:Int)(c:CS),NZ (jQ fs fn deep x c)
 | .mk k id nm ty n p es bd el,deep,c=>by
  have hb:=fun deep prev c=>nU fs fn bd deep prev c
  have he:=fun deep prev c=>nU fs fn el deep prev c
  unfold jQ;refine NZ.bif ?_ NZ.out;dsimp only;refine NZ.bif (J7 _ _ _ _ _ _ _ _ _) (NZ.bif (NZ.bind (vz _ _ _) fun _=>NZ.bif (NZ.bad (by decide)) (NZ.bind (gy _ _ _ _) fun _=>NZ.ok)) ?_);refine NZ.bif (NZ.bind (vA _ _ _) fun _=>NZ.bind (gy _ _ _ _) fun _=>NZ.ok) ?_;refine NZ.bif (NZ.bind (gy _ _ _ _) fun _=>NZ.bind (hb _ _ _) fun _=>NZ.bind (he _ _ _) fun _=>NZ.ok) ?_;refine NZ.bif (NZ.bind (gy _ _ _ _) fun _=>NZ.bind (hb _ _ _) fun _=>NZ.ok) ?_;refine NZ.bif (GT _ _ _ _ _) (NZ.bif (NZ.bind (gy _ _ _ _) fun _=>NZ.ok) (NZ.bif ?_ NZ.ok));split
  ·exact NZ.out
  ·exact NZ.bind (AB _ _) fun _=>NZ.ok
theorem nU(fs:List Fn)(fn:Nat):∀(l:List bt)(deep:Int)(prev:Bool)(c:CS),NZ (bF fs fn deep prev l c)
 |[],deep,prev,c=>by unfold bF;exact NZ.ok
 |x::r,deep,prev,c=>by
  unfold bF;exact NZ.bif (NZ.bad (by decide)) (NZ.bind (GU fs fn x _ _) fun _=>nU fs fn r _ _ _)
end
theorem AD:∀(ps:List Pm)(k:Nat)(had:List (List UInt8)),NZ (nJ k had ps)
 |[],_,_=>NZ.ok
 |p::r,k,had=>by
  simp only[nJ];exact NZ.bif (NZ.bad (by decide)) (NZ.bif (NZ.bad (by decide)) (AD r _ _))
theorem t6:∀(fs pre:List Fn),NZ (fH pre fs)
 |[],_=>NZ.ok
 |f::r,pre=>by
  simp only[fH];exact NZ.bif (NZ.bad (by decide)) (NZ.bind (AD _ _ _) fun _=>t6 r _)
theorem BF(fs:List Fn):NZ (gC fs):=by
 unfold gC;refine NZ.bind (t6 _ _) fun _=> ?_
 split
 ·exact NZ.bad (by decide)
 ·exact NZ.bif NZ.ok (NZ.bad (by decide))
theorem t7(fs:List Fn):∀(lB:List Fn)(i:Nat)(rows:List (List Vr))(pts:List Pt),NZ (cv fs i lB rows pts)
 |[],_,_,_=>NZ.ok
 |f::r,i,rows,pts=>by
  simp only[cv];refine NZ.bind ?_ fun _=>t7 fs r _ _ _
  unfold kU en;exact NZ.bind (NZ.bind (nU _ _ _ _ _ _) fun _=>NZ.ok) fun _=>NZ.bif NZ.ok (NZ.bad (by decide))
theorem ES(fs:List Fn):NZ (eK fs):=NZ.bind (BF fs) fun _=>t7 fs fs _ _ _
theorem sm{fs:List Fn}:∀(lB:List Fn)(i:Nat)(rows:List (List Vr))(pts:List Pt)(n a:Int)(q:List (List Vr)×List Pt),i+lB.length≤fs.length→(∀f∈lB,mB f)→sQ lB n a→n=(pts.length:Int)→pts.length+gu lB<900000000→cv fs i lB rows pts= .ok q→q.2.length≤pts.length+gu lB
 |[],_,_,_,_,_,q,_,_,_,_,_,h=>by
  unfold cv at h;cases h;exact Nat.le_add_right _ _
 |f::r,i,rows,pts,n,a,q,hi,hg,hN,hn,hb,h=>by
  simp only[List.length_cons]at hi;simp only[gu,GH]at hb ⊢;cases hN with
  | @cons nm ps k bd p _ _ _ n1 a1 lb hNb hNr=>
  have hb:pts.length+(1+ps.length+cq bd+gu r)<900000000:=hb;obtain⟨g1,g2⟩:=Aw (fs:=fs) (i:=i) (by omega) (f:=⟨nm,ps,k,bd,p⟩) (hg _ (List.mem_cons_self ..)).bd hn hNb (by show pts.length+cq bd<_;omega);unfold cv at h;obtain⟨b,hb2,h⟩:=TR.bind_ok h;obtain⟨g3,g4⟩:=g2 b hb2;have g4:b.2.length≤pts.length+cq bd:=g4;have:=sm r (i+1) _ b.2 n1 a1 q (by omega) (fun f hf=>hg f (List.mem_cons_of_mem _ hf)) hNr g3.symm (by omega) h;show q.2.length≤pts.length+(1+ps.length+cq bd+gu r);omega
theorem BG{fs:List Fn}(h:PG fs){q:List (List Vr)×List Pt}(hq:eK fs= .ok q):q.2.length≤1000001:=by
 unfold eK at hq;obtain⟨_,_,hq⟩:=TR.bind_ok hq;have:=sm fs 0 [] [dU] 1 (-1) q (by omega) h.g h.num rfl (by have:=h.z;simp only[List.length_cons,List.length_nil];omega) hq;have:=h.z;simp only[List.length_cons,List.length_nil]at*;omega
end Go.Avm
namespace Go.Avm
open Go.Proofs
theorem k7{S:List Nat}{j:Nat}{v:Nat}(h:S[j]? =some v):(bL S)[((j:Nat):Int).toNat]? =some (.int .i64 (v:Int)):=by
 rw[Int.toNat_natCast,bL,List.getElem?_map,h];rfl
section
variable{rows:List (List Vr)}{vs:List Vr}{fn id:Nat}(pts:List D)(hr:rows[fn]? =some vs)(S:List Nat)(hl:S.length≤255)(hs:∀v∈S,∃x,vs[v]? =some x∧x.st<(id:Int))(P:Nat→Bool)
include hr hl hs
theorem GV:∀(T:List Nat)(j k:Nat)(la:Int),S.drop j=T→j≤S.length→k≤(S.filter P).length→(S.filter P).drop k=T.filter P→(∀v∈T,la<(v:Int))→T.Pairwise (· < ·)→RL 95 (lO 5 12) (EQ pts id (bL S) la k j) (xN (ce rows) pts fn (bL S) (bL (S.filter P))) (.exit 2) (MN pts id (bL (S.filter P)).length) (xN (ce rows) pts fn (bL S) (bL (S.filter P)))
 |[],j,k,la,hj,hjl,hkl,hk,_,_,rest,X,hP,hN=>by
  have h1:S.length≤j:=List.drop_eq_nil_iff.1 hj;have h2:(S.filter P).length≤k:=List.drop_eq_nil_iff.1 hk;have e:(bL (S.filter P)).length=k:=by simp only[bL,List.length_map];omega
  rw[e];exact bh (MO (ce rows) pts id fn (bL S) (bL (S.filter P)) la k j (by simp only[bL,List.length_map,decide_eq_false_iff_not];omega) rest X hP hN) (by simp)
 |v::T,j,k,la,hj,hjl,hkl,hk,hla,hp,rest,X,hP,hN=>by
  have hv:S[j]? =some v:=by rw[←Nat.add_zero j,←List.getElem?_drop,hj];rfl
  have hjl:j<S.length:=(List.getElem?_eq_some_iff.1 hv).1;have hj1:S.drop (j+1)=T:=by rw[←List.drop_drop,hj];rfl
  obtain⟨x,hx,hst⟩:=hs v (List.mem_of_getElem? hv);obtain⟨nm,ty,n,st⟩:=x;have hvl:=(List.getElem?_eq_some_iff.1 hx).1;rw[List.pairwise_cons]at hp;have c0:decide (j<(bL S).length)=true:=by simp only[bL,List.length_map,decide_eq_true_eq];exact hjl
  have c1:decide ((v:Int)≤la)=false:=by have:=hla v (List.mem_cons_self ..);rw[decide_eq_false_iff_not];omega
  have c2:(ce rows)[((fn:Nat):Int).toNat]? =some (.ro (vs.map sK)):=by rw[Int.toNat_natCast,ce,List.getElem?_map,hr];rfl
  have c3:decide (((vs.map sK).length:Int)≤(v:Int))=false:=by rw[List.length_map,decide_eq_false_iff_not];omega
  have c4:(vs.map sK)[((v:Nat):Int).toNat]? =some (.agg [.str nm, .int .u8 ty, .int .i64 n, .int .i64 st]):=by rw[Int.toNat_natCast,List.getElem?_map,hx];rfl
  have c5:decide ((id:Int)≤st)=false:=by have:st<(id:Int):=hst;rw[decide_eq_false_iff_not];omega
  have nx:∀w∈T,(v:Int)<(w:Int):=fun w hw=>by have:=hp.1 w hw;omega
  cases hPv:P v with
  |true=>
   have hk':(S.filter P).drop k=v::T.filter P:=by rw[hk,List.filter_cons,if_pos hPv]
   have hw:(S.filter P)[k]? =some v:=by rw[←Nat.add_zero k,←List.getElem?_drop,hk'];rfl
   have hkl2:k<(S.filter P).length:=(List.getElem?_eq_some_iff.1 hw).1;have hk1:(S.filter P).drop (k+1)=T.filter P:=by rw[←List.drop_drop,hk'];rfl
   have hfl:=List.length_filter_le P S;exact bc (Pq (ce rows) pts id fn (bL S) (bL (S.filter P)) la k j c0 v (k7 hv) c1 _ c2 c3 _ _ _ st c4 c5 (by omega) (by simp only[bL,List.length_map,decide_eq_true_eq];exact hkl2) v (k7 hw) (by simp) (by omega) rest X hP hN) (GV T (j+1) (k+1) (v:Int) hj1 hjl hkl2 hk1 nx hp.2 rest X hP hN)
  |false=>
   have hk':(S.filter P).drop k=T.filter P:=by rw[hk,List.filter_cons,if_neg (by rw[hPv];decide)]
   by_cases hkl2:k<(S.filter P).length
   ·obtain⟨w,hw⟩:∃w,(S.filter P)[k]? =some w:=⟨_,List.getElem?_eq_getElem hkl2⟩
    have hm:w∈T.filter P:=by
     rw[←hk'];have:((S.filter P).drop k)[0]? =some w:=by rw[List.getElem?_drop,Nat.add_zero];exact hw
     exact List.mem_of_getElem? this
    have:=hp.1 w (List.mem_filter.1 hm).1;exact bc (Pr (ce rows) pts id fn (bL S) (bL (S.filter P)) la k j c0 v (k7 hv) c1 _ c2 c3 _ _ _ st c4 c5 (by omega) (by simp only[bL,List.length_map,decide_eq_true_eq];exact hkl2) w (k7 hw) (by rw[beq_eq_false_iff_ne];omega) rest X hP hN) (GV T (j+1) k (v:Int) hj1 hjl hkl hk' nx hp.2 rest X hP hN)
   ·exact bc (MP (ce rows) pts id fn (bL S) (bL (S.filter P)) la k j c0 v (k7 hv) c1 _ c2 c3 _ _ _ st c4 c5 (by omega) (by simp only[bL,List.length_map,decide_eq_false_iff_not];exact hkl2) rest X hP hN) (GV T (j+1) k (v:Int) hj1 hjl hkl hk' nx hp.2 rest X hP hN)
end
theorem MS{rows:List (List Vr)}{pts:List Pt}(h:∀id p,pts[id]? =some p→GR rows id p)(hn:pts.length<1000000000):∀(d id:Nat),pts.length-id=d→id≤pts.length→RL 95 (lO 5 7) (J4 (jH pts) id) (BK (ce rows) (jH pts)) (.exit 0) [] (BK (ce rows) (jH pts))
 |0,id,hd,hi,rest,X,hP,hN=>bh (MQ (ce rows) (jH pts) id (by simp only[jH,List.length_map,decide_eq_false_iff_not];omega) rest X hP hN) (by simp)
 |d+1,id,hd,hi,rest,X,hP,hN=>by
  have hlt:id<pts.length:=by omega
  obtain⟨fn,vs,g1,g2,g3⟩:=h id _ (List.getElem?_eq_getElem hlt);have hsl:=g3.len;obtain⟨f0,f1,f2,P,f3⟩:=g3
  have hg:(jH pts)[((id:Nat):Int).toNat]? =some (.agg [.int .i64 (fn:Int), .ro (bL (pts[id]).seen), .ro (bL ((pts[id]).seen.filter P))]):=by
   rw[Int.toNat_natCast,jH,List.getElem?_map,List.getElem?_eq_getElem hlt];simp only[Option.map_some,Ff,f0,f3]
  exact bc (Pv (ce rows) (jH pts) id (by simp only[jH,List.length_map,decide_eq_true_eq];exact hlt) fn _ _ hg (by omega) (fun rest X hP hN=>GV (jH pts) g1 _ (by omega) f2 P _ 0 0 (-1) rfl (Nat.zero_le _) (Nat.zero_le _) rfl (fun v _=>by omega) f1 rest X hP hN) rest X hP hN) (MS h hn d (id+1) (by omega) hlt rest X hP hN)
theorem zi(s:List UInt8):aM Pg 5 [.str s] [.bool true]:=by
 have hp:=vw s;have hr:=Ax s;unfold jm at hp;cases h:xH s with
 |error x=>
  obtain⟨q,e⟩:=x;rw[h]at hr hp;exact MM hp (by simpa using hr.2)
 |ok l=>
  rw[h]at hr hp;have hn:=sj hr.2;dsimp only at hp;cases hc:eK l with
  |out=>exact absurd hc hn
  |bad p e=>
   rw[hc]at hp;exact MM hp (by simpa using ES l p e hc)
  |ok q=>
   rw[hc]at hp;exact Px hp fun rest X hP hN=>MS (ER hc) (by have:=BG hr.2 hc;omega) _ 0 rfl (Nat.zero_le _) rest X hP hN
end Go.Avm
namespace Go.Avm
open Go.ChangeShapes Go.WideShapes Go.ChangeAt Go.RowKit Go.ChangeMaps Go.Proofs Go.Proofs.YtcjiafanhlhdlaaGreatDoor
def zs:List Int:=(List.range 256).map fun n=>if n=9∨n=10∨n=11∨n=12∨n=13∨n=32 then 1 else 0
theorem J8:jg=zs.map fun z=> .int .u8 z:=by
 unfold jg zs;rw[List.map_map];rfl
theorem J9:Pg.globalNamed "strings.asciiSpace"=some 1:=by kernel_rfl
theorem ET:(Pg.globals[1]?).map (·.type)=some 208:=by kernel_rfl
theorem P3:Pg.globalNamed "strconv.ErrRange"=some 5:=by kernel_rfl
theorem GW:(Pg.globals[5]?).map (·.type)=some 105:=by kernel_rfl
theorem EU:Pg.cellsOf 272=1:=by kernel_rfl
theorem Ka:Pg.cellsOf 9=1:=by kernel_rfl
theorem MT: "*" ++ "errors.errorString"= "*errors.errorString":=by decide
theorem Kb(u:TypeId)(h:Pg.typeName? 3 u=some "*errors.errorString"):u=270:=
 typeName_ptr_named (nm:= "errors.errorString") (by rw[MT];kernel_rfl) (by kernel_rfl) (by decide) u (by rw[MT];exact h)
theorem GX:Pg.cellsOf 208=256:=by kernel_rfl
theorem Kc:Pg.cellsOf 5=1:=by kernel_rfl
abbrev vB:List (String×DataW Unit):=Rows.typesPointsRow.laid
theorem only:(vB.filter fun x=>x.1== "strings.asciiSpace")=[("strings.asciiSpace",Lib.tabData .u8 zs)]:=by kernel_rfl
theorem MU:(vB.filter fun x=>x.1== "strconv.ErrRange")=[("strconv.ErrRange", .iface "*errors.errorString" (.ptr (.agg [.lit (.string [118,97,108,117,101,32,111,117,116,32,111,102,32,114,97,110,103,101])])))]:=by kernel_rfl
structure vC(W:World):Prop where
 tab:Lib.TabIs Pg W "strings.asciiSpace" .u8 zs
 err:∃t v,W.cell? ⟨5,0,none⟩=some (.iface t v)
theorem Kd{W:World}(h:laidMetH Pg vB W):vC W:=by
 constructor
 ·have h1:=h.filter fun x=>x.1== "strings.asciiSpace"
  rw[only,MakeChecks.laidMetH_plain _ _ _ (by kernel_rfl)]at h1;exact Lib.tabIs_of_head J9 ET Tryz.underlying208 Tryz.underlying5 Kc GX h1
 ·have h1:=h.filter fun x=>x.1== "strconv.ErrRange"
  rw[MU,MakeChecks.laidMetH_plain _ _ _ (by kernel_rfl)]at h1;obtain⟨a0,s0,hv0,-,-,-⟩:=laid_sentinel h1 P3 GW Tryz.underlying105 Kb Tryz.underlying270 Tryz.underlying272 rfl rfl Tryz.underlying9 EU Ka;exact⟨_,_,by have h0:=World.var?_cell P3 hv0 0;simpa using h0⟩
def zj(b o:Nat):Prop:=(b=1∧o<256)∨(b=5∧o=0)
theorem EV{W:World}(h:vC W):Globs zj W:=fun g cs hg=>by
 have hg':(if g=1 then some jg else if g=5 then some [.ifc]else none)=some cs:=hg;split at hg'
 case isTrue hg0=>
  subst hg0;cases hg';have hlen:zs.length=256:=by simp[zs]
  have hget:∀(t:Nat)(c:D),jg[t]? =some c→t<256∧c= .int .u8 (zs.getD t 0):=fun t c hc=>by
   rw[J8,List.getElem?_map,Option.map_eq_some_iff]at hc;obtain⟨z,hz,rfl⟩:=hc;refine⟨by rw[←hlen];exact(List.getElem?_eq_some_iff.1 hz).1, ?_⟩;rw[List.getD,hz];rfl
  refine .rp jg 1 0 (fun t=> .int .u8 (zs.getD t 0)) (fun e he=> ?_) (fun t c hc=> .inl ⟨rfl,by rw[Nat.zero_add];exact(hget t c hc).1⟩) (fun t c hc=> ?_) (fun t c hc=> ?_)
  ·obtain⟨t,ht⟩:=List.getElem?_of_mem he
   rw[(hget t e ht).2];rfl
  ·rw[Nat.zero_add]
   exact h.tab.cell J9 t (by rw[hlen];exact(hget t c hc).1)
  ·rw[(hget t c hc).2]
   exact .int _ _
 case isFalse hg0=>
  split at hg';case isFalse=>cases hg'
  rename_i hg3;subst hg3;cases hg';obtain⟨ty,v,hc⟩:=h.err
  have hget:∀(t:Nat)(c:D),[D.ifc][t]? =some c→t=0∧c= .ifc:=fun t c hc=>by
   cases t with
   |zero=>simp at hc;exact⟨rfl,hc.symm⟩
   |succ t=>simp at hc
  refine .rp [.ifc] 5 0 (fun _=> .iface ty v) (fun e he=> ?_) (fun t c hc'=> .inr ⟨rfl,by rw[Nat.zero_add];exact(hget t c hc').1⟩) (fun t c hc'=> ?_) (fun t c hc'=> ?_)
  ·simp at he;subst he;rfl
  ·rw[Nat.zero_add,(hget t c hc').1]
   exact hc
  ·rw[(hget t c hc').2]
   exact .ifc _ _
theorem Ke{W:World}(h:vC W):∀b o,zj b o→b<W.heap.size:=fun b o hbo=>by
 rcases hbo with ⟨rfl,ho⟩|⟨rfl,rfl⟩
 ·have hc:=h.tab.cell J9 0 (by simp[zs])
  unfold World.cell? at hc;cases hh:W.heap[1]? with
  |none=>rw[hh]at hc;cases hc
  |some o=>exact(Array.getElem?_eq_some_iff.1 hh).1
 ·obtain⟨ty,v,hc⟩:=h.err
  unfold World.cell? at hc;cases hh:W.heap[5]? with
  |none=>rw[hh]at hc;cases hc
  |some o=>exact(Array.getElem?_eq_some_iff.1 hh).1
end Go.Avm
