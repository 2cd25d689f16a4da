/-
  Types: what is known at a statement is right (plain).
-/
import Derived.Test.YtcjiafanhlhdlaaGreatDoorG15
import Derived.Test.YtcjiafanhlhdlaaGreatDoorRows
import Derived.Test.YtcjiafanhlhdlaaGreatDoorG12
import Derived.Laws.StandIn
import Derived.LaidMore
import Derived.LaidSub
import Derived.Lay
import Derived.MakeChecks
import Derived.ChangeMaps5
import Derived.Lib.LaidTab
import Derived.Stop.LaidErr
import Derived.ChangeSlices
import Derived.OpenShut
import Derived.Deep.Slices
import Derived.Lib.ItoaNum
set_option linter.unusedVariables false
set_option linter.unusedSimpArgs false
set_option linter.unusedSectionVars false
namespace Go.Avm
open Go.Proofs
theorem TR.bind_ok{d c:Type}{r:TR d}{f:d→TR c}{b:c}(h:r.bind f= .ok b):∃a,r= .ok a∧f a= .ok b:=by
 cases r with
 |ok a=>exact⟨a,rfl,h⟩
 |bad p e=>cases h
 |out=>cases h
theorem eg{c:Type}{b:Bool}{x y:TR c}{a:c}(h:(bif b then x else y)= .ok a):(b=true∧x= .ok a)∨(b=false∧y= .ok a):=by
 cases b
 ·exact .inr ⟨rfl,h⟩
 ·exact .inl ⟨rfl,h⟩
structure PtOk(vs:List Vr)(fn id:Nat)(p:Pt):Prop where
 fn:p.fn=(fn:Int)
 inc:p.seen.Pairwise (· < ·)
 sn:∀v∈p.seen,∃x,vs[v]? =some x∧x.st<(id:Int)
 sure:∃P:Nat→Bool,p.sure=p.seen.filter P
theorem PtOk.mono{vs a:List Vr}{fn id:Nat}{p:Pt}(h:PtOk vs fn id p)(c:vs<+:a):PtOk a fn id p where
 fn:=h.fn
 inc:=h.inc
 sn:=fun v hm=>by
  obtain⟨x,b,h2⟩:=h.sn v hm;obtain⟨t,rfl⟩:=c;exact⟨x,by rw[xU (xE.1 b).1];exact b,h2⟩
 sure:=h.sure
structure PI(c:CS):Prop where
 nv:c.vars.length≤255
 inc:(c.seen.map (·.2)).Pairwise (· < ·)
 sn:∀p∈c.seen,p.2<c.vars.length
 st:∀v∈c.vars,v.st<(c.pts.length:Int)
structure RR(fn:Nat)(c c':CS):Prop where
 vp:c.vars<+:c'.vars
 pp:∃new,c'.pts=c.pts ++new∧∀i p,new[i]? =some p→PtOk c'.vars fn (c.pts.length+i) p
theorem RR.refl{fn:Nat}{c c':CS}(a:c.vars<+:c'.vars)(hp:c'.pts=c.pts):RR fn c c':=⟨a,[],by rw[hp,yF],fun i p h=>by simp at h⟩
theorem RR.trans{fn:Nat}{a b c:CS}(j:RR fn a b)(h2:RR fn b c):RR fn a c:=by
 obtain⟨l,d,e,o⟩:=j;obtain⟨f,n,k,m⟩:=h2;refine⟨l.trans f,d ++n,by rw[k,e,xM],fun i p h=> ?_⟩;by_cases g:i<d.length
 ·rw[xU g]at h
  exact(o i p h).mono f
 ·rw[xV (by omega)]at h
  have:=m _ p h;rw[e,xC]at this;rw[show a.pts.length+i=a.pts.length+d.length+(i-d.length) by omega];exact this
theorem PI.back{c a:CS}(d:PI c)(b:PI a){fn:Nat}(r:RR fn c a)(q:SureL):PI {a with seen:=c.seen,sure:=q} where
 nv:=b.nv
 inc:=d.inc
 sn:=fun p hp=>yK (d.sn p hp) r.vp.length_le
 st:=b.st
theorem QW{fs:List Fn}{fn:Nat}{e:Int}{nm:List UInt8}{id ty n p:Int}{es:List Ex}{c c':CS}(g:PI c)(i:id<(c.pts.length:Int))(h:rD fs e nm id ty n p es c= .ok c'):PI c'∧RR fn c c':=by
 unfold rD at h;rcases eg h with ⟨_,h⟩|⟨_,h⟩
 ·cases h
 obtain⟨_,_,h⟩:=TR.bind_ok h;rcases eg h with ⟨_,h⟩|⟨_,h⟩
 ·cases h
 rcases eg h with ⟨_,h⟩|⟨_,h⟩
 ·cases h
 rcases eg h with ⟨_,h⟩|⟨_,h⟩
 ·cases h
 rcases eg h with ⟨_,h⟩|⟨_,h⟩
 ·cases h
 rcases eg h with ⟨_,h⟩|⟨k,h⟩
 ·cases h
 have k:=yQ k
 have d:PI (c.add ⟨nm,ty,n,id⟩):=by
  refine⟨?_, ?_, ?_, ?_⟩
  ·simp only[CS.add,xC,xt];omega
  ·simp only[CS.add,xY,xN,xk]
   rw[List.pairwise_append];refine⟨g.inc,List.pairwise_singleton _ _,fun a l b m=> ?_⟩;rw[xK.1 m];obtain⟨p,hp,rfl⟩:=xi.1 l;exact g.sn p hp
  ·intro p hp
   simp only[CS.add,xC,xt];rcases xZ.1 hp with hp|hp
   ·have:=g.sn p hp;omega
   ·rw[xK.1 hp];exact zC _
  ·intro v f
   rcases xZ.1 f with f|f
   ·exact g.st v f
   ·rw[xK.1 f];exact i
 have j:c.vars<+:(c.add ⟨nm,ty,n,id⟩).vars:=List.prefix_append _ _;injection h with h
 subst h;cases (ty==3|| !es.isEmpty)with
 |true=>exact⟨⟨d.nv,d.inc,d.sn,d.st⟩,RR.refl j rfl⟩
 |false=>exact⟨d,RR.refl j rfl⟩
theorem MG{fs:List Fn}{fn:Nat}{p:Int}{es:List Ex}{c c':CS}(h:kj fs fn p es c= .ok c'):c'=c:=by
 unfold kj at h;split at h
 ·cases h
 ·rcases eg h with ⟨_,h⟩|⟨_,h⟩
  ·split at h
   ·cases h;rfl
   ·obtain⟨_,_,h⟩:=TR.bind_ok h;cases h
  ·split at h
   ·cases h
   ·obtain⟨_,_,h⟩:=TR.bind_ok h;cases h;rfl
mutual
theorem MH(fs:List Fn)(fn:Nat):∀(x:aP)(g:Int)(c c':CS),PI c→jv fs fn g x c= .ok c'→PI c'∧RR fn c c'
 | .mk k id nm ty n p es w F,g,d,c',e,h=>by
  unfold jv at h;rcases eg h with ⟨u,h⟩|⟨_,h⟩
  case inr=>cases h
  simp only[xL,xm]at u;obtain⟨z,_⟩:=u
  have f:PI {d with pts:=d.pts ++[d.pt fn]}:=⟨e.nv,e.inc,e.sn,fun v r=>by
   have:=e.st v r;show v.st<((d.pts ++[d.pt fn]).length:Int);simp only[xC,xt];omega⟩
  have B:RR fn d {d with pts:=d.pts ++[d.pt fn]}:=by
   refine⟨List.prefix_refl _,[d.pt fn],rfl,fun i p m=> ?_⟩;cases i with
   |succ i=>simp at m
   |zero=>
    simp only[xl,xA]at m;subst m;refine⟨rfl,e.inc,fun v r=> ?_,d.sure.has,rfl⟩;obtain⟨q,C,rfl⟩:=xi.1 r;have y:=e.sn q C;exact⟨_,xH y,e.st _ (y7 y)⟩
  have done:∀{c1:CS},PI c1∧RR fn {d with pts:=d.pts ++[d.pt fn]} c1→PI c1∧RR fn d c1:=fun ⟨a,b⟩=>⟨a,B.trans b⟩
  have same:∀q:SureL,PI {d with pts:=d.pts ++[d.pt fn],sure:=q}∧RR fn {d with pts:=d.pts ++[d.pt fn]} {d with pts:=d.pts ++[d.pt fn],sure:=q}:=fun q=>⟨⟨f.nv,f.inc,f.sn,f.st⟩,RR.refl (List.prefix_refl _) rfl⟩
  apply done;rcases eg h with ⟨_,h⟩|⟨_,h⟩
  ·exact QW f (by show id<((d.pts ++[d.pt fn]).length:Int);simp only[xC,xt];omega) h
  rcases eg h with ⟨_,h⟩|⟨_,h⟩
  ·obtain⟨_,_,h⟩:=TR.bind_ok h
   rcases eg h with ⟨_,h⟩|⟨_,h⟩
   ·cases h
   obtain⟨_,_,h⟩:=TR.bind_ok h;cases h;exact same _
  rcases eg h with ⟨_,h⟩|⟨_,h⟩
  ·obtain⟨_,_,h⟩:=TR.bind_ok h
   obtain⟨_,_,h⟩:=TR.bind_ok h;cases h;exact same _
  rcases eg h with ⟨_,h⟩|⟨_,h⟩
  ·obtain⟨_,_,h⟩:=TR.bind_ok h
   obtain⟨a,l,h⟩:=TR.bind_ok h;obtain⟨b,A,h⟩:=TR.bind_ok h;obtain⟨s,j⟩:=lF fs fn w _ _ _ _ f l;obtain⟨E,D⟩:=lF fs fn F _ _ _ _ (f.back s j d.sure) A;have t:RR fn {d with pts:=d.pts ++[d.pt fn]} {a with seen:=d.seen,sure:=d.sure}:=⟨j.vp,j.pp⟩
   have o:=t.trans D;cases h;exact⟨f.back E o _,⟨o.vp,o.pp⟩⟩
  rcases eg h with ⟨_,h⟩|⟨_,h⟩
  ·obtain⟨_,_,h⟩:=TR.bind_ok h
   obtain⟨a,l,h⟩:=TR.bind_ok h;obtain⟨s,j⟩:=lF fs fn w _ _ _ _ f l;cases h;exact⟨f.back s j _,⟨j.vp,j.pp⟩⟩
  rcases eg h with ⟨_,h⟩|⟨_,h⟩
  ·rw[MG h]
   exact same _
  rcases eg h with ⟨_,h⟩|⟨_,h⟩
  ·obtain⟨_,_,h⟩:=TR.bind_ok h
   cases h;exact same _
  rcases eg h with ⟨_,h⟩|⟨_,h⟩
  ·split at h
   ·cases h
   ·obtain⟨_,_,h⟩:=TR.bind_ok h
    cases h;exact same _
  ·cases h
   exact same _
theorem lF(fs:List Fn)(fn:Nat):∀(l:List aP)(b:Int)(d:Bool)(c c':CS),PI c→bQ fs fn b d l c= .ok c'→PI c'∧RR fn c c'
 |[],b,d,c,c',e,h=>by
  unfold bQ at h;cases h;exact⟨e,RR.refl (List.prefix_refl _) rfl⟩
 |x::r,b,d,c,c',e,h=>by
  unfold bQ at h;rcases eg h with ⟨_,h⟩|⟨_,h⟩
  ·cases h
  obtain⟨a,f,h⟩:=TR.bind_ok h;obtain⟨j,i⟩:=MH fs fn x _ _ _ e f;obtain⟨k,g⟩:=lF fs fn r _ _ _ _ j h;exact⟨k,i.trans g⟩
end
theorem QX{c:CS}{p:Pm}(e:PI c)(h:c.vars.length<255)(hp:1≤c.pts.length):PI (c.par p):=by
 refine⟨?_, ?_, ?_, ?_⟩
 ·simp only[CS.par,CS.add,xC,xt];omega
 ·simp only[CS.par,CS.add,xY,xN,xk]
  rw[List.pairwise_append];refine⟨e.inc,List.pairwise_singleton _ _,fun a f b g=> ?_⟩;rw[xK.1 g];obtain⟨p,hp,rfl⟩:=xi.1 f;exact e.sn p hp
 ·intro p hp
  simp only[CS.par,CS.add,xC,xt];rcases xZ.1 hp with hp|hp
  ·have:=e.sn p hp;omega
  ·rw[xK.1 hp];exact zC _
 ·intro v d
  rcases xZ.1 d with d|d
  ·exact e.st v d
  ·rw[xK.1 d]
   show(0:Int)<(c.pts.length:Int);omega
theorem Ev:∀(ps:List Pm)(c:CS),PI c→c.vars.length+ps.length≤255→1≤c.pts.length→PI (ps.foldl CS.par c)
 |[],_,h,_,_=>h
 |p::r,c,h,a,hp=>by
  simp only[xD]at a;exact Ev r (c.par p) (QX h (by omega) hp) (by simp only[CS.par,CS.add,xC,xt];omega) hp
def QY(a:List (List Vr))(id:Nat)(p:Pt):Prop:=∃(fn:Nat)(vs:List Vr),a[fn]? =some vs∧vs.length≤255∧PtOk vs fn id p
theorem MI{fs:List Fn}{i:Nat}{f:Fn}{b:List Pt}{q:List Vr×List Pt}(n:f.ps.length≤6)(hp:1≤b.length)(h:iJ fs i f b= .ok q):q.1.length≤255∧∃d,q.2=b ++d∧∀j p,d[j]? =some p→PtOk q.1 i (b.length+j) p:=by
 unfold iJ at h;obtain⟨c,e,h⟩:=TR.bind_ok h;obtain⟨a,g,e⟩:=TR.bind_ok e;have l:PI (f.ps.foldl CS.par ⟨[],[],⟨[],0⟩,b⟩):=Ev _ _ ⟨by simp,List.Pairwise.nil,fun _ h=>by simp at h,fun _ h=>by simp at h⟩ (by show 0+f.ps.length≤255;omega) hp;obtain⟨m,k⟩:=lF fs i f.bd _ _ _ _ l g;cases e;rcases eg h with ⟨_,h⟩|⟨_,h⟩
 case inr=>cases h
 cases h;refine⟨m.nv, ?_⟩;have:=k.pp;rw[wg]at this;exact this
theorem pa{fs:List Fn}:∀(mR:List Fn)(i:Nat)(b:List (List Vr))(c:List Pt)(q:List (List Vr)×List Pt),(∀f∈mR,f.ps.length≤6)→b.length=i→1≤c.length→(∀vs∈b,vs.length≤255)→(∀id p,c[id]? =some p→(id=0∧p=ey)∨QY b id p)→cF fs i mR b c= .ok q→q.1.length=i+mR.length∧(∀vs∈q.1,vs.length≤255)∧∀id p,q.2[id]? =some p→(id=0∧p=ey)∨QY q.1 id p
 |[],i,b,c,q,_,e,_,j,k,h=>by
  unfold cF at h;cases h;exact⟨e,j,k⟩
 |f::r,i,b,c,q,n,e,hp,j,k,h=>by
  unfold cF at h;obtain⟨a,o,h⟩:=TR.bind_ok h;obtain⟨l,s,h2,x⟩:=MI (n f (x0 ..)) hp o
  have:=pa r (i+1) (b ++[a.1]) a.2 q (fun g u=>n g (xW _ u)) (by simp[e]) (by rw[h2,xC];omega) (fun vs hm=>by
   rcases xZ.1 hm with hm|hm
   ·exact j vs hm
   ·rw[xK.1 hm];exact l) ?_ h
  ·exact⟨by simp only[xD];omega,this.2⟩
  intro id p d;rw[h2]at d;by_cases t:id<c.length
  ·rw[xU t]at d
   rcases k id p d with y|⟨fn,vs,m,w,v⟩
   ·exact .inl y
   ·refine .inr ⟨fn,vs, ?_,w,v⟩
    rw[xU (xE.1 m).1];exact m
  ·rw[xV (by omega)]at d
   have:=x _ p d;rw[show c.length+(id-c.length)=id by omega]at this;exact .inr ⟨i,a.1,by rw[xV (by omega),e];simp,l,this⟩
theorem JR{fs:List Fn}{q:List (List Vr)×List Pt}(h:cT fs= .ok q):∀id p,q.2[id]? =some p→QY q.1 id p:=by
 unfold cT at h;obtain⟨u,b,h⟩:=TR.bind_ok h
 obtain⟨d,e,h2⟩:=pa fs 0 [] [ey] q (fun f i=>(lT b f i).1) rfl (by simp) (fun _ h=>by simp at h) (fun id p a=>by
  cases id with
  |zero=>simp only[xl,xA]at a;exact .inl ⟨rfl,a.symm⟩
  |succ id=>simp at a) h
 intro id p a;rcases h2 id p a with ⟨rfl,rfl⟩|g
 ·cases fs with
  |nil=>cases b
  |cons f r=>
   have c:0<q.1.length:=by rw[d];simp
   exact⟨0,_,xH c,e _ (y7 c),rfl,List.Pairwise.nil,fun _ h=>by simp[ey]at h,fun _=>true,rfl⟩
 ·exact g
theorem Ew:∀(S:List Nat)(a n:Nat),S.Pairwise (· < ·)→(∀v∈S,a≤v∧v<n)→S.length≤n-a
 |[],_,_,_,_=>xz _
 |v::r,a,n,hp,c=>by
  rw[List.pairwise_cons]at hp;have d:=c v (x0 ..);have:=Ew r (v+1) n hp.2 fun w b=>⟨hp.1 w b,(c w (xW _ b)).2⟩
  simp only[xD];omega
theorem PtOk.len{vs:List Vr}{fn id:Nat}{p:Pt}(h:PtOk vs fn id p):p.seen.length≤vs.length:=by
 have:=Ew p.seen 0 vs.length h.inc fun v a=>by
  obtain⟨x,b,_⟩:=h.sn v a;exact⟨xz _,(xE.1 b).1⟩
 omega
end Go.Avm
namespace Go.Avm
open Go.Proofs
def NZ{a:Type}(r:TR a):Prop:=∀p e,r= .bad p e→e≠0
theorem NZ.bind{c d:Type}{r:TR c}{f:c→TR d}(h:NZ r)(g:∀a,NZ (f a)):NZ (r.bind f):=fun p e b=>by
 cases r with
 |ok a=>exact g a p e b
 |bad j i=>cases b;exact h _ _ rfl
 |out=>cases b
theorem NZ.bif{a:Type}{b:Bool}{x y:TR a}(d:NZ x)(c:NZ y):NZ (bif b then x else y):=by cases b<;>assumption
theorem NZ.ok{b:Type}{a:b}:NZ (TR.ok a):=fun _ _ h=>by cases h
theorem NZ.out{a:Type}:NZ (TR.out:TR a):=fun _ _ h=>by cases h
theorem NZ.bad{a:Type}{p e:Int}(h:e≠0):NZ (TR.bad p e:TR a):=fun _ _ q=>by cases q;exact h
theorem sM{fs:List Fn}:∀(mR:List Fn)(i:Nat)(d:List (List Vr))(c:List Pt)(n a:Int)(q:List (List Vr)×List Pt),i+mR.length≤fs.length→(∀f∈mR,m0 f)→mV mR n a→n=(c.length:Int)→c.length+fh mR<900000000→cF fs i mR d c= .ok q→q.2.length≤c.length+fh mR
 |[],_,_,_,_,_,q,_,_,_,_,_,h=>by
  unfold cF at h;cases h;exact Nat.le_add_right _ _
 |f::r,i,d,c,n,a,q,t,s,u,v,j,h=>by
  simp only[xD]at t;simp only[fh,Co]at j ⊢;cases u with
  | @cons nm ps k e p _ _ _ y z lb l m=>
  have j:c.length+(1+ps.length+bN e+fh r)<900000000:=j;obtain⟨B,x⟩:=Er (fs:=fs) (i:=i) (by omega) (f:=⟨nm,ps,k,e,p⟩) (s _ (x0 ..)).bd v l (by show c.length+bN e<_;omega);unfold cF at h;obtain⟨b,g,h⟩:=TR.bind_ok h;obtain⟨w,o⟩:=x b g;have o:b.2.length≤c.length+bN e:=o;have:=sM r (i+1) _ b.2 y z q (by omega) (fun f A=>s f (xW _ A)) m w.symm (by omega) h;show q.2.length≤c.length+(1+ps.length+bN e+fh r);omega
theorem FN{fs:List Fn}(h:PG fs){q:List (List Vr)×List Pt}(a:cT fs= .ok q):q.2.length≤1000001:=by
 unfold cT at a;obtain⟨_,_,a⟩:=TR.bind_ok a;have:=sM fs 0 [] [ey] 1 (-1) q (by omega) h.g h.num rfl (by have:=h.z;simp only[xD,xF];omega) a;have:=h.z;simp only[xD,xF]at*;omega
end Go.Avm
namespace Go.Avm
open Go.Proofs
theorem CH{fs:List Fn}{q:List (List Vr)×List Pt}(h:cT fs= .ok q):q.1.length=fs.length∧∀vs∈q.1,vs.length≤255:=by
 unfold cT at h;obtain⟨u,d,h⟩:=TR.bind_ok h
 obtain⟨b,c,h2⟩:=pa fs 0 [] [ey] q (fun f e=>(lT d f e).1) rfl (by simp) (fun _ h=>by simp at h) (fun id p a=>by
  cases id with
  |zero=>simp only[xl,xA]at a;exact .inl ⟨rfl,a.symm⟩
  |succ id=>simp at a) h
 exact⟨by simpa using b,c⟩
section
variable{a b:List D}
theorem JS{n i:Nat}{vs:List Vr}(g:a[((i:Nat):Int).toNat]? =some (.ro (vs.map rC)))(l:vs.length≤255):∀d k:Nat,k+d=vs.length→RL 111 (lO 11 9) (FM n i (vs.map rC).length k) (fT a b) (.exit 2) (tu n i) (fT a b)
 |0,k,h,c,X,f,e=>aU (JO a b n i _ k (by simp only[xO,xh];omega) c X f e) (by simp)
 |d+1,k,h,c,X,f,e=>by
  have j:k<vs.length:=by omega
  have m:(vs.map rC)[((k:Nat):Int).toNat]? =some (rC vs[k]):=by rw[xo,xP,xH j];rfl
  exact aR (QT a b n i _ k _ (by simp only[xO,x6];omega) g _ _ _ _ m (by omega) c X f e) (JS g l d (k+1) (by omega) c X f e)
end
theorem JT{a:List (List Vr)}{b:List D}(m:a.length<1000000)(k:∀vs∈a,vs.length≤255):∀d i:Nat,i+d=a.length→RL 111 (lO 11 4) (tu (c7 a).length i) (fT (c7 a) b) (.exit 0) [(2, .ptr 600156 1 0 0 1),(3, .ptr 600268 1 0 0 1)] (fT (c7 a) b)
 |0,i,h,c,X,f,e=>aU (JP (c7 a) b _ i (by simp only[c7,xO,xh];omega) c X f e) (by simp)
 |d+1,i,h,c,X,f,e=>by
  have j:i<a.length:=by omega
  have l:(c7 a)[((i:Nat):Int).toNat]? =some (.ro ((a[i]).map rC)):=by rw[xo,c7,xP,xH j];rfl
  have g:=k a[i] (y7 j);exact aR (QU (c7 a) b _ i _ (by simp only[c7,xO,x6];omega) l (by omega) (fun c X f e=>JS l g _ 0 (xb _) c X f e) c X f e) (JT m k d (i+1) (by omega) c X f e)
theorem JU{a:List D}{b:List Pt}(m:b.length<1000000000)(j:∀p∈b,p.seen.length≤255∧p.sure.length≤255):∀d i:Nat,i+d=b.length→RL 111 (lO 11 16) (uw (ky b).length i) (fT a (ky b)) (.exit 4) [] (fT a (ky b))
 |0,i,h,c,X,f,e=>aU (JQ a (ky b) _ i (by simp only[ky,xO,xh];omega) c X f e) (by simp)
 |d+1,i,h,c,X,f,e=>by
  have g:i<b.length:=by omega
  have k:(ky b)[((i:Nat):Int).toNat]? =some (Kp b[i]):=by rw[xo,ky,xP,xH g];rfl
  have l:=j b[i] (y7 g);exact aR (QV a (ky b) _ i _ _ _ (by simp only[ky,xO,x6];omega) k (by omega) (JN _ (by omega)) (JN _ (by omega)) c X f e) (JU m j d (i+1) (by omega) c X f e)
theorem FO{fs:List Fn}(g:PG fs){q:List (List Vr)×List Pt}(h:cT fs= .ok q):al Pg 11 [Eg q.1 q.2,Eg q.1 q.2] [.bool true]:=by
 obtain⟨l,h2⟩:=CH h;have r:=g.z;have e:=jC fs;have o:=FN g h;refine XD _ _ (fun a X c b=>JT (by omega) h2 _ 0 (xb _) a X c b) (fun a X c b=>JU (by omega) (fun p hp=> ?_) _ 0 (xb _) a X c b);obtain⟨i,f⟩:=xf hp;obtain⟨fn,vs,m,n,d⟩:=JR h i p f;have k:=d.len;obtain⟨_,_,_,P,j⟩:=d;have:=List.length_filter_le P p.seen;rw[←j]at this;omega
end Go.Avm
namespace Go.Avm
open Go.Proofs
section
variable{s t:List UInt8}{fs a b d f:List D}{q e g:Int}{c:List D}
theorem UF(hp:al Pg 9 [.str s] [.agg [.ro []], .agg [.ro a, .ro b], .int .i64 q, .int .i64 e]):al Pg 3 [.str s] [.bool true]:=
 qV {hint:=qT 3 [(12, .call 8 _ _ wh),(16, .call 9 _ _ hp)]} 709297
section
variable(hp:al Pg 9 [.str s] [.agg [.ro fs], .agg [.ro a, .ro b], .int .i64 q, .int .i64 e])(i:((fs.length:Int)==0)=false)(h:al Pg 10 [.agg [.ro fs]] [.str t])
include hp i h
theorem NQ(j:decide (20000<t.length)=true):al Pg 3 [.str s] [.bool true]:=
 qV {hint:=qT 3 [(12, .call 8 _ _ wh),(16, .call 9 _ _ hp),(24,qB i),(26, .call 10 _ _ h),(29,gn Pg 20000 t.length true j)]} 709297
theorem NR(k:decide (20000<t.length)=false)(j:al Pg 9 [.str t] [.agg [.ro c], .agg [.ro d, .ro f], .int .i64 g, .int .i64 e])(m:(e==e)=true)(l:al Pg 11 [.agg [.ro a, .ro b], .agg [.ro d, .ro f]] [.bool true]):al Pg 3 [.str s] [.bool true]:=
 qV {hint:=qT 3 [(12, .call 8 _ _ wh),(16, .call 9 _ _ hp),(24,qB i),(26, .call 10 _ _ h),(29,gn Pg 20000 t.length false k),(32, .call 9 _ _ j),(39,qB m),(43, .call 11 _ _ l)]} 709297
end
end
theorem FP:al Pg 11 [.agg [.ro [], .ro []], .agg [.ro [], .ro []]] [.bool true]:=
 qV {} 709297
theorem FQ(s:List UInt8):al Pg 3 [.str s] [.bool true]:=by
 have hp:=sL s;unfold iU at hp;cases h:lE s with
 |error x=>
  obtain⟨q,e⟩:=x;rw[h]at hp;exact UF hp
 |ok l=>
  rw[h]at hp;obtain⟨k,g⟩:=JL h;have d:=UD k.1 g.z k.2
  have m:(((l.map c2).length:Int)==0)=false:=by
   rw[xO];cases l with
   |nil=>exact absurd rfl k.1
   |cons f r=>simp only[xD,yZ];omega
  have i:=sK g;by_cases o:20000<(fi l).length
  ·have c:decide (20000<(fi l).length)=true:=decide_eq_true o
   dsimp only at hp;revert hp i;cases cT l with
   |out=>exact fun _ h=>absurd rfl h
   |ok q=>exact fun hp _=>NQ hp m d c
   |bad p e=>exact fun hp _=>NQ hp m d c
  ·have c:decide (20000<(fi l).length)=false:=decide_eq_false o
   obtain⟨l',h',e⟩:=FL k g.num (by omega);have b:=CG e;have a:=sL (fi l);unfold iU at a;rw[h']at a;dsimp only at hp a;have j:=fun q=>FO g (q:=q)
   revert hp a i b j;cases cT l with
   |out=>exact fun _ h=>absurd rfl h
   |ok q=>
    cases cT l' with
    |ok n=>
     intro hp i b a j;have b:q=n:=b;subst b;exact NR hp m d c a (by simp) (j q rfl)
    |bad p e=>exact fun _ _ b=>absurd b id
    |out=>exact fun _ _ b=>absurd b id
   |bad p e=>
    cases cT l' with
    |ok n=>exact fun _ _ b=>absurd b id
    |bad u t=>
     intro hp i b a j;have b:e=t:=b;subst b;exact NR hp m d c a (by simp) FP
    |out=>exact fun _ _ b=>absurd b id
end Go.Avm
namespace Go.Avm
open Go.ChangeShapes Go.WideShapes Go.ChangeAt Go.RowKit Go.ChangeMaps Go.Proofs Go.Proofs.YtcjiafanhlhdlaaGreatDoor
def zs:List Int:=(List.range 256).map fun n=>if n=9∨n=10∨n=11∨n=12∨n=13∨n=32 then 1 else 0
theorem QZ:nM=zs.map fun z=> .int .u8 z:=by
 unfold nM zs;rw[yq];rfl
theorem Q0:Pg.globalNamed "strings.asciiSpace"=some 1:=by kernel_rfl
theorem JV:(Pg.globals[1]?).map (·.type)=some 208:=by kernel_rfl
theorem XE:Pg.globalNamed "strconv.ErrRange"=some 5:=by kernel_rfl
theorem MJ:(Pg.globals[5]?).map (·.type)=some 105:=by kernel_rfl
theorem JW:Pg.cellsOf 272=1:=by kernel_rfl
theorem Q1:Pg.cellsOf 9=1:=by kernel_rfl
theorem UG: "*" ++ "errors.errorString"= "*errors.errorString":=by decide
theorem Q2(u:TypeId)(h:Pg.typeName? 3 u=some "*errors.errorString"):u=270:=
 typeName_ptr_named (nm:= "errors.errorString") (by rw[UG];kernel_rfl) (by kernel_rfl) (by decide) u (by rw[UG];exact h)
theorem MK:Pg.cellsOf 208=256:=by kernel_rfl
theorem Q3:Pg.cellsOf 5=1:=by kernel_rfl
theorem XF:Pg.globalNamed "internal/strconv.uint64pow10"=some 2:=by kernel_rfl
theorem ML:(Pg.globals[2]?).map (·.type)=some 224:=by kernel_rfl
theorem JX:Pg.cellsOf 224=20:=by kernel_rfl
theorem JY:Pg.cellsOf 175=1:=by kernel_rfl
abbrev qr:List (String×DataW Unit):=Rows.typesPointsRow.laid
theorem only:(qr.filter fun x=>x.1== "strings.asciiSpace")=[("strings.asciiSpace",Lib.tabData .u8 zs)]:=by kernel_rfl
theorem UH:(qr.filter fun x=>x.1== "strconv.ErrRange")=[("strconv.ErrRange", .iface "*errors.errorString" (.ptr (.agg [.lit (.string [118,97,108,117,101,32,111,117,116,32,111,102,32,114,97,110,103,101])])))]:=by kernel_rfl
theorem UI:(qr.filter fun x=>x.1== "internal/strconv.uint64pow10")=[("internal/strconv.uint64pow10",Lib.tabData .u64 Lib.pow10Tab)]:=by kernel_rfl
structure wo(W:World):Prop where
 tab:Lib.TabIs Pg W "strings.asciiSpace" .u8 zs
 err:∃t v,W.cell? ⟨5,0,none⟩=some (.iface t v)
 err1:W.cell? ⟨5,1,none⟩=none
 pow:Lib.TabIs Pg W "internal/strconv.uint64pow10" .u64 Lib.pow10Tab
theorem Q4{W:World}(h:laidMetH Pg qr W):wo W:=by
 have d:=h.filter fun x=>x.1== "strconv.ErrRange"
 rw[UH,MakeChecks.laidMetH_plain _ _ _ (by kernel_rfl)]at d;obtain⟨e,s0,b,-,-,-⟩:=laid_sentinel d XE MJ Tryz.underlying105 Q2 Tryz.underlying270 Tryz.underlying272 rfl rfl Tryz.underlying9 JW Q1;refine⟨?_,⟨_,_,by have c:=World.var?_cell XE b 0;simpa using c⟩,by have c:=World.var?_cell XE b 1;simpa using c, ?_⟩
 ·have a:=h.filter fun x=>x.1== "strings.asciiSpace"
  rw[only,MakeChecks.laidMetH_plain _ _ _ (by kernel_rfl)]at a;exact Lib.tabIs_of_head Q0 JV Tryz.underlying208 Tryz.underlying5 Q3 MK a
 ·have a:=h.filter fun x=>x.1== "internal/strconv.uint64pow10"
  rw[UI,MakeChecks.laidMetH_plain _ _ _ (by kernel_rfl)]at a;exact Lib.tabIs_of_head XF ML Tryz.underlying224 Tryz.underlying175 JY JX a
theorem ux{W:World}{imm:Nat→Nat→Prop}{nm:String}{k:IntKind}{zs:List Int}{g:Nat}(h:Lib.TabIs Pg W nm k zs)(f:Pg.globalNamed nm=some g)(d:∀o,o≤zs.length→imm g o):DRep imm W (.rp (zs.map fun z=> .int k z)) (.pointer (some ⟨g,0,none⟩))∧imm g (zs.map fun z=>D.int k z).length∧W.cell? ⟨g,(zs.map fun z=>D.int k z).length,none⟩=none:=by
 have a:∀(t:Nat)(c:D),(zs.map fun z=>D.int k z)[t]? =some c→t<zs.length∧c= .int k (zs.getD t 0):=fun t c b=>by
  rw[xP,xB]at b;obtain⟨z,i,rfl⟩:=b;exact⟨(xE.1 i).1,by rw[List.getD,i];rfl⟩
 refine⟨.rp _ g 0 (fun t=> .int k (zs.getD t 0)) (fun e j=> ?_) (fun t c b=>by rw[xb];exact d t (zT (a t c b).1)) (fun t c b=> ?_) (fun t c b=> ?_),by rw[xO];exact d _ (xS _), ?_⟩
 ·obtain⟨t,l⟩:=xf j
  rw[(a t e l).2];rfl
 ·rw[xb]
  exact h.cell f t (a t c b).1
 ·rw[(a t c b).2]
  exact .int _ _
 ·rw[World.var?_cell f h]
  simp
def CL(b o:Nat):Prop:=(b=1∧o≤256)∨(b=5∧o≤1)∨(b=2∧o≤20)
theorem JZ{W:World}(h:wo W):Globs CL W:=fun g cs l=>by
 have a:(if g=1 then some nM else if g=5 then some [.ifc]else if g=2 then some mO else none)=some cs:=l;split at a
 case isTrue hg0=>
  subst hg0;cases a;rw[QZ];exact ux h.tab Q0 fun o j=> .inl ⟨rfl,by simpa [zs]using j⟩
 case isFalse hg0=>
 split at a
 case isFalse=>
  split at a;case isFalse=>cases a
  rename_i f;subst f;cases a
  have e:mO=Lib.pow10Tab.map fun z=> .int .u64 z:=by
   unfold mO Lib.pow10Tab;rw[yq];rfl
  rw[e];exact ux h.pow XF fun o j=> .inr (.inr ⟨rfl,by rw[Lib.pow10Tab_length]at j;exact j⟩)
 rename_i f;subst f;cases a;obtain⟨ty,v,i⟩:=h.err
 have d:∀(t:Nat)(c:D),[D.ifc][t]? =some c→t=0∧c= .ifc:=fun t c i=>by
  cases t with
  |zero=>simp at i;exact⟨rfl,i.symm⟩
  |succ t=>simp at i
 refine⟨.rp [.ifc] 5 0 (fun _=> .iface ty v) (fun e k=> ?_) (fun t c b=> .inr (.inl ⟨rfl,by rw[xb,(d t c b).1];decide⟩)) (fun t c b=> ?_) (fun t c b=> ?_), .inr (.inl ⟨rfl,xS _⟩),h.err1⟩
 ·simp at k;subst k;rfl
 ·rw[xb,(d t c b).1]
  exact i
 ·rw[(d t c b).2]
  exact .ifc _ _
theorem sN{W:World}{b o:Nat}{v:Value}(a:W.cell? ⟨b,o,none⟩=some v):b<W.heap.size:=by
 unfold World.cell? at a;cases c:W.heap[b]? with
 |none=>rw[c]at a;cases a
 |some o=>exact(xQ.1 c).1
theorem Q5{W:World}(h:wo W):∀b o,CL b o→b<W.heap.size:=fun b o a=>by
 rcases a with ⟨rfl,_⟩|⟨rfl,_⟩|⟨rfl,_⟩
 ·exact sN (h.tab.cell Q0 0 (by simp[zs]))
 ·obtain⟨ty,v,c⟩:=h.err
  exact sN c
 ·exact sN (h.pow.cell XF 0 (by rw[Lib.pow10Tab_length];decide))
end Go.Avm
