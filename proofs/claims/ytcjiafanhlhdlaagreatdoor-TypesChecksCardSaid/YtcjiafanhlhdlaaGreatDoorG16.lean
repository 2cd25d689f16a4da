/-
  Types: what is known at a statement is right (plain).
-/
import Derived.Test.YtcjiafanhlhdlaaGreatDoorG13
import Derived.Test.YtcjiafanhlhdlaaGreatDoorG15
import Derived.Test.YtcjiafanhlhdlaaGreatDoorG14
import Derived.Test.YtcjiafanhlhdlaaGreatDoorRows
import Derived.Test.YtcjiafanhlhdlaaGreatDoorG12
import Derived.Laws.StandIn
import Derived.LaidMore
import Derived.LaidSub
import Derived.Lay
import Derived.MakeChecks
import Derived.ChangeMaps5
import Derived.Lib.LaidTab
import Derived.Stop.LaidErr
import Derived.ChangeSlices
import Derived.OpenShut
import Derived.Deep.Slices
set_option linter.unusedVariables false
set_option linter.unusedSimpArgs false
set_option linter.unusedSectionVars false
namespace Go.Avm
open Go.Proofs
theorem TR.bind_ok{c d:Type}{r:TR c}{f:c→TR d}{b:d}(h:r.bind f= .ok b):∃a,r= .ok a∧f a= .ok b:=by
 cases r with
 |ok a=>exact⟨a,rfl,h⟩
 |bad p e=>cases h
 |out=>cases h
theorem dW{c:Type}{b:Bool}{x y:TR c}{a:c}(h:(bif b then x else y)= .ok a):(b=true∧x= .ok a)∨(b=false∧y= .ok a):=by
 cases b
 ·exact .inr ⟨rfl,h⟩
 ·exact .inl ⟨rfl,h⟩
structure PtOk(vs:List Vr)(fn id:Nat)(p:Pt):Prop where
 fn:p.fn=(fn:Int)
 inc:p.seen.Pairwise (· < ·)
 sn:∀v∈p.seen,∃x,vs[v]? =some x∧x.st<(id:Int)
 sure:∃P:Nat→Bool,p.sure=p.seen.filter P
theorem PtOk.mono{vs a:List Vr}{fn id:Nat}{p:Pt}(h:PtOk vs fn id p)(c:vs<+:a):PtOk a fn id p where
 fn:=h.fn
 inc:=h.inc
 sn:=fun v hm=>by
  obtain⟨x,b,h2⟩:=h.sn v hm;obtain⟨t,rfl⟩:=c;exact⟨x,by rw[xQ (xC.1 b).1];exact b,h2⟩
 sure:=h.sure
structure PI(c:CS):Prop where
 nv:c.vars.length≤255
 inc:(c.seen.map (·.2)).Pairwise (· < ·)
 sn:∀p∈c.seen,p.2<c.vars.length
 st:∀v∈c.vars,v.st<(c.pts.length:Int)
structure RR(fn:Nat)(c c':CS):Prop where
 vp:c.vars<+:c'.vars
 pp:∃new,c'.pts=c.pts ++new∧∀i p,new[i]? =some p→PtOk c'.vars fn (c.pts.length+i) p
theorem RR.refl{fn:Nat}{c c':CS}(a:c.vars<+:c'.vars)(hp:c'.pts=c.pts):RR fn c c':=⟨a,[],by rw[hp,yC],fun i p h=>by simp at h⟩
theorem RR.trans{fn:Nat}{a b c:CS}(o:RR fn a b)(h2:RR fn b c):RR fn a c:=by
 obtain⟨j,d,f,l⟩:=o;obtain⟨e,m,k,n⟩:=h2;refine⟨j.trans e,d ++m,by rw[k,f,xa],fun i p h=> ?_⟩;by_cases g:i<d.length
 ·rw[xQ g]at h
  exact(l i p h).mono e
 ·rw[xV (by omega)]at h
  have:=n _ p h;rw[f,xK]at this;rw[show a.pts.length+i=a.pts.length+d.length+(i-d.length) by omega];exact this
theorem PI.back{c a:CS}(d:PI c)(b:PI a){fn:Nat}(r:RR fn c a)(q:SureL):PI {a with seen:=c.seen,sure:=q} where
 nv:=b.nv
 inc:=d.inc
 sn:=fun p hp=>xy (d.sn p hp) r.vp.length_le
 st:=b.st
theorem PO{fs:List Fn}{fn:Nat}{f:Int}{nm:List UInt8}{id ty n p:Int}{es:List Ex}{c c':CS}(g:PI c)(i:id<(c.pts.length:Int))(h:tf fs f nm id ty n p es c= .ok c'):PI c'∧RR fn c c':=by
 unfold tf at h;rcases dW h with ⟨_,h⟩|⟨_,h⟩
 ·cases h
 obtain⟨_,_,h⟩:=TR.bind_ok h;rcases dW h with ⟨_,h⟩|⟨_,h⟩
 ·cases h
 rcases dW h with ⟨_,h⟩|⟨_,h⟩
 ·cases h
 rcases dW h with ⟨_,h⟩|⟨_,h⟩
 ·cases h
 rcases dW h with ⟨_,h⟩|⟨_,h⟩
 ·cases h
 rcases dW h with ⟨_,h⟩|⟨k,h⟩
 ·cases h
 have k:=ya k
 have d:PI (c.add ⟨nm,ty,n,id⟩):=by
  refine⟨?_, ?_, ?_, ?_⟩
  ·simp only[CS.add,xK,xt];omega
  ·simp only[CS.add,xF,xH,xY]
   rw[List.pairwise_append];refine⟨g.inc,List.pairwise_singleton _ _,fun a l b m=> ?_⟩;rw[xM.1 m];obtain⟨p,hp,rfl⟩:=x9.1 l;exact g.sn p hp
  ·intro p hp
   simp only[CS.add,xK,xt];rcases xU.1 hp with hp|hp
   ·have:=g.sn p hp;omega
   ·rw[xM.1 hp];exact zJ _
  ·intro v e
   rcases xU.1 e with e|e
   ·exact g.st v e
   ·rw[xM.1 e];exact i
 have j:c.vars<+:(c.add ⟨nm,ty,n,id⟩).vars:=zO _ _;injection h with h
 subst h;cases (ty==3|| !es.isEmpty)with
 |true=>exact⟨⟨d.nv,d.inc,d.sn,d.st⟩,RR.refl j rfl⟩
 |false=>exact⟨d,RR.refl j rfl⟩
theorem Lk{fs:List Fn}{fn:Nat}{p:Int}{es:List Ex}{c c':CS}(h:mo fs fn p es c= .ok c'):c'=c:=by
 unfold mo at h;split at h
 ·cases h
 ·rcases dW h with ⟨_,h⟩|⟨_,h⟩
  ·split at h
   ·cases h;rfl
   ·obtain⟨_,_,h⟩:=TR.bind_ok h;cases h
  ·split at h
   ·cases h
   ·obtain⟨_,_,h⟩:=TR.bind_ok h;cases h;rfl
mutual
theorem Ll(fs:List Fn)(fn:Nat):∀(x:aP)(g:Int)(c c':CS),PI c→jn fs fn g x c= .ok c'→PI c'∧RR fn c c'
 | .mk k id nm ty n p es bd D,g,d,c',e,h=>by
  unfold jn at h;rcases dW h with ⟨u,h⟩|⟨_,h⟩
  case inr=>cases h
  simp only[xJ,yI]at u;obtain⟨C,_⟩:=u
  have f:PI {d with pts:=d.pts ++[d.pt fn]}:=⟨e.nv,e.inc,e.sn,fun v r=>by
   have:=e.st v r;show v.st<((d.pts ++[d.pt fn]).length:Int);simp only[xK,xt];omega⟩
  have B:RR fn d {d with pts:=d.pts ++[d.pt fn]}:=by
   refine⟨yp _,[d.pt fn],rfl,fun i p s=> ?_⟩;cases i with
   |succ i=>simp at s
   |zero=>
    simp only[xj,xA]at s;subst s;refine⟨rfl,e.inc,fun v r=> ?_,d.sure.has,rfl⟩;obtain⟨q,E,rfl⟩:=x9.1 r;have w:=e.sn q E;exact⟨_,xD w,e.st _ (yO w)⟩
  have done:∀{c1:CS},PI c1∧RR fn {d with pts:=d.pts ++[d.pt fn]} c1→PI c1∧RR fn d c1:=fun ⟨a,b⟩=>⟨a,B.trans b⟩
  have same:∀q:SureL,PI {d with pts:=d.pts ++[d.pt fn],sure:=q}∧RR fn {d with pts:=d.pts ++[d.pt fn]} {d with pts:=d.pts ++[d.pt fn],sure:=q}:=fun q=>⟨⟨f.nv,f.inc,f.sn,f.st⟩,RR.refl (yp _) rfl⟩
  apply done;rcases dW h with ⟨_,h⟩|⟨_,h⟩
  ·exact PO f (by show id<((d.pts ++[d.pt fn]).length:Int);simp only[xK,xt];omega) h
  rcases dW h with ⟨_,h⟩|⟨_,h⟩
  ·obtain⟨_,_,h⟩:=TR.bind_ok h
   rcases dW h with ⟨_,h⟩|⟨_,h⟩
   ·cases h
   obtain⟨_,_,h⟩:=TR.bind_ok h;cases h;exact same _
  rcases dW h with ⟨_,h⟩|⟨_,h⟩
  ·obtain⟨_,_,h⟩:=TR.bind_ok h
   obtain⟨_,_,h⟩:=TR.bind_ok h;cases h;exact same _
  rcases dW h with ⟨_,h⟩|⟨_,h⟩
  ·obtain⟨_,_,h⟩:=TR.bind_ok h
   obtain⟨a,l,h⟩:=TR.bind_ok h;obtain⟨b,z,h⟩:=TR.bind_ok h;obtain⟨m,j⟩:=lI fs fn bd _ _ _ _ f l;obtain⟨A,y⟩:=lI fs fn D _ _ _ _ (f.back m j d.sure) z;have t:RR fn {d with pts:=d.pts ++[d.pt fn]} {a with seen:=d.seen,sure:=d.sure}:=⟨j.vp,j.pp⟩
   have o:=t.trans y;cases h;exact⟨f.back A o _,⟨o.vp,o.pp⟩⟩
  rcases dW h with ⟨_,h⟩|⟨_,h⟩
  ·obtain⟨_,_,h⟩:=TR.bind_ok h
   obtain⟨a,l,h⟩:=TR.bind_ok h;obtain⟨m,j⟩:=lI fs fn bd _ _ _ _ f l;cases h;exact⟨f.back m j _,⟨j.vp,j.pp⟩⟩
  rcases dW h with ⟨_,h⟩|⟨_,h⟩
  ·rw[Lk h]
   exact same _
  rcases dW h with ⟨_,h⟩|⟨_,h⟩
  ·obtain⟨_,_,h⟩:=TR.bind_ok h
   cases h;exact same _
  rcases dW h with ⟨_,h⟩|⟨_,h⟩
  ·split at h
   ·cases h
   ·obtain⟨_,_,h⟩:=TR.bind_ok h
    cases h;exact same _
  ·cases h
   exact same _
theorem lI(fs:List Fn)(fn:Nat):∀(l:List aP)(d:Int)(b:Bool)(c c':CS),PI c→bu fs fn d b l c= .ok c'→PI c'∧RR fn c c'
 |[],d,b,c,c',e,h=>by
  unfold bu at h;cases h;exact⟨e,RR.refl (yp _) rfl⟩
 |x::r,d,b,c,c',e,h=>by
  unfold bu at h;rcases dW h with ⟨_,h⟩|⟨_,h⟩
  ·cases h
  obtain⟨a,k,h⟩:=TR.bind_ok h;obtain⟨g,i⟩:=Ll fs fn x _ _ _ e k;obtain⟨j,f⟩:=lI fs fn r _ _ _ _ g h;exact⟨j,i.trans f⟩
end
theorem PQ{c:CS}{p:Pm}(e:PI c)(h:c.vars.length<255)(hp:1≤c.pts.length):PI (c.par p):=by
 refine⟨?_, ?_, ?_, ?_⟩
 ·simp only[CS.par,CS.add,xK,xt];omega
 ·simp only[CS.par,CS.add,xF,xH,xY]
  rw[List.pairwise_append];refine⟨e.inc,List.pairwise_singleton _ _,fun a f b g=> ?_⟩;rw[xM.1 g];obtain⟨p,hp,rfl⟩:=x9.1 f;exact e.sn p hp
 ·intro p hp
  simp only[CS.par,CS.add,xK,xt];rcases xU.1 hp with hp|hp
  ·have:=e.sn p hp;omega
  ·rw[xM.1 hp];exact zJ _
 ·intro v d
  rcases xU.1 d with d|d
  ·exact e.st v d
  ·rw[xM.1 d]
   show(0:Int)<(c.pts.length:Int);omega
theorem DR:∀(ps:List Pm)(c:CS),PI c→c.vars.length+ps.length≤255→1≤c.pts.length→PI (ps.foldl CS.par c)
 |[],_,h,_,_=>h
 |p::r,c,h,a,hp=>by
  simp only[xG]at a;exact DR r (c.par p) (PQ h (by omega) hp) (by simp only[CS.par,CS.add,xK,xt];omega) hp
def PR(a:List (List Vr))(id:Nat)(p:Pt):Prop:=∃(fn:Nat)(vs:List Vr),a[fn]? =some vs∧vs.length≤255∧PtOk vs fn id p
theorem Lm{fs:List Fn}{i:Nat}{f:Fn}{pts:List Pt}{q:List Vr×List Pt}(m:f.ps.length≤6)(hp:1≤pts.length)(h:jt fs i f pts= .ok q):q.1.length≤255∧∃b,q.2=pts ++b∧∀j p,b[j]? =some p→PtOk q.1 i (pts.length+j) p:=by
 unfold jt at h;obtain⟨c,d,h⟩:=TR.bind_ok h;obtain⟨a,l,d⟩:=TR.bind_ok d;have k:PI (f.ps.foldl CS.par ⟨[],[],⟨[],0⟩,pts⟩):=DR _ _ ⟨by simp,List.Pairwise.nil,fun _ h=>by simp at h,fun _ h=>by simp at h⟩ (by show 0+f.ps.length≤255;omega) hp;obtain⟨e,g⟩:=lI fs i f.bd _ _ _ _ k l;cases d;rcases dW h with ⟨_,h⟩|⟨_,h⟩
 case inr=>cases h
 cases h;refine⟨e.nv, ?_⟩;have:=g.pp;rw[qo]at this;exact this
theorem o8{fs:List Fn}:∀(mQ:List Fn)(i:Nat)(b:List (List Vr))(pts:List Pt)(q:List (List Vr)×List Pt),(∀f∈mQ,f.ps.length≤6)→b.length=i→1≤pts.length→(∀vs∈b,vs.length≤255)→(∀id p,pts[id]? =some p→(id=0∧p=dz)∨PR b id p)→cn fs i mQ b pts= .ok q→q.1.length=i+mQ.length∧(∀vs∈q.1,vs.length≤255)∧∀id p,q.2[id]? =some p→(id=0∧p=dz)∨PR q.1 id p
 |[],i,b,pts,q,_,d,_,e,j,h=>by
  unfold cn at h;cases h;exact⟨d,e,j⟩
 |f::r,i,b,pts,q,k,d,hp,e,j,h=>by
  unfold cn at h;obtain⟨a,t,h⟩:=TR.bind_ok h;obtain⟨m,s,h2,x⟩:=Lm (k f (yE ..)) hp t
  have:=o8 r (i+1) (b ++[a.1]) a.2 q (fun g v=>k g (xp _ v)) (by simp[d]) (by rw[h2,xK];omega) (fun vs hm=>by
   rcases xU.1 hm with hm|hm
   ·exact e vs hm
   ·rw[xM.1 hm];exact m) ?_ h
  ·exact⟨by simp only[xG];omega,this.2⟩
  intro id p c;rw[h2]at c;by_cases o:id<pts.length
  ·rw[xQ o]at c
   rcases j id p c with n|⟨fn,vs,l,u,w⟩
   ·exact .inl n
   ·refine .inr ⟨fn,vs, ?_,u,w⟩
    rw[xQ (xC.1 l).1];exact l
  ·rw[xV (by omega)]at c
   have:=x _ p c;rw[show pts.length+(id-pts.length)=id by omega]at this;exact .inr ⟨i,a.1,by rw[xV (by omega),d];simp,m,this⟩
theorem IT{fs:List Fn}{q:List (List Vr)×List Pt}(h:du fs= .ok q):∀id p,q.2[id]? =some p→PR q.1 id p:=by
 unfold du at h;obtain⟨u,b,h⟩:=TR.bind_ok h
 obtain⟨i,d,h2⟩:=o8 fs 0 [] [dz] q (fun f e=>(hZ b f e).1) rfl (by simp) (fun _ h=>by simp at h) (fun id p a=>by
  cases id with
  |zero=>simp only[xj,xA]at a;exact .inl ⟨rfl,a.symm⟩
  |succ id=>simp at a) h
 intro id p a;rcases h2 id p a with ⟨rfl,rfl⟩|g
 ·cases fs with
  |nil=>cases b
  |cons f r=>
   have c:0<q.1.length:=by rw[i];simp
   exact⟨0,_,xD c,d _ (yO c),rfl,List.Pairwise.nil,fun _ h=>by simp[dz]at h,fun _=>true,rfl⟩
 ·exact g
theorem DS:∀(S:List Nat)(a n:Nat),S.Pairwise (· < ·)→(∀v∈S,a≤v∧v<n)→S.length≤n-a
 |[],_,_,_,_=>xz _
 |v::r,a,n,hp,b=>by
  rw[List.pairwise_cons]at hp;have c:=b v (yE ..);have:=DS r (v+1) n hp.2 fun w hw=>⟨hp.1 w hw,(b w (xp _ hw)).2⟩
  simp only[xG];omega
theorem PtOk.len{vs:List Vr}{fn id:Nat}{p:Pt}(h:PtOk vs fn id p):p.seen.length≤vs.length:=by
 have:=DS p.seen 0 vs.length h.inc fun v a=>by
  obtain⟨x,b,_⟩:=h.sn v a;exact⟨xz _,(xC.1 b).1⟩
 omega
end Go.Avm
namespace Go.Avm
open Go.Proofs
def NZ{a:Type}(r:TR a):Prop:=∀p e,r= .bad p e→e≠0
theorem NZ.bind{c d:Type}{r:TR c}{f:c→TR d}(h:NZ r)(g:∀a,NZ (f a)):NZ (r.bind f):=fun p e b=>by
 cases r with
 |ok a=>exact g a p e b
 |bad j i=>cases b;exact h _ _ rfl
 |out=>cases b
theorem NZ.bif{a:Type}{b:Bool}{x y:TR a}(d:NZ x)(c:NZ y):NZ (bif b then x else y):=by cases b<;>assumption
theorem NZ.ok{b:Type}{a:b}:NZ (TR.ok a):=fun _ _ h=>by cases h
theorem NZ.out{a:Type}:NZ (TR.out:TR a):=fun _ _ h=>by cases h
theorem NZ.bad{a:Type}{p e:Int}(h:e≠0):NZ (TR.bad p e:TR a):=fun _ _ q=>by cases q;exact h
theorem sF{fs:List Fn}:∀(mQ:List Fn)(i:Nat)(c:List (List Vr))(pts:List Pt)(n a:Int)(q:List (List Vr)×List Pt),i+mQ.length≤fs.length→(∀f∈mQ,gc f)→tl mQ n a→n=(pts.length:Int)→pts.length+gh mQ<900000000→cn fs i mQ c pts= .ok q→q.2.length≤pts.length+gh mQ
 |[],_,_,_,_,_,q,_,_,_,_,_,h=>by
  unfold cn at h;cases h;exact zL _ _
 |f::r,i,c,pts,n,a,q,s,m,x,w,j,h=>by
  simp only[xG]at s;simp only[gh,EO]at j ⊢;cases x with
  | @cons nm ps k bd p _ _ _ t o lb d g=>
  have j:pts.length+(1+ps.length+bf bd+gh r)<900000000:=j;obtain⟨z,u⟩:=DC (fs:=fs) (i:=i) (by omega) (f:=⟨nm,ps,k,bd,p⟩) (m _ (yE ..)).bd w d (by show pts.length+bf bd<_;omega);unfold cn at h;obtain⟨b,e,h⟩:=TR.bind_ok h;obtain⟨v,l⟩:=u b e;have l:b.2.length≤pts.length+bf bd:=l;have:=sF r (i+1) _ b.2 t o q (by omega) (fun f y=>m f (xp _ y)) g v.symm (by omega) h;show q.2.length≤pts.length+(1+ps.length+bf bd+gh r);omega
theorem E2{fs:List Fn}(h:PG fs){q:List (List Vr)×List Pt}(a:du fs= .ok q):q.2.length≤1000001:=by
 unfold du at a;obtain⟨_,_,a⟩:=TR.bind_ok a;have:=sF fs 0 [] [dz] 1 (-1) q (by omega) h.g h.num rfl (by have:=h.z;simp only[xG,xS];omega) a;have:=h.z;simp only[xG,xS]at*;omega
end Go.Avm
namespace Go.Avm
open Go.Proofs
theorem Co{fs:List Fn}{q:List (List Vr)×List Pt}(h:du fs= .ok q):q.1.length=fs.length∧∀vs∈q.1,vs.length≤255:=by
 unfold du at h;obtain⟨u,c,h⟩:=TR.bind_ok h
 obtain⟨e,b,h2⟩:=o8 fs 0 [] [dz] q (fun f d=>(hZ c f d).1) rfl (by simp) (fun _ h=>by simp at h) (fun id p a=>by
  cases id with
  |zero=>simp only[xj,xA]at a;exact .inl ⟨rfl,a.symm⟩
  |succ id=>simp at a) h
 exact⟨by simpa using e,b⟩
section
variable{a b:List D}
theorem IU{n i:Nat}{vs:List Vr}(g:a[((i:Nat):Int).toNat]? =some (.ro (vs.map mX)))(m:vs.length≤255):∀d k:Nat,k+d=vs.length→RL 111 (lO 11 9) (E1 n i (vs.map mX).length k) (fI a b) (.exit 2) (tu n i) (fI a b)
 |0,k,h,c,X,e,f=>aA (IQ a b n i _ k (by simp only[xO,x6];omega) c X e f) (by simp)
 |d+1,k,h,c,X,e,f=>by
  have l:k<vs.length:=by omega
  have j:(vs.map mX)[((k:Nat):Int).toNat]? =some (mX vs[k]):=by rw[xb,xN,xD l];rfl
  exact au (PL a b n i _ k _ (by simp only[xO,xw];omega) g _ _ _ _ j (by omega) c X e f) (IU g m d (k+1) (by omega) c X e f)
end
theorem IV{a:List (List Vr)}{b:List D}(m:a.length<1000000)(j:∀vs∈a,vs.length≤255):∀d i:Nat,i+d=a.length→RL 111 (lO 11 4) (tu (bJ a).length i) (fI (bJ a) b) (.exit 0) [(2, .ptr 600156 1 0 0 1),(3, .ptr 600268 1 0 0 1)] (fI (bJ a) b)
 |0,i,h,c,X,e,f=>aA (IR (bJ a) b _ i (by simp only[bJ,xO,x6];omega) c X e f) (by simp)
 |d+1,i,h,c,X,e,f=>by
  have k:i<a.length:=by omega
  have l:(bJ a)[((i:Nat):Int).toNat]? =some (.ro ((a[i]).map mX)):=by rw[xb,bJ,xN,xD k];rfl
  have g:=j a[i] (yO k);exact au (PM (bJ a) b _ i _ (by simp only[bJ,xO,xw];omega) l (by omega) (fun c X e f=>IU l g _ 0 (x8 _) c X e f) c X e f) (IV m j d (i+1) (by omega) c X e f)
theorem IW{a:List D}{pts:List Pt}(l:pts.length<1000000000)(f:∀p∈pts,p.seen.length≤255∧p.sure.length≤255):∀d i:Nat,i+d=pts.length→RL 111 (lO 11 16) (us (fj pts).length i) (fI a (fj pts)) (.exit 4) [] (fI a (fj pts))
 |0,i,h,b,X,c,e=>aA (IS a (fj pts) _ i (by simp only[fj,xO,x6];omega) b X c e) (by simp)
 |d+1,i,h,b,X,c,e=>by
  have g:i<pts.length:=by omega
  have j:(fj pts)[((i:Nat):Int).toNat]? =some (I3 pts[i]):=by rw[xb,fj,xN,xD g];rfl
  have k:=f pts[i] (yO g);exact au (PN a (fj pts) _ i _ _ _ (by simp only[fj,xO,xw];omega) j (by omega) (IP _ (by omega)) (IP _ (by omega)) b X c e) (IW l f d (i+1) (by omega) b X c e)
theorem E3{fs:List Fn}(g:PG fs){q:List (List Vr)×List Pt}(h:du fs= .ok q):aF Pg 11 [t7 q.1 q.2,t7 q.1 q.2] [.bool true]:=by
 obtain⟨r,h2⟩:=Co h;have l:=g.z;have f:=jA fs;have o:=E2 g h;refine W4 _ _ (fun a X b c=>IV (by omega) h2 _ 0 (x8 _) a X b c) (fun a X b c=>IW (by omega) (fun p hp=> ?_) _ 0 (x8 _) a X b c);obtain⟨i,e⟩:=xg hp;obtain⟨fn,vs,m,n,d⟩:=IT h i p e;have j:=d.len;obtain⟨_,_,_,P,k⟩:=d;have:=List.length_filter_le P p.seen;rw[←k]at this;omega
end Go.Avm
namespace Go.Avm
open Go.Proofs
theorem Ln:aF Pg 11 [.agg [.ro [], .ro []], .agg [.ro [], .ro []]] [.bool true]:=
 qV {} 709297
theorem YT{s:List UInt8}{q e:Int}(hp:aF Pg 12 [.str s] [.agg [.ro []], .int .i64 q, .int .i64 e])(a:(e !=0)=true):aF Pg 4 [.str s] [.bool true]:=
 qV {hint:=qT 4 [(12, .call 8 _ _ DE),(16, .call 12 _ _ hp),(21,qB a)]} 709297
theorem Xz{s:List UInt8}{l:List Fn}{a b:List D}{q e:Int}(hp:aF Pg 12 [.str s] [.agg [.ro (l.map bn)], .int .i64 0, .int .i64 0])(d:aF Pg 13 [.agg [.ro (l.map bn)]] [.agg [.ro a, .ro b], .int .i64 q, .int .i64 e])(hw:aF Pg 14 [.agg [.ro (l.map bn)]] [.agg [.ro a, .ro b], .int .i64 q, .int .i64 e])(c:aF Pg 11 [.agg [.ro a, .ro b], .agg [.ro a, .ro b]] [.bool true]):aF Pg 4 [.str s] [.bool true]:=
 qV {hint:=qT 4 [(12, .call 8 _ _ DE),(16, .call 12 _ _ hp),(24, .call 13 _ _ d),(30, .call 14 _ _ hw),(36, .call 11 _ _ c),(40,hB Pg (q==q) true (by simp)),(45,hB Pg (e==e) true (by simp))]} 709297
theorem Cp(s:List UInt8):aF Pg 4 [.str s] [.bool true]:=by
 have hp:=uh s;have b:=DD s;cases h:Ay s with
 |error x=>
  obtain⟨q,e⟩:=x;rw[h]at b;obtain⟨c,h2⟩:=b;rw[c]at hp;exact YT hp (by simpa using h2)
 |ok l=>
  rw[h]at b;obtain⟨c,h2⟩:=b;rw[c]at hp;have a:=Ik h2;have hw:=Lj h2;have f:=n9 h2;revert a hw f;cases d:du l with
  |out=>exact fun _ _ h=>absurd rfl h
  |ok q=>exact fun a hw _=>Xz hp a hw (E3 h2 d)
  |bad p e=>exact fun a hw _=>Xz hp a hw Ln
end Go.Avm
namespace Go.Avm
open Go.ChangeShapes Go.WideShapes Go.ChangeAt Go.RowKit Go.ChangeMaps Go.Proofs Go.Proofs.YtcjiafanhlhdlaaGreatDoor
def zs:List Int:=(List.range 256).map fun n=>if n=9∨n=10∨n=11∨n=12∨n=13∨n=32 then 1 else 0
theorem PS:jr=zs.map fun z=> .int .u8 z:=by
 unfold jr zs;rw[yx];rfl
theorem PT:Pg.globalNamed "strings.asciiSpace"=some 1:=by kernel_rfl
theorem IX:(Pg.globals[1]?).map (·.type)=some 208:=by kernel_rfl
theorem XA:Pg.globalNamed "strconv.ErrRange"=some 5:=by kernel_rfl
theorem Lo:(Pg.globals[5]?).map (·.type)=some 105:=by kernel_rfl
theorem IY:Pg.cellsOf 272=1:=by kernel_rfl
theorem PU:Pg.cellsOf 9=1:=by kernel_rfl
theorem TM: "*" ++ "errors.errorString"= "*errors.errorString":=by decide
theorem PV(u:TypeId)(h:Pg.typeName? 3 u=some "*errors.errorString"):u=270:=
 typeName_ptr_named (nm:= "errors.errorString") (by rw[TM];kernel_rfl) (by kernel_rfl) (by decide) u (by rw[TM];exact h)
theorem Lp:Pg.cellsOf 208=256:=by kernel_rfl
theorem PW:Pg.cellsOf 5=1:=by kernel_rfl
abbrev we:List (String×DataW Unit):=Rows.typesPointsRow.laid
theorem only:(we.filter fun x=>x.1== "strings.asciiSpace")=[("strings.asciiSpace",Lib.tabData .u8 zs)]:=by kernel_rfl
theorem TN:(we.filter fun x=>x.1== "strconv.ErrRange")=[("strconv.ErrRange", .iface "*errors.errorString" (.ptr (.agg [.lit (.string [118,97,108,117,101,32,111,117,116,32,111,102,32,114,97,110,103,101])])))]:=by kernel_rfl
structure wg(W:World):Prop where
 tab:Lib.TabIs Pg W "strings.asciiSpace" .u8 zs
 err:∃t v,W.cell? ⟨5,0,none⟩=some (.iface t v)
theorem PX{W:World}(h:laidMetH Pg we W):wg W:=by
 constructor
 ·have a:=h.filter fun x=>x.1== "strings.asciiSpace"
  rw[only,MakeChecks.laidMetH_plain _ _ _ (by kernel_rfl)]at a;exact Lib.tabIs_of_head PT IX Tryz.underlying208 Tryz.underlying5 PW Lp a
 ·have a:=h.filter fun x=>x.1== "strconv.ErrRange"
  rw[TN,MakeChecks.laidMetH_plain _ _ _ (by kernel_rfl)]at a;obtain⟨d,s0,b,-,-,-⟩:=laid_sentinel a XA Lo Tryz.underlying105 PV Tryz.underlying270 Tryz.underlying272 rfl rfl Tryz.underlying9 IY PU;exact⟨_,_,by have c:=World.var?_cell XA b 0;simpa using c⟩
def Cq(b o:Nat):Prop:=(b=1∧o<256)∨(b=5∧o=0)
theorem IZ{W:World}(h:wg W):Globs Cq W:=fun g cs n=>by
 have d:(if g=1 then some jr else if g=5 then some [.ifc]else none)=some cs:=n;split at d
 case isTrue hg0=>
  subst hg0;cases d;have i:zs.length=256:=by simp[zs]
  have a:∀(t:Nat)(c:D),jr[t]? =some c→t<256∧c= .int .u8 (zs.getD t 0):=fun t c b=>by
   rw[PS,xN,xB]at b;obtain⟨z,l,rfl⟩:=b;refine⟨by rw[←i];exact(xC.1 l).1, ?_⟩;rw[List.getD,l];rfl
  refine .rp jr 1 0 (fun t=> .int .u8 (zs.getD t 0)) (fun e j=> ?_) (fun t c b=> .inl ⟨rfl,by rw[x8];exact(a t c b).1⟩) (fun t c b=> ?_) (fun t c b=> ?_)
  ·obtain⟨t,m⟩:=xg j
   rw[(a t e m).2];rfl
  ·rw[x8]
   exact h.tab.cell PT t (by rw[i];exact(a t c b).1)
  ·rw[(a t c b).2]
   exact .int _ _
 case isFalse hg0=>
  split at d;case isFalse=>cases d
  rename_i k;subst k;cases d;obtain⟨ty,v,b⟩:=h.err
  have a:∀(t:Nat)(c:D),[D.ifc][t]? =some c→t=0∧c= .ifc:=fun t c b=>by
   cases t with
   |zero=>simp at b;exact⟨rfl,b.symm⟩
   |succ t=>simp at b
  refine .rp [.ifc] 5 0 (fun _=> .iface ty v) (fun e j=> ?_) (fun t c f=> .inr ⟨rfl,by rw[x8];exact(a t c f).1⟩) (fun t c f=> ?_) (fun t c f=> ?_)
  ·simp at j;subst j;rfl
  ·rw[x8,(a t c f).1]
   exact b
  ·rw[(a t c f).2]
   exact .ifc _ _
theorem PY{W:World}(h:wg W):∀b o,Cq b o→b<W.heap.size:=fun b o d=>by
 rcases d with ⟨rfl,e⟩|⟨rfl,rfl⟩
 ·have a:=h.tab.cell PT 0 (by simp[zs])
  unfold World.cell? at a;cases c:W.heap[1]? with
  |none=>rw[c]at a;cases a
  |some o=>exact(xR.1 c).1
 ·obtain⟨ty,v,a⟩:=h.err
  unfold World.cell? at a;cases c:W.heap[5]? with
  |none=>rw[c]at a;cases a
  |some o=>exact(xR.1 c).1
end Go.Avm
