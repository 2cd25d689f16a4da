/-
  The abstract machine, part Md: a region that draws its order gives up at one step, while others, that might come later, have come already, or not.
-/
import Derived.Test.YtcjiafanhlhdlaaGreatDoorG05
set_option linter.unusedVariables false
set_option linter.unusedSimpArgs false
set_option linter.unusedSectionVars false
namespace Go.Avm
open Go.RowKit
variable[aH]
theorem uW:∀(l:List (Nat×aE))(h:aa){k:Nat},k∉l.map (·.1)→ae l h k=h k
 |[],_,_,_=>rfl
 |(b,e)::r,h,k,a=>by
  simp only[xH,x0,zG]at a;simp only[ae];rw[ag _ _ a.1];exact uW r h a.2
theorem CD:∀(l:List (Nat×aE))(h h2:aa){k:Nat},k∈l.map (·.1)→ae l h k=ae l h2 k
 |[],_,_,_,b=>by simp at b
 |(c,e)::r,h,h2,k,b=>by
  simp only[ae,aG];split
  ·rfl
  ·rename_i a
   exact CD r h h2 (by simpa [a]using b)
def MC(a h2:aa):Prop:=∀k,h2 k=a k∨((h2 k).ob=none∧(a k).ver≤(h2 k).ver)
theorem Jg{G:Gh}{B:Nat}{w0 w:World}{I0:Nat→Nat→Prop}{g h2:aa}(a:HR G B w0 I0 g w)(j:MC g h2):∃m,Ext G w m w∧HR m B w0 I0 h2 w:=by
 have c:∀k,(g k).ver≤(h2 k).ver:=fun k=>by
  rcases j k with e|⟨_,e⟩
  ·rw[e];exact xL _
  ·exact e
 have h:∀k o,(h2 k).ob=some o→h2 k=g k:=fun k o f=>by
  rcases j k with e|⟨e,_⟩
  ·exact e
  ·rw[e]at f;cases f
 have b:∀k L,G.loc k (h2 k).ver=some L→G.loc k (g k).ver=some L:=fun k L d=>by
  have s:=a.fresh k _ L d;have r:=c k;have:(h2 k).ver=(g k).ver:=by omega
  rwa [this]at d
 have hex:Ext G w {G with lim:=fun k=>(h2 k).ver} w:=
  ⟨fun _ _ x=>x,fun _ _ _ x=>x,fun _ _ _=>rfl,xL _,fun k=>by rw[a.lim];exact c k,fun _ _ _ x=>x,fun _ _ _ x=>x,d5 rfl⟩
 refine⟨_,hex,a.below,a.bsz,a.immlt,a.i0,a.immlow,fun k v L d=>yH (a.fresh k v L d) (c k),fun k L d=>a.own k L (b k L d),fun k n L l d i=>a.dis k n L l (b k L d) (b n l i),fun k ob f=> ?_,fun _=>rfl,
  a.maps.step hex rfl (fun _ _ _ x=>x) c fun k o q f=>h k o f⟩
 have p:=h k ob f;rw[p]at f ⊢;exact(a.objs k ob f).mono (a.le k) hex (fun _ _ _=>rfl)
def MD(P:Program)(o:Oper)(S:St)(x:AV)(h':aa)(W:List Nat):Prop:=
 (∃u t y,o.op= .panic u∧opd S.env u=x∧x= .iv t y∧MC S.heap h')∨
 (∃g args b a,dL o S.env=some (g,args)∧(∀h:aa,lT h b→iH P g args h x (ae a h))∧lT S.heap b∧(∀k∈W,k∉b.map (·.1)∧k∉a.map (·.1))∧MC (ae a S.heap) h')
def nq(P:Program)(a:Array Oper)(p:Nat)(env0:Nat→AV)(x:AV)(h':aa)(W:List Nat)(S:St):Prop:=
 (∃o,a[p]? =some o∧ea a o S.env=some true∧MD P o S x h' W)∧∀t,(mH a).contains t=false→S.env t=env0 t
def RW(W:List Nat)(S S1:St):Prop:=∀k,S1.heap k=S.heap k∨(k∈W∧(S.heap k).ver≤(S1.heap k).ver)
theorem zb{W:List Nat}{b c h':aa}(g:∀k∈W,(h' k).ob=none)(f:∀k,c k=b k∨(k∈W∧(b k).ver≤(c k).ver))(d:MC c h'):MC b h':=fun k=>by
 rcases f k with e|⟨h,a⟩
 ·rw[←e];exact d k
 ·refine .inr ⟨g k h, ?_⟩
  rcases d k with e|⟨_,e⟩
  ·rw[e];exact a
  ·exact yH a e
section
variable{P:Program}{cfg:ic}{N:Nat}{c:Array Oper}{G:Gh}{B:Nat}{w0 w:World}{I0:Nat→Nat→Prop}{W:List Nat}
theorem ME{o:Oper}{S:St}{x:AV}{h':aa}(h:MD P o S x h' W):∃f,Je P o S x f∧MC f h':=by
 rcases h with ⟨u,t,y,d,b,a,k⟩|⟨g,args,i,e,d,b,a,_,j⟩
 ·exact⟨_, .inl ⟨u,t,y,d,b,a,rfl⟩,k⟩
 ·exact⟨_, .inr ⟨g,args,d,b _ a⟩,j⟩
theorem FB{D:List Deferred}{p:Nat}{env0:Nat→AV}{x:AV}{h':aa}{S:St}(r:Option Nat)(n:Nat){a:Act}{K:Act→World→Prop}{Q:Exit→Act→World→Prop}(l:HR G B w0 I0 S.heap w)(z:FR G w N D S.env a)
    (h:nq P c p env0 x h' W S) (t:∀v b d,Ext G w d b→HR d B w0 I0 h' b→FR d b N D (oz c env0) a→Rep d b x v→Q (.panic [{v,recovered:=false}]) a b):wpOpIn (FF r) n P c Q p K a w:=by
 obtain⟨⟨o,u,hw,hp⟩,m⟩:=h;obtain⟨j,e,k⟩:=ME hp;refine uL r n l z (env0:=env0) (x:=x) (h':=j) ⟨⟨o,u,hw,e⟩,m⟩ (fun v b d q s i y=> ?_);obtain⟨g,f,A⟩:=Jg s k;exact t v b g (q.trans f) A (i.mono f) (y.mono f)
theorem BA{p k:Nat}{ok op:Oper}{env0:Nat→AV}{x:AV}{h':aa}{S S1:St}{ob:List Obl}{f:Foot}(F:∀k∈W,(h' k).ob=none)(K:c[k]? =some ok)(l:c[p]? =some op)(O:cf P cfg N c k ok S=some (S1,ob,f))(s:ok.apart c op=true)
    (i:RW W S S1) (h:nq P c p env0 x h' W S1):nq P c p env0 x h' W S:=by
 obtain⟨⟨o,I,hw,hp⟩,R⟩:=h;rw[l]at I;cases I;obtain⟨Q,_,_⟩:=Oper.apart_spec s;obtain⟨v,L,j,U,M,_,_⟩:=em O;have b:∀t∈op.looksAt c,S.env t=S1.env t:=fun t n=>(iR j (fun e=>Q t e n)).symm
 refine⟨⟨op,l,by rw[cH (o:=op) (env:=S1.env) (env':=S.env) b];exact hw, ?_⟩,fun t n=>by rw[←R t n,iR j (no K n)]⟩;rcases hp with ⟨u,t,y,r,z,A,m⟩|⟨g,args,D,a,r,z,A,m,T⟩
 ·refine .inl ⟨u,t,y,r, ?_,A,zb F i m⟩
  rw[jk b u (by rw[r];simp[Op.operands])];exact z
 ·refine .inr ⟨g,args,D,a, ?_,z,fun q H=> ?_,m,zb F (fun J=> ?_) T⟩
  ·rw[eC b]
   exact r
  ·have E:q.1∉W:=fun C=>(m q.1 C).1 (yr H)
   have:=(i q.1).resolve_right fun C=>E C.1
   rw[←this];exact A q H
  ·by_cases d:J∈a.map (·.1)
   ·exact .inl (CD a S1.heap S.heap d)
   ·rw[uW a S1.heap d,uW a S.heap d]
    exact i J
def lL(o:Oper)(k:Nat):Bool:=o.after.any (fun e=>Region.binds .any e&&e.on==k)
theorem jR{o:Oper}{k:Nat}(h:lL o k=true):¬∀e∈o.after,Region.binds .any e=true→e.on≠k:=fun b=>by
 obtain⟨e,d,a⟩:=Array.any_eq_true'.1 h;simp only[xJ,yI]at a;exact absurd a.2 (b e d a.1)
def FC(P:Program)(cfg:ic)(N:Nat)(c:Array Oper)(F:Nat→Foot)(p:Nat)(O:List Nat)(L:St→Prop):Nat→Array Bool→St→Prop
 |0,_,_=>False
 |fuel+1,a,S=>Region.ready .any c a≠[]∧
  ∀i∈Region.ready .any c a,(i=p∧L S)∨(i∈O∧∃o S1 ob,c[i]? =some o∧cf P cfg N c i o S=some (S1,ob,F i)∧gy P ob∧FC P cfg N c F p O L fuel (a.setIfInBounds i true) S1)
theorem nr{i:Nat}{o:Oper}{S S1:St}{ob:List Obl}{f:Foot}(j:cf P cfg N c i o S=some (S1,ob,f))(a:f.all=false){k:Nat}(e:k∉f.wr):S1.heap k=S.heap k:=by
 obtain⟨v,g,_,l,d,_,_⟩:=em j;obtain⟨h,rfl,b⟩:=d a;rw[l];exact cZ h _ (by rw[←b];exact e)
theorem Jh{i j:Nat}{s q:Oper}{S S1 g a:St}{f b:List Obl}{l d:Foot}(r:l.apart d=true)(p:l.all=false)(o:d.all=false)(u:cf P cfg N c j q S1=some (g,b,d))
    (e:cf P cfg N c j q S=some (a,b,d)) (n:cf P cfg N c i s a=some (g,f,l)) (h:RW W S S1):RW W a g:=fun k=>by
 by_cases m:k∈d.wr
 ·left
  refine nr n p fun t=> ?_
  simp[Foot.apart,p,o]at r;exact(r.1 k t).2 m
 ·rw[nr u o m,nr e o m]
  exact h k
theorem BB{F:Nat→Foot}{p k:Nat}{O:List Nat}{ok op:Oper}{env0:Nat→AV}{x:AV}{h':aa}(hW:∀k∈W,(h' k).ob=none)(V:c[k]? =some ok)(hp:c[p]? =some op)(Mk:k∈O){ob:List Obl}(L:gy P ob):
    ∀(fuel:Nat)(a:Array Bool)(S S1:St),
     (∀j r,j∈O→c[j]? =some r→j≠k→a.getD j true=false→(∀e∈r.after,Region.binds .any e=true→e.on≠k)→ok.apart c r=true∧(F k).apart (F j)=true∧(F j).all=false)→
     ((∀e∈op.after,Region.binds .any e=true→e.on≠k)→ok.apart c op=true∧(F k).all=false∧RW W S S1)→
     k∈Region.ready .any c a→cf P cfg N c k ok S=some (S1,ob,F k)→
     FC P cfg N c F p O (nq P c p env0 x h' W) fuel (a.setIfInBounds k true) S1→FC P cfg N c F p O (nq P c p env0 x h' W) (fuel+1) a S:=by
 intro fuel;induction fuel with
 |zero=>intro a S S1 _ _ _ _ H;exact H.elim
 |succ fuel ih=>
  intro a S S1 f A E J H;refine⟨fun h=>(by rw[h]at E;cases E),fun j Z=> ?_⟩;by_cases d:j=k
  ·subst d;exact .inr ⟨Mk,ok,S1,ob,V,J,L,H⟩
  ·obtain⟨n,r,b,u⟩:=mem_ready.1 Z
   have l:∀e∈r.after,Region.binds .any e=true→e.on≠k:=fun e he hb o=>by
    have D:=u e he hb;have h0:=(mem_ready.1 E).1;rw[o]at D;rcases yR k a.size with h'|h'
    ·simp[h']at h0 D;rw[h0]at D;cases D
    ·simp[Array.getElem?_eq_none h']at D
   rcases H.2 j (ready_mono Z d)with ⟨rfl,hl⟩|⟨C,q,S2,I,g,m,z,H2⟩
   ·left
    have e:r=op:=by rw[hp]at b;exact(Option.some.inj b).symm
    subst e;obtain⟨Q,M,T⟩:=A l;exact⟨rfl,BA hW V hp J Q T hl⟩
   ·right
    have o:q=r:=by rw[b]at g;exact(Option.some.inj g).symm
    subst o;obtain⟨a1,X,a3⟩:=f j q C b d n l;obtain⟨v,Y,U⟩:=mG a1 X J m;refine⟨C,q,v,I,b,Y,z,ih (a.setIfInBounds j true) v S2 (fun i oi K hi R y s=> ?_) (fun s=> ?_) (ready_mono E (Ne.symm d)) U ?_⟩
    ·refine f i oi K hi R ?_ s
     by_cases t:j=i
     ·subst t;exact n
     ·rw[getD_set_ne true t]at y;exact y
    ·obtain⟨Q,M,T⟩:=A s
     exact⟨Q,M,Jh X M a3 m Y U T⟩
    ·rw[Array.setIfInBounds_comm _ _ d]
     exact H2
def FD(c:Array Oper)(F:Nat→Foot)(p:Nat)(O W:List Nat)(b:Array Bool)(k:Nat):Bool:=
 match c[k]?,c[p]? with
 |some ok,some op=>(O.all fun j=>Nat.beq j k||b.getD j true||match c[j]? with
     |some d=>lL d k||(ok.apart c d&&(F k).apart (F j)&& !(F j).all)
     |none=>true)&&(lL op k||(ok.apart c op&& !(F k).all&&(F k).wr.all fun a=>W.any (Nat.beq a)))
 |_,_=>false
theorem BC{F:Nat→Foot}{p k:Nat}{O:List Nat}{ok op:Oper}{d:Array Bool}(t:c[k]? =some ok)(hp:c[p]? =some op)(h:FD c F p O W d k=true):
    (∀j l,j∈O→c[j]? =some l→j≠k→d.getD j true=false→(∀e∈l.after,Region.binds .any e=true→e.on≠k)→ok.apart c l=true∧(F k).apart (F j)=true∧(F j).all=false)∧
    ((∀e∈op.after,Region.binds .any e=true→e.on≠k)→ok.apart c op=true∧(F k).all=false∧∀a∈(F k).wr,a∈W):=by
 simp only[FD,t,hp,xJ]at h;obtain⟨f,h2⟩:=h;refine⟨fun j l o r n m g=> ?_,fun g=> ?_⟩
 ·have f:=xc.1 f j o
  rw[r,m]at f
  have i:Nat.beq j k=false:=by
   cases i:Nat.beq j k with
   |false=>rfl
   |true=>exact absurd (yF i) n
  rw[i]at f;simp only[Bool.false_or,yQ]at f;rcases f with f|f
  ·exact absurd g (jR f)
  ·simp only[xJ,yN]at f
   exact⟨f.1.1,f.1.2,f.2⟩
 ·rw[yQ]at h2
  rcases h2 with h2|h2
  ·exact absurd g (jR h2)
  ·simp only[xJ,yN]at h2
   refine⟨h2.1.1,h2.1.2,fun a s=> ?_⟩;have:=xc.1 h2.2 a s;obtain⟨b,i,q⟩:=yP.1 this;rw[yF q];exact i
def tF(c:Array Oper)(F:Nat→Foot)(p:Nat)(O W:List Nat):List Nat→Array Bool→Bool
 |[],a=>match Region.ready .any c a with
  |[i]=>Nat.beq i p
  |_=>false
 |k::r,a=>(Region.ready .any c a).contains k&&FD c F p O W a k&&tF c F p O W r (a.setIfInBounds k true)
def jS(P:Program)(cfg:ic)(N:Nat)(c:Array Oper)(F:Nat→Foot)(op:Oper):List Nat→St→St→Prop
 |[],S,b=>S=b
 |k::r,S,b=>∃o S1 ob,c[k]? =some o∧cf P cfg N c k o S=some (S1,ob,F k)∧gy P ob∧(lL op k=true∨∀a∈(F k).wr,(S.heap a).ver≤(S1.heap a).ver)∧jS P cfg N c F op r S1 b
theorem zc{F:Nat→Foot}{p:Nat}{op:Oper}{O:List Nat}{env0:Nat→AV}{x:AV}{h':aa}(v:∀k∈W,(h' k).ob=none)(hp:c[p]? =some op):∀(l:List Nat)(b:Array Bool)(S h:St),(∀k∈l,k∈O)→jS P cfg N c F op l S h→
    tF c F p O W l b=true→nq P c p env0 x h' W h→FC P cfg N c F p O (nq P c p env0 x h' W) (l.length+1) b S
 |[],b,S,h,_,e,d,u=>by
  simp only[jS]at e;subst e;simp only[tF]at d;split at d
  ·rename_i i n
   have:=yF d;subst this
   exact⟨by rw[n];simp,fun j g=>by
    rw[n]at g;simp only[xM]at g;exact .inl ⟨g,u⟩⟩
  ·cases d
 |k::r,b,S,h,y,e,d,u=>by
  obtain⟨o,S1,ob,A,m,t,f,e⟩:=e;simp only[tF,xJ]at d;obtain⟨⟨K,h2⟩,E⟩:=d;obtain⟨D,H⟩:=BC A hp h2;refine BB v A hp (y k (by simp)) t (r.length+1) b S S1 D (fun q=> ?_) (by simpa using K) m (zc v hp r _ S1 h (fun j g=>y j (by simp[g])) e E u);obtain⟨I,z,J⟩:=H q;refine⟨I,z,fun a=> ?_⟩;by_cases s:a∈(F k).wr
  ·exact .inr ⟨J a s,(f.resolve_left fun C=>jR C q) a s⟩
  ·exact .inl (nr m z s)
theorem mi{D:List Deferred}(A:io P)(r:Option Nat)(n:Nat){F:Nat→Foot}{p:Nat}{O:List Nat}{env0:Nat→AV}{x:AV}{h':aa}{Q:Exit→Act→World→Prop}:∀(fuel:Nat)(b:Array Bool)(G:Gh)(w:World)(S:St)(a:Act),HR G B w0 I0 S.heap w→FR G w N D S.env a→
    FC P cfg N c F p O (nq P c p env0 x h' W) fuel b S→
    (∀v m e f,Ext G w f e→HR f B w0 I0 h' e→FR f e N D (oz c env0) m→Rep f e x v→Q (.panic [{v,recovered:=false}]) m e)→∀d,fuel≤d→wpAnyIn (FF r) n P .any c Q d b a w
 |0,b,G,w,S,a,j,l,h,k,d,_=>h.elim
 |fuel+1,b,G,w,S,a,j,l,h,k,0,g=>absurd g (by omega)
 |fuel+1,b,G,w,S,a,j,l,h,k,d+1,g=>by
  refine⟨fun C=>absurd C h.1,fun i J=> ?_⟩;rcases h.2 i J with ⟨rfl,R⟩|⟨_,o,S1,ob,M,y,u,h2⟩
  ·exact FB r n j l R (fun v e f t s z q=>k v a e f t s z q)
  ·unfold wpOpIn
   simp only[M];exact fy A j l y u r n (fun m e f T H E=>mi A r n fuel _ f e S1 m H E h2 (fun v I K L t s z q=>k v I K L (T.trans t) s z q) d (by omega))
end
theorem ru{X:b4}{S d:St}{Q:aB→St→Prop}{id p:Nat}{b:Array Oper}{cfg:ic}{F:Nat→Foot}{op:Oper}{O W:List Nat}{x:AV}{h':aa}(hp:b[p]? =some op)(q:∀k∈W,(h' k).ob=none)(o:jS X.P cfg X.N b F op O S d)
    (l:tF b F p O W O (Array.replicate b.size false)=true) (g:O.length<b.size) (m:nq X.P b p S.env x h' W d) (h:Q (.panic x) ⟨oz b S.env,h'⟩):AW X (.region id b true) S Q:=fun G a w i=>by
 obtain⟨j,e⟩:=i.2;refine wpIn_region_any X.mixed.mixed ?_;have c:=zc q hp O (Array.replicate b.size false) S d (fun _ h=>h) o l m;exact mi X.mixed.ext X.rnd 0 (O.length+1) _ G w.drew S a i.1.drew (e.1.mono (Ext.drew G w)) c (fun v u t r f n h2 s=>⟨.panic x,_,r,⟨v,rfl,s⟩,h,(Ext.drew G w).trans f,n,j,h2,e.2.mono ((Ext.drew G w).trans f)⟩) b.size (by omega)
end Go.Avm
namespace Go.Avm
open Go.RowKit
variable[aH]
theorem b7:∀(l:List (Nat×aE))(h:aa){k:Nat},k∉l.map (·.1)→ae l h k=h k
 |[],_,_,_=>rfl
 |(b,e)::r,h,k,a=>by
  simp only[xH,x0,zG]at a;simp only[ae,ag _ _ a.1];exact b7 r h a.2
theorem fP:∀(l:List (Nat×aE))(h h2:aa){k:Nat},k∈l.map (·.1)→ae l h k=ae l h2 k
 |[],_,_,_,a=>by simp at a
 |(c,e)::r,h,h2,k,a=>by
  simp only[ae,aG];split
  ·rfl
  ·rename_i b
   simp only[xH,x0]at a;exact fP r h h2 (a.resolve_left b)
def ir(env:Nat→AV)(l:List (Nat×AV)):aq:=l.map fun p=>(.av (env p.1), .av p.2)
theorem mj{env:Nat→AV}{l:List (Nat×AV)}(h:Alike (ir env l)):∀p∈l,p.2=env p.1:=fun p hp=>by
 have:=h (.av (env p.1), .av p.2) (x9.2 ⟨p,hp,rfl⟩);simp only[aN.av.injEq]at this;exact this.symm
def aX(h:aa):List (Nat×aE)→Option aq
 |[]=>some []
 |(k,⟨v,none⟩)::r=>match aX h r with
  |some q=>some ((.nat (h k).ver, .nat v)::q)
  |none=>none
 |(k,⟨v,some (.arr sz es)⟩)::r=>match (h k).ob,aX h r with
  |some (.arr b es'),some q=>some ((.nat (h k).ver, .nat v)::(.nat b, .nat sz)::(.av (.tup es'), .av (.tup es))::q)
  |_,_=>none
 |(k,⟨v,some (.map es c)⟩)::r=>match (h k).ob,aX h r with
  |some (.map es' c'),some q=>some ((.nat (h k).ver, .nat v)::(.nat c', .nat c)::(.mp es', .mp es)::q)
  |_,_=>none
 |(k,⟨v,some (.lp d N env ps YU bd i)⟩)::r=>match (h k).ob,aX h r with
  |some o,some q=>some ((.nat (h k).ver, .nat v)::(.ob o, .ob (.lp d N env ps YU bd i))::q)
  |_,_=>none
 |(k,⟨v,some (.itr e g a seen)⟩)::r=>match (h k).ob,aX h r with
  |some o,some q=>some ((.nat (h k).ver, .nat v)::(.ob o, .ob (.itr e g a seen))::q)
  |_,_=>none
 |(k,⟨v,some (.typ j f T n)⟩)::r=>match (h k).ob,aX h r with
  |some o,some q=>some ((.nat (h k).ver, .nat v)::(.ob o, .ob (.typ j f T n))::q)
  |_,_=>none
theorem aR{h:aa}:∀{l:List (Nat×aE)}{q:aq},aX h l=some q→Alike q→∀p∈l,p.2.ver=(h p.1).ver∧(p.2.ob=none∨p.2.ob=(h p.1).ob)
 |[],_,_,_,p,hp=>by simp at hp
 |(k,⟨v,none⟩)::r,q,a,b,p,hp=>by
  simp only[aX]at a;split at a
  ·rename_i q' d
   simp only[xA]at a;subst a;rcases x0.1 hp with rfl|hp
   ·have:=b.head
    simp only[aN.nat.injEq]at this;exact⟨this.symm, .inl rfl⟩
   ·exact aR d b.tail p hp
  ·cases a
 |(k,⟨v,some (.arr sz es)⟩)::r,q,a,b,p,hp=>by
  simp only[aX]at a;split at a
  ·rename_i j es' q' e d
   simp only[xA]at a;subst a;rcases x0.1 hp with rfl|hp
   ·have f:=b.head
    have h2:=b.tail.head;have g:=b.tail.tail.head;simp only[aN.nat.injEq,aN.av.injEq,AV.tup.injEq]at f h2 g;subst h2;subst g;exact⟨f.symm, .inr e.symm⟩
   ·exact aR d b.tail.tail.tail p hp
  ·cases a
 |(k,⟨v,some (.map es c)⟩)::r,q,a,b,p,hp=>by
  simp only[aX]at a;split at a
  ·rename_i es' c' q' e d
   simp only[xA]at a;subst a;rcases x0.1 hp with rfl|hp
   ·have f:=b.head
    have h2:=b.tail.head;have g:=b.tail.tail.head;simp only[aN.nat.injEq,aN.mp.injEq]at f h2 g;subst h2;subst g;exact⟨f.symm, .inr e.symm⟩
   ·exact aR d b.tail.tail.tail p hp
  ·cases a
 |(k,⟨v,some (.lp m N env ps YU bd w)⟩)::r,q,a,b,p,hp=>by
  simp only[aX]at a;split at a
  ·rename_i o q' e d
   simp only[xA]at a;subst a;rcases x0.1 hp with rfl|hp
   ·have f:=b.head
    have h2:=b.tail.head;simp only[aN.nat.injEq,aN.ob.injEq]at f h2;subst h2;exact⟨f.symm, .inr e.symm⟩
   ·exact aR d b.tail.tail p hp
  ·cases a
 |(k,⟨v,some (.itr s u i seen)⟩)::r,q,a,b,p,hp=>by
  simp only[aX]at a;split at a
  ·rename_i o q' e d
   simp only[xA]at a;subst a;rcases x0.1 hp with rfl|hp
   ·have f:=b.head
    have h2:=b.tail.head;simp only[aN.nat.injEq,aN.ob.injEq]at f h2;subst h2;exact⟨f.symm, .inr e.symm⟩
   ·exact aR d b.tail.tail p hp
  ·cases a
 |(k,⟨v,some (.typ x t T n)⟩)::r,q,a,b,p,hp=>by
  simp only[aX]at a;split at a
  ·rename_i o q' e d
   simp only[xA]at a;subst a;rcases x0.1 hp with rfl|hp
   ·have f:=b.head
    have h2:=b.tail.head;simp only[aN.nat.injEq,aN.ob.injEq]at f h2;subst h2;exact⟨f.symm, .inr e.symm⟩
   ·exact aR d b.tail.tail p hp
  ·cases a
theorem eD{X:b4}{env:Nat→AV}{h h':aa}(c:∀k,(h' k).ver=(h k).ver∧((h' k).ob=none∨(h' k).ob=(h k).ob)):Weak X ⟨env,h⟩ ⟨env,h'⟩:=fun G a w b=>⟨G,Ext.refl G w,b.1.forget c,b.2⟩
theorem ns{X:b4}{S:St}{l:List (Nat×AV)}{hp:List (Nat×aE)}{q:aq}(b:Alike (ir S.env l))(h2:aX S.heap hp=some q)(a:Alike q):Weak X S ⟨ah l,ae hp S.heap⟩:=
 (mI (heap:=S.heap) (mj b)).trans (eD (hG S.heap hp (aR h2 a)))
theorem jT{X:b4}{c:Code}{S:St}{Q:aB→St→Prop}(h:AW X c S fun e S'=>∃b,Weak X S' b∧Q e b):AW X c S Q:=fun G a w o=>
 wpIn_mono (h G a w o) fun e m g ⟨i,S',k,x,⟨b,hw,j⟩,n,r⟩=>by
  obtain⟨l,d,f⟩:=hw k m g r;exact⟨i,b,l,x.mono d,j,n.trans d,f⟩
structure dJ(P:Program) where
 N:Nat
 x:Code
 l:List (Nat×AV)
 hp:aa→List (Nat×aE)
 e:aB
 l':List (Nat×AV)
 hp':aa→List (Nat×aE)
 proof:∀(rest:aa)(X:b4),X.P=P→X.N=N→AW X (.loop x) ⟨ah l,ae (hp rest) rest⟩ fun e' S'=>e'=e∧S'=⟨ah l',ae (hp' rest) rest⟩
structure Ql(P:Program) where
 N:Nat
 x:Code
 l:List (Nat×AV)
 hp:aa→List (Nat×aE)
 e:aB
 l':List (Nat×AV)
 hp':aa→List (Nat×aE)
 proof:∀(rest:aa)(X:b4),X.P=P→X.N=N→AW X x ⟨ah l,ae (hp rest) rest⟩ fun e' S'=>e'=e∧S'=⟨ah l',ae (hp' rest) rest⟩
structure rv where
 t:Nat
 k:Nat
 n:Nat
 es:List AV
 ds:List D
 hn:es.length=n
 hv:∀h:aa,ej (view 3 h) es=some (ds,[])
structure eI(P:Program) where
 g:Nat
 args:List AV
 pre:List (Nat×aE)
 rs:List AV
 post:List (Nat×aE)
 proof:∀h:aa,lT h pre→am P g args h rs (ae post h)
theorem gM{P:Program}{g:Nat}{args d:List AV}{c b:List (Nat×aE)}(h:∀a:aa,am P g args (ae c a) d (ae b a)):∀h:aa,lT h c→am P g args h d (ae b h):=
 fun h' e=>uE (h h') (hG h' c e)
theorem rx{h:aa}:∀{l:List (Nat×aE)},lT h l→(l.all fun p=>p.2.ob.isSome)=true→ae l h=h
 |[],_,_=>rfl
 |(k,e)::r,d,a=>by
  simp only[List.all_cons,xJ]at a;have f:=d (k,e) (by simp);have h2:=rx (l:=r) (fun p hp=>d p (by simp[hp])) a.2;simp only[ae,h2]
  have g:e=h k:=by
   obtain⟨b,ob⟩:=e
   have n:ob=(h k).ob:=f.2.resolve_left (fun j=>by
    have c:ob=none:=j;rw[c]at a;simp at a)
   have m:b=(h k).ver:=f.1;rw[n,m]
  funext t;simp only[aG];split
  ·rename_i i;rw[i,g]
  ·rfl
theorem p6{P:Program}{g:Nat}{args c:List AV}{a:List (Nat×aE)}(d:(a.all fun p=>p.2.ob.isSome)=true)(h:∀b:aa,am P g args (ae a b) c (ae a b)):∀h:aa,lT h a→am P g args h c (ae [] h):=fun h' e=>by
 have:=h h';rw[rx e d]at this;exact this
structure tG where
 C:Nat
 a:Nat
 k:Nat
 n:Nat
 es:List AV
 ds:List D
 hn:es.length=n
 hv:∀h:aa,ej (view 3 h) es=some (ds,[])
structure Qm(P:Program) where
 g:Nat
 args:List AV
 pre:List (Nat×aE)
 rs:List AV
 post:List (Nat×aE)
 rst:aa→aa
 bigs:List Nat
 hrst:∀h k,k∉bigs→rst h k=h k
 proof:∀h:aa,lT h pre→am P g args h rs (ae post (rst h))
structure k3 where
 k:Nat
 i:Nat
 K:Nat
 sz:Nat
 slot:Bool:=false
 obj:Bool:=false
structure tI(P:Program) where
 g:Nat
 args:List AV
 pre:List (Nat×aE)
 x:AV
 post:List (Nat×aE)
 proof:∀h:aa,lT h pre→iH P g args h x (ae post h)
structure PHint(P:Program) where
 p:Nat
 call:Option (tI P)
 ex:List Nat:=[]
def PHint.exs{P:Program}(H:PHint P):List Nat:=H.ex.filter fun k=> !Nat.beq k H.p
structure Par(P:Program) where
 obm:Nat→Nat→Bool:=fun _ _=>false
 hp:Nat→Bool:=fun _=>false
 hint:Nat→Nat→Option (bX P):=fun _ _=>none
 hintB:Nat→Nat→Nat→Option (bX P):=fun _ _ _=>none
 loops:Nat→Nat→Option (dJ P):=fun _ _=>none
 weaks:Nat→Nat→Option rv:=fun _ _=>none
 nils:Nat→Nat→Option k3:=fun _ _=>none
 calls:Nat→Nat→Nat→Option (eI P):=fun _ _ _=>none
 nils2:Nat→Nat→List k3:=fun _ _=>[]
 xcalls:Nat→Nat→Option (Qm P):=fun _ _=>none
 keeps:Nat→Nat→Option (List (Nat×AV)):=fun _ _=>none
 frz:Nat→Nat→Option tG:=fun _ _=>none
 seqs:Nat→Nat→Option (Ql P):=fun _ _=>none
 pans:Nat→Nat→Nat→Option (PHint P):=fun _ _ _=>none
def Par.at{P:Program}(d:Par P)(b a c:Nat):Option (bX P):=match d.hintB b a c with
 |some h=>some h
 |none=>d.hint b a
def fQ:Code→Nat
 | .region id _ _=>id
 | .seq x _=>fQ x
 | .block _ x=>fQ x
 | .loop x=>fQ x
 | .cond _ x _=>fQ x
 |_=>0
def BD(H:Option rv)(S:St):Option (St×List Nat×aq):=
 match H with
 |none=>some (S,[],[])
 |some H=>match S.env H.t with
  | .sl k v a b _=>if k=H.k∧a=0 then match (S.heap k).ob with
      |some (.arr _ es)=>some (⟨aG S.env H.t (.d (.ro H.ds)),aG S.heap k ⟨(S.heap k).ver+1,none⟩⟩,[k],[(.nat (S.heap k).ver, .nat v),(.nat b, .nat H.n),(.av (.tup es), .av (.tup H.es))])
      |_=>none
   else none
  |_=>none
theorem CE(n:Nat)(h:aa)(k v a b sz:Nat):view (n+1) h (.sl k v a b sz)=match (h k).ob with
    |some (.arr _ es)=>if (h k).ver=v∧a+b≤es.length then (ej (view n h) ((es.drop a).take b)).map fun r=>(.ro r.1,k::r.2)else none
    |_=>none:=rfl
theorem zd{X:b4}{H:Option rv}{S S':St}{r:List Nat}{ps:aq}(h:BD H S=some (S',r,ps))(n:Alike ps):Weak X S S'∧∀k,k∉r→S'.heap k=S.heap k:=by
 unfold BD at h;split at h
 ·simp only[xA,xE]at h
  obtain⟨rfl,rfl,rfl⟩:=h;exact⟨Weak.refl S,fun _ _=>rfl⟩
 ·rename_i H
  split at h
  ·rename_i k v C E sz f
   split at h
   ·rename_i y
    obtain⟨rfl,rfl⟩:=y;split at h
    ·rename_i D es p
     simp only[xA,xE]at h;obtain⟨rfl,rfl,rfl⟩:=h;have x:=n.head;have h2:=n.tail.head;have s:=n.tail.tail.head;simp only[aN.nat.injEq,aN.av.injEq,AV.tup.injEq]at x h2 s;subst s
     have j:view 4 S.heap (S.env H.t)=some (.ro H.ds,[H.k]):=by
      rw[f];rw[CE,p];simp only;rw[xf ⟨x,by rw[h2,←H.hn];omega⟩];rw[xn,yB (by rw[h2,←H.hn];exact xL _),H.hv];rfl
     refine⟨fun G a w A=> ?_,fun F l=>by simp at l;exact ag _ _ l⟩;obtain⟨g,B,c,q⟩:=A;have i:ap S.heap (kill S.heap [H.k])=aG S.heap H.k ⟨(S.heap H.k).ver+1,none⟩:=rfl;have u:=g.kill [H.k];rw[i]at u;have hex:=Ext.froz g [H.k];refine⟨_,hex,u,B,⟨c.size,c.nod,fun t m=> ?_,fun t m=> ?_⟩,q.mono hex⟩
     ·by_cases e:t=H.t
      ·subst e
       show Rep _ _ (aG S.env H.t _ H.t) _;rw[af];have:=dM g 4 _ _ _ _ j (c.rep H.t m);exact .d (this.mono (fun b o z=>z) (fun _ _ _=>rfl))
      ·show Rep _ _ (aG S.env H.t _ t) _
       rw[ag _ _ e];exact(c.rep t m).mono hex
     ·by_cases e:t=H.t
      ·subst e
       have:=c.out H.t m;rw[f]at this;cases this
      ·show aG S.env H.t _ t=_
       rw[ag _ _ e];exact c.out t m
    ·cases h
   ·cases h
  ·cases h
theorem HR.reob{G:Gh}{B:Nat}{w0 w:World}{I0:Nat→Nat→Prop}{h:aa}(e:HR G B w0 I0 h w){k:Nat}{ob:Ob}(p:ObRep G w k (h k).ver ob)(hm:ob.flex=true):HR G B w0 I0 (aG h k ⟨(h k).ver,some ob⟩) w:=by
 have i:∀a,(aG h k ⟨(h k).ver,some ob⟩ a).ver=(h a).ver:=fun a=>by
  simp only[aG];split
  ·rename_i d;rw[d]
  ·rfl
 refine⟨e.below,e.bsz,e.immlt,e.i0,e.immlow,fun k v L g=>by rw[i];exact e.fresh k v L g,fun k L g=>by rw[i]at g;exact e.own k L g,
  fun k a L E g m=>by rw[i]at g m;exact e.dis k a L E g m,fun a ob' n=> ?_,fun k=>by rw[i];exact e.lim k,⟨fun k v b x=>by rw[i];exact e.maps.low k v b x,fun z t b u C q r=>by
   have s:∀j,je (aG h k ⟨(h k).ver,some ob⟩ j).ob=true→je (h j).ob=true:=fun j l=>by
    by_cases d:j=k
    ·subst d;rw[af]at l;simp[je,hm]at l
    ·rw[ag _ _ d]at l;exact l
   rw[i]at q r;exact e.maps.inj z t b (s _ u) (s _ C) q r,fun a es c x=> ?_,fun a o N env ps YU bd D x=> ?_,fun a y A f seen x=> ?_,e.maps.glob⟩⟩
 ·by_cases d:a=k
  ·subst d
   rw[af]at n ⊢;cases n;exact p
  ·rw[ag _ _ d]at n ⊢
   exact e.objs a ob' n
 ·by_cases d:a=k
  ·subst d
   rw[af]at x;cases x;cases hm
  ·rw[ag _ _ d]at x ⊢
   exact e.maps.obj a es c x
 ·by_cases d:a=k
  ·subst d
   rw[af]at x;cases x;cases hm
  ·rw[ag _ _ d]at x ⊢
   exact e.maps.loops a o N env ps YU bd D x
 ·by_cases d:a=k
  ·subst d
   rw[af]at x;cases x;cases hm
  ·rw[ag _ _ d]at x ⊢
   exact e.maps.iters a y A f seen x
section
variable{G:Gh}{B:Nat}{w0 w:World}{I0:Nat→Nat→Prop}{h:aa}
theorem HR.recell(p:HR G B w0 I0 h w){C a:Nat}{ces:List AV}{x y:AV}(v:(h C).ob=some (.arr 1 ces))(n:ces[a]? =some x)(s:y.lone=true)(k:∀u,Rep G w x u→Rep G w y u):
    HR G B w0 I0 (aG h C ⟨(h C).ver,some (.arr 1 (ces.set a y))⟩) w:=by
 refine p.reob ?_ rfl;have d:=(xC.1 n).1;rcases p.objs C _ v with ⟨rfl,_⟩|⟨L,D,r,q,A,E,l,o⟩
 ·simp at d
 have b:∀e∈ces.set a y,e.lone=true:=fun e i=>by
  rcases xl i with i|rfl
  ·exact l rfl e i
  ·exact s
 refine .inr ⟨L,D,r,q,by simpa using A,fun e i=>by rw[AV.cells_lone (b e i)];rfl,fun _=>b,fun t c g=> ?_⟩;rw[bP b,zE]at g;by_cases f:a=t
 ·subst f
  simp only[yS,d]at g;cases g;obtain⟨u,z,m,j⟩:=o a x (by rw[bP (l rfl)];exact n);exact⟨u,z,m,k u j⟩
 ·rw[xo f]at g
  exact o t c (by rw[bP (l rfl)];exact g)
end
theorem jU{X:b4}{env:Nat→AV}{h:aa}{C K a sz:Nat}{ces:List AV}(d:C≠K)(g:(h C).ob=some (.arr 1 ces))(k:ces[a]? =some .nils):
    Weak X ⟨env,h⟩ ⟨env,aG (aG h K ⟨(h K).ver+1,some (.arr sz [])⟩) C ⟨(h C).ver,some (.arr 1 (ces.set a (.sl K ((h K).ver+1) 0 0 sz)))⟩⟩:=fun G ac w ⟨j,f,n,m⟩=>by
 obtain⟨l,c,e,_⟩:=j.bump K (some (.arr sz [])) (fun o e=>by cases e;exact⟨sz,rfl⟩);have b:(aG h K ⟨(h K).ver+1,some (.arr sz [])⟩ C)=h C:=ag _ _ d;have h2:=c.recell (C:=C) (a:=a) (x:= .nils) (y:= .sl K ((h K).ver+1) 0 0 sz) (by rw[b];exact g) k rfl (fun u i=>by cases i;exact .slNil _ _ _ _);rw[b]at h2;exact⟨l,e,h2,f,n.mono e,m.mono e⟩
section
variable{G:Gh}{B:Nat}{w0 w:World}{I0:Nat→Nat→Prop}{h:aa}
theorem HR.rename(f:HR G B w0 I0 h w){A K sz:Nat}{es:List AV}(D:A≠K)(R:(h A).ob=some (.arr sz es)):
    ∃m,HR m B w0 I0 (aG (aG h A ⟨(h A).ver+1,none⟩) K ⟨(h K).ver+1,some (.arr sz es)⟩) w∧Ext G w m w∧∀L,G.loc A (h A).ver=some L→m.loc K ((h K).ver+1)=some L:=by
 cases q:G.loc A (h A).ver with
 |none=>
  have J:es=[]:=by
   rcases f.objs A _ R with ⟨rfl,_⟩|⟨L,l,_⟩
   ·rfl
   ·rw[q]at l;cases l
  subst J;obtain⟨G1,h1,e1,_⟩:=f.bump A none (fun o e=>by cases e);obtain⟨G2,h2,z,_⟩:=h1.bump K (some (.arr sz [])) (fun o e=>by cases e;exact⟨sz,rfl⟩);rw[ag _ _ (Ne.symm D)]at h2;exact⟨G2,h2,e1.trans z,fun L x=>by cases x⟩
 |some L=>
  have F:=f.none_next A;have N:=f.none_next K
  let m:Gh:={G with loc:=fun S v'=>if S=K∧v'=(h K).ver+1 then some L else G.loc S v',lim:=aG (aG G.lim A ((h A).ver+1)) K ((h K).ver+1)}
  have b:∀k v,¬(k=K∧v=(h K).ver+1)→m.loc k v=G.loc k v:=fun k v s=>xo s
  have g:m.loc K ((h K).ver+1)=some L:=xf ⟨rfl,rfl⟩
  have r:∀k,G.lim k≤m.lim k:=fun k=>by
   show _≤aG (aG G.lim A _) K _ k;by_cases d:k=K
   ·subst d;rw[af,f.lim];omega
   ·rw[ag _ _ d]
    by_cases a:k=A
    ·subst a;rw[af,f.lim];omega
    ·rw[ag _ _ a];exact xL _
  have hex:Ext G w m w:=⟨fun _ _ x=>x,fun k v j x=>by
   rw[b k v (by rintro⟨rfl,rfl⟩;rw[N]at x;cases x)];exact x,fun _ _ _=>rfl,xL _,r,fun k v hv x=>by
   rw[b k v (by rintro⟨rfl,rfl⟩;rw[f.lim]at hv;omega)];exact x,fun _ _ _ x=>x,d5 rfl⟩
  have n:∀k,(h k).ver≤(aG (aG h A ⟨(h A).ver+1,none⟩) K ⟨(h K).ver+1,some (.arr sz es)⟩ k).ver:=fun k=>by
   by_cases d:k=K
   ·subst d;rw[af];exact Nat.le_succ _
   ·rw[ag _ _ d]
    by_cases a:k=A
    ·subst a;rw[af];exact Nat.le_succ _
    ·rw[ag _ _ a];exact xL _
  have p:∀k j,m.loc k (aG (aG h A ⟨(h A).ver+1,none⟩) K ⟨(h K).ver+1,some (.arr sz es)⟩ k).ver=some j→(k=K∧j=L)∨(k≠K∧k≠A∧G.loc k (h k).ver=some j):=by
   intro k j x;by_cases d:k=K
   ·subst d
    rw[af]at x;rw[g]at x;exact .inl ⟨rfl,(Option.some.inj x).symm⟩
   ·rw[ag _ _ d]at x
    by_cases a:k=A
    ·subst a
     rw[af,b _ _ (by rintro⟨rfl,_⟩;exact d rfl),F]at x;cases x
    ·rw[ag _ _ a,b _ _ (by rintro⟨rfl,_⟩;exact d rfl)]at x
     exact .inr ⟨d,a,x⟩
  refine⟨m,⟨f.below,f.bsz,f.immlt,f.i0,f.immlow, ?_, ?_, ?_, ?_, ?_,f.maps.step hex rfl (fun _ _ _ x=>x) n (fun k o hf i=> ?_)⟩,hex,fun j x=>by cases x;exact g⟩
  ·intro k v j x
   by_cases d:k=K∧v=(h K).ver+1
   ·obtain⟨rfl,rfl⟩:=d;rw[af];exact xL _
   ·rw[b _ _ d]at x
    exact yH (f.fresh k v j x) (n k)
  ·intro k j x
   rcases p k j x with ⟨rfl,rfl⟩|⟨_,_,x⟩
   ·exact f.own A _ q
   ·exact f.own k j x
  ·intro H C M I x1 x2 E
   rcases p H M x1 with ⟨rfl,rfl⟩|⟨n1,m1,P⟩<;>rcases p C I x2 with ⟨z,f2⟩|⟨n2,U,Q⟩
   ·exact z.symm
   ·exact absurd (f.dis A C _ I q Q E).symm U
   ·subst f2;exact absurd (f.dis H A M _ P q E) m1
   ·exact f.dis H C M I P Q E
  ·intro k ob i
   by_cases d:k=K
   ·subst d
    rw[af]at i ⊢;simp only[xA]at i;subst i;rcases f.objs A _ R with ⟨_,s⟩|⟨j,l,W,V,g3,T,Z,X⟩
    ·rw[q]at s;cases s
    ·rw[q]at l
     cases l
     exact .inr ⟨L,g,W,V,g3,T,Z,fun t c Y=>by
      obtain⟨u,hu,O,y⟩:=X t c Y;exact⟨u,hu,O,y.mono hex⟩⟩
   ·rw[ag _ _ d]at i ⊢
    by_cases a:k=A
    ·subst a;rw[af]at i;cases i
    ·rw[ag _ _ a]at i ⊢
     exact(f.objs k ob i).mono (f.le k) hex (fun _ _ _=>rfl)
  ·intro k
   show aG (aG G.lim A _) K _ k=_;by_cases d:k=K
   ·subst d;rw[af,af]
   ·rw[ag _ _ d,ag _ _ d]
    by_cases a:k=A
    ·subst a;rw[af,af]
    ·rw[ag _ _ a,ag _ _ a];exact f.lim k
  ·by_cases d:k=K
   ·subst d;rw[af]at i;cases i;cases hf
   ·rw[ag _ _ d]at i ⊢
    by_cases a:k=A
    ·subst a;rw[af]at i;cases i
    ·rw[ag _ _ a]
theorem Rep.moved{e:Gh}{A v K v' a b z:Nat}{u:Value}(i:Rep G w (.sl A v a b z) u)(j:∀L,G.loc A v=some L→e.loc K v'=some L):Rep e w (.sl K v' a b z) u:=by
 cases i with
 |slNil=>exact .slNil _ _ _ _
 |sl _ _ _ _ c L f g d=>exact .sl K v' a b c L (j L f) g d
end
theorem Ea{X:b4}{env:Nat→AV}{h:aa}{C A K a sz b c z:Nat}{es ces:List AV}(k:A≠K)(j:C≠A)(l:C≠K)(s:(h C).ob=some (.arr 1 ces))(n:ces[a]? =some (.sl A (h A).ver b c z))(p:(h A).ob=some (.arr sz es)):
    Weak X ⟨env,h⟩ ⟨env,aG (aG (aG h A ⟨(h A).ver+1,none⟩) K ⟨(h K).ver+1,some (.arr sz es)⟩) C ⟨(h C).ver,some (.arr 1 (ces.set a (.sl K ((h K).ver+1) b c z)))⟩⟩:=fun G ac w ⟨m,r,B,o⟩=>by
 obtain⟨q,i,e,v⟩:=m.rename k p;have f:(aG (aG h A ⟨(h A).ver+1,none⟩) K ⟨(h K).ver+1,some (.arr sz es)⟩ C)=h C:=by rw[ag _ _ l,ag _ _ j]
 have h2:=i.recell (C:=C) (a:=a) (x:= .sl A (h A).ver b c z) (y:= .sl K ((h K).ver+1) b c z) (by rw[f];exact s) n rfl (fun u t=>t.moved (fun L g=> ?_))
 ·rw[f]at h2
  exact⟨q,e,h2,r,B.mono e,o.mono e⟩
 ·cases d:G.loc A (h A).ver with
  |none=>
   have:=e.nloc A (h A).ver (by rw[m.lim];exact xL _) d;rw[this]at g;cases g
  |some D=>
   rw[e.loc _ _ _ d]at g;cases g;exact v _ d
def FE(H:Option k3)(S:St):Option (St×List Nat×aq):=
 match H with
 |none=>some (S,[],[])
 |some H=>if H.obj=true then (if H.slot=true then match S.env H.i with
     | .nils=>some (⟨aG S.env H.i (.sl H.K ((S.heap H.K).ver+1) 0 0 H.sz),aG S.heap H.K ⟨(S.heap H.K).ver+1,some (.arr H.sz [])⟩⟩,[H.K],[])
     |_=>none
     else match (S.heap H.k).ob with
     |some (.arr sz es)=>if sz=1∧H.k≠H.K then match es[H.i]? with
         |some .nils=>some (⟨S.env,aG (aG S.heap H.K ⟨(S.heap H.K).ver+1,some (.arr H.sz [])⟩) H.k ⟨(S.heap H.k).ver,some (.arr 1 (es.set H.i (.sl H.K ((S.heap H.K).ver+1) 0 0 H.sz)))⟩⟩,[H.K,H.k],[])
         |some (.sl A v a b z)=>match S.heap A with
          |⟨c,some (.arr d e)⟩=>if A≠H.K∧H.k≠A then some (⟨S.env,aG (aG (aG S.heap A ⟨v+1,none⟩) H.K ⟨(S.heap H.K).ver+1,some (.arr d e)⟩) H.k ⟨(S.heap H.k).ver,some (.arr 1 (es.set H.i (.sl H.K ((S.heap H.K).ver+1) a b z)))⟩⟩,[A,H.K,H.k],[(.nat c, .nat v)])else none
          |_=>none
         |_=>none
      else none
     |_=>none)
  else if H.slot=true then match S.env H.i with
   | .nils=>some (⟨aG S.env H.i (.vec H.K (S.heap H.K).ver H.sz []),S.heap⟩,[],[])
   |_=>none
  else match (S.heap H.k).ob with
  |some (.arr sz es)=>if sz=1 then match es[H.i]? with
      |some .nils=>some (⟨S.env,aG S.heap H.k ⟨(S.heap H.k).ver,some (.arr sz (es.set H.i (.vec H.K (S.heap H.K).ver H.sz [])))⟩⟩,[H.k],[])
      |_=>none
   else none
  |_=>none
theorem BE{X:b4}{H:Option k3}{S S':St}{W:List Nat}{ps:aq}(h:FE H S=some (S',W,ps))(hs:Alike ps):Weak X S S'∧∀k,k∉W→S'.heap k=S.heap k:=by
 unfold FE at h;split at h
 ·simp only[xA,xE]at h
  obtain⟨rfl,rfl,rfl⟩:=h;exact⟨Weak.refl S,fun _ _=>rfl⟩
 ·rename_i H
  split at h
  ·split at h
   case isFalse=>
    split at h;case h_2=>cases h
    rename_i sz es n;split at h;case isFalse=>cases h
    rename_i hc;obtain⟨rfl,B⟩:=hc;split at h
    ·rename_i j
     simp only[xA,xE]at h;obtain⟨rfl,rfl,rfl⟩:=h;refine⟨jU (X:=X) (env:=S.env) B n j,fun k l=> ?_⟩;simp only[x0,yU,zR,zG]at l;exact(ag _ _ l.2).trans (ag _ _ l.1)
    ·rename_i A v off len z j
     split at h;case h_2=>cases h
     rename_i vA sA eA Y;split at h;case isFalse=>cases h
     rename_i T;obtain⟨U,N⟩:=T;simp only[xA,xE]at h;obtain⟨rfl,rfl,rfl⟩:=h;have F:=hs.head;simp only[aN.nat.injEq]at F;subst F;have e1:(S.heap A).ver=vA:=by rw[Y]
     have e2:(S.heap A).ob=some (.arr sA eA):=by rw[Y]
     refine⟨?_,fun k l=> ?_⟩
     ·have:=Ea (X:=X) (env:=S.env) (h:=S.heap) (K:=H.K) U N B n (by rw[e1];exact j) e2
      rw[e1]at this;exact this
     ·simp only[x0,yU,zR,zG]at l
      exact(ag _ _ l.2.2).trans ((ag _ _ l.2.1).trans (ag _ _ l.1))
    ·cases h
   split at h;case h_2=>cases h
   rename_i f;simp only[xA,xE]at h;obtain⟨rfl,rfl,rfl⟩:=h;refine⟨fun G a w ⟨p,Q,b,q⟩=> ?_,fun k l=>by simp at l;exact ag _ _ l⟩;obtain⟨G',J,y,_⟩:=p.bump H.K (some (.arr H.sz [])) (fun o e=>by cases e;exact⟨_,rfl⟩);refine⟨G',y,J,Q,⟨b.size,b.nod,fun t g=> ?_,fun t g=> ?_⟩,q.mono y⟩
   ·by_cases d:t=H.i
    ·subst d
     show Rep _ _ (aG S.env H.i _ H.i) _;rw[af];have:=b.rep H.i g;rw[f]at this;have P:∀u,Rep G w .nils u→Rep G' w (.sl H.K ((S.heap H.K).ver+1) 0 0 H.sz) u:=fun u E=>by cases E;exact .slNil _ _ _ _
     exact P _ this
    ·show Rep _ _ (aG S.env H.i _ t) _
     rw[ag _ _ d];exact(b.rep t g).mono y
   ·by_cases d:t=H.i
    ·subst d
     have:=b.out H.i g;rw[f]at this;cases this
    ·show aG S.env H.i _ t=_
     rw[ag _ _ d];exact b.out t g
  split at h
  ·split at h
   case h_2=>cases h
   rename_i f;simp only[xA,xE]at h;obtain⟨rfl,rfl,rfl⟩:=h;refine⟨fun G a w ⟨p,Q,b,q⟩=>⟨G,Ext.refl G w,p,Q,⟨b.size,b.nod,fun t g=> ?_,fun t g=> ?_⟩,q⟩,fun _ _=>rfl⟩
   ·by_cases d:t=H.i
    ·subst d
     show Rep _ _ (aG S.env H.i _ H.i) _;rw[af];have:=b.rep H.i g;rw[f]at this;have P:∀u,Rep G w .nils u→Rep G w (.vec H.K (S.heap H.K).ver H.sz []) u:=fun u E=>by cases E;exact .vecNil _ _ _
     exact P _ this
    ·show Rep _ _ (aG S.env H.i _ t) _
     rw[ag _ _ d];exact b.rep t g
   ·by_cases d:t=H.i
    ·subst d
     have:=b.out H.i g;rw[f]at this;cases this
    ·show aG S.env H.i _ t=_
     rw[ag _ _ d];exact b.out t g
  split at h;case h_2=>cases h
  rename_i sz es n;split at h;case isFalse=>cases h
  rename_i R;subst R;split at h;case h_2=>cases h
  rename_i j;simp only[xA,xE]at h;obtain⟨rfl,rfl,rfl⟩:=h;refine⟨fun G a w M=>⟨G,Ext.refl G w,M.1.reob ?_ rfl,M.2⟩,fun k' s=>by simp at s;exact ag _ _ s⟩;have r:=(xC.1 j).1;rcases M.1.objs H.k _ n with ⟨rfl,_⟩|⟨L,hL,J,y,g3,g4,O,Z⟩
  ·simp at r
  have m:∀x∈es.set H.i (.vec H.K (S.heap H.K).ver H.sz []),x.lone=true:=fun x D=>by
   rcases xl D with D|rfl
   ·exact O rfl x D
   ·rfl
  refine .inr ⟨L,hL,J,y,by simpa using g3,fun x D=>by rw[AV.cells_lone (m x D)];rfl,fun _=>m,fun t c g=> ?_⟩;rw[bP m,zE]at g;by_cases C:H.i=t
  ·subst C
   simp only[yS,r]at g;cases g;obtain⟨u,E,V,I⟩:=Z H.i .nils (by rw[bP (O rfl)];exact j);refine⟨u,E,V, ?_⟩;cases I;exact .vecNil _ _ _
  ·rw[xo C]at g
   exact Z t c (by rw[bP (O rfl)];exact g)
def ry:List k3→St→Option (St×List Nat×aq)
 |[],S=>some (S,[],[])
 |H::r,S=>match FE (some H) S with
  |some a=>match ry r a.1 with
   |some b=>some (b.1,a.2.1 ++b.2.1,a.2.2 ++b.2.2)
   |none=>none
  |none=>none
theorem pu{X:b4}:∀{l:List k3}{S S':St}{c:List Nat}{ps:aq},ry l S=some (S',c,ps)→Alike ps→Weak X S S'∧∀k,k∉c→S'.heap k=S.heap k
 |[],S,S',c,ps,h,e=>by
  simp only[ry,xA,xE]at h;obtain⟨rfl,rfl,rfl⟩:=h;exact⟨Weak.refl S,fun _ _=>rfl⟩
 |H::r,S,S',c,ps,h,e=>by
  simp only[ry]at h;split at h;case h_2=>cases h
  rename_i a g;split at h;case h_2=>cases h
  rename_i b i;simp only[xA,xE]at h;obtain⟨rfl,rfl,rfl⟩:=h;obtain⟨j,n,m⟩:=a;obtain⟨p,o,q⟩:=b;have f:=BE (X:=X) g e.left;have h2:=pu (X:=X) i e.right;exact⟨f.1.trans h2.1,fun k d=>by simp only[xU,zG]at d;exact(h2.2 k d.2).trans (f.2 k d.1)⟩
theorem eo{X:b4}{env:Nat→AV}{h:aa}{C a n:Nat}{ces:List AV}{x:AV}{d:D}{ks:List Nat}(y:C∉ks)(M:(h C).ob=some (.arr 1 ces))(z:ces[a]? =some x)(P:d.one=true)(J:view n h x=some (d,ks)):
    Weak X ⟨env,h⟩ ⟨env,aG (ap h (kill h ks)) C ⟨(h C).ver,some (.arr 1 (ces.set a (.d d)))⟩⟩:=fun G ac w ⟨r,K,O,F⟩=>by
 have v:=r.kill ks;have e:=Ext.froz r ks;have j:ap h (kill h ks) C=h C:=by rw[bo,xo y]
 have R:∀u,Rep G w x u→Rep (G.froz h ks) w (.d d) u:=fun u q=> .d ((dM r n _ _ _ _ J q).mono (fun b o E=>E) (fun _ _ _=>rfl))
 have h2:HR (G.froz h ks) X.B X.w0 X.I0 (aG (ap h (kill h ks)) C ⟨(ap h (kill h ks) C).ver,some (.arr 1 (ces.set a (.d d)))⟩) w:=by
  refine v.reob ?_ rfl;rw[j];have k:=(xC.1 z).1;rcases r.objs C _ M with ⟨rfl,_⟩|⟨L,Q,I,H,N,S,s,A⟩
  ·simp at k
  have f:∀e∈ces.set a (.d d),e.lone=true:=fun e p=>by
   rcases xl p with p|rfl
   ·exact s rfl e p
   ·cases d<;>first|rfl|(simp[D.one]at P)
  refine .inr ⟨L,e.loc _ _ _ Q,I,H,by simpa using N,fun e p=>by rw[AV.cells_lone (f e p)];rfl,fun _=>f,fun t c m=> ?_⟩;rw[bP f,zE]at m;by_cases l:a=t
  ·subst l
   simp only[yS,k]at m;cases m;obtain⟨u,q,i,g⟩:=A a x (by rw[bP (s rfl)];exact z);exact⟨u,q,i,R u g⟩
  ·rw[xo l]at m
   obtain⟨u,q,i,g⟩:=A t c (by rw[bP (s rfl)];exact m);exact⟨u,q,i,g.mono e⟩
 rw[j]at h2;exact⟨_,e,h2,K,O.mono e,F.mono e⟩
def Ua(H:Option tG)(S:St):Option (St×List Nat×aq):=
 match H with
 |none=>some (S,[],[])
 |some H=>match (S.heap H.C).ob with
  |some (.arr sz ces)=>if sz=1∧H.C≠H.k then match ces[H.a]? with
      |some (.sl k v b c _)=>if k=H.k∧b=0 then match (S.heap k).ob with
          |some (.arr _ es)=>some (⟨S.env,aG (aG S.heap k ⟨(S.heap k).ver+1,none⟩) H.C ⟨(S.heap H.C).ver,some (.arr 1 (ces.set H.a (.d (.ro H.ds))))⟩⟩,[k,H.C],[(.nat (S.heap k).ver, .nat v),(.nat c, .nat H.n),(.av (.tup es), .av (.tup H.es))])
          |_=>none
       else none
      |_=>none
   else none
  |_=>none
theorem FG{X:b4}{H:Option tG}{S S':St}{i:List Nat}{ps:aq}(h:Ua H S=some (S',i,ps))(g:Alike ps):Weak X S S'∧∀k,k∉i→S'.heap k=S.heap k:=by
 unfold Ua at h;split at h
 ·simp only[xA,xE]at h
  obtain⟨rfl,rfl,rfl⟩:=h;exact⟨Weak.refl S,fun _ _=>rfl⟩
 rename_i H;split at h;case h_2=>cases h
 rename_i sz ces n;split at h;case isFalse=>cases h
 rename_i m;obtain⟨rfl,e⟩:=m;split at h;case h_2=>cases h
 rename_i k v q d z p;split at h;case isFalse=>cases h
 rename_i f;obtain⟨rfl,rfl⟩:=f;split at h;case h_2=>cases h
 rename_i o es c;simp only[xA,xE]at h;obtain⟨rfl,rfl,rfl⟩:=h;have l:=g.head;have h2:=g.tail.head;have j:=g.tail.tail.head;simp only[aN.nat.injEq,aN.av.injEq,AV.tup.injEq]at l h2 j;subst j
 have a:view 4 S.heap (.sl H.k v 0 d z)=some (.ro H.ds,[H.k]):=by
  rw[CE,c];simp only;rw[xf ⟨l,by rw[h2,←H.hn];omega⟩];rw[xn,yB (by rw[h2,←H.hn];exact xL _),H.hv];rfl
 refine⟨eo (ks:=[H.k]) (by simpa using e) n p rfl a,fun r b=> ?_⟩;simp only[x0,yU,zR,zG]at b;exact(ag _ _ b.2).trans (ag _ _ b.1)
def rz(K:Option (List (Nat×AV)))(S:St):St×aq:=match K with
 |none=>(S,[])
 |some l=>(⟨ah l,S.heap⟩,ir S.env l)
theorem ze{X:b4}{K:Option (List (Nat×AV))}{S:St}(a:Alike (rz K S).2):Weak X S (rz K S).1∧(rz K S).1.heap=S.heap:=by
 cases K with
 |none=>exact⟨Weak.refl S,rfl⟩
 |some l=>exact⟨mI (heap:=S.heap) (mj a),rfl⟩
def rA(H:Option rv)(N:List k3)(K:Option (List (Nat×AV)))(S:St):Option (St×List Nat×aq):=
 match BD H S with
 |some a=>match ry N a.1 with
  |some b=>some ((rz K b.1).1,a.2.1 ++b.2.1,a.2.2 ++(b.2.2 ++(rz K b.1).2))
  |none=>none
 |none=>none
def uX(H:Option rv)(N:List k3)(K:Option (List (Nat×AV)))(Z:Option tG)(S:St):Option (St×List Nat×aq):=
 match rA H N K S with
 |some a=>match Ua Z a.1 with
  |some b=>some (b.1,a.2.1 ++b.2.1,a.2.2 ++b.2.2)
  |none=>none
 |none=>none
theorem ta{X:b4}{H:Option rv}{N:List k3}{K:Option (List (Nat×AV))}{S S':St}{e:List Nat}{ps:aq}(h:rA H N K S=some (S',e,ps))(d:Alike ps):Weak X S S'∧∀k,k∉e→S'.heap k=S.heap k:=by
 unfold rA at h;split at h;case h_2=>cases h
 rename_i a i;split at h;case h_2=>cases h
 rename_i b j;simp only[xA,xE]at h;obtain⟨rfl,rfl,rfl⟩:=h;obtain⟨l,n,m⟩:=a;obtain⟨p,o,q⟩:=b;have g:=zd (X:=X) i d.left;have h2:=pu (X:=X) j d.right.left;have f:=ze (X:=X) d.right.right;exact⟨(g.1.trans h2.1).trans f.1,fun k c=>by simp only[xU,zG]at c;rw[f.2];exact(h2.2 k c.2).trans (g.2 k c.1)⟩
theorem eE{X:b4}{H:Option rv}{N:List k3}{K:Option (List (Nat×AV))}{Z:Option tG}{S S':St}{d:List Nat}{ps:aq}(h:uX H N K Z S=some (S',d,ps))(e:Alike ps):Weak X S S'∧∀k,k∉d→S'.heap k=S.heap k:=by
 unfold uX at h;split at h;case h_2=>cases h
 rename_i a g;split at h;case h_2=>cases h
 rename_i b i;simp only[xA,xE]at h;obtain⟨rfl,rfl,rfl⟩:=h;obtain⟨j,m,l⟩:=a;obtain⟨o,n,p⟩:=b;have f:=ta (X:=X) g e.left;have h2:=FG (X:=X) i e.right;exact⟨f.1.trans h2.1,fun k c=>by simp only[xU,zG]at c;exact(h2.2 k c.2).trans (f.2 k c.1)⟩
def Par.nilsAt{P:Program}(b:Par P)(a id:Nat):List k3:=match b.nils a id with
 |some H=>H::b.nils2 a id
 |none=>b.nils2 a id
abbrev cI:=Nat→Nat→Nat→Code→St→Option (aB×St×Nat×List Nat×aq)
def uY(P:Program)(c:cI)(g:Nat)(ds:List D):Option (List D×aq):=
 match P.funcs[g]? with
 |none=>none
 |some fn=>match fn.body with
  |none=>none
  |some b=>if ds.length≤fn.ntmps then match c g 0 fn.ntmps b (jQ ds)with
      |some (.normal,S',_,_,ps)=>(po P S' fn.results.toList).map fun a=>(a,ps)
      |some (.ret,S',_,_,ps)=>(po P S' fn.results.toList).map fun a=>(a,ps)
      |_=>none
   else none
def ep(P:Program)(f:cI)(a:Nat)(g:Nat)(args:List AV)(h:aa):Option (List AV×aa×Nat×List Nat×aq):=
 match P.funcs[g]? with
 |none=>none
 |some fn=>match fn.body with
  |none=>none
  |some b=>if args.length≤fn.ntmps then match f g a fn.ntmps b ⟨fO args,h⟩with
      |some (.normal,S',e,c,ps)=>(lU P S' fn.results.toList).map fun d=>(d,S'.heap,e,c,ps)
      |some (.ret,S',e,c,ps)=>(lU P S' fn.results.toList).map fun d=>(d,S'.heap,e,c,ps)
      |_=>none
   else none
def oC(P:Program)(l:cI)(b:Nat)(args:List AV)(h:aa):Option (aa×Nat×List Nat×aq):=
 match args with
 |[a, .fn f c]=>match oB h a with
  |some (k,v,i,es,n,m)=>
   if n=0 then
    if m=0 then match ep P l b f c (wX h k v i es)with
     |some r=>match oB r.2.1 a with
      |some (o,e,j,d,p,g)=>if o=k∧e=v∧j=i∧p=0∧g=1 then some (wY r.2.1 k v i d,r.2.2.1,k::r.2.2.2.1,r.2.2.2.2)else none
      |none=>none
     |none=>none
    else none
   else some (h,b,[],[])
  |none=>none
 |_=>none
def BF(l:cI)(c k v:Nat)(args:List AV)(h:aa):Option (Bool×aa×Nat×List Nat×aq):=
 match (h k).ob with
 |some (.lp b N env ps YU bd .ready)=>match ki N (ah env) ps.toList args with
     |some a=>match l b c N YU ⟨a,h⟩with
      |some (.normal,S1,o,d,i)=>match (S1.heap k).ob with
       |some (.lp n t x w f g .ready)=>match l b o N bd ⟨S1.env,aG S1.heap k ⟨v,some (.lp n t x w f g .busy)⟩⟩with
           |some r=>match (r.2.1.heap k).ob,wV r.1 with
            |some (.lp p u m s j e _),some q=>some (q.1,aG r.2.1.heap k ⟨v,some (.lp p u m s j e q.2)⟩,r.2.2.1,k::(d ++r.2.2.2.1),(.nat (h k).ver, .nat v)::(.nat (S1.heap k).ver, .nat v)::(.nat (r.2.1.heap k).ver, .nat v)::(i ++r.2.2.2.2))
            |_,_=>none
           |none=>none
       |_=>none
      |_=>none
     |none=>none
 |_=>none
def keyOf(a i:Nat)(o:Oper):Nat:=match o.dst with
 |some d=>d
 |none=>100000+a*1000+i
def BG(P:Program)(d:Par P)(e:cI)(c b a g:Nat)(args:List AV)(h:aa):Option (List AV×aa×Nat×List Nat×aq):=
 match d.xcalls c b with
 |some H=>if g=H.g then match aX h H.pre with
     |some q=>some (H.rs,ae H.post (H.rst h),a,H.post.map (·.1) ++H.bigs,(.av (.tup args), .av (.tup H.args))::q)
     |none=>none
  else none
 |none=>ep P e a g args h
def CF(P:Program)(e:Par P)(f:cI)(b c a N:Nat)(k:Array Oper)(i:Nat)(o:Oper)(S:St):Option (St×Foot×Nat×List Nat×aq):=
 match ea k o S.env with
 |some true=>match Br o S.env with
  |some (g,args)=>match e.calls b (keyOf c i o) a with
   |some H=>if g=H.g then match aX S.heap H.pre with
      |some q=>(eO N S.env o.dst (iG H.rs)).map fun env=>(⟨env,ap S.heap H.post.reverse⟩,⟨i,H.pre.map (·.1),H.post.reverse.map (·.1),false⟩,a,H.post.reverse.map (·.1),(.av (.tup args), .av (.tup H.args))::q)
      |none=>none
    else none
   |none=>match e.at b (keyOf c i o) a with
    |some (.call l ds j _)=>
     if l=g then match sJ args with
      |some h=>(eO N S.env o.dst (kA j)).map fun env=>(⟨env,S.heap⟩,⟨i,[],[],false⟩,a,[],[(.ds h, .ds ds)])
      |none=>match view.go 12 S.heap args with
       |some r=>if j.all D.scal=true then (eO N S.env o.dst (kA j)).map fun env=>(⟨env,S.heap⟩,⟨i,r.2,[],false⟩,a,[],[(.ds r.1, .ds ds)])else none
       |none=>none
     else none
    |_=>if uS g=true then match oC P f a args S.heap with
      |some r=>(eO N S.env o.dst (.tup [])).map fun env=>(⟨env,r.1⟩,⟨i,[],r.2.2.1,true⟩,r.2.1,r.2.2.1,r.2.2.2)
      |none=>none
     else match (if e.hp g=true then none else sJ args)with
     |some ds=>match uY P f g ds with
      |some r=>(eO N S.env o.dst (kA r.1)).map fun env=>(⟨env,S.heap⟩,⟨i,[],[],false⟩,a,[],r.2)
      |none=>none
     |none=>match BG P e f b (keyOf c i o) a g args S.heap with
      |some r=>(eO N S.env o.dst (iG r.1)).map fun env=>(⟨env,r.2.1⟩,⟨i,[],r.2.2.2.1,true⟩,r.2.2.1,r.2.2.2.1,r.2.2.2.2)
      |none=>none
  |none=>match o9 o S.env with
   |some y=>match BF f a y.1 y.2.1 y.2.2 S.heap with
    |some r=>(eO N S.env o.dst (.d (.bool r.1))).map fun env=>(⟨env,r.2.1⟩,⟨i,[],r.2.2.2.1,true⟩,r.2.2.1,r.2.2.2.1,r.2.2.2.2)
    |none=>none
   |none=>match FA P (e.at b (keyOf c i o) a) {obm:=fun _=>e.obm b (o.dst.getD 0),base:=fun _=>a} i o (opd S.env) S.heap with
   |some q=>match q.1.ob with
    |[]=>(eO N S.env o.dst q.1.val).map fun env=>(⟨env,ap S.heap q.1.wr⟩,⟨i,q.1.rd,q.1.wr.map (·.1),false⟩,a+N,q.1.wr.map (·.1),q.2)
    |_=>none
   |none=>none
 |some false=>(eO N S.env o.dst (.tup [])).map fun env=>(⟨env,S.heap⟩,⟨i,[],[],false⟩,a,[],[])
 |none=>none
def zf(P:Program)(g:Par P)(h:cI)(f d N:Nat)(e:Array Oper):List Oper→Nat→Nat→St→Option (St×List Foot×Nat×List Nat×aq)
 |[],_,c,S=>some (S,[],c,[],[])
 |o::r,i,c,S=>match CF P g h f d c N e i o S with
  |none=>none
  |some a=>match zf P g h f d N e r (i+1) a.2.2.1 a.1 with
   |none=>none
   |some b=>some (b.1,a.2.1::b.2.1,b.2.2.1,a.2.2.2.1 ++b.2.2.2.1,a.2.2.2.2 ++b.2.2.2.2)
def FH(P:Program)(C:Option (tI P))(a:Array Oper)(o:Oper)(S:St):Option (AV×aa×List Nat×aq):=
 match ea a o S.env with
 |some true=>match C with
  |some C=>match dL o S.env with
   |some (g,args)=>if g=C.g then (aX S.heap C.pre).map fun q=>(C.x,ae C.post S.heap,C.post.map (·.1),(.av (.tup args), .av (.tup C.args))::q)else none
   |none=>none
  |none=>match o.op with
   | .panic u=>match opd S.env u with
    | .iv t y=>some (.iv t y,S.heap,[],[])
    |_=>none
   |_=>none
 |_=>none
def FI(P:Program)(g:Par P)(h:cI)(f e N:Nat)(d:Array Oper)(op:Oper):List Nat→Nat→St→Option (St×List (Nat×Foot)×Nat×List Nat×aq)
 |[],c,S=>some (S,[],c,[],[])
 |i::r,c,S=>match d[i]? with
  |none=>none
  |some o=>match CF P g h f e c N d i o S with
   |none=>none
   |some a=>match (lL op i||a.2.1.wr.all fun k=>Nat.ble (S.heap k).ver (a.1.heap k).ver)&& !(r.any (Nat.beq i))with
    |false=>none
    |true=>match FI P g h f e N d op r a.2.2.1 a.1 with
     |none=>none
     |some b=>some (b.1,(i,a.2.1)::b.2.1,b.2.2.1,a.2.2.2.1 ++b.2.2.2.1,a.2.2.2.2 ++b.2.2.2.2)
def tJ:List (Nat×Foot)→Nat→Foot
 |[],_=>⟨0,[],[],false⟩
 |(j,f)::r,i=>bif Nat.beq i j then f else tJ r i
def Ji(W:List Nat)(h:aa):aa:=fun k=>bif W.any (Nat.beq k)then ⟨(h k).ver,none⟩else h k
def wQ(op:Oper)(fts:List (Nat×Foot)):List Nat:=(fts.filter fun e=> !lL op e.1).flatMap (·.2.wr)
def Qn{P:Program}(C:Option (tI P))(W:List Nat):Bool:=match C with
 |some C=>W.all fun k=> !(C.pre.map (·.1)).any (Nat.beq k)&& !(C.post.map (·.1)).any (Nat.beq k)
 |none=>true
def W8{P:Program}(a:Array Oper)(p:Nat)(op:Oper)(O:List Nat)(fts:List (Nat×Foot))(C:Option (tI P)):Bool:=
 tF a (tJ fts) p O (wQ op fts) O (Array.replicate a.size false)&&Nat.blt O.length a.size&&Qn C (wQ op fts)
def aZ(P:Program)(j:Par P):Nat→cI
 |0,_,_,_,_,_=>none
 |n+1,f,a,N,c,S=>
  match c with
  | .region id h k=>match uX (j.weaks f id) (j.nilsAt f id) (j.keeps f id) (j.frz f id) S with
   |some wk=>match j.pans f id a with
    |some H=>match H.ex with
     |[]=>match zf P j (aZ P j n) f id N h (h.toList.take H.p) 0 a wk.1 with
      |some r=>match h[H.p]? with
       |some o=>match FH P H.call h o r.1 with
        |some q=>if k=false∨Bj h r.2.1 H.p=true then some (.panic q.1,⟨oz h wk.1.env,q.2.1⟩,r.2.2.1,wk.2.1 ++(r.2.2.2.1 ++q.2.2.1),wk.2.2 ++(r.2.2.2.2 ++q.2.2.2))else none
        |none=>none
       |none=>none
      |none=>none
     |_::_=>match k with
      |false=>none
      |true=>match h[H.p]? with
       |none=>none
       |some o=>match FI P j (aZ P j n) f id N h o (List.range' 0 H.p ++H.exs) a wk.1 with
        |none=>none
        |some r=>match FH P H.call h o r.1 with
         |none=>none
         |some q=>match W8 h H.p o (List.range' 0 H.p ++H.exs) r.2.1 H.call with
          |true=>some (.panic q.1,⟨oz h wk.1.env,Ji (wQ o r.2.1) q.2.1⟩,r.2.2.1,wk.2.1 ++(r.2.2.2.1 ++(q.2.2.1 ++wQ o r.2.1)),wk.2.2 ++(r.2.2.2.2 ++q.2.2.2))
          |false=>none
    |none=>match zf P j (aZ P j n) f id N h h.toList 0 a wk.1 with
     |some r=>match k with
      |false=>some (.normal,r.1,r.2.2.1,wk.2.1 ++r.2.2.2.1,wk.2.2 ++r.2.2.2.2)
      |true=>match Cy h r.2.1 with
       |true=>some (.normal,r.1,r.2.2.1,wk.2.1 ++r.2.2.2.1,wk.2.2 ++r.2.2.2.2)
       |false=>none
     |none=>none
   |none=>none
  | .seq x y=>match j.seqs f (fQ x)with
   |some H=>if H.N=N then match aX S.heap (H.hp S.heap)with
       |some q=>some (H.e,⟨ah H.l',ae (H.hp' S.heap) S.heap⟩,a,(H.hp' S.heap).map (·.1),(.code (.seq x y), .code H.x)::(ir S.env H.l ++q))
       |none=>none
    else none
   |none=>match aZ P j n f a N x S with
    |some (.normal,S',u,t,ps)=>match aZ P j n f u N y S' with
     |some (e,z,w,s,m)=>some (e,z,w,t ++s,ps ++m)
     |none=>none
    |r=>r
  | .block id x=>match aZ P j n f a N x S with
   |some (.exit i,S',u,t,ps)=>if i=id then some (.normal,S',u,t,ps)else some (.exit i,S',u,t,ps)
   |r=>r
  | .loop x=>match j.loops f (fQ x)with
   |some H=>if H.N=N then match aX S.heap (H.hp S.heap)with
       |some q=>some (H.e,⟨ah H.l',ae (H.hp' S.heap) S.heap⟩,a,(H.hp' S.heap).map (·.1),(.code x, .code H.x)::(ir S.env H.l ++q))
       |none=>none
    else none
   |none=>match aZ P j n f a N x S with
    |some (.normal,S',u,t,ps)=>match aZ P j n f u N (.loop x) S' with
     |some (e,z,w,s,m)=>some (e,z,w,t ++s,ps ++m)
     |none=>none
    |r=>r
  | .skip=>some (.normal,S,a,[],[])
  | .exit i=>some (.exit i,S,a,[],[])
  | .ret=>some (.ret,S,a,[],[])
  | .cond c x y=>match opd S.env c with
   | .d (.bool b)=>match b with
    |true=>aZ P j n f a N x S
    |false=>aZ P j n f a N y S
   |_=>none
  | .rangeFunc g ps YU bd=>match opd S.env g with
   | .fn A v=>match ep P (aZ P j n) (a+N) A (.yld a ((S.heap a).ver+1)::v) (aG S.heap a ⟨(S.heap a).ver+1,some (.lp f N (Qi N S.env) ps YU bd .ready)⟩)with
    |some r=>match (r.2.1 a).ob with
     |some (.lp _ _ _ _ _ _ B)=>match Mt B with
      |some e=>some (e,⟨S.env,aG r.2.1 a ⟨(r.2.1 a).ver,none⟩⟩,r.2.2.1,a::r.2.2.2.1,(.nat (r.2.1 a).ver, .nat ((S.heap a).ver+1))::r.2.2.2.2)
      |none=>none
     |_=>none
    |none=>none
   |_=>none
  |_=>none
end Go.Avm
namespace Go.Avm
open Go.RowKit
variable[aH]
def gA(P:Program)(g:cI):Prop:=∀d a N c S e S' i f ps,g d a N c S=some (e,S',i,f,ps)→Alike ps→
 (∀X:b4,X.P=P→X.N=N→AW X c S fun h b=>h=e∧b=S')∧∀k,k∉f→S'.heap k=S.heap k
section
variable{P:Program}{w:Par P}
theorem nt(hm:jF P)(r:dX P){k:cI}(hex:gA P k){g:Nat}{ds l:List D}{ps:aq}(h:uY P k g ds=some (l,ps))(n:Alike ps):aF P g ds l:=by
 unfold uY at h;split at h
 ·cases h
 ·rename_i fn o
  split at h
  ·cases h
  ·rename_i b q
   split at h
   ·rename_i s
    refine Bo hm o q (r.1 g fn o) s (fun X j m=> ?_);split at h
    ·rename_i S' t p c a
     simp only[xB,xE]at h;obtain⟨i,f,rfl,rfl⟩:=h;refine((hex _ _ _ _ _ _ _ _ _ _ a n).1 X j m).mono ?_;rintro e d ⟨rfl,rfl⟩;exact⟨.inl rfl,f⟩
    ·rename_i S' t p c a
     simp only[xB,xE]at h;obtain⟨i,f,rfl,rfl⟩:=h;refine((hex _ _ _ _ _ _ _ _ _ _ a n).1 X j m).mono ?_;rintro e d ⟨rfl,rfl⟩;exact⟨.inr rfl,f⟩
    ·cases h
   ·cases h
theorem dQ(hm:jF P)(t:dX P){v:cI}(hex:gA P v){d g:Nat}{args y:List AV}{h h':aa}{z:Nat}{r:List Nat}{ps:aq}(a:ep P v d g args h=some (y,h',z,r,ps))(u:Alike ps):
    am P g args h y h'∧∀k,k∉r→h' k=h k:=by
 unfold ep at a;split at a
 ·cases a
 ·rename_i fn f
  split at a
  ·cases a
  ·rename_i b s
   split at a
   ·rename_i x
    split at a
    ·rename_i S' A n l o
     simp only[xB,xE]at a;obtain⟨j,q,rfl,rfl,rfl,rfl,rfl⟩:=a;have c:=hex _ _ _ _ _ _ _ _ _ _ o u;refine⟨k0 hm f s (t.1 g fn f) x (fun X m p=> ?_),c.2⟩;refine(c.1 X m p).mono ?_;rintro e i ⟨rfl,rfl⟩;exact⟨.inl rfl,q,rfl⟩
    ·rename_i S' A n l o
     simp only[xB,xE]at a;obtain⟨j,q,rfl,rfl,rfl,rfl,rfl⟩:=a;have c:=hex _ _ _ _ _ _ _ _ _ _ o u;refine⟨k0 hm f s (t.1 g fn f) x (fun X m p=> ?_),c.2⟩;refine(c.1 X m p).mono ?_;rintro e i ⟨rfl,rfl⟩;exact⟨.inr rfl,q,rfl⟩
    ·cases a
   ·cases a
theorem uZ(hm:jF P)(p:dX P){j:cI}(hex:gA P j){e d b g:Nat}{args l:List AV}{h h':aa}{n:Nat}{i:List Nat}{ps:aq}(a:BG P w j e d b g args h=some (l,h',n,i,ps))(f:Alike ps):
    am P g args h l h'∧∀k,k∉i→h' k=h k:=by
 unfold BG at a;split at a
 ·rename_i H _
  split at a;case isFalse=>cases a
  rename_i r;split at a;case h_2=>cases a
  rename_i q o;simp only[xA,xE]at a;obtain⟨rfl,rfl,_,rfl,rfl⟩:=a;have m:=f.head;simp only[aN.av.injEq,AV.tup.injEq]at m;subst m;subst r;refine⟨H.proof h (aR o f.tail),fun k c=> ?_⟩;simp only[xU,zG]at c;rw[b7 _ _ c.1,H.hrst h k c.2]
 ·exact dQ hm p hex a f
theorem pT(hm:jF P)(u:dX P){x:cI}(hex:gA P x){j g:Nat}{args:List AV}{h h':aa}{E:Nat}{t:List Nat}{ps:aq}(G:uS g=true)(b:oC P x j args h=some (h',E,t,ps))(z:Alike ps):
    am P g args h [] h'∧∀k,k∉t→h' k=h k:=by
 have q:=u.2 g (w8 G);unfold oC at b;split at b;case h_2=>cases b
 rename_i a f e;split at b;case h_2=>cases b
 rename_i k v i es n m y;obtain⟨C,H⟩:=q h a f e k v i es n m y;split at b
 ·rename_i d
  split at b
  ·rename_i l
   split at b
   ·rename_i r F
    split at b
    ·rename_i O R N p S M s
     split at b
     ·rename_i o
      obtain⟨rfl,rfl,rfl,rfl,rfl⟩:=o;simp only[xA,xE]at b;obtain⟨rfl,rfl,rfl,rfl⟩:=b;obtain⟨I,D,K,Q,L⟩:=r;obtain⟨B,A⟩:=dQ hm u hex F z;refine⟨H d l I D p B s,fun J c=> ?_⟩;simp only[x0,zG]at c;exact(ag _ _ c.1).trans ((A J c.2).trans (ag _ _ c.1))
     ·cases b
    ·cases b
   ·cases b
  ·cases b
 ·rename_i d
  simp only[xA,xE]at b;obtain⟨rfl,rfl,rfl,rfl⟩:=b;exact⟨C d,fun _ _=>rfl⟩
theorem u0(hm:jF P){y:cI}(hex:gA P y){j k v:Nat}{args:List AV}{h:aa}{r:Bool×aa×Nat×List Nat×aq}(a:BF y j k v args h=some r)(i:Alike r.2.2.2.2):
    Cv P k v args h [.d (.bool r.1)] r.2.1∧∀c,c∉r.2.2.2.1→r.2.1 c=h c:=by
 unfold BF at a;split at a;case h_2=>cases a
 rename_i B N env ps YU bd n;split at a;case h_2=>cases a
 rename_i p f;split at a;case h_2=>cases a
 rename_i S1 T E K O;split at a;case h_2=>cases a
 rename_i R Y e1 q1 G I l;split at a;case h_2=>cases a
 rename_i q H;obtain⟨e,U,S,J,D⟩:=q;split at a;case h_2=>cases a
 rename_i V Z Q W L F M z g C;simp only[xA]at a;subst a;have t:=i.head;have s:=i.tail.head;have A:=i.tail.tail.head;simp only[aN.nat.injEq]at t s A;have u:=hex _ _ _ _ _ _ _ _ _ _ O i.tail.tail.tail.left;have x:=hex _ _ _ _ _ _ _ _ _ _ H i.tail.tail.tail.right;refine⟨wW hm t n f (fun X m o=>u.1 X m o) s l (fun X m o=>x.1 X m o) A g C,fun c b=> ?_⟩;simp only[x0,xU,zG]at b;exact(ag _ _ b.1).trans ((x.2 c b.2.2).trans ((ag _ _ b.1).trans (u.2 c b.2.1)))
theorem mL{cfg:ic}{N i:Nat}{e:Array Oper}{o:Oper}{S:St}{env:Nat→AV}{g:Nat}{args:List AV}{out:Out}(hw:ea e o S.env=some true)(a:dL o S.env=some (g,args))(h:aH.ext g=none)(m:cfg.hc i=none)
    (p:gX cfg i g args S.heap=some out) (j:out.wr=[]) (k:eO N S.env o.dst out.val=some env):cf P cfg N e i o S=some (⟨env,S.heap⟩,out.ob.map .data,⟨i,out.rd,[],false⟩):=by
 unfold cf;rw[hw];simp only[m]
 have b:b6 P cfg i o (opd S.env) S.heap=some out:=by
  unfold dL at a;split at a
  ·rename_i c l
   split at a
   ·rename_i f d
    split at a
    ·rename_i r n q
     simp only[xA,xE]at a;obtain⟨rfl,rfl⟩:=a;simp only[b6,l,br,d,q,h,p]
    ·cases a
   ·cases a
  ·cases a
 simp only[b,k,x5,j,ap,xY]
theorem rB(hm:jF P)(L:dX P){ex:cI}(hex:gA P ex){x U a N i:Nat}{E:Array Oper}{o:Oper}{S S':St}{ft:Foot}{b2:Nat}{Z:List Nat}{ps:aq}
    (h:CF P w ex x U a N E i o S=some (S',ft,b2,Z,ps)) (s:Alike ps):
    (∃r:uT,∀cfg:ic,cfg.ret i=r.ret→cfg.hc i=r.hc→cfg.obm i=w.obm x (o.dst.getD 0)→cfg.base i=r.base→∃ob,cf P cfg N E i o S=some (S',ob,ft)∧gy P ob)∧∀k,k∉Z→S'.heap k=S.heap k:=by
 unfold CF at h;split at h
 ·rename_i hw
  split at h
  ·rename_i g args O
   obtain⟨m,n⟩:=w5 O;split at h
   ·rename_i H hH
    split at h;case isFalse=>cases h
    rename_i R;split at h;case h_2=>cases h
    rename_i q V;simp only[xB,xE]at h;obtain⟨env,b,rfl,rfl,rfl,rfl,rfl⟩:=h;have j:=s.head;simp only[aN.av.injEq,AV.tup.injEq]at j;subst j;have B:lT S.heap H.pre:=aR V s.tail;refine⟨⟨⟨[],some (.frame H.pre H.rs H.post),a⟩,fun cfg j h2 t p=>⟨[.frame g H.args H.pre H.rs H.post], ?_, ?_⟩⟩,fun k M=>cZ _ _ M⟩
    ·unfold cf
     rw[hw];simp only[h2,m,b,x5];rw[xf B]
    ·intro c e
     simp only[xM]at e;subst e;show ∀h,lT h H.pre→am P g H.args h H.rs (ae H.post h);rw[R];exact H.proof
   split at h
   ·rename_i C ds u hp X
    split at h
    ·rename_i R
     subst R;split at h
     ·rename_i F l
      simp only[xB,xE]at h;obtain⟨env,b,rfl,rfl,rfl,rfl,rfl⟩:=h;have j:=s.head;simp only[aN.ds.injEq]at j;subst j;refine⟨⟨⟨u,none,a⟩,fun cfg j h2 t p=>⟨[.data (C,F,u)], ?_, ?_⟩⟩,fun _ _=>rfl⟩
      ·have J:gX cfg i C args S.heap=some {val:=kA u,ob:=[(C,F,u)]}:=by simp only[gX,l,j]
       exact mL hw m n h2 J rfl b
      ·intro c e
       simp only[xM]at e;subst e;exact hp
     ·rename_i l
      split at h
      ·rename_i r hv
       split at h
       ·rename_i W
        simp only[xB,xE]at h;obtain⟨env,b,rfl,rfl,rfl,rfl,rfl⟩:=h;have j:=s.head;simp only[aN.ds.injEq]at j;subst j;refine⟨⟨⟨u,none,a⟩,fun cfg j h2 t p=>⟨[.data (C,r.1,u)], ?_, ?_⟩⟩,fun _ _=>rfl⟩
        ·have J:gX cfg i C args S.heap=some {val:=kA u,rd:=r.2,ob:=[(C,r.1,u)]}:=by
           simp only[gX,l,hv,j];rw[xf W]
         exact mL hw m n h2 J rfl b
        ·intro c e
         simp only[xM]at e;subst e;exact hp
       ·cases h
      ·cases h
    ·cases h
   ·split at h
    ·rename_i G
     split at h
     ·rename_i r z
      simp only[xB,xE]at h;obtain⟨env,b,rfl,rfl,rfl,rfl,rfl⟩:=h;obtain⟨I,Q,Y,r4⟩:=r;have f:=pT hm L hex G z s;refine⟨⟨⟨[],some (.heap [] I Y),a⟩,fun cfg j h2 t p=>⟨[.heap g args S.heap [] I], ?_, ?_⟩⟩,f.2⟩
      ·unfold cf
       rw[hw];simp only[h2,m,iG,b,x5];rw[xf f.2]
      ·intro c e
       simp only[xM]at e;subst e;exact f.1
     ·cases h
    split at h
    ·rename_i ds l
     split at h
     ·rename_i r z
      simp only[xB,xE]at h;obtain⟨env,b,rfl,rfl,rfl,rfl,rfl⟩:=h
      have T:sJ args=some ds:=by
       split at l
       ·cases l
       ·exact l
      refine⟨⟨⟨r.1,none,a⟩,fun cfg j h2 t p=>⟨[.data (g,ds,r.1)], ?_, ?_⟩⟩,fun _ _=>rfl⟩
      ·have J:gX cfg i g args S.heap=some {val:=kA r.1,ob:=[(g,ds,r.1)]}:=by simp only[gX,T,j]
       exact mL hw m n h2 J rfl b
      ·intro c e
       simp only[xM]at e;subst e;exact nt hm L hex z s
     ·cases h
    ·split at h
     ·rename_i r z
      simp only[xB,xE]at h;obtain⟨env,b,rfl,rfl,rfl,rfl,rfl⟩:=h;obtain⟨I,Q,Y,r4,r5⟩:=r;have f:=uZ hm L hex z s;refine⟨⟨⟨[],some (.heap I Q r4),a⟩,fun cfg j h2 t p=>⟨[.heap g args S.heap I Q], ?_, ?_⟩⟩,f.2⟩
      ·unfold cf
       rw[hw];simp only[h2,m,b,x5];rw[xf f.2]
      ·intro c e
       simp only[xM]at e;subst e;exact f.1
     ·cases h
  ·split at h
   ·rename_i y K
    split at h
    ·rename_i r z
     simp only[xB,xE]at h;obtain⟨env,b,rfl,rfl,rfl,rfl,rfl⟩:=h;obtain⟨k,v,args⟩:=y;have f:=u0 hm hex z s;refine⟨⟨⟨[],some (.heap [.d (.bool r.1)] r.2.1 r.2.2.2.1),a⟩,fun cfg j h2 t p=>⟨[.yield k v args S.heap [.d (.bool r.1)] r.2.1], ?_, ?_⟩⟩,f.2⟩
     ·unfold cf
      rw[hw];simp only[h2,uR K,K,iG,b,x5];rw[xf f.2]
     ·intro c e
      simp only[xM]at e;subst e;exact f.1
    ·cases h
   split at h
   ·rename_i q V
    split at h;case h_2=>cases h
    rename_i D;simp only[xB,xE]at h;obtain⟨env,b,rfl,rfl,rfl,rfl,rfl⟩:=h;have A:=Bz V s;refine⟨⟨⟨[],none,a⟩,fun cfg j h2 t p=>⟨q.1.ob.map .data, ?_, ?_⟩⟩,fun k M=>cZ _ _ M⟩
    ·unfold cf
     rw[hw];simp only[h2];rw[Fu (cfg':=cfg) (cfg:={obm:=fun _=>w.obm x (o.dst.getD 0),base:=fun _=>a}) j t p,A];simp only[b,x5]
    ·rw[D]
     intro c e;cases e
   ·cases h
 ·rename_i hw
  simp only[xB,xE]at h;obtain⟨env,b,rfl,rfl,rfl,rfl,rfl⟩:=h;refine⟨⟨⟨[],none,a⟩,fun cfg j h2 t p=>⟨[], ?_,fun c e=>by cases e⟩⟩,fun _ _=>rfl⟩;unfold cf;rw[hw];simp only[b,x5]
 ·cases h
theorem nu(hm:jF P)(y:dX P){B:cI}(hex:gA P B){i v N:Nat}{d:Array Oper}:∀(l:List Oper)(k e:Nat)(S S':St)(fts:List Foot)(u:Nat)(m:List Nat)(ps:aq),(∀j,j<l.length→l[j]? =d[k+j]?)→
    zf P w B i v N d l k e S=some (S',fts,u,m,ps)→Alike ps→
    (∃T:Nat→uT,∀cfg:ic,(∀j,k≤j→cfg.ret j=(T j).ret∧cfg.hc j=(T j).hc∧cfg.base j=(T j).base)→(∀j,cfg.obm j=w.obm i (((d[j]?).bind (·.dst)).getD 0))→
     ∃ob,d7 P cfg N d (List.range' k l.length) S=some (S',ob,fts)∧gy P ob)∧∀k,k∉m→S'.heap k=S.heap k
 |[],k,e,S,S',fts,u,m,ps,_,h,_=>by
  simp only[zf,xA,xE]at h;obtain⟨rfl,rfl,_⟩:=h;exact⟨⟨fun _=>⟨[],none,0⟩,fun cfg _ _=>⟨[],rfl,fun c n=>by cases n⟩⟩,fun _ _=>rfl⟩
 |o::r,k,e,S,S',fts,u,m,ps,C,h,z=>by
  have D:d[k]? =some o:=by simpa using (C 0 (by simp)).symm
  simp only[zf]at h;split at h
  ·cases h
  ·rename_i a H
   split at h
   ·cases h
   ·rename_i b I
    simp only[xA,xE]at h;obtain⟨rfl,rfl,rfl,rfl,rfl⟩:=h;obtain⟨K,a2,U,Z,a5⟩:=a;obtain⟨M,F,X,O,V⟩:=b;obtain⟨⟨W,J⟩,t⟩:=rB hm y hex H z.left;obtain⟨⟨T,Q⟩,p⟩:=nu hm y hex r (k+1) U K M F X O V (fun j A=>by have:=C (j+1) (by simpa using A);simpa [yk,Nat.add_comm 1 j]using this) I z.right;refine⟨⟨fun j=>if j=k then W else T j,fun cfg E h2=> ?_⟩,fun s g=> ?_⟩
    ·have f:=E k (xL k)
     simp only[yS]at f;obtain⟨q,Y,L⟩:=J cfg f.1 f.2.1 (by rw[h2 k,D];rfl) f.2.2;obtain⟨x,G,R⟩:=Q cfg (fun j A=>by have:=E j (by omega);simp only[xo (show ¬j=k by omega)]at this;exact this) h2;refine⟨q ++x, ?_,fun c n=>(xU.1 n).elim (L c) (R c)⟩;simp only[xG,zI,d7,D,Y,G]
    ·simp only[xU,zG]at g
     exact(p s g.2).trans (t s g.1)
theorem zg(W:List Nat)(h:aa):∀k∈W,(Ji W h k).ob=none:=fun k a=>by
 have:W.any (Nat.beq k)=true:=yP.2 ⟨k,a,Nat.beq_refl k⟩;simp[Ji,this]
theorem CG{W:List Nat}{h:aa}{k:Nat}(a:k∉W):Ji W h k=h k:=by
 have:W.any (Nat.beq k)=false:=by
  cases c:W.any (Nat.beq k)with
  |false=>rfl
  |true=>
   obtain⟨b,d,h2⟩:=yP.1 c;rw[yF h2]at a;exact absurd d a
 simp[Ji,this]
theorem FJ(W:List Nat)(h:aa):MC h (Ji W h):=fun k=>by
 by_cases a:k∈W
 ·refine .inr ⟨zg W h k a, ?_⟩
  have:W.any (Nat.beq k)=true:=yP.2 ⟨k,a,Nat.beq_refl k⟩;simp[Ji,this]
 ·exact .inl (CG a)
theorem rC:∀{l:List (Nat×Foot)},(l.map (·.1)).Nodup→∀e∈l,tJ l e.1=e.2
 |[],_,e,a=>by cases a
 |(j,f)::r,c,e,a=>by
  simp only[xH,yy]at c;rcases x0.1 a with rfl|a
  ·simp[tJ]
  ·have b:Nat.beq e.1 j=false:=by
     cases d:Nat.beq e.1 j with
     |false=>rfl
     |true=>
      have:=yF d;exact absurd (by rw[←this];exact yr a) c.1
   simp only[tJ,b,xP];exact rC c.2 e a
theorem tK{cfg:ic}{N:Nat}{a:Array Oper}{F:Nat→Foot}{op:Oper}:∀(l:List Nat)(S S':St),jS P cfg N a F op l S S'→∀t,(mH a).contains t=false→S'.env t=S.env t
 |[],S,S',h,t,_=>by
  simp only[jS]at h;rw[h]
 |k::r,S,S',h,t,d=>by
  obtain⟨o,S1,ob,f,c,_,_,g⟩:=h;obtain⟨v,e,b,_⟩:=em c;rw[tK r S1 S' g t d,iR b (no f d)]
theorem zh(hm:jF P)(C:dX P){J:cI}(hex:gA P J){p B N:Nat}{g:Array Oper}{op:Oper}:∀(l:List Nat)(c:Nat)(S S':St)(fts:List (Nat×Foot))(y:Nat)(t:List Nat)(ps:aq),
    FI P w J p B N g op l c S=some (S',fts,y,t,ps)→Alike ps→
    (∃T:Nat→uT,∀(cfg:ic)(F:Nat→Foot),(∀j∈l,cfg.ret j=(T j).ret∧cfg.hc j=(T j).hc∧cfg.base j=(T j).base)→(∀j,cfg.obm j=w.obm p (((g[j]?).bind (·.dst)).getD 0))→(∀e∈fts,F e.1=e.2)→jS P cfg N g F op l S S')∧
     (∀k,k∉t→S'.heap k=S.heap k)∧fts.map (·.1)=l∧l.Nodup
 |[],c,S,S',fts,y,t,ps,h,_=>by
  simp only[FI,xA,xE]at h;obtain⟨rfl,rfl,_⟩:=h;exact⟨⟨fun _=>⟨[],none,0⟩,fun cfg F _ _ _=>rfl⟩,fun _ _=>rfl,rfl,yV⟩
 |i::r,c,S,S',fts,y,t,ps,h,D=>by
  simp only[FI]at h;split at h
  ·cases h
  rename_i o K;split at h
  ·cases h
  rename_i a Q;split at h
  ·cases h
  rename_i f;split at h
  ·cases h
  rename_i b R;simp only[xA,xE]at h;obtain⟨rfl,rfl,rfl,rfl,rfl⟩:=h;obtain⟨G,H,a3,a4,a5⟩:=a;obtain⟨W,O,b3,Y,b5⟩:=b;obtain⟨⟨rk,U⟩,x⟩:=rB hm C hex Q D.left;obtain⟨⟨T,Z⟩,u,z,A⟩:=zh hm C hex r a3 G W O b3 Y b5 R D.right;simp only[xJ,yQ,yN]at f
  have n:i∉r:=fun X=>by
   have:r.any (Nat.beq i)=true:=yP.2 ⟨i,X,Nat.beq_refl i⟩;rw[this]at f;cases f.2
  refine⟨⟨fun j=>if j=i then rk else T j,fun cfg F M h2 E=> ?_⟩,fun s m=> ?_,by simp[z],yy.2 ⟨n,A⟩⟩
  ·have d:=M i (by simp)
   simp only[yS]at d;obtain⟨v,e1,V⟩:=U cfg d.1 d.2.1 (by rw[h2 i,K];rfl) d.2.2;have L:F i=H:=E (i,H) (by simp);refine⟨o,G,v,K,by rw[L];exact e1,V, ?_,Z cfg F (fun j I=> ?_) h2 (fun e he=>E e (by simp[he]))⟩
   ·rcases f.1 with f|f
    ·exact .inl f
    ·refine .inr fun k q=> ?_
     rw[L]at q;have:=xc.1 f k q;simpa using this
   ·have:=M j (by simp[I])
    simp only[xo (show ¬j=i from fun e=>n (e▸I))]at this;exact this
  ·simp only[xU,zG]at m
   exact(u s m.2).trans (x s m.1)
theorem MF{m:Option (tI P)}{b:Array Oper}{o:Oper}{S:St}{x:AV}{i:aa}{j:List Nat}{ps:aq}{W:List Nat}(a:FH P m b o S=some (x,i,j,ps))(n:Alike ps)
    (r:Qn m W=true):ea b o S.env=some true∧MD P o S x (Ji W i) W∧∀k,k∉j→i k=S.heap k:=by
 unfold FH at a;split at a;case h_2=>cases a
 rename_i hw;refine⟨hw, ?_⟩;split at a
 ·rename_i C
  split at a;case h_2=>cases a
  rename_i g args f;split at a;case isFalse=>cases a
  rename_i z;simp only[xB,xE]at a;obtain⟨q,a,rfl,rfl,rfl,rfl⟩:=a;have h2:=n.head;simp only[aN.av.injEq,AV.tup.injEq]at h2;subst h2
  have p:∀{l:List Nat}{k:Nat},l.any (Nat.beq k)=false→k∉l:=fun {l k} c v=>by
   have:l.any (Nat.beq k)=true:=yP.2 ⟨k,v,Nat.beq_refl k⟩;rw[this]at c;cases c
  refine⟨.inr ⟨g,C.args,C.pre,C.post,f,fun h c=>by rw[z];exact C.proof h c,aR a n.tail,fun k e=> ?_,FJ W _⟩,fun k e=>b7 _ _ e⟩;have:=xc.1 r k e;simp only[xJ,yN]at this;exact⟨p this.1,p this.2⟩
 ·split at a
  case h_2=>cases a
  rename_i u d;split at a;case h_2=>cases a
  rename_i t y s;simp only[xA,xE]at a;obtain⟨rfl,rfl,rfl,rfl⟩:=a;exact⟨.inl ⟨u,t,y,d,s,rfl,FJ W _⟩,fun _ _=>rfl⟩
def u1(P:Program)(w:Par P)(g:cI):Prop:=∀b a N c S e S' i f ps,w.loops b (fQ c)=none→g b a N (.loop c) S=some (e,S',i,f,ps)→Alike ps→
 (∀X:b4,X.P=P→X.N=N→LW X c S fun h d=>h=e∧d=S')∧∀k,k∉f→S'.heap k=S.heap k
theorem zi{n:Nat}(l:gA P (aZ P w n))(i:u1 P w (aZ P w n)):u1 P w (aZ P w (n+1)):=fun s p N x S e S' F A ps b h g=>by
 simp only[aZ]at h;split at h
 ·rename_i H q;rw[b]at q;cases q
 ·split at h
  ·rename_i S1 E u y z
   split at h
   ·rename_i B o D v t h2
    simp only[xA,xE]at h;obtain⟨rfl,rfl,rfl,rfl,rfl⟩:=h;have a:=l _ _ _ _ _ _ _ _ _ _ z g.left;have m:=i _ _ _ _ _ _ _ _ _ _ b h2 g.right;refine⟨fun X c d=>kY ((a.1 X c d).mono ?_),fun k f=> ?_⟩
    ·rintro r C ⟨rfl,rfl⟩
     exact m.1 X c d
    ·simp only[xU,zG]at f
     exact(m.2 k f.2).trans (a.2 k f.1)
   ·cases h
  ·rename_i j
   have a:=l _ _ _ _ _ _ _ _ _ _ h g;refine⟨fun X c d=>kY ((a.1 X c d).mono ?_),a.2⟩;rintro r o ⟨rfl,rfl⟩;cases r with
   |normal=>exact absurd h (j o _ _ _)
   |_=>exact⟨rfl,rfl⟩
theorem ny(hm:jF P)(hn:dX P):∀n,gA P (aZ P w n)∧u1 P w (aZ P w n)
 |0=>⟨fun I F N c S e S' b' tk ps h _=>by simp[aZ]at h,fun I F N c S e S' b' tk ps _ h _=>by simp[aZ]at h⟩
 |n+1=>by
  obtain⟨K,ihl⟩:=ny hm hn n;have hl:=zi K ihl;refine⟨fun I F N c S e S' b' tk ps h l=> ?_,hl⟩;cases c with
  |region id z W=>
   simp only[aZ]at h;split at h
   ·rename_i wk J
    obtain⟨W1,wtk,wps⟩:=wk;split at h
    ·rename_i H hH
     split at h
     ·rename_i hex0
      split at h;case h_2=>cases h
      rename_i r hr;obtain⟨S1,fts,b1,B,D⟩:=r;split at h;case h_2=>cases h
      rename_i o ho;split at h;case h_2=>cases h
      rename_i q s;obtain⟨x,G,tk2,Y⟩:=q;split at h;case isFalse=>cases h
      rename_i hd;simp only[xA,xE]at h;obtain⟨rfl,rfl,_,rfl,rfl⟩:=h;have E:=l.left;have O:=l.right.left;have R:=l.right.right
      have hpl:H.p<z.size:=by
       rcases yR H.p z.size with hh|hh
       ·exact hh
       ·rw[Array.getElem?_eq_none hh]at ho;cases ho
      have v:ea z o S1.env=some true∧Je P o S1 x G∧∀k,k∉tk2→G k=S1.heap k:=by
       unfold FH at s;split at s;case h_2=>cases s
       rename_i hw;refine⟨hw, ?_⟩;split at s
       ·rename_i C _
        split at s;case h_2=>cases s
        rename_i g args hco;split at s;case isFalse=>cases s
        rename_i hg;simp only[xB,xE]at s;obtain⟨q,s,rfl,rfl,rfl,rfl⟩:=s;have h2:=R.head;simp only[aN.av.injEq,AV.tup.injEq]at h2;subst h2;refine⟨.inr ⟨g,C.args,hco,by rw[hg];exact C.proof _ (aR s R.tail)⟩,fun k d=>b7 _ _ d⟩
       ·split at s
        case h_2=>cases s
        rename_i u hop;split at s;case h_2=>cases s
        rename_i t y hu;simp only[xA,xE]at s;obtain⟨rfl,rfl,rfl,rfl⟩:=s;exact⟨.inl ⟨u,t,y,hop,hu,rfl,rfl⟩,fun _ _=>rfl⟩
      obtain⟨⟨T,hT⟩,L⟩:=nu hm hn K (z.toList.take H.p) 0 F W1 S1 fts b1 B D (fun j hj=>by
       rw[yb]at hj;rw[yD,xf (by omega),x8,xi]) hr O
      refine⟨fun X f m=> ?_,fun k d=> ?_⟩
      ·obtain⟨ob,a,Q⟩:=hT {ret:=fun j=>(T j).ret,hc:=fun j=>(T j).hc,obm:=fun j=>w.obm I (((z[j]?).bind (·.dst)).getD 0),base:=fun j=>(T j).base} (fun j _=>⟨rfl,rfl,rfl⟩) (fun j=>rfl)
       rw[yb,xh,Nat.min_eq_left (by omega)]at a;subst f;subst m;refine AW.weak (eE J E).1 ?_;have hL:oA X.P z H.p W1.env x G S1:=⟨⟨o,ho,v.1,v.2.1⟩,fun t ht=>w9 _ _ _ _ _ a t ht⟩
       exact sW ho a Q hL hd ⟨rfl,rfl⟩
      ·simp only[xU,zG]at d
       exact(v.2.2 k d.2.2).trans ((L k d.2.1).trans ((eE (X:=⟨P,0,default,fun _ _=>False,0,hm,none,0,[]⟩) J E).2 k d.1))
     ·split at h
      ·cases h
      split at h
      ·cases h
      rename_i o ho;split at h
      ·cases h
      rename_i r hr;obtain⟨S1,fts,b1,B,D⟩:=r;split at h
      ·cases h
      rename_i q s;obtain⟨x,G,tk2,Y⟩:=q;split at h;case h_2=>cases h
      rename_i hok;simp only[xA,xE]at h;obtain⟨rfl,rfl,_,rfl,rfl⟩:=h;have E:=l.left;have O:=l.right.left;have R:=l.right.right;unfold W8 at hok;simp only[xJ]at hok;obtain⟨⟨M,hlen⟩,hdis⟩:=hok;have v:=MF s R hdis;obtain⟨⟨T,hT⟩,L,hT3,hT4⟩:=zh hm hn K (List.range' 0 H.p ++H.exs) F W1 S1 fts b1 B D hr O;refine⟨fun X f m=> ?_,fun k d=> ?_⟩
      ·have a:=hT {ret:=fun j=>(T j).ret,hc:=fun j=>(T j).hc,obm:=fun j=>w.obm I (((z[j]?).bind (·.dst)).getD 0),base:=fun j=>(T j).base} (tJ fts) (fun j _=>⟨rfl,rfl,rfl⟩) (fun j=>rfl) (rC (by rw[hT3];exact hT4))
       subst f;subst m;refine AW.weak (eE J E).1 ?_;exact ru ho (zg (wQ o fts) G) a M (by simpa using hlen) ⟨⟨o,ho,v.1,v.2.1⟩,fun t ht=>tK _ _ _ a t ht⟩ ⟨rfl,rfl⟩
      ·simp only[xU,zG]at d
       show Ji (wQ o fts) G k=S.heap k;rw[CG d.2.2.2];exact(v.2.2 k d.2.2.1).trans ((L k d.2.1).trans ((eE (X:=⟨P,0,default,fun _ _=>False,0,hm,none,0,[]⟩) J E).2 k d.1))
    ·split at h
     ·rename_i r hr
      obtain⟨S1,fts,b1,B,D⟩:=r
      have U:Alike wps∧Alike D∧S'=S1∧e= .normal∧tk=wtk ++B∧(W=false∨Cy z fts=true):=by
       split at h
       ·simp only[xA,xE]at h
        obtain⟨rfl,rfl,_,rfl,rfl⟩:=h;exact⟨l.left,l.right,rfl,rfl,rfl, .inl rfl⟩
       ·split at h
        ·rename_i M
         simp only[xA,xE]at h;obtain⟨rfl,rfl,_,rfl,rfl⟩:=h;exact⟨l.left,l.right,rfl,rfl,rfl, .inr M⟩
        ·cases h
      obtain⟨E,O,rfl,rfl,rfl,hd⟩:=U;obtain⟨⟨T,hT⟩,L⟩:=nu hm hn K z.toList 0 F W1 S' fts b1 B D (fun j _=>by simp) hr O;refine⟨fun X f m=> ?_,fun k d=> ?_⟩
      ·obtain⟨ob,a,Q⟩:=hT {ret:=fun j=>(T j).ret,hc:=fun j=>(T j).hc,obm:=fun j=>w.obm I (((z[j]?).bind (·.dst)).getD 0),base:=fun j=>(T j).base} (fun j _=>⟨rfl,rfl,rfl⟩) (fun j=>rfl)
       rw[xh,←List.range_eq_range']at a;subst f;subst m;refine AW.weak (eE J E).1 ?_;cases W with
       |false=>exact D2 a Q ⟨rfl,rfl⟩
       |true=>exact sV a (hd.resolve_left (by simp)) Q ⟨rfl,rfl⟩
      ·simp only[xU,zG]at d
       exact(L k d.2).trans ((eE (X:=⟨P,0,default,fun _ _=>False,0,hm,none,0,[]⟩) J E).2 k d.1)
     ·cases h
   ·cases h
  |seq x y=>
   simp only[aZ]at h;split at h
   ·rename_i H hH
    split at h
    ·rename_i Z
     split at h
     ·rename_i q s
      simp only[xA,xE]at h;obtain⟨rfl,rfl,_,rfl,rfl⟩:=h;have hc:=l.head;simp only[aN.code.injEq]at hc;have G:=l.tail.left;have h2:=l.tail.right;refine⟨fun X f m=> ?_,fun k d=>b7 _ _ d⟩;rw[hc];exact AW.weak (ns G s h2) (H.proof S.heap X f (by rw[m,Z]))
     ·cases h
    ·cases h
   split at h
   ·rename_i S1 b1 B D G
    split at h
    ·rename_i e2 S2 b2 tk2 Y h2
     simp only[xA,xE]at h;obtain⟨rfl,rfl,rfl,rfl,rfl⟩:=h;have A:=K _ _ _ _ _ _ _ _ _ _ G l.left;have a2:=K _ _ _ _ _ _ _ _ _ _ h2 l.right;refine⟨fun X f m=>en ((A.1 X f m).mono ?_),fun k d=> ?_⟩
     ·rintro e1 S3 ⟨rfl,rfl⟩
      exact a2.1 X f m
     ·simp only[xU,zG]at d
      exact(a2.2 k d.2).trans (A.2 k d.1)
    ·cases h
   ·rename_i hnn
    have A:=K _ _ _ _ _ _ _ _ _ _ h l;refine⟨fun X f m=>en ((A.1 X f m).mono ?_),A.2⟩;rintro e1 S2 ⟨rfl,rfl⟩;cases e1 with
    |normal=>exact absurd h (hnn S2 _ _ _)
    |_=>exact⟨rfl,rfl⟩
  |block id x=>
   simp only[aZ]at h;split at h
   ·rename_i i S1 b1 B D G
    have hh:S'=S1∧tk=B∧ps=D∧e=(if i=id then .normal else .exit i):=by
     split at h
     ·rename_i hi;rw[xf hi];simp only[xA,xE]at h;obtain⟨rfl,rfl,_,rfl,rfl⟩:=h;exact⟨rfl,rfl,rfl,rfl⟩
     ·rename_i hi;rw[xo hi];simp only[xA,xE]at h;obtain⟨rfl,rfl,_,rfl,rfl⟩:=h;exact⟨rfl,rfl,rfl,rfl⟩
    obtain⟨rfl,rfl,rfl,rfl⟩:=hh;have A:=K _ _ _ _ _ _ _ _ _ _ G l;refine⟨fun X f m=>kX ((A.1 X f m).mono ?_),A.2⟩;rintro e1 S2 ⟨rfl,rfl⟩;simp only[uM];by_cases hi:i=id<;>simp[hi]
   ·rename_i V
    have A:=K _ _ _ _ _ _ _ _ _ _ h l;refine⟨fun X f m=>kX ((A.1 X f m).mono ?_),A.2⟩;rintro e1 S2 ⟨rfl,rfl⟩;cases e1 with
    |exit i=>exact absurd h (V i S2 _ _ _)
    |_=>exact⟨rfl,rfl⟩
  |loop x=>
   by_cases V:w.loops I (fQ x)=none
   ·have A:=hl _ _ _ _ _ _ _ _ _ _ V h l
    exact⟨fun X f m=>(A.1 X f m).aw,A.2⟩
   ·simp only[aZ]at h
    split at h
    ·rename_i H hH
     split at h
     ·rename_i Z
      split at h
      ·rename_i q s
       simp only[xA,xE]at h;obtain⟨rfl,rfl,_,rfl,rfl⟩:=h;have hc:=l.head;simp only[aN.code.injEq]at hc;have G:=l.tail.left;have h2:=l.tail.right;refine⟨fun X f m=> ?_,fun k d=>b7 _ _ d⟩;rw[hc];exact AW.weak (ns G s h2) (H.proof S.heap X f (by rw[m,Z]))
      ·cases h
     ·cases h
    ·rename_i hH;exact absurd hH V
  |skip=>simp only[aZ,xA,xE]at h;obtain⟨rfl,rfl,_⟩:=h;exact⟨fun X _ _=>p4 ⟨rfl,rfl⟩,fun _ _=>rfl⟩
  |exit i=>simp only[aZ,xA,xE]at h;obtain⟨rfl,rfl,_⟩:=h;exact⟨fun X _ _=>uN ⟨rfl,rfl⟩,fun _ _=>rfl⟩
  |ret=>simp only[aZ,xA,xE]at h;obtain⟨rfl,rfl,_⟩:=h;exact⟨fun X _ _=>Ms ⟨rfl,rfl⟩,fun _ _=>rfl⟩
  |cond c x y=>
   simp only[aZ]at h;split at h
   ·rename_i b hb
    cases b with
    |true=>
     have A:=K _ _ _ _ _ _ _ _ _ _ h l;exact⟨fun X f m=>iS hb (fun _=>A.1 X f m) (fun hx=>by cases hx),A.2⟩
    |false=>
     have A:=K _ _ _ _ _ _ _ _ _ _ h l;exact⟨fun X f m=>iS hb (fun hx=>by cases hx) (fun _=>A.1 X f m),A.2⟩
   ·cases h
  |rangeFunc g qs YU bd=>
   simp only[aZ]at h;split at h;case h_2=>cases h
   rename_i gf caps hg;split at h;case h_2=>cases h
   rename_i r hr;split at h;case h_2=>cases h
   rename_i f2 N2 env2 Y as2 bd2 st hlp;split at h;case h_2=>cases h
   rename_i e' he';simp only[xA,xE]at h;obtain⟨rfl,rfl,_,rfl,rfl⟩:=h;have d:=l.head;simp only[aN.nat.injEq]at d;have hcs:=dQ hm hn K hr l.tail;refine⟨fun X f m=> ?_,fun k d=> ?_⟩
   ·subst f;subst m
    exact uO hg (D3 _ _) hcs.1 d hlp (D4 he')
   ·simp only[x0,zG]at d
    exact(ag _ _ d.1).trans ((hcs.2 k d.2).trans (ag _ _ d.1))
  |_=>simp[aZ]at h
theorem cJ(hm:jF P)(a:dX P)(n:Nat):gA P (aZ P w n):=(ny hm a n).1
end
def kn(r:Option (aB×aq)):aB×List aN:=match r with
 |some r=>(r.1,r.2.map (·.1))
 |none=>(.exit 1000001,[])
def ko(e:aB)(r:Option (aB×aq)):aB×List aN:=match r with
 |some r=>(e,r.2.map (·.2))
 |none=>(.exit 1000002,[])
theorem nz:∀{ps:aq},ps.map (·.1)=ps.map (·.2)→Alike ps
 |[],_=>fun p hp=>by cases hp
 |p::r,h=>fun q a=>by
  simp only[xH,List.cons.injEq]at h;rcases x0.1 a with rfl|a
  ·exact h.1
  ·exact nz h.2 q a
theorem e7{e:aB}{r:Option (aB×aq)}(h:kn r=ko e r):∃ps,r=some (e,ps)∧Alike ps:=by
 cases r with
 |none=>simp[kn,ko]at h
 |some r=>
  simp only[kn,ko,xE]at h;exact⟨r.2,by rw[←h.1],nz h.2⟩
def u2(P:Program)(b:cI)(g:Nat)(ds a:List D):Option (aB×aq):=match uY P b g ds with
 |some r=>some (.ret,(.ds r.1, .ds a)::r.2)
 |none=>none
theorem bp{P:Program}(hm:jF P)(d:dX P)(c:Par P)(n:Nat){g:Nat}{ds b:List D}(h:kn (u2 P (aZ P c n) g ds b)=ko .ret (u2 P (aZ P c n) g ds b)):aF P g ds b:=by
 obtain⟨ps,a,e⟩:=e7 h;unfold u2 at a;split at a
 ·rename_i r f
  simp only[xA,xE,zQ]at a;subst a;have:=e.head;simp only[aN.ds.injEq]at this;subst this;exact nt hm d (cJ hm d n) f e.tail
 ·cases a
def u3(r:Option (List AV×aa×Nat×List Nat×aq))(a:List Nat)(e:List AV)(b:List (Nat×aE)):Option (aB×aq):=
 match r with
 |some (c,h',_,d,ps)=>match aX h' b with
  |some q=>match (d ++a).all fun k=>(b.map (·.1)).any (Nat.beq k)with
   |true=>some (.ret,(.av (.tup c), .av (.tup e))::(ps ++q))
   |false=>none
  |none=>none
 |none=>none
theorem Eb{h' d:aa}{hp c:List (Nat×aE)}{h:List Nat}(m:((h ++hp.map (·.1)).all fun k=>(c.map (·.1)).any (Nat.beq k))=true)(h2:∀k,k∉h→h' k=ae hp d k):ae c h'=ae c d:=by
 funext k;by_cases b:k∈c.map (·.1)
 ·exact fP _ _ _ b
 ·rw[b7 _ _ b,b7 _ _ b]
  have e:∀f,f∈h ++hp.map (·.1)→f≠k:=by
   rintro f i rfl;have:=xc.1 m f i;obtain⟨a,j,l⟩:=yP.1 this;have:=yF l;subst this;exact b j
  rw[h2 k (fun g=>e k (by simp[g]) rfl)];exact b7 _ _ (fun g=>e k (by simp only[xU];exact .inr g) rfl)
theorem al{P:Program}(hm:jF P)(p:dX P)(o:Par P)(n d g:Nat){args m:List AV}{hp b:List (Nat×aE)}{a:aa}
    (h:kn (u3 (ep P (aZ P o n) d g args (ae hp a)) (hp.map (·.1)) m b)=ko .ret (u3 (ep P (aZ P o n) d g args (ae hp a)) (hp.map (·.1)) m b)):am P g args (ae hp a) m (ae b a):=by
 obtain⟨ps,c,j⟩:=e7 h;unfold u3 at c;split at c;case h_2=>cases c
 rename_i u h' H E x k;split at c;case h_2=>cases c
 rename_i q C;split at c;case h_2=>cases c
 rename_i t;simp only[xA,xE,zQ]at c;subst c;have r:=j.head;simp only[aN.av.injEq,AV.tup.injEq]at r;subst r;obtain⟨c1,A⟩:=dQ hm p (cJ hm p n) k j.tail.left;refine⟨c1.1,fun G B w0 I0 w i k l f=>(c1.2 G B w0 I0 w i k l f).mono ?_⟩;rintro e F ⟨v,z,rfl,D,s,y⟩;refine⟨v,z,rfl,D, ?_,y⟩;rw[←Eb t A];exact s.forget (hG h' b (aR C j.tail.right))
def oD(P:Program)(d:cI)(a:Nat)(g:Nat)(args:List AV)(h:aa):Option (AV×aa×Nat×List Nat×aq):=
 match P.funcs[g]? with
 |none=>none
 |some fn=>match fn.body with
  |none=>none
  |some b=>if args.length≤fn.ntmps then match d g a fn.ntmps b ⟨fO args,h⟩with
      |some (.panic x,S',c,e,ps)=>some (x,S'.heap,c,e,ps)
      |_=>none
   else none
theorem u4{P:Program}(hm:jF P)(n:dX P){i:cI}(hex:gA P i){c g:Nat}{args:List AV}{x:AV}{h h':aa}{r:Nat}{d:List Nat}{ps:aq}(a:oD P i c g args h=some (x,h',r,d,ps))(o:Alike ps):iH P g args h x h'∧∀k,k∉d→h' k=h k:=by
 unfold oD at a;split at a
 ·cases a
 rename_i fn j;split at a
 ·cases a
 rename_i b m;split at a;case isFalse=>cases a
 rename_i u;split at a;case h_2=>cases a
 rename_i y S' w s p t;simp only[xA,xE]at a;obtain⟨rfl,rfl,rfl,rfl,rfl⟩:=a;have f:=hex _ _ _ _ _ _ _ _ _ _ t o;refine⟨Bs hm j m (n.1 g fn j) u (fun X q v=>(f.1 X q v).mono ?_),f.2⟩;rintro e l ⟨rfl,rfl⟩;exact⟨rfl,rfl⟩
def Ec(r:Option (aB×St×Nat×List Nat×aq))(a:List Nat)(l':List (Nat×AV))(b:List (Nat×aE)):Option (aB×aq):=
 match r with
 |some (e,S,_,c,ps)=>match aX S.heap b with
  |some q=>match (c ++a).all fun k=>(b.map (·.1)).any (Nat.beq k)with
   |true=>some (e,ps ++(ir S.env l' ++q))
   |false=>none
  |none=>none
 |none=>none
theorem sG{P:Program}(hm:jF P)(y:dX P)(t:Par P)(n j i N:Nat){c:Code}{l l':List (Nat×AV)}{hp d:List (Nat×aE)}{b:aa}{e:aB}
    (h:kn (Ec (aZ P t n j i N c ⟨ah l,ae hp b⟩) (hp.map (·.1)) l' d)=ko e (Ec (aZ P t n j i N c ⟨ah l,ae hp b⟩) (hp.map (·.1)) l' d))
    (X:b4) (A:X.P=P) (F:X.N=N):AW X c ⟨ah l,ae hp b⟩ fun E S'=>E=e∧Weak X S' ⟨ah l',ae d b⟩:=by
 obtain⟨ps,g,r⟩:=e7 h;unfold Ec at g;split at g
 ·rename_i H S1 G v D B
  split at g
  ·rename_i q C
   split at g
   ·rename_i z
    simp only[xA,xE]at g;obtain⟨rfl,rfl⟩:=g;have u:=cJ hm y n _ _ _ _ _ _ _ _ _ _ B r.left;refine(u.1 X A F).mono ?_;rintro e S' ⟨rfl,rfl⟩;refine⟨rfl, ?_⟩;have hw:=ns (X:=X) r.right.left C r.right.right
    have:ae d S'.heap=ae d b:=by
     funext k;by_cases f:k∈d.map (·.1)
     ·exact fP _ _ _ f
     ·rw[b7 _ _ f,b7 _ _ f]
      have m:∀o,o∈v ++hp.map (·.1)→o≠k:=by
       rintro o p rfl;have:=xc.1 z o p;obtain⟨a,w,x⟩:=yP.1 this;have:=yF x;subst this;exact f w
      rw[u.2 k (fun s=>m k (by simp[s]) rfl)];exact b7 _ _ (fun s=>m k (by simp only[xU];exact .inr s) rfl)
    rw[this]at hw;exact hw
   ·cases g
  ·cases g
 ·cases g
theorem hJ{P:Program}{N:Nat}{c:Code}{i:Type}(L:i→List (Nat×AV))(h:i→aa→List (Nat×aE))(J:i→Prop)(k:i→Nat)(e:aB)(l':List (Nat×AV))(d:aa→List (Nat×aE))(j:i)(p:J j)(o:e≠ .normal)
    (r:∀a x,J x→(∃y,J y∧k y<k x∧∀X:b4,X.P=P→X.N=N→AW X c ⟨ah (L x),ae (h x a) a⟩ fun b S'=>b= .normal∧Weak X S' ⟨ah (L y),ae (h y a) a⟩)∨
     (∀X:b4,X.P=P→X.N=N→AW X c ⟨ah (L x),ae (h x a) a⟩ fun b S'=>b=e∧Weak X S' ⟨ah l',ae (d a) a⟩))
    (a:aa) (X:b4) (m:X.P=P) (n:X.N=N):AW X (.loop c) ⟨ah (L j),ae (h j a) a⟩ fun b S'=>b=e∧S'=⟨ah l',ae (d a) a⟩:=by
 refine jT ?_;refine Fp (fun x=>⟨ah (L x),ae (h x a) a⟩) J k j (Weak.refl _) p (fun x q=> ?_);rcases r a x q with ⟨y,s,l,f⟩|f
 ·refine(f X m n).mono ?_
  rintro b S' ⟨rfl,hw⟩;exact⟨y,hw,s,l⟩
 ·refine(f X m n).mono ?_
  rintro b S' ⟨rfl,hw⟩;have:∃g,Weak X S' g∧b=b∧g=⟨ah l',ae (d a) a⟩:=⟨_,hw,rfl,rfl⟩
  cases b with
  |normal=>exact absurd rfl o
  |_=>exact this
end Go.Avm
namespace Go.Avm
open Go.RowKit
variable[aH]
def I2:aa:=fun _=>⟨0,none⟩
def nA(h:aa):List AV→Option (List D)
 |[]=>some []
 |x::l=>match view 12 h x,nA h l with
  |some r,some a=>some (r.1::a)
  |_,_=>none
theorem tL{h:aa}:∀{l:List AV}{ds:List D},nA h l=some ds→l.length=ds.length
 |[],ds,e=>by simp[nA]at e;subst e;rfl
 |x::l,ds,e=>by
  simp only[nA]at e;split at e
  ·rename_i r b c a
   simp only[xA]at e;subst e;simp[tL a]
  ·cases e
theorem oE{h:aa}:∀{l:List AV}{ds:List D},nA h l=some ds→∀(i:Nat)(d:D),ds[i]? =some d→∃x ks,l[i]? =some x∧view 12 h x=some (d,ks)
 |[],ds,e,i,d,a=>by simp[nA]at e;subst e;simp at a
 |x::l,ds,e,i,d,a=>by
  simp only[nA]at e;split at e
  ·rename_i r f c b
   simp only[xA]at e;subst e;cases i with
   |zero=>simp at a;subst a;exact⟨x,r.2,rfl,c⟩
   |succ i=>exact oE b i d (by simpa using a)
  ·cases e
theorem tc{P:Program}{g:Nat}{ds t:List D}{q:List AV}{h':aa}(Q:am P g (ds.map .d) I2 q h')(J:nA h' q=some t):aF P g ds t:=by
 refine⟨Q.1,fun w I p X U m n=> ?_⟩
 have V:HR ⟨I,fun _ _=>none,fun _=>0,fun _ _=>none⟩ w.heap.size w I I2 w:=
  ⟨Below.refl _ _,xL _,X,fun _ _ x=>x,fun _ _ x _=>x,fun k v L x=>by simp at x,fun k L x=>by simp at x,fun k Z L L' x=>by simp at x,fun k ob x=>by simp[I2]at x,fun _=>rfl,⟨fun k v b x=>by simp at x,fun k Z b l l' x=>by simp at x,fun k es c x=>by simp[I2]at x,fun k T N env ps YU bd st x=>by simp[I2]at x,fun k km vm C seen x=>by simp[I2]at x,n⟩⟩
 refine(Q.2 _ w.heap.size w I w p V (by simpa using U) (fun i x u j A=> ?_)).mono ?_
 ·rw[xN]at j
  cases M:ds[i]? with
  |none=>rw[M]at j;simp at j
  |some d=>rw[M]at j;simp at j;subst j;exact .d (m i d u M A)
 rintro e R ⟨v,H,rfl,e1,f,G⟩
 have s:∀(x:AV)(y:D)(ks:List Nat)(u:Value),view 12 h' x=some (y,ks)→Rep H R x u→DRep (mJ H h') R y u:=fun x y ks u j A=>
  (dM f 12 _ _ _ _ j A).mono (by
   rintro b o (x|⟨k,_,L,B,F⟩)
   ·exact .inl x
   ·exact .inr ⟨k,L,B,F⟩) (fun _ _ _=>rfl)
 refine⟨v,mJ H h',rfl,f.below,fun b o x=> .inl (f.i0 b o x), ?_, ?_, ?_⟩
 ·rintro b o (x|⟨k,L,B,rfl⟩)
  ·rcases yR b w.heap.size with E|K
   ·exact .inl (f.immlow b o x E)
   ·exact .inr K
  ·exact .inr (f.own k L B).1
 ·rintro b o (x|⟨k,L,B,rfl⟩)
  ·exact f.immlt b o x
  ·exact f.blt B
 ·have Y:=tL J
  by_cases O:q.length=1
  ·obtain⟨x,rfl⟩:=yJ.1 O
   obtain⟨y,rfl⟩:=yJ.1 (Y▸O);obtain⟨x',ks,z,W⟩:=oE J 0 y rfl;simp at z;subst z;exact .inl ⟨y,rfl,s _ _ _ _ W G⟩
  ·have:iG q= .tup q:=by
     match q,O with
     |[],_=>rfl
     |[_],h=>simp at h
     |_::_::_,_=>rfl
   rw[this]at G;cases G with
   |tup _ vs hvl r=>
    refine .inr ⟨by omega,vs,rfl,by omega,fun i x u j A=> ?_⟩;obtain⟨a,ks,S,F⟩:=oE J i x j;exact s _ _ _ _ F (r i a u S A)
end Go.Avm
