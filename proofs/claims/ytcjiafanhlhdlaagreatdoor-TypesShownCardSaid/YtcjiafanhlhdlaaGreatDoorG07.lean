/-
  The abstract machine, part T: runs on open data are right.
-/
import Derived.Test.YtcjiafanhlhdlaaGreatDoorG06
import Derived.Test.YtcjiafanhlhdlaaGreatDoorG05
import Derived.Sort.Grow
set_option linter.unusedVariables false
set_option linter.unusedSimpArgs false
set_option linter.unusedSectionVars false
namespace Go.Avm
open Go.RowKit
variable[aG]
def gD(P:Program)(h:cZ):Prop:=∀d a N c S e S' g tk ps,h d a N c S=some (e,S',g,tk,ps)→Alike ps→
 (∀X:cA,X.P=P→X.N=N→AW X c S fun f b=>f=e∧b=S')∧∀k,k∉tk→S'.heap k=S.heap k
section
variable{P:Program}{w:Par P}
theorem nA(hm:jP P)(r:eu P){l:cZ}(hex:gD P l){g:Nat}{ds n:List D}{ps:aq}(h:u2 P l g ds=some (n,ps))(j:Alike ps):al P g ds n:=by
 unfold u2 at h;split at h
 ·cases h
 ·rename_i fn m
  split at h
  ·cases h
  ·rename_i b q
   split at h
   ·rename_i s
    refine BB hm m q (r.1 g fn m) s (fun X o k=> ?_);split at h
    ·rename_i S' p tk f d
     simp only[xB,xG]at h;obtain⟨i,c,rfl,rfl⟩:=h;refine((hex _ _ _ _ _ _ _ _ _ _ d j).1 X o k).mono ?_;rintro e a ⟨rfl,rfl⟩;exact⟨.inl rfl,c⟩
    ·rename_i S' p tk f d
     simp only[xB,xG]at h;obtain⟨i,c,rfl,rfl⟩:=h;refine((hex _ _ _ _ _ _ _ _ _ _ d j).1 X o k).mono ?_;rintro e a ⟨rfl,rfl⟩;exact⟨.inr rfl,c⟩
    ·cases h
   ·cases h
theorem eS(hm:jP P)(v:eu P){u:cZ}(hex:gD P u){c g:Nat}{args x:List AV}{h h':aa}{y:Nat}{tk:List Nat}{ps:aq}(a:gC P u c g args h=some (x,h',y,tk,ps))(t:Alike ps):
    ax P g args h x h'∧∀k,k∉tk→h' k=h k:=by
 unfold gC at a;split at a
 ·cases a
 ·rename_i fn f
  split at a
  ·cases a
  ·rename_i b r
   split at a
   ·rename_i s
    split at a
    ·rename_i S' z m q i
     simp only[xB,xG]at a;obtain⟨p,o,rfl,rfl,rfl,rfl,rfl⟩:=a;have d:=hex _ _ _ _ _ _ _ _ _ _ i t;refine⟨k0 hm f r (v.1 g fn f) s (fun X n l=> ?_),d.2⟩;refine(d.1 X n l).mono ?_;rintro e j ⟨rfl,rfl⟩;exact⟨.inl rfl,o,rfl⟩
    ·rename_i S' z m q i
     simp only[xB,xG]at a;obtain⟨p,o,rfl,rfl,rfl,rfl,rfl⟩:=a;have d:=hex _ _ _ _ _ _ _ _ _ _ i t;refine⟨k0 hm f r (v.1 g fn f) s (fun X n l=> ?_),d.2⟩;refine(d.1 X n l).mono ?_;rintro e j ⟨rfl,rfl⟩;exact⟨.inr rfl,o,rfl⟩
    ·cases a
   ·cases a
theorem u3(hm:jP P)(m:eu P){j:cZ}(hex:gD P j){f e b g:Nat}{args l:List AV}{h h':aa}{p:Nat}{tk:List Nat}{ps:aq}(a:BV P w j f e b g args h=some (l,h',p,tk,ps))(d:Alike ps):
    ax P g args h l h'∧∀k,k∉tk→h' k=h k:=by
 unfold BV at a;split at a
 ·rename_i H _
  split at a;case isFalse=>cases a
  rename_i n;split at a;case h_2=>cases a
  rename_i q o;simp only[xA,xG]at a;obtain⟨rfl,rfl,_,rfl,rfl⟩:=a;have i:=d.head;simp only[aL.av.injEq,AV.tup.injEq]at i;subst i;subst n;refine⟨H.proof h (aY o d.tail),fun k c=> ?_⟩;simp only[xZ,zM]at c;rw[cg _ _ c.1,H.hrst h k c.2]
 ·exact eS hm m hex a d
theorem pW(hm:jP P)(u:eu P){t:cZ}(hex:gD P t){j g:Nat}{args:List AV}{h h':aa}{z:Nat}{tk:List Nat}{ps:aq}(x:uX g=true)(b:oz P t j args h=some (h',z,tk,ps))(E:Alike ps):
    ax P g args h [] h'∧∀k,k∉tk→h' k=h k:=by
 have p:=u.2 g (ze x);unfold oz at b;split at b;case h_2=>cases b
 rename_i a f e;split at b;case h_2=>cases b
 rename_i k v i es n m A;obtain⟨y,F⟩:=p h a f e k v i es n m A;split at b
 ·rename_i d
  split at b
  ·rename_i q
   split at b
   ·rename_i r H
    split at b
    ·rename_i Q K M s R L o
     split at b
     ·rename_i l
      obtain⟨rfl,rfl,rfl,rfl,rfl⟩:=l;simp only[xA,xG]at b;obtain⟨rfl,rfl,rfl,rfl⟩:=b;obtain⟨D,G,O,J,N⟩:=r;obtain⟨B,C⟩:=eS hm u hex H E;refine⟨F d q D G s B o,fun I c=> ?_⟩;simp only[xX,zM]at c;exact(ae _ _ c.1).trans ((C I c.2).trans (ae _ _ c.1))
     ·cases b
    ·cases b
   ·cases b
  ·cases b
 ·rename_i d
  simp only[xA,xG]at b;obtain⟨rfl,rfl,rfl,rfl⟩:=b;exact⟨y d,fun _ _=>rfl⟩
theorem u4(hm:jP P){x:cZ}(hex:gD P x){g k v:Nat}{args:List AV}{h:aa}{r:Bool×aa×Nat×List Nat×aq}(a:BU x g k v args h=some r)(i:Alike r.2.2.2.2):
    CP P k v args h [.d (.bool r.1)] r.2.1∧∀c,c∉r.2.2.2.1→r.2.1 c=h c:=by
 unfold BU at a;split at a;case h_2=>cases a
 rename_i H N env ps Y0 U m;split at a;case h_2=>cases a
 rename_i A j;split at a;case h_2=>cases a
 rename_i S1 V B L J;split at a;case h_2=>cases a
 rename_i Q S Y T I C l;split at a;case h_2=>cases a
 rename_i q K;obtain⟨e,W,R,D,M⟩:=q;split at a;case h_2=>cases a
 rename_i Z N2 e2 q2 F G E z f O;simp only[xA]at a;subst a;have s:=i.head;have u:=i.tail.head;have p:=i.tail.tail.head;simp only[aL.nat.injEq]at s u p;have y:=hex _ _ _ _ _ _ _ _ _ _ J i.tail.tail.tail.left;have t:=hex _ _ _ _ _ _ _ _ _ _ K i.tail.tail.tail.right;refine⟨w7 hm s m j (fun X o n=>y.1 X o n) u l (fun X o n=>t.1 X o n) p f O,fun c b=> ?_⟩;simp only[xX,xZ,zM]at b;exact(ae _ _ b.1).trans ((t.2 c b.2.2).trans ((ae _ _ b.1).trans (y.2 c b.2.1)))
theorem mM{cfg:hQ}{N i:Nat}{d:Array Oper}{o:Oper}{S:St}{env:Nat→AV}{g:Nat}{args:List AV}{out:Out}(p:er d o S.env=some true)(a:dZ o S.env=some (g,args))(e:aG.ext g=none)(m:cfg.hc i=none)
    (r:hA cfg i g args S.heap=some out) (k:out.wr=[]) (l:eO N S.env o.dst out.val=some env):cd P cfg N d i o S=some (⟨env,S.heap⟩,out.ob.map .data,⟨i,out.rd,[],false⟩):=by
 unfold cd;rw[p];simp only[m]
 have b:bU P cfg i o (opd S.env) S.heap=some out:=by
  unfold dZ at a;split at a
  ·rename_i c j
   split at a
   ·rename_i f h
    split at a
    ·rename_i s n q
     simp only[xA,xG]at a;obtain⟨rfl,rfl⟩:=a;simp only[bU,j,a7,h,q,e,r]
    ·cases a
   ·cases a
  ·cases a
 simp only[b,l,xc,k,ap,xk]
theorem rv(hm:jP P)(R:eu P){ex:cZ}(hex:gD P ex){z Y a N i:Nat}{G:Array Oper}{o:Oper}{S S':St}{ft:Foot}{b2:Nat}{tk:List Nat}{ps:aq}
    (h:C2 P w ex z Y a N G i o S=some (S',ft,b2,tk,ps)) (t:Alike ps):
    (∃r:uY,∀cfg:hQ,cfg.ret i=r.ret→cfg.hc i=r.hc→cfg.obm i=w.obm z (o.dst.getD 0)→cfg.base i=r.base→∃ob,cd P cfg N G i o S=some (S',ob,ft)∧gz P ob)∧∀k,k∉tk→S'.heap k=S.heap k:=by
 unfold C2 at h;split at h
 ·rename_i p
  split at h
  ·rename_i g args V
   obtain⟨m,n⟩:=zb V;split at h
   ·rename_i H hH
    split at h;case isFalse=>cases h
    rename_i M;split at h;case h_2=>cases h
    rename_i q U;simp only[xB,xG]at h;obtain⟨env,b,rfl,rfl,rfl,rfl,rfl⟩:=h;have j:=t.head;simp only[aL.av.injEq,AV.tup.injEq]at j;subst j;have C:lV S.heap H.pre:=aY U t.tail;refine⟨⟨⟨[],some (.frame H.pre H.rs H.post),a⟩,fun cfg j h2 u s=>⟨[.frame g H.args H.pre H.rs H.post], ?_, ?_⟩⟩,fun k Q=>dk _ _ Q⟩
    ·unfold cd
     rw[p];simp only[h2,m,b,xc];rw[x9 C]
    ·intro c e
     simp only[xK]at e;subst e;show ∀h,lV h H.pre→ax P g H.args h H.rs (ag H.post h);rw[M];exact H.proof
   split at h
   ·rename_i D ds x hp W
    split at h
    ·rename_i M
     subst M;split at h
     ·rename_i L l
      simp only[xB,xG]at h;obtain⟨env,b,rfl,rfl,rfl,rfl,rfl⟩:=h;have j:=t.head;simp only[aL.ds.injEq]at j;subst j;refine⟨⟨⟨x,none,a⟩,fun cfg j h2 u s=>⟨[.data (D,L,x)], ?_, ?_⟩⟩,fun _ _=>rfl⟩
      ·have F:hA cfg i D args S.heap=some {val:=kB x,ob:=[(D,L,x)]}:=by simp only[hA,l,j]
       exact mM p m n h2 F rfl b
      ·intro c e
       simp only[xK]at e;subst e;exact hp
     ·rename_i l
      split at h
      ·rename_i r hv
       split at h
       ·rename_i O
        simp only[xB,xG]at h;obtain⟨env,b,rfl,rfl,rfl,rfl,rfl⟩:=h;have j:=t.head;simp only[aL.ds.injEq]at j;subst j;refine⟨⟨⟨x,none,a⟩,fun cfg j h2 u s=>⟨[.data (D,r.1,x)], ?_, ?_⟩⟩,fun _ _=>rfl⟩
        ·have F:hA cfg i D args S.heap=some {val:=kB x,rd:=r.2,ob:=[(D,r.1,x)]}:=by
           simp only[hA,l,hv,j];rw[x9 O]
         exact mM p m n h2 F rfl b
        ·intro c e
         simp only[xK]at e;subst e;exact hp
       ·cases h
      ·cases h
    ·cases h
   ·split at h
    ·rename_i E
     split at h
     ·rename_i r B
      simp only[xB,xG]at h;obtain⟨env,b,rfl,rfl,rfl,rfl,rfl⟩:=h;obtain⟨I,T,r3,Z⟩:=r;have f:=pW hm R hex E B t;refine⟨⟨⟨[],some (.heap [] I r3),a⟩,fun cfg j h2 u s=>⟨[.heap g args S.heap [] I], ?_, ?_⟩⟩,f.2⟩
      ·unfold cd
       rw[p];simp only[h2,m,iV,b,xc];rw[x9 f.2]
      ·intro c e
       simp only[xK]at e;subst e;exact f.1
     ·cases h
    split at h
    ·rename_i ds l
     split at h
     ·rename_i r B
      simp only[xB,xG]at h;obtain⟨env,b,rfl,rfl,rfl,rfl,rfl⟩:=h
      have X:sS args=some ds:=by
       split at l
       ·cases l
       ·exact l
      refine⟨⟨⟨r.1,none,a⟩,fun cfg j h2 u s=>⟨[.data (g,ds,r.1)], ?_, ?_⟩⟩,fun _ _=>rfl⟩
      ·have F:hA cfg i g args S.heap=some {val:=kB r.1,ob:=[(g,ds,r.1)]}:=by simp only[hA,X,j]
       exact mM p m n h2 F rfl b
      ·intro c e
       simp only[xK]at e;subst e;exact nA hm R hex B t
     ·cases h
    ·split at h
     ·rename_i r B
      simp only[xB,xG]at h;obtain⟨env,b,rfl,rfl,rfl,rfl,rfl⟩:=h;obtain⟨I,T,r3,Z,r5⟩:=r;have f:=u3 hm R hex B t;refine⟨⟨⟨[],some (.heap I T Z),a⟩,fun cfg j h2 u s=>⟨[.heap g args S.heap I T], ?_, ?_⟩⟩,f.2⟩
      ·unfold cd
       rw[p];simp only[h2,m,b,xc];rw[x9 f.2]
      ·intro c e
       simp only[xK]at e;subst e;exact f.1
     ·cases h
  ·split at h
   ·rename_i y K
    split at h
    ·rename_i r B
     simp only[xB,xG]at h;obtain⟨env,b,rfl,rfl,rfl,rfl,rfl⟩:=h;obtain⟨k,v,args⟩:=y;have f:=u4 hm hex B t;refine⟨⟨⟨[],some (.heap [.d (.bool r.1)] r.2.1 r.2.2.2.1),a⟩,fun cfg j h2 u s=>⟨[.yield k v args S.heap [.d (.bool r.1)] r.2.1], ?_, ?_⟩⟩,f.2⟩
     ·unfold cd
      rw[p];simp only[h2,uW K,K,iV,b,xc];rw[x9 f.2]
     ·intro c e
      simp only[xK]at e;subst e;exact f.1
    ·cases h
   split at h
   ·rename_i q U
    split at h;case h_2=>cases h
    rename_i J;simp only[xB,xG]at h;obtain⟨env,b,rfl,rfl,rfl,rfl,rfl⟩:=h;have A:=BN U t;refine⟨⟨⟨[],none,a⟩,fun cfg j h2 u s=>⟨q.1.ob.map .data, ?_, ?_⟩⟩,fun k Q=>dk _ _ Q⟩
    ·unfold cd
     rw[p];simp only[h2];rw[Gi (cfg':=cfg) (cfg:={obm:=fun _=>w.obm z (o.dst.getD 0),base:=fun _=>a}) j u s,A];simp only[b,xc]
    ·rw[J]
     intro c e;cases e
   ·cases h
 ·rename_i p
  simp only[xB,xG]at h;obtain⟨env,b,rfl,rfl,rfl,rfl,rfl⟩:=h;refine⟨⟨⟨[],none,a⟩,fun cfg j h2 u s=>⟨[], ?_,fun c e=>by cases e⟩⟩,fun _ _=>rfl⟩;unfold cd;rw[p];simp only[b,xc]
 ·cases h
theorem nB(hm:jP P)(D:eu P){C:cZ}(hex:gD P C){i v N:Nat}{e:Array Oper}:∀(l:List Oper)(k d:Nat)(S S':St)(fts:List Foot)(p:Nat)(tk:List Nat)(ps:aq),(∀j,j<l.length→l[j]? =e[k+j]?)→
    zl P w C i v N e l k d S=some (S',fts,p,tk,ps)→Alike ps→
    (∃T:Nat→uY,∀cfg:hQ,(∀j,k≤j→cfg.ret j=(T j).ret∧cfg.hc j=(T j).hc∧cfg.base j=(T j).base)→(∀j,cfg.obm j=w.obm i (((e[j]?).bind (·.dst)).getD 0))→
     ∃ob,em P cfg N e (List.range' k l.length) S=some (S',ob,fts)∧gz P ob)∧∀k,k∉tk→S'.heap k=S.heap k
 |[],k,d,S,S',fts,p,tk,ps,_,h,_=>by
  simp only[zl,xA,xG]at h;obtain⟨rfl,rfl,_⟩:=h;exact⟨⟨fun _=>⟨[],none,0⟩,fun cfg _ _=>⟨[],rfl,fun c u=>by cases u⟩⟩,fun _ _=>rfl⟩
 |o::r,k,d,S,S',fts,p,tk,ps,y,h,A=>by
  have z:e[k]? =some o:=by simpa using (y 0 (by simp)).symm
  simp only[zl]at h;split at h
  ·cases h
  ·rename_i a I
   split at h
   ·cases h
   ·rename_i b J
    simp only[xA,xG]at h;obtain⟨rfl,rfl,rfl,rfl,rfl⟩:=h;obtain⟨X,Y,E,a4,Z⟩:=a;obtain⟨K,U,H,W,L⟩:=b;obtain⟨⟨Q,O⟩,t⟩:=rv hm D hex I A.left;obtain⟨⟨T,F⟩,q⟩:=nB hm D hex r (k+1) E X K U H W L (fun j x=>by have:=y (j+1) (by simpa using x);simpa [ya,Nat.add_comm 1 j]using this) J A.right;refine⟨⟨fun j=>if j=k then Q else T j,fun cfg B h2=> ?_⟩,fun s g=> ?_⟩
    ·have f:=B k (xS k)
     simp only[yS]at f;obtain⟨n,M,G⟩:=O cfg f.1 f.2.1 (by rw[h2 k,z];rfl) f.2.2;obtain⟨m,V,R⟩:=F cfg (fun j x=>by have:=B j (by omega);simp only[xj (show ¬j=k by omega)]at this;exact this) h2;refine⟨n ++m, ?_,fun c u=>(xZ.1 u).elim (G c) (R c)⟩;simp only[xD,zP,em,z,M,V]
    ·simp only[xZ,zM]at g
     exact(q s g.2).trans (t s g.1)
theorem zm(W:List Nat)(h:aa):∀k∈W,(Kk W h k).ob=none:=fun k a=>by
 have:W.any (Nat.beq k)=true:=yd.2 ⟨k,a,Nat.beq_refl k⟩;simp[Kk,this]
theorem C3{W:List Nat}{h:aa}{k:Nat}(a:k∉W):Kk W h k=h k:=by
 have:W.any (Nat.beq k)=false:=by
  cases c:W.any (Nat.beq k)with
  |false=>rfl
  |true=>
   obtain⟨b,d,h2⟩:=yd.1 c;rw[yN h2]at a;exact absurd d a
 simp[Kk,this]
theorem GD(W:List Nat)(h:aa):N9 h (Kk W h):=fun k=>by
 by_cases a:k∈W
 ·refine .inr ⟨zm W h k a, ?_⟩
  have:W.any (Nat.beq k)=true:=yd.2 ⟨k,a,Nat.beq_refl k⟩;simp[Kk,this]
 ·exact .inl (C3 a)
theorem rx:∀{l:List (Nat×Foot)},(l.map (·.1)).Nodup→∀e∈l,tL l e.1=e.2
 |[],_,e,a=>by cases a
 |(j,f)::r,b,e,a=>by
  simp only[xN,zJ]at b;rcases xX.1 a with rfl|a
  ·simp[tL]
  ·have c:Nat.beq e.1 j=false:=by
     cases d:Nat.beq e.1 j with
     |false=>rfl
     |true=>
      have:=yN d;exact absurd (by rw[←this];exact zI a) b.1
   simp only[tL,c,xI];exact rx b.2 e a
theorem tM{cfg:hQ}{N:Nat}{a:Array Oper}{F:Nat→Foot}{op:Oper}:∀(l:List Nat)(S S':St),jU P cfg N a F op l S S'→∀t,(mI a).contains t=false→S'.env t=S.env t
 |[],S,S',h,t,_=>by
  simp only[jU]at h;rw[h]
 |k::r,S,S',h,t,d=>by
  obtain⟨o,S1,ob,g,c,_,_,e⟩:=h;obtain⟨v,f,b,_⟩:=eF c;rw[tM r S1 S' e t d,i7 b (nq g d)]
theorem zn(hm:jP P)(J:eu P){I:cZ}(hex:gD P I){n z N:Nat}{m:Array Oper}{op:Oper}:∀(l:List Nat)(c:Nat)(S S':St)(fts:List (Nat×Foot))(u:Nat)(tk:List Nat)(ps:aq),
    GC P w I n z N m op l c S=some (S',fts,u,tk,ps)→Alike ps→
    (∃T:Nat→uY,∀(cfg:hQ)(F:Nat→Foot),(∀j∈l,cfg.ret j=(T j).ret∧cfg.hc j=(T j).hc∧cfg.base j=(T j).base)→(∀j,cfg.obm j=w.obm n (((m[j]?).bind (·.dst)).getD 0))→(∀e∈fts,F e.1=e.2)→jU P cfg N m F op l S S')∧
     (∀k,k∉tk→S'.heap k=S.heap k)∧fts.map (·.1)=l∧l.Nodup
 |[],c,S,S',fts,u,tk,ps,h,_=>by
  simp only[GC,xA,xG]at h;obtain⟨rfl,rfl,_⟩:=h;exact⟨⟨fun _=>⟨[],none,0⟩,fun cfg F _ _ _=>rfl⟩,fun _ _=>rfl,rfl,y8⟩
 |i::r,c,S,S',fts,u,tk,ps,h,G=>by
  simp only[GC]at h;split at h
  ·cases h
  rename_i o E;split at h
  ·cases h
  rename_i a V;split at h
  ·cases h
  rename_i f;split at h
  ·cases h
  rename_i b W;simp only[xA,xG]at h;obtain⟨rfl,rfl,rfl,rfl,rfl⟩:=h;obtain⟨L,D,M,a4,a5⟩:=a;obtain⟨X,bf,U,b4,Y⟩:=b;obtain⟨⟨rk,hk⟩,y⟩:=rv hm J hex V G.left;obtain⟨⟨T,O⟩,x,v,A⟩:=zn hm J hex r M L X bf U b4 Y W G.right;simp only[xL,xy,yH]at f
  have p:i∉r:=fun hx=>by
   have:r.any (Nat.beq i)=true:=yd.2 ⟨i,hx,Nat.beq_refl i⟩;rw[this]at f;cases f.2
  refine⟨⟨fun j=>if j=i then rk else T j,fun cfg F H h2 K=> ?_⟩,fun s g=> ?_,by simp[v],zJ.2 ⟨p,A⟩⟩
  ·have d:=H i (by simp)
   simp only[yS]at d;obtain⟨t,Z,R⟩:=hk cfg d.1 d.2.1 (by rw[h2 i,E];rfl) d.2.2;have B:F i=D:=K (i,D) (by simp);refine⟨o,L,t,E,by rw[B];exact Z,R, ?_,O cfg F (fun j C=> ?_) h2 (fun e Q=>K e (by simp[Q]))⟩
   ·rcases f.1 with f|f
    ·exact .inl f
    ·refine .inr fun k q=> ?_
     rw[B]at q;have:=xa.1 f k q;simpa using this
   ·have:=H j (by simp[C])
    simp only[xj (show ¬j=i from fun e=>p (e▸C))]at this;exact this
  ·simp only[xZ,zM]at g
   exact(x s g.2).trans (y s g.1)
theorem Od{n:Option (tK P)}{b:Array Oper}{o:Oper}{S:St}{x:AV}{e:aa}{tk:List Nat}{ps:aq}{W:List Nat}(a:GB P n b o S=some (x,e,tk,ps))(j:Alike ps)
    (v:Rm n W=true):er b o S.env=some true∧Oa P o S x (Kk W e) W∧∀k,k∉tk→e k=S.heap k:=by
 unfold GB at a;split at a;case h_2=>cases a
 rename_i p;refine⟨p, ?_⟩;split at a
 ·rename_i C
  split at a;case h_2=>cases a
  rename_i g args f;split at a;case isFalse=>cases a
  rename_i r;simp only[xB,xG]at a;obtain⟨q,a,rfl,rfl,rfl,rfl⟩:=a;have h2:=j.head;simp only[aL.av.injEq,AV.tup.injEq]at h2;subst h2
  have m:∀{l:List Nat}{k:Nat},l.any (Nat.beq k)=false→k∉l:=fun {l k} c z=>by
   have:l.any (Nat.beq k)=true:=yd.2 ⟨k,z,Nat.beq_refl k⟩;rw[this]at c;cases c
  refine⟨.inr ⟨g,C.args,C.pre,C.post,f,fun h c=>by rw[r];exact C.proof h c,aY a j.tail,fun k d=> ?_,GD W _⟩,fun k d=>cg _ _ d⟩;have:=xa.1 v k d;simp only[xL,yH]at this;exact⟨m this.1,m this.2⟩
 ·split at a
  case h_2=>cases a
  rename_i u i;split at a;case h_2=>cases a
  rename_i t y s;simp only[xA,xG]at a;obtain⟨rfl,rfl,rfl,rfl⟩:=a;exact⟨.inl ⟨u,t,y,i,s,rfl,GD W _⟩,fun _ _=>rfl⟩
def u5(P:Program)(w:Par P)(h:cZ):Prop:=∀b a N c S e S' g tk ps,w.loops b (f0 c)=none→h b a N (.loop c) S=some (e,S',g,tk,ps)→Alike ps→
 (∀X:cA,X.P=P→X.N=N→LW X c S fun f d=>f=e∧d=S')∧∀k,k∉tk→S'.heap k=S.heap k
theorem zo{n:Nat}(r:gD P (bi P w n))(f:u5 P w (bi P w n)):u5 P w (bi P w (n+1)):=fun u m N x S e S' C tk ps a h i=>by
 simp only[bi]at h;split at h
 ·rename_i H l;rw[a]at l;cases l
 ·split at h
  ·rename_i S1 B s y v
   split at h
   ·rename_i E p A t z h2
    simp only[xA,xG]at h;obtain⟨rfl,rfl,rfl,rfl,rfl⟩:=h;have b:=r _ _ _ _ _ _ _ _ _ _ v i.left;have o:=f _ _ _ _ _ _ _ _ _ _ a h2 i.right;refine⟨fun X d c=>kY ((b.1 X d c).mono ?_),fun k g=> ?_⟩
    ·rintro q D ⟨rfl,rfl⟩
     exact o.1 X d c
    ·simp only[xZ,zM]at g
     exact(o.2 k g.2).trans (b.2 k g.1)
   ·cases h
  ·rename_i j
   have b:=r _ _ _ _ _ _ _ _ _ _ h i;refine⟨fun X d c=>kY ((b.1 X d c).mono ?_),b.2⟩;rintro q p ⟨rfl,rfl⟩;cases q with
   |normal=>exact absurd h (j p _ _ _)
   |_=>exact⟨rfl,rfl⟩
theorem nC(hm:jP P)(hn:eu P):∀n,gD P (bi P w n)∧u5 P w (bi P w n)
 |0=>⟨fun J F N c S e S' b' tk ps h _=>by simp[bi]at h,fun J F N c S e S' b' tk ps _ h _=>by simp[bi]at h⟩
 |n+1=>by
  obtain⟨K,ihl⟩:=nC hm hn n;have hl:=zo K ihl;refine⟨fun J F N c S e S' b' tk ps h l=> ?_,hl⟩;cases c with
  |region id z W=>
   simp only[bi]at h;split at h
   ·rename_i wk I
    obtain⟨W1,wtk,wps⟩:=wk;split at h
    ·rename_i H hH
     split at h
     ·rename_i hex0
      split at h;case h_2=>cases h
      rename_i r Z;obtain⟨S1,fts,b1,B,D⟩:=r;split at h;case h_2=>cases h
      rename_i o ho;split at h;case h_2=>cases h
      rename_i q s;obtain⟨x,G,Y,ps2⟩:=q;split at h;case isFalse=>cases h
      rename_i hd;simp only[xA,xG]at h;obtain⟨rfl,rfl,_,rfl,rfl⟩:=h;have E:=l.left;have L:=l.right.left;have Q:=l.right.right
      have hpl:H.p<z.size:=by
       rcases yJ H.p z.size with hh|hh
       ·exact hh
       ·rw[Array.getElem?_eq_none hh]at ho;cases ho
      have v:er z o S1.env=some true∧Ke P o S1 x G∧∀k,k∉Y→G k=S1.heap k:=by
       unfold GB at s;split at s;case h_2=>cases s
       rename_i hw;refine⟨hw, ?_⟩;split at s
       ·rename_i C _
        split at s;case h_2=>cases s
        rename_i g args hco;split at s;case isFalse=>cases s
        rename_i hg;simp only[xB,xG]at s;obtain⟨q,s,rfl,rfl,rfl,rfl⟩:=s;have h2:=Q.head;simp only[aL.av.injEq,AV.tup.injEq]at h2;subst h2;refine⟨.inr ⟨g,C.args,hco,by rw[hg];exact C.proof _ (aY s Q.tail)⟩,fun k a=>cg _ _ a⟩
       ·split at s
        case h_2=>cases s
        rename_i u hop;split at s;case h_2=>cases s
        rename_i t y hu;simp only[xA,xG]at s;obtain⟨rfl,rfl,rfl,rfl⟩:=s;exact⟨.inl ⟨u,t,y,hop,hu,rfl,rfl⟩,fun _ _=>rfl⟩
      obtain⟨⟨T,hT⟩,O⟩:=nB hm hn K (z.toList.take H.p) 0 F W1 S1 fts b1 B D (fun j hj=>by
       rw[zO]at hj;rw[yG,x9 (by omega),xb,xe]) Z L
      refine⟨fun X m f=> ?_,fun k a=> ?_⟩
      ·obtain⟨ob,d,V⟩:=hT {ret:=fun j=>(T j).ret,hc:=fun j=>(T j).hc,obm:=fun j=>w.obm J (((z[j]?).bind (·.dst)).getD 0),base:=fun j=>(T j).base} (fun j _=>⟨rfl,rfl,rfl⟩) (fun j=>rfl)
       rw[zO,xg,Nat.min_eq_left (by omega)]at d;subst m;subst f;refine AW.weak (eQ I E).1 ?_;have hL:ox X.P z H.p W1.env x G S1:=⟨⟨o,ho,v.1,v.2.1⟩,fun t ht=>zf _ _ _ _ _ d t ht⟩
       exact tf ho d V hL hd ⟨rfl,rfl⟩
      ·simp only[xZ,zM]at a
       exact(v.2.2 k a.2.2).trans ((O k a.2.1).trans ((eQ (X:=⟨P,0,default,fun _ _=>False,0,hm,none,0,[]⟩) I E).2 k a.1))
     ·split at h
      ·cases h
      split at h
      ·cases h
      rename_i o ho;split at h
      ·cases h
      rename_i r Z;obtain⟨S1,fts,b1,B,D⟩:=r;split at h
      ·cases h
      rename_i q s;obtain⟨x,G,Y,ps2⟩:=q;split at h;case h_2=>cases h
      rename_i hok;simp only[xA,xG]at h;obtain⟨rfl,rfl,_,rfl,rfl⟩:=h;have E:=l.left;have L:=l.right.left;have Q:=l.right.right;unfold XJ at hok;simp only[xL]at hok;obtain⟨⟨M,hlen⟩,hdis⟩:=hok;have v:=Od s Q hdis;obtain⟨⟨T,hT⟩,O,hT3,hT4⟩:=zn hm hn K (List.range' 0 H.p ++H.exs) F W1 S1 fts b1 B D Z L;refine⟨fun X m f=> ?_,fun k a=> ?_⟩
      ·have d:=hT {ret:=fun j=>(T j).ret,hc:=fun j=>(T j).hc,obm:=fun j=>w.obm J (((z[j]?).bind (·.dst)).getD 0),base:=fun j=>(T j).base} (tL fts) (fun j _=>⟨rfl,rfl,rfl⟩) (fun j=>rfl) (rx (by rw[hT3];exact hT4))
       subst m;subst f;refine AW.weak (eQ I E).1 ?_;exact rl ho (zm (wQ o fts) G) d M (by simpa using hlen) ⟨⟨o,ho,v.1,v.2.1⟩,fun t ht=>tM _ _ _ d t ht⟩ ⟨rfl,rfl⟩
      ·simp only[xZ,zM]at a
       show Kk (wQ o fts) G k=S.heap k;rw[C3 a.2.2.2];exact(v.2.2 k a.2.2.1).trans ((O k a.2.1).trans ((eQ (X:=⟨P,0,default,fun _ _=>False,0,hm,none,0,[]⟩) I E).2 k a.1))
    ·split at h
     ·rename_i r Z
      obtain⟨S1,fts,b1,B,D⟩:=r
      have U:Alike wps∧Alike D∧S'=S1∧e= .normal∧tk=wtk ++B∧(W=false∨CU z fts=true):=by
       split at h
       ·simp only[xA,xG]at h
        obtain⟨rfl,rfl,_,rfl,rfl⟩:=h;exact⟨l.left,l.right,rfl,rfl,rfl, .inl rfl⟩
       ·split at h
        ·rename_i M
         simp only[xA,xG]at h;obtain⟨rfl,rfl,_,rfl,rfl⟩:=h;exact⟨l.left,l.right,rfl,rfl,rfl, .inr M⟩
        ·cases h
      obtain⟨E,L,rfl,rfl,rfl,hd⟩:=U;obtain⟨⟨T,hT⟩,O⟩:=nB hm hn K z.toList 0 F W1 S' fts b1 B D (fun j _=>by simp) Z L;refine⟨fun X m f=> ?_,fun k a=> ?_⟩
      ·obtain⟨ob,d,V⟩:=hT {ret:=fun j=>(T j).ret,hc:=fun j=>(T j).hc,obm:=fun j=>w.obm J (((z[j]?).bind (·.dst)).getD 0),base:=fun j=>(T j).base} (fun j _=>⟨rfl,rfl,rfl⟩) (fun j=>rfl)
       rw[xg,←List.range_eq_range']at d;subst m;subst f;refine AW.weak (eQ I E).1 ?_;cases W with
       |false=>exact EH d V ⟨rfl,rfl⟩
       |true=>exact td d (hd.resolve_left (by simp)) V ⟨rfl,rfl⟩
      ·simp only[xZ,zM]at a
       exact(O k a.2).trans ((eQ (X:=⟨P,0,default,fun _ _=>False,0,hm,none,0,[]⟩) I E).2 k a.1)
     ·cases h
   ·cases h
  |seq x y=>
   simp only[bi]at h;split at h
   ·rename_i H hH
    split at h
    ·rename_i hN0
     split at h
     ·rename_i q s
      simp only[xA,xG]at h;obtain⟨rfl,rfl,_,rfl,rfl⟩:=h;have hc:=l.head;simp only[aL.code.injEq]at hc;have G:=l.tail.left;have h2:=l.tail.right;refine⟨fun X m f=> ?_,fun k a=>cg _ _ a⟩;rw[hc];exact AW.weak (ny G s h2) (H.proof S.heap X m (by rw[f,hN0]))
     ·cases h
    ·cases h
   split at h
   ·rename_i S1 b1 B D G
    split at h
    ·rename_i e2 S2 b2 Y ps2 h2
     simp only[xA,xG]at h;obtain⟨rfl,rfl,rfl,rfl,rfl⟩:=h;have A:=K _ _ _ _ _ _ _ _ _ _ G l.left;have a2:=K _ _ _ _ _ _ _ _ _ _ h2 l.right;refine⟨fun X m f=>eG ((A.1 X m f).mono ?_),fun k a=> ?_⟩
     ·rintro e1 S3 ⟨rfl,rfl⟩
      exact a2.1 X m f
     ·simp only[xZ,zM]at a
      exact(a2.2 k a.2).trans (A.2 k a.1)
    ·cases h
   ·rename_i hnn
    have A:=K _ _ _ _ _ _ _ _ _ _ h l;refine⟨fun X m f=>eG ((A.1 X m f).mono ?_),A.2⟩;rintro e1 S2 ⟨rfl,rfl⟩;cases e1 with
    |normal=>exact absurd h (hnn S2 _ _ _)
    |_=>exact⟨rfl,rfl⟩
  |block id x=>
   simp only[bi]at h;split at h
   ·rename_i i S1 b1 B D G
    have hh:S'=S1∧tk=B∧ps=D∧e=(if i=id then .normal else .exit i):=by
     split at h
     ·rename_i hi;rw[x9 hi];simp only[xA,xG]at h;obtain⟨rfl,rfl,_,rfl,rfl⟩:=h;exact⟨rfl,rfl,rfl,rfl⟩
     ·rename_i hi;rw[xj hi];simp only[xA,xG]at h;obtain⟨rfl,rfl,_,rfl,rfl⟩:=h;exact⟨rfl,rfl,rfl,rfl⟩
    obtain⟨rfl,rfl,rfl,rfl⟩:=hh;have A:=K _ _ _ _ _ _ _ _ _ _ G l;refine⟨fun X m f=>kX ((A.1 X m f).mono ?_),A.2⟩;rintro e1 S2 ⟨rfl,rfl⟩;simp only[uR];by_cases hi:i=id<;>simp[hi]
   ·rename_i R
    have A:=K _ _ _ _ _ _ _ _ _ _ h l;refine⟨fun X m f=>kX ((A.1 X m f).mono ?_),A.2⟩;rintro e1 S2 ⟨rfl,rfl⟩;cases e1 with
    |exit i=>exact absurd h (R i S2 _ _ _)
    |_=>exact⟨rfl,rfl⟩
  |loop x=>
   by_cases R:w.loops J (f0 x)=none
   ·have A:=hl _ _ _ _ _ _ _ _ _ _ R h l
    exact⟨fun X m f=>(A.1 X m f).aw,A.2⟩
   ·simp only[bi]at h
    split at h
    ·rename_i H hH
     split at h
     ·rename_i hN0
      split at h
      ·rename_i q s
       simp only[xA,xG]at h;obtain⟨rfl,rfl,_,rfl,rfl⟩:=h;have hc:=l.head;simp only[aL.code.injEq]at hc;have G:=l.tail.left;have h2:=l.tail.right;refine⟨fun X m f=> ?_,fun k a=>cg _ _ a⟩;rw[hc];exact AW.weak (ny G s h2) (H.proof S.heap X m (by rw[f,hN0]))
      ·cases h
     ·cases h
    ·rename_i hH;exact absurd hH R
  |skip=>simp only[bi,xA,xG]at h;obtain⟨rfl,rfl,_⟩:=h;exact⟨fun X _ _=>p7 ⟨rfl,rfl⟩,fun _ _=>rfl⟩
  |exit i=>simp only[bi,xA,xG]at h;obtain⟨rfl,rfl,_⟩:=h;exact⟨fun X _ _=>uS ⟨rfl,rfl⟩,fun _ _=>rfl⟩
  |ret=>simp only[bi,xA,xG]at h;obtain⟨rfl,rfl,_⟩:=h;exact⟨fun X _ _=>NV ⟨rfl,rfl⟩,fun _ _=>rfl⟩
  |cond c x y=>
   simp only[bi]at h;split at h
   ·rename_i b hb
    cases b with
    |true=>
     have A:=K _ _ _ _ _ _ _ _ _ _ h l;exact⟨fun X m f=>i8 hb (fun _=>A.1 X m f) (fun hx=>by cases hx),A.2⟩
    |false=>
     have A:=K _ _ _ _ _ _ _ _ _ _ h l;exact⟨fun X m f=>i8 hb (fun hx=>by cases hx) (fun _=>A.1 X m f),A.2⟩
   ·cases h
  |rangeFunc g qs Y0 bd=>
   simp only[bi]at h;split at h;case h_2=>cases h
   rename_i gf caps hg;split at h;case h_2=>cases h
   rename_i r Z;split at h;case h_2=>cases h
   rename_i f2 N2 env2 ps2 as2 bd2 st hlp;split at h;case h_2=>cases h
   rename_i e' he';simp only[xA,xG]at h;obtain⟨rfl,rfl,_,rfl,rfl⟩:=h;have a:=l.head;simp only[aL.nat.injEq]at a;have hcs:=eS hm hn K Z l.tail;refine⟨fun X m f=> ?_,fun k a=> ?_⟩
   ·subst m;subst f
    exact uT hg (EI _ _) hcs.1 a hlp (EJ he')
   ·simp only[xX,zM]at a
    exact(ae _ _ a.1).trans ((hcs.2 k a.2).trans (ae _ _ a.1))
  |_=>simp[bi]at h
theorem dt(hm:jP P)(a:eu P)(n:Nat):gD P (bi P w n):=(nC hm a n).1
end
def lX(r:Option (aA×aq)):aA×List aL:=match r with
 |some r=>(r.1,r.2.map (·.1))
 |none=>(.exit 1000001,[])
def outR(e:aA)(r:Option (aA×aq)):aA×List aL:=match r with
 |some r=>(e,r.2.map (·.2))
 |none=>(.exit 1000002,[])
theorem nD:∀{ps:aq},ps.map (·.1)=ps.map (·.2)→Alike ps
 |[],_=>fun p hp=>by cases hp
 |p::r,h=>fun q a=>by
  simp only[xN,List.cons.injEq]at h;rcases xX.1 a with rfl|a
  ·exact h.1
  ·exact nD h.2 q a
theorem f7{e:aA}{r:Option (aA×aq)}(h:lX r=outR e r):∃ps,r=some (e,ps)∧Alike ps:=by
 cases r with
 |none=>simp[lX,outR]at h
 |some r=>
  simp only[lX,outR,xG]at h;exact⟨r.2,by rw[←h.1],nD h.2⟩
def u6(P:Program)(a:cZ)(g:Nat)(ds b:List D):Option (aA×aq):=match u2 P a g ds with
 |some r=>some (.ret,(.ds r.1, .ds b)::r.2)
 |none=>none
theorem bq{P:Program}(hm:jP P)(d:eu P)(e:Par P)(n:Nat){g:Nat}{ds b:List D}(h:lX (u6 P (bi P e n) g ds b)=outR .ret (u6 P (bi P e n) g ds b)):al P g ds b:=by
 obtain⟨ps,a,c⟩:=f7 h;unfold u6 at a;split at a
 ·rename_i r f
  simp only[xA,xG,true_and]at a;subst a;have:=c.head;simp only[aL.ds.injEq]at this;subst this;exact nA hm d (dt hm d n) f c.tail
 ·cases a
def u7(r:Option (List AV×aa×Nat×List Nat×aq))(a:List Nat)(d:List AV)(b:List (Nat×aK)):Option (aA×aq):=
 match r with
 |some (c,h',_,tk,ps)=>match a6 h' b with
  |some q=>match (tk ++a).all fun k=>(b.map (·.1)).any (Nat.beq k)with
   |true=>some (.ret,(.av (.tup c), .av (.tup d))::(ps ++q))
   |false=>none
  |none=>none
 |none=>none
theorem ET{h' d:aa}{hp c:List (Nat×aK)}{tk:List Nat}(i:((tk ++hp.map (·.1)).all fun k=>(c.map (·.1)).any (Nat.beq k))=true)(h2:∀k,k∉tk→h' k=ag hp d k):ag c h'=ag c d:=by
 funext k;by_cases b:k∈c.map (·.1)
 ·exact gB _ _ _ b
 ·rw[cg _ _ b,cg _ _ b]
  have e:∀f,f∈tk ++hp.map (·.1)→f≠k:=by
   rintro f g rfl;have:=xa.1 i f g;obtain⟨a,j,l⟩:=yd.1 this;have:=yN l;subst this;exact b j
  rw[h2 k (fun h=>e k (by simp[h]) rfl)];exact cg _ _ (fun h=>e k (by simp only[xZ];exact .inr h) rfl)
theorem am{P:Program}(hm:jP P)(r:eu P)(o:Par P)(n d g:Nat){args m:List AV}{hp b:List (Nat×aK)}{a:aa}
    (h:lX (u7 (gC P (bi P o n) d g args (ag hp a)) (hp.map (·.1)) m b)=outR .ret (u7 (gC P (bi P o n) d g args (ag hp a)) (hp.map (·.1)) m b)):ax P g args (ag hp a) m (ag b a):=by
 obtain⟨ps,c,k⟩:=f7 h;unfold u7 at c;split at c;case h_2=>cases c
 rename_i C h' F tk D l;split at c;case h_2=>cases c
 rename_i q z;split at c;case h_2=>cases c
 rename_i x;simp only[xA,xG,true_and]at c;subst c;have p:=k.head;simp only[aL.av.injEq,AV.tup.injEq]at p;subst p;obtain⟨c1,s⟩:=eS hm r (dt hm r n) l k.tail.left;refine⟨c1.1,fun G B w0 I0 w f l j i=>(c1.2 G B w0 I0 w f l j i).mono ?_⟩;rintro e E ⟨v,A,rfl,t,y,u⟩;refine⟨v,A,rfl,t, ?_,u⟩;rw[←ET x s];exact y.forget (i6 h' b (aY z k.tail.right))
def oA(P:Program)(c:cZ)(a:Nat)(g:Nat)(args:List AV)(h:aa):Option (AV×aa×Nat×List Nat×aq):=
 match P.funcs[g]? with
 |none=>none
 |some fn=>match fn.body with
  |none=>none
  |some b=>if args.length≤fn.ntmps then match c g a fn.ntmps b ⟨hE args,h⟩with
      |some (.panic x,S',d,tk,ps)=>some (x,S'.heap,d,tk,ps)
      |_=>none
   else none
theorem u9{P:Program}(hm:jP P)(q:eu P){d:cZ}(hex:gD P d){c g:Nat}{args:List AV}{x:AV}{h h':aa}{t:Nat}{tk:List Nat}{ps:aq}(a:oA P d c g args h=some (x,h',t,tk,ps))(m:Alike ps):iW P g args h x h'∧∀k,k∉tk→h' k=h k:=by
 unfold oA at a;split at a
 ·cases a
 rename_i fn i;split at a
 ·cases a
 rename_i b p;split at a;case isFalse=>cases a
 rename_i u;split at a;case h_2=>cases a
 rename_i w S' v o s r;simp only[xA,xG]at a;obtain⟨rfl,rfl,rfl,rfl,rfl⟩:=a;have f:=hex _ _ _ _ _ _ _ _ _ _ r m;refine⟨BF hm i p (q.1 g fn i) u (fun X l n=>(f.1 X l n).mono ?_),f.2⟩;rintro e j ⟨rfl,rfl⟩;exact⟨rfl,rfl⟩
def EU(r:Option (aA×St×Nat×List Nat×aq))(a:List Nat)(l':List (Nat×AV))(b:List (Nat×aK)):Option (aA×aq):=
 match r with
 |some (e,S,_,tk,ps)=>match a6 S.heap b with
  |some q=>match (tk ++a).all fun k=>(b.map (·.1)).any (Nat.beq k)with
   |true=>some (e,ps ++(iE S.env l' ++q))
   |false=>none
  |none=>none
 |none=>none
theorem sO{P:Program}(hm:jP P)(C:eu P)(t:Par P)(n m i N:Nat){c:Code}{l l':List (Nat×AV)}{hp d:List (Nat×aK)}{b:aa}{e:aA}
    (h:lX (EU (bi P t n m i N c ⟨ak l,ag hp b⟩) (hp.map (·.1)) l' d)=outR e (EU (bi P t n m i N c ⟨ak l,ag hp b⟩) (hp.map (·.1)) l' d))
    (X:cA) (A:X.P=P) (y:X.N=N):AW X c ⟨ak l,ag hp b⟩ fun w S'=>w=e∧Weak X S' ⟨ak l',ag d b⟩:=by
 obtain⟨ps,g,s⟩:=f7 h;unfold EU at g;split at g
 ·rename_i H S1 G tk F D
  split at g
  ·rename_i q E
   split at g
   ·rename_i B
    simp only[xA,xG]at g;obtain⟨rfl,rfl⟩:=g;have v:=dt hm C n _ _ _ _ _ _ _ _ _ _ D s.left;refine(v.1 X A y).mono ?_;rintro e S' ⟨rfl,rfl⟩;refine⟨rfl, ?_⟩;have u:=ny (X:=X) s.right.left E s.right.right
    have:ag d S'.heap=ag d b:=by
     funext k;by_cases f:k∈d.map (·.1)
     ·exact gB _ _ _ f
     ·rw[cg _ _ f,cg _ _ f]
      have j:∀o,o∈tk ++hp.map (·.1)→o≠k:=by
       rintro o p rfl;have:=xa.1 B o p;obtain⟨a,x,z⟩:=yd.1 this;have:=yN z;subst this;exact f x
      rw[v.2 k (fun r=>j k (by simp[r]) rfl)];exact cg _ _ (fun r=>j k (by simp only[xZ];exact .inr r) rfl)
    rw[this]at u;exact u
   ·cases g
  ·cases g
 ·cases g
theorem hY{P:Program}{N:Nat}{c:Code}{i:Type}(L:i→List (Nat×AV))(h:i→aa→List (Nat×aK))(J:i→Prop)(k:i→Nat)(e:aA)(l':List (Nat×AV))(f:aa→List (Nat×aK))(j:i)(r:J j)(q:e≠ .normal)
    (p:∀a x,J x→(∃y,J y∧k y<k x∧∀X:cA,X.P=P→X.N=N→AW X c ⟨ak (L x),ag (h x a) a⟩ fun b S'=>b= .normal∧Weak X S' ⟨ak (L y),ag (h y a) a⟩)∨
     (∀X:cA,X.P=P→X.N=N→AW X c ⟨ak (L x),ag (h x a) a⟩ fun b S'=>b=e∧Weak X S' ⟨ak l',ag (f a) a⟩))
    (a:aa) (X:cA) (o:X.P=P) (n:X.N=N):AW X (.loop c) ⟨ak (L j),ag (h j a) a⟩ fun b S'=>b=e∧S'=⟨ak l',ag (f a) a⟩:=by
 refine lK ?_;refine Gb (fun x=>⟨ak (L x),ag (h x a) a⟩) J k j (Weak.refl _) r (fun x t=> ?_);rcases p a x t with ⟨y,s,m,d⟩|d
 ·refine(d X o n).mono ?_
  rintro b S' ⟨rfl,l⟩;exact⟨y,l,s,m⟩
 ·refine(d X o n).mono ?_
  rintro b S' ⟨rfl,l⟩;have:∃g,Weak X S' g∧b=b∧g=⟨ak l',ag (f a) a⟩:=⟨_,l,rfl,rfl⟩
  cases b with
  |normal=>exact absurd rfl q
  |_=>exact this
end Go.Avm
namespace Go.Avm
open Go.RowKit
variable[aG]
def J1:aa:=fun _=>⟨0,none⟩
def nE(h:aa):List AV→Option (List D)
 |[]=>some []
 |x::l=>match view 12 h x,nE h l with
  |some r,some a=>some (r.1::a)
  |_,_=>none
theorem tN{h:aa}:∀{l:List AV}{ds:List D},nE h l=some ds→l.length=ds.length
 |[],ds,e=>by simp[nE]at e;subst e;rfl
 |x::l,ds,e=>by
  simp only[nE]at e;split at e
  ·rename_i r b c a
   simp only[xA]at e;subst e;simp[tN a]
  ·cases e
theorem oB{h:aa}:∀{l:List AV}{ds:List D},nE h l=some ds→∀(i:Nat)(d:D),ds[i]? =some d→∃x ks,l[i]? =some x∧view 12 h x=some (d,ks)
 |[],ds,e,i,d,a=>by simp[nE]at e;subst e;simp at a
 |x::l,ds,e,i,d,a=>by
  simp only[nE]at e;split at e
  ·rename_i r f c b
   simp only[xA]at e;subst e;cases i with
   |zero=>simp at a;subst a;exact⟨x,r.2,rfl,c⟩
   |succ i=>exact oB b i d (by simpa using a)
  ·cases e
theorem tl{P:Program}{g:Nat}{ds B:List D}{q:List AV}{h':aa}(R:ax P g (ds.map .d) J1 q h')(M:nE h' q=some B):al P g ds B:=by
 refine⟨R.1,fun w I n U X p m=> ?_⟩
 have Y:HR ⟨I,fun _ _=>none,fun _=>0,fun _ _=>none⟩ w.heap.size w I J1 w:=
  ⟨Below.refl _ _,xS _,U,fun _ _ x=>x,fun _ _ x _=>x,fun k v L x=>by simp at x,fun k L x=>by simp at x,fun k k' L L' x=>by simp at x,fun k ob x=>by simp[J1]at x,fun _=>rfl,⟨fun k v b x=>by simp at x,fun k k' b l l' x=>by simp at x,fun k es c x=>by simp[J1]at x,fun k V N env ps Y0 bd st x=>by simp[J1]at x,fun k km vm G seen x=>by simp[J1]at x,m⟩⟩
 refine(R.2 _ w.heap.size w I w n Y (by simpa using X) (fun i x u j A=> ?_)).mono ?_
 ·rw[xP]at j
  cases F:ds[i]? with
  |none=>rw[F]at j;simp at j
  |some d=>rw[F]at j;simp at j;subst j;exact .d (p i d u F A)
 rintro e Q ⟨v,O,rfl,e1,f,H⟩
 have z:∀(x:AV)(y:D)(ks:List Nat)(u:Value),view 12 h' x=some (y,ks)→Rep O Q x u→DRep (mK O h') Q y u:=fun x y ks u j A=>
  (d5 f 12 _ _ _ _ j A).mono (by
   rintro b o (x|⟨k,_,L,s,E⟩)
   ·exact .inl x
   ·exact .inr ⟨k,L,s,E⟩) (fun _ _ _=>rfl)
 refine⟨v,mK O h',rfl,f.below,fun b o x=> .inl (f.i0 b o x), ?_, ?_, ?_⟩
 ·rintro b o (x|⟨k,L,s,rfl⟩)
  ·rcases yJ b w.heap.size with K|C
   ·exact .inl (f.immlow b o x K)
   ·exact .inr C
  ·exact .inr (f.own k L s).1
 ·rintro b o (x|⟨k,L,s,rfl⟩)
  ·exact f.immlt b o x
  ·exact f.blt s
 ·have W:=tN M
  by_cases J:q.length=1
  ·obtain⟨x,rfl⟩:=yE.1 J
   obtain⟨y,rfl⟩:=yE.1 (W▸J);obtain⟨x',ks,r,Z⟩:=oB M 0 y rfl;simp at r;subst r;exact .inl ⟨y,rfl,z _ _ _ _ Z H⟩
  ·have:iV q= .tup q:=by
     match q,J with
     |[],_=>rfl
     |[_],h=>simp at h
     |_::_::_,_=>rfl
   rw[this]at H;cases H with
   |tup _ vs S t=>
    refine .inr ⟨by omega,vs,rfl,by omega,fun i x u j A=> ?_⟩;obtain⟨a,ks,T,E⟩:=oB M i x j;exact z _ _ _ _ E (t i a u T A)
end Go.Avm
namespace Go.Avm
open Go.RowKit
variable[aG]
mutual
def aX(ρ:Nat→Nat):AV→AV
 | .junk=> .junk
 | .d x=> .d x
 | .nils=> .nils
 | .es=> .es
 | .vec k v sz l=> .vec (ρ k) v sz l
 | .sl k v o l sz=> .sl (ρ k) v o l sz
 | .ptr k v i o sz=> .ptr (ρ k) v i o sz
 | .agg cs=> .agg (bX ρ cs)
 | .tup cs=> .tup (bX ρ cs)
 | .fn f cs=> .fn f (bX ρ cs)
 | .mp k v=> .mp (ρ k) v
 | .yld k v=> .yld (ρ k) v
 | .itr k v=> .itr (ρ k) v
 | .iv t x=> .iv t (aX ρ x)
 | .vp k v l=> .vp (ρ k) v l
def bX(ρ:Nat→Nat):List AV→List AV
 |[]=>[]
 |x::l=>aX ρ x::bX ρ l
end
theorem bC(ρ:Nat→Nat):∀l,bX ρ l=l.map (aX ρ)
 |[]=>rfl
 |x::l=>by simp[bX,bC ρ l]
theorem mN(ρ:Nat→Nat)(x:AV):(aX ρ x).cells=x.cells.map (aX ρ):=by
 cases x with
 |d y=>cases y<;>simp[aX,AV.cells]
 |agg cs=>simp[aX,AV.cells,bC]
 |_=>simp[aX,AV.cells]
theorem tO(ρ:Nat→Nat)(x:AV):(aX ρ x).lone=x.lone:=by
 cases x with
 |d y=>cases y<;>simp[aX,AV.lone]
 |_=>simp[aX,AV.lone]
theorem tP(ρ:Nat→Nat)(l:List AV):AV.flat (bX ρ l)=(AV.flat l).map (aX ρ):=by
 induction l with
 |nil=>rfl
 |cons x l a=>
  simp only[AV.flat]at a;simp only[AV.flat,bX,yB,xY,mN,a]
def gh(ρ:Nat→Nat):Ob→Ob
 | .arr sz es=> .arr sz (bX ρ es)
 | .map es c=> .map es c
 | .lp f N env ps Y0 a e=> .lp f N (env.map fun p=>(p.1,aX ρ p.2)) ps Y0 a e
 | .itr d b s l=> .itr (ρ d) b s l
 | .typ k v T n=> .typ (ρ k) v T n
def cD(ρ:Nat→Nat)(e:aK):aK:=⟨e.ver,e.ob.map (gh ρ)⟩
theorem eU(ρ:Nat→Nat)(t:Nat):∀l:List (Nat×AV),ak (l.map fun p=>(p.1,aX ρ p.2)) t=aX ρ (ak l t)
 |[]=>rfl
 |(k,x)::r=>by
  simp only[xN,ak,aJ];split
  ·rfl
  ·exact eU ρ t r
structure Ren(ρ:Nat→Nat)(G G2:Gh):Prop where
 imm:G2.imm=G.imm
 loc:∀k v,G2.loc (ρ k) v=G.loc k v
 lim:∀k,G2.lim (ρ k)=G.lim k
 mloc:∀k v,G2.mloc (ρ k) v=G.mloc k v
section
variable{ρ:Nat→Nat}{G g:Gh}{w:World}(a:Ren ρ G g)
include a
theorem nF{x:AV}{v:Value}(h:Rep G w x v):Rep g w (aX ρ x) v:=by
 induction h with
 |junk v=>exact .junk v
 |d h=>exact .d (by rw[a.imm];exact h)
 |nils=>exact .nils
 |es C=>exact .es C
 |vecNil k e sz=>exact .vecNil _ e sz
 |vec k e l L o A n B h=>exact .vec _ e l L ((a.loc k e).trans o) A n B (by rw[a.imm];exact h)
 |slNil k e sz C=>exact .slNil _ e sz C
 |sl k e q D c L o m n=>exact .sl _ e q D c L ((a.loc k e).trans o) m n
 |ptr k e i q L o=>exact .ptr _ e i q L ((a.loc k e).trans o)
 |agg cs vs y z _ p=>
  simp only[aX,bC];refine .agg _ vs (by simpa using y) z fun i c u m r=> ?_
  rw[xP]at m;cases j:cs[i]? with
  |none=>rw[j]at m;cases m
  |some s=>rw[j]at m;cases m;exact p i s u j r
 |tup cs vs y _ p=>
  simp only[aX,bC];refine .tup _ vs (by simpa using y) fun i c u m r=> ?_
  rw[xP]at m;cases j:cs[i]? with
  |none=>rw[j]at m;cases m
  |some s=>rw[j]at m;cases m;exact p i s u j r
 |fn f cs vs y _ p=>
  simp only[aX,bC];refine .fn f _ vs (by simpa using y) fun i c u m r=> ?_
  rw[xP]at m;cases j:cs[i]? with
  |none=>rw[j]at m;cases m
  |some s=>rw[j]at m;cases m;exact p i s u j r
 |mp k e b o=>exact .mp _ e b ((a.mloc k e).trans o)
 |yld k e b o=>exact .yld _ e b ((a.mloc k e).trans o)
 |itr k e b o=>exact .itr _ e b ((a.mloc k e).trans o)
 |iv t v _ p=>exact .iv t v p
 |vp k e l L o z n h=>exact .vp _ e l L ((a.loc k e).trans o) z n (by rw[a.imm];exact h)
theorem iq{y:AV}{v:Value}(h:Rep g w y v):∀x,aX ρ x=y→Rep G w x v:=by
 induction h with
 |junk v=>intro x e;cases x<;>simp only[aX,reduceCtorEq]at e;exact .junk v
 |d h=>intro x e;cases x<;>simp only[aX,reduceCtorEq]at e;cases e;exact .d (by rw[←a.imm];exact h)
 |nils=>intro x e;cases x<;>simp only[aX,reduceCtorEq]at e;exact .nils
 |es E=>intro x e;cases x<;>simp only[aX,reduceCtorEq]at e;exact .es E
 |vecNil k j sz=>intro x e;cases x<;>simp only[aX,reduceCtorEq]at e;cases e;exact .vecNil _ j sz
 |vec k j l L n B m D h=>intro x e;cases x<;>simp only[aX,reduceCtorEq]at e;cases e;exact .vec _ j l L ((a.loc _ j).symm.trans n) B m D (by rw[←a.imm];exact h)
 |slNil k j sz E=>intro x e;cases x<;>simp only[aX,reduceCtorEq]at e;cases e;exact .slNil _ j sz E
 |sl k j q C c L n r m=>intro x e;cases x<;>simp only[aX,reduceCtorEq]at e;cases e;exact .sl _ j q C c L ((a.loc _ j).symm.trans n) r m
 |ptr k j i q L n=>intro x e;cases x<;>simp only[aX,reduceCtorEq]at e;cases e;exact .ptr _ j i q L ((a.loc _ j).symm.trans n)
 |agg cs vs o A _ p=>
  intro x e;cases x<;>simp only[aX,reduceCtorEq]at e
  rename_i z;simp only[AV.agg.injEq]at e;subst e;rw[bC]at o;refine .agg _ vs (by simpa using o) A fun i c u r s=> ?_
  exact p i (aX ρ c) u (by rw[bC,xP,r];rfl) s c rfl
 |tup cs vs o _ p=>
  intro x e;cases x<;>simp only[aX,reduceCtorEq]at e
  rename_i z;simp only[AV.tup.injEq]at e;subst e;rw[bC]at o;refine .tup _ vs (by simpa using o) fun i c u r s=> ?_
  exact p i (aX ρ c) u (by rw[bC,xP,r];rfl) s c rfl
 |fn f cs vs o _ p=>
  intro x e;cases x<;>simp only[aX,reduceCtorEq]at e
  rename_i F z;simp only[AV.fn.injEq]at e;obtain⟨rfl,rfl⟩:=e;rw[bC]at o;refine .fn _ _ vs (by simpa using o) fun i c u r s=> ?_
  exact p i (aX ρ c) u (by rw[bC,xP,r];rfl) s c rfl
 |mp k j b n=>intro x e;cases x<;>simp only[aX,reduceCtorEq]at e;cases e;exact .mp _ j b ((a.mloc _ j).symm.trans n)
 |yld k j b n=>intro x e;cases x<;>simp only[aX,reduceCtorEq]at e;cases e;exact .yld _ j b ((a.mloc _ j).symm.trans n)
 |itr k j b n=>intro x e;cases x<;>simp only[aX,reduceCtorEq]at e;cases e;exact .itr _ j b ((a.mloc _ j).symm.trans n)
 |iv t v _ p=>
  intro x e;cases x<;>simp only[aX,reduceCtorEq]at e
  simp only[AV.iv.injEq]at e;obtain⟨rfl,e⟩:=e;exact .iv _ v (p _ e)
 |vp k j l L n A m h=>intro x e;cases x<;>simp only[aX,reduceCtorEq]at e;cases e;exact .vp _ j l L ((a.loc _ j).symm.trans n) A m (by rw[←a.imm];exact h)
theorem Oe{k b:Nat}{ob:Ob}(h:ObRep G w k b ob):ObRep g w (ρ k) b (gh ρ ob):=by
 cases ob with
 |arr sz es=>
  rcases h with ⟨rfl,h⟩|⟨L,v,h2,z,m,D,p,y⟩
  ·exact .inl ⟨rfl,(a.loc k b).trans h⟩
  ·refine .inr ⟨L,(a.loc k b).trans v,h2,z,by simpa [bC]using m,fun e f=> ?_,fun B e f=> ?_,fun t c i=> ?_⟩
   ·rw[bC]at f
    obtain⟨x,j,rfl⟩:=xi.1 f;rw[mN,xO];exact D x j
   ·rw[bC]at f
    obtain⟨x,j,rfl⟩:=xi.1 f;rw[tO];exact p B x j
   ·rw[tP,xP]at i
    cases d:(AV.flat es)[t]? with
    |none=>rw[d]at i;cases i
    |some A=>
     rw[d]at i;cases i;obtain⟨u,r,s,o⟩:=y t A d;exact⟨u,r,s,nF a o⟩
 |typ C l T n=>exact⟨by rw[a.lim];exact h.1,fun L q=>h.2 L ((a.loc C l).symm.trans q)⟩
 |_=>exact trivial
theorem GE{k b:Nat}{ob:Ob}(h:ObRep g w (ρ k) b (gh ρ ob)):ObRep G w k b ob:=by
 cases ob with
 |arr sz es=>
  rcases h with ⟨f,h⟩|⟨L,m,h2,v,l,A,z,o⟩
  ·refine .inl ⟨?_,(a.loc k b).symm.trans h⟩
   rw[bC]at f;exact List.map_eq_nil_iff.1 f
  ·refine .inr ⟨L,(a.loc k b).symm.trans m,h2,v,by simpa [bC]using l,fun e d=> ?_,fun y e d=> ?_,fun t c x=> ?_⟩
   ·have:=A (aX ρ e) (by rw[bC];exact zI d)
    rwa [mN,xO]at this
   ·have:=z y (aX ρ e) (by rw[bC];exact zI d)
    rwa [tO]at this
   ·obtain⟨u,q,s,r⟩:=o t (aX ρ c) (by rw[tP,xP,x];rfl)
    exact⟨u,q,s,iq a r c rfl⟩
 |typ p j T n=>exact⟨by rw[←a.lim];exact h.1,fun L i=>h.2 L ((a.loc p j).trans i)⟩
 |_=>exact trivial
theorem GF{N:Nat}{env:List (Nat×AV)}{ps:Array Nat}{Y0 c:Code}{d:LSt}{r:Loop}(h:LRep G w N env ps Y0 c d r):LRep g w N (env.map fun p=>(p.1,aX ρ p.2)) ps Y0 c d r:=
 ⟨h.size,fun t b=>by rw[eU];exact nF a (h.rep t b),fun t b=>by rw[eU,h.out t b];rfl,h.ps,h.Y0,h.bd,h.state,h.pending⟩
theorem BW{N:Nat}{env:List (Nat×AV)}{ps:Array Nat}{Y0 c:Code}{d:LSt}{r:Loop}(h:LRep g w N (env.map fun p=>(p.1,aX ρ p.2)) ps Y0 c d r):LRep G w N env ps Y0 c d r:=
 ⟨h.size,fun t b=>iq a (h.rep t b) _ (eU ρ t env).symm,fun t b=>by
  have:=h.out t b;rw[eU]at this;cases e:ak env t<;>rw[e]at this<;>first|rfl|(simp only[aX,reduceCtorEq]at this),h.ps,h.Y0,h.bd,h.state,h.pending⟩
end
def nG(a:Nat→Option Nat)(G:Gh):Gh where
 imm:=G.imm
 loc:=fun j v=>match a j with|some k=>G.loc k v|none=>none
 lim:=fun j=>match a j with|some k=>G.lim k|none=>0
 mloc:=fun j v=>match a j with|some k=>G.mloc k v|none=>none
def gi(ρ:Nat→Nat)(a:Nat→Option Nat)(h:aa):aa:=fun j=>match a j with|some k=>cD ρ (h k)|none=>⟨0,none⟩
def Q7(ρ:Nat→Nat)(G:Gh):Gh where
 imm:=G.imm
 loc:=fun k v=>G.loc (ρ k) v
 lim:=fun k=>G.lim (ρ k)
 mloc:=fun k v=>G.mloc (ρ k) v
theorem qa(ρ:Nat→Nat)(G:Gh):Ren ρ (Q7 ρ G) G:=⟨rfl,fun _ _=>rfl,fun _=>rfl,fun _ _=>rfl⟩
structure Names(ρ:Nat→Nat)(σ:Nat→Option Nat):Prop where
 to:∀k,σ (ρ k)=some k
 fro:∀j k,σ j=some k→ρ k=j
theorem Names.inj{ρ:Nat→Nat}{e:Nat→Option Nat}(c:Names ρ e){a b:Nat}(h:ρ a=ρ b):a=b:=by
 have d:=c.to a;rw[h,c.to b]at d;exact(Option.some.inj d).symm
theorem k5{ρ:Nat→Nat}{b:Nat→Option Nat}(a:Names ρ b)(G:Gh):Ren ρ G (nG b G):=⟨rfl,fun k v=>by simp only[nG,a.to],fun k=>by simp only[nG,a.to],fun k v=>by simp only[nG,a.to]⟩
section
variable{ρ:Nat→Nat}{d:Nat→Option Nat}(a:Names ρ d){G:Gh}{B:Nat}{w0 w:World}{I0:Nat→Nat→Prop}{h:aa}
include a
theorem BX(m:HR G B w0 I0 h w):HR (nG d G) B w0 I0 (gi ρ d h) w:=by
 have E:=k5 a G
 have y:∀j v L,(nG d G).loc j v=some L→∃k,d j=some k∧G.loc k v=some L:=fun j v L g=>by
  simp only[nG]at g;split at g
  ·rename_i k e;exact⟨k,e,g⟩
  ·cases g
 have t:∀j v L,(nG d G).mloc j v=some L→∃k,d j=some k∧G.mloc k v=some L:=fun j v L g=>by
  simp only[nG]at g;split at g
  ·rename_i k e;exact⟨k,e,g⟩
  ·cases g
 have i:∀j k,d j=some k→(gi ρ d h j).ver=(h k).ver:=fun j k S=>by simp only[gi,S,cD]
 have s:∀j ob,(gi ρ d h j).ob=some ob→∃k o,d j=some k∧(h k).ob=some o∧ob=gh ρ o:=fun j ob p=>by
  simp only[gi]at p;split at p
  ·rename_i k e
   simp only[cD,xB]at p;obtain⟨o,q,h2⟩:=p;exact⟨k,o,e,q,h2.symm⟩
  ·cases p
 refine⟨m.below,m.bsz,m.immlt,m.i0,m.immlow, ?_, ?_, ?_, ?_, ?_,⟨?_, ?_, ?_, ?_, ?_,m.maps.glob⟩⟩
 ·intro j v L g
  obtain⟨k,e,g⟩:=y j v L g;rw[i j k e];exact m.fresh k v L g
 ·intro j L g
  obtain⟨k,e,g⟩:=y j _ L g;rw[i j k e]at g;exact m.own k L g
 ·intro j C L R g A u
  obtain⟨k,e,g⟩:=y j _ L g;obtain⟨I,n,A⟩:=y C _ R A;rw[i j k e]at g;rw[i C I n]at A;have:=m.dis k I L R g A u;subst this;exact(a.fro j k e).symm.trans (a.fro C k n)
 ·intro j ob p
  obtain⟨k,o,e,q,rfl⟩:=s j ob p;rw[i j k e,←a.fro j k e];exact Oe E (m.objs k o q)
 ·intro j
  simp only[nG,gi];split
  ·rename_i k e;exact m.lim k
  ·rfl
 ·intro j v b u
  obtain⟨k,e,u⟩:=t j v b u;obtain⟨q,h2,h3⟩:=m.maps.low k v b u;exact⟨q,h2,by rw[i j k e];exact h3⟩
 ·intro j C b l l' u z
  obtain⟨x,l,f⟩:=ip l;obtain⟨x',l',f'⟩:=ip l';obtain⟨H,o,O,q,V⟩:=s j _ l;obtain⟨P,o',K,h2,Z⟩:=s C _ l';obtain⟨k,e,u⟩:=t j _ b u;obtain⟨I,n,z⟩:=t C _ b z;have i1:H=k:=Option.some.inj (O.symm.trans e);have T:P=I:=Option.some.inj (K.symm.trans n);subst i1;subst T;rw[i j H e]at u;rw[i C P n]at z;have Q:∀o:Ob,(gh ρ o).flex=o.flex:=fun o=>by cases o<;>rfl
  have D:=m.maps.inj H P b (by rw[q];subst V;rw[Q]at f;simp[jm,f]) (by rw[h2];subst Z;rw[Q]at f';simp[jm,f']) u z;subst D;exact(a.fro j H e).symm.trans (a.fro C H n)
 ·intro j es c p
  obtain⟨k,o,e,q,h2⟩:=s j _ p;cases o<;>simp only[gh,reduceCtorEq]at h2
  cases h2;obtain⟨b,D,F⟩:=m.maps.obj k _ _ q;rw[i j k e,←a.fro j k e];exact⟨b,(E.mloc k _).trans D,F⟩
 ·intro j W N env ps Y0 bd st p
  obtain⟨k,o,e,q,h2⟩:=s j _ p;cases o<;>simp only[gh,reduceCtorEq]at h2
  cases h2;obtain⟨b,r,D,F,J⟩:=m.maps.loops k _ _ _ _ _ _ _ q;rw[i j k e,←a.fro j k e];exact⟨b,r,(E.mloc k _).trans D,F,GF E J⟩
 ·intro j km vm M seen p
  obtain⟨k,o,e,q,h2⟩:=s j _ p;cases o<;>simp only[gh,reduceCtorEq]at h2
  cases h2;obtain⟨b,Y,sa,c0,D,F,J,X,U⟩:=m.maps.iters k _ _ _ _ q;rw[i j k e,←a.fro j k e];exact⟨b,Y,sa,c0,(E.mloc k _).trans D,(E.mloc _ _).trans F,J,X,U⟩
theorem ry{h2:aa}(g:HR G B w0 I0 h2 w)(C:∀k,h2 (ρ k)=cD ρ (h k)):HR (Q7 ρ G) B w0 I0 h w:=by
 have E:=qa ρ G;have e:∀k,(h2 (ρ k)).ver=(h k).ver:=fun k=>by rw[C];rfl
 have i:∀k o,(h k).ob=some o→(h2 (ρ k)).ob=some (gh ρ o):=fun k o j=>by rw[C];simp[cD,j]
 refine⟨g.below,g.bsz,g.immlt,g.i0,g.immlow, ?_, ?_, ?_, ?_, ?_,⟨?_, ?_, ?_, ?_, ?_,g.maps.glob⟩⟩
 ·intro k v L p
  have:=g.fresh (ρ k) v L p;rwa [e]at this
 ·intro k L p
  exact g.own (ρ k) L (by rw[e];exact p)
 ·intro k t L I p A n
  exact a.inj (g.dis (ρ k) (ρ t) L I (by rw[e];exact p) (by rw[e];exact A) n)
 ·intro k ob j
  have:=g.objs (ρ k) _ (i k ob j);rw[e]at this;exact GE E this
 ·intro k
  have:=g.lim (ρ k);rw[e]at this;exact this
 ·intro k v b n
  obtain⟨z,O,F⟩:=g.maps.low (ρ k) v b n;exact⟨z,O,by rw[←e];exact F⟩
 ·intro k t b l l' n q
  obtain⟨x,l,f⟩:=ip l;obtain⟨H,l',f'⟩:=ip l';have D:∀o:Ob,(gh ρ o).flex=o.flex:=fun o=>by cases o<;>rfl
  have z:=i k x l;have h2:=i t H l';rw[←e]at n q;exact a.inj (g.maps.inj (ρ k) (ρ t) b (by rw[z];simp[jm,D,f]) (by rw[h2];simp[jm,D,f']) n q)
 ·intro k es c j
  obtain⟨b,m,s⟩:=g.maps.obj (ρ k) es c (i k _ j);rw[e]at m;exact⟨b,m,s⟩
 ·intro k J N env ps Y0 Q R j
  obtain⟨b,r,m,s,u⟩:=g.maps.loops (ρ k) _ _ _ _ _ _ _ (i k _ j);rw[e]at m;exact⟨b,r,m,s,BW E u⟩
 ·intro k T S y seen j
  obtain⟨b,K,M,P,m,s,u⟩:=g.maps.iters (ρ k) _ _ _ _ (i k _ j);rw[e]at m;exact⟨b,K,M,P,m,s,u⟩
theorem oC{i:Gh}{g:World}(e:Ext (nG d G) w i g):Ext G w (Q7 ρ i) g:=by
 have c:=k5 a G;exact⟨e.imm,fun k v L f=>e.loc (ρ k) v L ((c.loc k v).trans f),e.cell,e.size,fun k=>by have:=e.lim (ρ k);rwa [c.lim]at this,fun k v j f=>e.nloc (ρ k) v (by rw[c.lim];exact j) ((c.loc k v).trans f),fun k v b l=>e.mloc (ρ k) v b ((c.mloc k v).trans l),e.kept⟩
theorem tQ{P:Program}{f:Nat}{args m:List AV}{h' h2:aa}(n:ax P f (bX ρ args) (gi ρ d h) (bX ρ m) h2)(q:∀k,h2 (ρ k)=cD ρ (h' k)):ax P f args h m h':=by
 refine⟨n.1,fun G B w0 I0 w c s r b=>(n.2 (nG d G) B w0 I0 w c (BX a s) (by rw[bC];simpa using r) fun i x u g z=> ?_).mono ?_⟩
 ·rw[bC,xP]at g
  cases j:args[i]? with
  |none=>rw[j]at g;cases g
  |some y=>rw[j]at g;cases g;exact nF (k5 a G) (b i y u j z)
 ·rintro e C ⟨v,o,rfl,A,t,p⟩
  refine⟨v,Q7 ρ o,rfl,oC a A,ry a t q,iq (qa ρ o) p _ ?_⟩;match m with
  |[]=>rfl
  |[x]=>rfl
  |x::y::l=>rfl
theorem zp{P:Program}{f:Nat}{args:List AV}{x:AV}{h' h2:aa}(l:iW P f (bX ρ args) (gi ρ d h) (aX ρ x) h2)(o:∀k,h2 (ρ k)=cD ρ (h' k)):iW P f args h x h':=by
 refine⟨l.1,fun G B w0 I0 w c q p b=>(l.2 (nG d G) B w0 I0 w c (BX a q) (by rw[bC];simpa using p) fun i x u g s=> ?_).mono ?_⟩
 ·rw[bC,xP]at g
  cases j:args[i]? with
  |none=>rw[j]at g;cases g
  |some y=>rw[j]at g;cases g;exact nF (k5 a G) (b i y u j s)
 ·rintro e z ⟨v,m,rfl,t,r,n⟩
  exact⟨v,Q7 ρ m,rfl,oC a t,ry a r o,iq (qa ρ m) n _ rfl⟩
end
def mn(h:aa):List AV→Option (List D×List Nat)
 |[]=>some ([],[])
 |x::l=>match view 12 h x,mn h l with
  |some r,some a=>some (r.1::a.1,r.2 ++a.2)
  |_,_=>none
theorem tR{h:aa}:∀{l:List AV}{r:List D×List Nat},mn h l=some r→l.length=r.1.length
 |[],r,e=>by simp[mn]at e;subst e;rfl
 |x::l,r,e=>by
  simp only[mn]at e;split at e
  ·rename_i c b d a
   simp only[xA]at e;subst e;simp[tR a]
  ·cases e
theorem oD{h:aa}:∀{l:List AV}{r:List D×List Nat},mn h l=some r→∀(i:Nat)(d:D),r.1[i]? =some d→∃x ks,l[i]? =some x∧view 12 h x=some (d,ks)∧∀k∈ks,k∈r.2
 |[],r,e,i,d,a=>by simp[mn]at e;subst e;simp at a
 |x::l,r,e,i,d,a=>by
  simp only[mn]at e;split at e
  ·rename_i f o m c
   simp only[xA]at e;subst e;cases i with
   |zero=>simp at a;subst a;exact⟨x,f.2,rfl,m,fun k b=>by simp[b]⟩
   |succ i=>
    obtain⟨j,ks,g,h2,n⟩:=oD c i d (by simpa using a);exact⟨j,ks,g,h2,fun k b=>by simp[n k b]⟩
  ·cases e
theorem C4{l:List AV}(h:l.length≠1):iV l= .tup l:=by
 match l,h with
 |[],_=>rfl
 |[_],h=>simp at h
 |_::_::_,_=>rfl
theorem rz{P:Program}{f:Nat}{args H:List AV}{h h':aa}{r:List D×List Nat}(a:ax P f args h H h')(A:mn h' H=some r):ax P f args h (r.1.map .d) (ap h' (kill h' r.2)):=by
 refine⟨a.1,fun G B w0 I0 w g V U m=>(a.2 G B w0 I0 w g V U m).mono ?_⟩;rintro e I ⟨v,F,rfl,R,C,t⟩;refine⟨v,F.froz h' r.2,rfl,R.trans (Ext.froz C r.2),C.kill r.2, ?_⟩
 have q:∀(x:AV)(y:D)(ks:List Nat)(u:Value),view 12 h' x=some (y,ks)→(∀k∈ks,k∈r.2)→Rep F I x u→Rep (F.froz h' r.2) I (.d y) u:=fun x y ks u S j E=>
  .d ((d5 C 12 _ _ _ _ S E).mono (by
   rintro b o (x|⟨k,T,L,O,Q⟩)
   ·exact .inl x
   ·exact .inr ⟨k,j k T,L,O,Q⟩) (fun _ _ _=>rfl))
 have J:=tR A;by_cases s:H.length=1
 ·obtain⟨x,rfl⟩:=yE.1 s
  obtain⟨l,X⟩:=r;obtain⟨y,rfl⟩:=yE.1 (J▸s);obtain⟨Z,ks,n,W,j⟩:=oD A 0 y rfl;simp at n;subst n;exact q _ _ _ _ W j t
 ·rw[C4 s]at t
  rw[C4 (l:=r.1.map AV.d) (by rw[xO,←J];exact s)];cases t with
  |tup _ vs M p=>
   refine .tup _ vs (by simp;omega) fun i c u a E=> ?_
   rw[xP]at a;cases z:r.1[i]? with
   |none=>rw[z]at a;cases a
   |some d=>
    rw[z]at a;cases a;obtain⟨x,ks,K,Y,N⟩:=oD A i d z;exact q _ _ _ _ Y N (p i x u K E)
def d7(F:List Nat)(M:Nat)(k:Nat):Nat:=bif F.any (Nat.beq k)then k else k+M
def A1(F:List Nat)(M:Nat)(j:Nat):Option Nat:=bif F.any (Nat.beq j)then some j else bif Nat.ble M j then (bif F.any (Nat.beq (j-M))then none else some (j-M))else none
theorem GG{F:List Nat}{k:Nat}:F.any (Nat.beq k)=true↔k∈F:=by
 rw[yd];constructor
 ·rintro⟨x,a,h⟩
  rw[yN h];exact a
 ·intro h
  exact⟨k,h,Nat.beq_refl k⟩
theorem k6{F:List Nat}{k:Nat}:F.any (Nat.beq k)=false↔k∉F:=by
 rw[←GG];cases F.any (Nat.beq k)<;>simp
theorem tS{F:List Nat}{M k:Nat}(h:k∈F):d7 F M k=k∧A1 F M k=some k:=by
 have:=GG.2 h;simp[d7,A1,this]
theorem rA{F:List Nat}{M k:Nat}(b:∀k∈F,k<M)(h:k∉F):d7 F M k=k+M∧A1 F M (k+M)=some k:=by
 have a:=k6.2 h;have h2:F.any (Nat.beq (k+M))=false:=k6.2 fun h=>by have:=b _ h;omega
 have c:Nat.ble M (k+M)=true:=(by simp)
 simp[d7,A1,a,h2,c]
theorem nH{F:List Nat}{M:Nat}(b:∀k∈F,k<M):Names (d7 F M) (A1 F M):=by
 constructor
 ·intro k
  by_cases h:k∈F
  ·rw[(tS (M:=M) h).1,(tS h).2]
  ·rw[(rA b h).1,(rA b h).2]
 ·intro j k a
  by_cases h:j∈F
  ·rw[(tS h).2]at a
   cases a;exact(tS h).1
  ·unfold A1 at a
   rw[k6.2 h]at a;simp only[xI]at a;cases h2:Nat.ble M j with
   |false=>rw[h2]at a;cases a
   |true=>
    rw[h2]at a;simp only[xR]at a;cases c:F.any (Nat.beq (j-M))with
    |true=>rw[c]at a;cases a
    |false=>
     rw[c]at a;simp only[xI,xA]at a;subst a;have:M≤j:=by simpa using h2
     rw[(rA b (k6.1 c)).1];omega
theorem vd(h:aa)(k:Nat):∀(l:List (Nat×aK)),k∈l.map (·.1)→∃e,(k,e)∈l∧ag l h k=e
 |[],b=>by simp at b
 |(a,e)::r,b=>by
  simp only[ag];by_cases c:k=a
  ·subst c
   exact⟨e,by simp,ad _ _ _⟩
  ·obtain⟨d,f,h2⟩:=vd h k r (by simpa [c]using b)
   exact⟨d,by simp[f],(ae _ _ c).trans h2⟩
theorem Of(ρ:Nat→Nat)(ds:List D):bX ρ (ds.map .d)=ds.map .d:=by
 rw[bC,yq];exact yc fun _ _=>rfl
def eV(M:Nat)(h:aa):aa:=fun k=>bif Nat.blt k M then ⟨0,none⟩else h k
theorem Kl{M k:Nat}(h:aa)(b:M≤k):eV M h k=h k:=by
 have:Nat.blt k M=false:=by
  cases a:Nat.blt k M with
  |false=>rfl
  |true=>have:=(show k<M by simpa using a);omega
 simp[eV,this]
theorem Km{M k:Nat}(h:aa)(a:k<M):eV M h k=⟨0,none⟩:=by
 have:Nat.blt k M=true:=by simpa using a
 simp[eV,this]
theorem Og{F:List Nat}{M k:Nat}(h:k∉F)(c:k<M):A1 F M k=none:=by
 have b:=k6.2 h
 have h2:Nat.ble M k=false:=by
  cases a:Nat.ble M k with
  |false=>rfl
  |true=>have:=(show M≤k by simpa using a);omega
 simp[A1,b,h2]
structure Cln(F:List Nat)(M:Nat)(args:List AV)(pre post:List (Nat×aK)):Prop where
 lt:(F.all fun k=>Nat.blt k M)=true
 preK:pre.map (·.1)=F
 postK:post.map (·.1)=F
 argsK:bX (d7 F M) args=args
 preE:(pre.map fun p=>cD (d7 F M) p.2)=pre.map (·.2)
 postE:(post.map fun p=>cD (d7 F M) p.2)=post.map (·.2)
theorem ve{ρ:Nat→Nat}:∀{l:List (Nat×aK)},(l.map fun p=>cD ρ p.2)=l.map (·.2)→∀k e,(k,e)∈l→cD ρ e=e
 |[],_,k,e,h=>by cases h
 |p::r,a,k,e,h=>by
  simp only[xN,List.cons.injEq]at a;rcases xX.1 h with rfl|h
  ·exact a.1
  ·exact ve a.2 k e h
section
variable{F:List Nat}{M:Nat}{args:List AV}{a b:List (Nat×aK)}(c:Cln F M args a b)
include c
theorem Cln.ltF:∀k∈F,k<M:=fun k d=>by
 have:=xa.1 c.lt k d;simpa using this
theorem Cln.heap(h:aa):gi (d7 F M) (A1 F M) (ag a h)=ag a (eV M (gi (d7 F M) (A1 F M) (ag a h))):=by
 funext k;by_cases d:k∈F
 ·obtain⟨e,i,h2⟩:=vd h k a (by rw[c.preK];exact d)
  have j:=gB a h (eV M (gi (d7 F M) (A1 F M) (ag a h))) (k:=k) (by rw[c.preK];exact d);rw[←j];simp only[gi,(tS (M:=M) d).2,h2];exact ve c.preE k e i
 ·rw[cg _ _ (by rw[c.preK];exact d)]
  rcases yJ k M with f|g
  ·rw[Km _ f]
   simp only[gi,Og d f]
  ·rw[Kl _ g]
theorem Cln.behind(h:aa){h2:aa}(j:∀k,k∈F→h2 k=ag b h2 k)(g:∀k,M≤k→h2 k=ag a (eV M (gi (d7 F M) (A1 F M) (ag a h))) k)(k:Nat):h2 (d7 F M k)=cD (d7 F M) (ag b h k):=by
 by_cases d:k∈F
 ·obtain⟨e,i,l⟩:=vd h k b (by rw[c.postK];exact d)
  rw[(tS d).1,j k d,gB b h2 h (by rw[c.postK];exact d),l];exact(ve c.postE k e i).symm
 ·have f:=c.ltF
  rw[(rA f d).1,g _ (by omega),←c.heap h];simp only[gi,(rA f d).2];rw[cg _ _ (by rw[c.preK];exact d),cg _ _ (by rw[c.postK];exact d)]
theorem k7{P:Program}{f:Nat}{ds:List D}(i:∀e:aa,∃h2,ax P f args (ag a (eV M e)) (ds.map .d) h2∧(∀k,k∈F→h2 k=ag b h2 k)∧∀k,M≤k→h2 k=ag a (eV M e) k)(e:aa):ax P f args (ag a e) (ds.map .d) (ag b e):=by
 obtain⟨h2,g,h,j⟩:=i (gi (d7 F M) (A1 F M) (ag a e));rw[←c.heap e]at g;refine tQ (nH c.ltF) (h2:=h2) ?_ (c.behind e h j);rw[c.argsK,Of];exact g
theorem BZ{P:Program}{f:Nat}{x:AV}(j:aX (d7 F M) x=x)(h:∀d:aa,∃h2,iW P f args (ag a (eV M d)) x h2∧(∀k,k∈F→h2 k=ag b h2 k)∧∀k,M≤k→h2 k=ag a (eV M d) k)(d:aa):iW P f args (ag a d) x (ag b d):=by
 obtain⟨h2,e,g,i⟩:=h (gi (d7 F M) (A1 F M) (ag a d));rw[←c.heap d]at e;refine zp (nH c.ltF) (h2:=h2) ?_ (c.behind d g i);rw[c.argsK,j];exact e
end
def k8(r:Option (List AV×aa×Nat×List Nat×aq))(F:List Nat)(M:Nat)(ds:List D)(a:List (Nat×aK)):Option (aA×aq):=
 match r with
 |some (b,h',_,tk,ps)=>match mn h' b,a6 h' a with
  |some v,some q=>match (v.2.all fun k=>Nat.blt k M&& !(F.any (Nat.beq k)))&&tk.all fun k=>Nat.blt k M with
   |true=>some (.ret,(.ds v.1, .ds ds)::(ps ++q))
   |false=>none
  |_,_=>none
 |none=>none
theorem aH{P:Program}(hm:jP P)(J:eu P)(H:Par P)(n l g M:Nat){args:List AV}{ds:List D}{f a:List (Nat×aK)}(c:Cln (f.map (·.1)) M args f a)
    (h:∀b:aa,lX (k8 (gC P (bi P H n) l g args (ag f (eV M b))) (f.map (·.1)) M ds a)=outR .ret (k8 (gC P (bi P H n) l g args (ag f (eV M b))) (f.map (·.1)) M ds a)) (b:aa):ax P g args (ag f b) (ds.map .d) (ag a b):=by
 refine k7 c (fun b=> ?_) b;obtain⟨ps,j,z⟩:=f7 (h b);unfold k8 at j;split at j;case h_2=>cases j
 rename_i V h' Y tk W A;split at j;case h_2=>cases j
 rename_i v q R S;split at j;case h_2=>cases j
 rename_i y;simp only[xA,xG,true_and]at j;subst j;have I:=z.head;simp only[aL.ds.injEq]at I;subst I;rw[xL]at y
 have r:∀k∈v.2,k<M∧k∉f.map (·.1):=fun k x=>by
  have:=xa.1 y.1 k x;simp only[xL,yH]at this;exact⟨by simpa using this.1,k6.1 this.2⟩
 have C:∀k∈tk,k<M:=fun k E=>by
  have:=xa.1 y.2 k E;simpa using this
 obtain⟨c1,L⟩:=eS hm J (dt hm J n) A z.tail.left;have K:=rz c1 R;have s:=i6 h' a (aY S z.tail.right);refine⟨ag a (ap h' (kill h' v.2)),⟨K.1,fun G B w0 I0 w m A t p=>(K.2 G B w0 I0 w m A t p).mono ?_⟩,fun k i=> ?_,fun k N=> ?_⟩
 ·rintro e X ⟨u,U,rfl,O,T,Q⟩
  refine⟨u,U,rfl,O,T.forget fun k=> ?_,Q⟩;by_cases i:k∈a.map (·.1)
  ·have F:k∉v.2:=fun o=>(r k o).2 (by rw[←c.postK];exact i)
   rw[bz,xj F,gB a _ h' i];exact s k
  ·rw[cg _ _ i]
   exact⟨rfl, .inr rfl⟩
 ·exact gB _ _ _ (by rw[c.postK];exact i)
 ·have i:k∉f.map (·.1):=fun o=>by have:=c.ltF k o;omega
  rw[cg _ _ (by rw[c.postK];exact i),bz,xj fun o=>by have:=(r k o).1;omega];exact L k fun o=>by have:=C k o;omega
def k9(r:Option (AV×aa×Nat×List Nat×aq))(M:Nat)(x:AV)(a:List (Nat×aK)):Option (aA×aq):=
 match r with
 |some (b,h',_,tk,ps)=>match a6 h' a with
  |some q=>match tk.all fun k=>Nat.blt k M with
   |true=>some (.ret,(.av b, .av x)::(ps ++q))
   |false=>none
  |_=>none
 |none=>none
theorem rB{P:Program}(hm:jP P)(C:eu P)(z:Par P)(n i g M:Nat){args:List AV}{x:AV}{d b:List (Nat×aK)}(c:Cln (d.map (·.1)) M args d b)(o:aX (d7 (d.map (·.1)) M) x=x)
    (h:∀a:aa,lX (k9 (oA P (bi P z n) i g args (ag d (eV M a))) M x b)=outR .ret (k9 (oA P (bi P z n) i g args (ag d (eV M a))) M x b)) (a:aa):iW P g args (ag d a) x (ag b a):=by
 refine BZ c o (fun a=> ?_) a;obtain⟨ps,f,s⟩:=f7 (h a);unfold k9 at f;split at f;case h_2=>cases f
 rename_i N h' R tk O t;split at f;case h_2=>cases f
 rename_i q J;split at f;case h_2=>cases f
 rename_i I;simp only[xA,xG,true_and]at f;subst f;have A:=s.head;simp only[aL.av.injEq]at A;subst A
 have v:∀k∈tk,k<M:=fun k y=>by
  have:=xa.1 I k y;simpa using this
 obtain⟨c1,D⟩:=u9 hm C (dt hm C n) t s.tail.left;have p:=i6 h' b (aY J s.tail.right);refine⟨ag b h',⟨c1.1,fun G B w0 I0 w j t r m=>(c1.2 G B w0 I0 w j t r m).mono ?_⟩,fun k l=> ?_,fun k E=> ?_⟩
 ·rintro e Q ⟨u,L,rfl,F,K,H⟩
  exact⟨u,L,rfl,F,K.forget p,H⟩
 ·exact gB _ _ _ (by rw[c.postK];exact l)
 ·have l:k∉d.map (·.1):=fun o=>by have:=c.ltF k o;omega
  rw[cg _ _ (by rw[c.postK];exact l)];exact D k fun o=>by have:=v k o;omega
end Go.Avm
namespace Go.Avm
open Go.RowKit
variable[aG]
section
variable{X:cA}{c:Code}{S S':St}{Q:aA→St→Prop}
theorem LW.weak(g:Weak X S S')(h:LW X c S' Q):LW X c S Q:=fun G a w f=>by
 obtain⟨G1,j,d⟩:=g G a w f;exact mg (h G1 a w d) fun e m l ⟨b,S',k,x,q,i,r⟩=>⟨b,S',k,x,q,j.trans i,r⟩
theorem B0{S1:St}(h:AW X c S fun a S'=>a= .normal∧Weak X S' S1)(d:LW X c S1 Q):LW X c S Q:=
 kY (h.mono fun a S' ⟨e,b⟩=>by subst e;exact d.weak b)
theorem B1{b:St}{e:aA}(h:AW X c S fun a S'=>a=e∧Weak X S' b)(g:e≠ .normal):LW X c S fun a S'=>a=e∧S'=b:=
 kY (lK (h.mono fun a S' ⟨d,f⟩=>⟨b,f,by
  subst d;cases a with
  |normal=>exact absurd rfl g
  |_=>exact⟨rfl,rfl⟩⟩))
end
end Go.Avm
namespace Go.Avm
variable[aG]
theorem px{P:Program}{g:Nat}(q:ct P g)
    (R:∀(b:Nat)(es:Array MapEntry)(c:Nat)(w:World),w.heap[b]? =some (.map es c)→Calls P g #[.map (some b)] w fun e z=>e= .returned (.map (some w.heap.size))∧z=w.alloc (.map es c))
    {h:aa} {k v:Nat} (n:Nat) {es:List (D×D×Nat)} {c:Nat} (C:h k=⟨v,some (.map es c)⟩):
    ax P g [.mp k v] h [.mp n ((h n).ver+1)] (aJ h n ⟨(h n).ver+1,some (.map es c)⟩):=by
 refine⟨q,fun G B w0 I0 w a l M d=> ?_⟩
 obtain⟨u,rfl⟩:∃u,a= #[u]:=by
  have L:a.size=1:=M;refine⟨a[0],Array.ext (by simp[L]) (fun i S _=> ?_)⟩;have:i=0:=by omega
  subst this;rfl
 have Q:=d 0 _ u rfl rfl;obtain⟨b,A,p,hm,s,f⟩:=l.maps.obj k es c (by rw[C]);have N:(h k).ver=v:=by rw[C]
 rw[N]at A;cases Q with
 |mp _ _ H I=>
  obtain rfl:b=H:=Option.some.inj (A.symm.trans I);refine(R b p c w hm).mono ?_;rintro e z ⟨rfl,rfl⟩;have y:=l.allocAny (.map p c);have j:=Ext.alloc l (.map p c)
  obtain⟨r,O⟩:=y.newMap n (b:=w.heap.size) (c:=c) (es:=es) l.bsz (fun k v x=>by
   obtain⟨_,⟨o,_,h2⟩,_⟩:=l.maps.low _ _ _ x
   have:=(xQ.1 h2).1;omega) ⟨p,heap_alloc_new w _,s,fun i e m F t=>by
    obtain⟨J,K,E⟩:=f i e m F t;exact⟨J.mono j.imm j.cell,K.mono j.imm j.cell,E⟩⟩
  exact⟨_,_,rfl,j.trans O,r, .mp _ _ _ (by simp[Gh.atMap])⟩
theorem HR.moveMap{G:Gh}{B:Nat}{w0 w:World}{I0:Nat→Nat→Prop}{h:aa}(j:HR G B w0 I0 h w){T K v:Nat}{es:List (D×D×Nat)}{c:Nat}(n:h T=⟨v,some (.map es c)⟩)(m:K≠T):
    ∃b,G.mloc T v=some b∧HR (G.atMap K ((h K).ver+1) b) B w0 I0 (aJ (aJ h T ⟨v,none⟩) K ⟨(h K).ver+1,some (.map es c)⟩) w∧Ext G w (G.atMap K ((h K).ver+1) b) w:=by
 obtain⟨b,i,hm⟩:=j.maps.obj T es c (by rw[n]);have p:(h T).ver=v:=by rw[n]
 rw[p]at i
 have q:HR G B w0 I0 (aJ h T ⟨v,none⟩) w:=j.forget (fun k=>by
  by_cases a:k=T
  ·subst a;rw[ad];exact⟨p.symm, .inl rfl⟩
  ·rw[ae _ _ a];exact⟨rfl, .inr rfl⟩)
 have u:(aJ h T ⟨v,none⟩ K).ver=(h K).ver:=by rw[ae _ _ m]
 obtain⟨s,g,r⟩:=hm;have d:=j.maps.low T v b i
 have f:=q.newFixO K (b:=b) (oo:=some (.map es c)) (o:= .map s c) (fun o' e=>by cases e;rfl) d.1 (fun t y l x=>by
  by_cases a:t=T
  ·subst a;rw[ad]at l;cases l
  ·rw[ae _ _ a]at l x
   exact a (j.maps.inj t T b l (by rw[n];rfl) x (by rw[p];exact i))) rfl g (fun es' c' e=>by cases e;exact⟨s,g,r⟩) (fun _ _ _ _ _ _ _ e=>by cases e) (fun _ _ _ _ e=>by cases e)
 rw[u]at f;exact⟨b,i,f⟩
end Go.Avm
namespace Go.Avm
variable[aG]
theorem EV{P:Program}{G:Gh}{B:Nat}{w0 w:World}{I0:Nat→Nat→Prop}{h:aa}{env:Nat→AV}{a:Act}{op:Oper}(Z:HR G B w0 I0 h w)(K:∀x,Rep G w (opd env x) (a.eval x))
    {t kt et:TypeId} {m x:Operand} {k v c:Nat} {es:List (D×D×Nat)} {kd y:D} {i:Nat} {z:Call} (T:op.op= .call z) (N:z.callee= .builtin .delete) (q:z.args= #[m,x]) (W:z.argTypes[0]? =some t) (hu:P.underlying t=some (.map kt et))
    (hm:opd env m= .mp k v) (hx:opd env x= .d kd) (o:h k=⟨v,some (.map es c)⟩) (L:jp P kt kd=true) (hf:cq kd es 0=some (some (i,y))):
    ∃Q O V,(execOp a.eval op).run P w= .ok (.value Q) O∧Ext G w V O∧HR V B w0 I0 (aJ h k ⟨v,some (.map (es.eraseIdx i) c)⟩) O∧Rep V O (.tup []) Q:=by
 have p:=K m;have n:=K x;rw[hm]at p;rw[hx]at n;generalize C:a.eval m=vm at p;generalize E:a.eval x=vx at n;cases p with
 |mp _ _ b X=>
 cases n with
 |d M=>
 obtain⟨b',J,s,F,H,g⟩:=Z.maps.obj k es c (by rw[o]);have l:(h k).ver=v:=by rw[o]
 rw[l,X]at J;cases J;obtain⟨Q,A,_,m',R,U⟩:=fe M L es s.toList (by simpa using H) (fun i e m r hm=>g i e m r (by simpa using hm)) hf;have hi:i<s.size:=by simpa using (xE.1 R).1
 have I:=kS (P:=P) M L s.isEmpty w
 have f:(s.eraseIdxIfInBounds i).toList=s.toList.eraseIdx i:=by
  unfold Array.eraseIdxIfInBounds;rw[dif_pos hi];simp
 obtain⟨Y,h2⟩:=Z.setMap (k:=k) (c':=c) (ms':=s.eraseIdxIfInBounds i) (es':=es.eraseIdx i) (by rw[o];rfl) (by rw[l];exact X) F (by
  have:=congrArg List.length f;rw[xg]at this;rw[this,List.length_eraseIdx,List.length_eraseIdx];simp[H]) (fun j e m r hm=>by
  rw[←xe,f]at hm;rw[List.getElem?_eraseIdx]at r hm;rw[xe,xe]at hm;split at r
  ·rename_i S;rw[x9 S]at hm;exact g j e m r hm
  ·rename_i S;rw[xj S]at hm;exact g (j+1) e m r hm)
 rw[l]at Y;refine⟨.tuple #[],_,G, ?_,h2,Y, .tup _ _ rfl (fun i c u h=>by cases h)⟩;unfold execOp;rw[T];show((do let d ←resolve a.eval z op.type;invoke d.target d.args:Sem Next).run P w)=_;rw[dT z .delete op.type a.eval N,q];simp only[builtin,Builtin.delete_,W,Sem.run_bind,run_underlying hu,Result.andThen_ok,Go.MapKept.run_getObj_map (P:=P) F,I,A,Go.MapKept.run_setObj_map (P:=P) _ F,Sem.run_pure,List.map_toArray,xN,xk,C,E];simp[run_underlying hu,Result.andThen,Go.MapKept.run_getObj_map (P:=P) F,I,A,Go.MapKept.run_setObj_map (P:=P) _ F,C,E];rfl
theorem nI{X:cA}{env:Nat→AV}{h:aa}{C a T K v c:Nat}{ces:List AV}{es:List (D×D×Nat)}(g:C≠K)(j:C≠T)(d:K≠T)(A:(h C).ob=some (.arr 1 ces))(l:ces[a]? =some (.mp T v))(o:h T=⟨v,some (.map es c)⟩):
    Weak X ⟨env,h⟩ ⟨env,aJ (aJ (aJ h T ⟨v,none⟩) K ⟨(h K).ver+1,some (.map es c)⟩) C ⟨(h C).ver,some (.arr 1 (ces.set a (.mp K ((h K).ver+1))))⟩⟩:=fun G ac w ⟨q,r,B,n⟩=>by
 obtain⟨b,p,i,e⟩:=q.moveMap (K:=K) o d;have f:(aJ (aJ h T ⟨v,none⟩) K ⟨(h K).ver+1,some (.map es c)⟩ C)=h C:=by rw[ae _ _ g,ae _ _ j]
 have h2:=i.recell (C:=C) (a:=a) (x:= .mp T v) (y:= .mp K ((h K).ver+1)) (by rw[f];exact A) l rfl (fun u s=>by
  cases s with
  |mp _ _ z k=>
   have m:¬(T=K∧v=(h K).ver+1):=fun x=>d x.1.symm
   have:z=b:=by
    have t:(G.atMap K ((h K).ver+1) b).mloc T v=G.mloc T v:=by simp[Gh.atMap,Ne.symm d]
    rw[t,p]at k;exact(Option.some.inj k).symm
   subst this;exact .mp _ _ _ (by simp[Gh.atMap]))
 rw[f]at h2;exact⟨_,e,h2,r,B.mono e,n.mono e⟩
end Go.Avm
namespace Go.Avm
open Go.RowKit
variable[aG]
def GH(ρ:Nat→Nat):aA→aA
 | .panic x=> .panic (aX ρ x)
 |e=>e
theorem EW{ρ:Nat→Nat}{x:AV}(h:aX ρ x= .junk):x= .junk:=by
 cases x<;>first|rfl|(simp only[aX,reduceCtorEq]at h)
section
variable{ρ:Nat→Nat}{d:Nat→Option Nat}(b:Names ρ d)
include b
theorem GI{X:cA}{c:Code}{env env':Nat→AV}{h h':aa}{e:aA}(u:GH ρ e=e)
    (C:AW X c ⟨fun t=>aX ρ (env t),gi ρ d h⟩ fun l j=>l=e∧(∀t,j.env t=aX ρ (env' t))∧∀k,j.heap (ρ k)=cD ρ (h' k)):
    AW X c ⟨env,h⟩ fun l j=>l=e∧j=⟨env',h'⟩:=fun G a w A=>by
 obtain⟨I,D,m,F⟩:=A;have B:=k5 b G
 have p:ff X (nG d G) ⟨fun t=>aX ρ (env t),gi ρ d h⟩ a w:=
  ⟨BX b I,D,⟨m.size,m.nod,fun t g=>nF B (m.rep t g),fun t g=>by
   have:=m.out t g;simp only at this;simp only[this,aX]⟩,F⟩
 refine wpIn_mono (C _ a w p) ?_;rintro E K J ⟨r,j,s,x,⟨rfl,z,h2⟩,l,o,q,f,n⟩;have i:=qa ρ s;refine⟨r,⟨env',h'⟩,Q7 ρ s, ?_,⟨rfl,rfl⟩,oC b l,ry b o h2,q,⟨f.size,f.nod,fun t g=> ?_,fun t g=> ?_⟩,n⟩
 ·cases r with
  |panic y=>
   obtain⟨v,rfl,H⟩:=x.panic;simp only[GH,aA.panic.injEq]at u;exact⟨v,rfl,iq i H y u⟩
  |_=>cases E<;>first|exact x|exact x.elim
 ·have:=f.rep t g
  rw[z t]at this;exact iq i this _ rfl
 ·have:=f.out t g
  rw[z t]at this;exact EW this
end
def B2(C a K sz:Nat)(h:aa):Option (aa×List Nat):=
 match (h C).ob with
 |some (.arr 1 ces)=>match ces[a]? with
  |some (.mp T v)=>match h T with
   |⟨b,some (.map es c)⟩=>match Nat.beq b v&&(!(Nat.beq C K)&&(!(Nat.beq C T)&& !(Nat.beq K T)))with
    |true=>some (aJ (aJ (aJ h T ⟨v,none⟩) K ⟨(h K).ver+1,some (.map es c)⟩) C ⟨(h C).ver,some (.arr 1 (ces.set a (.mp K ((h K).ver+1))))⟩,[T,K])
    |false=>none
   |_=>none
  |some .nils=>match Nat.beq C K with
   |false=>some (aJ (aJ h K ⟨(h K).ver+1,some (.arr sz [])⟩) C ⟨(h C).ver,some (.arr 1 (ces.set a (.sl K ((h K).ver+1) 0 0 sz)))⟩,[K])
   |true=>none
  |_=>none
 |_=>none
theorem zq{X:cA}{env:Nat→AV}{C a K sz:Nat}{h h2:aa}{ks:List Nat}(e:B2 C a K sz h=some (h2,ks)):Weak X ⟨env,h⟩ ⟨env,h2⟩∧∀k,k∉ks→k≠C→h2 k=h k:=by
 unfold B2 at e;split at e;case h_2=>cases e
 rename_i ces f;split at e
 ·rename_i T v m
  split at e;case h_2=>cases e
  rename_i s es c p;split at e;case h_2=>cases e
  rename_i n;simp only[xL,yH,Nat.beq_eq_true_eq]at n;obtain⟨q,o,j,r⟩:=n
  have i:∀{x y:Nat},Nat.beq x y=false→x≠y:=fun d e=>by
   subst e;rw[Nat.beq_refl]at d;cases d
  obtain rfl:=yN q;simp only[xA,xG]at e;obtain⟨rfl,rfl⟩:=e;refine⟨nI (i o) (i j) (i r) f m p,fun k b l=> ?_⟩;simp only[xX,yD,zG,zM]at b;rw[ae _ _ l,ae _ _ b.2,ae _ _ b.1]
 ·rename_i m
  split at e;case h_2=>cases e
  rename_i d
  have g:C≠K:=fun e=>by
   subst e;rw[Nat.beq_refl]at d;cases d
  simp only[xA,xG]at e;obtain⟨rfl,rfl⟩:=e;refine⟨jV g f m,fun k b l=> ?_⟩;simp only[xX,yD,zG]at b;rw[ae _ _ l,ae _ _ b]
 ·cases e
def hZ:List (Nat×Nat)→aa→Option (aa×List Nat)
 |[],h=>some (h,[])
 |(C,a)::r,h=>match Nat.blt a 1048576 with
  |true=>match (h C).ob with
   |some (.arr 1 ces)=>match ces[a]? with
    |some x=>match view 12 h x with
     |some (d,ks)=>match d.one&& !(ks.any (Nat.beq C))with
      |true=>(hZ r (aJ (ap h (kill h ks)) C ⟨(h C).ver,some (.arr 1 (ces.set a (.d d)))⟩)).map fun q=>(q.1,ks ++q.2)
      |false=>none
     |none=>none
    |none=>none
   |_=>none
  |false=>match B2 C (a % 1024) (a/1048576) (a/1024 % 1024) h with
   |some y=>(hZ r y.1).map fun q=>(q.1,y.2 ++q.2)
   |none=>none
theorem f8{X:cA}{env:Nat→AV}:∀{l:List (Nat×Nat)}{h h2:aa}{ks:List Nat},hZ l h=some (h2,ks)→Weak X ⟨env,h⟩ ⟨env,h2⟩∧∀k,k∉ks→k∉l.map (·.1)→h2 k=h k
 |[],h,h2,ks,e=>by
  simp only[hZ,xA,xG]at e;obtain⟨rfl,rfl⟩:=e;exact⟨Weak.refl _,fun _ _ _=>rfl⟩
 |(C,a)::r,h,h2,ks,e=>by
  simp only[hZ]at e;split at e
  ·split at e
   case h_2=>cases e
   rename_i ces m;split at e;case h_2=>cases e
   rename_i x v;split at e;case h_2=>cases e
   rename_i d n q;split at e;case h_2=>cases e
   rename_i p;simp only[xB,xG]at e;obtain⟨⟨o,j⟩,i,rfl,rfl⟩:=e;rw[xL,yH]at p;have u:C∉n:=k6.1 p.2;have g:=gT (X:=X) (env:=env) u m v p.1 q;have f:=f8 (X:=X) (env:=env) i;refine⟨g.trans f.1,fun k b c=> ?_⟩;simp only[xZ,zM]at b;simp only[xN,xX,zM]at c;show o k=h k;rw[f.2 k b.2 c.2,ae _ _ c.1,bz,xj b.1]
  ·split at e
   case h_2=>cases e
   rename_i y t;simp only[xB,xG]at e;obtain⟨⟨o,j⟩,i,rfl,rfl⟩:=e;obtain⟨w,s⟩:=y;have g:=zq (X:=X) (env:=env) t;have f:=f8 (X:=X) (env:=env) i;refine⟨g.1.trans f.1,fun k b c=> ?_⟩;simp only[xZ,zM]at b;simp only[xN,xX,zM]at c;show o k=h k;rw[f.2 k b.2 c.2];exact g.2 k b.1 c.1
def GJ(r:Option (aA×St×Nat×List Nat×aq))(F:List Nat)(M:Nat)(fz:List (Nat×Nat))(l':List (Nat×AV))(a:List (Nat×aK)):Option (aA×aq):=
 match r with
 |some (e,S,_,tk,ps)=>match hZ fz S.heap with
  |some z=>match a6 z.1 a with
   |some q=>match ((z.2 ++(tk ++fz.map (·.1))).all fun k=>Nat.blt k M)with
    |true=>some (e,ps ++(iE S.env l' ++q))
    |false=>none
   |none=>none
  |none=>none
 |none=>none
theorem nJ{ρ:Nat→Nat}:∀{l:List (Nat×AV)},bX ρ (l.map (·.2))=l.map (·.2)→(l.map fun p=>(p.1,aX ρ p.2))=l
 |[],_=>rfl
 |(k,x)::r,h=>by
  simp only[xN,bX,List.cons.injEq]at h;simp only[xN,nJ h.2,h.1]
theorem lY{P:Program}(hm:jP P)(J:eu P)(C:Par P)(n s i N M:Nat)(fz:List (Nat×Nat)){c:Code}{l l':List (Nat×AV)}{a b:List (Nat×aK)}{e:aA}
    (m:Cln (a.map (·.1)) M (l.map (·.2)) a b) (A:bX (d7 (a.map (·.1)) M) (l'.map (·.2))=l'.map (·.2)) (u:GH (d7 (a.map (·.1)) M) e=e)
    (h:∀d:aa,lX (GJ (bi P C n s i N c ⟨ak l,ag a (eV M d)⟩) (a.map (·.1)) M fz l' b)=outR e (GJ (bi P C n s i N c ⟨ak l,ag a (eV M d)⟩) (a.map (·.1)) M fz l' b))
    (d:aa) (X:cA) (H:X.P=P) (G:X.N=N):AW X c ⟨ak l,ag a d⟩ fun B S'=>B=e∧S'=⟨ak l',ag b d⟩:=by
 refine GI (nH m.ltF) u ?_
 have v:(fun t=>aX (d7 (a.map (·.1)) M) (ak l t))=ak l:=by
  funext t;rw[←eU,nJ m.argsK]
 have o:∀t,aX (d7 (a.map (·.1)) M) (ak l' t)=ak l' t:=fun t=>by
  rw[←eU,nJ A]
 rw[v,m.heap d];have K:=h (gi (d7 (a.map (·.1)) M) (A1 (a.map (·.1)) M) (ag a d));obtain⟨ps,f,x⟩:=f7 K;unfold GJ at f;split at f;case h_2=>cases f
 rename_i U S1 T tk O r;split at f;case h_2=>cases f
 rename_i z R;split at f;case h_2=>cases f
 rename_i q L;split at f;case h_2=>cases f
 rename_i I;simp only[xA,xG]at f;obtain⟨rfl,rfl⟩:=f;have E:=dt hm J n _ _ _ _ _ _ _ _ _ _ r x.left
 have y:∀k,k∈z.2 ++(tk ++fz.map (·.1))→k<M:=fun k w=>by
  have:=xa.1 I k w;simpa using this
 obtain⟨p,Q⟩:=z;have D:=f8 (X:=X) (env:=S1.env) R;refine lK ((E.1 X H G).mono ?_);rintro B S' ⟨rfl,rfl⟩;refine⟨⟨ak l',ag b p⟩,D.1.trans (ny (S:=⟨S'.env,p⟩) x.right.left L x.right.right),rfl,fun t=>(o t).symm, ?_⟩;refine m.behind d (fun k j=> ?_) (fun k F=> ?_)
 ·exact gB b p (ag b p) (by rw[m.postK];exact j)
 ·have j:k∉a.map (·.1):=fun u=>by have:=m.ltF k u;omega
  have g:k∉Q ++(tk ++fz.map (·.1)):=fun u=>by have:=y k u;omega
  simp only[xZ,zM]at g;show ag b p k=_;rw[cg b p (by rw[m.postK];exact j)];rw[D.2 k g.1 g.2.2,E.2 k g.2.1]
theorem aR{X:cA}{c:Code}{S S1:St}{Q:aA→St→Prop}(h:AW X c S fun a S'=>a= .normal∧S'=S1)(d:LW X c S1 Q):LW X c S Q:=
 B0 (h.mono fun _ _ ⟨b,h2⟩=>⟨b,h2▸Weak.refl _⟩) d
theorem aU{X:cA}{c:Code}{S b:St}{e:aA}(h:AW X c S fun a S'=>a=e∧S'=b)(f:e≠ .normal):LW X c S fun a S'=>a=e∧S'=b:=
 B1 (h.mono fun _ _ ⟨d,h2⟩=>⟨d,h2▸Weak.refl _⟩) f
theorem B3{P:Program}(hm:jP P){G:Gh}{B:Nat}{w0 w:World}{I0:Nat→Nat→Prop}{h h2:aa}{fz:List (Nat×Nat)}{ks:List Nat}(k:hZ fz h=some (h2,ks))(g:HR G B w0 I0 h w):∃a,Ext G w a w∧HR a B w0 I0 h2 w:=by
 let X:cA:={P:=P,B:=B,w0:=w0,I0:=I0,N:=0,mixed:=hm}
 have f:=(f8 (X:=X) (env:=fun _=> .junk) k).1;obtain⟨a,e,i,_⟩:=f G {tmps:= #[],defers:=[]} w ⟨g,[],⟨rfl,rfl,fun t d=>absurd d (by simp[X]),fun _ _=>rfl⟩,⟨y8,fun b c=>by simp at c,fun b c=>by simp at c,fun l j=>by simp[X]at j,xz _⟩⟩;exact⟨a,e,i⟩
theorem vg{P:Program}(hm:jP P){f:Nat}{args i:List AV}{h c h2:aa}{fz:List (Nat×Nat)}{ks:List Nat}(g:ax P f args h i c)(q:hZ fz c=some (h2,ks)):ax P f args h i h2:=by
 refine⟨g.1,fun G B w0 I0 w a m k b=>(g.2 G B w0 I0 w a m k b).mono ?_⟩;rintro e r ⟨v,s,rfl,o,n,j⟩;obtain⟨p,d,l⟩:=B3 hm q n;exact⟨v,p,rfl,o.trans d,l,j.mono d⟩
def oE(r:Option (List AV×aa×Nat×List Nat×aq))(F:List Nat)(M:Nat)(fz:List (Nat×Nat))(ds:List D)(a:List (Nat×aK)):Option (aA×aq):=
 match r with
 |some (b,h',_,tk,ps)=>match hZ fz h' with
  |some z=>match mn z.1 b,a6 z.1 a with
   |some v,some q=>match (v.2.all fun k=>Nat.blt k M&& !(F.any (Nat.beq k)))&&(z.2 ++(tk ++fz.map (·.1))).all fun k=>Nat.blt k M with
    |true=>some (.ret,(.ds v.1, .ds ds)::(ps ++q))
    |false=>none
   |_,_=>none
  |none=>none
 |none=>none
theorem cK{P:Program}(hm:jP P)(N:eu P)(K:Par P)(n m g M:Nat)(fz:List (Nat×Nat)){args:List AV}{ds:List D}{f a:List (Nat×aK)}(c:Cln (f.map (·.1)) M args f a)
    (h:∀b:aa,lX (oE (gC P (bi P K n) m g args (ag f (eV M b))) (f.map (·.1)) M fz ds a)=outR .ret (oE (gC P (bi P K n) m g args (ag f (eV M b))) (f.map (·.1)) M fz ds a)) (b:aa):ax P g args (ag f b) (ds.map .d) (ag a b):=by
 refine k7 c (fun b=> ?_) b;obtain⟨ps,j,E⟩:=f7 (h b);unfold oE at j;split at j;case h_2=>cases j
 rename_i rs' h' b' tk ps' F;split at j;case h_2=>cases j
 rename_i z R;obtain⟨x,Q⟩:=z;split at j;case h_2=>cases j
 rename_i v q Y Z;split at j;case h_2=>cases j
 rename_i C;simp only[xA,xG,true_and]at j;subst j;have L:=E.head;simp only[aL.ds.injEq]at L;subst L;rw[xL]at C
 have s:∀k∈v.2,k<M∧k∉f.map (·.1):=fun k A=>by
  have:=xa.1 C.1 k A;simp only[xL,yH]at this;exact⟨by simpa using this.1,k6.1 this.2⟩
 have H:∀k,k∈Q ++(tk ++fz.map (·.1))→k<M:=fun k I=>by
  have:=xa.1 C.2 k I;simpa using this
 obtain⟨c1,S⟩:=eS hm N (dt hm N n) F E.tail.left;have O:=rz (vg hm c1 R) Y;have t:=i6 x a (aY Z E.tail.right);refine⟨ag a (ap x (kill x v.2)),⟨O.1,fun G B w0 I0 w o F y r=>(O.2 G B w0 I0 w o F y r).mono ?_⟩,fun k i=> ?_,fun k T=> ?_⟩
 ·rintro e w' ⟨u,G',rfl,U,e2,W⟩
  refine⟨u,G',rfl,U,e2.forget fun k=> ?_,W⟩;by_cases i:k∈a.map (·.1)
  ·have J:k∉v.2:=fun p=>(s k p).2 (by rw[←c.postK];exact i)
   rw[bz,xj J,gB a _ x i];exact t k
  ·rw[cg _ _ i]
   exact⟨rfl, .inr rfl⟩
 ·exact gB _ _ _ (by rw[c.postK];exact i)
 ·have i:k∉f.map (·.1):=fun p=>by have:=c.ltF k p;omega
  rw[cg _ _ (by rw[c.postK];exact i),bz,xj fun p=>by have:=(s k p).1;omega];have l:k∉Q ++(tk ++fz.map (·.1)):=fun p=>by have:=H k p;omega
  simp only[xZ,zM]at l;have V:=f8 (X:=⟨P,0,default,fun _ _=>False,0,hm,none,0,[]⟩) (env:=fun _=> .junk) R;rw[V.2 k l.1 l.2.2];exact S k l.2.1
end Go.Avm
namespace Go.Avm
structure T where
 k:Int
 p:Int
 t:List UInt8
 n:Int
 deriving Inhabited
def tD(x:T):D:= .agg [.int .u8 x.k, .int .i64 x.p, .str x.t, .int .i64 x.n]
inductive Ex where
 |mk (k o:Int) (nm:List UInt8) (n p:Int) (xs:List Ex)
inductive aP where
 |mk (k id:Int) (nm:List UInt8) (ty n p:Int) (es:List Ex) (bd el:List aP)
mutual
def ez:Ex→D
 | .mk k o nm n p xs=> .agg [.int .u8 k, .int .u8 o, .str nm, .int .i64 n, .int .i64 p, .ro (gZ xs)]
def gZ:List Ex→List D
 |[]=>[]
 |x::l=>ez x::gZ l
end
mutual
def sP:aP→D
 | .mk k id nm ty n p es a b=> .agg [.int .u8 k, .int .i64 id, .str nm, .int .u8 ty, .int .i64 n, .int .i64 p, .ro (gZ es), .ro (dH a), .ro (dH b)]
def dH:List aP→List D
 |[]=>[]
 |x::l=>sP x::dH l
end
structure Pm where
 nm:List UInt8
 ty:Int
 p:Int
def g0(x:Pm):D:= .agg [.str x.nm, .int .u8 x.ty, .int .i64 x.p]
structure Fn where
 nm:List UInt8
 ps:List Pm
 res:Int
 bd:List aP
 p:Int
def c2(x:Fn):D:= .agg [.str x.nm, .ro (x.ps.map g0), .int .u8 x.res, .ro (dH x.bd), .int .i64 x.p]
theorem ic:∀l,gZ l=l.map ez
 |[]=>rfl
 |x::l=>by simp[gZ,ic l]
theorem i9:∀l,dH l=l.map sP
 |[]=>rfl
 |x::l=>by simp[dH,i9 l]
theorem Ko(l m:List aP):dH (l ++m)=dH l ++dH m:=by simp[i9]
theorem d8(l:List Ex):(gZ l).length=l.length:=by simp[ic]
theorem jW(l:List aP):(dH l).length=l.length:=by simp[i9]
structure RS where
 i:Nat
 op:Int
 n:Int
inductive Res(α:Type) where
 |ok (a:α) (s:RS)
 |bad (p e:Int) (s:RS)
 |out
def Res.bind{c b:Type}(r:Res c)(f:c→RS→Res b):Res b:=match r with
 | .ok a s=>f a s
 | .bad p e s=> .bad p e s
 | .out=> .out
def b5(x:Int):Int:=IntKind.wrap .i64 x
section
variable(L:List T)
def aD(s:RS):T:=L.getD s.i default
def isT(s:RS)(x:List UInt8):Bool:=((aD L s).k==2||(aD L s).k==4)&&(aD L s).t==x
def RS.nx(s:RS):RS:={s with i:=s.i+1}
def fail{a:Type}(s:RS):Res a:= .bad (aD L s).p 4 s
def ah(x:List UInt8)(s:RS):Res T:=
 bif isT L s x then
  bif x==[40]||x==[91]||x==[123]then
   bif decide (200<b5 (s.op+1))then .bad (aD L s).p 5 {s with op:=b5 (s.op+1)}else .ok (aD L s) ⟨s.i+1,b5 (s.op+1),s.n⟩
  else bif x==[41]||x==[93]||x==[125]then .ok (aD L s) ⟨s.i+1,b5 (s.op-1),s.n⟩
  else .ok (aD L s) s.nx
 else fail L s
def b0(k:Int)(s:RS):Res T:=bif (aD L s).k==k then .ok (aD L s) s.nx else fail L s
def aM(x:List UInt8)(s:RS):Res Bool:=bif isT L s x then (ah L x s).bind fun _ s=> .ok true s else .ok false s
def aN:Int→List UInt8
 |1=>[105,110,116]
 |2=>[98,111,111,108]
 |3=>[97,114,114]
 |_=>[]
def cL:List Int→RS→Res Int
 |[],s=>fail L s
 |k::r,s=>(aM L (aN k) s).bind fun b s=>bif b then .ok k s else cL r s
def au:List (Int×List UInt8×Int):=[(1,[43],9),(2,[45],9),(3,[42],10),(4,[47],10),(5,[37],10),(6,[38],7),(7,[124],5),(8,[94],6),(9,[60,60],8),(10,[62,62],8),(11,[60],4),(12,[60,61],4),(13,[62],4),(14,[62,61],4),(15,[61,61],3),(16,[33,61],3),(17,[38,38],2),(18,[124,124],1)]
def d9(s:RS)(least:Int):List (Int×List UInt8×Int)→Int×Int
 |[]=>(0,0)
 |(o,x,k)::r=>bif decide (least≤k)&&isT L s x then (o,k)else d9 s least r
def ce(least:Int)(s:RS):Int×Int:=d9 L s least au
mutual
def dC:Nat→RS→Res Ex
 |0,_=> .out
 |n+1,s=>(aM L [45] s).bind fun b a=>bif b then (dC n a).bind fun e c=> .ok (.mk 8 19 [] 0 (aD L s).p [e]) c else
  (aM L [126] a).bind fun b a=>bif b then (dC n a).bind fun e c=> .ok (.mk 8 20 [] 0 (aD L s).p [e]) c else
  (aM L [33] a).bind fun b a=>bif b then (dC n a).bind fun e c=> .ok (.mk 8 21 [] 0 (aD L s).p [e]) c else
  bif (aD L s).k==3 then .ok (.mk 1 0 [] (aD L s).n (aD L s).p []) a.nx else
  (aM L [116,114,117,101] a).bind fun b a=>bif b then .ok (.mk 2 0 [] 1 (aD L s).p []) a else
  (aM L [102,97,108,115,101] a).bind fun b a=>bif b then .ok (.mk 2 0 [] 0 (aD L s).p []) a else
  (aM L [114,101,97,100] a).bind fun b a=>bif b then (ah L [40] a).bind fun _ c=>(ah L [41] c).bind fun _ d=> .ok (.mk 6 0 [] 0 (aD L s).p []) d else
  (aM L [108,101,110] a).bind fun b a=>bif b then (ah L [40] a).bind fun _ c=>(b0 L 1 c).bind fun t d=>(ah L [41] d).bind fun _ f=> .ok (.mk 7 0 t.t 0 (aD L s).p []) f else
  bif isT L a [40]then (ah L [40] a).bind fun _ c=>(aQ n 1 c).bind fun e d=>(ah L [41] d).bind fun _ f=> .ok e f else
  (b0 L 1 a).bind fun t c=>bif isT L c [91]then (ch n c).bind fun e d=> .ok (.mk 4 0 t.t 0 (aD L s).p [e]) d else
  bif isT L c [40]then (dz n t.t (aD L s).p c).bind fun e d=> .ok e d else .ok (.mk 3 0 t.t 0 (aD L s).p []) c
def ch:Nat→RS→Res Ex
 |0,_=> .out
 |n+1,s=>(ah L [91] s).bind fun _ c=>(aQ n 1 c).bind fun e a=>(ah L [93] a).bind fun _ b=> .ok e b
def dz:Nat→List UInt8→Int→RS→Res Ex
 |0,_,_,_=> .out
 |n+1,nm,p,s=>(dU n s).bind fun l a=> .ok (.mk 5 0 nm 0 p l) a
def dU:Nat→RS→Res (List Ex)
 |0,_=> .out
 |n+1,s=>(ah L [40] s).bind fun _ b=>bif isT L b [41]then (ah L [41] b).bind fun _ a=> .ok [] a else
  (aQ n 1 b).bind fun e a=>(du n [e] a).bind fun l d=>(ah L [41] d).bind fun _ c=> .ok l c
def du:Nat→List Ex→RS→Res (List Ex)
 |0,_,_=> .out
 |n+1,l,s=>(aM L [44] s).bind fun b a=>bif b then (aQ n 1 a).bind fun e c=>du n (l ++[e]) c else .ok l a
def aQ:Nat→Int→RS→Res Ex
 |0,_,_=> .out
 |n+1,least,s=>(dC n s).bind fun e a=>c3 n least e a
def c3:Nat→Int→Ex→RS→Res Ex
 |0,_,_,_=> .out
 |n+1,least,e,s=>bif (ce L least s).1==0 then .ok e s else
  (aQ n (b5 ((ce L least s).2+1)) s.nx).bind fun r a=>c3 n least (.mk 9 (ce L least s).1 [] 0 (aD L s).p [e,r]) a
end
def gE(n:Nat)(id p:Int)(g:RS):Res aP:=
 (b0 L 1 g).bind fun t h=>(ah L [58] h).bind fun _ i=>(cL L [1,2,3] i).bind fun ty f=>
  bif ty==3 then (ah L [91] f).bind fun _ c=>(b0 L 3 c).bind fun m a=>(ah L [93] a).bind fun _ d=>(ah L [59] d).bind fun _ j=> .ok (.mk 1 id t.t ty m.n p [] [] []) j
  else (aM L [61] f).bind fun b c=>bif b then (aQ L n 1 c).bind fun e a=>(ah L [59] a).bind fun _ d=> .ok (.mk 1 id t.t ty 0 p [e] [] []) d
  else (ah L [59] c).bind fun _ a=> .ok (.mk 1 id t.t ty 0 p [] [] []) a
def ci(n:Nat)(id p:Int)(g:RS):Res aP:=
 (b0 L 1 g).bind fun t b=>bif isT L b [40]then
  (dz L n t.t p b).bind fun e c=>(ah L [59] c).bind fun _ a=> .ok (.mk 8 id [] 0 0 p [e] [] []) a
 else bif isT L b [91]then
  (ch L n b).bind fun e c=>(ah L [61] c).bind fun _ a=>(aQ L n 1 a).bind fun f d=>(ah L [59] d).bind fun _ h=> .ok (.mk 3 id t.t 0 0 p [e,f] [] []) h
 else (ah L [61] b).bind fun _ c=>(aQ L n 1 c).bind fun e a=>(ah L [59] a).bind fun _ d=> .ok (.mk 2 id t.t 0 0 p [e] [] []) d
def RS.st(s:RS):RS:={s with n:=b5 (s.n+1)}
mutual
def bg:Nat→RS→Res (List aP)
 |0,_=> .out
 |n+1,s=>(ah L [123] s).bind fun _ c=>(cj n [] c).bind fun l a=>(ah L [125] a).bind fun _ b=> .ok l b
def cj:Nat→List aP→RS→Res (List aP)
 |0,_,_=> .out
 |n+1,l,s=>bif isT L s [125]then .ok l s else (b6 n s).bind fun x a=>cj n (l ++[x]) a
def b6:Nat→RS→Res aP
 |0,_=> .out
 |n+1,s0=>
  (aM L [108,101,116] s0.st).bind fun b a=>bif b then (gE L n s0.st.n (aD L s0.st).p a).bind fun x c=> .ok x c
  else (aM L [105,102] a).bind fun b a=>bif b then
   (aQ L n 1 a).bind fun e c=>(bg n c).bind fun l d=>(aM L [101,108,115,101] d).bind fun b f=>
    bif b then (bg n f).bind fun m g=> .ok (.mk 4 s0.st.n [] 0 0 (aD L s0.st).p [e] l m) g else .ok (.mk 4 s0.st.n [] 0 0 (aD L s0.st).p [e] l []) f
  else (aM L [119,104,105,108,101] a).bind fun b a=>bif b then
   (aQ L n 1 a).bind fun e c=>(bg n c).bind fun l d=> .ok (.mk 5 s0.st.n [] 0 0 (aD L s0.st).p [e] l []) d
  else (aM L [114,101,116,117,114,110] a).bind fun b a=>bif b then
   bif isT L a [59]then (ah L [59] a).bind fun _ c=> .ok (.mk 6 s0.st.n [] 0 0 (aD L s0.st).p [] [] []) c
   else (aQ L n 1 a).bind fun e c=>(ah L [59] c).bind fun _ d=> .ok (.mk 6 s0.st.n [] 0 0 (aD L s0.st).p [e] [] []) d
  else (aM L [112,114,105,110,116] a).bind fun b a=>bif b then
   (aQ L n 1 a).bind fun e c=>(ah L [59] c).bind fun _ d=> .ok (.mk 7 s0.st.n [] 0 0 (aD L s0.st).p [e] [] []) d
  else (ci L n s0.st.n (aD L s0.st).p a).bind fun x c=> .ok x c
end
def eH(s:RS):Res Pm:=(b0 L 1 s).bind fun t c=>(ah L [58] c).bind fun _ a=>(cL L [1,2,3] a).bind fun k b=> .ok ⟨t.t,k,t.p⟩ b
def cl:Nat→List Pm→RS→Res (List Pm)
 |0,_,_=> .out
 |n+1,l,s=>(aM L [44] s).bind fun b a=>bif b then (eH L a).bind fun e c=>cl n (l ++[e]) c else .ok l a
def cE(n:Nat)(s:RS):Res (List Pm):=(ah L [40] s).bind fun _ b=>bif isT L b [41]then (ah L [41] b).bind fun _ a=> .ok [] a else
    (eH L b).bind fun e a=>(cl L n [e] a).bind fun l d=>(ah L [41] d).bind fun _ c=> .ok l c
def oF(n:Nat)(s:RS):Res Fn:=(ah L [102,110] s).bind fun t d=>(b0 L 1 d).bind fun u f=>(cE L n f).bind fun ps g=>(aM L [58] g).bind fun b c=>
 bif b then (cL L [1,2] c).bind fun k a=>(bg L n a).bind fun l e=> .ok ⟨u.t,ps,k,l,t.p⟩ e
 else (bg L n c).bind fun l a=> .ok ⟨u.t,ps,0,l,t.p⟩ a
def gF(N:Nat):Nat→List Fn→RS→Res (List Fn)
 |0,_,_=> .out
 |n+1,l,s=>bif (aD L s).k==0 then .ok l s else (oF L N s).bind fun f a=>gF N n (l ++[f]) a
def dA(n:Nat):Res (List Fn):=(oF L n ⟨0,0,0⟩).bind fun f a=>gF L n n [f] a
end
def Gr{c:Type}(s:RS)(r:Res c):Prop:=∀a b,r= .ok a b→s.i<b.i
def Gq{c:Type}(s:RS)(r:Res c):Prop:=∀a b,r= .ok a b→s.i≤b.i
theorem Gr.le{b:Type}{s:RS}{r:Res b}(h:Gr s r):Gq s r:=fun a c e=>zT (h a c e)
theorem Gr.bind{g j:Type}{s:RS}{r:Res g}{f:g→RS→Res j}(h:Gr s r)(k:∀a d,r= .ok a d→Gq d (f a d)):Gr s (r.bind f):=fun b i e=>by
 cases r with
 |ok a c=>exact yK (h a c rfl) (k a c rfl b i e)
 |bad p q c=>cases e
 |out=>cases e
theorem Gq.bind{g j:Type}{s:RS}{r:Res g}{f:g→RS→Res j}(h:Gq s r)(k:∀a d,r= .ok a d→Gr d (f a d)):Gr s (r.bind f):=fun b i e=>by
 cases r with
 |ok a c=>exact yo (h a c rfl) (k a c rfl b i e)
 |bad p q c=>cases e
 |out=>cases e
theorem Gq.bindq{g j:Type}{s:RS}{r:Res g}{f:g→RS→Res j}(h:Gq s r)(k:∀a d,r= .ok a d→Gq d (f a d)):Gq s (r.bind f):=fun b i e=>by
 cases r with
 |ok a c=>exact yX (h a c rfl) (k a c rfl b i e)
 |bad p q c=>cases e
 |out=>cases e
theorem Gq.ok{b:Type}(a:b)(s:RS):Gq s (.ok a s):=fun _ _ e=>by cases e;exact xS _
theorem Gq.out{a:Type}(s:RS):Gq s (Res.out:Res a):=fun _ _ e=>by cases e
theorem Gr.out{a:Type}(s:RS):Gr s (Res.out:Res a):=fun _ _ e=>by cases e
theorem aO(L:List T)(x:List UInt8)(s:RS):Gr s (ah L x s):=fun a c e=>by
 unfold ah at e;cases h:isT L s x<;>rw[h]at e
 ·cases e
 ·simp only[xR]at e
  cases b:(x==[40]||x==[91]||x==[123])<;>rw[b]at e
  ·simp only[xI]at e
   cases h2:(x==[41]||x==[93]||x==[125])<;>rw[h2]at e<;>cases e<;>exact zC _
  ·simp only[xR]at e
   cases h2:decide (200<b5 (s.op+1))<;>rw[h2]at e<;>cases e
   exact zC _
theorem ig(L:List T)(k:Int)(s:RS):Gr s (b0 L k s):=fun a b e=>by
 unfold b0 at e;cases h:((aD L s).k==k)<;>rw[h]at e<;>cases e
 exact zC _
theorem GK(L:List T)(x:List UInt8)(s:RS):Gq s (aM L x s):=fun a b e=>by
 unfold aM at e;cases h:isT L s x<;>rw[h]at e
 ·cases e;exact xS _
 ·exact((aO L x s).bind fun _ _ _=>Gq.ok _ _) a b e|>zT
theorem Gr.mayT{g:Type}{L:List T}{x:List UInt8}{s:RS}{X Y:RS→Res g}(k:∀c,s.i<c.i→Gq c (X c))(j:Gr s (Y s)):Gr s ((aM L x s).bind fun b d=>bif b then X d else Y d):=fun a c e=>by
 unfold aM at e;cases h:isT L s x<;>rw[h]at e
 ·exact j a c e
 ·simp only[xR]at e
  cases f:ah L x s<;>rw[f]at e
  ·rename_i t d
   have:=aO L x s t d f;exact yK this (k d this a c e)
  ·cases e
  ·cases e
theorem Gr.ite{a:Type}{c:Bool}{s:RS}{X Y:Res a}(d:Gr s X)(b:Gr s Y):Gr s (bif c then X else Y):=by cases c<;>assumption
theorem Gq.ite{a:Type}{c:Bool}{s:RS}{X Y:Res a}(d:Gq s X)(b:Gq s Y):Gq s (bif c then X else Y):=by cases c<;>assumption
theorem qb(L:List T):∀n,(∀s,Gr s (dC L n s))∧(∀s,Gr s (ch L n s))∧(∀nm p s,Gr s (dz L n nm p s))∧(∀s,Gr s (dU L n s))∧(∀l s,Gq s (du L n l s))∧(∀k s,Gr s (aQ L n k s))∧(∀k e s,Gq s (c3 L n k e s))
 |0=>⟨fun s=>Gr.out s,fun s=>Gr.out s,fun _ _ s=>Gr.out s,fun s=>Gr.out s,fun _ s=>Gq.out s,fun _ s=>Gr.out s,fun _ _ s=>Gq.out s⟩
 |n+1=>by
  obtain⟨j,h2,w,r,q,g,m⟩:=qb L n;refine⟨fun s=> ?_,fun s=> ?_,fun nm p s=> ?_,fun s=> ?_,fun l s=> ?_,fun k s=> ?_,fun k e s=> ?_⟩
  ·simp only[dC]
   have i:∀(f:Ex→Ex) b,Gq b ((dC L n b).bind fun e d=> .ok (f e) d):=fun f b=>((j b).bind fun _ _ _=>Gq.ok _ _).le
   refine Gr.mayT (fun b _=>i _ b) (Gr.mayT (fun b _=>i _ b) (Gr.mayT (fun b _=>i _ b) (Gr.ite (fun _ _ e=>by cases e;exact zC _) ?_)));refine Gr.mayT (fun b _=>Gq.ok _ _) (Gr.mayT (fun b _=>Gq.ok _ _) ?_);refine Gr.mayT (fun b _=>((aO L _ b).bind fun _ _ _=>((aO L _ _).bind fun _ _ _=>Gq.ok _ _).le).le) ?_;refine Gr.mayT (fun b _=>((aO L _ b).bind fun _ _ _=>((ig L _ _).bind fun _ _ _=>((aO L _ _).bind fun _ _ _=>Gq.ok _ _).le).le).le) ?_;refine Gr.ite ((aO L _ s).bind fun _ _ _=>((g _ _).bind fun _ _ _=>((aO L _ _).bind fun _ _ _=>Gq.ok _ _).le).le) ?_;refine(ig L _ s).bind fun _ b _=>Gq.ite ((h2 b).bind fun _ _ _=>Gq.ok _ _).le (Gq.ite ((w _ _ b).bind fun _ _ _=>Gq.ok _ _).le (Gq.ok _ _))
  ·simp only[ch]
   exact(aO L _ s).bind fun _ _ _=>((g _ _).bind fun _ _ _=>((aO L _ _).bind fun _ _ _=>Gq.ok _ _).le).le
  ·simp only[dz]
   exact(r s).bind fun _ _ _=>Gq.ok _ _
  ·simp only[dU]
   exact(aO L _ s).bind fun _ c _=>Gq.ite ((aO L _ c).bind fun _ _ _=>Gq.ok _ _).le ((g _ c).bind fun _ d _=>(q _ d).bindq fun _ x _=>((aO L _ x).bind fun _ _ _=>Gq.ok _ _).le).le
  ·simp only[du]
   intro a b e;unfold aM at e;cases h:isT L s [44]<;>rw[h]at e
   ·cases e;exact xS _
   ·simp only[xR]at e
    cases o:ah L [44] s<;>rw[o]at e
    ·rename_i t c
     have u:=aO L _ s t c o;exact yX (zT u) (((g 1 c).bind fun _ d _=>q _ d).le a b e)
    ·cases e
    ·cases e
  ·simp only[aQ]
   exact(j s).bind fun _ c _=>m _ _ c
  ·simp only[c3]
   refine Gq.ite (Gq.ok _ _) (fun a b v=> ?_);have:=((g (b5 ((ce L k s).2+1)) s.nx).bind fun _ d _=>m _ _ d) a b v;simp only[RS.nx]at this;omega
theorem tT(L:List T)(n:Nat)(k:Int)(s:RS)(a:Ex)(b:RS)(h:aQ L n k s= .ok a b):s.i<b.i:=(qb L n).2.2.2.2.2.1 k s a b h
theorem ja(L:List T)(n:Nat)(k:Int)(s:RS):Gr s (aQ L n k s):=(qb L n).2.2.2.2.2.1 k s
theorem nK(L:List T):∀(l:List Int)(s:RS),Gr s (cL L l s)
 |[],s=>fun _ _ e=>by cases e
 |k::r,s=>by
  simp only[cL];exact Gr.mayT (fun a _=>Gq.ok _ _) (nK L r s)
theorem GL(L:List T)(n:Nat)(id p:Int)(s:RS):Gr s (gE L n id p s):=by
 unfold gE;refine(ig L _ s).bind fun _ d _=>((aO L _ d).bind fun _ f _=>((nK L _ f).bind fun _ b _=>Gq.ite ?_ ?_).le).le
 ·exact((aO L _ b).bind fun _ c _=>((ig L _ c).bind fun _ a _=>((aO L _ a).bind fun _ e _=>((aO L _ e).bind fun _ _ _=>Gq.ok _ _).le).le).le).le
 ·exact(Gr.mayT (fun g _=>((ja L n 1 g).bind fun _ a _=>((aO L _ a).bind fun _ _ _=>Gq.ok _ _).le).le) ((aO L _ b).bind fun _ _ _=>Gq.ok _ _)).le
theorem zr(L:List T)(n:Nat)(id p:Int)(s:RS):Gr s (ci L n id p s):=by
 unfold ci;obtain⟨_,h2,e,_⟩:=qb L n;refine(ig L _ s).bind fun _ c _=>Gq.ite ((e _ _ c).bind fun _ a _=>((aO L _ a).bind fun _ _ _=>Gq.ok _ _).le).le (Gq.ite ?_ ?_)
 ·exact((h2 c).bind fun _ a _=>((aO L _ a).bind fun _ b _=>((ja L n 1 b).bind fun _ d _=>((aO L _ d).bind fun _ _ _=>Gq.ok _ _).le).le).le).le
 ·exact((aO L _ c).bind fun _ a _=>((ja L n 1 a).bind fun _ b _=>((aO L _ b).bind fun _ _ _=>Gq.ok _ _).le).le).le
theorem Gr.st{b:Type}{s:RS}{r:Res b}(h:Gr s.st r):Gr s r:=fun a c e=>h a c e
theorem lL(L:List T):∀n,(∀s,Gr s (bg L n s))∧(∀l s,Gq s (cj L n l s))∧(∀s,Gr s (b6 L n s))
 |0=>⟨fun s=>Gr.out s,fun _ s=>Gq.out s,fun s=>Gr.out s⟩
 |n+1=>by
  obtain⟨d,h2,g⟩:=lL L n;refine⟨fun s=> ?_,fun l s=> ?_,fun s=> ?_⟩
  ·simp only[bg]
   exact(aO L _ s).bind fun _ e _=>(h2 _ e).bindq fun _ c _=>((aO L _ c).bind fun _ _ _=>Gq.ok _ _).le
  ·simp only[cj]
   exact Gq.ite (Gq.ok _ _) ((g s).bind fun _ e _=>h2 _ e).le
  ·simp only[b6]
   refine Gr.st (Gr.mayT (fun a _=>((GL L n _ _ a).bind fun _ _ _=>Gq.ok _ _).le) (Gr.mayT (fun a _=> ?_) (Gr.mayT (fun a _=> ?_) (Gr.mayT (fun a _=> ?_) (Gr.mayT (fun a _=> ?_) ?_)))))
   ·exact((ja L n 1 a).bind fun _ c _=>((d c).bind fun _ h _=>(GK L _ h).bindq fun b f _=>Gq.ite ((d f).bind fun _ _ _=>Gq.ok _ _).le (Gq.ok _ _)).le).le
   ·exact((ja L n 1 a).bind fun _ c _=>((d c).bind fun _ _ _=>Gq.ok _ _).le).le
   ·exact Gq.ite ((aO L _ a).bind fun _ _ _=>Gq.ok _ _).le ((ja L n 1 a).bind fun _ c _=>((aO L _ c).bind fun _ _ _=>Gq.ok _ _).le).le
   ·exact((ja L n 1 a).bind fun _ c _=>((aO L _ c).bind fun _ _ _=>Gq.ok _ _).le).le
   ·exact(zr L n _ _ _).bind fun _ _ _=>Gq.ok _ _
end Go.Avm
namespace Go.Avm
structure Vr where
 nm:List UInt8
 ty:Int
 n:Int
 st:Int
 deriving Inhabited
def rC(x:Vr):D:= .agg [.str x.nm, .int .u8 x.ty, .int .i64 x.n, .int .i64 x.st]
structure Pt where
 fn:Int
 seen:List Nat
 sure:List Nat
def cm(l:List Nat):List D:=l.map fun n:Nat=>D.int .i64 (n:Int)
def Kp(x:Pt):D:= .agg [.int .i64 x.fn, .ro (cm x.seen), .ro (cm x.sure)]
def ey:Pt:=⟨0,[],[]⟩
inductive TR(α:Type) where
 |ok (a:α)
 |bad (p e:Int)
 |out
def TR.bind{c b:Type}:TR c→(c→TR b)→TR b
 | .ok a,k=>k a
 | .bad p e,_=> .bad p e
 | .out,_=> .out
abbrev hN:=List (List UInt8×Nat)
structure SureL where
 l:List (Nat×Nat)
 c:Nat
structure TE where
 fs:List Fn
 vars:List Vr
 seen:hN
 sure:SureL
def eZ(x:List UInt8):hN→Nat→Option (Nat×Nat)
 |[],_=>none
 |e::r,i=>bif x==e.1 then some (i,e.2)else eZ x r (i+1)
def cv(x:List UInt8):List Fn→Nat→Option (Nat×Fn)
 |[],_=>none
 |e::r,i=>bif x==e.nm then some (i,e)else cv x r (i+1)
def bW(x:Nat):List (Nat×Nat)→Nat→Option Nat
 |[],_=>none
 |e::r,i=>bif x==e.1 then some i else bW x r (i+1)
def SureL.has(q:SureL)(i:Nat):Bool:=(bW i q.l 0).isSome
def SureL.put(q:SureL)(i:Nat):SureL:=bif q.has i then q else ⟨q.l ++[(i,q.c)],q.c+1⟩
def SureL.both(a b:SureL):SureL:=⟨a.l.filter fun e=>b.has e.1,a.c⟩
def U1:Ex→Int
 | .mk _ _ _ _ p _=>p
def lZ(E:TE)(nm:List UInt8)(p:Int):TR (Nat×Vr):=match eZ nm E.seen 0 with
 |some (_,i)=> .ok (i,E.vars.getD i default)
 |none=> .bad p 6
def pX(E:TE)(nm:List UInt8)(p:Int):TR Unit:=(lZ E nm p).bind fun r=>bif r.2.ty==3 then .ok ()else .bad p 8
mutual
def ev(E:TE):Ex→TR Int
 | .mk k o nm _ p xs=>
  bif k==2 then .ok 2
  else bif k==3 then (lZ E nm p).bind fun r=>bif E.sure.has r.1 then .ok r.2.ty else .bad p 10
  else bif k==4 then (pX E nm p).bind fun _=>(aF E xs [[1]] false).bind fun _=> .ok 1
  else bif k==7 then (pX E nm p).bind fun _=> .ok 1
  else bif k==5 then match cv nm E.fs 0 with
   |none=> .bad p 6
   |some (_,f)=>bif f.ps.length==xs.length then (aF E xs (f.ps.map fun q=>[q.ty]) false).bind fun _=> .ok f.res else .bad p 9
  else bif k==8 then (bif o==21 then (aF E xs [[2]] false).bind fun _=> .ok 2 else (aF E xs [[1]] false).bind fun _=> .ok 1)
  else bif k==9 then bif decide (xs.length<2)then .out else (bif o==17||o==18 then (aF E xs [[2],[2]] false).bind fun _=> .ok 2
   else bif o==15||o==16 then (aF E xs [[1,2],[]] true).bind fun _=> .ok 2
   else (aF E xs [[1],[1]] false).bind fun _=> .ok (bif decide (11≤o)then 2 else 1))
  else .ok 1
def aF(E:TE):List Ex→List (List Int)→Bool→TR Unit
 |_,[],_=> .ok ()
 |[],_::_,_=> .out
 |x::xs,ts::r,a=>(ev E x).bind fun t=>bif ts.contains t then aF E xs (bif a then [[t]]else r) false else .bad (U1 x) 8
end
def cB(E:TE)(x:Ex)(ts:List Int):TR Int:=(ev E x).bind fun t=>bif ts.contains t then .ok t else .bad (U1 x) 8
structure CS where
 vars:List Vr
 seen:hN
 sure:SureL
 pts:List Pt
def Yf:aP→Int
 | .mk _ _ _ _ _ p _ _ _=>p
mutual
def lc:aP→Bool
 | .mk k _ _ _ _ _ _ a b=>k==6||(k==4&&(dV a&&dV b))
def dV:List aP→Bool
 |[]=>false
 |s::r=>match r with
  |[]=>lc s
  |_::_=>dV r
end
def CS.te(fs:List Fn)(c:CS):TE:=⟨fs,c.vars,c.seen,c.sure⟩
def CS.pt(fn:Nat)(c:CS):Pt:=⟨(fn:Int),c.seen.map (·.2),(c.seen.map (·.2)).filter c.sure.has⟩
def CS.add(c:CS)(v:Vr):CS:={c with vars:=c.vars ++[v],seen:=c.seen ++[(v.nm,c.vars.length)]}
def rD(fs:List Fn)(a:Int)(nm:List UInt8)(id ty n p:Int)(es:List Ex)(c:CS):TR CS:=
 bif decide (1000000≤es.length)then .out else (aF (c.te fs) es (es.map fun _=>[ty]) false).bind fun _=>
 bif decide (1000000<nm.length)then .out
 else bif c.vars.any fun v=>v.nm==nm then .bad p 7
 else bif ty==3&& !(a==0)then .bad p 3
 else bif ty==3&& !(decide (1≤n)&&decide (n≤256))then .bad p 1
 else bif decide (255≤c.vars.length)then .bad p 2
 else .ok (bif ty==3|| !es.isEmpty then {c.add ⟨nm,ty,n,id⟩with sure:=c.sure.put c.vars.length}else c.add ⟨nm,ty,n,id⟩)
def kj(fs:List Fn)(fn:Nat)(p:Int)(es:List Ex)(c:CS):TR CS:=match fs[fn]? with
 |none=> .out
 |some f=>bif f.res==0 then match es with
     |[]=> .ok c
     |x::_=>(ev (c.te fs) x).bind fun _=> .bad (U1 x) 8
  else match es with
   |[]=> .bad p 8
   |x::_=>(cB (c.te fs) x [f.res]).bind fun _=> .ok c
mutual
def jv(fs:List Fn)(fn:Nat)(d:Int):aP→CS→TR CS
 | .mk k id nm ty n p es f g,e=>
  bif id==(e.pts.length:Int)&&decide (e.pts.length<900000000)then
   let c:={e with pts:=e.pts ++[e.pt fn]}
   bif k==1 then rD fs d nm id ty n p es c
   else bif k==2 then (lZ (c.te fs) nm p).bind fun r=>bif r.2.ty==3 then .bad p 8 else (aF (c.te fs) es [[r.2.ty]] false).bind fun _=> .ok {c with sure:=c.sure.put r.1}
   else bif k==3 then (pX (c.te fs) nm p).bind fun _=>(aF (c.te fs) es [[1],[1]] false).bind fun _=> .ok c
   else bif k==4 then (aF (c.te fs) es [[2]] false).bind fun _=>
    (bQ fs fn (b5 (d+1)) false f c).bind fun a=>
    (bQ fs fn (b5 (d+1)) false g {a with seen:=c.seen,sure:=c.sure}).bind fun b=>
    .ok {b with seen:=c.seen,sure:=bif dV f then b.sure else bif dV g then a.sure else a.sure.both b.sure}
   else bif k==5 then (aF (c.te fs) es [[2]] false).bind fun _=>
    (bQ fs fn (b5 (d+1)) false f c).bind fun a=> .ok {a with seen:=c.seen,sure:=c.sure}
   else bif k==6 then kj fs fn p es c
   else bif k==7 then (aF (c.te fs) es [[1,2]] false).bind fun _=> .ok c
   else bif k==8 then (match es with
    |[]=> .out
    |x::_=>(ev (c.te fs) x).bind fun _=> .ok c)
   else .ok c
  else .out
def bQ(fs:List Fn)(fn:Nat)(a:Int):Bool→List aP→CS→TR CS
 |_,[],c=> .ok c
 |b,s::r,c=>bif b then .bad (Yf s) 11 else (jv fs fn a s c).bind fun c'=>bQ fs fn a (lc s) r c'
end
end Go.Avm
