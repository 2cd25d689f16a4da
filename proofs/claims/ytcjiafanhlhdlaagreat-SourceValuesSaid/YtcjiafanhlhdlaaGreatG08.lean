/-
  The abstract machine, part T: runs on open data are right.
-/
import Derived.Test.YtcjiafanhlhdlaaGreatG07
import Derived.Test.YtcjiafanhlhdlaaGreatG06
import Derived.Sort.Grow
import Derived.Shelf.SlIter.AllValues
import Derived.Lib.SlKeysI
set_option linter.unusedVariables false
set_option linter.unusedSimpArgs false
set_option linter.unusedSectionVars false
namespace Go.Avm
open Go.RowKit
variable[ap]
def dH(P:Program)(g:bx):Prop:=∀d a N c S e S' i tk f,g d a N c S=some (e,S',i,tk,f)→Alike f→
 (∀X:bD,X.P=P→X.N=N→AW X c S fun h b=>h=e∧b=S')∧∀k,k∉tk→S'.heap k=S.heap k
section
variable{P:Program}{w:Par P}
theorem oh(hm:d4 P)(q:bl P){j:bx}(hex:dH P j){g:Nat}{ds l:List D}{o:ah}(h:q9 P j g ds=some (l,o))(n:Alike o):dt P g ds l:=by
 unfold q9 at h;split at h
 ·cases h
 ·rename_i fn m
  split at h
  ·cases h
  ·rename_i b s
   split at h
   ·rename_i r
    refine lV hm m s (q.1 g fn m) r (fun X p k=> ?_);split at h
    ·rename_i S' t tk c i
     simp only[xB,xC]at h;obtain⟨f,d,rfl,rfl⟩:=h;refine((hex _ _ _ _ _ _ _ _ _ _ i n).1 X p k).mono ?_;rintro e a ⟨rfl,rfl⟩;exact⟨.inl rfl,d⟩
    ·rename_i S' t tk c i
     simp only[xB,xC]at h;obtain⟨f,d,rfl,rfl⟩:=h;refine((hex _ _ _ _ _ _ _ _ _ _ i n).1 X p k).mono ?_;rintro e a ⟨rfl,rfl⟩;exact⟨.inr rfl,d⟩
    ·cases h
   ·cases h
theorem cE(hm:d4 P)(s:bl P){x:bx}(hex:dH P x){f g:Nat}{c y:List AV}{h h':aa}{B:Nat}{tk:List Nat}{v:ah}(a:dG P x f g c h=some (y,h',B,tk,v))(u:Alike v):
    az P g c h y h'∧∀k,k∉tk→h' k=h k:=by
 unfold dG at a;split at a
 ·cases a
 ·rename_i fn i
  split at a
  ·cases a
  ·rename_i b z
   split at a
   ·rename_i t
    split at a
    ·rename_i S' A r n l
     simp only[xB,xC]at a;obtain⟨o,q,rfl,rfl,rfl,rfl,rfl⟩:=a;have d:=hex _ _ _ _ _ _ _ _ _ _ l u;refine⟨gr hm i z (s.1 g fn i) t (fun X m p=> ?_),d.2⟩;refine(d.1 X m p).mono ?_;rintro e j ⟨rfl,rfl⟩;exact⟨.inl rfl,q,rfl⟩
    ·rename_i S' A r n l
     simp only[xB,xC]at a;obtain⟨o,q,rfl,rfl,rfl,rfl,rfl⟩:=a;have d:=hex _ _ _ _ _ _ _ _ _ _ l u;refine⟨gr hm i z (s.1 g fn i) t (fun X m p=> ?_),d.2⟩;refine(d.1 X m p).mono ?_;rintro e j ⟨rfl,rfl⟩;exact⟨.inr rfl,q,rfl⟩
    ·cases a
   ·cases a
theorem ol(hm:d4 P)(o:bl P){j:bx}(hex:dH P j){d i c g:Nat}{b m:List AV}{h h':aa}{p:Nat}{tk:List Nat}{n:ah}(a:rb P w j d i c g b h=some (m,h',p,tk,n))(f:Alike n):
    az P g b h m h'∧∀k,k∉tk→h' k=h k:=by
 unfold rb at a;split at a
 ·rename_i H _
  split at a;case isFalse=>cases a
  rename_i s;split at a;case h_2=>cases a
  rename_i q r;simp only[xA,xC]at a;obtain⟨rfl,rfl,_,rfl,rfl⟩:=a;have l:=f.head;simp only[ax.av.injEq,AV.tup.injEq]at l;subst l;subst s;refine⟨H.proof h (aB r f.tail),fun k e=> ?_⟩;simp only[xJ,yS]at e;rw[bc _ _ e.1,H.hrst h k e.2]
 ·exact cE hm o hex a f
theorem kV(hm:d4 P)(u:bl P){y:bx}(hex:dH P y){l g:Nat}{d:List AV}{h h':aa}{E:Nat}{tk:List Nat}{x:ah}(I:jT g=true)(b:jU P y l d h=some (h',E,tk,x))(D:Alike x):
    az P g d h [] h'∧∀k,k∉tk→h' k=h k:=by
 have o:=u.2 g (kA I);unfold jU at b;split at b;case h_2=>cases b
 rename_i a f j;split at b;case h_2=>cases b
 rename_i k v i es n m H;obtain⟨C,z⟩:=o h a f j k v i es n m H;split at b
 ·rename_i e
  split at b
  ·rename_i s
   split at b
   ·rename_i r G
    split at b
    ·rename_i L O M q N R p
     split at b
     ·rename_i t
      obtain⟨rfl,rfl,rfl,rfl,rfl⟩:=t;simp only[xA,xC]at b;obtain⟨rfl,rfl,rfl,rfl⟩:=b;obtain⟨J,B,S,Q,T⟩:=r;obtain⟨F,A⟩:=cE hm u hex G D;refine⟨z e s J B q F p,fun K c=> ?_⟩;simp only[xR,yS]at c;exact(ab _ _ c.1).trans ((A K c.2).trans (ab _ _ c.1))
     ·cases b
    ·cases b
   ·cases b
  ·cases b
 ·rename_i e
  simp only[xA,xC]at b;obtain⟨rfl,rfl,rfl,rfl⟩:=b;exact⟨C e,fun _ _=>rfl⟩
theorem om(hm:d4 P){y:bx}(hex:dH P y){m k v:Nat}{c:List AV}{h:aa}{r:Bool×aa×Nat×List Nat×ah}(a:ra y m k v c h=some r)(g:Alike r.2.2.2.2):
    o7 P k v c h [.d (.bool r.1)] r.2.1∧∀f,f∉r.2.2.2.1→r.2.1 f=h f:=by
 unfold ra at a;split at a;case h_2=>cases a
 rename_i I N env ps Fx bd n;split at a;case h_2=>cases a
 rename_i s j;split at a;case h_2=>cases a
 rename_i S1 Y L O M;split at a;case h_2=>cases a
 rename_i V N1 W R F D i;split at a;case h_2=>cases a
 rename_i q H;obtain⟨e,S,Z,E,Q⟩:=q;split at a;case h_2=>cases a
 rename_i f2 T e2 U J C G z l K;simp only[xA]at a;subst a;have x:=g.head;have t:=g.tail.head;have B:=g.tail.tail.head;simp only[ax.nat.injEq]at x t B;have A:=hex _ _ _ _ _ _ _ _ _ _ M g.tail.tail.tail.left;have u:=hex _ _ _ _ _ _ _ _ _ _ H g.tail.tail.tail.right;refine⟨kv hm x n j (fun X o p=>A.1 X o p) t i (fun X o p=>u.1 X o p) B l K,fun f b=> ?_⟩;simp only[xR,xJ,yS]at b;exact(ab _ _ b.1).trans ((u.2 f b.2.2).trans ((ab _ _ b.1).trans (A.2 f b.2.1)))
theorem iG{cfg:d0}{N i:Nat}{j:Array Oper}{o:Oper}{S:St}{env:Nat→AV}{g:Nat}{b:List AV}{out:Out}(r:bK j o S.env=some true)(a:bV o S.env=some (g,b))(h:ap.ext g=none)(k:cfg.hc i=none)
    (q:dz cfg i g b S.heap=some out) (l:out.wr=[]) (m:bX N S.env o.dst out.val=some env):aV P cfg N j i o S=some (⟨env,S.heap⟩,out.ob.map .data,⟨i,out.rd,[],false⟩):=by
 unfold aV;rw[r];simp only[k]
 have d:aX P cfg i o (opd S.env) S.heap=some out:=by
  unfold bV at a;split at a
  ·rename_i c n
   split at a
   ·rename_i f e
    split at a
    ·rename_i t p s
     simp only[xA,xC]at a;obtain⟨rfl,rfl⟩:=a;simp only[aX,n,aK,e,s,h,q]
    ·cases a
   ·cases a
  ·cases a
 simp only[d,m,xP,l,ae,xg]
theorem mh(hm:d4 P)(O:bl P){ex:bx}(hex:dH P ex){A X b N i:Nat}{J:Array Oper}{o:Oper}{S S':St}{ft:Foot}{b2:Nat}{tk:List Nat}{ps:ah}
    (h:rL P w ex A X b N J i o S=some (S',ft,b2,tk,ps)) (x:Alike ps):
    (∃r:gO,∀cfg:d0,cfg.ret i=r.ret→cfg.hc i=r.hc→cfg.obm i=w.obm A (o.dst.getD 0)→cfg.base i=r.base→∃ob,aV P cfg N J i o S=some (S',ob,ft)∧dg P ob)∧∀k,k∉tk→S'.heap k=S.heap k:=by
 unfold rL at h;split at h
 ·rename_i s
  split at h
  ·rename_i g e Q
   obtain⟨n,p⟩:=gp Q;split at h
   ·rename_i H hH
    split at h;case isFalse=>cases h
    rename_i Z;split at h;case h_2=>cases h
    rename_i q V;simp only[xB,xC]at h;obtain⟨env,a,rfl,rfl,rfl,rfl,rfl⟩:=h;have l:=x.head;simp only[ax.av.injEq,AV.tup.injEq]at l;subst l;have D:gS S.heap H.pre:=aB V x.tail;refine⟨⟨⟨[],some (.frame H.pre H.rs H.post),b⟩,fun cfg l h2 t u=>⟨[.frame g H.args H.pre H.rs H.post], ?_, ?_⟩⟩,fun k W=>a8 _ _ W⟩
    ·unfold aV
     rw[s];simp only[h2,n,a,xP];rw[xW D]
    ·intro c f
     simp only[xH]at f;subst f;show ∀h,gS h H.pre→az P g H.args h H.rs (af H.post h);rw[Z];exact H.proof
   split at h
   ·rename_i E ds z hp Y
    split at h
    ·rename_i Z
     subst Z;split at h
     ·rename_i L m
      simp only[xB,xC]at h;obtain⟨env,a,rfl,rfl,rfl,rfl,rfl⟩:=h;have l:=x.head;simp only[ax.ds.injEq]at l;subst l;refine⟨⟨⟨z,none,b⟩,fun cfg l h2 t u=>⟨[.data (E,L,z)], ?_, ?_⟩⟩,fun _ _=>rfl⟩
      ·have I:dz cfg i E e S.heap=some {val:=fc z,ob:=[(E,L,z)]}:=by simp only[dz,m,l]
       exact iG s n p h2 I rfl a
      ·intro c f
       simp only[xH]at f;subst f;exact hp
     ·rename_i m
      split at h
      ·rename_i r hv
       split at h
       ·rename_i U
        simp only[xB,xC]at h;obtain⟨env,a,rfl,rfl,rfl,rfl,rfl⟩:=h;have l:=x.head;simp only[ax.ds.injEq]at l;subst l;refine⟨⟨⟨z,none,b⟩,fun cfg l h2 t u=>⟨[.data (E,r.1,z)], ?_, ?_⟩⟩,fun _ _=>rfl⟩
        ·have I:dz cfg i E e S.heap=some {val:=fc z,rd:=r.2,ob:=[(E,r.1,z)]}:=by
           simp only[dz,m,hv,l];rw[xW U]
         exact iG s n p h2 I rfl a
        ·intro c f
         simp only[xH]at f;subst f;exact hp
       ·cases h
      ·cases h
    ·cases h
   ·split at h
    ·rename_i M
     split at h
     ·rename_i r B
      simp only[xB,xC]at h;obtain⟨env,a,rfl,rfl,rfl,rfl,rfl⟩:=h;obtain⟨K,R,r3,r4⟩:=r;have j:=kV hm O hex M B x;refine⟨⟨⟨[],some (.heap [] K r3),b⟩,fun cfg l h2 t u=>⟨[.heap g e S.heap [] K], ?_, ?_⟩⟩,j.2⟩
      ·unfold aV
       rw[s];simp only[h2,n,dW,a,xP];rw[xW j.2]
      ·intro c f
       simp only[xH]at f;subst f;exact j.1
     ·cases h
    split at h
    ·rename_i ds m
     split at h
     ·rename_i r B
      simp only[xB,xC]at h;obtain⟨env,a,rfl,rfl,rfl,rfl,rfl⟩:=h
      have T:kF e=some ds:=by
       split at m
       ·cases m
       ·exact m
      refine⟨⟨⟨r.1,none,b⟩,fun cfg l h2 t u=>⟨[.data (g,ds,r.1)], ?_, ?_⟩⟩,fun _ _=>rfl⟩
      ·have I:dz cfg i g e S.heap=some {val:=fc r.1,ob:=[(g,ds,r.1)]}:=by simp only[dz,T,l]
       exact iG s n p h2 I rfl a
      ·intro c f
       simp only[xH]at f;subst f;exact oh hm O hex B x
     ·cases h
    ·split at h
     ·rename_i r B
      simp only[xB,xC]at h;obtain⟨env,a,rfl,rfl,rfl,rfl,rfl⟩:=h;obtain⟨K,R,r3,r4,r5⟩:=r;have j:=ol hm O hex B x;refine⟨⟨⟨[],some (.heap K R r4),b⟩,fun cfg l h2 t u=>⟨[.heap g e S.heap K R], ?_, ?_⟩⟩,j.2⟩
      ·unfold aV
       rw[s];simp only[h2,n,a,xP];rw[xW j.2]
      ·intro c f
       simp only[xH]at f;subst f;exact j.1
     ·cases h
  ·split at h
   ·rename_i y G
    split at h
    ·rename_i r B
     simp only[xB,xC]at h;obtain⟨env,a,rfl,rfl,rfl,rfl,rfl⟩:=h;obtain⟨k,v,e⟩:=y;have j:=om hm hex B x;refine⟨⟨⟨[],some (.heap [.d (.bool r.1)] r.2.1 r.2.2.2.1),b⟩,fun cfg l h2 t u=>⟨[.yield k v e S.heap [.d (.bool r.1)] r.2.1], ?_, ?_⟩⟩,j.2⟩
     ·unfold aV
      rw[s];simp only[h2,jg G,G,dW,a,xP];rw[xW j.2]
     ·intro c f
      simp only[xH]at f;subst f;exact j.1
    ·cases h
   split at h
   ·rename_i q V
    split at h;case h_2=>cases h
    rename_i F;simp only[xB,xC]at h;obtain⟨env,a,rfl,rfl,rfl,rfl,rfl⟩:=h;have C:=qU V x;refine⟨⟨⟨[],none,b⟩,fun cfg l h2 t u=>⟨q.1.ob.map .data, ?_, ?_⟩⟩,fun k W=>a8 _ _ W⟩
    ·unfold aV
     rw[s];simp only[h2];rw[pk (cfg':=cfg) (cfg:={obm:=fun _=>w.obm A (o.dst.getD 0),base:=fun _=>b}) l t u,C];simp only[a,xP]
    ·rw[F]
     intro c f;cases f
   ·cases h
 ·rename_i s
  simp only[xB,xC]at h;obtain⟨env,a,rfl,rfl,rfl,rfl,rfl⟩:=h;refine⟨⟨⟨[],none,b⟩,fun cfg l h2 t u=>⟨[], ?_,fun c f=>by cases f⟩⟩,fun _ _=>rfl⟩;unfold aV;rw[s];simp only[a,xP]
 ·cases h
theorem jp(hm:d4 P)(y:bl P){D:bx}(hex:dH P D){i u N:Nat}{d:Array Oper}:∀(l:List Oper)(k e:Nat)(S S':St)(fts:List Foot)(t:Nat)(tk:List Nat)(m:ah),(∀j,j<l.length→l[j]? =d[k+j]?)→
    pC P w D i u N d l k e S=some (S',fts,t,tk,m)→Alike m→
    (∃T:Nat→gO,∀cfg:d0,(∀j,k≤j→cfg.ret j=(T j).ret∧cfg.hc j=(T j).hc∧cfg.base j=(T j).base)→(∀j,cfg.obm j=w.obm i (((d[j]?).bind (·.dst)).getD 0))→
     ∃ob,bP P cfg N d (List.range' k l.length) S=some (S',ob,fts)∧dg P ob)∧∀k,k∉tk→S'.heap k=S.heap k
 |[],k,e,S,S',fts,t,tk,m,_,h,_=>by
  simp only[pC,xA,xC]at h;obtain⟨rfl,rfl,_⟩:=h;exact⟨⟨fun _=>⟨[],none,0⟩,fun cfg _ _=>⟨[],rfl,fun c v=>by cases v⟩⟩,fun _ _=>rfl⟩
 |o::r,k,e,S,S',fts,t,tk,m,z,h,B=>by
  have C:d[k]? =some o:=by simpa using (z 0 (by simp)).symm
  simp only[pC]at h;split at h
  ·cases h
  ·rename_i a U
   split at h
   ·cases h
   ·rename_i b X
    simp only[xA,xC]at h;obtain⟨rfl,rfl,rfl,rfl,rfl⟩:=h;obtain⟨W,a2,H,a4,Z⟩:=a;obtain⟨M,J,Q,I,V⟩:=b;obtain⟨⟨R,O⟩,q⟩:=mh hm y hex U B.left;obtain⟨⟨T,F⟩,n⟩:=jp hm y hex r (k+1) H W M J Q I V (fun j A=>by have:=z (j+1) (by simpa using A);simpa [yK,Nat.add_comm 1 j]using this) X B.right;refine⟨⟨fun j=>if j=k then R else T j,fun cfg E h2=> ?_⟩,fun s g=> ?_⟩
    ·have f:=E k (xO k)
     simp only[xz]at f;obtain⟨x,K,L⟩:=O cfg f.1 f.2.1 (by rw[h2 k,C];rfl) f.2.2;obtain⟨p,Y,G⟩:=F cfg (fun j A=>by have:=E j (by omega);simp only[xi (show ¬j=k by omega)]at this;exact this) h2;refine⟨x ++p, ?_,fun c v=>(xJ.1 v).elim (L c) (G c)⟩;simp only[x6,y5,bP,C,K,Y]
    ·simp only[xJ,yS]at g
     exact(n s g.2).trans (q s g.1)
theorem pD(W:List Nat)(h:aa):∀k∈W,(vR W h k).ob=none:=fun k a=>by
 have:W.any (Nat.beq k)=true:=yT.2 ⟨k,a,Nat.beq_refl k⟩;simp[vR,this]
theorem rM{W:List Nat}{h:aa}{k:Nat}(a:k∉W):vR W h k=h k:=by
 have:W.any (Nat.beq k)=false:=by
  cases c:W.any (Nat.beq k)with
  |false=>rfl
  |true=>
   obtain⟨b,d,h2⟩:=yT.1 c;rw[xn h2]at a;exact absurd d a
 simp[vR,this]
theorem t6(W:List Nat)(h:aa):zD h (vR W h):=fun k=>by
 by_cases a:k∈W
 ·refine .inr ⟨pD W h k a, ?_⟩
  have:W.any (Nat.beq k)=true:=yT.2 ⟨k,a,Nat.beq_refl k⟩;simp[vR,this]
 ·exact .inl (rM a)
theorem mi:∀{l:List (Nat×Foot)},(l.map (·.1)).Nodup→∀e∈l,nl l e.1=e.2
 |[],_,e,a=>by cases a
 |(j,f)::r,b,e,a=>by
  simp only[xI,yn]at b;rcases xR.1 a with rfl|a
  ·simp[nl]
  ·have c:Nat.beq e.1 j=false:=by
     cases d:Nat.beq e.1 j with
     |false=>rfl
     |true=>
      have:=xn d;exact absurd (by rw[←this];exact y7 a) b.1
   simp only[nl,c,x9];exact mi b.2 e a
theorem no{cfg:d0}{N:Nat}{a:Array Oper}{F:Nat→Foot}{op:Oper}:∀(l:List Nat)(S S':St),fE P cfg N a F op l S S'→∀t,(iA a).contains t=false→S'.env t=S.env t
 |[],S,S',h,t,_=>by
  simp only[fE]at h;rw[h]
 |k::r,S,S',h,t,d=>by
  obtain⟨o,S1,ob,e,b,_,_,f⟩:=h;obtain⟨v,g,c,_⟩:=cp b;rw[no r S1 S' f t d,eQ c (jc e d)]
theorem pE(hm:d4 P)(C:bl P){K:bx}(hex:dH P K){n z N:Nat}{m:Array Oper}{op:Oper}:∀(l:List Nat)(c:Nat)(S S':St)(fts:List (Nat×Foot))(y:Nat)(tk:List Nat)(t:ah),
    tZ P w K n z N m op l c S=some (S',fts,y,tk,t)→Alike t→
    (∃T:Nat→gO,∀(cfg:d0)(F:Nat→Foot),(∀j∈l,cfg.ret j=(T j).ret∧cfg.hc j=(T j).hc∧cfg.base j=(T j).base)→(∀j,cfg.obm j=w.obm n (((m[j]?).bind (·.dst)).getD 0))→(∀e∈fts,F e.1=e.2)→fE P cfg N m F op l S S')∧
     (∀k,k∉tk→S'.heap k=S.heap k)∧fts.map (·.1)=l∧l.Nodup
 |[],c,S,S',fts,y,tk,t,h,_=>by
  simp only[tZ,xA,xC]at h;obtain⟨rfl,rfl,_⟩:=h;exact⟨⟨fun _=>⟨[],none,0⟩,fun cfg F _ _ _=>rfl⟩,fun _ _=>rfl,rfl,yE⟩
 |i::r,c,S,S',fts,y,tk,t,h,I=>by
  simp only[tZ]at h;split at h
  ·cases h
  rename_i o J;split at h
  ·cases h
  rename_i a ha;split at h
  ·cases h
  rename_i f;split at h
  ·cases h
  rename_i b hb;simp only[xA,xC]at h;obtain⟨rfl,rfl,rfl,rfl,rfl⟩:=h;obtain⟨M,E,R,a4,a5⟩:=a;obtain⟨Z,W,b3,V,b5⟩:=b;obtain⟨⟨rk,hk⟩,x⟩:=mh hm C hex ha I.left;obtain⟨⟨T,O⟩,u,A,v⟩:=pE hm C hex r R M Z W b3 V b5 hb I.right;simp only[xU,yC,xu]at f
  have q:i∉r:=fun U=>by
   have:r.any (Nat.beq i)=true:=yT.2 ⟨i,U,Nat.beq_refl i⟩;rw[this]at f;cases f.2
  refine⟨⟨fun j=>if j=i then rk else T j,fun cfg F L h2 D=> ?_⟩,fun s g=> ?_,by simp[A],yn.2 ⟨q,v⟩⟩
  ·have d:=L i (by simp)
   simp only[xz]at d;obtain⟨B,X,Y⟩:=hk cfg d.1 d.2.1 (by rw[h2 i,J];rfl) d.2.2;have H:F i=E:=D (i,E) (by simp);refine⟨o,M,B,J,by rw[H];exact X,Y, ?_,O cfg F (fun j G=> ?_) h2 (fun e Q=>D e (by simp[Q]))⟩
   ·rcases f.1 with f|f
    ·exact .inl f
    ·refine .inr fun k p=> ?_
     rw[H]at p;have:=xY.1 f k p;simpa using this
   ·have:=L j (by simp[G])
    simp only[xi (show ¬j=i from fun e=>q (e▸G))]at this;exact this
  ·simp only[xJ,yS]at g
   exact(u s g.2).trans (x s g.1)
theorem zG{r:Option (nk P)}{b:Array Oper}{o:Oper}{S:St}{x:AV}{d:aa}{tk:List Nat}{m:ah}{W:List Nat}(a:tY P r b o S=some (x,d,tk,m))(p:Alike m)
    (A:BG r W=true):bK b o S.env=some true∧zE P o S x (vR W d) W∧∀k,k∉tk→d k=S.heap k:=by
 unfold tY at a;split at a;case h_2=>cases a
 rename_i v;refine⟨v, ?_⟩;split at a
 ·rename_i C
  split at a;case h_2=>cases a
  rename_i g j f;split at a;case isFalse=>cases a
  rename_i B;simp only[xB,xC]at a;obtain⟨q,a,rfl,rfl,rfl,rfl⟩:=a;have h2:=p.head;simp only[ax.av.injEq,AV.tup.injEq]at h2;subst h2
  have n:∀{l:List Nat}{k:Nat},l.any (Nat.beq k)=false→k∉l:=fun {l k} c s=>by
   have:l.any (Nat.beq k)=true:=yT.2 ⟨k,s,Nat.beq_refl k⟩;rw[this]at c;cases c
  refine⟨.inr ⟨g,C.args,C.pre,C.post,f,fun h c=>by rw[B];exact C.proof h c,aB a p.tail,fun k e=> ?_,t6 W _⟩,fun k e=>bc _ _ e⟩;have:=xY.1 A k e;simp only[xU,xu]at this;exact⟨n this.1,n this.2⟩
 ·split at a
  case h_2=>cases a
  rename_i u i;split at a;case h_2=>cases a
  rename_i t y z;simp only[xA,xC]at a;obtain⟨rfl,rfl,rfl,rfl⟩:=a;exact⟨.inl ⟨u,t,y,i,z,rfl,t6 W _⟩,fun _ _=>rfl⟩
def oq(P:Program)(w:Par P)(g:bx):Prop:=∀a b N c S e S' i tk f,w.loops a (dm c)=none→g a b N (.loop c) S=some (e,S',i,tk,f)→Alike f→
 (∀X:bD,X.P=P→X.N=N→LW X c S fun h d=>h=e∧d=S')∧∀k,k∉tk→S'.heap k=S.heap k
theorem pF{n:Nat}(q:dH P (aJ P w n))(j:oq P w (aJ P w n)):oq P w (aJ P w (n+1)):=fun t r N x S e S' A tk D a h g=>by
 simp only[aJ]at h;split at h
 ·rename_i H m;rw[a]at m;cases m
 ·split at h
  ·rename_i S1 B u y v
   split at h
   ·rename_i F l C s z h2
    simp only[xA,xC]at h;obtain⟨rfl,rfl,rfl,rfl,rfl⟩:=h;have b:=q _ _ _ _ _ _ _ _ _ _ v g.left;have o:=j _ _ _ _ _ _ _ _ _ _ a h2 g.right;refine⟨fun X c d=>eB ((b.1 X c d).mono ?_),fun k i=> ?_⟩
    ·rintro p E ⟨rfl,rfl⟩
     exact o.1 X c d
    ·simp only[xJ,yS]at i
     exact(o.2 k i.2).trans (b.2 k i.1)
   ·cases h
  ·rename_i f
   have b:=q _ _ _ _ _ _ _ _ _ _ h g;refine⟨fun X c d=>eB ((b.1 X c d).mono ?_),b.2⟩;rintro p l ⟨rfl,rfl⟩;cases p with
   |normal=>exact absurd h (f l _ _ _)
   |_=>exact⟨rfl,rfl⟩
theorem jq(hm:d4 P)(hn:bl P):∀n,dH P (aJ P w n)∧oq P w (aJ P w n)
 |0=>⟨fun J E N c S e S' b' tk ps h _=>by simp[aJ]at h,fun J E N c S e S' b' tk ps _ h _=>by simp[aJ]at h⟩
 |n+1=>by
  obtain⟨K,ihl⟩:=jq hm hn n;have hl:=pF K ihl;refine⟨fun J E N c S e S' b' tk ps h m=> ?_,hl⟩;cases c with
  |region id z W=>
   simp only[aJ]at h;split at h
   ·rename_i wk I
    obtain⟨W1,wtk,wps⟩:=wk;split at h
    ·rename_i H hH
     split at h
     ·rename_i hex0
      split at h;case h_2=>cases h
      rename_i r hr;obtain⟨S1,fts,b1,B,D⟩:=r;split at h;case h_2=>cases h
      rename_i o ho;split at h;case h_2=>cases h
      rename_i q s;obtain⟨x,G,tk2,Z⟩:=q;split at h;case isFalse=>cases h
      rename_i hd;simp only[xA,xC]at h;obtain⟨rfl,rfl,_,rfl,rfl⟩:=h;have F:=m.left;have O:=m.right.left;have V:=m.right.right
      have hpl:H.p<z.size:=by
       rcases y9 H.p z.size with hh|hh
       ·exact hh
       ·rw[Array.getElem?_eq_none hh]at ho;cases ho
      have v:bK z o S1.env=some true∧sF P o S1 x G∧∀k,k∉tk2→G k=S1.heap k:=by
       unfold tY at s;split at s;case h_2=>cases s
       rename_i hw;refine⟨hw, ?_⟩;split at s
       ·rename_i C _
        split at s;case h_2=>cases s
        rename_i g args hco;split at s;case isFalse=>cases s
        rename_i hg;simp only[xB,xC]at s;obtain⟨q,s,rfl,rfl,rfl,rfl⟩:=s;have h2:=V.head;simp only[ax.av.injEq,AV.tup.injEq]at h2;subst h2;refine⟨.inr ⟨g,C.args,hco,by rw[hg];exact C.proof _ (aB s V.tail)⟩,fun k d=>bc _ _ d⟩
       ·split at s
        case h_2=>cases s
        rename_i u hop;split at s;case h_2=>cases s
        rename_i t y hu;simp only[xA,xC]at s;obtain⟨rfl,rfl,rfl,rfl⟩:=s;exact⟨.inl ⟨u,t,y,hop,hu,rfl,rfl⟩,fun _ _=>rfl⟩
      obtain⟨⟨T,hT⟩,M⟩:=jp hm hn K (z.toList.take H.p) 0 E W1 S1 fts b1 B D (fun j hj=>by
       rw[List.length_take]at hj;rw[xl,xW (by omega),xe,xX]) hr O
      refine⟨fun X l f=> ?_,fun k d=> ?_⟩
      ·obtain⟨ob,a,U⟩:=hT {ret:=fun j=>(T j).ret,hc:=fun j=>(T j).hc,obm:=fun j=>w.obm J (((z[j]?).bind (·.dst)).getD 0),base:=fun j=>(T j).base} (fun j _=>⟨rfl,rfl,rfl⟩) (fun j=>rfl)
       rw[List.length_take,x5,Nat.min_eq_left (by omega)]at a;subst l;subst f;refine AW.weak (cD I F).1 ?_;have hL:jd X.P z H.p W1.env x G S1:=⟨⟨o,ho,v.1,v.2.1⟩,fun t ht=>l9 _ _ _ _ _ a t ht⟩
       exact hD ho a U hL hd ⟨rfl,rfl⟩
      ·simp only[xJ,yS]at d
       exact(v.2.2 k d.2.2).trans ((M k d.2.1).trans ((cD (X:=⟨P,0,default,fun _ _=>False,0,hm,none,0,[]⟩) I F).2 k d.1))
     ·split at h
      ·cases h
      split at h
      ·cases h
      rename_i o ho;split at h
      ·cases h
      rename_i r hr;obtain⟨S1,fts,b1,B,D⟩:=r;split at h
      ·cases h
      rename_i q s;obtain⟨x,G,tk2,Z⟩:=q;split at h;case h_2=>cases h
      rename_i Y;simp only[xA,xC]at h;obtain⟨rfl,rfl,_,rfl,rfl⟩:=h;have F:=m.left;have O:=m.right.left;have V:=m.right.right;unfold EI at Y;simp only[xU]at Y;obtain⟨⟨L,hlen⟩,hdis⟩:=Y;have v:=zG s V hdis;obtain⟨⟨T,hT⟩,M,hT3,hT4⟩:=pE hm hn K (List.range' 0 H.p ++H.exs) E W1 S1 fts b1 B D hr O;refine⟨fun X l f=> ?_,fun k d=> ?_⟩
      ·have a:=hT {ret:=fun j=>(T j).ret,hc:=fun j=>(T j).hc,obm:=fun j=>w.obm J (((z[j]?).bind (·.dst)).getD 0),base:=fun j=>(T j).base} (nl fts) (fun j _=>⟨rfl,rfl,rfl⟩) (fun j=>rfl) (mi (by rw[hT3];exact hT4))
       subst l;subst f;refine AW.weak (cD I F).1 ?_;exact mb ho (pD (wQ o fts) G) a L (by simpa using hlen) ⟨⟨o,ho,v.1,v.2.1⟩,fun t ht=>no _ _ _ a t ht⟩ ⟨rfl,rfl⟩
      ·simp only[xJ,yS]at d
       show vR (wQ o fts) G k=S.heap k;rw[rM d.2.2.2];exact(v.2.2 k d.2.2.1).trans ((M k d.2.1).trans ((cD (X:=⟨P,0,default,fun _ _=>False,0,hm,none,0,[]⟩) I F).2 k d.1))
    ·split at h
     ·rename_i r hr
      obtain⟨S1,fts,b1,B,D⟩:=r
      have Q:Alike wps∧Alike D∧S'=S1∧e= .normal∧tk=wtk ++B∧(W=false∨lS z fts=true):=by
       split at h
       ·simp only[xA,xC]at h
        obtain⟨rfl,rfl,_,rfl,rfl⟩:=h;exact⟨m.left,m.right,rfl,rfl,rfl, .inl rfl⟩
       ·split at h
        ·rename_i L
         simp only[xA,xC]at h;obtain⟨rfl,rfl,_,rfl,rfl⟩:=h;exact⟨m.left,m.right,rfl,rfl,rfl, .inr L⟩
        ·cases h
      obtain⟨F,O,rfl,rfl,rfl,hd⟩:=Q;obtain⟨⟨T,hT⟩,M⟩:=jp hm hn K z.toList 0 E W1 S' fts b1 B D (fun j _=>by simp) hr O;refine⟨fun X l f=> ?_,fun k d=> ?_⟩
      ·obtain⟨ob,a,U⟩:=hT {ret:=fun j=>(T j).ret,hc:=fun j=>(T j).hc,obm:=fun j=>w.obm J (((z[j]?).bind (·.dst)).getD 0),base:=fun j=>(T j).base} (fun j _=>⟨rfl,rfl,rfl⟩) (fun j=>rfl)
       rw[x5,←ye]at a;subst l;subst f;refine AW.weak (cD I F).1 ?_;cases W with
       |false=>exact m9 a U ⟨rfl,rfl⟩
       |true=>exact hA a (hd.resolve_left (by simp)) U ⟨rfl,rfl⟩
      ·simp only[xJ,yS]at d
       exact(M k d.2).trans ((cD (X:=⟨P,0,default,fun _ _=>False,0,hm,none,0,[]⟩) I F).2 k d.1)
     ·cases h
   ·cases h
  |seq x y=>
   simp only[aJ]at h;split at h
   ·rename_i H hH
    split at h
    ·rename_i hN0
     split at h
     ·rename_i q s
      simp only[xA,xC]at h;obtain⟨rfl,rfl,_,rfl,rfl⟩:=h;have hc:=m.head;simp only[ax.code.injEq]at hc;have G:=m.tail.left;have h2:=m.tail.right;refine⟨fun X l f=> ?_,fun k d=>bc _ _ d⟩;rw[hc];exact AW.weak (jm G s h2) (H.proof S.heap X l (by rw[f,hN0]))
     ·cases h
    ·cases h
   split at h
   ·rename_i S1 b1 B D G
    split at h
    ·rename_i e2 S2 b2 tk2 Z h2
     simp only[xA,xC]at h;obtain⟨rfl,rfl,rfl,rfl,rfl⟩:=h;have A:=K _ _ _ _ _ _ _ _ _ _ G m.left;have a2:=K _ _ _ _ _ _ _ _ _ _ h2 m.right;refine⟨fun X l f=>cd ((A.1 X l f).mono ?_),fun k d=> ?_⟩
     ·rintro e1 S3 ⟨rfl,rfl⟩
      exact a2.1 X l f
     ·simp only[xJ,yS]at d
      exact(a2.2 k d.2).trans (A.2 k d.1)
    ·cases h
   ·rename_i hnn
    have A:=K _ _ _ _ _ _ _ _ _ _ h m;refine⟨fun X l f=>cd ((A.1 X l f).mono ?_),A.2⟩;rintro e1 S2 ⟨rfl,rfl⟩;cases e1 with
    |normal=>exact absurd h (hnn S2 _ _ _)
    |_=>exact⟨rfl,rfl⟩
  |block id x=>
   simp only[aJ]at h;split at h
   ·rename_i i S1 b1 B D G
    have hh:S'=S1∧tk=B∧ps=D∧e=(if i=id then .normal else .exit i):=by
     split at h
     ·rename_i hi;rw[xW hi];simp only[xA,xC]at h;obtain⟨rfl,rfl,_,rfl,rfl⟩:=h;exact⟨rfl,rfl,rfl,rfl⟩
     ·rename_i hi;rw[xi hi];simp only[xA,xC]at h;obtain⟨rfl,rfl,_,rfl,rfl⟩:=h;exact⟨rfl,rfl,rfl,rfl⟩
    obtain⟨rfl,rfl,rfl,rfl⟩:=hh;have A:=K _ _ _ _ _ _ _ _ _ _ G m;refine⟨fun X l f=>ey ((A.1 X l f).mono ?_),A.2⟩;rintro e1 S2 ⟨rfl,rfl⟩;simp only[lU];by_cases hi:i=id<;>simp[hi]
   ·rename_i R
    have A:=K _ _ _ _ _ _ _ _ _ _ h m;refine⟨fun X l f=>ey ((A.1 X l f).mono ?_),A.2⟩;rintro e1 S2 ⟨rfl,rfl⟩;cases e1 with
    |exit i=>exact absurd h (R i S2 _ _ _)
    |_=>exact⟨rfl,rfl⟩
  |loop x=>
   by_cases R:w.loops J (dm x)=none
   ·have A:=hl _ _ _ _ _ _ _ _ _ _ R h m
    exact⟨fun X l f=>(A.1 X l f).aw,A.2⟩
   ·simp only[aJ]at h
    split at h
    ·rename_i H hH
     split at h
     ·rename_i hN0
      split at h
      ·rename_i q s
       simp only[xA,xC]at h;obtain⟨rfl,rfl,_,rfl,rfl⟩:=h;have hc:=m.head;simp only[ax.code.injEq]at hc;have G:=m.tail.left;have h2:=m.tail.right;refine⟨fun X l f=> ?_,fun k d=>bc _ _ d⟩;rw[hc];exact AW.weak (jm G s h2) (H.proof S.heap X l (by rw[f,hN0]))
      ·cases h
     ·cases h
    ·rename_i hH;exact absurd hH R
  |skip=>simp only[aJ,xA,xC]at h;obtain⟨rfl,rfl,_⟩:=h;exact⟨fun X _ _=>je ⟨rfl,rfl⟩,fun _ _=>rfl⟩
  |exit i=>simp only[aJ,xA,xC]at h;obtain⟨rfl,rfl,_⟩:=h;exact⟨fun X _ _=>k4 ⟨rfl,rfl⟩,fun _ _=>rfl⟩
  |ret=>simp only[aJ,xA,xC]at h;obtain⟨rfl,rfl,_⟩:=h;exact⟨fun X _ _=>tF ⟨rfl,rfl⟩,fun _ _=>rfl⟩
  |cond c x y=>
   simp only[aJ]at h;split at h
   ·rename_i b hb
    cases b with
    |true=>
     have A:=K _ _ _ _ _ _ _ _ _ _ h m;exact⟨fun X l f=>dM hb (fun _=>A.1 X l f) (fun hx=>by cases hx),A.2⟩
    |false=>
     have A:=K _ _ _ _ _ _ _ _ _ _ h m;exact⟨fun X l f=>dM hb (fun hx=>by cases hx) (fun _=>A.1 X l f),A.2⟩
   ·cases h
  |rangeFunc g qs Fx bd=>
   simp only[aJ]at h;split at h;case h_2=>cases h
   rename_i gf caps hg;split at h;case h_2=>cases h
   rename_i r hr;split at h;case h_2=>cases h
   rename_i f2 N2 env2 Z as2 bd2 st hlp;split at h;case h_2=>cases h
   rename_i e' he';simp only[xA,xC]at h;obtain⟨rfl,rfl,_,rfl,rfl⟩:=h;have d:=m.head;simp only[ax.nat.injEq]at d;have hcs:=cE hm hn K hr m.tail;refine⟨fun X l f=> ?_,fun k d=> ?_⟩
   ·subst l;subst f
    exact jf hg (nc _ _) hcs.1 d hlp (nf he')
   ·simp only[xR,yS]at d
    exact(ab _ _ d.1).trans ((hcs.2 k d.2).trans (ab _ _ d.1))
  |_=>simp[aJ]at h
theorem b6(hm:d4 P)(a:bl P)(n:Nat):dH P (aJ P w n):=(jq hm a n).1
end
def iH(r:Option (au×ah)):au×List ax:=match r with
 |some r=>(r.1,r.2.map (·.1))
 |none=>(.exit 1000001,[])
def iI(e:au)(r:Option (au×ah)):au×List ax:=match r with
 |some r=>(e,r.2.map (·.2))
 |none=>(.exit 1000002,[])
theorem jr:∀{a:ah},a.map (·.1)=a.map (·.2)→Alike a
 |[],_=>fun p hp=>by cases hp
 |p::r,h=>fun q b=>by
  simp only[xI,List.cons.injEq]at h;rcases xR.1 b with rfl|b
  ·exact h.1
  ·exact jr h.2 q b
theorem dU{e:au}{r:Option (au×ah)}(h:iH r=iI e r):∃a,r=some (e,a)∧Alike a:=by
 cases r with
 |none=>simp[iH,iI]at h
 |some r=>
  simp only[iH,iI,xC]at h;exact⟨r.2,by rw[←h.1],jr h.2⟩
def ot(r:Option (List AV×aa×Nat×List Nat×ah))(a:List Nat)(d:List AV)(b:List (Nat×aI)):Option (au×ah):=
 match r with
 |some (c,h',_,tk,e)=>match aE h' b with
  |some q=>match (tk ++a).all fun k=>(b.map (·.1)).any (Nat.beq k)with
   |true=>some (.ret,(.av (.tup c), .av (.tup d))::(e ++q))
   |false=>none
  |none=>none
 |none=>none
theorem sQ{h' d:aa}{hp b:List (Nat×aI)}{tk:List Nat}(i:((tk ++hp.map (·.1)).all fun k=>(b.map (·.1)).any (Nat.beq k))=true)(h2:∀k,k∉tk→h' k=af hp d k):af b h'=af b d:=by
 funext k;by_cases c:k∈b.map (·.1)
 ·exact dF _ _ _ c
 ·rw[bc _ _ c,bc _ _ c]
  have e:∀f,f∈tk ++hp.map (·.1)→f≠k:=by
   rintro f h rfl;have:=xY.1 i f h;obtain⟨a,j,l⟩:=yT.1 this;have:=xn l;subst this;exact c j
  rw[h2 k (fun g=>e k (by simp[g]) rfl)];exact bc _ _ (fun g=>e k (by simp only[xJ];exact .inr g) rfl)
theorem dn{P:Program}(hm:d4 P)(p:bl P)(r:Par P)(n f g:Nat){b o:List AV}{hp c:List (Nat×aI)}{a:aa}
    (h:iH (ot (dG P (aJ P r n) f g b (af hp a)) (hp.map (·.1)) o c)=iI .ret (ot (dG P (aJ P r n) f g b (af hp a)) (hp.map (·.1)) o c)):az P g b (af hp a) o (af c a):=by
 obtain⟨I,d,l⟩:=dU h;unfold ot at d;split at d;case h_2=>cases d
 rename_i D h' F tk C m;split at d;case h_2=>cases d
 rename_i q z;split at d;case h_2=>cases d
 rename_i A;simp only[xA,xC,true_and]at d;subst d;have s:=l.head;simp only[ax.av.injEq,AV.tup.injEq]at s;subst s;obtain⟨c1,t⟩:=cE hm p (b6 hm p n) m l.tail.left;refine⟨c1.1,fun G B w0 I0 w i m k j=>(c1.2 G B w0 I0 w i m k j).mono ?_⟩;rintro e H ⟨v,x,rfl,y,E,u⟩;refine⟨v,x,rfl,y, ?_,u⟩;rw[←sQ A t];exact E.forget (eP h' c (aB z l.tail.right))
def jV(P:Program)(d:bx)(c:Nat)(g:Nat)(a:List AV)(h:aa):Option (AV×aa×Nat×List Nat×ah):=
 match P.funcs[g]? with
 |none=>none
 |some fn=>match fn.body with
  |none=>none
  |some b=>if a.length≤fn.ntmps then match d g c fn.ntmps b ⟨dY a,h⟩with
      |some (.panic x,S',f,tk,e)=>some (x,S'.heap,f,tk,e)
      |_=>none
   else none
theorem ou{P:Program}(hm:d4 P)(m:bl P){l:bx}(hex:dH P l){d g:Nat}{c:List AV}{x:AV}{h h':aa}{s:Nat}{tk:List Nat}{j:ah}(a:jV P l d g c h=some (x,h',s,tk,j))(q:Alike j):eY P g c h x h'∧∀k,k∉tk→h' k=h k:=by
 unfold jV at a;split at a
 ·cases a
 rename_i fn f;split at a
 ·cases a
 rename_i b w;split at a;case isFalse=>cases a
 rename_i o;split at a;case h_2=>cases a
 rename_i z S' y v t p;simp only[xA,xC]at a;obtain⟨rfl,rfl,rfl,rfl,rfl⟩:=a;have i:=hex _ _ _ _ _ _ _ _ _ _ p q;refine⟨qI hm f w (m.1 g fn f) o (fun X r u=>(i.1 X r u).mono ?_),i.2⟩;rintro e n ⟨rfl,rfl⟩;exact⟨rfl,rfl⟩
def sR(r:Option (au×St×Nat×List Nat×ah))(a:List Nat)(l':List (Nat×AV))(b:List (Nat×aI)):Option (au×ah):=
 match r with
 |some (e,S,_,tk,c)=>match aE S.heap b with
  |some q=>match (tk ++a).all fun k=>(b.map (·.1)).any (Nat.beq k)with
   |true=>some (e,c ++(eD S.env l' ++q))
   |false=>none
  |none=>none
 |none=>none
theorem EJ{P:Program}(hm:d4 P)(w:bl P)(t:Par P)(n j i N:Nat){c:Code}{l l':List (Nat×AV)}{hp d:List (Nat×aI)}{b:aa}{e:au}
    (h:iH (sR (aJ P t n j i N c ⟨ag l,af hp b⟩) (hp.map (·.1)) l' d)=iI e (sR (aJ P t n j i N c ⟨ag l,af hp b⟩) (hp.map (·.1)) l' d))
    (X:bD) (x:X.P=P) (D:X.N=N):AW X c ⟨ag l,af hp b⟩ fun B S'=>B=e∧Weak X S' ⟨ag l',af d b⟩:=by
 obtain⟨I,g,s⟩:=dU h;unfold sR at g;split at g
 ·rename_i G S1 H tk E A
  split at g
  ·rename_i q y
   split at g
   ·rename_i z
    simp only[xA,xC]at g;obtain⟨rfl,rfl⟩:=g;have v:=b6 hm w n _ _ _ _ _ _ _ _ _ _ A s.left;refine(v.1 X x D).mono ?_;rintro e S' ⟨rfl,rfl⟩;refine⟨rfl, ?_⟩;have u:=jm (X:=X) s.right.left y s.right.right
    have:af d S'.heap=af d b:=by
     funext k;by_cases f:k∈d.map (·.1)
     ·exact dF _ _ _ f
     ·rw[bc _ _ f,bc _ _ f]
      have m:∀o,o∈tk ++hp.map (·.1)→o≠k:=by
       rintro o p rfl;have:=xY.1 z o p;obtain⟨a,C,F⟩:=yT.1 this;have:=xn F;subst this;exact f C
      rw[v.2 k (fun r=>m k (by simp[r]) rfl)];exact bc _ _ (fun r=>m k (by simp only[xJ];exact .inr r) rfl)
    rw[this]at u;exact u
   ·cases g
  ·cases g
 ·cases g
end Go.Avm
namespace Go.Avm
open Go.RowKit
variable[ap]
def t7:aa:=fun _=>⟨0,none⟩
def hV(h:aa):List AV→Option (List D)
 |[]=>some []
 |x::l=>match view 12 h x,hV h l with
  |some r,some a=>some (r.1::a)
  |_,_=>none
theorem np{h:aa}:∀{l:List AV}{ds:List D},hV h l=some ds→l.length=ds.length
 |[],ds,e=>by simp[hV]at e;subst e;rfl
 |x::l,ds,e=>by
  simp only[hV]at e;split at e
  ·rename_i r c b a
   simp only[xA]at e;subst e;simp[np a]
  ·cases e
theorem jW{h:aa}:∀{l:List AV}{ds:List D},hV h l=some ds→∀(i:Nat)(d:D),ds[i]? =some d→∃x ks,l[i]? =some x∧view 12 h x=some (d,ks)
 |[],ds,e,i,d,a=>by simp[hV]at e;subst e;simp at a
 |x::l,ds,e,i,d,a=>by
  simp only[hV]at e;split at e
  ·rename_i r f c b
   simp only[xA]at e;subst e;cases i with
   |zero=>simp at a;subst a;exact⟨x,r.2,rfl,c⟩
   |succ i=>exact jW b i d (by simpa using a)
  ·cases e
theorem hX{P:Program}{g:Nat}{ds B:List D}{q:List AV}{h':aa}(R:az P g (ds.map .d) t7 q h')(J:hV h' q=some B):dt P g ds B:=by
 refine⟨R.1,fun w I n U W p m=> ?_⟩
 have Z:HR ⟨I,fun _ _=>none,fun _=>0,fun _ _=>none⟩ w.heap.size w I t7 w:=
  ⟨Below.refl _ _,xO _,U,fun _ _ x=>x,fun _ _ x _=>x,fun k v L x=>by simp at x,fun k L x=>by simp at x,fun k V L L' x=>by simp at x,fun k ob x=>by simp[t7]at x,fun _=>rfl,⟨fun k v b x=>by simp at x,fun k V b l l' x=>by simp at x,fun k es c x=>by simp[t7]at x,fun k Y N env ps Fx bd st x=>by simp[t7]at x,fun k km vm O seen x=>by simp[t7]at x,m⟩⟩
 refine(R.2 _ w.heap.size w I w n Z (by simpa using W) (fun i x u j z=> ?_)).mono ?_
 ·rw[xK]at j
  cases H:ds[i]? with
  |none=>rw[H]at j;simp at j
  |some d=>rw[H]at j;simp at j;subst j;exact .d (p i d u H z)
 rintro e Q ⟨v,G,rfl,e1,f,F⟩
 have A:∀(x:AV)(y:D)(ks:List Nat)(u:Value),view 12 h' x=some (y,ks)→Rep G Q x u→DRep (iC G h') Q y u:=fun x y ks u j z=>
  (b8 f 12 _ _ _ _ j z).mono (by
   rintro b o (x|⟨k,_,L,s,M⟩)
   ·exact .inl x
   ·exact .inr ⟨k,L,s,M⟩) (fun _ _ _=>rfl)
 refine⟨v,iC G h',rfl,f.below,fun b o x=> .inl (f.i0 b o x), ?_, ?_, ?_⟩
 ·rintro b o (x|⟨k,L,s,rfl⟩)
  ·rcases y9 b w.heap.size with C|E
   ·exact .inl (f.immlow b o x C)
   ·exact .inr E
  ·exact .inr (f.own k L s).1
 ·rintro b o (x|⟨k,L,s,rfl⟩)
  ·exact f.immlt b o x
  ·exact f.blt s
 ·have T:=np J
  by_cases K:q.length=1
  ·obtain⟨x,rfl⟩:=yG.1 K
   obtain⟨y,rfl⟩:=yG.1 (T▸K);obtain⟨x',ks,t,S⟩:=jW J 0 y rfl;simp at t;subst t;exact .inl ⟨y,rfl,A _ _ _ _ S F⟩
  ·have:dW q= .tup q:=by
     match q,K with
     |[],_=>rfl
     |[_],h=>simp at h
     |_::_::_,_=>rfl
   rw[this]at F;cases F with
   |tup _ vs X r=>
    refine .inr ⟨by omega,vs,rfl,by omega,fun i x u j z=> ?_⟩;obtain⟨a,ks,ha,M⟩:=jW J i x j;exact A _ _ _ _ M (r i a u ha z)
def t8(P:Program)(a:cA)(g:Nat)(ds:List D):Option (List D):=match eZ P a 0 g (ds.map .d) t7 with
 |some (.ret b,h',_,_)=>hV h' b
 |_=>none
theorem dP{P:Program}(hm:d4 P)(a:bl P)(obm:Nat→Nat→Bool)(hp:Nat→Bool)(e:Memo P)(n:Nat){g:Nat}{ds c:List D}(h:t8 P (aY P obm hp e n) g ds=some c):dt P g ds c:=by
 unfold t8 at h;split at h
 ·rename_i f h' b tk d
  exact hX (cC hm a (pu hm a n) d).1 h
 ·cases h
end Go.Avm
namespace Go.Avm
open Go.RowKit
variable[ap]
mutual
def aH(ρ:Nat→Nat):AV→AV
 | .junk=> .junk
 | .d x=> .d x
 | .nils=> .nils
 | .es=> .es
 | .vec k v sz l=> .vec (ρ k) v sz l
 | .sl k v o l sz=> .sl (ρ k) v o l sz
 | .ptr k v i o sz=> .ptr (ρ k) v i o sz
 | .agg cs=> .agg (bz ρ cs)
 | .tup cs=> .tup (bz ρ cs)
 | .fn f cs=> .fn f (bz ρ cs)
 | .mp k v=> .mp (ρ k) v
 | .yld k v=> .yld (ρ k) v
 | .itr k v=> .itr (ρ k) v
 | .iv t x=> .iv t (aH ρ x)
 | .vp k v l=> .vp (ρ k) v l
def bz(ρ:Nat→Nat):List AV→List AV
 |[]=>[]
 |x::l=>aH ρ x::bz ρ l
end
theorem aP(ρ:Nat→Nat):∀l,bz ρ l=l.map (aH ρ)
 |[]=>rfl
 |x::l=>by simp[bz,aP ρ l]
theorem iJ(ρ:Nat→Nat)(x:AV):(aH ρ x).cells=x.cells.map (aH ρ):=by
 cases x with
 |d y=>cases y<;>simp[aH,AV.cells]
 |agg cs=>simp[aH,AV.cells,aP]
 |_=>simp[aH,AV.cells]
theorem nq(ρ:Nat→Nat)(x:AV):(aH ρ x).lone=x.lone:=by
 cases x with
 |d y=>cases y<;>simp[aH,AV.lone]
 |_=>simp[aH,AV.lone]
theorem nr(ρ:Nat→Nat)(l:List AV):AV.flat (bz ρ l)=(AV.flat l).map (aH ρ):=by
 induction l with
 |nil=>rfl
 |cons x l a=>
  simp only[AV.flat]at a;simp only[AV.flat,bz,xm,xM,iJ,a]
def gT(ρ:Nat→Nat):Ob→Ob
 | .arr sz es=> .arr sz (bz ρ es)
 | .map es c=> .map es c
 | .lp f N env e Fx b a=> .lp f N (env.map fun p=>(p.1,aH ρ p.2)) e Fx b a
 | .itr g d s l=> .itr (ρ g) d s l
 | .typ k v T n=> .typ (ρ k) v T n
def bQ(ρ:Nat→Nat)(e:aI):aI:=⟨e.ver,e.ob.map (gT ρ)⟩
theorem cF(ρ:Nat→Nat)(t:Nat):∀l:List (Nat×AV),ag (l.map fun p=>(p.1,aH ρ p.2)) t=aH ρ (ag l t)
 |[]=>rfl
 |(k,x)::r=>by
  simp only[xI,ag,aq];split
  ·rfl
  ·exact cF ρ t r
structure Ren(ρ:Nat→Nat)(G G2:Gh):Prop where
 imm:G2.imm=G.imm
 loc:∀k v,G2.loc (ρ k) v=G.loc k v
 lim:∀k,G2.lim (ρ k)=G.lim k
 mloc:∀k v,G2.mloc (ρ k) v=G.mloc k v
section
variable{ρ:Nat→Nat}{G g:Gh}{w:World}(a:Ren ρ G g)
include a
theorem js{x:AV}{v:Value}(h:Rep G w x v):Rep g w (aH ρ x) v:=by
 induction h with
 |junk v=>exact .junk v
 |d h=>exact .d (by rw[a.imm];exact h)
 |nils=>exact .nils
 |es D=>exact .es D
 |vecNil k e sz=>exact .vecNil _ e sz
 |vec k e l L o C n B h=>exact .vec _ e l L ((a.loc k e).trans o) C n B (by rw[a.imm];exact h)
 |slNil k e sz D=>exact .slNil _ e sz D
 |sl k e p z c L o m n=>exact .sl _ e p z c L ((a.loc k e).trans o) m n
 |ptr k e i p L o=>exact .ptr _ e i p L ((a.loc k e).trans o)
 |agg cs vs r A _ q=>
  simp only[aH,aP];refine .agg _ vs (by simpa using r) A fun i c u m y=> ?_
  rw[xK]at m;cases j:cs[i]? with
  |none=>rw[j]at m;cases m
  |some s=>rw[j]at m;cases m;exact q i s u j y
 |tup cs vs r _ q=>
  simp only[aH,aP];refine .tup _ vs (by simpa using r) fun i c u m y=> ?_
  rw[xK]at m;cases j:cs[i]? with
  |none=>rw[j]at m;cases m
  |some s=>rw[j]at m;cases m;exact q i s u j y
 |fn f cs vs r _ q=>
  simp only[aH,aP];refine .fn f _ vs (by simpa using r) fun i c u m y=> ?_
  rw[xK]at m;cases j:cs[i]? with
  |none=>rw[j]at m;cases m
  |some s=>rw[j]at m;cases m;exact q i s u j y
 |mp k e b o=>exact .mp _ e b ((a.mloc k e).trans o)
 |yld k e b o=>exact .yld _ e b ((a.mloc k e).trans o)
 |itr k e b o=>exact .itr _ e b ((a.mloc k e).trans o)
 |iv t v _ q=>exact .iv t v q
 |vp k e l L o A n h=>exact .vp _ e l L ((a.loc k e).trans o) A n (by rw[a.imm];exact h)
theorem ej{y:AV}{v:Value}(h:Rep g w y v):∀x,aH ρ x=y→Rep G w x v:=by
 induction h with
 |junk v=>intro x e;cases x<;>simp only[aH,reduceCtorEq]at e;exact .junk v
 |d h=>intro x e;cases x<;>simp only[aH,reduceCtorEq]at e;cases e;exact .d (by rw[←a.imm];exact h)
 |nils=>intro x e;cases x<;>simp only[aH,reduceCtorEq]at e;exact .nils
 |es E=>intro x e;cases x<;>simp only[aH,reduceCtorEq]at e;exact .es E
 |vecNil k j sz=>intro x e;cases x<;>simp only[aH,reduceCtorEq]at e;cases e;exact .vecNil _ j sz
 |vec k j l L n D m C h=>intro x e;cases x<;>simp only[aH,reduceCtorEq]at e;cases e;exact .vec _ j l L ((a.loc _ j).symm.trans n) D m C (by rw[←a.imm];exact h)
 |slNil k j sz E=>intro x e;cases x<;>simp only[aH,reduceCtorEq]at e;cases e;exact .slNil _ j sz E
 |sl k j p A c L n r m=>intro x e;cases x<;>simp only[aH,reduceCtorEq]at e;cases e;exact .sl _ j p A c L ((a.loc _ j).symm.trans n) r m
 |ptr k j i p L n=>intro x e;cases x<;>simp only[aH,reduceCtorEq]at e;cases e;exact .ptr _ j i p L ((a.loc _ j).symm.trans n)
 |agg cs vs o B _ q=>
  intro x e;cases x<;>simp only[aH,reduceCtorEq]at e
  rename_i s;simp only[AV.agg.injEq]at e;subst e;rw[aP]at o;refine .agg _ vs (by simpa using o) B fun i c u r z=> ?_
  exact q i (aH ρ c) u (by rw[aP,xK,r];rfl) z c rfl
 |tup cs vs o _ q=>
  intro x e;cases x<;>simp only[aH,reduceCtorEq]at e
  rename_i s;simp only[AV.tup.injEq]at e;subst e;rw[aP]at o;refine .tup _ vs (by simpa using o) fun i c u r z=> ?_
  exact q i (aH ρ c) u (by rw[aP,xK,r];rfl) z c rfl
 |fn f cs vs o _ q=>
  intro x e;cases x<;>simp only[aH,reduceCtorEq]at e
  rename_i F s;simp only[AV.fn.injEq]at e;obtain⟨rfl,rfl⟩:=e;rw[aP]at o;refine .fn _ _ vs (by simpa using o) fun i c u r z=> ?_
  exact q i (aH ρ c) u (by rw[aP,xK,r];rfl) z c rfl
 |mp k j b n=>intro x e;cases x<;>simp only[aH,reduceCtorEq]at e;cases e;exact .mp _ j b ((a.mloc _ j).symm.trans n)
 |yld k j b n=>intro x e;cases x<;>simp only[aH,reduceCtorEq]at e;cases e;exact .yld _ j b ((a.mloc _ j).symm.trans n)
 |itr k j b n=>intro x e;cases x<;>simp only[aH,reduceCtorEq]at e;cases e;exact .itr _ j b ((a.mloc _ j).symm.trans n)
 |iv t v _ q=>
  intro x e;cases x<;>simp only[aH,reduceCtorEq]at e
  simp only[AV.iv.injEq]at e;obtain⟨rfl,e⟩:=e;exact .iv _ v (q _ e)
 |vp k j l L n B m h=>intro x e;cases x<;>simp only[aH,reduceCtorEq]at e;cases e;exact .vp _ j l L ((a.loc _ j).symm.trans n) B m (by rw[←a.imm];exact h)
theorem zH{k b:Nat}{ob:Ob}(h:ObRep G w k b ob):ObRep g w (ρ k) b (gT ρ ob):=by
 cases ob with
 |arr sz es=>
  rcases h with ⟨rfl,h⟩|⟨L,B,h2,o,q,A,y,v⟩
  ·exact .inl ⟨rfl,(a.loc k b).trans h⟩
  ·refine .inr ⟨L,(a.loc k b).trans B,h2,o,by simpa [aP]using q,fun e f=> ?_,fun z e f=> ?_,fun t c i=> ?_⟩
   ·rw[aP]at f
    obtain⟨x,j,rfl⟩:=xf.1 f;rw[iJ,xV];exact A x j
   ·rw[aP]at f
    obtain⟨x,j,rfl⟩:=xf.1 f;rw[nq];exact y z x j
   ·rw[nr,xK]at i
    cases d:(AV.flat es)[t]? with
    |none=>rw[d]at i;cases i
    |some p=>
     rw[d]at i;cases i;obtain⟨u,s,m,D⟩:=v t p d;exact⟨u,s,m,js a D⟩
 |typ C l T n=>exact⟨by rw[a.lim];exact h.1,fun L r=>h.2 L ((a.loc C l).symm.trans r)⟩
 |_=>exact trivial
theorem ua{k b:Nat}{ob:Ob}(h:ObRep g w (ρ k) b (gT ρ ob)):ObRep G w k b ob:=by
 cases ob with
 |arr sz es=>
  rcases h with ⟨f,h⟩|⟨L,l,h2,i,q,v,r,p⟩
  ·refine .inl ⟨?_,(a.loc k b).symm.trans h⟩
   rw[aP]at f;exact List.map_eq_nil_iff.1 f
  ·refine .inr ⟨L,(a.loc k b).symm.trans l,h2,i,by simpa [aP]using q,fun e d=> ?_,fun y e d=> ?_,fun t c s=> ?_⟩
   ·have:=v (aH ρ e) (by rw[aP];exact y7 d)
    rwa [iJ,xV]at this
   ·have:=r y (aH ρ e) (by rw[aP];exact y7 d)
    rwa [nq]at this
   ·obtain⟨u,j,x,m⟩:=p t (aH ρ c) (by rw[nr,xK,s];rfl)
    exact⟨u,j,x,ej a m c rfl⟩
 |typ z o T n=>exact⟨by rw[←a.lim];exact h.1,fun L A=>h.2 L ((a.loc z o).trans A)⟩
 |_=>exact trivial
theorem ub{N:Nat}{env:List (Nat×AV)}{d:Array Nat}{Fx c:Code}{e:LSt}{r:Loop}(h:LRep G w N env d Fx c e r):LRep g w N (env.map fun p=>(p.1,aH ρ p.2)) d Fx c e r:=
 ⟨h.size,fun t b=>by rw[cF];exact js a (h.rep t b),fun t b=>by rw[cF,h.out t b];rfl,h.ps,h.Fx,h.bd,h.state,h.pending⟩
theorem rc{N:Nat}{env:List (Nat×AV)}{e:Array Nat}{Fx d:Code}{c:LSt}{r:Loop}(h:LRep g w N (env.map fun p=>(p.1,aH ρ p.2)) e Fx d c r):LRep G w N env e Fx d c r:=
 ⟨h.size,fun t b=>ej a (h.rep t b) _ (cF ρ t env).symm,fun t b=>by
  have:=h.out t b;rw[cF]at this;cases f:ag env t<;>rw[f]at this<;>first|rfl|(simp only[aH,reduceCtorEq]at this),h.ps,h.Fx,h.bd,h.state,h.pending⟩
end
def jt(a:Nat→Option Nat)(G:Gh):Gh where
 imm:=G.imm
 loc:=fun j v=>match a j with|some k=>G.loc k v|none=>none
 lim:=fun j=>match a j with|some k=>G.lim k|none=>0
 mloc:=fun j v=>match a j with|some k=>G.mloc k v|none=>none
def du(ρ:Nat→Nat)(a:Nat→Option Nat)(h:aa):aa:=fun j=>match a j with|some k=>bQ ρ (h k)|none=>⟨0,none⟩
def Bt(ρ:Nat→Nat)(G:Gh):Gh where
 imm:=G.imm
 loc:=fun k v=>G.loc (ρ k) v
 lim:=fun k=>G.lim (ρ k)
 mloc:=fun k v=>G.mloc (ρ k) v
theorem k6(ρ:Nat→Nat)(G:Gh):Ren ρ (Bt ρ G) G:=⟨rfl,fun _ _=>rfl,fun _=>rfl,fun _ _=>rfl⟩
structure Names(ρ:Nat→Nat)(σ:Nat→Option Nat):Prop where
 to:∀k,σ (ρ k)=some k
 fro:∀j k,σ j=some k→ρ k=j
theorem Names.inj{ρ:Nat→Nat}{e:Nat→Option Nat}(c:Names ρ e){a b:Nat}(h:ρ a=ρ b):a=b:=by
 have d:=c.to a;rw[h,c.to b]at d;exact(Option.some.inj d).symm
theorem gy{ρ:Nat→Nat}{b:Nat→Option Nat}(a:Names ρ b)(G:Gh):Ren ρ G (jt b G):=⟨rfl,fun k v=>by simp only[jt,a.to],fun k=>by simp only[jt,a.to],fun k v=>by simp only[jt,a.to]⟩
section
variable{ρ:Nat→Nat}{d:Nat→Option Nat}(a:Names ρ d){G:Gh}{B:Nat}{w0 w:World}{I0:Nat→Nat→Prop}{h:aa}
include a
theorem re(m:HR G B w0 I0 h w):HR (jt d G) B w0 I0 (du ρ d h) w:=by
 have E:=gy a G
 have A:∀j v L,(jt d G).loc j v=some L→∃k,d j=some k∧G.loc k v=some L:=fun j v L g=>by
  simp only[jt]at g;split at g
  ·rename_i k e;exact⟨k,e,g⟩
  ·cases g
 have t:∀j v L,(jt d G).mloc j v=some L→∃k,d j=some k∧G.mloc k v=some L:=fun j v L g=>by
  simp only[jt]at g;split at g
  ·rename_i k e;exact⟨k,e,g⟩
  ·cases g
 have i:∀j k,d j=some k→(du ρ d h j).ver=(h k).ver:=fun j k X=>by simp only[du,X,bQ]
 have q:∀j ob,(du ρ d h j).ob=some ob→∃k o,d j=some k∧(h k).ob=some o∧ob=gT ρ o:=fun j ob p=>by
  simp only[du]at p;split at p
  ·rename_i k e
   simp only[bQ,xB]at p;obtain⟨o,s,h2⟩:=p;exact⟨k,o,e,s,h2.symm⟩
  ·cases p
 refine⟨m.below,m.bsz,m.immlt,m.i0,m.immlow, ?_, ?_, ?_, ?_, ?_,⟨?_, ?_, ?_, ?_, ?_,m.maps.glob⟩⟩
 ·intro j v L g
  obtain⟨k,e,g⟩:=A j v L g;rw[i j k e];exact m.fresh k v L g
 ·intro j L g
  obtain⟨k,e,g⟩:=A j _ L g;rw[i j k e]at g;exact m.own k L g
 ·intro j C L Q g z u
  obtain⟨k,e,g⟩:=A j _ L g;obtain⟨I,n,z⟩:=A C _ Q z;rw[i j k e]at g;rw[i C I n]at z;have:=m.dis k I L Q g z u;subst this;exact(a.fro j k e).symm.trans (a.fro C k n)
 ·intro j ob p
  obtain⟨k,o,e,s,rfl⟩:=q j ob p;rw[i j k e,←a.fro j k e];exact zH E (m.objs k o s)
 ·intro j
  simp only[jt,du];split
  ·rename_i k e;exact m.lim k
  ·rfl
 ·intro j v b u
  obtain⟨k,e,u⟩:=t j v b u;obtain⟨s,h2,U⟩:=m.maps.low k v b u;exact⟨s,h2,by rw[i j k e];exact U⟩
 ·intro j C b l l' u y
  obtain⟨x,l,f⟩:=ei l;obtain⟨x',l',S⟩:=ei l';obtain⟨H,o,O,s,e1⟩:=q j _ l;obtain⟨J,o',K,h2,e2⟩:=q C _ l';obtain⟨k,e,u⟩:=t j _ b u;obtain⟨I,n,y⟩:=t C _ b y;have i1:H=k:=Option.some.inj (O.symm.trans e);have Y:J=I:=Option.some.inj (K.symm.trans n);subst i1;subst Y;rw[i j H e]at u;rw[i C J n]at y;have R:∀o:Ob,(gT ρ o).flex=o.flex:=fun o=>by cases o<;>rfl
  have D:=m.maps.inj H J b (by rw[s];subst e1;rw[R]at f;simp[fa,f]) (by rw[h2];subst e2;rw[R]at S;simp[fa,S]) u y;subst D;exact(a.fro j H e).symm.trans (a.fro C H n)
 ·intro j es c p
  obtain⟨k,o,e,s,h2⟩:=q j _ p;cases o<;>simp only[gT,reduceCtorEq]at h2
  cases h2;obtain⟨b,D,F⟩:=m.maps.obj k _ _ s;rw[i j k e,←a.fro j k e];exact⟨b,(E.mloc k _).trans D,F⟩
 ·intro j fno N env ps Fx bd st p
  obtain⟨k,o,e,s,h2⟩:=q j _ p;cases o<;>simp only[gT,reduceCtorEq]at h2
  cases h2;obtain⟨b,r,D,F,P⟩:=m.maps.loops k _ _ _ _ _ _ _ s;rw[i j k e,←a.fro j k e];exact⟨b,r,(E.mloc k _).trans D,F,ub E P⟩
 ·intro j km vm M seen p
  obtain⟨k,o,e,s,h2⟩:=q j _ p;cases o<;>simp only[gT,reduceCtorEq]at h2
  cases h2;obtain⟨b,V,T,Z,D,F,P,W,g5⟩:=m.maps.iters k _ _ _ _ s;rw[i j k e,←a.fro j k e];exact⟨b,V,T,Z,(E.mloc k _).trans D,(E.mloc _ _).trans F,P,W,g5⟩
theorem mj{h2:aa}(g:HR G B w0 I0 h2 w)(C:∀k,h2 (ρ k)=bQ ρ (h k)):HR (Bt ρ G) B w0 I0 h w:=by
 have E:=k6 ρ G;have e:∀k,(h2 (ρ k)).ver=(h k).ver:=fun k=>by rw[C];rfl
 have i:∀k o,(h k).ob=some o→(h2 (ρ k)).ob=some (gT ρ o):=fun k o j=>by rw[C];simp[bQ,j]
 refine⟨g.below,g.bsz,g.immlt,g.i0,g.immlow, ?_, ?_, ?_, ?_, ?_,⟨?_, ?_, ?_, ?_, ?_,g.maps.glob⟩⟩
 ·intro k v L s
  have:=g.fresh (ρ k) v L s;rwa [e]at this
 ·intro k L s
  exact g.own (ρ k) L (by rw[e];exact s)
 ·intro k t L J s u n
  exact a.inj (g.dis (ρ k) (ρ t) L J (by rw[e];exact s) (by rw[e];exact u) n)
 ·intro k ob j
  have:=g.objs (ρ k) _ (i k ob j);rw[e]at this;exact ua E this
 ·intro k
  have:=g.lim (ρ k);rw[e]at this;exact this
 ·intro k v b n
  obtain⟨y,H,M⟩:=g.maps.low (ρ k) v b n;exact⟨y,H,by rw[←e];exact M⟩
 ·intro k t b l l' n p
  obtain⟨x,l,f⟩:=ei l;obtain⟨O,l',Q⟩:=ei l';have D:∀o:Ob,(gT ρ o).flex=o.flex:=fun o=>by cases o<;>rfl
  have y:=i k x l;have h2:=i t O l';rw[←e]at n p;exact a.inj (g.maps.inj (ρ k) (ρ t) b (by rw[y];simp[fa,D,f]) (by rw[h2];simp[fa,D,Q]) n p)
 ·intro k es c j
  obtain⟨b,m,q⟩:=g.maps.obj (ρ k) es c (i k _ j);rw[e]at m;exact⟨b,m,q⟩
 ·intro k P N env U Fx T R j
  obtain⟨b,r,m,q,A⟩:=g.maps.loops (ρ k) _ _ _ _ _ _ _ (i k _ j);rw[e]at m;exact⟨b,r,m,q,rc E A⟩
 ·intro k V S z seen j
  obtain⟨b,I,F,K,m,q,A⟩:=g.maps.iters (ρ k) _ _ _ _ (i k _ j);rw[e]at m;exact⟨b,I,F,K,m,q,A⟩
theorem jX{i:Gh}{g:World}(e:Ext (jt d G) w i g):Ext G w (Bt ρ i) g:=by
 have c:=gy a G;exact⟨e.imm,fun k v L f=>e.loc (ρ k) v L ((c.loc k v).trans f),e.cell,e.size,fun k=>by have:=e.lim (ρ k);rwa [c.lim]at this,fun k v j f=>e.nloc (ρ k) v (by rw[c.lim];exact j) ((c.loc k v).trans f),fun k v b l=>e.mloc (ρ k) v b ((c.mloc k v).trans l),e.kept⟩
theorem ns{P:Program}{f:Nat}{b m:List AV}{h' h2:aa}(p:az P f (bz ρ b) (du ρ d h) (bz ρ m) h2)(A:∀k,h2 (ρ k)=bQ ρ (h' k)):az P f b h m h':=by
 refine⟨p.1,fun G B w0 I0 w g q t c=>(p.2 (jt d G) B w0 I0 w g (re a q) (by rw[aP];simpa using t) fun i x u j r=> ?_).mono ?_⟩
 ·rw[aP,xK]at j
  cases n:b[i]? with
  |none=>rw[n]at j;cases j
  |some y=>rw[n]at j;cases j;exact js (gy a G) (c i y u n r)
 ·rintro e D ⟨v,o,rfl,s,z,C⟩
  refine⟨v,Bt ρ o,rfl,jX a s,mj a z A,ej (k6 ρ o) C _ ?_⟩;match m with
  |[]=>rfl
  |[x]=>rfl
  |x::y::l=>rfl
theorem pG{P:Program}{f:Nat}{b:List AV}{x:AV}{h' h2:aa}(n:eY P f (bz ρ b) (du ρ d h) (aH ρ x) h2)(t:∀k,h2 (ρ k)=bQ ρ (h' k)):eY P f b h x h':=by
 refine⟨n.1,fun G B w0 I0 w g o r c=>(n.2 (jt d G) B w0 I0 w g (re a o) (by rw[aP];simpa using r) fun i x u j p=> ?_).mono ?_⟩
 ·rw[aP,xK]at j
  cases l:b[i]? with
  |none=>rw[l]at j;cases j
  |some y=>rw[l]at j;cases j;exact js (gy a G) (c i y u l p)
 ·rintro e A ⟨v,m,rfl,q,s,z⟩
  exact⟨v,Bt ρ m,rfl,jX a q,mj a s t,ej (k6 ρ m) z _ rfl⟩
end
def hY(h:aa):List AV→Option (List D×List Nat)
 |[]=>some ([],[])
 |x::l=>match view 12 h x,hY h l with
  |some r,some a=>some (r.1::a.1,r.2 ++a.2)
  |_,_=>none
theorem nt{h:aa}:∀{l:List AV}{r:List D×List Nat},hY h l=some r→l.length=r.1.length
 |[],r,e=>by simp[hY]at e;subst e;rfl
 |x::l,r,e=>by
  simp only[hY]at e;split at e
  ·rename_i d c b a
   simp only[xA]at e;subst e;simp[nt a]
  ·cases e
theorem jY{h:aa}:∀{l:List AV}{r:List D×List Nat},hY h l=some r→∀(i:Nat)(d:D),r.1[i]? =some d→∃x ks,l[i]? =some x∧view 12 h x=some (d,ks)∧∀k∈ks,k∈r.2
 |[],r,e,i,d,a=>by simp[hY]at e;subst e;simp at a
 |x::l,r,e,i,d,a=>by
  simp only[hY]at e;split at e
  ·rename_i n o m c
   simp only[xA]at e;subst e;cases i with
   |zero=>simp at a;subst a;exact⟨x,n.2,rfl,m,fun k b=>by simp[b]⟩
   |succ i=>
    obtain⟨g,ks,j,h2,f⟩:=jY c i d (by simpa using a);exact⟨g,ks,j,h2,fun k b=>by simp[f k b]⟩
  ·cases e
theorem rN{l:List AV}(h:l.length≠1):dW l= .tup l:=by
 match l,h with
 |[],_=>rfl
 |[_],h=>simp at h
 |_::_::_,_=>rfl
theorem ml{P:Program}{f:Nat}{a H:List AV}{h h':aa}{r:List D×List Nat}(g:az P f a h H h')(F:hY h' H=some r):az P f a h (r.1.map .d) (ae h' (kill h' r.2)):=by
 refine⟨g.1,fun G B w0 I0 w j W S m=>(g.2 G B w0 I0 w j W S m).mono ?_⟩;rintro e K ⟨v,C,rfl,R,I,A⟩;refine⟨v,C.froz h' r.2,rfl,R.trans (Ext.froz I r.2),I.kill r.2, ?_⟩
 have s:∀(x:AV)(y:D)(ks:List Nat)(u:Value),view 12 h' x=some (y,ks)→(∀k∈ks,k∈r.2)→Rep C K x u→Rep (C.froz h' r.2) K (.d y) u:=fun x y ks u O n E=>
  .d ((b8 I 12 _ _ _ _ O E).mono (by
   rintro b o (x|⟨k,V,L,T,Z⟩)
   ·exact .inl x
   ·exact .inr ⟨k,n k V,L,T,Z⟩) (fun _ _ _=>rfl))
 have J:=nt F;by_cases t:H.length=1
 ·obtain⟨x,rfl⟩:=yG.1 t
  obtain⟨l,N⟩:=r;obtain⟨y,rfl⟩:=yG.1 (J▸t);obtain⟨x',ks,q,M,n⟩:=jY F 0 y rfl;simp at q;subst q;exact s _ _ _ _ M n A
 ·rw[rN t]at A
  rw[rN (l:=r.1.map AV.d) (by rw[xV,←J];exact t)];cases A with
  |tup _ vs U p=>
   refine .tup _ vs (by simp;omega) fun i c u g E=> ?_
   rw[xK]at g;cases z:r.1[i]? with
   |none=>rw[z]at g;cases g
   |some d=>
    rw[z]at g;cases g;obtain⟨x,ks,Q,Y,X⟩:=jY F i d z;exact s _ _ _ _ Y X (p i x u Q E)
def cK(F:List Nat)(M:Nat)(k:Nat):Nat:=bif F.any (Nat.beq k)then k else k+M
def p9(F:List Nat)(M:Nat)(j:Nat):Option Nat:=bif F.any (Nat.beq j)then some j else bif Nat.ble M j then (bif F.any (Nat.beq (j-M))then none else some (j-M))else none
theorem uc{F:List Nat}{k:Nat}:F.any (Nat.beq k)=true↔k∈F:=by
 rw[yT];constructor
 ·rintro⟨x,a,h⟩
  rw[xn h];exact a
 ·intro h
  exact⟨k,h,Nat.beq_refl k⟩
theorem gz{F:List Nat}{k:Nat}:F.any (Nat.beq k)=false↔k∉F:=by
 rw[←uc];cases F.any (Nat.beq k)<;>simp
theorem nu{F:List Nat}{M k:Nat}(h:k∈F):cK F M k=k∧p9 F M k=some k:=by
 have:=uc.2 h;simp[cK,p9,this]
theorem mn{F:List Nat}{M k:Nat}(b:∀k∈F,k<M)(h:k∉F):cK F M k=k+M∧p9 F M (k+M)=some k:=by
 have c:=gz.2 h;have h2:F.any (Nat.beq (k+M))=false:=gz.2 fun h=>by have:=b _ h;omega
 have a:Nat.ble M (k+M)=true:=(by simp)
 simp[cK,p9,c,h2,a]
theorem ju{F:List Nat}{M:Nat}(c:∀k∈F,k<M):Names (cK F M) (p9 F M):=by
 constructor
 ·intro k
  by_cases h:k∈F
  ·rw[(nu (M:=M) h).1,(nu h).2]
  ·rw[(mn c h).1,(mn c h).2]
 ·intro j k a
  by_cases h:j∈F
  ·rw[(nu h).2]at a
   cases a;exact(nu h).1
  ·unfold p9 at a
   rw[gz.2 h]at a;simp only[x9]at a;cases h2:Nat.ble M j with
   |false=>rw[h2]at a;cases a
   |true=>
    rw[h2]at a;simp only[yJ]at a;cases b:F.any (Nat.beq (j-M))with
    |true=>rw[b]at a;cases a
    |false=>
     rw[b]at a;simp only[x9,xA]at a;subst a;have:M≤j:=by simpa using h2
     rw[(mn c (gz.1 b)).1];omega
theorem ov(h:aa)(k:Nat):∀(l:List (Nat×aI)),k∈l.map (·.1)→∃e,(k,e)∈l∧af l h k=e
 |[],b=>by simp at b
 |(a,e)::r,b=>by
  simp only[af];by_cases c:k=a
  ·subst c
   exact⟨e,by simp,ad _ _ _⟩
  ·obtain⟨d,f,h2⟩:=ov h k r (by simpa [c]using b)
   exact⟨d,by simp[f],(ab _ _ c).trans h2⟩
theorem zI(ρ:Nat→Nat)(ds:List D):bz ρ (ds.map .d)=ds.map .d:=by
 rw[aP,List.map_map];exact yI fun _ _=>rfl
def cG(M:Nat)(h:aa):aa:=fun k=>bif Nat.blt k M then ⟨0,none⟩else h k
theorem vS{M k:Nat}(h:aa)(b:M≤k):cG M h k=h k:=by
 have:Nat.blt k M=false:=by
  cases a:Nat.blt k M with
  |false=>rfl
  |true=>have:=(show k<M by simpa using a);omega
 simp[cG,this]
theorem vT{M k:Nat}(h:aa)(a:k<M):cG M h k=⟨0,none⟩:=by
 have:Nat.blt k M=true:=by simpa using a
 simp[cG,this]
theorem zJ{F:List Nat}{M k:Nat}(h:k∉F)(c:k<M):p9 F M k=none:=by
 have b:=gz.2 h
 have h2:Nat.ble M k=false:=by
  cases a:Nat.ble M k with
  |false=>rfl
  |true=>have:=(show M≤k by simpa using a);omega
 simp[p9,b,h2]
structure Cln(F:List Nat)(M:Nat)(args:List AV)(pre post:List (Nat×aI)):Prop where
 lt:(F.all fun k=>Nat.blt k M)=true
 preK:pre.map (·.1)=F
 postK:post.map (·.1)=F
 argsK:bz (cK F M) args=args
 preE:(pre.map fun p=>bQ (cK F M) p.2)=pre.map (·.2)
 postE:(post.map fun p=>bQ (cK F M) p.2)=post.map (·.2)
theorem ow{ρ:Nat→Nat}:∀{l:List (Nat×aI)},(l.map fun p=>bQ ρ p.2)=l.map (·.2)→∀k e,(k,e)∈l→bQ ρ e=e
 |[],_,k,e,h=>by cases h
 |p::r,a,k,e,h=>by
  simp only[xI,List.cons.injEq]at a;rcases xR.1 h with rfl|h
  ·exact a.1
  ·exact ow a.2 k e h
section
variable{F:List Nat}{M:Nat}{g:List AV}{a b:List (Nat×aI)}(c:Cln F M g a b)
include c
theorem Cln.ltF:∀k∈F,k<M:=fun k d=>by
 have:=xY.1 c.lt k d;simpa using this
theorem Cln.heap(h:aa):du (cK F M) (p9 F M) (af a h)=af a (cG M (du (cK F M) (p9 F M) (af a h))):=by
 funext k;by_cases d:k∈F
 ·obtain⟨e,l,h2⟩:=ov h k a (by rw[c.preK];exact d)
  have j:=dF a h (cG M (du (cK F M) (p9 F M) (af a h))) (k:=k) (by rw[c.preK];exact d);rw[←j];simp only[du,(nu (M:=M) d).2,h2];exact ow c.preE k e l
 ·rw[bc _ _ (by rw[c.preK];exact d)]
  rcases y9 k M with f|i
  ·rw[vT _ f]
   simp only[du,zJ d f]
  ·rw[vS _ i]
theorem Cln.behind(h:aa){h2:aa}(l:∀k,k∈F→h2 k=af b h2 k)(m:∀k,M≤k→h2 k=af a (cG M (du (cK F M) (p9 F M) (af a h))) k)(k:Nat):h2 (cK F M k)=bQ (cK F M) (af b h k):=by
 by_cases d:k∈F
 ·obtain⟨e,j,i⟩:=ov h k b (by rw[c.postK];exact d)
  rw[(nu d).1,l k d,dF b h2 h (by rw[c.postK];exact d),i];exact(ow c.postE k e j).symm
 ·have f:=c.ltF
  rw[(mn f d).1,m _ (by omega),←c.heap h];simp only[du,(mn f d).2];rw[bc _ _ (by rw[c.preK];exact d),bc _ _ (by rw[c.postK];exact d)]
theorem gA{P:Program}{f:Nat}{ds:List D}(j:∀e:aa,∃h2,az P f g (af a (cG M e)) (ds.map .d) h2∧(∀k,k∈F→h2 k=af b h2 k)∧∀k,M≤k→h2 k=af a (cG M e) k)(e:aa):az P f g (af a e) (ds.map .d) (af b e):=by
 obtain⟨h2,h,i,l⟩:=j (du (cK F M) (p9 F M) (af a e));rw[←c.heap e]at h;refine ns (ju c.ltF) (h2:=h2) ?_ (c.behind e i l);rw[c.argsK,zI];exact h
theorem rf{P:Program}{f:Nat}{x:AV}(h:aH (cK F M) x=x)(j:∀d:aa,∃h2,eY P f g (af a (cG M d)) x h2∧(∀k,k∈F→h2 k=af b h2 k)∧∀k,M≤k→h2 k=af a (cG M d) k)(d:aa):eY P f g (af a d) x (af b d):=by
 obtain⟨h2,e,i,l⟩:=j (du (cK F M) (p9 F M) (af a d));rw[←c.heap d]at e;refine pG (ju c.ltF) (h2:=h2) ?_ (c.behind d i l);rw[c.argsK,h];exact e
end
def gB(r:Option (List AV×aa×Nat×List Nat×ah))(F:List Nat)(M:Nat)(ds:List D)(a:List (Nat×aI)):Option (au×ah):=
 match r with
 |some (b,h',_,tk,c)=>match hY h' b,aE h' a with
  |some v,some q=>match (v.2.all fun k=>Nat.blt k M&& !(F.any (Nat.beq k)))&&tk.all fun k=>Nat.blt k M with
   |true=>some (.ret,(.ds v.1, .ds ds)::(c ++q))
   |false=>none
  |_,_=>none
 |none=>none
theorem ak{P:Program}(hm:d4 P)(I:bl P)(J:Par P)(n m g M:Nat){j:List AV}{ds:List D}{f a:List (Nat×aI)}(c:Cln (f.map (·.1)) M j f a)
    (h:∀b:aa,iH (gB (dG P (aJ P J n) m g j (af f (cG M b))) (f.map (·.1)) M ds a)=iI .ret (gB (dG P (aJ P J n) m g j (af f (cG M b))) (f.map (·.1)) M ds a)) (b:aa):az P g j (af f b) (ds.map .d) (af a b):=by
 refine gA c (fun b=> ?_) b;obtain⟨ps,l,A⟩:=dU (h b);unfold gB at l;split at l;case h_2=>cases l
 rename_i W h' Y tk V E;split at l;case h_2=>cases l
 rename_i v q U T;split at l;case h_2=>cases l
 rename_i C;simp only[xA,xC,true_and]at l;subst l;have K:=A.head;simp only[ax.ds.injEq]at K;subst K;rw[xU]at C
 have t:∀k∈v.2,k<M∧k∉f.map (·.1):=fun k y=>by
  have:=xY.1 C.1 k y;simp only[xU,xu]at this;exact⟨by simpa using this.1,gz.1 this.2⟩
 have H:∀k∈tk,k<M:=fun k F=>by
  have:=xY.1 C.2 k F;simpa using this
 obtain⟨c1,N⟩:=cE hm I (b6 hm I n) E A.tail.left;have L:=ml c1 U;have s:=eP h' a (aB T A.tail.right);refine⟨af a (ae h' (kill h' v.2)),⟨L.1,fun G B w0 I0 w p E x r=>(L.2 G B w0 I0 w p E x r).mono ?_⟩,fun k i=> ?_,fun k S=> ?_⟩
 ·rintro e Z ⟨u,Q,rfl,R,X,O⟩
  refine⟨u,Q,rfl,R,X.forget fun k=> ?_,O⟩;by_cases i:k∈a.map (·.1)
  ·have z:k∉v.2:=fun o=>(t k o).2 (by rw[←c.postK];exact i)
   rw[aN,xi z,dF a _ h' i];exact s k
  ·rw[bc _ _ i]
   exact⟨rfl, .inr rfl⟩
 ·exact dF _ _ _ (by rw[c.postK];exact i)
 ·have i:k∉f.map (·.1):=fun o=>by have:=c.ltF k o;omega
  rw[bc _ _ (by rw[c.postK];exact i),aN,xi fun o=>by have:=(t k o).1;omega];exact N k fun o=>by have:=H k o;omega
def gC(r:Option (AV×aa×Nat×List Nat×ah))(M:Nat)(x:AV)(a:List (Nat×aI)):Option (au×ah):=
 match r with
 |some (c,h',_,tk,b)=>match aE h' a with
  |some q=>match tk.all fun k=>Nat.blt k M with
   |true=>some (.ret,(.av c, .av x)::(b ++q))
   |false=>none
  |_=>none
 |none=>none
theorem mo{P:Program}(hm:d4 P)(A:bl P)(C:Par P)(n j g M:Nat){f:List AV}{x:AV}{d b:List (Nat×aI)}(c:Cln (d.map (·.1)) M f d b)(p:aH (cK (d.map (·.1)) M) x=x)
    (h:∀a:aa,iH (gC (jV P (aJ P C n) j g f (af d (cG M a))) M x b)=iI .ret (gC (jV P (aJ P C n) j g f (af d (cG M a))) M x b)) (a:aa):eY P g f (af d a) x (af b a):=by
 refine rf c p (fun a=> ?_) a;obtain⟨T,i,t⟩:=dU (h a);unfold gC at i;split at i;case h_2=>cases i
 rename_i O h' R tk N v;split at i;case h_2=>cases i
 rename_i q K;split at i;case h_2=>cases i
 rename_i L;simp only[xA,xC,true_and]at i;subst i;have D:=t.head;simp only[ax.av.injEq]at D;subst D
 have z:∀k∈tk,k<M:=fun k y=>by
  have:=xY.1 L k y;simpa using this
 obtain⟨c1,E⟩:=ou hm A (b6 hm A n) v t.tail.left;have r:=eP h' b (aB K t.tail.right);refine⟨af b h',⟨c1.1,fun G B w0 I0 w m v s o=>(c1.2 G B w0 I0 w m v s o).mono ?_⟩,fun k l=> ?_,fun k J=> ?_⟩
 ·rintro e S ⟨u,H,rfl,I,Q,F⟩
  exact⟨u,H,rfl,I,Q.forget r,F⟩
 ·exact dF _ _ _ (by rw[c.postK];exact l)
 ·have l:k∉d.map (·.1):=fun p=>by have:=c.ltF k p;omega
  rw[bc _ _ (by rw[c.postK];exact l)];exact E k fun p=>by have:=z k p;omega
end Go.Avm
namespace Go.Avm
open Go.RowKit
variable[ap]
section
variable{X:bD}{c:Code}{S S':St}{Q:au→St→Prop}
theorem LW.weak(f:Weak X S S')(h:LW X c S' Q):LW X c S Q:=fun G a w l=>by
 obtain⟨b,j,d⟩:=f G a w l;exact hF (h b a w d) fun e n m ⟨i,S',g,x,q,k,r⟩=>⟨i,S',g,x,q,j.trans k,r⟩
theorem zK{S1:St}(h:AW X c S fun a S'=>a= .normal∧Weak X S' S1)(d:LW X c S1 Q):LW X c S Q:=
 eB (h.mono fun a S' ⟨e,b⟩=>by subst e;exact d.weak b)
theorem zL{b:St}{e:au}(h:AW X c S fun a S'=>a=e∧Weak X S' b)(g:e≠ .normal):LW X c S fun a S'=>a=e∧S'=b:=
 eB (jn (h.mono fun a S' ⟨d,f⟩=>⟨b,f,by
  subst d;cases a with
  |normal=>exact absurd rfl g
  |_=>exact⟨rfl,rfl⟩⟩))
end
end Go.Avm
namespace Go.Avm
variable[ap]
theorem kD{P:Program}{g:Nat}(y:ch P g)
    (E:∀(b:Nat)(es:Array MapEntry)(c:Nat)(w:World),w.heap[b]? =some (.map es c)→Calls P g #[.map (some b)] w fun e z=>e= .returned (.map (some w.heap.size))∧z=w.alloc (.map es c))
    {h:aa} {k v:Nat} (j:Nat) {es:List (D×D×Nat)} {c:Nat} (A:h k=⟨v,some (.map es c)⟩):
    az P g [.mp k v] h [.mp j ((h j).ver+1)] (aq h j ⟨(h j).ver+1,some (.map es c)⟩):=by
 refine⟨y,fun G B w0 I0 w a n I d=> ?_⟩
 obtain⟨u,rfl⟩:∃u,a= #[u]:=by
  have O:a.size=1:=I;refine⟨a[0],Array.ext (by simp[O]) (fun i S _=> ?_)⟩;have:i=0:=by omega
  subst this;rfl
 have M:=d 0 _ u rfl rfl;obtain⟨b,C,p,hm,q,f⟩:=n.maps.obj k es c (by rw[A]);have N:(h k).ver=v:=by rw[A]
 rw[N]at C;cases M with
 |mp _ _ K J=>
  obtain rfl:b=K:=Option.some.inj (C.symm.trans J);refine(E b p c w hm).mono ?_;rintro e z ⟨rfl,rfl⟩;have r:=n.allocAny (.map p c);have l:=Ext.alloc n (.map p c)
  obtain⟨s,Q⟩:=r.newMap j (b:=w.heap.size) (c:=c) (es:=es) n.bsz (fun k v x=>by
   obtain⟨_,⟨o,_,h2⟩,_⟩:=n.maps.low _ _ _ x
   have:=(xG.1 h2).1;omega) ⟨p,heap_alloc_new w _,q,fun i e m H t=>by
    obtain⟨L,F,R⟩:=f i e m H t;exact⟨L.mono l.imm l.cell,F.mono l.imm l.cell,R⟩⟩
  exact⟨_,_,rfl,l.trans Q,s, .mp _ _ _ (by simp[Gh.atMap])⟩
theorem HR.moveMap{G:Gh}{B:Nat}{w0 w:World}{I0:Nat→Nat→Prop}{h:aa}(i:HR G B w0 I0 h w){T K v:Nat}{es:List (D×D×Nat)}{c:Nat}(m:h T=⟨v,some (.map es c)⟩)(p:K≠T):
    ∃b,G.mloc T v=some b∧HR (G.atMap K ((h K).ver+1) b) B w0 I0 (aq (aq h T ⟨v,none⟩) K ⟨(h K).ver+1,some (.map es c)⟩) w∧Ext G w (G.atMap K ((h K).ver+1) b) w:=by
 obtain⟨b,j,hm⟩:=i.maps.obj T es c (by rw[m]);have q:(h T).ver=v:=by rw[m]
 rw[q]at j
 have r:HR G B w0 I0 (aq h T ⟨v,none⟩) w:=i.forget (fun k=>by
  by_cases a:k=T
  ·subst a;rw[ad];exact⟨q.symm, .inl rfl⟩
  ·rw[ab _ _ a];exact⟨rfl, .inr rfl⟩)
 have u:(aq h T ⟨v,none⟩ K).ver=(h K).ver:=by rw[ab _ _ p]
 obtain⟨s,f,n⟩:=hm;have d:=i.maps.low T v b j
 have g:=r.newFixO K (b:=b) (oo:=some (.map es c)) (o:= .map s c) (fun o' e=>by cases e;rfl) d.1 (fun t y l x=>by
  by_cases a:t=T
  ·subst a;rw[ad]at l;cases l
  ·rw[ab _ _ a]at l x
   exact a (i.maps.inj t T b l (by rw[m];rfl) x (by rw[q];exact j))) rfl f (fun es' c' e=>by cases e;exact⟨s,f,n⟩) (fun _ _ _ _ _ _ _ e=>by cases e) (fun _ _ _ _ e=>by cases e)
 rw[u]at g;exact⟨b,j,g⟩
end Go.Avm
namespace Go.Avm
variable[ap]
theorem sS{P:Program}{G:Gh}{B:Nat}{w0 w:World}{I0:Nat→Nat→Prop}{h:aa}{env:Nat→AV}{a:Act}{op:Oper}(Y:HR G B w0 I0 h w)(I:∀x,Rep G w (opd env x) (a.eval x))
    {t kt et:TypeId} {m x:Operand} {k v c:Nat} {es:List (D×D×Nat)} {kd y:D} {i:Nat} {z:Call} (T:op.op= .call z) (J:z.callee= .builtin .delete) (p:z.args= #[m,x]) (W:z.argTypes[0]? =some t) (Z:P.underlying t=some (.map kt et))
    (hm:opd env m= .mp k v) (hx:opd env x= .d kd) (o:h k=⟨v,some (.map es c)⟩) (L:fd P kt kd=true) (hf:bJ kd es 0=some (some (i,y))):
    ∃Q O S,(execOp a.eval op).run P w= .ok (.value Q) O∧Ext G w S O∧HR S B w0 I0 (aq h k ⟨v,some (.map (es.eraseIdx i) c)⟩) O∧Rep S O (.tup []) Q:=by
 have q:=I m;have n:=I x;rw[hm]at q;rw[hx]at n;generalize N:a.eval m=vm at q;generalize K:a.eval x=vx at n;cases q with
 |mp _ _ b X=>
 cases n with
 |d H=>
 obtain⟨b',E,r,M,A,g⟩:=Y.maps.obj k es c (by rw[o]);have l:(h k).ver=v:=by rw[o]
 rw[l,X]at E;cases E;obtain⟨Q,F,_,m',U,V⟩:=cQ H L es r.toList (by simpa using A) (fun i e m s hm=>g i e m s (by simpa using hm)) hf;have hi:i<r.size:=by simpa using (xD.1 U).1
 have C:=gi (P:=P) H L r.isEmpty w
 have f:(r.eraseIdxIfInBounds i).toList=r.toList.eraseIdx i:=by
  unfold Array.eraseIdxIfInBounds;rw[dif_pos hi];simp
 obtain⟨h1,h2⟩:=Y.setMap (k:=k) (c':=c) (ms':=r.eraseIdxIfInBounds i) (es':=es.eraseIdx i) (by rw[o];rfl) (by rw[l];exact X) M (by
  have:=congrArg List.length f;rw[x5]at this;rw[this,List.length_eraseIdx,List.length_eraseIdx];simp[A]) (fun j e m s hm=>by
  rw[←xX,f]at hm;rw[List.getElem?_eraseIdx]at s hm;rw[xX,xX]at hm;split at s
  ·rename_i R;rw[xW R]at hm;exact g j e m s hm
  ·rename_i R;rw[xi R]at hm;exact g (j+1) e m s hm)
 rw[l]at h1;refine⟨.tuple #[],_,G, ?_,h2,h1, .tup _ _ rfl (fun i c u h=>by cases h)⟩;unfold execOp;rw[T];show((do let d ←resolve a.eval z op.type;invoke d.target d.args:Sem Next).run P w)=_;rw[b4 z .delete op.type a.eval J,p];simp only[builtin,Builtin.delete_,W,Sem.run_bind,run_underlying Z,Result.andThen_ok,Go.MapKept.run_getObj_map (P:=P) M,C,F,Go.MapKept.run_setObj_map (P:=P) _ M,Sem.run_pure,List.map_toArray,xI,xg,N,K];simp[run_underlying Z,Result.andThen,Go.MapKept.run_getObj_map (P:=P) M,C,F,Go.MapKept.run_setObj_map (P:=P) _ M,N,K];rfl
theorem jv{X:bD}{env:Nat→AV}{h:aa}{C a T K v c:Nat}{ces:List AV}{es:List (D×D×Nat)}(i:C≠K)(j:C≠T)(d:K≠T)(t:(h C).ob=some (.arr 1 ces))(r:ces[a]? =some (.mp T v))(l:h T=⟨v,some (.map es c)⟩):
    Weak X ⟨env,h⟩ ⟨env,aq (aq (aq h T ⟨v,none⟩) K ⟨(h K).ver+1,some (.map es c)⟩) C ⟨(h C).ver,some (.arr 1 (ces.set a (.mp K ((h K).ver+1))))⟩⟩:=fun G ac w ⟨p,s,z,B⟩=>by
 obtain⟨b,A,g,e⟩:=p.moveMap (K:=K) l d;have f:(aq (aq h T ⟨v,none⟩) K ⟨(h K).ver+1,some (.map es c)⟩ C)=h C:=by rw[ab _ _ i,ab _ _ j]
 have h2:=g.recell (C:=C) (a:=a) (x:= .mp T v) (y:= .mp K ((h K).ver+1)) (by rw[f];exact t) r rfl (fun u q=>by
  cases q with
  |mp _ _ n k=>
   have o:¬(T=K∧v=(h K).ver+1):=fun x=>d x.1.symm
   have:n=b:=by
    have m:(G.atMap K ((h K).ver+1) b).mloc T v=G.mloc T v:=by simp[Gh.atMap,Ne.symm d]
    rw[m,A]at k;exact(Option.some.inj k).symm
   subst this;exact .mp _ _ _ (by simp[Gh.atMap]))
 rw[f]at h2;exact⟨_,e,h2,s,z.mono e,B.mono e⟩
end Go.Avm
namespace Go.Avm
open Go.RowKit
variable[ap]
def ud(ρ:Nat→Nat):au→au
 | .panic x=> .panic (aH ρ x)
 |e=>e
theorem sT{ρ:Nat→Nat}{x:AV}(h:aH ρ x= .junk):x= .junk:=by
 cases x<;>first|rfl|(simp only[aH,reduceCtorEq]at h)
section
variable{ρ:Nat→Nat}{d:Nat→Option Nat}(b:Names ρ d)
include b
theorem ue{X:bD}{c:Code}{env env':Nat→AV}{h h':aa}{e:au}(r:ud ρ e=e)
    (E:AW X c ⟨fun t=>aH ρ (env t),du ρ d h⟩ fun l j=>l=e∧(∀t,j.env t=aH ρ (env' t))∧∀k,j.heap (ρ k)=bQ ρ (h' k)):
    AW X c ⟨env,h⟩ fun l j=>l=e∧j=⟨env',h'⟩:=fun G a w H=>by
 obtain⟨C,F,m,B⟩:=H;have I:=gy b G
 have o:db X (jt d G) ⟨fun t=>aH ρ (env t),du ρ d h⟩ a w:=
  ⟨re b C,F,⟨m.size,m.nod,fun t g=>js I (m.rep t g),fun t g=>by
   have:=m.out t g;simp only at this;simp only[this,aH]⟩,B⟩
 refine wpIn_mono (E _ a w o) ?_;rintro A J K ⟨s,j,z,x,⟨rfl,u,h2⟩,l,n,q,f,p⟩;have i:=k6 ρ z;refine⟨s,⟨env',h'⟩,Bt ρ z, ?_,⟨rfl,rfl⟩,jX b l,mj b n h2,q,⟨f.size,f.nod,fun t g=> ?_,fun t g=> ?_⟩,p⟩
 ·cases s with
  |panic y=>
   obtain⟨v,rfl,D⟩:=x.panic;simp only[ud,au.panic.injEq]at r;exact⟨v,rfl,ej i D y r⟩
  |_=>cases A<;>first|exact x|exact x.elim
 ·have:=f.rep t g
  rw[u t]at this;exact ej i this _ rfl
 ·have:=f.out t g
  rw[u t]at this;exact sT this
end
def rh(C a K sz:Nat)(h:aa):Option (aa×List Nat):=
 match (h C).ob with
 |some (.arr 1 ces)=>match ces[a]? with
  |some (.mp T v)=>match h T with
   |⟨b,some (.map es c)⟩=>match Nat.beq b v&&(!(Nat.beq C K)&&(!(Nat.beq C T)&& !(Nat.beq K T)))with
    |true=>some (aq (aq (aq h T ⟨v,none⟩) K ⟨(h K).ver+1,some (.map es c)⟩) C ⟨(h C).ver,some (.arr 1 (ces.set a (.mp K ((h K).ver+1))))⟩,[T,K])
    |false=>none
   |_=>none
  |some .nils=>match Nat.beq C K with
   |false=>some (aq (aq h K ⟨(h K).ver+1,some (.arr sz [])⟩) C ⟨(h C).ver,some (.arr 1 (ces.set a (.sl K ((h K).ver+1) 0 0 sz)))⟩,[K])
   |true=>none
  |_=>none
 |_=>none
theorem pH{X:bD}{env:Nat→AV}{C a K sz:Nat}{h h2:aa}{ks:List Nat}(e:rh C a K sz h=some (h2,ks)):Weak X ⟨env,h⟩ ⟨env,h2⟩∧∀k,k∉ks→k≠C→h2 k=h k:=by
 unfold rh at e;split at e;case h_2=>cases e
 rename_i ces f;split at e
 ·rename_i T v i
  split at e;case h_2=>cases e
  rename_i s es c p;split at e;case h_2=>cases e
  rename_i n;simp only[xU,xu,Nat.beq_eq_true_eq]at n;obtain⟨r,q,m,o⟩:=n
  have l:∀{x y:Nat},Nat.beq x y=false→x≠y:=fun d e=>by
   subst e;rw[Nat.beq_refl]at d;cases d
  obtain rfl:=xn r;simp only[xA,xC]at e;obtain⟨rfl,rfl⟩:=e;refine⟨jv (l q) (l m) (l o) f i p,fun k b j=> ?_⟩;simp only[xR,yD,or_false,yS]at b;rw[ab _ _ j,ab _ _ b.2,ab _ _ b.1]
 ·rename_i i
  split at e;case h_2=>cases e
  rename_i d
  have g:C≠K:=fun e=>by
   subst e;rw[Nat.beq_refl]at d;cases d
  simp only[xA,xC]at e;obtain⟨rfl,rfl⟩:=e;refine⟨fF g f i,fun k b j=> ?_⟩;simp only[xR,yD,or_false]at b;rw[ab _ _ j,ab _ _ b]
 ·cases e
def ea:List (Nat×Nat)→aa→Option (aa×List Nat)
 |[],h=>some (h,[])
 |(C,a)::r,h=>match Nat.blt a 1048576 with
  |true=>match (h C).ob with
   |some (.arr 1 ces)=>match ces[a]? with
    |some x=>match view 12 h x with
     |some (d,ks)=>match d.one&& !(ks.any (Nat.beq C))with
      |true=>(ea r (aq (ae h (kill h ks)) C ⟨(h C).ver,some (.arr 1 (ces.set a (.d d)))⟩)).map fun q=>(q.1,ks ++q.2)
      |false=>none
     |none=>none
    |none=>none
   |_=>none
  |false=>match rh C (a % 1024) (a/1048576) (a/1024 % 1024) h with
   |some y=>(ea r y.1).map fun q=>(q.1,y.2 ++q.2)
   |none=>none
theorem dp{X:bD}{env:Nat→AV}:∀{l:List (Nat×Nat)}{h h2:aa}{ks:List Nat},ea l h=some (h2,ks)→Weak X ⟨env,h⟩ ⟨env,h2⟩∧∀k,k∉ks→k∉l.map (·.1)→h2 k=h k
 |[],h,h2,ks,e=>by
  simp only[ea,xA,xC]at e;obtain⟨rfl,rfl⟩:=e;exact⟨Weak.refl _,fun _ _ _=>rfl⟩
 |(C,a)::r,h,h2,ks,e=>by
  simp only[ea]at e;split at e
  ·split at e
   case h_2=>cases e
   rename_i ces o;split at e;case h_2=>cases e
   rename_i x t;split at e;case h_2=>cases e
   rename_i d j u;split at e;case h_2=>cases e
   rename_i n;simp only[xB,xC]at e;obtain⟨⟨i,m⟩,p,rfl,rfl⟩:=e;rw[xU,xu]at n;have v:C∉j:=gz.1 n.2;have g:=dT (X:=X) (env:=env) v o t n.1 u;have f:=dp (X:=X) (env:=env) p;refine⟨g.trans f.1,fun k c b=> ?_⟩;simp only[xJ,yS]at c;simp only[xI,xR,yS]at b;show i k=h k;rw[f.2 k c.2 b.2,ab _ _ b.1,aN,xi c.1]
  ·split at e
   case h_2=>cases e
   rename_i y s;simp only[xB,xC]at e;obtain⟨⟨i,m⟩,p,rfl,rfl⟩:=e;obtain⟨w,q⟩:=y;have g:=pH (X:=X) (env:=env) s;have f:=dp (X:=X) (env:=env) p;refine⟨g.1.trans f.1,fun k c b=> ?_⟩;simp only[xJ,yS]at c;simp only[xI,xR,yS]at b;show i k=h k;rw[f.2 k c.2 b.2];exact g.2 k c.1 b.1
def uf(r:Option (au×St×Nat×List Nat×ah))(F:List Nat)(M:Nat)(fz:List (Nat×Nat))(l':List (Nat×AV))(a:List (Nat×aI)):Option (au×ah):=
 match r with
 |some (e,S,_,tk,b)=>match ea fz S.heap with
  |some z=>match aE z.1 a with
   |some q=>match ((z.2 ++(tk ++fz.map (·.1))).all fun k=>Nat.blt k M)with
    |true=>some (e,b ++(eD S.env l' ++q))
    |false=>none
   |none=>none
  |none=>none
 |none=>none
theorem jw{ρ:Nat→Nat}:∀{l:List (Nat×AV)},bz ρ (l.map (·.2))=l.map (·.2)→(l.map fun p=>(p.1,aH ρ p.2))=l
 |[],_=>rfl
 |(k,x)::r,h=>by
  simp only[xI,bz,List.cons.injEq]at h;simp only[xI,jw h.2,h.1]
theorem BH{P:Program}(hm:d4 P)(F:bl P)(C:Par P)(n s i N M:Nat)(fz:List (Nat×Nat)){c:Code}{l l':List (Nat×AV)}{a b:List (Nat×aI)}{e:au}
    (o:Cln (a.map (·.1)) M (l.map (·.2)) a b) (y:bz (cK (a.map (·.1)) M) (l'.map (·.2))=l'.map (·.2)) (r:ud (cK (a.map (·.1)) M) e=e)
    (h:∀d:aa,iH (uf (aJ P C n s i N c ⟨ag l,af a (cG M d)⟩) (a.map (·.1)) M fz l' b)=iI e (uf (aJ P C n s i N c ⟨ag l,af a (cG M d)⟩) (a.map (·.1)) M fz l' b))
    (d:aa) (X:bD) (G:X.P=P) (O:X.N=N):AW X c ⟨ag l,af a d⟩ fun D S'=>D=e∧S'=⟨ag l',af b d⟩:=by
 refine ue (ju o.ltF) r ?_
 have u:(fun t=>aH (cK (a.map (·.1)) M) (ag l t))=ag l:=by
  funext t;rw[←cF,jw o.argsK]
 have j:∀t,aH (cK (a.map (·.1)) M) (ag l' t)=ag l' t:=fun t=>by
  rw[←cF,jw y]
 rw[u,o.heap d];have L:=h (du (cK (a.map (·.1)) M) (p9 (a.map (·.1)) M) (af a d));obtain⟨V,f,x⟩:=dU L;unfold uf at f;split at f;case h_2=>cases f
 rename_i T S1 U tk Q v;split at f;case h_2=>cases f
 rename_i z R;split at f;case h_2=>cases f
 rename_i q J;split at f;case h_2=>cases f
 rename_i K;simp only[xA,xC]at f;obtain⟨rfl,rfl⟩:=f;have E:=b6 hm F n _ _ _ _ _ _ _ _ _ _ v x.left
 have w:∀k,k∈z.2 ++(tk ++fz.map (·.1))→k<M:=fun k A=>by
  have:=xY.1 K k A;simpa using this
 obtain⟨p,I⟩:=z;have B:=dp (X:=X) (env:=S1.env) R;refine jn ((E.1 X G O).mono ?_);rintro D S' ⟨rfl,rfl⟩;refine⟨⟨ag l',af b p⟩,B.1.trans (jm (S:=⟨S'.env,p⟩) x.right.left J x.right.right),rfl,fun t=>(j t).symm, ?_⟩;refine o.behind d (fun k m=> ?_) (fun k H=> ?_)
 ·exact dF b p (af b p) (by rw[o.postK];exact m)
 ·have m:k∉a.map (·.1):=fun r=>by have:=o.ltF k r;omega
  have g:k∉I ++(tk ++fz.map (·.1)):=fun r=>by have:=w k r;omega
  simp only[xJ,yS]at g;show af b p k=_;rw[bc b p (by rw[o.postK];exact m)];rw[B.2 k g.1 g.2.2,E.2 k g.2.1]
theorem bM{X:bD}{c:Code}{S S1:St}{Q:au→St→Prop}(h:AW X c S fun b S'=>b= .normal∧S'=S1)(d:LW X c S1 Q):LW X c S Q:=
 zK (h.mono fun _ _ ⟨a,h2⟩=>⟨a,h2▸Weak.refl _⟩) d
theorem bA{X:bD}{c:Code}{S b:St}{e:au}(h:AW X c S fun a S'=>a=e∧S'=b)(f:e≠ .normal):LW X c S fun a S'=>a=e∧S'=b:=
 zL (h.mono fun _ _ ⟨d,h2⟩=>⟨d,h2▸Weak.refl _⟩) f
theorem ri{P:Program}(hm:d4 P){G:Gh}{B:Nat}{w0 w:World}{I0:Nat→Nat→Prop}{h h2:aa}{fz:List (Nat×Nat)}{ks:List Nat}(j:ea fz h=some (h2,ks))(g:HR G B w0 I0 h w):∃a,Ext G w a w∧HR a B w0 I0 h2 w:=by
 let X:bD:={P:=P,B:=B,w0:=w0,I0:=I0,N:=0,mixed:=hm}
 have i:=(dp (X:=X) (env:=fun _=> .junk) j).1;obtain⟨a,e,d,_⟩:=i G {tmps:= #[],defers:=[]} w ⟨g,[],⟨rfl,rfl,fun t k=>absurd k (by simp[X]),fun _ _=>rfl⟩,⟨yE,fun b c=>by simp at c,fun b c=>by simp at c,fun l f=>by simp[X]at f,yd _⟩⟩;exact⟨a,e,d⟩
theorem ox{P:Program}(hm:d4 P){f:Nat}{a i:List AV}{h g h2:aa}{fz:List (Nat×Nat)}{ks:List Nat}(j:az P f a h i g)(m:ea fz g=some (h2,ks)):az P f a h i h2:=by
 refine⟨j.1,fun G B w0 I0 w c l o b=>(j.2 G B w0 I0 w c l o b).mono ?_⟩;rintro e s ⟨v,t,rfl,n,q,r⟩;obtain⟨p,d,k⟩:=ri hm m q;exact⟨v,p,rfl,n.trans d,k,r.mono d⟩
def jZ(r:Option (List AV×aa×Nat×List Nat×ah))(F:List Nat)(M:Nat)(fz:List (Nat×Nat))(ds:List D)(a:List (Nat×aI)):Option (au×ah):=
 match r with
 |some (b,h',_,tk,c)=>match ea fz h' with
  |some z=>match hY z.1 b,aE z.1 a with
   |some v,some q=>match (v.2.all fun k=>Nat.blt k M&& !(F.any (Nat.beq k)))&&(z.2 ++(tk ++fz.map (·.1))).all fun k=>Nat.blt k M with
    |true=>some (.ret,(.ds v.1, .ds ds)::(c ++q))
    |false=>none
   |_,_=>none
  |none=>none
 |none=>none
theorem gD{P:Program}(hm:d4 P)(L:bl P)(N:Par P)(n o g M:Nat)(fz:List (Nat×Nat)){j:List AV}{ds:List D}{f a:List (Nat×aI)}(c:Cln (f.map (·.1)) M j f a)
    (h:∀b:aa,iH (jZ (dG P (aJ P N n) o g j (af f (cG M b))) (f.map (·.1)) M fz ds a)=iI .ret (jZ (dG P (aJ P N n) o g j (af f (cG M b))) (f.map (·.1)) M fz ds a)) (b:aa):az P g j (af f b) (ds.map .d) (af a b):=by
 refine gA c (fun b=> ?_) b;obtain⟨ps,l,F⟩:=dU (h b);unfold jZ at l;split at l;case h_2=>cases l
 rename_i rs' h' b' tk ps' I;split at l;case h_2=>cases l
 rename_i z S;obtain⟨y,O⟩:=z;split at l;case h_2=>cases l
 rename_i v q hv hq;split at l;case h_2=>cases l
 rename_i H;simp only[xA,xC,true_and]at l;subst l;have Q:=F.head;simp only[ax.ds.injEq]at Q;subst Q;rw[xU]at H
 have x:∀k∈v.2,k<M∧k∉f.map (·.1):=fun k C=>by
  have:=xY.1 H.1 k C;simp only[xU,xu]at this;exact⟨by simpa using this.1,gz.1 this.2⟩
 have K:∀k,k∈O ++(tk ++fz.map (·.1))→k<M:=fun k J=>by
  have:=xY.1 H.2 k J;simpa using this
 obtain⟨c1,T⟩:=cE hm L (b6 hm L n) I F.tail.left;have R:=ml (ox hm c1 S) hv;have t:=eP y a (aB hq F.tail.right);refine⟨af a (ae y (kill y v.2)),⟨R.1,fun G B w0 I0 w r I A s=>(R.2 G B w0 I0 w r I A s).mono ?_⟩,fun k i=> ?_,fun k Z=> ?_⟩
 ·rintro e w' ⟨u,W,rfl,Y,e2,V⟩
  refine⟨u,W,rfl,Y,e2.forget fun k=> ?_,V⟩;by_cases i:k∈a.map (·.1)
  ·have E:k∉v.2:=fun p=>(x k p).2 (by rw[←c.postK];exact i)
   rw[aN,xi E,dF a _ y i];exact t k
  ·rw[bc _ _ i]
   exact⟨rfl, .inr rfl⟩
 ·exact dF _ _ _ (by rw[c.postK];exact i)
 ·have i:k∉f.map (·.1):=fun p=>by have:=c.ltF k p;omega
  rw[bc _ _ (by rw[c.postK];exact i),aN,xi fun p=>by have:=(x k p).1;omega];have m:k∉O ++(tk ++fz.map (·.1)):=fun p=>by have:=K k p;omega
  simp only[xJ,yS]at m;have U:=dp (X:=⟨P,0,default,fun _ _=>False,0,hm,none,0,[]⟩) (env:=fun _=> .junk) S;rw[U.2 k m.1 m.2.2];exact T k m.2.1
end Go.Avm
namespace Go.Avm
structure T where
 k:Int
 p:Int
 t:List UInt8
 n:Int
 deriving Inhabited
inductive Ex where
 |mk (k o:Int) (nm:List UInt8) (n p:Int) (xs:List Ex)
inductive cf where
 |mk (k id:Int) (nm:List UInt8) (ty n p:Int) (es:List Ex) (bd el:List cf)
mutual
def e8:Ex→D
 | .mk k o a n p xs=> .agg [.int .u8 k, .int .u8 o, .str a, .int .i64 n, .int .i64 p, .ro (fo xs)]
def fo:List Ex→List D
 |[]=>[]
 |x::l=>e8 x::fo l
end
mutual
def oy:cf→D
 | .mk k id c ty n p es a b=> .agg [.int .u8 k, .int .i64 id, .str c, .int .u8 ty, .int .i64 n, .int .i64 p, .ro (fo es), .ro (cZ a), .ro (cZ b)]
def cZ:List cf→List D
 |[]=>[]
 |x::l=>oy x::cZ l
end
structure Pm where
 nm:List UInt8
 ty:Int
 p:Int
def gU(x:Pm):D:= .agg [.str x.nm, .int .u8 x.ty, .int .i64 x.p]
structure Fn where
 nm:List UInt8
 ps:List Pm
 res:Int
 bd:List cf
 p:Int
def cR(x:Fn):D:= .agg [.str x.nm, .ro (x.ps.map gU), .int .u8 x.res, .ro (cZ x.bd), .int .i64 x.p]
theorem gQ:∀l,fo l=l.map e8
 |[]=>rfl
 |x::l=>by simp[fo,gQ l]
theorem k7:∀l,cZ l=l.map oy
 |[]=>rfl
 |x::l=>by simp[cZ,k7 l]
theorem cg(l:List Ex):(fo l).length=l.length:=by simp[gQ]
theorem jz(l:List cf):(cZ l).length=l.length:=by simp[k7]
structure RS where
 i:Nat
 op:Int
 n:Int
inductive Res(α:Type) where
 |ok (a:α) (s:RS)
 |bad (p e:Int) (s:RS)
 |out
def Res.bind{b c:Type}(r:Res b)(f:b→RS→Res c):Res c:=match r with
 | .ok a s=>f a s
 | .bad p e s=> .bad p e s
 | .out=> .out
def rO(x:Int):Int:=IntKind.wrap .i64 x
section
variable(L:List T)
def ug(s:RS):T:=L.getD s.i default
def RS.nx(s:RS):RS:={s with i:=s.i+1}
def RS.st(s:RS):RS:={s with n:=rO (s.n+1)}
end
def Gr{c:Type}(s:RS)(r:Res c):Prop:=∀a b,r= .ok a b→s.i<b.i
def Gq{c:Type}(s:RS)(r:Res c):Prop:=∀a b,r= .ok a b→s.i≤b.i
theorem Gr.le{b:Type}{s:RS}{r:Res b}(h:Gr s r):Gq s r:=fun a c e=>Nat.le_of_lt (h a c e)
theorem Gr.bind{g k:Type}{s:RS}{r:Res g}{f:g→RS→Res k}(h:Gr s r)(j:∀a d,r= .ok a d→Gq d (f a d)):Gr s (r.bind f):=fun b i e=>by
 cases r with
 |ok a c=>exact yP (h a c rfl) (j a c rfl b i e)
 |bad p q c=>cases e
 |out=>cases e
theorem Gq.bind{g k:Type}{s:RS}{r:Res g}{f:g→RS→Res k}(h:Gq s r)(j:∀a d,r= .ok a d→Gr d (f a d)):Gr s (r.bind f):=fun b i e=>by
 cases r with
 |ok a c=>exact Nat.lt_of_le_of_lt (h a c rfl) (j a c rfl b i e)
 |bad p q c=>cases e
 |out=>cases e
theorem Gq.ok{b:Type}(a:b)(s:RS):Gq s (.ok a s):=fun _ _ e=>by cases e;exact xO _
theorem Gq.out{a:Type}(s:RS):Gq s (Res.out:Res a):=fun _ _ e=>by cases e
theorem Gr.out{a:Type}(s:RS):Gr s (Res.out:Res a):=fun _ _ e=>by cases e
theorem Gr.st{b:Type}{s:RS}{r:Res b}(h:Gr s.st r):Gr s r:=fun a c e=>h a c e
end Go.Avm
namespace Go.Avm
structure Vr where
 nm:List UInt8
 ty:Int
 n:Int
 st:Int
 deriving Inhabited
def oR(x:Vr):D:= .agg [.str x.nm, .int .u8 x.ty, .int .i64 x.n, .int .i64 x.st]
structure Pt where
 fn:Int
 seen:List Nat
 sure:List Nat
def cH(l:List Nat):List D:=l.map fun n:Nat=>D.int .i64 (n:Int)
def w7(x:Pt):D:= .agg [.int .i64 x.fn, .ro (cH x.seen), .ro (cH x.sure)]
def cS:Pt:=⟨0,[],[]⟩
inductive TR(α:Type) where
 |ok (a:α)
 |bad (p e:Int)
 |out
def TR.bind{b c:Type}:TR b→(b→TR c)→TR c
 | .ok a,k=>k a
 | .bad p e,_=> .bad p e
 | .out,_=> .out
abbrev eE:=List (List UInt8×Nat)
structure SureL where
 l:List (Nat×Nat)
 c:Nat
structure TE where
 fs:List Fn
 vars:List Vr
 seen:eE
 sure:SureL
def dd(x:List UInt8):eE→Nat→Option (Nat×Nat)
 |[],_=>none
 |e::r,i=>bif x==e.1 then some (i,e.2)else dd x r (i+1)
def cm(x:List UInt8):List Fn→Nat→Option (Nat×Fn)
 |[],_=>none
 |e::r,i=>bif x==e.nm then some (i,e)else cm x r (i+1)
def a6(x:Nat):List (Nat×Nat)→Nat→Option Nat
 |[],_=>none
 |e::r,i=>bif x==e.1 then some i else a6 x r (i+1)
def SureL.has(q:SureL)(i:Nat):Bool:=(a6 i q.l 0).isSome
def SureL.put(q:SureL)(i:Nat):SureL:=bif q.has i then q else ⟨q.l ++[(i,q.c)],q.c+1⟩
def SureL.both(a b:SureL):SureL:=⟨a.l.filter fun e=>b.has e.1,a.c⟩
def Ds:Ex→Int
 | .mk _ _ _ _ p _=>p
def mq(E:TE)(a:List UInt8)(p:Int):TR (Nat×Vr):=match dd a E.seen 0 with
 |some (_,i)=> .ok (i,E.vars.getD i default)
 |none=> .bad p 6
def oz(E:TE)(a:List UInt8)(p:Int):TR Unit:=(mq E a p).bind fun r=>bif r.2.ty==3 then .ok ()else .bad p 8
mutual
def dq(E:TE):Ex→TR Int
 | .mk k o a _ p xs=>
  bif k==2 then .ok 2
  else bif k==3 then (mq E a p).bind fun r=>bif E.sure.has r.1 then .ok r.2.ty else .bad p 10
  else bif k==4 then (oz E a p).bind fun _=>(aD E xs [[1]] false).bind fun _=> .ok 1
  else bif k==7 then (oz E a p).bind fun _=> .ok 1
  else bif k==5 then match cm a E.fs 0 with
   |none=> .bad p 6
   |some (_,f)=>bif f.ps.length==xs.length then (aD E xs (f.ps.map fun q=>[q.ty]) false).bind fun _=> .ok f.res else .bad p 9
  else bif k==8 then (bif o==21 then (aD E xs [[2]] false).bind fun _=> .ok 2 else (aD E xs [[1]] false).bind fun _=> .ok 1)
  else bif k==9 then bif decide (xs.length<2)then .out else (bif o==17||o==18 then (aD E xs [[2],[2]] false).bind fun _=> .ok 2
   else bif o==15||o==16 then (aD E xs [[1,2],[]] true).bind fun _=> .ok 2
   else (aD E xs [[1],[1]] false).bind fun _=> .ok (bif decide (11≤o)then 2 else 1))
  else .ok 1
def aD(E:TE):List Ex→List (List Int)→Bool→TR Unit
 |_,[],_=> .ok ()
 |[],_::_,_=> .out
 |x::xs,a::r,b=>(dq E x).bind fun t=>bif a.contains t then aD E xs (bif b then [[t]]else r) false else .bad (Ds x) 8
end
def bf(E:TE)(x:Ex)(a:List Int):TR Int:=(dq E x).bind fun t=>bif a.contains t then .ok t else .bad (Ds x) 8
structure CS where
 vars:List Vr
 seen:eE
 sure:SureL
 pts:List Pt
def E2:cf→Int
 | .mk _ _ _ _ _ p _ _ _=>p
mutual
def kW:cf→Bool
 | .mk k _ _ _ _ _ _ a b=>k==6||(k==4&&(cT a&&cT b))
def cT:List cf→Bool
 |[]=>false
 |s::r=>match r with
  |[]=>kW s
  |_::_=>cT r
end
def CS.te(fs:List Fn)(c:CS):TE:=⟨fs,c.vars,c.seen,c.sure⟩
def CS.pt(fn:Nat)(c:CS):Pt:=⟨(fn:Int),c.seen.map (·.2),(c.seen.map (·.2)).filter c.sure.has⟩
def CS.add(c:CS)(v:Vr):CS:={c with vars:=c.vars ++[v],seen:=c.seen ++[(v.nm,c.vars.length)]}
def vU(fs:List Fn)(a:Int)(b:List UInt8)(id ty n p:Int)(es:List Ex)(c:CS):TR CS:=
 bif decide (1000000≤es.length)then .out else (aD (c.te fs) es (es.map fun _=>[ty]) false).bind fun _=>
 bif decide (1000000<b.length)then .out
 else bif c.vars.any fun v=>v.nm==b then .bad p 7
 else bif ty==3&& !(a==0)then .bad p 3
 else bif ty==3&& !(decide (1≤n)&&decide (n≤256))then .bad p 1
 else bif decide (255≤c.vars.length)then .bad p 2
 else .ok (bif ty==3|| !es.isEmpty then {c.add ⟨b,ty,n,id⟩with sure:=c.sure.put c.vars.length}else c.add ⟨b,ty,n,id⟩)
def pI(fs:List Fn)(fn:Nat)(p:Int)(es:List Ex)(c:CS):TR CS:=match fs[fn]? with
 |none=> .out
 |some f=>bif f.res==0 then match es with
     |[]=> .ok c
     |x::_=>(dq (c.te fs) x).bind fun _=> .bad (Ds x) 8
  else match es with
   |[]=> .bad p 8
   |x::_=>(bf (c.te fs) x [f.res]).bind fun _=> .ok c
mutual
def pJ(fs:List Fn)(fn:Nat)(d:Int):cf→CS→TR CS
 | .mk k id g ty n p es f h,e=>
  bif id==(e.pts.length:Int)&&decide (e.pts.length<900000000)then
   let c:={e with pts:=e.pts ++[e.pt fn]}
   bif k==1 then vU fs d g id ty n p es c
   else bif k==2 then (mq (c.te fs) g p).bind fun r=>bif r.2.ty==3 then .bad p 8 else (aD (c.te fs) es [[r.2.ty]] false).bind fun _=> .ok {c with sure:=c.sure.put r.1}
   else bif k==3 then (oz (c.te fs) g p).bind fun _=>(aD (c.te fs) es [[1],[1]] false).bind fun _=> .ok c
   else bif k==4 then (aD (c.te fs) es [[2]] false).bind fun _=>
    (cL fs fn (rO (d+1)) false f c).bind fun a=>
    (cL fs fn (rO (d+1)) false h {a with seen:=c.seen,sure:=c.sure}).bind fun b=>
    .ok {b with seen:=c.seen,sure:=bif cT f then b.sure else bif cT h then a.sure else a.sure.both b.sure}
   else bif k==5 then (aD (c.te fs) es [[2]] false).bind fun _=>
    (cL fs fn (rO (d+1)) false f c).bind fun a=> .ok {a with seen:=c.seen,sure:=c.sure}
   else bif k==6 then pI fs fn p es c
   else bif k==7 then (aD (c.te fs) es [[1,2]] false).bind fun _=> .ok c
   else bif k==8 then (match es with
    |[]=> .out
    |x::_=>(dq (c.te fs) x).bind fun _=> .ok c)
   else .ok c
  else .out
def cL(fs:List Fn)(fn:Nat)(a:Int):Bool→List cf→CS→TR CS
 |_,[],c=> .ok c
 |b,s::r,c=>bif b then .bad (E2 s) 11 else (pJ fs fn a s c).bind fun c'=>cL fs fn a (kW s) r c'
end
end Go.Avm
namespace Go.Avm
open Go.Proofs Go.RowKit Go.Maps Go.WideElems Go.WideShapes
variable[ap]
structure uh(es:List (D×D×Nat))(c:Nat):Prop where
 ent:∀e∈es,∃(l:List UInt8)(n:Nat),e.1= .str l∧e.2.1= .int .i64 n∧l.length≤maxLen∧n<4611686018427387904∧e.2.2<c
 keys:(es.map (·.1)).Nodup
 born:(es.map (·.2.2)).Nodup
 len:es.length≤1000000
def oA:D→List UInt8
 | .str l=>l
 |_=>[]
def zM:D→Int
 | .int _ n=>n
 |_=>0
def jA(es:List (D×D×Nat)):List Int:=es.map fun e=>zM e.2.1
def gE(a:List Int):List Int:=a.mergeSort fun x y=>decide (x≤y)
def vV:DataW Unit→Int
 | .lit (.int _ n)=>n
 |_=>0
def m3(e:D×D×Nat):Lit×DataW Unit:=(.string (oA e.1), .lit (.int .i64 (zM e.2.1)))
theorem mr{H:Type}:∀(es:List (Lit×DataW H)),es.Pairwise (fun p q=>p.1≠q.1)→∀p∈es,∀x,p.1= .string x→es.find? (fun q=>q.1.sameKey (.string x))=some p
 |[],_,p,hp,_,_=>by cases hp
 |a::r,b,p,hp,x,d=>by
  rw[List.pairwise_cons]at b;rcases xR.1 hp with rfl|c
  ·rw[List.find?_cons_of_pos (by rw[d];simp[Lit.sameKey])]
  ·have e:a.1≠p.1:=b.1 p c
   rw[List.find?_cons_of_neg (by rw[←d,sameKey_ne e];simp)];exact mr r b.2 p c x d
theorem ui{P:Program}{y z:TypeId}(O:P.underlying y=some .string)(M:P.underlying z=some (.int .i64)){imm:Nat→Nat→Prop}{w:World}{b:Nat}{es:List (D×D×Nat)}{c:Nat}{d:Array MapEntry}(g:d.size=es.length)
    (h:∀(i:Nat)(e:D×D×Nat)(m:MapEntry),es[i]? =some e→d[i]? =some m→DRep imm w e.1 m.key∧DRep imm w e.2.1 m.val∧m.born=e.2.2) (j:uh es c):
    Fit P y (plainElem (H:=Unit) P z) d c∧d.toList.map (rg P y (plainElem (H:=Unit) P z))=es.map m3:=by
 have r:∀(i:Nat)(e:D×D×Nat)(m:MapEntry),es[i]? =some e→d[i]? =some m→rd P y (plainElem (H:=Unit) P z) m=some (m3 e)∧m.key= .string ⟨(oA e.1).toArray⟩:=fun i e m f h2=>by
  obtain⟨G,I,_⟩:=h i e m f h2;obtain⟨l,n,v,L,A,U,_⟩:=j.ent e (xS f);rw[v]at G;rw[L]at I;generalize J:m.key=mk at G;generalize K:m.val=T at I;cases G with
  |str _ s E=>
  cases I with
  |int _ _=>
  have g:s.size≤maxLen:=by
   have:s.size=s.data.toList.length:=by rw[x5];rfl
   rw[this,E];exact A
  refine⟨?_,by rw[v];subst E;simp[oA]⟩;unfold rd;rw[J,K]
  have Q:(Lit.int .i64 (n:Int)).wf=true:=by
   have a:IntKind.i64.min= -9223372036854775808:=rfl;have b:IntKind.i64.max=9223372036854775807:=rfl;simp only[Lit.wf,a,b];simp;omega
  simp[Go.keyOf,O,mapKey,g,plainElem,M,Q,m3,v,L,oA,zM,E]
 have o:d.toList.map (rg P y (plainElem (H:=Unit) P z))=es.map m3:=by
  apply List.ext_getElem?;intro i;simp only[xK];by_cases t:i<es.length
  ·have f:es[i]? =some es[i]:=xE t
   have h2:d[i]? =some d[i]:=xF (by omega);have A:d.toList[i]? =some d[i]:=by rw[xX];exact h2
   rw[f,A];have:=(r i _ _ f h2).1;simp[rg,this]
  ·rw[yV (l:=es) (by omega),yV (l:=d.toList) (by rw[x5];omega)]
   rfl
 refine⟨⟨by rw[g];have:=j.len;unfold maxLen;omega,⟨fun x B=> ?_, ?_, ?_⟩,fun x B=> ?_⟩,o⟩
 ·obtain⟨i,t,rfl⟩:=List.getElem_of_mem B
  have k:i<d.size:=by simpa using t
  have f:es[i]? =some (es[i]'(by omega)):=xE _;have h2:d[i]? =some d[i]:=xF k;obtain⟨_,_,S⟩:=h i _ _ f h2;obtain⟨_,_,_,_,_,_,R⟩:=j.ent _ (xS f);simp only[yM];rw[S];exact R
 ·have:d.toList.map (·.born)=es.map (·.2.2):=by
    apply List.ext_getElem (by simp[g]);intro i f h2;simp only[xV,x5]at f h2;simp only[List.getElem_map,yM];exact(h i _ _ (xE (by omega)) (xF (by omega))).2.2
  rw[this];exact j.born
 ·have:d.toList.map (·.key)=es.map (fun e=>Value.string ⟨(oA e.1).toArray⟩):=by
    apply List.ext_getElem (by simp[g]);intro i f h2;simp only[xV,x5]at f h2;simp only[List.getElem_map,yM];exact(r i _ _ (xE (by omega)) (xF (by omega))).2
  rw[this];have u:=j.keys;rw[List.nodup_iff_pairwise_ne,List.pairwise_map]at u ⊢;refine u.imp_of_mem fun {p q} hp N C e=>C ?_
  obtain⟨l,_,v,_⟩:=j.ent p hp;obtain⟨l',_,F,_⟩:=j.ent q N;rw[v,F]at e ⊢;simp only[oA,Value.string.injEq,ByteArray.mk.injEq]at e;have:l=l':=by simpa using e
  rw[this]
 ·obtain⟨i,t,rfl⟩:=List.getElem_of_mem B
  have k:i<d.size:=by simpa using t
  exact⟨_,(r i _ _ (xE (by omega)) (by rw[yM];exact xF k)).1⟩
theorem sU{P:Program}{o r:TypeId}(y:P.underlying o=some .string)(F:P.underlying r=some (.int .i64)){imm:Nat→Nat→Prop}{w:World}{b:Nat}{es:List (D×D×Nat)}{c:Nat}(hm:sx imm w b es c)(A:uh es c):
    ∃m:DataW Unit,w.ownsMap P o (plainElem P r) b es.length m∧Maps.size m≤es.length∧∀k,AnyY.AllOf m k→(k.map (·.2)).Perm (jA es):=by
 obtain⟨B,J,l,f⟩:=hm;obtain⟨t,u⟩:=ui y F (b:=b) l f A;have i:=fit_apart (string_keyed y) t;rw[u]at i;have g:w.ownsMap P o (plainElem (H:=Unit) P r) b es.length (.map ((es.map m3).foldr DataW.insert [])):=⟨B,c,J,t,by omega,by rw[u]⟩
 refine⟨_,g, ?_,fun k n=> ?_⟩
 ·show((es.map m3).foldr DataW.insert []).length≤_
  rw[(sorted_perm (es.map m3)).length_eq];simp
 ·obtain⟨z,_,s⟩:=n
  have d:=sorted_perm (es.map m3);generalize L:(es.map m3).foldr DataW.insert []=E at z s d;have j:E.Pairwise (fun p q=>p.1≠q.1):=(d.symm.pairwise_iff (fun {a b} (h:a.1≠b.1)=>h.symm)).1 i
  let val:List UInt8→Int:=fun x=>vV ((DataW.map E).atKey (.string x) .nil)
  have G:k.map (·.2)=(k.map (·.1)).map val:=by
   rw[List.map_map];refine yI fun p hp=> ?_
   have:=s p hp .nil;simp only[Function.comp,val,this,vV]
  have K:(strKeys (DataW.map E)).map val=E.map fun q=>vV q.2:=by
   show(E.map fun p=>strOf p.1).map val=_;rw[List.map_map];refine yI fun q v=> ?_
   obtain⟨e,I,rfl⟩:=xf.1 (d.mem_iff.1 v);have C:=mr E j _ v (oA e.1) rfl;show vV ((DataW.map E).atKey (.string (oA e.1)) .nil)=_
   have:(DataW.map E).atKey (.string (oA e.1)) .nil=(m3 e).2:=by
    unfold DataW.atKey;simp only[C]
   rw[this]
  rw[G];refine(z.map val).trans ?_;rw[K];refine(d.map _).trans ?_;rw[List.map_map];exact List.Perm.refl _
theorem fk:∀(b:List Int),D.flat (b.map (D.int .i64))=b.map (D.int .i64)
 |[]=>rfl
 |a::r=>by
  have:=fk r;unfold D.flat at this ⊢;simp only[xI,xm,this];rfl
theorem uj{imm:Nat→Nat→Prop}{w:World}{g cap:Nat}{ug:Array Value}{e:TypeId}{b:List Int}(m:w.heap[g]? =some (.cells ug e (0,0)))(f:b.length≤cap)(l:ug.toList.take b.length=b.map (Value.int .i64))(k:∀t,t<b.length→imm g t):
    DRep imm w (.ro (b.map (D.int .i64))) (.slice (some ⟨g,0,none⟩) b.length cap):=by
 have i:=DRep.ro (imm:=imm) (w:=w) (b.map (D.int .i64)) g 0 cap 1 (fun t=> .int .i64 (b.getD t 0)) (by simpa using f) (fun e h=>by
  obtain⟨n,_,rfl⟩:=xf.1 h;rfl) (fun e h=>by
  rw[fk]at h;obtain⟨n,_,rfl⟩:=xf.1 h;rfl) (fun t c d=>by
  rw[fk]at d;have:=(xD.1 d).1;rw[xe];exact k t (by simpa using this)) (fun t c d=>by
  rw[fk]at d;have a:t<b.length:=by simpa using (xD.1 d).1
  have j:(ug.toList.take b.length)[t]? =some (Value.int .i64 b[t]):=by rw[l];simp[a]
  rw[List.getElem?_take_of_lt a,xX]at j;rw[xe];simp only[World.cell?,m];simp[j,a]) (fun t c d=>by
  rw[fk]at d;have a:t<b.length:=by simpa using (xD.1 d).1
  simp[a]at d;subst d;simp[a];exact .int _ _)
 rwa [xV]at i
theorem oB{P:Program}{g f:Nat}(hcb:ch P g){kT eT iT:TypeId}(hk:P.underlying kT=some .string)(he:P.underlying eT=some (.int .i64))
    (hC:∀(Bm b nn:Nat)(E:DataW Unit)(w:World),Bm<w.heap.size→w.cell? ⟨Bm,0,none⟩=some (.map (some b))→w.ownsMap P kT (plainElem P eT) b nn E→Maps.size E≤1000000→
     Calls P g #[.func (.func f) #[] #[.pointer (some ⟨Bm,0,none⟩)]] w fun e Z=>∃v U,e= .returned v∧(∃C,AnyY.AllOf E C∧U=C.map (·.2))∧Z.ownsRow w.heap.size iT 1 v U.length ((gE U).map (Value.int .i64))∧Below w.heap.size w Z)
    {h:aa} {kb vb k v:Nat} {es:List (D×D×Nat)} {c:Nat} (hb:h kb=⟨vb,some (.arr 1 [.mp k v])⟩) (hm:h k=⟨v,some (.map es c)⟩) (hn:uh es c):
    az P g [.fn f [.ptr kb vb 0 0 1]] h [.d (.ro ((gE (jA es)).map (D.int .i64)))] h:=by
 refine⟨hcb,fun G B w0 I0 w a K hs r=> ?_⟩
 obtain⟨u,rfl⟩:∃u,a= #[u]:=by
  have A:a.size=1:=hs;refine⟨a[0],Array.ext (by simp[A]) (fun i hi _=> ?_)⟩;have:i=0:=by omega
  subst this;rfl
 have hu:=r 0 _ u rfl rfl;cases hu with
 |fn _ _ vs hl M=>
 obtain⟨p,rfl⟩:∃p,vs= #[p]:=by
  have A:vs.size=1:=hl;refine⟨vs[0],Array.ext (by simp[A]) (fun i hi _=> ?_)⟩;have:i=0:=by omega
  subst this;rfl
 have hp:=M 0 _ p rfl rfl;have O:(h kb).ver=vb:=by rw[hb]
 have W:(h kb).ob=some (.arr 1 [.mp k v]):=by rw[hb]
 obtain⟨b,S,hM⟩:=K.maps.obj k es c (by rw[hm]);have hv:(h k).ver=v:=by rw[hm]
 rw[hv]at S;generalize hz:(1:Nat)=z at hp;cases hp with
 |ptr _ _ _ _ L hL=>
 rcases K.objs kb _ W with ⟨hn',_⟩|⟨L',I,g1,g2,g3,g4,g5,g6⟩
 ·cases hn'
 rw[O,hL]at I;cases I;obtain⟨cu,s,T,m⟩:=g6 0 _ rfl;generalize J:AV.mp k v=mm at m;cases m<;>first|(cases J;done)|skip
 rename_i b' Q;clear T;cases J;rw[S]at Q;cases Q;obtain⟨E,H,Y,q⟩:=sU hk he hM hn;have V:L.b<w.heap.size:=K.blt (by rw[O];exact hL);simp only[Nat.zero_mul,yo,xe];refine(hC L.b b es.length E w V s H (y8 Y hn.len)).mono ?_;rintro e Z ⟨v',U,rfl,⟨C,F,rfl⟩,j,n⟩;have l:gE (C.map (·.2))=gE (jA es):=mergeSort_of_perm_i (q C F);rw[l]at j;have R:(C.map (·.2)).length=(gE (jA es)).length:=by rw[←l];simp[gE]
 rw[R]at j;rcases j.2 with ⟨rfl,hz0⟩|⟨gb,cap,ug,rfl,y,N,r1,r2,r3,r4⟩
 ·obtain⟨A,X⟩:=K.behind n (I':=fun _ _=>False) (fun _ _ x=>x.elim) (fun _ _ x=>x.elim)
  refine⟨_,_,rfl,X,A, ?_⟩;have:gE (jA es)=[]:=List.length_eq_zero_iff.1 hz0;rw[this];exact .d (.roNil _ _)
 ·obtain⟨A,X⟩:=K.behind n (I':=fun b o=>b=gb) (fun b o x=>by subst x;exact .inr y) (fun b o x=>by subst x;exact(xG.1 N).1)
  refine⟨_,_,rfl,X,A, ?_⟩;exact .d (uj N r1 (by simpa using r4) (fun t _=> .inr rfl))
end Go.Avm
namespace Go.Avm
open Go.RowKit
variable[ap]
open Classical in
noncomputable def vD(d:bx):cA:=fun b a N c S=>match d b a N c S with
 |some (e,S',g,tk,f)=>if Alike f then some (e,S',g,tk)else none
 |none=>none
theorem ms{d:bx}{b a N:Nat}{c:Code}{S S':St}{e:au}{g:Nat}{tk:List Nat}{f:ah}(h:d b a N c S=some (e,S',g,tk,f))(i:Alike f):vD d b a N c S=some (e,S',g,tk):=by
 unfold vD;rw[h];exact xW i
theorem sV{P:Program}{b:bx}(h:dH P b):d5 P (vD b):=fun f d N c S e S' n tk a=>by
 unfold vD at a;split at a
 ·rename_i m S1 l g j i
  split at a
  ·rename_i k
   simp only[xA,xC]at a;obtain⟨rfl,rfl,rfl,rfl⟩:=a;exact h _ _ _ _ _ _ _ _ _ _ i k
  ·cases a
 ·cases a
def rP(P:Program)(b:List ResultVar):Option (au×St×Nat×List Nat×ah)→Option (oQ×aa×Nat×List Nat×ah)
 |some (e,S',c,tk,a)=>(cB P b (some (e,S',c,tk))).map fun r=>(r.1,r.2.1,r.2.2.1,r.2.2.2,a)
 |none=>none
def uk(P:Program)(j:bx)(b:Nat)(g:Nat)(a:List AV)(x:Option AV)(h:aa):Option (aa×Nat×List Nat×ah):=
 match P.funcs[g]? with
 |none=>none
 |some fn=>match fn.body with
  |some (.seq r c)=>match gN r with
   |some (d,i)=>if a.length≤fn.ntmps∧d<fn.ntmps∧fn.results.isEmpty=true then match BB fn.ntmps i (aq (dY a) d (x.getD (.d .nili)))with
       |some env=>match j g b fn.ntmps c ⟨env,h⟩with
        |some (.normal,S',f,tk,e)=>some (S'.heap,f,tk,e)
        |some (.ret,S',f,tk,e)=>some (S'.heap,f,tk,e)
        |_=>none
       |none=>none
    else none
   |none=>none
  |_=>none
def rQ(P:Program)(h:bx)(b N:Nat)(i:List ResultVar):Code→Nat→St→Option (oQ×aa×Nat×List Nat×ah)
 | .seq x y,a,S=>match k5 x with
  |some (m,f,Fx)=>match BB N m S.env with
   |some env=>match opd env f with
    | .fn g d=>match h b a N y ⟨env,S.heap⟩with
     |some (e,j,n,tk,k)=>match w6 e with
      |some o=>match uk P h n g (Fx.map (opd env) ++d) o j.heap with
       |some r=>(eJ P ⟨j.env,r.1⟩ i).map fun l=>(.ret l,r.1,r.2.1,tk ++(r.2.2.1 ++gn j.env i),k ++r.2.2.2)
       |none=>none
      |none=>none
     |none=>none
    |_=>none
   |none=>none
  |none=>match h b a N x S with
   |some (.normal,S',p,tk,k)=>match rQ P h b N i y p S' with
    |some r=>some (r.1,r.2.1,r.2.2.1,tk ++r.2.2.2.1,k ++r.2.2.2.2)
    |none=>none
   |r=>rP P i r
 |c,a,S=>rP P i (h b a N c S)
theorem vW{P:Program}{m:bx}{f g:Nat}{e:List AV}{x:Option AV}{h h':aa}{b:Nat}{tk:List Nat}{n:ah}(a:uk P m f g e x h=some (h',b,tk,n))(o:Alike n):mY P (vD m) f g e x h=some (h',b,tk):=by
 unfold uk at a;unfold mY;split at a
 ·cases a
 rename_i fn t;rw[t];simp only;split at a;case h_2=>cases a
 rename_i r c u;rw[u];simp only;split at a;case h_2=>cases a
 rename_i d w q;rw[q];simp only;split at a;case isFalse=>cases a
 rename_i s;rw[xW s];split at a;case h_2=>cases a
 rename_i p k;rw[k];simp only;split at a
 ·rename_i S' v j i l
  simp only[xA,xC]at a;obtain⟨rfl,rfl,rfl,rfl⟩:=a;rw[ms l o]
 ·rename_i S' v j i l
  simp only[xA,xC]at a;obtain⟨rfl,rfl,rfl,rfl⟩:=a;rw[ms l o]
 ·cases a
theorem rR{P:Program}{i:List ResultVar}{f:bx}{d a N:Nat}{c:Code}{S:St}{y:oQ}{h':aa}{b:Nat}{tk:List Nat}{j:ah}(h:rP P i (f d a N c S)=some (y,h',b,tk,j))(l:Alike j):cB P i (vD f d a N c S)=some (y,h',b,tk):=by
 cases g:f d a N c S with
 |none=>rw[g]at h;cases h
 |some r=>
  obtain⟨e,S',o,m,n⟩:=r;rw[g]at h;simp only[rP,xB,xC]at h;obtain⟨r,k,rfl,rfl,rfl,rfl,rfl⟩:=h;rw[ms g l,k]
theorem vX{P:Program}{s:bx}{k N:Nat}{A:List ResultVar}:∀(c:Code)(a:Nat)(S:St)(y:oQ)(h':aa)(b:Nat)(tk:List Nat)(m:ah),rQ P s k N A c a S=some (y,h',b,tk,m)→Alike m→fM P (vD s) k N A c a S=some (y,h',b,tk):=by
 intro c;induction c with
 |seq x y _ t=>
  intro a S w h' b tk m h j;simp only[rQ]at h;simp only[fM];split at h
  ·rename_i R f Fx p
   rw[p];simp only;split at h;case h_2=>cases h
   rename_i B v;rw[v];simp only;split at h;case h_2=>cases h
   rename_i g z D;rw[D];simp only;split at h;case h_2=>cases h
   rename_i e T X E O d;split at h;case h_2=>cases h
   rename_i U o;split at h;case h_2=>cases h
   rename_i r q;obtain⟨Q,G,I,H⟩:=r;simp only[xB,xC]at h;obtain⟨l,C,rfl,rfl,rfl,rfl,rfl⟩:=h;rw[ms d j.left];simp only[o];rw[vW q j.right];simp only[C,xP]
  ·rename_i p
   rw[p];simp only;split at h
   ·rename_i S' F u J d
    split at h;case h_2=>cases h
    rename_i r q;obtain⟨Q,G,I,H,Y⟩:=r;simp only[xA,xC]at h;obtain⟨rfl,rfl,rfl,rfl,rfl⟩:=h;rw[ms d j.left];simp only;rw[t _ _ _ _ _ _ _ q j.right]
   ·rename_i n
    have h2:=rR h j;cases d:vD s k a N x S with
    |none=>rw[d]at h2;simp[cB]at h2
    |some r=>
     obtain⟨e,S',F,u⟩:=r;cases e with
     |normal=>
      exfalso;unfold vD at d;split at d
      ·rename_i V S1 W K M L
       split at d
       ·simp only[xA,xC]at d
        obtain⟨rfl,rfl,rfl,rfl⟩:=d;exact n _ _ _ _ L
       ·cases d
      ·cases d
     |ret=>rw[d]at h2;exact h2
     |exit i=>rw[d]at h2;exact h2
     |panic x=>rw[d]at h2;exact h2
 |_=>
  intro a S w h' b tk m h j;exact rR h j
def j0(P:Program)(d:bx)(c:Nat)(g:Nat)(a:List AV)(h:aa):Option (oQ×aa×Nat×List Nat×ah):=
 match P.funcs[g]? with
 |none=>none
 |some fn=>match fn.body with
  |none=>none
  |some b=>if a.length≤fn.ntmps then rQ P d g fn.ntmps fn.results.toList b c ⟨dY a,h⟩else none
theorem ul{P:Program}{e:bx}{c g:Nat}{a:List AV}{h h':aa}{y:oQ}{b:Nat}{tk:List Nat}{f:ah}(d:j0 P e c g a h=some (y,h',b,tk,f))(l:Alike f):eZ P (vD e) c g a h=some (y,h',b,tk):=by
 unfold j0 at d;unfold eZ;split at d
 ·cases d
 rename_i fn j;rw[j];simp only;split at d
 ·cases d
 rename_i m k;rw[k];simp only;split at d;case isFalse=>cases d
 rename_i i;rw[xW i];exact vX _ _ _ _ _ _ _ _ d l
def pK(r:Option (oQ×aa×Nat×List Nat×ah)):Option (List AV×aa×Nat×List Nat×ah):=match r with
 |some (.ret c,h,b,tk,a)=>some (c,h,b,tk,a)
 |_=>none
def gF(r:Option (List AV×aa×Nat×List Nat×ah))(c:List D):Option (au×ah):=
 match r with
 |some (a,h',_,_,b)=>match hV h' a with
  |some ds=>some (.ret,(.ds ds, .ds c)::b)
  |none=>none
 |none=>none
theorem oC{P:Program}(hm:d4 P)(f:bl P)(i:Par P)(n a:Nat){g:Nat}{ds e:List D}
    (h:iH (gF (pK (j0 P (aJ P i n) a g (ds.map .d) t7)) e)=iI .ret (gF (pK (j0 P (aJ P i n) a g (ds.map .d) t7)) e)):dt P g ds e:=by
 obtain⟨w,b,j⟩:=dU h;unfold gF at b;split at b;case h_2=>cases b
 rename_i q h' u tk p c;split at b;case h_2=>cases b
 rename_i t o;simp only[xA,xC,true_and]at b;subst b;have k:=j.head;simp only[ax.ds.injEq]at k;subst k;unfold pK at c;split at c;case h_2=>cases c
 rename_i m h2 v l s r;simp only[xA,xC]at c;obtain⟨rfl,rfl,rfl,rfl,rfl⟩:=c;exact hX (cC hm f (sV (b6 hm f n)) (ul r j.tail)).1 o
end Go.Avm
