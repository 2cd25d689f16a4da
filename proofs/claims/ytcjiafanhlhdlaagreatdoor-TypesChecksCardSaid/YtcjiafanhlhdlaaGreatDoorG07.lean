/-
  The abstract machine, part Rn: keys are names alone. A call's contract under other names; a call leaves nothing behind but what its contract names ('clean').
-/
import Derived.Test.YtcjiafanhlhdlaaGreatDoorG06
import Derived.Sort.Grow
import Derived.Shelf.SlIter.AllValues
import Derived.Lib.SlKeysI
import Derived.Maps.RangeRun
set_option linter.unusedVariables false
set_option linter.unusedSimpArgs false
set_option linter.unusedSectionVars false
namespace Go.Avm
open Go.RowKit
variable[aH]
mutual
def aO(ρ:Nat→Nat):AV→AV
 | .junk=> .junk
 | .d x=> .d x
 | .nils=> .nils
 | .es=> .es
 | .vec k v sz l=> .vec (ρ k) v sz l
 | .sl k v o l sz=> .sl (ρ k) v o l sz
 | .ptr k v i o sz=> .ptr (ρ k) v i o sz
 | .agg cs=> .agg (bk ρ cs)
 | .tup cs=> .tup (bk ρ cs)
 | .fn f cs=> .fn f (bk ρ cs)
 | .mp k v=> .mp (ρ k) v
 | .yld k v=> .yld (ρ k) v
 | .itr k v=> .itr (ρ k) v
 | .iv t x=> .iv t (aO ρ x)
 | .vp k v l=> .vp (ρ k) v l
def bk(ρ:Nat→Nat):List AV→List AV
 |[]=>[]
 |x::l=>aO ρ x::bk ρ l
end
theorem bz(ρ:Nat→Nat):∀l,bk ρ l=l.map (aO ρ)
 |[]=>rfl
 |x::l=>by simp[bk,bz ρ l]
theorem mM(ρ:Nat→Nat)(x:AV):(aO ρ x).cells=x.cells.map (aO ρ):=by
 cases x with
 |d y=>cases y<;>simp[aO,AV.cells]
 |agg cs=>simp[aO,AV.cells,bz]
 |_=>simp[aO,AV.cells]
theorem tM(ρ:Nat→Nat)(x:AV):(aO ρ x).lone=x.lone:=by
 cases x with
 |d y=>cases y<;>simp[aO,AV.lone]
 |_=>simp[aO,AV.lone]
theorem tN(ρ:Nat→Nat)(l:List AV):AV.flat (bk ρ l)=(AV.flat l).map (aO ρ):=by
 induction l with
 |nil=>rfl
 |cons x l a=>
  simp only[AV.flat]at a;simp only[AV.flat,bk,yT,xF,mM,a]
def dx(ρ:Nat→Nat):Ob→Ob
 | .arr sz es=> .arr sz (bk ρ es)
 | .map es c=> .map es c
 | .lp f N env ps YU bd b=> .lp f N (env.map fun p=>(p.1,aO ρ p.2)) ps YU bd b
 | .itr a d s l=> .itr (ρ a) d s l
 | .typ k v T n=> .typ (ρ k) v T n
def aY(ρ:Nat→Nat)(e:aE):aE:=⟨e.ver,e.ob.map (dx ρ)⟩
theorem eF(ρ:Nat→Nat)(t:Nat):∀l:List (Nat×AV),ah (l.map fun p=>(p.1,aO ρ p.2)) t=aO ρ (ah l t)
 |[]=>rfl
 |(k,x)::r=>by
  simp only[xH,ah,aG];split
  ·rfl
  ·exact eF ρ t r
structure Ren(ρ:Nat→Nat)(G G2:Gh):Prop where
 imm:G2.imm=G.imm
 loc:∀k v,G2.loc (ρ k) v=G.loc k v
 lim:∀k,G2.lim (ρ k)=G.lim k
 mloc:∀k v,G2.mloc (ρ k) v=G.mloc k v
section
variable{ρ:Nat→Nat}{G g:Gh}{w:World}(a:Ren ρ G g)
include a
theorem nB{x:AV}{v:Value}(h:Rep G w x v):Rep g w (aO ρ x) v:=by
 induction h with
 |junk v=>exact .junk v
 |d h=>exact .d (by rw[a.imm];exact h)
 |nils=>exact .nils
 |es z=>exact .es z
 |vecNil k e sz=>exact .vecNil _ e sz
 |vec k e l L o B n A h=>exact .vec _ e l L ((a.loc k e).trans o) B n A (by rw[a.imm];exact h)
 |slNil k e sz z=>exact .slNil _ e sz z
 |sl k e q C c L o m n=>exact .sl _ e q C c L ((a.loc k e).trans o) m n
 |ptr k e i q L o=>exact .ptr _ e i q L ((a.loc k e).trans o)
 |agg cs vs s D _ p=>
  simp only[aO,bz];refine .agg _ vs (by simpa using s) D fun i c u m y=> ?_
  rw[xN]at m;cases j:cs[i]? with
  |none=>rw[j]at m;cases m
  |some r=>rw[j]at m;cases m;exact p i r u j y
 |tup cs vs s _ p=>
  simp only[aO,bz];refine .tup _ vs (by simpa using s) fun i c u m y=> ?_
  rw[xN]at m;cases j:cs[i]? with
  |none=>rw[j]at m;cases m
  |some r=>rw[j]at m;cases m;exact p i r u j y
 |fn f cs vs s _ p=>
  simp only[aO,bz];refine .fn f _ vs (by simpa using s) fun i c u m y=> ?_
  rw[xN]at m;cases j:cs[i]? with
  |none=>rw[j]at m;cases m
  |some r=>rw[j]at m;cases m;exact p i r u j y
 |mp k e b o=>exact .mp _ e b ((a.mloc k e).trans o)
 |yld k e b o=>exact .yld _ e b ((a.mloc k e).trans o)
 |itr k e b o=>exact .itr _ e b ((a.mloc k e).trans o)
 |iv t v _ p=>exact .iv t v p
 |vp k e l L o D n h=>exact .vp _ e l L ((a.loc k e).trans o) D n (by rw[a.imm];exact h)
theorem hY{y:AV}{v:Value}(h:Rep g w y v):∀x,aO ρ x=y→Rep G w x v:=by
 induction h with
 |junk v=>intro x e;cases x<;>simp only[aO,reduceCtorEq]at e;exact .junk v
 |d h=>intro x e;cases x<;>simp only[aO,reduceCtorEq]at e;cases e;exact .d (by rw[←a.imm];exact h)
 |nils=>intro x e;cases x<;>simp only[aO,reduceCtorEq]at e;exact .nils
 |es A=>intro x e;cases x<;>simp only[aO,reduceCtorEq]at e;exact .es A
 |vecNil k j sz=>intro x e;cases x<;>simp only[aO,reduceCtorEq]at e;cases e;exact .vecNil _ j sz
 |vec k j l L n C m B h=>intro x e;cases x<;>simp only[aO,reduceCtorEq]at e;cases e;exact .vec _ j l L ((a.loc _ j).symm.trans n) C m B (by rw[←a.imm];exact h)
 |slNil k j sz A=>intro x e;cases x<;>simp only[aO,reduceCtorEq]at e;cases e;exact .slNil _ j sz A
 |sl k j r D c L n p m=>intro x e;cases x<;>simp only[aO,reduceCtorEq]at e;cases e;exact .sl _ j r D c L ((a.loc _ j).symm.trans n) p m
 |ptr k j i r L n=>intro x e;cases x<;>simp only[aO,reduceCtorEq]at e;cases e;exact .ptr _ j i r L ((a.loc _ j).symm.trans n)
 |agg cs vs o E _ q=>
  intro x e;cases x<;>simp only[aO,reduceCtorEq]at e
  rename_i z;simp only[AV.agg.injEq]at e;subst e;rw[bz]at o;refine .agg _ vs (by simpa using o) E fun i c u p s=> ?_
  exact q i (aO ρ c) u (by rw[bz,xN,p];rfl) s c rfl
 |tup cs vs o _ q=>
  intro x e;cases x<;>simp only[aO,reduceCtorEq]at e
  rename_i z;simp only[AV.tup.injEq]at e;subst e;rw[bz]at o;refine .tup _ vs (by simpa using o) fun i c u p s=> ?_
  exact q i (aO ρ c) u (by rw[bz,xN,p];rfl) s c rfl
 |fn f cs vs o _ q=>
  intro x e;cases x<;>simp only[aO,reduceCtorEq]at e
  rename_i F z;simp only[AV.fn.injEq]at e;obtain⟨rfl,rfl⟩:=e;rw[bz]at o;refine .fn _ _ vs (by simpa using o) fun i c u p s=> ?_
  exact q i (aO ρ c) u (by rw[bz,xN,p];rfl) s c rfl
 |mp k j b n=>intro x e;cases x<;>simp only[aO,reduceCtorEq]at e;cases e;exact .mp _ j b ((a.mloc _ j).symm.trans n)
 |yld k j b n=>intro x e;cases x<;>simp only[aO,reduceCtorEq]at e;cases e;exact .yld _ j b ((a.mloc _ j).symm.trans n)
 |itr k j b n=>intro x e;cases x<;>simp only[aO,reduceCtorEq]at e;cases e;exact .itr _ j b ((a.mloc _ j).symm.trans n)
 |iv t v _ q=>
  intro x e;cases x<;>simp only[aO,reduceCtorEq]at e
  simp only[AV.iv.injEq]at e;obtain⟨rfl,e⟩:=e;exact .iv _ v (q _ e)
 |vp k j l L n E m h=>intro x e;cases x<;>simp only[aO,reduceCtorEq]at e;cases e;exact .vp _ j l L ((a.loc _ j).symm.trans n) E m (by rw[←a.imm];exact h)
theorem MG{k b:Nat}{ob:Ob}(h:ObRep G w k b ob):ObRep g w (ρ k) b (dx ρ ob):=by
 cases ob with
 |arr sz es=>
  rcases h with ⟨rfl,h⟩|⟨L,C,h2,B,z,q,y,s⟩
  ·exact .inl ⟨rfl,(a.loc k b).trans h⟩
  ·refine .inr ⟨L,(a.loc k b).trans C,h2,B,by simpa [bz]using z,fun e f=> ?_,fun m e f=> ?_,fun t c i=> ?_⟩
   ·rw[bz]at f
    obtain⟨x,j,rfl⟩:=x9.1 f;rw[mM,xO];exact q x j
   ·rw[bz]at f
    obtain⟨x,j,rfl⟩:=x9.1 f;rw[tM];exact y m x j
   ·rw[tN,xN]at i
    cases d:(AV.flat es)[t]? with
    |none=>rw[d]at i;cases i
    |some o=>
     rw[d]at i;cases i;obtain⟨u,A,r,v⟩:=s t o d;exact⟨u,A,r,nB a v⟩
 |typ l v' T n=>exact⟨by rw[a.lim];exact h.1,fun L p=>h.2 L ((a.loc l v').symm.trans p)⟩
 |_=>exact trivial
theorem FK{k b:Nat}{ob:Ob}(h:ObRep g w (ρ k) b (dx ρ ob)):ObRep G w k b ob:=by
 cases ob with
 |arr sz es=>
  rcases h with ⟨f,h⟩|⟨L,z,h2,y,v,p,s,q⟩
  ·refine .inl ⟨?_,(a.loc k b).symm.trans h⟩
   rw[bz]at f;exact List.map_eq_nil_iff.1 f
  ·refine .inr ⟨L,(a.loc k b).symm.trans z,h2,y,by simpa [bz]using v,fun e d=> ?_,fun j e d=> ?_,fun t c l=> ?_⟩
   ·have:=p (aO ρ e) (by rw[bz];exact yr d)
    rwa [mM,xO]at this
   ·have:=s j (aO ρ e) (by rw[bz];exact yr d)
    rwa [tM]at this
   ·obtain⟨u,o,x,r⟩:=q t (aO ρ c) (by rw[tN,xN,l];rfl)
    exact⟨u,o,x,hY a r c rfl⟩
 |typ i v' T n=>exact⟨by rw[←a.lim];exact h.1,fun L m=>h.2 L ((a.loc i v').trans m)⟩
 |_=>exact trivial
theorem FL{N:Nat}{env:List (Nat×AV)}{ps:Array Nat}{YU bd:Code}{c:LSt}{r:Loop}(h:LRep G w N env ps YU bd c r):LRep g w N (env.map fun p=>(p.1,aO ρ p.2)) ps YU bd c r:=
 ⟨h.size,fun t b=>by rw[eF];exact nB a (h.rep t b),fun t b=>by rw[eF,h.out t b];rfl,h.ps,h.YU,h.bd,h.state,h.pending⟩
theorem BH{N:Nat}{env:List (Nat×AV)}{ps:Array Nat}{YU bd:Code}{c:LSt}{r:Loop}(h:LRep g w N (env.map fun p=>(p.1,aO ρ p.2)) ps YU bd c r):LRep G w N env ps YU bd c r:=
 ⟨h.size,fun t b=>hY a (h.rep t b) _ (eF ρ t env).symm,fun t b=>by
  have:=h.out t b;rw[eF]at this;cases d:ah env t<;>rw[d]at this<;>first|rfl|(simp only[aO,reduceCtorEq]at this),h.ps,h.YU,h.bd,h.state,h.pending⟩
end
def nC(a:Nat→Option Nat)(G:Gh):Gh where
 imm:=G.imm
 loc:=fun j v=>match a j with|some k=>G.loc k v|none=>none
 lim:=fun j=>match a j with|some k=>G.lim k|none=>0
 mloc:=fun j v=>match a j with|some k=>G.mloc k v|none=>none
def eP(ρ:Nat→Nat)(a:Nat→Option Nat)(h:aa):aa:=fun j=>match a j with|some k=>aY ρ (h k)|none=>⟨0,none⟩
def P0(ρ:Nat→Nat)(G:Gh):Gh where
 imm:=G.imm
 loc:=fun k v=>G.loc (ρ k) v
 lim:=fun k=>G.lim (ρ k)
 mloc:=fun k v=>G.mloc (ρ k) v
theorem p7(ρ:Nat→Nat)(G:Gh):Ren ρ (P0 ρ G) G:=⟨rfl,fun _ _=>rfl,fun _=>rfl,fun _ _=>rfl⟩
structure Names(ρ:Nat→Nat)(σ:Nat→Option Nat):Prop where
 to:∀k,σ (ρ k)=some k
 fro:∀j k,σ j=some k→ρ k=j
theorem Names.inj{ρ:Nat→Nat}{e:Nat→Option Nat}(c:Names ρ e){a b:Nat}(h:ρ a=ρ b):a=b:=by
 have d:=c.to a;rw[h,c.to b]at d;exact(Option.some.inj d).symm
theorem k5{ρ:Nat→Nat}{b:Nat→Option Nat}(a:Names ρ b)(G:Gh):Ren ρ G (nC b G):=⟨rfl,fun k v=>by simp only[nC,a.to],fun k=>by simp only[nC,a.to],fun k v=>by simp only[nC,a.to]⟩
section
variable{ρ:Nat→Nat}{d:Nat→Option Nat}(a:Names ρ d){G:Gh}{B:Nat}{w0 w:World}{I0:Nat→Nat→Prop}{h:aa}
include a
theorem BI(m:HR G B w0 I0 h w):HR (nC d G) B w0 I0 (eP ρ d h) w:=by
 have E:=k5 a G
 have z:∀j v L,(nC d G).loc j v=some L→∃k,d j=some k∧G.loc k v=some L:=fun j v L g=>by
  simp only[nC]at g;split at g
  ·rename_i k e;exact⟨k,e,g⟩
  ·cases g
 have t:∀j v L,(nC d G).mloc j v=some L→∃k,d j=some k∧G.mloc k v=some L:=fun j v L g=>by
  simp only[nC]at g;split at g
  ·rename_i k e;exact⟨k,e,g⟩
  ·cases g
 have i:∀j k,d j=some k→(eP ρ d h j).ver=(h k).ver:=fun j k Z=>by simp only[eP,Z,aY]
 have p:∀j ob,(eP ρ d h j).ob=some ob→∃k o,d j=some k∧(h k).ob=some o∧ob=dx ρ o:=fun j ob q=>by
  simp only[eP]at q;split at q
  ·rename_i k e
   simp only[aY,xB]at q;obtain⟨o,s,h2⟩:=q;exact⟨k,o,e,s,h2.symm⟩
  ·cases q
 refine⟨m.below,m.bsz,m.immlt,m.i0,m.immlow, ?_, ?_, ?_, ?_, ?_,⟨?_, ?_, ?_, ?_, ?_,m.maps.glob⟩⟩
 ·intro j v L g
  obtain⟨k,e,g⟩:=z j v L g;rw[i j k e];exact m.fresh k v L g
 ·intro j L g
  obtain⟨k,e,g⟩:=z j _ L g;rw[i j k e]at g;exact m.own k L g
 ·intro j C L R g A u
  obtain⟨k,e,g⟩:=z j _ L g;obtain⟨I,n,A⟩:=z C _ R A;rw[i j k e]at g;rw[i C I n]at A;have:=m.dis k I L R g A u;subst this;exact(a.fro j k e).symm.trans (a.fro C k n)
 ·intro j ob q
  obtain⟨k,o,e,s,rfl⟩:=p j ob q;rw[i j k e,←a.fro j k e];exact MG E (m.objs k o s)
 ·intro j
  simp only[nC,eP];split
  ·rename_i k e;exact m.lim k
  ·rfl
 ·intro j v b u
  obtain⟨k,e,u⟩:=t j v b u;obtain⟨s,h2,X⟩:=m.maps.low k v b u;exact⟨s,h2,by rw[i j k e];exact X⟩
 ·intro j C b l l' u y
  obtain⟨x,l,f⟩:=hX l;obtain⟨x',l',S⟩:=hX l';obtain⟨H,o,J,s,e1⟩:=p j _ l;obtain⟨M,o',O,h2,V⟩:=p C _ l';obtain⟨k,e,u⟩:=t j _ b u;obtain⟨I,n,y⟩:=t C _ b y;have i1:H=k:=Option.some.inj (J.symm.trans e);have U:M=I:=Option.some.inj (O.symm.trans n);subst i1;subst U;rw[i j H e]at u;rw[i C M n]at y;have Q:∀o:Ob,(dx ρ o).flex=o.flex:=fun o=>by cases o<;>rfl
  have D:=m.maps.inj H M b (by rw[s];subst e1;rw[Q]at f;simp[je,f]) (by rw[h2];subst V;rw[Q]at S;simp[je,S]) u y;subst D;exact(a.fro j H e).symm.trans (a.fro C H n)
 ·intro j es c q
  obtain⟨k,o,e,s,h2⟩:=p j _ q;cases o<;>simp only[dx,reduceCtorEq]at h2
  cases h2;obtain⟨b,D,F⟩:=m.maps.obj k _ _ s;rw[i j k e,←a.fro j k e];exact⟨b,(E.mloc k _).trans D,F⟩
 ·intro j W N env ps YU bd st q
  obtain⟨k,o,e,s,h2⟩:=p j _ q;cases o<;>simp only[dx,reduceCtorEq]at h2
  cases h2;obtain⟨b,r,D,F,P⟩:=m.maps.loops k _ _ _ _ _ _ _ s;rw[i j k e,←a.fro j k e];exact⟨b,r,(E.mloc k _).trans D,F,FL E P⟩
 ·intro j km vm K seen q
  obtain⟨k,o,e,s,h2⟩:=p j _ q;cases o<;>simp only[dx,reduceCtorEq]at h2
  cases h2;obtain⟨b,bm,sa,c0,D,F,P,T,Y⟩:=m.maps.iters k _ _ _ _ s;rw[i j k e,←a.fro j k e];exact⟨b,bm,sa,c0,(E.mloc k _).trans D,(E.mloc _ _).trans F,P,T,Y⟩
theorem rD{h2:aa}(g:HR G B w0 I0 h2 w)(C:∀k,h2 (ρ k)=aY ρ (h k)):HR (P0 ρ G) B w0 I0 h w:=by
 have E:=p7 ρ G;have e:∀k,(h2 (ρ k)).ver=(h k).ver:=fun k=>by rw[C];rfl
 have i:∀k o,(h k).ob=some o→(h2 (ρ k)).ob=some (dx ρ o):=fun k o j=>by rw[C];simp[aY,j]
 refine⟨g.below,g.bsz,g.immlt,g.i0,g.immlow, ?_, ?_, ?_, ?_, ?_,⟨?_, ?_, ?_, ?_, ?_,g.maps.glob⟩⟩
 ·intro k v L s
  have:=g.fresh (ρ k) v L s;rwa [e]at this
 ·intro k L s
  exact g.own (ρ k) L (by rw[e];exact s)
 ·intro k t L P s z n
  exact a.inj (g.dis (ρ k) (ρ t) L P (by rw[e];exact s) (by rw[e];exact z) n)
 ·intro k ob j
  have:=g.objs (ρ k) _ (i k ob j);rw[e]at this;exact FK E this
 ·intro k
  have:=g.lim (ρ k);rw[e]at this;exact this
 ·intro k v b n
  obtain⟨A,I,H⟩:=g.maps.low (ρ k) v b n;exact⟨A,I,by rw[←e];exact H⟩
 ·intro k t b l l' n q
  obtain⟨x,l,f⟩:=hX l;obtain⟨M,l',Q⟩:=hX l';have D:∀o:Ob,(dx ρ o).flex=o.flex:=fun o=>by cases o<;>rfl
  have A:=i k x l;have h2:=i t M l';rw[←e]at n q;exact a.inj (g.maps.inj (ρ k) (ρ t) b (by rw[A];simp[je,D,f]) (by rw[h2];simp[je,D,Q]) n q)
 ·intro k es c j
  obtain⟨b,m,p⟩:=g.maps.obj (ρ k) es c (i k _ j);rw[e]at m;exact⟨b,m,p⟩
 ·intro k F N env ps YU bd T j
  obtain⟨b,r,m,p,y⟩:=g.maps.loops (ρ k) _ _ _ _ _ _ _ (i k _ j);rw[e]at m;exact⟨b,r,m,p,BH E y⟩
 ·intro k R S u seen j
  obtain⟨b,O,K,J,m,p,y⟩:=g.maps.iters (ρ k) _ _ _ _ (i k _ j);rw[e]at m;exact⟨b,O,K,J,m,p,y⟩
theorem oF{i:Gh}{g:World}(e:Ext (nC d G) w i g):Ext G w (P0 ρ i) g:=by
 have c:=k5 a G;exact⟨e.imm,fun k v L f=>e.loc (ρ k) v L ((c.loc k v).trans f),e.cell,e.size,fun k=>by have:=e.lim (ρ k);rwa [c.lim]at this,fun k v j f=>e.nloc (ρ k) v (by rw[c.lim];exact j) ((c.loc k v).trans f),fun k v b l=>e.mloc (ρ k) v b ((c.mloc k v).trans l),e.kept⟩
theorem lM{P:Program}{f:Nat}{args m:List AV}{h' h2:aa}(n:am P f (bk ρ args) (eP ρ d h) (bk ρ m) h2)(A:∀k,h2 (ρ k)=aY ρ (h' k)):am P f args h m h':=by
 refine⟨n.1,fun G B w0 I0 w b r t c=>(n.2 (nC d G) B w0 I0 w b (BI a r) (by rw[bz];simpa using t) fun i x u g q=> ?_).mono ?_⟩
 ·rw[bz,xN]at g
  cases j:args[i]? with
  |none=>rw[j]at g;cases g
  |some y=>rw[j]at g;cases g;exact nB (k5 a G) (c i y u j q)
 ·rintro e C ⟨v,o,rfl,z,s,p⟩
  refine⟨v,P0 ρ o,rfl,oF a z,rD a s A,hY (p7 ρ o) p _ ?_⟩;match m with
  |[]=>rfl
  |[x]=>rfl
  |x::y::l=>rfl
theorem zj{P:Program}{f:Nat}{args:List AV}{x:AV}{h' h2:aa}(l:iH P f (bk ρ args) (eP ρ d h) (aO ρ x) h2)(t:∀k,h2 (ρ k)=aY ρ (h' k)):iH P f args h x h':=by
 refine⟨l.1,fun G B w0 I0 w b p r c=>(l.2 (nC d G) B w0 I0 w b (BI a p) (by rw[bz];simpa using r) fun i x u g o=> ?_).mono ?_⟩
 ·rw[bz,xN]at g
  cases j:args[i]? with
  |none=>rw[j]at g;cases g
  |some y=>rw[j]at g;cases g;exact nB (k5 a G) (c i y u j o)
 ·rintro e z ⟨v,m,rfl,s,q,n⟩
  exact⟨v,P0 ρ m,rfl,oF a s,rD a q t,hY (p7 ρ m) n _ rfl⟩
end
def ml(h:aa):List AV→Option (List D×List Nat)
 |[]=>some ([],[])
 |x::l=>match view 12 h x,ml h l with
  |some r,some a=>some (r.1::a.1,r.2 ++a.2)
  |_,_=>none
theorem tO{h:aa}:∀{l:List AV}{r:List D×List Nat},ml h l=some r→l.length=r.1.length
 |[],r,e=>by simp[ml]at e;subst e;rfl
 |x::l,r,e=>by
  simp only[ml]at e;split at e
  ·rename_i c b d a
   simp only[xA]at e;subst e;simp[tO a]
  ·cases e
theorem oG{h:aa}:∀{l:List AV}{r:List D×List Nat},ml h l=some r→∀(i:Nat)(d:D),r.1[i]? =some d→∃x ks,l[i]? =some x∧view 12 h x=some (d,ks)∧∀k∈ks,k∈r.2
 |[],r,e,i,d,a=>by simp[ml]at e;subst e;simp at a
 |x::l,r,e,i,d,a=>by
  simp only[ml]at e;split at e
  ·rename_i f o j c
   simp only[xA]at e;subst e;cases i with
   |zero=>simp at a;subst a;exact⟨x,f.2,rfl,j,fun k b=>by simp[b]⟩
   |succ i=>
    obtain⟨g,ks,n,h2,m⟩:=oG c i d (by simpa using a);exact⟨g,ks,n,h2,fun k b=>by simp[m k b]⟩
  ·cases e
theorem CH{l:List AV}(h:l.length≠1):iG l= .tup l:=by
 match l,h with
 |[],_=>rfl
 |[_],h=>simp at h
 |_::_::_,_=>rfl
theorem rE{P:Program}{f:Nat}{args H:List AV}{h h':aa}{r:List D×List Nat}(a:am P f args h H h')(C:ml h' H=some r):am P f args h (r.1.map .d) (ap h' (kill h' r.2)):=by
 refine⟨a.1,fun G B w0 I0 w m S O j=>(a.2 G B w0 I0 w m S O j).mono ?_⟩;rintro e I ⟨v,A,rfl,Y,t,z⟩;refine⟨v,A.froz h' r.2,rfl,Y.trans (Ext.froz t r.2),t.kill r.2, ?_⟩
 have p:∀(x:AV)(y:D)(ks:List Nat)(u:Value),view 12 h' x=some (y,ks)→(∀k∈ks,k∈r.2)→Rep A I x u→Rep (A.froz h' r.2) I (.d y) u:=fun x y ks u Q g F=>
  .d ((dM t 12 _ _ _ _ Q F).mono (by
   rintro b o (x|⟨k,M,L,W,K⟩)
   ·exact .inl x
   ·exact .inr ⟨k,g k M,L,W,K⟩) (fun _ _ _=>rfl))
 have J:=tO C;by_cases s:H.length=1
 ·obtain⟨x,rfl⟩:=yJ.1 s
  obtain⟨l,R⟩:=r;obtain⟨y,rfl⟩:=yJ.1 (J▸s);obtain⟨Z,ks,q,T,g⟩:=oG C 0 y rfl;simp at q;subst q;exact p _ _ _ _ T g z
 ·rw[CH s]at z
  rw[CH (l:=r.1.map AV.d) (by rw[xO,←J];exact s)];cases z with
  |tup _ vs V n=>
   refine .tup _ vs (by simp;omega) fun i c u a F=> ?_
   rw[xN]at a;cases E:r.1[i]? with
   |none=>rw[E]at a;cases a
   |some d=>
    rw[E]at a;cases a;obtain⟨x,ks,N,X,U⟩:=oG C i d E;exact p _ _ _ _ X U (n i x u N F)
def dm(F:List Nat)(M:Nat)(k:Nat):Nat:=bif F.any (Nat.beq k)then k else k+M
def zk(F:List Nat)(M:Nat)(j:Nat):Option Nat:=bif F.any (Nat.beq j)then some j else bif Nat.ble M j then (bif F.any (Nat.beq (j-M))then none else some (j-M))else none
theorem FM{F:List Nat}{k:Nat}:F.any (Nat.beq k)=true↔k∈F:=by
 rw[yP];constructor
 ·rintro⟨x,a,h⟩
  rw[yF h];exact a
 ·intro h
  exact⟨k,h,Nat.beq_refl k⟩
theorem k6{F:List Nat}{k:Nat}:F.any (Nat.beq k)=false↔k∉F:=by
 rw[←FM];cases F.any (Nat.beq k)<;>simp
theorem tP{F:List Nat}{M k:Nat}(h:k∈F):dm F M k=k∧zk F M k=some k:=by
 have:=FM.2 h;simp[dm,zk,this]
theorem rF{F:List Nat}{M k:Nat}(a:∀k∈F,k<M)(h:k∉F):dm F M k=k+M∧zk F M (k+M)=some k:=by
 have c:=k6.2 h;have h2:F.any (Nat.beq (k+M))=false:=k6.2 fun h=>by have:=a _ h;omega
 have b:Nat.ble M (k+M)=true:=(by simp)
 simp[dm,zk,c,h2,b]
theorem k7{F:List Nat}{M:Nat}(c:∀k∈F,k<M):Names (dm F M) (zk F M):=by
 constructor
 ·intro k
  by_cases h:k∈F
  ·rw[(tP (M:=M) h).1,(tP h).2]
  ·rw[(rF c h).1,(rF c h).2]
 ·intro j k a
  by_cases h:j∈F
  ·rw[(tP h).2]at a
   cases a;exact(tP h).1
  ·unfold zk at a
   rw[k6.2 h]at a;simp only[xP]at a;cases h2:Nat.ble M j with
   |false=>rw[h2]at a;cases a
   |true=>
    rw[h2]at a;simp only[xW]at a;cases b:F.any (Nat.beq (j-M))with
    |true=>rw[b]at a;cases a
    |false=>
     rw[b]at a;simp only[xP,xA]at a;subst a;have:M≤j:=by simpa using h2
     rw[(rF c (k6.1 b)).1];omega
theorem u5(h:aa)(k:Nat):∀(l:List (Nat×aE)),k∈l.map (·.1)→∃e,(k,e)∈l∧ae l h k=e
 |[],c=>by simp at c
 |(a,e)::r,c=>by
  simp only[ae];by_cases b:k=a
  ·subst b
   exact⟨e,by simp,af _ _ _⟩
  ·obtain⟨d,f,h2⟩:=u5 h k r (by simpa [b]using c)
   exact⟨d,by simp[f],(ag _ _ b).trans h2⟩
theorem MH(ρ:Nat→Nat)(ds:List D):bk ρ (ds.map .d)=ds.map .d:=by
 rw[bz,yx];exact y5 fun _ _=>rfl
def dy(M:Nat)(h:aa):aa:=fun k=>bif Nat.blt k M then ⟨0,none⟩else h k
theorem Jj{M k:Nat}(h:aa)(b:M≤k):dy M h k=h k:=by
 have:Nat.blt k M=false:=by
  cases a:Nat.blt k M with
  |false=>rfl
  |true=>have:=(show k<M by simpa using a);omega
 simp[dy,this]
theorem Jk{M k:Nat}(h:aa)(a:k<M):dy M h k=⟨0,none⟩:=by
 have:Nat.blt k M=true:=by simpa using a
 simp[dy,this]
theorem MI{F:List Nat}{M k:Nat}(h:k∉F)(c:k<M):zk F M k=none:=by
 have b:=k6.2 h
 have h2:Nat.ble M k=false:=by
  cases a:Nat.ble M k with
  |false=>rfl
  |true=>have:=(show M≤k by simpa using a);omega
 simp[zk,b,h2]
structure Cln(F:List Nat)(M:Nat)(args:List AV)(pre post:List (Nat×aE)):Prop where
 lt:(F.all fun k=>Nat.blt k M)=true
 preK:pre.map (·.1)=F
 postK:post.map (·.1)=F
 argsK:bk (dm F M) args=args
 preE:(pre.map fun p=>aY (dm F M) p.2)=pre.map (·.2)
 postE:(post.map fun p=>aY (dm F M) p.2)=post.map (·.2)
theorem u6{ρ:Nat→Nat}:∀{l:List (Nat×aE)},(l.map fun p=>aY ρ p.2)=l.map (·.2)→∀k e,(k,e)∈l→aY ρ e=e
 |[],_,k,e,h=>by cases h
 |p::r,a,k,e,h=>by
  simp only[xH,List.cons.injEq]at a;rcases x0.1 h with rfl|h
  ·exact a.1
  ·exact u6 a.2 k e h
section
variable{F:List Nat}{M:Nat}{args:List AV}{a b:List (Nat×aE)}(c:Cln F M args a b)
include c
theorem Cln.ltF:∀k∈F,k<M:=fun k d=>by
 have:=xc.1 c.lt k d;simpa using this
theorem Cln.heap(h:aa):eP (dm F M) (zk F M) (ae a h)=ae a (dy M (eP (dm F M) (zk F M) (ae a h))):=by
 funext k;by_cases f:k∈F
 ·obtain⟨e,j,h2⟩:=u5 h k a (by rw[c.preK];exact f)
  have i:=fP a h (dy M (eP (dm F M) (zk F M) (ae a h))) (k:=k) (by rw[c.preK];exact f);rw[←i];simp only[eP,(tP (M:=M) f).2,h2];exact u6 c.preE k e j
 ·rw[b7 _ _ (by rw[c.preK];exact f)]
  rcases yR k M with d|g
  ·rw[Jk _ d]
   simp only[eP,MI f d]
  ·rw[Jj _ g]
theorem Cln.behind(h:aa){h2:aa}(g:∀k,k∈F→h2 k=ae b h2 k)(i:∀k,M≤k→h2 k=ae a (dy M (eP (dm F M) (zk F M) (ae a h))) k)(k:Nat):h2 (dm F M k)=aY (dm F M) (ae b h k):=by
 by_cases d:k∈F
 ·obtain⟨e,l,j⟩:=u5 h k b (by rw[c.postK];exact d)
  rw[(tP d).1,g k d,fP b h2 h (by rw[c.postK];exact d),j];exact(u6 c.postE k e l).symm
 ·have f:=c.ltF
  rw[(rF f d).1,i _ (by omega),←c.heap h];simp only[eP,(rF f d).2];rw[b7 _ _ (by rw[c.preK];exact d),b7 _ _ (by rw[c.postK];exact d)]
theorem k8{P:Program}{f:Nat}{ds:List D}(h:∀e:aa,∃h2,am P f args (ae a (dy M e)) (ds.map .d) h2∧(∀k,k∈F→h2 k=ae b h2 k)∧∀k,M≤k→h2 k=ae a (dy M e) k)(e:aa):am P f args (ae a e) (ds.map .d) (ae b e):=by
 obtain⟨h2,g,j,i⟩:=h (eP (dm F M) (zk F M) (ae a e));rw[←c.heap e]at g;refine lM (k7 c.ltF) (h2:=h2) ?_ (c.behind e j i);rw[c.argsK,MH];exact g
theorem BJ{P:Program}{f:Nat}{x:AV}(i:aO (dm F M) x=x)(g:∀d:aa,∃h2,iH P f args (ae a (dy M d)) x h2∧(∀k,k∈F→h2 k=ae b h2 k)∧∀k,M≤k→h2 k=ae a (dy M d) k)(d:aa):iH P f args (ae a d) x (ae b d):=by
 obtain⟨h2,e,j,h⟩:=g (eP (dm F M) (zk F M) (ae a d));rw[←c.heap d]at e;refine zj (k7 c.ltF) (h2:=h2) ?_ (c.behind d j h);rw[c.argsK,i];exact e
end
def k9(r:Option (List AV×aa×Nat×List Nat×aq))(F:List Nat)(M:Nat)(ds:List D)(a:List (Nat×aE)):Option (aB×aq):=
 match r with
 |some (b,h',_,c,ps)=>match ml h' b,aX h' a with
  |some v,some q=>match (v.2.all fun k=>Nat.blt k M&& !(F.any (Nat.beq k)))&&c.all fun k=>Nat.blt k M with
   |true=>some (.ret,(.ds v.1, .ds ds)::(ps ++q))
   |false=>none
  |_,_=>none
 |none=>none
theorem td{P:Program}(hm:jF P)(I:dX P)(H:Par P)(n l g M:Nat){args:List AV}{ds:List D}{f a:List (Nat×aE)}(c:Cln (f.map (·.1)) M args f a)
    (h:∀b:aa,kn (k9 (ep P (aZ P H n) l g args (ae f (dy M b))) (f.map (·.1)) M ds a)=ko .ret (k9 (ep P (aZ P H n) l g args (ae f (dy M b))) (f.map (·.1)) M ds a)) (b:aa):am P g args (ae f b) (ds.map .d) (ae a b):=by
 refine k8 c (fun b=> ?_) b;obtain⟨ps,j,x⟩:=e7 (h b);unfold k9 at j;split at j;case h_2=>cases j
 rename_i O h' Z L Q z;split at j;case h_2=>cases j
 rename_i v q U W;split at j;case h_2=>cases j
 rename_i t;simp only[xA,xE,zQ]at j;subst j;have J:=x.head;simp only[aN.ds.injEq]at J;subst J;rw[xJ]at t
 have s:∀k∈v.2,k<M∧k∉f.map (·.1):=fun k E=>by
  have:=xc.1 t.1 k E;simp only[xJ,yN]at this;exact⟨by simpa using this.1,k6.1 this.2⟩
 have C:∀k∈L,k<M:=fun k y=>by
  have:=xc.1 t.2 k y;simpa using this
 obtain⟨c1,V⟩:=dQ hm I (cJ hm I n) z x.tail.left;have K:=rE c1 U;have r:=hG h' a (aR W x.tail.right);refine⟨ae a (ap h' (kill h' v.2)),⟨K.1,fun G B w0 I0 w p z A o=>(K.2 G B w0 I0 w p z A o).mono ?_⟩,fun k i=> ?_,fun k R=> ?_⟩
 ·rintro e Y ⟨u,T,rfl,X,N,S⟩
  refine⟨u,T,rfl,X,N.forget fun k=> ?_,S⟩;by_cases i:k∈a.map (·.1)
  ·have F:k∉v.2:=fun m=>(s k m).2 (by rw[←c.postK];exact i)
   rw[bo,xo F,fP a _ h' i];exact r k
  ·rw[b7 _ _ i]
   exact⟨rfl, .inr rfl⟩
 ·exact fP _ _ _ (by rw[c.postK];exact i)
 ·have i:k∉f.map (·.1):=fun m=>by have:=c.ltF k m;omega
  rw[b7 _ _ (by rw[c.postK];exact i),bo,xo fun m=>by have:=(s k m).1;omega];exact V k fun m=>by have:=C k m;omega
def lc(r:Option (AV×aa×Nat×List Nat×aq))(M:Nat)(x:AV)(a:List (Nat×aE)):Option (aB×aq):=
 match r with
 |some (b,h',_,c,ps)=>match aX h' a with
  |some q=>match c.all fun k=>Nat.blt k M with
   |true=>some (.ret,(.av b, .av x)::(ps ++q))
   |false=>none
  |_=>none
 |none=>none
theorem rG{P:Program}(hm:jF P)(A:dX P)(z:Par P)(n i g M:Nat){args:List AV}{x:AV}{d b:List (Nat×aE)}(c:Cln (d.map (·.1)) M args d b)(o:aO (dm (d.map (·.1)) M) x=x)
    (h:∀a:aa,kn (lc (oD P (aZ P z n) i g args (ae d (dy M a))) M x b)=ko .ret (lc (oD P (aZ P z n) i g args (ae d (dy M a))) M x b)) (a:aa):iH P g args (ae d a) x (ae b a):=by
 refine BJ c o (fun a=> ?_) a;obtain⟨ps,f,r⟩:=e7 (h a);unfold lc at f;split at f;case h_2=>cases f
 rename_i H h' S D I t;split at f;case h_2=>cases f
 rename_i q O;split at f;case h_2=>cases f
 rename_i F;simp only[xA,xE,zQ]at f;subst f;have C:=r.head;simp only[aN.av.injEq]at C;subst C
 have y:∀k∈D,k<M:=fun k s=>by
  have:=xc.1 F k s;simpa using this
 obtain⟨c1,N⟩:=u4 hm A (cJ hm A n) t r.tail.left;have p:=hG h' b (aR O r.tail.right);refine⟨ae b h',⟨c1.1,fun G B w0 I0 w m t v j=>(c1.2 G B w0 I0 w m t v j).mono ?_⟩,fun k l=> ?_,fun k J=> ?_⟩
 ·rintro e R ⟨u,L,rfl,Q,E,K⟩
  exact⟨u,L,rfl,Q,E.forget p,K⟩
 ·exact fP _ _ _ (by rw[c.postK];exact l)
 ·have l:k∉d.map (·.1):=fun o=>by have:=c.ltF k o;omega
  rw[b7 _ _ (by rw[c.postK];exact l)];exact N k fun o=>by have:=y k o;omega
end Go.Avm
namespace Go.Avm
open Go.RowKit
variable[aH]
section
variable{X:b4}{c:Code}{S S':St}{Q:aB→St→Prop}
theorem LW.weak(hw:Weak X S S')(h:LW X c S' Q):LW X c S Q:=fun G a w j=>by
 obtain⟨G1,i,b⟩:=hw G a w j;exact mf (h G1 a w b) fun e l k ⟨d,S',g,x,q,f,r⟩=>⟨d,S',g,x,q,i.trans f,r⟩
theorem BK{S1:St}(h:AW X c S fun a S'=>a= .normal∧Weak X S' S1)(d:LW X c S1 Q):LW X c S Q:=
 kY (h.mono fun a S' ⟨b,hw⟩=>by subst b;exact d.weak hw)
theorem BL{b:St}{e:aB}(h:AW X c S fun a S'=>a=e∧Weak X S' b)(d:e≠ .normal):LW X c S fun a S'=>a=e∧S'=b:=
 kY (jT (h.mono fun a S' ⟨f,hw⟩=>⟨b,hw,by
  subst f;cases a with
  |normal=>exact absurd rfl d
  |_=>exact⟨rfl,rfl⟩⟩))
end
end Go.Avm
namespace Go.Avm
variable[aH]
theorem pw{P:Program}{g:Nat}(t:da P g)
    (M:∀(b:Nat)(es:Array MapEntry)(c:Nat)(w:World),w.heap[b]? =some (.map es c)→Calls P g #[.map (some b)] w fun e C=>e= .returned (.map (some w.heap.size))∧C=w.alloc (.map es c))
    {h:aa} {k v:Nat} (f:Nat) {es:List (D×D×Nat)} {c:Nat} (A:h k=⟨v,some (.map es c)⟩):
    am P g [.mp k v] h [.mp f ((h f).ver+1)] (aG h f ⟨(h f).ver+1,some (.map es c)⟩):=by
 refine⟨t,fun G B w0 I0 w a j F d=> ?_⟩
 obtain⟨u,rfl⟩:∃u,a= #[u]:=by
  have R:a.size=1:=F;refine⟨a[0],Array.ext (by simp[R]) (fun i S _=> ?_)⟩;have:i=0:=by omega
  subst this;rfl
 have N:=d 0 _ u rfl rfl;obtain⟨b,z,p,hm,s,l⟩:=j.maps.obj k es c (by rw[A]);have K:(h k).ver=v:=by rw[A]
 rw[K]at z;cases N with
 |mp _ _ J Q=>
  obtain rfl:b=J:=Option.some.inj (z.symm.trans Q);refine(M b p c w hm).mono ?_;rintro e C ⟨rfl,rfl⟩;have q:=j.allocAny (.map p c);have n:=Ext.alloc j (.map p c)
  obtain⟨r,E⟩:=q.newMap f (b:=w.heap.size) (c:=c) (es:=es) j.bsz (fun k v x=>by
   obtain⟨_,⟨o,_,h2⟩,_⟩:=j.maps.low _ _ _ x
   have:=(xR.1 h2).1;omega) ⟨p,heap_alloc_new w _,s,fun i e m L y=>by
    obtain⟨I,H,O⟩:=l i e m L y;exact⟨I.mono n.imm n.cell,H.mono n.imm n.cell,O⟩⟩
  exact⟨_,_,rfl,n.trans E,r, .mp _ _ _ (by simp[Gh.atMap])⟩
theorem HR.moveMap{G:Gh}{B:Nat}{w0 w:World}{I0:Nat→Nat→Prop}{h:aa}(i:HR G B w0 I0 h w){T K v:Nat}{es:List (D×D×Nat)}{c:Nat}(p:h T=⟨v,some (.map es c)⟩)(n:K≠T):
    ∃b,G.mloc T v=some b∧HR (G.atMap K ((h K).ver+1) b) B w0 I0 (aG (aG h T ⟨v,none⟩) K ⟨(h K).ver+1,some (.map es c)⟩) w∧Ext G w (G.atMap K ((h K).ver+1) b) w:=by
 obtain⟨b,j,hm⟩:=i.maps.obj T es c (by rw[p]);have m:(h T).ver=v:=by rw[p]
 rw[m]at j
 have r:HR G B w0 I0 (aG h T ⟨v,none⟩) w:=i.forget (fun k=>by
  by_cases a:k=T
  ·subst a;rw[af];exact⟨m.symm, .inl rfl⟩
  ·rw[ag _ _ a];exact⟨rfl, .inr rfl⟩)
 have u:(aG h T ⟨v,none⟩ K).ver=(h K).ver:=by rw[ag _ _ n]
 obtain⟨s,d,q⟩:=hm;have f:=i.maps.low T v b j
 have g:=r.newFixO K (b:=b) (oo:=some (.map es c)) (o:= .map s c) (fun o' e=>by cases e;rfl) f.1 (fun t y l x=>by
  by_cases a:t=T
  ·subst a;rw[af]at l;cases l
  ·rw[ag _ _ a]at l x
   exact a (i.maps.inj t T b l (by rw[p];rfl) x (by rw[m];exact j))) rfl d (fun es' c' e=>by cases e;exact⟨s,d,q⟩) (fun _ _ _ _ _ _ _ e=>by cases e) (fun _ _ _ _ e=>by cases e)
 rw[u]at g;exact⟨b,j,g⟩
end Go.Avm
namespace Go.Avm
variable[aH]
theorem Ed{P:Program}{G:Gh}{B:Nat}{w0 w:World}{I0:Nat→Nat→Prop}{h:aa}{env:Nat→AV}{a:Act}{op:Oper}(W:HR G B w0 I0 h w)(E:∀x,Rep G w (opd env x) (a.eval x))
    {t kt et:TypeId} {m x:Operand} {k v c:Nat} {es:List (D×D×Nat)} {kd y:D} {i:Nat} {s:Call} (U:op.op= .call s) (F:s.callee= .builtin .delete) (o:s.args= #[m,x]) (V:s.argTypes[0]? =some t) (X:P.underlying t=some (.map kt et))
    (hm:opd env m= .mp k v) (hx:opd env x= .d kd) (p:h k=⟨v,some (.map es c)⟩) (H:jh P kt kd=true) (hf:cj kd es 0=some (some (i,y))):
    ∃v' O S,(execOp a.eval op).run P w= .ok (.value v') O∧Ext G w S O∧HR S B w0 I0 (aG h k ⟨v,some (.map (es.eraseIdx i) c)⟩) O∧Rep S O (.tup []) v':=by
 have n:=E m;have q:=E x;rw[hm]at n;rw[hx]at q;generalize K:a.eval m=vm at n;generalize I:a.eval x=vx at q;cases n with
 |mp _ _ b Y=>
 cases q with
 |d A=>
 obtain⟨b',M,r,C,L,l⟩:=W.maps.obj k es c (by rw[p]);have g:(h k).ver=v:=by rw[p]
 rw[g,Y]at M;cases M;obtain⟨v',N,_,m',T,Q⟩:=e5 A H es r.toList (by simpa using L) (fun i e m z hm=>l i e m z (by simpa using hm)) hf;have hi:i<r.size:=by simpa using (xC.1 T).1
 have J:=kS (P:=P) A H r.isEmpty w
 have f:(r.eraseIdxIfInBounds i).toList=r.toList.eraseIdx i:=by
  unfold Array.eraseIdxIfInBounds;rw[dif_pos hi];simp
 obtain⟨Z,h2⟩:=W.setMap (k:=k) (c':=c) (ms':=r.eraseIdxIfInBounds i) (es':=es.eraseIdx i) (by rw[p];rfl) (by rw[g];exact Y) C (by
  have:=congrArg List.length f;rw[xh]at this;rw[this,List.length_eraseIdx,List.length_eraseIdx];simp[L]) (fun j e m z hm=>by
  rw[←xi,f]at hm;rw[List.getElem?_eraseIdx]at z hm;rw[xi,xi]at hm;split at z
  ·rename_i R;rw[xf R]at hm;exact l j e m z hm
  ·rename_i R;rw[xo R]at hm;exact l (j+1) e m z hm)
 rw[g]at Z;refine⟨.tuple #[],_,G, ?_,h2,Z, .tup _ _ rfl (fun i c u h=>by cases h)⟩;unfold execOp;rw[U];show((do let d ←resolve a.eval s op.type;invoke d.target d.args:Sem Next).run P w)=_;rw[dH s .delete op.type a.eval F,o];simp only[builtin,Builtin.delete_,V,Sem.run_bind,run_underlying X,Result.andThen_ok,Go.MapKept.run_getObj_map (P:=P) C,J,N,Go.MapKept.run_setObj_map (P:=P) _ C,Sem.run_pure,List.map_toArray,xH,xY,K,I];simp[run_underlying X,Result.andThen,Go.MapKept.run_getObj_map (P:=P) C,J,N,Go.MapKept.run_setObj_map (P:=P) _ C,K,I];rfl
theorem nD{X:b4}{env:Nat→AV}{h:aa}{C a T K v c:Nat}{ces:List AV}{es:List (D×D×Nat)}(j:C≠K)(g:C≠T)(d:K≠T)(m:(h C).ob=some (.arr 1 ces))(r:ces[a]? =some (.mp T v))(z:h T=⟨v,some (.map es c)⟩):
    Weak X ⟨env,h⟩ ⟨env,aG (aG (aG h T ⟨v,none⟩) K ⟨(h K).ver+1,some (.map es c)⟩) C ⟨(h C).ver,some (.arr 1 (ces.set a (.mp K ((h K).ver+1))))⟩⟩:=fun G ac w ⟨p,l,q,A⟩=>by
 obtain⟨b,s,i,e⟩:=p.moveMap (K:=K) z d;have f:(aG (aG h T ⟨v,none⟩) K ⟨(h K).ver+1,some (.map es c)⟩ C)=h C:=by rw[ag _ _ j,ag _ _ g]
 have h2:=i.recell (C:=C) (a:=a) (x:= .mp T v) (y:= .mp K ((h K).ver+1)) (by rw[f];exact m) r rfl (fun u o=>by
  cases o with
  |mp _ _ n k=>
   have t:¬(T=K∧v=(h K).ver+1):=fun x=>d x.1.symm
   have:n=b:=by
    have B:(G.atMap K ((h K).ver+1) b).mloc T v=G.mloc T v:=by simp[Gh.atMap,Ne.symm d]
    rw[B,s]at k;exact(Option.some.inj k).symm
   subst this;exact .mp _ _ _ (by simp[Gh.atMap]))
 rw[f]at h2;exact⟨_,e,h2,l,q.mono e,A.mono e⟩
end Go.Avm
namespace Go.Avm
open Go.RowKit
variable[aH]
def FN(ρ:Nat→Nat):aB→aB
 | .panic x=> .panic (aO ρ x)
 |e=>e
theorem Ee{ρ:Nat→Nat}{x:AV}(h:aO ρ x= .junk):x= .junk:=by
 cases x<;>first|rfl|(simp only[aO,reduceCtorEq]at h)
section
variable{ρ:Nat→Nat}{d:Nat→Option Nat}(b:Names ρ d)
include b
theorem FO{X:b4}{c:Code}{env env':Nat→AV}{h h':aa}{e:aB}(r:FN ρ e=e)
    (A:AW X c ⟨fun t=>aO ρ (env t),eP ρ d h⟩ fun i j=>i=e∧(∀t,j.env t=aO ρ (env' t))∧∀k,j.heap (ρ k)=aY ρ (h' k)):
    AW X c ⟨env,h⟩ fun i j=>i=e∧j=⟨env',h'⟩:=fun G a w C=>by
 obtain⟨D,H,m,B⟩:=C;have E:=k5 b G
 have p:e6 X (nC d G) ⟨fun t=>aO ρ (env t),eP ρ d h⟩ a w:=
  ⟨BI b D,H,⟨m.size,m.nod,fun t g=>nB E (m.rep t g),fun t g=>by
   have:=m.out t g;simp only at this;simp only[this,aO]⟩,B⟩
 refine wpIn_mono (A _ a w p) ?_;rintro I K J ⟨u,j,s,x,⟨rfl,z,h2⟩,i,n,q,f,o⟩;have l:=p7 ρ s;refine⟨u,⟨env',h'⟩,P0 ρ s, ?_,⟨rfl,rfl⟩,oF b i,rD b n h2,q,⟨f.size,f.nod,fun t g=> ?_,fun t g=> ?_⟩,o⟩
 ·cases u with
  |panic y=>
   obtain⟨v,rfl,F⟩:=x.panic;simp only[FN,aB.panic.injEq]at r;exact⟨v,rfl,hY l F y r⟩
  |_=>cases I<;>first|exact x|exact x.elim
 ·have:=f.rep t g
  rw[z t]at this;exact hY l this _ rfl
 ·have:=f.out t g
  rw[z t]at this;exact Ee this
end
def BM(C a K sz:Nat)(h:aa):Option (aa×List Nat):=
 match (h C).ob with
 |some (.arr 1 ces)=>match ces[a]? with
  |some (.mp T v)=>match h T with
   |⟨v',some (.map es c)⟩=>match Nat.beq v' v&&(!(Nat.beq C K)&&(!(Nat.beq C T)&& !(Nat.beq K T)))with
    |true=>some (aG (aG (aG h T ⟨v,none⟩) K ⟨(h K).ver+1,some (.map es c)⟩) C ⟨(h C).ver,some (.arr 1 (ces.set a (.mp K ((h K).ver+1))))⟩,[T,K])
    |false=>none
   |_=>none
  |some .nils=>match Nat.beq C K with
   |false=>some (aG (aG h K ⟨(h K).ver+1,some (.arr sz [])⟩) C ⟨(h C).ver,some (.arr 1 (ces.set a (.sl K ((h K).ver+1) 0 0 sz)))⟩,[K])
   |true=>none
  |_=>none
 |_=>none
theorem zl{X:b4}{env:Nat→AV}{C a K sz:Nat}{h h2:aa}{ks:List Nat}(e:BM C a K sz h=some (h2,ks)):Weak X ⟨env,h⟩ ⟨env,h2⟩∧∀k,k∉ks→k≠C→h2 k=h k:=by
 unfold BM at e;split at e;case h_2=>cases e
 rename_i ces d;split at e
 ·rename_i T v g
  split at e;case h_2=>cases e
  rename_i v' es c p;split at e;case h_2=>cases e
  rename_i n;simp only[xJ,yN,Nat.beq_eq_true_eq]at n;obtain⟨o,r,i,q⟩:=n
  have m:∀{x y:Nat},Nat.beq x y=false→x≠y:=fun f e=>by
   subst e;rw[Nat.beq_refl]at f;cases f
  obtain rfl:=yF o;simp only[xA,xE]at e;obtain⟨rfl,rfl⟩:=e;refine⟨nD (m r) (m i) (m q) d g p,fun k b l=> ?_⟩;simp only[x0,yU,zR,zG]at b;rw[ag _ _ l,ag _ _ b.2,ag _ _ b.1]
 ·rename_i g
  split at e;case h_2=>cases e
  rename_i f
  have j:C≠K:=fun e=>by
   subst e;rw[Nat.beq_refl]at f;cases f
  simp only[xA,xE]at e;obtain⟨rfl,rfl⟩:=e;refine⟨jU j d g,fun k b l=> ?_⟩;simp only[x0,yU,zR]at b;rw[ag _ _ l,ag _ _ b]
 ·cases e
def hK:List (Nat×Nat)→aa→Option (aa×List Nat)
 |[],h=>some (h,[])
 |(C,a)::r,h=>match Nat.blt a 1048576 with
  |true=>match (h C).ob with
   |some (.arr 1 ces)=>match ces[a]? with
    |some x=>match view 12 h x with
     |some (d,ks)=>match d.one&& !(ks.any (Nat.beq C))with
      |true=>(hK r (aG (ap h (kill h ks)) C ⟨(h C).ver,some (.arr 1 (ces.set a (.d d)))⟩)).map fun q=>(q.1,ks ++q.2)
      |false=>none
     |none=>none
    |none=>none
   |_=>none
  |false=>match BM C (a % 1024) (a/1048576) (a/1024 % 1024) h with
   |some y=>(hK r y.1).map fun q=>(q.1,y.2 ++q.2)
   |none=>none
theorem fS{X:b4}{env:Nat→AV}:∀{l:List (Nat×Nat)}{h h2:aa}{ks:List Nat},hK l h=some (h2,ks)→Weak X ⟨env,h⟩ ⟨env,h2⟩∧∀k,k∉ks→k∉l.map (·.1)→h2 k=h k
 |[],h,h2,ks,e=>by
  simp only[hK,xA,xE]at e;obtain⟨rfl,rfl⟩:=e;exact⟨Weak.refl _,fun _ _ _=>rfl⟩
 |(C,a)::r,h,h2,ks,e=>by
  simp only[hK]at e;split at e
  ·split at e
   case h_2=>cases e
   rename_i ces j;split at e;case h_2=>cases e
   rename_i x s;split at e;case h_2=>cases e
   rename_i d m p;split at e;case h_2=>cases e
   rename_i g;simp only[xB,xE]at e;obtain⟨⟨o,n⟩,i,rfl,rfl⟩:=e;rw[xJ,yN]at g;have q:C∉m:=k6.1 g.2;have hw:=eo (X:=X) (env:=env) q j s g.1 p;have f:=fS (X:=X) (env:=env) i;refine⟨hw.trans f.1,fun k b c=> ?_⟩;simp only[xU,zG]at b;simp only[xH,x0,zG]at c;show o k=h k;rw[f.2 k b.2 c.2,ag _ _ c.1,bo,xo b.1]
  ·split at e
   case h_2=>cases e
   rename_i y u;simp only[xB,xE]at e;obtain⟨⟨o,n⟩,i,rfl,rfl⟩:=e;obtain⟨v,t⟩:=y;have hw:=zl (X:=X) (env:=env) u;have f:=fS (X:=X) (env:=env) i;refine⟨hw.1.trans f.1,fun k b c=> ?_⟩;simp only[xU,zG]at b;simp only[xH,x0,zG]at c;show o k=h k;rw[f.2 k b.2 c.2];exact hw.2 k b.1 c.1
def FP(r:Option (aB×St×Nat×List Nat×aq))(F:List Nat)(M:Nat)(fz:List (Nat×Nat))(l':List (Nat×AV))(a:List (Nat×aE)):Option (aB×aq):=
 match r with
 |some (e,S,_,b,ps)=>match hK fz S.heap with
  |some z=>match aX z.1 a with
   |some q=>match ((z.2 ++(b ++fz.map (·.1))).all fun k=>Nat.blt k M)with
    |true=>some (e,ps ++(ir S.env l' ++q))
    |false=>none
   |none=>none
  |none=>none
 |none=>none
theorem nE{ρ:Nat→Nat}:∀{l:List (Nat×AV)},bk ρ (l.map (·.2))=l.map (·.2)→(l.map fun p=>(p.1,aO ρ p.2))=l
 |[],_=>rfl
 |(k,x)::r,h=>by
  simp only[xH,bk,List.cons.injEq]at h;simp only[xH,nE h.2,h.1]
theorem MJ{P:Program}(hm:jF P)(G:dX P)(B:Par P)(n s i N M:Nat)(fz:List (Nat×Nat)){c:Code}{l l':List (Nat×AV)}{a b:List (Nat×aE)}{e:aB}
    (j:Cln (a.map (·.1)) M (l.map (·.2)) a b) (A:bk (dm (a.map (·.1)) M) (l'.map (·.2))=l'.map (·.2)) (u:FN (dm (a.map (·.1)) M) e=e)
    (h:∀d:aa,kn (FP (aZ P B n s i N c ⟨ah l,ae a (dy M d)⟩) (a.map (·.1)) M fz l' b)=ko e (FP (aZ P B n s i N c ⟨ah l,ae a (dy M d)⟩) (a.map (·.1)) M fz l' b))
    (d:aa) (X:b4) (K:X.P=P) (T:X.N=N):AW X c ⟨ah l,ae a d⟩ fun F S'=>F=e∧S'=⟨ah l',ae b d⟩:=by
 refine FO (k7 j.ltF) u ?_
 have r:(fun t=>aO (dm (a.map (·.1)) M) (ah l t))=ah l:=by
  funext t;rw[←eF,nE j.argsK]
 have m:∀t,aO (dm (a.map (·.1)) M) (ah l' t)=ah l' t:=fun t=>by
  rw[←eF,nE A]
 rw[r,j.heap d];have L:=h (eP (dm (a.map (·.1)) M) (zk (a.map (·.1)) M) (ae a d));obtain⟨ps,f,x⟩:=e7 L;unfold FP at f;split at f;case h_2=>cases f
 rename_i V S1 U C Q v;split at f;case h_2=>cases f
 rename_i z I;split at f;case h_2=>cases f
 rename_i q O;split at f;case h_2=>cases f
 rename_i H;simp only[xA,xE]at f;obtain⟨rfl,rfl⟩:=f;have D:=cJ hm G n _ _ _ _ _ _ _ _ _ _ v x.left
 have w:∀k,k∈z.2 ++(C ++fz.map (·.1))→k<M:=fun k y=>by
  have:=xc.1 H k y;simpa using this
 obtain⟨p,R⟩:=z;have E:=fS (X:=X) (env:=S1.env) I;refine jT ((D.1 X K T).mono ?_);rintro F S' ⟨rfl,rfl⟩;refine⟨⟨ah l',ae b p⟩,E.1.trans (ns (S:=⟨S'.env,p⟩) x.right.left O x.right.right),rfl,fun t=>(m t).symm, ?_⟩;refine j.behind d (fun k o=> ?_) (fun k J=> ?_)
 ·exact fP b p (ae b p) (by rw[j.postK];exact o)
 ·have o:k∉a.map (·.1):=fun u=>by have:=j.ltF k u;omega
  have g:k∉R ++(C ++fz.map (·.1)):=fun u=>by have:=w k u;omega
  simp only[xU,zG]at g;show ae b p k=_;rw[b7 b p (by rw[j.postK];exact o)];rw[E.2 k g.1 g.2.2,D.2 k g.2.1]
theorem au{X:b4}{c:Code}{S S1:St}{Q:aB→St→Prop}(h:AW X c S fun b S'=>b= .normal∧S'=S1)(a:LW X c S1 Q):LW X c S Q:=
 BK (h.mono fun _ _ ⟨d,h2⟩=>⟨d,h2▸Weak.refl _⟩) a
theorem aA{X:b4}{c:Code}{S b:St}{e:aB}(h:AW X c S fun a S'=>a=e∧S'=b)(d:e≠ .normal):LW X c S fun a S'=>a=e∧S'=b:=
 BL (h.mono fun _ _ ⟨f,h2⟩=>⟨f,h2▸Weak.refl _⟩) d
theorem BN{P:Program}(hm:jF P){G:Gh}{B:Nat}{w0 w:World}{I0:Nat→Nat→Prop}{h h2:aa}{fz:List (Nat×Nat)}{ks:List Nat}(g:hK fz h=some (h2,ks))(f:HR G B w0 I0 h w):∃a,Ext G w a w∧HR a B w0 I0 h2 w:=by
 let X:b4:={P:=P,B:=B,w0:=w0,I0:=I0,N:=0,mixed:=hm}
 have hw:=(fS (X:=X) (env:=fun _=> .junk) g).1;obtain⟨a,e,j,_⟩:=hw G {tmps:= #[],defers:=[]} w ⟨f,[],⟨rfl,rfl,fun t d=>absurd d (by simp[X]),fun _ _=>rfl⟩,⟨yV,fun b c=>by simp at c,fun b c=>by simp at c,fun l i=>by simp[X]at i,xz _⟩⟩;exact⟨a,e,j⟩
theorem u7{P:Program}(hm:jF P){f:Nat}{args d:List AV}{h i h2:aa}{fz:List (Nat×Nat)}{ks:List Nat}(c:am P f args h d i)(q:hK fz i=some (h2,ks)):am P f args h d h2:=by
 refine⟨c.1,fun G B w0 I0 w b l p a=>(c.2 G B w0 I0 w b l p a).mono ?_⟩;rintro e r ⟨v,s,rfl,m,n,k⟩;obtain⟨j,g,o⟩:=BN hm q n;exact⟨v,j,rfl,m.trans g,o,k.mono g⟩
def oH(r:Option (List AV×aa×Nat×List Nat×aq))(F:List Nat)(M:Nat)(fz:List (Nat×Nat))(ds:List D)(a:List (Nat×aE)):Option (aB×aq):=
 match r with
 |some (b,h',_,c,ps)=>match hK fz h' with
  |some z=>match ml z.1 b,aX z.1 a with
   |some v,some q=>match (v.2.all fun k=>Nat.blt k M&& !(F.any (Nat.beq k)))&&(z.2 ++(c ++fz.map (·.1))).all fun k=>Nat.blt k M with
    |true=>some (.ret,(.ds v.1, .ds ds)::(ps ++q))
    |false=>none
   |_,_=>none
  |none=>none
 |none=>none
theorem cq{P:Program}(hm:jF P)(N:dX P)(K:Par P)(n m g M:Nat)(fz:List (Nat×Nat)){args:List AV}{ds:List D}{f a:List (Nat×aE)}(c:Cln (f.map (·.1)) M args f a)
    (h:∀b:aa,kn (oH (ep P (aZ P K n) m g args (ae f (dy M b))) (f.map (·.1)) M fz ds a)=ko .ret (oH (ep P (aZ P K n) m g args (ae f (dy M b))) (f.map (·.1)) M fz ds a)) (b:aa):am P g args (ae f b) (ds.map .d) (ae a b):=by
 refine k8 c (fun b=> ?_) b;obtain⟨ps,j,A⟩:=e7 (h b);unfold oH at j;split at j;case h_2=>cases j
 rename_i U h' b' L V E;split at j;case h_2=>cases j
 rename_i z Q;obtain⟨x,R⟩:=z;split at j;case h_2=>cases j
 rename_i v q hv hq;split at j;case h_2=>cases j
 rename_i y;simp only[xA,xE,zQ]at j;subst j;have O:=A.head;simp only[aN.ds.injEq]at O;subst O;rw[xJ]at y
 have t:∀k∈v.2,k<M∧k∉f.map (·.1):=fun k I=>by
  have:=xc.1 y.1 k I;simp only[xJ,yN]at this;exact⟨by simpa using this.1,k6.1 this.2⟩
 have H:∀k,k∈R ++(L ++fz.map (·.1))→k<M:=fun k C=>by
  have:=xc.1 y.2 k C;simpa using this
 obtain⟨c1,c2⟩:=dQ hm N (cJ hm N n) E A.tail.left;have S:=rE (u7 hm c1 Q) hv;have s:=hG x a (aR hq A.tail.right);refine⟨ae a (ap x (kill x v.2)),⟨S.1,fun G B w0 I0 w r E F p=>(S.2 G B w0 I0 w r E F p).mono ?_⟩,fun k i=> ?_,fun k W=> ?_⟩
 ·rintro e w' ⟨u,Z,rfl,e1,T,Y⟩
  refine⟨u,Z,rfl,e1,T.forget fun k=> ?_,Y⟩;by_cases i:k∈a.map (·.1)
  ·have J:k∉v.2:=fun o=>(t k o).2 (by rw[←c.postK];exact i)
   rw[bo,xo J,fP a _ x i];exact s k
  ·rw[b7 _ _ i]
   exact⟨rfl, .inr rfl⟩
 ·exact fP _ _ _ (by rw[c.postK];exact i)
 ·have i:k∉f.map (·.1):=fun o=>by have:=c.ltF k o;omega
  rw[b7 _ _ (by rw[c.postK];exact i),bo,xo fun o=>by have:=(t k o).1;omega];have l:k∉R ++(L ++fz.map (·.1)):=fun o=>by have:=H k o;omega
  simp only[xU,zG]at l;have hf:=fS (X:=⟨P,0,default,fun _ _=>False,0,hm,none,0,[]⟩) (env:=fun _=> .junk) Q;rw[hf.2 k l.1 l.2.2];exact c2 k l.2.1
end Go.Avm
namespace Go.Avm
structure T where
 k:Int
 p:Int
 t:List UInt8
 n:Int
 deriving Inhabited
def tD(x:T):D:= .agg [.int .u8 x.k, .int .i64 x.p, .str x.t, .int .i64 x.n]
inductive Ex where
 |mk (k o:Int) (nm:List UInt8) (n p:Int) (xs:List Ex)
inductive aP where
 |mk (k id:Int) (nm:List UInt8) (ty n p:Int) (es:List Ex) (bd el:List aP)
mutual
def fd:Ex→D
 | .mk k o nm n p xs=> .agg [.int .u8 k, .int .u8 o, .str nm, .int .i64 n, .int .i64 p, .ro (fJ xs)]
def fJ:List Ex→List D
 |[]=>[]
 |x::l=>fd x::fJ l
end
mutual
def mn:aP→D
 | .mk k id nm ty n p es bd a=> .agg [.int .u8 k, .int .i64 id, .str nm, .int .u8 ty, .int .i64 n, .int .i64 p, .ro (fJ es), .ro (cg bd), .ro (cg a)]
def cg:List aP→List D
 |[]=>[]
 |x::l=>mn x::cg l
end
structure Pm where
 nm:List UInt8
 ty:Int
 p:Int
def cR(x:Pm):D:= .agg [.str x.nm, .int .u8 x.ty, .int .i64 x.p]
structure Fn where
 nm:List UInt8
 ps:List Pm
 res:Int
 bd:List aP
 p:Int
def bn(x:Fn):D:= .agg [.str x.nm, .ro (x.ps.map cR), .int .u8 x.res, .ro (cg x.bd), .int .i64 x.p]
theorem jV:∀l,fJ l=l.map fd
 |[]=>rfl
 |x::l=>by simp[fJ,jV l]
theorem jW:∀l,cg l=l.map mn
 |[]=>rfl
 |x::l=>by simp[cg,jW l]
theorem Jl(l m:List aP):cg (l ++m)=cg l ++cg m:=by simp[jW]
theorem cC(l:List Ex):(fJ l).length=l.length:=by simp[jV]
theorem fT(l:List aP):(cg l).length=l.length:=by simp[jW]
structure RS where
 i:Nat
 op:Int
 n:Int
inductive Res(α:Type) where
 |ok (a:α) (s:RS)
 |bad (p e:Int) (s:RS)
 |out
def Res.bind{b c:Type}(r:Res b)(f:b→RS→Res c):Res c:=match r with
 | .ok a s=>f a s
 | .bad p e s=> .bad p e s
 | .out=> .out
def fh(x:Int):Int:=IntKind.wrap .i64 x
section
variable(L:List T)
def bZ(s:RS):T:=L.getD s.i default
def bV(s:RS)(x:List UInt8):Bool:=((bZ L s).k==2||(bZ L s).k==4)&&(bZ L s).t==x
def RS.nx(s:RS):RS:={s with i:=s.i+1}
def fail{a:Type}(s:RS):Res a:= .bad (bZ L s).p 4 s
def aL(x:List UInt8)(s:RS):Res T:=
 bif bV L s x then
  bif x==[40]||x==[91]||x==[123]then
   bif decide (200<fh (s.op+1))then .bad (bZ L s).p 5 {s with op:=fh (s.op+1)}else .ok (bZ L s) ⟨s.i+1,fh (s.op+1),s.n⟩
  else bif x==[41]||x==[93]||x==[125]then .ok (bZ L s) ⟨s.i+1,fh (s.op-1),s.n⟩
  else .ok (bZ L s) s.nx
 else fail L s
def eJ(k:Int)(s:RS):Res T:=bif (bZ L s).k==k then .ok (bZ L s) s.nx else fail L s
def cD(x:List UInt8)(s:RS):Res Bool:=bif bV L s x then (aL L x s).bind fun _ s=> .ok true s else .ok false s
def fU:Int→List UInt8
 |1=>[105,110,116]
 |2=>[98,111,111,108]
 |3=>[97,114,114]
 |_=>[]
def e8:List Int→RS→Res Int
 |[],s=>fail L s
 |k::r,s=>(cD L (fU k) s).bind fun b s=>bif b then .ok k s else e8 r s
def CL:List (Int×List UInt8×Int):=[(1,[43],9),(2,[45],9),(3,[42],10),(4,[47],10),(5,[37],10),(6,[38],7),(7,[124],5),(8,[94],6),(9,[60,60],8),(10,[62,62],8),(11,[60],4),(12,[60,61],4),(13,[62],4),(14,[62,61],4),(15,[61,61],3),(16,[33,61],3),(17,[38,38],2),(18,[124,124],1)]
def iu(s:RS)(ab:Int):List (Int×List UInt8×Int)→Int×Int
 |[]=>(0,0)
 |(o,x,k)::r=>bif decide (ab≤k)&&bV L s x then (o,k)else iu s ab r
def dY(ab:Int)(s:RS):Int×Int:=iu L s ab CL
mutual
def gQ:Nat→RS→Res Ex
 |0,_=> .out
 |n+1,s=>(cD L [45] s).bind fun b a=>bif b then (gQ n a).bind fun e c=> .ok (.mk 8 19 [] 0 (bZ L s).p [e]) c else
  (cD L [126] a).bind fun b a=>bif b then (gQ n a).bind fun e c=> .ok (.mk 8 20 [] 0 (bZ L s).p [e]) c else
  (cD L [33] a).bind fun b a=>bif b then (gQ n a).bind fun e c=> .ok (.mk 8 21 [] 0 (bZ L s).p [e]) c else
  bif (bZ L s).k==3 then .ok (.mk 1 0 [] (bZ L s).n (bZ L s).p []) a.nx else
  (cD L [116,114,117,101] a).bind fun b a=>bif b then .ok (.mk 2 0 [] 1 (bZ L s).p []) a else
  (cD L [102,97,108,115,101] a).bind fun b a=>bif b then .ok (.mk 2 0 [] 0 (bZ L s).p []) a else
  (cD L [114,101,97,100] a).bind fun b a=>bif b then (aL L [40] a).bind fun _ c=>(aL L [41] c).bind fun _ d=> .ok (.mk 6 0 [] 0 (bZ L s).p []) d else
  (cD L [108,101,110] a).bind fun b a=>bif b then (aL L [40] a).bind fun _ c=>(eJ L 1 c).bind fun t d=>(aL L [41] d).bind fun _ f=> .ok (.mk 7 0 t.t 0 (bZ L s).p []) f else
  bif bV L a [40]then (aL L [40] a).bind fun _ c=>(bH n 1 c).bind fun e d=>(aL L [41] d).bind fun _ f=> .ok e f else
  (eJ L 1 a).bind fun t c=>bif bV L c [91]then (d8 n c).bind fun e d=> .ok (.mk 4 0 t.t 0 (bZ L s).p [e]) d else
  bif bV L c [40]then (gk n t.t (bZ L s).p c).bind fun e d=> .ok e d else .ok (.mk 3 0 t.t 0 (bZ L s).p []) c
def d8:Nat→RS→Res Ex
 |0,_=> .out
 |n+1,s=>(aL L [91] s).bind fun _ b=>(bH n 1 b).bind fun e a=>(aL L [93] a).bind fun _ c=> .ok e c
def gk:Nat→List UInt8→Int→RS→Res Ex
 |0,_,_,_=> .out
 |n+1,nm,p,s=>(gR n s).bind fun l a=> .ok (.mk 5 0 nm 0 p l) a
def gR:Nat→RS→Res (List Ex)
 |0,_=> .out
 |n+1,s=>(aL L [40] s).bind fun _ b=>bif bV L b [41]then (aL L [41] b).bind fun _ a=> .ok [] a else
  (bH n 1 b).bind fun e a=>(fD n [e] a).bind fun l d=>(aL L [41] d).bind fun _ c=> .ok l c
def fD:Nat→List Ex→RS→Res (List Ex)
 |0,_,_=> .out
 |n+1,l,s=>(cD L [44] s).bind fun b a=>bif b then (bH n 1 a).bind fun e c=>fD n (l ++[e]) c else .ok l a
def bH:Nat→Int→RS→Res Ex
 |0,_,_=> .out
 |n+1,ab,s=>(gQ n s).bind fun e a=>eK n ab e a
def eK:Nat→Int→Ex→RS→Res Ex
 |0,_,_,_=> .out
 |n+1,ab,e,s=>bif (dY L ab s).1==0 then .ok e s else
  (bH n (fh ((dY L ab s).2+1)) s.nx).bind fun r a=>eK n ab (.mk 9 (dY L ab s).1 [] 0 (bZ L s).p [e,r]) a
end
def jX(n:Nat)(id p:Int)(i:RS):Res aP:=
 (eJ L 1 i).bind fun t g=>(aL L [58] g).bind fun _ h=>(e8 L [1,2,3] h).bind fun ty f=>
  bif ty==3 then (aL L [91] f).bind fun _ c=>(eJ L 3 c).bind fun m a=>(aL L [93] a).bind fun _ d=>(aL L [59] d).bind fun _ j=> .ok (.mk 1 id t.t ty m.n p [] [] []) j
  else (cD L [61] f).bind fun b c=>bif b then (bH L n 1 c).bind fun e a=>(aL L [59] a).bind fun _ d=> .ok (.mk 1 id t.t ty 0 p [e] [] []) d
  else (aL L [59] c).bind fun _ a=> .ok (.mk 1 id t.t ty 0 p [] [] []) a
def dR(n:Nat)(id p:Int)(g:RS):Res aP:=
 (eJ L 1 g).bind fun t a=>bif bV L a [40]then
  (gk L n t.t p a).bind fun e b=>(aL L [59] b).bind fun _ c=> .ok (.mk 8 id [] 0 0 p [e] [] []) c
 else bif bV L a [91]then
  (d8 L n a).bind fun e b=>(aL L [61] b).bind fun _ c=>(bH L n 1 c).bind fun f d=>(aL L [59] d).bind fun _ h=> .ok (.mk 3 id t.t 0 0 p [e,f] [] []) h
 else (aL L [61] a).bind fun _ b=>(bH L n 1 b).bind fun e c=>(aL L [59] c).bind fun _ d=> .ok (.mk 2 id t.t 0 0 p [e] [] []) d
def RS.st(s:RS):RS:={s with n:=fh (s.n+1)}
mutual
def cm:Nat→RS→Res (List aP)
 |0,_=> .out
 |n+1,s=>(aL L [123] s).bind fun _ b=>(dS n [] b).bind fun l a=>(aL L [125] a).bind fun _ c=> .ok l c
def dS:Nat→List aP→RS→Res (List aP)
 |0,_,_=> .out
 |n+1,l,s=>bif bV L s [125]then .ok l s else (fV n s).bind fun x a=>dS n (l ++[x]) a
def fV:Nat→RS→Res aP
 |0,_=> .out
 |n+1,s0=>
  (cD L [108,101,116] s0.st).bind fun b a=>bif b then (jX L n s0.st.n (bZ L s0.st).p a).bind fun x c=> .ok x c
  else (cD L [105,102] a).bind fun b a=>bif b then
   (bH L n 1 a).bind fun e c=>(cm n c).bind fun l d=>(cD L [101,108,115,101] d).bind fun b f=>
    bif b then (cm n f).bind fun m g=> .ok (.mk 4 s0.st.n [] 0 0 (bZ L s0.st).p [e] l m) g else .ok (.mk 4 s0.st.n [] 0 0 (bZ L s0.st).p [e] l []) f
  else (cD L [119,104,105,108,101] a).bind fun b a=>bif b then
   (bH L n 1 a).bind fun e c=>(cm n c).bind fun l d=> .ok (.mk 5 s0.st.n [] 0 0 (bZ L s0.st).p [e] l []) d
  else (cD L [114,101,116,117,114,110] a).bind fun b a=>bif b then
   bif bV L a [59]then (aL L [59] a).bind fun _ c=> .ok (.mk 6 s0.st.n [] 0 0 (bZ L s0.st).p [] [] []) c
   else (bH L n 1 a).bind fun e c=>(aL L [59] c).bind fun _ d=> .ok (.mk 6 s0.st.n [] 0 0 (bZ L s0.st).p [e] [] []) d
  else (cD L [112,114,105,110,116] a).bind fun b a=>bif b then
   (bH L n 1 a).bind fun e c=>(aL L [59] c).bind fun _ d=> .ok (.mk 7 s0.st.n [] 0 0 (bZ L s0.st).p [e] [] []) d
  else (dR L n s0.st.n (bZ L s0.st).p a).bind fun x c=> .ok x c
end
def gD(s:RS):Res Pm:=(eJ L 1 s).bind fun t b=>(aL L [58] b).bind fun _ a=>(e8 L [1,2,3] a).bind fun k c=> .ok ⟨t.t,k,t.p⟩ c
def dT:Nat→List Pm→RS→Res (List Pm)
 |0,_,_=> .out
 |n+1,l,s=>(cD L [44] s).bind fun b a=>bif b then (gD L a).bind fun e c=>dT n (l ++[e]) c else .ok l a
def ed(n:Nat)(s:RS):Res (List Pm):=(aL L [40] s).bind fun _ b=>bif bV L b [41]then (aL L [41] b).bind fun _ a=> .ok [] a else
    (gD L b).bind fun e a=>(dT L n [e] a).bind fun l d=>(aL L [41] d).bind fun _ c=> .ok l c
def wh(n:Nat)(s:RS):Res Fn:=(aL L [102,110] s).bind fun t f=>(eJ L 1 f).bind fun u d=>(ed L n d).bind fun ps e=>(cD L [58] e).bind fun b c=>
 bif b then (e8 L [1,2] c).bind fun k a=>(cm L n a).bind fun l g=> .ok ⟨u.t,ps,k,l,t.p⟩ g
 else (cm L n c).bind fun l a=> .ok ⟨u.t,ps,0,l,t.p⟩ a
def ld(N:Nat):Nat→List Fn→RS→Res (List Fn)
 |0,_,_=> .out
 |n+1,l,s=>bif (bZ L s).k==0 then .ok l s else (wh L N s).bind fun f a=>ld N n (l ++[f]) a
def g8(n:Nat):Res (List Fn):=(wh L n ⟨0,0,0⟩).bind fun f a=>ld L n n [f] a
end
def Gr{c:Type}(s:RS)(r:Res c):Prop:=∀a b,r= .ok a b→s.i<b.i
def Gq{c:Type}(s:RS)(r:Res c):Prop:=∀a b,r= .ok a b→s.i≤b.i
theorem Gr.le{b:Type}{s:RS}{r:Res b}(h:Gr s r):Gq s r:=fun a c e=>zN (h a c e)
theorem Gr.bind{g j:Type}{s:RS}{r:Res g}{f:g→RS→Res j}(h:Gr s r)(k:∀a c,r= .ok a c→Gq c (f a c)):Gr s (r.bind f):=fun b i e=>by
 cases r with
 |ok a d=>exact xy (h a d rfl) (k a d rfl b i e)
 |bad p q d=>cases e
 |out=>cases e
theorem Gq.bind{g j:Type}{s:RS}{r:Res g}{f:g→RS→Res j}(h:Gq s r)(k:∀a c,r= .ok a c→Gr c (f a c)):Gr s (r.bind f):=fun b i e=>by
 cases r with
 |ok a d=>exact Nat.lt_of_le_of_lt (h a d rfl) (k a d rfl b i e)
 |bad p q d=>cases e
 |out=>cases e
theorem Gq.bindq{g j:Type}{s:RS}{r:Res g}{f:g→RS→Res j}(h:Gq s r)(k:∀a c,r= .ok a c→Gq c (f a c)):Gq s (r.bind f):=fun b i e=>by
 cases r with
 |ok a d=>exact yH (h a d rfl) (k a d rfl b i e)
 |bad p q d=>cases e
 |out=>cases e
theorem Gq.ok{b:Type}(a:b)(s:RS):Gq s (.ok a s):=fun _ _ e=>by cases e;exact xL _
theorem Gq.out{a:Type}(s:RS):Gq s (Res.out:Res a):=fun _ _ e=>by cases e
theorem Gr.out{a:Type}(s:RS):Gr s (Res.out:Res a):=fun _ _ e=>by cases e
theorem aQ(L:List T)(x:List UInt8)(s:RS):Gr s (aL L x s):=fun a c e=>by
 unfold aL at e;cases h:bV L s x<;>rw[h]at e
 ·cases e
 ·simp only[xW]at e
  cases b:(x==[40]||x==[91]||x==[123])<;>rw[b]at e
  ·simp only[xP]at e
   cases h2:(x==[41]||x==[93]||x==[125])<;>rw[h2]at e<;>cases e<;>exact zJ _
  ·simp only[xW]at e
   cases h2:decide (200<fh (s.op+1))<;>rw[h2]at e<;>cases e
   exact zJ _
theorem hO(L:List T)(k:Int)(s:RS):Gr s (eJ L k s):=fun a b e=>by
 unfold eJ at e;cases h:((bZ L s).k==k)<;>rw[h]at e<;>cases e
 exact zJ _
theorem FQ(L:List T)(x:List UInt8)(s:RS):Gq s (cD L x s):=fun a b e=>by
 unfold cD at e;cases h:bV L s x<;>rw[h]at e
 ·cases e;exact xL _
 ·exact((aQ L x s).bind fun _ _ _=>Gq.ok _ _) a b e|>zN
theorem Gr.mayT{g:Type}{L:List T}{x:List UInt8}{s:RS}{X Y:RS→Res g}(f:∀c,s.i<c.i→Gq c (X c))(j:Gr s (Y s)):Gr s ((cD L x s).bind fun b d=>bif b then X d else Y d):=fun a c e=>by
 unfold cD at e;cases h:bV L s x<;>rw[h]at e
 ·exact j a c e
 ·simp only[xW]at e
  cases hw:aL L x s<;>rw[hw]at e
  ·rename_i t d
   have:=aQ L x s t d hw;exact xy this (f d this a c e)
  ·cases e
  ·cases e
theorem Gr.ite{a:Type}{c:Bool}{s:RS}{X Y:Res a}(b:Gr s X)(d:Gr s Y):Gr s (bif c then X else Y):=by cases c<;>assumption
theorem Gq.ite{a:Type}{c:Bool}{s:RS}{X Y:Res a}(b:Gq s X)(d:Gq s Y):Gq s (bif c then X else Y):=by cases c<;>assumption
theorem p8(L:List T):∀n,(∀s,Gr s (gQ L n s))∧(∀s,Gr s (d8 L n s))∧(∀nm p s,Gr s (gk L n nm p s))∧(∀s,Gr s (gR L n s))∧(∀l s,Gq s (fD L n l s))∧(∀k s,Gr s (bH L n k s))∧(∀k e s,Gq s (eK L n k e s))
 |0=>⟨fun s=>Gr.out s,fun s=>Gr.out s,fun _ _ s=>Gr.out s,fun s=>Gr.out s,fun _ s=>Gq.out s,fun _ s=>Gr.out s,fun _ _ s=>Gq.out s⟩
 |n+1=>by
  obtain⟨o,h2,w,u,j,g,m⟩:=p8 L n;refine⟨fun s=> ?_,fun s=> ?_,fun nm p s=> ?_,fun s=> ?_,fun l s=> ?_,fun k s=> ?_,fun k e s=> ?_⟩
  ·simp only[gQ]
   have i:∀(f:Ex→Ex) b,Gq b ((gQ L n b).bind fun e c=> .ok (f e) c):=fun f b=>((o b).bind fun _ _ _=>Gq.ok _ _).le
   refine Gr.mayT (fun b _=>i _ b) (Gr.mayT (fun b _=>i _ b) (Gr.mayT (fun b _=>i _ b) (Gr.ite (fun _ _ e=>by cases e;exact zJ _) ?_)));refine Gr.mayT (fun b _=>Gq.ok _ _) (Gr.mayT (fun b _=>Gq.ok _ _) ?_);refine Gr.mayT (fun b _=>((aQ L _ b).bind fun _ _ _=>((aQ L _ _).bind fun _ _ _=>Gq.ok _ _).le).le) ?_;refine Gr.mayT (fun b _=>((aQ L _ b).bind fun _ _ _=>((hO L _ _).bind fun _ _ _=>((aQ L _ _).bind fun _ _ _=>Gq.ok _ _).le).le).le) ?_;refine Gr.ite ((aQ L _ s).bind fun _ _ _=>((g _ _).bind fun _ _ _=>((aQ L _ _).bind fun _ _ _=>Gq.ok _ _).le).le) ?_;refine(hO L _ s).bind fun _ b _=>Gq.ite ((h2 b).bind fun _ _ _=>Gq.ok _ _).le (Gq.ite ((w _ _ b).bind fun _ _ _=>Gq.ok _ _).le (Gq.ok _ _))
  ·simp only[d8]
   exact(aQ L _ s).bind fun _ _ _=>((g _ _).bind fun _ _ _=>((aQ L _ _).bind fun _ _ _=>Gq.ok _ _).le).le
  ·simp only[gk]
   exact(u s).bind fun _ _ _=>Gq.ok _ _
  ·simp only[gR]
   exact(aQ L _ s).bind fun _ d _=>Gq.ite ((aQ L _ d).bind fun _ _ _=>Gq.ok _ _).le ((g _ d).bind fun _ c _=>(j _ c).bindq fun _ q _=>((aQ L _ q).bind fun _ _ _=>Gq.ok _ _).le).le
  ·simp only[fD]
   intro a b e;unfold cD at e;cases h:bV L s [44]<;>rw[h]at e
   ·cases e;exact xL _
   ·simp only[xW]at e
    cases hw:aL L [44] s<;>rw[hw]at e
    ·rename_i t d
     have v:=aQ L _ s t d hw;exact yH (zN v) (((g 1 d).bind fun _ c _=>j _ c).le a b e)
    ·cases e
    ·cases e
  ·simp only[bH]
   exact(o s).bind fun _ d _=>m _ _ d
  ·simp only[eK]
   refine Gq.ite (Gq.ok _ _) (fun a b r=> ?_);have:=((g (fh ((dY L k s).2+1)) s.nx).bind fun _ c _=>m _ _ c) a b r;simp only[RS.nx]at this;omega
theorem tQ(L:List T)(n:Nat)(k:Int)(s:RS)(a:Ex)(b:RS)(h:bH L n k s= .ok a b):s.i<b.i:=(p8 L n).2.2.2.2.2.1 k s a b h
theorem iU(L:List T)(n:Nat)(k:Int)(s:RS):Gr s (bH L n k s):=(p8 L n).2.2.2.2.2.1 k s
theorem nF(L:List T):∀(l:List Int)(s:RS),Gr s (e8 L l s)
 |[],s=>fun _ _ e=>by cases e
 |k::r,s=>by
  simp only[e8];exact Gr.mayT (fun a _=>Gq.ok _ _) (nF L r s)
theorem FS(L:List T)(n:Nat)(id p:Int)(s:RS):Gr s (jX L n id p s):=by
 unfold jX;refine(hO L _ s).bind fun _ c _=>((aQ L _ c).bind fun _ e _=>((nF L _ e).bind fun _ b _=>Gq.ite ?_ ?_).le).le
 ·exact((aQ L _ b).bind fun _ d _=>((hO L _ d).bind fun _ a _=>((aQ L _ a).bind fun _ g _=>((aQ L _ g).bind fun _ _ _=>Gq.ok _ _).le).le).le).le
 ·exact(Gr.mayT (fun f _=>((iU L n 1 f).bind fun _ a _=>((aQ L _ a).bind fun _ _ _=>Gq.ok _ _).le).le) ((aQ L _ b).bind fun _ _ _=>Gq.ok _ _)).le
theorem zm(L:List T)(n:Nat)(id p:Int)(s:RS):Gr s (dR L n id p s):=by
 unfold dR;obtain⟨_,h2,e,_⟩:=p8 L n;refine(hO L _ s).bind fun _ b _=>Gq.ite ((e _ _ b).bind fun _ a _=>((aQ L _ a).bind fun _ _ _=>Gq.ok _ _).le).le (Gq.ite ?_ ?_)
 ·exact((h2 b).bind fun _ a _=>((aQ L _ a).bind fun _ c _=>((iU L n 1 c).bind fun _ d _=>((aQ L _ d).bind fun _ _ _=>Gq.ok _ _).le).le).le).le
 ·exact((aQ L _ b).bind fun _ a _=>((iU L n 1 a).bind fun _ c _=>((aQ L _ c).bind fun _ _ _=>Gq.ok _ _).le).le).le
theorem Gr.st{b:Type}{s:RS}{r:Res b}(h:Gr s.st r):Gr s r:=fun a c e=>h a c e
theorem lN(L:List T):∀n,(∀s,Gr s (cm L n s))∧(∀l s,Gq s (dS L n l s))∧(∀s,Gr s (fV L n s))
 |0=>⟨fun s=>Gr.out s,fun _ s=>Gq.out s,fun s=>Gr.out s⟩
 |n+1=>by
  obtain⟨e,h2,h⟩:=lN L n;refine⟨fun s=> ?_,fun l s=> ?_,fun s=> ?_⟩
  ·simp only[cm]
   exact(aQ L _ s).bind fun _ d _=>(h2 _ d).bindq fun _ c _=>((aQ L _ c).bind fun _ _ _=>Gq.ok _ _).le
  ·simp only[dS]
   exact Gq.ite (Gq.ok _ _) ((h s).bind fun _ d _=>h2 _ d).le
  ·simp only[fV]
   refine Gr.st (Gr.mayT (fun a _=>((FS L n _ _ a).bind fun _ _ _=>Gq.ok _ _).le) (Gr.mayT (fun a _=> ?_) (Gr.mayT (fun a _=> ?_) (Gr.mayT (fun a _=> ?_) (Gr.mayT (fun a _=> ?_) ?_)))))
   ·exact((iU L n 1 a).bind fun _ c _=>((e c).bind fun _ f _=>(FQ L _ f).bindq fun b g _=>Gq.ite ((e g).bind fun _ _ _=>Gq.ok _ _).le (Gq.ok _ _)).le).le
   ·exact((iU L n 1 a).bind fun _ c _=>((e c).bind fun _ _ _=>Gq.ok _ _).le).le
   ·exact Gq.ite ((aQ L _ a).bind fun _ _ _=>Gq.ok _ _).le ((iU L n 1 a).bind fun _ c _=>((aQ L _ c).bind fun _ _ _=>Gq.ok _ _).le).le
   ·exact((iU L n 1 a).bind fun _ c _=>((aQ L _ c).bind fun _ _ _=>Gq.ok _ _).le).le
   ·exact(zm L n _ _ _).bind fun _ _ _=>Gq.ok _ _
end Go.Avm
namespace Go.Avm
structure Vr where
 nm:List UInt8
 ty:Int
 n:Int
 st:Int
 deriving Inhabited
def mX(x:Vr):D:= .agg [.str x.nm, .int .u8 x.ty, .int .i64 x.n, .int .i64 x.st]
structure Pt where
 fn:Int
 seen:List Nat
 sure:List Nat
def bN(l:List Nat):List D:=l.map fun n:Nat=>D.int .i64 (n:Int)
def I3(x:Pt):D:= .agg [.int .i64 x.fn, .ro (bN x.seen), .ro (bN x.sure)]
def dz:Pt:=⟨0,[],[]⟩
inductive TR(α:Type) where
 |ok (a:α)
 |bad (p e:Int)
 |out
def TR.bind{b c:Type}:TR b→(b→TR c)→TR c
 | .ok a,k=>k a
 | .bad p e,_=> .bad p e
 | .out,_=> .out
abbrev eL:=List (List UInt8×Nat)
structure SureL where
 l:List (Nat×Nat)
 c:Nat
structure TE where
 fs:List Fn
 vars:List Vr
 seen:eL
 sure:SureL
def ct(x:List UInt8):eL→Nat→Option (Nat×Nat)
 |[],_=>none
 |e::r,i=>bif x==e.1 then some (i,e.2)else ct x r (i+1)
def bA(x:List UInt8):List Fn→Nat→Option (Nat×Fn)
 |[],_=>none
 |e::r,i=>bif x==e.nm then some (i,e)else bA x r (i+1)
def bQ(x:Nat):List (Nat×Nat)→Nat→Option Nat
 |[],_=>none
 |e::r,i=>bif x==e.1 then some i else bQ x r (i+1)
def SureL.has(q:SureL)(i:Nat):Bool:=(bQ i q.l 0).isSome
def SureL.put(q:SureL)(i:Nat):SureL:=bif q.has i then q else ⟨q.l ++[(i,q.c)],q.c+1⟩
def SureL.both(a b:SureL):SureL:=⟨a.l.filter fun e=>b.has e.1,a.c⟩
def E4:Ex→Int
 | .mk _ _ _ _ p _=>p
def lV(E:TE)(nm:List UInt8)(p:Int):TR (Nat×Vr):=match ct nm E.seen 0 with
 |some (_,i)=> .ok (i,E.vars.getD i default)
 |none=> .bad p 6
def nG(E:TE)(nm:List UInt8)(p:Int):TR Unit:=(lV E nm p).bind fun r=>bif r.2.ty==3 then .ok ()else .bad p 8
mutual
def dc(E:TE):Ex→TR Int
 | .mk k o nm _ p xs=>
  bif k==2 then .ok 2
  else bif k==3 then (lV E nm p).bind fun r=>bif E.sure.has r.1 then .ok r.2.ty else .bad p 10
  else bif k==4 then (nG E nm p).bind fun _=>(ay E xs [[1]] false).bind fun _=> .ok 1
  else bif k==7 then (nG E nm p).bind fun _=> .ok 1
  else bif k==5 then match bA nm E.fs 0 with
   |none=> .bad p 6
   |some (_,f)=>bif f.ps.length==xs.length then (ay E xs (f.ps.map fun q=>[q.ty]) false).bind fun _=> .ok f.res else .bad p 9
  else bif k==8 then (bif o==21 then (ay E xs [[2]] false).bind fun _=> .ok 2 else (ay E xs [[1]] false).bind fun _=> .ok 1)
  else bif k==9 then bif decide (xs.length<2)then .out else (bif o==17||o==18 then (ay E xs [[2],[2]] false).bind fun _=> .ok 2
   else bif o==15||o==16 then (ay E xs [[1,2],[]] true).bind fun _=> .ok 2
   else (ay E xs [[1],[1]] false).bind fun _=> .ok (bif decide (11≤o)then 2 else 1))
  else .ok 1
def ay(E:TE):List Ex→List (List Int)→Bool→TR Unit
 |_,[],_=> .ok ()
 |[],_::_,_=> .out
 |x::xs,ts::r,a=>(dc E x).bind fun t=>bif ts.contains t then ay E xs (bif a then [[t]]else r) false else .bad (E4 x) 8
end
def ch(E:TE)(x:Ex)(ts:List Int):TR Int:=(dc E x).bind fun t=>bif ts.contains t then .ok t else .bad (E4 x) 8
structure CS where
 vars:List Vr
 seen:eL
 sure:SureL
 pts:List Pt
def Lw:aP→Int
 | .mk _ _ _ _ _ p _ _ _=>p
mutual
def eQ:aP→Bool
 | .mk k _ _ _ _ _ _ bd a=>k==6||(k==4&&(bT bd&&bT a))
def bT:List aP→Bool
 |[]=>false
 |s::r=>match r with
  |[]=>eQ s
  |_::_=>bT r
end
def CS.te(fs:List Fn)(c:CS):TE:=⟨fs,c.vars,c.seen,c.sure⟩
def CS.pt(fn:Nat)(c:CS):Pt:=⟨(fn:Int),c.seen.map (·.2),(c.seen.map (·.2)).filter c.sure.has⟩
def CS.add(c:CS)(v:Vr):CS:={c with vars:=c.vars ++[v],seen:=c.seen ++[(v.nm,c.vars.length)]}
def tf(fs:List Fn)(a:Int)(nm:List UInt8)(id ty n p:Int)(es:List Ex)(c:CS):TR CS:=
 bif decide (1000000≤es.length)then .out else (ay (c.te fs) es (es.map fun _=>[ty]) false).bind fun _=>
 bif decide (1000000<nm.length)then .out
 else bif c.vars.any fun v=>v.nm==nm then .bad p 7
 else bif ty==3&& !(a==0)then .bad p 3
 else bif ty==3&& !(decide (1≤n)&&decide (n≤256))then .bad p 1
 else bif decide (255≤c.vars.length)then .bad p 2
 else .ok (bif ty==3|| !es.isEmpty then {c.add ⟨nm,ty,n,id⟩with sure:=c.sure.put c.vars.length}else c.add ⟨nm,ty,n,id⟩)
def mo(fs:List Fn)(fn:Nat)(p:Int)(es:List Ex)(c:CS):TR CS:=match fs[fn]? with
 |none=> .out
 |some f=>bif f.res==0 then match es with
     |[]=> .ok c
     |x::_=>(dc (c.te fs) x).bind fun _=> .bad (E4 x) 8
  else match es with
   |[]=> .bad p 8
   |x::_=>(ch (c.te fs) x [f.res]).bind fun _=> .ok c
mutual
def jn(fs:List Fn)(fn:Nat)(d:Int):aP→CS→TR CS
 | .mk k id nm ty n p es bd f,e=>
  bif id==(e.pts.length:Int)&&decide (e.pts.length<900000000)then
   let c:={e with pts:=e.pts ++[e.pt fn]}
   bif k==1 then tf fs d nm id ty n p es c
   else bif k==2 then (lV (c.te fs) nm p).bind fun r=>bif r.2.ty==3 then .bad p 8 else (ay (c.te fs) es [[r.2.ty]] false).bind fun _=> .ok {c with sure:=c.sure.put r.1}
   else bif k==3 then (nG (c.te fs) nm p).bind fun _=>(ay (c.te fs) es [[1],[1]] false).bind fun _=> .ok c
   else bif k==4 then (ay (c.te fs) es [[2]] false).bind fun _=>
    (bu fs fn (fh (d+1)) false bd c).bind fun a=>
    (bu fs fn (fh (d+1)) false f {a with seen:=c.seen,sure:=c.sure}).bind fun b=>
    .ok {b with seen:=c.seen,sure:=bif bT bd then b.sure else bif bT f then a.sure else a.sure.both b.sure}
   else bif k==5 then (ay (c.te fs) es [[2]] false).bind fun _=>
    (bu fs fn (fh (d+1)) false bd c).bind fun a=> .ok {a with seen:=c.seen,sure:=c.sure}
   else bif k==6 then mo fs fn p es c
   else bif k==7 then (ay (c.te fs) es [[1,2]] false).bind fun _=> .ok c
   else bif k==8 then (match es with
    |[]=> .out
    |x::_=>(dc (c.te fs) x).bind fun _=> .ok c)
   else .ok c
  else .out
def bu(fs:List Fn)(fn:Nat)(a:Int):Bool→List aP→CS→TR CS
 |_,[],c=> .ok c
 |b,s::r,c=>bif b then .bad (Lw s) 11 else (jn fs fn a s c).bind fun c'=>bu fs fn a (eQ s) r c'
end
end Go.Avm
namespace Go.Avm
structure WE where
 p:Int
 e:Int
def WE.fail(w:WE)(p e:Int):WE:=bif w.e==0 then ⟨p,e⟩else w
def dZ(nm:List UInt8):List Vr→List Bool→Nat→Option Nat
 |[],_,_=>none
 |_::_,[],_=>none
 |v::vs,b::a,i=>bif v.nm==nm&&b then some i else dZ nm vs a (i+1)
structure BO where
 fs:List Fn
 vars:List Vr
 seen:List Bool
 sure:List Bool
def nH(E:BO)(nm:List UInt8)(p:Int)(w:WE):WE:=match dZ nm E.vars E.seen 0 with
 |none=>w.fail p 6
 |some i=>bif (E.vars.getD i default).ty==3 then w else w.fail p 8
mutual
def aM(E:BO):Ex→WE→Int×WE
 | .mk k o nm _ p xs,w=>
  bif !(w.e==0)then (0,w)
  else bif k==1||k==6 then (1,w)
  else bif k==2 then (2,w)
  else bif k==3 then (match dZ nm E.vars E.seen 0 with
   |none=>(0,w.fail p 6)
   |some i=>((E.vars.getD i default).ty,bif E.sure.getD i false then w else w.fail p 10))
  else bif k==4 then (1,ba E xs [1] (nH E nm p w))
  else bif k==5 then (match bA nm E.fs 0 with
   |none=>(0,w.fail p 6)
   |some (_,f)=>bif f.ps.length==xs.length then (f.res,ba E xs (f.ps.map (·.ty)) w)else (0,w.fail p 9))
  else bif k==7 then (1,nH E nm p w)
  else bif k==8 then (bif o==21 then (2,ba E xs [2] w)else (1,ba E xs [1] w))
  else bif o==17||o==18 then (2,ba E xs [2,2] w)
  else bif o==15||o==16 then (2,P1 E xs w)
  else (bif decide (11≤o)then 2 else 1,ba E xs [1,1] w)
def ba(E:BO):List Ex→List Int→WE→WE
 |x::xs,t::ts,w=>let r:=aM E x w;ba E xs ts (bif r.1==t then r.2 else r.2.fail (E4 x) 8)
 |_,_,w=>w
def P1(E:BO):List Ex→WE→WE
 |x::xs,w=>let r:=aM E x w;ba E xs [r.1] (bif r.1==1||r.1==2 then r.2 else r.2.fail (E4 x) 8)
 |_,w=>w
end
def dj(E:BO)(x:Ex)(t:Int)(w:WE):WE:=let r:=aM E x w;bif r.1==t then r.2 else r.2.fail (E4 x) 8
def CM(E:BO)(es:List Ex)(t:Int)(w:WE):WE:=match es with
 |[]=>w
 |x::_=>dj E x t w
structure WS where
 vars:List Vr
 pts:List Pt
 w:WE
structure LS where
 seen:List Bool
 sure:List Bool
def LS.longer(s:LS)(n:Nat):LS:=⟨s.seen ++List.replicate (n-s.seen.length) false,s.sure ++List.replicate (n-s.seen.length) false⟩
def cE:Nat→List Bool→List Nat
 |_,[]=>[]
 |i,b::r=>bif b then i::cE (i+1) r else cE (i+1) r
def kp:List Bool→List Bool→List Bool
 |a::x,b::y=>(a&&b)::kp x y
 |_,_=>[]
def LS.pt(s:LS)(fn:Nat):Pt:=⟨(fn:Int),cE 0 s.seen,cE 0 (kp s.seen s.sure)⟩
def WS.x(c:WS)(fs:List Fn)(s:LS):BO:=⟨fs,c.vars,s.seen,s.sure⟩
def iw:List Bool→List Bool→List Bool
 |a,_::r=>(match a with|b::_=>b|[]=>false)::iw a.tail r
 |_,[]=>[]
def MK(fs:List Fn)(own:Bool)(nm:List UInt8)(id ty n p:Int)(es:List Ex)(c:WS)(s:LS):WS×LS:=
 let b:=CM (c.x fs s) es ty c.w
 let d:=bif c.vars.any fun v=>v.nm==nm then b.fail p 7 else b
 let a:=bif ty==3&& !own then d.fail p 3 else d
 let e:=bif ty==3&&(decide (n<1)||decide (256<n))then a.fail p 1 else a
 let f:=bif decide (255≤c.vars.length)then e.fail p 2 else e
 ({c with vars:=c.vars ++[⟨nm,ty,n,id⟩],w:=f},⟨s.seen ++[true],s.sure ++[ty==3|| !es.isEmpty]⟩)
def zn(c d:Bool)(a b:LS):LS:=bif c then {a with sure:=b.sure}else bif d then a else {a with sure:=kp a.sure b.sure}
mutual
def cK(fs:List Fn)(fn:Nat)(own:Bool):aP→WS→LS→WS×LS
 | .mk k id nm ty n p es bd h,d,s0=>
  bif !(d.w.e==0)then (d,s0)else
   let s:=s0.longer d.vars.length
   let c:={d with pts:=d.pts ++[s.pt fn]}
   bif k==1 then MK fs own nm id ty n p es c s
   else bif k==2 then (match dZ nm c.vars s.seen 0 with
    |none=>({c with w:=c.w.fail p 6},s)
    |some i=>
     let t:=(c.vars.getD i default).ty
     ({c with w:=ba (c.x fs s) es [t] (bif t==3 then c.w.fail p 8 else c.w)},{s with sure:=s.sure.set i true}))
   else bif k==3 then ({c with w:=ba (c.x fs s) es [1,1] (nH (c.x fs s) nm p c.w)},s)
   else bif k==4 then
    let a:=bc fs fn false false bd {c with w:=ba (c.x fs s) es [2] c.w} s
    let j:LS:=⟨iw s.seen a.2.seen,a.2.sure⟩
    let g:=s.longer a.1.vars.length
    let b:=bc fs fn false false h a.1 g
    let l:=(⟨iw g.seen b.2.seen,b.2.sure⟩:LS).longer b.1.vars.length
    (b.1,zn (bT bd) (bT h) (j.longer b.1.vars.length) l)
   else bif k==5 then
    let a:=bc fs fn false false bd {c with w:=ba (c.x fs s) es [2] c.w} s
    (a.1,s.longer a.1.vars.length)
   else bif k==6 then
    let t:Int:=match fs[fn]? with|some f=>f.res|none=>0
    (match es with
    |[]=>({c with w:=bif decide (0<t)then c.w.fail p 8 else c.w},s)
    |x::_=>bif decide (0<t)then ({c with w:=dj (c.x fs s) x t c.w},s)else ({c with w:=(aM (c.x fs s) x c.w).2.fail (E4 x) 8},s))
   else bif k==7 then (match es with
    |[]=>(c,s)
    |x::_=>let r:=aM (c.x fs s) x c.w;({c with w:=bif r.1==1||r.1==2 then r.2 else r.2.fail (E4 x) 8},s))
   else bif k==8 then (match es with
    |[]=>(c,s)
    |x::_=>({c with w:=(aM (c.x fs s) x c.w).2},s))
   else (c,s)
def bc(fs:List Fn)(fn:Nat)(own:Bool):Bool→List aP→WS→LS→WS×LS
 |_,[],c,s=>(c,s)
 |a,x::r,c,s=>
  let q:=cK fs fn own x (bif a then {c with w:=c.w.fail (Lw x) 11}else c) s
  bc fs fn own (eQ x) r q.1 q.2
end
end Go.Avm
namespace Go.Avm
open Go.Proofs Go.RowKit Go.Maps Go.WideElems Go.WideShapes
variable[aH]
structure FT(es:List (D×D×Nat))(c:Nat):Prop where
 ent:∀e∈es,∃(l:List UInt8)(n:Nat),e.1= .str l∧e.2.1= .int .i64 n∧l.length≤maxLen∧n<4611686018427387904∧e.2.2<c
 keys:(es.map (·.1)).Nodup
 born:(es.map (·.2.2)).Nodup
 len:es.length≤1000000
def u9:D→List UInt8
 | .str l=>l
 |_=>[]
def ML:D→Int
 | .int _ n=>n
 |_=>0
def nI(es:List (D×D×Nat)):List Int:=es.map fun e=>ML e.2.1
def lf(zs:List Int):List Int:=zs.mergeSort fun x y=>decide (x≤y)
def Jm:DataW Unit→Int
 | .lit (.int _ n)=>n
 |_=>0
def tg(e:D×D×Nat):Lit×DataW Unit:=(.string (u9 e.1), .lit (.int .i64 (ML e.2.1)))
theorem rH{H:Type}:∀(es:List (Lit×DataW H)),es.Pairwise (fun p q=>p.1≠q.1)→∀p∈es,∀x,p.1= .string x→es.find? (fun q=>q.1.sameKey (.string x))=some p
 |[],_,p,hp,_,_=>by cases hp
 |a::r,b,p,hp,x,d=>by
  rw[List.pairwise_cons]at b;rcases x0.1 hp with rfl|c
  ·rw[List.find?_cons_of_pos (by rw[d];simp[Lit.sameKey])]
  ·have e:a.1≠p.1:=b.1 p c
   rw[List.find?_cons_of_neg (by rw[←d,sameKey_ne e];simp)];exact rH r b.2 p c x d
theorem FU{P:Program}{v y:TypeId}(N:P.underlying v=some .string)(O:P.underlying y=some (.int .i64)){imm:Nat→Nat→Prop}{w:World}{b:Nat}{es:List (D×D×Nat)}{c:Nat}{d:Array MapEntry}(g:d.size=es.length)
    (h:∀(i:Nat)(e:D×D×Nat)(m:MapEntry),es[i]? =some e→d[i]? =some m→DRep imm w e.1 m.key∧DRep imm w e.2.1 m.val∧m.born=e.2.2) (j:FT es c):
    Fit P v (plainElem (H:=Unit) P y) d c∧d.toList.map (rg P v (plainElem (H:=Unit) P y))=es.map tg:=by
 have r:∀(i:Nat)(e:D×D×Nat)(m:MapEntry),es[i]? =some e→d[i]? =some m→rd P v (plainElem (H:=Unit) P y) m=some (tg e)∧m.key= .string ⟨(u9 e.1).toArray⟩:=fun i e m f h2=>by
  obtain⟨I,K,_⟩:=h i e m f h2;obtain⟨l,n,z,L,E,S,_⟩:=j.ent e (xX f);rw[z]at I;rw[L]at K;generalize A:m.key=mk at I;generalize J:m.val=T at K;cases I with
  |str _ s C=>
  cases K with
  |int _ _=>
  have g:s.size≤maxLen:=by
   have:s.size=s.data.toList.length:=by rw[xh];rfl
   rw[this,C];exact E
  refine⟨?_,by rw[z];subst C;simp[u9]⟩;unfold rd;rw[A,J]
  have hw:(Lit.int .i64 (n:Int)).wf=true:=by
   have a:IntKind.i64.min= -9223372036854775808:=rfl;have b:IntKind.i64.max=9223372036854775807:=rfl;simp only[Lit.wf,a,b];simp;omega
  simp[Go.keyOf,N,mapKey,g,plainElem,O,hw,tg,z,L,u9,ML,C]
 have o:d.toList.map (rg P v (plainElem (H:=Unit) P y))=es.map tg:=by
  apply List.ext_getElem?;intro i;simp only[xN];by_cases u:i<es.length
  ·have f:es[i]? =some es[i]:=xD u
   have h2:d[i]? =some d[i]:=xI (by omega);have E:d.toList[i]? =some d[i]:=by rw[xi];exact h2
   rw[f,E];have:=(r i _ _ f h2).1;simp[rg,this]
  ·rw[yg (l:=es) (by omega),yg (l:=d.toList) (by rw[xh];omega)]
   rfl
 refine⟨⟨by rw[g];have:=j.len;unfold maxLen;omega,⟨fun x F=> ?_, ?_, ?_⟩,fun x F=> ?_⟩,o⟩
 ·obtain⟨i,u,rfl⟩:=yY F
  have k:i<d.size:=by simpa using u
  have f:es[i]? =some (es[i]'(by omega)):=xD _;have h2:d[i]? =some d[i]:=xI k;obtain⟨_,_,M⟩:=h i _ _ f h2;obtain⟨_,_,_,_,_,_,R⟩:=j.ent _ (xX f);simp only[y7];rw[M];exact R
 ·have:d.toList.map (·.born)=es.map (·.2.2):=by
    apply List.ext_getElem (by simp[g]);intro i f h2;simp only[xO,xh]at f h2;simp only[List.getElem_map,y7];exact(h i _ _ (xD (by omega)) (xI (by omega))).2.2
  rw[this];exact j.born
 ·have:d.toList.map (·.key)=es.map (fun e=>Value.string ⟨(u9 e.1).toArray⟩):=by
    apply List.ext_getElem (by simp[g]);intro i f h2;simp only[xO,xh]at f h2;simp only[List.getElem_map,y7];exact(r i _ _ (xD (by omega)) (xI (by omega))).2
  rw[this];have t:=j.keys;rw[yq,List.pairwise_map]at t ⊢;refine t.imp_of_mem fun {p q} hp Q B e=>B ?_
  obtain⟨l,_,z,_⟩:=j.ent p hp;obtain⟨l',_,G,_⟩:=j.ent q Q;rw[z,G]at e ⊢;simp only[u9,Value.string.injEq,ByteArray.mk.injEq]at e;have:l=l':=by simpa using e
  rw[this]
 ·obtain⟨i,u,rfl⟩:=yY F
  have k:i<d.size:=by simpa using u
  exact⟨_,(r i _ _ (xD (by omega)) (by rw[y7];exact xI k)).1⟩
theorem Ef{P:Program}{n o:TypeId}(r:P.underlying n=some .string)(F:P.underlying o=some (.int .i64)){imm:Nat→Nat→Prop}{w:World}{b:Nat}{es:List (D×D×Nat)}{c:Nat}(hm:DV imm w b es c)(B:FT es c):
    ∃m:DataW Unit,w.ownsMap P n (plainElem P o) b es.length m∧Maps.size m≤es.length∧∀ps,AnyY.AllOf m ps→(ps.map (·.2)).Perm (nI es):=by
 obtain⟨C,A,k,j⟩:=hm;obtain⟨v,u⟩:=FU r F (b:=b) k j B;have f:=fit_apart (string_keyed r) v;rw[u]at f;have g:w.ownsMap P n (plainElem (H:=Unit) P o) b es.length (.map ((es.map tg).foldr DataW.insert [])):=⟨C,c,A,v,by omega,by rw[u]⟩
 refine⟨_,g, ?_,fun ps l=> ?_⟩
 ·show((es.map tg).foldr DataW.insert []).length≤_
  rw[(sorted_perm (es.map tg)).length_eq];simp
 ·obtain⟨y,_,s⟩:=l
  have d:=sorted_perm (es.map tg);generalize K:(es.map tg).foldr DataW.insert []=E at y s d;have i:E.Pairwise (fun p q=>p.1≠q.1):=(d.symm.pairwise_iff (fun {a b} (h:a.1≠b.1)=>h.symm)).1 f
  let val:List UInt8→Int:=fun x=>Jm ((DataW.map E).atKey (.string x) .nil)
  have J:ps.map (·.2)=(ps.map (·.1)).map val:=by
   rw[yx];refine y5 fun p hp=> ?_
   have:=s p hp .nil;simp only[Function.comp,val,this,Jm]
  have z:(strKeys (DataW.map E)).map val=E.map fun q=>Jm q.2:=by
   show(E.map fun p=>strOf p.1).map val=_;rw[yx];refine y5 fun q t=> ?_
   obtain⟨e,I,rfl⟩:=x9.1 (d.mem_iff.1 t);have G:=rH E i _ t (u9 e.1) rfl;show Jm ((DataW.map E).atKey (.string (u9 e.1)) .nil)=_
   have:(DataW.map E).atKey (.string (u9 e.1)) .nil=(tg e).2:=by
    unfold DataW.atKey;simp only[G]
   rw[this]
  rw[J];refine(y.map val).trans ?_;rw[z];refine(d.map _).trans ?_;rw[yx];exact List.Perm.refl _
theorem jo:∀(zs:List Int),D.flat (zs.map (D.int .i64))=zs.map (D.int .i64)
 |[]=>rfl
 |a::r=>by
  have:=jo r;unfold D.flat at this ⊢;simp only[xH,yT,this];rfl
theorem FV{imm:Nat→Nat→Prop}{w:World}{g cap:Nat}{bZ:Array Value}{e:TypeId}{zs:List Int}(l:w.heap[g]? =some (.cells bZ e (0,0)))(d:zs.length≤cap)(k:bZ.toList.take zs.length=zs.map (Value.int .i64))(j:∀t,t<zs.length→imm g t):
    DRep imm w (.ro (zs.map (D.int .i64))) (.slice (some ⟨g,0,none⟩) zs.length cap):=by
 have h:=DRep.ro (imm:=imm) (w:=w) (zs.map (D.int .i64)) g 0 cap 1 (fun t=> .int .i64 (zs.getD t 0)) (by simpa using d) (fun e f=>by
  obtain⟨n,_,rfl⟩:=x9.1 f;rfl) (fun e f=>by
  rw[jo]at f;obtain⟨n,_,rfl⟩:=x9.1 f;rfl) (fun t c b=>by
  rw[jo]at b;have:=(xC.1 b).1;rw[x8];exact j t (by simpa using this)) (fun t c b=>by
  rw[jo]at b;have a:t<zs.length:=by simpa using (xC.1 b).1
  have i:(bZ.toList.take zs.length)[t]? =some (Value.int .i64 zs[t]):=by rw[k];simp[a]
  rw[List.getElem?_take_of_lt a,xi]at i;rw[x8];simp only[World.cell?,l];simp[i,a]) (fun t c b=>by
  rw[jo]at b;have a:t<zs.length:=by simpa using (xC.1 b).1
  simp[a]at b;subst b;simp[a];exact .int _ _)
 rwa [xO]at h
theorem vd{P:Program}{g f:Nat}(hcb:da P g){kT eT iT:TypeId}(hk:P.underlying kT=some .string)(he:P.underlying eT=some (.int .i64))
    (hC:∀(Bm b nn:Nat)(N:DataW Unit)(w:World),Bm<w.heap.size→w.cell? ⟨Bm,0,none⟩=some (.map (some b))→w.ownsMap P kT (plainElem P eT) b nn N→Maps.size N≤1000000→
     Calls P g #[.func (.func f) #[] #[.pointer (some ⟨Bm,0,none⟩)]] w fun e W=>∃v T,e= .returned v∧(∃ps,AnyY.AllOf N ps∧T=ps.map (·.2))∧W.ownsRow w.heap.size iT 1 v T.length ((lf T).map (Value.int .i64))∧Below w.heap.size w W)
    {h:aa} {kb vb k v:Nat} {es:List (D×D×Nat)} {c:Nat} (hb:h kb=⟨vb,some (.arr 1 [.mp k v])⟩) (hm:h k=⟨v,some (.map es c)⟩) (hn:FT es c):
    am P g [.fn f [.ptr kb vb 0 0 1]] h [.d (.ro ((lf (nI es)).map (D.int .i64)))] h:=by
 refine⟨hcb,fun G B w0 I0 w a H hs y=> ?_⟩
 obtain⟨u,rfl⟩:∃u,a= #[u]:=by
  have A:a.size=1:=hs;refine⟨a[0],Array.ext (by simp[A]) (fun i hi _=> ?_)⟩;have:i=0:=by omega
  subst this;rfl
 have hu:=y 0 _ u rfl rfl;cases hu with
 |fn _ _ vs hl J=>
 obtain⟨p,rfl⟩:∃p,vs= #[p]:=by
  have A:vs.size=1:=hl;refine⟨vs[0],Array.ext (by simp[A]) (fun i hi _=> ?_)⟩;have:i=0:=by omega
  subst this;rfl
 have hp:=J 0 _ p rfl rfl;have M:(h kb).ver=vb:=by rw[hb]
 have X:(h kb).ob=some (.arr 1 [.mp k v]):=by rw[hb]
 obtain⟨b,S,hM⟩:=H.maps.obj k es c (by rw[hm]);have hv:(h k).ver=v:=by rw[hm]
 rw[hv]at S;generalize hz:(1:Nat)=z at hp;cases hp with
 |ptr _ _ _ _ L hL=>
 rcases H.objs kb _ X with ⟨Y,_⟩|⟨L',Q,g1,g2,g3,g4,g5,g6⟩
 ·cases Y
 rw[M,hL]at Q;cases Q;obtain⟨cu,r,K,m⟩:=g6 0 _ rfl;generalize R:AV.mp k v=mm at m;cases m<;>first|(cases R;done)|skip
 rename_i b' I;clear K;cases R;rw[S]at I;cases I;obtain⟨N,C,Z,s⟩:=Ef hk he hM hn;have U:L.b<w.heap.size:=H.blt (by rw[M];exact hL);simp only[Nat.zero_mul,yo,x8];refine(hC L.b b es.length N w U r C (yH Z hn.len)).mono ?_;rintro e W ⟨v',T,rfl,⟨ps,F,rfl⟩,j,n⟩;have l:lf (ps.map (·.2))=lf (nI es):=mergeSort_of_perm_i (s ps F);rw[l]at j;have E:(ps.map (·.2)).length=(lf (nI es)).length:=by rw[←l];simp[lf]
 rw[E]at j;rcases j.2 with ⟨rfl,V⟩|⟨gb,cap,bZ,rfl,q,O,r1,r2,r3,r4⟩
 ·obtain⟨A,e1⟩:=H.behind n (I':=fun _ _=>False) (fun _ _ x=>x.elim) (fun _ _ x=>x.elim)
  refine⟨_,_,rfl,e1,A, ?_⟩;have:lf (nI es)=[]:=List.length_eq_zero_iff.1 V;rw[this];exact .d (.roNil _ _)
 ·obtain⟨A,e1⟩:=H.behind n (I':=fun b o=>b=gb) (fun b o x=>by subst x;exact .inr q) (fun b o x=>by subst x;exact(xR.1 O).1)
  refine⟨_,_,rfl,e1,A, ?_⟩;exact .d (FV O r1 (by simpa using r4) (fun t _=> .inr rfl))
end Go.Avm
namespace Go.Avm
open Go.RowKit
variable[aH]
open Classical in
noncomputable def I4(d:cI):wZ:=fun b a N c S=>match d b a N c S with
 |some (e,S',g,f,ps)=>if Alike ps then some (e,S',g,f)else none
 |none=>none
theorem rI{d:cI}{b a N:Nat}{c:Code}{S S':St}{e:aB}{g:Nat}{f:List Nat}{ps:aq}(h:d b a N c S=some (e,S',g,f,ps))(i:Alike ps):I4 d b a N c S=some (e,S',g,f):=by
 unfold I4;rw[h];exact xf i
theorem Eg{P:Program}{b:cI}(h:gA P b):CA P (I4 b):=fun i d N c S e S' n l a=>by
 unfold I4 at a;split at a
 ·rename_i o S1 m g f k
  split at a
  ·rename_i j
   simp only[xA,xE]at a;obtain⟨rfl,rfl,rfl,rfl⟩:=a;exact h _ _ _ _ _ _ _ _ _ _ k j
  ·cases a
 ·cases a
def CN(P:Program)(b:List ResultVar):Option (aB×St×Nat×List Nat×aq)→Option (Bq×aa×Nat×List Nat×aq)
 |some (e,S',a,c,ps)=>(iY P b (some (e,S',a,c))).map fun r=>(r.1,r.2.1,r.2.2.1,r.2.2.2,ps)
 |none=>none
def FW(P:Program)(f:cI)(a:Nat)(g:Nat)(args:List AV)(x:Option AV)(h:aa):Option (aa×Nat×List Nat×aq):=
 match P.funcs[g]? with
 |none=>none
 |some fn=>match fn.body with
  |some (.seq r c)=>match lK r with
   |some d=>if args.length≤fn.ntmps∧d<fn.ntmps∧fn.results.isEmpty=true then match f g a fn.ntmps c ⟨aG (fO args) d (x.getD (.d .nili)),h⟩with
       |some (.normal,S',b,e,ps)=>some (S'.heap,b,e,ps)
       |some (.ret,S',b,e,ps)=>some (S'.heap,b,e,ps)
       |_=>none
    else none
   |none=>none
  |_=>none
def CO(P:Program)(h:cI)(b N:Nat)(i:List ResultVar):Code→Nat→St→Option (Bq×aa×Nat×List Nat×aq)
 | .seq x y,a,S=>match p5 x with
  |some (f,YU)=>match opd S.env f with
   | .fn g d=>match h b a N y S with
    |some (e,k,m,j,ps)=>match Lv e with
     |some n=>match FW P h m g (YU.map (opd S.env) ++d) n k.heap with
      |some r=>(lU P ⟨k.env,r.1⟩ i).map fun l=>(.ret l,r.1,r.2.1,j ++(r.2.2.1 ++Bp k.env i),ps ++r.2.2.2)
      |none=>none
     |none=>none
    |none=>none
   |_=>none
  |none=>match h b a N x S with
   |some (.normal,S',o,j,ps)=>match CO P h b N i y o S' with
    |some r=>some (r.1,r.2.1,r.2.2.1,j ++r.2.2.2.1,ps ++r.2.2.2.2)
    |none=>none
   |r=>CN P i r
 |c,a,S=>CN P i (h b a N c S)
theorem Jn{P:Program}{l:cI}{e g:Nat}{args:List AV}{x:Option AV}{h h':aa}{b:Nat}{k:List Nat}{ps:aq}(a:FW P l e g args x h=some (h',b,k,ps))(m:Alike ps):Ft P (I4 l) e g args x h=some (h',b,k):=by
 unfold FW at a;unfold Ft;split at a
 ·cases a
 rename_i fn s;rw[s];simp only;split at a;case h_2=>cases a
 rename_i r c p;rw[p];simp only;split at a;case h_2=>cases a
 rename_i d n;rw[n];simp only;split at a;case isFalse=>cases a
 rename_i o;rw[xf o];split at a
 ·rename_i S' q j i f
  simp only[xA,xE]at a;obtain⟨rfl,rfl,rfl,rfl⟩:=a;rw[rI f m]
 ·rename_i S' q j i f
  simp only[xA,xE]at a;obtain⟨rfl,rfl,rfl,rfl⟩:=a;rw[rI f m]
 ·cases a
theorem CP{P:Program}{j:List ResultVar}{g:cI}{d a N:Nat}{c:Code}{S:St}{y:Bq}{h':aa}{b:Nat}{i:List Nat}{ps:aq}(h:CN P j (g d a N c S)=some (y,h',b,i,ps))(m:Alike ps):iY P j (I4 g d a N c S)=some (y,h',b,i):=by
 cases f:g d a N c S with
 |none=>rw[f]at h;cases h
 |some r=>
  obtain⟨e,S',o,l,k⟩:=r;rw[f]at h;simp only[CN,xB,xE]at h;obtain⟨r,n,rfl,rfl,rfl,rfl,rfl⟩:=h;rw[rI f m,n]
theorem Jo{P:Program}{s:cI}{j N:Nat}{z:List ResultVar}:∀(c:Code)(a:Nat)(S:St)(y:Bq)(h':aa)(b:Nat)(m:List Nat)(ps:aq),CO P s j N z c a S=some (y,h',b,m,ps)→Alike ps→tB P (I4 s) j N z c a S=some (y,h',b,m):=by
 intro c;induction c with
 |seq x y _ q=>
  intro a S w h' b m ps h k;simp only[CO]at h;simp only[tB];split at h
  ·rename_i f YU u
   rw[u];simp only;split at h;case h_2=>cases h
   rename_i g v I;rw[I];simp only;split at h;case h_2=>cases h
   rename_i e U Q J B d;split at h;case h_2=>cases h
   rename_i T n;split at h;case h_2=>cases h
   rename_i r o;obtain⟨F,C,A,K⟩:=r;simp only[xB,xE]at h;obtain⟨l,G,rfl,rfl,rfl,rfl,rfl⟩:=h;rw[rI d k.left];simp only[n];rw[Jn o k.right];simp only[G,x5]
  ·rename_i u
   rw[u];simp only;split at h
   ·rename_i S' H p D d
    split at h;case h_2=>cases h
    rename_i r o;obtain⟨F,C,A,K,O⟩:=r;simp only[xA,xE]at h;obtain⟨rfl,rfl,rfl,rfl,rfl⟩:=h;rw[rI d k.left];simp only;rw[q _ _ _ _ _ _ _ o k.right]
   ·rename_i t
    have h2:=CP h k;cases d:I4 s j a N x S with
    |none=>rw[d]at h2;simp[iY]at h2
    |some r=>
     obtain⟨e,S',H,p⟩:=r;cases e with
     |normal=>
      exfalso;unfold I4 at d;split at d
      ·rename_i V S1 R E L M
       split at d
       ·simp only[xA,xE]at d
        obtain⟨rfl,rfl,rfl,rfl⟩:=d;exact t _ _ _ _ M
       ·cases d
      ·cases d
     |ret=>rw[d]at h2;exact h2
     |exit i=>rw[d]at h2;exact h2
     |panic x=>rw[d]at h2;exact h2
 |_=>
  intro a S w h' b m ps h k;exact CP h k
def oI(P:Program)(c:cI)(a:Nat)(g:Nat)(args:List AV)(h:aa):Option (Bq×aa×Nat×List Nat×aq):=
 match P.funcs[g]? with
 |none=>none
 |some fn=>match fn.body with
  |none=>none
  |some b=>if args.length≤fn.ntmps then CO P c g fn.ntmps fn.results.toList b a ⟨fO args,h⟩else none
theorem FX{P:Program}{d:cI}{c g:Nat}{args:List AV}{h h':aa}{y:Bq}{b:Nat}{e:List Nat}{ps:aq}(a:oI P d c g args h=some (y,h',b,e,ps))(j:Alike ps):uQ P (I4 d) c g args h=some (y,h',b,e):=by
 unfold oI at a;unfold uQ;split at a
 ·cases a
 rename_i fn k;rw[k];simp only;split at a
 ·cases a
 rename_i bd f;rw[f];simp only;split at a;case isFalse=>cases a
 rename_i i;rw[xf i];exact Jo _ _ _ _ _ _ _ _ a j
def zo(r:Option (Bq×aa×Nat×List Nat×aq)):Option (List AV×aa×Nat×List Nat×aq):=match r with
 |some (.ret a,h,b,c,ps)=>some (a,h,b,c,ps)
 |_=>none
def lg(r:Option (List AV×aa×Nat×List Nat×aq))(b:List D):Option (aB×aq):=
 match r with
 |some (a,h',_,_,ps)=>match nA h' a with
  |some ds=>some (.ret,(.ds ds, .ds b)::ps)
  |none=>none
 |none=>none
theorem aK{P:Program}(hm:jF P)(i:dX P)(f:Par P)(n a:Nat){g:Nat}{ds e:List D}
    (h:kn (lg (zo (oI P (aZ P f n) a g (ds.map .d) I2)) e)=ko .ret (lg (zo (oI P (aZ P f n) a g (ds.map .d) I2)) e)):aF P g ds e:=by
 obtain⟨ps,b,j⟩:=e7 h;unfold lg at b;split at b;case h_2=>cases b
 rename_i m h' w u o c;split at b;case h_2=>cases b
 rename_i p r;simp only[xA,xE,zQ]at b;subst b;have k:=j.head;simp only[aN.ds.injEq]at k;subst k;unfold zo at c;split at c;case h_2=>cases c
 rename_i t h2 v s q l;simp only[xA,xE]at c;obtain⟨rfl,rfl,rfl,rfl,rfl⟩:=c;exact tc (uV hm i (Eg (cJ hm i n)) (FX l j.tail)).1 r
end Go.Avm
namespace Go.Avm
variable[aH]
def jp(r:Option (List AV×aa×Nat×List Nat×aq))(M:Nat)(c:List AV)(a:List (Nat×aE)):Option (aB×aq):=
 match r with
 |some (b,h',_,d,ps)=>match aX h' a with
  |some q=>match d.all fun k=>Nat.blt k M with
   |true=>some (.ret,(.av (.tup b), .av (.tup c))::(ps ++q))
   |false=>none
  |none=>none
 |none=>none
theorem rJ{P:Program}(hm:jF P)(C:dX P)(A:Par P)(n j g M:Nat){args o:List AV}{b d:List (Nat×aE)}(c:Cln (b.map (·.1)) M args b d)(R:bk (dm (b.map (·.1)) M) o=o)
    (h:∀a:aa,kn (jp (ep P (aZ P A n) j g args (ae b (dy M a))) M o d)=ko .ret (jp (ep P (aZ P A n) j g args (ae b (dy M a))) M o d)) (a:aa):am P g args (ae b a) o (ae d a):=by
 have z:∀a:aa,∃h2,am P g args (ae b (dy M a)) o h2∧(∀k,k∈b.map (·.1)→h2 k=ae d h2 k)∧∀k,M≤k→h2 k=ae b (dy M a) k:=fun a=>by
  obtain⟨ps,i,r⟩:=e7 (h a);unfold jp at i;split at i;case h_2=>cases i
  rename_i J h' X F L v;split at i;case h_2=>cases i
  rename_i q T;split at i;case h_2=>cases i
  rename_i I;simp only[xA,xE,zQ]at i;subst i;have D:=r.head;simp only[aN.av.injEq,AV.tup.injEq]at D;subst D
  have y:∀k∈F,k<M:=fun k s=>by
   have:=xc.1 I k s;simpa using this
  obtain⟨c1,S⟩:=dQ hm C (cJ hm C n) v r.tail.left;have p:=hG h' d (aR T r.tail.right);refine⟨ae d h',⟨c1.1,fun G B w0 I0 w m v x l=>(c1.2 G B w0 I0 w m v x l).mono ?_⟩,fun k f=> ?_,fun k N=> ?_⟩
  ·rintro e W ⟨u,Q,rfl,V,H,O⟩
   refine⟨u,Q,rfl,V,H.forget fun k=> ?_,O⟩;by_cases f:k∈d.map (·.1)
   ·exact p k
   ·rw[b7 _ _ f]
    exact⟨rfl, .inr rfl⟩
  ·exact fP _ _ _ (by rw[c.postK];exact f)
  ·have f:k∉b.map (·.1):=fun t=>by have:=c.ltF k t;omega
   rw[b7 _ _ (by rw[c.postK];exact f)];exact S k fun t=>by have:=y k t;omega
 obtain⟨h2,E,K,U⟩:=z (eP (dm (b.map (·.1)) M) (zk (b.map (·.1)) M) (ae b a));rw[←c.heap a]at E;refine lM (k7 c.ltF) (h2:=h2) ?_ (c.behind a K U);rw[c.argsK,R];exact E
end Go.Avm
namespace Go.Avm
open Go.RowKit
variable[aH]
section
variable{P:Program}{B:Nat}{w0:World}{I0:Nat→Nat→Prop}{cfg:ic}{N:Nat}{b:Array Oper}
theorem tR{D:List Deferred}(u:io P)(r:Option Nat)(n:Nat){Q:Exit→Act→World→Prop}{e:List Nat}:∀(l:List Nat){G:Gh}{w:World}{S S':St}{a:Act}{ob:List Obl}{fts:List Foot},
    HR G B w0 I0 S.heap w→FR G w N D S.env a→d7 P cfg N b l S=some (S',ob,fts)→gy P ob→
    (∀t g h,Ext G w h g→HR h B w0 I0 S'.heap g→FR h g N D S'.env t→wpOpsIn (FF r) n P b Q e t g)→wpOpsIn (FF r) n P b Q (l ++e) a w
 |[],G,w,S,S',a,ob,fts,k,s,d,f,p=>by
  simp only[d7,xA,xE]at d;obtain⟨rfl,_,_⟩:=d;rw[yG];exact p a w G (Ext.refl G w) k s
 |i::O,G,w,S,S',a,ob,fts,k,s,d,f,p=>by
  simp only[d7]at d;split at d
  ·cases d
  ·rename_i o K
   split at d
   ·cases d
   ·rename_i I m
    split at d
    ·cases d
    ·rename_i M q
     simp only[xA,xE]at d;obtain⟨rfl,rfl,rfl⟩:=d;obtain⟨S1,x,v⟩:=I;obtain⟨T,L,F⟩:=M;rw[xk,wpOpsIn_cons];unfold wpOpIn;simp only[K]
     exact fy u k s m (fun c j=>f c (yK _ j)) r n (fun t g h R h2 A=>
      tR u r n O h2 A q (fun c j=>f c (ye _ j)) (fun C E J z y H=>p C E J (R.trans z) y H))
end
section
variable{P:Program}{G:Gh}{B:Nat}{w0 w:World}{I0:Nat→Nat→Prop}{h:aa}{env:Nat→AV}{a:Act}{op:Oper}
theorem FY(g:HR G B w0 I0 h w)(m:∀x,Rep G w (opd env x) (a.eval x)){t kt et:TypeId}{x:Operand}{k v c:Nat}{es:List (D×D×Nat)}(K:Nat)(s:op.op= .range t x)(H:P.underlying t=some (.map kt et))
    (E:opd env x= .mp k v) (i:h k=⟨v,some (.map es c)⟩):∃v' j q,(execOp a.eval op).run P w= .ok (.value v') j∧Ext G w q j∧HR q B w0 I0 (aG h K ⟨(h K).ver+1,some (.itr k v c [])⟩) j∧Rep q j (.itr K ((h K).ver+1)) v':=by
 have f:=m x;rw[E]at f;generalize p:a.eval x=L at f;cases f with
 |mp _ _ b y=>
 obtain⟨N,d,C,A,F,u⟩:=g.maps.obj k es c (by rw[i]);rw[i]at d;simp only at d;rw[y]at d;cases d;have n:=g.allocAny (.mapIter (some b) c #[] c);have I:=Ext.alloc g (.mapIter (some b) c #[] c)
 obtain⟨r,z⟩:=n.newFixO K (b:=w.heap.size) (oo:=some (.itr k v c [])) (o:= .mapIter (some b) c #[] c) (fun o' e=>by cases e;rfl) g.bsz (fun k _ _ x=>by
  obtain⟨_,⟨o,_,h2⟩,_⟩:=g.maps.low _ _ _ x;have:=(xR.1 h2).1;omega) rfl (heap_alloc_new w _) (fun _ _ e=>by cases e) (fun _ _ _ _ _ _ _ e=>by cases e) (fun J M l seen e=>by
  cases e;exact⟨b, #[],c,y,heap_alloc_new w _,rfl,rfl⟩)
 refine⟨.pointer (some ⟨w.heap.size,0,none⟩),w.alloc (.mapIter (some b) c #[] c),_, ?_,I.trans z,r, .itr _ _ _ (by simp[Gh.atMap])⟩;unfold execOp;rw[s];simp only[p,Sem.run_bind,run_range_map w t kt et b C c H A,Result.andThen,Sem.run];rfl
def CQ(h:aa)(I vI k v c:Nat)(es:List (D×D×Nat))(seen:List Nat)(x:AV)(h':aa):Prop:=
 (x= .tup [.d (.bool false)]∧h'=h∧∀e∈es,e.2.2∈seen)∨
 ∃e∈es,e.2.2∉seen∧x= .tup [.d (.bool true), .d e.1, .d e.2.1]∧h'=aG h I ⟨vI,some (.itr k v c (seen ++[e.2.2]))⟩
theorem Jp(J:HR G B w0 I0 h w)(W:∀x,Rep G w (opd env x) (a.eval x)){x:Operand}{I vI k v c:Nat}{es:List (D×D×Nat)}{seen:List Nat}(hop:op.op= .next x false)
    (E:opd env x= .itr I vI) (N:h I=⟨vI,some (.itr k v c seen)⟩) (L:h k=⟨v,some (.map es c)⟩) (O:∀e∈es,e.2.2<c):
    ∃v' F G' x' h',(execOp a.eval op).run P w= .ok (.value v') F∧Ext G w G' F∧HR G' B w0 I0 h' F∧Rep G' F x' v'∧CQ h I vI k v c es seen x' h':=by
 have C:=W x;rw[E]at C;generalize Z:a.eval x=vx at C;cases C with
 |itr _ _ b hL=>
 obtain⟨b',R,Q,p,r,M,A,y,V⟩:=J.maps.iters I k v c seen (by rw[N]);rw[N]at r;simp only at r;rw[hL]at r;cases r;subst V;obtain⟨b2,o,n,hb,hsz,s⟩:=J.maps.obj k es _ (by rw[L]);rw[L]at o;simp only at o;rw[M]at o;cases o
 have H:∀m∈n.toList,∃e∈es,DRep G.imm w e.1 m.key∧DRep G.imm w e.2.1 m.val∧m.born=e.2.2:=fun m hm=>by
  obtain⟨i,hi,z⟩:=yY hm;have l:i<n.size:=by simpa using hi
  have h2:n[i]? =some m:=by rw[xI l];rw[←z];simp
  have h1:es[i]? =some es[i]:=xD (by omega);exact⟨es[i],yO _,s i _ m h1 h2⟩
 have j:(execOp a.eval op).run P w=((Instr.next (.pointer (some ⟨b,0,none⟩)) false op.type).run P w).andThen fun v F=>(pure (Next.value v):Sem Next).run P F:=by
  unfold execOp;rw[hop];simp only[Z,Sem.run_bind]
 rcases run_next_at (P:=P) w op.type b R p p Q n p A hb (fun m hm=>by
  obtain⟨e,z,_,_,f⟩:=H m hm;rw[f];exact O e z) (xL _)with ⟨h0,hrun⟩|⟨m,hm,w1,hw1,hrun⟩
 ·refine⟨_,w,G, .tup [.d (.bool false)],h,by rw[j,hrun];rfl,Ext.refl G w,J, .tup _ _ rfl (fun i cc u g q=> ?_), .inl ⟨rfl,rfl,fun e z=> ?_⟩⟩
  ·cases i with
   |zero=>
    simp at g q;subst g;subst q;exact .d (.bool _)
   |succ i=>simp at g
  ·
   obtain⟨i,hi,hee⟩:=yY z;have l:i<n.size:=by omega
   have h1:es[i]? =some e:=by rw[xD hi,hee]
   have h2:n[i]? =some n[i]:=xI l;obtain⟨_,_,f⟩:=s i e _ h1 h2;have hl:leftOf n Q= #[]:=Array.eq_empty_of_size_eq_zero h0;unfold leftOf at hl;rw[Array.filter_eq_empty_iff]at hl;have:=hl n[i] (zC l);simp only[yN,Bool.not_eq_false']at this;rw[←y,←f];simpa using this
 ·unfold leftOf at hm
  simp only[Array.toList_filter,ym,yN]at hm;obtain⟨e,z,S,Y,f⟩:=H m hm.1
  have hns:e.2.2∉seen:=fun E=>by
   rw[←y,←f]at E;have:=hm.2;simp at this;exact this (by simpa using E)
  have hw:HR G B w0 I0 h w1∧Ext G w G w1∧w1.heap[b]? =some (.mapIter (some R) p Q p):=by
   rcases hw1 with rfl|rfl
   ·exact⟨J,Ext.refl G _,A⟩
   ·exact⟨J.drew,Ext.drew G w,A⟩
  obtain⟨X,e1,t⟩:=hw
  obtain⟨K,e2⟩:=X.setFix (k:=I) (b:=b) (o':= .mapIter (some R) p (Q.push m.born) p) (ob':=some (.itr k v p (seen ++[e.2.2]))) (by rw[N];rfl) (by rw[N];exact hL) t rfl rfl (fun _=>⟨_,_,_,_,rfl⟩) (fun x E=>by cases E;rfl) (fun _ _ e=>by cases e) (fun _ _ _ _ _ _ _ e=>by cases e) (fun km vm T sn e3=>by
   cases e3;have U:=(xR.1 t).1;exact⟨R,_,p,M,World.putObj_heap_same U,by simp[y,f],rfl⟩)
  rw[N]at K;refine⟨_,_,G, .tup [.d (.bool true), .d e.1, .d e.2.1],_,by rw[j,hrun];rfl,e1.trans e2,K, .tup _ _ rfl (fun i cc u g q=> ?_), .inr ⟨e,z,hns,rfl,rfl⟩⟩;have ee:=e1.trans e2;match i with
  |0=>
   simp at g q;subst g;subst q;exact .d (.bool _)
  |1=>
   simp at g q;subst g;subst q;exact(Rep.d S:Rep G w _ _).mono ee
  |2=>
   simp at g q;subst g;subst q;exact(Rep.d Y:Rep G w _ _).mono ee
  |i+3=>simp at g
theorem FZ(N:HR G B w0 I0 h w)(J:∀x,Rep G w (opd env x) (a.eval x)){x:Operand}{I vI k v c:Nat}{es:List (D×D×Nat)}{seen:List Nat}{e:D×D×Nat}(S:op.op= .entry x)
    (hx:opd env x= .itr I vI) (X:h I=⟨vI,some (.itr k v c (seen ++[e.2.2]))⟩) (r:h k=⟨v,some (.map es c)⟩) (he:e∈es) (hn:(es.map (·.2.2)).Nodup):
    ∃v' A O Y h',(execOp a.eval op).run P w= .ok (.value v') A∧Ext G w O A∧HR O B w0 I0 h' A∧Rep O A Y v'∧Y= .tup [.d e.1, .d e.2.1]∧h'=h:=by
 have o:=J x;rw[hx]at o;generalize M:a.eval x=vx at o;cases o with
 |itr _ _ b hL=>
 obtain⟨b',bm,sa,W,l,Q,y,F,H⟩:=N.maps.iters I k v c _ (by rw[X]);rw[X]at l;simp only at l;rw[hL]at l;cases l;subst H;obtain⟨b2,g,f,Z,hsz,m⟩:=N.maps.obj k es _ (by rw[r]);rw[r]at g;simp only at g;rw[Q]at g;cases g;obtain⟨i,hi,R⟩:=yY he;have K:i<f.size:=by omega
 have h1:es[i]? =some e:=by rw[xD hi,R]
 have h2:f[i]? =some f[i]:=xI K;obtain⟨E,L,T⟩:=m i e _ h1 h2
 have n:f.toList.map (·.born)=es.map (·.2.2):=by
  apply List.ext_getElem?;intro j;rcases yR j es.length with V|V
  ·have t:j<f.size:=by omega
   have U:es[j]? =some es[j]:=xD V;have g2:f[j]? =some f[j]:=xI t;rw[xN,xN,U];have g3:f.toList[j]? =some f[j]:=by simp[t]
   rw[g3];simp only[x5];rw[(m j _ _ U g2).2.2]
  ·rw[yg (by simp;omega),yg (by simp;omega)]
 obtain⟨p,s⟩:∃p:Array Nat,sa=p.push f[i].born:=⟨seen.toArray,by
  apply Array.toList_inj.1;rw[F,T];simp⟩
 rw[s]at y;have z:=run_entry_at (P:=P) w b bm W p f W f[i] y Z (by simp) (by rw[n];exact hn);refine⟨.tuple #[f[i].key,f[i].val],w,G, .tup [.d e.1, .d e.2.1],h, ?_,Ext.refl G w,N, .tup _ #[f[i].key,f[i].val] rfl (fun j cc u q C=> ?_),rfl,rfl⟩
 ·unfold execOp
  rw[S];simp only[M,Sem.run_bind,z,Result.andThen];rfl
 ·match j with
  |0=>
   simp at q C;subst q;subst C;exact .d E
  |1=>
   simp at q C;subst q;subst C;exact .d L
  |j+2=>simp at q
end
end Go.Avm
namespace Go.Avm
theorem mN{nm:List UInt8}:∀{vs:List Vr}{c:List Bool}{i k:Nat},dZ nm vs c i=some k→∃j v,k=i+j∧vs[j]? =some v∧v.nm=nm∧c[j]? =some true
 |[],_,_,_,h=>by cases h
 |_::_,[],_,_,h=>by cases h
 |v::vs,b::c,i,k,h=>by
  simp only[dZ]at h;cases a:(v.nm==nm&&b)with
  |true=>
   rw[a]at h;simp only[xW,xA]at h;simp only[xJ,yI]at a;exact⟨0,v,by omega,rfl,a.1,by simp[a.2]⟩
  |false=>
   rw[a]at h;obtain⟨j,w,f,h2,e,d⟩:=mN (by simpa using h);exact⟨j+1,w,by omega,by simpa using h2,e,by simpa using d⟩
theorem rK{nm:List UInt8}:∀{vs:List Vr}{f:List Bool}{i:Nat},dZ nm vs f i=none→∀(j:Nat)(v:Vr),vs[j]? =some v→v.nm=nm→f[j]?≠some true
 |[],_,_,_,j,v,c,_=>by simp at c
 |_::_,[],_,_,j,v,_,_=>by simp
 |a::vs,b::f,i,h,j,v,c,h2=>by
  simp only[dZ]at h;cases d:(a.nm==nm&&b)with
  |true=>rw[d]at h;cases h
  |false=>
   rw[d]at h;cases j with
   |zero=>
    simp only[xj,xA]at c ⊢;subst c;intro e;have e:=Option.some.inj e;rw[e,h2]at d;simp at d
   |succ j=>exact rK (by simpa using h) j v (by simpa using c) h2
theorem nJ{x:List UInt8}:∀{l:eL}{j:Nat}{r:Nat×Nat},ct x l j=some r→(x,r.2)∈l
 |[],_,_,h=>by cases h
 |e::l,j,r,h=>by
  simp only[ct]at h;cases a:(x==e.1)with
  |true=>
   rw[a]at h;simp only[xW,xA]at h;subst h;rw[eq_of_beq a];simp
  |false=>
   rw[a]at h;exact xp _ (nJ h)
theorem tS{x:List UInt8}:∀{l:eL}{j:Nat},ct x l j=none→∀p∈l,p.1≠x
 |[],_,_,_,hp=>by cases hp
 |e::l,j,h,p,hp=>by
  simp only[ct]at h;cases a:(x==e.1)with
  |true=>rw[a]at h;cases h
  |false=>
   rw[a]at h;rcases x0.1 hp with rfl|hp
   ·exact fun e=>by rw[e]at a;simp at a
   ·exact tS (by simpa using h) p hp
structure Rl(vars:List Vr)(sl:eL)(q:SureL)(s:LS):Prop where
 ls:s.seen.length=vars.length
 lq:s.sure.length=vars.length
 seen:∀i,i<vars.length→s.seen[i]? =some (sl.any (·.2==i))
 sure:∀i,i<vars.length→s.sure[i]? =some (q.has i)
structure CI(c:CS):Prop where
 nod:(c.vars.map (·.nm)).Nodup
 sn:∀p∈c.seen,∃v,c.vars[p.2]? =some v∧v.nm=p.1
 inc:(c.seen.map (·.2)).Pairwise (· < ·)
theorem MM{l:List Vr}(h:(l.map (·.nm)).Nodup){i j:Nat}{a b:Vr}(k:l[i]? =some a)(g:l[j]? =some b)(e:a.nm=b.nm):i=j:=by
 obtain⟨d,rfl⟩:=xC.1 k;obtain⟨f,rfl⟩:=xC.1 g;have h2:=List.pairwise_iff_getElem.1 (yq.1 h);rcases Nat.lt_trichotomy i j with c|rfl|c
 ·exact absurd (by rw[List.getElem_map,List.getElem_map];exact e) (h2 i j (by simpa using d) (by simpa using f) c)
 ·rfl
 ·exact absurd (by rw[List.getElem_map,List.getElem_map];exact e.symm) (h2 j i (by simpa using f) (by simpa using d) c)
theorem CR{c:CS}(h:CI c){s:LS}(r:Rl c.vars c.seen c.sure s)(nm:List UInt8):dZ nm c.vars s.seen 0=(ct nm c.seen 0).map (·.2):=by
 cases g:ct nm c.seen 0 with
 |some q=>
  have hm:=nJ g;obtain⟨v,a,d⟩:=h.sn _ hm;simp only at a d;have b:=(xC.1 a).1
  have m:s.seen[q.2]? =some true:=by
   rw[r.seen _ b];congr 1;exact yP.2 ⟨_,hm,by simp⟩
  cases hw:dZ nm c.vars s.seen 0 with
  |none=>exact absurd m (rK hw _ v a d)
  |some k=>
   obtain⟨j,v',i,h2,f,e⟩:=mN hw;have:q.2=j:=MM h.nod a h2 (d.trans f.symm);simp only[x5];rw[i,this];simp
 |none=>
  cases hw:dZ nm c.vars s.seen 0 with
  |none=>rfl
  |some k=>
   obtain⟨j,v',i,h2,f,e⟩:=mN hw;have b:=(xC.1 h2).1;rw[r.seen _ b]at e;obtain⟨p,hp,l⟩:=yP.1 (Option.some.inj e);obtain⟨v,a,d⟩:=h.sn p hp;rw[eq_of_beq l,h2]at a;cases a;exact absurd (d.symm.trans f) (tS g p hp)
theorem dh{w:WE}{p e:Int}(h:(w.e==0)=false):w.fail p e=w:=by simp[WE.fail,h]
theorem bI{w:WE}{p e:Int}(h:w.e=0):w.fail p e=⟨p,e⟩:=by simp[WE.fail,h]
theorem zp(E:BO)(x:Ex){w:WE}(h:(w.e==0)=false):aM E x w=(0,w):=by
 obtain⟨k,o,nm,n,p,xs⟩:=x;unfold aM;rw[h];rfl
theorem dd(E:BO):∀(xs:List Ex)(ts:List Int){w:WE},(w.e==0)=false→ba E xs ts w=w
 |[],_,_,_=>by simp only[ba]
 |_::_,[],_,_=>by simp only[ba]
 |x::xs,t::ts,w,h=>by
  simp only[ba,zp E x h,dh h];rw[show(bif (0:Int)==t then w else w)=w by cases ((0:Int)==t)<;>rfl];exact dd E xs ts h
mutual
def Eh:Ex→Bool
 | .mk k _ _ _ _ xs=>(k==1||k==2||k==3||k==6||k==7||k==5||(k==4||k==8)&&xs.length==1||k==9&&xs.length==2)&&b8 xs
def b8:List Ex→Bool
 |[]=>true
 |x::r=>Eh x&&b8 r
end
def XR(r:TR Int)(q:Int×WE)(w:WE):Prop:=match r with
 | .ok t=>q=(t,w)
 | .bad p e=>q.2=⟨p,e⟩∧(e==0)=false
 | .out=>True
def UR{a:Type}(r:TR a)(q w:WE):Prop:=match r with
 | .ok _=>q=w
 | .bad p e=>q=⟨p,e⟩∧(e==0)=false
 | .out=>True
section
variable{E:TE}{E':BO}(l:E'.fs=E.fs)(d:E'.vars=E.vars)(g:∀nm,dZ nm E'.vars E'.seen 0=(ct nm E.seen 0).map (·.2))(m:∀nm j i,ct nm E.seen 0=some (j,i)→E'.sure.getD i false=E.sure.has i)
include d g in
theorem BP(nm:List UInt8)(p:Int){w:WE}(hw:w.e=0):UR (nG E nm p) (nH E' nm p w) w:=by
 unfold nG lV nH;rw[g];cases ct nm E.seen 0 with
 |none=>exact⟨bI hw,rfl⟩
 |some r=>
  simp only[x5,TR.bind,d];cases (E.vars.getD r.2 default).ty==3 with
  |true=>exact rfl
  |false=>exact⟨bI hw,rfl⟩
theorem UR.ok{r:TR Unit}{q w:WE}(h:UR r q w)(t:Int):XR (r.bind fun _=> .ok t) (t,q) w:=by
 cases r with
 |ok _=>exact congrArg (Prod.mk t) h
 |bad p e=>exact h
 |out=>trivial
theorem UR.trans{b h:TR Unit}{a c w:WE}(k:UR b a w)(h2:a=w→UR h c w)(n:(a.e==0)=false→c=a):UR (b.bind fun _=>h) c w:=by
 cases b with
 |ok _=>exact h2 k
 |bad p e=>
  obtain⟨rfl,f⟩:=k;exact⟨n f,f⟩
 |out=>trivial
include l d g m
mutual
theorem nK:∀(x:Ex)(w:WE),w.e=0→Eh x=true→XR (dc E x) (aM E' x w) w
 | .mk k o nm n p xs,w,hw,h=>by
  have z:(w.e==0)=true:=by simp[hw]
  simp only[Eh,xJ]at h;obtain⟨y,s⟩:=h;have q:=fun ts=>jq xs ts w hw s
  unfold dc aM;simp only[z,Bool.not_true,xP];cases h2:(k==2)with
  |true=>
   have:(k==1||k==6)=false:=by rw[eq_of_beq h2];rfl
   simp only[this,xP,xW];exact rfl
  |false=>
  cases t:(k==1||k==6)with
  |true=>
   have e:k=1∨k=6:=by simpa using t
   rcases e with rfl|rfl<;>exact rfl
  |false=>
  simp only[xP];cases J:(k==3)with
  |true=>
   simp only[xW,lV];rw[g];cases G:ct nm E.seen 0 with
   |none=>exact⟨bI hw,rfl⟩
   |some r=>
    simp only[x5,TR.bind,d,m nm r.1 r.2 G];cases E.sure.has r.2 with
    |true=>exact rfl
    |false=>exact⟨bI hw,rfl⟩
  |false=>
  simp only[xP];cases I:(k==4)with
  |true=>
   simp only[xW];have a:=BP d g nm p hw;have b:=UR.trans a (fun e=>by rw[e];exact q [1]) (fun e=>dd E' xs [1] e);have c:=b.ok 1;revert c;cases nG E nm p<;>exact id
  |false=>
  simp only[xP];cases A:(k==5)with
  |true=>
   have v:(k==7)=false:=by rw[eq_of_beq A];rfl
   simp only[v,xW,xP,l];cases bA nm E.fs 0 with
   |none=>exact⟨bI hw,rfl⟩
   |some r=>
    obtain⟨j,f⟩:=r;simp only;cases f.ps.length==xs.length with
    |false=>exact⟨bI hw,rfl⟩
    |true=>
     simp only[xW];have:=(q (f.ps.map (·.ty))).ok f.res;rw[yx]at this;exact this
  |false=>
  cases v:(k==7)with
  |true=>
   simp only[xW,xP];exact(BP d g nm p hw).ok 1
  |false=>
  simp only[xP];cases C:(k==8)with
  |true=>
   simp only[xW];cases o==21 with
   |true=>exact(q [2]).ok 2
   |false=>exact(q [1]).ok 1
  |false=>
  have u:(k==9&&xs.length==2)=true:=by
   rw[h2,J,I,A,v,C]at y;have D:(k==1)=false:=by cases K:(k==1)<;>simp_all
   have H:(k==6)=false:=by cases K:(k==6)<;>simp_all
   rw[D,H]at y;simpa using y
  rw[xJ]at u;have B:decide (xs.length<2)=false:=by have:=eq_of_beq u.2;simp;omega
  simp only[xP,u.1,xW,B];cases L:(o==17||o==18)with
  |true=>exact(q [2,2]).ok 2
  |false=>
  simp only[xP];cases F:(o==15||o==16)with
  |true=>exact(Qo xs w hw s).ok 2
  |false=>exact(q [1,1]).ok _
theorem jq:∀(xs:List Ex)(ts:List Int)(w:WE),w.e=0→b8 xs=true→UR (ay E xs (ts.map fun t=>[t]) false) (ba E' xs ts w) w
 |[],[],w,_,_=>by simp only[xY,ay,ba];exact rfl
 |_::_,[],w,_,_=>by simp only[xY,ay,ba];exact rfl
 |[],_::_,w,_,_=>by simp only[xH,ay];trivial
 |x::xs,t::ts,w,hw,h=>by
  simp only[b8,xJ]at h;have f:=nK x w hw h.1;simp only[xH,ay,ba];revert f;cases dc E x with
  |out=>exact fun _=>trivial
  |bad p e=>
   rintro⟨a,h2⟩;have b:((aM E' x w).2.e==0)=false:=by rw[a];exact h2
   have k:(bif (aM E' x w).1==t then (aM E' x w).2 else (aM E' x w).2.fail (E4 x) 8)=(aM E' x w).2:=by
    rw[dh b];cases (aM E' x w).1==t<;>rfl
   rw[k,dd E' xs ts b];exact⟨a,h2⟩
  |ok u=>
   intro a;have a:aM E' x w=(u,w):=a;rw[a];simp only[TR.bind];have c:[t].contains u=(u==t):=by simp[List.contains,List.elem];cases (u==t)<;>rfl
   rw[c];cases u==t with
   |true=>
    simp only[xW,xP];exact jq xs ts w hw h.2
   |false=>
    simp only[xP];rw[bI hw,dd E' xs ts rfl];exact⟨rfl,rfl⟩
theorem Qo:∀(xs:List Ex)(w:WE),w.e=0→b8 xs=true→UR (ay E xs [[1,2],[]] true) (P1 E' xs w) w
 |[],w,_,_=>by simp only[ay];trivial
 |x::xs,w,hw,h=>by
  simp only[b8,xJ]at h;have f:=nK x w hw h.1;simp only[ay,P1];revert f;cases dc E x with
  |out=>exact fun _=>trivial
  |bad p e=>
   rintro⟨a,h2⟩;have b:((aM E' x w).2.e==0)=false:=by rw[a];exact h2
   have k:(bif (aM E' x w).1==1||(aM E' x w).1==2 then (aM E' x w).2 else (aM E' x w).2.fail (E4 x) 8)=(aM E' x w).2:=by
    rw[dh b];cases (aM E' x w).1==1||(aM E' x w).1==2<;>rfl
   rw[k,dd E' xs _ b];exact⟨a,h2⟩
  |ok u=>
   intro a;have a:aM E' x w=(u,w):=a;rw[a];simp only[TR.bind]
   have c:[(1:Int),2].contains u=(u==1||u==2):=by
    simp[List.contains,List.elem];cases (u==1)<;>cases (u==2)<;>rfl
   rw[c];cases u==1||u==2 with
   |true=>
    simp only[xW];exact jq xs [u] w hw h.2
   |false=>
    simp only[xP];rw[bI hw,dd E' xs _ rfl];exact⟨rfl,rfl⟩
end
end
end Go.Avm
