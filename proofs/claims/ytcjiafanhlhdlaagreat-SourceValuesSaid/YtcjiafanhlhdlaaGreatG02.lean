/-
  The abstract machine, part E: what a value stands for as data (with and without a look at the heap); new blocks; stores.
-/
import Derived.Test.YtcjiafanhlhdlaaGreatG01
import Derived.Laws.StructEq
import Derived.ChangeKeysEq
set_option linter.unusedVariables false
set_option linter.unusedSimpArgs false
set_option linter.unusedSectionVars false
namespace Go.Avm
open Go.RowKit
variable[ap]
section
variable{P:Program}{G:Gh}{B:Nat}{w0 w:World}{I0:Nat→Nat→Prop}{h:aa}
theorem DRep.one_of{imm:Nat→Nat→Prop}{x:D}{v:Value}(a:DRep imm w x v)(b:v.oneCell'=true):x.one=true:=by
 cases a<;>first|rfl|(simp[Value.oneCell']at b)
theorem DRep.cells{imm:Nat→Nat→Prop}{x:D}{v:Value}(A:DRep imm w x v):x.cells.length=v.cells.size∧(∀c∈x.cells,c.one=true)∧
    ∀(i:Nat)(c:D)(u:Value),x.cells[i]? =some c→v.cells[i]? =some u→DRep imm w c u:=by
 have a:∀(y:D)(u:Value),DRep imm w y u→y.one=true→y.cells=[y]→u.cells= #[u]→
     y.cells.length=u.cells.size∧(∀c∈y.cells,c.one=true)∧∀(i:Nat)(c:D)(t:Value),y.cells[i]? =some c→u.cells[i]? =some t→DRep imm w c t:=by
  intro y u f d q z;rw[q,z];refine⟨rfl,fun t j=> ?_,fun i c t e j=> ?_⟩
  ·simp at j;subst j;exact d
  ·cases i with
   |zero=>simp at e j;subst e;subst j;exact f
   |succ i=>simp at e
 cases A with
 |agg cs vs r d h=>exact⟨by simp[D.cells,Value.cells,r],d,h⟩
 |bool b=>exact a _ _ (.bool b) rfl rfl rfl
 |int k n=>exact a _ _ (.int k n) rfl rfl rfl
 |str l s h=>exact a _ _ (.str l s h) rfl rfl rfl
 |nilp=>exact a _ _ .nilp rfl rfl rfl
 |nili=>exact a _ _ .nili rfl rfl rfl
 |ifc t v=>exact a _ _ (.ifc t v) rfl rfl rfl
 |roNil C c=>exact a _ _ (.roNil C c) rfl rfl rfl
 |ro l b o c sz U g m d p e f=>exact a _ _ (.ro l b o c sz U g m d p e f) rfl rfl rfl
 |rp cs b o U d p e f=>exact a _ _ (.rp cs b o U d p e f) rfl rfl rfl
theorem cP{v:Value}(a:v.oneCell'=true):v.cells= #[v]:=by cases v<;>first|rfl|(simp[Value.oneCell']at a)
theorem Rep.of_cells{e:AV}(l:Nat→Value)(m:∀(j:Nat)(c:AV),e.cells[j]? =some c→(l j).oneCell'=true∧Rep G w c (l j)):
    ∃v,Rep G w e v∧v.cells.size=e.cells.length∧∀j,j<e.cells.length→v.cells[j]? =some (l j):=by
 by_cases q:e.lone=true
 ·have f:=AV.cells_lone q
  obtain⟨o,h2⟩:=m 0 e (by simp[f]);refine⟨l 0,h2,by rw[cP o,f];rfl,fun j p=> ?_⟩;rw[f]at p;have:j=0:=by simp at p;omega
  subst this;rw[cP o];rfl
 ·have r:∀n,∃vs:Array Value,vs.size=n∧∀j,j<n→vs[j]? =some (l j):=fun n=>⟨((List.range n).map l).toArray,by simp,fun j p=>by simp[List.getElem?_range p]⟩
  obtain⟨vs,g,k⟩:=r e.cells.length;refine⟨.agg vs, ?_,by simp[Value.cells,g],by simpa [Value.cells]using k⟩;cases e with
  |agg cs=>
   refine .agg cs vs (by simpa [AV.cells]using g) (fun i u b=> ?_) (fun i c u f b=> ?_)
   ·have a:i<vs.size:=(xG.1 b).1
    rw[g]at a;rw[k i a]at b;simp only[xA]at b;subst b;exact(m i _ (xE a)).1
   ·have a:i<(AV.agg cs).cells.length:=(xD.1 f).1
    rw[k i a]at b;simp only[xA]at b;subst b;exact(m i c f).2
  |d y=>
   cases y with
   |agg cs=>
    refine .d (.agg cs vs (by simpa [AV.cells]using g) (fun c f=> ?_) (fun i c u f b=> ?_))
    ·obtain⟨i,b⟩:=x7 f
     obtain⟨o,h2⟩:=m i (.d c) (by simp[AV.cells,b]);exact h2.toDRep.one_of o
    ·have a:i<(AV.d (.agg cs)).cells.length:=by simp[AV.cells];exact(xD.1 f).1
     rw[k i a]at b;simp only[xA]at b;subst b;exact(m i (.d c) (by simp[AV.cells,f])).2.toDRep
   |_=>simp[AV.lone]at q
  |_=>simp[AV.lone]at q
theorem eM{n:Nat}:∀{xs:List AV}{ys:List D}{ks:List Nat},view.go n h xs=some (ys,ks)→ys.length=xs.length∧
    ∀(i:Nat)(x:AV),xs[i]? =some x→∃y e,ys[i]? =some y∧view n h x=some (y,e)∧∀k∈e,k∈ks
 |[],ys,ks,c=>by simp[cN]at c;obtain⟨rfl,rfl⟩:=c;simp
 |x::r,ys,ks,c=>by
  simp only[cN]at c;split at c
  ·rename_i a b o q
   simp only[xA,xC]at c;obtain⟨rfl,rfl⟩:=c;obtain⟨l,p⟩:=eM (ys:=b.1) (ks:=b.2) q;refine⟨by simp[l],fun i j d=> ?_⟩;cases i with
   |zero=>
    simp only[xk,xA]at d;subst d;exact⟨a.1,a.2,rfl,o,fun k f=>x0 _ f⟩
   |succ i=>
    simp only[yZ]at d;obtain⟨y,e,m,h2,g⟩:=p i j d;exact⟨y,e,by simpa using m,h2,fun k f=>xc _ (g k f)⟩
  ·cases c
def bR(G:Gh)(h:aa)(ks:List Nat):Nat→Nat→Prop:=fun b o=>G.imm b o∨lk G h ks b o
theorem d9{ks a:List Nat}(e:∀k∈ks,k∈a):∀b o,bR G h ks b o→bR G h a b o:=by
 rintro b o (x|⟨k,c,L,f,d⟩)
 ·exact .inl x
 ·exact .inr ⟨k,e k c,L,f,d⟩
theorem D.flat_len{l:List D}{sz:Nat}(a:∀e∈l,e.cells.length=sz):(D.flat l).length=l.length*sz:=bg _ sz l a
theorem cX{k n:Type}{f:k→List n}{sz:Nat}{l:List k}(p:∀e∈l,(f e).length=sz){t:Nat}{c:n}(b:(l.flatMap f)[t]? =some c):
    ∃i j e,t=i*sz+j∧j<sz∧l[i]? =some e∧(f e)[j]? =some c:=by
 have d:=(xD.1 b).1;rw[bg f sz l p]at d
 have a:0<sz:=by
  rcases Nat.eq_zero_or_pos sz with rfl|hp
  ·simp at d
  ·exact hp
 have o:t=(t/sz)*sz+t % sz:=by rw[Nat.mul_comm];exact(Nat.div_add_mod t sz).symm
 have m:=Nat.mod_lt t a;rw[o,aW f sz l p (t/sz) (t % sz) m]at b;cases g:l[t/sz]? with
 |none=>simp[g]at b
 |some e=>rw[g]at b;exact⟨t/sz,t % sz,e,o,m,g,b⟩
theorem b8(hr:HR G B w0 I0 h w):∀(n:Nat)(x:AV)(v:Value)(y:D)(ks:List Nat),view n h x=some (y,ks)→Rep G w x v→DRep (bR G h ks) w y v:=by
 intro n;induction n with
 |zero=>intro x v y ks g;simp[view]at g
 |succ n ih=>
  intro x v y ks g K;have up:∀{y:D}{v:Value},DRep G.imm w y v→DRep (bR G h ks) w y v:=fun hd=>hd.mono (fun _ _ x=> .inl x) (fun _ _ _=>rfl)
  have X:∀(k sz:Nat)(es xs:List AV)(O:Nat)(L:nG)(ys:List D)(q:List Nat),(h k).ob=some (.arr sz es)→G.loc k (h k).ver=some L→(∀i x,xs[i]? =some x→es[O+i]? =some x)→
      view.go n h xs=some (ys,q)→(∀k'∈q,k'∈ks)→(xs≠[]→L.sz=sz)∧ys.length=xs.length∧(∀e∈ys,e.cells.length=sz)∧(∀e∈D.flat ys,e.one=true)∧
      ∃U:Nat→Value,∀(t:Nat)(c:D),(D.flat ys)[t]? =some c→w.cell? ⟨L.b,O*sz+t,none⟩=some (U t)∧DRep (bR G h ks) w c (U t):=by
   intro k sz es xs O L ys q R Y hxs C hks;obtain⟨M,hi⟩:=eM C;rcases hr.objs k _ R with ⟨rfl,hLn⟩|⟨L',hL',h1,h2,h3,h4,h6,h5⟩
   ·have hx0:xs=[]:=by
      cases xs with
      |nil=>rfl
      |cons x r=>have:=hxs 0 x rfl;simp at this
    subst hx0;have:ys=[]:=xQ (by simpa using M);subst this;exact⟨fun hne=>absurd rfl hne,M,by simp,by simp[D.flat],fun _=>undef,by simp[D.flat]⟩
   ·rw[Y]at hL'
    simp only[xA]at hL';subst hL'
    have s:∀(i:Nat)(y:D),ys[i]? =some y→y.cells.length=sz∧(∀c∈y.cells,c.one=true)∧∃S:Nat→Value,∀(j:Nat)(c:D),y.cells[j]? =some c→
        w.cell? ⟨L.b,(O+i)*sz+j,none⟩=some (S j)∧DRep (bR G h ks) w c (S j):=by
     intro i y hy;have m:i<xs.length:=by rw[←M];exact(xD.1 hy).1
     obtain⟨y',k',p,f,J⟩:=hi i xs[i] (xE m);rw[hy]at p;simp only[xA]at p;subst p;have E:=hxs i _ (xE m);have hcl:=h4 _ (xS E)
     obtain⟨S,Z⟩:∃S:Nat→Value,∀(j:Nat)(c:AV),xs[i].cells[j]? =some c→w.cell? ⟨L.b,(O+i)*sz+j,none⟩=some (S j)∧(S j).oneCell'=true∧Rep G w c (S j):=by
      refine⟨fun j=>(w.cell? ⟨L.b,(O+i)*sz+j,none⟩).getD undef,fun j c A=> ?_⟩;have hj:j<sz:=by rw[←hcl];exact(xD.1 A).1
      have hfl:(AV.flat es)[(O+i)*sz+j]? =some c:=by rw[AV.flat,aW _ sz es h4 (O+i) j hj,E,xh,A]
      obtain⟨u,hu,hu1,hur⟩:=h5 _ c hfl;simp only[hu,yj];exact⟨trivial,hu1,hur⟩
     obtain⟨v,g,hvs,hvj⟩:=Rep.of_cells (e:=xs[i]) S (fun j c A=>(Z j c A).2);have hd:=(ih _ _ _ _ f g).mono (d9 (fun k hk=>hks k (J k hk))) (fun _ _ _=>rfl);obtain⟨hc1,hc2,hc3⟩:=hd.cells;refine⟨by rw[hc1,hvs,hcl],hc2,S,fun j c A=> ?_⟩
     have hj:j<xs[i].cells.length:=by
      have:=(xD.1 A).1;rw[hc1,hvs]at this;exact this
     exact⟨(Z j _ (xE hj)).1,hc3 j c (S j) A (hvj j hj)⟩
    have Q:∀e∈ys,e.cells.length=sz:=fun e he=>by
     obtain⟨i,hi⟩:=x7 he;exact(s i e hi).1
    refine⟨fun _=>h1,M,Q,fun e he=> ?_,fun t=>(w.cell? ⟨L.b,O*sz+t,none⟩).getD undef,fun t c T=> ?_⟩
    ·obtain⟨y,hy,A⟩:=List.mem_flatMap.1 he
     obtain⟨i,hi⟩:=x7 hy;exact(s i y hi).2.1 e A
    ·obtain⟨i,j,e,rfl,hj,he,A⟩:=cX Q T
     obtain⟨S,Z⟩:=(s i e he).2.2;obtain⟨h7,h8⟩:=Z j c A;have e2:(O+i)*sz+j=O*sz+(i*sz+j):=by rw[yN];omega
     rw[e2]at h7;have hg:(w.cell? ⟨L.b,O*sz+(i*sz+j),none⟩).getD undef=S j:=by rw[h7];rfl
     exact⟨h7.trans (congrArg some hg.symm),by show DRep _ w c ((w.cell? ⟨L.b,O*sz+(i*sz+j),none⟩).getD undef);rw[hg];exact h8⟩
  have imm:∀(k:Nat)(L:nG),k∈ks→G.loc k (h k).ver=some L→∀o,bR G h ks L.b o:=fun k L hk Y o=> .inr ⟨k,hk,L,Y,rfl⟩
  unfold view at g;split at g
  ·simp only[xA,xC]at g
   obtain⟨rfl,rfl⟩:=g;exact up K.toDRep
  ·simp only[xA,xC]at g
   obtain⟨rfl,rfl⟩:=g;cases K;exact .roNil _ _
  ·simp only[xA,xC]at g
   obtain⟨rfl,rfl⟩:=g;cases K;exact .roNil _ _
  ·simp only[xA,xC]at g
   obtain⟨rfl,rfl⟩:=g;cases K with
   |vecNil=>exact .roNil _ _
   |vec k ver l L Y hfr F Q hd=>exact up hd
  ·rename_i k v' H N sz0
   split at g
   ·rename_i sz es R
    split at g
    ·rename_i A
     obtain⟨rfl,hin⟩:=A;simp only[xB,xC]at g;obtain⟨⟨ys,q⟩,C,rfl,rfl⟩:=g
     have hget:∀(i:Nat)(x:AV),((es.drop H).take N)[i]? =some x→es[H+i]? =some x:=by
      intro i x K;rw[xl]at K;split at K
      ·rwa [xo]at K
      ·cases K
     have F:((es.drop H).take N).length=N:=by simp;omega
     cases K with
     |slNil=>
      have:=(eM C).1;rw[F]at this;have:ys=[]:=xQ this;subst this;exact .roNil _ _
     |sl _ _ _ _ c L Y hcap hlc=>
      obtain⟨hs,M,Q,h1,U,hU⟩:=X k sz es _ H L ys q R Y hget C (fun k' J=>xt _ J);rw[F]at M;rcases Nat.eq_zero_or_pos N with rfl|W
      ·have:ys=[]:=xQ M
       subst this;exact .roNil _ _
      ·have hLs:=hs (by intro V;rw[V]at F;simp at F;omega)
       have hd:=DRep.ro (imm:=bR G h (k::q)) (w:=w) ys L.b (H*L.sz) c sz U (by omega) Q h1 (fun t d T=>imm k L (by simp) Y _) (fun t d T=>by rw[hLs];exact(hU t d T).1) (fun t d T=>(hU t d T).2);rw[M]at hd;exact hd
    ·cases g
   ·cases g
  ·rename_i k v' i H sz0
   split at g
   ·rename_i sz es R
    split at g
    ·rename_i A
     obtain⟨rfl,rfl,rfl,hin⟩:=A;simp only[xB,xC]at g;obtain⟨⟨ys,q⟩,C,rfl,rfl⟩:=g;cases K with
     |ptr _ _ _ _ L Y=>
      obtain⟨hs,M,Q,h1,U,hU⟩:=X k 1 es _ i L ys q R Y (fun j x K=>by rwa [xo]at K) C (fun k' J=>xt _ J)
      have h1':∀e∈ys,e.one=true:=by
       intro e he;cases e with
       |agg cs=>
        obtain⟨hlg,hgi⟩:=eM C;obtain⟨j,hj⟩:=x7 he;have hjl:j<(es.drop i).length:=by rw[←hlg];exact(xD.1 hj).1
        obtain⟨y',k',p,f,_⟩:=hgi j (es.drop i)[j] (xE hjl);rw[hj]at p;simp only[xA]at p;subst p;have E:es[i+j]? =some (es.drop i)[j]:=by rw[←xo];exact xE hjl
        rcases hr.objs k _ R with ⟨rfl,hLn⟩|⟨L',_,_,_,_,_,h6,_⟩
        ·simp at E
        ·have I:=h6 rfl _ (xS E)
         exfalso;generalize (es.drop i)[j]=z at f I;cases n with
         |zero=>simp[view]at f
         |succ n=>
          cases z with
          |d y=>simp only[view,xA,xC]at f;obtain⟨rfl,_⟩:=f;simp[AV.lone]at I
          |agg _=>simp[AV.lone]at I
          |sl k v H N sz=>
           simp only[view]at f;split at f
           ·split at f
            ·simp at f
            ·cases f
           ·cases f
          |ptr k v H N sz=>
           simp only[view]at f;split at f
           ·split at f
            ·simp at f
            ·cases f
           ·cases f
          |_=>simp[view]at f
       |_=>rfl
      have hfl:D.flat ys=ys:=by
       have:∀(l:List D),(∀e∈l,e.one=true)→D.flat l=l:=by
        intro l;induction l with
        |nil=>intro _;rfl
        |cons a r ihr=>
         intro hh;have ha:=hh a (by simp);have hca:a.cells=[a]:=by cases a<;>first|rfl|(simp[D.one]at ha)
         simp only[D.flat,xm,hca,List.singleton_append]at ihr ⊢;rw[ihr (fun e he=>hh e (by simp[he]))]
       exact this ys h1'
      rw[hfl]at hU;rcases Nat.eq_zero_or_pos (es.drop i).length with hz|W
      ·have hy0:ys=[]:=xQ (by omega)
       subst hy0;exact .rp [] L.b _ (fun _=>undef) (by simp) (by simp) (by simp) (by simp)
      ·have hLs:=hs (by intro V;rw[V]at W;simp at W)
       refine .rp ys L.b (i*L.sz+0) U h1' (fun t d T=>imm k L (by simp) Y _) (fun t d T=> ?_) (fun t d T=>(hU t d T).2);have:=(hU t d T).1;rw[hLs];exact this
    ·cases g
   ·cases g
  ·rename_i cs
   simp only[xB,xC]at g;obtain⟨⟨ys,q⟩,C,rfl,rfl⟩:=g;obtain⟨M,hi⟩:=eM C;cases K with
   |agg _ vs hvl h1 hcr=>
    have s:∀(i:Nat)(c:D)(u:Value),ys[i]? =some c→vs[i]? =some u→DRep (bR G h q) w c u:=by
     intro i c u A hu;have m:i<cs.length:=by rw[←M];exact(xD.1 A).1
     obtain⟨y',k',p,f,J⟩:=hi i cs[i] (xE m);rw[A]at p;simp only[xA]at p;subst p;exact(ih _ _ _ _ f (hcr i _ u (xE m) hu)).mono (d9 J) (fun _ _ _=>rfl)
    refine .agg ys vs (by rw[hvl,M]) (fun c A=> ?_) s;obtain⟨i,hi'⟩:=x7 A;have m:i<vs.size:=by rw[hvl,←M];exact(xD.1 hi').1
    have hu:vs[i]? =some vs[i]:=xF m;exact(s i c _ hi' hu).one_of (h1 i _ hu)
  ·cases g
theorem oU(j:HR G B w0 I0 h w){n:Nat}{xs:List AV}{ys:List D}{ks:List Nat}(o:view.go n h xs=some (ys,ks)){vs:Array Value}(l:vs.size=xs.length)
    (g:∀(i:Nat)(x:AV)(u:Value),xs[i]? =some x→vs[i]? =some u→Rep G w x u):vs.size=ys.length∧∀(i:Nat)(y:D)(u:Value),ys[i]? =some y→vs[i]? =some u→DRep (bR G h ks) w y u:=by
 obtain⟨f,m⟩:=eM o;refine⟨by rw[l,f],fun i y u e k=> ?_⟩;have a:i<xs.length:=by rw[←f];exact(xD.1 e).1
 obtain⟨p,q,c,b,d⟩:=m i xs[i] (xE a);rw[e]at c;simp only[xA]at c;subst c;exact(b8 j n _ _ _ _ b (g i _ u (xE a) k)).mono (d9 d) (fun _ _ _=>rfl)
theorem sB{x:AV}{v:Value}{y:D}(j:nI x=some y)(m:Rep G w x v):DRep G.imm w y v:=by
 have M:∀(l:List AV)(ys:List D),nI.go l=some ys→ys.length=l.length∧∀(i:Nat)(x:AV)(u:Value),l[i]? =some x→Rep G w x u→∃y,ys[i]? =some y∧y.one=true∧DRep G.imm w y u:=by
  intro l;induction l with
  |nil=>intro ys n;simp[nI.go]at n;subst n;simp
  |cons a r T=>
   intro ys n
   have e:∀(y:D),nI.go (a::r)=(nI.go r).map (y:: ·)→y.one=true→(∀u,Rep G w a u→DRep G.imm w y u)→
       ys.length=(a::r).length∧∀(i:Nat)(x:AV)(u:Value),(a::r)[i]? =some x→Rep G w x u→∃y,ys[i]? =some y∧y.one=true∧DRep G.imm w y u:=by
    intro y S q p;rw[S]at n;simp only[xB]at n;obtain⟨J,I,rfl⟩:=n;obtain⟨s,C⟩:=T J I;refine⟨by simp[s],fun i x u m O=> ?_⟩;cases i with
    |zero=>simp only[xk,xA]at m;subst m;exact⟨y,rfl,q,p u O⟩
    |succ i=>simp only[yZ]at m;obtain⟨Q,R,h2⟩:=C i x u m O;exact⟨Q,by simpa using R,h2⟩
   cases a with
   |d y=>
    by_cases f:y.one=true
    ·exact e y (by simp[nI.go,f]) f (fun u g=>g.toDRep)
    ·simp[nI.go,f]at n
   |nils=>exact e (.ro []) (by simp[nI.go]) rfl (fun u g=>by cases g;exact .roNil _ _)
   |es=>exact e (.ro []) (by simp[nI.go]) rfl (fun u g=>by cases g;exact .roNil _ _)
   |vec k N sz l=>exact e (.ro l) (by simp[nI.go]) rfl (fun u g=>by cases g with|vecNil=>exact .roNil _ _|vec _ _ _ L U H A F K=>exact K)
   |_=>simp[nI.go]at n
 cases x with
 |d Q=>simp only[nI,xA]at j;subst j;exact m.toDRep
 |nils=>simp only[nI,xA]at j;subst j;cases m;exact .roNil _ _
 |es=>simp only[nI,xA]at j;subst j;cases m;exact .roNil _ _
 |vec k N sz l=>simp only[nI,xA]at j;subst j;cases m with|vecNil=>exact .roNil _ _|vec _ _ _ L U H A F K=>exact K
 |agg cs=>
  simp only[nI,xB]at j;obtain⟨ys,n,rfl⟩:=j;obtain⟨s,C⟩:=M cs ys n;cases m with
  |agg _ vs o R z=>
   refine .agg ys vs (by rw[o,s]) (fun c E=> ?_) (fun i c u E g=> ?_)
   ·obtain⟨i,t⟩:=x7 E
    have b:i<vs.size:=by rw[o,←s];exact(xD.1 t).1
    have g:vs[i]? =some vs[i]:=xF b;obtain⟨y,f,q,_⟩:=C i cs[i] vs[i] (xE (by rw[←o];exact b)) (z i _ _ (xE (by rw[←o];exact b)) g);rw[t]at f;simp only[xA]at f;subst f;exact q
   ·have b:i<cs.length:=by rw[←s];exact(xD.1 E).1
    obtain⟨y,f,_,p⟩:=C i cs[i] u (xE b) (z i _ _ (xE b) g);rw[E]at f;simp only[xA]at f;subst f;exact p
 |_=>simp[nI]at j
theorem lm:∀{xs:List AV}{ys:List D},kF xs=some ys→∀{vs:Array Value},vs.size=xs.length→(∀(i:Nat)(x:AV)(u:Value),xs[i]? =some x→vs[i]? =some u→Rep G w x u)→
    vs.size=ys.length∧∀(i:Nat)(y:D)(u:Value),ys[i]? =some y→vs[i]? =some u→DRep G.imm w y u:=by
 have j:∀(xs:List AV)(ys:List D),kF xs=some ys→ys.length=xs.length∧∀(i:Nat)(x:AV),xs[i]? =some x→∃y,ys[i]? =some y∧nI x=some y:=by
  intro xs;induction xs with
  |nil=>intro ys h;simp[kF]at h;subst h;simp
  |cons a r t=>
   intro ys h;rw[kF]at h;split at h
   ·rename_i y o e k
    simp only[xA]at h;subst h;obtain⟨f,g⟩:=t _ k;refine⟨by simp[f],fun i x d=> ?_⟩;cases i with
    |zero=>simp only[xk,xA]at d;subst d;exact⟨y,rfl,e⟩
    |succ i=>simp only[yZ]at d;obtain⟨l,n,h2⟩:=g i x d;exact⟨l,by simpa using n,h2⟩
   ·cases h
 intro xs ys s vs q d;obtain⟨f,g⟩:=j xs ys s;refine⟨by rw[q,f],fun i y u e p=> ?_⟩;have b:i<xs.length:=by rw[←f];exact(xD.1 e).1
 obtain⟨l,c,m⟩:=g i xs[i] (xE b);rw[e]at c;simp only[xA]at c;subst c;exact sB m (d i _ u (xE b) p)
end
end Go.Avm
namespace Go.Avm
open Go.RowKit
variable[ap]
section
variable{P:Program}{G:Gh}{B:Nat}{w0 w:World}{I0:Nat→Nat→Prop}{h:aa}
theorem be:∀{es:List AV},(∀x∈es,x.lone=true)→AV.flat es=es
 |[],_=>rfl
 |a::r,b=>by
  have:=be (es:=r) (fun x c=>b x (by simp[c]));simp only[AV.flat,xm,AV.cells_lone (b a (by simp)),List.singleton_append]at this ⊢;rw[this]
theorem gW(r:HR G B w0 I0 h w)(k:Nat)(t:TypeId)(v:Value)(cs:List AV)(m:v.cells.size=cs.length)(n:∀u∈v.cells.toList,u.oneCell'=true)
    (o:∀(i:Nat)(c:AV)(u:Value),cs[i]? =some c→v.cells[i]? =some u→Rep G w c u):
    ∃f g a,(newVar t v).run P w= .ok a f∧Ext G w g f∧HR g B w0 I0 (aq h k ⟨(h k).ver+1,some (.arr 1 cs)⟩) f∧Rep g f (.ptr k ((h k).ver+1) 0 0 1) (.pointer (some a))∧
     ∀L,g.loc k ((h k).ver+1)=some L→L.ty=t∧L.cap*L.sz=cs.length:=by
 have b:∀x∈cs,x.lone=true:=by
  intro x l;obtain⟨i,e⟩:=x7 l;have d:i<v.cells.size:=by rw[m];exact(xD.1 e).1
  have j:v.cells[i]? =some v.cells[i]:=xF d;exact(o i x _ e j).lone (n _ (by rw[xa];exact yf d))
 obtain⟨q,s⟩:=r.newOb k 1 cs.length cs v.cells t (by rw[m];omega) (xO _) (fun x l=>by rw[AV.cells_lone (b x l)];rfl) (fun _=>b) (fun i c e=>by
  rw[be b]at e;have d:i<v.cells.size:=by rw[m];exact(xD.1 e).1
  have j:v.cells[i]? =some v.cells[i]:=xF d;exact⟨_,j,n _ (by rw[xa];exact yf d),o i c _ e j⟩)
 refine⟨_,_,⟨w.heap.size,0,none⟩, ?_,s,q, ?_,fun L p=>by
  rw[Gh.at_same]at p;cases p;exact⟨rfl,Nat.mul_one _⟩⟩
 ·simp[newVar,newRow]
 ·have:=Rep.ptr (w:=w.alloc (.cells v.cells t)) k ((h k).ver+1) 0 0 _ (Gh.at_same G k ((h k).ver+1) ⟨w.heap.size,1,cs.length,0,t⟩)
  simpa using this
theorem gX:∀(a b:List (Nat×aI))(h:aa),ae h (a ++b)=ae (ae h a) b
 |[],_,_=>rfl
 |p::r,b,h=>by simp only[yB,ae];exact gX r b _
theorem lq:∀(b:List (Nat×aI))(h:aa){k:Nat},k∉b.map (·.1)→ae h b k=h k
 |[],_,_,_=>rfl
 |(j,e)::r,h,k,a=>by
  simp only[xI,xR,yS]at a;simp only[ae];rw[lq r _ a.2,ab _ _ a.1]
theorem eW{b:Gh}{c:World}{out:Out}(a:HR b B w0 I0 (ae h out.wr) c)(typ:Bool)(T:TypeId)(n:Option Nat)(k v:Nat)(e:v≤(ae h out.wr k).ver)
    (f:typ=true→∀L,b.loc k v=some L→L.ty=T∧∀m,n=some m→L.cap*L.sz=m):HR b B w0 I0 (ae h (bk typ T n k v h out).wr) c:=by
 unfold bk;split
 ·rename_i d
  simp only[gX,ae];have:=a.note (fO k) k v T n e (f d.1);rw[lq _ _ d.2]at this;exact this
 ·exact a
theorem c7(typ:Bool)(T:TypeId)(n:Option Nat)(k v:Nat)(h:aa)(out:Out):(bk typ T n k v h out).val=out.val∧(bk typ T n k v h out).ob=out.ob:=by
 unfold bk;split<;>exact⟨rfl,rfl⟩
theorem lr(p:HR G B w0 I0 h w)(typ:Bool){t:TypeId}{k:Nat}{out:Out}(c:(di P t k h).map (bk typ t ((ij P t).map List.length) k ((h k).ver+1) h)=some out):
    out.ob=[]∧∃v d f,(Instr.alloc t true (.tuple #[])).run P w= .ok v d∧Ext G w f d∧HR f B w0 I0 (ae h out.wr) d∧Rep f d out.val v:=by
 rw[xB]at c;obtain⟨C,c,rfl⟩:=c;rw[(c7 ..).1,(c7 ..).2];unfold di at c;split at c
 ·rename_i q b
  simp only[xA]at c;subst c;rw[b];simp only[ij,y0]at b;obtain⟨z,x,b⟩:=b;obtain⟨o,h2,n⟩:=dk (G:=G) (w:=w) b
  obtain⟨d,f,a,j,A,y,e,g⟩:=gW (P:=P) p k t z q o (fun u r=>by
   obtain⟨i,s⟩:=x7 r;exact h2 i u (by simpa using s)) n
  exact⟨rfl,_,d,f,by simp[Instr.alloc,bw x,j],A,eW y typ t _ k _ (by simp[ae,newOb,aq]) (fun _ L l=>⟨(g L l).1,fun m hm=>by
   simp only[xP,xA]at hm;rw[(g L l).2,hm]⟩),e⟩
 ·cases c
theorem nM(p:HR G B w0 I0 h w)(typ:Bool){t:TypeId}{x:AV}{i:Value}(n:Rep G w x i){k:Nat}{out:Out}(b:(fT x k h).map (bk typ t (some x.cells.length) k ((h k).ver+1) h)=some out):
    out.ob=[]∧∃v c e,(Instr.box t i).run P w= .ok v c∧Ext G w e c∧HR e B w0 I0 (ae h out.wr) c∧Rep e c out.val v:=by
 rw[xB]at b;obtain⟨u,b,rfl⟩:=b;rw[(c7 ..).1,(c7 ..).2];unfold fT at b;split at b
 ·rename_i q
  simp only[xA]at b;subst b;obtain⟨o,h2,l⟩:=n.cells q;obtain⟨c,e,a,g,s,r,d,f⟩:=gW (P:=P) p k t i x.cells o h2 l
  exact⟨rfl,_,c,e,by simp[Instr.box,g],s,eW r typ t _ k _ (by simp[ae,newOb,aq]) (fun _ L j=>⟨(f L j).1,fun m hm=>by
   simp only[xA]at hm;rw[(f L j).2,hm]⟩),d⟩
 ·cases b
theorem nN:∀(b:List Value)(cs:Array Value)(a j:Nat),a+j+b.length≤cs.size→
    ((b.zipIdx j).foldl (fun (cs:Array Value) p=>cs.setIfInBounds (a+p.2) p.1) cs).toList=cs.toList.take (a+j) ++b ++cs.toList.drop (a+j+b.length)
 |[],cs,a,j,_=>by simp
 |u::r,cs,a,j,h=>by
  simp only[List.zipIdx_cons,List.foldl_cons];rw[nN r (cs.setIfInBounds (a+j) u) a (j+1) (by simp at h ⊢;omega)];have e:=list_seg_step cs.toList (a+j) u r (by simp at h ⊢;omega);simpa [Array.toList_setIfInBounds,yK]using e
theorem io(n:Nat→Option (Nat×Nat)):∀(l:List (Nat×AV))(a:List (Nat×Value))(cs:List AV)(d:Array Value)(out:List AV),
    m6 n cs l=some out→a.length=l.length→(∀(i:Nat)(p:Nat×AV)(q:Nat×Value),l[i]? =some p→a[i]? =some q→p.1=q.1∧Rep G w p.2 q.2)→
    d.size=cs.length→(∀(i:Nat)(u:Value),d[i]? =some u→u.oneCell'=true)→(∀(i:Nat)(c:AV)(u:Value),cs[i]? =some c→d[i]? =some u→Rep G w c u)→
    ∃g,Instr.fill n d a=some g∧g.size=out.length∧(∀(i:Nat)(u:Value),g[i]? =some u→u.oneCell'=true)∧
     (∀(i:Nat)(c:AV)(u:Value),out[i]? =some c→g[i]? =some u→Rep G w c u)
 |[],a,cs,d,out,o,D,_,Q,F,E=>by
  simp only[m6,xA]at o;subst o;have:a=[]:=xQ (by simpa using D);subst this;exact⟨d,rfl,Q,F,E⟩
 |(i,x)::r,a,cs,d,out,o,D,hp,Q,F,E=>by
  cases a with
  |nil=>simp at D
  |cons q vr=>
   obtain⟨qi,s⟩:=q;obtain⟨A,v⟩:=hp 0 (i,x) (qi,s) rfl rfl;simp only at A v;subst A;simp only[m6]at o;split at o
   ·rename_i b S J
    split at o
    ·rename_i z
     obtain⟨M,T,X⟩:=z;obtain⟨O,e2,V⟩:=v.cells M;have C:=nN s.cells.toList d b 0 (by simp;omega)
     have m:(s.cells.zipIdx.foldl (fun (cs:Array Value) p=>cs.setIfInBounds (b+p.2) p.1) d).toList=d.toList.take b ++s.cells.toList ++d.toList.drop (b+s.cells.size):=by
      rw[←Array.foldl_toList];simpa using C
     refine io n r vr _ (s.cells.zipIdx.foldl (fun (cs:Array Value) p=>cs.setIfInBounds (b+p.2) p.1) d) out o (by simpa using D) (fun j p q I N=>hp (j+1) p q (by simpa using I) (by simpa using N)) ?_ ?_ ?_|>.imp (fun g hh=> ?_)
     ·rw[←x5,m];simp;omega
     ·intro j u Z
      have e:u∈(s.cells.zipIdx.foldl (fun (cs:Array Value) p=>cs.setIfInBounds (b+p.2) p.1) d).toList:=by rw[xa];exact Array.mem_of_getElem? Z
      rw[m]at e;simp only[xJ]at e;rcases e with (e|e)|e
      ·obtain⟨K,t⟩:=x7 (xy e)
       exact F K u (by simpa using t)
      ·exact e2 u e
      ·obtain⟨K,t⟩:=x7 (yO e)
       exact F K u (by simpa using t)
     ·intro j c u k f
      rw[←xX,m]at f;have R:s.cells.toList.length=x.cells.length:=by simpa using O
      by_cases y:j<b
      ·rw[x8,xL (by simp;omega),xl,xW y]at k
       rw[x8,xL (by simp;omega),xl,xW y]at f;exact E j c u k (by simpa using f)
      ·by_cases hj2:j<b+x.cells.length
       ·rw[xL (by simp;omega),xN (by simp;omega)]at k
        rw[xL (by simp;omega),xN (by simp;omega)]at f;have H:min b cs.length=b:=by omega
        have L:min b d.size=b:=by omega
        simp only[List.length_take,H,x5,L]at k f;exact V _ c u k (by simpa using f)
       ·rw[xN (by simp;omega),xo]at k
        rw[xN (by simp;omega),xo]at f;have H:min b cs.length=b:=by omega
        have L:min b d.size=b:=by omega
        simp only[xZ,List.length_take,H,x5,L,O]at k f;exact E _ c u k (by simpa using f)
     ·obtain⟨Y,U,g3,W⟩:=hh
      refine⟨?_,U,g3,W⟩;simp only[Instr.fill,J];rw[xi (by simp;omega)];exact Y
    ·cases o
   ·cases o
theorem iX{t:TypeId}{fs:Array Field}(a:fieldsOf P t=some fs):P.underlying t=some (.struct fs):=by
 unfold fieldsOf at a;split at a
 ·rename_i h;simp only[xA]at a;subst a;exact h
 ·cases a
theorem ls:∀(fs:List Field),(fs.all fun f=>(P.info? f.type).isSome)=true→(fs.mapM fun f=>(P.info? f.type).map fun i=>(f.offset,i.size))=some (fs.map fun f=>(f.offset,P.cellsOf f.type))
 |[],_=>rfl
 |f::r,h=>by
  simp only[List.all_cons,xU]at h;obtain⟨i,a⟩:=Option.isSome_iff_exists.1 h.1;simp[List.mapM_cons,a,ls r h.2,Program.cellsOf]
theorem mO{t:TypeId}{b:List (Nat×AV)}{a:Array (Nat×Value)}{out:Out}(l:nJ P t b=some out)(L:a.size=b.length)
    (hp:∀(i:Nat)(p:Nat×AV)(q:Nat×Value),b[i]? =some p→a[i]? =some q→p.1=q.1∧Rep G w p.2 q.2):
    out.ob=[]∧out.wr=[]∧∃v,(Instr.build t a).run P w= .ok v w∧Rep G w out.val v:=by
 unfold nJ at l;split at l
 ·rename_i H j c
  simp only[ij,y0]at c;obtain⟨z,I,c⟩:=c;simp only[xB]at l;obtain⟨cs,d,rfl⟩:=l;obtain⟨J,h2,C⟩:=dk (G:=G) (w:=w) c;obtain⟨g,E,y,K,D⟩:=io (G:=G) (w:=w) (d8 P t) b a.toList H z.cells cs d (by simpa using L) (fun i p q o r=>hp i p q o (by simpa using r)) J h2 C;refine⟨rfl,rfl, .agg g, ?_,fe y K D⟩;unfold fU at j;split at j
  ·rename_i fs u
   have F:=iX u;have A:=run_places (P:=P) w fs.toList _ (ls fs.toList j)
   have m:(fun (i:Nat)=>((fs.toList.map fun f=>(f.offset,P.cellsOf f.type)).toArray:Array (Nat×Nat))[i]?)=d8 P t:=by
    funext i;simp[d8,u]
   have k:Instr.fill (fun (i:Nat)=>((fs.toList.map fun f=>(f.offset,P.cellsOf f.type)).toArray:Array (Nat×Nat))[i]?) z.cells a.toList=some g:=by rw[m];exact E
   simp only[Instr.build,Sem.run_bind,bw I,run_underlying F,Result.andThen_ok]
   have hm:(fs.mapM fun f=>(do pure (f.offset,←sizeOf f.type):Sem (Nat×Nat))).run P w= .ok (fs.toList.map fun f=>(f.offset,P.cellsOf f.type)).toArray w:=by
    rw[Array.mapM_eq_mapM_toList,Sem.run_map]
    have:(fs.toList.mapM fun f=>(do pure (f.offset,←sizeOf f.type):Sem (Nat×Nat)))=(fs.toList.mapM fun f=>Prod.mk f.offset<$>sizeOf f.type):=by
     congr 1
    rw[this,A];rfl
   simp only[hm,Result.andThen_ok,k,Sem.run_pure]
  ·cases j
 ·rename_i H j c
  simp only[ij,y0]at c;obtain⟨z,I,c⟩:=c;split at l;case h_2=>cases l
  rename_i e s;simp only[xB]at l;obtain⟨cs,d,rfl⟩:=l;obtain⟨J,h2,C⟩:=dk (G:=G) (w:=w) c;obtain⟨g,E,y,K,D⟩:=io (G:=G) (w:=w) _ b a.toList H z.cells cs d (by simpa using L) (fun i p q o r=>hp i p q o (by simpa using r)) J h2 C;refine⟨rfl,rfl, .agg g, ?_,fe y K D⟩;unfold wW at s;split at s
  ·rename_i n O F
   split at s
   ·rename_i N
    cases s;obtain⟨i,M⟩:=Option.isSome_iff_exists.1 (show(P.info? e).isSome=true from N);have x:(sizeOf e).run P w= .ok (P.cellsOf e) w:=by simp[sizeOf,typeInfo,M,Program.cellsOf]
    simp only[Instr.build,Sem.run_bind,bw I,run_underlying F,Result.andThen_ok,x,E,Sem.run_pure]
   ·cases s
  ·cases s
 ·cases l
end
end Go.Avm
namespace Go.Avm
open Go.RowKit
variable[ap]
section
variable{P:Program}{G:Gh}{B:Nat}{w0 w:World}{I0:Nat→Nat→Prop}{h:aa}
theorem gK{c:Type}(l a:List c)(p t:Nat)(hp:p+a.length≤l.length):
    (l.take p ++a ++l.drop (p+a.length))[t]? =if t<p then l[t]? else if t<p+a.length then a[t-p]? else l[t]? :=by
 by_cases b:t<p
 ·rw[xW b,x8,xL (by simp;omega),xl,xW b]
 ·rw[xi b]
  by_cases h2:t<p+a.length
  ·rw[xW h2,xL (by simp;omega),xN (by simp;omega)]
   congr 1;simp;omega
  ·rw[xi h2,xN (by simp;omega),xo]
   congr 1;simp;omega
theorem aO{t:TypeId}(b:bp P t=true)(w:World):(sizeOf t).run P w= .ok (P.cellsOf t) w:=by
 obtain⟨i,a⟩:=Option.isSome_iff_exists.1 b;simp[sizeOf,typeInfo,a,Program.cellsOf]
theorem fx(R:HR G B w0 I0 h w){t:TypeId}{k sz i a Z:Nat}{es es':List AV}{x:AV}{va d:Value}(ha:Rep G w (.ptr k (h k).ver i a Z) va)(hx:Rep G w x d)
    (n:(h k).ob=some (.arr sz es)) (U:x.stor=true) (K:x.cells.length=P.cellsOf t) (Q:bp P t=true)
    (N:i*sz+a+x.cells.length≤es.length*sz) (z:es'.length=es.length) (T:(∀e∈es,e.cells.length=sz)→∀e∈es',e.cells.length=sz)
    (S:sz=1→(∀e∈es,e.lone=true)→(∀c∈x.cells,c.lone=true)→∀e∈es',e.lone=true)
    (F:(∀e∈es,e.cells.length=sz)→(sz=1→∀e∈es,e.lone=true)→(∀c∈x.cells,c.lone=true)→∀(s:Nat)(c:AV),(AV.flat es')[s]? =some c→
     (s<i*sz+a∧(AV.flat es)[s]? =some c)∨(i*sz+a≤s∧x.cells[s-(i*sz+a)]? =some c)∨(i*sz+a+x.cells.length≤s∧(AV.flat es)[s]? =some c)):
    ∃Y,(Instr.storeAt t va d).run P w= .ok () Y∧Ext G w G Y∧HR G B w0 I0 (aq h k ⟨(h k).ver,some (.arr sz es')⟩) Y:=by
 obtain⟨J,e2,e3⟩:=hx.cells U
 have D:∀c∈x.cells,c.lone=true:=by
  intro c O;obtain⟨j,hj⟩:=x7 O;have l:j<d.cells.size:=by rw[J];exact(xD.1 hj).1
  have r:d.cells[j]? =some d.cells[j]:=xF l;exact(e3 j c _ hj r).lone (e2 _ (by rw[xa];exact yf l))
 cases ha with
 |ptr _ _ _ _ L X=>
  rcases R.objs k _ n with ⟨rfl,hLn⟩|⟨L',E,A,h2,h3,h4,h6,h5⟩
  ·
   have W:x.cells.length=0:=by simp only[xp,Nat.zero_mul]at N;omega
   have V:d.cells.toList=[]:=xQ (by simpa [W]using J);have M:es'=[]:=xQ (by simpa using z);subst M;refine⟨w, ?_,Ext.refl G w, ?_⟩
   ·have p:d.cells.size=P.cellsOf t:=by rw[J,K]
    simp[Instr.storeAt,Instr.sureAddr,storeVar,aO Q,p,V,storeCells]
   ·have:aq h k ⟨(h k).ver,some (.arr sz [])⟩=h:=by
      funext k';by_cases hk:k'=k
      ·subst hk;rw[ad];cases hh:h k' with|mk ver ob=>rw[hh]at n;simp only at n;subst n;rfl
      ·rw[ab _ _ hk]
    rw[this];exact R
  ·rw[X]at E
   simp only[xA]at E;subst E;obtain⟨hB,⟨arr,e,hb,hs⟩,_⟩:=R.own k L X
   have m:i*L.sz+a+d.cells.toList.length≤arr.size:=by
    rw[hs.1,A,x5,J];have:=yF sz h3;omega
   have C:=run_storeCells_at P L.b (i*L.sz+a) e d.cells.toList 0 arr w hb (by simpa using m) e2;simp only[yo]at C
   have H:(arr.toList.take (i*L.sz+a) ++d.cells.toList ++arr.toList.drop (i*L.sz+a+d.cells.toList.length)).toArray.size=arr.size:=by
    have:d.cells.toList.length=d.cells.size:=x5;simp;simp at m;omega
   have y:=R.store n X A h2 hb H (by rw[z];exact h3) (T h4) (fun hz=>S hz (h6 hz) D) (fun s c O=>by
    have v:∀{s:Nat}{c:AV},(AV.flat es)[s]? =some c→∃u:Value,arr[s]? =some u∧u.oneCell'=true∧Rep G w c u:=by
     intro s c O;obtain⟨u,r,q,g⟩:=h5 s c O;exact⟨u,by simpa [World.cell?,hb]using r,q,g⟩
    have o:=gK arr.toList d.cells.toList (i*L.sz+a) s (by simpa using m);rcases F h4 h6 D s c O with ⟨I,f⟩|⟨I,f⟩|⟨I,f⟩
    ·obtain⟨u,r,q,g⟩:=v f
     refine⟨u, ?_,q,g⟩;rw[yU,o,xW (by rw[A];exact I)];simpa using r
    ·have l:s-(i*sz+a)<d.cells.size:=by rw[J];exact(xD.1 f).1
     have r:d.cells[s-(i*sz+a)]? =some d.cells[s-(i*sz+a)]:=xF l;refine⟨_, ?_,e2 _ (by rw[xa];exact yf l),e3 _ c _ f r⟩;rw[yU,o,xi (by rw[A];omega),xW (by rw[A];simp;omega),A];simp
    ·obtain⟨u,r,q,g⟩:=v f
     refine⟨u, ?_,q,g⟩;rw[yU,o,xi (by rw[A];omega),xi (by rw[A];simp;omega)];simpa using r)
   refine⟨_, ?_,y.2,y.1⟩;have p:d.cells.size=P.cellsOf t:=by rw[J,K]
   simp[Instr.storeAt,Instr.sureAddr,storeVar,aO Q,p,C]
theorem mP(X:HR G B w0 I0 h w){t:TypeId}{a x:AV}{va V:Value}(Y:Rep G w a va)(T:Rep G w x V){out:Out}(l:cw P t a x h=some out):
    out.ob=[]∧out.val= .junk∧∃w',(Instr.storeAt t va V).run P w= .ok () w'∧Ext G w G w'∧HR G B w0 I0 (ae h out.wr) w':=by
 unfold cw at l;split at l
 ·rename_i k v i z sz0
  split at l
  ·rename_i sz es C
   split at l
   ·rename_i hc
    obtain⟨rfl,r,A,F⟩:=hc;split at l
    ·rename_i E
     subst E;split at l
     ·rename_i K
      subst K;split at l
      ·rename_i L
       split at l
       ·rename_i hi
        simp only[xA]at l;subst l
        have o:x.lone=true:=by cases x with
         |d y=>cases y<;>first|rfl|(simp[AV.one]at L)
         |agg _=>simp[AV.one]at L
         |_=>rfl
        have D:x.cells=[x]:=AV.cells_lone o;refine⟨rfl,rfl,fx X Y T C r A F (by rw[D];simp;omega) (by simp) (fun m e b=> ?_) (fun _ u _ e b=> ?_) (fun m u _ s c f=> ?_)⟩
        ·rcases xj b with b|rfl
         ·exact m e b
         ·rw[D];rfl
        ·rcases xj b with b|rfl
         ·exact u e b
         ·exact o
        ·have p:∀e∈es.set i x,e.lone=true:=fun e b=>by
           rcases xj b with b|rfl
           ·exact u rfl e b
           ·exact o
         rw[be p,List.getElem?_set]at f;rw[be (u rfl)];simp only[Nat.mul_one,yo];by_cases O:i=s
         ·subst O
          simp[hi]at f;subst f;exact .inr (.inl ⟨xO _,by simp[D]⟩)
         ·rw[xi O]at f
          rcases Nat.lt_or_gt_of_ne O with q|N
          ·exact .inr (.inr ⟨by rw[D];simp;omega,f⟩)
          ·exact .inl ⟨N,f⟩
       ·cases l
      ·split at l
       ·rename_i hi
        simp only[xA]at l;subst l;have S:=gK es x.cells i;refine⟨rfl,rfl,fx X Y T C r A F (by omega) (by simp;omega) (fun m e b=> ?_) (fun _ u o e b=> ?_) (fun m u o s c f=> ?_)⟩
        ·simp only[x8,xJ]at b
         rcases b with b|b|b
         ·exact m e (xy b)
         ·have o:∀c∈x.cells,c.lone=true:=by
            obtain⟨e1,e2,e3⟩:=T.cells r;intro c hc;obtain⟨j,R⟩:=x7 hc;have q:j<V.cells.size:=by rw[e1];exact(xD.1 R).1
            have hu:V.cells[j]? =some V.cells[j]:=xF q;exact(e3 j c _ R hu).lone (e2 _ (by rw[xa];exact yf q))
          rw[AV.cells_lone (o e b)];rfl
         ·exact m e (yO b)
        ·simp only[x8,xJ]at b
         rcases b with b|b|b
         ·exact u e (xy b)
         ·exact o e b
         ·exact u e (yO b)
        ·have p:∀e∈es.take i ++x.cells ++es.drop (i+x.cells.length),e.lone=true:=fun e b=>by
           simp only[x8,xJ]at b;rcases b with b|b|b
           ·exact u rfl e (xy b)
           ·exact o e b
           ·exact u rfl e (yO b)
         rw[be p,S s hi]at f;rw[be (u rfl)];simp only[Nat.mul_one,yo];split at f
         ·rename_i q;exact .inl ⟨q,f⟩
         ·split at f
          ·exact .inr (.inl ⟨by omega,f⟩)
          ·exact .inr (.inr ⟨by omega,f⟩)
       ·cases l
     ·cases l
    ·rename_i E
     split at l
     ·rename_i e b
      have J:=(xD.1 b).1
      have hmul:i*sz+sz≤es.length*sz:=by
       have:(i+1)*sz≤es.length*sz:=yF sz J;rw[yN,Nat.one_mul]at this;exact this
      have H:∀(y:AV),(∀e∈es,e.cells.length=sz)→y.cells.length=sz→∀(s:Nat)(c:AV),(AV.flat (es.set i y))[s]? =some c→
          ((s<i*sz∨i*sz+sz≤s)∧(AV.flat es)[s]? =some c)∨(i*sz≤s∧s<i*sz+sz∧y.cells[s-i*sz]? =some c):=by
       intro y m hy s c f
       have p:∀e∈es.set i y,e.cells.length=sz:=fun e b=>by
        rcases xj b with b|rfl
        ·exact m e b
        ·exact hy
       obtain⟨Z,j,e',rfl,R,n,g⟩:=cX p f;rw[List.getElem?_set]at n;by_cases M:i=Z
       ·subst M
        rw[xW rfl,xW J]at n;simp only[xA]at n;subst n;exact .inr ⟨by omega,by omega,by rw[show i*sz+j-i*sz=j from by omega];exact g⟩
       ·rw[xi M]at n
        refine .inl ⟨?_,by rw[AV.flat,aW _ sz es m Z j R,n,xh,g]⟩;rcases Nat.lt_or_gt_of_ne M with q|N
        ·right
         have:(i+1)*sz≤Z*sz:=yF sz q;rw[yN,Nat.one_mul]at this;omega
        ·left
         have:(Z+1)*sz≤i*sz:=yF sz N;rw[yN,Nat.one_mul]at this;omega
      have I:(∀e∈es,e.cells.length=sz)→∀j,j<sz→(AV.flat es)[i*sz+j]? =e.cells[j]? :=fun m j R=>by
       rw[AV.flat,aW _ sz es m i j R,b,xh]
      split at l
      ·rename_i hc2
       obtain⟨rfl,W⟩:=hc2;simp only[xA]at l;subst l;refine⟨rfl,rfl,fx X Y T C r A F (by omega) (by simp) (fun m e b=> ?_) (fun hz=>absurd hz E) (fun m _ _ s c f=> ?_)⟩
       ·rcases xj b with b|rfl
        ·exact m e b
        ·exact W
       ·rcases H x m W s c f with ⟨Q,g⟩|⟨h7,h8,g⟩
        ·rcases Q with Q|Q
         ·exact .inl ⟨by omega,g⟩
         ·exact .inr (.inr ⟨by omega,g⟩)
        ·exact .inr (.inl ⟨by omega,by simpa using g⟩)
      ·split at l
       ·rename_i K
        simp only[xA]at l;subst l;refine⟨rfl,rfl,fx X Y T C r A F (by omega) (by simp) (fun m e' n=> ?_) (fun hz=>absurd hz E) (fun m _ _ s c f=> ?_)⟩
        ·rcases xj n with n|rfl
         ·exact m e' n
         ·rw[dR]
          have:=m e (xS b);simp;omega
        ·have hel:=m e (xS b)
         have hyl:(ek (e.cells.take z ++x.cells ++e.cells.drop (z+x.cells.length))).cells.length=sz:=by rw[dR];simp;omega
         rcases H _ m hyl s c f with ⟨Q,g⟩|⟨h7,h8,g⟩
         ·rcases Q with Q|Q
          ·exact .inl ⟨by omega,g⟩
          ·exact .inr (.inr ⟨by omega,g⟩)
         ·rw[dR,gK e.cells x.cells z (s-i*sz) (by omega)]at g
          have U:s=i*sz+(s-i*sz):=by omega
          split at g
          ·refine .inl ⟨by omega, ?_⟩
           rw[U,I m _ (by omega)];exact g
          ·split at g
           ·exact .inr (.inl ⟨by omega,by rw[show s-(i*sz+z)=s-i*sz-z from by omega];exact g⟩)
           ·refine .inr (.inr ⟨by omega, ?_⟩)
            rw[U,I m _ (by omega)];exact g
       ·cases l
     ·cases l
   ·cases l
  ·cases l
 ·cases l
end
end Go.Avm
namespace Go.Avm
open Go.RowKit
variable[ap]
section
variable{P:Program}{G:Gh}{B:Nat}{w0 w:World}{I0:Nat→Nat→Prop}{h:aa}
theorem gY:∀(n:Nat)(a:List (Nat×AV))(xs:List AV),fV n a=some xs→xs.length=a.length∧∀(i:Nat)(p:Nat×AV),a[i]? =some p→p.1=n+i∧xs[i]? =some p.2
 |n,[],xs,h=>by simp[fV]at h;subst h;simp
 |n,(i,x)::r,xs,h=>by
  simp only[fV]at h;split at h
  ·rename_i d
   subst d;simp only[xB]at h;obtain⟨ys,b,rfl⟩:=h;obtain⟨c,e⟩:=gY (i+1) r ys b;refine⟨by simp[c],fun j p hp=> ?_⟩;cases j with
   |zero=>simp only[xk,xA]at hp;subst hp;simp
   |succ j=>
    simp only[yZ]at hp;obtain⟨f,h2⟩:=e j p hp;exact⟨by omega,by simpa using h2⟩
  ·cases h
theorem oV(sz:Nat):∀(c:List (Nat×Value))(n:Nat)(cs:Array Value),(∀(i:Nat)(q:Nat×Value),c[i]? =some q→q.1=n+i∧q.2.cells.size=sz)→n*sz+c.length*sz≤cs.size→
    ∃cs':Array Value,Instr.fill (fun i=>some (i*sz,sz)) cs c=some cs'∧cs'.toList=cs.toList.take (n*sz) ++c.flatMap (fun q=>q.2.cells.toList) ++cs.toList.drop (n*sz+c.length*sz)
 |[],n,cs,_,_=>⟨cs,rfl,by simp⟩
 |(i,v)::r,n,cs,m,f=>by
  obtain⟨s,e⟩:=m 0 (i,v) rfl;simp only[yo]at s e;subst s;have b:i*sz+(r.length+1)*sz≤cs.size:=by simpa using f
  rw[yN,Nat.one_mul]at b;have d:=nN v.cells.toList cs (i*sz) 0 (by simp;omega)
  have a:(v.cells.zipIdx.foldl (fun (cs:Array Value) p=>cs.setIfInBounds (i*sz+p.2) p.1) cs).toList=cs.toList.take (i*sz) ++v.cells.toList ++cs.toList.drop (i*sz+v.cells.size):=by
   rw[←Array.foldl_toList];simpa using d
  have g:(v.cells.zipIdx.foldl (fun (cs:Array Value) p=>cs.setIfInBounds (i*sz+p.2) p.1) cs).size=cs.size:=by
   rw[←x5,a];simp;omega
  obtain⟨cs',t,h2⟩:=oV sz r (i+1) (v.cells.zipIdx.foldl (fun (cs:Array Value) p=>cs.setIfInBounds (i*sz+p.2) p.1) cs) (fun j q u=>by
   obtain⟨o,k⟩:=m (j+1) q (by simpa using u);exact⟨by omega,k⟩) (by rw[g,yN,Nat.one_mul];omega)
  refine⟨cs', ?_, ?_⟩
  ·simp only[Instr.fill]
   rw[xi (by simp[e];omega)];exact t
  ·rw[h2,a]
   have o:(i+1)*sz=i*sz+sz:=by rw[yN,Nat.one_mul]
   have k:((i,v)::r).length*sz=r.length*sz+sz:=by simp[yN]
   have l:(cs.toList.take (i*sz) ++v.cells.toList).length=i*sz+sz:=by simp[e];omega
   rw[o,k,List.take_left' l,List.drop_append,l,List.drop_eq_nil_of_le (by rw[l];omega)];simp only[xm,yg,List.drop_drop,x8];congr 4;rw[e];omega
theorem sC{xs:List AV}{vs:List Value}{sz:Nat}(q:vs.length=xs.length)(r:∀(i:Nat)(x:AV)(v:Value),xs[i]? =some x→vs[i]? =some v→Rep G w x v)(m:∀x∈xs,x.stor=true∧x.cells.length=sz):
    (∀(i:Nat)(v:Value),vs[i]? =some v→v.cells.size=sz)∧∀(t:Nat)(c:AV),(AV.flat xs)[t]? =some c→∃u,(vs.flatMap fun v=>v.cells.toList)[t]? =some u∧u.oneCell'=true∧Rep G w c u:=by
 have b:∀(i:Nat)(v:Value),vs[i]? =some v→v.cells.size=sz:=by
  intro i v d;have a:i<xs.length:=by rw[←q];exact(xD.1 d).1
  have k:xs[i]? =some xs[i]:=xE a;obtain⟨p,h2⟩:=m xs[i] (yc a);rw[((r i _ v k d).cells p).1,h2]
 refine⟨b,fun t c C=> ?_⟩;obtain⟨i,j,e,rfl,s,l,D⟩:=cX (fun x o=>(m x o).2) C;have a:i<vs.length:=by rw[q];exact(xD.1 l).1
 have d:vs[i]? =some vs[i]:=xE a;obtain⟨p,h2⟩:=m e (xS l);obtain⟨z,F,y⟩:=(r i e _ l d).cells p;have f:j<vs[i].cells.size:=by rw[z,h2];exact s
 have A:vs[i].cells[j]? =some vs[i].cells[j]:=xF f;refine⟨_, ?_,F _ (by rw[xa];exact yf f),y j c _ D A⟩
 rw[aW (fun v:Value=>v.cells.toList) sz vs (fun v n=>by
  obtain⟨E,g⟩:=x7 n;simpa using b E v g) i j s,d,xh]
 simp
theorem ip(hr:HR G B w0 I0 h w){obm:Bool}{t:TypeId}{d:Nat}{b:List (Nat×AV)}{a:Array (Nat×Value)}{k:Nat}{out:Out}(f:cy P obm t d b k h=some out)
    (Z:a.size=b.length) (hp:∀(i:Nat)(p:Nat×AV)(q:Nat×Value),b[i]? =some p→a[i]? =some q→p.1=q.1∧Rep G w p.2 q.2):
    out.ob=[]∧∃v w' G',(Instr.buildSlice t d a).run P w= .ok v w'∧Ext G w G' w'∧HR G' B w0 I0 (ae h out.wr) w'∧Rep G' w' out.val v:=by
 unfold cy at f;split at f
 ·rename_i e hu
  split at f
  ·rename_i xs hxs
   split at f
   ·rename_i hc
    obtain⟨E,hsmall,hz,hall⟩:=hc;obtain⟨z,hz⟩:=Option.isSome_iff_exists.1 hz;obtain⟨A,S⟩:=gY 0 b xs hxs
    have C:∀x∈xs,x.stor=true∧x.cells.length=P.cellsOf e:=fun x F=>by
     have:=xY.1 hall x F;simpa using this
    have R:=sC (G:=G) (w:=w) (xs:=xs) (vs:=a.toList.map (·.2)) (sz:=P.cellsOf e) (by simp[Z,A]) (fun i x v F U=>by
     simp only[xK,xB]at U;obtain⟨q,hq,rfl⟩:=U;have g:i<b.length:=by rw[←A];exact(xD.1 F).1
     have l:b[i]? =some b[i]:=xE g;obtain⟨_,h2⟩:=S i _ l;rw[F]at h2;simp only[xA]at h2;subst h2;exact(hp i _ q l (by simpa using hq)).2) C
    obtain⟨o,hv2⟩:=R
    have K:∀cs:Array Value,cs.size=d*P.cellsOf e→∃cs':Array Value,Instr.fill (fun i=>some (i*P.cellsOf e,P.cellsOf e)) cs a.toList=some cs'∧cs'.toList=(a.toList.map (·.2)).flatMap fun v=>v.cells.toList:=by
     intro cs n;have hvl:a.toList.length=d:=by simp[Z,←A,E]
     obtain⟨cs',I,h2⟩:=oV (P.cellsOf e) a.toList 0 cs (fun i q hq=>by
      have g:i<b.length:=by rw[←Z,←x5];exact(xD.1 hq).1
      have l:b[i]? =some b[i]:=xE g;refine⟨?_,o i q.2 (by simp[hq])⟩;rw[←(hp i _ q l (by simpa using hq)).1,(S i _ l).1]) (by rw[hvl,n];omega)
     refine⟨cs',I, ?_⟩;rw[h2,hvl];simp[n,List.flatMap_map]
    have hkn:∀w,(sizeOf e).run P w= .ok (P.cellsOf e) w:=by
     intro w;unfold bC at hz;cases hi:P.info? e with
     |none=>simp[hi]at hz
     |some i=>simp[sizeOf,typeInfo,hi,Program.cellsOf]
    have m:∃cs':Array Value,(Instr.buildSlice t d a).run P w= .ok (.slice (some ⟨w.heap.size,0,none⟩) d d) (w.alloc (.cells cs' e))∧cs'.toList=(a.toList.map (·.2)).flatMap fun v=>v.cells.toList:=by
     have hsm:¬(d*P.cellsOf e>2^24):=by omega
     by_cases h0:d*P.cellsOf e=0
     ·obtain⟨cs',I,h2⟩:=K #[] (by simp[h0])
      refine⟨cs', ?_,h2⟩;have h9:Array.map (fun _:Nat=>(default:Value)) (Array.range 0)= #[]:=by simp
      simp[Instr.buildSlice,run_underlying hu,hkn,h0,h9,I,newRow]
     ·obtain⟨cs',I,h2⟩:=K ((Array.range (d*P.cellsOf e)).map (fun i=>z.cells[i % z.cells.size]!)) (by simp)
      refine⟨cs', ?_,h2⟩;simp only[Instr.buildSlice,Sem.run_bind,run_underlying hu,hkn,Result.andThen_ok,xi hsm,h0,ya,bw hz,Sem.run_pure,Sem.run_ite,pure_bind];simp[I,newRow]
    obtain⟨cs',m,n⟩:=m
    have J:cs'.size=d*P.cellsOf e:=by
     rw[←x5,n,bg (fun v:Value=>v.cells.toList) (P.cellsOf e) _ (fun v T=>by
      obtain⟨i',M⟩:=x7 T;simpa using o i' v M)]
     simp[Z,←A,E]
    have V:∀(t:Nat)(c:AV),(AV.flat xs)[t]? =some c→∃u:Value,cs'[t]? =some u∧u.oneCell'=true∧Rep G w c u:=fun t c ht=>by
     obtain⟨u,hu,I,h2⟩:=hv2 t c ht;exact⟨u,by rw[←xX,n];exact hu,I,h2⟩
    split at f
    ·split at f
     ·cases f
     ·rename_i hlo
      simp only[xA]at f;subst f
      obtain⟨g1,g2⟩:=hr.newOb k (P.cellsOf e) d xs cs' e J (by omega) (fun x F=>(C x F).2) (fun I x F=>by
       cases hxa:xs.all AV.lone with
       |true=>exact xY.1 hxa x F
       |false=>exact absurd ⟨I,hxa⟩ hlo) V
      refine⟨rfl,_,_,_,m,g2,g1, ?_⟩;have:=Rep.sl (w:=w.alloc (.cells cs' e)) k ((h k).ver+1) 0 d d _ (Gh.at_same G k ((h k).ver+1) ⟨w.heap.size,P.cellsOf e,d,0,e⟩) (by simp) (xO _);simpa using this
    ·split at f
     ·rename_i r Q
      split at f
      ·cases f
      ·rename_i hk
       simp only[xA]at f;subst f;obtain⟨ys,ks⟩:=r;simp only at hk;have hr1:=hr.kill ks;have hex1:=Ext.froz hr ks;have H:=eM Q
       have hys:∀(i:Nat)(y:D),ys[i]? =some y→∃x v,xs[i]? =some x∧(a.toList.map (·.2))[i]? =some v∧DRep (bR G h ks) w y v:=by
        intro i y Y;have g:i<xs.length:=by rw[←H.1];exact(xD.1 Y).1
        obtain⟨y',k',X,hvw,hk'⟩:=H.2 i xs[i] (xE g);rw[Y]at X;simp only[xA]at X;subst X;have L:i<b.length:=by rw[←A];exact g
        have l:b[i]? =some b[i]:=xE L;have hltq:i<a.size:=by rw[Z];exact L
        have hqe:a[i]? =some a[i]:=xF hltq;have N:=(S i _ l).2;rw[xE g]at N;simp only[xA]at N;refine⟨xs[i],a[i].2,xE g,by simp[hqe], ?_⟩;have hrp:=(hp i _ _ l hqe).2;rw[←N]at hrp;exact(b8 hr 3 _ _ _ _ hvw hrp).mono (d9 hk') (fun _ _ _=>rfl)
       have hyc:∀y∈ys,y.cells.length=P.cellsOf e:=by
        intro y Y;obtain⟨i,hi⟩:=x7 Y;obtain⟨x,v,F,U,hd⟩:=hys i y hi;rw[hd.cells.1,o i v U]
       have hnew:=hr1.newVec k (P.cellsOf e) d ys cs' e J (by rw[H.1];omega) hyc (fun t c ht=>by
        obtain⟨i,j,y,rfl,hj,Y,hc⟩:=cX hyc ht;obtain⟨x,v,F,U,hd⟩:=hys i y Y;obtain⟨d1,d2,d3⟩:=hd.cells;have hjl:j<v.cells.size:=by rw[o i v U];exact hj
        have hu':v.cells[j]? =some v.cells[j]:=xF hjl;refine⟨_, ?_,d2 c (xS hc),d3 j c _ hc hu'⟩
        rw[←xX,n,aW (fun v:Value=>v.cells.toList) (P.cellsOf e) _ (fun v T=>by
         obtain⟨i',M⟩:=x7 T;simpa using o i' v M) i j hj,U,xh]
        simp)
       obtain⟨G',g1,g2,g3⟩:=hnew;have W:ae h (kill h ks) k=h k:=by rw[aN,xi hk]
       rw[W]at g1 g3;refine⟨rfl,_,_,G',m,hex1.trans g2, ?_, ?_⟩
       ·have:ae h ((k,⟨(h k).ver+1,none⟩)::kill h ks)=aq (ae h (kill h ks)) k ⟨(h k).ver+1,none⟩:=by
          funext s;simp only[ae];rw[aN];by_cases O:s=k
          ·subst O;simp[hk,aq]
          ·rw[ab _ _ O,ab _ _ O,aN]
        rw[this];exact g1
       ·have hyl:ys.length=d:=by rw[H.1,E]
        rw[hyl]at g3;exact g3
     ·cases f
   ·cases f
  ·cases f
 ·cases f
theorem iY(hr:HR G B w0 I0 h w){t:TypeId}{x ix:AV}{V vi:Value}(K:Rep G w x V)(J:Rep G w ix vi){out:Out}(f:c3 P t x ix h=some out):
    out.ob=[]∧out.wr=[]∧∃v,(Instr.indexAt t V vi).run P w= .ok v w∧Rep G w out.val v:=by
 unfold c3 at f;split at f
 ·rename_i e kd i O
  cases J with
  |d A=>
   cases A
   have N:∀(l:List D),DRep G.imm w (.ro l) V→(if 0≤i then match l[i.toNat]? with
       |some y=>if y.cells.length=P.cellsOf e∧bp P e=true then some ({val:= .d (.rp y.cells)}:Out)else none
       |none=>none else none)=some out→out.ob=[]∧out.wr=[]∧∃v,(Instr.indexAt t V (.int kd i)).run P w= .ok v w∧Rep G w out.val v:=by
    intro l M u;split at u
    ·rename_i C
     split at u
     ·rename_i y R
      split at u
      ·rename_i p
       obtain⟨W,g⟩:=p;simp only[xA]at u;subst u;have X:=(xD.1 R).1;cases M with
       |roNil=>simp at X
       |ro _ b o c sz U Q z h1 J p F=>
        have r:=z y (xS R);have H:sz=P.cellsOf e:=by rw[←r,W]
        refine⟨rfl,rfl, .pointer (some ⟨b,o+i.toNat*sz,none⟩), ?_, .d (.rp y.cells b (o+i.toNat*sz) (fun j=>U (i.toNat*sz+j)) (fun c I=> ?_) ?_ ?_ ?_)⟩
        ·have m:i<(l.length:Int):=by omega
         simp[Instr.indexAt,asIntOf,run_underlying O,C,m,aO g,bL,H]
        ·exact h1 c (List.mem_flatMap.2 ⟨y,xS R,I⟩)
        all_goals
         intro j c hj;have hjl:j<sz:=by rw[←r];exact(xD.1 hj).1
         have E:(D.flat l)[i.toNat*sz+j]? =some c:=by rw[D.flat,aW _ sz l z _ j hjl,R,xh,hj]
        ·have:=J _ c E;rwa [←yK]at this
        ·have:=p _ c E;rwa [←yK]at this
        ·exact F _ c E
      ·cases u
     ·cases u
    ·cases u
   split at f
   ·exact N _ K.toDRep f
   ·rename_i k ver sz l
    refine N l ?_ f;cases K with
    |vecNil=>exact .roNil _ _
    |vec _ _ _ L T hfr hlen z M=>exact M
   ·rename_i k v q Y sz
    split at f
    ·rename_i p
     obtain⟨H,g,C,m⟩:=p;simp only[xA]at f;subst f;cases K with
     |slNil=>omega
     |sl _ _ _ _ c L T Q hlc=>
      refine⟨rfl,rfl, .pointer (some ⟨L.b,(q+i.toNat)*L.sz+0,none⟩), ?_, .ptr k _ _ 0 L T⟩;have a:i<(Y:Int):=by omega
      have:q*L.sz+i.toNat*P.cellsOf e=(q+i.toNat)*L.sz:=by rw[yN,H]
      simp[Instr.indexAt,asIntOf,run_underlying O,C,a,aO g,bL,this]
    ·cases f
   ·cases f
 ·rename_i n e kd i O
  cases J with
  |d A=>
   cases A;split at f
   ·rename_i k v j q sz
    split at f
    ·rename_i p
     obtain⟨Z,rfl,g,C,m⟩:=p;simp only[xA]at f;subst f;cases K with
     |ptr _ _ _ _ L T=>
      have a:i<(n:Int):=by omega
      refine⟨rfl,rfl, .pointer (some ⟨L.b,(j+i.toNat*P.cellsOf e)*L.sz+0,none⟩), ?_, .ptr k _ _ 0 L T⟩;have:j*L.sz+i.toNat*P.cellsOf e=(j+i.toNat*P.cellsOf e)*L.sz:=by rw[Z];omega
      simp[Instr.indexAt,asIntOf,Instr.sureAddr,run_underlying O,C,a,aO g,bL,this]
    ·cases f
   ·rename_i cs
    split at f
    ·rename_i p
     obtain⟨g,C,m⟩:=p;simp only[xA]at f;subst f;cases K with
     |d M=>
      cases M with
      |rp _ b o U h1 J p F=>
       have a:i<(n:Int):=by omega
       refine⟨rfl,rfl, .pointer (some ⟨b,o+i.toNat*P.cellsOf e,none⟩), ?_, .d (.rp _ b _ (fun s=>U (i.toNat*P.cellsOf e+s)) (fun c I=>h1 c (yO I)) ?_ ?_ ?_)⟩
       ·simp[Instr.indexAt,asIntOf,Instr.sureAddr,run_underlying O,C,a,aO g,bL]
       all_goals
        intro s c S;rw[xo]at S
       ·have:=J _ c S;rwa [←yK]at this
       ·have:=p _ c S;rwa [←yK]at this
       ·exact F _ c S
    ·cases f
   ·cases f
 ·cases f
end
end Go.Avm
namespace Go.Avm
open Go.RowKit
variable[ap]
section
variable{P:Program}{G:Gh}{B:Nat}{w0 w:World}{I0:Nat→Nat→Prop}{h:aa}
theorem iZ{t:TypeId}{f e fs:Nat}(hp:d8 P t f=some (e,fs)):∃(a:Array Field)(b:Field),fieldsOf P t=some a∧P.underlying t=some (.struct a)∧a[f]? =some b∧b.offset=e∧P.cellsOf b.type=fs:=by
 simp only[d8,y0,xB,xC]at hp;obtain⟨a,d,b,c,g,h2⟩:=hp;exact⟨a,b,d,iX d,c,g,h2⟩
theorem lu{t:TypeId}{a:Array Field}(c:fU P t=true)(e:fieldsOf P t=some a){f:Nat}{d:Field}(b:a[f]? =some d):bp P d.type=true:=by
 unfold fU at c;rw[e]at c;exact xY.1 c d (by rw[xa];exact Array.mem_of_getElem? b)
theorem i3(N:HR G B w0 I0 h w){t:TypeId}{x:AV}{n:Value}(E:Rep G w x n){f:Nat}{out:Out}(a:fW P t x f h=some out):
    out.ob=[]∧out.wr=[]∧∃v,(Instr.fieldAt t n f).run P w= .ok v w∧Rep G w out.val v:=by
 unfold fW at a;split at a
 ·rename_i l fs hp p
  obtain⟨j,M,H,K,g,u,h2⟩:=iZ hp;have D:=lu p H g;split at a
  ·cases a
  ·rename_i z
   have e:∀(b o:Nat),n= .pointer (some ⟨b,o,none⟩)→(Instr.fieldAt t n f).run P w= .ok (.pointer (some ⟨b,o+l,none⟩)) w:=by
    rintro b o rfl;simp[Instr.fieldAt,run_underlying K,g,Instr.sureAddr,fieldPlace,aO D,h2,z,bL,u]
   split at a
   ·rename_i cs
    simp only[xA]at a;subst a;cases E with
    |d J=>
     cases J with
     |rp _ b o U u I r q=>
      refine⟨rfl,rfl,_,e b o rfl, .d (.rp _ b _ (fun s=>U (l+s)) (fun c C=>u c (yO C)) ?_ ?_ ?_)⟩
      all_goals
       intro s c m;rw[xo]at m
      ·have:=I _ c m;rwa [←yK]at this
      ·have:=r _ c m;rwa [←yK]at this
      ·exact q _ c m
   ·rename_i k v i y sz
    cases E with
    |ptr _ _ _ _ L F=>
     split at a
     ·rename_i A
      split at a
      ·rename_i r
       subst r;simp only[xA]at a;subst a;refine⟨rfl,rfl,_,e L.b _ rfl, ?_⟩;have:=Rep.ptr (w:=w) k v (i+l) 0 L F;rw[A]at this ⊢;simpa [yK]using this
      ·cases a
     ·simp only[xA]at a
      subst a;refine⟨rfl,rfl,_,e L.b _ rfl, ?_⟩;have:=Rep.ptr (w:=w) k v i (y+l) L F;rwa [←yK]at this
   ·cases a
 ·cases a
theorem oW{t:TypeId}(a:gR P t=some true)(cs:Array Value)(o:Nat)(w:World):(part t cs o).run P w= .ok (.agg (cs.extract o (o+P.cellsOf t))) w:=by
 obtain⟨d,b⟩:=oT a;simp[part,fv a,kh b]
theorem er{t:TypeId}(b:gR P t=some false)(cs:Array Value)(o:Nat)(v:Value)(a:cs[o]? =some v)(w:World):(part t cs o).run P w= .ok v w:=by
 simp[part,fv b,a]
theorem mQ{t:TypeId}{x:AV}{K:Value}(E:Rep G w x K){f:Nat}{out:Out}(l:nK P t x f=some out):
    out.ob=[]∧out.wr=[]∧∃v,(Instr.field t K f).run P w= .ok v w∧Rep G w out.val v:=by
 have F:∀{j fs:Nat}{b:Bool},d8 P t f=some (j,fs)→lf P t f=some b→∃(a:Array Field)(q:Field),P.underlying t=some (.struct a)∧a[f]? =some q∧q.offset=j∧P.cellsOf q.type=fs∧gR P q.type=some b:=by
  intro j fs b hp s;obtain⟨a,q,L,y,g,p,h2⟩:=iZ hp;simp only[lf,L,xh,g]at s;exact⟨a,q,y,g,p,h2,s⟩
 have ext:∀(vs:Array Value)(o n i:Nat),(vs.extract o (o+n))[i]? =if i<n then vs[o+i]? else none:=by
  intro vs o n i;rw[Array.getElem?_extract];by_cases p:i<n
  ·by_cases h2:o+i<vs.size
   ·rw[xW (by omega),xW p]
   ·rw[xi (by omega),xW p,Array.getElem?_eq_none (by omega)]
  ·rw[xi (by omega),xi p]
 unfold nK at l;split at l
 ·rename_i j fs cs hp s
  obtain⟨a,q,y,g,p,h2,A⟩:=F hp s;split at l
  ·rename_i J
   simp only[xA]at l;subst l;cases E with
   |d I=>
    cases I with
    |agg _ vs C r m=>
     refine⟨rfl,rfl, .agg (vs.extract j (j+fs)),by simp[Instr.field,run_underlying y,g,asAgg,oW A,p,h2], .d (.agg _ _ (by simp;omega) (fun c k=>r c (yO (xy k))) (fun i c u k e=> ?_))⟩;rw[xl]at k;rw[ext]at e;split at k
     ·rename_i H
      rw[xW H]at e;rw[xo]at k;exact m _ c u k e
     ·cases k
  ·cases l
 ·rename_i j fs cs hp s
  obtain⟨a,q,y,g,p,h2,A⟩:=F hp s;simp only[xB]at l;obtain⟨c,k,rfl⟩:=l;cases E with
  |d I=>
   cases I with
   |agg _ vs C r m=>
    have z:j<vs.size:=by rw[C];exact(xD.1 k).1
    have D:vs[j]? =some vs[j]:=xF z;exact⟨rfl,rfl,_,by simp[Instr.field,run_underlying y,g,asAgg,er A vs q.offset _ (by rw[p];exact D)], .d (m j c _ k D)⟩
 ·rename_i j fs cs hp s
  obtain⟨a,q,y,g,p,h2,A⟩:=F hp s;split at l
  ·rename_i J
   simp only[xA]at l;subst l;cases E with
   |agg _ vs C r m=>
    refine⟨rfl,rfl, .agg (vs.extract j (j+fs)),by simp[Instr.field,run_underlying y,g,asAgg,oW A,p,h2],fe (by simp;omega) (fun i u e=> ?_) (fun i c u k e=> ?_)⟩
    ·rw[ext]at e
     split at e
     ·exact r _ u e
     ·cases e
    ·rw[xl]at k
     rw[ext]at e;split at k
     ·rename_i H
      rw[xW H]at e;rw[xo]at k;exact m _ c u k e
     ·cases k
  ·cases l
 ·rename_i j fs cs hp s
  obtain⟨a,q,y,g,p,h2,A⟩:=F hp s;simp only[xB]at l;obtain⟨c,k,rfl⟩:=l;cases E with
  |agg _ vs C r m=>
   have z:j<vs.size:=by rw[C];exact(xD.1 k).1
   have D:vs[j]? =some vs[j]:=xF z;exact⟨rfl,rfl,_,by simp[Instr.field,run_underlying y,g,asAgg,er A vs q.offset _ (by rw[p];exact D)],m j c _ k D⟩
 ·cases l
theorem oX{op:BinOp}{x y r:AV}{u s:Value}{t:TypeId}(l:Rep G w x u)(j:Rep G w y s)(c:rA op x y=some r):
    ∃v,(∀f g,(eqGuard op t f g u s).run P w= .ok () w)∧(binOp op t u s).run P w= .ok v w∧Rep G w r v:=by
 unfold rA at c;split at c
 ·rename_i k a F b
  cases l with
  |d l=>
   cases l;cases j with
   |d j=>
    cases j
    have e:∀f g,(eqGuard op t f g (.int k a) (.int F b)).run P w= .ok () w:=by
     intro f g;cases op<;>simp[eqGuard]
    split at c
    ·split at c
     ·rename_i p
      simp only[xA]at c;subst c;exact⟨_,e,by simp[binOp,Op.shift,Int.not_lt.2 p], .d (.int _ _)⟩
     ·cases c
    ·split at c
     ·rename_i p
      simp only[xA]at c;subst c;exact⟨_,e,by simp[binOp,Op.shift,Int.not_lt.2 p], .d (.int _ _)⟩
     ·cases c
    ·rename_i D z
     split at c
     ·rename_i A
      subst A;split at c
      ·simp only[xA]at c;subst c;exact⟨_,e,by simp[binOp,Op.intArith], .d (.int _ _)⟩
      ·simp only[xA]at c;subst c;exact⟨_,e,by simp[binOp,Op.intArith], .d (.int _ _)⟩
      ·simp only[xA]at c;subst c;exact⟨_,e,by simp[binOp,Op.intArith], .d (.int _ _)⟩
      ·split at c
       ·cases c
       ·rename_i i
        simp only[xA]at c;subst c;exact⟨_,e,by simp[binOp,Op.intDiv,i], .d (.int _ _)⟩
      ·split at c
       ·cases c
       ·rename_i i
        simp only[xA]at c;subst c;exact⟨_,e,by simp[binOp,Op.intDiv,i], .d (.int _ _)⟩
      ·simp only[xA]at c;subst c;exact⟨_,e,by simp only[binOp,Op.intBits,ne_eq,not_true_eq_false,ya,Sem.run_pure], .d (.int _ _)⟩
      ·simp only[xA]at c;subst c;exact⟨_,e,by simp only[binOp,Op.intBits,ne_eq,not_true_eq_false,ya,Sem.run_pure], .d (.int _ _)⟩
      ·simp only[xA]at c;subst c;exact⟨_,e,by simp only[binOp,Op.intBits,ne_eq,not_true_eq_false,ya,Sem.run_pure], .d (.int _ _)⟩
      ·simp only[xA]at c;subst c;exact⟨_,e,by simp[binOp,Op.intCmp], .d (.bool _)⟩
      ·simp only[xA]at c;subst c;exact⟨_,e,by simp[binOp,Op.intCmp], .d (.bool _)⟩
      ·simp only[xA]at c;subst c;exact⟨_,e,by simp[binOp,Op.intCmp], .d (.bool _)⟩
      ·simp only[xA]at c;subst c;exact⟨_,e,by simp[binOp,Op.intCmp], .d (.bool _)⟩
      ·simp only[xA]at c;subst c;exact⟨_,e,by simp[binOp,Op.intCmp], .d (.bool _)⟩
      ·simp only[xA]at c;subst c;exact⟨_,e,by simp[binOp,Op.intCmp], .d (.bool _)⟩
      ·cases c
     ·cases c
 ·rename_i a b
  cases l with
  |d l=>
   cases l with
   |str _ m C=>
   cases j with
   |d j=>
    cases j with
    |str _ o p=>
    subst C;subst p
    have e:∀f g,(eqGuard op t f g (.string m) (.string o)).run P w= .ok () w:=by
     intro f g;cases op<;>simp[eqGuard]
    split at c
    ·split at c
     ·rename_i q
      simp only[xA]at c;subst c
      have n:¬(((m.size+o.size:Nat):Int)>IntKind.i64.max):=by
       have E:m.data.toList.length=m.size:=by simp
       have h2:o.data.toList.length=o.size:=by simp
       rw[E,h2]at q;have:IntKind.i64.max=9223372036854775807:=by decide
       rw[this];omega
      exact⟨.string (m ++o),e,by simp only[binOp,Op.stringOp,xi n,Sem.run_pure], .d (.str _ _ (by simp))⟩
     ·cases c
    all_goals first
     |(simp only[xA]at c;subst c;exact⟨_,e,by simp[binOp,Op.stringOp,nF], .d (.bool _)⟩)
     |cases c
 ·cases c
theorem kj{I:Nat→Nat→Prop}{t:TypeId}{x y:D}{b:Bool}{u v:Value}(d:Nat)(e:DRep I w x u)(f:DRep I w y v)(a:oS P t x y=some b):(Op.equalIn (d+1) t u v).run P w= .ok b w:=by
 unfold oS at a;split at a
 ·rename_i c
  split at a
  ·rename_i i
   subst i;cases a;cases e;cases f;exact run_equalIn_int w d t _ _ _ _ c
  ·cases a
 ·rename_i c
  cases a;cases e;cases f;exact run_equalIn_bool w d t _ _ c
 ·rename_i c
  cases a;cases e with
  |str _ s j=>
  cases f with
  |str _ k g=>
  rw[run_equalIn_string w d t _ _ c,ByteArray.toList_eq,ByteArray.toList_eq,j,g]
 ·cases a
theorem dX{I:Nat→Nat→Prop}(d:Nat)(vs g:Array Value):∀(fs:List Field)(i:Nat)(xs ys:List D)(b:Bool),bF P fs i xs ys=some b→
    (∀(j:Nat)(x:D),xs[j]? =some x→∃u,vs[i+j]? =some u∧DRep I w x u)→(∀(j:Nat)(x:D),ys[j]? =some x→∃u,g[i+j]? =some u∧DRep I w x u)→(Op.eqFields (d+1) vs g fs).run P w= .ok b w
 |[],i,[],[],b,c,_,_=>by
  simp only[bF,xA]at c;subst c;simp[Op.eqFields]
 |[],i,x::xs,ys,b,c,_,_=>by simp[bF]at c
 |[],i,[],y::ys,b,c,_,_=>by simp[bF]at c
 |f::fs,i,[],ys,b,c,_,_=>by simp[bF]at c
 |f::fs,i,x::xs,[],b,c,_,_=>by simp[bF]at c
 |f::fs,i,x::xs,y::ys,b,c,n,h2=>by
  rw[bF]at c;split at c;case isFalse=>cases c
  rename_i e;split at c;case h_2=>cases c
  rename_i a z q r;cases c;obtain⟨u,o,m⟩:=n 0 x rfl;obtain⟨v,p,l⟩:=h2 0 y rfl;rw[yo]at o p;have t:=kj d m l q
  have s:=dX d vs g fs (i+1) xs ys z r (fun j x k=>by
   have:=n (j+1) x k;rwa [show i+(j+1)=i+1+j by omega]at this) (fun j x k=>by
   have:=h2 (j+1) x k;rwa [show i+(j+1)=i+1+j by omega]at this)
  simp only[Op.eqFields,e.1,ne_eq,not_false_eq_true,xz,Sem.run_bind,e.2.1,er e.2.2 vs i u o,er e.2.2 g i v p,Result.andThen_ok,t];cases a with
  |false=>simp
  |true=>simpa using s
theorem gd{I:Nat→Nat→Prop}(d:Nat){e:TypeId}(r:P.cellsOf e=1)(l:gR P e=some false)(vs f:Array Value):∀(xs ys:List D)(i:Nat)(b:Bool),em P e xs ys=some b→
    (∀(j:Nat)(x:D),xs[j]? =some x→∃u,vs[i+j]? =some u∧DRep I w x u)→(∀(j:Nat)(x:D),ys[j]? =some x→∃u,f[i+j]? =some u∧DRep I w x u)→(Op.eqItems (d+1) e (P.cellsOf e) vs f (List.range' i xs.length)).run P w= .ok b w
 |[],[],i,b,c,_,_=>by
  simp only[em,xA]at c;subst c;simp[Op.eqItems]
 |[],y::ys,i,b,c,_,_=>by simp[em]at c
 |x::xs,[],i,b,c,_,_=>by simp[em]at c
 |x::xs,y::ys,i,b,c,o,h2=>by
  rw[em]at c;split at c;case h_2=>cases c
  rename_i a A k t;cases c;obtain⟨u,p,n⟩:=o 0 x rfl;obtain⟨v,q,m⟩:=h2 0 y rfl;rw[yo]at p q;have z:=kj d n m k
  have s:=gd d r l vs f xs ys (i+1) A t (fun j x g=>by
   have:=o (j+1) x g;rwa [show i+(j+1)=i+1+j by omega]at this) (fun j x g=>by
   have:=h2 (j+1) x g;rwa [show i+(j+1)=i+1+j by omega]at this)
  rw[x6,y5];rw[r]at s ⊢;simp only[Op.eqItems,Sem.run_bind,Nat.mul_one,er l vs i u p,er l f i v q,Result.andThen_ok,z];cases a with
  |false=>simp
  |true=>simpa using s
theorem qg{op:BinOp}{x y:AV}{b:Bool}{J H:Value}{t:TypeId}(r:Rep G w x J)(q:Rep G w y H)(p:zq P t x y=some b)(z:op= .eql∨op= .neq):
    (∀v A,(eqGuard op t v A J H).run P w= .ok () w)∧(binOp op t J H).run P w= .ok (.bool (if op= .eql then b else !b)) w:=by
 unfold zq at p;split at p
 ·rename_i a c C
  simp only[xA]at p;subst p;cases r with
  |d r=>
   cases r;cases q with
   |d q=>
    cases q
    have M:∀d:Nat,(Op.equalIn (d+1) t (.bool a) (.bool c)).run P w= .ok (a==c) w:=fun d=>by
     simp only[Op.equalIn,Sem.run_bind,run_underlying C,Result.andThen_ok,Sem.run_pure]
    have D:(Op.equal t (.bool a) (.bool c)).run P w= .ok (a==c) w:=M 9999;rcases z with rfl|rfl
    ·refine⟨fun v A=>by simp[eqGuard], ?_⟩
     simp only[binOp,Sem.run_bind,D,Result.andThen_ok,Sem.run_pure,xz]
    ·refine⟨fun v A=>by simp[eqGuard], ?_⟩
     simp only[binOp,Sem.run_bind,D,Result.andThen_ok,Sem.run_pure];rfl
 ·rename_i fs xs ys C
  split at p;case isFalse=>cases p
  rename_i s;cases r with
  |d r=>
  cases r with
  |agg _ vs E O m=>
  cases q with
  |d q=>
  cases q with
  |agg _ k u F l=>
  have K:P.fieldsOf t=fs:=by unfold Program.fieldsOf;rw[C]
  have f:(Op.equalIn 10000 t (.agg vs) (.agg k)).run P w= .ok b w:=by
   rw[show(10000:Nat)=9999+1 from rfl,run_equalIn_struct w 9999 t vs k (by rw[K];exact C) s.1,K];refine dX (I:=G.imm) 9998 vs k fs.toList 0 xs ys b p (fun j x o=> ?_) (fun j x o=> ?_)
   ·have g:j<vs.size:=by rw[E];exact(xD.1 o).1
    have:vs[j]? =some vs[j]:=xF g;exact⟨_,by rw[xe];exact this,m j x _ o this⟩
   ·have g:j<k.size:=by rw[u];exact(xD.1 o).1
    have:k[j]? =some k[j]:=xF g;exact⟨_,by rw[xe];exact this,l j x _ o this⟩
  refine⟨fun v A=>run_eqGuard_agg w op t v A vs k s.2, ?_⟩;rcases z with rfl|rfl
  ·rw[run_eql_struct,f];rfl
  ·rw[run_neq_struct,f];rfl
 ·rename_i n e xs ys C
  split at p;case isFalse=>cases p
  rename_i s;cases r with
  |d r=>
  cases r with
  |agg _ vs E O m=>
  cases q with
  |d q=>
  cases q with
  |agg _ k u F l=>
  obtain⟨i,L⟩:∃i,P.info? e=some i:=by
   have h:=s.2.2.1;simp only[gR,xB]at h;obtain⟨d,N,_⟩:=h;exact ep N
  have f:(Op.equalIn 10000 t (.agg vs) (.agg k)).run P w= .ok b w:=by
   rw[show(10000:Nat)=9999+1 from rfl,run_equalIn_array w 9999 vs k C L,ye,←s.1];refine gd (I:=G.imm) 9998 s.2.1 s.2.2.1 vs k xs ys 0 b p (fun j x o=> ?_) (fun j x o=> ?_)
   ·have g:j<vs.size:=by rw[E];exact(xD.1 o).1
    have:vs[j]? =some vs[j]:=xF g;exact⟨_,by rw[xe];exact this,m j x _ o this⟩
   ·have g:j<k.size:=by rw[u];exact(xD.1 o).1
    have:k[j]? =some k[j]:=xF g;exact⟨_,by rw[xe];exact this,l j x _ o this⟩
  refine⟨fun v A=>run_eqGuard_agg w op t v A vs k s.2.2.2, ?_⟩;rcases z with rfl|rfl
  ·rw[run_eql_struct,f];rfl
  ·rw[run_neq_struct,f];rfl
 ·cases p
theorem oY{x y:AV}{b:Bool}{z u:Value}{t e:TypeId}(f:Rep G w x z)(c:Rep G w y u)(o:P.underlying t=some (.pointer e))(g:tr P e x y=some b):
    ∃p q,z= .pointer p∧u= .pointer q∧∀d:Nat,(Op.equalIn (d+1) t (.pointer p) (.pointer q)).run P w= .ok b w:=by
 have m:∀(q:Option Addr)(d:Nat),(Op.equalIn (d+1) t (.pointer none) (.pointer q)).run P w= .ok q.isNone w:=fun q d=>by
  simp only[Op.equalIn,Sem.run_bind,run_underlying o,Result.andThen_ok,Sem.run_pure]
 have s:∀(a:Addr)(d:Nat),(Op.equalIn (d+1) t (.pointer (some a)) (.pointer none)).run P w= .ok false w:=fun a d=>by
  simp only[Op.equalIn,Sem.run_bind,run_underlying o,Result.andThen_ok,Sem.run_pure]
 unfold tr at g;split at g
 ·cases g;cases f with|d f=>cases f;cases c with|d c=>cases c;exact⟨_,_,rfl,rfl,m none⟩
 ·cases g;cases f;cases c with|d c=>cases c;exact⟨_,_,rfl,rfl,s _⟩
 ·cases g;cases f with|d f=>cases f;cases c;exact⟨_,_,rfl,rfl,m _⟩
 ·cases g;cases f with|d f=>cases f;cases c with|d c=>cases c;exact⟨_,_,rfl,rfl,s _⟩
 ·cases g;cases f with|d f=>cases f;cases c with|d c=>cases c;exact⟨_,_,rfl,rfl,m _⟩
 ·split at g
  ·rename_i k v i H sz N I M A C F
   obtain⟨rfl,rfl,D,n,K⟩:=F;cases g;cases f with
   |ptr _ _ _ _ L E=>
   cases c with
   |ptr _ _ _ _ J l=>
   rw[E]at l;cases l;refine⟨_,_,rfl,rfl,fun d=> ?_⟩;unfold bp at n;cases r:P.info? e with
   |none=>rw[r]at n;cases n
   |some j=>
    rw[D];simp only[Op.equalIn,Sem.run_bind,run_underlying o,Result.andThen_ok,Sem.run_pure];simp[sizeOf,typeInfo,r,sameAddr]
  ·cases g
 ·cases g
theorem kk{op:BinOp}{r s:Operand}{x y:AV}{b:Bool}{o n:Value}{t:TypeId}(i:Rep G w x o)(f:Rep G w y n)(g:rB P t r s x y=some b)(c:op= .eql∨op= .neq):
    (eqGuard op t r s o n).run P w= .ok () w∧(binOp op t o n).run P w= .ok (.bool (if op= .eql then b else !b)) w:=by
 unfold rB at g;split at g
 ·rename_i u v j
  simp only[xA]at g;subst g;cases i with
  |d i=>
  cases i;cases f with
  |d f=>
  cases f
  have k:∀d:Nat,(Op.equalIn (d+1) t .nilIface .nilIface).run P w= .ok true w:=fun d=>by
   simp only[Op.equalIn,Sem.run_bind,run_underlying j,Result.andThen_ok,Sem.run_pure]
  have a:(Op.equal t .nilIface .nilIface).run P w= .ok true w:=k 9999;refine⟨?_, ?_⟩
  ·cases r<;>cases s<;>first
     |(simp[tq]at v;done)
     |(rcases c with rfl|rfl<;>simp[eqGuard])
  ·rcases c with rfl|rfl
   ·simp only[binOp,Sem.run_bind,a,Result.andThen_ok,Sem.run_pure,xz]
   ·simp only[binOp,Sem.run_bind,a,Result.andThen_ok,Sem.run_pure]
    rfl
 ·rename_i u v j
  simp only[xA]at g;subst g;cases i with
  |d i=>
  cases i with
  |ifc m l=>
  cases f with
  |d f=>
  cases f
  have k:∀d:Nat,(Op.equalIn (d+1) t (.iface m l) .nilIface).run P w= .ok false w:=fun d=>by
   simp only[Op.equalIn,Sem.run_bind,run_underlying j,Result.andThen_ok,Sem.run_pure]
  have a:(Op.equal t (.iface m l) .nilIface).run P w= .ok false w:=k 9999;refine⟨?_, ?_⟩
  ·rcases c with rfl|rfl<;>simp[eqGuard]
  ·rcases c with rfl|rfl
   ·simp only[binOp,Sem.run_bind,a,Result.andThen_ok,Sem.run_pure,xz]
   ·simp only[binOp,Sem.run_bind,a,Result.andThen_ok,Sem.run_pure]
    rfl
 ·rename_i u m A j
  simp only[xA]at g;subst g;cases i with
  |iv _ l _=>
  cases f with
  |d f=>
  cases f
  have k:∀d:Nat,(Op.equalIn (d+1) t (.iface m l) .nilIface).run P w= .ok false w:=fun d=>by
   simp only[Op.equalIn,Sem.run_bind,run_underlying j,Result.andThen_ok,Sem.run_pure]
  have a:(Op.equal t (.iface m l) .nilIface).run P w= .ok false w:=k 9999;refine⟨?_, ?_⟩
  ·rcases c with rfl|rfl<;>simp[eqGuard]
  ·rcases c with rfl|rfl
   ·simp only[binOp,Sem.run_bind,a,Result.andThen_ok,Sem.run_pure,xz]
   ·simp only[binOp,Sem.run_bind,a,Result.andThen_ok,Sem.run_pure]
    rfl
 ·rename_i e j
  obtain⟨p,q,rfl,rfl,k⟩:∃p q,o= .pointer p∧n= .pointer q∧∀d:Nat,(Op.equalIn (d+1) t (.pointer p) (.pointer q)).run P w= .ok b w:=oY i f j g;have a:(Op.equal t (.pointer p) (.pointer q)).run P w= .ok b w:=k 9999;refine⟨?_, ?_⟩
  ·rcases c with rfl|rfl<;>simp[eqGuard]
  ·rcases c with rfl|rfl
   ·simp only[binOp,Sem.run_bind,a,Result.andThen_ok,Sem.run_pure,xz]
   ·simp only[binOp,Sem.run_bind,a,Result.andThen_ok,Sem.run_pure]
    rfl
 ·obtain⟨z,h2⟩:=qg i f g c
  exact⟨z r s,h2⟩
theorem qh{op:UnOp}{x r:AV}{c:Value}(a:Rep G w x c)(b:zr op x=some r):∃v,(Op.unary op c).run P w= .ok v w∧Rep G w r v:=by
 unfold zr at b;split at b
 ·simp only[xA]at b;subst b
  cases a with
  |d a=>cases a;exact⟨_,by simp[Op.unary], .d (.bool _)⟩
 ·simp only[xA]at b;subst b
  cases a with
  |d a=>cases a;exact⟨_,by simp only[Op.unary,Op.intArith,Sem.run_pure], .d (.int _ _)⟩
 ·simp only[xA]at b;subst b
  cases a with
  |d a=>cases a;exact⟨_,by simp only[Op.unary,Op.intBits,Sem.run_pure], .d (.int _ _)⟩
 ·cases b
theorem kG{a dst:TypeId}{x r:AV}{g:Value}(c:Rep G w x g)(b:jK P a dst x=some r):∃v,(convert a dst g).run P w= .ok v w∧Rep G w r v:=by
 unfold jK at b;split at b
 ·rename_i j k i n e f
  simp only[xA]at b;subst b;cases c with
  |d c=>cases c;exact⟨_,by simp[convert,run_underlying e,run_underlying f,Conv.intToInt], .d (.int _ _)⟩
 ·cases b
theorem oZ{x:AV}{f:Value}{n:Nat}(e:Rep G w x f)(b:ts x=some n):∃a c,f= .slice a n c:=by
 unfold ts at b;split at b
 ·rename_i l
  simp only[xA]at b;subst b;cases e with
  |d e=>cases e<;>exact⟨_,_,rfl⟩
 ·simp only[xA]at b;subst b
  cases e<;>exact⟨_,_,rfl⟩
 ·simp only[xA]at b;subst b;cases e;exact⟨_,_,rfl⟩
 ·simp only[xA]at b;subst b;cases e;exact⟨_,_,rfl⟩
 ·simp only[xA]at b;subst b
  cases e<;>exact⟨_,_,rfl⟩
 ·cases b
theorem o0{t:TypeId}{x:AV}{i:Value}{out:Out}(f:Rep G w x i)(b:tt P t x=some out):out.ob=[]∧out.wr=[]∧∃v,(∀ty,(Builtin.len_ #[t] ty #[i]).run P w= .ok v w)∧Rep G w out.val v:=by
 unfold tt at b;split at b
 ·rename_i e g
  split at b
  ·rename_i n j
   simp only[xA]at b;subst b;obtain⟨a,c,rfl⟩:=oZ f j;exact⟨rfl,rfl,_,fun ty=>by simp[Builtin.len_,run_underlying g,goInt], .d (.int _ _)⟩
  ·cases b
 ·rename_i g
  split at b
  ·simp only[xA]at b;subst b
   cases f with
   |d f=>
    cases f with
    |str _ s h=>subst h;exact⟨rfl,rfl,_,fun ty=>by simp[Builtin.len_,run_underlying g,goInt], .d (.int _ _)⟩
  ·cases b
 ·cases b
theorem gg{i:Bool}{x y:AV}{e c:Value}{out:Out}(f:Rep G w x e)(g:Rep G w y c)(a:iR i x y=some out):
    out.ob=[]∧out.wr=[]∧∃v,(∀b ty,(if i then Builtin.max_ b ty #[e,c]else Builtin.min_ b ty #[e,c]).run P w= .ok v w)∧Rep G w out.val v:=by
 unfold iR at a;split at a
 ·simp only[xA]at a;subst a
  cases f with
  |d f=>
   cases f;cases g with
   |d g=>
    cases g;cases i
    ·exact⟨rfl,rfl,_,fun b ty=>by simp[Builtin.min_,Builtin.min2], .d (.int _ _)⟩
    ·exact⟨rfl,rfl,_,fun b ty=>by simp[Builtin.max_,Builtin.max2], .d (.int _ _)⟩
 ·cases a
end
end Go.Avm
namespace Go.Avm
open Go.RowKit
variable[ap]
section
variable{P:Program}{G:Gh}{B:Nat}{w0 w:World}{I0:Nat→Nat→Prop}{h:aa}
theorem iq{n:Int}(b:0≤n)(a:n<9223372036854775808):IntKind.i64.wrap n=n:=by
 unfold IntKind.wrap;simp[IntKind.bits,IntKind.signed];omega
theorem o3{e:TypeId}{j:AV}(b:nL P e=some j):∃z,bC P e=some z∧z.cells.size=j.cells.length∧(∀(i:Nat)(u:Value),z.cells[i]? =some u→u.oneCell'=true)∧
    ∀(i:Nat)(c:AV)(u:Value),j.cells[i]? =some c→z.cells[i]? =some u→Rep G w c u:=by
 unfold nL at b;split at b
 ·rename_i cs k
  simp only[xB]at b;obtain⟨l,n,rfl⟩:=b;obtain⟨d,h2,m⟩:=dk (G:=G) (w:=w) n;exact⟨_,k,by rw[dR];exact d,h2,fun i c u g a=>m i c u (by rwa [dR]at g) a⟩
 ·rename_i z o k
  split at b
  ·rename_i d
   simp only[xA]at b;subst b;have f:(sy z).lone=true:=(iV (G:=G) (w:=w) z).lone d;refine⟨z,k,by rw[cP d,AV.cells_lone f];rfl,fun i u a=> ?_,fun i c u g a=> ?_⟩
   ·rw[cP d]at a
    cases i with
    |zero=>simp at a;subst a;exact d
    |succ i=>simp at a
   ·rw[cP d]at a
    rw[AV.cells_lone f]at g;cases i with
    |zero=>simp at a g;subst a;subst g;exact iV z
    |succ i=>simp at a
  ·cases b
 ·cases b
theorem gL{e:TypeId}{z:Value}(b:bC P e=some z):∃i,P.info? e=some i∧i.zero=some z∧P.cellsOf e=i.size∧P.bytesOf e=i.bytes:=by
 unfold bC at b;cases a:P.info? e with
 |none=>simp[a]at b
 |some i=>
  simp only[a,xh]at b;exact⟨i,rfl,b,by simp[Program.cellsOf,a],by simp[Program.bytesOf,a]⟩
theorem i4(hr:HR G B w0 I0 h w){t:TypeId}{l c:AV}{vl vc:Value}(T:Rep G w l vl)(hc:Rep G w c vc){k:Nat}{out:Out}(p:bI P t l c k h=some out):
    out.ob=[]∧∃v N G',(Instr.makeSlice t vl vc).run P w= .ok v N∧Ext G w G' N∧HR G' B w0 I0 (ae h out.wr) N∧Rep G' N out.val v:=by
 unfold bI at p;split at p
 ·rename_i e l c hu
  split at p
  ·rename_i zA U
   split at p
   ·rename_i I
    obtain⟨h0,h1,h2,E,r,hpos,S⟩:=I;simp only[xA]at p;subst p;obtain⟨z,hz,hzs,hz1,hzr⟩:=o3 (G:=G) (w:=w) U;obtain⟨O,F,R,W,Y⟩:=gL hz;cases T with
    |d T=>
     cases T;cases hc with
     |d hc=>
      cases hc;obtain⟨o,rfl⟩:=Int.eq_ofNat_of_zero_le h0;obtain⟨a,rfl⟩:=Int.eq_ofNat_of_zero_le (show 0≤c by omega);have hwl:=iq (n:=(o:Int)) (by omega) (by omega);have hwc:=iq (n:=(a:Int)) (by omega) (by omega)
      have hb:¬(281474976710656<(O.bytes:Int)*(a:Int)):=by
       rw[Y]at E;have h5:O.bytes*a≤256*1099511627776:=Nat.mul_le_mul E (by omega);have h6:((O.bytes*a:Nat):Int)≤281474976710656:=by omega
       rw[Int.natCast_mul]at h6;omega
      have f:¬((a:Int)<0):=by omega
      have g:¬((o:Int)<0):=by omega
      have K:z.cells.size=P.cellsOf e:=by rw[hzs,r]
      have m:∃arr:Array Value,(Instr.makeSlice t (.int .i64 o) (.int .i64 a)).run P w= .ok (.slice (some ⟨w.heap.size,0,none⟩) o a) (w.alloc (.cells arr e))∧arr.size=a*P.cellsOf e∧
          ∀i j,i<a→j<P.cellsOf e→arr[i*P.cellsOf e+j]? =z.cells[j]? :=by
       by_cases H:a*P.cellsOf e=0
       ·have f:a=0:=by
          rcases Nat.mul_eq_zero.1 H with h|h
          ·exact h
          ·omega
        subst f;have g:o=0:=by omega
        subst g;refine⟨#[], ?_,by simp,by omega⟩;have A:Array.map (fun _:Nat=>(default:Value)) (Array.range 0)= #[]:=by simp
        have V:IntKind.i64.wrap 0=0:=iq (by omega) (by omega);simp[Instr.makeSlice,run_underlying hu,asInt,asIntOf,typeInfo,F,sizeOf,newRow,V,A]
       ·refine⟨(Array.range (a*P.cellsOf e)).map (fun i=>z.cells[i % z.cells.size]!), ?_,by simp,fun i j hi Z=> ?_⟩
        ·have q:¬(a=0):=by rintro rfl;simp at H
         have M:¬(O.size=0):=by omega
         have hlc:¬((a:Int)<(o:Int)):=by omega
         simp[Instr.makeSlice,run_underlying hu,asInt,asIntOf,typeInfo,F,sizeOf,newRow,hwl,hwc,hb,hlc,f,g,zeroValue,R,q,M,W];intro A;rcases Nat.mul_eq_zero.1 A with A|A
         ·exact absurd A q
         ·exact absurd A M
        ·have X:i*P.cellsOf e+j<a*P.cellsOf e:=by
           have:(i+1)*P.cellsOf e≤a*P.cellsOf e:=yF _ hi;rw[yN,Nat.one_mul]at this;omega
         have L:(i*P.cellsOf e+j) % z.cells.size=j:=by
          rw[K,Nat.mul_comm,Nat.mul_add_mod,Nat.mod_eq_of_lt Z]
         have y:j<z.cells.size:=by omega
         rw[yb,Array.getElem?_range,xW X,xP,L];simp[y]
      obtain⟨arr,m,has,Q⟩:=m
      have b:∀(s:Nat)(c:AV),(AV.flat (List.replicate o zA))[s]? =some c→∃u:Value,arr[s]? =some u∧u.oneCell'=true∧Rep G w c u:=by
       intro s c hs;obtain⟨i,j,e',rfl,Z,J,hc'⟩:=cX (sz:=P.cellsOf e) (fun x D=>by rw[(List.mem_replicate.1 D).2];exact r) hs
       have hi:i<o:=by
        have:=(xD.1 J).1;simpa using this
       have he2:e'=zA:=(List.mem_replicate.1 (xS J)).2;subst he2;have y:j<z.cells.size:=by omega
       have C:z.cells[j]? =some z.cells[j]:=xF y;exact⟨_,by rw[Q i j (by omega) Z,C],hz1 j _ C,hzr j c _ hc' C⟩
      obtain⟨g1,g2⟩:=hr.newOb k (P.cellsOf e) a (List.replicate o zA) arr e has (by simp;omega) (fun x D=>by rw[(List.mem_replicate.1 D).2];exact r) (fun h1 x D=>by rw[(List.mem_replicate.1 D).2];exact S h1) b;refine⟨rfl,_,_,_,m,g2,g1, ?_⟩;have:=Rep.sl (w:=w.alloc (.cells arr e)) k ((h k).ver+1) 0 o a _ (Gh.at_same G k ((h k).ver+1) ⟨w.heap.size,P.cellsOf e,a,0,e⟩) (by simp) (by omega);simpa using this
   ·cases p
  ·cases p
 ·cases p
theorem bi{g:Option AV}{b:Option Value}{c n:Nat}(a:bZ g c=some n)(f:∀x,g=some x→∃v,b=some v∧Rep G w x v)(e:g=none→b=none):
    (b=none∧n=c)∨(∃k i,b=some (.int k i)∧0≤i∧i.toNat=n):=by
 unfold bZ at a;split at a
 ·simp only[xA]at a
  exact .inl ⟨e rfl,a.symm⟩
 ·rename_i k i
  split at a
  ·rename_i j
   simp only[xA]at a;obtain⟨v,m,l⟩:=f _ rfl;cases l with
   |d o=>cases o;exact .inr ⟨k,i,m,j,a⟩
  ·cases a
 ·cases a
theorem dA{k:IntKind}{i:Int}{y:Nat}{code:BoundsCode}(a:0≤i)(b:i.toNat≤y)(w:World):(Instr.sliceBound (.int k i) y code).run P w= .ok i.toNat w:=by
 have:0≤i∧i≤(y:Int):=⟨a,by omega⟩
 simp[Instr.sliceBound,asIntOf,this]
theorem bH{isSlice:Bool}{f cap a b:Nat}{d c:Option Value}(m:(d=none∧a=0)∨(∃k i,d=some (.int k i)∧0≤i∧i.toNat=a))(l:(c=none∧b=f)∨(∃k i,c=some (.int k i)∧0≤i∧i.toNat=b))
    (e:a≤b) (j:b≤cap) (w:World):(Instr.sliceBounds isSlice f cap d c none).run P w= .ok (a,b,cap) w:=by
 rcases m with ⟨rfl,rfl⟩|⟨k,i,rfl,n,rfl⟩<;>rcases l with ⟨rfl,rfl⟩|⟨p,o,rfl,g,rfl⟩
 ·simp[Instr.sliceBounds]
 ·simp[Instr.sliceBounds,dA g j]
 ·simp[Instr.sliceBounds,dA n e]
 ·simp[Instr.sliceBounds,dA g j,dA n e]
theorem vH{l:List D}{a b i:Nat}{y:D}(c:((l.take b).drop a)[i]? =some y):l[a+i]? =some y∧a+i<b:=by
 rw[xo,xl]at c;split at c
 ·rename_i h;exact⟨c,h⟩
 ·cases c
theorem mR{t:TypeId}{x:AV}{vx:Value}{lo Z mx:Option AV}{C H A:Option Value}(R:Rep G w x vx)
    (J:∀x,lo=some x→∃v,C=some v∧Rep G w x v) (p:lo=none→C=none) (E:∀x,Z=some x→∃v,H=some v∧Rep G w x v) (q:Z=none→H=none)
    (hmx:∀x,mx=some x→∃v,A=some v∧Rep G w x v) (N:mx=none→A=none) {out:Out} (f:fp P t x lo Z mx=some out):
    out.ob=[]∧out.wr=[]∧∃v,(Instr.sliceAt t vx C H A).run P w= .ok v w∧Rep G w out.val v:=by
 unfold fp at f;split at f
 ·rename_i e I
  split at f
  ·cases f
  ·rename_i n
   have n:bp P e=true:=by simpa using n
   split at f
   ·have hm:A=none:=N rfl
    subst hm
    have slc:∀(l:List D),DRep G.imm w (.ro l) vx→(match bZ lo 0,bZ Z l.length with
        |some a,some b=>if a≤b∧b≤l.length∧(a=0∨l.all (fun y=>y.cells.length==P.cellsOf e)=true)then some ({val:= .d (.ro ((l.take b).drop a))}:Out)else none
        |_,_=>none)=some out→out.ob=[]∧out.wr=[]∧∃v,(Instr.sliceAt t vx C H none).run P w= .ok v w∧Rep G w out.val v:=by
     intro l hd hh;split at hh
     ·rename_i a b V T
      split at hh
      ·rename_i r
       obtain⟨r,hbl,hall⟩:=r;simp only[xA]at hh;subst hh;have u:=bi V J p;have z:=bi T E q;cases hd with
       |roNil M c=>
        have hb0:b=0:=by simpa using hbl
        subst hb0;have ha0:a=0:=by omega
        subst ha0;have g:=bH (P:=P) (isSlice:=true) (cap:=c) u z (by omega) (by omega) w;have hrb':(Instr.sliceBounds true 0 c C H none).run P w= .ok (0,0,c) w:=by simpa using g
        refine⟨rfl,rfl, .slice (if c=0 then M else M.map (·.add (0*P.cellsOf e))) (0-0) (c-0), ?_, ?_⟩
        ·simp[Instr.sliceAt,Instr.slice,run_underlying I,hrb',aO n]
        ·simpa using Rep.d (G:=G) (w:=w) (.roNil (if c=0 then M else M.map (·.add 0)) c)
       |ro _ b' o c sz U hcap O h1 hi' hc hr'=>
        have g:=bH (P:=P) (isSlice:=true) (cap:=c) u z r (by omega) w;have Y:((l.take b).drop a).length=b-a:=by simp;omega
        refine⟨rfl,rfl, .slice (if c=a then some ⟨b',o,none⟩else some ⟨b',o+a*P.cellsOf e,none⟩) (b-a) (c-a), ?_, ?_⟩
        ·by_cases hca:c=a
         ·rw[hca]at g ⊢
          simp[Instr.sliceAt,Instr.slice,run_underlying I,g,aO n]
         ·simp[Instr.sliceAt,Instr.slice,run_underlying I,g,aO n,hca,bL]
        ·by_cases hba0:b-a=0
         ·have hnil:(l.take b).drop a=[]:=xQ (by omega)
          rw[hnil,hba0];exact .d (.roNil _ _)
         ·rw[xi (by omega)]
          have K:∀e∈(l.take b).drop a,e∈l:=fun e he=>xy (yO he)
          have hfl:∀(s:Nat)(c:D),(D.flat ((l.take b).drop a))[s]? =some c→(D.flat l)[a*sz+s]? =some c:=by
           intro s c hs;obtain⟨i,j,e',rfl,hj,he',hc'⟩:=cX (fun e he=>O e (K e he)) hs;obtain⟨h5,_⟩:=vH he';have:a*sz+(i*sz+j)=(a+i)*sz+j:=by rw[yN];omega
           rw[this,D.flat,aW _ sz l O _ j hj,h5,xh,hc']
          have hszP:a=0∨sz=P.cellsOf e:=by
           rcases hall with h0|h0
           ·exact .inl h0
           ·right
            have hlt:0<l.length:=by omega
            have hm0:=yc hlt;have h7:=xY.1 h0 _ hm0;rw[←O _ hm0];simpa using h7
          have haddr:o+a*P.cellsOf e=o+a*sz:=by
           rcases hszP with rfl|rfl
           ·simp
           ·rfl
          rw[haddr,←Y];refine .d (.ro _ b' (o+a*sz) (c-a) sz (fun s=>U (a*sz+s)) (by omega) (fun e he=>O e (K e he)) (fun e he=> ?_) ?_ ?_ ?_)
          ·obtain⟨y,hy,hc'⟩:=List.mem_flatMap.1 he
           exact h1 e (List.mem_flatMap.2 ⟨y,K y hy,hc'⟩)
          ·intro s c hs;have:=hi' _ c (hfl s c hs);rwa [←yK]at this
          ·intro s c hs;have:=hc _ c (hfl s c hs);rwa [←yK]at this
          ·intro s c hs;exact hr' _ c (hfl s c hs)
      ·cases hh
     ·cases hh
    split at f
    ·exact slc _ R.toDRep f
    ·rename_i k ver sz l
     refine slc l ?_ f;cases R with
     |vecNil=>exact .roNil _ _
     |vec _ _ _ L hL hfr Y O hd=>exact hd
    ·split at f
     ·rename_i V T
      simp only[xA]at f;subst f;cases R;have g:=bH (P:=P) (isSlice:=true) (cap:=0) (bi V J p) (bi T E q) (by omega) (by omega) w;exact⟨rfl,rfl, .slice none 0 0,by simp[Instr.sliceAt,Instr.slice,run_underlying I,g,aO n], .nils⟩
     ·cases f
    ·rename_i k v off len sz0
     split at f
     ·rename_i a b V T
      split at f
      ·rename_i r
       obtain⟨rfl,hbl⟩:=r;simp only[xA]at f;subst f;have u:=bi V J p;have z:=bi T E q;cases R with
       |slNil=>
        have hb0:b=0:=by omega
        subst hb0;have g:=bH (P:=P) (isSlice:=true) (cap:=0) u z (by omega) (by omega) w;rename_i M;cases M with
        |none=>exact⟨rfl,rfl, .slice none 0 0,by simp[Instr.sliceAt,Instr.slice,run_underlying I,g,aO n], .slNil _ _ _ _⟩
        |some a=>exact⟨rfl,rfl, .slice (some a) 0 0,by simp[Instr.sliceAt,Instr.slice,run_underlying I,g,aO n], .slNil _ _ _ _⟩
       |sl _ _ _ _ c L hL hcap hlc=>
        have g:=bH (P:=P) (isSlice:=true) (cap:=c) u z (by omega) (by omega) w;refine⟨rfl,rfl, .slice (some ⟨L.b,off*L.sz,none⟩) b c, ?_, .sl k v off b c L hL hcap (by omega)⟩;by_cases hc0:c=0
        ·subst hc0
         simp[Instr.sliceAt,Instr.slice,run_underlying I,g,aO n]
        ·simp[Instr.sliceAt,Instr.slice,run_underlying I,g,aO n,hc0,bL]
      ·cases f
     ·cases f
    ·cases f
   ·rename_i m
    have Q:∀(M:Option Addr)(len cap:Nat),vx= .slice M len cap→bZ lo 0=some 0→bZ Z 0=some 0→bZ (some m) 0=some 0→({val:= .es}:Out)=out→Z≠none→
        out.ob=[]∧out.wr=[]∧∃v,(Instr.sliceAt t vx C H A).run P w= .ok v w∧Rep G w out.val v:=by
     rintro M len cap rfl V T hm rfl F;have hmb:=bi hm hmx N;have z:=bi T E q;have u:=bi V J p;rcases hmb with ⟨hmn,_⟩|⟨km,im,rfl,him,him0⟩
     ·obtain⟨v,hv,_⟩:=hmx _ rfl;rw[hmn]at hv;cases hv
     ·rcases z with ⟨hbn,_⟩|⟨kb,ib,rfl,hib,hib0⟩
      ·cases Z with
       |none=>exact absurd rfl F
       |some y=>obtain⟨v,hv,_⟩:=E _ rfl;rw[hbn]at hv;cases hv
      ·have e1:∀code y,(Instr.sliceBound (.int km im) y code).run P w= .ok 0 w:=fun code y=>by rw[dA him (by omega)];rw[him0]
       have e2:∀code y,(Instr.sliceBound (.int kb ib) y code).run P w= .ok 0 w:=fun code y=>by rw[dA hib (by omega)];rw[hib0]
       refine⟨rfl,rfl, .slice M 0 0, ?_, .es M⟩;rcases u with ⟨rfl,_⟩|⟨ka,ia,rfl,hia,hia0⟩
       ·simp[Instr.sliceAt,Instr.slice,run_underlying I,Instr.sliceBounds,e1,e2,aO n]
       ·have e3:∀code y,(Instr.sliceBound (.int ka ia) y code).run P w= .ok 0 w:=fun code y=>by rw[dA hia (by omega)];rw[hia0]
        simp[Instr.sliceAt,Instr.slice,run_underlying I,Instr.sliceBounds,e1,e2,e3,aO n]
    split at f
    ·rename_i hb4
     obtain⟨W,X,S,hb4⟩:=hb4;have F:Z≠none:=by rintro rfl;simp at hb4
     split at f
     ·simp only[xA]at f
      cases R with
      |d hd=>cases hd<;>exact Q _ _ _ rfl W X S f F
     ·simp only[xA]at f
      cases R<;>exact Q _ _ _ rfl W X S f F
     ·simp only[xA]at f
      cases R<;>exact Q _ _ _ rfl W X S f F
     ·simp only[xA]at f
      cases R;exact Q _ _ _ rfl W X S f F
     ·cases f
    ·cases f
 ·rename_i I
  split at f
  ·rename_i s
   have hm:A=none:=N rfl;subst hm;cases R with
   |d hd=>
    cases hd with
    |str _ sb hsb=>
    subst hsb;rw[show sb.data.toList.length=sb.size by simp]at f;split at f
    ·rename_i a b V T
     split at f
     ·rename_i r
      simp only[xA]at f;subst f;have g:=bH (P:=P) (isSlice:=false) (cap:=sb.size) (bi V J p) (bi T E q) r.1 r.2 w;exact⟨rfl,rfl, .string (sb.extract a b),by simp[Instr.sliceAt,Instr.slice,run_underlying I,g], .d (.str _ _ (by rw[ByteArray.data_extract,Array.toList_extract,List.extract_eq_take_drop,List.drop_take]))⟩
     ·cases f
    ·cases f
  ·cases f
 ·cases f
end
end Go.Avm
