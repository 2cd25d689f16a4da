/-
  The abstract machine, part E: what a value stands for as data (with and without a look at the heap); new blocks; stores.
-/
import Derived.Test.YtcjiafanhlhdlaaGreatDoorG01
import Derived.Laws.StructEq
import Derived.ChangeKeysEq
set_option linter.unusedVariables false
set_option linter.unusedSimpArgs false
set_option linter.unusedSectionVars false
namespace Go.Avm
open Go.RowKit
variable[aH]
section
variable{P:Program}{G:Gh}{B:Nat}{w0 w:World}{I0:Nat→Nat→Prop}{h:aa}
theorem DRep.one_of{imm:Nat→Nat→Prop}{x:D}{v:Value}(a:DRep imm w x v)(b:v.oneCell'=true):x.one=true:=by
 cases a<;>first|rfl|(simp[Value.oneCell']at b)
theorem DRep.cells{imm:Nat→Nat→Prop}{x:D}{v:Value}(r:DRep imm w x v):x.cells.length=v.cells.size∧(∀c∈x.cells,c.one=true)∧
    ∀(i:Nat)(c:D)(u:Value),x.cells[i]? =some c→v.cells[i]? =some u→DRep imm w c u:=by
 have a:∀(y:D)(u:Value),DRep imm w y u→y.one=true→y.cells=[y]→u.cells= #[u]→
     y.cells.length=u.cells.size∧(∀c∈y.cells,c.one=true)∧∀(i:Nat)(c:D)(t:Value),y.cells[i]? =some c→u.cells[i]? =some t→DRep imm w c t:=by
  intro y u g e A z;rw[A,z];refine⟨rfl,fun t f=> ?_,fun i c t d f=> ?_⟩
  ·simp at f;subst f;exact e
  ·cases i with
   |zero=>simp at d f;subst d;subst f;exact g
   |succ i=>simp at d
 cases r with
 |agg cs vs C e h=>exact⟨by simp[D.cells,Value.cells,C],e,h⟩
 |bool b=>exact a _ _ (.bool b) rfl rfl rfl
 |int k n=>exact a _ _ (.int k n) rfl rfl rfl
 |str l s h=>exact a _ _ (.str l s h) rfl rfl rfl
 |nilp=>exact a _ _ .nilp rfl rfl rfl
 |nili=>exact a _ _ .nili rfl rfl rfl
 |ifc t v=>exact a _ _ (.ifc t v) rfl rfl rfl
 |roNil q c=>exact a _ _ (.roNil q c) rfl rfl rfl
 |ro l b o c sz U j p e m d g=>exact a _ _ (.ro l b o c sz U j p e m d g) rfl rfl rfl
 |rp cs b o U e m d g=>exact a _ _ (.rp cs b o U e m d g) rfl rfl rfl
theorem eZ{v:Value}(a:v.oneCell'=true):v.cells= #[v]:=by cases v<;>first|rfl|(simp[Value.oneCell']at a)
theorem Rep.of_cells{e:AV}(l:Nat→Value)(m:∀(j:Nat)(c:AV),e.cells[j]? =some c→(l j).oneCell'=true∧Rep G w c (l j)):
    ∃v,Rep G w e v∧v.cells.size=e.cells.length∧∀j,j<e.cells.length→v.cells[j]? =some (l j):=by
 by_cases r:e.lone=true
 ·have f:=AV.cells_lone r
  obtain⟨p,h2⟩:=m 0 e (by simp[f]);refine⟨l 0,h2,by rw[eZ p,f];rfl,fun j o=> ?_⟩;rw[f]at o;have:j=0:=by simp at o;omega
  subst this;rw[eZ p];rfl
 ·have q:∀n,∃vs:Array Value,vs.size=n∧∀j,j<n→vs[j]? =some (l j):=fun n=>⟨((List.range n).map l).toArray,by simp,fun j o=>by simp[List.getElem?_range o]⟩
  obtain⟨vs,k,g⟩:=q e.cells.length;refine⟨.agg vs, ?_,by simp[Value.cells,k],by simpa [Value.cells]using g⟩;cases e with
  |agg cs=>
   refine .agg cs vs (by simpa [AV.cells]using k) (fun i u b=> ?_) (fun i c u f b=> ?_)
   ·have a:i<vs.size:=(xR.1 b).1
    rw[k]at a;rw[g i a]at b;simp only[xA]at b;subst b;exact(m i _ (xD a)).1
   ·have a:i<(AV.agg cs).cells.length:=(xC.1 f).1
    rw[g i a]at b;simp only[xA]at b;subst b;exact(m i c f).2
  |d y=>
   cases y with
   |agg cs=>
    refine .d (.agg cs vs (by simpa [AV.cells]using k) (fun c f=> ?_) (fun i c u f b=> ?_))
    ·obtain⟨i,b⟩:=xg f
     obtain⟨p,h2⟩:=m i (.d c) (by simp[AV.cells,b]);exact h2.toDRep.one_of p
    ·have a:i<(AV.d (.agg cs)).cells.length:=by simp[AV.cells];exact(xC.1 f).1
     rw[g i a]at b;simp only[xA]at b;subst b;exact(m i (.d c) (by simp[AV.cells,f])).2.toDRep
   |_=>simp[AV.lone]at r
  |_=>simp[AV.lone]at r
theorem iO{n:Nat}:∀{xs:List AV}{ys:List D}{ks:List Nat},view.go n h xs=some (ys,ks)→ys.length=xs.length∧
    ∀(i:Nat)(x:AV),xs[i]? =some x→∃y e,ys[i]? =some y∧view n h x=some (y,e)∧∀k∈e,k∈ks
 |[],ys,ks,c=>by simp[ej]at c;obtain⟨rfl,rfl⟩:=c;simp
 |x::r,ys,ks,c=>by
  simp only[ej]at c;split at c
  ·rename_i a b l m
   simp only[xA,xE]at c;obtain⟨rfl,rfl⟩:=c;obtain⟨o,g⟩:=iO (ys:=b.1) (ks:=b.2) m;refine⟨by simp[o],fun i j d=> ?_⟩;cases i with
   |zero=>
    simp only[xj,xA]at d;subst d;exact⟨a.1,a.2,rfl,l,fun k f=>yK _ f⟩
   |succ i=>
    simp only[yh]at d;obtain⟨y,e,q,h2,p⟩:=g i j d;exact⟨y,e,by simpa using q,h2,fun k f=>ye _ (p k f)⟩
  ·cases c
def dp(G:Gh)(h:aa)(ks:List Nat):Nat→Nat→Prop:=fun b o=>G.imm b o∨qy G h ks b o
theorem hF{ks a:List Nat}(c:∀k∈ks,k∈a):∀b o,dp G h ks b o→dp G h a b o:=by
 rintro b o (x|⟨k,f,L,d,e⟩)
 ·exact .inl x
 ·exact .inr ⟨k,c k f,L,d,e⟩
theorem D.flat_len{l:List D}{sz:Nat}(a:∀e∈l,e.cells.length=sz):(D.flat l).length=l.length*sz:=cG _ sz l a
theorem fg{k m:Type}{f:k→List m}{sz:Nat}{l:List k}(p:∀e∈l,(f e).length=sz){t:Nat}{c:m}(a:(l.flatMap f)[t]? =some c):
    ∃i j e,t=i*sz+j∧j<sz∧l[i]? =some e∧(f e)[j]? =some c:=by
 have b:=(xC.1 a).1;rw[cG f sz l p]at b
 have d:0<sz:=by
  rcases Nat.eq_zero_or_pos sz with rfl|hp
  ·simp at b
  ·exact hp
 have o:t=(t/sz)*sz+t % sz:=by rw[Nat.mul_comm];exact(Nat.div_add_mod t sz).symm
 have n:=Nat.mod_lt t d;rw[o,bM f sz l p (t/sz) (t % sz) n]at a;cases g:l[t/sz]? with
 |none=>simp[g]at a
 |some e=>rw[g]at a;exact⟨t/sz,t % sz,e,o,n,g,a⟩
theorem dM(hr:HR G B w0 I0 h w):∀(n:Nat)(x:AV)(v:Value)(y:D)(ks:List Nat),view n h x=some (y,ks)→Rep G w x v→DRep (dp G h ks) w y v:=by
 intro n;induction n with
 |zero=>intro x v y ks g;simp[view]at g
 |succ n ih=>
  intro x v y ks g K;have up:∀{y:D}{v:Value},DRep G.imm w y v→DRep (dp G h ks) w y v:=fun hd=>hd.mono (fun _ _ x=> .inl x) (fun _ _ _=>rfl)
  have V:∀(k sz:Nat)(es xs:List AV)(O:Nat)(L:sI)(ys:List D)(q:List Nat),(h k).ob=some (.arr sz es)→G.loc k (h k).ver=some L→(∀i x,xs[i]? =some x→es[O+i]? =some x)→
      view.go n h xs=some (ys,q)→(∀k'∈q,k'∈ks)→(xs≠[]→L.sz=sz)∧ys.length=xs.length∧(∀e∈ys,e.cells.length=sz)∧(∀e∈D.flat ys,e.one=true)∧
      ∃U:Nat→Value,∀(t:Nat)(c:D),(D.flat ys)[t]? =some c→w.cell? ⟨L.b,O*sz+t,none⟩=some (U t)∧DRep (dp G h ks) w c (U t):=by
   intro k sz es xs O L ys q Q Y hxs C hks;obtain⟨N,hi⟩:=iO C;rcases hr.objs k _ Q with ⟨rfl,hLn⟩|⟨L',hL',h1,h2,h3,h4,h6,h5⟩
   ·have hx0:xs=[]:=by
      cases xs with
      |nil=>rfl
      |cons x r=>have:=hxs 0 x rfl;simp at this
    subst hx0;have:ys=[]:=x7 (by simpa using N);subst this;exact⟨fun hne=>absurd rfl hne,N,by simp,by simp[D.flat],fun _=>undef,by simp[D.flat]⟩
   ·rw[Y]at hL'
    simp only[xA]at hL';subst hL'
    have A:∀(i:Nat)(y:D),ys[i]? =some y→y.cells.length=sz∧(∀c∈y.cells,c.one=true)∧∃S:Nat→Value,∀(j:Nat)(c:D),y.cells[j]? =some c→
        w.cell? ⟨L.b,(O+i)*sz+j,none⟩=some (S j)∧DRep (dp G h ks) w c (S j):=by
     intro i y hy;have p:i<xs.length:=by rw[←N];exact(xC.1 hy).1
     obtain⟨y',k',m,f,J⟩:=hi i xs[i] (xD p);rw[hy]at m;simp only[xA]at m;subst m;have F:=hxs i _ (xD p);have hcl:=h4 _ (xX F)
     obtain⟨S,hus⟩:∃S:Nat→Value,∀(j:Nat)(c:AV),xs[i].cells[j]? =some c→w.cell? ⟨L.b,(O+i)*sz+j,none⟩=some (S j)∧(S j).oneCell'=true∧Rep G w c (S j):=by
      refine⟨fun j=>(w.cell? ⟨L.b,(O+i)*sz+j,none⟩).getD undef,fun j c s=> ?_⟩;have hj:j<sz:=by rw[←hcl];exact(xC.1 s).1
      have hfl:(AV.flat es)[(O+i)*sz+j]? =some c:=by rw[AV.flat,bM _ sz es h4 (O+i) j hj,F,yA,s]
      obtain⟨u,hu,hu1,hur⟩:=h5 _ c hfl;simp only[hu,zH];exact⟨trivial,hu1,hur⟩
     obtain⟨v,g,hvs,hvj⟩:=Rep.of_cells (e:=xs[i]) S (fun j c s=>(hus j c s).2);have hd:=(ih _ _ _ _ f g).mono (hF (fun k hk=>hks k (J k hk))) (fun _ _ _=>rfl);obtain⟨hc1,hc2,hc3⟩:=hd.cells;refine⟨by rw[hc1,hvs,hcl],hc2,S,fun j c s=> ?_⟩
     have hj:j<xs[i].cells.length:=by
      have:=(xC.1 s).1;rw[hc1,hvs]at this;exact this
     exact⟨(hus j _ (xD hj)).1,hc3 j c (S j) s (hvj j hj)⟩
    have M:∀e∈ys,e.cells.length=sz:=fun e Z=>by
     obtain⟨i,hi⟩:=xg Z;exact(A i e hi).1
    refine⟨fun _=>h1,N,M,fun e Z=> ?_,fun t=>(w.cell? ⟨L.b,O*sz+t,none⟩).getD undef,fun t c T=> ?_⟩
    ·obtain⟨y,hy,s⟩:=List.mem_flatMap.1 Z
     obtain⟨i,hi⟩:=xg hy;exact(A i y hi).2.1 e s
    ·obtain⟨i,j,e,rfl,hj,Z,s⟩:=fg M T
     obtain⟨S,hus⟩:=(A i e Z).2.2;obtain⟨h7,h8⟩:=hus j c s;have e2:(O+i)*sz+j=O*sz+(i*sz+j):=by rw[y8];omega
     rw[e2]at h7;have hg:(w.cell? ⟨L.b,O*sz+(i*sz+j),none⟩).getD undef=S j:=by rw[h7];rfl
     exact⟨h7.trans (congrArg some hg.symm),by show DRep _ w c ((w.cell? ⟨L.b,O*sz+(i*sz+j),none⟩).getD undef);rw[hg];exact h8⟩
  have imm:∀(k:Nat)(L:sI),k∈ks→G.loc k (h k).ver=some L→∀o,dp G h ks L.b o:=fun k L hk Y o=> .inr ⟨k,hk,L,Y,rfl⟩
  unfold view at g;split at g
  ·simp only[xA,xE]at g
   obtain⟨rfl,rfl⟩:=g;exact up K.toDRep
  ·simp only[xA,xE]at g
   obtain⟨rfl,rfl⟩:=g;cases K;exact .roNil _ _
  ·simp only[xA,xE]at g
   obtain⟨rfl,rfl⟩:=g;cases K;exact .roNil _ _
  ·simp only[xA,xE]at g
   obtain⟨rfl,rfl⟩:=g;cases K with
   |vecNil=>exact .roNil _ _
   |vec k ver l L Y hfr E M hd=>exact up hd
  ·rename_i k v' H R sz0
   split at g
   ·rename_i sz es Q
    split at g
    ·rename_i s
     obtain⟨rfl,hin⟩:=s;simp only[xB,xE]at g;obtain⟨⟨ys,q⟩,C,rfl,rfl⟩:=g
     have hget:∀(i:Nat)(x:AV),((es.drop H).take R)[i]? =some x→es[H+i]? =some x:=by
      intro i x K;rw[yD]at K;split at K
      ·rwa [xu]at K
      ·cases K
     have E:((es.drop H).take R).length=R:=by simp;omega
     cases K with
     |slNil=>
      have:=(iO C).1;rw[E]at this;have:ys=[]:=x7 this;subst this;exact .roNil _ _
     |sl _ _ _ _ c L Y hcap hlc=>
      obtain⟨hs,N,M,h1,U,hU⟩:=V k sz es _ H L ys q Q Y hget C (fun k' J=>xp _ J);rw[E]at N;rcases Nat.eq_zero_or_pos R with rfl|W
      ·have:ys=[]:=x7 N
       subst this;exact .roNil _ _
      ·have hLs:=hs (by intro X;rw[X]at E;simp at E;omega)
       have hd:=DRep.ro (imm:=dp G h (k::q)) (w:=w) ys L.b (H*L.sz) c sz U (by omega) M h1 (fun t d T=>imm k L (by simp) Y _) (fun t d T=>by rw[hLs];exact(hU t d T).1) (fun t d T=>(hU t d T).2);rw[N]at hd;exact hd
    ·cases g
   ·cases g
  ·rename_i k v' i H sz0
   split at g
   ·rename_i sz es Q
    split at g
    ·rename_i s
     obtain⟨rfl,rfl,rfl,hin⟩:=s;simp only[xB,xE]at g;obtain⟨⟨ys,q⟩,C,rfl,rfl⟩:=g;cases K with
     |ptr _ _ _ _ L Y=>
      obtain⟨hs,N,M,h1,U,hU⟩:=V k 1 es _ i L ys q Q Y (fun j x K=>by rwa [xu]at K) C (fun k' J=>xp _ J)
      have h1':∀e∈ys,e.one=true:=by
       intro e Z;cases e with
       |agg cs=>
        obtain⟨hlg,hgi⟩:=iO C;obtain⟨j,hj⟩:=xg Z;have hjl:j<(es.drop i).length:=by rw[←hlg];exact(xC.1 hj).1
        obtain⟨y',k',m,f,_⟩:=hgi j (es.drop i)[j] (xD hjl);rw[hj]at m;simp only[xA]at m;subst m;have F:es[i+j]? =some (es.drop i)[j]:=by rw[←xu];exact xD hjl
        rcases hr.objs k _ Q with ⟨rfl,hLn⟩|⟨L',_,_,_,_,_,h6,_⟩
        ·simp at F
        ·have I:=h6 rfl _ (xX F)
         exfalso;generalize (es.drop i)[j]=z at f I;cases n with
         |zero=>simp[view]at f
         |succ n=>
          cases z with
          |d y=>simp only[view,xA,xE]at f;obtain⟨rfl,_⟩:=f;simp[AV.lone]at I
          |agg _=>simp[AV.lone]at I
          |sl k v H R sz=>
           simp only[view]at f;split at f
           ·split at f
            ·simp at f
            ·cases f
           ·cases f
          |ptr k v H R sz=>
           simp only[view]at f;split at f
           ·split at f
            ·simp at f
            ·cases f
           ·cases f
          |_=>simp[view]at f
       |_=>rfl
      have hfl:D.flat ys=ys:=by
       have:∀(l:List D),(∀e∈l,e.one=true)→D.flat l=l:=by
        intro l;induction l with
        |nil=>intro _;rfl
        |cons a r ihr=>
         intro hh;have ha:=hh a (by simp);have hca:a.cells=[a]:=by cases a<;>first|rfl|(simp[D.one]at ha)
         simp only[D.flat,yT,hca,List.singleton_append]at ihr ⊢;rw[ihr (fun e Z=>hh e (by simp[Z]))]
       exact this ys h1'
      rw[hfl]at hU;rcases Nat.eq_zero_or_pos (es.drop i).length with hz|W
      ·have hy0:ys=[]:=x7 (by omega)
       subst hy0;exact .rp [] L.b _ (fun _=>undef) (by simp) (by simp) (by simp) (by simp)
      ·have hLs:=hs (by intro X;rw[X]at W;simp at W)
       refine .rp ys L.b (i*L.sz+0) U h1' (fun t d T=>imm k L (by simp) Y _) (fun t d T=> ?_) (fun t d T=>(hU t d T).2);have:=(hU t d T).1;rw[hLs];exact this
    ·cases g
   ·cases g
  ·rename_i cs
   simp only[xB,xE]at g;obtain⟨⟨ys,q⟩,C,rfl,rfl⟩:=g;obtain⟨N,hi⟩:=iO C;cases K with
   |agg _ vs hvl h1 hcr=>
    have A:∀(i:Nat)(c:D)(u:Value),ys[i]? =some c→vs[i]? =some u→DRep (dp G h q) w c u:=by
     intro i c u s hu;have p:i<cs.length:=by rw[←N];exact(xC.1 s).1
     obtain⟨y',k',m,f,J⟩:=hi i cs[i] (xD p);rw[s]at m;simp only[xA]at m;subst m;exact(ih _ _ _ _ f (hcr i _ u (xD p) hu)).mono (hF J) (fun _ _ _=>rfl)
    refine .agg ys vs (by rw[hvl,N]) (fun c s=> ?_) A;obtain⟨i,hi'⟩:=xg s;have p:i<vs.size:=by rw[hvl,←N];exact(xC.1 hi').1
    have hu:vs[i]? =some vs[i]:=xI p;exact(A i c _ hi' hu).one_of (h1 i _ hu)
  ·cases g
theorem ww(m:HR G B w0 I0 h w){n:Nat}{xs:List AV}{ys:List D}{ks:List Nat}(o:view.go n h xs=some (ys,ks)){vs:Array Value}(g:vs.size=xs.length)
    (l:∀(i:Nat)(x:AV)(u:Value),xs[i]? =some x→vs[i]? =some u→Rep G w x u):vs.size=ys.length∧∀(i:Nat)(y:D)(u:Value),ys[i]? =some y→vs[i]? =some u→DRep (dp G h ks) w y u:=by
 obtain⟨f,j⟩:=iO o;refine⟨by rw[g,f],fun i y u e k=> ?_⟩;have a:i<xs.length:=by rw[←f];exact(xC.1 e).1
 obtain⟨p,q,b,c,d⟩:=j i xs[i] (xD a);rw[e]at b;simp only[xA]at b;subst b;exact(dM m n _ _ _ _ c (l i _ u (xD a) k)).mono (hF d) (fun _ _ _=>rfl)
theorem DX{x:AV}{v:Value}{y:D}(f:uw x=some y)(m:Rep G w x v):DRep G.imm w y v:=by
 have M:∀(l:List AV)(ys:List D),uw.go l=some ys→ys.length=l.length∧∀(i:Nat)(x:AV)(u:Value),l[i]? =some x→Rep G w x u→∃y,ys[i]? =some y∧y.one=true∧DRep G.imm w y u:=by
  intro l;induction l with
  |nil=>intro ys n;simp[uw.go]at n;subst n;simp
  |cons a r S=>
   intro ys n
   have e:∀(y:D),uw.go (a::r)=(uw.go r).map (y:: ·)→y.one=true→(∀u,Rep G w a u→DRep G.imm w y u)→
       ys.length=(a::r).length∧∀(i:Nat)(x:AV)(u:Value),(a::r)[i]? =some x→Rep G w x u→∃y,ys[i]? =some y∧y.one=true∧DRep G.imm w y u:=by
    intro y T p q;rw[T]at n;simp only[xB]at n;obtain⟨N,H,rfl⟩:=n;obtain⟨z,E⟩:=S N H;refine⟨by simp[z],fun i x u m Q=> ?_⟩;cases i with
    |zero=>simp only[xj,xA]at m;subst m;exact⟨y,rfl,p,q u Q⟩
    |succ i=>simp only[yh]at m;obtain⟨O,R,h2⟩:=E i x u m Q;exact⟨O,by simpa using R,h2⟩
   cases a with
   |d y=>
    by_cases g:y.one=true
    ·exact e y (by simp[uw.go,g]) g (fun u j=>j.toDRep)
    ·simp[uw.go,g]at n
   |nils=>exact e (.ro []) (by simp[uw.go]) rfl (fun u j=>by cases j;exact .roNil _ _)
   |es=>exact e (.ro []) (by simp[uw.go]) rfl (fun u j=>by cases j;exact .roNil _ _)
   |vec k K sz l=>exact e (.ro l) (by simp[uw.go]) rfl (fun u j=>by cases j with|vecNil=>exact .roNil _ _|vec _ _ _ L U F s I J=>exact J)
   |_=>simp[uw.go]at n
 cases x with
 |d O=>simp only[uw,xA]at f;subst f;exact m.toDRep
 |nils=>simp only[uw,xA]at f;subst f;cases m;exact .roNil _ _
 |es=>simp only[uw,xA]at f;subst f;cases m;exact .roNil _ _
 |vec k K sz l=>simp only[uw,xA]at f;subst f;cases m with|vecNil=>exact .roNil _ _|vec _ _ _ L U F s I J=>exact J
 |agg cs=>
  simp only[uw,xB]at f;obtain⟨ys,n,rfl⟩:=f;obtain⟨z,E⟩:=M cs ys n;cases m with
  |agg _ vs o R A=>
   refine .agg ys vs (by rw[o,z]) (fun c C=> ?_) (fun i c u C j=> ?_)
   ·obtain⟨i,t⟩:=xg C
    have b:i<vs.size:=by rw[o,←z];exact(xC.1 t).1
    have j:vs[i]? =some vs[i]:=xI b;obtain⟨y,g,p,_⟩:=E i cs[i] vs[i] (xD (by rw[←o];exact b)) (A i _ _ (xD (by rw[←o];exact b)) j);rw[t]at g;simp only[xA]at g;subst g;exact p
   ·have b:i<cs.length:=by rw[←z];exact(xC.1 C).1
    obtain⟨y,g,_,q⟩:=E i cs[i] u (xD b) (A i _ _ (xD b) j);rw[C]at g;simp only[xA]at g;subst g;exact q
 |_=>simp[uw]at f
theorem qz:∀{xs:List AV}{ys:List D},sJ xs=some ys→∀{vs:Array Value},vs.size=xs.length→(∀(i:Nat)(x:AV)(u:Value),xs[i]? =some x→vs[i]? =some u→Rep G w x u)→
    vs.size=ys.length∧∀(i:Nat)(y:D)(u:Value),ys[i]? =some y→vs[i]? =some u→DRep G.imm w y u:=by
 have k:∀(xs:List AV)(ys:List D),sJ xs=some ys→ys.length=xs.length∧∀(i:Nat)(x:AV),xs[i]? =some x→∃y,ys[i]? =some y∧uw x=some y:=by
  intro xs;induction xs with
  |nil=>intro ys h;simp[sJ]at h;subst h;simp
  |cons a r q=>
   intro ys h;rw[sJ]at h;split at h
   ·rename_i y s e j
    simp only[xA]at h;subst h;obtain⟨f,g⟩:=q _ j;refine⟨by simp[f],fun i x d=> ?_⟩;cases i with
    |zero=>simp only[xj,xA]at d;subst d;exact⟨y,rfl,e⟩
    |succ i=>simp only[yh]at d;obtain⟨l,t,h2⟩:=g i x d;exact⟨l,by simpa using t,h2⟩
   ·cases h
 intro xs ys n vs m d;obtain⟨f,g⟩:=k xs ys n;refine⟨by rw[m,f],fun i y u e p=> ?_⟩;have b:i<xs.length:=by rw[←f];exact(xC.1 e).1
 obtain⟨l,c,o⟩:=g i xs[i] (xD b);rw[e]at c;simp only[xA]at c;subst c;exact DX o (d i _ u (xD b) p)
end
end Go.Avm
namespace Go.Avm
open Go.RowKit
variable[aH]
section
variable{P:Program}{G:Gh}{B:Nat}{w0 w:World}{I0:Nat→Nat→Prop}{h:aa}
theorem bP:∀{es:List AV},(∀x∈es,x.lone=true)→AV.flat es=es
 |[],_=>rfl
 |a::r,b=>by
  have:=bP (es:=r) (fun x c=>b x (by simp[c]));simp only[AV.flat,yT,AV.cells_lone (b a (by simp)),List.singleton_append]at this ⊢;rw[this]
theorem l9(r:HR G B w0 I0 h w)(k:Nat)(t:TypeId)(v:Value)(cs:List AV)(m:v.cells.size=cs.length)(p:∀u∈v.cells.toList,u.oneCell'=true)
    (n:∀(i:Nat)(c:AV)(u:Value),cs[i]? =some c→v.cells[i]? =some u→Rep G w c u):
    ∃f j a,(newVar t v).run P w= .ok a f∧Ext G w j f∧HR j B w0 I0 (aG h k ⟨(h k).ver+1,some (.arr 1 cs)⟩) f∧Rep j f (.ptr k ((h k).ver+1) 0 0 1) (.pointer (some a))∧
     ∀L,j.loc k ((h k).ver+1)=some L→L.ty=t∧L.cap*L.sz=cs.length:=by
 have b:∀x∈cs,x.lone=true:=by
  intro x l;obtain⟨i,e⟩:=xg l;have d:i<v.cells.size:=by rw[m];exact(xC.1 e).1
  have g:v.cells[i]? =some v.cells[i]:=xI d;exact(n i x _ e g).lone (p _ (by rw[xm];exact zC d))
 obtain⟨s,q⟩:=r.newOb k 1 cs.length cs v.cells t (by rw[m];omega) (xL _) (fun x l=>by rw[AV.cells_lone (b x l)];rfl) (fun _=>b) (fun i c e=>by
  rw[bP b]at e;have d:i<v.cells.size:=by rw[m];exact(xC.1 e).1
  have g:v.cells[i]? =some v.cells[i]:=xI d;exact⟨_,g,p _ (by rw[xm];exact zC d),n i c _ e g⟩)
 refine⟨_,_,⟨w.heap.size,0,none⟩, ?_,q,s, ?_,fun L o=>by
  rw[Gh.at_same]at o;cases o;exact⟨rfl,Nat.mul_one _⟩⟩
 ·simp[newVar,newRow]
 ·have:=Rep.ptr (w:=w.alloc (.cells v.cells t)) k ((h k).ver+1) 0 0 _ (Gh.at_same G k ((h k).ver+1) ⟨w.heap.size,1,cs.length,0,t⟩)
  simpa using this
theorem ma:∀(a b:List (Nat×aE))(h:aa),ap h (a ++b)=ap (ap h a) b
 |[],_,_=>rfl
 |p::r,b,h=>by simp only[xk,ap];exact ma r b _
theorem qC:∀(b:List (Nat×aE))(h:aa){k:Nat},k∉b.map (·.1)→ap h b k=h k
 |[],_,_,_=>rfl
 |(j,e)::r,h,k,a=>by
  simp only[xH,x0,zG]at a;simp only[ap];rw[qC r _ a.2,ag _ _ a.1]
theorem iW{b:Gh}{d:World}{out:Out}(a:HR b B w0 I0 (ap h out.wr) d)(typ:Bool)(T:TypeId)(n:Option Nat)(k v:Nat)(e:v≤(ap h out.wr k).ver)
    (f:typ=true→∀L,b.loc k v=some L→L.ty=T∧∀m,n=some m→L.cap*L.sz=m):HR b B w0 I0 (ap h (cr typ T n k v h out).wr) d:=by
 unfold cr;split
 ·rename_i c
  simp only[ma,ap];have:=a.note (kl k) k v T n e (f c.1);rw[qC _ _ c.2]at this;exact this
 ·exact a
theorem fx(typ:Bool)(T:TypeId)(n:Option Nat)(k v:Nat)(h:aa)(out:Out):(cr typ T n k v h out).val=out.val∧(cr typ T n k v h out).ob=out.ob:=by
 unfold cr;split<;>exact⟨rfl,rfl⟩
theorem qD(s:HR G B w0 I0 h w)(typ:Bool){t:TypeId}{k:Nat}{out:Out}(c:(fL P t k h).map (cr typ t ((mv P t).map List.length) k ((h k).ver+1) h)=some out):
    out.ob=[]∧∃v d g,(Instr.alloc t true (.tuple #[])).run P w= .ok v d∧Ext G w g d∧HR g B w0 I0 (ap h out.wr) d∧Rep g d out.val v:=by
 rw[xB]at c;obtain⟨A,c,rfl⟩:=c;rw[(fx ..).1,(fx ..).2];unfold fL at c;split at c
 ·rename_i zs b
  simp only[xA]at c;subst c;rw[b];simp only[mv,yj]at b;obtain⟨z,n,b⟩:=b;obtain⟨r,h2,x⟩:=fN (G:=G) (w:=w) b
  obtain⟨d,g,a,j,o,y,e,f⟩:=l9 (P:=P) s k t z zs r (fun u q=>by
   obtain⟨i,p⟩:=xg q;exact h2 i u (by simpa using p)) x
  exact⟨rfl,_,d,g,by simp[Instr.alloc,cQ n,j],o,iW y typ t _ k _ (by simp[ap,newOb,aG]) (fun _ L l=>⟨(f L l).1,fun m hm=>by
   simp only[x5,xA]at hm;rw[(f L l).2,hm]⟩),e⟩
 ·cases c
theorem uA(p:HR G B w0 I0 h w)(typ:Bool){t:TypeId}{x:AV}{i:Value}(o:Rep G w x i){k:Nat}{out:Out}(b:(kB x k h).map (cr typ t (some x.cells.length) k ((h k).ver+1) h)=some out):
    out.ob=[]∧∃v c f,(Instr.box t i).run P w= .ok v c∧Ext G w f c∧HR f B w0 I0 (ap h out.wr) c∧Rep f c out.val v:=by
 rw[xB]at b;obtain⟨u,b,rfl⟩:=b;rw[(fx ..).1,(fx ..).2];unfold kB at b;split at b
 ·rename_i q
  simp only[xA]at b;subst b;obtain⟨n,h2,r⟩:=o.cells q;obtain⟨c,f,a,g,l,s,d,e⟩:=l9 (P:=P) p k t i x.cells n h2 r
  exact⟨rfl,_,c,f,by simp[Instr.box,g],l,iW s typ t _ k _ (by simp[ap,newOb,aG]) (fun _ L j=>⟨(e L j).1,fun m hm=>by
   simp only[xA]at hm;rw[(e L j).2,hm]⟩),d⟩
 ·cases b
theorem uB:∀(b:List Value)(cs:Array Value)(a j:Nat),a+j+b.length≤cs.size→
    ((b.zipIdx j).foldl (fun (cs:Array Value) p=>cs.setIfInBounds (a+p.2) p.1) cs).toList=cs.toList.take (a+j) ++b ++cs.toList.drop (a+j+b.length)
 |[],cs,a,j,_=>by simp
 |u::r,cs,a,j,h=>by
  simp only[List.zipIdx_cons,List.foldl_cons];rw[uB r (cs.setIfInBounds (a+j) u) a (j+1) (by simp at h ⊢;omega)];have e:=list_seg_step cs.toList (a+j) u r (by simp at h ⊢;omega);simpa [Array.toList_setIfInBounds,yk]using e
theorem mz(l:Nat→Option (Nat×Nat)):∀(m:List (Nat×AV))(a:List (Nat×Value))(cs:List AV)(d:Array Value)(out:List AV),
    tv l cs m=some out→a.length=m.length→(∀(i:Nat)(p:Nat×AV)(q:Nat×Value),m[i]? =some p→a[i]? =some q→p.1=q.1∧Rep G w p.2 q.2)→
    d.size=cs.length→(∀(i:Nat)(u:Value),d[i]? =some u→u.oneCell'=true)→(∀(i:Nat)(c:AV)(u:Value),cs[i]? =some c→d[i]? =some u→Rep G w c u)→
    ∃k,Instr.fill l d a=some k∧k.size=out.length∧(∀(i:Nat)(u:Value),k[i]? =some u→u.oneCell'=true)∧
     (∀(i:Nat)(c:AV)(u:Value),out[i]? =some c→k[i]? =some u→Rep G w c u)
 |[],a,cs,d,out,o,F,_,Q,E,D=>by
  simp only[tv,xA]at o;subst o;have:a=[]:=x7 (by simpa using F);subst this;exact⟨d,rfl,Q,E,D⟩
 |(i,x)::r,a,cs,d,out,o,F,hp,Q,E,D=>by
  cases a with
  |nil=>simp at F
  |cons q U=>
   obtain⟨qi,s⟩:=q;obtain⟨A,z⟩:=hp 0 (i,x) (qi,s) rfl rfl;simp only at A z;subst A;simp only[tv]at o;split at o
   ·rename_i b R H
    split at o
    ·rename_i C
     obtain⟨L,hsz,hle⟩:=C;obtain⟨S,V,Z⟩:=z.cells L;have v:=uB s.cells.toList d b 0 (by simp;omega)
     have n:(s.cells.zipIdx.foldl (fun (cs:Array Value) p=>cs.setIfInBounds (b+p.2) p.1) d).toList=d.toList.take b ++s.cells.toList ++d.toList.drop (b+s.cells.size):=by
      rw[←Array.foldl_toList];simpa using v
     refine mz l r U _ (s.cells.zipIdx.foldl (fun (cs:Array Value) p=>cs.setIfInBounds (b+p.2) p.1) d) out o (by simpa using F) (fun j p q N J=>hp (j+1) p q (by simpa using N) (by simpa using J)) ?_ ?_ ?_|>.imp (fun k Y=> ?_)
     ·rw[←xh,n];simp;omega
     ·intro j u hu
      have e:u∈(s.cells.zipIdx.foldl (fun (cs:Array Value) p=>cs.setIfInBounds (b+p.2) p.1) d).toList:=by rw[xm];exact yv hu
      rw[n]at e;simp only[xU]at e;rcases e with (e|e)|e
      ·obtain⟨M,t⟩:=xg (yL e)
       exact E M u (by simpa using t)
      ·exact V u e
      ·obtain⟨M,t⟩:=xg (y9 e)
       exact E M u (by simpa using t)
     ·intro j c u g f
      rw[←xi,n]at f;have O:s.cells.toList.length=x.cells.length:=by simpa using S
      by_cases y:j<b
      ·rw[xa,xQ (by simp;omega),yD,xf y]at g
       rw[xa,xQ (by simp;omega),yD,xf y]at f;exact D j c u g (by simpa using f)
      ·by_cases hj2:j<b+x.cells.length
       ·rw[xQ (by simp;omega),xV (by simp;omega)]at g
        rw[xQ (by simp;omega),xV (by simp;omega)]at f;have I:min b cs.length=b:=by omega
        have K:min b d.size=b:=by omega
        simp only[yb,I,xh,K]at g f;exact Z _ c u g (by simpa using f)
       ·rw[xV (by simp;omega),xu]at g
        rw[xV (by simp;omega),xu]at f;have I:min b cs.length=b:=by omega
        have K:min b d.size=b:=by omega
        simp only[xK,yb,I,xh,K,S]at g f;exact D _ c u g (by simpa using f)
     ·obtain⟨X,W,g3,T⟩:=Y
      refine⟨?_,W,g3,T⟩;simp only[Instr.fill,H];rw[xo (by simp;omega)];exact X
    ·cases o
   ·cases o
theorem m9{t:TypeId}{fs:Array Field}(a:fieldsOf P t=some fs):P.underlying t=some (.struct fs):=by
 unfold fieldsOf at a;split at a
 ·rename_i h;simp only[xA]at a;subst a;exact h
 ·cases a
theorem qF:∀(fs:List Field),(fs.all fun f=>(P.info? f.type).isSome)=true→(fs.mapM fun f=>(P.info? f.type).map fun i=>(f.offset,i.size))=some (fs.map fun f=>(f.offset,P.cellsOf f.type))
 |[],_=>rfl
 |f::r,h=>by
  simp only[List.all_cons,xJ]at h;obtain⟨i,a⟩:=Option.isSome_iff_exists.1 h.1;simp[List.mapM_cons,a,qF r h.2,Program.cellsOf]
theorem sM{t:TypeId}{b:List (Nat×AV)}{a:Array (Nat×Value)}{out:Out}(l:ux P t b=some out)(K:a.size=b.length)
    (hp:∀(i:Nat)(p:Nat×AV)(q:Nat×Value),b[i]? =some p→a[i]? =some q→p.1=q.1∧Rep G w p.2 q.2):
    out.ob=[]∧out.wr=[]∧∃v,(Instr.build t a).run P w= .ok v w∧Rep G w out.val v:=by
 unfold ux at l;split at l
 ·rename_i zs j c
  simp only[mv,yj]at c;obtain⟨z,E,c⟩:=c;simp only[xB]at l;obtain⟨cs,d,rfl⟩:=l;obtain⟨J,h2,D⟩:=fN (G:=G) (w:=w) c;obtain⟨g,C,A,I,x⟩:=mz (G:=G) (w:=w) (hE P t) b a.toList zs z.cells cs d (by simpa using K) (fun i p q r o=>hp i p q r (by simpa using o)) J h2 D;refine⟨rfl,rfl, .agg g, ?_,ji A I x⟩;unfold kC at j;split at j
  ·rename_i fs u
   have H:=m9 u;have y:=run_places (P:=P) w fs.toList _ (qF fs.toList j)
   have m:(fun (i:Nat)=>((fs.toList.map fun f=>(f.offset,P.cellsOf f.type)).toArray:Array (Nat×Nat))[i]?)=hE P t:=by
    funext i;simp[hE,u]
   have k:Instr.fill (fun (i:Nat)=>((fs.toList.map fun f=>(f.offset,P.cellsOf f.type)).toArray:Array (Nat×Nat))[i]?) z.cells a.toList=some g:=by rw[m];exact C
   simp only[Instr.build,Sem.run_bind,cQ E,run_underlying H,Result.andThen_ok]
   have hm:(fs.mapM fun f=>(do pure (f.offset,←sizeOf f.type):Sem (Nat×Nat))).run P w= .ok (fs.toList.map fun f=>(f.offset,P.cellsOf f.type)).toArray w:=by
    rw[Array.mapM_eq_mapM_toList,Sem.run_map]
    have:(fs.toList.mapM fun f=>(do pure (f.offset,←sizeOf f.type):Sem (Nat×Nat)))=(fs.toList.mapM fun f=>Prod.mk f.offset<$>sizeOf f.type):=by
     congr 1
    rw[this,y];rfl
   simp only[hm,Result.andThen_ok,k,Sem.run_pure]
  ·cases j
 ·rename_i zs j c
  simp only[mv,yj]at c;obtain⟨z,E,c⟩:=c;split at l;case h_2=>cases l
  rename_i e s;simp only[xB]at l;obtain⟨cs,d,rfl⟩:=l;obtain⟨J,h2,D⟩:=fN (G:=G) (w:=w) c;obtain⟨g,C,A,I,x⟩:=mz (G:=G) (w:=w) _ b a.toList zs z.cells cs d (by simpa using K) (fun i p q r o=>hp i p q r (by simpa using o)) J h2 D;refine⟨rfl,rfl, .agg g, ?_,ji A I x⟩;unfold Lr at s;split at s
  ·rename_i n N H
   split at s
   ·rename_i L
    cases s;obtain⟨i,M⟩:=Option.isSome_iff_exists.1 (show(P.info? e).isSome=true from L);have F:(sizeOf e).run P w= .ok (P.cellsOf e) w:=by simp[sizeOf,typeInfo,M,Program.cellsOf]
    simp only[Instr.build,Sem.run_bind,cQ E,run_underlying H,Result.andThen_ok,F,C,Sem.run_pure]
   ·cases s
  ·cases s
 ·cases l
end
end Go.Avm
namespace Go.Avm
open Go.RowKit
variable[aH]
section
variable{P:Program}{G:Gh}{B:Nat}{w0 w:World}{I0:Nat→Nat→Prop}{h:aa}
theorem lJ{c:Type}(l a:List c)(p t:Nat)(hp:p+a.length≤l.length):
    (l.take p ++a ++l.drop (p+a.length))[t]? =if t<p then l[t]? else if t<p+a.length then a[t-p]? else l[t]? :=by
 by_cases b:t<p
 ·rw[xf b,xa,xQ (by simp;omega),yD,xf b]
 ·rw[xo b]
  by_cases h2:t<p+a.length
  ·rw[xf h2,xQ (by simp;omega),xV (by simp;omega)]
   congr 1;simp;omega
  ·rw[xo h2,xV (by simp;omega),xu]
   congr 1;simp;omega
theorem bv{t:TypeId}(b:cy P t=true)(w:World):(sizeOf t).run P w= .ok (P.cellsOf t) w:=by
 obtain⟨i,a⟩:=Option.isSome_iff_exists.1 b;simp[sizeOf,typeInfo,a,Program.cellsOf]
theorem jN(R:HR G B w0 I0 h w){t:TypeId}{k sz i a psz:Nat}{es es':List AV}{x:AV}{va d:Value}(ha:Rep G w (.ptr k (h k).ver i a psz) va)(hx:Rep G w x d)
    (p:(h k).ob=some (.arr sz es)) (Z:x.stor=true) (M:x.cells.length=P.cellsOf t) (O:cy P t=true)
    (Q:i*sz+a+x.cells.length≤es.length*sz) (v:es'.length=es.length) (X:(∀e∈es,e.cells.length=sz)→∀e∈es',e.cells.length=sz)
    (S:sz=1→(∀e∈es,e.lone=true)→(∀c∈x.cells,c.lone=true)→∀e∈es',e.lone=true)
    (F:(∀e∈es,e.cells.length=sz)→(sz=1→∀e∈es,e.lone=true)→(∀c∈x.cells,c.lone=true)→∀(s:Nat)(c:AV),(AV.flat es')[s]? =some c→
     (s<i*sz+a∧(AV.flat es)[s]? =some c)∨(i*sz+a≤s∧x.cells[s-(i*sz+a)]? =some c)∨(i*sz+a+x.cells.length≤s∧(AV.flat es)[s]? =some c)):
    ∃Y,(Instr.storeAt t va d).run P w= .ok () Y∧Ext G w G Y∧HR G B w0 I0 (aG h k ⟨(h k).ver,some (.arr sz es')⟩) Y:=by
 obtain⟨J,T,e3⟩:=hx.cells Z
 have A:∀c∈x.cells,c.lone=true:=by
  intro c K;obtain⟨j,hj⟩:=xg K;have n:j<d.cells.size:=by rw[J];exact(xC.1 hj).1
  have r:d.cells[j]? =some d.cells[j]:=xI n;exact(e3 j c _ hj r).lone (T _ (by rw[xm];exact zC n))
 cases ha with
 |ptr _ _ _ _ L hL=>
  rcases R.objs k _ p with ⟨rfl,hLn⟩|⟨L',I,D,h2,h3,h4,h6,h5⟩
  ·
   have W:x.cells.length=0:=by simp only[xS,Nat.zero_mul]at Q;omega
   have V:d.cells.toList=[]:=x7 (by simpa [W]using J);have N:es'=[]:=x7 (by simpa using v);subst N;refine⟨w, ?_,Ext.refl G w, ?_⟩
   ·have l:d.cells.size=P.cellsOf t:=by rw[J,M]
    simp[Instr.storeAt,Instr.sureAddr,storeVar,bv O,l,V,storeCells]
   ·have:aG h k ⟨(h k).ver,some (.arr sz [])⟩=h:=by
      funext k';by_cases hk:k'=k
      ·subst hk;rw[af];cases hh:h k' with|mk ver ob=>rw[hh]at p;simp only at p;subst p;rfl
      ·rw[ag _ _ hk]
    rw[this];exact R
  ·rw[hL]at I
   simp only[xA]at I;subst I;obtain⟨hB,⟨arr,e,U,hs⟩,_⟩:=R.own k L hL
   have o:i*L.sz+a+d.cells.toList.length≤arr.size:=by
    rw[hs.1,D,xh,J];have:=yZ sz h3;omega
   have C:=run_storeCells_at P L.b (i*L.sz+a) e d.cells.toList 0 arr w U (by simpa using o) T;simp only[yo]at C
   have H:(arr.toList.take (i*L.sz+a) ++d.cells.toList ++arr.toList.drop (i*L.sz+a+d.cells.toList.length)).toArray.size=arr.size:=by
    have:d.cells.toList.length=d.cells.size:=xh;simp;simp at o;omega
   have y:=R.store p hL D h2 U H (by rw[v];exact h3) (X h4) (fun hz=>S hz (h6 hz) A) (fun s c K=>by
    have z:∀{s:Nat}{c:AV},(AV.flat es)[s]? =some c→∃u:Value,arr[s]? =some u∧u.oneCell'=true∧Rep G w c u:=by
     intro s c K;obtain⟨u,r,q,g⟩:=h5 s c K;exact⟨u,by simpa [World.cell?,U]using r,q,g⟩
    have m:=lJ arr.toList d.cells.toList (i*L.sz+a) s (by simpa using o);rcases F h4 h6 A s c K with ⟨E,f⟩|⟨E,f⟩|⟨E,f⟩
    ·obtain⟨u,r,q,g⟩:=z f
     refine⟨u, ?_,q,g⟩;rw[yf,m,xf (by rw[D];exact E)];simpa using r
    ·have n:s-(i*sz+a)<d.cells.size:=by rw[J];exact(xC.1 f).1
     have r:d.cells[s-(i*sz+a)]? =some d.cells[s-(i*sz+a)]:=xI n;refine⟨_, ?_,T _ (by rw[xm];exact zC n),e3 _ c _ f r⟩;rw[yf,m,xo (by rw[D];omega),xf (by rw[D];simp;omega),D];simp
    ·obtain⟨u,r,q,g⟩:=z f
     refine⟨u, ?_,q,g⟩;rw[yf,m,xo (by rw[D];omega),xo (by rw[D];simp;omega)];simpa using r)
   refine⟨_, ?_,y.2,y.1⟩;have l:d.cells.size=P.cellsOf t:=by rw[J,M]
   simp[Instr.storeAt,Instr.sureAddr,storeVar,bv O,l,C]
theorem sN(Z:HR G B w0 I0 h w){t:TypeId}{a x:AV}{va S:Value}(X:Rep G w a va)(U:Rep G w x S){out:Out}(l:ey P t a x h=some out):
    out.ob=[]∧out.val= .junk∧∃w',(Instr.storeAt t va S).run P w= .ok () w'∧Ext G w G w'∧HR G B w0 I0 (ap h out.wr) w':=by
 unfold ey at l;split at l
 ·rename_i k v i u sz0
  split at l
  ·rename_i sz es E
   split at l
   ·rename_i hc
    obtain⟨rfl,r,A,D⟩:=hc;split at l
    ·rename_i C
     subst C;split at l
     ·rename_i K
      subst K;split at l
      ·rename_i H
       split at l
       ·rename_i hi
        simp only[xA]at l;subst l
        have o:x.lone=true:=by cases x with
         |d y=>cases y<;>first|rfl|(simp[AV.one]at H)
         |agg _=>simp[AV.one]at H
         |_=>rfl
        have F:x.cells=[x]:=AV.cells_lone o;refine⟨rfl,rfl,jN Z X U E r A D (by rw[F];simp;omega) (by simp) (fun m e b=> ?_) (fun _ z _ e b=> ?_) (fun m z _ s c f=> ?_)⟩
        ·rcases xl b with b|rfl
         ·exact m e b
         ·rw[F];rfl
        ·rcases xl b with b|rfl
         ·exact z e b
         ·exact o
        ·have p:∀e∈es.set i x,e.lone=true:=fun e b=>by
           rcases xl b with b|rfl
           ·exact z rfl e b
           ·exact o
         rw[bP p,zE]at f;rw[bP (z rfl)];simp only[Nat.mul_one,yo];by_cases M:i=s
         ·subst M
          simp[hi]at f;subst f;exact .inr (.inl ⟨xL _,by simp[F]⟩)
         ·rw[xo M]at f
          rcases Nat.lt_or_gt_of_ne M with q|O
          ·exact .inr (.inr ⟨by rw[F];simp;omega,f⟩)
          ·exact .inl ⟨O,f⟩
       ·cases l
      ·split at l
       ·rename_i hi
        simp only[xA]at l;subst l;have V:=lJ es x.cells i;refine⟨rfl,rfl,jN Z X U E r A D (by omega) (by simp;omega) (fun m e b=> ?_) (fun _ z o e b=> ?_) (fun m z o s c f=> ?_)⟩
        ·simp only[xa,xU]at b
         rcases b with b|b|b
         ·exact m e (yL b)
         ·have o:∀c∈x.cells,c.lone=true:=by
            obtain⟨e1,e2,e3⟩:=U.cells r;intro c hc;obtain⟨j,R⟩:=xg hc;have q:j<S.cells.size:=by rw[e1];exact(xC.1 R).1
            have hu:S.cells[j]? =some S.cells[j]:=xI q;exact(e3 j c _ R hu).lone (e2 _ (by rw[xm];exact zC q))
          rw[AV.cells_lone (o e b)];rfl
         ·exact m e (y9 b)
        ·simp only[xa,xU]at b
         rcases b with b|b|b
         ·exact z e (yL b)
         ·exact o e b
         ·exact z e (y9 b)
        ·have p:∀e∈es.take i ++x.cells ++es.drop (i+x.cells.length),e.lone=true:=fun e b=>by
           simp only[xa,xU]at b;rcases b with b|b|b
           ·exact z rfl e (yL b)
           ·exact o e b
           ·exact z rfl e (y9 b)
         rw[bP p,V s hi]at f;rw[bP (z rfl)];simp only[Nat.mul_one,yo];split at f
         ·rename_i q;exact .inl ⟨q,f⟩
         ·split at f
          ·exact .inr (.inl ⟨by omega,f⟩)
          ·exact .inr (.inr ⟨by omega,f⟩)
       ·cases l
     ·cases l
    ·rename_i C
     split at l
     ·rename_i e b
      have I:=(xC.1 b).1
      have hmul:i*sz+sz≤es.length*sz:=by
       have:(i+1)*sz≤es.length*sz:=yZ sz I;rw[y8,Nat.one_mul]at this;exact this
      have L:∀(y:AV),(∀e∈es,e.cells.length=sz)→y.cells.length=sz→∀(s:Nat)(c:AV),(AV.flat (es.set i y))[s]? =some c→
          ((s<i*sz∨i*sz+sz≤s)∧(AV.flat es)[s]? =some c)∨(i*sz≤s∧s<i*sz+sz∧y.cells[s-i*sz]? =some c):=by
       intro y m hy s c f
       have p:∀e∈es.set i y,e.cells.length=sz:=fun e b=>by
        rcases xl b with b|rfl
        ·exact m e b
        ·exact hy
       obtain⟨Y,j,e',rfl,R,n,g⟩:=fg p f;rw[zE]at n;by_cases Q:i=Y
       ·subst Q
        rw[xf rfl,xf I]at n;simp only[xA]at n;subst n;exact .inr ⟨by omega,by omega,by rw[show i*sz+j-i*sz=j from by omega];exact g⟩
       ·rw[xo Q]at n
        refine .inl ⟨?_,by rw[AV.flat,bM _ sz es m Y j R,n,yA,g]⟩;rcases Nat.lt_or_gt_of_ne Q with q|O
        ·right
         have:(i+1)*sz≤Y*sz:=yZ sz q;rw[y8,Nat.one_mul]at this;omega
        ·left
         have:(Y+1)*sz≤i*sz:=yZ sz O;rw[y8,Nat.one_mul]at this;omega
      have J:(∀e∈es,e.cells.length=sz)→∀j,j<sz→(AV.flat es)[i*sz+j]? =e.cells[j]? :=fun m j R=>by
       rw[AV.flat,bM _ sz es m i j R,b,yA]
      split at l
      ·rename_i hc2
       obtain⟨rfl,T⟩:=hc2;simp only[xA]at l;subst l;refine⟨rfl,rfl,jN Z X U E r A D (by omega) (by simp) (fun m e b=> ?_) (fun hz=>absurd hz C) (fun m _ _ s c f=> ?_)⟩
       ·rcases xl b with b|rfl
        ·exact m e b
        ·exact T
       ·rcases L x m T s c f with ⟨N,g⟩|⟨h7,h8,g⟩
        ·rcases N with N|N
         ·exact .inl ⟨by omega,g⟩
         ·exact .inr (.inr ⟨by omega,g⟩)
        ·exact .inr (.inl ⟨by omega,by simpa using g⟩)
      ·split at l
       ·rename_i K
        simp only[xA]at l;subst l;refine⟨rfl,rfl,jN Z X U E r A D (by omega) (by simp) (fun m e' n=> ?_) (fun hz=>absurd hz C) (fun m _ _ s c f=> ?_)⟩
        ·rcases xl n with n|rfl
         ·exact m e' n
         ·rw[gO]
          have:=m e (xX b);simp;omega
        ·have hel:=m e (xX b)
         have hyl:(ig (e.cells.take u ++x.cells ++e.cells.drop (u+x.cells.length))).cells.length=sz:=by rw[gO];simp;omega
         rcases L _ m hyl s c f with ⟨N,g⟩|⟨h7,h8,g⟩
         ·rcases N with N|N
          ·exact .inl ⟨by omega,g⟩
          ·exact .inr (.inr ⟨by omega,g⟩)
         ·rw[gO,lJ e.cells x.cells u (s-i*sz) (by omega)]at g
          have W:s=i*sz+(s-i*sz):=by omega
          split at g
          ·refine .inl ⟨by omega, ?_⟩
           rw[W,J m _ (by omega)];exact g
          ·split at g
           ·exact .inr (.inl ⟨by omega,by rw[show s-(i*sz+u)=s-i*sz-u from by omega];exact g⟩)
           ·refine .inr (.inr ⟨by omega, ?_⟩)
            rw[W,J m _ (by omega)];exact g
       ·cases l
     ·cases l
   ·cases l
  ·cases l
 ·cases l
end
end Go.Avm
namespace Go.Avm
open Go.RowKit
variable[aH]
section
variable{P:Program}{G:Gh}{B:Nat}{w0 w:World}{I0:Nat→Nat→Prop}{h:aa}
theorem mb:∀(n:Nat)(a:List (Nat×AV))(xs:List AV),kD n a=some xs→xs.length=a.length∧∀(i:Nat)(p:Nat×AV),a[i]? =some p→p.1=n+i∧xs[i]? =some p.2
 |n,[],xs,h=>by simp[kD]at h;subst h;simp
 |n,(i,x)::r,xs,h=>by
  simp only[kD]at h;split at h
  ·rename_i b
   subst b;simp only[xB]at h;obtain⟨ys,d,rfl⟩:=h;obtain⟨e,c⟩:=mb (i+1) r ys d;refine⟨by simp[e],fun j p hp=> ?_⟩;cases j with
   |zero=>simp only[xj,xA]at hp;subst hp;simp
   |succ j=>
    simp only[yh]at hp;obtain⟨f,h2⟩:=c j p hp;exact⟨by omega,by simpa using h2⟩
  ·cases h
theorem wx(sz:Nat):∀(c:List (Nat×Value))(n:Nat)(cs:Array Value),(∀(i:Nat)(q:Nat×Value),c[i]? =some q→q.1=n+i∧q.2.cells.size=sz)→n*sz+c.length*sz≤cs.size→
    ∃b:Array Value,Instr.fill (fun i=>some (i*sz,sz)) cs c=some b∧b.toList=cs.toList.take (n*sz) ++c.flatMap (fun q=>q.2.cells.toList) ++cs.toList.drop (n*sz+c.length*sz)
 |[],n,cs,_,_=>⟨cs,rfl,by simp⟩
 |(i,v)::r,n,cs,s,m=>by
  obtain⟨o,f⟩:=s 0 (i,v) rfl;simp only[yo]at o f;subst o;have e:i*sz+(r.length+1)*sz≤cs.size:=by simpa using m
  rw[y8,Nat.one_mul]at e;have d:=uB v.cells.toList cs (i*sz) 0 (by simp;omega)
  have a:(v.cells.zipIdx.foldl (fun (cs:Array Value) p=>cs.setIfInBounds (i*sz+p.2) p.1) cs).toList=cs.toList.take (i*sz) ++v.cells.toList ++cs.toList.drop (i*sz+v.cells.size):=by
   rw[←Array.foldl_toList];simpa using d
  have g:(v.cells.zipIdx.foldl (fun (cs:Array Value) p=>cs.setIfInBounds (i*sz+p.2) p.1) cs).size=cs.size:=by
   rw[←xh,a];simp;omega
  obtain⟨b,x,h2⟩:=wx sz r (i+1) (v.cells.zipIdx.foldl (fun (cs:Array Value) p=>cs.setIfInBounds (i*sz+p.2) p.1) cs) (fun j q u=>by
   obtain⟨t,l⟩:=s (j+1) q (by simpa using u);exact⟨by omega,l⟩) (by rw[g,y8,Nat.one_mul];omega)
  refine⟨b, ?_, ?_⟩
  ·simp only[Instr.fill]
   rw[xo (by simp[f];omega)];exact x
  ·rw[h2,a]
   have t:(i+1)*sz=i*sz+sz:=by rw[y8,Nat.one_mul]
   have l:((i,v)::r).length*sz=r.length*sz+sz:=by simp[y8]
   have k:(cs.toList.take (i*sz) ++v.cells.toList).length=i*sz+sz:=by simp[f];omega
   rw[t,l,List.take_left' k,List.drop_append,k,List.drop_eq_nil_of_le (by rw[k];omega)];simp only[yT,yG,List.drop_drop,xa];congr 4;rw[f];omega
theorem DY{xs:List AV}{vs:List Value}{sz:Nat}(s:vs.length=xs.length)(q:∀(i:Nat)(x:AV)(v:Value),xs[i]? =some x→vs[i]? =some v→Rep G w x v)(l:∀x∈xs,x.stor=true∧x.cells.length=sz):
    (∀(i:Nat)(v:Value),vs[i]? =some v→v.cells.size=sz)∧∀(t:Nat)(c:AV),(AV.flat xs)[t]? =some c→∃u,(vs.flatMap fun v=>v.cells.toList)[t]? =some u∧u.oneCell'=true∧Rep G w c u:=by
 have f:∀(i:Nat)(v:Value),vs[i]? =some v→v.cells.size=sz:=by
  intro i v b;have a:i<xs.length:=by rw[←s];exact(xC.1 b).1
  have o:xs[i]? =some xs[i]:=xD a;obtain⟨p,h2⟩:=l xs[i] (yO a);rw[((q i _ v o b).cells p).1,h2]
 refine⟨f,fun t c D=> ?_⟩;obtain⟨i,j,e,rfl,r,m,y⟩:=fg (fun x k=>(l x k).2) D;have a:i<vs.length:=by rw[s];exact(xC.1 m).1
 have b:vs[i]? =some vs[i]:=xD a;obtain⟨p,h2⟩:=l e (xX m);obtain⟨F,z,C⟩:=(q i e _ m b).cells p;have d:j<vs[i].cells.size:=by rw[F,h2];exact r
 have E:vs[i].cells[j]? =some vs[i].cells[j]:=xI d;refine⟨_, ?_,z _ (by rw[xm];exact zC d),C j c _ y E⟩
 rw[bM (fun v:Value=>v.cells.toList) sz vs (fun v n=>by
  obtain⟨A,g⟩:=xg n;simpa using f A v g) i j r,b,yA]
 simp
theorem mA(hr:HR G B w0 I0 h w){obm:Bool}{t:TypeId}{f:Nat}{b:List (Nat×AV)}{a:Array (Nat×Value)}{k:Nat}{out:Out}(g:ez P obm t f b k h=some out)
    (hl:a.size=b.length) (hp:∀(i:Nat)(p:Nat×AV)(q:Nat×Value),b[i]? =some p→a[i]? =some q→p.1=q.1∧Rep G w p.2 q.2):
    out.ob=[]∧∃v w' G',(Instr.buildSlice t f a).run P w= .ok v w'∧Ext G w G' w'∧HR G' B w0 I0 (ap h out.wr) w'∧Rep G' w' out.val v:=by
 unfold ez at g;split at g
 ·rename_i e hu
  split at g
  ·rename_i xs hxs
   split at g
   ·rename_i hc
    obtain⟨F,hsmall,hz,hall⟩:=hc;obtain⟨z,hz⟩:=Option.isSome_iff_exists.1 hz;obtain⟨E,Y⟩:=mb 0 b xs hxs
    have C:∀x∈xs,x.stor=true∧x.cells.length=P.cellsOf e:=fun x H=>by
     have:=xc.1 hall x H;simpa using this
    have O:=DY (G:=G) (w:=w) (xs:=xs) (vs:=a.toList.map (·.2)) (sz:=P.cellsOf e) (by simp[hl,E]) (fun i x v H W=>by
     simp only[xN,xB]at W;obtain⟨q,hq,rfl⟩:=W;have l:i<b.length:=by rw[←E];exact(xC.1 H).1
     have m:b[i]? =some b[i]:=xD l;obtain⟨_,h2⟩:=Y i _ m;rw[H]at h2;simp only[xA]at h2;subst h2;exact(hp i _ q m (by simpa using hq)).2) C
    obtain⟨A,hv2⟩:=O
    have M:∀cs:Array Value,cs.size=f*P.cellsOf e→∃d:Array Value,Instr.fill (fun i=>some (i*P.cellsOf e,P.cellsOf e)) cs a.toList=some d∧d.toList=(a.toList.map (·.2)).flatMap fun v=>v.cells.toList:=by
     intro cs o;have hvl:a.toList.length=f:=by simp[hl,←E,F]
     obtain⟨d,J,h2⟩:=wx (P.cellsOf e) a.toList 0 cs (fun i q hq=>by
      have l:i<b.length:=by rw[←hl,←xh];exact(xC.1 hq).1
      have m:b[i]? =some b[i]:=xD l;refine⟨?_,A i q.2 (by simp[hq])⟩;rw[←(hp i _ q m (by simpa using hq)).1,(Y i _ m).1]) (by rw[hvl,o];omega)
     refine⟨d,J, ?_⟩;rw[h2,hvl];simp[o,List.flatMap_map]
    have hkn:∀w,(sizeOf e).run P w= .ok (P.cellsOf e) w:=by
     intro w;unfold df at hz;cases hi:P.info? e with
     |none=>simp[hi]at hz
     |some i=>simp[sizeOf,typeInfo,hi,Program.cellsOf]
    have n:∃d:Array Value,(Instr.buildSlice t f a).run P w= .ok (.slice (some ⟨w.heap.size,0,none⟩) f f) (w.alloc (.cells d e))∧d.toList=(a.toList.map (·.2)).flatMap fun v=>v.cells.toList:=by
     have hsm:¬(f*P.cellsOf e>2^24):=by omega
     by_cases h0:f*P.cellsOf e=0
     ·obtain⟨d,J,h2⟩:=M #[] (by simp[h0])
      refine⟨d, ?_,h2⟩;have h9:Array.map (fun _:Nat=>(default:Value)) (Array.range 0)= #[]:=by simp
      simp[Instr.buildSlice,run_underlying hu,hkn,h0,h9,J,newRow]
     ·obtain⟨d,J,h2⟩:=M ((Array.range (f*P.cellsOf e)).map (fun i=>z.cells[i % z.cells.size]!)) (by simp)
      refine⟨d, ?_,h2⟩;simp only[Instr.buildSlice,Sem.run_bind,run_underlying hu,hkn,Result.andThen_ok,xo hsm,h0,yi,cQ hz,Sem.run_pure,Sem.run_ite,pure_bind];simp[J,newRow]
    obtain⟨d,n,o⟩:=n
    have K:d.size=f*P.cellsOf e:=by
     rw[←xh,o,cG (fun v:Value=>v.cells.toList) (P.cellsOf e) _ (fun v X=>by
      obtain⟨i',V⟩:=xg X;simpa using A i' v V)]
     simp[hl,←E,F]
    have R:∀(t:Nat)(c:AV),(AV.flat xs)[t]? =some c→∃u:Value,d[t]? =some u∧u.oneCell'=true∧Rep G w c u:=fun t c ht=>by
     obtain⟨u,hu,J,h2⟩:=hv2 t c ht;exact⟨u,by rw[←xi,o];exact hu,J,h2⟩
    split at g
    ·split at g
     ·cases g
     ·rename_i hlo
      simp only[xA]at g;subst g
      obtain⟨g1,g2⟩:=hr.newOb k (P.cellsOf e) f xs d e K (by omega) (fun x H=>(C x H).2) (fun J x H=>by
       cases hxa:xs.all AV.lone with
       |true=>exact xc.1 hxa x H
       |false=>exact absurd ⟨J,hxa⟩ hlo) R
      refine⟨rfl,_,_,_,n,g2,g1, ?_⟩;have:=Rep.sl (w:=w.alloc (.cells d e)) k ((h k).ver+1) 0 f f _ (Gh.at_same G k ((h k).ver+1) ⟨w.heap.size,P.cellsOf e,f,0,e⟩) (by simp) (xL _);simpa using this
    ·split at g
     ·rename_i r U
      split at g
      ·cases g
      ·rename_i hk
       simp only[xA]at g;subst g;obtain⟨ys,ks⟩:=r;simp only at hk;have hr1:=hr.kill ks;have hex1:=Ext.froz hr ks;have I:=iO U
       have hys:∀(i:Nat)(y:D),ys[i]? =some y→∃x v,xs[i]? =some x∧(a.toList.map (·.2))[i]? =some v∧DRep (dp G h ks) w y v:=by
        intro i y Z;have l:i<xs.length:=by rw[←I.1];exact(xC.1 Z).1
        obtain⟨y',k',N,hvw,hk'⟩:=I.2 i xs[i] (xD l);rw[Z]at N;simp only[xA]at N;subst N;have L:i<b.length:=by rw[←E];exact l
        have m:b[i]? =some b[i]:=xD L;have hltq:i<a.size:=by rw[hl];exact L
        have hqe:a[i]? =some a[i]:=xI hltq;have Q:=(Y i _ m).2;rw[xD l]at Q;simp only[xA]at Q;refine⟨xs[i],a[i].2,xD l,by simp[hqe], ?_⟩;have hrp:=(hp i _ _ m hqe).2;rw[←Q]at hrp;exact(dM hr 3 _ _ _ _ hvw hrp).mono (hF hk') (fun _ _ _=>rfl)
       have hyc:∀y∈ys,y.cells.length=P.cellsOf e:=by
        intro y Z;obtain⟨i,hi⟩:=xg Z;obtain⟨x,v,H,W,hd⟩:=hys i y hi;rw[hd.cells.1,A i v W]
       have hnew:=hr1.newVec k (P.cellsOf e) f ys d e K (by rw[I.1];omega) hyc (fun t c ht=>by
        obtain⟨i,j,y,rfl,hj,Z,hc⟩:=fg hyc ht;obtain⟨x,v,H,W,hd⟩:=hys i y Z;obtain⟨d1,d2,d3⟩:=hd.cells;have hjl:j<v.cells.size:=by rw[A i v W];exact hj
        have hu':v.cells[j]? =some v.cells[j]:=xI hjl;refine⟨_, ?_,d2 c (xX hc),d3 j c _ hc hu'⟩
        rw[←xi,o,bM (fun v:Value=>v.cells.toList) (P.cellsOf e) _ (fun v X=>by
         obtain⟨i',V⟩:=xg X;simpa using A i' v V) i j hj,W,yA]
        simp)
       obtain⟨G',g1,g2,g3⟩:=hnew;have T:ap h (kill h ks) k=h k:=by rw[bo,xo hk]
       rw[T]at g1 g3;refine⟨rfl,_,_,G',n,hex1.trans g2, ?_, ?_⟩
       ·have:ap h ((k,⟨(h k).ver+1,none⟩)::kill h ks)=aG (ap h (kill h ks)) k ⟨(h k).ver+1,none⟩:=by
          funext s;simp only[ap];rw[bo];by_cases S:s=k
          ·subst S;simp[hk,aG]
          ·rw[ag _ _ S,ag _ _ S,bo]
        rw[this];exact g1
       ·have hyl:ys.length=f:=by rw[I.1,F]
        rw[hyl]at g3;exact g3
     ·cases g
   ·cases g
  ·cases g
 ·cases g
theorem na(hr:HR G B w0 I0 h w){t:TypeId}{x ix:AV}{S vi:Value}(M:Rep G w x S)(J:Rep G w ix vi){out:Out}(f:fq P t x ix h=some out):
    out.ob=[]∧out.wr=[]∧∃v,(Instr.indexAt t S vi).run P w= .ok v w∧Rep G w out.val v:=by
 unfold fq at f;split at f
 ·rename_i e kd i O
  cases J with
  |d E=>
   cases E
   have K:∀(l:List D),DRep G.imm w (.ro l) S→(if 0≤i then match l[i.toNat]? with
       |some y=>if y.cells.length=P.cellsOf e∧cy P e=true then some ({val:= .d (.rp y.cells)}:Out)else none
       |none=>none else none)=some out→out.ob=[]∧out.wr=[]∧∃v,(Instr.indexAt t S (.int kd i)).run P w= .ok v w∧Rep G w out.val v:=by
    intro l Q r;split at r
    ·rename_i I
     split at r
     ·rename_i y T
      split at r
      ·rename_i p
       obtain⟨W,g⟩:=p;simp only[xA]at r;subst r;have X:=(xC.1 T).1;cases Q with
       |roNil=>simp at X
       |ro _ b o c sz U N F h1 J p H=>
        have u:=F y (xX T);have z:sz=P.cellsOf e:=by rw[←u,W]
        refine⟨rfl,rfl, .pointer (some ⟨b,o+i.toNat*sz,none⟩), ?_, .d (.rp y.cells b (o+i.toNat*sz) (fun j=>U (i.toNat*sz+j)) (fun c C=> ?_) ?_ ?_ ?_)⟩
        ·have m:i<(l.length:Int):=by omega
         simp[Instr.indexAt,asIntOf,run_underlying O,I,m,bv g,dn,z]
        ·exact h1 c (List.mem_flatMap.2 ⟨y,xX T,C⟩)
        all_goals
         intro j c hj;have Z:j<sz:=by rw[←u];exact(xC.1 hj).1
         have A:(D.flat l)[i.toNat*sz+j]? =some c:=by rw[D.flat,bM _ sz l F _ j Z,T,yA,hj]
        ·have:=J _ c A;rwa [←yk]at this
        ·have:=p _ c A;rwa [←yk]at this
        ·exact H _ c A
      ·cases r
     ·cases r
    ·cases r
   split at f
   ·exact K _ M.toDRep f
   ·rename_i k ver sz l
    refine K l ?_ f;cases M with
    |vecNil=>exact .roNil _ _
    |vec _ _ _ L V hfr hlen F Q=>exact Q
   ·rename_i k v q len sz
    split at f
    ·rename_i p
     obtain⟨z,g,I,m⟩:=p;simp only[xA]at f;subst f;cases M with
     |slNil=>omega
     |sl _ _ _ _ c L V N hlc=>
      refine⟨rfl,rfl, .pointer (some ⟨L.b,(q+i.toNat)*L.sz+0,none⟩), ?_, .ptr k _ _ 0 L V⟩;have a:i<(len:Int):=by omega
      have:q*L.sz+i.toNat*P.cellsOf e=(q+i.toNat)*L.sz:=by rw[y8,z]
      simp[Instr.indexAt,asIntOf,run_underlying O,I,a,bv g,dn,this]
    ·cases f
   ·cases f
 ·rename_i n e kd i O
  cases J with
  |d E=>
   cases E;split at f
   ·rename_i k v j q sz
    split at f
    ·rename_i p
     obtain⟨Y,rfl,g,I,m⟩:=p;simp only[xA]at f;subst f;cases M with
     |ptr _ _ _ _ L V=>
      have a:i<(n:Int):=by omega
      refine⟨rfl,rfl, .pointer (some ⟨L.b,(j+i.toNat*P.cellsOf e)*L.sz+0,none⟩), ?_, .ptr k _ _ 0 L V⟩;have:j*L.sz+i.toNat*P.cellsOf e=(j+i.toNat*P.cellsOf e)*L.sz:=by rw[Y];omega
      simp[Instr.indexAt,asIntOf,Instr.sureAddr,run_underlying O,I,a,bv g,dn,this]
    ·cases f
   ·rename_i cs
    split at f
    ·rename_i p
     obtain⟨g,I,m⟩:=p;simp only[xA]at f;subst f;cases M with
     |d Q=>
      cases Q with
      |rp _ b o U h1 J p H=>
       have a:i<(n:Int):=by omega
       refine⟨rfl,rfl, .pointer (some ⟨b,o+i.toNat*P.cellsOf e,none⟩), ?_, .d (.rp _ b _ (fun s=>U (i.toNat*P.cellsOf e+s)) (fun c C=>h1 c (y9 C)) ?_ ?_ ?_)⟩
       ·simp[Instr.indexAt,asIntOf,Instr.sureAddr,run_underlying O,I,a,bv g,dn]
       all_goals
        intro s c R;rw[xu]at R
       ·have:=J _ c R;rwa [←yk]at this
       ·have:=p _ c R;rwa [←yk]at this
       ·exact H _ c R
    ·cases f
   ·cases f
 ·cases f
end
end Go.Avm
namespace Go.Avm
open Go.RowKit
variable[aH]
section
variable{P:Program}{G:Gh}{B:Nat}{w0 w:World}{I0:Nat→Nat→Prop}{h:aa}
theorem nb{t:TypeId}{f d fs:Nat}(hp:hE P t f=some (d,fs)):∃(a:Array Field)(b:Field),fieldsOf P t=some a∧P.underlying t=some (.struct a)∧a[f]? =some b∧b.offset=d∧P.cellsOf b.type=fs:=by
 simp only[hE,yj,xB,xE]at hp;obtain⟨a,e,b,c,g,h2⟩:=hp;exact⟨a,b,e,m9 e,c,g,h2⟩
theorem qH{t:TypeId}{a:Array Field}(d:kC P t=true)(e:fieldsOf P t=some a){f:Nat}{c:Field}(b:a[f]? =some c):cy P c.type=true:=by
 unfold kC at d;rw[e]at d;exact xc.1 d c (by rw[xm];exact yv b)
theorem nc(M:HR G B w0 I0 h w){t:TypeId}{x:AV}{l:Value}(E:Rep G w x l){f:Nat}{out:Out}(a:kF P t x f h=some out):
    out.ob=[]∧out.wr=[]∧∃v,(Instr.fieldAt t l f).run P w= .ok v w∧Rep G w out.val v:=by
 unfold kF at a;split at a
 ·rename_i n fs hp y
  obtain⟨m,N,J,I,g,D,h2⟩:=nb hp;have u:=qH y J g;split at a
  ·cases a
  ·rename_i p
   have e:∀(b o:Nat),l= .pointer (some ⟨b,o,none⟩)→(Instr.fieldAt t l f).run P w= .ok (.pointer (some ⟨b,o+n,none⟩)) w:=by
    rintro b o rfl;simp[Instr.fieldAt,run_underlying I,g,Instr.sureAddr,fieldPlace,bv u,h2,p,dn,D]
   split at a
   ·rename_i cs
    simp only[xA]at a;subst a;cases E with
    |d K=>
     cases K with
     |rp _ b o U D H q z=>
      refine⟨rfl,rfl,_,e b o rfl, .d (.rp _ b _ (fun s=>U (n+s)) (fun c C=>D c (y9 C)) ?_ ?_ ?_)⟩
      all_goals
       intro s c j;rw[xu]at j
      ·have:=H _ c j;rwa [←yk]at this
      ·have:=q _ c j;rwa [←yk]at this
      ·exact z _ c j
   ·rename_i k v i A sz
    cases E with
    |ptr _ _ _ _ L F=>
     split at a
     ·rename_i r
      split at a
      ·rename_i q
       subst q;simp only[xA]at a;subst a;refine⟨rfl,rfl,_,e L.b _ rfl, ?_⟩;have:=Rep.ptr (w:=w) k v (i+n) 0 L F;rw[r]at this ⊢;simpa [yk]using this
      ·cases a
     ·simp only[xA]at a
      subst a;refine⟨rfl,rfl,_,e L.b _ rfl, ?_⟩;have:=Rep.ptr (w:=w) k v i (A+n) L F;rwa [←yk]at this
   ·cases a
 ·cases a
theorem wy{t:TypeId}(a:lS P t=some true)(cs:Array Value)(o:Nat)(w:World):(part t cs o).run P w= .ok (.agg (cs.extract o (o+P.cellsOf t))) w:=by
 obtain⟨d,b⟩:=wv a;simp[part,jL a,pa b]
theorem il{t:TypeId}(b:lS P t=some false)(cs:Array Value)(o:Nat)(v:Value)(a:cs[o]? =some v)(w:World):(part t cs o).run P w= .ok v w:=by
 simp[part,jL b,a]
theorem sO{t:TypeId}{x:AV}{K:Value}(E:Rep G w x K){f:Nat}{out:Out}(m:uy P t x f=some out):
    out.ob=[]∧out.wr=[]∧∃v,(Instr.field t K f).run P w= .ok v w∧Rep G w out.val v:=by
 have F:∀{k fs:Nat}{b:Bool},hE P t f=some (k,fs)→qu P t f=some b→∃(a:Array Field)(q:Field),P.underlying t=some (.struct a)∧a[f]? =some q∧q.offset=k∧P.cellsOf q.type=fs∧lS P q.type=some b:=by
  intro k fs b hp s;obtain⟨a,q,L,y,g,p,h2⟩:=nb hp;simp only[qu,L,yA,g]at s;exact⟨a,q,y,g,p,h2,s⟩
 have ext:∀(vs:Array Value)(o n i:Nat),(vs.extract o (o+n))[i]? =if i<n then vs[o+i]? else none:=by
  intro vs o n i;rw[Array.getElem?_extract];by_cases p:i<n
  ·by_cases h2:o+i<vs.size
   ·rw[xf (by omega),xf p]
   ·rw[xo (by omega),xf p,Array.getElem?_eq_none (by omega)]
  ·rw[xo (by omega),xo p]
 unfold uy at m;split at m
 ·rename_i k fs cs hp s
  obtain⟨a,q,y,g,p,h2,A⟩:=F hp s;split at m
  ·rename_i I
   simp only[xA]at m;subst m;cases E with
   |d J=>
    cases J with
    |agg _ vs D r l=>
     refine⟨rfl,rfl, .agg (vs.extract k (k+fs)),by simp[Instr.field,run_underlying y,g,asAgg,wy A,p,h2], .d (.agg _ _ (by simp;omega) (fun c j=>r c (y9 (yL j))) (fun i c u j e=> ?_))⟩;rw[yD]at j;rw[ext]at e;split at j
     ·rename_i H
      rw[xf H]at e;rw[xu]at j;exact l _ c u j e
     ·cases j
  ·cases m
 ·rename_i k fs cs hp s
  obtain⟨a,q,y,g,p,h2,A⟩:=F hp s;simp only[xB]at m;obtain⟨c,j,rfl⟩:=m;cases E with
  |d J=>
   cases J with
   |agg _ vs D r l=>
    have z:k<vs.size:=by rw[D];exact(xC.1 j).1
    have C:vs[k]? =some vs[k]:=xI z;exact⟨rfl,rfl,_,by simp[Instr.field,run_underlying y,g,asAgg,il A vs q.offset _ (by rw[p];exact C)], .d (l k c _ j C)⟩
 ·rename_i k fs cs hp s
  obtain⟨a,q,y,g,p,h2,A⟩:=F hp s;split at m
  ·rename_i I
   simp only[xA]at m;subst m;cases E with
   |agg _ vs D r l=>
    refine⟨rfl,rfl, .agg (vs.extract k (k+fs)),by simp[Instr.field,run_underlying y,g,asAgg,wy A,p,h2],ji (by simp;omega) (fun i u e=> ?_) (fun i c u j e=> ?_)⟩
    ·rw[ext]at e
     split at e
     ·exact r _ u e
     ·cases e
    ·rw[yD]at j
     rw[ext]at e;split at j
     ·rename_i H
      rw[xf H]at e;rw[xu]at j;exact l _ c u j e
     ·cases j
  ·cases m
 ·rename_i k fs cs hp s
  obtain⟨a,q,y,g,p,h2,A⟩:=F hp s;simp only[xB]at m;obtain⟨c,j,rfl⟩:=m;cases E with
  |agg _ vs D r l=>
   have z:k<vs.size:=by rw[D];exact(xC.1 j).1
   have C:vs[k]? =some vs[k]:=xI z;exact⟨rfl,rfl,_,by simp[Instr.field,run_underlying y,g,asAgg,il A vs q.offset _ (by rw[p];exact C)],l k c _ j C⟩
 ·cases m
theorem wz{op:BinOp}{x y r:AV}{q s:Value}{t:TypeId}(j:Rep G w x q)(l:Rep G w y s)(c:Cr op x y=some r):
    ∃v,(∀i g,(eqGuard op t i g q s).run P w= .ok () w)∧(binOp op t q s).run P w= .ok v w∧Rep G w r v:=by
 unfold Cr at c;split at c
 ·rename_i k a D b
  cases j with
  |d j=>
   cases j;cases l with
   |d l=>
    cases l
    have e:∀i g,(eqGuard op t i g (.int k a) (.int D b)).run P w= .ok () w:=by
     intro i g;cases op<;>simp[eqGuard]
    split at c
    ·split at c
     ·rename_i m
      simp only[xA]at c;subst c;exact⟨_,e,by simp[binOp,Op.shift,Int.not_lt.2 m], .d (.int _ _)⟩
     ·cases c
    ·split at c
     ·rename_i m
      simp only[xA]at c;subst c;exact⟨_,e,by simp[binOp,Op.shift,Int.not_lt.2 m], .d (.int _ _)⟩
     ·cases c
    ·rename_i z E
     split at c
     ·rename_i C
      subst C;split at c
      ·simp only[xA]at c;subst c;exact⟨_,e,by simp[binOp,Op.intArith], .d (.int _ _)⟩
      ·simp only[xA]at c;subst c;exact⟨_,e,by simp[binOp,Op.intArith], .d (.int _ _)⟩
      ·simp only[xA]at c;subst c;exact⟨_,e,by simp[binOp,Op.intArith], .d (.int _ _)⟩
      ·split at c
       ·cases c
       ·rename_i f
        simp only[xA]at c;subst c;exact⟨_,e,by simp[binOp,Op.intDiv,f], .d (.int _ _)⟩
      ·split at c
       ·cases c
       ·rename_i f
        simp only[xA]at c;subst c;exact⟨_,e,by simp[binOp,Op.intDiv,f], .d (.int _ _)⟩
      ·simp only[xA]at c;subst c;exact⟨_,e,by simp only[binOp,Op.intBits,ne_eq,not_true_eq_false,yi,Sem.run_pure], .d (.int _ _)⟩
      ·simp only[xA]at c;subst c;exact⟨_,e,by simp only[binOp,Op.intBits,ne_eq,not_true_eq_false,yi,Sem.run_pure], .d (.int _ _)⟩
      ·simp only[xA]at c;subst c;exact⟨_,e,by simp only[binOp,Op.intBits,ne_eq,not_true_eq_false,yi,Sem.run_pure], .d (.int _ _)⟩
      ·simp only[xA]at c;subst c;exact⟨_,e,by simp[binOp,Op.intCmp], .d (.bool _)⟩
      ·simp only[xA]at c;subst c;exact⟨_,e,by simp[binOp,Op.intCmp], .d (.bool _)⟩
      ·simp only[xA]at c;subst c;exact⟨_,e,by simp[binOp,Op.intCmp], .d (.bool _)⟩
      ·simp only[xA]at c;subst c;exact⟨_,e,by simp[binOp,Op.intCmp], .d (.bool _)⟩
      ·simp only[xA]at c;subst c;exact⟨_,e,by simp[binOp,Op.intCmp], .d (.bool _)⟩
      ·simp only[xA]at c;subst c;exact⟨_,e,by simp[binOp,Op.intCmp], .d (.bool _)⟩
      ·cases c
     ·cases c
 ·rename_i a b
  cases j with
  |d j=>
   cases j with
   |str _ p A=>
   cases l with
   |d l=>
    cases l with
    |str _ o m=>
    subst A;subst m
    have e:∀i g,(eqGuard op t i g (.string p) (.string o)).run P w= .ok () w:=by
     intro i g;cases op<;>simp[eqGuard]
    split at c
    ·split at c
     ·rename_i u
      simp only[xA]at c;subst c
      have n:¬(((p.size+o.size:Nat):Int)>IntKind.i64.max):=by
       have F:p.data.toList.length=p.size:=by simp
       have h2:o.data.toList.length=o.size:=by simp
       rw[F,h2]at u;have:IntKind.i64.max=9223372036854775807:=by decide
       rw[this];omega
      exact⟨.string (p ++o),e,by simp only[binOp,Op.stringOp,xo n,Sem.run_pure], .d (.str _ _ (by simp))⟩
     ·cases c
    all_goals first
     |(simp only[xA]at c;subst c;exact⟨_,e,by simp[binOp,Op.stringOp,ut], .d (.bool _)⟩)
     |cases c
 ·cases c
theorem pe{I:Nat→Nat→Prop}{t:TypeId}{x y:D}{b:Bool}{u v:Value}(d:Nat)(e:DRep I w x u)(f:DRep I w y v)(a:wu P t x y=some b):(Op.equalIn (d+1) t u v).run P w= .ok b w:=by
 unfold wu at a;split at a
 ·rename_i c
  split at a
  ·rename_i i
   subst i;cases a;cases e;cases f;exact run_equalIn_int w d t _ _ _ _ c
  ·cases a
 ·rename_i c
  cases a;cases e;cases f;exact run_equalIn_bool w d t _ _ c
 ·rename_i c
  cases a;cases e with
  |str _ s j=>
  cases f with
  |str _ k g=>
  rw[run_equalIn_string w d t _ _ c,ByteArray.toList_eq,ByteArray.toList_eq,j,g]
 ·cases a
theorem gY{I:Nat→Nat→Prop}(d:Nat)(vs g:Array Value):∀(fs:List Field)(i:Nat)(xs ys:List D)(b:Bool),cX P fs i xs ys=some b→
    (∀(j:Nat)(x:D),xs[j]? =some x→∃u,vs[i+j]? =some u∧DRep I w x u)→(∀(j:Nat)(x:D),ys[j]? =some x→∃u,g[i+j]? =some u∧DRep I w x u)→(Op.eqFields (d+1) vs g fs).run P w= .ok b w
 |[],i,[],[],b,c,_,_=>by
  simp only[cX,xA]at c;subst c;simp[Op.eqFields]
 |[],i,x::xs,ys,b,c,_,_=>by simp[cX]at c
 |[],i,[],y::ys,b,c,_,_=>by simp[cX]at c
 |f::fs,i,[],ys,b,c,_,_=>by simp[cX]at c
 |f::fs,i,x::xs,[],b,c,_,_=>by simp[cX]at c
 |f::fs,i,x::xs,y::ys,b,c,p,h2=>by
  rw[cX]at c;split at c;case isFalse=>cases c
  rename_i e;split at c;case h_2=>cases c
  rename_i a z s t;cases c;obtain⟨u,o,l⟩:=p 0 x rfl;obtain⟨v,n,k⟩:=h2 0 y rfl;rw[yo]at o n;have q:=pe d l k s
  have r:=gY d vs g fs (i+1) xs ys z t (fun j x m=>by
   have:=p (j+1) x m;rwa [show i+(j+1)=i+1+j by omega]at this) (fun j x m=>by
   have:=h2 (j+1) x m;rwa [show i+(j+1)=i+1+j by omega]at this)
  simp only[Op.eqFields,e.1,ne_eq,not_false_eq_true,yS,Sem.run_bind,e.2.1,il e.2.2 vs i u o,il e.2.2 g i v n,Result.andThen_ok,q];cases a with
  |false=>simp
  |true=>simpa using r
theorem kP{I:Nat→Nat→Prop}(d:Nat){e:TypeId}(p:P.cellsOf e=1)(m:lS P e=some false)(vs f:Array Value):∀(xs ys:List D)(i:Nat)(b:Bool),ii P e xs ys=some b→
    (∀(j:Nat)(x:D),xs[j]? =some x→∃u,vs[i+j]? =some u∧DRep I w x u)→(∀(j:Nat)(x:D),ys[j]? =some x→∃u,f[i+j]? =some u∧DRep I w x u)→(Op.eqItems (d+1) e (P.cellsOf e) vs f (List.range' i xs.length)).run P w= .ok b w
 |[],[],i,b,c,_,_=>by
  simp only[ii,xA]at c;subst c;simp[Op.eqItems]
 |[],y::ys,i,b,c,_,_=>by simp[ii]at c
 |x::xs,[],i,b,c,_,_=>by simp[ii]at c
 |x::xs,y::ys,i,b,c,s,h2=>by
  rw[ii]at c;split at c;case h_2=>cases c
  rename_i a A n z;cases c;obtain⟨u,q,k⟩:=s 0 x rfl;obtain⟨v,o,g⟩:=h2 0 y rfl;rw[yo]at q o;have t:=pe d k g n
  have r:=kP d p m vs f xs ys (i+1) A z (fun j x l=>by
   have:=s (j+1) x l;rwa [show i+(j+1)=i+1+j by omega]at this) (fun j x l=>by
   have:=h2 (j+1) x l;rwa [show i+(j+1)=i+1+j by omega]at this)
  rw[xG,zI];rw[p]at r ⊢;simp only[Op.eqItems,Sem.run_bind,Nat.mul_one,il m vs i u q,il m f i v o,Result.andThen_ok,t];cases a with
  |false=>simp
  |true=>simpa using r
theorem AZ{op:BinOp}{x y:AV}{b:Bool}{F H:Value}{t:TypeId}(q:Rep G w x F)(r:Rep G w y H)(p:Mp P t x y=some b)(A:op= .eql∨op= .neq):
    (∀z v,(eqGuard op t z v F H).run P w= .ok () w)∧(binOp op t F H).run P w= .ok (.bool (if op= .eql then b else !b)) w:=by
 unfold Mp at p;split at p
 ·rename_i a c C
  simp only[xA]at p;subst p;cases q with
  |d q=>
   cases q;cases r with
   |d r=>
    cases r
    have L:∀d:Nat,(Op.equalIn (d+1) t (.bool a) (.bool c)).run P w= .ok (a==c) w:=fun d=>by
     simp only[Op.equalIn,Sem.run_bind,run_underlying C,Result.andThen_ok,Sem.run_pure]
    have D:(Op.equal t (.bool a) (.bool c)).run P w= .ok (a==c) w:=L 9999;rcases A with rfl|rfl
    ·refine⟨fun z v=>by simp[eqGuard], ?_⟩
     simp only[binOp,Sem.run_bind,D,Result.andThen_ok,Sem.run_pure,yS]
    ·refine⟨fun z v=>by simp[eqGuard], ?_⟩
     simp only[binOp,Sem.run_bind,D,Result.andThen_ok,Sem.run_pure];rfl
 ·rename_i fs xs ys C
  split at p;case isFalse=>cases p
  rename_i s;cases q with
  |d q=>
  cases q with
  |agg _ vs J O m=>
  cases r with
  |d r=>
  cases r with
  |agg _ k u E l=>
  have K:P.fieldsOf t=fs:=by unfold Program.fieldsOf;rw[C]
  have f:(Op.equalIn 10000 t (.agg vs) (.agg k)).run P w= .ok b w:=by
   rw[show(10000:Nat)=9999+1 from rfl,run_equalIn_struct w 9999 t vs k (by rw[K];exact C) s.1,K];refine gY (I:=G.imm) 9998 vs k fs.toList 0 xs ys b p (fun j x o=> ?_) (fun j x o=> ?_)
   ·have g:j<vs.size:=by rw[J];exact(xC.1 o).1
    have:vs[j]? =some vs[j]:=xI g;exact⟨_,by rw[x8];exact this,m j x _ o this⟩
   ·have g:j<k.size:=by rw[u];exact(xC.1 o).1
    have:k[j]? =some k[j]:=xI g;exact⟨_,by rw[x8];exact this,l j x _ o this⟩
  refine⟨fun z v=>run_eqGuard_agg w op t z v vs k s.2, ?_⟩;rcases A with rfl|rfl
  ·rw[run_eql_struct,f];rfl
  ·rw[run_neq_struct,f];rfl
 ·rename_i n e xs ys C
  split at p;case isFalse=>cases p
  rename_i s;cases q with
  |d q=>
  cases q with
  |agg _ vs J O m=>
  cases r with
  |d r=>
  cases r with
  |agg _ k u E l=>
  obtain⟨i,M⟩:∃i,P.info? e=some i:=by
   have h:=s.2.2.1;simp only[lS,xB]at h;obtain⟨d,N,_⟩:=h;exact ik N
  have f:(Op.equalIn 10000 t (.agg vs) (.agg k)).run P w= .ok b w:=by
   rw[show(10000:Nat)=9999+1 from rfl,run_equalIn_array w 9999 vs k C M,List.range_eq_range',←s.1];refine kP (I:=G.imm) 9998 s.2.1 s.2.2.1 vs k xs ys 0 b p (fun j x o=> ?_) (fun j x o=> ?_)
   ·have g:j<vs.size:=by rw[J];exact(xC.1 o).1
    have:vs[j]? =some vs[j]:=xI g;exact⟨_,by rw[x8];exact this,m j x _ o this⟩
   ·have g:j<k.size:=by rw[u];exact(xC.1 o).1
    have:k[j]? =some k[j]:=xI g;exact⟨_,by rw[x8];exact this,l j x _ o this⟩
  refine⟨fun z v=>run_eqGuard_agg w op t z v vs k s.2.2.2, ?_⟩;rcases A with rfl|rfl
  ·rw[run_eql_struct,f];rfl
  ·rw[run_neq_struct,f];rfl
 ·cases p
theorem wA{x y:AV}{b:Bool}{r s:Value}{t e:TypeId}(c:Rep G w x r)(f:Rep G w y s)(n:P.underlying t=some (.pointer e))(g:Fd P e x y=some b):
    ∃p q,r= .pointer p∧s= .pointer q∧∀d:Nat,(Op.equalIn (d+1) t (.pointer p) (.pointer q)).run P w= .ok b w:=by
 have o:∀(q:Option Addr)(d:Nat),(Op.equalIn (d+1) t (.pointer none) (.pointer q)).run P w= .ok q.isNone w:=fun q d=>by
  simp only[Op.equalIn,Sem.run_bind,run_underlying n,Result.andThen_ok,Sem.run_pure]
 have A:∀(a:Addr)(d:Nat),(Op.equalIn (d+1) t (.pointer (some a)) (.pointer none)).run P w= .ok false w:=fun a d=>by
  simp only[Op.equalIn,Sem.run_bind,run_underlying n,Result.andThen_ok,Sem.run_pure]
 unfold Fd at g;split at g
 ·cases g;cases c with|d c=>cases c;cases f with|d f=>cases f;exact⟨_,_,rfl,rfl,o none⟩
 ·cases g;cases c;cases f with|d f=>cases f;exact⟨_,_,rfl,rfl,A _⟩
 ·cases g;cases c with|d c=>cases c;cases f;exact⟨_,_,rfl,rfl,o _⟩
 ·cases g;cases c with|d c=>cases c;cases f with|d f=>cases f;exact⟨_,_,rfl,rfl,A _⟩
 ·cases g;cases c with|d c=>cases c;cases f with|d f=>cases f;exact⟨_,_,rfl,rfl,o _⟩
 ·split at g
  ·rename_i k v i E sz J v' I z H C
   obtain⟨rfl,rfl,D,m,K⟩:=C;cases g;cases c with
   |ptr _ _ _ _ L F=>
   cases f with
   |ptr _ _ _ _ M l=>
   rw[F]at l;cases l;refine⟨_,_,rfl,rfl,fun d=> ?_⟩;unfold cy at m;cases u:P.info? e with
   |none=>rw[u]at m;cases m
   |some j=>
    rw[D];simp only[Op.equalIn,Sem.run_bind,run_underlying n,Result.andThen_ok,Sem.run_pure];simp[sizeOf,typeInfo,u,sameAddr]
  ·cases g
 ·cases g
theorem pf{op:BinOp}{s r:Operand}{x y:AV}{b:Bool}{n o:Value}{t:TypeId}(i:Rep G w x n)(f:Rep G w y o)(g:Cs P t s r x y=some b)(c:op= .eql∨op= .neq):
    (eqGuard op t s r n o).run P w= .ok () w∧(binOp op t n o).run P w= .ok (.bool (if op= .eql then b else !b)) w:=by
 unfold Cs at g;split at g
 ·rename_i v u k
  simp only[xA]at g;subst g;cases i with
  |d i=>
  cases i;cases f with
  |d f=>
  cases f
  have j:∀d:Nat,(Op.equalIn (d+1) t .nilIface .nilIface).run P w= .ok true w:=fun d=>by
   simp only[Op.equalIn,Sem.run_bind,run_underlying k,Result.andThen_ok,Sem.run_pure]
  have a:(Op.equal t .nilIface .nilIface).run P w= .ok true w:=j 9999;refine⟨?_, ?_⟩
  ·cases s<;>cases r<;>first
     |(simp[Fc]at u;done)
     |(rcases c with rfl|rfl<;>simp[eqGuard])
  ·rcases c with rfl|rfl
   ·simp only[binOp,Sem.run_bind,a,Result.andThen_ok,Sem.run_pure,yS]
   ·simp only[binOp,Sem.run_bind,a,Result.andThen_ok,Sem.run_pure]
    rfl
 ·rename_i v u k
  simp only[xA]at g;subst g;cases i with
  |d i=>
  cases i with
  |ifc m l=>
  cases f with
  |d f=>
  cases f
  have j:∀d:Nat,(Op.equalIn (d+1) t (.iface m l) .nilIface).run P w= .ok false w:=fun d=>by
   simp only[Op.equalIn,Sem.run_bind,run_underlying k,Result.andThen_ok,Sem.run_pure]
  have a:(Op.equal t (.iface m l) .nilIface).run P w= .ok false w:=j 9999;refine⟨?_, ?_⟩
  ·rcases c with rfl|rfl<;>simp[eqGuard]
  ·rcases c with rfl|rfl
   ·simp only[binOp,Sem.run_bind,a,Result.andThen_ok,Sem.run_pure,yS]
   ·simp only[binOp,Sem.run_bind,a,Result.andThen_ok,Sem.run_pure]
    rfl
 ·rename_i v m A k
  simp only[xA]at g;subst g;cases i with
  |iv _ l _=>
  cases f with
  |d f=>
  cases f
  have j:∀d:Nat,(Op.equalIn (d+1) t (.iface m l) .nilIface).run P w= .ok false w:=fun d=>by
   simp only[Op.equalIn,Sem.run_bind,run_underlying k,Result.andThen_ok,Sem.run_pure]
  have a:(Op.equal t (.iface m l) .nilIface).run P w= .ok false w:=j 9999;refine⟨?_, ?_⟩
  ·rcases c with rfl|rfl<;>simp[eqGuard]
  ·rcases c with rfl|rfl
   ·simp only[binOp,Sem.run_bind,a,Result.andThen_ok,Sem.run_pure,yS]
   ·simp only[binOp,Sem.run_bind,a,Result.andThen_ok,Sem.run_pure]
    rfl
 ·rename_i e k
  obtain⟨p,q,rfl,rfl,j⟩:∃p q,n= .pointer p∧o= .pointer q∧∀d:Nat,(Op.equalIn (d+1) t (.pointer p) (.pointer q)).run P w= .ok b w:=wA i f k g;have a:(Op.equal t (.pointer p) (.pointer q)).run P w= .ok b w:=j 9999;refine⟨?_, ?_⟩
  ·rcases c with rfl|rfl<;>simp[eqGuard]
  ·rcases c with rfl|rfl
   ·simp only[binOp,Sem.run_bind,a,Result.andThen_ok,Sem.run_pure,yS]
   ·simp only[binOp,Sem.run_bind,a,Result.andThen_ok,Sem.run_pure]
    rfl
 ·obtain⟨z,h2⟩:=AZ i f g c
  exact⟨z s r,h2⟩
theorem A0{op:UnOp}{x r:AV}{c:Value}(b:Rep G w x c)(a:Mq op x=some r):∃v,(Op.unary op c).run P w= .ok v w∧Rep G w r v:=by
 unfold Mq at a;split at a
 ·simp only[xA]at a;subst a
  cases b with
  |d b=>cases b;exact⟨_,by simp[Op.unary], .d (.bool _)⟩
 ·simp only[xA]at a;subst a
  cases b with
  |d b=>cases b;exact⟨_,by simp only[Op.unary,Op.intArith,Sem.run_pure], .d (.int _ _)⟩
 ·simp only[xA]at a;subst a
  cases b with
  |d b=>cases b;exact⟨_,by simp only[Op.unary,Op.intBits,Sem.run_pure], .d (.int _ _)⟩
 ·cases a
theorem pH{src dst:TypeId}{x r:AV}{f:Value}(e:Rep G w x f)(a:om P src dst x=some r):∃v,(convert src dst f).run P w= .ok v w∧Rep G w r v:=by
 unfold om at a;split at a
 ·rename_i g j i n b c
  simp only[xA]at a;subst a;cases e with
  |d e=>cases e;exact⟨_,by simp[convert,run_underlying b,run_underlying c,Conv.intToInt], .d (.int _ _)⟩
 ·cases a
theorem wB{x:AV}{f:Value}{n:Nat}(e:Rep G w x f)(b:Fe x=some n):∃a c,f= .slice a n c:=by
 unfold Fe at b;split at b
 ·rename_i l
  simp only[xA]at b;subst b;cases e with
  |d e=>cases e<;>exact⟨_,_,rfl⟩
 ·simp only[xA]at b;subst b
  cases e<;>exact⟨_,_,rfl⟩
 ·simp only[xA]at b;subst b;cases e;exact⟨_,_,rfl⟩
 ·simp only[xA]at b;subst b;cases e;exact⟨_,_,rfl⟩
 ·simp only[xA]at b;subst b
  cases e<;>exact⟨_,_,rfl⟩
 ·cases b
theorem wC{t:TypeId}{x:AV}{i:Value}{out:Out}(f:Rep G w x i)(b:Ff P t x=some out):out.ob=[]∧out.wr=[]∧∃v,(∀ty,(Builtin.len_ #[t] ty #[i]).run P w= .ok v w)∧Rep G w out.val v:=by
 unfold Ff at b;split at b
 ·rename_i e g
  split at b
  ·rename_i n j
   simp only[xA]at b;subst b;obtain⟨a,c,rfl⟩:=wB f j;exact⟨rfl,rfl,_,fun ty=>by simp[Builtin.len_,run_underlying g,goInt], .d (.int _ _)⟩
  ·cases b
 ·rename_i g
  split at b
  ·simp only[xA]at b;subst b
   cases f with
   |d f=>
    cases f with
    |str _ s h=>subst h;exact⟨rfl,rfl,_,fun ty=>by simp[Builtin.len_,run_underlying g,goInt], .d (.int _ _)⟩
  ·cases b
 ·cases b
theorem kQ{f:Bool}{x y:AV}{b e:Value}{out:Out}(c:Rep G w x b)(g:Rep G w y e)(a:m4 f x y=some out):
    out.ob=[]∧out.wr=[]∧∃v,(∀ts ty,(if f then Builtin.max_ ts ty #[b,e]else Builtin.min_ ts ty #[b,e]).run P w= .ok v w)∧Rep G w out.val v:=by
 unfold m4 at a;split at a
 ·simp only[xA]at a;subst a
  cases c with
  |d c=>
   cases c;cases g with
   |d g=>
    cases g;cases f
    ·exact⟨rfl,rfl,_,fun ts ty=>by simp[Builtin.min_,Builtin.min2], .d (.int _ _)⟩
    ·exact⟨rfl,rfl,_,fun ts ty=>by simp[Builtin.max_,Builtin.max2], .d (.int _ _)⟩
 ·cases a
end
end Go.Avm
namespace Go.Avm
open Go.RowKit
variable[aH]
section
variable{P:Program}{G:Gh}{B:Nat}{w0 w:World}{I0:Nat→Nat→Prop}{h:aa}
theorem mB{n:Int}(a:0≤n)(b:n<9223372036854775808):IntKind.i64.wrap n=n:=by
 unfold IntKind.wrap;simp[IntKind.bits,IntKind.signed];omega
theorem wD{e:TypeId}{k:AV}(b:uz P e=some k):∃z,df P e=some z∧z.cells.size=k.cells.length∧(∀(i:Nat)(u:Value),z.cells[i]? =some u→u.oneCell'=true)∧
    ∀(i:Nat)(c:AV)(u:Value),k.cells[i]? =some c→z.cells[i]? =some u→Rep G w c u:=by
 unfold uz at b;split at b
 ·rename_i cs j
  simp only[xB]at b;obtain⟨l,m,rfl⟩:=b;obtain⟨d,h2,n⟩:=fN (G:=G) (w:=w) m;exact⟨_,j,by rw[gO];exact d,h2,fun i c u g a=>n i c u (by rwa [gO]at g) a⟩
 ·rename_i z o j
  split at b
  ·rename_i d
   simp only[xA]at b;subst b;have f:(DW z).lone=true:=(m7 (G:=G) (w:=w) z).lone d;refine⟨z,j,by rw[eZ d,AV.cells_lone f];rfl,fun i u a=> ?_,fun i c u g a=> ?_⟩
   ·rw[eZ d]at a
    cases i with
    |zero=>simp at a;subst a;exact d
    |succ i=>simp at a
   ·rw[eZ d]at a
    rw[AV.cells_lone f]at g;cases i with
    |zero=>simp at a g;subst a;subst g;exact m7 z
    |succ i=>simp at a
  ·cases b
 ·cases b
theorem ou{e:TypeId}{z:Value}(a:df P e=some z):∃i,P.info? e=some i∧i.zero=some z∧P.cellsOf e=i.size∧P.bytesOf e=i.bytes:=by
 unfold df at a;cases b:P.info? e with
 |none=>simp[b]at a
 |some i=>
  simp only[b,yA]at a;exact⟨i,rfl,a,by simp[Program.cellsOf,b],by simp[Program.bytesOf,b]⟩
theorem nf(hr:HR G B w0 I0 h w){t:TypeId}{l c:AV}{vl vc:Value}(hl:Rep G w l vl)(R:Rep G w c vc){k:Nat}{out:Out}(p:c8 P t l c k h=some out):
    out.ob=[]∧∃v O G',(Instr.makeSlice t vl vc).run P w= .ok v O∧Ext G w G' O∧HR G' B w0 I0 (ap h out.wr) O∧Rep G' O out.val v:=by
 unfold c8 at p;split at p
 ·rename_i e l c hu
  split at p
  ·rename_i V U
   split at p
   ·rename_i D
    obtain⟨h0,h1,h2,M,C,hpos,Q⟩:=D;simp only[xA]at p;subst p;obtain⟨z,hz,hzs,X,Y⟩:=wD (G:=G) (w:=w) U;obtain⟨N,F,hiz,hsz,hbe⟩:=ou hz;cases hl with
    |d hl=>
     cases hl;cases R with
     |d R=>
      cases R;obtain⟨o,rfl⟩:=Int.eq_ofNat_of_zero_le h0;obtain⟨a,rfl⟩:=Int.eq_ofNat_of_zero_le (show 0≤c by omega);have hwl:=mB (n:=(o:Int)) (by omega) (by omega);have T:=mB (n:=(a:Int)) (by omega) (by omega)
      have hb:¬(281474976710656<(N.bytes:Int)*(a:Int)):=by
       rw[hbe]at M;have h5:N.bytes*a≤256*1099511627776:=Nat.mul_le_mul M (by omega);have h6:((N.bytes*a:Nat):Int)≤281474976710656:=by omega
       rw[Int.natCast_mul]at h6;omega
      have f:¬((a:Int)<0):=by omega
      have g:¬((o:Int)<0):=by omega
      have K:z.cells.size=P.cellsOf e:=by rw[hzs,C]
      have m:∃arr:Array Value,(Instr.makeSlice t (.int .i64 o) (.int .i64 a)).run P w= .ok (.slice (some ⟨w.heap.size,0,none⟩) o a) (w.alloc (.cells arr e))∧arr.size=a*P.cellsOf e∧
          ∀i j,i<a→j<P.cellsOf e→arr[i*P.cellsOf e+j]? =z.cells[j]? :=by
       by_cases I:a*P.cellsOf e=0
       ·have f:a=0:=by
          rcases Nat.mul_eq_zero.1 I with h|h
          ·exact h
          ·omega
        subst f;have g:o=0:=by omega
        subst g;refine⟨#[], ?_,by simp,by omega⟩;have r:Array.map (fun _:Nat=>(default:Value)) (Array.range 0)= #[]:=by simp
        have hw0:IntKind.i64.wrap 0=0:=mB (by omega) (by omega);simp[Instr.makeSlice,run_underlying hu,asInt,asIntOf,typeInfo,F,sizeOf,newRow,hw0,r]
       ·refine⟨(Array.range (a*P.cellsOf e)).map (fun i=>z.cells[i % z.cells.size]!), ?_,by simp,fun i j hi hj=> ?_⟩
        ·have q:¬(a=0):=by rintro rfl;simp at I
         have J:¬(N.size=0):=by omega
         have hlc:¬((a:Int)<(o:Int)):=by omega
         simp[Instr.makeSlice,run_underlying hu,asInt,asIntOf,typeInfo,F,sizeOf,newRow,hwl,T,hb,hlc,f,g,zeroValue,hiz,q,J,hsz];intro r;rcases Nat.mul_eq_zero.1 r with r|r
         ·exact absurd r q
         ·exact absurd r J
        ·have S:i*P.cellsOf e+j<a*P.cellsOf e:=by
           have:(i+1)*P.cellsOf e≤a*P.cellsOf e:=yZ _ hi;rw[y8,Nat.one_mul]at this;omega
         have H:(i*P.cellsOf e+j) % z.cells.size=j:=by
          rw[K,Nat.mul_comm,Nat.mul_add_mod,Nat.mod_eq_of_lt hj]
         have A:j<z.cells.size:=by omega
         rw[zA,Array.getElem?_range,xf S,x5,H];simp[A]
      obtain⟨arr,m,Z,W⟩:=m
      have b:∀(s:Nat)(c:AV),(AV.flat (List.replicate o V))[s]? =some c→∃u:Value,arr[s]? =some u∧u.oneCell'=true∧Rep G w c u:=by
       intro s c hs;obtain⟨i,j,e',rfl,hj,L,hc'⟩:=fg (sz:=P.cellsOf e) (fun x E=>by rw[(List.mem_replicate.1 E).2];exact C) hs
       have hi:i<o:=by
        have:=(xC.1 L).1;simpa using this
       have he2:e'=V:=(List.mem_replicate.1 (xX L)).2;subst he2;have A:j<z.cells.size:=by omega
       have y:z.cells[j]? =some z.cells[j]:=xI A;exact⟨_,by rw[W i j (by omega) hj,y],X j _ y,Y j c _ hc' y⟩
      obtain⟨g1,g2⟩:=hr.newOb k (P.cellsOf e) a (List.replicate o V) arr e Z (by simp;omega) (fun x E=>by rw[(List.mem_replicate.1 E).2];exact C) (fun h1 x E=>by rw[(List.mem_replicate.1 E).2];exact Q h1) b;refine⟨rfl,_,_,_,m,g2,g1, ?_⟩;have:=Rep.sl (w:=w.alloc (.cells arr e)) k ((h k).ver+1) 0 o a _ (Gh.at_same G k ((h k).ver+1) ⟨w.heap.size,P.cellsOf e,a,0,e⟩) (by simp) (by omega);simpa using this
   ·cases p
  ·cases p
 ·cases p
theorem cp{g:Option AV}{a:Option Value}{c n:Nat}(b:dF g c=some n)(f:∀x,g=some x→∃v,a=some v∧Rep G w x v)(e:g=none→a=none):
    (a=none∧n=c)∨(∃k i,a=some (.int k i)∧0≤i∧i.toNat=n):=by
 unfold dF at b;split at b
 ·simp only[xA]at b
  exact .inl ⟨e rfl,b.symm⟩
 ·rename_i k i
  split at b
  ·rename_i o
   simp only[xA]at b;obtain⟨v,j,m⟩:=f _ rfl;cases m with
   |d l=>cases l;exact .inr ⟨k,i,j,o,b⟩
  ·cases b
 ·cases b
theorem gu{k:IntKind}{i:Int}{y:Nat}{code:BoundsCode}(a:0≤i)(b:i.toNat≤y)(w:World):(Instr.sliceBound (.int k i) y code).run P w= .ok i.toNat w:=by
 have:0≤i∧i≤(y:Int):=⟨a,by omega⟩
 simp[Instr.sliceBound,asIntOf,this]
theorem cY{isSlice:Bool}{j cap a b:Nat}{c d:Option Value}(l:(c=none∧a=0)∨(∃k i,c=some (.int k i)∧0≤i∧i.toNat=a))(m:(d=none∧b=j)∨(∃k i,d=some (.int k i)∧0≤i∧i.toNat=b))
    (f:a≤b) (e:b≤cap) (w:World):(Instr.sliceBounds isSlice j cap c d none).run P w= .ok (a,b,cap) w:=by
 rcases l with ⟨rfl,rfl⟩|⟨k,i,rfl,n,rfl⟩<;>rcases m with ⟨rfl,rfl⟩|⟨p,o,rfl,g,rfl⟩
 ·simp[Instr.sliceBounds]
 ·simp[Instr.sliceBounds,gu g e]
 ·simp[Instr.sliceBounds,gu n f]
 ·simp[Instr.sliceBounds,gu g e,gu n f]
theorem Jc{l:List D}{a b i:Nat}{y:D}(c:((l.take b).drop a)[i]? =some y):l[a+i]? =some y∧a+i<b:=by
 rw[xu,yD]at c;split at c
 ·rename_i h;exact⟨c,h⟩
 ·cases c
theorem sP{t:TypeId}{x:AV}{vx:Value}{lo hi mx:Option AV}{H A C:Option Value}(W:Rep G w x vx)
    (N:∀x,lo=some x→∃v,H=some v∧Rep G w x v) (p:lo=none→H=none) (E:∀x,hi=some x→∃v,A=some v∧Rep G w x v) (q:hi=none→A=none)
    (hmx:∀x,mx=some x→∃v,C=some v∧Rep G w x v) (M:mx=none→C=none) {out:Out} (f:jH P t x lo hi mx=some out):
    out.ob=[]∧out.wr=[]∧∃v,(Instr.sliceAt t vx H A C).run P w= .ok v w∧Rep G w out.val v:=by
 unfold jH at f;split at f
 ·rename_i e I
  split at f
  ·cases f
  ·rename_i n
   have n:cy P e=true:=by simpa using n
   split at f
   ·have hm:C=none:=M rfl
    subst hm
    have slc:∀(l:List D),DRep G.imm w (.ro l) vx→(match dF lo 0,dF hi l.length with
        |some a,some b=>if a≤b∧b≤l.length∧(a=0∨l.all (fun y=>y.cells.length==P.cellsOf e)=true)then some ({val:= .d (.ro ((l.take b).drop a))}:Out)else none
        |_,_=>none)=some out→out.ob=[]∧out.wr=[]∧∃v,(Instr.sliceAt t vx H A none).run P w= .ok v w∧Rep G w out.val v:=by
     intro l hd hh;split at hh
     ·rename_i a b S T
      split at hh
      ·rename_i r
       obtain⟨r,hbl,hall⟩:=r;simp only[xA]at hh;subst hh;have z:=cp S N p;have u:=cp T E q;cases hd with
       |roNil O c=>
        have hb0:b=0:=by simpa using hbl
        subst hb0;have ha0:a=0:=by omega
        subst ha0;have g:=cY (P:=P) (isSlice:=true) (cap:=c) z u (by omega) (by omega) w;have hrb':(Instr.sliceBounds true 0 c H A none).run P w= .ok (0,0,c) w:=by simpa using g
        refine⟨rfl,rfl, .slice (if c=0 then O else O.map (·.add (0*P.cellsOf e))) (0-0) (c-0), ?_, ?_⟩
        ·simp[Instr.sliceAt,Instr.slice,run_underlying I,hrb',bv n]
        ·simpa using Rep.d (G:=G) (w:=w) (.roNil (if c=0 then O else O.map (·.add 0)) c)
       |ro _ b' o c sz U Y J h1 hi' hc hr'=>
        have g:=cY (P:=P) (isSlice:=true) (cap:=c) z u r (by omega) w;have Z:((l.take b).drop a).length=b-a:=by simp;omega
        refine⟨rfl,rfl, .slice (if c=a then some ⟨b',o,none⟩else some ⟨b',o+a*P.cellsOf e,none⟩) (b-a) (c-a), ?_, ?_⟩
        ·by_cases hca:c=a
         ·rw[hca]at g ⊢
          simp[Instr.sliceAt,Instr.slice,run_underlying I,g,bv n]
         ·simp[Instr.sliceAt,Instr.slice,run_underlying I,g,bv n,hca,dn]
        ·by_cases hba0:b-a=0
         ·have hnil:(l.take b).drop a=[]:=x7 (by omega)
          rw[hnil,hba0];exact .d (.roNil _ _)
         ·rw[xo (by omega)]
          have K:∀e∈(l.take b).drop a,e∈l:=fun e he=>yL (y9 he)
          have hfl:∀(s:Nat)(c:D),(D.flat ((l.take b).drop a))[s]? =some c→(D.flat l)[a*sz+s]? =some c:=by
           intro s c hs;obtain⟨i,j,e',rfl,hj,he',hc'⟩:=fg (fun e he=>J e (K e he)) hs;obtain⟨h5,_⟩:=Jc he';have:a*sz+(i*sz+j)=(a+i)*sz+j:=by rw[y8];omega
           rw[this,D.flat,bM _ sz l J _ j hj,h5,yA,hc']
          have hszP:a=0∨sz=P.cellsOf e:=by
           rcases hall with h0|h0
           ·exact .inl h0
           ·right
            have hlt:0<l.length:=by omega
            have hm0:=yO hlt;have h7:=xc.1 h0 _ hm0;rw[←J _ hm0];simpa using h7
          have haddr:o+a*P.cellsOf e=o+a*sz:=by
           rcases hszP with rfl|rfl
           ·simp
           ·rfl
          rw[haddr,←Z];refine .d (.ro _ b' (o+a*sz) (c-a) sz (fun s=>U (a*sz+s)) (by omega) (fun e he=>J e (K e he)) (fun e he=> ?_) ?_ ?_ ?_)
          ·obtain⟨y,hy,hc'⟩:=List.mem_flatMap.1 he
           exact h1 e (List.mem_flatMap.2 ⟨y,K y hy,hc'⟩)
          ·intro s c hs;have:=hi' _ c (hfl s c hs);rwa [←yk]at this
          ·intro s c hs;have:=hc _ c (hfl s c hs);rwa [←yk]at this
          ·intro s c hs;exact hr' _ c (hfl s c hs)
      ·cases hh
     ·cases hh
    split at f
    ·exact slc _ W.toDRep f
    ·rename_i k ver sz l
     refine slc l ?_ f;cases W with
     |vecNil=>exact .roNil _ _
     |vec _ _ _ L hL hfr Z J hd=>exact hd
    ·split at f
     ·rename_i S T
      simp only[xA]at f;subst f;cases W;have g:=cY (P:=P) (isSlice:=true) (cap:=0) (cp S N p) (cp T E q) (by omega) (by omega) w;exact⟨rfl,rfl, .slice none 0 0,by simp[Instr.sliceAt,Instr.slice,run_underlying I,g,bv n], .nils⟩
     ·cases f
    ·rename_i k v off len sz0
     split at f
     ·rename_i a b S T
      split at f
      ·rename_i r
       obtain⟨rfl,hbl⟩:=r;simp only[xA]at f;subst f;have z:=cp S N p;have u:=cp T E q;cases W with
       |slNil=>
        have hb0:b=0:=by omega
        subst hb0;have g:=cY (P:=P) (isSlice:=true) (cap:=0) z u (by omega) (by omega) w;rename_i O;cases O with
        |none=>exact⟨rfl,rfl, .slice none 0 0,by simp[Instr.sliceAt,Instr.slice,run_underlying I,g,bv n], .slNil _ _ _ _⟩
        |some a=>exact⟨rfl,rfl, .slice (some a) 0 0,by simp[Instr.sliceAt,Instr.slice,run_underlying I,g,bv n], .slNil _ _ _ _⟩
       |sl _ _ _ _ c L hL Y hlc=>
        have g:=cY (P:=P) (isSlice:=true) (cap:=c) z u (by omega) (by omega) w;refine⟨rfl,rfl, .slice (some ⟨L.b,off*L.sz,none⟩) b c, ?_, .sl k v off b c L hL Y (by omega)⟩;by_cases hc0:c=0
        ·subst hc0
         simp[Instr.sliceAt,Instr.slice,run_underlying I,g,bv n]
        ·simp[Instr.sliceAt,Instr.slice,run_underlying I,g,bv n,hc0,dn]
      ·cases f
     ·cases f
    ·cases f
   ·rename_i m
    have V:∀(O:Option Addr)(len cap:Nat),vx= .slice O len cap→dF lo 0=some 0→dF hi 0=some 0→dF (some m) 0=some 0→({val:= .es}:Out)=out→hi≠none→
        out.ob=[]∧out.wr=[]∧∃v,(Instr.sliceAt t vx H A C).run P w= .ok v w∧Rep G w out.val v:=by
     rintro O len cap rfl S T hm rfl F;have hmb:=cp hm hmx M;have u:=cp T E q;have z:=cp S N p;rcases hmb with ⟨hmn,_⟩|⟨km,im,rfl,him,him0⟩
     ·obtain⟨v,hv,_⟩:=hmx _ rfl;rw[hmn]at hv;cases hv
     ·rcases u with ⟨hbn,_⟩|⟨kb,ib,rfl,hib,hib0⟩
      ·cases hi with
       |none=>exact absurd rfl F
       |some y=>obtain⟨v,hv,_⟩:=E _ rfl;rw[hbn]at hv;cases hv
      ·have e1:∀code y,(Instr.sliceBound (.int km im) y code).run P w= .ok 0 w:=fun code y=>by rw[gu him (by omega)];rw[him0]
       have e2:∀code y,(Instr.sliceBound (.int kb ib) y code).run P w= .ok 0 w:=fun code y=>by rw[gu hib (by omega)];rw[hib0]
       refine⟨rfl,rfl, .slice O 0 0, ?_, .es O⟩;rcases z with ⟨rfl,_⟩|⟨ka,ia,rfl,hia,hia0⟩
       ·simp[Instr.sliceAt,Instr.slice,run_underlying I,Instr.sliceBounds,e1,e2,bv n]
       ·have e3:∀code y,(Instr.sliceBound (.int ka ia) y code).run P w= .ok 0 w:=fun code y=>by rw[gu hia (by omega)];rw[hia0]
        simp[Instr.sliceAt,Instr.slice,run_underlying I,Instr.sliceBounds,e1,e2,e3,bv n]
    split at f
    ·rename_i hb4
     obtain⟨Q,R,X,hb4⟩:=hb4;have F:hi≠none:=by rintro rfl;simp at hb4
     split at f
     ·simp only[xA]at f
      cases W with
      |d hd=>cases hd<;>exact V _ _ _ rfl Q R X f F
     ·simp only[xA]at f
      cases W<;>exact V _ _ _ rfl Q R X f F
     ·simp only[xA]at f
      cases W<;>exact V _ _ _ rfl Q R X f F
     ·simp only[xA]at f
      cases W;exact V _ _ _ rfl Q R X f F
     ·cases f
    ·cases f
 ·rename_i I
  split at f
  ·rename_i s
   have hm:C=none:=M rfl;subst hm;cases W with
   |d hd=>
    cases hd with
    |str _ sb hsb=>
    subst hsb;rw[show sb.data.toList.length=sb.size by simp]at f;split at f
    ·rename_i a b S T
     split at f
     ·rename_i r
      simp only[xA]at f;subst f;have g:=cY (P:=P) (isSlice:=false) (cap:=sb.size) (cp S N p) (cp T E q) r.1 r.2 w;exact⟨rfl,rfl, .string (sb.extract a b),by simp[Instr.sliceAt,Instr.slice,run_underlying I,g], .d (.str _ _ (by rw[ByteArray.data_extract,Array.toList_extract,List.extract_eq_take_drop,List.drop_take]))⟩
     ·cases f
    ·cases f
  ·cases f
 ·cases f
end
end Go.Avm
