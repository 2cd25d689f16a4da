/-
  The abstract machine, part E: what a value stands for as data (with and without a look at the heap); new blocks; stores.
-/
import Derived.Test.YtcjiafanhlhdlaaGreatDoorG01
import Derived.Laws.StructEq
import Derived.ChangeKeysEq
set_option linter.unusedVariables false
set_option linter.unusedSimpArgs false
set_option linter.unusedSectionVars false
namespace Go.Avm
open Go.RowKit
variable[aG]
section
variable{P:Program}{G:Gh}{B:Nat}{w0 w:World}{I0:Nat→Nat→Prop}{h:aa}
theorem DRep.one_of{imm:Nat→Nat→Prop}{x:D}{v:Value}(b:DRep imm w x v)(a:v.oneCell'=true):x.one=true:=by
 cases b<;>first|rfl|(simp[Value.oneCell']at a)
theorem DRep.cells{imm:Nat→Nat→Prop}{x:D}{v:Value}(A:DRep imm w x v):x.cells.length=v.cells.size∧(∀c∈x.cells,c.one=true)∧
    ∀(i:Nat)(c:D)(u:Value),x.cells[i]? =some c→v.cells[i]? =some u→DRep imm w c u:=by
 have a:∀(y:D)(u:Value),DRep imm w y u→y.one=true→y.cells=[y]→u.cells= #[u]→
     y.cells.length=u.cells.size∧(∀c∈y.cells,c.one=true)∧∀(i:Nat)(c:D)(t:Value),y.cells[i]? =some c→u.cells[i]? =some t→DRep imm w c t:=by
  intro y u g d r q;rw[r,q];refine⟨rfl,fun t f=> ?_,fun i c t e f=> ?_⟩
  ·simp at f;subst f;exact d
  ·cases i with
   |zero=>simp at e f;subst e;subst f;exact g
   |succ i=>simp at e
 cases A with
 |agg cs vs C d h=>exact⟨by simp[D.cells,Value.cells,C],d,h⟩
 |bool b=>exact a _ _ (.bool b) rfl rfl rfl
 |int k n=>exact a _ _ (.int k n) rfl rfl rfl
 |str l s h=>exact a _ _ (.str l s h) rfl rfl rfl
 |nilp=>exact a _ _ .nilp rfl rfl rfl
 |nili=>exact a _ _ .nili rfl rfl rfl
 |ifc t v=>exact a _ _ (.ifc t v) rfl rfl rfl
 |roNil z c=>exact a _ _ (.roNil z c) rfl rfl rfl
 |ro l b o c sz U j p d m e g=>exact a _ _ (.ro l b o c sz U j p d m e g) rfl rfl rfl
 |rp cs b o U d m e g=>exact a _ _ (.rp cs b o U d m e g) rfl rfl rfl
theorem fd{v:Value}(a:v.oneCell'=true):v.cells= #[v]:=by cases v<;>first|rfl|(simp[Value.oneCell']at a)
theorem Rep.of_cells{e:AV}(l:Nat→Value)(m:∀(j:Nat)(c:AV),e.cells[j]? =some c→(l j).oneCell'=true∧Rep G w c (l j)):
    ∃v,Rep G w e v∧v.cells.size=e.cells.length∧∀j,j<e.cells.length→v.cells[j]? =some (l j):=by
 by_cases r:e.lone=true
 ·have f:=AV.cells_lone r
  obtain⟨o,h2⟩:=m 0 e (by simp[f]);refine⟨l 0,h2,by rw[fd o,f];rfl,fun j p=> ?_⟩;rw[f]at p;have:j=0:=by simp at p;omega
  subst this;rw[fd o];rfl
 ·have q:∀n,∃vs:Array Value,vs.size=n∧∀j,j<n→vs[j]? =some (l j):=fun n=>⟨((List.range n).map l).toArray,by simp,fun j p=>by simp[yu p]⟩
  obtain⟨vs,g,k⟩:=q e.cells.length;refine⟨.agg vs, ?_,by simp[Value.cells,g],by simpa [Value.cells]using k⟩;cases e with
  |agg cs=>
   refine .agg cs vs (by simpa [AV.cells]using g) (fun i u b=> ?_) (fun i c u f b=> ?_)
   ·have a:i<vs.size:=(xQ.1 b).1
    rw[g]at a;rw[k i a]at b;simp only[xA]at b;subst b;exact(m i _ (xH a)).1
   ·have a:i<(AV.agg cs).cells.length:=(xE.1 f).1
    rw[k i a]at b;simp only[xA]at b;subst b;exact(m i c f).2
  |d y=>
   cases y with
   |agg cs=>
    refine .d (.agg cs vs (by simpa [AV.cells]using g) (fun c f=> ?_) (fun i c u f b=> ?_))
    ·obtain⟨i,b⟩:=xf f
     obtain⟨o,h2⟩:=m i (.d c) (by simp[AV.cells,b]);exact h2.toDRep.one_of o
    ·have a:i<(AV.d (.agg cs)).cells.length:=by simp[AV.cells];exact(xE.1 f).1
     rw[k i a]at b;simp only[xA]at b;subst b;exact(m i (.d c) (by simp[AV.cells,f])).2.toDRep
   |_=>simp[AV.lone]at r
  |_=>simp[AV.lone]at r
theorem i3{n:Nat}:∀{xs:List AV}{ys:List D}{ks:List Nat},view.go n h xs=some (ys,ks)→ys.length=xs.length∧
    ∀(i:Nat)(x:AV),xs[i]? =some x→∃y d,ys[i]? =some y∧view n h x=some (y,d)∧∀k∈d,k∈ks
 |[],ys,ks,c=>by simp[eD]at c;obtain⟨rfl,rfl⟩:=c;simp
 |x::r,ys,ks,c=>by
  simp only[eD]at c;split at c
  ·rename_i a b g m
   simp only[xA,xG]at c;obtain⟨rfl,rfl⟩:=c;obtain⟨q,j⟩:=i3 (ys:=b.1) (ks:=b.2) m;refine⟨by simp[q],fun i o e=> ?_⟩;cases i with
   |zero=>
    simp only[xl,xA]at e;subst e;exact⟨a.1,a.2,rfl,g,fun k f=>yP _ f⟩
   |succ i=>
    simp only[ym]at e;obtain⟨y,d,l,h2,p⟩:=j i o e;exact⟨y,d,by simpa using l,h2,fun k f=>yj _ (p k f)⟩
  ·cases c
def dD(G:Gh)(h:aa)(ks:List Nat):Nat→Nat→Prop:=fun b o=>G.imm b o∨qx G h ks b o
theorem hX{ks a:List Nat}(e:∀k∈ks,k∈a):∀b o,dD G h ks b o→dD G h a b o:=by
 rintro b o (x|⟨k,c,L,d,f⟩)
 ·exact .inl x
 ·exact .inr ⟨k,e k c,L,d,f⟩
theorem D.flat_len{l:List D}{sz:Nat}(a:∀e∈l,e.cells.length=sz):(D.flat l).length=l.length*sz:=cH _ sz l a
theorem fl{p m:Type}{f:p→List m}{sz:Nat}{l:List p}(k:∀e∈l,(f e).length=sz){t:Nat}{c:m}(d:(l.flatMap f)[t]? =some c):
    ∃i j e,t=i*sz+j∧j<sz∧l[i]? =some e∧(f e)[j]? =some c:=by
 have a:=(xE.1 d).1;rw[cH f sz l k]at a
 have b:0<sz:=by
  rcases Nat.eq_zero_or_pos sz with rfl|hp
  ·simp at a
  ·exact hp
 have o:t=(t/sz)*sz+t % sz:=by rw[Nat.mul_comm];exact(Nat.div_add_mod t sz).symm
 have n:=Nat.mod_lt t b;rw[o,bM f sz l k (t/sz) (t % sz) n]at d;cases g:l[t/sz]? with
 |none=>simp[g]at d
 |some e=>rw[g]at d;exact⟨t/sz,t % sz,e,o,n,g,d⟩
theorem d5(hr:HR G B w0 I0 h w):∀(n:Nat)(x:AV)(v:Value)(y:D)(ks:List Nat),view n h x=some (y,ks)→Rep G w x v→DRep (dD G h ks) w y v:=by
 intro n;induction n with
 |zero=>intro x v y ks g;simp[view]at g
 |succ n ih=>
  intro x v y ks g K;have up:∀{y:D}{v:Value},DRep G.imm w y v→DRep (dD G h ks) w y v:=fun hd=>hd.mono (fun _ _ x=> .inl x) (fun _ _ _=>rfl)
  have T:∀(k sz:Nat)(es xs:List AV)(N:Nat)(L:sQ)(ys:List D)(q:List Nat),(h k).ob=some (.arr sz es)→G.loc k (h k).ver=some L→(∀i x,xs[i]? =some x→es[N+i]? =some x)→
      view.go n h xs=some (ys,q)→(∀k'∈q,k'∈ks)→(xs≠[]→L.sz=sz)∧ys.length=xs.length∧(∀e∈ys,e.cells.length=sz)∧(∀e∈D.flat ys,e.one=true)∧
      ∃U:Nat→Value,∀(t:Nat)(c:D),(D.flat ys)[t]? =some c→w.cell? ⟨L.b,N*sz+t,none⟩=some (U t)∧DRep (dD G h ks) w c (U t):=by
   intro k sz es xs N L ys q Q Y hxs C hks;obtain⟨M,hi⟩:=i3 C;rcases hr.objs k _ Q with ⟨rfl,hLn⟩|⟨L',hL',h1,h2,h3,h4,h6,h5⟩
   ·have hx0:xs=[]:=by
      cases xs with
      |nil=>rfl
      |cons x r=>have:=hxs 0 x rfl;simp at this
    subst hx0;have:ys=[]:=x7 (by simpa using M);subst this;exact⟨fun hne=>absurd rfl hne,M,by simp,by simp[D.flat],fun _=>undef,by simp[D.flat]⟩
   ·rw[Y]at hL'
    simp only[xA]at hL';subst hL'
    have s:∀(i:Nat)(y:D),ys[i]? =some y→y.cells.length=sz∧(∀c∈y.cells,c.one=true)∧∃S:Nat→Value,∀(j:Nat)(c:D),y.cells[j]? =some c→
        w.cell? ⟨L.b,(N+i)*sz+j,none⟩=some (S j)∧DRep (dD G h ks) w c (S j):=by
     intro i y hy;have p:i<xs.length:=by rw[←M];exact(xE.1 hy).1
     obtain⟨y',k',m,f,J⟩:=hi i xs[i] (xH p);rw[hy]at m;simp only[xA]at m;subst m;have E:=hxs i _ (xH p);have hcl:=h4 _ (x5 E)
     obtain⟨S,Z⟩:∃S:Nat→Value,∀(j:Nat)(c:AV),xs[i].cells[j]? =some c→w.cell? ⟨L.b,(N+i)*sz+j,none⟩=some (S j)∧(S j).oneCell'=true∧Rep G w c (S j):=by
      refine⟨fun j=>(w.cell? ⟨L.b,(N+i)*sz+j,none⟩).getD undef,fun j c A=> ?_⟩;have hj:j<sz:=by rw[←hcl];exact(xE.1 A).1
      have hfl:(AV.flat es)[(N+i)*sz+j]? =some c:=by rw[AV.flat,bM _ sz es h4 (N+i) j hj,E,yA,A]
      obtain⟨u,hu,hu1,hur⟩:=h5 _ c hfl;simp only[hu,zN];exact⟨trivial,hu1,hur⟩
     obtain⟨v,g,hvs,hvj⟩:=Rep.of_cells (e:=xs[i]) S (fun j c A=>(Z j c A).2);have hd:=(ih _ _ _ _ f g).mono (hX (fun k hk=>hks k (J k hk))) (fun _ _ _=>rfl);obtain⟨hc1,hc2,hc3⟩:=hd.cells;refine⟨by rw[hc1,hvs,hcl],hc2,S,fun j c A=> ?_⟩
     have hj:j<xs[i].cells.length:=by
      have:=(xE.1 A).1;rw[hc1,hvs]at this;exact this
     exact⟨(Z j _ (xH hj)).1,hc3 j c (S j) A (hvj j hj)⟩
    have R:∀e∈ys,e.cells.length=sz:=fun e he=>by
     obtain⟨i,hi⟩:=xf he;exact(s i e hi).1
    refine⟨fun _=>h1,M,R,fun e he=> ?_,fun t=>(w.cell? ⟨L.b,N*sz+t,none⟩).getD undef,fun t c V=> ?_⟩
    ·obtain⟨y,hy,A⟩:=List.mem_flatMap.1 he
     obtain⟨i,hi⟩:=xf hy;exact(s i y hi).2.1 e A
    ·obtain⟨i,j,e,rfl,hj,he,A⟩:=fl R V
     obtain⟨S,Z⟩:=(s i e he).2.2;obtain⟨h7,h8⟩:=Z j c A;have e2:(N+i)*sz+j=N*sz+(i*sz+j):=by rw[yf];omega
     rw[e2]at h7;have hg:(w.cell? ⟨L.b,N*sz+(i*sz+j),none⟩).getD undef=S j:=by rw[h7];rfl
     exact⟨h7.trans (congrArg some hg.symm),by show DRep _ w c ((w.cell? ⟨L.b,N*sz+(i*sz+j),none⟩).getD undef);rw[hg];exact h8⟩
  have imm:∀(k:Nat)(L:sQ),k∈ks→G.loc k (h k).ver=some L→∀o,dD G h ks L.b o:=fun k L hk Y o=> .inr ⟨k,hk,L,Y,rfl⟩
  unfold view at g;split at g
  ·simp only[xA,xG]at g
   obtain⟨rfl,rfl⟩:=g;exact up K.toDRep
  ·simp only[xA,xG]at g
   obtain⟨rfl,rfl⟩:=g;cases K;exact .roNil _ _
  ·simp only[xA,xG]at g
   obtain⟨rfl,rfl⟩:=g;cases K;exact .roNil _ _
  ·simp only[xA,xG]at g
   obtain⟨rfl,rfl⟩:=g;cases K with
   |vecNil=>exact .roNil _ _
   |vec k ver l L Y hfr H R hd=>exact up hd
  ·rename_i k v' F O sz0
   split at g
   ·rename_i sz es Q
    split at g
    ·rename_i A
     obtain⟨rfl,hin⟩:=A;simp only[xB,xG]at g;obtain⟨⟨ys,q⟩,C,rfl,rfl⟩:=g
     have hget:∀(i:Nat)(x:AV),((es.drop F).take O)[i]? =some x→es[F+i]? =some x:=by
      intro i x K;rw[yG]at K;split at K
      ·rwa [xw]at K
      ·cases K
     have H:((es.drop F).take O).length=O:=by simp;omega
     cases K with
     |slNil=>
      have:=(i3 C).1;rw[H]at this;have:ys=[]:=x7 this;subst this;exact .roNil _ _
     |sl _ _ _ _ c L Y hcap hlc=>
      obtain⟨hs,M,R,h1,U,hU⟩:=T k sz es _ F L ys q Q Y hget C (fun k' J=>xW _ J);rw[H]at M;rcases Nat.eq_zero_or_pos O with rfl|W
      ·have:ys=[]:=x7 M
       subst this;exact .roNil _ _
      ·have hLs:=hs (by intro X;rw[X]at H;simp at H;omega)
       have hd:=DRep.ro (imm:=dD G h (k::q)) (w:=w) ys L.b (F*L.sz) c sz U (by omega) R h1 (fun t d V=>imm k L (by simp) Y _) (fun t d V=>by rw[hLs];exact(hU t d V).1) (fun t d V=>(hU t d V).2);rw[M]at hd;exact hd
    ·cases g
   ·cases g
  ·rename_i k v' i F sz0
   split at g
   ·rename_i sz es Q
    split at g
    ·rename_i A
     obtain⟨rfl,rfl,rfl,hin⟩:=A;simp only[xB,xG]at g;obtain⟨⟨ys,q⟩,C,rfl,rfl⟩:=g;cases K with
     |ptr _ _ _ _ L Y=>
      obtain⟨hs,M,R,h1,U,hU⟩:=T k 1 es _ i L ys q Q Y (fun j x K=>by rwa [xw]at K) C (fun k' J=>xW _ J)
      have h1':∀e∈ys,e.one=true:=by
       intro e he;cases e with
       |agg cs=>
        obtain⟨hlg,hgi⟩:=i3 C;obtain⟨j,hj⟩:=xf he;have hjl:j<(es.drop i).length:=by rw[←hlg];exact(xE.1 hj).1
        obtain⟨y',k',m,f,_⟩:=hgi j (es.drop i)[j] (xH hjl);rw[hj]at m;simp only[xA]at m;subst m;have E:es[i+j]? =some (es.drop i)[j]:=by rw[←xw];exact xH hjl
        rcases hr.objs k _ Q with ⟨rfl,hLn⟩|⟨L',_,_,_,_,_,h6,_⟩
        ·simp at E
        ·have I:=h6 rfl _ (x5 E)
         exfalso;generalize (es.drop i)[j]=z at f I;cases n with
         |zero=>simp[view]at f
         |succ n=>
          cases z with
          |d y=>simp only[view,xA,xG]at f;obtain⟨rfl,_⟩:=f;simp[AV.lone]at I
          |agg _=>simp[AV.lone]at I
          |sl k v F O sz=>
           simp only[view]at f;split at f
           ·split at f
            ·simp at f
            ·cases f
           ·cases f
          |ptr k v F O sz=>
           simp only[view]at f;split at f
           ·split at f
            ·simp at f
            ·cases f
           ·cases f
          |_=>simp[view]at f
       |_=>rfl
      have hfl:D.flat ys=ys:=by
       have:∀(l:List D),(∀e∈l,e.one=true)→D.flat l=l:=by
        intro l;induction l with
        |nil=>intro _;rfl
        |cons a r ihr=>
         intro hh;have ha:=hh a (by simp);have hca:a.cells=[a]:=by cases a<;>first|rfl|(simp[D.one]at ha)
         simp only[D.flat,yB,hca,List.singleton_append]at ihr ⊢;rw[ihr (fun e he=>hh e (by simp[he]))]
       exact this ys h1'
      rw[hfl]at hU;rcases Nat.eq_zero_or_pos (es.drop i).length with hz|W
      ·have hy0:ys=[]:=x7 (by omega)
       subst hy0;exact .rp [] L.b _ (fun _=>undef) (by simp) (by simp) (by simp) (by simp)
      ·have hLs:=hs (by intro X;rw[X]at W;simp at W)
       refine .rp ys L.b (i*L.sz+0) U h1' (fun t d V=>imm k L (by simp) Y _) (fun t d V=> ?_) (fun t d V=>(hU t d V).2);have:=(hU t d V).1;rw[hLs];exact this
    ·cases g
   ·cases g
  ·rename_i cs
   simp only[xB,xG]at g;obtain⟨⟨ys,q⟩,C,rfl,rfl⟩:=g;obtain⟨M,hi⟩:=i3 C;cases K with
   |agg _ vs hvl h1 hcr=>
    have s:∀(i:Nat)(c:D)(u:Value),ys[i]? =some c→vs[i]? =some u→DRep (dD G h q) w c u:=by
     intro i c u A hu;have p:i<cs.length:=by rw[←M];exact(xE.1 A).1
     obtain⟨y',k',m,f,J⟩:=hi i cs[i] (xH p);rw[A]at m;simp only[xA]at m;subst m;exact(ih _ _ _ _ f (hcr i _ u (xH p) hu)).mono (hX J) (fun _ _ _=>rfl)
    refine .agg ys vs (by rw[hvl,M]) (fun c A=> ?_) s;obtain⟨i,hi'⟩:=xf A;have p:i<vs.size:=by rw[hvl,←M];exact(xE.1 hi').1
    have hu:vs[i]? =some vs[i]:=xJ p;exact(s i c _ hi' hu).one_of (h1 i _ hu)
  ·cases g
theorem wy(l:HR G B w0 I0 h w){n:Nat}{xs:List AV}{ys:List D}{ks:List Nat}(k:view.go n h xs=some (ys,ks)){vs:Array Value}(j:vs.size=xs.length)
    (o:∀(i:Nat)(x:AV)(u:Value),xs[i]? =some x→vs[i]? =some u→Rep G w x u):vs.size=ys.length∧∀(i:Nat)(y:D)(u:Value),ys[i]? =some y→vs[i]? =some u→DRep (dD G h ks) w y u:=by
 obtain⟨f,g⟩:=i3 k;refine⟨by rw[j,f],fun i y u e m=> ?_⟩;have a:i<xs.length:=by rw[←f];exact(xE.1 e).1
 obtain⟨q,p,c,b,d⟩:=g i xs[i] (xH a);rw[e]at c;simp only[xA]at c;subst c;exact(d5 l n _ _ _ _ b (o i _ u (xH a) m)).mono (hX d) (fun _ _ _=>rfl)
theorem EC{x:AV}{v:Value}{y:D}(j:uA x=some y)(n:Rep G w x v):DRep G.imm w y v:=by
 have N:∀(l:List AV)(ys:List D),uA.go l=some ys→ys.length=l.length∧∀(i:Nat)(x:AV)(u:Value),l[i]? =some x→Rep G w x u→∃y,ys[i]? =some y∧y.one=true∧DRep G.imm w y u:=by
  intro l;induction l with
  |nil=>intro ys m;simp[uA.go]at m;subst m;simp
  |cons a r U=>
   intro ys m
   have e:∀(y:D),uA.go (a::r)=(uA.go r).map (y:: ·)→y.one=true→(∀u,Rep G w a u→DRep G.imm w y u)→
       ys.length=(a::r).length∧∀(i:Nat)(x:AV)(u:Value),(a::r)[i]? =some x→Rep G w x u→∃y,ys[i]? =some y∧y.one=true∧DRep G.imm w y u:=by
    intro y S p q;rw[S]at m;simp only[xB]at m;obtain⟨F,J,rfl⟩:=m;obtain⟨z,C⟩:=U F J;refine⟨by simp[z],fun i x u n R=> ?_⟩;cases i with
    |zero=>simp only[xl,xA]at n;subst n;exact⟨y,rfl,p,q u R⟩
    |succ i=>simp only[ym]at n;obtain⟨O,Q,h2⟩:=C i x u n R;exact⟨O,by simpa using Q,h2⟩
   cases a with
   |d y=>
    by_cases g:y.one=true
    ·exact e y (by simp[uA.go,g]) g (fun u f=>f.toDRep)
    ·simp[uA.go,g]at m
   |nils=>exact e (.ro []) (by simp[uA.go]) rfl (fun u f=>by cases f;exact .roNil _ _)
   |es=>exact e (.ro []) (by simp[uA.go]) rfl (fun u f=>by cases f;exact .roNil _ _)
   |vec k M sz l=>exact e (.ro l) (by simp[uA.go]) rfl (fun u f=>by cases f with|vecNil=>exact .roNil _ _|vec _ _ _ L T K A H I=>exact I)
   |_=>simp[uA.go]at m
 cases x with
 |d O=>simp only[uA,xA]at j;subst j;exact n.toDRep
 |nils=>simp only[uA,xA]at j;subst j;cases n;exact .roNil _ _
 |es=>simp only[uA,xA]at j;subst j;cases n;exact .roNil _ _
 |vec k M sz l=>simp only[uA,xA]at j;subst j;cases n with|vecNil=>exact .roNil _ _|vec _ _ _ L T K A H I=>exact I
 |agg cs=>
  simp only[uA,xB]at j;obtain⟨ys,m,rfl⟩:=j;obtain⟨z,C⟩:=N cs ys m;cases n with
  |agg _ vs o Q t=>
   refine .agg ys vs (by rw[o,z]) (fun c E=> ?_) (fun i c u E f=> ?_)
   ·obtain⟨i,s⟩:=xf E
    have b:i<vs.size:=by rw[o,←z];exact(xE.1 s).1
    have f:vs[i]? =some vs[i]:=xJ b;obtain⟨y,g,p,_⟩:=C i cs[i] vs[i] (xH (by rw[←o];exact b)) (t i _ _ (xH (by rw[←o];exact b)) f);rw[s]at g;simp only[xA]at g;subst g;exact p
   ·have b:i<cs.length:=by rw[←z];exact(xE.1 E).1
    obtain⟨y,g,_,q⟩:=C i cs[i] u (xH b) (t i _ _ (xH b) f);rw[E]at g;simp only[xA]at g;subst g;exact q
 |_=>simp[uA]at j
theorem qy:∀{xs:List AV}{ys:List D},sS xs=some ys→∀{vs:Array Value},vs.size=xs.length→(∀(i:Nat)(x:AV)(u:Value),xs[i]? =some x→vs[i]? =some u→Rep G w x u)→
    vs.size=ys.length∧∀(i:Nat)(y:D)(u:Value),ys[i]? =some y→vs[i]? =some u→DRep G.imm w y u:=by
 have j:∀(xs:List AV)(ys:List D),sS xs=some ys→ys.length=xs.length∧∀(i:Nat)(x:AV),xs[i]? =some x→∃y,ys[i]? =some y∧uA x=some y:=by
  intro xs;induction xs with
  |nil=>intro ys h;simp[sS]at h;subst h;simp
  |cons a r m=>
   intro ys h;rw[sS]at h;split at h
   ·rename_i y t e k
    simp only[xA]at h;subst h;obtain⟨f,g⟩:=m _ k;refine⟨by simp[f],fun i x d=> ?_⟩;cases i with
    |zero=>simp only[xl,xA]at d;subst d;exact⟨y,rfl,e⟩
    |succ i=>simp only[ym]at d;obtain⟨l,n,h2⟩:=g i x d;exact⟨l,by simpa using n,h2⟩
   ·cases h
 intro xs ys s vs p d;obtain⟨f,g⟩:=j xs ys s;refine⟨by rw[p,f],fun i y u e q=> ?_⟩;have b:i<xs.length:=by rw[←f];exact(xE.1 e).1
 obtain⟨l,c,o⟩:=g i xs[i] (xH b);rw[e]at c;simp only[xA]at c;subst c;exact EC o (d i _ u (xH b) q)
end
end Go.Avm
namespace Go.Avm
open Go.RowKit
variable[aG]
section
variable{P:Program}{G:Gh}{B:Nat}{w0 w:World}{I0:Nat→Nat→Prop}{h:aa}
theorem bO:∀{es:List AV},(∀x∈es,x.lone=true)→AV.flat es=es
 |[],_=>rfl
 |a::r,b=>by
  have:=bO (es:=r) (fun x c=>b x (by simp[c]));simp only[AV.flat,yB,AV.cells_lone (b a (by simp)),List.singleton_append]at this ⊢;rw[this]
theorem ma(r:HR G B w0 I0 h w)(k:Nat)(t:TypeId)(v:Value)(cs:List AV)(l:v.cells.size=cs.length)(o:∀u∈v.cells.toList,u.oneCell'=true)
    (p:∀(i:Nat)(c:AV)(u:Value),cs[i]? =some c→v.cells[i]? =some u→Rep G w c u):
    ∃f j a,(newVar t v).run P w= .ok a f∧Ext G w j f∧HR j B w0 I0 (aJ h k ⟨(h k).ver+1,some (.arr 1 cs)⟩) f∧Rep j f (.ptr k ((h k).ver+1) 0 0 1) (.pointer (some a))∧
     ∀L,j.loc k ((h k).ver+1)=some L→L.ty=t∧L.cap*L.sz=cs.length:=by
 have b:∀x∈cs,x.lone=true:=by
  intro x m;obtain⟨i,e⟩:=xf m;have d:i<v.cells.size:=by rw[l];exact(xE.1 e).1
  have g:v.cells[i]? =some v.cells[i]:=xJ d;exact(p i x _ e g).lone (o _ (by rw[xp];exact zH d))
 obtain⟨q,s⟩:=r.newOb k 1 cs.length cs v.cells t (by rw[l];omega) (xS _) (fun x m=>by rw[AV.cells_lone (b x m)];rfl) (fun _=>b) (fun i c e=>by
  rw[bO b]at e;have d:i<v.cells.size:=by rw[l];exact(xE.1 e).1
  have g:v.cells[i]? =some v.cells[i]:=xJ d;exact⟨_,g,o _ (by rw[xp];exact zH d),p i c _ e g⟩)
 refine⟨_,_,⟨w.heap.size,0,none⟩, ?_,s,q, ?_,fun L n=>by
  rw[Gh.at_same]at n;cases n;exact⟨rfl,Nat.mul_one _⟩⟩
 ·simp[newVar,newRow]
 ·have:=Rep.ptr (w:=w.alloc (.cells v.cells t)) k ((h k).ver+1) 0 0 _ (Gh.at_same G k ((h k).ver+1) ⟨w.heap.size,1,cs.length,0,t⟩)
  simpa using this
theorem mb:∀(a b:List (Nat×aK))(h:aa),ap h (a ++b)=ap (ap h a) b
 |[],_,_=>rfl
 |p::r,b,h=>by simp only[x8,ap];exact mb r b _
theorem qz:∀(b:List (Nat×aK))(h:aa){k:Nat},k∉b.map (·.1)→ap h b k=h k
 |[],_,_,_=>rfl
 |(j,e)::r,h,k,a=>by
  simp only[xN,xX,zM]at a;simp only[ap];rw[qz r _ a.2,ae _ _ a.1]
theorem jc{b:Gh}{c:World}{out:Out}(a:HR b B w0 I0 (ap h out.wr) c)(typ:Bool)(T:TypeId)(n:Option Nat)(k v:Nat)(f:v≤(ap h out.wr k).ver)
    (e:typ=true→∀L,b.loc k v=some L→L.ty=T∧∀m,n=some m→L.cap*L.sz=m):HR b B w0 I0 (ap h (cC typ T n k v h out).wr) c:=by
 unfold cC;split
 ·rename_i d
  simp only[mb,ap];have:=a.note (fQ k) k v T n f (e d.1);rw[qz _ _ d.2]at this;exact this
 ·exact a
theorem fF(typ:Bool)(T:TypeId)(n:Option Nat)(k v:Nat)(h:aa)(out:Out):(cC typ T n k v h out).val=out.val∧(cC typ T n k v h out).ob=out.ob:=by
 unfold cC;split<;>exact⟨rfl,rfl⟩
theorem qA(r:HR G B w0 I0 h w)(typ:Bool){t:TypeId}{k:Nat}{out:Out}(c:(fW P t k h).map (cC typ t ((mu P t).map List.length) k ((h k).ver+1) h)=some out):
    out.ob=[]∧∃v d g,(Instr.alloc t true (.tuple #[])).run P w= .ok v d∧Ext G w g d∧HR g B w0 I0 (ap h out.wr) d∧Rep g d out.val v:=by
 rw[xB]at c;obtain⟨A,c,rfl⟩:=c;rw[(fF ..).1,(fF ..).2];unfold fW at c;split at c
 ·rename_i zs b
  simp only[xA]at c;subst c;rw[b];simp only[mu,yn]at b;obtain⟨z,q,b⟩:=b;obtain⟨p,h2,y⟩:=fY (G:=G) (w:=w) b
  obtain⟨d,g,a,e,s,n,f,j⟩:=ma (P:=P) r k t z zs p (fun u x=>by
   obtain⟨i,o⟩:=xf x;exact h2 i u (by simpa using o)) y
  exact⟨rfl,_,d,g,by simp[Instr.alloc,dd q,e],s,jc n typ t _ k _ (by simp[ap,newOb,aJ]) (fun _ L l=>⟨(j L l).1,fun m hm=>by
   simp only[xc,xA]at hm;rw[(j L l).2,hm]⟩),f⟩
 ·cases c
theorem uE(p:HR G B w0 I0 h w)(typ:Bool){t:TypeId}{x:AV}{i:Value}(s:Rep G w x i){k:Nat}{out:Out}(b:(kC x k h).map (cC typ t (some x.cells.length) k ((h k).ver+1) h)=some out):
    out.ob=[]∧∃v c f,(Instr.box t i).run P w= .ok v c∧Ext G w f c∧HR f B w0 I0 (ap h out.wr) c∧Rep f c out.val v:=by
 rw[xB]at b;obtain⟨u,b,rfl⟩:=b;rw[(fF ..).1,(fF ..).2];unfold kC at b;split at b
 ·rename_i o
  simp only[xA]at b;subst b;obtain⟨l,h2,r⟩:=s.cells o;obtain⟨c,f,a,d,q,n,e,g⟩:=ma (P:=P) p k t i x.cells l h2 r
  exact⟨rfl,_,c,f,by simp[Instr.box,d],q,jc n typ t _ k _ (by simp[ap,newOb,aJ]) (fun _ L j=>⟨(g L j).1,fun m hm=>by
   simp only[xA]at hm;rw[(g L j).2,hm]⟩),e⟩
 ·cases b
theorem uF:∀(b:List Value)(cs:Array Value)(a j:Nat),a+j+b.length≤cs.size→
    ((b.zipIdx j).foldl (fun (cs:Array Value) p=>cs.setIfInBounds (a+p.2) p.1) cs).toList=cs.toList.take (a+j) ++b ++cs.toList.drop (a+j+b.length)
 |[],cs,a,j,_=>by simp
 |u::r,cs,a,j,h=>by
  simp only[List.zipIdx_cons,List.foldl_cons];rw[uF r (cs.setIfInBounds (a+j) u) a (j+1) (by simp at h ⊢;omega)];have e:=list_seg_step cs.toList (a+j) u r (by simp at h ⊢;omega);simpa [Array.toList_setIfInBounds,ya]using e
theorem mz(l:Nat→Option (Nat×Nat)):∀(n:List (Nat×AV))(a:List (Nat×Value))(cs:List AV)(d:Array Value)(out:List AV),
    tv l cs n=some out→a.length=n.length→(∀(i:Nat)(p:Nat×AV)(q:Nat×Value),n[i]? =some p→a[i]? =some q→p.1=q.1∧Rep G w p.2 q.2)→
    d.size=cs.length→(∀(i:Nat)(u:Value),d[i]? =some u→u.oneCell'=true)→(∀(i:Nat)(c:AV)(u:Value),cs[i]? =some c→d[i]? =some u→Rep G w c u)→
    ∃k,Instr.fill l d a=some k∧k.size=out.length∧(∀(i:Nat)(u:Value),k[i]? =some u→u.oneCell'=true)∧
     (∀(i:Nat)(c:AV)(u:Value),out[i]? =some c→k[i]? =some u→Rep G w c u)
 |[],a,cs,d,out,o,D,_,Q,E,F=>by
  simp only[tv,xA]at o;subst o;have:a=[]:=x7 (by simpa using D);subst this;exact⟨d,rfl,Q,E,F⟩
 |(i,x)::r,a,cs,d,out,o,D,hp,Q,E,F=>by
  cases a with
  |nil=>simp at D
  |cons q vr=>
   obtain⟨Z,s⟩:=q;obtain⟨v,z⟩:=hp 0 (i,x) (Z,s) rfl rfl;simp only at v z;subst v;simp only[tv]at o;split at o
   ·rename_i b S K
    split at o
    ·rename_i A
     obtain⟨I,V,hle⟩:=A;obtain⟨O,e2,e3⟩:=z.cells I;have C:=uF s.cells.toList d b 0 (by simp;omega)
     have m:(s.cells.zipIdx.foldl (fun (cs:Array Value) p=>cs.setIfInBounds (b+p.2) p.1) d).toList=d.toList.take b ++s.cells.toList ++d.toList.drop (b+s.cells.size):=by
      rw[←Array.foldl_toList];simpa using C
     refine mz l r vr _ (s.cells.zipIdx.foldl (fun (cs:Array Value) p=>cs.setIfInBounds (b+p.2) p.1) d) out o (by simpa using D) (fun j p q H J=>hp (j+1) p q (by simpa using H) (by simpa using J)) ?_ ?_ ?_|>.imp (fun k T=> ?_)
     ·rw[←xg,m];simp;omega
     ·intro j u hu
      have f:u∈(s.cells.zipIdx.foldl (fun (cs:Array Value) p=>cs.setIfInBounds (b+p.2) p.1) d).toList:=by rw[xp];exact yx hu
      rw[m]at f;simp only[xZ]at f;rcases f with (f|f)|f
      ·obtain⟨N,t⟩:=xf (yR f)
       exact E N u (by simpa using t)
      ·exact e2 u f
      ·obtain⟨N,t⟩:=xf (yg f)
       exact E N u (by simpa using t)
     ·intro j c u g e
      rw[←xe,m]at e;have R:s.cells.toList.length=x.cells.length:=by simpa using O
      by_cases y:j<b
      ·rw[xM,xU (by simp;omega),yG,x9 y]at g
       rw[xM,xU (by simp;omega),yG,x9 y]at e;exact F j c u g (by simpa using e)
      ·by_cases Y:j<b+x.cells.length
       ·rw[xU (by simp;omega),xV (by simp;omega)]at g
        rw[xU (by simp;omega),xV (by simp;omega)]at e;have M:min b cs.length=b:=by omega
        have L:min b d.size=b:=by omega
        simp only[zO,M,xg,L]at g e;exact e3 _ c u g (by simpa using e)
       ·rw[xV (by simp;omega),xw]at g
        rw[xV (by simp;omega),xw]at e;have M:min b cs.length=b:=by omega
        have L:min b d.size=b:=by omega
        simp only[xC,zO,M,xg,L,O]at g e;exact F _ c u g (by simpa using e)
     ·obtain⟨W,X,U,g4⟩:=T
      refine⟨?_,X,U,g4⟩;simp only[Instr.fill,K];rw[xj (by simp;omega)];exact W
    ·cases o
   ·cases o
theorem nb{t:TypeId}{fs:Array Field}(a:fieldsOf P t=some fs):P.underlying t=some (.struct fs):=by
 unfold fieldsOf at a;split at a
 ·rename_i h;simp only[xA]at a;subst a;exact h
 ·cases a
theorem qC:∀(fs:List Field),(fs.all fun f=>(P.info? f.type).isSome)=true→(fs.mapM fun f=>(P.info? f.type).map fun i=>(f.offset,i.size))=some (fs.map fun f=>(f.offset,P.cellsOf f.type))
 |[],_=>rfl
 |f::r,h=>by
  simp only[List.all_cons,xL]at h;obtain⟨i,a⟩:=Option.isSome_iff_exists.1 h.1;simp[List.mapM_cons,a,qC r h.2,Program.cellsOf]
theorem sU{t:TypeId}{b:List (Nat×AV)}{a:Array (Nat×Value)}{out:Out}(k:uB P t b=some out)(K:a.size=b.length)
    (hp:∀(i:Nat)(p:Nat×AV)(q:Nat×Value),b[i]? =some p→a[i]? =some q→p.1=q.1∧Rep G w p.2 q.2):
    out.ob=[]∧out.wr=[]∧∃v,(Instr.build t a).run P w= .ok v w∧Rep G w out.val v:=by
 unfold uB at k;split at k
 ·rename_i zs j c
  simp only[mu,yn]at c;obtain⟨z,J,c⟩:=c;simp only[xB]at k;obtain⟨cs,d,rfl⟩:=k;obtain⟨F,h2,I⟩:=fY (G:=G) (w:=w) c;obtain⟨g,A,C,x,E⟩:=mz (G:=G) (w:=w) (hV P t) b a.toList zs z.cells cs d (by simpa using K) (fun i p q o r=>hp i p q o (by simpa using r)) F h2 I;refine⟨rfl,rfl, .agg g, ?_,jq C x E⟩;unfold kD at j;split at j
  ·rename_i fs u
   have H:=nb u;have D:=run_places (P:=P) w fs.toList _ (qC fs.toList j)
   have m:(fun (i:Nat)=>((fs.toList.map fun f=>(f.offset,P.cellsOf f.type)).toArray:Array (Nat×Nat))[i]?)=hV P t:=by
    funext i;simp[hV,u]
   have l:Instr.fill (fun (i:Nat)=>((fs.toList.map fun f=>(f.offset,P.cellsOf f.type)).toArray:Array (Nat×Nat))[i]?) z.cells a.toList=some g:=by rw[m];exact A
   simp only[Instr.build,Sem.run_bind,dd J,run_underlying H,Result.andThen_ok]
   have hm:(fs.mapM fun f=>(do pure (f.offset,←sizeOf f.type):Sem (Nat×Nat))).run P w= .ok (fs.toList.map fun f=>(f.offset,P.cellsOf f.type)).toArray w:=by
    rw[Array.mapM_eq_mapM_toList,Sem.run_map]
    have:(fs.toList.mapM fun f=>(do pure (f.offset,←sizeOf f.type):Sem (Nat×Nat)))=(fs.toList.mapM fun f=>Prod.mk f.offset<$>sizeOf f.type):=by
     congr 1
    rw[this,D];rfl
   simp only[hm,Result.andThen_ok,l,Sem.run_pure]
  ·cases j
 ·rename_i zs j c
  simp only[mu,yn]at c;obtain⟨z,J,c⟩:=c;split at k;case h_2=>cases k
  rename_i e s;simp only[xB]at k;obtain⟨cs,d,rfl⟩:=k;obtain⟨F,h2,I⟩:=fY (G:=G) (w:=w) c;obtain⟨g,A,C,x,E⟩:=mz (G:=G) (w:=w) _ b a.toList zs z.cells cs d (by simpa using K) (fun i p q o r=>hp i p q o (by simpa using r)) F h2 I;refine⟨rfl,rfl, .agg g, ?_,jq C x E⟩;unfold MN at s;split at s
  ·rename_i n N H
   split at s
   ·rename_i L
    cases s;obtain⟨i,M⟩:=Option.isSome_iff_exists.1 (show(P.info? e).isSome=true from L);have y:(sizeOf e).run P w= .ok (P.cellsOf e) w:=by simp[sizeOf,typeInfo,M,Program.cellsOf]
    simp only[Instr.build,Sem.run_bind,dd J,run_underlying H,Result.andThen_ok,y,A,Sem.run_pure]
   ·cases s
  ·cases s
 ·cases k
end
end Go.Avm
namespace Go.Avm
open Go.RowKit
variable[aG]
section
variable{P:Program}{G:Gh}{B:Nat}{w0 w:World}{I0:Nat→Nat→Prop}{h:aa}
theorem lG{c:Type}(l a:List c)(p t:Nat)(hp:p+a.length≤l.length):
    (l.take p ++a ++l.drop (p+a.length))[t]? =if t<p then l[t]? else if t<p+a.length then a[t-p]? else l[t]? :=by
 by_cases b:t<p
 ·rw[x9 b,xM,xU (by simp;omega),yG,x9 b]
 ·rw[xj b]
  by_cases h2:t<p+a.length
  ·rw[x9 h2,xU (by simp;omega),xV (by simp;omega)]
   congr 1;simp;omega
  ·rw[xj h2,xV (by simp;omega),xw]
   congr 1;simp;omega
theorem bA{t:TypeId}(a:cR P t=true)(w:World):(sizeOf t).run P w= .ok (P.cellsOf t) w:=by
 obtain⟨i,b⟩:=Option.isSome_iff_exists.1 a;simp[sizeOf,typeInfo,b,Program.cellsOf]
theorem jO(R:HR G B w0 I0 h w){t:TypeId}{k sz i a V:Nat}{es es':List AV}{x:AV}{va d:Value}(ha:Rep G w (.ptr k (h k).ver i a V) va)(hx:Rep G w x d)
    (l:(h k).ob=some (.arr sz es)) (T:x.stor=true) (Q:x.cells.length=P.cellsOf t) (N:cR P t=true)
    (K:i*sz+a+x.cells.length≤es.length*sz) (D:es'.length=es.length) (Y:(∀e∈es,e.cells.length=sz)→∀e∈es',e.cells.length=sz)
    (S:sz=1→(∀e∈es,e.lone=true)→(∀c∈x.cells,c.lone=true)→∀e∈es',e.lone=true)
    (E:(∀e∈es,e.cells.length=sz)→(sz=1→∀e∈es,e.lone=true)→(∀c∈x.cells,c.lone=true)→∀(s:Nat)(c:AV),(AV.flat es')[s]? =some c→
     (s<i*sz+a∧(AV.flat es)[s]? =some c)∨(i*sz+a≤s∧x.cells[s-(i*sz+a)]? =some c)∨(i*sz+a+x.cells.length≤s∧(AV.flat es)[s]? =some c)):
    ∃U,(Instr.storeAt t va d).run P w= .ok () U∧Ext G w G U∧HR G B w0 I0 (aJ h k ⟨(h k).ver,some (.arr sz es')⟩) U:=by
 obtain⟨J,e2,e3⟩:=hx.cells T
 have z:∀c∈x.cells,c.lone=true:=by
  intro c O;obtain⟨j,hj⟩:=xf O;have q:j<d.cells.size:=by rw[J];exact(xE.1 hj).1
  have r:d.cells[j]? =some d.cells[j]:=xJ q;exact(e3 j c _ hj r).lone (e2 _ (by rw[xp];exact zH q))
 cases ha with
 |ptr _ _ _ _ L W=>
  rcases R.objs k _ l with ⟨rfl,hLn⟩|⟨L',I,A,h2,h3,h4,h6,h5⟩
  ·
   have hx0:x.cells.length=0:=by simp only[xF,Nat.zero_mul]at K;omega
   have Z:d.cells.toList=[]:=x7 (by simpa [hx0]using J);have M:es'=[]:=x7 (by simpa using D);subst M;refine⟨w, ?_,Ext.refl G w, ?_⟩
   ·have g:d.cells.size=P.cellsOf t:=by rw[J,Q]
    simp[Instr.storeAt,Instr.sureAddr,storeVar,bA N,g,Z,storeCells]
   ·have:aJ h k ⟨(h k).ver,some (.arr sz [])⟩=h:=by
      funext k';by_cases hk:k'=k
      ·subst hk;rw[ad];cases hh:h k' with|mk ver ob=>rw[hh]at l;simp only at l;subst l;rfl
      ·rw[ae _ _ hk]
    rw[this];exact R
  ·rw[W]at I
   simp only[xA]at I;subst I;obtain⟨hB,⟨arr,e,X,hs⟩,_⟩:=R.own k L W
   have n:i*L.sz+a+d.cells.toList.length≤arr.size:=by
    rw[hs.1,A,xg,J];have:=y9 sz h3;omega
   have v:=run_storeCells_at P L.b (i*L.sz+a) e d.cells.toList 0 arr w X (by simpa using n) e2;simp only[yp]at v
   have F:(arr.toList.take (i*L.sz+a) ++d.cells.toList ++arr.toList.drop (i*L.sz+a+d.cells.toList.length)).toArray.size=arr.size:=by
    have:d.cells.toList.length=d.cells.size:=xg;simp;simp at n;omega
   have y:=R.store l W A h2 X F (by rw[D];exact h3) (Y h4) (fun hz=>S hz (h6 hz) z) (fun s c O=>by
    have C:∀{s:Nat}{c:AV},(AV.flat es)[s]? =some c→∃u:Value,arr[s]? =some u∧u.oneCell'=true∧Rep G w c u:=by
     intro s c O;obtain⟨u,r,m,o⟩:=h5 s c O;exact⟨u,by simpa [World.cell?,X]using r,m,o⟩
    have p:=lG arr.toList d.cells.toList (i*L.sz+a) s (by simpa using n);rcases E h4 h6 z s c O with ⟨H,f⟩|⟨H,f⟩|⟨H,f⟩
    ·obtain⟨u,r,m,o⟩:=C f
     refine⟨u, ?_,m,o⟩;rw[yY,p,x9 (by rw[A];exact H)];simpa using r
    ·have q:s-(i*sz+a)<d.cells.size:=by rw[J];exact(xE.1 f).1
     have r:d.cells[s-(i*sz+a)]? =some d.cells[s-(i*sz+a)]:=xJ q;refine⟨_, ?_,e2 _ (by rw[xp];exact zH q),e3 _ c _ f r⟩;rw[yY,p,xj (by rw[A];omega),x9 (by rw[A];simp;omega),A];simp
    ·obtain⟨u,r,m,o⟩:=C f
     refine⟨u, ?_,m,o⟩;rw[yY,p,xj (by rw[A];omega),xj (by rw[A];simp;omega)];simpa using r)
   refine⟨_, ?_,y.2,y.1⟩;have g:d.cells.size=P.cellsOf t:=by rw[J,Q]
   simp[Instr.storeAt,Instr.sureAddr,storeVar,bA N,g,v]
theorem sV(Z:HR G B w0 I0 h w){t:TypeId}{a x:AV}{va W:Value}(Y:Rep G w a va)(T:Rep G w x W){out:Out}(l:eM P t a x h=some out):
    out.ob=[]∧out.val= .junk∧∃w',(Instr.storeAt t va W).run P w= .ok () w'∧Ext G w G w'∧HR G B w0 I0 (ap h out.wr) w':=by
 unfold eM at l;split at l
 ·rename_i k v i z sz0
  split at l
  ·rename_i sz es A
   split at l
   ·rename_i hc
    obtain⟨rfl,u,F,E⟩:=hc;split at l
    ·rename_i D
     subst D;split at l
     ·rename_i L
      subst L;split at l
      ·rename_i I
       split at l
       ·rename_i hi
        simp only[xA]at l;subst l
        have o:x.lone=true:=by cases x with
         |d y=>cases y<;>first|rfl|(simp[AV.one]at I)
         |agg _=>simp[AV.one]at I
         |_=>rfl
        have C:x.cells=[x]:=AV.cells_lone o;refine⟨rfl,rfl,jO Z Y T A u F E (by rw[C];simp;omega) (by simp) (fun m e b=> ?_) (fun _ r _ e b=> ?_) (fun m r _ s c f=> ?_)⟩
        ·rcases xu b with b|rfl
         ·exact m e b
         ·rw[C];rfl
        ·rcases xu b with b|rfl
         ·exact r e b
         ·exact o
        ·have p:∀e∈es.set i x,e.lone=true:=fun e b=>by
           rcases xu b with b|rfl
           ·exact r rfl e b
           ·exact o
         rw[bO p,List.getElem?_set]at f;rw[bO (r rfl)];simp only[Nat.mul_one,yp];by_cases M:i=s
         ·subst M
          simp[hi]at f;subst f;exact .inr (.inl ⟨xS _,by simp[C]⟩)
         ·rw[xj M]at f
          rcases Nat.lt_or_gt_of_ne M with q|N
          ·exact .inr (.inr ⟨by rw[C];simp;omega,f⟩)
          ·exact .inl ⟨N,f⟩
       ·cases l
      ·split at l
       ·rename_i hi
        simp only[xA]at l;subst l;have U:=lG es x.cells i;refine⟨rfl,rfl,jO Z Y T A u F E (by omega) (by simp;omega) (fun m e b=> ?_) (fun _ r o e b=> ?_) (fun m r o s c f=> ?_)⟩
        ·simp only[xM,xZ]at b
         rcases b with b|b|b
         ·exact m e (yR b)
         ·have o:∀c∈x.cells,c.lone=true:=by
            obtain⟨e1,e2,e3⟩:=T.cells u;intro c hc;obtain⟨j,R⟩:=xf hc;have q:j<W.cells.size:=by rw[e1];exact(xE.1 R).1
            have hu:W.cells[j]? =some W.cells[j]:=xJ q;exact(e3 j c _ R hu).lone (e2 _ (by rw[xp];exact zH q))
          rw[AV.cells_lone (o e b)];rfl
         ·exact m e (yg b)
        ·simp only[xM,xZ]at b
         rcases b with b|b|b
         ·exact r e (yR b)
         ·exact o e b
         ·exact r e (yg b)
        ·have p:∀e∈es.take i ++x.cells ++es.drop (i+x.cells.length),e.lone=true:=fun e b=>by
           simp only[xM,xZ]at b;rcases b with b|b|b
           ·exact r rfl e (yR b)
           ·exact o e b
           ·exact r rfl e (yg b)
         rw[bO p,U s hi]at f;rw[bO (r rfl)];simp only[Nat.mul_one,yp];split at f
         ·rename_i q;exact .inl ⟨q,f⟩
         ·split at f
          ·exact .inr (.inl ⟨by omega,f⟩)
          ·exact .inr (.inr ⟨by omega,f⟩)
       ·cases l
     ·cases l
    ·rename_i D
     split at l
     ·rename_i e b
      have J:=(xE.1 b).1
      have hmul:i*sz+sz≤es.length*sz:=by
       have:(i+1)*sz≤es.length*sz:=y9 sz J;rw[yf,Nat.one_mul]at this;exact this
      have H:∀(y:AV),(∀e∈es,e.cells.length=sz)→y.cells.length=sz→∀(s:Nat)(c:AV),(AV.flat (es.set i y))[s]? =some c→
          ((s<i*sz∨i*sz+sz≤s)∧(AV.flat es)[s]? =some c)∨(i*sz≤s∧s<i*sz+sz∧y.cells[s-i*sz]? =some c):=by
       intro y m hy s c f
       have p:∀e∈es.set i y,e.cells.length=sz:=fun e b=>by
        rcases xu b with b|rfl
        ·exact m e b
        ·exact hy
       obtain⟨X,j,e',rfl,R,n,g⟩:=fl p f;rw[List.getElem?_set]at n;by_cases Q:i=X
       ·subst Q
        rw[x9 rfl,x9 J]at n;simp only[xA]at n;subst n;exact .inr ⟨by omega,by omega,by rw[show i*sz+j-i*sz=j from by omega];exact g⟩
       ·rw[xj Q]at n
        refine .inl ⟨?_,by rw[AV.flat,bM _ sz es m X j R,n,yA,g]⟩;rcases Nat.lt_or_gt_of_ne Q with q|N
        ·right
         have:(i+1)*sz≤X*sz:=y9 sz q;rw[yf,Nat.one_mul]at this;omega
        ·left
         have:(X+1)*sz≤i*sz:=y9 sz N;rw[yf,Nat.one_mul]at this;omega
      have K:(∀e∈es,e.cells.length=sz)→∀j,j<sz→(AV.flat es)[i*sz+j]? =e.cells[j]? :=fun m j R=>by
       rw[AV.flat,bM _ sz es m i j R,b,yA]
      split at l
      ·rename_i hc2
       obtain⟨rfl,V⟩:=hc2;simp only[xA]at l;subst l;refine⟨rfl,rfl,jO Z Y T A u F E (by omega) (by simp) (fun m e b=> ?_) (fun hz=>absurd hz D) (fun m _ _ s c f=> ?_)⟩
       ·rcases xu b with b|rfl
        ·exact m e b
        ·exact V
       ·rcases H x m V s c f with ⟨O,g⟩|⟨h7,h8,g⟩
        ·rcases O with O|O
         ·exact .inl ⟨by omega,g⟩
         ·exact .inr (.inr ⟨by omega,g⟩)
        ·exact .inr (.inl ⟨by omega,by simpa using g⟩)
      ·split at l
       ·rename_i L
        simp only[xA]at l;subst l;refine⟨rfl,rfl,jO Z Y T A u F E (by omega) (by simp) (fun m e' n=> ?_) (fun hz=>absurd hz D) (fun m _ _ s c f=> ?_)⟩
        ·rcases xu n with n|rfl
         ·exact m e' n
         ·rw[gQ]
          have:=m e (x5 b);simp;omega
        ·have hel:=m e (x5 b)
         have hyl:(iu (e.cells.take z ++x.cells ++e.cells.drop (z+x.cells.length))).cells.length=sz:=by rw[gQ];simp;omega
         rcases H _ m hyl s c f with ⟨O,g⟩|⟨h7,h8,g⟩
         ·rcases O with O|O
          ·exact .inl ⟨by omega,g⟩
          ·exact .inr (.inr ⟨by omega,g⟩)
         ·rw[gQ,lG e.cells x.cells z (s-i*sz) (by omega)]at g
          have S:s=i*sz+(s-i*sz):=by omega
          split at g
          ·refine .inl ⟨by omega, ?_⟩
           rw[S,K m _ (by omega)];exact g
          ·split at g
           ·exact .inr (.inl ⟨by omega,by rw[show s-(i*sz+z)=s-i*sz-z from by omega];exact g⟩)
           ·refine .inr (.inr ⟨by omega, ?_⟩)
            rw[S,K m _ (by omega)];exact g
       ·cases l
     ·cases l
   ·cases l
  ·cases l
 ·cases l
end
end Go.Avm
namespace Go.Avm
open Go.RowKit
variable[aG]
section
variable{P:Program}{G:Gh}{B:Nat}{w0 w:World}{I0:Nat→Nat→Prop}{h:aa}
theorem mc:∀(n:Nat)(a:List (Nat×AV))(xs:List AV),kF n a=some xs→xs.length=a.length∧∀(i:Nat)(p:Nat×AV),a[i]? =some p→p.1=n+i∧xs[i]? =some p.2
 |n,[],xs,h=>by simp[kF]at h;subst h;simp
 |n,(i,x)::r,xs,h=>by
  simp only[kF]at h;split at h
  ·rename_i b
   subst b;simp only[xB]at h;obtain⟨ys,d,rfl⟩:=h;obtain⟨e,c⟩:=mc (i+1) r ys d;refine⟨by simp[e],fun j p hp=> ?_⟩;cases j with
   |zero=>simp only[xl,xA]at hp;subst hp;simp
   |succ j=>
    simp only[ym]at hp;obtain⟨f,h2⟩:=c j p hp;exact⟨by omega,by simpa using h2⟩
  ·cases h
theorem wz(sz:Nat):∀(c:List (Nat×Value))(n:Nat)(cs:Array Value),(∀(i:Nat)(q:Nat×Value),c[i]? =some q→q.1=n+i∧q.2.cells.size=sz)→n*sz+c.length*sz≤cs.size→
    ∃cs':Array Value,Instr.fill (fun i=>some (i*sz,sz)) cs c=some cs'∧cs'.toList=cs.toList.take (n*sz) ++c.flatMap (fun q=>q.2.cells.toList) ++cs.toList.drop (n*sz+c.length*sz)
 |[],n,cs,_,_=>⟨cs,rfl,by simp⟩
 |(i,v)::r,n,cs,o,l=>by
  obtain⟨m,e⟩:=o 0 (i,v) rfl;simp only[yp]at m e;subst m;have d:i*sz+(r.length+1)*sz≤cs.size:=by simpa using l
  rw[yf,Nat.one_mul]at d;have b:=uF v.cells.toList cs (i*sz) 0 (by simp;omega)
  have a:(v.cells.zipIdx.foldl (fun (cs:Array Value) p=>cs.setIfInBounds (i*sz+p.2) p.1) cs).toList=cs.toList.take (i*sz) ++v.cells.toList ++cs.toList.drop (i*sz+v.cells.size):=by
   rw[←Array.foldl_toList];simpa using b
  have g:(v.cells.zipIdx.foldl (fun (cs:Array Value) p=>cs.setIfInBounds (i*sz+p.2) p.1) cs).size=cs.size:=by
   rw[←xg,a];simp;omega
  obtain⟨cs',t,h2⟩:=wz sz r (i+1) (v.cells.zipIdx.foldl (fun (cs:Array Value) p=>cs.setIfInBounds (i*sz+p.2) p.1) cs) (fun j q u=>by
   obtain⟨s,k⟩:=o (j+1) q (by simpa using u);exact⟨by omega,k⟩) (by rw[g,yf,Nat.one_mul];omega)
  refine⟨cs', ?_, ?_⟩
  ·simp only[Instr.fill]
   rw[xj (by simp[e];omega)];exact t
  ·rw[h2,a]
   have s:(i+1)*sz=i*sz+sz:=by rw[yf,Nat.one_mul]
   have k:((i,v)::r).length*sz=r.length*sz+sz:=by simp[yf]
   have f:(cs.toList.take (i*sz) ++v.cells.toList).length=i*sz+sz:=by simp[e];omega
   rw[s,k,List.take_left' f,List.drop_append,f,List.drop_eq_nil_of_le (by rw[f];omega)];simp only[yB,xn,List.drop_drop,xM];congr 4;rw[e];omega
theorem ED{xs:List AV}{vs:List Value}{sz:Nat}(r:vs.length=xs.length)(s:∀(i:Nat)(x:AV)(v:Value),xs[i]? =some x→vs[i]? =some v→Rep G w x v)(o:∀x∈xs,x.stor=true∧x.cells.length=sz):
    (∀(i:Nat)(v:Value),vs[i]? =some v→v.cells.size=sz)∧∀(t:Nat)(c:AV),(AV.flat xs)[t]? =some c→∃u,(vs.flatMap fun v=>v.cells.toList)[t]? =some u∧u.oneCell'=true∧Rep G w c u:=by
 have b:∀(i:Nat)(v:Value),vs[i]? =some v→v.cells.size=sz:=by
  intro i v f;have a:i<xs.length:=by rw[←r];exact(xE.1 f).1
  have m:xs[i]? =some xs[i]:=xH a;obtain⟨n,h2⟩:=o xs[i] (y7 a);rw[((s i _ v m f).cells n).1,h2]
 refine⟨b,fun t c F=> ?_⟩;obtain⟨i,j,e,rfl,q,l,E⟩:=fl (fun x g=>(o x g).2) F;have a:i<vs.length:=by rw[r];exact(xE.1 l).1
 have f:vs[i]? =some vs[i]:=xH a;obtain⟨n,h2⟩:=o e (x5 l);obtain⟨z,C,A⟩:=(s i e _ l f).cells n;have d:j<vs[i].cells.size:=by rw[z,h2];exact q
 have D:vs[i].cells[j]? =some vs[i].cells[j]:=xJ d;refine⟨_, ?_,C _ (by rw[xp];exact zH d),A j c _ E D⟩
 rw[bM (fun v:Value=>v.cells.toList) sz vs (fun v p=>by
  obtain⟨y,k⟩:=xf p;simpa using b y v k) i j q,f,yA]
 simp
theorem mA(hr:HR G B w0 I0 h w){obm:Bool}{t:TypeId}{d:Nat}{b:List (Nat×AV)}{a:Array (Nat×Value)}{k:Nat}{out:Out}(f:eN P obm t d b k h=some out)
    (hl:a.size=b.length) (hp:∀(i:Nat)(p:Nat×AV)(q:Nat×Value),b[i]? =some p→a[i]? =some q→p.1=q.1∧Rep G w p.2 q.2):
    out.ob=[]∧∃v w' G',(Instr.buildSlice t d a).run P w= .ok v w'∧Ext G w G' w'∧HR G' B w0 I0 (ap h out.wr) w'∧Rep G' w' out.val v:=by
 unfold eN at f;split at f
 ·rename_i e hu
  split at f
  ·rename_i xs hxs
   split at f
   ·rename_i hc
    obtain⟨A,hsmall,hz,hall⟩:=hc;obtain⟨z,hz⟩:=Option.isSome_iff_exists.1 hz;obtain⟨E,M⟩:=mc 0 b xs hxs
    have C:∀x∈xs,x.stor=true∧x.cells.length=P.cellsOf e:=fun x F=>by
     have:=xa.1 hall x F;simpa using this
    have W:=ED (G:=G) (w:=w) (xs:=xs) (vs:=a.toList.map (·.2)) (sz:=P.cellsOf e) (by simp[hl,E]) (fun i x v F U=>by
     simp only[xP,xB]at U;obtain⟨q,hq,rfl⟩:=U;have l:i<b.length:=by rw[←E];exact(xE.1 F).1
     have g:b[i]? =some b[i]:=xH l;obtain⟨_,h2⟩:=M i _ g;rw[F]at h2;simp only[xA]at h2;subst h2;exact(hp i _ q g (by simpa using hq)).2) C
    obtain⟨o,hv2⟩:=W
    have K:∀cs:Array Value,cs.size=d*P.cellsOf e→∃cs':Array Value,Instr.fill (fun i=>some (i*P.cellsOf e,P.cellsOf e)) cs a.toList=some cs'∧cs'.toList=(a.toList.map (·.2)).flatMap fun v=>v.cells.toList:=by
     intro cs n;have hvl:a.toList.length=d:=by simp[hl,←E,A]
     obtain⟨cs',I,h2⟩:=wz (P.cellsOf e) a.toList 0 cs (fun i q hq=>by
      have l:i<b.length:=by rw[←hl,←xg];exact(xE.1 hq).1
      have g:b[i]? =some b[i]:=xH l;refine⟨?_,o i q.2 (by simp[hq])⟩;rw[←(hp i _ q g (by simpa using hq)).1,(M i _ g).1]) (by rw[hvl,n];omega)
     refine⟨cs',I, ?_⟩;rw[h2,hvl];simp[n,List.flatMap_map]
    have hkn:∀w,(sizeOf e).run P w= .ok (P.cellsOf e) w:=by
     intro w;unfold db at hz;cases hi:P.info? e with
     |none=>simp[hi]at hz
     |some i=>simp[sizeOf,typeInfo,hi,Program.cellsOf]
    have m:∃cs':Array Value,(Instr.buildSlice t d a).run P w= .ok (.slice (some ⟨w.heap.size,0,none⟩) d d) (w.alloc (.cells cs' e))∧cs'.toList=(a.toList.map (·.2)).flatMap fun v=>v.cells.toList:=by
     have hsm:¬(d*P.cellsOf e>2^24):=by omega
     by_cases h0:d*P.cellsOf e=0
     ·obtain⟨cs',I,h2⟩:=K #[] (by simp[h0])
      refine⟨cs', ?_,h2⟩;have h9:Array.map (fun _:Nat=>(default:Value)) (Array.range 0)= #[]:=by simp
      simp[Instr.buildSlice,run_underlying hu,hkn,h0,h9,I,newRow]
     ·obtain⟨cs',I,h2⟩:=K ((Array.range (d*P.cellsOf e)).map (fun i=>z.cells[i % z.cells.size]!)) (by simp)
      refine⟨cs', ?_,h2⟩;simp only[Instr.buildSlice,Sem.run_bind,run_underlying hu,hkn,Result.andThen_ok,xj hsm,h0,zS,dd hz,Sem.run_pure,Sem.run_ite,pure_bind];simp[I,newRow]
    obtain⟨cs',m,n⟩:=m
    have J:cs'.size=d*P.cellsOf e:=by
     rw[←xg,n,cH (fun v:Value=>v.cells.toList) (P.cellsOf e) _ (fun v X=>by
      obtain⟨i',N⟩:=xf X;simpa using o i' v N)]
     simp[hl,←E,A]
    have Q:∀(t:Nat)(c:AV),(AV.flat xs)[t]? =some c→∃u:Value,cs'[t]? =some u∧u.oneCell'=true∧Rep G w c u:=fun t c ht=>by
     obtain⟨u,hu,I,h2⟩:=hv2 t c ht;exact⟨u,by rw[←xe,n];exact hu,I,h2⟩
    split at f
    ·split at f
     ·cases f
     ·rename_i hlo
      simp only[xA]at f;subst f
      obtain⟨g1,g2⟩:=hr.newOb k (P.cellsOf e) d xs cs' e J (by omega) (fun x F=>(C x F).2) (fun I x F=>by
       cases hxa:xs.all AV.lone with
       |true=>exact xa.1 hxa x F
       |false=>exact absurd ⟨I,hxa⟩ hlo) Q
      refine⟨rfl,_,_,_,m,g2,g1, ?_⟩;have:=Rep.sl (w:=w.alloc (.cells cs' e)) k ((h k).ver+1) 0 d d _ (Gh.at_same G k ((h k).ver+1) ⟨w.heap.size,P.cellsOf e,d,0,e⟩) (by simp) (xS _);simpa using this
    ·split at f
     ·rename_i r R
      split at f
      ·cases f
      ·rename_i hk
       simp only[xA]at f;subst f;obtain⟨ys,ks⟩:=r;simp only at hk;have hr1:=hr.kill ks;have hex1:=Ext.froz hr ks;have H:=i3 R
       have hys:∀(i:Nat)(y:D),ys[i]? =some y→∃x v,xs[i]? =some x∧(a.toList.map (·.2))[i]? =some v∧DRep (dD G h ks) w y v:=by
        intro i y Y;have l:i<xs.length:=by rw[←H.1];exact(xE.1 Y).1
        obtain⟨y',k',T,hvw,hk'⟩:=H.2 i xs[i] (xH l);rw[Y]at T;simp only[xA]at T;subst T;have L:i<b.length:=by rw[←E];exact l
        have g:b[i]? =some b[i]:=xH L;have hltq:i<a.size:=by rw[hl];exact L
        have hqe:a[i]? =some a[i]:=xJ hltq;have O:=(M i _ g).2;rw[xH l]at O;simp only[xA]at O;refine⟨xs[i],a[i].2,xH l,by simp[hqe], ?_⟩;have hrp:=(hp i _ _ g hqe).2;rw[←O]at hrp;exact(d5 hr 3 _ _ _ _ hvw hrp).mono (hX hk') (fun _ _ _=>rfl)
       have Z:∀y∈ys,y.cells.length=P.cellsOf e:=by
        intro y Y;obtain⟨i,hi⟩:=xf Y;obtain⟨x,v,F,U,hd⟩:=hys i y hi;rw[hd.cells.1,o i v U]
       have hnew:=hr1.newVec k (P.cellsOf e) d ys cs' e J (by rw[H.1];omega) Z (fun t c ht=>by
        obtain⟨i,j,y,rfl,hj,Y,hc⟩:=fl Z ht;obtain⟨x,v,F,U,hd⟩:=hys i y Y;obtain⟨d1,d2,d3⟩:=hd.cells;have hjl:j<v.cells.size:=by rw[o i v U];exact hj
        have hu':v.cells[j]? =some v.cells[j]:=xJ hjl;refine⟨_, ?_,d2 c (x5 hc),d3 j c _ hc hu'⟩
        rw[←xe,n,bM (fun v:Value=>v.cells.toList) (P.cellsOf e) _ (fun v X=>by
         obtain⟨i',N⟩:=xf X;simpa using o i' v N) i j hj,U,yA]
        simp)
       obtain⟨G',g1,g2,g3⟩:=hnew;have S:ap h (kill h ks) k=h k:=by rw[bz,xj hk]
       rw[S]at g1 g3;refine⟨rfl,_,_,G',m,hex1.trans g2, ?_, ?_⟩
       ·have:ap h ((k,⟨(h k).ver+1,none⟩)::kill h ks)=aJ (ap h (kill h ks)) k ⟨(h k).ver+1,none⟩:=by
          funext s;simp only[ap];rw[bz];by_cases V:s=k
          ·subst V;simp[hk,aJ]
          ·rw[ae _ _ V,ae _ _ V,bz]
        rw[this];exact g1
       ·have hyl:ys.length=d:=by rw[H.1,A]
        rw[hyl]at g3;exact g3
     ·cases f
   ·cases f
  ·cases f
 ·cases f
theorem nc(hr:HR G B w0 I0 h w){t:TypeId}{x ix:AV}{V vi:Value}(O:Rep G w x V)(J:Rep G w ix vi){out:Out}(f:fy P t x ix h=some out):
    out.ob=[]∧out.wr=[]∧∃v,(Instr.indexAt t V vi).run P w= .ok v w∧Rep G w out.val v:=by
 unfold fy at f;split at f
 ·rename_i e kd i Q
  cases J with
  |d z=>
   cases z
   have M:∀(l:List D),DRep G.imm w (.ro l) V→(if 0≤i then match l[i.toNat]? with
       |some y=>if y.cells.length=P.cellsOf e∧cR P e=true then some ({val:= .d (.rp y.cells)}:Out)else none
       |none=>none else none)=some out→out.ob=[]∧out.wr=[]∧∃v,(Instr.indexAt t V (.int kd i)).run P w= .ok v w∧Rep G w out.val v:=by
    intro l N r;split at r
    ·rename_i F
     split at r
     ·rename_i y T
      split at r
      ·rename_i p
       obtain⟨Z,g⟩:=p;simp only[xA]at r;subst r;have Y:=(xE.1 T).1;cases N with
       |roNil=>simp at Y
       |ro _ b o c sz U K E X J p I=>
        have u:=E y (x5 T);have A:sz=P.cellsOf e:=by rw[←u,Z]
        refine⟨rfl,rfl, .pointer (some ⟨b,o+i.toNat*sz,none⟩), ?_, .d (.rp y.cells b (o+i.toNat*sz) (fun j=>U (i.toNat*sz+j)) (fun c C=> ?_) ?_ ?_ ?_)⟩
        ·have m:i<(l.length:Int):=by omega
         simp[Instr.indexAt,asIntOf,run_underlying Q,F,m,bA g,dn,A]
        ·exact X c (List.mem_flatMap.2 ⟨y,x5 T,C⟩)
        all_goals
         intro j c hj;have W:j<sz:=by rw[←u];exact(xE.1 hj).1
         have H:(D.flat l)[i.toNat*sz+j]? =some c:=by rw[D.flat,bM _ sz l E _ j W,T,yA,hj]
        ·have:=J _ c H;rwa [←ya]at this
        ·have:=p _ c H;rwa [←ya]at this
        ·exact I _ c H
      ·cases r
     ·cases r
    ·cases r
   split at f
   ·exact M _ O.toDRep f
   ·rename_i k ver sz l
    refine M l ?_ f;cases O with
    |vecNil=>exact .roNil _ _
    |vec _ _ _ L R hfr hlen E N=>exact N
   ·rename_i k v q len sz
    split at f
    ·rename_i p
     obtain⟨A,g,F,m⟩:=p;simp only[xA]at f;subst f;cases O with
     |slNil=>omega
     |sl _ _ _ _ c L R K hlc=>
      refine⟨rfl,rfl, .pointer (some ⟨L.b,(q+i.toNat)*L.sz+0,none⟩), ?_, .ptr k _ _ 0 L R⟩;have a:i<(len:Int):=by omega
      have:q*L.sz+i.toNat*P.cellsOf e=(q+i.toNat)*L.sz:=by rw[yf,A]
      simp[Instr.indexAt,asIntOf,run_underlying Q,F,a,bA g,dn,this]
    ·cases f
   ·cases f
 ·rename_i n e kd i Q
  cases J with
  |d z=>
   cases z;split at f
   ·rename_i k v j q sz
    split at f
    ·rename_i p
     obtain⟨hes,rfl,g,F,m⟩:=p;simp only[xA]at f;subst f;cases O with
     |ptr _ _ _ _ L R=>
      have a:i<(n:Int):=by omega
      refine⟨rfl,rfl, .pointer (some ⟨L.b,(j+i.toNat*P.cellsOf e)*L.sz+0,none⟩), ?_, .ptr k _ _ 0 L R⟩;have:j*L.sz+i.toNat*P.cellsOf e=(j+i.toNat*P.cellsOf e)*L.sz:=by rw[hes];omega
      simp[Instr.indexAt,asIntOf,Instr.sureAddr,run_underlying Q,F,a,bA g,dn,this]
    ·cases f
   ·rename_i cs
    split at f
    ·rename_i p
     obtain⟨g,F,m⟩:=p;simp only[xA]at f;subst f;cases O with
     |d N=>
      cases N with
      |rp _ b o U X J p I=>
       have a:i<(n:Int):=by omega
       refine⟨rfl,rfl, .pointer (some ⟨b,o+i.toNat*P.cellsOf e,none⟩), ?_, .d (.rp _ b _ (fun s=>U (i.toNat*P.cellsOf e+s)) (fun c C=>X c (yg C)) ?_ ?_ ?_)⟩
       ·simp[Instr.indexAt,asIntOf,Instr.sureAddr,run_underlying Q,F,a,bA g,dn]
       all_goals
        intro s c S;rw[xw]at S
       ·have:=J _ c S;rwa [←ya]at this
       ·have:=p _ c S;rwa [←ya]at this
       ·exact I _ c S
    ·cases f
   ·cases f
 ·cases f
end
end Go.Avm
namespace Go.Avm
open Go.RowKit
variable[aG]
section
variable{P:Program}{G:Gh}{B:Nat}{w0 w:World}{I0:Nat→Nat→Prop}{h:aa}
theorem nf{t:TypeId}{f d fs:Nat}(hp:hV P t f=some (d,fs)):∃(a:Array Field)(b:Field),fieldsOf P t=some a∧P.underlying t=some (.struct a)∧a[f]? =some b∧b.offset=d∧P.cellsOf b.type=fs:=by
 simp only[hV,yn,xB,xG]at hp;obtain⟨a,e,b,c,g,h2⟩:=hp;exact⟨a,b,e,nb e,c,g,h2⟩
theorem qD{t:TypeId}{a:Array Field}(d:kD P t=true)(e:fieldsOf P t=some a){f:Nat}{b:Field}(c:a[f]? =some b):cR P b.type=true:=by
 unfold kD at d;rw[e]at d;exact xa.1 d b (by rw[xp];exact yx c)
theorem ng(N:HR G B w0 I0 h w){t:TypeId}{x:AV}{n:Value}(F:Rep G w x n){f:Nat}{out:Out}(a:kH P t x f h=some out):
    out.ob=[]∧out.wr=[]∧∃v,(Instr.fieldAt t n f).run P w= .ok v w∧Rep G w out.val v:=by
 unfold kH at a;split at a
 ·rename_i l fs hp q
  obtain⟨j,M,I,K,g,y,h2⟩:=nf hp;have z:=qD q I g;split at a
  ·cases a
  ·rename_i D
   have e:∀(b o:Nat),n= .pointer (some ⟨b,o,none⟩)→(Instr.fieldAt t n f).run P w= .ok (.pointer (some ⟨b,o+l,none⟩)) w:=by
    rintro b o rfl;simp[Instr.fieldAt,run_underlying K,g,Instr.sureAddr,fieldPlace,bA z,h2,D,dn,y]
   split at a
   ·rename_i cs
    simp only[xA]at a;subst a;cases F with
    |d H=>
     cases H with
     |rp _ b o U y J A C=>
      refine⟨rfl,rfl,_,e b o rfl, .d (.rp _ b _ (fun s=>U (l+s)) (fun c r=>y c (yg r)) ?_ ?_ ?_)⟩
      all_goals
       intro s c m;rw[xw]at m
      ·have:=J _ c m;rwa [←ya]at this
      ·have:=A _ c m;rwa [←ya]at this
      ·exact C _ c m
   ·rename_i k v i u sz
    cases F with
    |ptr _ _ _ _ L E=>
     split at a
     ·rename_i p
      split at a
      ·rename_i A
       subst A;simp only[xA]at a;subst a;refine⟨rfl,rfl,_,e L.b _ rfl, ?_⟩;have:=Rep.ptr (w:=w) k v (i+l) 0 L E;rw[p]at this ⊢;simpa [ya]using this
      ·cases a
     ·simp only[xA]at a
      subst a;refine⟨rfl,rfl,_,e L.b _ rfl, ?_⟩;have:=Rep.ptr (w:=w) k v i (u+l) L E;rwa [←ya]at this
   ·cases a
 ·cases a
theorem wA{t:TypeId}(a:lU P t=some true)(cs:Array Value)(o:Nat)(w:World):(part t cs o).run P w= .ok (.agg (cs.extract o (o+P.cellsOf t))) w:=by
 obtain⟨d,b⟩:=wx a;simp[part,jM a,pc b]
theorem iA{t:TypeId}(a:lU P t=some false)(cs:Array Value)(o:Nat)(v:Value)(b:cs[o]? =some v)(w:World):(part t cs o).run P w= .ok v w:=by
 simp[part,jM a,b]
theorem sW{t:TypeId}{x:AV}{K:Value}(F:Rep G w x K){f:Nat}{out:Out}(l:uC P t x f=some out):
    out.ob=[]∧out.wr=[]∧∃v,(Instr.field t K f).run P w= .ok v w∧Rep G w out.val v:=by
 have E:∀{j fs:Nat}{b:Bool},hV P t f=some (j,fs)→qu P t f=some b→∃(a:Array Field)(q:Field),P.underlying t=some (.struct a)∧a[f]? =some q∧q.offset=j∧P.cellsOf q.type=fs∧lU P q.type=some b:=by
  intro j fs b hp s;obtain⟨a,q,L,y,g,p,h2⟩:=nf hp;simp only[qu,L,yA,g]at s;exact⟨a,q,y,g,p,h2,s⟩
 have ext:∀(vs:Array Value)(o n i:Nat),(vs.extract o (o+n))[i]? =if i<n then vs[o+i]? else none:=by
  intro vs o n i;rw[Array.getElem?_extract];by_cases p:i<n
  ·by_cases h2:o+i<vs.size
   ·rw[x9 (by omega),x9 p]
   ·rw[xj (by omega),x9 p,Array.getElem?_eq_none (by omega)]
  ·rw[xj (by omega),xj p]
 unfold uC at l;split at l
 ·rename_i j fs cs hp s
  obtain⟨a,q,y,g,p,h2,A⟩:=E hp s;split at l
  ·rename_i J
   simp only[xA]at l;subst l;cases F with
   |d H=>
    cases H with
    |agg _ vs C r m=>
     refine⟨rfl,rfl, .agg (vs.extract j (j+fs)),by simp[Instr.field,run_underlying y,g,asAgg,wA A,p,h2], .d (.agg _ _ (by simp;omega) (fun c k=>r c (yg (yR k))) (fun i c u k e=> ?_))⟩;rw[yG]at k;rw[ext]at e;split at k
     ·rename_i I
      rw[x9 I]at e;rw[xw]at k;exact m _ c u k e
     ·cases k
  ·cases l
 ·rename_i j fs cs hp s
  obtain⟨a,q,y,g,p,h2,A⟩:=E hp s;simp only[xB]at l;obtain⟨c,k,rfl⟩:=l;cases F with
  |d H=>
   cases H with
   |agg _ vs C r m=>
    have z:j<vs.size:=by rw[C];exact(xE.1 k).1
    have D:vs[j]? =some vs[j]:=xJ z;exact⟨rfl,rfl,_,by simp[Instr.field,run_underlying y,g,asAgg,iA A vs q.offset _ (by rw[p];exact D)], .d (m j c _ k D)⟩
 ·rename_i j fs cs hp s
  obtain⟨a,q,y,g,p,h2,A⟩:=E hp s;split at l
  ·rename_i J
   simp only[xA]at l;subst l;cases F with
   |agg _ vs C r m=>
    refine⟨rfl,rfl, .agg (vs.extract j (j+fs)),by simp[Instr.field,run_underlying y,g,asAgg,wA A,p,h2],jq (by simp;omega) (fun i u e=> ?_) (fun i c u k e=> ?_)⟩
    ·rw[ext]at e
     split at e
     ·exact r _ u e
     ·cases e
    ·rw[yG]at k
     rw[ext]at e;split at k
     ·rename_i I
      rw[x9 I]at e;rw[xw]at k;exact m _ c u k e
     ·cases k
  ·cases l
 ·rename_i j fs cs hp s
  obtain⟨a,q,y,g,p,h2,A⟩:=E hp s;simp only[xB]at l;obtain⟨c,k,rfl⟩:=l;cases F with
  |agg _ vs C r m=>
   have z:j<vs.size:=by rw[C];exact(xE.1 k).1
   have D:vs[j]? =some vs[j]:=xJ z;exact⟨rfl,rfl,_,by simp[Instr.field,run_underlying y,g,asAgg,iA A vs q.offset _ (by rw[p];exact D)],m j c _ k D⟩
 ·cases l
theorem wC{op:BinOp}{x y r:AV}{u q:Value}{t:TypeId}(j:Rep G w x u)(l:Rep G w y q)(c:CM op x y=some r):
    ∃v,(∀g i,(eqGuard op t g i u q).run P w= .ok () w)∧(binOp op t u q).run P w= .ok v w∧Rep G w r v:=by
 unfold CM at c;split at c
 ·rename_i k a F b
  cases j with
  |d j=>
   cases j;cases l with
   |d l=>
    cases l
    have e:∀g i,(eqGuard op t g i (.int k a) (.int F b)).run P w= .ok () w:=by
     intro g i;cases op<;>simp[eqGuard]
    split at c
    ·split at c
     ·rename_i o
      simp only[xA]at c;subst c;exact⟨_,e,by simp[binOp,Op.shift,Int.not_lt.2 o], .d (.int _ _)⟩
     ·cases c
    ·split at c
     ·rename_i o
      simp only[xA]at c;subst c;exact⟨_,e,by simp[binOp,Op.shift,Int.not_lt.2 o], .d (.int _ _)⟩
     ·cases c
    ·rename_i E z
     split at c
     ·rename_i C
      subst C;split at c
      ·simp only[xA]at c;subst c;exact⟨_,e,by simp[binOp,Op.intArith], .d (.int _ _)⟩
      ·simp only[xA]at c;subst c;exact⟨_,e,by simp[binOp,Op.intArith], .d (.int _ _)⟩
      ·simp only[xA]at c;subst c;exact⟨_,e,by simp[binOp,Op.intArith], .d (.int _ _)⟩
      ·split at c
       ·cases c
       ·rename_i f
        simp only[xA]at c;subst c;exact⟨_,e,by simp[binOp,Op.intDiv,f], .d (.int _ _)⟩
      ·split at c
       ·cases c
       ·rename_i f
        simp only[xA]at c;subst c;exact⟨_,e,by simp[binOp,Op.intDiv,f], .d (.int _ _)⟩
      ·simp only[xA]at c;subst c;exact⟨_,e,by simp only[binOp,Op.intBits,ne_eq,not_true_eq_false,zS,Sem.run_pure], .d (.int _ _)⟩
      ·simp only[xA]at c;subst c;exact⟨_,e,by simp only[binOp,Op.intBits,ne_eq,not_true_eq_false,zS,Sem.run_pure], .d (.int _ _)⟩
      ·simp only[xA]at c;subst c;exact⟨_,e,by simp only[binOp,Op.intBits,ne_eq,not_true_eq_false,zS,Sem.run_pure], .d (.int _ _)⟩
      ·simp only[xA]at c;subst c;exact⟨_,e,by simp[binOp,Op.intCmp], .d (.bool _)⟩
      ·simp only[xA]at c;subst c;exact⟨_,e,by simp[binOp,Op.intCmp], .d (.bool _)⟩
      ·simp only[xA]at c;subst c;exact⟨_,e,by simp[binOp,Op.intCmp], .d (.bool _)⟩
      ·simp only[xA]at c;subst c;exact⟨_,e,by simp[binOp,Op.intCmp], .d (.bool _)⟩
      ·simp only[xA]at c;subst c;exact⟨_,e,by simp[binOp,Op.intCmp], .d (.bool _)⟩
      ·simp only[xA]at c;subst c;exact⟨_,e,by simp[binOp,Op.intCmp], .d (.bool _)⟩
      ·cases c
     ·cases c
 ·rename_i a b
  cases j with
  |d j=>
   cases j with
   |str _ p A=>
   cases l with
   |d l=>
    cases l with
    |str _ m o=>
    subst A;subst o
    have e:∀g i,(eqGuard op t g i (.string p) (.string m)).run P w= .ok () w:=by
     intro g i;cases op<;>simp[eqGuard]
    split at c
    ·split at c
     ·rename_i s
      simp only[xA]at c;subst c
      have n:¬(((p.size+m.size:Nat):Int)>IntKind.i64.max):=by
       have D:p.data.toList.length=p.size:=by simp
       have h2:m.data.toList.length=m.size:=by simp
       rw[D,h2]at s;have:IntKind.i64.max=9223372036854775807:=by decide
       rw[this];omega
      exact⟨.string (p ++m),e,by simp only[binOp,Op.stringOp,xj n,Sem.run_pure], .d (.str _ _ (by simp))⟩
     ·cases c
    all_goals first
     |(simp only[xA]at c;subst c;exact⟨_,e,by simp[binOp,Op.stringOp,uy], .d (.bool _)⟩)
     |cases c
 ·cases c
theorem pe{I:Nat→Nat→Prop}{t:TypeId}{x y:D}{b:Bool}{u v:Value}(d:Nat)(g:DRep I w x u)(f:DRep I w y v)(a:ww P t x y=some b):(Op.equalIn (d+1) t u v).run P w= .ok b w:=by
 unfold ww at a;split at a
 ·rename_i c
  split at a
  ·rename_i i
   subst i;cases a;cases g;cases f;exact run_equalIn_int w d t _ _ _ _ c
  ·cases a
 ·rename_i c
  cases a;cases g;cases f;exact run_equalIn_bool w d t _ _ c
 ·rename_i c
  cases a;cases g with
  |str _ s j=>
  cases f with
  |str _ k e=>
  rw[run_equalIn_string w d t _ _ c,ByteArray.toList_eq,ByteArray.toList_eq,j,e]
 ·cases a
theorem hD{I:Nat→Nat→Prop}(d:Nat)(vs e:Array Value):∀(fs:List Field)(i:Nat)(xs ys:List D)(b:Bool),di P fs i xs ys=some b→
    (∀(j:Nat)(x:D),xs[j]? =some x→∃u,vs[i+j]? =some u∧DRep I w x u)→(∀(j:Nat)(x:D),ys[j]? =some x→∃u,e[i+j]? =some u∧DRep I w x u)→(Op.eqFields (d+1) vs e fs).run P w= .ok b w
 |[],i,[],[],b,c,_,_=>by
  simp only[di,xA]at c;subst c;simp[Op.eqFields]
 |[],i,x::xs,ys,b,c,_,_=>by simp[di]at c
 |[],i,[],y::ys,b,c,_,_=>by simp[di]at c
 |f::fs,i,[],ys,b,c,_,_=>by simp[di]at c
 |f::fs,i,x::xs,[],b,c,_,_=>by simp[di]at c
 |f::fs,i,x::xs,y::ys,b,c,n,h2=>by
  rw[di]at c;split at c;case isFalse=>cases c
  rename_i g;split at c;case h_2=>cases c
  rename_i a s q t;cases c;obtain⟨u,p,k⟩:=n 0 x rfl;obtain⟨v,o,l⟩:=h2 0 y rfl;rw[yp]at p o;have z:=pe d k l q
  have r:=hD d vs e fs (i+1) xs ys s t (fun j x m=>by
   have:=n (j+1) x m;rwa [show i+(j+1)=i+1+j by omega]at this) (fun j x m=>by
   have:=h2 (j+1) x m;rwa [show i+(j+1)=i+1+j by omega]at this)
  simp only[Op.eqFields,g.1,ne_eq,not_false_eq_true,yS,Sem.run_bind,g.2.1,iA g.2.2 vs i u p,iA g.2.2 e i v o,Result.andThen_ok,z];cases a with
  |false=>simp
  |true=>simpa using r
theorem kP{I:Nat→Nat→Prop}(d:Nat){e:TypeId}(s:P.cellsOf e=1)(g:lU P e=some false)(vs f:Array Value):∀(xs ys:List D)(i:Nat)(b:Bool),iw P e xs ys=some b→
    (∀(j:Nat)(x:D),xs[j]? =some x→∃u,vs[i+j]? =some u∧DRep I w x u)→(∀(j:Nat)(x:D),ys[j]? =some x→∃u,f[i+j]? =some u∧DRep I w x u)→(Op.eqItems (d+1) e (P.cellsOf e) vs f (List.range' i xs.length)).run P w= .ok b w
 |[],[],i,b,c,_,_=>by
  simp only[iw,xA]at c;subst c;simp[Op.eqItems]
 |[],y::ys,i,b,c,_,_=>by simp[iw]at c
 |x::xs,[],i,b,c,_,_=>by simp[iw]at c
 |x::xs,y::ys,i,b,c,p,h2=>by
  rw[iw]at c;split at c;case h_2=>cases c
  rename_i a t l z;cases c;obtain⟨u,r,k⟩:=p 0 x rfl;obtain⟨v,q,m⟩:=h2 0 y rfl;rw[yp]at r q;have A:=pe d k m l
  have o:=kP d s g vs f xs ys (i+1) t z (fun j x n=>by
   have:=p (j+1) x n;rwa [show i+(j+1)=i+1+j by omega]at this) (fun j x n=>by
   have:=h2 (j+1) x n;rwa [show i+(j+1)=i+1+j by omega]at this)
  rw[xD,zP];rw[s]at o ⊢;simp only[Op.eqItems,Sem.run_bind,Nat.mul_one,iA g vs i u r,iA g f i v q,Result.andThen_ok,A];cases a with
  |false=>simp
  |true=>simpa using o
theorem Bb{op:BinOp}{x y:AV}{b:Bool}{J F:Value}{t:TypeId}(q:Rep G w x J)(r:Rep G w y F)(p:NS P t x y=some b)(z:op= .eql∨op= .neq):
    (∀u v,(eqGuard op t u v J F).run P w= .ok () w)∧(binOp op t J F).run P w= .ok (.bool (if op= .eql then b else !b)) w:=by
 unfold NS at p;split at p
 ·rename_i a c C
  simp only[xA]at p;subst p;cases q with
  |d q=>
   cases q;cases r with
   |d r=>
    cases r
    have L:∀d:Nat,(Op.equalIn (d+1) t (.bool a) (.bool c)).run P w= .ok (a==c) w:=fun d=>by
     simp only[Op.equalIn,Sem.run_bind,run_underlying C,Result.andThen_ok,Sem.run_pure]
    have D:(Op.equal t (.bool a) (.bool c)).run P w= .ok (a==c) w:=L 9999;rcases z with rfl|rfl
    ·refine⟨fun u v=>by simp[eqGuard], ?_⟩
     simp only[binOp,Sem.run_bind,D,Result.andThen_ok,Sem.run_pure,yS]
    ·refine⟨fun u v=>by simp[eqGuard], ?_⟩
     simp only[binOp,Sem.run_bind,D,Result.andThen_ok,Sem.run_pure];rfl
 ·rename_i fs xs ys C
  split at p;case isFalse=>cases p
  rename_i s;cases q with
  |d q=>
  cases q with
  |agg _ vs E O o=>
  cases r with
  |d r=>
  cases r with
  |agg _ g A H k=>
  have K:P.fieldsOf t=fs:=by unfold Program.fieldsOf;rw[C]
  have f:(Op.equalIn 10000 t (.agg vs) (.agg g)).run P w= .ok b w:=by
   rw[show(10000:Nat)=9999+1 from rfl,run_equalIn_struct w 9999 t vs g (by rw[K];exact C) s.1,K];refine hD (I:=G.imm) 9998 vs g fs.toList 0 xs ys b p (fun j x m=> ?_) (fun j x m=> ?_)
   ·have l:j<vs.size:=by rw[E];exact(xE.1 m).1
    have:vs[j]? =some vs[j]:=xJ l;exact⟨_,by rw[xb];exact this,o j x _ m this⟩
   ·have l:j<g.size:=by rw[A];exact(xE.1 m).1
    have:g[j]? =some g[j]:=xJ l;exact⟨_,by rw[xb];exact this,k j x _ m this⟩
  refine⟨fun u v=>run_eqGuard_agg w op t u v vs g s.2, ?_⟩;rcases z with rfl|rfl
  ·rw[run_eql_struct,f];rfl
  ·rw[run_neq_struct,f];rfl
 ·rename_i n e xs ys C
  split at p;case isFalse=>cases p
  rename_i s;cases q with
  |d q=>
  cases q with
  |agg _ vs E O o=>
  cases r with
  |d r=>
  cases r with
  |agg _ g A H k=>
  obtain⟨i,N⟩:∃i,P.info? e=some i:=by
   have h:=s.2.2.1;simp only[lU,xB]at h;obtain⟨d,M,_⟩:=h;exact iz M
  have f:(Op.equalIn 10000 t (.agg vs) (.agg g)).run P w= .ok b w:=by
   rw[show(10000:Nat)=9999+1 from rfl,run_equalIn_array w 9999 vs g C N,List.range_eq_range',←s.1];refine kP (I:=G.imm) 9998 s.2.1 s.2.2.1 vs g xs ys 0 b p (fun j x m=> ?_) (fun j x m=> ?_)
   ·have l:j<vs.size:=by rw[E];exact(xE.1 m).1
    have:vs[j]? =some vs[j]:=xJ l;exact⟨_,by rw[xb];exact this,o j x _ m this⟩
   ·have l:j<g.size:=by rw[A];exact(xE.1 m).1
    have:g[j]? =some g[j]:=xJ l;exact⟨_,by rw[xb];exact this,k j x _ m this⟩
  refine⟨fun u v=>run_eqGuard_agg w op t u v vs g s.2.2.2, ?_⟩;rcases z with rfl|rfl
  ·rw[run_eql_struct,f];rfl
  ·rw[run_neq_struct,f];rfl
 ·cases p
theorem wD{x y:AV}{b:Bool}{z u:Value}{t e:TypeId}(c:Rep G w x z)(f:Rep G w y u)(n:P.underlying t=some (.pointer e))(g:FZ P e x y=some b):
    ∃p q,z= .pointer p∧u= .pointer q∧∀d:Nat,(Op.equalIn (d+1) t (.pointer p) (.pointer q)).run P w= .ok b w:=by
 have o:∀(q:Option Addr)(d:Nat),(Op.equalIn (d+1) t (.pointer none) (.pointer q)).run P w= .ok q.isNone w:=fun q d=>by
  simp only[Op.equalIn,Sem.run_bind,run_underlying n,Result.andThen_ok,Sem.run_pure]
 have A:∀(a:Addr)(d:Nat),(Op.equalIn (d+1) t (.pointer (some a)) (.pointer none)).run P w= .ok false w:=fun a d=>by
  simp only[Op.equalIn,Sem.run_bind,run_underlying n,Result.andThen_ok,Sem.run_pure]
 unfold FZ at g;split at g
 ·cases g;cases c with|d c=>cases c;cases f with|d f=>cases f;exact⟨_,_,rfl,rfl,o none⟩
 ·cases g;cases c;cases f with|d f=>cases f;exact⟨_,_,rfl,rfl,A _⟩
 ·cases g;cases c with|d c=>cases c;cases f;exact⟨_,_,rfl,rfl,o _⟩
 ·cases g;cases c with|d c=>cases c;cases f with|d f=>cases f;exact⟨_,_,rfl,rfl,A _⟩
 ·cases g;cases c with|d c=>cases c;cases f with|d f=>cases f;exact⟨_,_,rfl,rfl,o _⟩
 ·split at g
  ·rename_i k v i D sz M I K r H E
   obtain⟨rfl,rfl,F,m,N⟩:=E;cases g;cases c with
   |ptr _ _ _ _ L C=>
   cases f with
   |ptr _ _ _ _ J l=>
   rw[C]at l;cases l;refine⟨_,_,rfl,rfl,fun d=> ?_⟩;unfold cR at m;cases s:P.info? e with
   |none=>rw[s]at m;cases m
   |some j=>
    rw[F];simp only[Op.equalIn,Sem.run_bind,run_underlying n,Result.andThen_ok,Sem.run_pure];simp[sizeOf,typeInfo,s,sameAddr]
  ·cases g
 ·cases g
theorem pf{op:BinOp}{n s:Operand}{x y:AV}{b:Bool}{r o:Value}{t:TypeId}(i:Rep G w x r)(f:Rep G w y o)(g:CN P t n s x y=some b)(c:op= .eql∨op= .neq):
    (eqGuard op t n s r o).run P w= .ok () w∧(binOp op t r o).run P w= .ok (.bool (if op= .eql then b else !b)) w:=by
 unfold CN at g;split at g
 ·rename_i u v j
  simp only[xA]at g;subst g;cases i with
  |d i=>
  cases i;cases f with
  |d f=>
  cases f
  have k:∀d:Nat,(Op.equalIn (d+1) t .nilIface .nilIface).run P w= .ok true w:=fun d=>by
   simp only[Op.equalIn,Sem.run_bind,run_underlying j,Result.andThen_ok,Sem.run_pure]
  have a:(Op.equal t .nilIface .nilIface).run P w= .ok true w:=k 9999;refine⟨?_, ?_⟩
  ·cases n<;>cases s<;>first
     |(simp[FY]at v;done)
     |(rcases c with rfl|rfl<;>simp[eqGuard])
  ·rcases c with rfl|rfl
   ·simp only[binOp,Sem.run_bind,a,Result.andThen_ok,Sem.run_pure,yS]
   ·simp only[binOp,Sem.run_bind,a,Result.andThen_ok,Sem.run_pure]
    rfl
 ·rename_i u v j
  simp only[xA]at g;subst g;cases i with
  |d i=>
  cases i with
  |ifc l m=>
  cases f with
  |d f=>
  cases f
  have k:∀d:Nat,(Op.equalIn (d+1) t (.iface l m) .nilIface).run P w= .ok false w:=fun d=>by
   simp only[Op.equalIn,Sem.run_bind,run_underlying j,Result.andThen_ok,Sem.run_pure]
  have a:(Op.equal t (.iface l m) .nilIface).run P w= .ok false w:=k 9999;refine⟨?_, ?_⟩
  ·rcases c with rfl|rfl<;>simp[eqGuard]
  ·rcases c with rfl|rfl
   ·simp only[binOp,Sem.run_bind,a,Result.andThen_ok,Sem.run_pure,yS]
   ·simp only[binOp,Sem.run_bind,a,Result.andThen_ok,Sem.run_pure]
    rfl
 ·rename_i u l A j
  simp only[xA]at g;subst g;cases i with
  |iv _ m _=>
  cases f with
  |d f=>
  cases f
  have k:∀d:Nat,(Op.equalIn (d+1) t (.iface l m) .nilIface).run P w= .ok false w:=fun d=>by
   simp only[Op.equalIn,Sem.run_bind,run_underlying j,Result.andThen_ok,Sem.run_pure]
  have a:(Op.equal t (.iface l m) .nilIface).run P w= .ok false w:=k 9999;refine⟨?_, ?_⟩
  ·rcases c with rfl|rfl<;>simp[eqGuard]
  ·rcases c with rfl|rfl
   ·simp only[binOp,Sem.run_bind,a,Result.andThen_ok,Sem.run_pure,yS]
   ·simp only[binOp,Sem.run_bind,a,Result.andThen_ok,Sem.run_pure]
    rfl
 ·rename_i e j
  obtain⟨p,q,rfl,rfl,k⟩:∃p q,r= .pointer p∧o= .pointer q∧∀d:Nat,(Op.equalIn (d+1) t (.pointer p) (.pointer q)).run P w= .ok b w:=wD i f j g;have a:(Op.equal t (.pointer p) (.pointer q)).run P w= .ok b w:=k 9999;refine⟨?_, ?_⟩
  ·rcases c with rfl|rfl<;>simp[eqGuard]
  ·rcases c with rfl|rfl
   ·simp only[binOp,Sem.run_bind,a,Result.andThen_ok,Sem.run_pure,yS]
   ·simp only[binOp,Sem.run_bind,a,Result.andThen_ok,Sem.run_pure]
    rfl
 ·obtain⟨z,h2⟩:=Bb i f g c
  exact⟨z n s,h2⟩
theorem Bc{op:UnOp}{x r:AV}{c:Value}(a:Rep G w x c)(b:NT op x=some r):∃v,(Op.unary op c).run P w= .ok v w∧Rep G w r v:=by
 unfold NT at b;split at b
 ·simp only[xA]at b;subst b
  cases a with
  |d a=>cases a;exact⟨_,by simp[Op.unary], .d (.bool _)⟩
 ·simp only[xA]at b;subst b
  cases a with
  |d a=>cases a;exact⟨_,by simp only[Op.unary,Op.intArith,Sem.run_pure], .d (.int _ _)⟩
 ·simp only[xA]at b;subst b
  cases a with
  |d a=>cases a;exact⟨_,by simp only[Op.unary,Op.intBits,Sem.run_pure], .d (.int _ _)⟩
 ·cases b
theorem pI{src dst:TypeId}{x r:AV}{f:Value}(e:Rep G w x f)(a:oj P src dst x=some r):∃v,(convert src dst f).run P w= .ok v w∧Rep G w r v:=by
 unfold oj at a;split at a
 ·rename_i j g i n b c
  simp only[xA]at a;subst a;cases e with
  |d e=>cases e;exact⟨_,by simp[convert,run_underlying b,run_underlying c,Conv.intToInt], .d (.int _ _)⟩
 ·cases a
theorem wF{x:AV}{f:Value}{n:Nat}(e:Rep G w x f)(b:F0 x=some n):∃a c,f= .slice a n c:=by
 unfold F0 at b;split at b
 ·rename_i l
  simp only[xA]at b;subst b;cases e with
  |d e=>cases e<;>exact⟨_,_,rfl⟩
 ·simp only[xA]at b;subst b
  cases e<;>exact⟨_,_,rfl⟩
 ·simp only[xA]at b;subst b;cases e;exact⟨_,_,rfl⟩
 ·simp only[xA]at b;subst b;cases e;exact⟨_,_,rfl⟩
 ·simp only[xA]at b;subst b
  cases e<;>exact⟨_,_,rfl⟩
 ·cases b
theorem wG{t:TypeId}{x:AV}{i:Value}{out:Out}(f:Rep G w x i)(b:F1 P t x=some out):out.ob=[]∧out.wr=[]∧∃v,(∀ty,(Builtin.len_ #[t] ty #[i]).run P w= .ok v w)∧Rep G w out.val v:=by
 unfold F1 at b;split at b
 ·rename_i e g
  split at b
  ·rename_i n j
   simp only[xA]at b;subst b;obtain⟨a,c,rfl⟩:=wF f j;exact⟨rfl,rfl,_,fun ty=>by simp[Builtin.len_,run_underlying g,goInt], .d (.int _ _)⟩
  ·cases b
 ·rename_i g
  split at b
  ·simp only[xA]at b;subst b
   cases f with
   |d f=>
    cases f with
    |str _ s h=>subst h;exact⟨rfl,rfl,_,fun ty=>by simp[Builtin.len_,run_underlying g,goInt], .d (.int _ _)⟩
  ·cases b
 ·cases b
theorem kQ{f:Bool}{x y:AV}{c b:Value}{out:Out}(g:Rep G w x c)(e:Rep G w y b)(a:m7 f x y=some out):
    out.ob=[]∧out.wr=[]∧∃v,(∀ts ty,(if f then Builtin.max_ ts ty #[c,b]else Builtin.min_ ts ty #[c,b]).run P w= .ok v w)∧Rep G w out.val v:=by
 unfold m7 at a;split at a
 ·simp only[xA]at a;subst a
  cases g with
  |d g=>
   cases g;cases e with
   |d e=>
    cases e;cases f
    ·exact⟨rfl,rfl,_,fun ts ty=>by simp[Builtin.min_,Builtin.min2], .d (.int _ _)⟩
    ·exact⟨rfl,rfl,_,fun ts ty=>by simp[Builtin.max_,Builtin.max2], .d (.int _ _)⟩
 ·cases a
end
end Go.Avm
namespace Go.Avm
open Go.RowKit
variable[aG]
section
variable{P:Program}{G:Gh}{B:Nat}{w0 w:World}{I0:Nat→Nat→Prop}{h:aa}
theorem mB{n:Int}(a:0≤n)(b:n<9223372036854775808):IntKind.i64.wrap n=n:=by
 unfold IntKind.wrap;simp[IntKind.bits,IntKind.signed];omega
theorem wH{e:TypeId}{j:AV}(b:uD P e=some j):∃z,db P e=some z∧z.cells.size=j.cells.length∧(∀(i:Nat)(u:Value),z.cells[i]? =some u→u.oneCell'=true)∧
    ∀(i:Nat)(c:AV)(u:Value),j.cells[i]? =some c→z.cells[i]? =some u→Rep G w c u:=by
 unfold uD at b;split at b
 ·rename_i cs k
  simp only[xB]at b;obtain⟨l,n,rfl⟩:=b;obtain⟨d,h2,m⟩:=fY (G:=G) (w:=w) n;exact⟨_,k,by rw[gQ];exact d,h2,fun i c u f a=>m i c u (by rwa [gQ]at f) a⟩
 ·rename_i z o k
  split at b
  ·rename_i d
   simp only[xA]at b;subst b;have g:(EB z).lone=true:=(m9 (G:=G) (w:=w) z).lone d;refine⟨z,k,by rw[fd d,AV.cells_lone g];rfl,fun i u a=> ?_,fun i c u f a=> ?_⟩
   ·rw[fd d]at a
    cases i with
    |zero=>simp at a;subst a;exact d
    |succ i=>simp at a
   ·rw[fd d]at a
    rw[AV.cells_lone g]at f;cases i with
    |zero=>simp at a f;subst a;subst f;exact m9 z
    |succ i=>simp at a
  ·cases b
 ·cases b
theorem lH{e:TypeId}{z:Value}(a:db P e=some z):∃i,P.info? e=some i∧i.zero=some z∧P.cellsOf e=i.size∧P.bytesOf e=i.bytes:=by
 unfold db at a;cases b:P.info? e with
 |none=>simp[b]at a
 |some i=>
  simp only[b,yA]at a;exact⟨i,rfl,a,by simp[Program.cellsOf,b],by simp[Program.bytesOf,b]⟩
theorem nh(hr:HR G B w0 I0 h w){t:TypeId}{l c:AV}{vl vc:Value}(hl:Rep G w l vl)(hc:Rep G w c vc){k:Nat}{out:Out}(o:dm P t l c k h=some out):
    out.ob=[]∧∃v M G',(Instr.makeSlice t vl vc).run P w= .ok v M∧Ext G w G' M∧HR G' B w0 I0 (ap h out.wr) M∧Rep G' M out.val v:=by
 unfold dm at o;split at o
 ·rename_i e l c hu
  split at o
  ·rename_i U hzA
   split at o
   ·rename_i I
    obtain⟨h0,h1,h2,K,y,hpos,Q⟩:=I;simp only[xA]at o;subst o;obtain⟨z,hz,W,hz1,hzr⟩:=wH (G:=G) (w:=w) hzA;obtain⟨N,L,hiz,Z,O⟩:=lH hz;cases hl with
    |d hl=>
     cases hl;cases hc with
     |d hc=>
      cases hc;obtain⟨ln,rfl⟩:=Int.eq_ofNat_of_zero_le h0;obtain⟨a,rfl⟩:=Int.eq_ofNat_of_zero_le (show 0≤c by omega);have hwl:=mB (n:=(ln:Int)) (by omega) (by omega);have Y:=mB (n:=(a:Int)) (by omega) (by omega)
      have hb:¬(281474976710656<(N.bytes:Int)*(a:Int)):=by
       rw[O]at K;have h5:N.bytes*a≤256*1099511627776:=Nat.mul_le_mul K (by omega);have h6:((N.bytes*a:Nat):Int)≤281474976710656:=by omega
       rw[Int.natCast_mul]at h6;omega
      have m:¬((a:Int)<0):=by omega
      have f:¬((ln:Int)<0):=by omega
      have D:z.cells.size=P.cellsOf e:=by rw[W,y]
      have g:∃arr:Array Value,(Instr.makeSlice t (.int .i64 ln) (.int .i64 a)).run P w= .ok (.slice (some ⟨w.heap.size,0,none⟩) ln a) (w.alloc (.cells arr e))∧arr.size=a*P.cellsOf e∧
          ∀i j,i<a→j<P.cellsOf e→arr[i*P.cellsOf e+j]? =z.cells[j]? :=by
       by_cases F:a*P.cellsOf e=0
       ·have m:a=0:=by
          rcases Nat.mul_eq_zero.1 F with h|h
          ·exact h
          ·omega
        subst m;have f:ln=0:=by omega
        subst f;refine⟨#[], ?_,by simp,by omega⟩;have r:Array.map (fun _:Nat=>(default:Value)) (Array.range 0)= #[]:=by simp
        have S:IntKind.i64.wrap 0=0:=mB (by omega) (by omega);simp[Instr.makeSlice,run_underlying hu,asInt,asIntOf,typeInfo,L,sizeOf,newRow,S,r]
       ·refine⟨(Array.range (a*P.cellsOf e)).map (fun i=>z.cells[i % z.cells.size]!), ?_,by simp,fun i j hi V=> ?_⟩
        ·have p:¬(a=0):=by rintro rfl;simp at F
         have C:¬(N.size=0):=by omega
         have T:¬((a:Int)<(ln:Int)):=by omega
         simp[Instr.makeSlice,run_underlying hu,asInt,asIntOf,typeInfo,L,sizeOf,newRow,hwl,Y,hb,T,m,f,zeroValue,hiz,p,C,Z];intro r;rcases Nat.mul_eq_zero.1 r with r|r
         ·exact absurd r p
         ·exact absurd r C
        ·have hlt:i*P.cellsOf e+j<a*P.cellsOf e:=by
           have:(i+1)*P.cellsOf e≤a*P.cellsOf e:=y9 _ hi;rw[yf,Nat.one_mul]at this;omega
         have J:(i*P.cellsOf e+j) % z.cells.size=j:=by
          rw[D,Nat.mul_comm,Nat.mul_add_mod,Nat.mod_eq_of_lt V]
         have A:j<z.cells.size:=by omega
         rw[yy,Array.getElem?_range,x9 hlt,xc,J];simp[A]
      obtain⟨arr,g,R,hag⟩:=g
      have b:∀(s:Nat)(c:AV),(AV.flat (List.replicate ln U))[s]? =some c→∃u:Value,arr[s]? =some u∧u.oneCell'=true∧Rep G w c u:=by
       intro s c hs;obtain⟨i,j,e',rfl,V,E,X⟩:=fl (sz:=P.cellsOf e) (fun x H=>by rw[(List.mem_replicate.1 H).2];exact y) hs
       have hi:i<ln:=by
        have:=(xE.1 E).1;simpa using this
       have he2:e'=U:=(List.mem_replicate.1 (x5 E)).2;subst he2;have A:j<z.cells.size:=by omega
       have q:z.cells[j]? =some z.cells[j]:=xJ A;exact⟨_,by rw[hag i j (by omega) V,q],hz1 j _ q,hzr j c _ X q⟩
      obtain⟨g1,g2⟩:=hr.newOb k (P.cellsOf e) a (List.replicate ln U) arr e R (by simp;omega) (fun x H=>by rw[(List.mem_replicate.1 H).2];exact y) (fun h1 x H=>by rw[(List.mem_replicate.1 H).2];exact Q h1) b;refine⟨rfl,_,_,_,g,g2,g1, ?_⟩;have:=Rep.sl (w:=w.alloc (.cells arr e)) k ((h k).ver+1) 0 ln a _ (Gh.at_same G k ((h k).ver+1) ⟨w.heap.size,P.cellsOf e,a,0,e⟩) (by simp) (by omega);simpa using this
   ·cases o
  ·cases o
 ·cases o
theorem cJ{g:Option AV}{a:Option Value}{c n:Nat}(b:dQ g c=some n)(f:∀x,g=some x→∃v,a=some v∧Rep G w x v)(e:g=none→a=none):
    (a=none∧n=c)∨(∃k i,a=some (.int k i)∧0≤i∧i.toNat=n):=by
 unfold dQ at b;split at b
 ·simp only[xA]at b
  exact .inl ⟨e rfl,b.symm⟩
 ·rename_i k i
  split at b
  ·rename_i m
   simp only[xA]at b;obtain⟨v,j,l⟩:=f _ rfl;cases l with
   |d o=>cases o;exact .inr ⟨k,i,j,m,b⟩
  ·cases b
 ·cases b
theorem gx{k:IntKind}{i:Int}{y:Nat}{code:BoundsCode}(a:0≤i)(b:i.toNat≤y)(w:World):(Instr.sliceBound (.int k i) y code).run P w= .ok i.toNat w:=by
 have:0≤i∧i≤(y:Int):=⟨a,by omega⟩
 simp[Instr.sliceBound,asIntOf,this]
theorem dj{isSlice:Bool}{j cap a b:Nat}{c d:Option Value}(l:(c=none∧a=0)∨(∃k i,c=some (.int k i)∧0≤i∧i.toNat=a))(m:(d=none∧b=j)∨(∃k i,d=some (.int k i)∧0≤i∧i.toNat=b))
    (f:a≤b) (g:b≤cap) (w:World):(Instr.sliceBounds isSlice j cap c d none).run P w= .ok (a,b,cap) w:=by
 rcases l with ⟨rfl,rfl⟩|⟨k,i,rfl,n,rfl⟩<;>rcases m with ⟨rfl,rfl⟩|⟨o,p,rfl,e,rfl⟩
 ·simp[Instr.sliceBounds]
 ·simp[Instr.sliceBounds,gx e g]
 ·simp[Instr.sliceBounds,gx n f]
 ·simp[Instr.sliceBounds,gx e g,gx n f]
theorem Kc{l:List D}{a b i:Nat}{y:D}(c:((l.take b).drop a)[i]? =some y):l[a+i]? =some y∧a+i<b:=by
 rw[xw,yG]at c;split at c
 ·rename_i h;exact⟨c,h⟩
 ·cases c
theorem sX{t:TypeId}{x:AV}{vx:Value}{lo Y mx:Option AV}{H C F:Option Value}(X:Rep G w x vx)
    (J:∀x,lo=some x→∃v,H=some v∧Rep G w x v) (r:lo=none→H=none) (E:∀x,Y=some x→∃v,C=some v∧Rep G w x v) (p:Y=none→C=none)
    (hmx:∀x,mx=some x→∃v,F=some v∧Rep G w x v) (M:mx=none→F=none) {out:Out} (f:jI P t x lo Y mx=some out):
    out.ob=[]∧out.wr=[]∧∃v,(Instr.sliceAt t vx H C F).run P w= .ok v w∧Rep G w out.val v:=by
 unfold jI at f;split at f
 ·rename_i e I
  split at f
  ·cases f
  ·rename_i n
   have n:cR P e=true:=by simpa using n
   split at f
   ·have hm:F=none:=M rfl
    subst hm
    have slc:∀(l:List D),DRep G.imm w (.ro l) vx→(match dQ lo 0,dQ Y l.length with
        |some a,some b=>if a≤b∧b≤l.length∧(a=0∨l.all (fun y=>y.cells.length==P.cellsOf e)=true)then some ({val:= .d (.ro ((l.take b).drop a))}:Out)else none
        |_,_=>none)=some out→out.ob=[]∧out.wr=[]∧∃v,(Instr.sliceAt t vx H C none).run P w= .ok v w∧Rep G w out.val v:=by
     intro l hd hh;split at hh
     ·rename_i a b V W
      split at hh
      ·rename_i q
       obtain⟨q,hbl,hall⟩:=q;simp only[xA]at hh;subst hh;have u:=cJ V J r;have z:=cJ W E p;cases hd with
       |roNil K c=>
        have hb0:b=0:=by simpa using hbl
        subst hb0;have ha0:a=0:=by omega
        subst ha0;have g:=dj (P:=P) (isSlice:=true) (cap:=c) u z (by omega) (by omega) w;have hrb':(Instr.sliceBounds true 0 c H C none).run P w= .ok (0,0,c) w:=by simpa using g
        refine⟨rfl,rfl, .slice (if c=0 then K else K.map (·.add (0*P.cellsOf e))) (0-0) (c-0), ?_, ?_⟩
        ·simp[Instr.sliceAt,Instr.slice,run_underlying I,hrb',bA n]
        ·simpa using Rep.d (G:=G) (w:=w) (.roNil (if c=0 then K else K.map (·.add 0)) c)
       |ro _ b' o c sz U Z O h1 hi' hc hr'=>
        have g:=dj (P:=P) (isSlice:=true) (cap:=c) u z q (by omega) w;have hlen:((l.take b).drop a).length=b-a:=by simp;omega
        refine⟨rfl,rfl, .slice (if c=a then some ⟨b',o,none⟩else some ⟨b',o+a*P.cellsOf e,none⟩) (b-a) (c-a), ?_, ?_⟩
        ·by_cases hca:c=a
         ·rw[hca]at g ⊢
          simp[Instr.sliceAt,Instr.slice,run_underlying I,g,bA n]
         ·simp[Instr.sliceAt,Instr.slice,run_underlying I,g,bA n,hca,dn]
        ·by_cases hba0:b-a=0
         ·have hnil:(l.take b).drop a=[]:=x7 (by omega)
          rw[hnil,hba0];exact .d (.roNil _ _)
         ·rw[xj (by omega)]
          have N:∀e∈(l.take b).drop a,e∈l:=fun e he=>yR (yg he)
          have hfl:∀(s:Nat)(c:D),(D.flat ((l.take b).drop a))[s]? =some c→(D.flat l)[a*sz+s]? =some c:=by
           intro s c hs;obtain⟨i,j,e',rfl,hj,he',hc'⟩:=fl (fun e he=>O e (N e he)) hs;obtain⟨h5,_⟩:=Kc he';have:a*sz+(i*sz+j)=(a+i)*sz+j:=by rw[yf];omega
           rw[this,D.flat,bM _ sz l O _ j hj,h5,yA,hc']
          have hszP:a=0∨sz=P.cellsOf e:=by
           rcases hall with h0|h0
           ·exact .inl h0
           ·right
            have hlt:0<l.length:=by omega
            have hm0:=y7 hlt;have h7:=xa.1 h0 _ hm0;rw[←O _ hm0];simpa using h7
          have haddr:o+a*P.cellsOf e=o+a*sz:=by
           rcases hszP with rfl|rfl
           ·simp
           ·rfl
          rw[haddr,←hlen];refine .d (.ro _ b' (o+a*sz) (c-a) sz (fun s=>U (a*sz+s)) (by omega) (fun e he=>O e (N e he)) (fun e he=> ?_) ?_ ?_ ?_)
          ·obtain⟨y,hy,hc'⟩:=List.mem_flatMap.1 he
           exact h1 e (List.mem_flatMap.2 ⟨y,N y hy,hc'⟩)
          ·intro s c hs;have:=hi' _ c (hfl s c hs);rwa [←ya]at this
          ·intro s c hs;have:=hc _ c (hfl s c hs);rwa [←ya]at this
          ·intro s c hs;exact hr' _ c (hfl s c hs)
      ·cases hh
     ·cases hh
    split at f
    ·exact slc _ X.toDRep f
    ·rename_i k ver sz l
     refine slc l ?_ f;cases X with
     |vecNil=>exact .roNil _ _
     |vec _ _ _ L hL hfr hlen O hd=>exact hd
    ·split at f
     ·rename_i V W
      simp only[xA]at f;subst f;cases X;have g:=dj (P:=P) (isSlice:=true) (cap:=0) (cJ V J r) (cJ W E p) (by omega) (by omega) w;exact⟨rfl,rfl, .slice none 0 0,by simp[Instr.sliceAt,Instr.slice,run_underlying I,g,bA n], .nils⟩
     ·cases f
    ·rename_i k v off len sz0
     split at f
     ·rename_i a b V W
      split at f
      ·rename_i q
       obtain⟨rfl,hbl⟩:=q;simp only[xA]at f;subst f;have u:=cJ V J r;have z:=cJ W E p;cases X with
       |slNil=>
        have hb0:b=0:=by omega
        subst hb0;have g:=dj (P:=P) (isSlice:=true) (cap:=0) u z (by omega) (by omega) w;rename_i K;cases K with
        |none=>exact⟨rfl,rfl, .slice none 0 0,by simp[Instr.sliceAt,Instr.slice,run_underlying I,g,bA n], .slNil _ _ _ _⟩
        |some a=>exact⟨rfl,rfl, .slice (some a) 0 0,by simp[Instr.sliceAt,Instr.slice,run_underlying I,g,bA n], .slNil _ _ _ _⟩
       |sl _ _ _ _ c L hL Z hlc=>
        have g:=dj (P:=P) (isSlice:=true) (cap:=c) u z (by omega) (by omega) w;refine⟨rfl,rfl, .slice (some ⟨L.b,off*L.sz,none⟩) b c, ?_, .sl k v off b c L hL Z (by omega)⟩;by_cases hc0:c=0
        ·subst hc0
         simp[Instr.sliceAt,Instr.slice,run_underlying I,g,bA n]
        ·simp[Instr.sliceAt,Instr.slice,run_underlying I,g,bA n,hc0,dn]
      ·cases f
     ·cases f
    ·cases f
   ·rename_i m
    have T:∀(K:Option Addr)(len cap:Nat),vx= .slice K len cap→dQ lo 0=some 0→dQ Y 0=some 0→dQ (some m) 0=some 0→({val:= .es}:Out)=out→Y≠none→
        out.ob=[]∧out.wr=[]∧∃v,(Instr.sliceAt t vx H C F).run P w= .ok v w∧Rep G w out.val v:=by
     rintro K len cap rfl V W hm rfl A;have hmb:=cJ hm hmx M;have z:=cJ W E p;have u:=cJ V J r;rcases hmb with ⟨hmn,_⟩|⟨km,im,rfl,him,him0⟩
     ·obtain⟨v,hv,_⟩:=hmx _ rfl;rw[hmn]at hv;cases hv
     ·rcases z with ⟨hbn,_⟩|⟨kb,ib,rfl,hib,hib0⟩
      ·cases Y with
       |none=>exact absurd rfl A
       |some y=>obtain⟨v,hv,_⟩:=E _ rfl;rw[hbn]at hv;cases hv
      ·have e1:∀code y,(Instr.sliceBound (.int km im) y code).run P w= .ok 0 w:=fun code y=>by rw[gx him (by omega)];rw[him0]
       have e2:∀code y,(Instr.sliceBound (.int kb ib) y code).run P w= .ok 0 w:=fun code y=>by rw[gx hib (by omega)];rw[hib0]
       refine⟨rfl,rfl, .slice K 0 0, ?_, .es K⟩;rcases u with ⟨rfl,_⟩|⟨ka,ia,rfl,hia,hia0⟩
       ·simp[Instr.sliceAt,Instr.slice,run_underlying I,Instr.sliceBounds,e1,e2,bA n]
       ·have e3:∀code y,(Instr.sliceBound (.int ka ia) y code).run P w= .ok 0 w:=fun code y=>by rw[gx hia (by omega)];rw[hia0]
        simp[Instr.sliceAt,Instr.slice,run_underlying I,Instr.sliceBounds,e1,e2,e3,bA n]
    split at f
    ·rename_i hb4
     obtain⟨Q,R,S,hb4⟩:=hb4;have A:Y≠none:=by rintro rfl;simp at hb4
     split at f
     ·simp only[xA]at f
      cases X with
      |d hd=>cases hd<;>exact T _ _ _ rfl Q R S f A
     ·simp only[xA]at f
      cases X<;>exact T _ _ _ rfl Q R S f A
     ·simp only[xA]at f
      cases X<;>exact T _ _ _ rfl Q R S f A
     ·simp only[xA]at f
      cases X;exact T _ _ _ rfl Q R S f A
     ·cases f
    ·cases f
 ·rename_i I
  split at f
  ·rename_i s
   have hm:F=none:=M rfl;subst hm;cases X with
   |d hd=>
    cases hd with
    |str _ sb hsb=>
    subst hsb;rw[show sb.data.toList.length=sb.size by simp]at f;split at f
    ·rename_i a b V W
     split at f
     ·rename_i q
      simp only[xA]at f;subst f;have g:=dj (P:=P) (isSlice:=false) (cap:=sb.size) (cJ V J r) (cJ W E p) q.1 q.2 w;exact⟨rfl,rfl, .string (sb.extract a b),by simp[Instr.sliceAt,Instr.slice,run_underlying I,g], .d (.str _ _ (by rw[ByteArray.data_extract,Array.toList_extract,List.extract_eq_take_drop,List.drop_take]))⟩
     ·cases f
    ·cases f
  ·cases f
 ·cases f
end
end Go.Avm
