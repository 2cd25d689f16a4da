/-
  The abstract machine, part K: append.
-/
import Derived.Test.YtcjiafanhlhdlaaGreatG02
import Derived.MapKept
import Derived.WideKeyRuns
import Derived.Laws.IdiomStrings
import Derived.Lib.UnsafeStr
import Derived.RangeFuncRecord
set_option linter.unusedVariables false
set_option linter.unusedSimpArgs false
set_option linter.unusedSectionVars false
namespace Go.Avm
open Go.RowKit
variable[ap]
section
variable{P:Program}{G:Gh}{B:Nat}{w0 w:World}{I0:Nat→Nat→Prop}{h:aa}
def rC(P:Program)(G:Gh)(w:World)(sz n:Nat)(v:Value)(l:List D):Prop:=
 ∃a:List Value,a.length=n*sz∧(∀u∈a,u.oneCell'=true)∧(∀(t:Nat)(c:D),(D.flat l)[t]? =some c→∃u:Value,a[t]? =some u∧c.one=true∧DRep G.imm w c u)∧
  ∀d:World,(∀b o,d.cell? ⟨b,o,none⟩=w.cell? ⟨b,o,none⟩)→(Builtin.firstCells sz n v).run P d= .ok a.toArray d
theorem b0{l:List D}{v:Value}{sz:Nat}(z:DRep G.imm w (.ro l) v)(C:∀y∈l,y.cells.length=sz):rC P G w sz l.length v l:=by
 cases z with
 |roNil A c=>
  refine⟨[],by simp,by simp,by simp[D.flat],fun m _=> ?_⟩;cases A with
  |none=>simp[Builtin.firstCells]
  |some a=>simpa using run_firstCells_some (P:=P) m sz 0 a 0 c [] (by simp) (by simp)
 |ro _ b o c s U q x r H E i=>
  have f:(D.flat l).length=l.length*sz:=D.flat_len C;refine⟨(List.range (D.flat l).length).map U,by simp[f],fun u n=> ?_,fun t c g=> ?_,fun m k=> ?_⟩
  ·simp only[xf,List.mem_range]at n
   obtain⟨t,g,rfl⟩:=n;have F:(D.flat l)[t]? =some (D.flat l)[t]:=xE g;exact(i t _ F).oneCell (r _ (yc g))
  ·have d:=(xD.1 g).1
   exact⟨U t,by simp[List.getElem?_range d],r c (xS g),i t c g⟩
  ·refine run_firstCells_some (P:=P) m sz l.length ⟨b,o,none⟩ l.length _ _ (by simp[f]) (fun j v p=> ?_)
   simp only[xK,xB]at p;obtain⟨I,e,rfl⟩:=p
   have d:j<(D.flat l).length:=by
    have:=(xD.1 e).1;simpa using this
   rw[List.getElem?_range d]at e;simp only[xA]at e;subst e;rw[bL,k];exact E j _ (xE d)
theorem nO(s:ByteArray){sz:Nat}(j:∀y∈s.data.toList.map fY,y.cells.length=sz):rC P G w sz s.size (.string s) (s.data.toList.map fY):=by
 have i:s.size*sz=s.size:=by
  cases e:s.data.toList with
  |nil=>
   have:s.size=0:=by have:=congrArg List.length e;simpa using this
   simp[this]
  |cons b r=>
   have:=j (fY b) (by simp[e]);rw[←this];simp[fY,D.cells]
 have d:D.flat (s.data.toList.map fY)=s.data.toList.map fY:=by
  simp only[D.flat];induction s.data.toList with
  |nil=>rfl
  |cons a r l=>simp only[xI,xm,l];rfl
 refine⟨s.data.toList.map fun b=> .int .u8 (b.toNat:Int),by simp[i],fun u g=> ?_,fun t c f=> ?_,fun n _=> ?_⟩
 ·simp only[xf]at g
  obtain⟨b,_,rfl⟩:=g;rfl
 ·rw[d,xK,xB]at f
  obtain⟨b,k,rfl⟩:=f;exact⟨.int .u8 (b.toNat:Int),by rw[xK,k];rfl,rfl, .int .u8 _⟩
 ·have m:s.extract 0 s.size=s:=by simp
  simp only[Builtin.firstCells,m,Sem.run_pure];congr 1;apply Array.ext';simp
theorem o4:bR G h []=G.imm:=by
 funext b o;simp[bR,lk]
theorem o5(hr:HR G B w0 I0 h w){x:AV}{V:Value}(O:Rep G w x V){news:List D}{rs:List Nat}{sz:Nat}(g:en h x=some (news,rs))(l:∀y∈news,y.cells.length=sz):
    (∀W:World,(Builtin.lenOf V).run P W= .ok news.length W)∧rC P G w sz news.length V news:=by
 suffices N:(∃U:ByteArray,V= .string U∧news=U.data.toList.map fY)∨((∃ao c,V= .slice ao news.length c)∧rC P G w sz news.length V news) by
  rcases N with ⟨U,rfl,rfl⟩|⟨⟨ao,c,rfl⟩,hC⟩
  ·exact⟨fun W=>by simp[Builtin.lenOf],by simpa using nO (P:=P) (G:=G) (w:=w) U l⟩
  ·exact⟨fun W=>by simp[Builtin.lenOf],hC⟩
 unfold en at g;split at g
 ·simp only[xA,xC]at g
  obtain⟨rfl,rfl⟩:=g;cases O with
  |d K=>cases K with|str _ U hb=>subst hb;exact .inl ⟨U,rfl,rfl⟩
 all_goals refine .inr ?_
 ·simp only[xA,xC]at g
  obtain⟨rfl,rfl⟩:=g;refine⟨?_,b0 O.toDRep l⟩;cases O with
  |d K=>cases K<;>exact⟨_,_,rfl⟩
 ·simp only[xA,xC]at g
  obtain⟨rfl,rfl⟩:=g;cases O with
  |vecNil=>exact⟨⟨_,_,rfl⟩,b0 (.roNil _ _) l⟩
  |vec _ _ _ L hL hfr M hsz' K=>exact⟨⟨_,_,rfl⟩,b0 K l⟩
 ·simp only[xA,xC]at g
  obtain⟨rfl,rfl⟩:=g;cases O;exact⟨⟨_,_,rfl⟩,b0 (.roNil _ _) l⟩
 ·simp only[xA,xC]at g
  obtain⟨rfl,rfl⟩:=g;cases O;exact⟨⟨_,_,rfl⟩,b0 (.roNil _ _) l⟩
 ·rename_i k v a f sz0
  split at g
  ·rename_i m es hob
   split at g
   ·rename_i s
    obtain⟨rfl,hin⟩:=s;simp only[y0]at g;obtain⟨⟨ys,ks⟩,hgo,g⟩:=g;split at g
    ·rename_i hks
     simp only at hks;subst hks;simp only[xA,xC]at g;obtain⟨rfl,rfl⟩:=g;have M:((es.drop a).take f).length=f:=by simp;omega
     obtain⟨hgl,hgi⟩:=eM hgo;have F:ys.length=f:=by rw[hgl,M]
     cases O with
     |slNil=>
      have h0:ys=[]:=xQ (by omega);subst h0;exact⟨⟨_,_,rfl⟩,b0 (.roNil _ _) l⟩
     |sl _ _ _ _ c L hL hcap hlc=>
      refine⟨⟨_,_,by rw[F]⟩, ?_⟩;rw[F];rcases hr.objs k _ hob with ⟨rfl,hLn⟩|⟨L',S,h1,h2,h3,h4,h6,h5⟩
      ·have h0:f=0:=by simp at hin;omega
       subst h0;have h0:ys=[]:=xQ F;subst h0;exact b0 (.roNil _ _) l
      ·rw[hL]at S
       simp only[xA]at S;subst S
       have I:∀(i:Nat)(y:D),ys[i]? =some y→∃e,es[a+i]? =some e∧y.cells.length=e.cells.length∧(∀c∈y.cells,c.one=true)∧
           ∀(j:Nat)(c:D),y.cells[j]? =some c→∃u,w.cell? ⟨L.b,(a+i)*m+j,none⟩=some u∧u.oneCell'=true∧DRep G.imm w c u:=by
        intro i y X;have J:i<((es.drop a).take f).length:=by rw[←hgl];exact(xD.1 X).1
        obtain⟨y',k',R,z,hk'⟩:=hgi i _ (xE J);rw[X]at R;simp only[xA]at R;subst R;have hk0:k'=[]:=List.eq_nil_iff_forall_not_mem.2 (fun k hk=>by have:=hk' k hk;simp at this);subst hk0
        have p:es[a+i]? =some ((es.drop a).take f)[i]:=by
         have h9:((es.drop a).take f)[i]? =some ((es.drop a).take f)[i]:=xE J;rw[xl,xW (by omega),xo]at h9;exact h9
        generalize ((es.drop a).take f)[i]=e at p z;have hcl:=h4 e (xS p)
        have E:∃Q:Nat→Value,∀(j:Nat)(c:AV),e.cells[j]? =some c→w.cell? ⟨L.b,(a+i)*m+j,none⟩=some (Q j)∧(Q j).oneCell'=true∧Rep G w c (Q j):=by
         refine⟨fun j=>(w.cell? ⟨L.b,(a+i)*m+j,none⟩).getD undef,fun j c s=> ?_⟩;have hj:j<m:=by rw[←hcl];exact(xD.1 s).1
         have hfl:(AV.flat es)[(a+i)*m+j]? =some c:=by rw[AV.flat,aW _ m es h4 (a+i) j hj,p,xh,s]
         obtain⟨u,q,C,hur⟩:=h5 _ c hfl;simp only[q,yj];exact⟨trivial,C,hur⟩
        obtain⟨Q,E⟩:=E;obtain⟨v,hv,hvs,hvj⟩:=Rep.of_cells (e:=e) Q (fun j c s=>(E j c s).2);have K:=b8 hr _ _ _ _ _ z hv;rw[o4]at K;obtain⟨Y,hc2,hc3⟩:=K.cells;refine⟨e,p,by rw[Y,hvs],hc2,fun j c s=> ?_⟩
        have hj:j<e.cells.length:=by
         have:=(xD.1 s).1;rw[Y,hvs]at this;exact this
        obtain⟨g1,g2,_⟩:=E j _ (xE hj);exact⟨Q j,g1,g2,hc3 j c (Q j) s (hvj j hj)⟩
       have hse:ys≠[]→sz=m:=by
        intro hne;obtain⟨y,r,rfl⟩:=List.exists_cons_of_ne_nil hne;obtain⟨e,he,Z,_⟩:=I 0 y rfl;rw[←l y (by simp),Z,h4 e (xS he)]
       have o:(D.flat ys).length=f*sz:=by rw[D.flat_len l,F]
       have n:∀(t:Nat)(c:D),(D.flat ys)[t]? =some c→∃u,w.cell? ⟨L.b,a*L.sz+t,none⟩=some u∧u.oneCell'=true∧c.one=true∧DRep G.imm w c u:=by
        intro t c T;obtain⟨i,j,y,rfl,hj,X,s⟩:=cX l T;obtain⟨e,he,Z,ho1,hcc⟩:=I i y X;obtain⟨u,q,C,hud⟩:=hcc j c s;have hes:sz=m:=hse (by rintro rfl;simp at X);refine⟨u, ?_,C,ho1 c (xS s),hud⟩;rw[h1,hes,←q];congr 2;rw[yN];omega
       refine⟨(List.range (f*sz)).map fun t=>(w.cell? ⟨L.b,a*L.sz+t,none⟩).getD undef,by simp,fun u q=> ?_,fun t c T=> ?_,fun W hw2=> ?_⟩
       ·simp only[xf,List.mem_range]at q
        obtain⟨t,T,rfl⟩:=q;obtain⟨u,q,C,_⟩:=n t _ (xE (by rw[o];exact T));rw[q];exact C
       ·have A:=(xD.1 T).1
        rw[o]at A;obtain⟨u,q,_,h8,h9⟩:=n t c T;exact⟨u,by simp[List.getElem?_range A,q],h8,h9⟩
       ·have hrun:=run_firstCells_some (P:=P) W sz f ⟨L.b,a*L.sz,none⟩ f c ((List.range (f*sz)).map fun t=>(w.cell? ⟨L.b,a*L.sz+t,none⟩).getD undef) (by simp) (fun j v hv=>by
          simp only[xK,xB]at hv;obtain⟨j',H,rfl⟩:=hv
          have A:j<f*sz:=by
           have:=(xD.1 H).1;simpa using this
          rw[List.getElem?_range A]at H;simp only[xA]at H;subst H;obtain⟨u,q,_⟩:=n j _ (xE (by rw[o];exact A));rw[bL,hw2,q];rfl)
        exact hrun
    ·cases g
   ·cases g
  ·cases g
 ·cases g
theorem ir{t a:TypeId}(h:lg P t a=true):a=t∨P.underlying a=some .string:=by
 unfold lg at h;by_cases b:t=a
 ·exact .inl b.symm
 ·right
  simp only[yC,yL,b,false_or]at h;split at h
  ·assumption
  ·cases h
theorem dC(t q ty e p:TypeId)(i:TypeInfo)(o:P.underlying t=some (.slice e))(l:lg P t q=true)(s:P.info? e=some i)(g a b:Nat)(ug:Array Value)(y:w.heap[g]? =some (.cells ug p (0,0)))
    (n:Value) (m:Nat) (f:List Value) (k:(Builtin.lenOf n).run P w= .ok m w) (r:(Builtin.firstCells i.size m n).run P w= .ok f.toArray w) (v:∀u∈f,u.oneCell'=true) (c:a+m≤b) (j:a*i.size+f.length≤ug.size):
    (Builtin.append_ #[t,q] ty #[.slice (some ⟨g,0,none⟩) a b,n]).run P w=
     .ok (.slice (some ⟨g,0,none⟩) (a+m) b) (w.setRow g (ug.toList.take (a*i.size) ++f ++ug.toList.drop (a*i.size+f.length)).toArray):=by
 have d:=run_storeCells_at P g (a*i.size) p f 0 ug w y (by simpa using j) v;simp only[yo]at d;rcases ir l with rfl|x
 ·simp[Builtin.append_,run_underlying o,sizeOf,typeInfo,s,k,c,r,bL,d]
 ·simp[Builtin.append_,run_underlying o,run_underlying x,sizeOf,typeInfo,s,k,c,r,bL,d]
theorem aM(t v ty e:TypeId)(i:TypeInfo)(z:Value)(x:P.underlying t=some (.slice e))(p:lg P t v=true)(r:P.info? e=some i)(y:i.zero=some z)
    (u:Option Addr) (a b:Nat) (d:List Value) (g:(Builtin.firstCells i.size a (.slice u a b)).run P w.drew= .ok d.toArray w.drew)
    (l:Value) (m:Nat) (o:List Value) (k:∀s:World,(Builtin.lenOf l).run P s= .ok m s) (A:(Builtin.firstCells i.size m l).run P w.drew= .ok o.toArray w.drew)
    (E:b<a+m) (D:a+m≤549755813888) (n:i.bytes≤256):
    (Builtin.append_ #[t,v] ty #[.slice u a b,l]).run P w=
     .ok (.slice (some ⟨w.heap.size,0,none⟩) (a+m) (grownCap w (a+m) b e)) (w.drew.alloc (.cells (d.toArray ++o.toArray ++Builtin.zeroCells z.cells (grownCap w (a+m) b e-(a+m))) e)):=by
 have q:¬(a+m≤b):=by omega
 have f:¬(9223372036854775807<((a:Int)+(m:Int))):=by omega
 have c:¬(281474976710656<Builtin.nextslicecap (a+m) b*i.bytes):=by
  have h2:=nextslicecap_le E;have F:Builtin.nextslicecap (a+m) b*i.bytes≤(2*549755813888)*256:=Nat.mul_le_mul (by omega) n;omega
 have j:(Builtin.firstCells i.size m l).run P w.drew= .ok o.toArray w.drew:=A;rcases ir p with rfl|C
 ·simp[Builtin.append_,run_underlying x,sizeOf,typeInfo,zeroValue,r,y,k,q,f,c,Question.forced,j,g,newRow,grownCap]
  congr 2;apply Array.ext';simp[x8]
 ·simp[Builtin.append_,run_underlying x,run_underlying C,sizeOf,typeInfo,zeroValue,r,y,k,q,f,c,Question.forced,j,g,newRow,grownCap]
  congr 2;apply Array.ext';simp[x8]
theorem nP(z:Array Value)(n:Nat):(Builtin.zeroCells z n).size=n*z.size:=by simp[Builtin.zeroCells]
theorem AV.cells_d(y:D):(AV.d y).cells=y.cells.map .d:=by cases y<;>rfl
theorem iu:∀(l:List D),AV.flat (l.map .d)=(D.flat l).map .d
 |[]=>rfl
 |a::r=>by
  have b:=iu r;simp only[AV.flat,D.flat]at b ⊢;simp only[xI,xm,xM,AV.cells_d,b]
def TyOk(P:Program)(t:TypeId)(G b:Gh)(h:aa)(s x:AV):Prop:=
 ∀k v sz l L,x= .vec k v sz l→b.loc k v=some L→P.underlying t=some (.slice L.ty)∨s.isVec=true∧∃a,G.loc k (h k).ver=some a∧L.ty=a.ty
theorem TyOk.non{P:Program}{t:TypeId}{G b:Gh}{h:aa}{s x:AV}(a:x.isVec=false):TyOk P t G b h s x:=by
 intro k v sz l L c _;rw[c]at a;cases a
theorem TyOk.noLoc{P:Program}{t:TypeId}{G a:Gh}{h:aa}{s:AV}{k v sz:Nat}{l:List D}(c:a.loc k v=none):TyOk P t G a h s (.vec k v sz l):=by
 intro k v sz l L d b;cases d;rw[c]at b;cases b
theorem TyOk.new{P:Program}{t e:TypeId}{G a:Gh}{h:aa}{s:AV}{k v sz:Nat}{l:List D}(c:P.underlying t=some (.slice e))(b:∀L,a.loc k v=some L→L.ty=e):TyOk P t G a h s (.vec k v sz l):=by
 intro k v sz l L d f;cases d;rw[b L f];exact .inl c
theorem lw(hr:HR G B w0 I0 h w){obm:Bool}{t t' ty:TypeId}(hta:lg P t t'=true){s x:AV}{vs vx:Value}(hs:Rep G w s vs)(hx:Rep G w x vx){k:Nat}{out:Out}(r:aZ P obm t s x k h=some out):
    out.ob=[]∧∃v w' G',(Builtin.append_ #[t,t'] ty #[vs,vx]).run P w= .ok v w'∧Ext G w G' w'∧HR G' B w0 I0 (ae h out.wr) w'∧Rep G' w' out.val v∧TyOk P t G G' h s out.val:=by
 unfold aZ at r;split at r
 ·rename_i e W
  split at r
  ·rename_i news rs z hsrc hz
   split at r
   ·rename_i hc
    obtain⟨hall,hpos,hby,hzs⟩:=hc;obtain⟨i,hi,hiz,M,hbe⟩:=gL hz;have hnc:∀y∈news,y.cells.length=P.cellsOf e:=fun y hy=>by simpa using xY.1 hall y hy
    obtain⟨S,Q,hus1,hus2,hus3,hus4⟩:=o5 (P:=P) hr hx hsrc hnc;have hfw:=hus4 w (fun _ _=>rfl);have hfd:=hus4 w.drew (fun _ _=>rfl);rw[M]at hfw hfd;rw[hbe]at hby;have hfl:(D.flat news).length=news.length*P.cellsOf e:=D.flat_len hnc
    have hnewcell:∀(f:List Value)(A:Array Value)(l:List D),f.length=l.length*P.cellsOf e→(∀y∈l,y.cells.length=P.cellsOf e)→(∀(t:Nat)(c:D),(D.flat l)[t]? =some c→∃u:Value,f[t]? =some u∧c.one=true∧DRep G.imm w c u)→
        ∀(t:Nat)(c:D),(D.flat (l ++news))[t]? =some c→∃u:Value,(f.toArray ++Q.toArray ++A)[t]? =some u∧c.one=true∧DRep G.imm w c u:=by
     intro f A l hol hlc hold t c Z;have hfl2:(D.flat l).length=l.length*P.cellsOf e:=D.flat_len hlc;have F:D.flat (l ++news)=D.flat l ++D.flat news:=yH;rw[F]at Z;rw[←xX];simp only[Array.toList_append];by_cases htl:t<(D.flat l).length
     ·rw[xL htl]at Z
      obtain⟨u,W,N,h2⟩:=hold t c Z;have:t<f.length:=by omega
      refine⟨u, ?_,N,h2⟩;rw[x8,xL (by simpa using this)];exact W
     ·rw[xN (by omega)]at Z
      obtain⟨u,W,N,h2⟩:=hus3 _ c Z;have hlt:=(xD.1 W).1;refine⟨u, ?_,N,h2⟩;have e1:(D.flat l).length=f.length:=by rw[hol];exact hfl2
      rw[e1]at W hlt;rw[e1]at Z;have htl':¬t<f.length:=by omega
      rw[x8,xN (by simpa using htl'),xL (by simpa using hlt)];simpa using W
    have J:Ext G w G w.drew:=Ext.drew G w;have hrd:=hr.drew
    have hnd:∀y∈news.map AV.d,y.cells.length=P.cellsOf e:=by
     intro y hy;obtain⟨y',hy',rfl⟩:=xf.1 hy;rw[AV.cells_d,xV];exact hnc y' hy'
    have hlod:news.all D.one=true→∀y∈news.map AV.d,y.lone=true:=by
     intro hall1 y hy;obtain⟨y',hy',rfl⟩:=xf.1 hy;have:=xY.1 hall1 y' hy';cases y'<;>first|rfl|(simp[D.one]at this)
    have C:∀(sLen sCap:Nat)(f:List Value),f.length=sLen*P.cellsOf e→
        (f.toArray ++Q.toArray ++Builtin.zeroCells z.cells (grownCap w (sLen+news.length) sCap e-(sLen+news.length))).size=grownCap w (sLen+news.length) sCap e*P.cellsOf e:=by
     intro sLen sCap f hol;have hge:=grownCap_ge w (sLen+news.length) sCap e;simp only[Array.size_append,nP,hzs,List.size_toArray,hus1,hol];rw[←yN,←yN];congr 1;omega
    have avCell:∀(f:List Value)(A:Array Value)(xs:List AV),f.length=xs.length*P.cellsOf e→(∀y∈xs,y.cells.length=P.cellsOf e)→(∀(t:Nat)(c:AV),(AV.flat xs)[t]? =some c→∃u:Value,f[t]? =some u∧u.oneCell'=true∧Rep G w c u)→
        ∀(t:Nat)(c:AV),(AV.flat (xs ++news.map .d))[t]? =some c→∃u:Value,(f.toArray ++Q.toArray ++A)[t]? =some u∧u.oneCell'=true∧Rep G w c u:=by
     intro f A xs hol hxc hold t c Z;have hfl2:(AV.flat xs).length=xs.length*P.cellsOf e:=bg _ _ xs hxc;have F:AV.flat (xs ++news.map .d)=AV.flat xs ++(D.flat news).map .d:=by rw[←iu];exact yH
     rw[F]at Z;rw[←xX];simp only[Array.toList_append];by_cases htl:t<(AV.flat xs).length
     ·rw[xL htl]at Z
      obtain⟨u,W,N,h2⟩:=hold t c Z;have:t<f.length:=by omega
      exact⟨u,by rw[x8,xL (by simpa using this)];exact W,N,h2⟩
     ·rw[xN (by omega),xK,xB]at Z
      obtain⟨c',hc',rfl⟩:=Z;obtain⟨u,W,N,h2⟩:=hus3 _ c' hc';have hlt:=(xD.1 W).1;have e1:(AV.flat xs).length=f.length:=by rw[hol];exact hfl2
      rw[e1]at W hlt;refine⟨u, ?_,h2.oneCell N, .d h2⟩;have htl':¬t<f.length:=by omega
      rw[x8,xN (by simpa using htl'),xL (by simpa using hlt)];simpa using W
    have T:∀(f:List Value)(A:Array Value)(xs:List AV),f.length=xs.length*P.cellsOf e→(∀y∈xs,y.cells.length=P.cellsOf e)→(∀(t:Nat)(c:AV),(AV.flat xs)[t]? =some c→∃u:Value,f[t]? =some u∧u.oneCell'=true∧Rep G w c u)→
        ∀(t:Nat)(c:AV),(AV.flat (xs ++news.map .d))[t]? =some c→∃u:Value,(f.toArray ++Q.toArray ++A)[t]? =some u∧u.oneCell'=true∧Rep G w.drew c u:=by
     intro f A xs a1 a2 a3 t c Z;obtain⟨u,N,h2,h3⟩:=avCell f A xs a1 a2 a3 t c Z;exact⟨u,N,h2,h3.mono J⟩
    have E:∀(f:List Value)(A:Array Value)(l:List D),f.length=l.length*P.cellsOf e→(∀y∈l,y.cells.length=P.cellsOf e)→(∀(t:Nat)(c:D),(D.flat l)[t]? =some c→∃u:Value,f[t]? =some u∧c.one=true∧DRep G.imm w c u)→
        ∀(t:Nat)(c:D),(D.flat (l ++news))[t]? =some c→∃u:Value,(f.toArray ++Q.toArray ++A)[t]? =some u∧c.one=true∧DRep G.imm w.drew c u:=by
     intro f A l a1 a2 a3 t c Z;obtain⟨u,N,h2,h3⟩:=hnewcell f A l a1 a2 a3 t c Z;exact⟨u,N,h2,h3.mono J.imm J.cell⟩
    have K:∀(H:Option Addr),news.length=0→(Builtin.append_ #[t,t'] ty #[.slice H 0 0,vx]).run P w= .ok (.slice H 0 0) w:=by
     intro H p;have q:news=[]:=xQ p;subst q;have hus0:Q=[]:=xQ (by simpa using hus1);subst hus0;simp at hfw S;rcases ir hta with rfl|hs'
     ·cases H with
      |none=>simp[Builtin.append_,run_underlying W,sizeOf,typeInfo,hi,S,hfw]
      |some a=>simp[Builtin.append_,run_underlying W,sizeOf,typeInfo,hi,S,hfw,storeCells]
     ·cases H with
      |none=>simp[Builtin.append_,run_underlying W,run_underlying hs',sizeOf,typeInfo,hi,S,hfw]
      |some a=>simp[Builtin.append_,run_underlying W,run_underlying hs',sizeOf,typeInfo,hi,S,hfw,storeCells]
    have n:(Builtin.firstCells i.size 0 (.slice none 0 0)).run P w.drew= .ok ([]:List Value).toArray w.drew:=by simp[Builtin.firstCells]
    split at r
    ·
     split at r
     ·cases r
     ·rename_i hk
      have hk2:news.length≤549755813888:=by
       rcases y9 549755813888 news.length with h9|h9
       ·exact absurd (Or.inr h9) hk
       ·exact h9
      cases hs;by_cases p:news.length=0
      ·have g:=K none p
       have q:news=[]:=xQ p;split at r
       ·split at r
        ·cases r
        ·simp only[xA]at r
         subst r;obtain⟨G',V,R,_⟩:=hr.bump k (some (.arr (P.cellsOf e) (news.map .d))) (fun o O=>by rw[q]at O;simp at O;exact⟨_,O.symm⟩);rw[p];try rw[p]at g
         exact⟨rfl,_,w,G',g,R,V, .slNil _ _ _ _,TyOk.non rfl⟩
       ·simp only[xA]at r
        subst r;obtain⟨G',V,R,g9⟩:=hr.bump k none (fun o O=>by cases O);rw[q];try rw[q]at g
        exact⟨rfl,_,w,G',g,R,V, .vecNil _ _ _,TyOk.noLoc g9⟩
      ·have g:=aM (w:=w) t t' ty e i z W hta hi hiz none 0 0 [] n vx news.length Q S hfd (by omega) (by omega) hby
       have hge:=grownCap_ge w (0+news.length) 0 e;have I:=C 0 0 [] (by simp);split at r
       ·split at r
        ·cases r
        ·rename_i hlo
         simp only[xA]at r;subst r
         obtain⟨V,R⟩:=hrd.newOb k (P.cellsOf e) (grownCap w (0+news.length) 0 e) (news.map .d) _ e I (by rw[xV];omega) hnd (fun N=>hlod (by
          cases hxa:news.all D.one with
          |true=>rfl
          |false=>exact absurd ⟨N,hxa⟩ hlo)) (by simpa using T [] (Builtin.zeroCells z.cells (grownCap w (0+news.length) 0 e-(0+news.length))) [] (by simp) (by simp) (by simp[AV.flat]))
         refine⟨rfl,_,_,_,g,J.trans R,V, ?_,TyOk.non rfl⟩;have:=Rep.sl (w:=w.drew.alloc (.cells (([]:List Value).toArray ++Q.toArray ++Builtin.zeroCells z.cells (grownCap w (0+news.length) 0 e-(0+news.length))) e)) k ((h k).ver+1) 0 news.length (grownCap w (0+news.length) 0 e) _ (Gh.at_same G k ((h k).ver+1) ⟨w.heap.size,P.cellsOf e,grownCap w (0+news.length) 0 e,0,e⟩) (by simp) (by omega);simpa using this
       ·simp only[xA]at r
        subst r;obtain⟨G',V,R,g3,g9⟩:=hrd.newVecT k (P.cellsOf e) (grownCap w (0+news.length) 0 e) news _ e I (by omega) hnc (by simpa using E [] (Builtin.zeroCells z.cells (grownCap w (0+news.length) 0 e-(0+news.length))) [] (by simp) (by simp) (by simp[D.flat]));refine⟨rfl,_,_,G',g,J.trans R,V, ?_,TyOk.new W g9⟩;simpa using g3
    ·
     split at r
     ·cases r
     ·rename_i hk
      have hk2:¬549755813888<news.length:=fun h9=>hk (.inr h9)
      cases hs with
      |es H=>
       split at r
       ·
        split at r
        ·cases r
        ·rename_i hlo
         simp only[xA]at r;subst r;by_cases p:news.length=0
         ·have g:=K H p
          have q:news=[]:=xQ p;obtain⟨G',V,R,_⟩:=hr.bump k (some (.arr (P.cellsOf e) (news.map .d))) (fun o O=>by rw[q]at O;simp at O;exact⟨_,O.symm⟩);rw[p];try rw[p]at g
          exact⟨rfl,_,w,G',g,R,V, .slNil _ _ _ _,TyOk.non rfl⟩
         ·have hf0:(Builtin.firstCells i.size 0 (.slice H 0 0)).run P w.drew= .ok ([]:List Value).toArray w.drew:=by
            cases H with
            |none=>exact n
            |some a=>exact run_firstCells_some (P:=P) w.drew i.size 0 a 0 0 [] (by simp) (by simp)
          have g:=aM (w:=w) t t' ty e i z W hta hi hiz H 0 0 [] hf0 vx news.length Q S hfd (by omega) (by omega) hby;have hge:=grownCap_ge w (0+news.length) 0 e;have I:=C 0 0 [] (by simp)
          obtain⟨V,R⟩:=hrd.newOb k (P.cellsOf e) (grownCap w (0+news.length) 0 e) (news.map .d) _ e I (by rw[xV];omega) hnd (fun N=>hlod (by
           cases hxa:news.all D.one with
           |true=>rfl
           |false=>exact absurd ⟨N,hxa⟩ hlo)) (by simpa using T [] (Builtin.zeroCells z.cells (grownCap w (0+news.length) 0 e-(0+news.length))) [] (by simp) (by simp) (by simp[AV.flat]))
          refine⟨rfl,_,_,_,g,J.trans R,V, ?_,TyOk.non rfl⟩;have:=Rep.sl (w:=w.drew.alloc (.cells (([]:List Value).toArray ++Q.toArray ++Builtin.zeroCells z.cells (grownCap w (0+news.length) 0 e-(0+news.length))) e)) k ((h k).ver+1) 0 news.length (grownCap w (0+news.length) 0 e) _ (Gh.at_same G k ((h k).ver+1) ⟨w.heap.size,P.cellsOf e,grownCap w (0+news.length) 0 e,0,e⟩) (by simp) (by omega);simpa using this
       ·simp only[xA]at r
        subst r;clear hk;by_cases p:news.length=0
        ·have g:=K H p
         have q:news=[]:=xQ p;refine⟨rfl,_,w,G,g,Ext.refl G w,hr, ?_,TyOk.non rfl⟩;rw[q];exact .d (.roNil _ _)
        ·have hf0:(Builtin.firstCells i.size 0 (.slice H 0 0)).run P w.drew= .ok ([]:List Value).toArray w.drew:=by
           cases H with
           |none=>exact n
           |some a=>exact run_firstCells_some (P:=P) w.drew i.size 0 a 0 0 [] (by simp) (by simp)
         have g:=aM (w:=w) t t' ty e i z W hta hi hiz H 0 0 [] hf0 vx news.length Q S hfd (by omega) (by omega) hby;have hge:=grownCap_ge w (0+news.length) 0 e;obtain⟨G',V,R,g3⟩:=hrd.newImm news (P.cellsOf e) (grownCap w (0+news.length) 0 e) (([]:List Value).toArray ++Q.toArray ++Builtin.zeroCells z.cells (grownCap w (0+news.length) 0 e-(0+news.length))) e (by omega) hnc (by simpa using E [] (Builtin.zeroCells z.cells (grownCap w (0+news.length) 0 e-(0+news.length))) [] (by simp) (by simp) (by simp[D.flat]));refine⟨rfl,_,_,G',g,J.trans R,V, .d ?_,TyOk.non rfl⟩;simpa using g3
    ·
     rename_i k' v sz l;split at r
     ·rename_i hc
      obtain⟨rfl,hob,hkrs,hsze,hle⟩:=hc;have hob:(h k').ob=none:=by simpa using hob
      simp only[xA]at r;subst r;cases hs with
      |vecNil=>
       subst hsze;by_cases p:news.length=0
       ·have g:=K none p
        have q:news=[]:=xQ p;obtain⟨G',V,R,g9⟩:=hr.bump k' none (fun o O=>by cases O);rw[q];try rw[q]at g
        exact⟨rfl,_,w,G',g,R,V, .vecNil _ _ _,TyOk.noLoc g9⟩
       ·simp at hle
        have g:=aM (w:=w) t t' ty e i z W hta hi hiz none 0 0 [] n vx news.length Q S hfd (by omega) (by omega) hby;have hge:=grownCap_ge w (0+news.length) 0 e;have I:=C 0 0 [] (by simp);obtain⟨G',V,R,g3,g9⟩:=hrd.newVecT k' (P.cellsOf e) (grownCap w (0+news.length) 0 e) news _ e I (by omega) hnc (by simpa using E [] (Builtin.zeroCells z.cells (grownCap w (0+news.length) 0 e-(0+news.length))) [] (by simp) (by simp) (by simp[D.flat]));refine⟨rfl,_,_,G',g,J.trans R,V, ?_,TyOk.new W g9⟩;simpa using g3
      |vec _ _ _ L hL hfr hlen hlsz hd=>
       obtain⟨f,ho1,ho2,ho3,ho4⟩:=b0 (P:=P) hd hlsz;obtain⟨hB,⟨arr,e',hb,has⟩,_⟩:=hr.own k' L hL;by_cases Y:l.length+news.length≤L.cap
       ·have hfit:l.length*i.size+Q.length≤arr.size:=by
          rw[has.1,hsze,hus1,←M,←yN];exact yF _ Y
        have g:=dC t t' ty e e' i W hta hi L.b l.length L.cap arr hb vx news.length Q (S w) hfw hus2 Y hfit;have hseg:=fun s=>gK arr.toList Q (l.length*i.size) s (by simpa using hfit)
        have hLs:L.sz=P.cellsOf e:=hsze
        have hcelllist:∀(t:Nat)(c:D),(D.flat l)[t]? =some c→∃u:Value,arr[t]? =some u∧c.one=true∧DRep G.imm w c u:=by
         intro t c Z;cases hd with
         |roNil=>simp[D.flat]at Z
         |ro _ b o c' sz' U hcap hsz' N hi' hc' hr'=>
          have:=hc' t c Z;rw[xe]at this;exact⟨U t,by simpa [World.cell?,hb]using this,N c (xS Z),hr' t c Z⟩
        have hfl2:(D.flat l).length=l.length*P.cellsOf e:=by rw[D.flat_len hlsz,hLs]
        obtain⟨G',V,R,g3,g9⟩:=hr.growT (news:=news) hob hL hfr hb (arr':=(arr.toList.take (l.length*i.size) ++Q ++arr.toList.drop (l.length*i.size+Q.length)).toArray) (by simp;omega) Y hlsz (fun y hy=>by rw[hLs];exact hnc y hy) (fun s hs=>by
         rw[yU,hseg s,xW (by rw[←M,←hLs];exact hs)];simp) (fun s c hs=>by
         have F:D.flat (l ++news)=D.flat l ++D.flat news:=yH;rw[F]at hs;rw[yU,hseg s];by_cases hsl:s<(D.flat l).length
         ·rw[xL hsl]at hs
          obtain⟨u,X,N,h2⟩:=hcelllist s c hs;refine⟨u, ?_,N,h2⟩;rw[xW (by rw[←M];omega)];simpa using X
         ·rw[xN (by omega)]at hs
          obtain⟨u,X,N,h2⟩:=hus3 _ c hs;have hlt:=(xD.1 X).1;refine⟨u, ?_,N,h2⟩;rw[xi (by rw[←M];omega),xW (by rw[←M];omega),←M,←hfl2];exact X)
        exact⟨rfl,_,_,G',g,R,V,g3,fun _ _ _ _ L1 hv hL1=>by
         cases hv;exact .inr ⟨rfl,L,hL,g9 L1 hL1⟩⟩
       ·have hfo:=ho4 w.drew (fun _ _=>rfl)
        have hLs:L.sz=P.cellsOf e:=hsze;rw[hLs,M]at hfo;have g:=aM (w:=w) t t' ty e i z W hta hi hiz (some ⟨L.b,0,none⟩) l.length L.cap f hfo vx news.length Q S hfd (by omega) hle hby;have hge:=grownCap_ge w (l.length+news.length) L.cap e;have I:=C l.length L.cap f (by rw[ho1,hLs])
        obtain⟨G',V,R,g3,g9⟩:=hrd.newVecT k' (P.cellsOf e) (grownCap w (l.length+news.length) L.cap e) (l ++news) _ e I (by rw[xZ];omega) (fun y hy=>by
         rcases xJ.1 hy with hy|hy
         ·rw[←hLs];exact hlsz y hy
         ·exact hnc y hy) (E f (Builtin.zeroCells z.cells (grownCap w (l.length+news.length) L.cap e-(l.length+news.length))) l (by rw[ho1,hLs]) (fun y hy=>by rw[←hLs];exact hlsz y hy) ho3)
        refine⟨rfl,_,_,G',g,J.trans R,V, ?_,TyOk.new W g9⟩;rw[xZ,←hLs]at g3;exact g3
     ·cases r
    ·
     rename_i k' v off m sz0;split at r
     ·rename_i sz es hob
      split at r
      ·rename_i hc
       obtain⟨rfl,rfl,hles,rfl,hle,hone⟩:=hc;simp only[xA]at r;subst r;have htl:(es.take m).length=m:=by simp;omega
       have hlo':∀(hlo:P.cellsOf e=1→∀x∈es,x.lone=true),P.cellsOf e=1→∀x∈es.take m ++news.map .d,x.lone=true:=by
        intro hlo N x hx;rcases xJ.1 hx with hx|hx
        ·exact hlo N x (xy hx)
        ·exact hlod (hone N) x hx
       cases hs with
       |slNil _ _ _ H=>
        have hf0:(Builtin.firstCells i.size 0 (.slice H 0 0)).run P w.drew= .ok ([]:List Value).toArray w.drew:=by
         cases H with
         |none=>exact n
         |some a=>exact run_firstCells_some (P:=P) w.drew i.size 0 a 0 0 [] (by simp) (by simp)
        by_cases p:news.length=0
        ·have g:=K H p
         have q:news=[]:=xQ p;obtain⟨G',V,R,_⟩:=hr.bump k' (some (.arr (P.cellsOf e) (es.take 0 ++news.map .d))) (fun o O=>by rw[q]at O;simp at O;exact⟨_,O.symm⟩);rw[p];try rw[p]at g
         exact⟨rfl,_,w,G',g,R,V, .slNil _ _ _ _,TyOk.non rfl⟩
        ·have g:=aM (w:=w) t t' ty e i z W hta hi hiz H 0 0 [] hf0 vx news.length Q S hfd (by omega) (by omega) hby
         have hge:=grownCap_ge w (0+news.length) 0 e;have I:=C 0 0 [] (by simp);obtain⟨V,R⟩:=hrd.newOb k' (P.cellsOf e) (grownCap w (0+news.length) 0 e) (es.take 0 ++news.map .d) _ e I (by rw[xZ,xV,List.length_take];omega) (by simpa using hnd) (fun N=>by simpa using hlod (hone N)) (by simpa using T [] (Builtin.zeroCells z.cells (grownCap w (0+news.length) 0 e-(0+news.length))) [] (by simp) (by simp) (by simp[AV.flat]));refine⟨rfl,_,_,_,g,J.trans R,V, ?_,TyOk.non rfl⟩;have:=Rep.sl (w:=w.drew.alloc (.cells (([]:List Value).toArray ++Q.toArray ++Builtin.zeroCells z.cells (grownCap w (0+news.length) 0 e-(0+news.length))) e)) k' ((h k').ver+1) 0 (0+news.length) (grownCap w (0+news.length) 0 e) _ (Gh.at_same G k' ((h k').ver+1) ⟨w.heap.size,P.cellsOf e,grownCap w (0+news.length) 0 e,0,e⟩) (by simp) (by omega);simpa using this
       |sl _ _ _ _ cc L hL hcap hlc=>
        rcases hr.objs k' _ hob with ⟨_,hLn⟩|⟨L',hL',N,h2,h3,h4,h6,h5⟩
        ·rw[hL]at hLn;cases hLn
        ·rw[hL]at hL'
         simp only[xA]at hL';subst hL';obtain⟨hB,⟨arr,e',hb,has⟩,_⟩:=hr.own k' L hL;have htc:∀y∈es.take m,y.cells.length=P.cellsOf e:=fun y hy=>h4 y (xy hy)
         have hall':∀y∈es.take m ++news.map .d,y.cells.length=P.cellsOf e:=fun y hy=>by
          rcases xJ.1 hy with hy|hy
          ·exact htc y hy
          ·exact hnd y hy
         have hfl2:(AV.flat (es.take m)).length=m*P.cellsOf e:=by rw[AV.flat,bg _ _ _ htc,htl]
         have hold:∀(t:Nat)(c:AV),(AV.flat (es.take m))[t]? =some c→∃u:Value,arr[t]? =some u∧u.oneCell'=true∧Rep G w c u:=by
          intro t c Z
          have:AV.flat es=AV.flat (es.take m) ++AV.flat (es.drop m):=by
           show List.flatMap _ _=List.flatMap _ _ ++List.flatMap _ _;rw[←yH,List.take_append_drop]
          have hlt:=(xD.1 Z).1;obtain⟨u,X,hu1,hur⟩:=h5 t c (by rw[this,xL hlt];exact Z);exact⟨u,by simpa [World.cell?,hb]using X,hu1,hur⟩
         have hz0:(⟨L.b,0*L.sz,none⟩:Addr)=⟨L.b,0,none⟩:=by simp
         rw[hz0];by_cases Y:m+news.length≤cc
         ·have hfit:m*i.size+Q.length≤arr.size:=by
            rw[has.1,N,hus1,←M,←yN];exact yF _ (by omega)
          have g:=dC t t' ty e e' i W hta hi L.b m cc arr hb vx news.length Q (S w) hfw hus2 Y hfit;have hseg:=fun s=>gK arr.toList Q (m*i.size) s (by simpa using hfit)
          obtain⟨V,R⟩:=hr.regrow (es':=es.take m ++news.map .d) hL N h2 hb (arr':=(arr.toList.take (m*i.size) ++Q ++arr.toList.drop (m*i.size+Q.length)).toArray) (by simp;omega) (by simp;omega) hall' (hlo' h6) (fun s c hs=>by
           have F:AV.flat (es.take m ++news.map .d)=AV.flat (es.take m) ++(D.flat news).map .d:=by rw[←iu];exact yH
           rw[F]at hs;rw[yU,hseg s];by_cases hsl:s<(AV.flat (es.take m)).length
           ·rw[xL hsl]at hs
            obtain⟨u,X,h1',h2'⟩:=hold s c hs;refine⟨u, ?_,h1',h2'⟩;rw[xW (by rw[←M];omega)];simpa using X
           ·rw[xN (by omega),xK,xB]at hs
            obtain⟨c',hc',rfl⟩:=hs;obtain⟨u,X,h1',h2'⟩:=hus3 _ c' hc';have hlt:=(xD.1 X).1;refine⟨u, ?_,h2'.oneCell h1', .d h2'⟩;rw[xi (by rw[←M];omega),xW (by rw[←M];omega),←M,←hfl2];exact X)
          refine⟨rfl,_,_,_,g,R,V, ?_,TyOk.non rfl⟩;have:=Rep.sl (w:=w.setRow L.b (arr.toList.take (m*i.size) ++Q ++arr.toList.drop (m*i.size+Q.length)).toArray) k' ((h k').ver+1) 0 (m+news.length) cc L (Gh.at_same G k' ((h k').ver+1) L) hcap Y;rw[hz0,N]at this;exact this
         ·have hfo:(Builtin.firstCells i.size m (.slice (some ⟨L.b,0,none⟩) m cc)).run P w.drew= .ok (arr.toList.take (m*i.size)).toArray w.drew:=by
            refine run_firstCells_some (P:=P) w.drew i.size m ⟨L.b,0,none⟩ m cc _ ?_ (fun j v hj=> ?_)
            ·have:m*i.size≤arr.size:=by rw[has.1,N,←M];exact yF _ (by omega)
             simp;omega
            ·rw[xl]at hj
             split at hj
             ·rw[bL,xe]
              show w.cell? _=_;simpa [World.cell?,hb]using hj
             ·cases hj
          have hol:(arr.toList.take (m*i.size)).length=m*P.cellsOf e:=by
           have:m*i.size≤arr.size:=by rw[has.1,N,←M];exact yF _ (by omega)
           rw[M];simp;omega
          have g:=aM (w:=w) t t' ty e i z W hta hi hiz (some ⟨L.b,0,none⟩) m cc _ hfo vx news.length Q S hfd (by omega) hle hby;have hge:=grownCap_ge w (m+news.length) cc e;have I:=C m cc _ hol
          obtain⟨V,R⟩:=hrd.newOb k' (P.cellsOf e) (grownCap w (m+news.length) cc e) (es.take m ++news.map .d) _ e I (by rw[xZ,xV,htl];omega) hall' (hlo' h6) (T (arr.toList.take (m*i.size)) (Builtin.zeroCells z.cells (grownCap w (m+news.length) cc e-(m+news.length))) (es.take m) (by rw[hol,htl]) htc (fun s c hs=>by
           obtain⟨u,X,h1',h2'⟩:=hold s c hs;have hlt:=(xD.1 hs).1;refine⟨u, ?_,h1',h2'⟩;rw[xl,xW (by rw[←M];omega)];simpa using X))
          refine⟨rfl,_,_,_,g,J.trans R,V, ?_,TyOk.non rfl⟩;have:=Rep.sl (w:=w.drew.alloc (.cells ((arr.toList.take (m*i.size)).toArray ++Q.toArray ++Builtin.zeroCells z.cells (grownCap w (m+news.length) cc e-(m+news.length))) e)) k' ((h k').ver+1) 0 (m+news.length) (grownCap w (m+news.length) cc e) _ (Gh.at_same G k' ((h k').ver+1) ⟨w.heap.size,P.cellsOf e,grownCap w (m+news.length) cc e,0,e⟩) (by simp) (by omega);simpa using this
      ·cases r
     ·cases r
    ·cases r
   ·cases r
  ·cases r
 ·cases r
theorem nQ{obm:Bool}{t:TypeId}{s x:AV}{k:Nat}{out:Out}(a:aZ P obm t s x k h=some out){b v sz:Nat}{l:List D}(c:out.val= .vec b v sz l):v≤(ae h out.wr b).ver:=by
 unfold aZ at a;repeat' split at a
 all_goals first
  |(cases a;done)
  |(simp only[xA]at a;subst a;simp only at c;cases c<;>simp[ae,aq])
theorem eN(c:HR G B w0 I0 h w){k v:Nat}{T:TypeId}{n:Option Nat}(a:iS h k v=some (T,n)):∀L,G.loc k v=some L→L.ty=T∧∀m,n=some m→L.cap*L.sz=m:=by
 unfold iS at a;split at a
 ·rename_i i f e g b
  split at a
  ·rename_i d
   obtain⟨rfl,rfl⟩:=d;cases a;exact(c.objs _ _ b).2
  ·cases a
 ·cases a
theorem kH(C:HR G B w0 I0 h w){obm:Bool}{t z ty:TypeId}(r:lg P t z=true){s x:AV}{vs A:Value}(F:Rep G w s vs)(D:Rep G w x A){k:Nat}{out:Out}(a:bG P obm t s x k h=some out):
    out.ob=[]∧∃v c g,(Builtin.append_ #[t,z] ty #[vs,A]).run P w= .ok v c∧Ext G w g c∧HR g B w0 I0 (ae h out.wr) c∧Rep g c out.val v:=by
 unfold bG at a;split at a;case h_2=>cases a
 rename_i b f;obtain⟨p,v,c,g,u,h2,o,q,O⟩:=lw C (ty:=ty) r F D f;split at a
 ·rename_i e l y n l' E J d
  split at a
  ·rename_i N
   simp only[xA]at a;subst a;rw[(c7 ..).1,(c7 ..).2];refine⟨p,v,c,g,u,h2, ?_,q⟩;refine eW (out:={b with rd:=l::fO l::b.rd}) o true e none l y (nQ f d) (fun _ L H=>⟨?_,fun m hm=>by cases hm⟩);rcases O l y n l' L d H with j|⟨j,M,K,I⟩
   ·rw[J]at j;cases j;rfl
   ·rcases N.2 with i|i
    ·rw[j]at i;cases i
    ·rw[I];exact(eN C i M K).1
  ·simp only[xA]at a
   subst a;exact⟨p,v,c,g,u,h2,o,q⟩
 ·simp only[xA]at a
  subst a;exact⟨p,v,c,g,u,h2,o,q⟩
theorem kI(hr:HR G B w0 I0 h w){t t' ty:TypeId}(hta:lg P t t'=true){s x:AV}{vs vx:Value}(J:Rep G w s vs)(hx:Rep G w x vx){out:Out}(T:cj P t s x h=some out):
    out.ob=[]∧∃v w' G',(Builtin.append_ #[t,t'] ty #[vs,vx]).run P w= .ok v w'∧Ext G w G' w'∧HR G' B w0 I0 (ae h out.wr) w'∧Rep G' w' out.val v:=by
 unfold cj at T;split at T;case h_2=>cases T
 rename_i e hu;split at T;case h_2=>cases T
 rename_i z k v off d sz1 kx vx1 offx lenx sz2 hz;split at T;case h_2=>cases T
 rename_i sz es szx C hob hobx;split at T;case isFalse=>cases T
 rename_i hc;obtain⟨rfl,rfl,hles,rfl,rfl,rfl,rfl,rfl,hce,hby,hzs,hle,hcr⟩:=hc;simp only[xA]at T;subst T;obtain⟨i,hi,hiz,hsz,hbe⟩:=gL hz;rw[hbe]at hby;have o:i.size=1:=by rw[←hsz];exact hce
 cases hx with
 |sl _ _ _ _ cx Lx hLx hcapx hlcx=>
 rcases hr.objs kx _ hobx with ⟨h9,_⟩|⟨Lx',R,q1,q2,q3,q4,q6,q5⟩
 ·cases h9
 rw[hLx]at R;simp only[xA]at R;subst R;obtain⟨u,hu0,U,X⟩:=q5 0 C (by rw[AV.flat,xm,List.flatMap_nil,AV.cells_lone (AV.isRef_lone hcr)];rfl);have hu0':w.cell? ⟨Lx.b,0,none⟩=some u:=hu0;have hz0:(⟨Lx.b,0*Lx.sz,none⟩:Addr)=⟨Lx.b,0,none⟩:=by simp
 rw[hz0];have hxl:∀Z:World,(Builtin.lenOf (.slice (some ⟨Lx.b,0,none⟩) 1 cx)).run P Z= .ok 1 Z:=fun Z=>by simp[Builtin.lenOf]
 have hf:∀Z:World,(∀a,Z.cell? a=w.cell? a)→(Builtin.firstCells i.size 1 (.slice (some ⟨Lx.b,0,none⟩) 1 cx)).run P Z= .ok [u].toArray Z:=fun Z hw2=>by
  refine run_firstCells_some (P:=P) Z i.size 1 ⟨Lx.b,0,none⟩ 1 cx [u] (by simp[o]) (fun j v hj=> ?_);cases j with
  |zero=>
   rw[bL];simp only[xk,xA]at hj;subst hj;rw[hw2];exact hu0'
  |succ j=>simp at hj
 have hfw:=hf w (fun _=>rfl);have hfd:=hf w.drew (fun _=>rfl);have F:Ext G w G w.drew:=Ext.drew G w;have hrd:=hr.drew;have A:(Builtin.firstCells i.size 0 (.slice none 0 0)).run P w.drew= .ok ([]:List Value).toArray w.drew:=by simp[Builtin.firstCells]
 have V:(es.take d).length=d:=by simp;omega
 have hca:∀y∈[C],y.cells.length=1:=fun y g=>by rw[xH]at g;subst g;rw[AV.cells_lone (AV.isRef_lone hcr)];rfl
 have hla:∀y∈[C],y.lone=true:=fun y g=>by rw[xH]at g;subst g;exact AV.isRef_lone hcr
 have hfa:AV.flat [C]=[C]:=by rw[AV.flat,xm,List.flatMap_nil,AV.cells_lone (AV.isRef_lone hcr)];rfl
 have r:∀(m H:Nat)(f:List Value),f.length=m→
     (f.toArray ++[u].toArray ++Builtin.zeroCells z.cells (grownCap w (m+1) H e-(m+1))).size=grownCap w (m+1) H e*1:=by
  intro m H f M;have hge:=grownCap_ge w (m+1) H e;simp only[Array.size_append,nP,hzs,List.size_toArray,x6,xp,M];omega
 have p:∀(f:List Value)(rest:Array Value)(xs:List AV),f.length=xs.length→(∀y∈xs,y.cells.length=1)→(∀(t:Nat)(c:AV),(AV.flat xs)[t]? =some c→∃u:Value,f[t]? =some u∧u.oneCell'=true∧Rep G w c u)→
     ∀(t:Nat)(c:AV),(AV.flat (xs ++[C]))[t]? =some c→∃Y:Value,(f.toArray ++[u].toArray ++rest)[t]? =some Y∧Y.oneCell'=true∧Rep G w.drew c Y:=by
  intro f rest xs M hxc E t c N;have hfl2:(AV.flat xs).length=xs.length*1:=bg _ _ xs hxc;have n:AV.flat (xs ++[C])=AV.flat xs ++[C]:=by unfold AV.flat;rw[yH];exact congrArg (fun l=>List.flatMap AV.cells _ ++l) hfa
  rw[n]at N;rw[←xX];simp only[Array.toList_append];by_cases V:t<(AV.flat xs).length
  ·rw[xL V]at N
   obtain⟨Y,D,h1,h2⟩:=E t c N;have:t<f.length:=by omega
   exact⟨Y,by rw[x8,xL (by simpa using this)];exact D,h1,h2.mono F⟩
  ·rw[xN (by omega)]at N
   have I:=(xD.1 N).1;simp only[x6,xp]at I;have e1:t-(AV.flat xs).length=0:=by omega
   rw[e1]at N;simp only[xk,xA]at N;subst N;refine⟨u, ?_,U,X.mono F⟩;rw[x8,xN (by show f.length≤t;omega)];have e2:t-f.toArray.toList.length=0:=by show t-f.length=0;omega
   rw[e2];rfl
 refine⟨rfl, ?_⟩;cases J with
 |slNil _ _ _ ao'=>
  have hf0:(Builtin.firstCells i.size 0 (.slice ao' 0 0)).run P w.drew= .ok ([]:List Value).toArray w.drew:=by
   cases ao' with
   |none=>exact A
   |some a=>exact run_firstCells_some (P:=P) w.drew i.size 0 a 0 0 [] (by simp) (by simp)
  have q:=aM (w:=w) t t' ty e i z hu hta hi hiz ao' 0 0 [] hf0 _ 1 [u] hxl hfd (by omega) (by omega) hby;have hge:=grownCap_ge w (0+1) 0 e;have S:=r 0 0 [] rfl;obtain⟨g1,g2⟩:=hrd.newOb k 1 (grownCap w (0+1) 0 e) (es.take 0 ++[C]) _ e S (by simp;omega) (by simpa using hca) (fun _=>by simpa using hla) (by simpa using p [] (Builtin.zeroCells z.cells (grownCap w (0+1) 0 e-(0+1))) [] rfl (by simp) (by simp[AV.flat]));refine⟨_,_,_,q,F.trans g2,g1, ?_⟩;have:=Rep.sl (w:=w.drew.alloc (.cells (([]:List Value).toArray ++[u].toArray ++Builtin.zeroCells z.cells (grownCap w (0+1) 0 e-(0+1))) e)) k ((h k).ver+1) 0 (0+1) (grownCap w (0+1) 0 e) _ (Gh.at_same G k ((h k).ver+1) ⟨w.heap.size,1,grownCap w (0+1) 0 e,0,e⟩) (by simp) (by omega);simpa using this
 |sl _ _ _ _ K L hL hcap hlc=>
  rcases hr.objs k _ hob with ⟨_,hLn⟩|⟨L',hL',h1,h2,h3,h4,h6,h5⟩
  ·rw[hL]at hLn;cases hLn
  ·rw[hL]at hL'
   simp only[xA]at hL';subst hL';obtain⟨hB,⟨arr,e',hb,has⟩,_⟩:=hr.own k L hL;have htc:∀y∈es.take d,y.cells.length=1:=fun y g=>h4 y (xy g)
   have Q:∀y∈es.take d ++[C],y.cells.length=1:=fun y g=>by
    rcases xJ.1 g with g|g
    ·exact htc y g
    ·exact hca y g
   have hlo':(1:Nat)=1→∀y∈es.take d ++[C],y.lone=true:=fun _ y g=>by
    rcases xJ.1 g with g|g
    ·exact h6 rfl y (xy g)
    ·exact hla y g
   have hfl2:(AV.flat (es.take d)).length=d:=by rw[AV.flat,bg _ _ _ htc,V,Nat.mul_one]
   have E:∀(t:Nat)(c:AV),(AV.flat (es.take d))[t]? =some c→∃u:Value,arr[t]? =some u∧u.oneCell'=true∧Rep G w c u:=by
    intro t c N
    have:AV.flat es=AV.flat (es.take d) ++AV.flat (es.drop d):=by
     show List.flatMap _ _=List.flatMap _ _ ++List.flatMap _ _;rw[←yH,List.take_append_drop]
    have I:=(xD.1 N).1;obtain⟨u,D,U,X⟩:=h5 t c (by rw[this,xL I];exact N);exact⟨u,by simpa [World.cell?,hb]using D,U,X⟩
   have hz1:(⟨L.b,0*L.sz,none⟩:Addr)=⟨L.b,0,none⟩:=by simp
   rw[hz1];have hasz:arr.size=L.cap:=by rw[has.1,h1,Nat.mul_one]
   by_cases W:d+1≤K
   ·have O:d*i.size+[u].length≤arr.size:=by rw[o,hasz];simp;omega
    have q:=dC t t' ty e e' i hu hta hi L.b d K arr hb _ 1 [u] (hxl w) hfw (fun y g=>by rw[xH]at g;subst g;exact U) W O;have hseg:=fun s=>gK arr.toList [u] (d*i.size) s (by simpa using O)
    obtain⟨g1,g2⟩:=hr.regrow (es':=es.take d ++[C]) hL h1 h2 hb (arr':=(arr.toList.take (d*i.size) ++[u] ++arr.toList.drop (d*i.size+[u].length)).toArray) (by simp;simp at O;omega) (by simp;omega) Q hlo' (fun s c J=>by
     have n:AV.flat (es.take d ++[C])=AV.flat (es.take d) ++[C]:=by unfold AV.flat;rw[yH];exact congrArg (fun l=>List.flatMap AV.cells _ ++l) hfa
     rw[n]at J;rw[yU,hseg s];by_cases hsl:s<(AV.flat (es.take d)).length
     ·rw[xL hsl]at J
      obtain⟨Y,D,h1',h2'⟩:=E s c J;refine⟨Y, ?_,h1',h2'⟩;rw[xW (by rw[o];omega)];simpa using D
     ·rw[xN (by omega)]at J
      have I:=(xD.1 J).1;simp only[x6,xp]at I;have e1:s-(AV.flat (es.take d)).length=0:=by omega
      rw[e1]at J;simp only[xk,xA]at J;subst J;refine⟨u, ?_,U,X⟩;rw[xi (by rw[o];omega),xW (by rw[o];simp;omega),show s-d*i.size=0 by rw[o];omega];rfl)
    refine⟨_,_,_,q,g2,g1, ?_⟩;have:=Rep.sl (w:=w.setRow L.b (arr.toList.take (d*i.size) ++[u] ++arr.toList.drop (d*i.size+[u].length)).toArray) k ((h k).ver+1) 0 (d+1) K L (Gh.at_same G k ((h k).ver+1) L) hcap W;rw[hz1,h1]at this;exact this
   ·have hfo:(Builtin.firstCells i.size d (.slice (some ⟨L.b,0,none⟩) d K)).run P w.drew= .ok (arr.toList.take (d*i.size)).toArray w.drew:=by
      refine run_firstCells_some (P:=P) w.drew i.size d ⟨L.b,0,none⟩ d K _ ?_ (fun j v hj=> ?_)
      ·have:d*i.size≤arr.size:=by rw[o,hasz];omega
       simp;omega
      ·rw[xl]at hj
       split at hj
       ·rw[bL,xe]
        show w.cell? _=_;simpa [World.cell?,hb]using hj
       ·cases hj
    have M:(arr.toList.take (d*i.size)).length=d:=by
     rw[o];simp;omega
    have q:=aM (w:=w) t t' ty e i z hu hta hi hiz (some ⟨L.b,0,none⟩) d K _ hfo _ 1 [u] hxl hfd (by omega) hle hby;have hge:=grownCap_ge w (d+1) K e;have S:=r d K _ M
    obtain⟨g1,g2⟩:=hrd.newOb k 1 (grownCap w (d+1) K e) (es.take d ++[C]) _ e S (by rw[xZ,V];simp;omega) Q hlo' (p (arr.toList.take (d*i.size)) (Builtin.zeroCells z.cells (grownCap w (d+1) K e-(d+1))) (es.take d) (by rw[M,V]) htc (fun s c J=>by
     obtain⟨Y,D,h1',h2'⟩:=E s c J;have I:=(xD.1 J).1;refine⟨Y, ?_,h1',h2'⟩;rw[xl,xW (by rw[o];omega)];simpa using D))
    refine⟨_,_,_,q,F.trans g2,g1, ?_⟩;have:=Rep.sl (w:=w.drew.alloc (.cells ((arr.toList.take (d*i.size)).toArray ++[u].toArray ++Builtin.zeroCells z.cells (grownCap w (d+1) K e-(d+1))) e)) k ((h k).ver+1) 0 (d+1) (grownCap w (d+1) K e) _ (Gh.at_same G k ((h k).ver+1) ⟨w.heap.size,1,grownCap w (d+1) K e,0,e⟩) (by simp) (by omega);simpa using this
theorem kJ(hr:HR G B w0 I0 h w){t t' ty:TypeId}(hta:lg P t t'=true){s x:AV}{k:Nat}{vs vx:Value}(hs:Rep G w s vs)(hx:Rep G w x vx){out:Out}(q:dy P t s x k h=some out):
    out.ob=[]∧∃v T G',(Builtin.append_ #[t,t'] ty #[vs,vx]).run P w= .ok v T∧Ext G w G' T∧HR G' B w0 I0 (ae h out.wr) T∧Rep G' T out.val v:=by
 unfold dy at q;split at q;case h_2=>cases q
 rename_i e hu;split at q;case h_2=>cases q
 rename_i z kx vx1 offx lenx sz2 hz;split at q;case h_2=>cases q
 rename_i szx C Q;split at q;case isFalse=>cases q
 rename_i hc;obtain⟨rfl,rfl,rfl,rfl,hce,S,Z,E⟩:=hc;simp only[xA]at q;subst q;obtain⟨i,hi,hiz,hsz,X⟩:=gL hz;rw[X]at S;have his:i.size=1:=by rw[←hsz];exact hce
 cases hx with
 |sl _ _ _ _ cx I hLx hcapx hlcx=>
 rcases hr.objs kx _ Q with ⟨h9,_⟩|⟨Lx',p,q1,q2,q3,q4,q6,q5⟩
 ·cases h9
 rw[hLx]at p;simp only[xA]at p;subst p;obtain⟨u,hu0,hu1,W⟩:=q5 0 C (by rw[AV.flat,xm,List.flatMap_nil,AV.cells_lone (AV.isRef_lone E)];rfl);have M:w.cell? ⟨I.b,0,none⟩=some u:=hu0;have hz0:(⟨I.b,0*I.sz,none⟩:Addr)=⟨I.b,0,none⟩:=by simp
 rw[hz0];have hxl:∀D:World,(Builtin.lenOf (.slice (some ⟨I.b,0,none⟩) 1 cx)).run P D= .ok 1 D:=fun D=>by simp[Builtin.lenOf]
 have hf:∀D:World,(∀a,D.cell? a=w.cell? a)→(Builtin.firstCells i.size 1 (.slice (some ⟨I.b,0,none⟩) 1 cx)).run P D= .ok [u].toArray D:=fun D V=>by
  refine run_firstCells_some (P:=P) D i.size 1 ⟨I.b,0,none⟩ 1 cx [u] (by simp[his]) (fun j v Y=> ?_);cases j with
  |zero=>
   rw[bL];simp only[xk,xA]at Y;subst Y;rw[V];exact M
  |succ j=>simp at Y
 have hfw:=hf w (fun _=>rfl);have hfd:=hf w.drew (fun _=>rfl);have o:Ext G w G w.drew:=Ext.drew G w;have hrd:=hr.drew;have g:(Builtin.firstCells i.size 0 (.slice none 0 0)).run P w.drew= .ok ([]:List Value).toArray w.drew:=by simp[Builtin.firstCells]
 have hca:∀y∈[C],y.cells.length=1:=fun y J=>by rw[xH]at J;subst J;rw[AV.cells_lone (AV.isRef_lone E)];rfl
 have U:∀y∈[C],y.lone=true:=fun y J=>by rw[xH]at J;subst J;exact AV.isRef_lone E
 have hfa:AV.flat [C]=[C]:=by rw[AV.flat,xm,List.flatMap_nil,AV.cells_lone (AV.isRef_lone E)];rfl
 have r:∀(f m:Nat)(d:List Value),d.length=f→
     (d.toArray ++[u].toArray ++Builtin.zeroCells z.cells (grownCap w (f+1) m e-(f+1))).size=grownCap w (f+1) m e*1:=by
  intro f m d K;have hge:=grownCap_ge w (f+1) m e;simp only[Array.size_append,nP,Z,List.size_toArray,x6,xp,K];omega
 have n:∀(d:List Value)(H:Array Value)(xs:List AV),d.length=xs.length→(∀y∈xs,y.cells.length=1)→(∀(t:Nat)(c:AV),(AV.flat xs)[t]? =some c→∃u:Value,d[t]? =some u∧u.oneCell'=true∧Rep G w c u)→
     ∀(t:Nat)(c:AV),(AV.flat (xs ++[C]))[t]? =some c→∃L:Value,(d.toArray ++[u].toArray ++H)[t]? =some L∧L.oneCell'=true∧Rep G w.drew c L:=by
  intro d H xs K hxc N t c F;have hfl2:(AV.flat xs).length=xs.length*1:=bg _ _ xs hxc;have A:AV.flat (xs ++[C])=AV.flat xs ++[C]:=by unfold AV.flat;rw[yH];exact congrArg (fun l=>List.flatMap AV.cells _ ++l) hfa
  rw[A]at F;rw[←xX];simp only[Array.toList_append];by_cases htl:t<(AV.flat xs).length
  ·rw[xL htl]at F
   obtain⟨L,hu',h1,h2⟩:=N t c F;have:t<d.length:=by omega
   exact⟨L,by rw[x8,xL (by simpa using this)];exact hu',h1,h2.mono o⟩
  ·rw[xN (by omega)]at F
   have hlt:=(xD.1 F).1;simp only[x6,xp]at hlt;have e1:t-(AV.flat xs).length=0:=by omega
   rw[e1]at F;simp only[xk,xA]at F;subst F;refine⟨u, ?_,hu1,W.mono o⟩;rw[x8,xN (by show d.length≤t;omega)];have e2:t-d.toArray.toList.length=0:=by show t-d.length=0;omega
   rw[e2];rfl
 refine⟨rfl, ?_⟩;cases hs;have O:=aM (w:=w) t t' ty e i z hu hta hi hiz none 0 0 [] g _ 1 [u] hxl hfd (by omega) (by omega) S;have hge:=grownCap_ge w (0+1) 0 e;have R:=r 0 0 [] rfl;obtain⟨g1,g2⟩:=hrd.newOb k 1 (grownCap w (0+1) 0 e) [C] _ e R (by simp;omega) (by simpa using hca) (fun _=>by simpa using U) (by simpa using n [] (Builtin.zeroCells z.cells (grownCap w (0+1) 0 e-(0+1))) [] rfl (by simp) (by simp[AV.flat]));refine⟨_,_,_,O,o.trans g2,g1, ?_⟩;have:=Rep.sl (w:=w.drew.alloc (.cells (([]:List Value).toArray ++[u].toArray ++Builtin.zeroCells z.cells (grownCap w (0+1) 0 e-(0+1))) e)) k ((h k).ver+1) 0 (0+1) (grownCap w (0+1) 0 e) _ (Gh.at_same G k ((h k).ver+1) ⟨w.heap.size,1,grownCap w (0+1) 0 e,0,e⟩) (by simp) (by omega);simpa using this
end
end Go.Avm
namespace Go.Avm
open Go.RowKit
variable[ap]
variable{P:Program}{G:Gh}{B:Nat}{w0 w:World}{I0:Nat→Nat→Prop}{h:aa}
theorem HR.allocAny(a:HR G B w0 I0 h w)(o:Obj):HR G B w0 I0 h (w.alloc o):=
 ⟨a.below.alloc a.bsz _,by have:=a.bsz;simp;omega,fun b o x=>by have:=a.immlt b o x;simp;omega,a.i0,a.immlow,a.fresh,fun d g c=>by
  obtain⟨f,⟨arr',j,h2,e⟩,k⟩:=a.own d g c;exact⟨f,⟨arr',j,(bN (a.blt c)).trans h2,e⟩,k⟩,a.dis,fun d ob i=>(a.objs d ob i).mono (a.le d) (Ext.alloc a o) (fun L l t=>bh (a.blt l)),a.lim,
  a.maps.step (Ext.alloc a o) rfl (fu w _) (fun _=>xO _) (fun _ _ _ _=>rfl)⟩
def Gh.atMap(G:Gh)(k v b:Nat):Gh:={G with mloc:=fun a c=>if a=k∧c=v then some b else G.mloc a c,lim:=aq G.lim k v}
theorem HR.noneMap(a:HR G B w0 I0 h w)(k:Nat):G.mloc k ((h k).ver+1)=none:=by
 cases b:G.mloc k ((h k).ver+1)with
 |none=>rfl
 |some L=>have:=(a.maps.low _ _ _ b).2.2;omega
theorem HR.newFixO(f:HR G B w0 I0 h w)(k:Nat){b:Nat}{oo:Option Ob}{o:Obj}(V:∀o',oo=some o'→o'.flex=false)(hB:B≤b)(s:∀a,a≠k→fa (h a).ob=true→G.mloc a (h a).ver≠some b)(U:iP o=true)(Z:w.heap[b]? =some o)
    (hm:∀es c,oo=some (.map es c)→sx G.imm w b es c) (Y:∀z N env Q Fx O H,oo=some (.lp z N env Q Fx O H)→∃r,w.heap[b]? =some (.loop r)∧LRep G w N env Q Fx O H r)
    (W:∀R J e seen,oo=some (.itr R J e seen)→∃C A D,G.mloc R J=some C∧w.heap[b]? =some (.mapIter (some C) e A D)∧A.toList=seen∧D=e):
    HR (G.atMap k ((h k).ver+1) b) B w0 I0 (aq h k ⟨(h k).ver+1,oo⟩) w∧Ext G w (G.atMap k ((h k).ver+1) b) w:=by
 have E:=f.noneMap k
 have hex:Ext G w (G.atMap k ((h k).ver+1) b) w:=⟨fun _ _ x=>x,fun _ _ _ x=>x,fun _ _ _=>rfl,xO _,fun a=>by
  by_cases d:a=k
  ·subst d;show _≤aq G.lim a _ a;rw[ad,f.lim];omega
  ·show _≤aq G.lim k _ a;rw[ab _ _ d];exact xO _,fun _ _ _ x=>x,fun a l i x=>by
  show(if a=k∧l=(h k).ver+1 then some b else G.mloc a l)=some i;rw[xi (by rintro⟨rfl,rfl⟩;rw[E]at x;cases x)];exact x,cl rfl⟩
 have y:∀a q,G.loc a (aq h k ⟨(h k).ver+1,oo⟩ a).ver=some q→a≠k∧G.loc a (h a).ver=some q:=by
  intro a q F;by_cases d:a=k
  ·subst d;rw[ad]at F;simp only[f.none_next a]at F;cases F
  ·rw[ab _ _ d]at F;exact⟨d,F⟩
 refine⟨⟨f.below,f.bsz,f.immlt,f.i0,f.immlow, ?_,fun a q x=>f.own a q (y a q x).2,fun K L L1 L2 x1 x2=>f.dis K L L1 L2 (y _ _ x1).2 (y _ _ x2).2, ?_,fun a=>by
  by_cases d:a=k
  ·subst d;rw[ad];exact ad _ _ _
  ·rw[ab _ _ d];exact(ab _ _ d).trans (f.lim a), ?_⟩,hex⟩
 ·intro a v q x
  have:=f.fresh a v q x;by_cases d:a=k
  ·subst d;rw[ad];show v≤_+1;omega
  ·rw[ab _ _ d];exact this
 ·intro a X g
  by_cases d:a=k
  ·subst d
   rw[ad]at g ⊢;have p:=V X g;cases X with
   |arr _ _=>cases p
   |typ _ _ _ _=>cases p
   |map _ _=>trivial
   |lp _ _ _ _ _ _ _=>trivial
   |itr _ _ _ _=>trivial
  ·rw[ab _ _ d]at g ⊢
   exact(f.objs a X g).mono (f.le a) hex (fun _ _ _=>rfl)
 ·have t:∀a l i,(G.atMap k ((h k).ver+1) b).mloc a l=some i→(a=k∧l=(h k).ver+1∧i=b)∨G.mloc a l=some i:=by
    intro a l i x
    replace x:(if a=k∧l=(h k).ver+1 then some b else G.mloc a l)=some i:=x
    split at x
    ·rename_i hc;simp only[xA]at x;exact .inl ⟨hc.1,hc.2,x.symm⟩
    ·exact .inr x
  refine⟨fun a l i x=> ?_,fun K L i S T x1 x2=> ?_,fun a es' c' g=> ?_,fun a z N env Q Fx O H g=> ?_,fun a R J e seen g=> ?_,f.maps.glob⟩
  ·rcases t _ _ _ x with ⟨rfl,rfl,rfl⟩|x
   ·exact⟨hB,⟨o,U,Z⟩,by rw[ad];exact xO _⟩
   ·obtain⟨j,h2,u⟩:=f.maps.low _ _ _ x
    refine⟨j,h2, ?_⟩;by_cases d:a=k
    ·subst d;rw[ad];show l≤_+1;omega
    ·rw[ab _ _ d];exact u
  ·rcases t _ _ _ x1 with ⟨g1,g2,g3⟩|m<;>rcases t _ _ _ x2 with ⟨j,h2,u⟩|n
   ·exact g1.trans j.symm
   ·have M:L≠k:=by
      rintro rfl;rw[ad]at n;rw[E]at n;cases n
    rw[ab _ _ M]at n T;exact absurd (g3▸n) (s _ M T)
   ·have I:K≠k:=by
      rintro rfl;rw[ad]at m;rw[E]at m;cases m
    rw[ab _ _ I]at m S;exact absurd (u▸m) (s _ I S)
   ·have I:K≠k:=by
      rintro rfl;rw[ad]at m;rw[E]at m;cases m
    have M:L≠k:=by
     rintro rfl;rw[ad]at n;rw[E]at n;cases n
    rw[ab _ _ I]at m S;rw[ab _ _ M]at n T;exact f.maps.inj _ _ _ S T m n
  ·by_cases d:a=k
   ·subst d
    rw[ad]at g ⊢;exact⟨b,by simp[Gh.atMap],hm _ _ g⟩
   ·rw[ab _ _ d]at g ⊢
    obtain⟨i,j,h2⟩:=f.maps.obj a es' c' g;exact⟨i,hex.mloc _ _ _ j,h2⟩
  ·by_cases d:a=k
   ·subst d
    rw[ad]at g ⊢;obtain⟨r,j,h2⟩:=Y _ _ _ _ _ _ _ g;exact⟨b,r,by simp[Gh.atMap],j,h2.mono hex⟩
   ·rw[ab _ _ d]at g ⊢
    obtain⟨i,r,j,h2,u⟩:=f.maps.loops a z N env Q Fx O H g;exact⟨i,r,hex.mloc _ _ _ j,h2,u.mono hex⟩
  ·by_cases d:a=k
   ·subst d
    rw[ad]at g ⊢;obtain⟨C,A,D,j,h2⟩:=W _ _ _ _ g;exact⟨b,C,A,D,by simp[Gh.atMap],hex.mloc _ _ _ j,h2⟩
   ·rw[ab _ _ d]at g ⊢
    obtain⟨i,C,A,D,j,h2,u⟩:=f.maps.iters a R J e seen g;exact⟨i,C,A,D,hex.mloc _ _ _ j,hex.mloc _ _ _ h2,u⟩
theorem HR.newFix(u:HR G B w0 I0 h w)(k:Nat){b:Nat}{ob:Ob}{o:Obj}(j:ob.flex=false)(t:∀q m a seen,ob≠ .itr q m a seen)(hB:B≤b)(f:∀k v,G.mloc k v≠some b)(l:iP o=true)(n:w.heap[b]? =some o)
    (hm:∀es c,ob= .map es c→sx G.imm w b es c) (s:∀d N env p Fx i g,ob= .lp d N env p Fx i g→∃r,w.heap[b]? =some (.loop r)∧LRep G w N env p Fx i g r):
    HR (G.atMap k ((h k).ver+1) b) B w0 I0 (aq h k ⟨(h k).ver+1,some ob⟩) w∧Ext G w (G.atMap k ((h k).ver+1) b) w:=
 u.newFixO k (oo:=some ob) (fun o' e=>by cases e;exact j) hB (fun _ _ _=>f _ _) l n (fun es c e=>by cases e;exact hm _ _ rfl) (fun d N env p Fx i g e=>by cases e;exact s _ _ _ _ _ _ _ rfl) (fun q m a seen e=>absurd (Option.some.inj e) (t q m a seen))
theorem HR.newMap(g:HR G B w0 I0 h w)(k:Nat){b c:Nat}{es:List (D×D×Nat)}(hB:B≤b)(a:∀k v,G.mloc k v≠some b)(hm:sx G.imm w b es c):
    HR (G.atMap k ((h k).ver+1) b) B w0 I0 (aq h k ⟨(h k).ver+1,some (.map es c)⟩) w∧Ext G w (G.atMap k ((h k).ver+1) b) w:=by
 have d:=hm;obtain⟨i,f,_,_⟩:=hm;exact g.newFix k rfl (fun _ _ _ _ e=>by cases e) hB a (o:= .map i c) rfl f (fun es' c' e=>by cases e;exact d) (fun _ _ _ _ _ _ _ e=>by cases e)
theorem HR.setFix(n:HR G B w0 I0 h w){k b:Nat}{o o':Obj}{ob':Option Ob}(s:fa (h k).ob=true)(A:G.mloc k (h k).ver=some b)(X:w.heap[b]? =some o)(J:iP o=true)(C:iP o'=true)(hbk:ii o=true→eV o o')(hfl:∀x,ob'=some x→x.flex=false)
    (hm:∀es c,ob'=some (.map es c)→sx G.imm (w.putObj b o') b es c) (hlp:∀E N env V Fx U R,ob'=some (.lp E N env V Fx U R)→∃r,(w.putObj b o').heap[b]? =some (.loop r)∧LRep G w N env V Fx U R r)
    (hit:∀W S f seen,ob'=some (.itr W S f seen)→∃H F I,G.mloc W S=some H∧(w.putObj b o').heap[b]? =some (.mapIter (some H) f F I)∧F.toList=seen∧I=f:=by intro _ _ _ _ e;cases e):
    HR G B w0 I0 (aq h k ⟨(h k).ver,ob'⟩) (w.putObj b o')∧Ext G w G (w.putObj b o'):=by
 have D:b<w.heap.size:=(xG.1 X).1;have hB:B≤b:=(n.maps.low _ _ _ A).1
 have y:∀p i,(w.putObj b o').cell? ⟨p,i,none⟩=w.cell? ⟨p,i,none⟩:=by
  intro p i;by_cases d:p=b
  ·subst d
   simp only[World.cell?,World.putObj_heap_same D,X];cases o<;>cases o'<;>first|rfl|(cases J;done)|(cases C;done)
  ·simp only[World.cell?,World.putObj_heap_other d]
 have hex:Ext G w G (w.putObj b o'):=⟨fun _ _ x=>x,fun _ _ _ x=>x,fun p i _=>y p i,by simp,fun _=>xO _,fun _ _ _ x=>x,fun _ _ _ x=>x,fun p T g x=>by
  by_cases K:p=b
  ·subst K
   rw[X]at x;cases x;exact⟨o',World.putObj_heap_same D,hbk g⟩
  ·exact⟨T,by rw[World.putObj_heap_other K];exact x,cn T⟩⟩
 have q:∀a,(aq h k ⟨(h k).ver,ob'⟩ a).ver=(h a).ver:=by
  intro a;by_cases g:a=k
  ·subst g;rw[ad]
  ·rw[ab _ _ g]
 refine⟨⟨n.below.trans ⟨rfl,rfl,rfl,by simp,fun a hk'=>World.putObj_heap_other (by omega)⟩,by simpa using n.bsz,fun b o x=>by simpa using n.immlt b o x,n.i0,n.immlow,fun a v Z x=>by rw[q];exact n.fresh a v Z x,fun a Z x=> ?_,
  fun k1 k2 L1 L2 O Q=>by rw[q]at O Q;exact n.dis k1 k2 L1 L2 O Q,fun a ob j=> ?_,fun a=>by rw[q];exact n.lim a, ?_⟩,hex⟩
 ·rw[q]at x
  obtain⟨u,⟨a1,e1,h2,z⟩,M⟩:=n.own a Z x;exact⟨u,⟨a1,e1,by rw[World.putObj_heap_other (by rintro rfl;rw[X]at h2;cases h2;cases J)];exact h2,z⟩,M⟩
 ·by_cases g:a=k
  ·subst g
   rw[ad]at j ⊢;have:=hfl _ j;cases ob with
   |arr _ _=>cases this
   |typ _ _ _ _=>cases this
   |map _ _=>trivial
   |lp _ _ _ _ _ _ _=>trivial
   |itr _ _ _ _=>trivial
  ·rw[ab _ _ g]at j ⊢
   exact(n.objs a ob j).mono (n.le a) hex (fun L A t=>y _ _)
 ·refine⟨fun a v' p x=> ?_,fun k1 k2 p l1 l2 O Q=> ?_,fun a es1 c1 j=> ?_,fun a E N env V Fx U R j=> ?_,fun a W S f seen j=> ?_,n.maps.glob.mono hex.imm hex.cell⟩
  ·obtain⟨u,⟨T,h2,h2'⟩,z⟩:=n.maps.low _ _ _ x
   refine⟨u, ?_,by rw[q];exact z⟩;by_cases d:p=b
   ·subst d;exact⟨_,C,World.putObj_heap_same D⟩
   ·exact⟨T,h2,by rw[World.putObj_heap_other d];exact h2'⟩
  ·have lv:∀a,fa (aq h k ⟨(h k).ver,ob'⟩ a).ob=true→fa (h a).ob=true:=fun a l=>by
     by_cases g:a=k
     ·subst g;exact s
     ·rw[ab _ _ g]at l;exact l
   rw[q]at O Q;exact n.maps.inj _ _ _ (lv _ l1) (lv _ l2) O Q
  ·by_cases g:a=k
   ·subst g
    rw[ad]at j ⊢;exact⟨b,A,hm _ _ j⟩
   ·rw[ab _ _ g]at j ⊢
    obtain⟨p,u,Y,h2,z,M⟩:=n.maps.obj a es1 c1 j
    have d:p≠b:=by
     rintro rfl;exact g (n.maps.inj _ _ _ (by rw[j];rfl) s u A)
    exact⟨p,u,Y,by rw[World.putObj_heap_other d];exact h2,z,fun i e m he hm=>by
     obtain⟨g1,g2,g3⟩:=M i e m he hm;exact⟨g1.mono hex.imm hex.cell,g2.mono hex.imm hex.cell,g3⟩⟩
  ·by_cases g:a=k
   ·subst g
    rw[ad]at j ⊢;obtain⟨r,u,h2⟩:=hlp _ _ _ _ _ _ _ j;exact⟨b,r,A,u,h2.mono hex⟩
   ·rw[ab _ _ g]at j ⊢
    obtain⟨p,r,u,h2,z⟩:=n.maps.loops a E N env V Fx U R j
    have d:p≠b:=by
     rintro rfl;exact g (n.maps.inj _ _ _ (by rw[j];rfl) s u A)
    exact⟨p,r,u,by rw[World.putObj_heap_other d];exact h2,z.mono hex⟩
  ·by_cases g:a=k
   ·subst g
    rw[ad]at j ⊢;obtain⟨H,F,I,u,h2⟩:=hit _ _ _ _ j;exact⟨b,H,F,I,A,u,h2⟩
   ·rw[ab _ _ g]at j ⊢
    obtain⟨p,H,F,I,u,h2,z,M⟩:=n.maps.iters a W S f seen j
    have d:p≠b:=by
     rintro rfl;exact g (n.maps.inj _ _ _ (by rw[j];rfl) s u A)
    exact⟨p,H,F,I,u,h2,by rw[World.putObj_heap_other d];exact z,M⟩
theorem HR.setMap(r:HR G B w0 I0 h w){k b c c':Nat}{s ms':Array MapEntry}{es':List (D×D×Nat)}(d:fa (h k).ob=true)(v:G.mloc k (h k).ver=some b)(o:w.heap[b]? =some (.map s c))(n:ms'.size=es'.length)
    (g:∀(i:Nat)(e:D×D×Nat)(m:MapEntry),es'[i]? =some e→ms'[i]? =some m→DRep G.imm w e.1 m.key∧DRep G.imm w e.2.1 m.val∧m.born=e.2.2):
    HR G B w0 I0 (aq h k ⟨(h k).ver,some (.map es' c')⟩) (w.putObj b (.map ms' c'))∧Ext G w G (w.putObj b (.map ms' c')):=by
 have j:b<w.heap.size:=(xG.1 o).1;refine r.setFix d v o rfl rfl (fun x=>by cases x) (fun x e=>by cases e;rfl) (fun es c e=> ?_) (fun _ _ _ _ _ _ _ e=>by cases e);cases e
 have a:∀l i,(w.putObj b (.map ms' c')).cell? ⟨l,i,none⟩=w.cell? ⟨l,i,none⟩:=by
  intro l i;by_cases f:l=b
  ·subst f
   simp only[World.cell?,World.putObj_heap_same j,o]
  ·simp only[World.cell?,World.putObj_heap_other f]
 exact⟨ms',World.putObj_heap_same j,n,fun i e m u hm=>by
  obtain⟨p,t,q⟩:=g i e m u hm;exact⟨p.mono (fun _ _ x=>x) (fun _ _ _=>a _ _),t.mono (fun _ _ x=>x) (fun _ _ _=>a _ _),q⟩⟩
theorem kK(d:HR G B w0 I0 h w){k:Nat}{t:TypeId}{out:Out}(l:c6 k h=some out):
    out.ob=[]∧∃v a g,(Instr.makeMap t none).run P w= .ok v a∧Ext G w g a∧HR g B w0 I0 (ae h out.wr) a∧Rep g a out.val v:=by
 simp only[c6,xA]at l;subst l;have j:=d.allocAny (.map #[] 0);have n:=Ext.alloc d (.map #[] 0)
 obtain⟨f,p⟩:=j.newMap k (b:=w.heap.size) (c:=0) (es:=[]) d.bsz (fun k v x=>by
  obtain⟨_,⟨o,_,h2⟩,_⟩:=d.maps.low _ _ _ x;have:=(xG.1 h2).1;omega) ⟨#[],heap_alloc_new w _,rfl,fun i e m q=>by simp at q⟩
 exact⟨rfl,_,_,_,rfl,n.trans p,f, .mp _ _ _ (by simp[Gh.atMap])⟩
theorem HR.marked(d:HR G B w0 I0 h w){b:Nat}{C:Array Value}{e:TypeId}{fz fz':Nat×Nat}(q:w.heap[b]? =some (.cells C e fz))(hB:B≤b)(t:∀k L,G.loc k (h k).ver=some L→L.b≠b){j:World}
    (n:j={w with heap:=w.heap.setIfInBounds b (.cells C e fz')}):HR G B w0 I0 h j∧Ext G w G j:=by
 have s:=(xG.1 q).1
 have a:∀i,i≠b→j.heap[i]? =w.heap[i]? :=fun i y=>by
  subst n;show(w.heap.setIfInBounds b _)[i]? =_;rw[Array.getElem?_setIfInBounds_ne (Ne.symm y)]
 have m:j.heap[b]? =some (.cells C e fz'):=by
  subst n;show(w.heap.setIfInBounds b _)[b]? =_;rw[Array.getElem?_setIfInBounds_self_of_lt s]
 have f:∀p:Addr,j.cell? p=w.cell? p:=fun p=>by
  unfold World.cell?;by_cases hp:p.block=b
  ·rw[hp,m,q]
  ·rw[a _ hp]
 have g:j.heap.size=w.heap.size:=by subst n;show(w.heap.setIfInBounds b _).size=_;simp
 have hex:Ext G w G j:=⟨fun _ _ x=>x,fun _ _ _ x=>x,fun _ _ _=>f _,by rw[g];exact xO _,fun _=>xO _,fun _ _ _ x=>x,fun _ _ _ x=>x,fun z o v x=>by
  have l:z≠b:=by
   rintro rfl;rw[q]at x;cases x;cases v
  exact⟨o,by rw[a _ l];exact x,cn o⟩⟩
 refine⟨⟨?_,by rw[g];exact d.bsz,fun b o x=>by rw[g];exact d.immlt b o x,d.i0,d.immlow,d.fresh,fun k L u=> ?_,d.dis,fun k ob E=>(d.objs k ob E).mono (d.le k) hex (fun _ _ _=>f _),d.lim, ?_⟩,hex⟩
 ·exact d.below.trans ⟨by subst n;rfl,by subst n;rfl,by subst n;rfl,by rw[g];exact xO _,fun k v=>a k (by omega)⟩
 ·obtain⟨H,⟨arr,F,h2,A⟩,D⟩:=d.own k L u
  exact⟨H,⟨arr,F,by rw[a _ (t k L u)];exact h2,A⟩,D⟩
 ·exact d.maps.step hex rfl (fun c o r x=>by
    have l:c≠b:=by
     rintro rfl;rw[q]at x;cases x;cases r
    rw[a _ l];exact x) (fun _=>xO _) (fun _ _ _ _=>rfl)
theorem jN(s:HR G B w0 I0 h w){n dst:TypeId}{x:AV}{U:Value}(H:Rep G w x U){out:Out}(c:b7 P n dst x h=some out):
    out.ob=[]∧∃v t K,(convert n dst U).run P w= .ok v t∧Ext G w K t∧HR K B w0 I0 (ae h out.wr) t∧Rep K t out.val v:=by
 unfold b7 at c;split at c;case h_2=>cases c
 rename_i e k v y l Z;split at c;case isFalse=>cases c
 rename_i hc;obtain⟨rfl,hv⟩:=hc;split at c;case h_2=>cases c
 rename_i M;simp only[xA]at c;subst c;generalize R:(1:Nat)=sz at H;generalize q:y::l=ll at H;cases H with
 |vecNil=>cases q
 |vec _ _ _ L T X V S p=>
 subst q;subst hv;obtain⟨hB,⟨arr,et,z,W⟩,_⟩:=s.own k L T;have j:=s.kill [k];have m:=Ext.froz s [k]
 have N:∀g r,(G.froz h [k]).loc g ((ae h (kill h [k])) g).ver=some r→r.b≠L.b:=fun g r F I=>by
  have a:G.loc g ((ae h (kill h [k])) g).ver=some r:=F;rw[aN]at a;by_cases u:g∈[k]
  ·rw[xW u]at a
   have A:g=k:=by simpa using u
   subst A;have:=s.fresh _ _ _ a;simp at this;omega
  ·rw[xi u]at a
   have:=s.dis g k r L a T I;subst this;exact u (by simp)
 obtain⟨J,f⟩:=j.marked (b:=L.b) (C:=arr) (e:=et) (fz:=(0,0)) (fz':=(arr.size,arr.size+1)) z hB N rfl;refine⟨rfl, .slice (some ⟨L.b,0,none⟩) (y::l).length L.cap,_,_, ?_,m.trans f,J, .d ?_⟩
 ·have Q:w.shape? L.b=some (et,arr.size):=by unfold World.shape?;rw[z]
  have E:w.freeze ⟨L.b,arr.size,none⟩ 1={w with heap:=w.heap.setIfInBounds L.b (.cells arr et (arr.size,arr.size+1))}:=by
   unfold World.freeze;rw[xi (by decide)];congr 1;have Y:=(xG.1 z).1;apply Array.ext
   ·simp
   ·intro i h1 h2
    simp only[Array.getElem_modify,Array.getElem_setIfInBounds];split
    ·rename_i D
     subst D;have:w.heap[L.b]= .cells arr et (0,0):=(xG.1 z).2;simp[this]
    ·rename_i D
     rw[Array.getElem_setIfInBounds_ne _ D]
  simp[convert,run_underlying Z,run_underlying M,markStringish,Q];exact E
 ·exact p.mono (fun b o x=> .inl x) (fun b o O=>f.cell b o (.inl O))
theorem qj(j:HR G B w0 I0 h w){k:Nat}{L:nG}(l:G.loc k (h k).ver=some L):∀c d,(G.froz h [k]).loc c ((ae h (kill h [k])) c).ver=some d→d.b≠L.b:=fun c d i g=>by
 have a:G.loc c ((ae h (kill h [k])) c).ver=some d:=i;rw[aN]at a;by_cases e:c∈[k]
 ·rw[xW e]at a
  have f:c=k:=by simpa using e
  subst f;have:=j.fresh _ _ _ a;simp at this;omega
 ·rw[xi e]at a
  have:=j.dis c k d L a l g;subst this;exact e (by simp)
theorem kl:∀{l:List D}{b:List UInt8},li l=some b→l=b.map fY
 |[],b,h=>by simp only[li,xA]at h;subst h;rfl
 |x::r,b,h=>by
  unfold li at h;split at h
  ·rename_i a;cases a
  ·rename_i n e a
   cases a;split at h
   ·rename_i c
    simp only[xB]at h;obtain⟨f,d,rfl⟩:=h;rw[kl d,xI,fY,←c]
   ·cases h
  ·cases h
theorem sD{w:World}{b n:Nat}{arr:Array Value}{e:TypeId}(c:w.heap[b]? =some (.cells arr e (0,0)))(d:n≠0):w.freeze ⟨b,0,none⟩ n={w with heap:=w.heap.setIfInBounds b (.cells arr e (0,0+n))}:=by
 unfold World.freeze;rw[xi d];congr 1;have f:=(xG.1 c).1;apply Array.ext
 ·simp
 ·intro i g h2
  simp only[Array.getElem_modify,Array.getElem_setIfInBounds];split
  ·rename_i a
   subst a;have:w.heap[b]= .cells arr e (0,0):=(xG.1 c).2;simp[this]
  ·rename_i a
   rw[Array.getElem_setIfInBounds_ne _ a]
theorem gh(E:HR G B w0 I0 h w){Q it ty:TypeId}{x n:AV}{vx vn:Value}(hx:Rep G w x vx)(M:Rep G w n vn){out:Out}(g:bT P Q x n h=some out):
    out.ob=[]∧∃v K V,(Builtin.unsafeString_ #[Q,it] ty #[vx,vn]).run P w= .ok v K∧Ext G w V K∧HR V B w0 I0 (ae h out.wr) K∧Rep V K out.val v:=by
 unfold bT at g;split at g;case h_2=>cases g
 rename_i u k v l m hu;split at g;case h_2=>cases g
 rename_i T b F hb;split at g;case isFalse=>cases g
 rename_i hc;obtain⟨hv,rfl,q,rfl,N,S⟩:=hc;simp only[xA]at g;subst g;subst hv;cases M with
 |d M=>
 cases M;cases hx with
 |vp _ _ _ L Y h1 I hd=>
 have X:=(eN E F L Y).1;obtain⟨hB,⟨arr,et,t,H,O⟩,_⟩:=E.own k L Y;have J:=kl hb;have f:l.length=b.length:=by rw[J,xV]
 have hf:D.flat l=l:=by
  rw[J];unfold D.flat;generalize b=bs;induction bs with
  |nil=>rfl
  |cons a r ih=>simp only[xI,xm,ih];rfl
 have s:∀j x,b[j]? =some x→w.cell? ((⟨L.b,0,none⟩:Addr).add j)=some (.int .u8 x.toNat):=by
  intro j x hj;have hg:(D.flat l)[j]? =some (fY x):=by rw[hf,J,xK,hj];rfl
  generalize W:(Value.slice (some ⟨L.b,0,none⟩) l.length L.cap)=vv at hd;cases hd with
  |roNil=>exact absurd rfl q
  |ro _ bb o c sz U hcap hsz h1' hi Z hrr=>
   cases W;have h2:=Z j _ hg;have h3:=hrr j _ hg;generalize U j=uu at h2 h3;cases h3;rw[bL];exact h2
 have p:=E.kill [k];have y:=Ext.froz E [k];have hsh:w.shape? L.b=some (T,arr.size):=by unfold World.shape?;rw[t,O,X]
 have z:b≠[]:=by rintro rfl;exact q (by rw[J];rfl)
 have i:=Lib.run_unsafeString_row (P:=P) w Q it ty T hu N L.b arr.size hsh b z (by rw[H,h1,Nat.mul_one,←f];exact I) (by rw[←f];exact S) s;rw[sD t (by rw[←f];intro h0;exact q (xQ h0))]at i;obtain⟨R,A⟩:=p.marked (b:=L.b) (C:=arr) (e:=et) (fz:=(0,0)) (fz':=(0,0+b.length)) t hB (qj E Y) rfl;rw[f];exact⟨rfl,_,_,_,i,y.trans A,R, .d (.str _ _ (by simp))⟩
theorem i5{x y:AV}{g:Value}(f:Rep G w x g)(a:f0 x=some y)(j:Array TypeId)(ty:TypeId):∃v,(Builtin.unsafeSliceData_ j ty #[g]).run P w= .ok v w∧Rep G w y v:=by
 unfold f0 at a;split at a
 ·rename_i k v sz z l
  split at a
  ·rename_i m
   simp only[xA]at a;subst a;generalize c:z::l=p at f;cases f with
   |vecNil=>cases c
   |vec _ _ _ L o n b i e=>
   subst c;exact⟨_,Lib.run_unsafeSliceData_row w j ty _ _ _ (by simp at b;omega), .vp k v _ L o m b e⟩
  ·cases a
 ·simp only[xA]at a
  subst a;cases f;exact⟨_,rfl, .d .nilp⟩
 ·cases a
theorem kL(A:HR G B w0 I0 h w){r dst:TypeId}{x:AV}{K:Value}(J:Rep G w x K){out:Out}(a:c4 P r dst x h=some out):
    out.wr=[]∧∃v,(convert r dst K).run P w= .ok v w∧Rep G w out.val v:=by
 unfold c4 at a;split at a
 ·rename_i t k v i e sz F E
  split at a
  ·rename_i T n c
   split at a
   ·rename_i I
    obtain⟨H,m,l,M⟩:=I;simp only[xA]at a;subst a;subst H;cases J with
    |ptr _ _ _ _ L g=>
    obtain⟨y,C⟩:=eN A c L g;obtain⟨hB,⟨arr,et,p,d,s⟩,_⟩:=A.own k L g;have o:w.shape? L.b=some (et,arr.size):=by unfold World.shape?;rw[p]
    have z:¬(arr.size≤i*L.sz+e):=by rw[d,C n rfl];omega
    unfold bp at m;unfold Program.cellsOf at l;cases q:P.info? t with
    |none=>rw[q]at m;cases m
    |some j=>
     rw[q]at l;have N:j.size≠0:=l;exact⟨rfl,_,by simp[convert,run_underlying F,run_underlying E,Conv.unsafePointer,Conv.seenAt,viewAt,cellsIn,o,sizeOf,typeInfo,q,N,z], .ptr k _ i e L g⟩
   ·cases a
  ·cases a
 ·rename_i u k v i e sz F E
  split at a
  ·rename_i T n c
   split at a
   ·rename_i I
    obtain⟨H,m,f⟩:=I;simp only[xA]at a;subst a;subst H;cases J with
    |ptr _ _ _ _ L g=>
    obtain⟨y,C⟩:=eN A c L g;obtain⟨hB,⟨arr,et,p,d,s⟩,_⟩:=A.own k L g;have D:arr.size=n:=by rw[d,C n rfl]
    have o:w.shape? L.b=some (T,n):=by unfold World.shape?;rw[p,←D,←y,←s]
    unfold bp at m;cases q:P.info? u with
    |none=>rw[q]at m;cases m
    |some j=>
     exact⟨rfl,_,by simp[convert,run_underlying F,run_underlying E,Conv.unsafePointer,Conv.seenAt,viewAt,o,variablesAt,f,sizeOf,typeInfo,q], .ptr k _ i e L g⟩
   ·cases a
  ·cases a
 ·cases a
theorem i6{t:TypeId}{x y:AV}{b:Value}(c:Rep G w x b)(a:f3 P t x=some y):∃v,(Instr.makeInterface t b).run P w= .ok v w∧Rep G w y v:=by
 unfold f3 at a;split at a
 ·cases a
 ·rename_i d e f
  simp only[xA]at a;subst a;refine⟨.iface t b, ?_, .iv t b c⟩;simp only[Instr.makeInterface,Sem.run_bind,run_underlying f,Result.andThen_ok];rfl
 ·cases a
theorem ly{xT t:TypeId}{ok:Bool}{x y:AV}{q:Value}(m:Rep G w x q)(e:lj P t ok x=some y):∃v,(Instr.typeAssert q xT t ok).run P w= .ok v w∧Rep G w y v:=by
 have f:∀(a:AV)(u:Value)(b:Bool),Rep G w a u→Rep G w (.tup [a, .d (.bool b)]) (.tuple #[u, .bool b]):=fun a u b r=> .tup _ _ rfl fun i c v p l=>by
  match i with
  |0=>cases p;cases l;exact r
  |1=>cases p;cases l;exact .d (.bool b)
  |i+2=>simp at p
 unfold lj at e;split at e
 ·cases e
 ·rename_i d s z n k
  cases m with
  |iv _ v l=>
  split at e
  ·rename_i j
   subst j;simp only[xA]at e;subst e;cases ok
   ·exact⟨v,by simp[Instr.typeAssert,run_underlying k],l⟩
   ·exact⟨_,by simp[Instr.typeAssert,run_underlying k],f _ _ _ l⟩
  ·rename_i j
   split at e
   ·rename_i g
    subst g;simp only[xB]at e;obtain⟨z,o,rfl⟩:=e;exact⟨_,by simp[Instr.typeAssert,run_underlying k,j,bw o],f _ _ _ (iW _)⟩
   ·cases e
 ·rename_i d n k
  cases m with
  |d m=>
  cases m;split at e
  ·rename_i g
   subst g;simp only[xB]at e;obtain⟨z,o,rfl⟩:=e;exact⟨_,by simp[Instr.typeAssert,run_underlying k,bw o],f _ _ _ (iW _)⟩
  ·cases e
 ·cases e
theorem i7(L:HR G B w0 I0 h w){i dst:TypeId}{x:AV}{A:Value}(k:Rep G w x A){out:Out}(j:fX P i dst x=some out):
    out.ob=[]∧∃v p m,(convert i dst A).run P w= .ok v p∧Ext G w m p∧HR m B w0 I0 (ae h out.wr) p∧Rep m p out.val v:=by
 unfold fX at j;split at j;case h_2=>cases j
 rename_i e s y z;split at j;case h_2=>cases j
 rename_i r;simp only[xA]at j;subst j;cases k with
 |d k=>
 cases k with
 |str _ f J=>
 subst J;have o:=run_bytes_of_string (P:=P) w i dst e f y z r;have n:=grownCap_ge w f.size 0 e;have g:(f.data.toList.map fun b=>D.int .u8 (b.toNat:Int)).length=f.size:=by simp
 obtain⟨m,K,H,E⟩:=L.drew.newImm (f.data.toList.map fun b=>D.int .u8 (b.toNat:Int)) 1 (grownCap w f.size 0 e) (bytesRow f (grownCap w f.size 0 e)) e
  (fz:=((bytesRow f (grownCap w f.size 0 e)).size,(bytesRow f (grownCap w f.size 0 e)).size+1)) (by rw[g];exact n) (fun x k=>by
   obtain⟨b,_,rfl⟩:=xf.1 k;rfl) (fun t c u=>by
   have F:D.flat (f.data.toList.map fun b=>D.int .u8 (b.toNat:Int))=f.data.toList.map fun b=>D.int .u8 (b.toNat:Int):=by
    unfold D.flat;generalize f.data.toList=l;induction l with
    |nil=>rfl
    |cons a l I=>simp only[xI,xm,I];rfl
   rw[F]at u;simp only[xK,xX,xB]at u;obtain⟨b,C,rfl⟩:=u;have q:t<f.data.size:=(xG.1 C).1;refine⟨.int .u8 b.toNat, ?_,rfl, .int _ _⟩;unfold bytesRow;rw[yA (by simpa using q),yb,C];rfl)
 rw[g]at E;exact⟨rfl,_,_,m,o,(Ext.drew G w).trans H,K, .d E⟩
theorem kn:∀{l:List D}{b:List UInt8},ik l=some b→∃c:List Int,l=c.map (D.int .u8)∧b=c.map fun n=>UInt8.ofNat n.toNat
 |[],b,h=>by
  simp only[ik,xA]at h;subst h;exact⟨[],rfl,rfl⟩
 |x::r,b,h=>by
  unfold ik at h;split at h
  ·rename_i a;cases a
  ·rename_i n e a
   cases a;simp only[xB]at h;obtain⟨f,d,rfl⟩:=h;obtain⟨c,rfl,rfl⟩:=kn d;exact⟨n::c,rfl,rfl⟩
  ·cases h
theorem o6:∀(a:List Int)(r:ByteArray),(a.foldl (fun r n=>r.push (UInt8.ofNat n.toNat)) r).data.toList=r.data.toList ++a.map fun n=>UInt8.ofNat n.toNat
 |[],r=>by simp
 |n::a,r=>by
  rw[List.foldl_cons,o6 a];simp[ByteArray.push]
theorem kM{f dst:TypeId}{x y:AV}{F:Value}(t:Rep G w x F)(q:jL P f dst x=some y):∃v,(convert f dst F).run P w= .ok v w∧Rep G w y v:=by
 have A:∀(e:TypeId)(l:List D)(b:List UInt8),P.underlying f=some (.slice e)→P.underlying dst=some .string→P.underlying e=some (.int .u8)→ik l=some b→DRep G.imm w (.ro l) F→∃v,(convert f dst F).run P w= .ok v w∧Rep G w (.d (.str b)) v:=by
  intro e l b m p g C R;obtain⟨r,z,rfl⟩:=kn C;cases R with
  |roNil K c=>
   have I:r=[]:=by cases r with|nil=>rfl|cons a b=>simp at z
   subst I;refine⟨.string ByteArray.empty, ?_, .d (.str _ _ rfl)⟩;rw[run_convert_bytes_string w f dst e K 0 c m g p];cases K with
   |none=>rfl
   |some a=>
    rw[run_bytesToString w a 0 c [] (by simpa using run_loadCells_list (P:=P) (w:=w) a [] (fun j v E=>by simp at E))];rfl
  |ro _ H o c sz U L O X W V T=>
   subst z
   have Q:D.flat (r.map (D.int .u8))=r.map (D.int .u8):=by
    unfold D.flat;generalize r=l;induction l with
    |nil=>rfl
    |cons a l S=>simp only[xI,xm,S];rfl
   have J:=run_loadCells_list (P:=P) (w:=w) ⟨H,o,none⟩ (r.map (Value.int .u8)) (fun j v E=>by
    rw[xK,xB]at E;obtain⟨n,N,rfl⟩:=E;have M:(D.flat (r.map (D.int .u8)))[j]? =some (.int .u8 n):=by rw[Q,xK,N];rfl
    have i:=V j _ M;have s:=T j _ M;generalize U j=u at i s;cases s;rw[show(⟨H,o,none⟩:Addr).add j=⟨H,o+j,none⟩ by simp[Addr.add]];exact i)
   simp only[xV]at J ⊢;refine⟨_,(run_convert_bytes_string w f dst e _ _ c m g p).trans (run_bytesToString w _ r.length c r J), .d (.str _ _ ?_)⟩;rw[o6];rfl
 unfold jL at q;split at q;case h_2=>cases q
 rename_i e m p;split at q
 ·rename_i l g
  simp only[xB]at q;obtain⟨b,C,rfl⟩:=q;cases t with
  |d t=>exact A e l b m p g C t
 ·rename_i k v sz l g
  simp only[xB]at q;obtain⟨b,C,rfl⟩:=q;cases t.frz with
  |d t=>exact A e l b m p g C t
 ·cases q
theorem ko{imm:Nat→Nat→Prop}{w:World}{x y:D}{u v:Value}(z:DRep imm w x u)(r:DRep imm w y v){b:Bool}(h:fK x y=some b){t:TypeId}(l:x.one=true)(j:fd P t x=true):
    ∃d,P.underlying t=some d∧Instr.sameNow d u v=some b∧(b=true→Instr.sameBits 10000 v u=true):=by
 unfold fK at h;split at h
 ·rename_i k a F C
  split at h
  ·rename_i p
   subst p;simp only[xA]at h;subst h;cases z;cases r;unfold fd at j;split at j
   ·rename_i E H n o c
    cases c;refine⟨_,o,by simp[Instr.sameNow],fun g=> ?_⟩;simp only[yL]at g;subst g;simp[Instr.sameBits]
   ·rename_i c;cases c
   ·rename_i c;cases c
   ·cases j
  ·cases h
 ·rename_i a C
  simp only[xA]at h;subst h;cases z with
  |str _ f A=>
  cases r with
  |str _ i g=>
  subst A;subst g;unfold fd at j;split at j
  ·rename_i c;cases c
  ·rename_i s o c
   have q:(f==i)=(f.data.toList==i.data.toList):=by
    show(f.data==i.data)=_;by_cases m:f.data=i.data
    ·rw[m];simp
    ·have:f.data.toList≠i.data.toList:=fun e=>m (yk.1 e)
     simp[m,this]
   refine⟨_,o,by simp only[Instr.sameNow,q],fun g=> ?_⟩;simp only[yL]at g
   have:f=i:=by
    cases f;cases i;simp only at g;rw[yk.1 g]
   subst this;simp[Instr.sameBits];show(f.data==f.data)=true;simp
  ·rename_i c;cases c
  ·cases j
 ·cases l
 ·cases h
theorem kp{imm:Nat→Nat→Prop}{w:World}{x:D}{u:Value}(p:DRep imm w x u){t:TypeId}(a:x.one=true)(k:fd P t x=true):∀(es:List (D×D×Nat))(g:List MapEntry)(n:Nat){r:Option (Nat×D)},g.length=es.length→
    (∀(i:Nat)(e:D×D×Nat)(m:MapEntry),es[i]? =some e→g[i]? =some m→DRep imm w e.1 m.key∧DRep imm w e.2.1 m.val∧m.born=e.2.2)→bJ x es n=some r→
    ∃d,P.underlying t=some d∧match r with
     |none=>Instr.findNow d u g n=some none
     |some (j,y)=>∃v,Instr.findNow d u g n=some (some (j,v))∧DRep imm w y v∧n≤j∧∃m,g[j-n]? =some m∧Instr.sameBits 10000 m.key u=true
 |[],g,n,r,l,_,h=>by
  simp only[bJ,xA]at h;subst h;have:g=[]:=List.length_eq_zero_iff.1 l;subst this;unfold fd at k;split at k
  ·rename_i S O nn f;exact⟨_,f,rfl⟩
  ·rename_i T f;exact⟨_,f,rfl⟩
  ·cases a
  ·cases k
 |e::C,[],n,r,l,_,h=>by simp at l
 |e::C,m::F,n,r,l,c,h=>by
  obtain⟨E,H,U⟩:=c 0 e m rfl rfl;simp only[bJ]at h;split at h
  ·rename_i q
   simp only[xA]at h;subst h;obtain⟨d,f,b,z⟩:=ko p E q a k;exact⟨d,f,m.val,by simp[Instr.findNow,b],H,xO _,m,by simp,z rfl⟩
  ·rename_i q
   obtain⟨d,f,b,_⟩:=ko p E q a k;obtain⟨R,o,s⟩:=kp p a k C F (n+1) (by simpa using l) (fun i L A I hm=>c (i+1) L A (by simpa using I) (by simpa using hm)) h;rw[f]at o;cases o;refine⟨d,f, ?_⟩;cases r with
   |none=>simp only at s ⊢;simp[Instr.findNow,b,s]
   |some K=>
    obtain⟨j,y⟩:=K;obtain⟨v,N,h2,Q,A,J,M⟩:=s;refine⟨v,by simp[Instr.findNow,b,N],h2,by omega,A, ?_,M⟩;rw[show j-n=(j-(n+1))+1 by omega];simpa using J
  ·cases h
theorem kq:∀(xs ys:List D),cW xs ys=some true→xs=ys∧∀x∈xs,∃k a,x= .int k a
 |[],[],_=>⟨rfl,by simp⟩
 | .int k a::r, .int i b::q,h=>by
  simp only[cW]at h;split at h
  ·rename_i f
   simp only[xB,xU,y6]at h;obtain⟨t,g,c,rfl⟩:=h;obtain⟨e,h2⟩:=kq r q g;subst f;subst c;subst e
   exact⟨rfl,fun x d=>by
    rcases xR.1 d with rfl|d
    ·exact⟨_,_,rfl⟩
    ·exact h2 x d⟩
  ·cases h
 |[],_::_,h=>by simp[cW]at h
 |x::r,[],h=>by cases x<;>simp[cW]at h
 | .int _ _::_, .bool _::_,h| .int _ _::_, .str _::_,h| .int _ _::_, .agg _::_,h| .int _ _::_, .ro _::_,h| .int _ _::_, .rp _::_,h| .int _ _::_, .nilp::_,h| .int _ _::_, .nili::_,h| .int _ _::_, .ifc::_,h=>by simp[cW]at h
 | .bool _::_,_::_,h| .str _::_,_::_,h| .agg _::_,_::_,h| .ro _::_,_::_,h| .rp _::_,_::_,h| .nilp::_,_::_,h| .nili::_,_::_,h| .ifc::_,_::_,h=>by simp[cW]at h
theorem kr:∀(fs:List Field)(i:Nat)(xs ys:List D)(b:Bool),bU P fs i xs=true→cW xs ys=some b→bF P fs i xs ys=some b
 |[],i,[],ys,b,_,h=>by
  cases ys with
  |nil=>simpa [cW,bF]using h
  |cons=>simp[cW]at h
 |[],i,x::xs,ys,b,c,_=>by simp[bU]at c
 |f::fs,i,[],ys,b,c,_=>by simp[bU]at c
 |f::fs,i, .int k a::xs,ys,b,c,h=>by
  simp only[bU,xU,y6,yL]at c;obtain⟨⟨j,h2,g,d⟩,n⟩:=c;split at d;case h_2=>cases d
  rename_i q m;simp only[y6]at d;subst d;cases ys with
  |nil=>simp[cW]at h
  |cons y ys=>
   cases y with
   |int p r=>
    simp only[cW]at h;split at h
    ·rename_i e
     subst e;simp only[xB]at h;obtain⟨t,l,rfl⟩:=h;have o:=kr fs (i+1) xs ys t n l;simp only[bF,j,h2,g,ne_eq,not_false_eq_true,and_self,xz,oS,m,o];rfl
    ·cases h
   |_=>simp[cW]at h
 |f::fs,i, .bool _::xs,ys,b,c,_|f::fs,i, .str _::xs,ys,b,c,_|f::fs,i, .agg _::xs,ys,b,c,_|f::fs,i, .ro _::xs,ys,b,c,_|f::fs,i, .rp _::xs,ys,b,c,_|f::fs,i, .nilp::xs,ys,b,c,_|f::fs,i, .nili::xs,ys,b,c,_|f::fs,i, .ifc::xs,ys,b,c,_=>by simp[bU]at c
theorem m7{imm:Nat→Nat→Prop}{w:World}{xs:List D}{y:D}{u v:Value}(K:DRep imm w (.agg xs) u)(H:DRep imm w y v){b:Bool}(h:fK (.agg xs) y=some b){t:TypeId}(n:fd P t (.agg xs)=true):
    (Op.equal t u v).run P w= .ok b w∧(b=true→Instr.sameBits 10000 v u=true):=by
 cases y with
 |agg ys=>
  have h:cW xs ys=some b:=h;cases K with
  |agg _ vs C R f=>
  cases H with
  |agg _ g q L c=>
  unfold fd at n;split at n
  ·rename_i o;cases o
  ·rename_i o;cases o
  ·rename_i fs M F o
   cases o;simp only[xU,yL]at n;have E:P.fieldsOf t=fs:=by unfold Program.fieldsOf;rw[F]
   constructor
   ·show(Op.equalIn 10000 t (.agg vs) (.agg g)).run P w= .ok b w
    rw[show(10000:Nat)=9999+1 from rfl,run_equalIn_struct w 9999 t vs g (by rw[E];exact F) n.1,E];refine dX (I:=imm) 9998 vs g fs.toList 0 xs ys b (kr _ _ _ _ _ n.2 h) (fun j x r=> ?_) (fun j x r=> ?_)
    ·have m:j<vs.size:=by rw[C];exact(xD.1 r).1
     have:vs[j]? =some vs[j]:=xF m;exact⟨_,by rw[xe];exact this,f j x _ r this⟩
    ·have m:j<g.size:=by rw[q];exact(xD.1 r).1
     have:g[j]? =some g[j]:=xF m;exact⟨_,by rw[xe];exact this,c j x _ r this⟩
   ·intro N
    subst N;obtain⟨rfl,s⟩:=kq xs ys h;rw[show(10000:Nat)=9999+1 from rfl,Instr.sameBits];simp only[xU,yL];refine⟨by rw[C,q],xY.2 fun p hp=> ?_⟩;obtain⟨i,J,rfl⟩:=List.mem_iff_getElem.1 hp;rw[List.getElem_zip]
    have d:i<g.size∧i<vs.size:=by
     simp only[List.length_zip,x5]at J;omega
    have l:xs[i]? =some (xs[i]'(by omega)):=xE _;have A:=f i _ _ l (xF d.2);have z:=c i _ _ l (xF d.1);obtain⟨k,a,e⟩:=s _ (xS l);rw[e]at A z;simp only[yM];generalize g[i]'d.1=Q at z;generalize vs[i]'d.2=O at A;cases A;cases z;simp[Instr.sameBits]
  ·cases n
 |_=>simp[fK]at h
theorem gZ{imm:Nat→Nat→Prop}{w:World}{xs:List D}{u:Value}(f:DRep imm w (.agg xs) u){t:TypeId}(k:fd P t (.agg xs)=true):∀(es:List (D×D×Nat))(b:List MapEntry)(n:Nat){r:Option (Nat×D)},b.length=es.length→
    (∀(i:Nat)(e:D×D×Nat)(m:MapEntry),es[i]? =some e→b[i]? =some m→DRep imm w e.1 m.key∧DRep imm w e.2.1 m.val∧m.born=e.2.2)→bJ (.agg xs) es n=some r→
    match r with
     |none=>(Instr.findAsking t u b n).run P w= .ok none w
     |some (j,y)=>∃v,(Instr.findAsking t u b n).run P w= .ok (some (j,v)) w∧DRep imm w y v∧n≤j∧∃m,b[j-n]? =some m∧Instr.sameBits 10000 m.key u=true
 |[],b,n,r,c,_,h=>by
  simp only[bJ,xA]at h;subst h;have:b=[]:=List.length_eq_zero_iff.1 c;subst this;simp[Instr.findAsking]
 |e::q,[],n,r,c,_,h=>by simp at c
 |e::q,m::x,n,r,c,a,h=>by
  obtain⟨s,z,K⟩:=a 0 e m rfl rfl;simp only[bJ]at h;split at h
  ·rename_i g
   simp only[xA]at h;subst h;obtain⟨d,o⟩:=m7 f s g k;exact⟨m.val,by simp[Instr.findAsking,Sem.run_bind,d],z,xO _,m,by simp,o rfl⟩
  ·rename_i g
   obtain⟨d,_⟩:=m7 f s g k;have l:=gZ f k q x (n+1) (by simpa using c) (fun i F p A hm=>a (i+1) F p (by simpa using A) (by simpa using hm)) h;cases r with
   |none=>simp only at l ⊢;simp[Instr.findAsking,Sem.run_bind,d,l]
   |some E=>
    obtain⟨j,y⟩:=E;obtain⟨v,I,h2,J,p,C,H⟩:=l;refine⟨v,by simp[Instr.findAsking,Sem.run_bind,d,I],h2,by omega,p, ?_,H⟩;rw[show j-n=(j-(n+1))+1 by omega];simpa using C
  ·cases h
theorem cQ{imm:Nat→Nat→Prop}{w:World}{x:D}{u:Value}(q:DRep imm w x u){t:TypeId}(f:fd P t x=true)(es:List (D×D×Nat))(a:List MapEntry){r:Option (Nat×D)}(s:a.length=es.length)
    (b:∀(i:Nat)(e:D×D×Nat)(m:MapEntry),es[i]? =some e→a[i]? =some m→DRep imm w e.1 m.key∧DRep imm w e.2.1 m.val∧m.born=e.2.2) (h:bJ x es 0=some r):
    match r with
     |none=>(Instr.findKey t u a).run P w= .ok none w
     |some (j,y)=>∃v,(Instr.findKey t u a).run P w= .ok (some (j,v)) w∧DRep imm w y v∧∃m,a[j]? =some m∧Instr.sameBits 10000 m.key u=true:=by
 cases c:x.one with
 |true=>
  obtain⟨d,z,g⟩:=kp q c f es a 0 s b h;cases r with
  |none=>exact Go.MapKept.run_findKey z g
  |some o=>
   obtain⟨j,y⟩:=o;obtain⟨v,l,h2,_,m,n,p⟩:=g;exact⟨v,Go.MapKept.run_findKey z l,h2,m,by simpa using n,p⟩
 |false=>
  cases x with
  |agg xs=>
   have A:(match P.underlying t with|some (.array _ _)|some (.struct _)=>true|_=>false)=true:=by
    unfold fd at f;split at f
    ·rename_i k;cases k
    ·rename_i k;cases k
    ·rename_i fs C E k;rw[E]
    ·cases f
   have g:=gZ q f es a 0 s b h;rw[run_findKey_eq w A u a];cases r with
   |none=>exact g
   |some o=>
    obtain⟨j,y⟩:=o;obtain⟨v,l,h2,_,m,n,p⟩:=g;exact⟨v,l,h2,m,by simpa using n,p⟩
  |_=>simp[D.one]at c
theorem fL{imm:Nat→Nat→Prop}{w:World}(e:Bool)(vs:Array Value)(b:World):∀(fs:List Field)(i:Nat)(xs:List D),bU P fs i xs=true→(∀(j:Nat)(x:D),xs[j]? =some x→∃u,vs[i+j]? =some u∧DRep imm w x u)→
    (forIn fs PUnit.unit fun f _=>if f.name≠ "_" then do
        let a ←part f.type vs f.offset
        Instr.checkKey e 9999 f.type a
        pure (ForInStep.yield PUnit.unit)
     else pure (ForInStep.yield PUnit.unit):Sem PUnit).run P b= .ok PUnit.unit b
 |[],i,xs,_,_=>by simp
 |f::fs,i,[],c,_=>by simp[bU]at c
 |f::fs,i,x::xs,c,h=>by
  obtain⟨u,g,p⟩:=h 0 x rfl;rw[yo]at g;cases x with
  |int k a=>
   simp only[bU,xU,y6,yL]at c;obtain⟨⟨n,h2,m,l⟩,s⟩:=c;split at l;case h_2=>cases l
   rename_i t d;cases p
   have q:=fL e vs b fs (i+1) xs s (fun j x o=>by
    have:=h (j+1) x o;rwa [show i+(j+1)=i+1+j by omega]at this)
   have hp:=er (P:=P) (w:=b) m vs i _ g
   have r:(Instr.checkKey e 9999 f.type (.int k a)).run P b= .ok () b:=by
    rw[show(9999:Nat)=9998+1 from rfl];unfold Instr.checkKey;simp[run_underlying d,Result.andThen]
   simp only[List.forIn_cons,Sem.run_bind,n,h2,ne_eq,not_false_eq_true,xz,Result.andThen_ok,hp,r,Sem.run_pure];exact q
  |_=>simp[bU]at c
theorem gi{imm:Nat→Nat→Prop}{w:World}{x:D}{u:Value}(f:DRep imm w x u){t:TypeId}(b:fd P t x=true)(e:Bool)(d:World):(Instr.checkKey e 10000 t u).run P d= .ok () d:=by
 unfold fd at b;rw[show(10000:Nat)=9999+1 from rfl];unfold Instr.checkKey;split at b
 ·rename_i o p n c
  cases f;simp[run_underlying c,Result.andThen]
 ·rename_i s c
  cases f;simp[run_underlying c,Result.andThen]
 ·rename_i fs xs c
  simp only[xU,yL]at b;cases f with
  |agg _ vs k m a=>
  have l:=fL (P:=P) (imm:=imm) (w:=w) e vs d fs.toList 0 xs b.2 (fun j x i=>by
   have g:j<vs.size:=by rw[k];exact(xD.1 i).1
   have:vs[j]? =some vs[j]:=xF g;exact⟨_,by rw[xe];exact this,a j x _ i this⟩)
  simp only[Sem.run_bind,run_underlying c,Result.andThen_ok];rw[←Array.forIn_toList];simp only[Sem.run_bind,l,Result.andThen_ok,Sem.run_pure]
 ·cases b
theorem lz(x y:D):∀(i:Nat)(es:List (D×D×Nat))(j:Nat),(co x y i es)[j]? =if j=i then (es[j]?).map fun e=>(x,y,e.2.2)else es[j]?
 |i,[],j=>by cases i<;>simp[co]
 |0,e::r,0=>by simp[co]
 |0,e::r,j+1=>by simp[co]
 |i+1,e::r,0=>by simp[co]
 |i+1,e::r,j+1=>by simp[co,lz x y i r j]
theorem lA(x y:D):∀(i:Nat)(es:List (D×D×Nat)),(co x y i es).length=es.length
 |i,[]=>by cases i<;>rfl
 |0,e::r=>rfl
 |i+1,e::r=>by simp[co,lA x y i r]
theorem eO(Q:HR G B w0 I0 h w){t:TypeId}{m F x:AV}{U I J:Value}(hm:Rep G w m U)(hk:Rep G w F I)(X:Rep G w x J){out:Out}(n:ba P t m F x h=some out):
    out.ob=[]∧out.val= .junk∧∃O,(Instr.mapUpdate t U I J).run P w= .ok () O∧Ext G w G O∧HR G B w0 I0 (ae h out.wr) O:=by
 unfold ba at n;split at n;case h_2=>cases n
 rename_i kt et k v kd W V;split at n;case h_2=>cases n
 rename_i es c s;split at n;case isFalse=>cases n
 rename_i hc;obtain⟨hv,p⟩:=hc;cases hm with
 |mp _ _ b M=>
 subst hv;cases hk with
 |d l=>
 cases X with
 |d D=>
 obtain⟨b',C,A,H,o,a⟩:=Q.maps.obj k es c s;rw[M]at C;cases C;have q:=Go.MapKept.run_getObj_map (P:=P) H;split at n
 ·rename_i i y g
  simp only[xA]at n;subst n;obtain⟨v',u,_,m',R,z⟩:=cQ l p es A.toList (by simpa using o) (fun i e m f hm=>a i e m f (by simpa using hm)) g;have r:=gi (P:=P) l p false w;have K:A[i]? =some m':=by simpa using R
  obtain⟨T,h2⟩:=Q.setMap (k:=k) (c':=c) (ms':=A.modify i fun e=>{e with key:=I,val:=J}) (es':=co kd W i es) (by rw[s];rfl) M H (by simp[lA,o]) (fun j e m f hm=>by
   rw[lz]at f;rw[Array.getElem?_modify]at hm;by_cases E:j=i
   ·subst E
    simp only[xz,xB]at f hm;obtain⟨Z,L,rfl⟩:=f;obtain⟨Y,N,rfl⟩:=hm;exact⟨l,D,(a j Z Y L N).2.2⟩
   ·rw[xi E]at f
    rw[xi (fun e=>E e.symm)]at hm;exact a j e m f hm)
  refine⟨rfl,rfl,_, ?_,h2,T⟩;simp only[Instr.mapUpdate,Sem.run_bind,run_underlying V,Result.andThen_ok,q,r,u];simp only[Instr.keyThatStays,K,xP,yj,z,xz,Sem.run_pure,Result.andThen_ok];exact Go.MapKept.run_setObj_map (P:=P) _ H
 ·rename_i g
  simp only[xA]at n;subst n;have u:=cQ l p es A.toList (by simpa using o) (fun i e m f hm=>a i e m f (by simpa using hm)) g;have r:=gi (P:=P) l p false w
  obtain⟨T,h2⟩:=Q.setMap (k:=k) (c':=c+1) (ms':=A.push {key:=I,val:=J,born:=c}) (es':=es ++[(kd,W,c)]) (by rw[s];rfl) M H (by simp[o]) (fun j e m f hm=>by
   by_cases E:j<es.length
   ·rw[xL E]at f
    rw[Array.getElem?_push,xi (by omega)]at hm;exact a j e m f hm
   ·rw[xN (by omega)]at f
    have S:j=es.length:=by
     have:=(xD.1 f).1;simp at this;omega
    subst S;simp only[Nat.sub_self,xk,xA]at f;rw[Array.getElem?_push,xW o.symm]at hm;simp only[xA]at hm;subst f;subst hm;exact⟨l,D,rfl⟩)
  refine⟨rfl,rfl,_, ?_,h2,T⟩;simp only[Instr.mapUpdate,Sem.run_bind,run_underlying V,Result.andThen_ok,q,r,u];exact Go.MapKept.run_setObj_map (P:=P) _ H
 ·cases n
theorem lB(Q:HR G B w0 I0 h w){t:TypeId}{m C:AV}{ok:Bool}{K L:Value}(hm:Rep G w m K)(O:Rep G w C L){out:Out}(f:cO P t m C ok h=some out):
    out.ob=[]∧out.wr=[]∧∃v,(Instr.lookup t K L ok).run P w= .ok v w∧Rep G w out.val v:=by
 unfold cO at f;split at f;case h_2=>cases f
 rename_i kt et k v kd q;split at f;case h_2=>cases f
 rename_i es c F;split at f;case isFalse=>cases f
 rename_i r;obtain⟨R,j⟩:=r;cases hm with
 |mp _ _ b N=>
 subst R;cases O with
 |d g=>
 obtain⟨U,A,E,S,s,l⟩:=Q.maps.obj k es c F;rw[N]at A;cases A;have n:=Go.MapKept.run_getObj_map (P:=P) S
 have D:∀(x:AV)(v:Value)(b:Bool),Rep G w x v→Rep G w (.tup [x, .d (.bool b)]) (.tuple #[v, .bool b]):=fun x v b M=> .tup _ _ rfl (fun i c u r q=>by
  match i with
  |0=>simp at r q;subst r;subst q;exact M
  |1=>simp at r q;subst r;subst q;exact .d (.bool b)
  |i+2=>simp at r)
 split at f
 ·rename_i i y a
  simp only[xA]at f;subst f;obtain⟨J,p,I,_⟩:=cQ g j es E.toList (by simpa using s) (fun i e m H hm=>l i e m H (by simpa using hm)) a;have o:=gi (P:=P) g j E.isEmpty w;refine⟨rfl,rfl,if ok=true then .tuple #[J, .bool true]else J, ?_, ?_⟩
  ·simp only[Instr.lookup,Sem.run_bind,run_underlying q,Result.andThen_ok,n,Sem.run_pure,o,p]
  ·cases ok
   ·exact .d I
   ·exact D _ _ _ (.d I)
 ·rename_i a
  split at f;case h_2=>cases f
  rename_i z T;simp only[xA]at f;subst f;have p:=cQ g j es E.toList (by simpa using s) (fun i e m H hm=>l i e m H (by simpa using hm)) a;have o:=gi (P:=P) g j E.isEmpty w;refine⟨rfl,rfl,if ok=true then .tuple #[z, .bool false]else z, ?_, ?_⟩
  ·simp only[Instr.lookup,Sem.run_bind,run_underlying q,Result.andThen_ok,n,Sem.run_pure,o,p,bw T]
  ·cases ok
   ·exact iW z
   ·exact D _ _ _ (iW z)
 ·cases f
theorem lC(l:HR G B w0 I0 h w){t:TypeId}{k v:Nat}{j:Value}(hm:Rep G w (.mp k v) j){out:Out}(a:dj P t k v h=some out):
    out.ob=[]∧out.wr=[]∧∃x,(∀ty,(Builtin.len_ #[t] ty #[j]).run P w= .ok x w)∧Rep G w out.val x:=by
 unfold dj at a;split at a;case h_2=>cases a
 rename_i kt et m;split at a;case h_2=>cases a
 rename_i es c g;split at a;case isFalse=>cases a
 rename_i n;simp only[xA]at a;subst a;cases hm with
 |mp _ _ b p=>
 subst n;obtain⟨r,e,q,o,f,i⟩:=l.maps.obj k es c g;rw[p]at e;cases e;refine⟨rfl,rfl,_,fun ty=> ?_, .d (.int .i64 (es.length:Int))⟩;simp[Builtin.len_,run_underlying m,Go.MapKept.run_getObj_map (P:=P) o,Result.andThen,goInt,f]
theorem mS{t:TypeId}{x n:AV}{l m:Value}(e:Rep G w x l)(k:Rep G w n m){y:AV}(a:kZ P t x n=some y):∃v,(Instr.index t l m).run P w= .ok v w∧Rep G w y v:=by
 unfold kZ at a;split at a
 ·rename_i s kd i q
  split at a
  ·rename_i p
   simp only[xB]at a;obtain⟨b,u,rfl⟩:=a;cases e with
   |d e=>
   cases e with
   |str _ f r=>
   subst r;cases k with
   |d k=>
   cases k
   have g:f[i.toNat]? =some b:=by
    obtain⟨j,o⟩:=xD.1 u;have c:i.toNat<f.size:=by simpa using j
    rw[getElem?_pos f i.toNat c];simp only[yM]at o;rw[←o];rfl
   refine⟨_, ?_, .d (.int .u8 (b.toNat:Int))⟩;simp[Instr.index,asIntOf,run_underlying q,p,g]
  ·cases a
 ·cases a
end Go.Avm
