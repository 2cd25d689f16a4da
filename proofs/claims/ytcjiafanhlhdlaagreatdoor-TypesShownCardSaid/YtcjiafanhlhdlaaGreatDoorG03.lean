/-
  The abstract machine, part K: append.
-/
import Derived.Test.YtcjiafanhlhdlaaGreatDoorG02
import Derived.MapKept
import Derived.WideKeyRuns
import Derived.Laws.IdiomStrings
import Derived.Lib.UnsafeStr
import Derived.RangeFuncRecord
set_option linter.unusedVariables false
set_option linter.unusedSimpArgs false
set_option linter.unusedSectionVars false
namespace Go.Avm
open Go.RowKit
variable[aG]
section
variable{P:Program}{G:Gh}{B:Nat}{w0 w:World}{I0:Nat→Nat→Prop}{h:aa}
def CO(P:Program)(G:Gh)(w:World)(sz n:Nat)(v:Value)(l:List D):Prop:=
 ∃a:List Value,a.length=n*sz∧(∀u∈a,u.oneCell'=true)∧(∀(t:Nat)(c:D),(D.flat l)[t]? =some c→∃u:Value,a[t]? =some u∧c.one=true∧DRep G.imm w c u)∧
  ∀d:World,(∀b o,d.cell? ⟨b,o,none⟩=w.cell? ⟨b,o,none⟩)→(Builtin.firstCells sz n v).run P d= .ok a.toArray d
theorem dR{l:List D}{v:Value}{sz:Nat}(A:DRep G.imm w (.ro l) v)(C:∀y∈l,y.cells.length=sz):CO P G w sz l.length v l:=by
 cases A with
 |roNil x c=>
  refine⟨[],by simp,by simp,by simp[D.flat],fun k _=> ?_⟩;cases x with
  |none=>simp[Builtin.firstCells]
  |some a=>simpa using run_firstCells_some (P:=P) k sz 0 a 0 c [] (by simp) (by simp)
 |ro _ b o c F U n z p H E i=>
  have f:(D.flat l).length=l.length*sz:=D.flat_len C;refine⟨(List.range (D.flat l).length).map U,by simp[f],fun u r=> ?_,fun t c g=> ?_,fun k m=> ?_⟩
  ·simp only[xi,List.mem_range]at r
   obtain⟨t,g,rfl⟩:=r;have s:(D.flat l)[t]? =some (D.flat l)[t]:=xH g;exact(i t _ s).oneCell (p _ (y7 g))
  ·have d:=(xE.1 g).1
   exact⟨U t,by simp[yu d],p c (x5 g),i t c g⟩
  ·refine run_firstCells_some (P:=P) k sz l.length ⟨b,o,none⟩ l.length _ _ (by simp[f]) (fun j v q=> ?_)
   simp only[xP,xB]at q;obtain⟨I,e,rfl⟩:=q
   have d:j<(D.flat l).length:=by
    have:=(xE.1 e).1;simpa using this
   rw[yu d]at e;simp only[xA]at e;subst e;rw[dn,m];exact E j _ (xH d)
theorem uG(s:ByteArray){sz:Nat}(k:∀y∈s.data.toList.map bx,y.cells.length=sz):CO P G w sz s.size (.string s) (s.data.toList.map bx):=by
 have j:s.size*sz=s.size:=by
  cases g:s.data.toList with
  |nil=>
   have:s.size=0:=by have:=congrArg List.length g;simpa using this
   simp[this]
  |cons b r=>
   have:=k (bx b) (by simp[g]);rw[←this];simp[bx,D.cells]
 have d:D.flat (s.data.toList.map bx)=s.data.toList.map bx:=by
  simp only[D.flat];induction s.data.toList with
  |nil=>rfl
  |cons a r i=>simp only[xN,yB,i];rfl
 refine⟨s.data.toList.map fun b=> .int .u8 (b.toNat:Int),by simp[j],fun u e=> ?_,fun t c f=> ?_,fun n _=> ?_⟩
 ·simp only[xi]at e
  obtain⟨b,_,rfl⟩:=e;rfl
 ·rw[d,xP,xB]at f
  obtain⟨b,l,rfl⟩:=f;exact⟨.int .u8 (b.toNat:Int),by rw[xP,l];rfl,rfl, .int .u8 _⟩
 ·have m:s.extract 0 s.size=s:=by simp
  simp only[Builtin.firstCells,m,Sem.run_pure];congr 1;apply Array.ext';simp
theorem wI:dD G h []=G.imm:=by
 funext b o;simp[dD,qx]
theorem wJ(hr:HR G B w0 I0 h w){x:AV}{V:Value}(R:Rep G w x V){news:List D}{rs:List Nat}{sz:Nat}(g:hK h x=some (news,rs))(l:∀y∈news,y.cells.length=sz):
    (∀U:World,(Builtin.lenOf V).run P U= .ok news.length U)∧CO P G w sz news.length V news:=by
 suffices S:(∃T:ByteArray,V= .string T∧news=T.data.toList.map bx)∨((∃ao c,V= .slice ao news.length c)∧CO P G w sz news.length V news) by
  rcases S with ⟨T,rfl,rfl⟩|⟨⟨ao,c,rfl⟩,hC⟩
  ·exact⟨fun U=>by simp[Builtin.lenOf],by simpa using uG (P:=P) (G:=G) (w:=w) T l⟩
  ·exact⟨fun U=>by simp[Builtin.lenOf],hC⟩
 unfold hK at g;split at g
 ·simp only[xA,xG]at g
  obtain⟨rfl,rfl⟩:=g;cases R with
  |d J=>cases J with|str _ T hb=>subst hb;exact .inl ⟨T,rfl,rfl⟩
 all_goals refine .inr ?_
 ·simp only[xA,xG]at g
  obtain⟨rfl,rfl⟩:=g;refine⟨?_,dR R.toDRep l⟩;cases R with
  |d J=>cases J<;>exact⟨_,_,rfl⟩
 ·simp only[xA,xG]at g
  obtain⟨rfl,rfl⟩:=g;cases R with
  |vecNil=>exact⟨⟨_,_,rfl⟩,dR (.roNil _ _) l⟩
  |vec _ _ _ L hL hfr K hsz' J=>exact⟨⟨_,_,rfl⟩,dR J l⟩
 ·simp only[xA,xG]at g
  obtain⟨rfl,rfl⟩:=g;cases R;exact⟨⟨_,_,rfl⟩,dR (.roNil _ _) l⟩
 ·simp only[xA,xG]at g
  obtain⟨rfl,rfl⟩:=g;cases R;exact⟨⟨_,_,rfl⟩,dR (.roNil _ _) l⟩
 ·rename_i k v a f sz0
  split at g
  ·rename_i m es hob
   split at g
   ·rename_i s
    obtain⟨rfl,hin⟩:=s;simp only[yn]at g;obtain⟨⟨ys,ks⟩,hgo,g⟩:=g;split at g
    ·rename_i hks
     simp only at hks;subst hks;simp only[xA,xG]at g;obtain⟨rfl,rfl⟩:=g;have K:((es.drop a).take f).length=f:=by simp;omega
     obtain⟨Z,hgi⟩:=i3 hgo;have H:ys.length=f:=by rw[Z,K]
     cases R with
     |slNil=>
      have h0:ys=[]:=x7 (by omega);subst h0;exact⟨⟨_,_,rfl⟩,dR (.roNil _ _) l⟩
     |sl _ _ _ _ c L hL hcap hlc=>
      refine⟨⟨_,_,by rw[H]⟩, ?_⟩;rw[H];rcases hr.objs k _ hob with ⟨rfl,hLn⟩|⟨L',O,h1,h2,h3,h4,h6,h5⟩
      ·have h0:f=0:=by simp at hin;omega
       subst h0;have h0:ys=[]:=x7 H;subst h0;exact dR (.roNil _ _) l
      ·rw[hL]at O
       simp only[xA]at O;subst O
       have I:∀(i:Nat)(y:D),ys[i]? =some y→∃e,es[a+i]? =some e∧y.cells.length=e.cells.length∧(∀c∈y.cells,c.one=true)∧
           ∀(j:Nat)(c:D),y.cells[j]? =some c→∃u,w.cell? ⟨L.b,(a+i)*m+j,none⟩=some u∧u.oneCell'=true∧DRep G.imm w c u:=by
        intro i y hy;have M:i<((es.drop a).take f).length:=by rw[←Z];exact(xE.1 hy).1
        obtain⟨y',k',Q,z,hk'⟩:=hgi i _ (xH M);rw[hy]at Q;simp only[xA]at Q;subst Q;have hk0:k'=[]:=List.eq_nil_iff_forall_not_mem.2 (fun k hk=>by have:=hk' k hk;simp at this);subst hk0
        have p:es[a+i]? =some ((es.drop a).take f)[i]:=by
         have h9:((es.drop a).take f)[i]? =some ((es.drop a).take f)[i]:=xH M;rw[yG,x9 (by omega),xw]at h9;exact h9
        generalize ((es.drop a).take f)[i]=e at p z;have hcl:=h4 e (x5 p)
        have E:∃N:Nat→Value,∀(j:Nat)(c:AV),e.cells[j]? =some c→w.cell? ⟨L.b,(a+i)*m+j,none⟩=some (N j)∧(N j).oneCell'=true∧Rep G w c (N j):=by
         refine⟨fun j=>(w.cell? ⟨L.b,(a+i)*m+j,none⟩).getD undef,fun j c s=> ?_⟩;have X:j<m:=by rw[←hcl];exact(xE.1 s).1
         have hfl:(AV.flat es)[(a+i)*m+j]? =some c:=by rw[AV.flat,bM _ m es h4 (a+i) j X,p,yA,s]
         obtain⟨u,q,C,hur⟩:=h5 _ c hfl;simp only[q,zN];exact⟨trivial,C,hur⟩
        obtain⟨N,E⟩:=E;obtain⟨v,hv,Y,hvj⟩:=Rep.of_cells (e:=e) N (fun j c s=>(E j c s).2);have J:=d5 hr _ _ _ _ _ z hv;rw[wI]at J;obtain⟨hc1,hc2,hc3⟩:=J.cells;refine⟨e,p,by rw[hc1,Y],hc2,fun j c s=> ?_⟩
        have X:j<e.cells.length:=by
         have:=(xE.1 s).1;rw[hc1,Y]at this;exact this
        obtain⟨g1,g2,_⟩:=E j _ (xH X);exact⟨N j,g1,g2,hc3 j c (N j) s (hvj j X)⟩
       have hse:ys≠[]→sz=m:=by
        intro hne;obtain⟨y,r,rfl⟩:=List.exists_cons_of_ne_nil hne;obtain⟨e,he,hl',_⟩:=I 0 y rfl;rw[←l y (by simp),hl',h4 e (x5 he)]
       have o:(D.flat ys).length=f*sz:=by rw[D.flat_len l,H]
       have n:∀(t:Nat)(c:D),(D.flat ys)[t]? =some c→∃u,w.cell? ⟨L.b,a*L.sz+t,none⟩=some u∧u.oneCell'=true∧c.one=true∧DRep G.imm w c u:=by
        intro t c W;obtain⟨i,j,y,rfl,X,hy,s⟩:=fl l W;obtain⟨e,he,hl',ho1,hcc⟩:=I i y hy;obtain⟨u,q,C,hud⟩:=hcc j c s;have hes:sz=m:=hse (by rintro rfl;simp at hy);refine⟨u, ?_,C,ho1 c (x5 s),hud⟩;rw[h1,hes,←q];congr 2;rw[yf];omega
       refine⟨(List.range (f*sz)).map fun t=>(w.cell? ⟨L.b,a*L.sz+t,none⟩).getD undef,by simp,fun u q=> ?_,fun t c W=> ?_,fun U hw2=> ?_⟩
       ·simp only[xi,List.mem_range]at q
        obtain⟨t,W,rfl⟩:=q;obtain⟨u,q,C,_⟩:=n t _ (xH (by rw[o];exact W));rw[q];exact C
       ·have A:=(xE.1 W).1
        rw[o]at A;obtain⟨u,q,_,h8,h9⟩:=n t c W;exact⟨u,by simp[yu A,q],h8,h9⟩
       ·have hrun:=run_firstCells_some (P:=P) U sz f ⟨L.b,a*L.sz,none⟩ f c ((List.range (f*sz)).map fun t=>(w.cell? ⟨L.b,a*L.sz+t,none⟩).getD undef) (by simp) (fun j v hv=>by
          simp only[xP,xB]at hv;obtain⟨j',F,rfl⟩:=hv
          have A:j<f*sz:=by
           have:=(xE.1 F).1;simpa using this
          rw[yu A]at F;simp only[xA]at F;subst F;obtain⟨u,q,_⟩:=n j _ (xH (by rw[o];exact A));rw[dn,hw2,q];rfl)
        exact hrun
    ·cases g
   ·cases g
  ·cases g
 ·cases g
theorem mC{t a:TypeId}(h:pH P t a=true):a=t∨P.underlying a=some .string:=by
 unfold pH at h;by_cases b:t=a
 ·exact .inl b.symm
 ·right
  simp only[xy,xm,b,false_or]at h;split at h
  ·assumption
  ·cases h
theorem gy(t s ty e o:TypeId)(i:TypeInfo)(q:P.underlying t=some (.slice e))(l:pH P t s=true)(p:P.info? e=some i)(g a b:Nat)(aD:Array Value)(y:w.heap[g]? =some (.cells aD o (0,0)))
    (n:Value) (m:Nat) (f:List Value) (j:(Builtin.lenOf n).run P w= .ok m w) (r:(Builtin.firstCells i.size m n).run P w= .ok f.toArray w) (v:∀u∈f,u.oneCell'=true) (c:a+m≤b) (k:a*i.size+f.length≤aD.size):
    (Builtin.append_ #[t,s] ty #[.slice (some ⟨g,0,none⟩) a b,n]).run P w=
     .ok (.slice (some ⟨g,0,none⟩) (a+m) b) (w.setRow g (aD.toList.take (a*i.size) ++f ++aD.toList.drop (a*i.size+f.length)).toArray):=by
 have d:=run_storeCells_at P g (a*i.size) o f 0 aD w y (by simpa using k) v;simp only[yp]at d;rcases mC l with rfl|x
 ·simp[Builtin.append_,run_underlying q,sizeOf,typeInfo,p,j,c,r,dn,d]
 ·simp[Builtin.append_,run_underlying q,run_underlying x,sizeOf,typeInfo,p,j,c,r,dn,d]
theorem bu(t q ty e:TypeId)(i:TypeInfo)(z:Value)(x:P.underlying t=some (.slice e))(n:pH P t q=true)(s:P.info? e=some i)(y:i.zero=some z)
    (v:Option Addr) (a b:Nat) (c:List Value) (g:(Builtin.firstCells i.size a (.slice v a b)).run P w.drew= .ok c.toArray w.drew)
    (l:Value) (m:Nat) (o:List Value) (k:∀r:World,(Builtin.lenOf l).run P r= .ok m r) (C:(Builtin.firstCells i.size m l).run P w.drew= .ok o.toArray w.drew)
    (A:b<a+m) (E:a+m≤549755813888) (p:i.bytes≤256):
    (Builtin.append_ #[t,q] ty #[.slice v a b,l]).run P w=
     .ok (.slice (some ⟨w.heap.size,0,none⟩) (a+m) (grownCap w (a+m) b e)) (w.drew.alloc (.cells (c.toArray ++o.toArray ++Builtin.zeroCells z.cells (grownCap w (a+m) b e-(a+m))) e)):=by
 have u:¬(a+m≤b):=by omega
 have d:¬(9223372036854775807<((a:Int)+(m:Int))):=by omega
 have f:¬(281474976710656<Builtin.nextslicecap (a+m) b*i.bytes):=by
  have h2:=nextslicecap_le A;have F:Builtin.nextslicecap (a+m) b*i.bytes≤(2*549755813888)*256:=Nat.mul_le_mul (by omega) p;omega
 have j:(Builtin.firstCells i.size m l).run P w.drew= .ok o.toArray w.drew:=C;rcases mC n with rfl|D
 ·simp[Builtin.append_,run_underlying x,sizeOf,typeInfo,zeroValue,s,y,k,u,d,f,Question.forced,j,g,newRow,grownCap]
  congr 2;apply Array.ext';simp[xM]
 ·simp[Builtin.append_,run_underlying x,run_underlying D,sizeOf,typeInfo,zeroValue,s,y,k,u,d,f,Question.forced,j,g,newRow,grownCap]
  congr 2;apply Array.ext';simp[xM]
theorem uH(z:Array Value)(n:Nat):(Builtin.zeroCells z n).size=n*z.size:=by simp[Builtin.zeroCells]
theorem AV.cells_d(y:D):(AV.d y).cells=y.cells.map .d:=by cases y<;>rfl
theorem mD:∀(l:List D),AV.flat (l.map .d)=(D.flat l).map .d
 |[]=>rfl
 |a::r=>by
  have b:=mD r;simp only[AV.flat,D.flat]at b ⊢;simp only[xN,yB,xY,AV.cells_d,b]
def TyOk(P:Program)(t:TypeId)(G b:Gh)(h:aa)(s x:AV):Prop:=
 ∀k v sz l L,x= .vec k v sz l→b.loc k v=some L→P.underlying t=some (.slice L.ty)∨s.isVec=true∧∃a,G.loc k (h k).ver=some a∧L.ty=a.ty
theorem TyOk.non{P:Program}{t:TypeId}{G b:Gh}{h:aa}{s x:AV}(a:x.isVec=false):TyOk P t G b h s x:=by
 intro k v sz l L c _;rw[c]at a;cases a
theorem TyOk.noLoc{P:Program}{t:TypeId}{G a:Gh}{h:aa}{s:AV}{k v sz:Nat}{l:List D}(d:a.loc k v=none):TyOk P t G a h s (.vec k v sz l):=by
 intro k v sz l L c b;cases c;rw[d]at b;cases b
theorem TyOk.new{P:Program}{t e:TypeId}{G a:Gh}{h:aa}{s:AV}{k v sz:Nat}{l:List D}(f:P.underlying t=some (.slice e))(d:∀L,a.loc k v=some L→L.ty=e):TyOk P t G a h s (.vec k v sz l):=by
 intro k v sz l L c b;cases c;rw[d L b];exact .inl f
theorem qF(hr:HR G B w0 I0 h w){obm:Bool}{t t' ty:TypeId}(hta:pH P t t'=true){s x:AV}{vs vx:Value}(hs:Rep G w s vs)(hx:Rep G w x vx){k:Nat}{out:Out}(q:bH P obm t s x k h=some out):
    out.ob=[]∧∃v w' Z,(Builtin.append_ #[t,t'] ty #[vs,vx]).run P w= .ok v w'∧Ext G w Z w'∧HR Z B w0 I0 (ap h out.wr) w'∧Rep Z w' out.val v∧TyOk P t G Z h s out.val:=by
 unfold bH at q;split at q
 ·rename_i e W
  split at q
  ·rename_i news rs z hsrc hz
   split at q
   ·rename_i hc
    obtain⟨hall,hpos,hby,hzs⟩:=hc;obtain⟨i,hi,hiz,J,hbe⟩:=lH hz;have hnc:∀y∈news,y.cells.length=P.cellsOf e:=fun y hy=>by simpa using xa.1 hall y hy
    obtain⟨S,Q,hus1,hus2,hus3,hus4⟩:=wJ (P:=P) hr hx hsrc hnc;have hfw:=hus4 w (fun _ _=>rfl);have hfd:=hus4 w.drew (fun _ _=>rfl);rw[J]at hfw hfd;rw[hbe]at hby;have hfl:(D.flat news).length=news.length*P.cellsOf e:=D.flat_len hnc
    have hnewcell:∀(f:List Value)(C:Array Value)(l:List D),f.length=l.length*P.cellsOf e→(∀y∈l,y.cells.length=P.cellsOf e)→(∀(t:Nat)(c:D),(D.flat l)[t]? =some c→∃u:Value,f[t]? =some u∧c.one=true∧DRep G.imm w c u)→
        ∀(t:Nat)(c:D),(D.flat (l ++news))[t]? =some c→∃u:Value,(f.toArray ++Q.toArray ++C)[t]? =some u∧c.one=true∧DRep G.imm w c u:=by
     intro f C l hol hlc hold t c ht;have hfl2:(D.flat l).length=l.length*P.cellsOf e:=D.flat_len hlc;have H:D.flat (l ++news)=D.flat l ++D.flat news:=yb;rw[H]at ht;rw[←xe];simp only[Array.toList_append];by_cases htl:t<(D.flat l).length
     ·rw[xU htl]at ht
      obtain⟨u,W,N,h2⟩:=hold t c ht;have:t<f.length:=by omega
      refine⟨u, ?_,N,h2⟩;rw[xM,xU (by simpa using this)];exact W
     ·rw[xV (by omega)]at ht
      obtain⟨u,W,N,h2⟩:=hus3 _ c ht;have hlt:=(xE.1 W).1;refine⟨u, ?_,N,h2⟩;have e1:(D.flat l).length=f.length:=by rw[hol];exact hfl2
      rw[e1]at W hlt;rw[e1]at ht;have htl':¬t<f.length:=by omega
      rw[xM,xV (by simpa using htl'),xU (by simpa using hlt)];simpa using W
    have M:Ext G w G w.drew:=Ext.drew G w;have hrd:=hr.drew
    have hnd:∀y∈news.map AV.d,y.cells.length=P.cellsOf e:=by
     intro y hy;obtain⟨y',hy',rfl⟩:=xi.1 hy;rw[AV.cells_d,xO];exact hnc y' hy'
    have hlod:news.all D.one=true→∀y∈news.map AV.d,y.lone=true:=by
     intro hall1 y hy;obtain⟨y',hy',rfl⟩:=xi.1 hy;have:=xa.1 hall1 y' hy';cases y'<;>first|rfl|(simp[D.one]at this)
    have A:∀(sLen sCap:Nat)(f:List Value),f.length=sLen*P.cellsOf e→
        (f.toArray ++Q.toArray ++Builtin.zeroCells z.cells (grownCap w (sLen+news.length) sCap e-(sLen+news.length))).size=grownCap w (sLen+news.length) sCap e*P.cellsOf e:=by
     intro sLen sCap f hol;have hge:=grownCap_ge w (sLen+news.length) sCap e;simp only[Array.size_append,uH,hzs,List.size_toArray,hus1,hol];rw[←yf,←yf];congr 1;omega
    have avCell:∀(f:List Value)(C:Array Value)(xs:List AV),f.length=xs.length*P.cellsOf e→(∀y∈xs,y.cells.length=P.cellsOf e)→(∀(t:Nat)(c:AV),(AV.flat xs)[t]? =some c→∃u:Value,f[t]? =some u∧u.oneCell'=true∧Rep G w c u)→
        ∀(t:Nat)(c:AV),(AV.flat (xs ++news.map .d))[t]? =some c→∃u:Value,(f.toArray ++Q.toArray ++C)[t]? =some u∧u.oneCell'=true∧Rep G w c u:=by
     intro f C xs hol hxc hold t c ht;have hfl2:(AV.flat xs).length=xs.length*P.cellsOf e:=cH _ _ xs hxc;have H:AV.flat (xs ++news.map .d)=AV.flat xs ++(D.flat news).map .d:=by rw[←mD];exact yb
     rw[H]at ht;rw[←xe];simp only[Array.toList_append];by_cases htl:t<(AV.flat xs).length
     ·rw[xU htl]at ht
      obtain⟨u,W,N,h2⟩:=hold t c ht;have:t<f.length:=by omega
      exact⟨u,by rw[xM,xU (by simpa using this)];exact W,N,h2⟩
     ·rw[xV (by omega),xP,xB]at ht
      obtain⟨c',hc',rfl⟩:=ht;obtain⟨u,W,N,h2⟩:=hus3 _ c' hc';have hlt:=(xE.1 W).1;have e1:(AV.flat xs).length=f.length:=by rw[hol];exact hfl2
      rw[e1]at W hlt;refine⟨u, ?_,h2.oneCell N, .d h2⟩;have htl':¬t<f.length:=by omega
      rw[xM,xV (by simpa using htl'),xU (by simpa using hlt)];simpa using W
    have V:∀(f:List Value)(C:Array Value)(xs:List AV),f.length=xs.length*P.cellsOf e→(∀y∈xs,y.cells.length=P.cellsOf e)→(∀(t:Nat)(c:AV),(AV.flat xs)[t]? =some c→∃u:Value,f[t]? =some u∧u.oneCell'=true∧Rep G w c u)→
        ∀(t:Nat)(c:AV),(AV.flat (xs ++news.map .d))[t]? =some c→∃u:Value,(f.toArray ++Q.toArray ++C)[t]? =some u∧u.oneCell'=true∧Rep G w.drew c u:=by
     intro f C xs a1 a2 a3 t c ht;obtain⟨u,N,h2,h3⟩:=avCell f C xs a1 a2 a3 t c ht;exact⟨u,N,h2,h3.mono M⟩
    have F:∀(f:List Value)(C:Array Value)(l:List D),f.length=l.length*P.cellsOf e→(∀y∈l,y.cells.length=P.cellsOf e)→(∀(t:Nat)(c:D),(D.flat l)[t]? =some c→∃u:Value,f[t]? =some u∧c.one=true∧DRep G.imm w c u)→
        ∀(t:Nat)(c:D),(D.flat (l ++news))[t]? =some c→∃u:Value,(f.toArray ++Q.toArray ++C)[t]? =some u∧c.one=true∧DRep G.imm w.drew c u:=by
     intro f C l a1 a2 a3 t c ht;obtain⟨u,N,h2,h3⟩:=hnewcell f C l a1 a2 a3 t c ht;exact⟨u,N,h2,h3.mono M.imm M.cell⟩
    have K:∀(E:Option Addr),news.length=0→(Builtin.append_ #[t,t'] ty #[.slice E 0 0,vx]).run P w= .ok (.slice E 0 0) w:=by
     intro E p;have r:news=[]:=x7 p;subst r;have hus0:Q=[]:=x7 (by simpa using hus1);subst hus0;simp at hfw S;rcases mC hta with rfl|hs'
     ·cases E with
      |none=>simp[Builtin.append_,run_underlying W,sizeOf,typeInfo,hi,S,hfw]
      |some a=>simp[Builtin.append_,run_underlying W,sizeOf,typeInfo,hi,S,hfw,storeCells]
     ·cases E with
      |none=>simp[Builtin.append_,run_underlying W,run_underlying hs',sizeOf,typeInfo,hi,S,hfw]
      |some a=>simp[Builtin.append_,run_underlying W,run_underlying hs',sizeOf,typeInfo,hi,S,hfw,storeCells]
    have n:(Builtin.firstCells i.size 0 (.slice none 0 0)).run P w.drew= .ok ([]:List Value).toArray w.drew:=by simp[Builtin.firstCells]
    split at q
    ·
     split at q
     ·cases q
     ·rename_i hk
      have hk2:news.length≤549755813888:=by
       rcases yJ 549755813888 news.length with h9|h9
       ·exact absurd (Or.inr h9) hk
       ·exact h9
      cases hs;by_cases p:news.length=0
      ·have g:=K none p
       have r:news=[]:=x7 p;split at q
       ·split at q
        ·cases q
        ·simp only[xA]at q
         subst q;obtain⟨Z,T,R,_⟩:=hr.bump k (some (.arr (P.cellsOf e) (news.map .d))) (fun o O=>by rw[r]at O;simp at O;exact⟨_,O.symm⟩);rw[p];try rw[p]at g
         exact⟨rfl,_,w,Z,g,R,T, .slNil _ _ _ _,TyOk.non rfl⟩
       ·simp only[xA]at q
        subst q;obtain⟨Z,T,R,g9⟩:=hr.bump k none (fun o O=>by cases O);rw[r];try rw[r]at g
        exact⟨rfl,_,w,Z,g,R,T, .vecNil _ _ _,TyOk.noLoc g9⟩
      ·have g:=bu (w:=w) t t' ty e i z W hta hi hiz none 0 0 [] n vx news.length Q S hfd (by omega) (by omega) hby
       have hge:=grownCap_ge w (0+news.length) 0 e;have I:=A 0 0 [] (by simp);split at q
       ·split at q
        ·cases q
        ·rename_i hlo
         simp only[xA]at q;subst q
         obtain⟨T,R⟩:=hrd.newOb k (P.cellsOf e) (grownCap w (0+news.length) 0 e) (news.map .d) _ e I (by rw[xO];omega) hnd (fun N=>hlod (by
          cases hxa:news.all D.one with
          |true=>rfl
          |false=>exact absurd ⟨N,hxa⟩ hlo)) (by simpa using V [] (Builtin.zeroCells z.cells (grownCap w (0+news.length) 0 e-(0+news.length))) [] (by simp) (by simp) (by simp[AV.flat]))
         refine⟨rfl,_,_,_,g,M.trans R,T, ?_,TyOk.non rfl⟩;have:=Rep.sl (w:=w.drew.alloc (.cells (([]:List Value).toArray ++Q.toArray ++Builtin.zeroCells z.cells (grownCap w (0+news.length) 0 e-(0+news.length))) e)) k ((h k).ver+1) 0 news.length (grownCap w (0+news.length) 0 e) _ (Gh.at_same G k ((h k).ver+1) ⟨w.heap.size,P.cellsOf e,grownCap w (0+news.length) 0 e,0,e⟩) (by simp) (by omega);simpa using this
       ·simp only[xA]at q
        subst q;obtain⟨Z,T,R,g3,g9⟩:=hrd.newVecT k (P.cellsOf e) (grownCap w (0+news.length) 0 e) news _ e I (by omega) hnc (by simpa using F [] (Builtin.zeroCells z.cells (grownCap w (0+news.length) 0 e-(0+news.length))) [] (by simp) (by simp) (by simp[D.flat]));refine⟨rfl,_,_,Z,g,M.trans R,T, ?_,TyOk.new W g9⟩;simpa using g3
    ·
     split at q
     ·cases q
     ·rename_i hk
      have hk2:¬549755813888<news.length:=fun h9=>hk (.inr h9)
      cases hs with
      |es E=>
       split at q
       ·
        split at q
        ·cases q
        ·rename_i hlo
         simp only[xA]at q;subst q;by_cases p:news.length=0
         ·have g:=K E p
          have r:news=[]:=x7 p;obtain⟨Z,T,R,_⟩:=hr.bump k (some (.arr (P.cellsOf e) (news.map .d))) (fun o O=>by rw[r]at O;simp at O;exact⟨_,O.symm⟩);rw[p];try rw[p]at g
          exact⟨rfl,_,w,Z,g,R,T, .slNil _ _ _ _,TyOk.non rfl⟩
         ·have hf0:(Builtin.firstCells i.size 0 (.slice E 0 0)).run P w.drew= .ok ([]:List Value).toArray w.drew:=by
            cases E with
            |none=>exact n
            |some a=>exact run_firstCells_some (P:=P) w.drew i.size 0 a 0 0 [] (by simp) (by simp)
          have g:=bu (w:=w) t t' ty e i z W hta hi hiz E 0 0 [] hf0 vx news.length Q S hfd (by omega) (by omega) hby;have hge:=grownCap_ge w (0+news.length) 0 e;have I:=A 0 0 [] (by simp)
          obtain⟨T,R⟩:=hrd.newOb k (P.cellsOf e) (grownCap w (0+news.length) 0 e) (news.map .d) _ e I (by rw[xO];omega) hnd (fun N=>hlod (by
           cases hxa:news.all D.one with
           |true=>rfl
           |false=>exact absurd ⟨N,hxa⟩ hlo)) (by simpa using V [] (Builtin.zeroCells z.cells (grownCap w (0+news.length) 0 e-(0+news.length))) [] (by simp) (by simp) (by simp[AV.flat]))
          refine⟨rfl,_,_,_,g,M.trans R,T, ?_,TyOk.non rfl⟩;have:=Rep.sl (w:=w.drew.alloc (.cells (([]:List Value).toArray ++Q.toArray ++Builtin.zeroCells z.cells (grownCap w (0+news.length) 0 e-(0+news.length))) e)) k ((h k).ver+1) 0 news.length (grownCap w (0+news.length) 0 e) _ (Gh.at_same G k ((h k).ver+1) ⟨w.heap.size,P.cellsOf e,grownCap w (0+news.length) 0 e,0,e⟩) (by simp) (by omega);simpa using this
       ·simp only[xA]at q
        subst q;clear hk;by_cases p:news.length=0
        ·have g:=K E p
         have r:news=[]:=x7 p;refine⟨rfl,_,w,G,g,Ext.refl G w,hr, ?_,TyOk.non rfl⟩;rw[r];exact .d (.roNil _ _)
        ·have hf0:(Builtin.firstCells i.size 0 (.slice E 0 0)).run P w.drew= .ok ([]:List Value).toArray w.drew:=by
           cases E with
           |none=>exact n
           |some a=>exact run_firstCells_some (P:=P) w.drew i.size 0 a 0 0 [] (by simp) (by simp)
         have g:=bu (w:=w) t t' ty e i z W hta hi hiz E 0 0 [] hf0 vx news.length Q S hfd (by omega) (by omega) hby;have hge:=grownCap_ge w (0+news.length) 0 e;obtain⟨Z,T,R,g3⟩:=hrd.newImm news (P.cellsOf e) (grownCap w (0+news.length) 0 e) (([]:List Value).toArray ++Q.toArray ++Builtin.zeroCells z.cells (grownCap w (0+news.length) 0 e-(0+news.length))) e (by omega) hnc (by simpa using F [] (Builtin.zeroCells z.cells (grownCap w (0+news.length) 0 e-(0+news.length))) [] (by simp) (by simp) (by simp[D.flat]));refine⟨rfl,_,_,Z,g,M.trans R,T, .d ?_,TyOk.non rfl⟩;simpa using g3
    ·
     rename_i k' v sz l;split at q
     ·rename_i hc
      obtain⟨rfl,hob,hkrs,hsze,hle⟩:=hc;have hob:(h k').ob=none:=by simpa using hob
      simp only[xA]at q;subst q;cases hs with
      |vecNil=>
       subst hsze;by_cases p:news.length=0
       ·have g:=K none p
        have r:news=[]:=x7 p;obtain⟨Z,T,R,g9⟩:=hr.bump k' none (fun o O=>by cases O);rw[r];try rw[r]at g
        exact⟨rfl,_,w,Z,g,R,T, .vecNil _ _ _,TyOk.noLoc g9⟩
       ·simp at hle
        have g:=bu (w:=w) t t' ty e i z W hta hi hiz none 0 0 [] n vx news.length Q S hfd (by omega) (by omega) hby;have hge:=grownCap_ge w (0+news.length) 0 e;have I:=A 0 0 [] (by simp);obtain⟨Z,T,R,g3,g9⟩:=hrd.newVecT k' (P.cellsOf e) (grownCap w (0+news.length) 0 e) news _ e I (by omega) hnc (by simpa using F [] (Builtin.zeroCells z.cells (grownCap w (0+news.length) 0 e-(0+news.length))) [] (by simp) (by simp) (by simp[D.flat]));refine⟨rfl,_,_,Z,g,M.trans R,T, ?_,TyOk.new W g9⟩;simpa using g3
      |vec _ _ _ L hL hfr hlen hlsz hd=>
       obtain⟨f,ho1,ho2,ho3,ho4⟩:=dR (P:=P) hd hlsz;obtain⟨hB,⟨arr,e',hb,has⟩,_⟩:=hr.own k' L hL;by_cases X:l.length+news.length≤L.cap
       ·have hfit:l.length*i.size+Q.length≤arr.size:=by
          rw[has.1,hsze,hus1,←J,←yf];exact y9 _ X
        have g:=gy t t' ty e e' i W hta hi L.b l.length L.cap arr hb vx news.length Q (S w) hfw hus2 X hfit;have hseg:=fun s=>lG arr.toList Q (l.length*i.size) s (by simpa using hfit)
        have hLs:L.sz=P.cellsOf e:=hsze
        have hcelllist:∀(t:Nat)(c:D),(D.flat l)[t]? =some c→∃u:Value,arr[t]? =some u∧c.one=true∧DRep G.imm w c u:=by
         intro t c ht;cases hd with
         |roNil=>simp[D.flat]at ht
         |ro _ b o c' sz' U hcap hsz' N hi' hc' hr'=>
          have:=hc' t c ht;rw[xb]at this;exact⟨U t,by simpa [World.cell?,hb]using this,N c (x5 ht),hr' t c ht⟩
        have hfl2:(D.flat l).length=l.length*P.cellsOf e:=by rw[D.flat_len hlsz,hLs]
        obtain⟨Z,T,R,g3,g9⟩:=hr.growT (news:=news) hob hL hfr hb (arr':=(arr.toList.take (l.length*i.size) ++Q ++arr.toList.drop (l.length*i.size+Q.length)).toArray) (by simp;omega) X hlsz (fun y hy=>by rw[hLs];exact hnc y hy) (fun s hs=>by
         rw[yY,hseg s,x9 (by rw[←J,←hLs];exact hs)];simp) (fun s c hs=>by
         have H:D.flat (l ++news)=D.flat l ++D.flat news:=yb;rw[H]at hs;rw[yY,hseg s];by_cases hsl:s<(D.flat l).length
         ·rw[xU hsl]at hs
          obtain⟨u,Y,N,h2⟩:=hcelllist s c hs;refine⟨u, ?_,N,h2⟩;rw[x9 (by rw[←J];omega)];simpa using Y
         ·rw[xV (by omega)]at hs
          obtain⟨u,Y,N,h2⟩:=hus3 _ c hs;have hlt:=(xE.1 Y).1;refine⟨u, ?_,N,h2⟩;rw[xj (by rw[←J];omega),x9 (by rw[←J];omega),←J,←hfl2];exact Y)
        exact⟨rfl,_,_,Z,g,R,T,g3,fun _ _ _ _ L1 hv hL1=>by
         cases hv;exact .inr ⟨rfl,L,hL,g9 L1 hL1⟩⟩
       ·have hfo:=ho4 w.drew (fun _ _=>rfl)
        have hLs:L.sz=P.cellsOf e:=hsze;rw[hLs,J]at hfo;have g:=bu (w:=w) t t' ty e i z W hta hi hiz (some ⟨L.b,0,none⟩) l.length L.cap f hfo vx news.length Q S hfd (by omega) hle hby;have hge:=grownCap_ge w (l.length+news.length) L.cap e;have I:=A l.length L.cap f (by rw[ho1,hLs])
        obtain⟨Z,T,R,g3,g9⟩:=hrd.newVecT k' (P.cellsOf e) (grownCap w (l.length+news.length) L.cap e) (l ++news) _ e I (by rw[xC];omega) (fun y hy=>by
         rcases xZ.1 hy with hy|hy
         ·rw[←hLs];exact hlsz y hy
         ·exact hnc y hy) (F f (Builtin.zeroCells z.cells (grownCap w (l.length+news.length) L.cap e-(l.length+news.length))) l (by rw[ho1,hLs]) (fun y hy=>by rw[←hLs];exact hlsz y hy) ho3)
        refine⟨rfl,_,_,Z,g,M.trans R,T, ?_,TyOk.new W g9⟩;rw[xC,←hLs]at g3;exact g3
     ·cases q
    ·
     rename_i k' v off m sz0;split at q
     ·rename_i sz es hob
      split at q
      ·rename_i hc
       obtain⟨rfl,rfl,hles,rfl,hle,hone⟩:=hc;simp only[xA]at q;subst q;have htl:(es.take m).length=m:=by simp;omega
       have hlo':∀(hlo:P.cellsOf e=1→∀x∈es,x.lone=true),P.cellsOf e=1→∀x∈es.take m ++news.map .d,x.lone=true:=by
        intro hlo N x hx;rcases xZ.1 hx with hx|hx
        ·exact hlo N x (yR hx)
        ·exact hlod (hone N) x hx
       cases hs with
       |slNil _ _ _ E=>
        have hf0:(Builtin.firstCells i.size 0 (.slice E 0 0)).run P w.drew= .ok ([]:List Value).toArray w.drew:=by
         cases E with
         |none=>exact n
         |some a=>exact run_firstCells_some (P:=P) w.drew i.size 0 a 0 0 [] (by simp) (by simp)
        by_cases p:news.length=0
        ·have g:=K E p
         have r:news=[]:=x7 p;obtain⟨Z,T,R,_⟩:=hr.bump k' (some (.arr (P.cellsOf e) (es.take 0 ++news.map .d))) (fun o O=>by rw[r]at O;simp at O;exact⟨_,O.symm⟩);rw[p];try rw[p]at g
         exact⟨rfl,_,w,Z,g,R,T, .slNil _ _ _ _,TyOk.non rfl⟩
        ·have g:=bu (w:=w) t t' ty e i z W hta hi hiz E 0 0 [] hf0 vx news.length Q S hfd (by omega) (by omega) hby
         have hge:=grownCap_ge w (0+news.length) 0 e;have I:=A 0 0 [] (by simp);obtain⟨T,R⟩:=hrd.newOb k' (P.cellsOf e) (grownCap w (0+news.length) 0 e) (es.take 0 ++news.map .d) _ e I (by rw[xC,xO,zO];omega) (by simpa using hnd) (fun N=>by simpa using hlod (hone N)) (by simpa using V [] (Builtin.zeroCells z.cells (grownCap w (0+news.length) 0 e-(0+news.length))) [] (by simp) (by simp) (by simp[AV.flat]));refine⟨rfl,_,_,_,g,M.trans R,T, ?_,TyOk.non rfl⟩;have:=Rep.sl (w:=w.drew.alloc (.cells (([]:List Value).toArray ++Q.toArray ++Builtin.zeroCells z.cells (grownCap w (0+news.length) 0 e-(0+news.length))) e)) k' ((h k').ver+1) 0 (0+news.length) (grownCap w (0+news.length) 0 e) _ (Gh.at_same G k' ((h k').ver+1) ⟨w.heap.size,P.cellsOf e,grownCap w (0+news.length) 0 e,0,e⟩) (by simp) (by omega);simpa using this
       |sl _ _ _ _ cc L hL hcap hlc=>
        rcases hr.objs k' _ hob with ⟨_,hLn⟩|⟨L',hL',N,h2,h3,h4,h6,h5⟩
        ·rw[hL]at hLn;cases hLn
        ·rw[hL]at hL'
         simp only[xA]at hL';subst hL';obtain⟨hB,⟨arr,e',hb,has⟩,_⟩:=hr.own k' L hL;have htc:∀y∈es.take m,y.cells.length=P.cellsOf e:=fun y hy=>h4 y (yR hy)
         have hall':∀y∈es.take m ++news.map .d,y.cells.length=P.cellsOf e:=fun y hy=>by
          rcases xZ.1 hy with hy|hy
          ·exact htc y hy
          ·exact hnd y hy
         have hfl2:(AV.flat (es.take m)).length=m*P.cellsOf e:=by rw[AV.flat,cH _ _ _ htc,htl]
         have hold:∀(t:Nat)(c:AV),(AV.flat (es.take m))[t]? =some c→∃u:Value,arr[t]? =some u∧u.oneCell'=true∧Rep G w c u:=by
          intro t c ht
          have:AV.flat es=AV.flat (es.take m) ++AV.flat (es.drop m):=by
           show List.flatMap _ _=List.flatMap _ _ ++List.flatMap _ _;rw[←yb,List.take_append_drop]
          have hlt:=(xE.1 ht).1;obtain⟨u,Y,hu1,hur⟩:=h5 t c (by rw[this,xU hlt];exact ht);exact⟨u,by simpa [World.cell?,hb]using Y,hu1,hur⟩
         have hz0:(⟨L.b,0*L.sz,none⟩:Addr)=⟨L.b,0,none⟩:=by simp
         rw[hz0];by_cases X:m+news.length≤cc
         ·have hfit:m*i.size+Q.length≤arr.size:=by
            rw[has.1,N,hus1,←J,←yf];exact y9 _ (by omega)
          have g:=gy t t' ty e e' i W hta hi L.b m cc arr hb vx news.length Q (S w) hfw hus2 X hfit;have hseg:=fun s=>lG arr.toList Q (m*i.size) s (by simpa using hfit)
          obtain⟨T,R⟩:=hr.regrow (es':=es.take m ++news.map .d) hL N h2 hb (arr':=(arr.toList.take (m*i.size) ++Q ++arr.toList.drop (m*i.size+Q.length)).toArray) (by simp;omega) (by simp;omega) hall' (hlo' h6) (fun s c hs=>by
           have H:AV.flat (es.take m ++news.map .d)=AV.flat (es.take m) ++(D.flat news).map .d:=by rw[←mD];exact yb
           rw[H]at hs;rw[yY,hseg s];by_cases hsl:s<(AV.flat (es.take m)).length
           ·rw[xU hsl]at hs
            obtain⟨u,Y,h1',h2'⟩:=hold s c hs;refine⟨u, ?_,h1',h2'⟩;rw[x9 (by rw[←J];omega)];simpa using Y
           ·rw[xV (by omega),xP,xB]at hs
            obtain⟨c',hc',rfl⟩:=hs;obtain⟨u,Y,h1',h2'⟩:=hus3 _ c' hc';have hlt:=(xE.1 Y).1;refine⟨u, ?_,h2'.oneCell h1', .d h2'⟩;rw[xj (by rw[←J];omega),x9 (by rw[←J];omega),←J,←hfl2];exact Y)
          refine⟨rfl,_,_,_,g,R,T, ?_,TyOk.non rfl⟩;have:=Rep.sl (w:=w.setRow L.b (arr.toList.take (m*i.size) ++Q ++arr.toList.drop (m*i.size+Q.length)).toArray) k' ((h k').ver+1) 0 (m+news.length) cc L (Gh.at_same G k' ((h k').ver+1) L) hcap X;rw[hz0,N]at this;exact this
         ·have hfo:(Builtin.firstCells i.size m (.slice (some ⟨L.b,0,none⟩) m cc)).run P w.drew= .ok (arr.toList.take (m*i.size)).toArray w.drew:=by
            refine run_firstCells_some (P:=P) w.drew i.size m ⟨L.b,0,none⟩ m cc _ ?_ (fun j v hj=> ?_)
            ·have:m*i.size≤arr.size:=by rw[has.1,N,←J];exact y9 _ (by omega)
             simp;omega
            ·rw[yG]at hj
             split at hj
             ·rw[dn,xb]
              show w.cell? _=_;simpa [World.cell?,hb]using hj
             ·cases hj
          have hol:(arr.toList.take (m*i.size)).length=m*P.cellsOf e:=by
           have:m*i.size≤arr.size:=by rw[has.1,N,←J];exact y9 _ (by omega)
           rw[J];simp;omega
          have g:=bu (w:=w) t t' ty e i z W hta hi hiz (some ⟨L.b,0,none⟩) m cc _ hfo vx news.length Q S hfd (by omega) hle hby;have hge:=grownCap_ge w (m+news.length) cc e;have I:=A m cc _ hol
          obtain⟨T,R⟩:=hrd.newOb k' (P.cellsOf e) (grownCap w (m+news.length) cc e) (es.take m ++news.map .d) _ e I (by rw[xC,xO,htl];omega) hall' (hlo' h6) (V (arr.toList.take (m*i.size)) (Builtin.zeroCells z.cells (grownCap w (m+news.length) cc e-(m+news.length))) (es.take m) (by rw[hol,htl]) htc (fun s c hs=>by
           obtain⟨u,Y,h1',h2'⟩:=hold s c hs;have hlt:=(xE.1 hs).1;refine⟨u, ?_,h1',h2'⟩;rw[yG,x9 (by rw[←J];omega)];simpa using Y))
          refine⟨rfl,_,_,_,g,M.trans R,T, ?_,TyOk.non rfl⟩;have:=Rep.sl (w:=w.drew.alloc (.cells ((arr.toList.take (m*i.size)).toArray ++Q.toArray ++Builtin.zeroCells z.cells (grownCap w (m+news.length) cc e-(m+news.length))) e)) k' ((h k').ver+1) 0 (m+news.length) (grownCap w (m+news.length) cc e) _ (Gh.at_same G k' ((h k').ver+1) ⟨w.heap.size,P.cellsOf e,grownCap w (m+news.length) cc e,0,e⟩) (by simp) (by omega);simpa using this
      ·cases q
     ·cases q
    ·cases q
   ·cases q
  ·cases q
 ·cases q
theorem uI{obm:Bool}{t:TypeId}{s x:AV}{k:Nat}{out:Out}(a:bH P obm t s x k h=some out){c v sz:Nat}{l:List D}(b:out.val= .vec c v sz l):v≤(ap h out.wr c).ver:=by
 unfold bH at a;repeat' split at a
 all_goals first
  |(cases a;done)
  |(simp only[xA]at a;subst a;simp only at b;cases b<;>simp[ap,aJ])
theorem i4(c:HR G B w0 I0 h w){k v:Nat}{T:TypeId}{n:Option Nat}(a:kg h k v=some (T,n)):∀L,G.loc k v=some L→L.ty=T∧∀m,n=some m→L.cap*L.sz=m:=by
 unfold kg at a;split at a
 ·rename_i i f e g b
  split at a
  ·rename_i d
   obtain⟨rfl,rfl⟩:=d;cases a;exact(c.objs _ _ b).2
  ·cases a
 ·cases a
theorem pJ(A:HR G B w0 I0 h w){obm:Bool}{t z ty:TypeId}(o:pH P t z=true){s x:AV}{vs C:Value}(I:Rep G w s vs)(H:Rep G w x C){k:Nat}{out:Out}(a:cN P obm t s x k h=some out):
    out.ob=[]∧∃v d g,(Builtin.append_ #[t,z] ty #[vs,C]).run P w= .ok v d∧Ext G w g d∧HR g B w0 I0 (ap h out.wr) d∧Rep g d out.val v:=by
 unfold cN at a;split at a;case h_2=>cases a
 rename_i f c;obtain⟨p,v,d,g,q,h2,r,n,O⟩:=qF A (ty:=ty) o I H c;split at a
 ·rename_i e l y u l' N K b
  split at a
  ·rename_i M
   simp only[xA]at a;subst a;rw[(fF ..).1,(fF ..).2];refine⟨p,v,d,g,q,h2, ?_,n⟩;refine jc (out:={f with rd:=l::fQ l::f.rd}) r true e none l y (uI c b) (fun _ L D=>⟨?_,fun m hm=>by cases hm⟩);rcases O l y u l' L b D with i|⟨i,F,J,E⟩
   ·rw[K]at i;cases i;rfl
   ·rcases M.2 with j|j
    ·rw[i]at j;cases j
    ·rw[E];exact(i4 A j F J).1
  ·simp only[xA]at a
   subst a;exact⟨p,v,d,g,q,h2,r,n⟩
 ·simp only[xA]at a
  subst a;exact⟨p,v,d,g,q,h2,r,n⟩
theorem pK(hr:HR G B w0 I0 h w){t t' ty:TypeId}(hta:pH P t t'=true){s x:AV}{vs vx:Value}(I:Rep G w s vs)(hx:Rep G w x vx){out:Out}(S:ei P t s x h=some out):
    out.ob=[]∧∃v w' G',(Builtin.append_ #[t,t'] ty #[vs,vx]).run P w= .ok v w'∧Ext G w G' w'∧HR G' B w0 I0 (ap h out.wr) w'∧Rep G' w' out.val v:=by
 unfold ei at S;split at S;case h_2=>cases S
 rename_i e hu;split at S;case h_2=>cases S
 rename_i z k v off d sz1 kx vx1 offx lenx sz2 hz;split at S;case h_2=>cases S
 rename_i sz es szx D hob hobx;split at S;case isFalse=>cases S
 rename_i hc;obtain⟨rfl,rfl,hles,rfl,rfl,rfl,rfl,rfl,hce,hby,hzs,hle,Z⟩:=hc;simp only[xA]at S;subst S;obtain⟨i,hi,hiz,hsz,hbe⟩:=lH hz;rw[hbe]at hby;have o:i.size=1:=by rw[←hsz];exact hce
 cases hx with
 |sl _ _ _ _ cx Lx hLx hcapx hlcx=>
 rcases hr.objs kx _ hobx with ⟨h9,_⟩|⟨Lx',U,q1,q2,q3,q4,q6,q5⟩
 ·cases h9
 rw[hLx]at U;simp only[xA]at U;subst U;obtain⟨u,hu0,Q,Y⟩:=q5 0 D (by rw[AV.flat,yB,List.flatMap_nil,AV.cells_lone (AV.isRef_lone Z)];rfl);have hu0':w.cell? ⟨Lx.b,0,none⟩=some u:=hu0;have hz0:(⟨Lx.b,0*Lx.sz,none⟩:Addr)=⟨Lx.b,0,none⟩:=by simp
 rw[hz0];have hxl:∀w2:World,(Builtin.lenOf (.slice (some ⟨Lx.b,0,none⟩) 1 cx)).run P w2= .ok 1 w2:=fun w2=>by simp[Builtin.lenOf]
 have hf:∀w2:World,(∀a,w2.cell? a=w.cell? a)→(Builtin.firstCells i.size 1 (.slice (some ⟨Lx.b,0,none⟩) 1 cx)).run P w2= .ok [u].toArray w2:=fun w2 hw2=>by
  refine run_firstCells_some (P:=P) w2 i.size 1 ⟨Lx.b,0,none⟩ 1 cx [u] (by simp[o]) (fun j v hj=> ?_);cases j with
  |zero=>
   rw[dn];simp only[xl,xA]at hj;subst hj;rw[hw2];exact hu0'
  |succ j=>simp at hj
 have hfw:=hf w (fun _=>rfl);have hfd:=hf w.drew (fun _=>rfl);have H:Ext G w G w.drew:=Ext.drew G w;have hrd:=hr.drew;have C:(Builtin.firstCells i.size 0 (.slice none 0 0)).run P w.drew= .ok ([]:List Value).toArray w.drew:=by simp[Builtin.firstCells]
 have N:(es.take d).length=d:=by simp;omega
 have hca:∀y∈[D],y.cells.length=1:=fun y g=>by rw[xK]at g;subst g;rw[AV.cells_lone (AV.isRef_lone Z)];rfl
 have hla:∀y∈[D],y.lone=true:=fun y g=>by rw[xK]at g;subst g;exact AV.isRef_lone Z
 have hfa:AV.flat [D]=[D]:=by rw[AV.flat,yB,List.flatMap_nil,AV.cells_lone (AV.isRef_lone Z)];rfl
 have r:∀(m E:Nat)(f:List Value),f.length=m→
     (f.toArray ++[u].toArray ++Builtin.zeroCells z.cells (grownCap w (m+1) E e-(m+1))).size=grownCap w (m+1) E e*1:=by
  intro m E f O;have hge:=grownCap_ge w (m+1) E e;simp only[Array.size_append,uH,hzs,List.size_toArray,xD,xF,O];omega
 have p:∀(f:List Value)(rest:Array Value)(xs:List AV),f.length=xs.length→(∀y∈xs,y.cells.length=1)→(∀(t:Nat)(c:AV),(AV.flat xs)[t]? =some c→∃u:Value,f[t]? =some u∧u.oneCell'=true∧Rep G w c u)→
     ∀(t:Nat)(c:AV),(AV.flat (xs ++[D]))[t]? =some c→∃X:Value,(f.toArray ++[u].toArray ++rest)[t]? =some X∧X.oneCell'=true∧Rep G w.drew c X:=by
  intro f rest xs O hxc F t c T;have hfl2:(AV.flat xs).length=xs.length*1:=cH _ _ xs hxc;have n:AV.flat (xs ++[D])=AV.flat xs ++[D]:=by unfold AV.flat;rw[yb];exact congrArg (fun l=>List.flatMap AV.cells _ ++l) hfa
  rw[n]at T;rw[←xe];simp only[Array.toList_append];by_cases N:t<(AV.flat xs).length
  ·rw[xU N]at T
   obtain⟨X,A,h1,h2⟩:=F t c T;have:t<f.length:=by omega
   exact⟨X,by rw[xM,xU (by simpa using this)];exact A,h1,h2.mono H⟩
  ·rw[xV (by omega)]at T
   have J:=(xE.1 T).1;simp only[xD,xF]at J;have e1:t-(AV.flat xs).length=0:=by omega
   rw[e1]at T;simp only[xl,xA]at T;subst T;refine⟨u, ?_,Q,Y.mono H⟩;rw[xM,xV (by show f.length≤t;omega)];have e2:t-f.toArray.toList.length=0:=by show t-f.length=0;omega
   rw[e2];rfl
 refine⟨rfl, ?_⟩;cases I with
 |slNil _ _ _ ao'=>
  have hf0:(Builtin.firstCells i.size 0 (.slice ao' 0 0)).run P w.drew= .ok ([]:List Value).toArray w.drew:=by
   cases ao' with
   |none=>exact C
   |some a=>exact run_firstCells_some (P:=P) w.drew i.size 0 a 0 0 [] (by simp) (by simp)
  have q:=bu (w:=w) t t' ty e i z hu hta hi hiz ao' 0 0 [] hf0 _ 1 [u] hxl hfd (by omega) (by omega) hby;have hge:=grownCap_ge w (0+1) 0 e;have V:=r 0 0 [] rfl;obtain⟨g1,g2⟩:=hrd.newOb k 1 (grownCap w (0+1) 0 e) (es.take 0 ++[D]) _ e V (by simp;omega) (by simpa using hca) (fun _=>by simpa using hla) (by simpa using p [] (Builtin.zeroCells z.cells (grownCap w (0+1) 0 e-(0+1))) [] rfl (by simp) (by simp[AV.flat]));refine⟨_,_,_,q,H.trans g2,g1, ?_⟩;have:=Rep.sl (w:=w.drew.alloc (.cells (([]:List Value).toArray ++[u].toArray ++Builtin.zeroCells z.cells (grownCap w (0+1) 0 e-(0+1))) e)) k ((h k).ver+1) 0 (0+1) (grownCap w (0+1) 0 e) _ (Gh.at_same G k ((h k).ver+1) ⟨w.heap.size,1,grownCap w (0+1) 0 e,0,e⟩) (by simp) (by omega);simpa using this
 |sl _ _ _ _ K L hL hcap hlc=>
  rcases hr.objs k _ hob with ⟨_,hLn⟩|⟨L',hL',h1,h2,h3,h4,h6,h5⟩
  ·rw[hL]at hLn;cases hLn
  ·rw[hL]at hL'
   simp only[xA]at hL';subst hL';obtain⟨hB,⟨arr,e',hb,has⟩,_⟩:=hr.own k L hL;have htc:∀y∈es.take d,y.cells.length=1:=fun y g=>h4 y (yR g)
   have W:∀y∈es.take d ++[D],y.cells.length=1:=fun y g=>by
    rcases xZ.1 g with g|g
    ·exact htc y g
    ·exact hca y g
   have hlo':(1:Nat)=1→∀y∈es.take d ++[D],y.lone=true:=fun _ y g=>by
    rcases xZ.1 g with g|g
    ·exact h6 rfl y (yR g)
    ·exact hla y g
   have hfl2:(AV.flat (es.take d)).length=d:=by rw[AV.flat,cH _ _ _ htc,N,Nat.mul_one]
   have F:∀(t:Nat)(c:AV),(AV.flat (es.take d))[t]? =some c→∃u:Value,arr[t]? =some u∧u.oneCell'=true∧Rep G w c u:=by
    intro t c T
    have:AV.flat es=AV.flat (es.take d) ++AV.flat (es.drop d):=by
     show List.flatMap _ _=List.flatMap _ _ ++List.flatMap _ _;rw[←yb,List.take_append_drop]
    have J:=(xE.1 T).1;obtain⟨u,A,Q,Y⟩:=h5 t c (by rw[this,xU J];exact T);exact⟨u,by simpa [World.cell?,hb]using A,Q,Y⟩
   have hz1:(⟨L.b,0*L.sz,none⟩:Addr)=⟨L.b,0,none⟩:=by simp
   rw[hz1];have hasz:arr.size=L.cap:=by rw[has.1,h1,Nat.mul_one]
   by_cases M:d+1≤K
   ·have R:d*i.size+[u].length≤arr.size:=by rw[o,hasz];simp;omega
    have q:=gy t t' ty e e' i hu hta hi L.b d K arr hb _ 1 [u] (hxl w) hfw (fun y g=>by rw[xK]at g;subst g;exact Q) M R;have hseg:=fun s=>lG arr.toList [u] (d*i.size) s (by simpa using R)
    obtain⟨g1,g2⟩:=hr.regrow (es':=es.take d ++[D]) hL h1 h2 hb (arr':=(arr.toList.take (d*i.size) ++[u] ++arr.toList.drop (d*i.size+[u].length)).toArray) (by simp;simp at R;omega) (by simp;omega) W hlo' (fun s c I=>by
     have n:AV.flat (es.take d ++[D])=AV.flat (es.take d) ++[D]:=by unfold AV.flat;rw[yb];exact congrArg (fun l=>List.flatMap AV.cells _ ++l) hfa
     rw[n]at I;rw[yY,hseg s];by_cases hsl:s<(AV.flat (es.take d)).length
     ·rw[xU hsl]at I
      obtain⟨X,A,h1',h2'⟩:=F s c I;refine⟨X, ?_,h1',h2'⟩;rw[x9 (by rw[o];omega)];simpa using A
     ·rw[xV (by omega)]at I
      have J:=(xE.1 I).1;simp only[xD,xF]at J;have e1:s-(AV.flat (es.take d)).length=0:=by omega
      rw[e1]at I;simp only[xl,xA]at I;subst I;refine⟨u, ?_,Q,Y⟩;rw[xj (by rw[o];omega),x9 (by rw[o];simp;omega),show s-d*i.size=0 by rw[o];omega];rfl)
    refine⟨_,_,_,q,g2,g1, ?_⟩;have:=Rep.sl (w:=w.setRow L.b (arr.toList.take (d*i.size) ++[u] ++arr.toList.drop (d*i.size+[u].length)).toArray) k ((h k).ver+1) 0 (d+1) K L (Gh.at_same G k ((h k).ver+1) L) hcap M;rw[hz1,h1]at this;exact this
   ·have hfo:(Builtin.firstCells i.size d (.slice (some ⟨L.b,0,none⟩) d K)).run P w.drew= .ok (arr.toList.take (d*i.size)).toArray w.drew:=by
      refine run_firstCells_some (P:=P) w.drew i.size d ⟨L.b,0,none⟩ d K _ ?_ (fun j v hj=> ?_)
      ·have:d*i.size≤arr.size:=by rw[o,hasz];omega
       simp;omega
      ·rw[yG]at hj
       split at hj
       ·rw[dn,xb]
        show w.cell? _=_;simpa [World.cell?,hb]using hj
       ·cases hj
    have O:(arr.toList.take (d*i.size)).length=d:=by
     rw[o];simp;omega
    have q:=bu (w:=w) t t' ty e i z hu hta hi hiz (some ⟨L.b,0,none⟩) d K _ hfo _ 1 [u] hxl hfd (by omega) hle hby;have hge:=grownCap_ge w (d+1) K e;have V:=r d K _ O
    obtain⟨g1,g2⟩:=hrd.newOb k 1 (grownCap w (d+1) K e) (es.take d ++[D]) _ e V (by rw[xC,N];simp;omega) W hlo' (p (arr.toList.take (d*i.size)) (Builtin.zeroCells z.cells (grownCap w (d+1) K e-(d+1))) (es.take d) (by rw[O,N]) htc (fun s c I=>by
     obtain⟨X,A,h1',h2'⟩:=F s c I;have J:=(xE.1 I).1;refine⟨X, ?_,h1',h2'⟩;rw[yG,x9 (by rw[o];omega)];simpa using A))
    refine⟨_,_,_,q,H.trans g2,g1, ?_⟩;have:=Rep.sl (w:=w.drew.alloc (.cells ((arr.toList.take (d*i.size)).toArray ++[u].toArray ++Builtin.zeroCells z.cells (grownCap w (d+1) K e-(d+1))) e)) k ((h k).ver+1) 0 (d+1) (grownCap w (d+1) K e) _ (Gh.at_same G k ((h k).ver+1) ⟨w.heap.size,1,grownCap w (d+1) K e,0,e⟩) (by simp) (by omega);simpa using this
theorem pL(hr:HR G B w0 I0 h w){t t' ty:TypeId}(hta:pH P t t'=true){s x:AV}{k:Nat}{vs vx:Value}(hs:Rep G w s vs)(hx:Rep G w x vx){out:Out}(p:gw P t s x k h=some out):
    out.ob=[]∧∃v T Z,(Builtin.append_ #[t,t'] ty #[vs,vx]).run P w= .ok v T∧Ext G w Z T∧HR Z B w0 I0 (ap h out.wr) T∧Rep Z T out.val v:=by
 unfold gw at p;split at p;case h_2=>cases p
 rename_i e hu;split at p;case h_2=>cases p
 rename_i z kx vx1 offx lenx sz2 hz;split at p;case h_2=>cases p
 rename_i szx E M;split at p;case isFalse=>cases p
 rename_i hc;obtain⟨rfl,rfl,rfl,rfl,hce,S,hzs,A⟩:=hc;simp only[xA]at p;subst p;obtain⟨i,hi,hiz,hsz,hbe⟩:=lH hz;rw[hbe]at S;have his:i.size=1:=by rw[←hsz];exact hce
 cases hx with
 |sl _ _ _ _ cx I hLx W hlcx=>
 rcases hr.objs kx _ M with ⟨h9,_⟩|⟨Lx',q,q1,q2,q3,q4,q6,q5⟩
 ·cases h9
 rw[hLx]at q;simp only[xA]at q;subst q;obtain⟨u,hu0,hu1,hur⟩:=q5 0 E (by rw[AV.flat,yB,List.flatMap_nil,AV.cells_lone (AV.isRef_lone A)];rfl);have Q:w.cell? ⟨I.b,0,none⟩=some u:=hu0;have hz0:(⟨I.b,0*I.sz,none⟩:Addr)=⟨I.b,0,none⟩:=by simp
 rw[hz0];have hxl:∀C:World,(Builtin.lenOf (.slice (some ⟨I.b,0,none⟩) 1 cx)).run P C= .ok 1 C:=fun C=>by simp[Builtin.lenOf]
 have hf:∀C:World,(∀a,C.cell? a=w.cell? a)→(Builtin.firstCells i.size 1 (.slice (some ⟨I.b,0,none⟩) 1 cx)).run P C= .ok [u].toArray C:=fun C hw2=>by
  refine run_firstCells_some (P:=P) C i.size 1 ⟨I.b,0,none⟩ 1 cx [u] (by simp[his]) (fun j v V=> ?_);cases j with
  |zero=>
   rw[dn];simp only[xl,xA]at V;subst V;rw[hw2];exact Q
  |succ j=>simp at V
 have hfw:=hf w (fun _=>rfl);have X:=hf w.drew (fun _=>rfl);have r:Ext G w G w.drew:=Ext.drew G w;have hrd:=hr.drew;have g:(Builtin.firstCells i.size 0 (.slice none 0 0)).run P w.drew= .ok ([]:List Value).toArray w.drew:=by simp[Builtin.firstCells]
 have U:∀y∈[E],y.cells.length=1:=fun y N=>by rw[xK]at N;subst N;rw[AV.cells_lone (AV.isRef_lone A)];rfl
 have hla:∀y∈[E],y.lone=true:=fun y N=>by rw[xK]at N;subst N;exact AV.isRef_lone A
 have hfa:AV.flat [E]=[E]:=by rw[AV.flat,yB,List.flatMap_nil,AV.cells_lone (AV.isRef_lone A)];rfl
 have o:∀(f m:Nat)(d:List Value),d.length=f→
     (d.toArray ++[u].toArray ++Builtin.zeroCells z.cells (grownCap w (f+1) m e-(f+1))).size=grownCap w (f+1) m e*1:=by
  intro f m d L;have hge:=grownCap_ge w (f+1) m e;simp only[Array.size_append,uH,hzs,List.size_toArray,xD,xF,L];omega
 have n:∀(d:List Value)(F:Array Value)(xs:List AV),d.length=xs.length→(∀y∈xs,y.cells.length=1)→(∀(t:Nat)(c:AV),(AV.flat xs)[t]? =some c→∃u:Value,d[t]? =some u∧u.oneCell'=true∧Rep G w c u)→
     ∀(t:Nat)(c:AV),(AV.flat (xs ++[E]))[t]? =some c→∃J:Value,(d.toArray ++[u].toArray ++F)[t]? =some J∧J.oneCell'=true∧Rep G w.drew c J:=by
  intro d F xs L hxc O t c H;have hfl2:(AV.flat xs).length=xs.length*1:=cH _ _ xs hxc;have D:AV.flat (xs ++[E])=AV.flat xs ++[E]:=by unfold AV.flat;rw[yb];exact congrArg (fun l=>List.flatMap AV.cells _ ++l) hfa
  rw[D]at H;rw[←xe];simp only[Array.toList_append];by_cases htl:t<(AV.flat xs).length
  ·rw[xU htl]at H
   obtain⟨J,hu',h1,h2⟩:=O t c H;have:t<d.length:=by omega
   exact⟨J,by rw[xM,xU (by simpa using this)];exact hu',h1,h2.mono r⟩
  ·rw[xV (by omega)]at H
   have Y:=(xE.1 H).1;simp only[xD,xF]at Y;have e1:t-(AV.flat xs).length=0:=by omega
   rw[e1]at H;simp only[xl,xA]at H;subst H;refine⟨u, ?_,hu1,hur.mono r⟩;rw[xM,xV (by show d.length≤t;omega)];have e2:t-d.toArray.toList.length=0:=by show t-d.length=0;omega
   rw[e2];rfl
 refine⟨rfl, ?_⟩;cases hs;have K:=bu (w:=w) t t' ty e i z hu hta hi hiz none 0 0 [] g _ 1 [u] hxl X (by omega) (by omega) S;have hge:=grownCap_ge w (0+1) 0 e;have R:=o 0 0 [] rfl;obtain⟨g1,g2⟩:=hrd.newOb k 1 (grownCap w (0+1) 0 e) [E] _ e R (by simp;omega) (by simpa using U) (fun _=>by simpa using hla) (by simpa using n [] (Builtin.zeroCells z.cells (grownCap w (0+1) 0 e-(0+1))) [] rfl (by simp) (by simp[AV.flat]));refine⟨_,_,_,K,r.trans g2,g1, ?_⟩;have:=Rep.sl (w:=w.drew.alloc (.cells (([]:List Value).toArray ++[u].toArray ++Builtin.zeroCells z.cells (grownCap w (0+1) 0 e-(0+1))) e)) k ((h k).ver+1) 0 (0+1) (grownCap w (0+1) 0 e) _ (Gh.at_same G k ((h k).ver+1) ⟨w.heap.size,1,grownCap w (0+1) 0 e,0,e⟩) (by simp) (by omega);simpa using this
end
end Go.Avm
namespace Go.Avm
open Go.RowKit
variable[aG]
variable{P:Program}{G:Gh}{B:Nat}{w0 w:World}{I0:Nat→Nat→Prop}{h:aa}
theorem HR.allocAny(a:HR G B w0 I0 h w)(o:Obj):HR G B w0 I0 h (w.alloc o):=
 ⟨a.below.alloc a.bsz _,by have:=a.bsz;simp;omega,fun b o x=>by have:=a.immlt b o x;simp;omega,a.i0,a.immlow,a.fresh,fun d k c=>by
  obtain⟨i,⟨arr',f,h2,j⟩,g⟩:=a.own d k c;exact⟨i,⟨arr',f,(dw (a.blt c)).trans h2,j⟩,g⟩,a.dis,fun d ob l=>(a.objs d ob l).mono (a.le d) (Ext.alloc a o) (fun L e t=>cI (a.blt e)),a.lim,
  a.maps.step (Ext.alloc a o) rfl (jL w _) (fun _=>xS _) (fun _ _ _ _=>rfl)⟩
def Gh.atMap(G:Gh)(k v b:Nat):Gh:={G with mloc:=fun a c=>if a=k∧c=v then some b else G.mloc a c,lim:=aJ G.lim k v}
theorem HR.noneMap(b:HR G B w0 I0 h w)(k:Nat):G.mloc k ((h k).ver+1)=none:=by
 cases a:G.mloc k ((h k).ver+1)with
 |none=>rfl
 |some L=>have:=(b.maps.low _ _ _ a).2.2;omega
theorem HR.newFixO(f:HR G B w0 I0 h w)(k:Nat){b:Nat}{oo:Option Ob}{o:Obj}(hfl:∀o',oo=some o'→o'.flex=false)(hB:B≤b)(s:∀a,a≠k→jm (h a).ob=true→G.mloc a (h a).ver≠some b)(Z:m5 o=true)(V:w.heap[b]? =some o)
    (hm:∀es c,oo=some (.map es c)→EA G.imm w b es c) (T:∀y N env ps Y0 I K,oo=some (.lp y N env ps Y0 I K)→∃r,w.heap[b]? =some (.loop r)∧LRep G w N env ps Y0 I K r)
    (U:∀Q M e seen,oo=some (.itr Q M e seen)→∃A C D,G.mloc Q M=some A∧w.heap[b]? =some (.mapIter (some A) e C D)∧C.toList=seen∧D=e):
    HR (G.atMap k ((h k).ver+1) b) B w0 I0 (aJ h k ⟨(h k).ver+1,oo⟩) w∧Ext G w (G.atMap k ((h k).ver+1) b) w:=by
 have F:=f.noneMap k
 have hex:Ext G w (G.atMap k ((h k).ver+1) b) w:=⟨fun _ _ x=>x,fun _ _ _ x=>x,fun _ _ _=>rfl,xS _,fun a=>by
  by_cases d:a=k
  ·subst d;show _≤aJ G.lim a _ a;rw[ad,f.lim];omega
  ·show _≤aJ G.lim k _ a;rw[ae _ _ d];exact xS _,fun _ _ _ x=>x,fun a l i x=>by
  show(if a=k∧l=(h k).ver+1 then some b else G.mloc a l)=some i;rw[xj (by rintro⟨rfl,rfl⟩;rw[F]at x;cases x)];exact x,ej rfl⟩
 have u:∀a p,G.loc a (aJ h k ⟨(h k).ver+1,oo⟩ a).ver=some p→a≠k∧G.loc a (h a).ver=some p:=by
  intro a p E;by_cases d:a=k
  ·subst d;rw[ad]at E;simp only[f.none_next a]at E;cases E
  ·rw[ae _ _ d]at E;exact⟨d,E⟩
 refine⟨⟨f.below,f.bsz,f.immlt,f.i0,f.immlow, ?_,fun a p x=>f.own a p (u a p x).2,fun S O L1 L2 Y W=>f.dis S O L1 L2 (u _ _ Y).2 (u _ _ W).2, ?_,fun a=>by
  by_cases d:a=k
  ·subst d;rw[ad];exact ad _ _ _
  ·rw[ae _ _ d];exact(ae _ _ d).trans (f.lim a), ?_⟩,hex⟩
 ·intro a v p x
  have:=f.fresh a v p x;by_cases d:a=k
  ·subst d;rw[ad];show v≤_+1;omega
  ·rw[ae _ _ d];exact this
 ·intro a X g
  by_cases d:a=k
  ·subst d
   rw[ad]at g ⊢;have q:=hfl X g;cases X with
   |arr _ _=>cases q
   |typ _ _ _ _=>cases q
   |map _ _=>trivial
   |lp _ _ _ _ _ _ _=>trivial
   |itr _ _ _ _=>trivial
  ·rw[ae _ _ d]at g ⊢
   exact(f.objs a X g).mono (f.le a) hex (fun _ _ _=>rfl)
 ·have t:∀a l i,(G.atMap k ((h k).ver+1) b).mloc a l=some i→(a=k∧l=(h k).ver+1∧i=b)∨G.mloc a l=some i:=by
    intro a l i x
    replace x:(if a=k∧l=(h k).ver+1 then some b else G.mloc a l)=some i:=x
    split at x
    ·rename_i hc;simp only[xA]at x;exact .inl ⟨hc.1,hc.2,x.symm⟩
    ·exact .inr x
  refine⟨fun a l i x=> ?_,fun S O i J H Y W=> ?_,fun a es' c' g=> ?_,fun a y N env ps Y0 I K g=> ?_,fun a Q M e seen g=> ?_,f.maps.glob⟩
  ·rcases t _ _ _ x with ⟨rfl,rfl,rfl⟩|x
   ·exact⟨hB,⟨o,Z,V⟩,by rw[ad];exact xS _⟩
   ·obtain⟨j,h2,z⟩:=f.maps.low _ _ _ x
    refine⟨j,h2, ?_⟩;by_cases d:a=k
    ·subst d;rw[ad];show l≤_+1;omega
    ·rw[ae _ _ d];exact z
  ·rcases t _ _ _ Y with ⟨g1,g2,g3⟩|m<;>rcases t _ _ _ W with ⟨j,h2,z⟩|n
   ·exact g1.trans j.symm
   ·have R:O≠k:=by
      rintro rfl;rw[ad]at n;rw[F]at n;cases n
    rw[ae _ _ R]at n H;exact absurd (g3▸n) (s _ R H)
   ·have L:S≠k:=by
      rintro rfl;rw[ad]at m;rw[F]at m;cases m
    rw[ae _ _ L]at m J;exact absurd (z▸m) (s _ L J)
   ·have L:S≠k:=by
      rintro rfl;rw[ad]at m;rw[F]at m;cases m
    have R:O≠k:=by
     rintro rfl;rw[ad]at n;rw[F]at n;cases n
    rw[ae _ _ L]at m J;rw[ae _ _ R]at n H;exact f.maps.inj _ _ _ J H m n
  ·by_cases d:a=k
   ·subst d
    rw[ad]at g ⊢;exact⟨b,by simp[Gh.atMap],hm _ _ g⟩
   ·rw[ae _ _ d]at g ⊢
    obtain⟨i,j,h2⟩:=f.maps.obj a es' c' g;exact⟨i,hex.mloc _ _ _ j,h2⟩
  ·by_cases d:a=k
   ·subst d
    rw[ad]at g ⊢;obtain⟨r,j,h2⟩:=T _ _ _ _ _ _ _ g;exact⟨b,r,by simp[Gh.atMap],j,h2.mono hex⟩
   ·rw[ae _ _ d]at g ⊢
    obtain⟨i,r,j,h2,z⟩:=f.maps.loops a y N env ps Y0 I K g;exact⟨i,r,hex.mloc _ _ _ j,h2,z.mono hex⟩
  ·by_cases d:a=k
   ·subst d
    rw[ad]at g ⊢;obtain⟨A,C,D,j,h2⟩:=U _ _ _ _ g;exact⟨b,A,C,D,by simp[Gh.atMap],hex.mloc _ _ _ j,h2⟩
   ·rw[ae _ _ d]at g ⊢
    obtain⟨i,A,C,D,j,h2,z⟩:=f.maps.iters a Q M e seen g;exact⟨i,A,C,D,hex.mloc _ _ _ j,hex.mloc _ _ _ h2,z⟩
theorem HR.newFix(t:HR G B w0 I0 h w)(k:Nat){b:Nat}{ob:Ob}{o:Obj}(i:ob.flex=false)(n:∀s m a seen,ob≠ .itr s m a seen)(hB:B≤b)(d:∀k v,G.mloc k v≠some b)(g:m5 o=true)(q:w.heap[b]? =some o)
    (hm:∀es c,ob= .map es c→EA G.imm w b es c) (l:∀f N env ps Y0 j p,ob= .lp f N env ps Y0 j p→∃r,w.heap[b]? =some (.loop r)∧LRep G w N env ps Y0 j p r):
    HR (G.atMap k ((h k).ver+1) b) B w0 I0 (aJ h k ⟨(h k).ver+1,some ob⟩) w∧Ext G w (G.atMap k ((h k).ver+1) b) w:=
 t.newFixO k (oo:=some ob) (fun o' e=>by cases e;exact i) hB (fun _ _ _=>d _ _) g q (fun es c e=>by cases e;exact hm _ _ rfl) (fun f N env ps Y0 j p e=>by cases e;exact l _ _ _ _ _ _ _ rfl) (fun s m a seen e=>absurd (Option.some.inj e) (n s m a seen))
theorem HR.newMap(g:HR G B w0 I0 h w)(k:Nat){b c:Nat}{es:List (D×D×Nat)}(hB:B≤b)(a:∀k v,G.mloc k v≠some b)(hm:EA G.imm w b es c):
    HR (G.atMap k ((h k).ver+1) b) B w0 I0 (aJ h k ⟨(h k).ver+1,some (.map es c)⟩) w∧Ext G w (G.atMap k ((h k).ver+1) b) w:=by
 have d:=hm;obtain⟨i,f,_,_⟩:=hm;exact g.newFix k rfl (fun _ _ _ _ e=>by cases e) hB a (o:= .map i c) rfl f (fun es' c' e=>by cases e;exact d) (fun _ _ _ _ _ _ _ e=>by cases e)
theorem HR.setFix(n:HR G B w0 I0 h w){k b:Nat}{o o':Obj}{ob':Option Ob}(s:jm (h k).ob=true)(C:G.mloc k (h k).ver=some b)(T:w.heap[b]? =some o)(O:m5 o=true)(A:m5 o'=true)(hbk:mt o=true→jb o o')(hfl:∀x,ob'=some x→x.flex=false)
    (hm:∀es c,ob'=some (.map es c)→EA G.imm (w.putObj b o') b es c) (X:∀D N env ps Y0 S U,ob'=some (.lp D N env ps Y0 S U)→∃r,(w.putObj b o').heap[b]? =some (.loop r)∧LRep G w N env ps Y0 S U r)
    (Y:∀W V d seen,ob'=some (.itr W V d seen)→∃F H I,G.mloc W V=some F∧(w.putObj b o').heap[b]? =some (.mapIter (some F) d H I)∧H.toList=seen∧I=d:=by intro _ _ _ _ e;cases e):
    HR G B w0 I0 (aJ h k ⟨(h k).ver,ob'⟩) (w.putObj b o')∧Ext G w G (w.putObj b o'):=by
 have E:b<w.heap.size:=(xQ.1 T).1;have hB:B≤b:=(n.maps.low _ _ _ C).1
 have y:∀p i,(w.putObj b o').cell? ⟨p,i,none⟩=w.cell? ⟨p,i,none⟩:=by
  intro p i;by_cases f:p=b
  ·subst f
   simp only[World.cell?,World.putObj_heap_same E,T];cases o<;>cases o'<;>first|rfl|(cases O;done)|(cases A;done)
  ·simp only[World.cell?,World.putObj_heap_other f]
 have hex:Ext G w G (w.putObj b o'):=⟨fun _ _ x=>x,fun _ _ _ x=>x,fun p i _=>y p i,by simp,fun _=>xS _,fun _ _ _ x=>x,fun _ _ _ x=>x,fun p R j x=>by
  by_cases Q:p=b
  ·subst Q
   rw[T]at x;cases x;exact⟨o',World.putObj_heap_same E,hbk j⟩
  ·exact⟨R,by rw[World.putObj_heap_other Q];exact x,eC R⟩⟩
 have q:∀a,(aJ h k ⟨(h k).ver,ob'⟩ a).ver=(h a).ver:=by
  intro a;by_cases j:a=k
  ·subst j;rw[ad]
  ·rw[ae _ _ j]
 refine⟨⟨n.below.trans ⟨rfl,rfl,rfl,by simp,fun a hk'=>World.putObj_heap_other (by omega)⟩,by simpa using n.bsz,fun b o x=>by simpa using n.immlt b o x,n.i0,n.immlow,fun a v Z x=>by rw[q];exact n.fresh a v Z x,fun a Z x=> ?_,
  fun k1 k2 L1 L2 M K=>by rw[q]at M K;exact n.dis k1 k2 L1 L2 M K,fun a ob g=> ?_,fun a=>by rw[q];exact n.lim a, ?_⟩,hex⟩
 ·rw[q]at x
  obtain⟨u,⟨a1,e1,h2,z⟩,J⟩:=n.own a Z x;exact⟨u,⟨a1,e1,by rw[World.putObj_heap_other (by rintro rfl;rw[T]at h2;cases h2;cases O)];exact h2,z⟩,J⟩
 ·by_cases j:a=k
  ·subst j
   rw[ad]at g ⊢;have:=hfl _ g;cases ob with
   |arr _ _=>cases this
   |typ _ _ _ _=>cases this
   |map _ _=>trivial
   |lp _ _ _ _ _ _ _=>trivial
   |itr _ _ _ _=>trivial
  ·rw[ae _ _ j]at g ⊢
   exact(n.objs a ob g).mono (n.le a) hex (fun L C t=>y _ _)
 ·refine⟨fun a v' p x=> ?_,fun k1 k2 p l1 l2 M K=> ?_,fun a es1 c1 g=> ?_,fun a D N env ps Y0 S U g=> ?_,fun a W V d seen g=> ?_,n.maps.glob.mono hex.imm hex.cell⟩
  ·obtain⟨u,⟨R,h2,h2'⟩,z⟩:=n.maps.low _ _ _ x
   refine⟨u, ?_,by rw[q];exact z⟩;by_cases f:p=b
   ·subst f;exact⟨_,A,World.putObj_heap_same E⟩
   ·exact⟨R,h2,by rw[World.putObj_heap_other f];exact h2'⟩
  ·have lv:∀a,jm (aJ h k ⟨(h k).ver,ob'⟩ a).ob=true→jm (h a).ob=true:=fun a l=>by
     by_cases j:a=k
     ·subst j;exact s
     ·rw[ae _ _ j]at l;exact l
   rw[q]at M K;exact n.maps.inj _ _ _ (lv _ l1) (lv _ l2) M K
  ·by_cases j:a=k
   ·subst j
    rw[ad]at g ⊢;exact⟨b,C,hm _ _ g⟩
   ·rw[ae _ _ j]at g ⊢
    obtain⟨p,u,ms1,h2,z,J⟩:=n.maps.obj a es1 c1 g
    have f:p≠b:=by
     rintro rfl;exact j (n.maps.inj _ _ _ (by rw[g];rfl) s u C)
    exact⟨p,u,ms1,by rw[World.putObj_heap_other f];exact h2,z,fun i e m he hm=>by
     obtain⟨g1,g2,g3⟩:=J i e m he hm;exact⟨g1.mono hex.imm hex.cell,g2.mono hex.imm hex.cell,g3⟩⟩
  ·by_cases j:a=k
   ·subst j
    rw[ad]at g ⊢;obtain⟨r,u,h2⟩:=X _ _ _ _ _ _ _ g;exact⟨b,r,C,u,h2.mono hex⟩
   ·rw[ae _ _ j]at g ⊢
    obtain⟨p,r,u,h2,z⟩:=n.maps.loops a D N env ps Y0 S U g
    have f:p≠b:=by
     rintro rfl;exact j (n.maps.inj _ _ _ (by rw[g];rfl) s u C)
    exact⟨p,r,u,by rw[World.putObj_heap_other f];exact h2,z.mono hex⟩
  ·by_cases j:a=k
   ·subst j
    rw[ad]at g ⊢;obtain⟨F,H,I,u,h2⟩:=Y _ _ _ _ g;exact⟨b,F,H,I,C,u,h2⟩
   ·rw[ae _ _ j]at g ⊢
    obtain⟨p,F,H,I,u,h2,z,J⟩:=n.maps.iters a W V d seen g
    have f:p≠b:=by
     rintro rfl;exact j (n.maps.inj _ _ _ (by rw[g];rfl) s u C)
    exact⟨p,F,H,I,u,h2,by rw[World.putObj_heap_other f];exact z,J⟩
theorem HR.setMap(r:HR G B w0 I0 h w){k b c c':Nat}{v ms':Array MapEntry}{es':List (D×D×Nat)}(d:jm (h k).ob=true)(p:G.mloc k (h k).ver=some b)(n:w.heap[b]? =some (.map v c))(o:ms'.size=es'.length)
    (j:∀(i:Nat)(e:D×D×Nat)(m:MapEntry),es'[i]? =some e→ms'[i]? =some m→DRep G.imm w e.1 m.key∧DRep G.imm w e.2.1 m.val∧m.born=e.2.2):
    HR G B w0 I0 (aJ h k ⟨(h k).ver,some (.map es' c')⟩) (w.putObj b (.map ms' c'))∧Ext G w G (w.putObj b (.map ms' c')):=by
 have f:b<w.heap.size:=(xQ.1 n).1;refine r.setFix d p n rfl rfl (fun x=>by cases x) (fun x e=>by cases e;rfl) (fun es c e=> ?_) (fun _ _ _ _ _ _ _ e=>by cases e);cases e
 have a:∀l i,(w.putObj b (.map ms' c')).cell? ⟨l,i,none⟩=w.cell? ⟨l,i,none⟩:=by
  intro l i;by_cases g:l=b
  ·subst g
   simp only[World.cell?,World.putObj_heap_same f,n]
  ·simp only[World.cell?,World.putObj_heap_other g]
 exact⟨ms',World.putObj_heap_same f,o,fun i e m t hm=>by
  obtain⟨q,u,s⟩:=j i e m t hm;exact⟨q.mono (fun _ _ x=>x) (fun _ _ _=>a _ _),u.mono (fun _ _ x=>x) (fun _ _ _=>a _ _),s⟩⟩
theorem pM(d:HR G B w0 I0 h w){k:Nat}{t:TypeId}{out:Out}(l:fD k h=some out):
    out.ob=[]∧∃v a j,(Instr.makeMap t none).run P w= .ok v a∧Ext G w j a∧HR j B w0 I0 (ap h out.wr) a∧Rep j a out.val v:=by
 simp only[fD,xA]at l;subst l;have g:=d.allocAny (.map #[] 0);have q:=Ext.alloc d (.map #[] 0)
 obtain⟨f,n⟩:=g.newMap k (b:=w.heap.size) (c:=0) (es:=[]) d.bsz (fun k v x=>by
  obtain⟨_,⟨o,_,h2⟩,_⟩:=d.maps.low _ _ _ x;have:=(xQ.1 h2).1;omega) ⟨#[],heap_alloc_new w _,rfl,fun i e m p=>by simp at p⟩
 exact⟨rfl,_,_,_,rfl,q.trans n,f, .mp _ _ _ (by simp[Gh.atMap])⟩
theorem HR.marked(d:HR G B w0 I0 h w){b:Nat}{C:Array Value}{e:TypeId}{fz fz':Nat×Nat}(q:w.heap[b]? =some (.cells C e fz))(hB:B≤b)(r:∀k L,G.loc k (h k).ver=some L→L.b≠b){j:World}
    (n:j={w with heap:=w.heap.setIfInBounds b (.cells C e fz')}):HR G B w0 I0 h j∧Ext G w G j:=by
 have t:=(xQ.1 q).1
 have a:∀i,i≠b→j.heap[i]? =w.heap[i]? :=fun i D=>by
  subst n;show(w.heap.setIfInBounds b _)[i]? =_;rw[Array.getElem?_setIfInBounds_ne (Ne.symm D)]
 have m:j.heap[b]? =some (.cells C e fz'):=by
  subst n;show(w.heap.setIfInBounds b _)[b]? =_;rw[Array.getElem?_setIfInBounds_self_of_lt t]
 have f:∀p:Addr,j.cell? p=w.cell? p:=fun p=>by
  unfold World.cell?;by_cases hp:p.block=b
  ·rw[hp,m,q]
  ·rw[a _ hp]
 have g:j.heap.size=w.heap.size:=by subst n;show(w.heap.setIfInBounds b _).size=_;simp
 have hex:Ext G w G j:=⟨fun _ _ x=>x,fun _ _ _ x=>x,fun _ _ _=>f _,by rw[g];exact xS _,fun _=>xS _,fun _ _ _ x=>x,fun _ _ _ x=>x,fun F o v x=>by
  have l:F≠b:=by
   rintro rfl;rw[q]at x;cases x;cases v
  exact⟨o,by rw[a _ l];exact x,eC o⟩⟩
 refine⟨⟨?_,by rw[g];exact d.bsz,fun b o x=>by rw[g];exact d.immlt b o x,d.i0,d.immlow,d.fresh,fun k L u=> ?_,d.dis,fun k ob A=>(d.objs k ob A).mono (d.le k) hex (fun _ _ _=>f _),d.lim, ?_⟩,hex⟩
 ·exact d.below.trans ⟨by subst n;rfl,by subst n;rfl,by subst n;rfl,by rw[g];exact xS _,fun k v=>a k (by omega)⟩
 ·obtain⟨E,⟨arr,y,h2,H⟩,z⟩:=d.own k L u
  exact⟨E,⟨arr,y,by rw[a _ (r k L u)];exact h2,H⟩,z⟩
 ·exact d.maps.step hex rfl (fun c o s x=>by
    have l:c≠b:=by
     rintro rfl;rw[q]at x;cases x;cases s
    rw[a _ l];exact x) (fun _=>xS _) (fun _ _ _ _=>rfl)
theorem oq(r:HR G B w0 I0 h w){src dst:TypeId}{x:AV}{U:Value}(J:Rep G w x U){out:Out}(c:dY P src dst x h=some out):
    out.ob=[]∧∃v s N,(convert src dst U).run P w= .ok v s∧Ext G w N s∧HR N B w0 I0 (ap h out.wr) s∧Rep N s out.val v:=by
 unfold dY at c;split at c;case h_2=>cases c
 rename_i e k v y l Y;split at c;case isFalse=>cases c
 rename_i Z;obtain⟨rfl,X⟩:=Z;split at c;case h_2=>cases c
 rename_i z;simp only[xA]at c;subst c;generalize V:(1:Nat)=sz at J;generalize q:y::l=ll at J;cases J with
 |vecNil=>cases q
 |vec _ _ _ L Q hfr S R p=>
 subst q;subst X;obtain⟨hB,⟨arr,et,t,T⟩,_⟩:=r.own k L Q;have j:=r.kill [k];have n:=Ext.froz r [k]
 have I:∀g m,(G.froz h [k]).loc g ((ap h (kill h [k])) g).ver=some m→m.b≠L.b:=fun g m M O=>by
  have a:G.loc g ((ap h (kill h [k])) g).ver=some m:=M;rw[bz]at a;by_cases u:g∈[k]
  ·rw[x9 u]at a
   have H:g=k:=by simpa using u
   subst H;have:=r.fresh _ _ _ a;simp at this;omega
  ·rw[xj u]at a
   have:=r.dis g k m L a Q O;subst this;exact u (by simp)
 obtain⟨F,f⟩:=j.marked (b:=L.b) (C:=arr) (e:=et) (fz:=(0,0)) (fz':=(arr.size,arr.size+1)) t hB I rfl;refine⟨rfl, .slice (some ⟨L.b,0,none⟩) (y::l).length L.cap,_,_, ?_,n.trans f,F, .d ?_⟩
 ·have A:w.shape? L.b=some (et,arr.size):=by unfold World.shape?;rw[t]
  have E:w.freeze ⟨L.b,arr.size,none⟩ 1={w with heap:=w.heap.setIfInBounds L.b (.cells arr et (arr.size,arr.size+1))}:=by
   unfold World.freeze;rw[xj (by decide)];congr 1;have W:=(xQ.1 t).1;apply Array.ext
   ·simp
   ·intro i h1 h2
    simp only[Array.getElem_modify,Array.getElem_setIfInBounds];split
    ·rename_i K
     subst K;have:w.heap[L.b]= .cells arr et (0,0):=(xQ.1 t).2;simp[this]
    ·rename_i K
     rw[Array.getElem_setIfInBounds_ne _ K]
  simp[convert,run_underlying Y,run_underlying z,markStringish,A];exact E
 ·exact p.mono (fun b o x=> .inl x) (fun b o D=>f.cell b o (.inl D))
theorem Be(j:HR G B w0 I0 h w){k:Nat}{L:sQ}(l:G.loc k (h k).ver=some L):∀c d,(G.froz h [k]).loc c ((ap h (kill h [k])) c).ver=some d→d.b≠L.b:=fun c d f g=>by
 have a:G.loc c ((ap h (kill h [k])) c).ver=some d:=f;rw[bz]at a;by_cases e:c∈[k]
 ·rw[x9 e]at a
  have i:c=k:=by simpa using e
  subst i;have:=j.fresh _ _ _ a;simp at this;omega
 ·rw[xj e]at a
  have:=j.dis c k d L a l g;subst this;exact e (by simp)
theorem pg:∀{l:List D}{b:List UInt8},my l=some b→l=b.map bx
 |[],b,h=>by simp only[my,xA]at h;subst h;rfl
 |x::r,b,h=>by
  unfold my at h;split at h
  ·rename_i a;cases a
  ·rename_i n f a
   cases a;split at h
   ·rename_i d
    simp only[xB]at h;obtain⟨e,c,rfl⟩:=h;rw[pg c,xN,bx,←d]
   ·cases h
  ·cases h
theorem EE{w:World}{b n:Nat}{arr:Array Value}{e:TypeId}(c:w.heap[b]? =some (.cells arr e (0,0)))(f:n≠0):w.freeze ⟨b,0,none⟩ n={w with heap:=w.heap.setIfInBounds b (.cells arr e (0,0+n))}:=by
 unfold World.freeze;rw[xj f];congr 1;have d:=(xQ.1 c).1;apply Array.ext
 ·simp
 ·intro i g h2
  simp only[Array.getElem_modify,Array.getElem_setIfInBounds];split
  ·rename_i a
   subst a;have:w.heap[b]= .cells arr e (0,0):=(xQ.1 c).2;simp[this]
  ·rename_i a
   rw[Array.getElem_setIfInBounds_ne _ a]
theorem kR(A:HR G B w0 I0 h w){pt it ty:TypeId}{x n:AV}{vx vn:Value}(hx:Rep G w x vx)(Y:Rep G w n vn){out:Out}(f:dc P pt x n h=some out):
    out.ob=[]∧∃v J G',(Builtin.unsafeString_ #[pt,it] ty #[vx,vn]).run P w= .ok v J∧Ext G w G' J∧HR G' B w0 I0 (ap h out.wr) J∧Rep G' J out.val v:=by
 unfold dc at f;split at f;case h_2=>cases f
 rename_i u k v l m hu;split at f;case h_2=>cases f
 rename_i T b I hb;split at f;case isFalse=>cases f
 rename_i hc;obtain⟨hv,rfl,s,rfl,X,R⟩:=hc;simp only[xA]at f;subst f;subst hv;cases Y with
 |d Y=>
 cases Y;cases hx with
 |vp _ _ _ L V h1 E hd=>
 have Q:=(i4 A I L V).1;obtain⟨hB,⟨arr,et,t,H,W⟩,_⟩:=A.own k L V;have K:=pg hb;have g:l.length=b.length:=by rw[K,xO]
 have hf:D.flat l=l:=by
  rw[K];unfold D.flat;generalize b=bs;induction bs with
  |nil=>rfl
  |cons a r ih=>simp only[xN,yB,ih];rfl
 have q:∀j x,b[j]? =some x→w.cell? ((⟨L.b,0,none⟩:Addr).add j)=some (.int .u8 x.toNat):=by
  intro j x hj;have hg:(D.flat l)[j]? =some (bx x):=by rw[hf,K,xP,hj];rfl
  generalize Z:(Value.slice (some ⟨L.b,0,none⟩) l.length L.cap)=vv at hd;cases hd with
  |roNil=>exact absurd rfl s
  |ro _ bb o c sz U hcap hsz h1' hi M O=>
   cases Z;have h2:=M j _ hg;have h3:=O j _ hg;generalize U j=uu at h2 h3;cases h3;rw[dn];exact h2
 have p:=A.kill [k];have y:=Ext.froz A [k];have N:w.shape? L.b=some (T,arr.size):=by unfold World.shape?;rw[t,W,Q]
 have z:b≠[]:=by rintro rfl;exact s (by rw[K];rfl)
 have i:=Lib.run_unsafeString_row (P:=P) w pt it ty T hu X L.b arr.size N b z (by rw[H,h1,Nat.mul_one,←g];exact E) (by rw[←g];exact R) q;rw[EE t (by rw[←g];intro h0;exact s (x7 h0))]at i;obtain⟨S,F⟩:=p.marked (b:=L.b) (C:=arr) (e:=et) (fz:=(0,0)) (fz':=(0,0+b.length)) t hB (Be A V) rfl;rw[g];exact⟨rfl,_,_,_,i,y.trans F,S, .d (.str _ _ (by simp))⟩
theorem ni{x y:AV}{i:Value}(f:Rep G w x i)(a:kK x=some y)(ts:Array TypeId)(ty:TypeId):∃v,(Builtin.unsafeSliceData_ ts ty #[i]).run P w= .ok v w∧Rep G w y v:=by
 unfold kK at a;split at a
 ·rename_i k v sz z l
  split at a
  ·rename_i m
   simp only[xA]at a;subst a;generalize e:z::l=o at f;cases f with
   |vecNil=>cases e
   |vec _ _ _ L j n b g c=>
   subst e;exact⟨_,Lib.run_unsafeSliceData_row w ts ty _ _ _ (by simp at b;omega), .vp k v _ L j m b c⟩
  ·cases a
 ·simp only[xA]at a
  subst a;cases f;exact⟨_,rfl, .d .nilp⟩
 ·cases a
theorem pN(z:HR G B w0 I0 h w){src dst:TypeId}{x:AV}{J:Value}(I:Rep G w x J){out:Out}(a:fC P src dst x h=some out):
    out.wr=[]∧∃v,(convert src dst J).run P w= .ok v w∧Rep G w out.val v:=by
 unfold fC at a;split at a
 ·rename_i t k v i e sz D C
  split at a
  ·rename_i T n d
   split at a
   ·rename_i H
    obtain⟨E,m,g,M⟩:=H;simp only[xA]at a;subst a;subst E;cases I with
    |ptr _ _ _ _ L l=>
    obtain⟨r,F⟩:=i4 z d L l;obtain⟨hB,⟨arr,et,p,c,s⟩,_⟩:=z.own k L l;have f:w.shape? L.b=some (et,arr.size):=by unfold World.shape?;rw[p]
    have y:¬(arr.size≤i*L.sz+e):=by rw[c,F n rfl];omega
    unfold cR at m;unfold Program.cellsOf at g;cases q:P.info? t with
    |none=>rw[q]at m;cases m
    |some j=>
     rw[q]at g;have K:j.size≠0:=g;exact⟨rfl,_,by simp[convert,run_underlying D,run_underlying C,Conv.unsafePointer,Conv.seenAt,viewAt,cellsIn,f,sizeOf,typeInfo,q,K,y], .ptr k _ i e L l⟩
   ·cases a
  ·cases a
 ·rename_i u k v i e sz D C
  split at a
  ·rename_i T n d
   split at a
   ·rename_i H
    obtain⟨E,m,o⟩:=H;simp only[xA]at a;subst a;subst E;cases I with
    |ptr _ _ _ _ L l=>
    obtain⟨r,F⟩:=i4 z d L l;obtain⟨hB,⟨arr,et,p,c,s⟩,_⟩:=z.own k L l;have A:arr.size=n:=by rw[c,F n rfl]
    have f:w.shape? L.b=some (T,n):=by unfold World.shape?;rw[p,←A,←r,←s]
    unfold cR at m;cases q:P.info? u with
    |none=>rw[q]at m;cases m
    |some j=>
     exact⟨rfl,_,by simp[convert,run_underlying D,run_underlying C,Conv.unsafePointer,Conv.seenAt,viewAt,f,variablesAt,o,sizeOf,typeInfo,q], .ptr k _ i e L l⟩
   ·cases a
  ·cases a
 ·cases a
theorem nj{t:TypeId}{x y:AV}{b:Value}(f:Rep G w x b)(a:kL P t x=some y):∃v,(Instr.makeInterface t b).run P w= .ok v w∧Rep G w y v:=by
 unfold kL at a;split at a
 ·cases a
 ·rename_i d c e
  simp only[xA]at a;subst a;refine⟨.iface t b, ?_, .iv t b f⟩;simp only[Instr.makeInterface,Sem.run_bind,run_underlying e,Result.andThen_ok];rfl
 ·cases a
theorem qH{xT t:TypeId}{ok:Bool}{x y:AV}{q:Value}(m:Rep G w x q)(e:qw P t ok x=some y):∃v,(Instr.typeAssert q xT t ok).run P w= .ok v w∧Rep G w y v:=by
 have f:∀(a:AV)(u:Value)(b:Bool),Rep G w a u→Rep G w (.tup [a, .d (.bool b)]) (.tuple #[u, .bool b]):=fun a u b r=> .tup _ _ rfl fun i c v o k=>by
  match i with
  |0=>cases o;cases k;exact r
  |1=>cases o;cases k;exact .d (.bool b)
  |i+2=>simp at o
 unfold qw at e;split at e
 ·cases e
 ·rename_i d s z n l
  cases m with
  |iv _ v k=>
  split at e
  ·rename_i j
   subst j;simp only[xA]at e;subst e;cases ok
   ·exact⟨v,by simp[Instr.typeAssert,run_underlying l],k⟩
   ·exact⟨_,by simp[Instr.typeAssert,run_underlying l],f _ _ _ k⟩
  ·rename_i j
   split at e
   ·rename_i g
    subst g;simp only[xB]at e;obtain⟨z,p,rfl⟩:=e;exact⟨_,by simp[Instr.typeAssert,run_underlying l,j,dd p],f _ _ _ (na _)⟩
   ·cases e
 ·rename_i d n l
  cases m with
  |d m=>
  cases m;split at e
  ·rename_i g
   subst g;simp only[xB]at e;obtain⟨z,p,rfl⟩:=e;exact⟨_,by simp[Instr.typeAssert,run_underlying l,dd p],f _ _ _ (na _)⟩
  ·cases e
 ·cases e
theorem nk(K:HR G B w0 I0 h w){src dst:TypeId}{x:AV}{C:Value}(m:Rep G w x C){out:Out}(i:kI P src dst x=some out):
    out.ob=[]∧∃v o n,(convert src dst C).run P w= .ok v o∧Ext G w n o∧HR n B w0 I0 (ap h out.wr) o∧Rep n o out.val v:=by
 unfold kI at i;split at i;case h_2=>cases i
 rename_i e s p u;split at i;case h_2=>cases i
 rename_i q;simp only[xA]at i;subst i;cases m with
 |d m=>
 cases m with
 |str _ f J=>
 subst J;have j:=run_bytes_of_string (P:=P) w src dst e f p u q;have k:=grownCap_ge w f.size 0 e;have g:(f.data.toList.map fun b=>D.int .u8 (b.toNat:Int)).length=f.size:=by simp
 obtain⟨n,E,F,z⟩:=K.drew.newImm (f.data.toList.map fun b=>D.int .u8 (b.toNat:Int)) 1 (grownCap w f.size 0 e) (bytesRow f (grownCap w f.size 0 e)) e
  (fz:=((bytesRow f (grownCap w f.size 0 e)).size,(bytesRow f (grownCap w f.size 0 e)).size+1)) (by rw[g];exact k) (fun x m=>by
   obtain⟨b,_,rfl⟩:=xi.1 m;rfl) (fun t c y=>by
   have H:D.flat (f.data.toList.map fun b=>D.int .u8 (b.toNat:Int))=f.data.toList.map fun b=>D.int .u8 (b.toNat:Int):=by
    unfold D.flat;generalize f.data.toList=l;induction l with
    |nil=>rfl
    |cons a l I=>simp only[xN,yB,I];rfl
   rw[H]at y;simp only[xP,xe,xB]at y;obtain⟨b,A,rfl⟩:=y;have r:t<f.data.size:=(xQ.1 A).1;refine⟨.int .u8 b.toNat, ?_,rfl, .int _ _⟩;unfold bytesRow;rw[yT (by simpa using r),yy,A];rfl)
 rw[g]at z;exact⟨rfl,_,_,n,j,(Ext.drew G w).trans F,E, .d z⟩
theorem ph:∀{l:List D}{b:List UInt8},mw l=some b→∃c:List Int,l=c.map (D.int .u8)∧b=c.map fun n=>UInt8.ofNat n.toNat
 |[],b,h=>by
  simp only[mw,xA]at h;subst h;exact⟨[],rfl,rfl⟩
 |x::r,b,h=>by
  unfold mw at h;split at h
  ·rename_i a;cases a
  ·rename_i n f a
   cases a;simp only[xB]at h;obtain⟨e,d,rfl⟩:=h;obtain⟨c,rfl,rfl⟩:=ph d;exact⟨n::c,rfl,rfl⟩
  ·cases h
theorem wL:∀(a:List Int)(r:ByteArray),(a.foldl (fun r n=>r.push (UInt8.ofNat n.toNat)) r).data.toList=r.data.toList ++a.map fun n=>UInt8.ofNat n.toNat
 |[],r=>by simp
 |n::a,r=>by
  rw[List.foldl_cons,wL a];simp[ByteArray.push]
theorem pO{src dst:TypeId}{x y:AV}{E:Value}(s:Rep G w x E)(q:ol P src dst x=some y):∃v,(convert src dst E).run P w= .ok v w∧Rep G w y v:=by
 have z:∀(e:TypeId)(l:List D)(b:List UInt8),P.underlying src=some (.slice e)→P.underlying dst=some .string→P.underlying e=some (.int .u8)→mw l=some b→DRep G.imm w (.ro l) E→∃v,(convert src dst E).run P w= .ok v w∧Rep G w (.d (.str b)) v:=by
  intro e l b g m f t N;obtain⟨p,A,rfl⟩:=ph t;cases N with
  |roNil J c=>
   have F:p=[]:=by cases p with|nil=>rfl|cons a b=>simp at A
   subst F;refine⟨.string ByteArray.empty, ?_, .d (.str _ _ rfl)⟩;rw[run_convert_bytes_string w src dst e J 0 c g f m];cases J with
   |none=>rfl
   |some a=>
    rw[run_bytesToString w a 0 c [] (by simpa using run_loadCells_list (P:=P) (w:=w) a [] (fun j v C=>by simp at C))];rfl
  |ro _ H o c sz U K M W V T S=>
   subst A
   have O:D.flat (p.map (D.int .u8))=p.map (D.int .u8):=by
    unfold D.flat;generalize p=l;induction l with
    |nil=>rfl
    |cons a l Q=>simp only[xN,yB,Q];rfl
   have L:=run_loadCells_list (P:=P) (w:=w) ⟨H,o,none⟩ (p.map (Value.int .u8)) (fun j v C=>by
    rw[xP,xB]at C;obtain⟨n,R,rfl⟩:=C;have I:(D.flat (p.map (D.int .u8)))[j]? =some (.int .u8 n):=by rw[O,xP,R];rfl
    have i:=T j _ I;have r:=S j _ I;generalize U j=u at i r;cases r;rw[show(⟨H,o,none⟩:Addr).add j=⟨H,o+j,none⟩ by simp[Addr.add]];exact i)
   simp only[xO]at L ⊢;refine⟨_,(run_convert_bytes_string w src dst e _ _ c g f m).trans (run_bytesToString w _ p.length c p L), .d (.str _ _ ?_)⟩;rw[wL];rfl
 unfold ol at q;split at q;case h_2=>cases q
 rename_i e g m;split at q
 ·rename_i l f
  simp only[xB]at q;obtain⟨b,t,rfl⟩:=q;cases s with
  |d s=>exact z e l b g m f t s
 ·rename_i k v sz l f
  simp only[xB]at q;obtain⟨b,t,rfl⟩:=q;cases s.frz with
  |d s=>exact z e l b g m f t s
 ·cases q
theorem pi{imm:Nat→Nat→Prop}{w:World}{x y:D}{u v:Value}(z:DRep imm w x u)(r:DRep imm w y v){b:Bool}(h:jo x y=some b){t:TypeId}(q:x.one=true)(j:jp P t x=true):
    ∃d,P.underlying t=some d∧Instr.sameNow d u v=some b∧(b=true→Instr.sameBits 10000 v u=true):=by
 unfold jo at h;split at h
 ·rename_i k a H C
  split at h
  ·rename_i o
   subst o;simp only[xA]at h;subst h;cases z;cases r;unfold jp at j;split at j
   ·rename_i E F n p c
    cases c;refine⟨_,p,by simp[Instr.sameNow],fun g=> ?_⟩;simp only[xm]at g;subst g;simp[Instr.sameBits]
   ·rename_i c;cases c
   ·rename_i c;cases c
   ·cases j
  ·cases h
 ·rename_i a C
  simp only[xA]at h;subst h;cases z with
  |str _ f A=>
  cases r with
  |str _ i g=>
  subst A;subst g;unfold jp at j;split at j
  ·rename_i c;cases c
  ·rename_i s p c
   have l:(f==i)=(f.data.toList==i.data.toList):=by
    show(f.data==i.data)=_;by_cases m:f.data=i.data
    ·rw[m];simp
    ·have:f.data.toList≠i.data.toList:=fun e=>m (zQ.1 e)
     simp[m,this]
   refine⟨_,p,by simp only[Instr.sameNow,l],fun g=> ?_⟩;simp only[xm]at g
   have:f=i:=by
    cases f;cases i;simp only at g;rw[zQ.1 g]
   subst this;simp[Instr.sameBits];show(f.data==f.data)=true;simp
  ·rename_i c;cases c
  ·cases j
 ·cases q
 ·cases h
theorem pj{imm:Nat→Nat→Prop}{w:World}{x:D}{u:Value}(p:DRep imm w x u){t:TypeId}(a:x.one=true)(k:jp P t x=true):∀(es:List (D×D×Nat))(g:List MapEntry)(n:Nat){r:Option (Nat×D)},g.length=es.length→
    (∀(i:Nat)(e:D×D×Nat)(m:MapEntry),es[i]? =some e→g[i]? =some m→DRep imm w e.1 m.key∧DRep imm w e.2.1 m.val∧m.born=e.2.2)→cq x es n=some r→
    ∃d,P.underlying t=some d∧match r with
     |none=>Instr.findNow d u g n=some none
     |some (j,y)=>∃v,Instr.findNow d u g n=some (some (j,v))∧DRep imm w y v∧n≤j∧∃m,g[j-n]? =some m∧Instr.sameBits 10000 m.key u=true
 |[],g,n,r,l,_,h=>by
  simp only[cq,xA]at h;subst h;have:g=[]:=List.length_eq_zero_iff.1 l;subst this;unfold jp at k;split at k
  ·rename_i Q U nn f;exact⟨_,f,rfl⟩
  ·rename_i T f;exact⟨_,f,rfl⟩
  ·cases a
  ·cases k
 |e::C,[],n,r,l,_,h=>by simp at l
 |e::C,m::I,n,r,l,c,h=>by
  obtain⟨E,K,O⟩:=c 0 e m rfl rfl;simp only[cq]at h;split at h
  ·rename_i q
   simp only[xA]at h;subst h;obtain⟨d,f,b,A⟩:=pi p E q a k;exact⟨d,f,m.val,by simp[Instr.findNow,b],K,xS _,m,by simp,A rfl⟩
  ·rename_i q
   obtain⟨d,f,b,_⟩:=pi p E q a k;obtain⟨R,o,s⟩:=pj p a k C I (n+1) (by simpa using l) (fun i F z J hm=>c (i+1) F z (by simpa using J) (by simpa using hm)) h;rw[f]at o;cases o;refine⟨d,f, ?_⟩;cases r with
   |none=>simp only at s ⊢;simp[Instr.findNow,b,s]
   |some M=>
    obtain⟨j,y⟩:=M;obtain⟨v,L,h2,S,z,H,N⟩:=s;refine⟨v,by simp[Instr.findNow,b,L],h2,by omega,z, ?_,N⟩;rw[show j-n=(j-(n+1))+1 by omega];simpa using H
  ·cases h
theorem pk:∀(xs ys:List D),fk xs ys=some true→xs=ys∧∀x∈xs,∃k a,x= .int k a
 |[],[],_=>⟨rfl,by simp⟩
 | .int k a::r, .int i b::q,h=>by
  simp only[fk]at h;split at h
  ·rename_i e
   simp only[xB,xL,x6]at h;obtain⟨t,g,c,rfl⟩:=h;obtain⟨f,h2⟩:=pk r q g;subst e;subst c;subst f
   exact⟨rfl,fun x d=>by
    rcases xX.1 d with rfl|d
    ·exact⟨_,_,rfl⟩
    ·exact h2 x d⟩
  ·cases h
 |[],_::_,h=>by simp[fk]at h
 |x::r,[],h=>by cases x<;>simp[fk]at h
 | .int _ _::_, .bool _::_,h| .int _ _::_, .str _::_,h| .int _ _::_, .agg _::_,h| .int _ _::_, .ro _::_,h| .int _ _::_, .rp _::_,h| .int _ _::_, .nilp::_,h| .int _ _::_, .nili::_,h| .int _ _::_, .ifc::_,h=>by simp[fk]at h
 | .bool _::_,_::_,h| .str _::_,_::_,h| .agg _::_,_::_,h| .ro _::_,_::_,h| .rp _::_,_::_,h| .nilp::_,_::_,h| .nili::_,_::_,h| .ifc::_,_::_,h=>by simp[fk]at h
theorem pl:∀(fs:List Field)(i:Nat)(xs ys:List D)(b:Bool),dF P fs i xs=true→fk xs ys=some b→di P fs i xs ys=some b
 |[],i,[],ys,b,_,h=>by
  cases ys with
  |nil=>simpa [fk,di]using h
  |cons=>simp[fk]at h
 |[],i,x::xs,ys,b,c,_=>by simp[dF]at c
 |f::fs,i,[],ys,b,c,_=>by simp[dF]at c
 |f::fs,i, .int k a::xs,ys,b,c,h=>by
  simp only[dF,xL,x6,xm]at c;obtain⟨⟨j,h2,m,d⟩,o⟩:=c;split at d;case h_2=>cases d
  rename_i r l;simp only[x6]at d;subst d;cases ys with
  |nil=>simp[fk]at h
  |cons y ys=>
   cases y with
   |int q p=>
    simp only[fk]at h;split at h
    ·rename_i e
     subst e;simp only[xB]at h;obtain⟨t,n,rfl⟩:=h;have g:=pl fs (i+1) xs ys t o n;simp only[di,j,h2,m,ne_eq,not_false_eq_true,and_self,yS,ww,l,g];rfl
    ·cases h
   |_=>simp[fk]at h
 |f::fs,i, .bool _::xs,ys,b,c,_|f::fs,i, .str _::xs,ys,b,c,_|f::fs,i, .agg _::xs,ys,b,c,_|f::fs,i, .ro _::xs,ys,b,c,_|f::fs,i, .rp _::xs,ys,b,c,_|f::fs,i, .nilp::xs,ys,b,c,_|f::fs,i, .nili::xs,ys,b,c,_|f::fs,i, .ifc::xs,ys,b,c,_=>by simp[dF]at c
theorem tw{imm:Nat→Nat→Prop}{w:World}{xs:List D}{y:D}{u v:Value}(J:DRep imm w (.agg xs) u)(L:DRep imm w y v){b:Bool}(h:jo (.agg xs) y=some b){t:TypeId}(n:jp P t (.agg xs)=true):
    (Op.equal t u v).run P w= .ok b w∧(b=true→Instr.sameBits 10000 v u=true):=by
 cases y with
 |agg ys=>
  have h:fk xs ys=some b:=h;cases J with
  |agg _ vs C Q g=>
  cases L with
  |agg _ f s N c=>
  unfold jp at n;split at n
  ·rename_i o;cases o
  ·rename_i o;cases o
  ·rename_i fs M F o
   cases o;simp only[xL,xm]at n;have E:P.fieldsOf t=fs:=by unfold Program.fieldsOf;rw[F]
   constructor
   ·show(Op.equalIn 10000 t (.agg vs) (.agg f)).run P w= .ok b w
    rw[show(10000:Nat)=9999+1 from rfl,run_equalIn_struct w 9999 t vs f (by rw[E];exact F) n.1,E];refine hD (I:=imm) 9998 vs f fs.toList 0 xs ys b (pl _ _ _ _ _ n.2 h) (fun j x q=> ?_) (fun j x q=> ?_)
    ·have m:j<vs.size:=by rw[C];exact(xE.1 q).1
     have:vs[j]? =some vs[j]:=xJ m;exact⟨_,by rw[xb];exact this,g j x _ q this⟩
    ·have m:j<f.size:=by rw[s];exact(xE.1 q).1
     have:f[j]? =some f[j]:=xJ m;exact⟨_,by rw[xb];exact this,c j x _ q this⟩
   ·intro H
    subst H;obtain⟨rfl,r⟩:=pk xs ys h;rw[show(10000:Nat)=9999+1 from rfl,Instr.sameBits];simp only[xL,xm];refine⟨by rw[C,s],xa.2 fun p hp=> ?_⟩;obtain⟨i,K,rfl⟩:=List.mem_iff_getElem.1 hp;rw[List.getElem_zip]
    have d:i<f.size∧i<vs.size:=by
     simp only[List.length_zip,xg]at K;omega
    have l:xs[i]? =some (xs[i]'(by omega)):=xH _;have z:=g i _ _ l (xJ d.2);have A:=c i _ _ l (xJ d.1);obtain⟨k,a,e⟩:=r _ (x5 l);rw[e]at z A;simp only[ye];generalize f[i]'d.1=O at A;generalize vs[i]'d.2=R at z;cases z;cases A;simp[Instr.sameBits]
  ·cases n
 |_=>simp[jo]at h
theorem md{imm:Nat→Nat→Prop}{w:World}{xs:List D}{u:Value}(f:DRep imm w (.agg xs) u){t:TypeId}(g:jp P t (.agg xs)=true):∀(es:List (D×D×Nat))(b:List MapEntry)(n:Nat){r:Option (Nat×D)},b.length=es.length→
    (∀(i:Nat)(e:D×D×Nat)(m:MapEntry),es[i]? =some e→b[i]? =some m→DRep imm w e.1 m.key∧DRep imm w e.2.1 m.val∧m.born=e.2.2)→cq (.agg xs) es n=some r→
    match r with
     |none=>(Instr.findAsking t u b n).run P w= .ok none w
     |some (j,y)=>∃v,(Instr.findAsking t u b n).run P w= .ok (some (j,v)) w∧DRep imm w y v∧n≤j∧∃m,b[j-n]? =some m∧Instr.sameBits 10000 m.key u=true
 |[],b,n,r,c,_,h=>by
  simp only[cq,xA]at h;subst h;have:b=[]:=List.length_eq_zero_iff.1 c;subst this;simp[Instr.findAsking]
 |e::q,[],n,r,c,_,h=>by simp at c
 |e::q,m::A,n,r,c,a,h=>by
  obtain⟨s,E,J⟩:=a 0 e m rfl rfl;simp only[cq]at h;split at h
  ·rename_i k
   simp only[xA]at h;subst h;obtain⟨d,p⟩:=tw f s k g;exact⟨m.val,by simp[Instr.findAsking,Sem.run_bind,d],E,xS _,m,by simp,p rfl⟩
  ·rename_i k
   obtain⟨d,_⟩:=tw f s k g;have l:=md f g q A (n+1) (by simpa using c) (fun i x o C hm=>a (i+1) x o (by simpa using C) (by simpa using hm)) h;cases r with
   |none=>simp only at l ⊢;simp[Instr.findAsking,Sem.run_bind,d,l]
   |some H=>
    obtain⟨j,y⟩:=H;obtain⟨v,F,h2,K,o,z,I⟩:=l;refine⟨v,by simp[Instr.findAsking,Sem.run_bind,d,F],h2,by omega,o, ?_,I⟩;rw[show j-n=(j-(n+1))+1 by omega];simpa using z
  ·cases h
theorem fe{imm:Nat→Nat→Prop}{w:World}{x:D}{u:Value}(z:DRep imm w x u){t:TypeId}(c:jp P t x=true)(es:List (D×D×Nat))(b:List MapEntry){r:Option (Nat×D)}(s:b.length=es.length)
    (a:∀(i:Nat)(e:D×D×Nat)(m:MapEntry),es[i]? =some e→b[i]? =some m→DRep imm w e.1 m.key∧DRep imm w e.2.1 m.val∧m.born=e.2.2) (h:cq x es 0=some r):
    match r with
     |none=>(Instr.findKey t u b).run P w= .ok none w
     |some (j,y)=>∃v,(Instr.findKey t u b).run P w= .ok (some (j,v)) w∧DRep imm w y v∧∃m,b[j]? =some m∧Instr.sameBits 10000 m.key u=true:=by
 cases g:x.one with
 |true=>
  obtain⟨d,q,f⟩:=pj z g c es b 0 s a h;cases r with
  |none=>exact Go.MapKept.run_findKey q f
  |some o=>
   obtain⟨j,y⟩:=o;obtain⟨v,n,h2,_,m,l,p⟩:=f;exact⟨v,Go.MapKept.run_findKey q n,h2,m,by simpa using l,p⟩
 |false=>
  cases x with
  |agg xs=>
   have A:(match P.underlying t with|some (.array _ _)|some (.struct _)=>true|_=>false)=true:=by
    unfold jp at c;split at c
    ·rename_i k;cases k
    ·rename_i k;cases k
    ·rename_i fs E C k;rw[C]
    ·cases c
   have f:=md z c es b 0 s a h;rw[run_findKey_eq w A u b];cases r with
   |none=>exact f
   |some o=>
    obtain⟨j,y⟩:=o;obtain⟨v,n,h2,_,m,l,p⟩:=f;exact⟨v,n,h2,m,by simpa using l,p⟩
  |_=>simp[D.one]at g
theorem kh{imm:Nat→Nat→Prop}{w:World}(e:Bool)(vs:Array Value)(b:World):∀(fs:List Field)(i:Nat)(xs:List D),dF P fs i xs=true→(∀(j:Nat)(x:D),xs[j]? =some x→∃u,vs[i+j]? =some u∧DRep imm w x u)→
    (forIn fs PUnit.unit fun f _=>if f.name≠ "_" then do
        let a ←part f.type vs f.offset
        Instr.checkKey e 9999 f.type a
        pure (ForInStep.yield PUnit.unit)
     else pure (ForInStep.yield PUnit.unit):Sem PUnit).run P b= .ok PUnit.unit b
 |[],i,xs,_,_=>by simp
 |f::fs,i,[],c,_=>by simp[dF]at c
 |f::fs,i,x::xs,c,h=>by
  obtain⟨u,l,o⟩:=h 0 x rfl;rw[yp]at l;cases x with
  |int k a=>
   simp only[dF,xL,x6,xm]at c;obtain⟨⟨n,h2,r,g⟩,s⟩:=c;split at g;case h_2=>cases g
   rename_i t d;cases o
   have m:=kh e vs b fs (i+1) xs s (fun j x q=>by
    have:=h (j+1) x q;rwa [show i+(j+1)=i+1+j by omega]at this)
   have hp:=iA (P:=P) (w:=b) r vs i _ l
   have p:(Instr.checkKey e 9999 f.type (.int k a)).run P b= .ok () b:=by
    rw[show(9999:Nat)=9998+1 from rfl];unfold Instr.checkKey;simp[run_underlying d,Result.andThen]
   simp only[List.forIn_cons,Sem.run_bind,n,h2,ne_eq,not_false_eq_true,yS,Result.andThen_ok,hp,p,Sem.run_pure];exact m
  |_=>simp[dF]at c
theorem kS{imm:Nat→Nat→Prop}{w:World}{x:D}{u:Value}(g:DRep imm w x u){t:TypeId}(a:jp P t x=true)(e:Bool)(d:World):(Instr.checkKey e 10000 t u).run P d= .ok () d:=by
 unfold jp at a;rw[show(10000:Nat)=9999+1 from rfl];unfold Instr.checkKey;split at a
 ·rename_i o p n b
  cases g;simp[run_underlying b,Result.andThen]
 ·rename_i s b
  cases g;simp[run_underlying b,Result.andThen]
 ·rename_i fs xs b
  simp only[xL,xm]at a;cases g with
  |agg _ vs l m c=>
  have k:=kh (P:=P) (imm:=imm) (w:=w) e vs d fs.toList 0 xs a.2 (fun j x i=>by
   have f:j<vs.size:=by rw[l];exact(xE.1 i).1
   have:vs[j]? =some vs[j]:=xJ f;exact⟨_,by rw[xb];exact this,c j x _ i this⟩)
  simp only[Sem.run_bind,run_underlying b,Result.andThen_ok];rw[←Array.forIn_toList];simp only[Sem.run_bind,k,Result.andThen_ok,Sem.run_pure]
 ·cases a
theorem qI(x y:D):∀(i:Nat)(es:List (D×D×Nat))(j:Nat),(eE x y i es)[j]? =if j=i then (es[j]?).map fun e=>(x,y,e.2.2)else es[j]?
 |i,[],j=>by cases i<;>simp[eE]
 |0,e::r,0=>by simp[eE]
 |0,e::r,j+1=>by simp[eE]
 |i+1,e::r,0=>by simp[eE]
 |i+1,e::r,j+1=>by simp[eE,qI x y i r j]
theorem qJ(x y:D):∀(i:Nat)(es:List (D×D×Nat)),(eE x y i es).length=es.length
 |i,[]=>by cases i<;>rfl
 |0,e::r=>rfl
 |i+1,e::r=>by simp[eE,qJ x y i r]
theorem i5(S:HR G B w0 I0 h w){t:TypeId}{m E x:AV}{W I J:Value}(hm:Rep G w m W)(Z:Rep G w E I)(Y:Rep G w x J){out:Out}(l:b9 P t m E x h=some out):
    out.ob=[]∧out.val= .junk∧∃M,(Instr.mapUpdate t W I J).run P w= .ok () M∧Ext G w G M∧HR G B w0 I0 (ap h out.wr) M:=by
 unfold b9 at l;split at l;case h_2=>cases l
 rename_i kt et k v kd U V;split at l;case h_2=>cases l
 rename_i es c s;split at l;case isFalse=>cases l
 rename_i hc;obtain⟨hv,p⟩:=hc;cases hm with
 |mp _ _ b N=>
 subst hv;cases Z with
 |d n=>
 cases Y with
 |d H=>
 obtain⟨b',F,A,D,o,a⟩:=S.maps.obj k es c s;rw[N]at F;cases F;have q:=Go.MapKept.run_getObj_map (P:=P) D;split at l
 ·rename_i i y g
  simp only[xA]at l;subst l;obtain⟨v',r,_,m',K,z⟩:=fe n p es A.toList (by simpa using o) (fun i e m f hm=>a i e m f (by simpa using hm)) g;have u:=kS (P:=P) n p false w;have T:A[i]? =some m':=by simpa using K
  obtain⟨R,h2⟩:=S.setMap (k:=k) (c':=c) (ms':=A.modify i fun e=>{e with key:=I,val:=J}) (es':=eE kd U i es) (by rw[s];rfl) N D (by simp[qJ,o]) (fun j e m f hm=>by
   rw[qI]at f;rw[Array.getElem?_modify]at hm;by_cases C:j=i
   ·subst C
    simp only[yS,xB]at f hm;obtain⟨e0,O,rfl⟩:=f;obtain⟨X,Q,rfl⟩:=hm;exact⟨n,H,(a j e0 X O Q).2.2⟩
   ·rw[xj C]at f
    rw[xj (fun e=>C e.symm)]at hm;exact a j e m f hm)
  refine⟨rfl,rfl,_, ?_,h2,R⟩;simp only[Instr.mapUpdate,Sem.run_bind,run_underlying V,Result.andThen_ok,q,u,r];simp only[Instr.keyThatStays,T,xc,zN,z,yS,Sem.run_pure,Result.andThen_ok];exact Go.MapKept.run_setObj_map (P:=P) _ D
 ·rename_i g
  simp only[xA]at l;subst l;have r:=fe n p es A.toList (by simpa using o) (fun i e m f hm=>a i e m f (by simpa using hm)) g;have u:=kS (P:=P) n p false w
  obtain⟨R,h2⟩:=S.setMap (k:=k) (c':=c+1) (ms':=A.push {key:=I,val:=J,born:=c}) (es':=es ++[(kd,U,c)]) (by rw[s];rfl) N D (by simp[o]) (fun j e m f hm=>by
   by_cases C:j<es.length
   ·rw[xU C]at f
    rw[Array.getElem?_push,xj (by omega)]at hm;exact a j e m f hm
   ·rw[xV (by omega)]at f
    have L:j=es.length:=by
     have:=(xE.1 f).1;simp at this;omega
    subst L;simp only[Nat.sub_self,xl,xA]at f;rw[Array.getElem?_push,x9 o.symm]at hm;simp only[xA]at hm;subst f;subst hm;exact⟨n,H,rfl⟩)
  refine⟨rfl,rfl,_, ?_,h2,R⟩;simp only[Instr.mapUpdate,Sem.run_bind,run_underlying V,Result.andThen_ok,q,u,r];exact Go.MapKept.run_setObj_map (P:=P) _ D
 ·cases l
theorem qM(S:HR G B w0 I0 h w){t:TypeId}{m C:AV}{ok:Bool}{K L:Value}(hm:Rep G w m K)(Q:Rep G w C L){out:Out}(a:fc P t m C ok h=some out):
    out.ob=[]∧out.wr=[]∧∃v,(Instr.lookup t K L ok).run P w= .ok v w∧Rep G w out.val v:=by
 unfold fc at a;split at a;case h_2=>cases a
 rename_i kt et k v kd q;split at a;case h_2=>cases a
 rename_i es c F;split at a;case isFalse=>cases a
 rename_i r;obtain⟨R,g⟩:=r;cases hm with
 |mp _ _ b M=>
 subst R;cases Q with
 |d j=>
 obtain⟨U,D,E,N,A,l⟩:=S.maps.obj k es c F;rw[M]at D;cases D;have n:=Go.MapKept.run_getObj_map (P:=P) N
 have s:∀(x:AV)(v:Value)(b:Bool),Rep G w x v→Rep G w (.tup [x, .d (.bool b)]) (.tuple #[v, .bool b]):=fun x v b O=> .tup _ _ rfl (fun i c u r q=>by
  match i with
  |0=>simp at r q;subst r;subst q;exact O
  |1=>simp at r q;subst r;subst q;exact .d (.bool b)
  |i+2=>simp at r)
 split at a
 ·rename_i i y f
  simp only[xA]at a;subst a;obtain⟨I,o,J,_⟩:=fe j g es E.toList (by simpa using A) (fun i e m H hm=>l i e m H (by simpa using hm)) f;have p:=kS (P:=P) j g E.isEmpty w;refine⟨rfl,rfl,if ok=true then .tuple #[I, .bool true]else I, ?_, ?_⟩
  ·simp only[Instr.lookup,Sem.run_bind,run_underlying q,Result.andThen_ok,n,Sem.run_pure,p,o]
  ·cases ok
   ·exact .d J
   ·exact s _ _ _ (.d J)
 ·rename_i f
  split at a;case h_2=>cases a
  rename_i z T;simp only[xA]at a;subst a;have o:=fe j g es E.toList (by simpa using A) (fun i e m H hm=>l i e m H (by simpa using hm)) f;have p:=kS (P:=P) j g E.isEmpty w;refine⟨rfl,rfl,if ok=true then .tuple #[z, .bool false]else z, ?_, ?_⟩
  ·simp only[Instr.lookup,Sem.run_bind,run_underlying q,Result.andThen_ok,n,Sem.run_pure,p,o,dd T]
  ·cases ok
   ·exact na z
   ·exact s _ _ _ (na z)
 ·cases a
theorem qO(o:HR G B w0 I0 h w){t:TypeId}{k v:Nat}{j:Value}(hm:Rep G w (.mp k v) j){out:Out}(a:fX P t k v h=some out):
    out.ob=[]∧out.wr=[]∧∃x,(∀ty,(Builtin.len_ #[t] ty #[j]).run P w= .ok x w)∧Rep G w out.val x:=by
 unfold fX at a;split at a;case h_2=>cases a
 rename_i kt et p;split at a;case h_2=>cases a
 rename_i es c g;split at a;case isFalse=>cases a
 rename_i m;simp only[xA]at a;subst a;cases hm with
 |mp _ _ b l=>
 subst m;obtain⟨q,e,r,n,f,i⟩:=o.maps.obj k es c g;rw[l]at e;cases e;refine⟨rfl,rfl,_,fun ty=> ?_, .d (.int .i64 (es.length:Int))⟩;simp[Builtin.len_,run_underlying p,Go.MapKept.run_getObj_map (P:=P) n,Result.andThen,goInt,f]
theorem sY{t:TypeId}{x l:AV}{n o:Value}(k:Rep G w x n)(e:Rep G w l o){y:AV}(a:p5 P t x l=some y):∃v,(Instr.index t n o).run P w= .ok v w∧Rep G w y v:=by
 unfold p5 at a;split at a
 ·rename_i s kd i r
  split at a
  ·rename_i u
   simp only[xB]at a;obtain⟨b,q,rfl⟩:=a;cases k with
   |d k=>
   cases k with
   |str _ f p=>
   subst p;cases e with
   |d e=>
   cases e
   have j:f[i.toNat]? =some b:=by
    obtain⟨g,m⟩:=xE.1 q;have c:i.toNat<f.size:=by simpa using g
    rw[getElem?_pos f i.toNat c];simp only[ye]at m;rw[←m];rfl
   refine⟨_, ?_, .d (.int .u8 (b.toNat:Int))⟩;simp[Instr.index,asIntOf,run_underlying r,u,j]
  ·cases a
 ·cases a
end Go.Avm
