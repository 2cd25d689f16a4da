/-
  The abstract machine, part K: append.
-/
import Derived.Test.YtcjiafanhlhdlaaGreatDoorG02
import Derived.MapKept
import Derived.WideKeyRuns
import Derived.Laws.IdiomStrings
import Derived.Lib.UnsafeStr
import Derived.RangeFuncRecord
set_option linter.unusedVariables false
set_option linter.unusedSimpArgs false
set_option linter.unusedSectionVars false
namespace Go.Avm
open Go.RowKit
variable[aH]
section
variable{P:Program}{G:Gh}{B:Nat}{w0 w:World}{I0:Nat→Nat→Prop}{h:aa}
def Ct(P:Program)(G:Gh)(w:World)(sz n:Nat)(v:Value)(l:List D):Prop:=
 ∃a:List Value,a.length=n*sz∧(∀u∈a,u.oneCell'=true)∧(∀(t:Nat)(c:D),(D.flat l)[t]? =some c→∃u:Value,a[t]? =some u∧c.one=true∧DRep G.imm w c u)∧
  ∀d:World,(∀b o,d.cell? ⟨b,o,none⟩=w.cell? ⟨b,o,none⟩)→(Builtin.firstCells sz n v).run P d= .ok a.toArray d
theorem dG{l:List D}{v:Value}{sz:Nat}(E:DRep G.imm w (.ro l) v)(x:∀y∈l,y.cells.length=sz):Ct P G w sz l.length v l:=by
 cases E with
 |roNil z c=>
  refine⟨[],by simp,by simp,by simp[D.flat],fun k _=> ?_⟩;cases z with
  |none=>simp[Builtin.firstCells]
  |some a=>simpa using run_firstCells_some (P:=P) k sz 0 a 0 c [] (by simp) (by simp)
 |ro _ b o c F U n C r H s i=>
  have f:(D.flat l).length=l.length*sz:=D.flat_len x;refine⟨(List.range (D.flat l).length).map U,by simp[f],fun u q=> ?_,fun t c g=> ?_,fun k m=> ?_⟩
  ·simp only[x9,List.mem_range]at q
   obtain⟨t,g,rfl⟩:=q;have A:(D.flat l)[t]? =some (D.flat l)[t]:=xD g;exact(i t _ A).oneCell (r _ (yO g))
  ·have d:=(xC.1 g).1
   exact⟨U t,by simp[List.getElem?_range d],r c (xX g),i t c g⟩
  ·refine run_firstCells_some (P:=P) k sz l.length ⟨b,o,none⟩ l.length _ _ (by simp[f]) (fun j v p=> ?_)
   simp only[xN,xB]at p;obtain⟨I,e,rfl⟩:=p
   have d:j<(D.flat l).length:=by
    have:=(xC.1 e).1;simpa using this
   rw[List.getElem?_range d]at e;simp only[xA]at e;subst e;rw[dn,m];exact s j _ (xD d)
theorem uC(s:ByteArray){sz:Nat}(l:∀y∈s.data.toList.map kI,y.cells.length=sz):Ct P G w sz s.size (.string s) (s.data.toList.map kI):=by
 have m:s.size*sz=s.size:=by
  cases g:s.data.toList with
  |nil=>
   have:s.size=0:=by have:=congrArg List.length g;simpa using this
   simp[this]
  |cons b r=>
   have:=l (kI b) (by simp[g]);rw[←this];simp[kI,D.cells]
 have d:D.flat (s.data.toList.map kI)=s.data.toList.map kI:=by
  simp only[D.flat];induction s.data.toList with
  |nil=>rfl
  |cons a r j=>simp only[xH,yT,j];rfl
 refine⟨s.data.toList.map fun b=> .int .u8 (b.toNat:Int),by simp[m],fun u f=> ?_,fun t c e=> ?_,fun n _=> ?_⟩
 ·simp only[x9]at f
  obtain⟨b,_,rfl⟩:=f;rfl
 ·rw[d,xN,xB]at e
  obtain⟨b,k,rfl⟩:=e;exact⟨.int .u8 (b.toNat:Int),by rw[xN,k];rfl,rfl, .int .u8 _⟩
 ·have i:s.extract 0 s.size=s:=by simp
  simp only[Builtin.firstCells,i,Sem.run_pure];congr 1;apply Array.ext';simp
theorem wF:dp G h []=G.imm:=by
 funext b o;simp[dp,qy]
theorem wG(hr:HR G B w0 I0 h w){x:AV}{T:Value}(Q:Rep G w x T){news:List D}{rs:List Nat}{sz:Nat}(g:ij h x=some (news,rs))(l:∀y∈news,y.cells.length=sz):
    (∀V:World,(Builtin.lenOf T).run P V= .ok news.length V)∧Ct P G w sz news.length T news:=by
 suffices O:(∃W:ByteArray,T= .string W∧news=W.data.toList.map kI)∨((∃ao c,T= .slice ao news.length c)∧Ct P G w sz news.length T news) by
  rcases O with ⟨W,rfl,rfl⟩|⟨⟨ao,c,rfl⟩,hC⟩
  ·exact⟨fun V=>by simp[Builtin.lenOf],by simpa using uC (P:=P) (G:=G) (w:=w) W l⟩
  ·exact⟨fun V=>by simp[Builtin.lenOf],hC⟩
 unfold ij at g;split at g
 ·simp only[xA,xE]at g
  obtain⟨rfl,rfl⟩:=g;cases Q with
  |d J=>cases J with|str _ W hb=>subst hb;exact .inl ⟨W,rfl,rfl⟩
 all_goals refine .inr ?_
 ·simp only[xA,xE]at g
  obtain⟨rfl,rfl⟩:=g;refine⟨?_,dG Q.toDRep l⟩;cases Q with
  |d J=>cases J<;>exact⟨_,_,rfl⟩
 ·simp only[xA,xE]at g
  obtain⟨rfl,rfl⟩:=g;cases Q with
  |vecNil=>exact⟨⟨_,_,rfl⟩,dG (.roNil _ _) l⟩
  |vec _ _ _ L hL hfr M hsz' J=>exact⟨⟨_,_,rfl⟩,dG J l⟩
 ·simp only[xA,xE]at g
  obtain⟨rfl,rfl⟩:=g;cases Q;exact⟨⟨_,_,rfl⟩,dG (.roNil _ _) l⟩
 ·simp only[xA,xE]at g
  obtain⟨rfl,rfl⟩:=g;cases Q;exact⟨⟨_,_,rfl⟩,dG (.roNil _ _) l⟩
 ·rename_i k v a f sz0
  split at g
  ·rename_i m es hob
   split at g
   ·rename_i q
    obtain⟨rfl,hin⟩:=q;simp only[yj]at g;obtain⟨⟨ys,ks⟩,hgo,g⟩:=g;split at g
    ·rename_i hks
     simp only at hks;subst hks;simp only[xA,xE]at g;obtain⟨rfl,rfl⟩:=g;have M:((es.drop a).take f).length=f:=by simp;omega
     obtain⟨hgl,hgi⟩:=iO hgo;have H:ys.length=f:=by rw[hgl,M]
     cases Q with
     |slNil=>
      have X:ys=[]:=x7 (by omega);subst X;exact⟨⟨_,_,rfl⟩,dG (.roNil _ _) l⟩
     |sl _ _ _ _ c L hL hcap hlc=>
      refine⟨⟨_,_,by rw[H]⟩, ?_⟩;rw[H];rcases hr.objs k _ hob with ⟨rfl,hLn⟩|⟨L',R,h1,h2,h3,h4,h6,h5⟩
      ·have X:f=0:=by simp at hin;omega
       subst X;have X:ys=[]:=x7 H;subst X;exact dG (.roNil _ _) l
      ·rw[hL]at R
       simp only[xA]at R;subst R
       have K:∀(i:Nat)(y:D),ys[i]? =some y→∃e,es[a+i]? =some e∧y.cells.length=e.cells.length∧(∀c∈y.cells,c.one=true)∧
           ∀(j:Nat)(c:D),y.cells[j]? =some c→∃u,w.cell? ⟨L.b,(a+i)*m+j,none⟩=some u∧u.oneCell'=true∧DRep G.imm w c u:=by
        intro i y hy;have I:i<((es.drop a).take f).length:=by rw[←hgl];exact(xC.1 hy).1
        obtain⟨y',k',N,C,hk'⟩:=hgi i _ (xD I);rw[hy]at N;simp only[xA]at N;subst N;have hk0:k'=[]:=List.eq_nil_iff_forall_not_mem.2 (fun k hk=>by have:=hk' k hk;simp at this);subst hk0
        have p:es[a+i]? =some ((es.drop a).take f)[i]:=by
         have h9:((es.drop a).take f)[i]? =some ((es.drop a).take f)[i]:=xD I;rw[yD,xf (by omega),xu]at h9;exact h9
        generalize ((es.drop a).take f)[i]=e at p C;have hcl:=h4 e (xX p)
        have F:∃S:Nat→Value,∀(j:Nat)(c:AV),e.cells[j]? =some c→w.cell? ⟨L.b,(a+i)*m+j,none⟩=some (S j)∧(S j).oneCell'=true∧Rep G w c (S j):=by
         refine⟨fun j=>(w.cell? ⟨L.b,(a+i)*m+j,none⟩).getD undef,fun j c q=> ?_⟩;have hj:j<m:=by rw[←hcl];exact(xC.1 q).1
         have hfl:(AV.flat es)[(a+i)*m+j]? =some c:=by rw[AV.flat,bM _ m es h4 (a+i) j hj,p,yA,q]
         obtain⟨u,s,z,hur⟩:=h5 _ c hfl;simp only[s,zH];exact⟨trivial,z,hur⟩
        obtain⟨S,F⟩:=F;obtain⟨v,hv,hvs,hvj⟩:=Rep.of_cells (e:=e) S (fun j c q=>(F j c q).2);have J:=dM hr _ _ _ _ _ C hv;rw[wF]at J;obtain⟨Z,hc2,hc3⟩:=J.cells;refine⟨e,p,by rw[Z,hvs],hc2,fun j c q=> ?_⟩
        have hj:j<e.cells.length:=by
         have:=(xC.1 q).1;rw[Z,hvs]at this;exact this
        obtain⟨g1,g2,_⟩:=F j _ (xD hj);exact⟨S j,g1,g2,hc3 j c (S j) q (hvj j hj)⟩
       have hse:ys≠[]→sz=m:=by
        intro hne;obtain⟨y,r,rfl⟩:=List.exists_cons_of_ne_nil hne;obtain⟨e,he,hl',_⟩:=K 0 y rfl;rw[←l y (by simp),hl',h4 e (xX he)]
       have o:(D.flat ys).length=f*sz:=by rw[D.flat_len l,H]
       have n:∀(t:Nat)(c:D),(D.flat ys)[t]? =some c→∃u,w.cell? ⟨L.b,a*L.sz+t,none⟩=some u∧u.oneCell'=true∧c.one=true∧DRep G.imm w c u:=by
        intro t c U;obtain⟨i,j,y,rfl,hj,hy,q⟩:=fg l U;obtain⟨e,he,hl',ho1,hcc⟩:=K i y hy;obtain⟨u,s,z,hud⟩:=hcc j c q;have hes:sz=m:=hse (by rintro rfl;simp at hy);refine⟨u, ?_,z,ho1 c (xX q),hud⟩;rw[h1,hes,←s];congr 2;rw[y8];omega
       refine⟨(List.range (f*sz)).map fun t=>(w.cell? ⟨L.b,a*L.sz+t,none⟩).getD undef,by simp,fun u s=> ?_,fun t c U=> ?_,fun V hw2=> ?_⟩
       ·simp only[x9,List.mem_range]at s
        obtain⟨t,U,rfl⟩:=s;obtain⟨u,s,z,_⟩:=n t _ (xD (by rw[o];exact U));rw[s];exact z
       ·have A:=(xC.1 U).1
        rw[o]at A;obtain⟨u,s,_,h8,h9⟩:=n t c U;exact⟨u,by simp[List.getElem?_range A,s],h8,h9⟩
       ·have Y:=run_firstCells_some (P:=P) V sz f ⟨L.b,a*L.sz,none⟩ f c ((List.range (f*sz)).map fun t=>(w.cell? ⟨L.b,a*L.sz+t,none⟩).getD undef) (by simp) (fun j v hv=>by
          simp only[xN,xB]at hv;obtain⟨j',E,rfl⟩:=hv
          have A:j<f*sz:=by
           have:=(xC.1 E).1;simpa using this
          rw[List.getElem?_range A]at E;simp only[xA]at E;subst E;obtain⟨u,s,_⟩:=n j _ (xD (by rw[o];exact A));rw[dn,hw2,s];rfl)
        exact Y
    ·cases g
   ·cases g
  ·cases g
 ·cases g
theorem mC{t a:TypeId}(h:sK P t a=true):a=t∨P.underlying a=some .string:=by
 unfold sK at h;by_cases b:t=a
 ·exact .inl b.symm
 ·right
  simp only[yQ,yI,b,false_or]at h;split at h
  ·assumption
  ·cases h
theorem gw(t r ty e q:TypeId)(i:TypeInfo)(p:P.underlying t=some (.slice e))(l:sK P t r=true)(o:P.info? e=some i)(g a b:Nat)(bZ:Array Value)(x:w.heap[g]? =some (.cells bZ q (0,0)))
    (n:Value) (m:Nat) (f:List Value) (j:(Builtin.lenOf n).run P w= .ok m w) (s:(Builtin.firstCells i.size m n).run P w= .ok f.toArray w) (v:∀u∈f,u.oneCell'=true) (c:a+m≤b) (k:a*i.size+f.length≤bZ.size):
    (Builtin.append_ #[t,r] ty #[.slice (some ⟨g,0,none⟩) a b,n]).run P w=
     .ok (.slice (some ⟨g,0,none⟩) (a+m) b) (w.setRow g (bZ.toList.take (a*i.size) ++f ++bZ.toList.drop (a*i.size+f.length)).toArray):=by
 have d:=run_storeCells_at P g (a*i.size) q f 0 bZ w x (by simpa using k) v;simp only[yo]at d;rcases mC l with rfl|y
 ·simp[Builtin.append_,run_underlying p,sizeOf,typeInfo,o,j,c,s,dn,d]
 ·simp[Builtin.append_,run_underlying p,run_underlying y,sizeOf,typeInfo,o,j,c,s,dn,d]
theorem bG(t q ty e:TypeId)(i:TypeInfo)(z:Value)(u:P.underlying t=some (.slice e))(o:sK P t q=true)(x:P.info? e=some i)(s:i.zero=some z)
    (v:Option Addr) (a b:Nat) (c:List Value) (g:(Builtin.firstCells i.size a (.slice v a b)).run P w.drew= .ok c.toArray w.drew)
    (l:Value) (m:Nat) (n:List Value) (j:∀y:World,(Builtin.lenOf l).run P y= .ok m y) (E:(Builtin.firstCells i.size m l).run P w.drew= .ok n.toArray w.drew)
    (C:b<a+m) (D:a+m≤549755813888) (p:i.bytes≤256):
    (Builtin.append_ #[t,q] ty #[.slice v a b,l]).run P w=
     .ok (.slice (some ⟨w.heap.size,0,none⟩) (a+m) (grownCap w (a+m) b e)) (w.drew.alloc (.cells (c.toArray ++n.toArray ++Builtin.zeroCells z.cells (grownCap w (a+m) b e-(a+m))) e)):=by
 have r:¬(a+m≤b):=by omega
 have f:¬(9223372036854775807<((a:Int)+(m:Int))):=by omega
 have d:¬(281474976710656<Builtin.nextslicecap (a+m) b*i.bytes):=by
  have h2:=nextslicecap_le C;have F:Builtin.nextslicecap (a+m) b*i.bytes≤(2*549755813888)*256:=Nat.mul_le_mul (by omega) p;omega
 have k:(Builtin.firstCells i.size m l).run P w.drew= .ok n.toArray w.drew:=E;rcases mC o with rfl|A
 ·simp[Builtin.append_,run_underlying u,sizeOf,typeInfo,zeroValue,x,s,j,r,f,d,Question.forced,k,g,newRow,grownCap]
  congr 2;apply Array.ext';simp[xa]
 ·simp[Builtin.append_,run_underlying u,run_underlying A,sizeOf,typeInfo,zeroValue,x,s,j,r,f,d,Question.forced,k,g,newRow,grownCap]
  congr 2;apply Array.ext';simp[xa]
theorem Cu(z:Array Value)(n:Nat):(Builtin.zeroCells z n).size=n*z.size:=by simp[Builtin.zeroCells]
theorem AV.cells_d(y:D):(AV.d y).cells=y.cells.map .d:=by cases y<;>rfl
theorem mD:∀(l:List D),AV.flat (l.map .d)=(D.flat l).map .d
 |[]=>rfl
 |a::r=>by
  have b:=mD r;simp only[AV.flat,D.flat]at b ⊢;simp only[xH,yT,xF,AV.cells_d,b]
def TyOk(P:Program)(t:TypeId)(G b:Gh)(h:aa)(s x:AV):Prop:=
 ∀k v sz l L,x= .vec k v sz l→b.loc k v=some L→P.underlying t=some (.slice L.ty)∨s.isVec=true∧∃a,G.loc k (h k).ver=some a∧L.ty=a.ty
theorem TyOk.non{P:Program}{t:TypeId}{G c:Gh}{h:aa}{s x:AV}(a:x.isVec=false):TyOk P t G c h s x:=by
 intro k v sz l L b _;rw[b]at a;cases a
theorem TyOk.noLoc{P:Program}{t:TypeId}{G a:Gh}{h:aa}{s:AV}{k v sz:Nat}{l:List D}(d:a.loc k v=none):TyOk P t G a h s (.vec k v sz l):=by
 intro k v sz l L c b;cases c;rw[d]at b;cases b
theorem TyOk.new{P:Program}{t e:TypeId}{G a:Gh}{h:aa}{s:AV}{k v sz:Nat}{l:List D}(d:P.underlying t=some (.slice e))(f:∀L,a.loc k v=some L→L.ty=e):TyOk P t G a h s (.vec k v sz l):=by
 intro k v sz l L b c;cases b;rw[f L c];exact .inl d
theorem qI(hr:HR G B w0 I0 h w){obm:Bool}{t t' ty:TypeId}(hta:sK P t t'=true){s x:AV}{vs vx:Value}(hs:Rep G w s vs)(hx:Rep G w x vx){k:Nat}{out:Out}(q:bW P obm t s x k h=some out):
    out.ob=[]∧∃v w' G',(Builtin.append_ #[t,t'] ty #[vs,vx]).run P w= .ok v w'∧Ext G w G' w'∧HR G' B w0 I0 (ap h out.wr) w'∧Rep G' w' out.val v∧TyOk P t G G' h s out.val:=by
 unfold bW at q;split at q
 ·rename_i e W
  split at q
  ·rename_i news rs z hsrc hz
   split at q
   ·rename_i hc
    obtain⟨hall,hpos,hby,hzs⟩:=hc;obtain⟨i,hi,hiz,J,hbe⟩:=ou hz;have hnc:∀y∈news,y.cells.length=P.cellsOf e:=fun y hy=>by simpa using xc.1 hall y hy
    obtain⟨T,Q,hus1,hus2,hus3,hus4⟩:=wG (P:=P) hr hx hsrc hnc;have hfw:=hus4 w (fun _ _=>rfl);have hfd:=hus4 w.drew (fun _ _=>rfl);rw[J]at hfw hfd;rw[hbe]at hby;have hfl:(D.flat news).length=news.length*P.cellsOf e:=D.flat_len hnc
    have hnewcell:∀(f:List Value)(A:Array Value)(l:List D),f.length=l.length*P.cellsOf e→(∀y∈l,y.cells.length=P.cellsOf e)→(∀(t:Nat)(c:D),(D.flat l)[t]? =some c→∃u:Value,f[t]? =some u∧c.one=true∧DRep G.imm w c u)→
        ∀(t:Nat)(c:D),(D.flat (l ++news))[t]? =some c→∃u:Value,(f.toArray ++Q.toArray ++A)[t]? =some u∧c.one=true∧DRep G.imm w c u:=by
     intro f A l hol hlc hold t c Z;have hfl2:(D.flat l).length=l.length*P.cellsOf e:=D.flat_len hlc;have H:D.flat (l ++news)=D.flat l ++D.flat news:=yd;rw[H]at Z;rw[←xi];simp only[Array.toList_append];by_cases htl:t<(D.flat l).length
     ·rw[xQ htl]at Z
      obtain⟨u,W,N,h2⟩:=hold t c Z;have:t<f.length:=by omega
      refine⟨u, ?_,N,h2⟩;rw[xa,xQ (by simpa using this)];exact W
     ·rw[xV (by omega)]at Z
      obtain⟨u,W,N,h2⟩:=hus3 _ c Z;have hlt:=(xC.1 W).1;refine⟨u, ?_,N,h2⟩;have e1:(D.flat l).length=f.length:=by rw[hol];exact hfl2
      rw[e1]at W hlt;rw[e1]at Z;have htl':¬t<f.length:=by omega
      rw[xa,xV (by simpa using htl'),xQ (by simpa using hlt)];simpa using W
    have M:Ext G w G w.drew:=Ext.drew G w;have hrd:=hr.drew
    have hnd:∀y∈news.map AV.d,y.cells.length=P.cellsOf e:=by
     intro y hy;obtain⟨y',hy',rfl⟩:=x9.1 hy;rw[AV.cells_d,xO];exact hnc y' hy'
    have hlod:news.all D.one=true→∀y∈news.map AV.d,y.lone=true:=by
     intro hall1 y hy;obtain⟨y',hy',rfl⟩:=x9.1 hy;have:=xc.1 hall1 y' hy';cases y'<;>first|rfl|(simp[D.one]at this)
    have C:∀(sLen sCap:Nat)(f:List Value),f.length=sLen*P.cellsOf e→
        (f.toArray ++Q.toArray ++Builtin.zeroCells z.cells (grownCap w (sLen+news.length) sCap e-(sLen+news.length))).size=grownCap w (sLen+news.length) sCap e*P.cellsOf e:=by
     intro sLen sCap f hol;have hge:=grownCap_ge w (sLen+news.length) sCap e;simp only[Array.size_append,Cu,hzs,List.size_toArray,hus1,hol];rw[←y8,←y8];congr 1;omega
    have avCell:∀(f:List Value)(A:Array Value)(xs:List AV),f.length=xs.length*P.cellsOf e→(∀y∈xs,y.cells.length=P.cellsOf e)→(∀(t:Nat)(c:AV),(AV.flat xs)[t]? =some c→∃u:Value,f[t]? =some u∧u.oneCell'=true∧Rep G w c u)→
        ∀(t:Nat)(c:AV),(AV.flat (xs ++news.map .d))[t]? =some c→∃u:Value,(f.toArray ++Q.toArray ++A)[t]? =some u∧u.oneCell'=true∧Rep G w c u:=by
     intro f A xs hol hxc hold t c Z;have hfl2:(AV.flat xs).length=xs.length*P.cellsOf e:=cG _ _ xs hxc;have H:AV.flat (xs ++news.map .d)=AV.flat xs ++(D.flat news).map .d:=by rw[←mD];exact yd
     rw[H]at Z;rw[←xi];simp only[Array.toList_append];by_cases htl:t<(AV.flat xs).length
     ·rw[xQ htl]at Z
      obtain⟨u,W,N,h2⟩:=hold t c Z;have:t<f.length:=by omega
      exact⟨u,by rw[xa,xQ (by simpa using this)];exact W,N,h2⟩
     ·rw[xV (by omega),xN,xB]at Z
      obtain⟨c',hc',rfl⟩:=Z;obtain⟨u,W,N,h2⟩:=hus3 _ c' hc';have hlt:=(xC.1 W).1;have e1:(AV.flat xs).length=f.length:=by rw[hol];exact hfl2
      rw[e1]at W hlt;refine⟨u, ?_,h2.oneCell N, .d h2⟩;have htl':¬t<f.length:=by omega
      rw[xa,xV (by simpa using htl'),xQ (by simpa using hlt)];simpa using W
    have S:∀(f:List Value)(A:Array Value)(xs:List AV),f.length=xs.length*P.cellsOf e→(∀y∈xs,y.cells.length=P.cellsOf e)→(∀(t:Nat)(c:AV),(AV.flat xs)[t]? =some c→∃u:Value,f[t]? =some u∧u.oneCell'=true∧Rep G w c u)→
        ∀(t:Nat)(c:AV),(AV.flat (xs ++news.map .d))[t]? =some c→∃u:Value,(f.toArray ++Q.toArray ++A)[t]? =some u∧u.oneCell'=true∧Rep G w.drew c u:=by
     intro f A xs a1 a2 a3 t c Z;obtain⟨u,N,h2,h3⟩:=avCell f A xs a1 a2 a3 t c Z;exact⟨u,N,h2,h3.mono M⟩
    have F:∀(f:List Value)(A:Array Value)(l:List D),f.length=l.length*P.cellsOf e→(∀y∈l,y.cells.length=P.cellsOf e)→(∀(t:Nat)(c:D),(D.flat l)[t]? =some c→∃u:Value,f[t]? =some u∧c.one=true∧DRep G.imm w c u)→
        ∀(t:Nat)(c:D),(D.flat (l ++news))[t]? =some c→∃u:Value,(f.toArray ++Q.toArray ++A)[t]? =some u∧c.one=true∧DRep G.imm w.drew c u:=by
     intro f A l a1 a2 a3 t c Z;obtain⟨u,N,h2,h3⟩:=hnewcell f A l a1 a2 a3 t c Z;exact⟨u,N,h2,h3.mono M.imm M.cell⟩
    have K:∀(E:Option Addr),news.length=0→(Builtin.append_ #[t,t'] ty #[.slice E 0 0,vx]).run P w= .ok (.slice E 0 0) w:=by
     intro E p;have r:news=[]:=x7 p;subst r;have hus0:Q=[]:=x7 (by simpa using hus1);subst hus0;simp at hfw T;rcases mC hta with rfl|hs'
     ·cases E with
      |none=>simp[Builtin.append_,run_underlying W,sizeOf,typeInfo,hi,T,hfw]
      |some a=>simp[Builtin.append_,run_underlying W,sizeOf,typeInfo,hi,T,hfw,storeCells]
     ·cases E with
      |none=>simp[Builtin.append_,run_underlying W,run_underlying hs',sizeOf,typeInfo,hi,T,hfw]
      |some a=>simp[Builtin.append_,run_underlying W,run_underlying hs',sizeOf,typeInfo,hi,T,hfw,storeCells]
    have n:(Builtin.firstCells i.size 0 (.slice none 0 0)).run P w.drew= .ok ([]:List Value).toArray w.drew:=by simp[Builtin.firstCells]
    split at q
    ·
     split at q
     ·cases q
     ·rename_i hk
      have hk2:news.length≤549755813888:=by
       rcases yR 549755813888 news.length with h9|h9
       ·exact absurd (Or.inr h9) hk
       ·exact h9
      cases hs;by_cases p:news.length=0
      ·have g:=K none p
       have r:news=[]:=x7 p;split at q
       ·split at q
        ·cases q
        ·simp only[xA]at q
         subst q;obtain⟨G',V,R,_⟩:=hr.bump k (some (.arr (P.cellsOf e) (news.map .d))) (fun o O=>by rw[r]at O;simp at O;exact⟨_,O.symm⟩);rw[p];try rw[p]at g
         exact⟨rfl,_,w,G',g,R,V, .slNil _ _ _ _,TyOk.non rfl⟩
       ·simp only[xA]at q
        subst q;obtain⟨G',V,R,g9⟩:=hr.bump k none (fun o O=>by cases O);rw[r];try rw[r]at g
        exact⟨rfl,_,w,G',g,R,V, .vecNil _ _ _,TyOk.noLoc g9⟩
      ·have g:=bG (w:=w) t t' ty e i z W hta hi hiz none 0 0 [] n vx news.length Q T hfd (by omega) (by omega) hby
       have hge:=grownCap_ge w (0+news.length) 0 e;have I:=C 0 0 [] (by simp);split at q
       ·split at q
        ·cases q
        ·rename_i hlo
         simp only[xA]at q;subst q
         obtain⟨V,R⟩:=hrd.newOb k (P.cellsOf e) (grownCap w (0+news.length) 0 e) (news.map .d) _ e I (by rw[xO];omega) hnd (fun N=>hlod (by
          cases hxa:news.all D.one with
          |true=>rfl
          |false=>exact absurd ⟨N,hxa⟩ hlo)) (by simpa using S [] (Builtin.zeroCells z.cells (grownCap w (0+news.length) 0 e-(0+news.length))) [] (by simp) (by simp) (by simp[AV.flat]))
         refine⟨rfl,_,_,_,g,M.trans R,V, ?_,TyOk.non rfl⟩;have:=Rep.sl (w:=w.drew.alloc (.cells (([]:List Value).toArray ++Q.toArray ++Builtin.zeroCells z.cells (grownCap w (0+news.length) 0 e-(0+news.length))) e)) k ((h k).ver+1) 0 news.length (grownCap w (0+news.length) 0 e) _ (Gh.at_same G k ((h k).ver+1) ⟨w.heap.size,P.cellsOf e,grownCap w (0+news.length) 0 e,0,e⟩) (by simp) (by omega);simpa using this
       ·simp only[xA]at q
        subst q;obtain⟨G',V,R,g3,g9⟩:=hrd.newVecT k (P.cellsOf e) (grownCap w (0+news.length) 0 e) news _ e I (by omega) hnc (by simpa using F [] (Builtin.zeroCells z.cells (grownCap w (0+news.length) 0 e-(0+news.length))) [] (by simp) (by simp) (by simp[D.flat]));refine⟨rfl,_,_,G',g,M.trans R,V, ?_,TyOk.new W g9⟩;simpa using g3
    ·
     split at q
     ·cases q
     ·rename_i hk
      have hk2:¬549755813888<news.length:=fun h9=>hk (.inr h9)
      cases hs with
      |es E=>
       split at q
       ·
        split at q
        ·cases q
        ·rename_i hlo
         simp only[xA]at q;subst q;by_cases p:news.length=0
         ·have g:=K E p
          have r:news=[]:=x7 p;obtain⟨G',V,R,_⟩:=hr.bump k (some (.arr (P.cellsOf e) (news.map .d))) (fun o O=>by rw[r]at O;simp at O;exact⟨_,O.symm⟩);rw[p];try rw[p]at g
          exact⟨rfl,_,w,G',g,R,V, .slNil _ _ _ _,TyOk.non rfl⟩
         ·have hf0:(Builtin.firstCells i.size 0 (.slice E 0 0)).run P w.drew= .ok ([]:List Value).toArray w.drew:=by
            cases E with
            |none=>exact n
            |some a=>exact run_firstCells_some (P:=P) w.drew i.size 0 a 0 0 [] (by simp) (by simp)
          have g:=bG (w:=w) t t' ty e i z W hta hi hiz E 0 0 [] hf0 vx news.length Q T hfd (by omega) (by omega) hby;have hge:=grownCap_ge w (0+news.length) 0 e;have I:=C 0 0 [] (by simp)
          obtain⟨V,R⟩:=hrd.newOb k (P.cellsOf e) (grownCap w (0+news.length) 0 e) (news.map .d) _ e I (by rw[xO];omega) hnd (fun N=>hlod (by
           cases hxa:news.all D.one with
           |true=>rfl
           |false=>exact absurd ⟨N,hxa⟩ hlo)) (by simpa using S [] (Builtin.zeroCells z.cells (grownCap w (0+news.length) 0 e-(0+news.length))) [] (by simp) (by simp) (by simp[AV.flat]))
          refine⟨rfl,_,_,_,g,M.trans R,V, ?_,TyOk.non rfl⟩;have:=Rep.sl (w:=w.drew.alloc (.cells (([]:List Value).toArray ++Q.toArray ++Builtin.zeroCells z.cells (grownCap w (0+news.length) 0 e-(0+news.length))) e)) k ((h k).ver+1) 0 news.length (grownCap w (0+news.length) 0 e) _ (Gh.at_same G k ((h k).ver+1) ⟨w.heap.size,P.cellsOf e,grownCap w (0+news.length) 0 e,0,e⟩) (by simp) (by omega);simpa using this
       ·simp only[xA]at q
        subst q;clear hk;by_cases p:news.length=0
        ·have g:=K E p
         have r:news=[]:=x7 p;refine⟨rfl,_,w,G,g,Ext.refl G w,hr, ?_,TyOk.non rfl⟩;rw[r];exact .d (.roNil _ _)
        ·have hf0:(Builtin.firstCells i.size 0 (.slice E 0 0)).run P w.drew= .ok ([]:List Value).toArray w.drew:=by
           cases E with
           |none=>exact n
           |some a=>exact run_firstCells_some (P:=P) w.drew i.size 0 a 0 0 [] (by simp) (by simp)
         have g:=bG (w:=w) t t' ty e i z W hta hi hiz E 0 0 [] hf0 vx news.length Q T hfd (by omega) (by omega) hby;have hge:=grownCap_ge w (0+news.length) 0 e;obtain⟨G',V,R,g3⟩:=hrd.newImm news (P.cellsOf e) (grownCap w (0+news.length) 0 e) (([]:List Value).toArray ++Q.toArray ++Builtin.zeroCells z.cells (grownCap w (0+news.length) 0 e-(0+news.length))) e (by omega) hnc (by simpa using F [] (Builtin.zeroCells z.cells (grownCap w (0+news.length) 0 e-(0+news.length))) [] (by simp) (by simp) (by simp[D.flat]));refine⟨rfl,_,_,G',g,M.trans R,V, .d ?_,TyOk.non rfl⟩;simpa using g3
    ·
     rename_i k' v sz l;split at q
     ·rename_i hc
      obtain⟨rfl,hob,hkrs,hsze,hle⟩:=hc;have hob:(h k').ob=none:=by simpa using hob
      simp only[xA]at q;subst q;cases hs with
      |vecNil=>
       subst hsze;by_cases p:news.length=0
       ·have g:=K none p
        have r:news=[]:=x7 p;obtain⟨G',V,R,g9⟩:=hr.bump k' none (fun o O=>by cases O);rw[r];try rw[r]at g
        exact⟨rfl,_,w,G',g,R,V, .vecNil _ _ _,TyOk.noLoc g9⟩
       ·simp at hle
        have g:=bG (w:=w) t t' ty e i z W hta hi hiz none 0 0 [] n vx news.length Q T hfd (by omega) (by omega) hby;have hge:=grownCap_ge w (0+news.length) 0 e;have I:=C 0 0 [] (by simp);obtain⟨G',V,R,g3,g9⟩:=hrd.newVecT k' (P.cellsOf e) (grownCap w (0+news.length) 0 e) news _ e I (by omega) hnc (by simpa using F [] (Builtin.zeroCells z.cells (grownCap w (0+news.length) 0 e-(0+news.length))) [] (by simp) (by simp) (by simp[D.flat]));refine⟨rfl,_,_,G',g,M.trans R,V, ?_,TyOk.new W g9⟩;simpa using g3
      |vec _ _ _ L hL hfr hlen hlsz hd=>
       obtain⟨f,ho1,ho2,ho3,ho4⟩:=dG (P:=P) hd hlsz;obtain⟨hB,⟨arr,e',hb,has⟩,_⟩:=hr.own k' L hL;by_cases X:l.length+news.length≤L.cap
       ·have hfit:l.length*i.size+Q.length≤arr.size:=by
          rw[has.1,hsze,hus1,←J,←y8];exact yZ _ X
        have g:=gw t t' ty e e' i W hta hi L.b l.length L.cap arr hb vx news.length Q (T w) hfw hus2 X hfit;have hseg:=fun s=>lJ arr.toList Q (l.length*i.size) s (by simpa using hfit)
        have hLs:L.sz=P.cellsOf e:=hsze
        have hcelllist:∀(t:Nat)(c:D),(D.flat l)[t]? =some c→∃u:Value,arr[t]? =some u∧c.one=true∧DRep G.imm w c u:=by
         intro t c Z;cases hd with
         |roNil=>simp[D.flat]at Z
         |ro _ b o c' sz' U hcap hsz' N hi' hc' hr'=>
          have:=hc' t c Z;rw[x8]at this;exact⟨U t,by simpa [World.cell?,hb]using this,N c (xX Z),hr' t c Z⟩
        have hfl2:(D.flat l).length=l.length*P.cellsOf e:=by rw[D.flat_len hlsz,hLs]
        obtain⟨G',V,R,g3,g9⟩:=hr.growT (news:=news) hob hL hfr hb (arr':=(arr.toList.take (l.length*i.size) ++Q ++arr.toList.drop (l.length*i.size+Q.length)).toArray) (by simp;omega) X hlsz (fun y hy=>by rw[hLs];exact hnc y hy) (fun s hs=>by
         rw[yf,hseg s,xf (by rw[←J,←hLs];exact hs)];simp) (fun s c hs=>by
         have H:D.flat (l ++news)=D.flat l ++D.flat news:=yd;rw[H]at hs;rw[yf,hseg s];by_cases hsl:s<(D.flat l).length
         ·rw[xQ hsl]at hs
          obtain⟨u,Y,N,h2⟩:=hcelllist s c hs;refine⟨u, ?_,N,h2⟩;rw[xf (by rw[←J];omega)];simpa using Y
         ·rw[xV (by omega)]at hs
          obtain⟨u,Y,N,h2⟩:=hus3 _ c hs;have hlt:=(xC.1 Y).1;refine⟨u, ?_,N,h2⟩;rw[xo (by rw[←J];omega),xf (by rw[←J];omega),←J,←hfl2];exact Y)
        exact⟨rfl,_,_,G',g,R,V,g3,fun _ _ _ _ L1 hv hL1=>by
         cases hv;exact .inr ⟨rfl,L,hL,g9 L1 hL1⟩⟩
       ·have hfo:=ho4 w.drew (fun _ _=>rfl)
        have hLs:L.sz=P.cellsOf e:=hsze;rw[hLs,J]at hfo;have g:=bG (w:=w) t t' ty e i z W hta hi hiz (some ⟨L.b,0,none⟩) l.length L.cap f hfo vx news.length Q T hfd (by omega) hle hby;have hge:=grownCap_ge w (l.length+news.length) L.cap e;have I:=C l.length L.cap f (by rw[ho1,hLs])
        obtain⟨G',V,R,g3,g9⟩:=hrd.newVecT k' (P.cellsOf e) (grownCap w (l.length+news.length) L.cap e) (l ++news) _ e I (by rw[xK];omega) (fun y hy=>by
         rcases xU.1 hy with hy|hy
         ·rw[←hLs];exact hlsz y hy
         ·exact hnc y hy) (F f (Builtin.zeroCells z.cells (grownCap w (l.length+news.length) L.cap e-(l.length+news.length))) l (by rw[ho1,hLs]) (fun y hy=>by rw[←hLs];exact hlsz y hy) ho3)
        refine⟨rfl,_,_,G',g,M.trans R,V, ?_,TyOk.new W g9⟩;rw[xK,←hLs]at g3;exact g3
     ·cases q
    ·
     rename_i k' v off m sz0;split at q
     ·rename_i sz es hob
      split at q
      ·rename_i hc
       obtain⟨rfl,rfl,hles,rfl,hle,hone⟩:=hc;simp only[xA]at q;subst q;have htl:(es.take m).length=m:=by simp;omega
       have hlo':∀(hlo:P.cellsOf e=1→∀x∈es,x.lone=true),P.cellsOf e=1→∀x∈es.take m ++news.map .d,x.lone=true:=by
        intro hlo N x hx;rcases xU.1 hx with hx|hx
        ·exact hlo N x (yL hx)
        ·exact hlod (hone N) x hx
       cases hs with
       |slNil _ _ _ E=>
        have hf0:(Builtin.firstCells i.size 0 (.slice E 0 0)).run P w.drew= .ok ([]:List Value).toArray w.drew:=by
         cases E with
         |none=>exact n
         |some a=>exact run_firstCells_some (P:=P) w.drew i.size 0 a 0 0 [] (by simp) (by simp)
        by_cases p:news.length=0
        ·have g:=K E p
         have r:news=[]:=x7 p;obtain⟨G',V,R,_⟩:=hr.bump k' (some (.arr (P.cellsOf e) (es.take 0 ++news.map .d))) (fun o O=>by rw[r]at O;simp at O;exact⟨_,O.symm⟩);rw[p];try rw[p]at g
         exact⟨rfl,_,w,G',g,R,V, .slNil _ _ _ _,TyOk.non rfl⟩
        ·have g:=bG (w:=w) t t' ty e i z W hta hi hiz E 0 0 [] hf0 vx news.length Q T hfd (by omega) (by omega) hby
         have hge:=grownCap_ge w (0+news.length) 0 e;have I:=C 0 0 [] (by simp);obtain⟨V,R⟩:=hrd.newOb k' (P.cellsOf e) (grownCap w (0+news.length) 0 e) (es.take 0 ++news.map .d) _ e I (by rw[xK,xO,yb];omega) (by simpa using hnd) (fun N=>by simpa using hlod (hone N)) (by simpa using S [] (Builtin.zeroCells z.cells (grownCap w (0+news.length) 0 e-(0+news.length))) [] (by simp) (by simp) (by simp[AV.flat]));refine⟨rfl,_,_,_,g,M.trans R,V, ?_,TyOk.non rfl⟩;have:=Rep.sl (w:=w.drew.alloc (.cells (([]:List Value).toArray ++Q.toArray ++Builtin.zeroCells z.cells (grownCap w (0+news.length) 0 e-(0+news.length))) e)) k' ((h k').ver+1) 0 (0+news.length) (grownCap w (0+news.length) 0 e) _ (Gh.at_same G k' ((h k').ver+1) ⟨w.heap.size,P.cellsOf e,grownCap w (0+news.length) 0 e,0,e⟩) (by simp) (by omega);simpa using this
       |sl _ _ _ _ cc L hL hcap hlc=>
        rcases hr.objs k' _ hob with ⟨_,hLn⟩|⟨L',hL',N,h2,h3,h4,h6,h5⟩
        ·rw[hL]at hLn;cases hLn
        ·rw[hL]at hL'
         simp only[xA]at hL';subst hL';obtain⟨hB,⟨arr,e',hb,has⟩,_⟩:=hr.own k' L hL;have htc:∀y∈es.take m,y.cells.length=P.cellsOf e:=fun y hy=>h4 y (yL hy)
         have hall':∀y∈es.take m ++news.map .d,y.cells.length=P.cellsOf e:=fun y hy=>by
          rcases xU.1 hy with hy|hy
          ·exact htc y hy
          ·exact hnd y hy
         have hfl2:(AV.flat (es.take m)).length=m*P.cellsOf e:=by rw[AV.flat,cG _ _ _ htc,htl]
         have hold:∀(t:Nat)(c:AV),(AV.flat (es.take m))[t]? =some c→∃u:Value,arr[t]? =some u∧u.oneCell'=true∧Rep G w c u:=by
          intro t c Z
          have:AV.flat es=AV.flat (es.take m) ++AV.flat (es.drop m):=by
           show List.flatMap _ _=List.flatMap _ _ ++List.flatMap _ _;rw[←yd,List.take_append_drop]
          have hlt:=(xC.1 Z).1;obtain⟨u,Y,hu1,hur⟩:=h5 t c (by rw[this,xQ hlt];exact Z);exact⟨u,by simpa [World.cell?,hb]using Y,hu1,hur⟩
         have hz0:(⟨L.b,0*L.sz,none⟩:Addr)=⟨L.b,0,none⟩:=by simp
         rw[hz0];by_cases X:m+news.length≤cc
         ·have hfit:m*i.size+Q.length≤arr.size:=by
            rw[has.1,N,hus1,←J,←y8];exact yZ _ (by omega)
          have g:=gw t t' ty e e' i W hta hi L.b m cc arr hb vx news.length Q (T w) hfw hus2 X hfit;have hseg:=fun s=>lJ arr.toList Q (m*i.size) s (by simpa using hfit)
          obtain⟨V,R⟩:=hr.regrow (es':=es.take m ++news.map .d) hL N h2 hb (arr':=(arr.toList.take (m*i.size) ++Q ++arr.toList.drop (m*i.size+Q.length)).toArray) (by simp;omega) (by simp;omega) hall' (hlo' h6) (fun s c hs=>by
           have H:AV.flat (es.take m ++news.map .d)=AV.flat (es.take m) ++(D.flat news).map .d:=by rw[←mD];exact yd
           rw[H]at hs;rw[yf,hseg s];by_cases hsl:s<(AV.flat (es.take m)).length
           ·rw[xQ hsl]at hs
            obtain⟨u,Y,h1',h2'⟩:=hold s c hs;refine⟨u, ?_,h1',h2'⟩;rw[xf (by rw[←J];omega)];simpa using Y
           ·rw[xV (by omega),xN,xB]at hs
            obtain⟨c',hc',rfl⟩:=hs;obtain⟨u,Y,h1',h2'⟩:=hus3 _ c' hc';have hlt:=(xC.1 Y).1;refine⟨u, ?_,h2'.oneCell h1', .d h2'⟩;rw[xo (by rw[←J];omega),xf (by rw[←J];omega),←J,←hfl2];exact Y)
          refine⟨rfl,_,_,_,g,R,V, ?_,TyOk.non rfl⟩;have:=Rep.sl (w:=w.setRow L.b (arr.toList.take (m*i.size) ++Q ++arr.toList.drop (m*i.size+Q.length)).toArray) k' ((h k').ver+1) 0 (m+news.length) cc L (Gh.at_same G k' ((h k').ver+1) L) hcap X;rw[hz0,N]at this;exact this
         ·have hfo:(Builtin.firstCells i.size m (.slice (some ⟨L.b,0,none⟩) m cc)).run P w.drew= .ok (arr.toList.take (m*i.size)).toArray w.drew:=by
            refine run_firstCells_some (P:=P) w.drew i.size m ⟨L.b,0,none⟩ m cc _ ?_ (fun j v hj=> ?_)
            ·have:m*i.size≤arr.size:=by rw[has.1,N,←J];exact yZ _ (by omega)
             simp;omega
            ·rw[yD]at hj
             split at hj
             ·rw[dn,x8]
              show w.cell? _=_;simpa [World.cell?,hb]using hj
             ·cases hj
          have hol:(arr.toList.take (m*i.size)).length=m*P.cellsOf e:=by
           have:m*i.size≤arr.size:=by rw[has.1,N,←J];exact yZ _ (by omega)
           rw[J];simp;omega
          have g:=bG (w:=w) t t' ty e i z W hta hi hiz (some ⟨L.b,0,none⟩) m cc _ hfo vx news.length Q T hfd (by omega) hle hby;have hge:=grownCap_ge w (m+news.length) cc e;have I:=C m cc _ hol
          obtain⟨V,R⟩:=hrd.newOb k' (P.cellsOf e) (grownCap w (m+news.length) cc e) (es.take m ++news.map .d) _ e I (by rw[xK,xO,htl];omega) hall' (hlo' h6) (S (arr.toList.take (m*i.size)) (Builtin.zeroCells z.cells (grownCap w (m+news.length) cc e-(m+news.length))) (es.take m) (by rw[hol,htl]) htc (fun s c hs=>by
           obtain⟨u,Y,h1',h2'⟩:=hold s c hs;have hlt:=(xC.1 hs).1;refine⟨u, ?_,h1',h2'⟩;rw[yD,xf (by rw[←J];omega)];simpa using Y))
          refine⟨rfl,_,_,_,g,M.trans R,V, ?_,TyOk.non rfl⟩;have:=Rep.sl (w:=w.drew.alloc (.cells ((arr.toList.take (m*i.size)).toArray ++Q.toArray ++Builtin.zeroCells z.cells (grownCap w (m+news.length) cc e-(m+news.length))) e)) k' ((h k').ver+1) 0 (m+news.length) (grownCap w (m+news.length) cc e) _ (Gh.at_same G k' ((h k').ver+1) ⟨w.heap.size,P.cellsOf e,grownCap w (m+news.length) cc e,0,e⟩) (by simp) (by omega);simpa using this
      ·cases q
     ·cases q
    ·cases q
   ·cases q
  ·cases q
 ·cases q
theorem uD{b:Bool}{t:TypeId}{s x:AV}{k:Nat}{out:Out}(a:bW P b t s x k h=some out){d v sz:Nat}{l:List D}(c:out.val= .vec d v sz l):v≤(ap h out.wr d).ver:=by
 unfold bW at a;repeat' split at a
 all_goals first
  |(cases a;done)
  |(simp only[xA]at a;subst a;simp only at c;cases c<;>simp[ap,aG])
theorem iP(d:HR G B w0 I0 h w){k v:Nat}{T:TypeId}{n:Option Nat}(a:m5 h k v=some (T,n)):∀L,G.loc k v=some L→L.ty=T∧∀m,n=some m→L.cap*L.sz=m:=by
 unfold m5 at a;split at a
 ·rename_i g v' f e b
  split at a
  ·rename_i c
   obtain⟨rfl,rfl⟩:=c;cases a;exact(d.objs _ _ b).2
  ·cases a
 ·cases a
theorem pI(C:HR G B w0 I0 h w){p:Bool}{t z ty:TypeId}(u:sK P t z=true){s x:AV}{vs A:Value}(E:Rep G w s vs)(H:Rep G w x A){k:Nat}{out:Out}(a:dq P p t s x k h=some out):
    out.ob=[]∧∃v d g,(Builtin.append_ #[t,z] ty #[vs,A]).run P w= .ok v d∧Ext G w g d∧HR g B w0 I0 (ap h out.wr) d∧Rep g d out.val v:=by
 unfold dq at a;split at a;case h_2=>cases a
 rename_i b f;obtain⟨r,v,d,g,y,h2,o,n,M⟩:=qI C (ty:=ty) u E H f;split at a
 ·rename_i e l v' q l' O J c
  split at a
  ·rename_i D
   simp only[xA]at a;subst a;rw[(fx ..).1,(fx ..).2];refine⟨r,v,d,g,y,h2, ?_,n⟩;refine iW (out:={b with rd:=l::kl l::b.rd}) o true e none l v' (uD f c) (fun _ L K=>⟨?_,fun m hm=>by cases hm⟩);rcases M l v' q l' L c K with j|⟨j,N,I,F⟩
   ·rw[J]at j;cases j;rfl
   ·rcases D.2 with i|i
    ·rw[j]at i;cases i
    ·rw[F];exact(iP C i N I).1
  ·simp only[xA]at a
   subst a;exact⟨r,v,d,g,y,h2,o,n⟩
 ·simp only[xA]at a
  subst a;exact⟨r,v,d,g,y,h2,o,n⟩
theorem pJ(hr:HR G B w0 I0 h w){t t' ty:TypeId}(hta:sK P t t'=true){s x:AV}{vs vx:Value}(K:Rep G w s vs)(hx:Rep G w x vx){out:Out}(W:fu P t s x h=some out):
    out.ob=[]∧∃v w' G',(Builtin.append_ #[t,t'] ty #[vs,vx]).run P w= .ok v w'∧Ext G w G' w'∧HR G' B w0 I0 (ap h out.wr) w'∧Rep G' w' out.val v:=by
 unfold fu at W;split at W;case h_2=>cases W
 rename_i e hu;split at W;case h_2=>cases W
 rename_i z k v off d sz1 kx vx1 offx lenx sz2 hz;split at W;case h_2=>cases W
 rename_i sz es szx A va r la E hob hobx;split at W;case isFalse=>cases W
 rename_i hc;obtain⟨rfl,rfl,hles,rfl,rfl,rfl,rfl,rfl,hce,hby,hzs,hle⟩:=hc;simp only[xA]at W;subst W;obtain⟨i,hi,hiz,hsz,hbe⟩:=ou hz;rw[hbe]at hby;have m:i.size=1:=by rw[←hsz];exact hce
 cases hx with
 |sl _ _ _ _ cx Lx hLx hcapx hlcx=>
 rcases hr.objs kx _ hobx with ⟨h9,_⟩|⟨Lx',S,q1,q2,q3,q4,q6,q5⟩
 ·cases h9
 rw[hLx]at S;simp only[xA]at S;subst S;obtain⟨u,hu0,U,Z⟩:=q5 0 (.sl A va r la E) rfl;have hu0':w.cell? ⟨Lx.b,0,none⟩=some u:=hu0;have hz0:(⟨Lx.b,0*Lx.sz,none⟩:Addr)=⟨Lx.b,0,none⟩:=by simp
 rw[hz0];have hxl:∀Y:World,(Builtin.lenOf (.slice (some ⟨Lx.b,0,none⟩) 1 cx)).run P Y= .ok 1 Y:=fun Y=>by simp[Builtin.lenOf]
 have hf:∀Y:World,(∀a,Y.cell? a=w.cell? a)→(Builtin.firstCells i.size 1 (.slice (some ⟨Lx.b,0,none⟩) 1 cx)).run P Y= .ok [u].toArray Y:=fun Y hw2=>by
  refine run_firstCells_some (P:=P) Y i.size 1 ⟨Lx.b,0,none⟩ 1 cx [u] (by simp[m]) (fun j v hj=> ?_);cases j with
  |zero=>
   rw[dn];simp only[xj,xA]at hj;subst hj;rw[hw2];exact hu0'
  |succ j=>simp at hj
 have hfw:=hf w (fun _=>rfl);have hfd:=hf w.drew (fun _=>rfl);have I:Ext G w G w.drew:=Ext.drew G w;have hrd:=hr.drew;have C:(Builtin.firstCells i.size 0 (.slice none 0 0)).run P w.drew= .ok ([]:List Value).toArray w.drew:=by simp[Builtin.firstCells]
 have Q:(es.take d).length=d:=by simp;omega
 have hca:∀y∈[AV.sl A va r la E],y.cells.length=1:=fun y g=>by rw[xM]at g;subst g;rfl
 have hla:∀y∈[AV.sl A va r la E],y.lone=true:=fun y g=>by rw[xM]at g;subst g;rfl
 have hfa:AV.flat [AV.sl A va r la E]=[AV.sl A va r la E]:=rfl
 have q:∀(l H:Nat)(f:List Value),f.length=l→
     (f.toArray ++[u].toArray ++Builtin.zeroCells z.cells (grownCap w (l+1) H e-(l+1))).size=grownCap w (l+1) H e*1:=by
  intro l H f V;have hge:=grownCap_ge w (l+1) H e;simp only[Array.size_append,Cu,hzs,List.size_toArray,xG,xS,V];omega
 have p:∀(f:List Value)(rest:Array Value)(xs:List AV),f.length=xs.length→(∀y∈xs,y.cells.length=1)→(∀(t:Nat)(c:AV),(AV.flat xs)[t]? =some c→∃u:Value,f[t]? =some u∧u.oneCell'=true∧Rep G w c u)→
     ∀(t:Nat)(c:AV),(AV.flat (xs ++[AV.sl A va r la E]))[t]? =some c→∃u':Value,(f.toArray ++[u].toArray ++rest)[t]? =some u'∧u'.oneCell'=true∧Rep G w.drew c u':=by
  intro f rest xs V hxc F t c N;have hfl2:(AV.flat xs).length=xs.length*1:=cG _ _ xs hxc;have n:AV.flat (xs ++[AV.sl A va r la E])=AV.flat xs ++[AV.sl A va r la E]:=by rw[←hfa];exact yd
  rw[n]at N;rw[←xi];simp only[Array.toList_append];by_cases Q:t<(AV.flat xs).length
  ·rw[xQ Q]at N
   obtain⟨u',D,h1,h2⟩:=F t c N;have:t<f.length:=by omega
   exact⟨u',by rw[xa,xQ (by simpa using this)];exact D,h1,h2.mono I⟩
  ·rw[xV (by omega)]at N
   have J:=(xC.1 N).1;simp only[xG,xS]at J;have e1:t-(AV.flat xs).length=0:=by omega
   rw[e1]at N;simp only[xj,xA]at N;subst N;refine⟨u, ?_,U,Z.mono I⟩;rw[xa,xV (by show f.length≤t;omega)];have e2:t-f.toArray.toList.length=0:=by show t-f.length=0;omega
   rw[e2];rfl
 refine⟨rfl, ?_⟩;cases K with
 |slNil _ _ _ ao'=>
  have hf0:(Builtin.firstCells i.size 0 (.slice ao' 0 0)).run P w.drew= .ok ([]:List Value).toArray w.drew:=by
   cases ao' with
   |none=>exact C
   |some a=>exact run_firstCells_some (P:=P) w.drew i.size 0 a 0 0 [] (by simp) (by simp)
  have o:=bG (w:=w) t t' ty e i z hu hta hi hiz ao' 0 0 [] hf0 _ 1 [u] hxl hfd (by omega) (by omega) hby;have hge:=grownCap_ge w (0+1) 0 e;have X:=q 0 0 [] rfl;obtain⟨g1,g2⟩:=hrd.newOb k 1 (grownCap w (0+1) 0 e) (es.take 0 ++[.sl A va r la E]) _ e X (by simp;omega) (by simpa using hca) (fun _=>by simpa using hla) (by simpa using p [] (Builtin.zeroCells z.cells (grownCap w (0+1) 0 e-(0+1))) [] rfl (by simp) (by simp[AV.flat]));refine⟨_,_,_,o,I.trans g2,g1, ?_⟩;have:=Rep.sl (w:=w.drew.alloc (.cells (([]:List Value).toArray ++[u].toArray ++Builtin.zeroCells z.cells (grownCap w (0+1) 0 e-(0+1))) e)) k ((h k).ver+1) 0 (0+1) (grownCap w (0+1) 0 e) _ (Gh.at_same G k ((h k).ver+1) ⟨w.heap.size,1,grownCap w (0+1) 0 e,0,e⟩) (by simp) (by omega);simpa using this
 |sl _ _ _ _ M L hL hcap hlc=>
  rcases hr.objs k _ hob with ⟨_,hLn⟩|⟨L',hL',h1,h2,h3,h4,h6,h5⟩
  ·rw[hL]at hLn;cases hLn
  ·rw[hL]at hL'
   simp only[xA]at hL';subst hL';obtain⟨hB,⟨arr,e',hb,has⟩,_⟩:=hr.own k L hL;have htc:∀y∈es.take d,y.cells.length=1:=fun y g=>h4 y (yL g)
   have O:∀y∈es.take d ++[.sl A va r la E],y.cells.length=1:=fun y g=>by
    rcases xU.1 g with g|g
    ·exact htc y g
    ·exact hca y g
   have hlo':(1:Nat)=1→∀y∈es.take d ++[AV.sl A va r la E],y.lone=true:=fun _ y g=>by
    rcases xU.1 g with g|g
    ·exact h6 rfl y (yL g)
    ·exact hla y g
   have hfl2:(AV.flat (es.take d)).length=d:=by rw[AV.flat,cG _ _ _ htc,Q,Nat.mul_one]
   have F:∀(t:Nat)(c:AV),(AV.flat (es.take d))[t]? =some c→∃u:Value,arr[t]? =some u∧u.oneCell'=true∧Rep G w c u:=by
    intro t c N
    have:AV.flat es=AV.flat (es.take d) ++AV.flat (es.drop d):=by
     show List.flatMap _ _=List.flatMap _ _ ++List.flatMap _ _;rw[←yd,List.take_append_drop]
    have J:=(xC.1 N).1;obtain⟨u,D,U,Z⟩:=h5 t c (by rw[this,xQ J];exact N);exact⟨u,by simpa [World.cell?,hb]using D,U,Z⟩
   have hz1:(⟨L.b,0*L.sz,none⟩:Addr)=⟨L.b,0,none⟩:=by simp
   rw[hz1];have hasz:arr.size=L.cap:=by rw[has.1,h1,Nat.mul_one]
   by_cases T:d+1≤M
   ·have R:d*i.size+[u].length≤arr.size:=by rw[m,hasz];simp;omega
    have o:=gw t t' ty e e' i hu hta hi L.b d M arr hb _ 1 [u] (hxl w) hfw (fun y g=>by rw[xM]at g;subst g;exact U) T R;have hseg:=fun s=>lJ arr.toList [u] (d*i.size) s (by simpa using R)
    obtain⟨g1,g2⟩:=hr.regrow (es':=es.take d ++[.sl A va r la E]) hL h1 h2 hb (arr':=(arr.toList.take (d*i.size) ++[u] ++arr.toList.drop (d*i.size+[u].length)).toArray) (by simp;simp at R;omega) (by simp;omega) O hlo' (fun s c K=>by
     have n:AV.flat (es.take d ++[.sl A va r la E])=AV.flat (es.take d) ++[.sl A va r la E]:=by rw[←hfa];exact yd
     rw[n]at K;rw[yf,hseg s];by_cases hsl:s<(AV.flat (es.take d)).length
     ·rw[xQ hsl]at K
      obtain⟨u',D,h1',h2'⟩:=F s c K;refine⟨u', ?_,h1',h2'⟩;rw[xf (by rw[m];omega)];simpa using D
     ·rw[xV (by omega)]at K
      have J:=(xC.1 K).1;simp only[xG,xS]at J;have e1:s-(AV.flat (es.take d)).length=0:=by omega
      rw[e1]at K;simp only[xj,xA]at K;subst K;refine⟨u, ?_,U,Z⟩;rw[xo (by rw[m];omega),xf (by rw[m];simp;omega),show s-d*i.size=0 by rw[m];omega];rfl)
    refine⟨_,_,_,o,g2,g1, ?_⟩;have:=Rep.sl (w:=w.setRow L.b (arr.toList.take (d*i.size) ++[u] ++arr.toList.drop (d*i.size+[u].length)).toArray) k ((h k).ver+1) 0 (d+1) M L (Gh.at_same G k ((h k).ver+1) L) hcap T;rw[hz1,h1]at this;exact this
   ·have hfo:(Builtin.firstCells i.size d (.slice (some ⟨L.b,0,none⟩) d M)).run P w.drew= .ok (arr.toList.take (d*i.size)).toArray w.drew:=by
      refine run_firstCells_some (P:=P) w.drew i.size d ⟨L.b,0,none⟩ d M _ ?_ (fun j v hj=> ?_)
      ·have:d*i.size≤arr.size:=by rw[m,hasz];omega
       simp;omega
      ·rw[yD]at hj
       split at hj
       ·rw[dn,x8]
        show w.cell? _=_;simpa [World.cell?,hb]using hj
       ·cases hj
    have V:(arr.toList.take (d*i.size)).length=d:=by
     rw[m];simp;omega
    have o:=bG (w:=w) t t' ty e i z hu hta hi hiz (some ⟨L.b,0,none⟩) d M _ hfo _ 1 [u] hxl hfd (by omega) hle hby;have hge:=grownCap_ge w (d+1) M e;have X:=q d M _ V
    obtain⟨g1,g2⟩:=hrd.newOb k 1 (grownCap w (d+1) M e) (es.take d ++[.sl A va r la E]) _ e X (by rw[xK,Q];simp;omega) O hlo' (p (arr.toList.take (d*i.size)) (Builtin.zeroCells z.cells (grownCap w (d+1) M e-(d+1))) (es.take d) (by rw[V,Q]) htc (fun s c K=>by
     obtain⟨u',D,h1',h2'⟩:=F s c K;have J:=(xC.1 K).1;refine⟨u', ?_,h1',h2'⟩;rw[yD,xf (by rw[m];omega)];simpa using D))
    refine⟨_,_,_,o,I.trans g2,g1, ?_⟩;have:=Rep.sl (w:=w.drew.alloc (.cells ((arr.toList.take (d*i.size)).toArray ++[u].toArray ++Builtin.zeroCells z.cells (grownCap w (d+1) M e-(d+1))) e)) k ((h k).ver+1) 0 (d+1) (grownCap w (d+1) M e) _ (Gh.at_same G k ((h k).ver+1) ⟨w.heap.size,1,grownCap w (d+1) M e,0,e⟩) (by simp) (by omega);simpa using this
end
end Go.Avm
namespace Go.Avm
open Go.RowKit
variable[aH]
variable{P:Program}{G:Gh}{B:Nat}{w0 w:World}{I0:Nat→Nat→Prop}{h:aa}
theorem HR.allocAny(a:HR G B w0 I0 h w)(o:Obj):HR G B w0 I0 h (w.alloc o):=
 ⟨a.below.alloc a.bsz _,by have:=a.bsz;simp;omega,fun b o x=>by have:=a.immlt b o x;simp;omega,a.i0,a.immlow,a.fresh,fun d g c=>by
  obtain⟨l,⟨arr',f,h2,k⟩,i⟩:=a.own d g c;exact⟨l,⟨arr',f,(dg (a.blt c)).trans h2,k⟩,i⟩,a.dis,fun d ob j=>(a.objs d ob j).mono (a.le d) (Ext.alloc a o) (fun L e t=>co (a.blt e)),a.lim,
  a.maps.step (Ext.alloc a o) rfl (jK w _) (fun _=>xL _) (fun _ _ _ _=>rfl)⟩
def Gh.atMap(G:Gh)(k v b:Nat):Gh:={G with mloc:=fun a v'=>if a=k∧v'=v then some b else G.mloc a v',lim:=aG G.lim k v}
theorem HR.noneMap(a:HR G B w0 I0 h w)(k:Nat):G.mloc k ((h k).ver+1)=none:=by
 cases b:G.mloc k ((h k).ver+1)with
 |none=>rfl
 |some L=>have:=(a.maps.low _ _ _ b).2.2;omega
theorem HR.newFixO(f:HR G B w0 I0 h w)(k:Nat){b:Nat}{oo:Option Ob}{o:Obj}(T:∀o',oo=some o'→o'.flex=false)(hB:B≤b)(p:∀a,a≠k→je (h a).ob=true→G.mloc a (h a).ver≠some b)(Y:mZ o=true)(W:w.heap[b]? =some o)
    (hm:∀es c,oo=some (.map es c)→DV G.imm w b es c) (X:∀t N env ps YU bd M,oo=some (.lp t N env ps YU bd M)→∃r,w.heap[b]? =some (.loop r)∧LRep G w N env ps YU bd M r)
    (R:∀I K e seen,oo=some (.itr I K e seen)→∃C A z,G.mloc I K=some C∧w.heap[b]? =some (.mapIter (some C) e A z)∧A.toList=seen∧z=e):
    HR (G.atMap k ((h k).ver+1) b) B w0 I0 (aG h k ⟨(h k).ver+1,oo⟩) w∧Ext G w (G.atMap k ((h k).ver+1) b) w:=by
 have D:=f.noneMap k
 have hex:Ext G w (G.atMap k ((h k).ver+1) b) w:=⟨fun _ _ x=>x,fun _ _ _ x=>x,fun _ _ _=>rfl,xL _,fun a=>by
  by_cases d:a=k
  ·subst d;show _≤aG G.lim a _ a;rw[af,f.lim];omega
  ·show _≤aG G.lim k _ a;rw[ag _ _ d];exact xL _,fun _ _ _ x=>x,fun a v' i x=>by
  show(if a=k∧v'=(h k).ver+1 then some b else G.mloc a v')=some i;rw[xo (by rintro⟨rfl,rfl⟩;rw[D]at x;cases x)];exact x,d5 rfl⟩
 have y:∀a q,G.loc a (aG h k ⟨(h k).ver+1,oo⟩ a).ver=some q→a≠k∧G.loc a (h a).ver=some q:=by
  intro a q E;by_cases d:a=k
  ·subst d;rw[af]at E;simp only[f.none_next a]at E;cases E
  ·rw[ag _ _ d]at E;exact⟨d,E⟩
 refine⟨⟨f.below,f.bsz,f.immlt,f.i0,f.immlow, ?_,fun a q x=>f.own a q (y a q x).2,fun J F L1 L2 U V=>f.dis J F L1 L2 (y _ _ U).2 (y _ _ V).2, ?_,fun a=>by
  by_cases d:a=k
  ·subst d;rw[af];exact af _ _ _
  ·rw[ag _ _ d];exact(ag _ _ d).trans (f.lim a), ?_⟩,hex⟩
 ·intro a v q x
  have:=f.fresh a v q x;by_cases d:a=k
  ·subst d;rw[af];show v≤_+1;omega
  ·rw[ag _ _ d];exact this
 ·intro a S g
  by_cases d:a=k
  ·subst d
   rw[af]at g ⊢;have n:=T S g;cases S with
   |arr _ _=>cases n
   |typ _ _ _ _=>cases n
   |map _ _=>trivial
   |lp _ _ _ _ _ _ _=>trivial
   |itr _ _ _ _=>trivial
  ·rw[ag _ _ d]at g ⊢
   exact(f.objs a S g).mono (f.le a) hex (fun _ _ _=>rfl)
 ·have s:∀a v' i,(G.atMap k ((h k).ver+1) b).mloc a v'=some i→(a=k∧v'=(h k).ver+1∧i=b)∨G.mloc a v'=some i:=by
    intro a v' i x
    replace x:(if a=k∧v'=(h k).ver+1 then some b else G.mloc a v')=some i:=x
    split at x
    ·rename_i Z;simp only[xA]at x;exact .inl ⟨Z.1,Z.2,x.symm⟩
    ·exact .inr x
  refine⟨fun a v' i x=> ?_,fun J F i H L U V=> ?_,fun a es' c' g=> ?_,fun a t N env ps YU bd M g=> ?_,fun a I K e seen g=> ?_,f.maps.glob⟩
  ·rcases s _ _ _ x with ⟨rfl,rfl,rfl⟩|x
   ·exact⟨hB,⟨o,Y,W⟩,by rw[af];exact xL _⟩
   ·obtain⟨j,h2,u⟩:=f.maps.low _ _ _ x
    refine⟨j,h2, ?_⟩;by_cases d:a=k
    ·subst d;rw[af];show v'≤_+1;omega
    ·rw[ag _ _ d];exact u
  ·rcases s _ _ _ U with ⟨g1,g2,g3⟩|l<;>rcases s _ _ _ V with ⟨j,h2,u⟩|m
   ·exact g1.trans j.symm
   ·have Q:F≠k:=by
      rintro rfl;rw[af]at m;rw[D]at m;cases m
    rw[ag _ _ Q]at m L;exact absurd (g3▸m) (p _ Q L)
   ·have O:J≠k:=by
      rintro rfl;rw[af]at l;rw[D]at l;cases l
    rw[ag _ _ O]at l H;exact absurd (u▸l) (p _ O H)
   ·have O:J≠k:=by
      rintro rfl;rw[af]at l;rw[D]at l;cases l
    have Q:F≠k:=by
     rintro rfl;rw[af]at m;rw[D]at m;cases m
    rw[ag _ _ O]at l H;rw[ag _ _ Q]at m L;exact f.maps.inj _ _ _ H L l m
  ·by_cases d:a=k
   ·subst d
    rw[af]at g ⊢;exact⟨b,by simp[Gh.atMap],hm _ _ g⟩
   ·rw[ag _ _ d]at g ⊢
    obtain⟨i,j,h2⟩:=f.maps.obj a es' c' g;exact⟨i,hex.mloc _ _ _ j,h2⟩
  ·by_cases d:a=k
   ·subst d
    rw[af]at g ⊢;obtain⟨r,j,h2⟩:=X _ _ _ _ _ _ _ g;exact⟨b,r,by simp[Gh.atMap],j,h2.mono hex⟩
   ·rw[ag _ _ d]at g ⊢
    obtain⟨i,r,j,h2,u⟩:=f.maps.loops a t N env ps YU bd M g;exact⟨i,r,hex.mloc _ _ _ j,h2,u.mono hex⟩
  ·by_cases d:a=k
   ·subst d
    rw[af]at g ⊢;obtain⟨C,A,z,j,h2⟩:=R _ _ _ _ g;exact⟨b,C,A,z,by simp[Gh.atMap],hex.mloc _ _ _ j,h2⟩
   ·rw[ag _ _ d]at g ⊢
    obtain⟨i,C,A,z,j,h2,u⟩:=f.maps.iters a I K e seen g;exact⟨i,C,A,z,hex.mloc _ _ _ j,hex.mloc _ _ _ h2,u⟩
theorem HR.newFix(s:HR G B w0 I0 h w)(k:Nat){b:Nat}{ob:Ob}{o:Obj}(l:ob.flex=false)(j:∀g m a seen,ob≠ .itr g m a seen)(hB:B≤b)(d:∀k v,G.mloc k v≠some b)(q:mZ o=true)(i:w.heap[b]? =some o)
    (hm:∀es c,ob= .map es c→DV G.imm w b es c) (p:∀f N env ps YU bd n,ob= .lp f N env ps YU bd n→∃r,w.heap[b]? =some (.loop r)∧LRep G w N env ps YU bd n r):
    HR (G.atMap k ((h k).ver+1) b) B w0 I0 (aG h k ⟨(h k).ver+1,some ob⟩) w∧Ext G w (G.atMap k ((h k).ver+1) b) w:=
 s.newFixO k (oo:=some ob) (fun o' e=>by cases e;exact l) hB (fun _ _ _=>d _ _) q i (fun es c e=>by cases e;exact hm _ _ rfl) (fun f N env ps YU bd n e=>by cases e;exact p _ _ _ _ _ _ _ rfl) (fun g m a seen e=>absurd (Option.some.inj e) (j g m a seen))
theorem HR.newMap(i:HR G B w0 I0 h w)(k:Nat){b c:Nat}{es:List (D×D×Nat)}(hB:B≤b)(a:∀k v,G.mloc k v≠some b)(hm:DV G.imm w b es c):
    HR (G.atMap k ((h k).ver+1) b) B w0 I0 (aG h k ⟨(h k).ver+1,some (.map es c)⟩) w∧Ext G w (G.atMap k ((h k).ver+1) b) w:=by
 have f:=hm;obtain⟨g,d,_,_⟩:=hm;exact i.newFix k rfl (fun _ _ _ _ e=>by cases e) hB a (o:= .map g c) rfl d (fun es' c' e=>by cases e;exact f) (fun _ _ _ _ _ _ _ e=>by cases e)
theorem HR.setFix(n:HR G B w0 I0 h w){k b:Nat}{o o':Obj}{ob':Option Ob}(s:je (h k).ob=true)(C:G.mloc k (h k).ver=some b)(R:w.heap[b]? =some o)(Q:mZ o=true)(A:mZ o'=true)(hbk:mu o=true→iV o o')(X:∀x,ob'=some x→x.flex=false)
    (hm:∀es c,ob'=some (.map es c)→DV G.imm (w.putObj b o') b es c) (hlp:∀E N env ps YU bd V,ob'=some (.lp E N env ps YU bd V)→∃r,(w.putObj b o').heap[b]? =some (.loop r)∧LRep G w N env ps YU bd V r)
    (W:∀S U d seen,ob'=some (.itr S U d seen)→∃I H F,G.mloc S U=some I∧(w.putObj b o').heap[b]? =some (.mapIter (some I) d H F)∧H.toList=seen∧F=d:=by intro _ _ _ _ e;cases e):
    HR G B w0 I0 (aG h k ⟨(h k).ver,ob'⟩) (w.putObj b o')∧Ext G w G (w.putObj b o'):=by
 have D:b<w.heap.size:=(xR.1 R).1;have hB:B≤b:=(n.maps.low _ _ _ C).1
 have y:∀q i,(w.putObj b o').cell? ⟨q,i,none⟩=w.cell? ⟨q,i,none⟩:=by
  intro q i;by_cases f:q=b
  ·subst f
   simp only[World.cell?,World.putObj_heap_same D,R];cases o<;>cases o'<;>first|rfl|(cases Q;done)|(cases A;done)
  ·simp only[World.cell?,World.putObj_heap_other f]
 have hex:Ext G w G (w.putObj b o'):=⟨fun _ _ x=>x,fun _ _ _ x=>x,fun q i _=>y q i,by simp,fun _=>xL _,fun _ _ _ x=>x,fun _ _ _ x=>x,fun q T g x=>by
  by_cases J:q=b
  ·subst J
   rw[R]at x;cases x;exact⟨o',World.putObj_heap_same D,hbk g⟩
  ·exact⟨T,by rw[World.putObj_heap_other J];exact x,ei T⟩⟩
 have p:∀a,(aG h k ⟨(h k).ver,ob'⟩ a).ver=(h a).ver:=by
  intro a;by_cases g:a=k
  ·subst g;rw[af]
  ·rw[ag _ _ g]
 refine⟨⟨n.below.trans ⟨rfl,rfl,rfl,by simp,fun a hk'=>World.putObj_heap_other (by omega)⟩,by simpa using n.bsz,fun b o x=>by simpa using n.immlt b o x,n.i0,n.immlow,fun a v L' x=>by rw[p];exact n.fresh a v L' x,fun a L' x=> ?_,
  fun k1 k2 L1 L2 M O=>by rw[p]at M O;exact n.dis k1 k2 L1 L2 M O,fun a ob j=> ?_,fun a=>by rw[p];exact n.lim a, ?_⟩,hex⟩
 ·rw[p]at x
  obtain⟨u,⟨a1,e1,h2,z⟩,K⟩:=n.own a L' x;exact⟨u,⟨a1,e1,by rw[World.putObj_heap_other (by rintro rfl;rw[R]at h2;cases h2;cases Q)];exact h2,z⟩,K⟩
 ·by_cases g:a=k
  ·subst g
   rw[af]at j ⊢;have:=X _ j;cases ob with
   |arr _ _=>cases this
   |typ _ _ _ _=>cases this
   |map _ _=>trivial
   |lp _ _ _ _ _ _ _=>trivial
   |itr _ _ _ _=>trivial
  ·rw[ag _ _ g]at j ⊢
   exact(n.objs a ob j).mono (n.le a) hex (fun L C t=>y _ _)
 ·refine⟨fun a v' q x=> ?_,fun k1 k2 q l1 l2 M O=> ?_,fun a Y c1 j=> ?_,fun a E N env ps YU bd V j=> ?_,fun a S U d seen j=> ?_,n.maps.glob.mono hex.imm hex.cell⟩
  ·obtain⟨u,⟨T,h2,h2'⟩,z⟩:=n.maps.low _ _ _ x
   refine⟨u, ?_,by rw[p];exact z⟩;by_cases f:q=b
   ·subst f;exact⟨_,A,World.putObj_heap_same D⟩
   ·exact⟨T,h2,by rw[World.putObj_heap_other f];exact h2'⟩
  ·have lv:∀a,je (aG h k ⟨(h k).ver,ob'⟩ a).ob=true→je (h a).ob=true:=fun a l=>by
     by_cases g:a=k
     ·subst g;exact s
     ·rw[ag _ _ g]at l;exact l
   rw[p]at M O;exact n.maps.inj _ _ _ (lv _ l1) (lv _ l2) M O
  ·by_cases g:a=k
   ·subst g
    rw[af]at j ⊢;exact⟨b,C,hm _ _ j⟩
   ·rw[ag _ _ g]at j ⊢
    obtain⟨q,u,Z,h2,z,K⟩:=n.maps.obj a Y c1 j
    have f:q≠b:=by
     rintro rfl;exact g (n.maps.inj _ _ _ (by rw[j];rfl) s u C)
    exact⟨q,u,Z,by rw[World.putObj_heap_other f];exact h2,z,fun i e m he hm=>by
     obtain⟨g1,g2,g3⟩:=K i e m he hm;exact⟨g1.mono hex.imm hex.cell,g2.mono hex.imm hex.cell,g3⟩⟩
  ·by_cases g:a=k
   ·subst g
    rw[af]at j ⊢;obtain⟨r,u,h2⟩:=hlp _ _ _ _ _ _ _ j;exact⟨b,r,C,u,h2.mono hex⟩
   ·rw[ag _ _ g]at j ⊢
    obtain⟨q,r,u,h2,z⟩:=n.maps.loops a E N env ps YU bd V j
    have f:q≠b:=by
     rintro rfl;exact g (n.maps.inj _ _ _ (by rw[j];rfl) s u C)
    exact⟨q,r,u,by rw[World.putObj_heap_other f];exact h2,z.mono hex⟩
  ·by_cases g:a=k
   ·subst g
    rw[af]at j ⊢;obtain⟨I,H,F,u,h2⟩:=W _ _ _ _ j;exact⟨b,I,H,F,C,u,h2⟩
   ·rw[ag _ _ g]at j ⊢
    obtain⟨q,I,H,F,u,h2,z,K⟩:=n.maps.iters a S U d seen j
    have f:q≠b:=by
     rintro rfl;exact g (n.maps.inj _ _ _ (by rw[j];rfl) s u C)
    exact⟨q,I,H,F,u,h2,by rw[World.putObj_heap_other f];exact z,K⟩
theorem HR.setMap(s:HR G B w0 I0 h w){k b c c':Nat}{r ms':Array MapEntry}{es':List (D×D×Nat)}(d:je (h k).ob=true)(q:G.mloc k (h k).ver=some b)(o:w.heap[b]? =some (.map r c))(n:ms'.size=es'.length)
    (f:∀(i:Nat)(e:D×D×Nat)(m:MapEntry),es'[i]? =some e→ms'[i]? =some m→DRep G.imm w e.1 m.key∧DRep G.imm w e.2.1 m.val∧m.born=e.2.2):
    HR G B w0 I0 (aG h k ⟨(h k).ver,some (.map es' c')⟩) (w.putObj b (.map ms' c'))∧Ext G w G (w.putObj b (.map ms' c')):=by
 have j:b<w.heap.size:=(xR.1 o).1;refine s.setFix d q o rfl rfl (fun x=>by cases x) (fun x e=>by cases e;rfl) (fun es c e=> ?_) (fun _ _ _ _ _ _ _ e=>by cases e);cases e
 have a:∀l i,(w.putObj b (.map ms' c')).cell? ⟨l,i,none⟩=w.cell? ⟨l,i,none⟩:=by
  intro l i;by_cases g:l=b
  ·subst g
   simp only[World.cell?,World.putObj_heap_same j,o]
  ·simp only[World.cell?,World.putObj_heap_other g]
 exact⟨ms',World.putObj_heap_same j,n,fun i e m p hm=>by
  obtain⟨v,t,u⟩:=f i e m p hm;exact⟨v.mono (fun _ _ x=>x) (fun _ _ _=>a _ _),t.mono (fun _ _ x=>x) (fun _ _ _=>a _ _),u⟩⟩
theorem pK(d:HR G B w0 I0 h w){k:Nat}{t:TypeId}{out:Out}(l:fw k h=some out):
    out.ob=[]∧∃v a g,(Instr.makeMap t none).run P w= .ok v a∧Ext G w g a∧HR g B w0 I0 (ap h out.wr) a∧Rep g a out.val v:=by
 simp only[fw,xA]at l;subst l;have j:=d.allocAny (.map #[] 0);have q:=Ext.alloc d (.map #[] 0)
 obtain⟨f,p⟩:=j.newMap k (b:=w.heap.size) (c:=0) (es:=[]) d.bsz (fun k v x=>by
  obtain⟨_,⟨o,_,h2⟩,_⟩:=d.maps.low _ _ _ x;have:=(xR.1 h2).1;omega) ⟨#[],heap_alloc_new w _,rfl,fun i e m n=>by simp at n⟩
 exact⟨rfl,_,_,_,rfl,q.trans p,f, .mp _ _ _ (by simp[Gh.atMap])⟩
theorem HR.marked(d:HR G B w0 I0 h w){b:Nat}{C:Array Value}{e:TypeId}{fz fz':Nat×Nat}(n:w.heap[b]? =some (.cells C e fz))(hB:B≤b)(r:∀k L,G.loc k (h k).ver=some L→L.b≠b){j:World}
    (hw:j={w with heap:=w.heap.setIfInBounds b (.cells C e fz')}):HR G B w0 I0 h j∧Ext G w G j:=by
 have q:=(xR.1 n).1
 have a:∀i,i≠b→j.heap[i]? =w.heap[i]? :=fun i z=>by
  subst hw;show(w.heap.setIfInBounds b _)[i]? =_;rw[Array.getElem?_setIfInBounds_ne (Ne.symm z)]
 have m:j.heap[b]? =some (.cells C e fz'):=by
  subst hw;show(w.heap.setIfInBounds b _)[b]? =_;rw[Array.getElem?_setIfInBounds_self_of_lt q]
 have f:∀p:Addr,j.cell? p=w.cell? p:=fun p=>by
  unfold World.cell?;by_cases hp:p.block=b
  ·rw[hp,m,n]
  ·rw[a _ hp]
 have g:j.heap.size=w.heap.size:=by subst hw;show(w.heap.setIfInBounds b _).size=_;simp
 have hex:Ext G w G j:=⟨fun _ _ x=>x,fun _ _ _ x=>x,fun _ _ _=>f _,by rw[g];exact xL _,fun _=>xL _,fun _ _ _ x=>x,fun _ _ _ x=>x,fun A o t x=>by
  have l:A≠b:=by
   rintro rfl;rw[n]at x;cases x;cases t
  exact⟨o,by rw[a _ l];exact x,ei o⟩⟩
 refine⟨⟨?_,by rw[g];exact d.bsz,fun b o x=>by rw[g];exact d.immlt b o x,d.i0,d.immlow,d.fresh,fun k L u=> ?_,d.dis,fun k ob D=>(d.objs k ob D).mono (d.le k) hex (fun _ _ _=>f _),d.lim, ?_⟩,hex⟩
 ·exact d.below.trans ⟨by subst hw;rfl,by subst hw;rfl,by subst hw;rfl,by rw[g];exact xL _,fun k t=>a k (by omega)⟩
 ·obtain⟨F,⟨arr,E,h2,y⟩,v⟩:=d.own k L u
  exact⟨F,⟨arr,E,by rw[a _ (r k L u)];exact h2,y⟩,v⟩
 ·exact d.maps.step hex rfl (fun c o s x=>by
    have l:c≠b:=by
     rintro rfl;rw[n]at x;cases x;cases s
    rw[a _ l];exact x) (fun _=>xL _) (fun _ _ _ _=>rfl)
theorem ov(n:HR G B w0 I0 h w){src dst:TypeId}{x:AV}{S:Value}(D:Rep G w x S){out:Out}(c:dK P src dst x h=some out):
    out.ob=[]∧∃v u E,(convert src dst S).run P w= .ok v u∧Ext G w E u∧HR E B w0 I0 (ap h out.wr) u∧Rep E u out.val v:=by
 unfold dK at c;split at c;case h_2=>cases c
 rename_i e k v y l hu;split at c;case isFalse=>cases c
 rename_i W;obtain⟨rfl,Z⟩:=W;split at c;case h_2=>cases c
 rename_i J;simp only[xA]at c;subst c;generalize U:(1:Nat)=sz at D;generalize p:y::l=ll at D;cases D with
 |vecNil=>cases p
 |vec _ _ _ L V Y R Q m=>
 subst p;subst Z;obtain⟨hB,⟨arr,et,s,T⟩,_⟩:=n.own k L V;have j:=n.kill [k];have r:=Ext.froz n [k]
 have O:∀g q,(G.froz h [k]).loc g ((ap h (kill h [k])) g).ver=some q→q.b≠L.b:=fun g q M N=>by
  have a:G.loc g ((ap h (kill h [k])) g).ver=some q:=M;rw[bo]at a;by_cases t:g∈[k]
  ·rw[xf t]at a
   have A:g=k:=by simpa using t
   subst A;have:=n.fresh _ _ _ a;simp at this;omega
  ·rw[xo t]at a
   have:=n.dis g k q L a V N;subst this;exact t (by simp)
 obtain⟨F,f⟩:=j.marked (b:=L.b) (C:=arr) (e:=et) (fz:=(0,0)) (fz':=(arr.size,arr.size+1)) s hB O rfl;refine⟨rfl, .slice (some ⟨L.b,0,none⟩) (y::l).length L.cap,_,_, ?_,r.trans f,F, .d ?_⟩
 ·have z:w.shape? L.b=some (et,arr.size):=by unfold World.shape?;rw[s]
  have I:w.freeze ⟨L.b,arr.size,none⟩ 1={w with heap:=w.heap.setIfInBounds L.b (.cells arr et (arr.size,arr.size+1))}:=by
   unfold World.freeze;rw[xo (by decide)];congr 1;have X:=(xR.1 s).1;apply Array.ext
   ·simp
   ·intro i h1 h2
    simp only[Array.getElem_modify,Array.getElem_setIfInBounds];split
    ·rename_i H
     subst H;have:w.heap[L.b]= .cells arr et (0,0):=(xR.1 s).2;simp[this]
    ·rename_i H
     rw[Array.getElem_setIfInBounds_ne _ H]
  simp[convert,run_underlying hu,run_underlying J,markStringish,z];exact I
 ·exact m.mono (fun b o x=> .inl x) (fun b o K=>f.cell b o (.inl K))
theorem A1(j:HR G B w0 I0 h w){k:Nat}{L:sI}(l:G.loc k (h k).ver=some L):∀c d,(G.froz h [k]).loc c ((ap h (kill h [k])) c).ver=some d→d.b≠L.b:=fun c d f g=>by
 have a:G.loc c ((ap h (kill h [k])) c).ver=some d:=f;rw[bo]at a;by_cases e:c∈[k]
 ·rw[xf e]at a
  have i:c=k:=by simpa using e
  subst i;have:=j.fresh _ _ _ a;simp at this;omega
 ·rw[xo e]at a
  have:=j.dis c k d L a l g;subst this;exact e (by simp)
theorem pg:∀{l:List D}{b:List UInt8},qw l=some b→l=b.map kI
 |[],b,h=>by simp only[qw,xA]at h;subst h;rfl
 |x::r,b,h=>by
  unfold qw at h;split at h
  ·rename_i a;cases a
  ·rename_i n e a
   cases a;split at h
   ·rename_i d
    simp only[xB]at h;obtain⟨f,c,rfl⟩:=h;rw[pg c,xH,kI,←d]
   ·cases h
  ·cases h
theorem DZ{w:World}{b n:Nat}{arr:Array Value}{e:TypeId}(c:w.heap[b]? =some (.cells arr e (0,0)))(f:n≠0):w.freeze ⟨b,0,none⟩ n={w with heap:=w.heap.setIfInBounds b (.cells arr e (0,0+n))}:=by
 unfold World.freeze;rw[xo f];congr 1;have d:=(xR.1 c).1;apply Array.ext
 ·simp
 ·intro i g h2
  simp only[Array.getElem_modify,Array.getElem_setIfInBounds];split
  ·rename_i a
   subst a;have:w.heap[b]= .cells arr e (0,0):=(xR.1 c).2;simp[this]
  ·rename_i a
   rw[Array.getElem_setIfInBounds_ne _ a]
theorem kR(A:HR G B w0 I0 h w){Y it ty:TypeId}{x n:AV}{vx vn:Value}(hx:Rep G w x vx)(O:Rep G w n vn){out:Out}(g:dr P Y x n h=some out):
    out.ob=[]∧∃v J V,(Builtin.unsafeString_ #[Y,it] ty #[vx,vn]).run P w= .ok v J∧Ext G w V J∧HR V B w0 I0 (ap h out.wr) J∧Rep V J out.val v:=by
 unfold dr at g;split at g;case h_2=>cases g
 rename_i u k v l m hu;split at g;case h_2=>cases g
 rename_i T b H hb;split at g;case isFalse=>cases g
 rename_i hc;obtain⟨hv,rfl,p,rfl,Q,R⟩:=hc;simp only[xA]at g;subst g;subst hv;cases O with
 |d O=>
 cases O;cases hx with
 |vp _ _ _ L hL h1 z hd=>
 have X:=(iP A H L hL).1;obtain⟨hB,⟨arr,et,t,E,M⟩,_⟩:=A.own k L hL;have K:=pg hb;have f:l.length=b.length:=by rw[K,xO]
 have hf:D.flat l=l:=by
  rw[K];unfold D.flat;generalize b=bs;induction bs with
  |nil=>rfl
  |cons a r ih=>simp only[xH,yT,ih];rfl
 have q:∀j x,b[j]? =some x→w.cell? ((⟨L.b,0,none⟩:Addr).add j)=some (.int .u8 x.toNat):=by
  intro j x hj;have hg:(D.flat l)[j]? =some (kI x):=by rw[hf,K,xN,hj];rfl
  generalize Z:(Value.slice (some ⟨L.b,0,none⟩) l.length L.cap)=vv at hd;cases hd with
  |roNil=>exact absurd rfl p
  |ro _ bb o c sz U hcap hsz h1' hi S hrr=>
   cases Z;have h2:=S j _ hg;have h3:=hrr j _ hg;generalize U j=uu at h2 h3;cases h3;rw[dn];exact h2
 have s:=A.kill [k];have F:=Ext.froz A [k];have N:w.shape? L.b=some (T,arr.size):=by unfold World.shape?;rw[t,M,X]
 have I:b≠[]:=by rintro rfl;exact p (by rw[K];rfl)
 have i:=Lib.run_unsafeString_row (P:=P) w Y it ty T hu Q L.b arr.size N b I (by rw[E,h1,Nat.mul_one,←f];exact z) (by rw[←f];exact R) q;rw[DZ t (by rw[←f];intro h0;exact p (x7 h0))]at i;obtain⟨W,y⟩:=s.marked (b:=L.b) (C:=arr) (e:=et) (fz:=(0,0)) (fz':=(0,0+b.length)) t hB (A1 A hL) rfl;rw[f];exact⟨rfl,_,_,_,i,F.trans y,W, .d (.str _ _ (by simp))⟩
theorem ng{x y:AV}{g:Value}(f:Rep G w x g)(a:kK x=some y)(ts:Array TypeId)(ty:TypeId):∃v,(Builtin.unsafeSliceData_ ts ty #[g]).run P w= .ok v w∧Rep G w y v:=by
 unfold kK at a;split at a
 ·rename_i k v sz z l
  split at a
  ·rename_i n
   simp only[xA]at a;subst a;generalize e:z::l=o at f;cases f with
   |vecNil=>cases e
   |vec _ _ _ L j m b i c=>
   subst e;exact⟨_,Lib.run_unsafeSliceData_row w ts ty _ _ _ (by simp at b;omega), .vp k v _ L j n b c⟩
  ·cases a
 ·simp only[xA]at a
  subst a;cases f;exact⟨_,rfl, .d .nilp⟩
 ·cases a
theorem pL(z:HR G B w0 I0 h w){src dst:TypeId}{x:AV}{I:Value}(J:Rep G w x I){out:Out}(a:fv P src dst x h=some out):
    out.wr=[]∧∃v,(convert src dst I).run P w= .ok v w∧Rep G w out.val v:=by
 unfold fv at a;split at a
 ·rename_i t k v i e sz D H
  split at a
  ·rename_i T n d
   split at a
   ·rename_i A
    obtain⟨E,l,f,K⟩:=A;simp only[xA]at a;subst a;subst E;cases J with
    |ptr _ _ _ _ L o=>
    obtain⟨s,C⟩:=iP z d L o;obtain⟨hB,⟨arr,et,p,c,r⟩,_⟩:=z.own k L o;have g:w.shape? L.b=some (et,arr.size):=by unfold World.shape?;rw[p]
    have y:¬(arr.size≤i*L.sz+e):=by rw[c,C n rfl];omega
    unfold cy at l;unfold Program.cellsOf at f;cases q:P.info? t with
    |none=>rw[q]at l;cases l
    |some j=>
     rw[q]at f;have M:j.size≠0:=f;exact⟨rfl,_,by simp[convert,run_underlying D,run_underlying H,Conv.unsafePointer,Conv.seenAt,viewAt,cellsIn,g,sizeOf,typeInfo,q,M,y], .ptr k _ i e L o⟩
   ·cases a
  ·cases a
 ·rename_i u k v i e sz D H
  split at a
  ·rename_i T n d
   split at a
   ·rename_i A
    obtain⟨E,l,m⟩:=A;simp only[xA]at a;subst a;subst E;cases J with
    |ptr _ _ _ _ L o=>
    obtain⟨s,C⟩:=iP z d L o;obtain⟨hB,⟨arr,et,p,c,r⟩,_⟩:=z.own k L o;have F:arr.size=n:=by rw[c,C n rfl]
    have g:w.shape? L.b=some (T,n):=by unfold World.shape?;rw[p,←F,←s,←r]
    unfold cy at l;cases q:P.info? u with
    |none=>rw[q]at l;cases l
    |some j=>
     exact⟨rfl,_,by simp[convert,run_underlying D,run_underlying H,Conv.unsafePointer,Conv.seenAt,viewAt,g,variablesAt,m,sizeOf,typeInfo,q], .ptr k _ i e L o⟩
   ·cases a
  ·cases a
 ·cases a
theorem nh{t:TypeId}{x y:AV}{b:Value}(e:Rep G w x b)(a:kL P t x=some y):∃v,(Instr.makeInterface t b).run P w= .ok v w∧Rep G w y v:=by
 unfold kL at a;split at a
 ·cases a
 ·rename_i d f c
  simp only[xA]at a;subst a;refine⟨.iface t b, ?_, .iv t b e⟩;simp only[Instr.makeInterface,Sem.run_bind,run_underlying c,Result.andThen_ok];rfl
 ·cases a
theorem qJ{xT t:TypeId}{ok:Bool}{x y:AV}{q:Value}(m:Rep G w x q)(e:qx P t ok x=some y):∃v,(Instr.typeAssert q xT t ok).run P w= .ok v w∧Rep G w y v:=by
 have f:∀(a:AV)(u:Value)(b:Bool),Rep G w a u→Rep G w (.tup [a, .d (.bool b)]) (.tuple #[u, .bool b]):=fun a u b r=> .tup _ _ rfl fun i c v o k=>by
  match i with
  |0=>cases o;cases k;exact r
  |1=>cases o;cases k;exact .d (.bool b)
  |i+2=>simp at o
 unfold qx at e;split at e
 ·cases e
 ·rename_i d s z p l
  cases m with
  |iv _ v k=>
  split at e
  ·rename_i j
   subst j;simp only[xA]at e;subst e;cases ok
   ·exact⟨v,by simp[Instr.typeAssert,run_underlying l],k⟩
   ·exact⟨_,by simp[Instr.typeAssert,run_underlying l],f _ _ _ k⟩
  ·rename_i j
   split at e
   ·rename_i g
    subst g;simp only[xB]at e;obtain⟨z,n,rfl⟩:=e;exact⟨_,by simp[Instr.typeAssert,run_underlying l,j,cQ n],f _ _ _ (m8 _)⟩
   ·cases e
 ·rename_i d p l
  cases m with
  |d m=>
  cases m;split at e
  ·rename_i g
   subst g;simp only[xB]at e;obtain⟨z,n,rfl⟩:=e;exact⟨_,by simp[Instr.typeAssert,run_underlying l,cQ n],f _ _ _ (m8 _)⟩
  ·cases e
 ·cases e
theorem ni(J:HR G B w0 I0 h w){src dst:TypeId}{x:AV}{A:Value}(j:Rep G w x A){out:Out}(i:kH P src dst x=some out):
    out.ob=[]∧∃v o m,(convert src dst A).run P w= .ok v o∧Ext G w m o∧HR m B w0 I0 (ap h out.wr) o∧Rep m o out.val v:=by
 unfold kH at i;split at i;case h_2=>cases i
 rename_i e s u r;split at i;case h_2=>cases i
 rename_i y;simp only[xA]at i;subst i;cases j with
 |d j=>
 cases j with
 |str _ f F=>
 subst F;have n:=run_bytes_of_string (P:=P) w src dst e f u r y;have k:=grownCap_ge w f.size 0 e;have g:(f.data.toList.map fun b=>D.int .u8 (b.toNat:Int)).length=f.size:=by simp
 obtain⟨m,I,H,C⟩:=J.drew.newImm (f.data.toList.map fun b=>D.int .u8 (b.toNat:Int)) 1 (grownCap w f.size 0 e) (bytesRow f (grownCap w f.size 0 e)) e
  (fz:=((bytesRow f (grownCap w f.size 0 e)).size,(bytesRow f (grownCap w f.size 0 e)).size+1)) (by rw[g];exact k) (fun x j=>by
   obtain⟨b,_,rfl⟩:=x9.1 j;rfl) (fun t c q=>by
   have K:D.flat (f.data.toList.map fun b=>D.int .u8 (b.toNat:Int))=f.data.toList.map fun b=>D.int .u8 (b.toNat:Int):=by
    unfold D.flat;generalize f.data.toList=l;induction l with
    |nil=>rfl
    |cons a l E=>simp only[xH,yT,E];rfl
   rw[K]at q;simp only[xN,xi,xB]at q;obtain⟨b,z,rfl⟩:=q;have p:t<f.data.size:=(xR.1 z).1;refine⟨.int .u8 b.toNat, ?_,rfl, .int _ _⟩;unfold bytesRow;rw[yW (by simpa using p),zA,z];rfl)
 rw[g]at C;exact⟨rfl,_,_,m,n,(Ext.drew G w).trans H,I, .d C⟩
theorem ph:∀{l:List D}{b:List UInt8},mw l=some b→∃c:List Int,l=c.map (D.int .u8)∧b=c.map fun n=>UInt8.ofNat n.toNat
 |[],b,h=>by
  simp only[mw,xA]at h;subst h;exact⟨[],rfl,rfl⟩
 |x::r,b,h=>by
  unfold mw at h;split at h
  ·rename_i a;cases a
  ·rename_i n e a
   cases a;simp only[xB]at h;obtain⟨f,d,rfl⟩:=h;obtain⟨c,rfl,rfl⟩:=ph d;exact⟨n::c,rfl,rfl⟩
  ·cases h
theorem wH:∀(a:List Int)(r:ByteArray),(a.foldl (fun r n=>r.push (UInt8.ofNat n.toNat)) r).data.toList=r.data.toList ++a.map fun n=>UInt8.ofNat n.toNat
 |[],r=>by simp
 |n::a,r=>by
  rw[List.foldl_cons,wH a];simp[ByteArray.push]
theorem pM{src dst:TypeId}{x y:AV}{C:Value}(s:Rep G w x C)(q:oq P src dst x=some y):∃v,(convert src dst C).run P w= .ok v w∧Rep G w y v:=by
 have A:∀(e:TypeId)(l:List D)(b:List UInt8),P.underlying src=some (.slice e)→P.underlying dst=some .string→P.underlying e=some (.int .u8)→mw l=some b→DRep G.imm w (.ro l) C→∃v,(convert src dst C).run P w= .ok v w∧Rep G w (.d (.str b)) v:=by
  intro e l b m i f t T;obtain⟨p,z,rfl⟩:=ph t;cases T with
  |roNil I c=>
   have F:p=[]:=by cases p with|nil=>rfl|cons a b=>simp at z
   subst F;refine⟨.string ByteArray.empty, ?_, .d (.str _ _ rfl)⟩;rw[run_convert_bytes_string w src dst e I 0 c m f i];cases I with
   |none=>rfl
   |some a=>
    rw[run_bytesToString w a 0 c [] (by simpa using run_loadCells_list (P:=P) (w:=w) a [] (fun j v E=>by simp at E))];rfl
  |ro _ H o c sz U J R W V M Q=>
   subst z
   have S:D.flat (p.map (D.int .u8))=p.map (D.int .u8):=by
    unfold D.flat;generalize p=l;induction l with
    |nil=>rfl
    |cons a l N=>simp only[xH,yT,N];rfl
   have L:=run_loadCells_list (P:=P) (w:=w) ⟨H,o,none⟩ (p.map (Value.int .u8)) (fun j v E=>by
    rw[xN,xB]at E;obtain⟨n,O,rfl⟩:=E;have K:(D.flat (p.map (D.int .u8)))[j]? =some (.int .u8 n):=by rw[S,xN,O];rfl
    have g:=M j _ K;have r:=Q j _ K;generalize U j=u at g r;cases r;rw[show(⟨H,o,none⟩:Addr).add j=⟨H,o+j,none⟩ by simp[Addr.add]];exact g)
   simp only[xO]at L ⊢;refine⟨_,(run_convert_bytes_string w src dst e _ _ c m f i).trans (run_bytesToString w _ p.length c p L), .d (.str _ _ ?_)⟩;rw[wH];rfl
 unfold oq at q;split at q;case h_2=>cases q
 rename_i e m i;split at q
 ·rename_i l f
  simp only[xB]at q;obtain⟨b,t,rfl⟩:=q;cases s with
  |d s=>exact A e l b m i f t s
 ·rename_i k v sz l f
  simp only[xB]at q;obtain⟨b,t,rfl⟩:=q;cases s.frz with
  |d s=>exact A e l b m i f t s
 ·cases q
theorem pi{imm:Nat→Nat→Prop}{w:World}{x y:D}{u v:Value}(r:DRep imm w x u)(z:DRep imm w y v){b:Bool}(h:jg x y=some b){t:TypeId}(o:x.one=true)(j:jh P t x=true):
    ∃d,P.underlying t=some d∧Instr.sameNow d u v=some b∧(b=true→Instr.sameBits 10000 v u=true):=by
 unfold jg at h;split at h
 ·rename_i k a H C
  split at h
  ·rename_i m
   subst m;simp only[xA]at h;subst h;cases r;cases z;unfold jh at j;split at j
   ·rename_i E F n p c
    cases c;refine⟨_,p,by simp[Instr.sameNow],fun g=> ?_⟩;simp only[yI]at g;subst g;simp[Instr.sameBits]
   ·rename_i c;cases c
   ·rename_i c;cases c
   ·cases j
  ·cases h
 ·rename_i a C
  simp only[xA]at h;subst h;cases r with
  |str _ f A=>
  cases z with
  |str _ i g=>
  subst A;subst g;unfold jh at j;split at j
  ·rename_i c;cases c
  ·rename_i s p c
   have l:(f==i)=(f.data.toList==i.data.toList):=by
    show(f.data==i.data)=_;by_cases q:f.data=i.data
    ·rw[q];simp
    ·have:f.data.toList≠i.data.toList:=fun e=>q (Array.toList_inj.1 e)
     simp[q,this]
   refine⟨_,p,by simp only[Instr.sameNow,l],fun g=> ?_⟩;simp only[yI]at g
   have:f=i:=by
    cases f;cases i;simp only at g;rw[Array.toList_inj.1 g]
   subst this;simp[Instr.sameBits];show(f.data==f.data)=true;simp
  ·rename_i c;cases c
  ·cases j
 ·cases o
 ·cases h
theorem pj{imm:Nat→Nat→Prop}{w:World}{x:D}{u:Value}(s:DRep imm w x u){t:TypeId}(b:x.one=true)(k:jh P t x=true):∀(es:List (D×D×Nat))(g:List MapEntry)(n:Nat){r:Option (Nat×D)},g.length=es.length→
    (∀(i:Nat)(e:D×D×Nat)(m:MapEntry),es[i]? =some e→g[i]? =some m→DRep imm w e.1 m.key∧DRep imm w e.2.1 m.val∧m.born=e.2.2)→cj x es n=some r→
    ∃d,P.underlying t=some d∧match r with
     |none=>Instr.findNow d u g n=some none
     |some (j,y)=>∃v,Instr.findNow d u g n=some (some (j,v))∧DRep imm w y v∧n≤j∧∃m,g[j-n]? =some m∧Instr.sameBits 10000 m.key u=true
 |[],g,n,r,o,_,h=>by
  simp only[cj,xA]at h;subst h;have:g=[]:=List.length_eq_zero_iff.1 o;subst this;unfold jh at k;split at k
  ·rename_i U O nn c;exact⟨_,c,rfl⟩
  ·rename_i T c;exact⟨_,c,rfl⟩
  ·cases b
  ·cases k
 |e::E,[],n,r,o,_,h=>by simp at o
 |e::E,m::I,n,r,o,f,h=>by
  obtain⟨C,H,R⟩:=f 0 e m rfl rfl;simp only[cj]at h;split at h
  ·rename_i q
   simp only[xA]at h;subst h;obtain⟨d,c,a,A⟩:=pi s C q b k;exact⟨d,c,m.val,by simp[Instr.findNow,a],H,xL _,m,by simp,A rfl⟩
  ·rename_i q
   obtain⟨d,c,a,_⟩:=pi s C q b k;obtain⟨S,l,z⟩:=pj s b k E I (n+1) (by simpa using o) (fun i M p J hm=>f (i+1) M p (by simpa using J) (by simpa using hm)) h;rw[c]at l;cases l;refine⟨d,c, ?_⟩;cases r with
   |none=>simp only at z ⊢;simp[Instr.findNow,a,z]
   |some K=>
    obtain⟨j,y⟩:=K;obtain⟨v,N,h2,Q,p,F,L⟩:=z;refine⟨v,by simp[Instr.findNow,a,N],h2,by omega,p, ?_,L⟩;rw[show j-n=(j-(n+1))+1 by omega];simpa using F
  ·cases h
theorem pk:∀(xs ys:List D),ff xs ys=some true→xs=ys∧∀x∈xs,∃k a,x= .int k a
 |[],[],_=>⟨rfl,by simp⟩
 | .int k a::r, .int i b::q,h=>by
  simp only[ff]at h;split at h
  ·rename_i f
   simp only[xB,xJ,xw]at h;obtain⟨t,e,d,rfl⟩:=h;obtain⟨g,h2⟩:=pk r q e;subst f;subst d;subst g
   exact⟨rfl,fun x c=>by
    rcases x0.1 c with rfl|c
    ·exact⟨_,_,rfl⟩
    ·exact h2 x c⟩
  ·cases h
 |[],_::_,h=>by simp[ff]at h
 |x::r,[],h=>by cases x<;>simp[ff]at h
 | .int _ _::_, .bool _::_,h| .int _ _::_, .str _::_,h| .int _ _::_, .agg _::_,h| .int _ _::_, .ro _::_,h| .int _ _::_, .rp _::_,h| .int _ _::_, .nilp::_,h| .int _ _::_, .nili::_,h| .int _ _::_, .ifc::_,h=>by simp[ff]at h
 | .bool _::_,_::_,h| .str _::_,_::_,h| .agg _::_,_::_,h| .ro _::_,_::_,h| .rp _::_,_::_,h| .nilp::_,_::_,h| .nili::_,_::_,h| .ifc::_,_::_,h=>by simp[ff]at h
theorem pm:∀(fs:List Field)(i:Nat)(xs ys:List D)(b:Bool),dt P fs i xs=true→ff xs ys=some b→cX P fs i xs ys=some b
 |[],i,[],ys,b,_,h=>by
  cases ys with
  |nil=>simpa [ff,cX]using h
  |cons=>simp[ff]at h
 |[],i,x::xs,ys,b,c,_=>by simp[dt]at c
 |f::fs,i,[],ys,b,c,_=>by simp[dt]at c
 |f::fs,i, .int k a::xs,ys,b,c,h=>by
  simp only[dt,xJ,xw,yI]at c;obtain⟨⟨o,h2,n,d⟩,l⟩:=c;split at d;case h_2=>cases d
  rename_i r j;simp only[xw]at d;subst d;cases ys with
  |nil=>simp[ff]at h
  |cons y ys=>
   cases y with
   |int q p=>
    simp only[ff]at h;split at h
    ·rename_i e
     subst e;simp only[xB]at h;obtain⟨t,g,rfl⟩:=h;have m:=pm fs (i+1) xs ys t l g;simp only[cX,o,h2,n,ne_eq,not_false_eq_true,and_self,yS,wu,j,m];rfl
    ·cases h
   |_=>simp[ff]at h
 |f::fs,i, .bool _::xs,ys,b,c,_|f::fs,i, .str _::xs,ys,b,c,_|f::fs,i, .agg _::xs,ys,b,c,_|f::fs,i, .ro _::xs,ys,b,c,_|f::fs,i, .rp _::xs,ys,b,c,_|f::fs,i, .nilp::xs,ys,b,c,_|f::fs,i, .nili::xs,ys,b,c,_|f::fs,i, .ifc::xs,ys,b,c,_=>by simp[dt]at c
theorem tw{imm:Nat→Nat→Prop}{w:World}{xs:List D}{y:D}{u v:Value}(K:DRep imm w (.agg xs) u)(L:DRep imm w y v){b:Bool}(h:jg (.agg xs) y=some b){t:TypeId}(n:jh P t (.agg xs)=true):
    (Op.equal t u v).run P w= .ok b w∧(b=true→Instr.sameBits 10000 v u=true):=by
 cases y with
 |agg ys=>
  have h:ff xs ys=some b:=h;cases K with
  |agg _ vs E R f=>
  cases L with
  |agg _ g o H c=>
  unfold jh at n;split at n
  ·rename_i r;cases r
  ·rename_i r;cases r
  ·rename_i fs N C r
   cases r;simp only[xJ,yI]at n;have F:P.fieldsOf t=fs:=by unfold Program.fieldsOf;rw[C]
   constructor
   ·show(Op.equalIn 10000 t (.agg vs) (.agg g)).run P w= .ok b w
    rw[show(10000:Nat)=9999+1 from rfl,run_equalIn_struct w 9999 t vs g (by rw[F];exact C) n.1,F];refine gY (I:=imm) 9998 vs g fs.toList 0 xs ys b (pm _ _ _ _ _ n.2 h) (fun j x q=> ?_) (fun j x q=> ?_)
    ·have l:j<vs.size:=by rw[E];exact(xC.1 q).1
     have:vs[j]? =some vs[j]:=xI l;exact⟨_,by rw[x8];exact this,f j x _ q this⟩
    ·have l:j<g.size:=by rw[o];exact(xC.1 q).1
     have:g[j]? =some g[j]:=xI l;exact⟨_,by rw[x8];exact this,c j x _ q this⟩
   ·intro J
    subst J;obtain⟨rfl,s⟩:=pk xs ys h;rw[show(10000:Nat)=9999+1 from rfl,Instr.sameBits];simp only[xJ,yI];refine⟨by rw[E,o],xc.2 fun p hp=> ?_⟩;obtain⟨i,M,rfl⟩:=List.mem_iff_getElem.1 hp;rw[List.getElem_zip]
    have d:i<g.size∧i<vs.size:=by
     simp only[List.length_zip,xh]at M;omega
    have m:xs[i]? =some (xs[i]'(by omega)):=xD _;have A:=f i _ _ m (xI d.2);have z:=c i _ _ m (xI d.1);obtain⟨k,a,e⟩:=s _ (xX m);rw[e]at A z;simp only[y7];generalize g[i]'d.1=O at z;generalize vs[i]'d.2=Q at A;cases A;cases z;simp[Instr.sameBits]
  ·cases n
 |_=>simp[jg]at h
theorem mc{imm:Nat→Nat→Prop}{w:World}{xs:List D}{u:Value}(l:DRep imm w (.agg xs) u){t:TypeId}(g:jh P t (.agg xs)=true):∀(es:List (D×D×Nat))(b:List MapEntry)(n:Nat){r:Option (Nat×D)},b.length=es.length→
    (∀(i:Nat)(e:D×D×Nat)(m:MapEntry),es[i]? =some e→b[i]? =some m→DRep imm w e.1 m.key∧DRep imm w e.2.1 m.val∧m.born=e.2.2)→cj (.agg xs) es n=some r→
    match r with
     |none=>(Instr.findAsking t u b n).run P w= .ok none w
     |some (j,y)=>∃v,(Instr.findAsking t u b n).run P w= .ok (some (j,v)) w∧DRep imm w y v∧n≤j∧∃m,b[j-n]? =some m∧Instr.sameBits 10000 m.key u=true
 |[],b,n,r,c,_,h=>by
  simp only[cj,xA]at h;subst h;have:b=[]:=List.length_eq_zero_iff.1 c;subst this;simp[Instr.findAsking]
 |e::s,[],n,r,c,_,h=>by simp at c
 |e::s,m::A,n,r,c,a,h=>by
  obtain⟨q,z,K⟩:=a 0 e m rfl rfl;simp only[cj]at h;split at h
  ·rename_i k
   simp only[xA]at h;subst h;obtain⟨d,p⟩:=tw l q k g;exact⟨m.val,by simp[Instr.findAsking,Sem.run_bind,d],z,xL _,m,by simp,p rfl⟩
  ·rename_i k
   obtain⟨d,_⟩:=tw l q k g;have o:=mc l g s A (n+1) (by simpa using c) (fun i H f C hm=>a (i+1) H f (by simpa using C) (by simpa using hm)) h;cases r with
   |none=>simp only at o ⊢;simp[Instr.findAsking,Sem.run_bind,d,o]
   |some E=>
    obtain⟨j,y⟩:=E;obtain⟨v,I,h2,J,f,x,F⟩:=o;refine⟨v,by simp[Instr.findAsking,Sem.run_bind,d,I],h2,by omega,f, ?_,F⟩;rw[show j-n=(j-(n+1))+1 by omega];simpa using x
  ·cases h
theorem e5{imm:Nat→Nat→Prop}{w:World}{x:D}{u:Value}(s:DRep imm w x u){t:TypeId}(g:jh P t x=true)(es:List (D×D×Nat))(a:List MapEntry){r:Option (Nat×D)}(z:a.length=es.length)
    (b:∀(i:Nat)(e:D×D×Nat)(m:MapEntry),es[i]? =some e→a[i]? =some m→DRep imm w e.1 m.key∧DRep imm w e.2.1 m.val∧m.born=e.2.2) (h:cj x es 0=some r):
    match r with
     |none=>(Instr.findKey t u a).run P w= .ok none w
     |some (j,y)=>∃v,(Instr.findKey t u a).run P w= .ok (some (j,v)) w∧DRep imm w y v∧∃m,a[j]? =some m∧Instr.sameBits 10000 m.key u=true:=by
 cases c:x.one with
 |true=>
  obtain⟨d,q,f⟩:=pj s c g es a 0 z b h;cases r with
  |none=>exact Go.MapKept.run_findKey q f
  |some o=>
   obtain⟨j,y⟩:=o;obtain⟨v,p,h2,_,m,n,l⟩:=f;exact⟨v,Go.MapKept.run_findKey q p,h2,m,by simpa using n,l⟩
 |false=>
  cases x with
  |agg xs=>
   have hw:(match P.underlying t with|some (.array _ _)|some (.struct _)=>true|_=>false)=true:=by
    unfold jh at g;split at g
    ·rename_i k;cases k
    ·rename_i k;cases k
    ·rename_i fs C A k;rw[A]
    ·cases g
   have f:=mc s g es a 0 z b h;rw[run_findKey_eq w hw u a];cases r with
   |none=>exact f
   |some o=>
    obtain⟨j,y⟩:=o;obtain⟨v,p,h2,_,m,n,l⟩:=f;exact⟨v,p,h2,m,by simpa using n,l⟩
  |_=>simp[D.one]at c
theorem kh{imm:Nat→Nat→Prop}{w:World}(e:Bool)(vs:Array Value)(b:World):∀(fs:List Field)(i:Nat)(xs:List D),dt P fs i xs=true→(∀(j:Nat)(x:D),xs[j]? =some x→∃u,vs[i+j]? =some u∧DRep imm w x u)→
    (forIn fs PUnit.unit fun f _=>if f.name≠ "_" then do
        let a ←part f.type vs f.offset
        Instr.checkKey e 9999 f.type a
        pure (ForInStep.yield PUnit.unit)
     else pure (ForInStep.yield PUnit.unit):Sem PUnit).run P b= .ok PUnit.unit b
 |[],i,xs,_,_=>by simp
 |f::fs,i,[],c,_=>by simp[dt]at c
 |f::fs,i,x::xs,c,h=>by
  obtain⟨u,g,o⟩:=h 0 x rfl;rw[yo]at g;cases x with
  |int k a=>
   simp only[dt,xJ,xw,yI]at c;obtain⟨⟨s,h2,r,l⟩,n⟩:=c;split at l;case h_2=>cases l
   rename_i t d;cases o
   have q:=kh e vs b fs (i+1) xs n (fun j x p=>by
    have:=h (j+1) x p;rwa [show i+(j+1)=i+1+j by omega]at this)
   have hp:=il (P:=P) (w:=b) r vs i _ g
   have m:(Instr.checkKey e 9999 f.type (.int k a)).run P b= .ok () b:=by
    rw[show(9999:Nat)=9998+1 from rfl];unfold Instr.checkKey;simp[run_underlying d,Result.andThen]
   simp only[List.forIn_cons,Sem.run_bind,s,h2,ne_eq,not_false_eq_true,yS,Result.andThen_ok,hp,m,Sem.run_pure];exact q
  |_=>simp[dt]at c
theorem kS{imm:Nat→Nat→Prop}{w:World}{x:D}{u:Value}(f:DRep imm w x u){t:TypeId}(c:jh P t x=true)(e:Bool)(d:World):(Instr.checkKey e 10000 t u).run P d= .ok () d:=by
 unfold jh at c;rw[show(10000:Nat)=9999+1 from rfl];unfold Instr.checkKey;split at c
 ·rename_i o m n b
  cases f;simp[run_underlying b,Result.andThen]
 ·rename_i s b
  cases f;simp[run_underlying b,Result.andThen]
 ·rename_i fs xs b
  simp only[xJ,yI]at c;cases f with
  |agg _ vs l p a=>
  have k:=kh (P:=P) (imm:=imm) (w:=w) e vs d fs.toList 0 xs c.2 (fun j x i=>by
   have g:j<vs.size:=by rw[l];exact(xC.1 i).1
   have:vs[j]? =some vs[j]:=xI g;exact⟨_,by rw[x8];exact this,a j x _ i this⟩)
  simp only[Sem.run_bind,run_underlying b,Result.andThen_ok];rw[←Array.forIn_toList];simp only[Sem.run_bind,k,Result.andThen_ok,Sem.run_pure]
 ·cases c
theorem qM(x y:D):∀(i:Nat)(es:List (D×D×Nat))(j:Nat),(ek x y i es)[j]? =if j=i then (es[j]?).map fun e=>(x,y,e.2.2)else es[j]?
 |i,[],j=>by cases i<;>simp[ek]
 |0,e::r,0=>by simp[ek]
 |0,e::r,j+1=>by simp[ek]
 |i+1,e::r,0=>by simp[ek]
 |i+1,e::r,j+1=>by simp[ek,qM x y i r j]
theorem qO(x y:D):∀(i:Nat)(es:List (D×D×Nat)),(ek x y i es).length=es.length
 |i,[]=>by cases i<;>rfl
 |0,e::r=>rfl
 |i+1,e::r=>by simp[ek,qO x y i r]
theorem iQ(M:HR G B w0 I0 h w){t:TypeId}{m H x:AV}{U I J:Value}(hm:Rep G w m U)(Z:Rep G w H I)(hx:Rep G w x J){out:Out}(n:ce P t m H x h=some out):
    out.ob=[]∧out.val= .junk∧∃O,(Instr.mapUpdate t U I J).run P w= .ok () O∧Ext G w G O∧HR G B w0 I0 (ap h out.wr) O:=by
 unfold ce at n;split at n;case h_2=>cases n
 rename_i kt et k v kd W V;split at n;case h_2=>cases n
 rename_i es c u;split at n;case isFalse=>cases n
 rename_i X;obtain⟨hv,p⟩:=X;cases hm with
 |mp _ _ b R=>
 subst hv;cases Z with
 |d l=>
 cases hx with
 |d E=>
 obtain⟨b',F,C,A,o,a⟩:=M.maps.obj k es c u;rw[R]at F;cases F;have q:=Go.MapKept.run_getObj_map (P:=P) A;split at n
 ·rename_i i y g
  simp only[xA]at n;subst n;obtain⟨v',z,_,Y,N,r⟩:=e5 l p es C.toList (by simpa using o) (fun i e m f hm=>a i e m f (by simpa using hm)) g;have s:=kS (P:=P) l p false w;have S:C[i]? =some Y:=by simpa using N
  obtain⟨T,h2⟩:=M.setMap (k:=k) (c':=c) (ms':=C.modify i fun e=>{e with key:=I,val:=J}) (es':=ek kd W i es) (by rw[u];rfl) R A (by simp[qO,o]) (fun j e m f hm=>by
   rw[qM]at f;rw[Array.getElem?_modify]at hm;by_cases D:j=i
   ·subst D
    simp only[yS,xB]at f hm;obtain⟨e0,Q,rfl⟩:=f;obtain⟨m0,K,rfl⟩:=hm;exact⟨l,E,(a j e0 m0 Q K).2.2⟩
   ·rw[xo D]at f
    rw[xo (fun e=>D e.symm)]at hm;exact a j e m f hm)
  refine⟨rfl,rfl,_, ?_,h2,T⟩;simp only[Instr.mapUpdate,Sem.run_bind,run_underlying V,Result.andThen_ok,q,s,z];simp only[Instr.keyThatStays,S,x5,zH,r,yS,Sem.run_pure,Result.andThen_ok];exact Go.MapKept.run_setObj_map (P:=P) _ A
 ·rename_i g
  simp only[xA]at n;subst n;have z:=e5 l p es C.toList (by simpa using o) (fun i e m f hm=>a i e m f (by simpa using hm)) g;have s:=kS (P:=P) l p false w
  obtain⟨T,h2⟩:=M.setMap (k:=k) (c':=c+1) (ms':=C.push {key:=I,val:=J,born:=c}) (es':=es ++[(kd,W,c)]) (by rw[u];rfl) R A (by simp[o]) (fun j e m f hm=>by
   by_cases D:j<es.length
   ·rw[xQ D]at f
    rw[Array.getElem?_push,xo (by omega)]at hm;exact a j e m f hm
   ·rw[xV (by omega)]at f
    have L:j=es.length:=by
     have:=(xC.1 f).1;simp at this;omega
    subst L;simp only[zM,xj,xA]at f;rw[Array.getElem?_push,xf o.symm]at hm;simp only[xA]at hm;subst f;subst hm;exact⟨l,E,rfl⟩)
  refine⟨rfl,rfl,_, ?_,h2,T⟩;simp only[Instr.mapUpdate,Sem.run_bind,run_underlying V,Result.andThen_ok,q,s,z];exact Go.MapKept.run_setObj_map (P:=P) _ A
 ·cases n
theorem qP(Q:HR G B w0 I0 h w){t:TypeId}{m D:AV}{ok:Bool}{J I:Value}(hm:Rep G w m J)(M:Rep G w D I){out:Out}(a:eY P t m D ok h=some out):
    out.ob=[]∧out.wr=[]∧∃v,(Instr.lookup t J I ok).run P w= .ok v w∧Rep G w out.val v:=by
 unfold eY at a;split at a;case h_2=>cases a
 rename_i kt et k v kd q;split at a;case h_2=>cases a
 rename_i es c H;split at a;case isFalse=>cases a
 rename_i o;obtain⟨R,j⟩:=o;cases hm with
 |mp _ _ b S=>
 subst R;cases M with
 |d g=>
 obtain⟨T,C,E,L,A,n⟩:=Q.maps.obj k es c H;rw[S]at C;cases C;have l:=Go.MapKept.run_getObj_map (P:=P) L
 have s:∀(x:AV)(v:Value)(b:Bool),Rep G w x v→Rep G w (.tup [x, .d (.bool b)]) (.tuple #[v, .bool b]):=fun x v b O=> .tup _ _ rfl (fun i c u o q=>by
  match i with
  |0=>simp at o q;subst o;subst q;exact O
  |1=>simp at o q;subst o;subst q;exact .d (.bool b)
  |i+2=>simp at o)
 split at a
 ·rename_i i y f
  simp only[xA]at a;subst a;obtain⟨v',r,K,_⟩:=e5 g j es E.toList (by simpa using A) (fun i e m F hm=>n i e m F (by simpa using hm)) f;have p:=kS (P:=P) g j E.isEmpty w;refine⟨rfl,rfl,if ok=true then .tuple #[v', .bool true]else v', ?_, ?_⟩
  ·simp only[Instr.lookup,Sem.run_bind,run_underlying q,Result.andThen_ok,l,Sem.run_pure,p,r]
  ·cases ok
   ·exact .d K
   ·exact s _ _ _ (.d K)
 ·rename_i f
  split at a;case h_2=>cases a
  rename_i z N;simp only[xA]at a;subst a;have r:=e5 g j es E.toList (by simpa using A) (fun i e m F hm=>n i e m F (by simpa using hm)) f;have p:=kS (P:=P) g j E.isEmpty w;refine⟨rfl,rfl,if ok=true then .tuple #[z, .bool false]else z, ?_, ?_⟩
  ·simp only[Instr.lookup,Sem.run_bind,run_underlying q,Result.andThen_ok,l,Sem.run_pure,p,r,cQ N]
  ·cases ok
   ·exact m8 z
   ·exact s _ _ _ (m8 z)
 ·cases a
theorem qQ(o:HR G B w0 I0 h w){t:TypeId}{k v:Nat}{i:Value}(hm:Rep G w (.mp k v) i){out:Out}(a:fM P t k v h=some out):
    out.ob=[]∧out.wr=[]∧∃x,(∀ty,(Builtin.len_ #[t] ty #[i]).run P w= .ok x w)∧Rep G w out.val x:=by
 unfold fM at a;split at a;case h_2=>cases a
 rename_i kt et n;split at a;case h_2=>cases a
 rename_i es c g;split at a;case isFalse=>cases a
 rename_i l;simp only[xA]at a;subst a;cases hm with
 |mp _ _ b m=>
 subst l;obtain⟨r,e,q,p,f,j⟩:=o.maps.obj k es c g;rw[m]at e;cases e;refine⟨rfl,rfl,_,fun ty=> ?_, .d (.int .i64 (es.length:Int))⟩;simp[Builtin.len_,run_underlying n,Go.MapKept.run_getObj_map (P:=P) p,Result.andThen,goInt,f]
theorem sQ{t:TypeId}{x o:AV}{n l:Value}(f:Rep G w x n)(e:Rep G w o l){y:AV}(a:p0 P t x o=some y):∃v,(Instr.index t n l).run P w= .ok v w∧Rep G w y v:=by
 unfold p0 at a;split at a
 ·rename_i s kd i p
  split at a
  ·rename_i q
   simp only[xB]at a;obtain⟨b,r,rfl⟩:=a;cases f with
   |d f=>
   cases f with
   |str _ j u=>
   subst u;cases e with
   |d e=>
   cases e
   have k:j[i.toNat]? =some b:=by
    obtain⟨g,m⟩:=xC.1 r;have c:i.toNat<j.size:=by simpa using g
    rw[getElem?_pos j i.toNat c];simp only[y7]at m;rw[←m];rfl
   refine⟨_, ?_, .d (.int .u8 (b.toNat:Int))⟩;simp[Instr.index,asIntOf,run_underlying p,q,k]
  ·cases a
 ·cases a
end Go.Avm
