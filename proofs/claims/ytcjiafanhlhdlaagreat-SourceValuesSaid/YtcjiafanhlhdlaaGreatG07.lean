/-
  The abstract machine, part R: operations on open data. Where a value isn't known the prover says what it is, with a proof ('Hint'); what the run meets and what the prover named are handed out as pairs of sides, which the kernel compares.
-/
import Derived.Test.YtcjiafanhlhdlaaGreatG06
import Derived.Test.YtcjiafanhlhdlaaGreatG05
set_option linter.unusedVariables false
set_option linter.unusedSimpArgs false
set_option linter.unusedSectionVars false
namespace Go.Avm
variable[ap]
inductive ax where
 |av (x:AV)
 |nat (n:Nat)
 |ds (l:List D)
 |code (c:Code)
 |mp (es:List (D×D×Nat))
 |ob (o:Ob)
 |hp (h:aa)
abbrev ah:=List (ax×ax)
def Alike(a:ah):Prop:=∀p∈a,p.1=p.2
theorem Alike.head{p:ax×ax}{a:ah}(h:Alike (p::a)):p.1=p.2:=h p (by simp)
theorem Alike.tail{p:ax×ax}{a:ah}(h:Alike (p::a)):Alike a:=fun q b=>h q (by simp[b])
theorem Alike.left{a c:ah}(h:Alike (a ++c)):Alike a:=fun q b=>h q (by simp[b])
theorem Alike.right{b a:ah}(h:Alike (b ++a)):Alike a:=fun q c=>h q (by simp[c])
inductive bj(P:Program) where
 |val (a b:AV) (h:a=b)
 |idx (l:List D) (i:Int) (y:D) (h0:0≤i) (h:l[i.toNat]? =some y)
 |inb (i:Int) (n:Nat) (h0:0≤i) (h:i.toNat<n)
 |elt (es:List AV) (i:Nat) (e:AV) (h:es[i]? =some e)
 |look (x:D) (es:List (D×D×Nat)) (r:Option (Nat×D)) (h:bJ x es 0=some r)
 |sidx (s:List UInt8) (i:Int) (b:UInt8) (h0:0≤i) (h:s[i.toNat]? =some b)
 |sub (s:List UInt8) (a b:Nat) (h:a≤b∧b≤s.length)
 |cat (a b:List UInt8) (h:a.length+b.length≤9223372036854775807)
 |cutl (l:List D) (b:Nat) (h:b≤l.length)
 |cuts (ln b:Nat) (h:b≤ln)
 |cutr (l:List D) (a b cs:Nat) (h:a≤b∧b≤l.length∧(l.all fun y=>y.cells.length==cs)=true)
 |mk (l:Int) (h0:0≤l) (h1:l≤1099511627776)
 |app (l:List D) (n:Nat) (h:l.length+n≤549755813888)
 |apps (es:List AV) (ln n:Nat) (h:ln≤es.length∧ln+n≤549755813888)
 |appl (l news:List D) (c:Nat) (h:l.length+news.length≤549755813888∧news.all (fun y=>y.cells.length==c)=true)
 |appsl (es:List AV) (ln:Nat) (nw:List D) (cs:Nat) (h:ln≤es.length∧ln+nw.length≤549755813888∧nw.all (fun y=>y.cells.length==cs)=true∧nw.all D.one=true)
 |appc (ds:List D) (n cs:Nat) (h:ds.length=n∧ds.length≤549755813888∧ds.all (fun y=>y.cells.length==cs)=true∧ds.all D.one=true)
 |call (g:Nat) (ds rs:List D) (h:dt P g ds rs)
def ni{P:Program}(a:Option (bj P))(es:List AV)(j:Nat):Option (AV×ah):=
 match a with
 |some (.elt es' b e _)=>some (e,[(.av (.tup es), .av (.tup es')),(.nat j, .nat b)])
 |_=>(es[j]?).map fun e=>(e,[])
theorem dE{P:Program}{a:Option (bj P)}{es:List AV}{j:Nat}{r:AV×ah}(h:ni a es j=some r)(d:Alike r.2):es[j]? =some r.1:=by
 unfold ni at h;split at h
 ·rename_i es' f e b
  simp only[xA]at h;subst h;have c:=d.head;have h2:=d.tail.head;simp only[ax.av.injEq,AV.tup.injEq,ax.nat.injEq]at c h2;subst c;subst h2;exact b
 ·simp only[xB]at h
  obtain⟨e,b,rfl⟩:=h;exact b
def tP(P:Program)(b:Option (bj P))(t:TypeId)(k v j a:Nat)(h:aa):Option (Out×ah):=
 match (h k).ob with
 |some (.arr sz es)=>
  if sz=1 then
   if a=0 then
    match gR P t with
    |some true=>if j+P.cellsOf t≤es.length then some ({val:=ek ((es.drop j).take (P.cellsOf t)),rd:=[k]},[(.nat (h k).ver, .nat v)])else none
    |some false=>(ni b es j).map fun r=>({val:=r.1,rd:=[k]},(.nat (h k).ver, .nat v)::r.2)
    |none=>none
   else none
  else match ni b es j with
   |some r=>match gR P t with
    |some true=>if a+P.cellsOf t≤sz then some ({val:=ek ((r.1.cells.drop a).take (P.cellsOf t)),rd:=[k]},(.nat (h k).ver, .nat v)::r.2)else none
    |some false=>(r.1.cells[a]?).map fun x=>({val:=x,rd:=[k]},(.nat (h k).ver, .nat v)::r.2)
    |none=>none
   |none=>none
 |_=>none
theorem qP{P:Program}{l:Option (bj P)}{t:TypeId}{k v j g z:Nat}{h:aa}{r:Out×ah}(a:tP P l t k v j g h=some r)(f:Alike r.2):cV P t (.ptr k v j g z) h=some r.1:=by
 unfold tP at a;split at a
 ·rename_i sz es d
  split at a
  ·rename_i i
   split at a
   ·rename_i o
    split at a
    ·rename_i b
     split at a
     ·rename_i e
      simp only[xA]at a;subst a;have c:=f.head;simp only[ax.nat.injEq]at c;simp[cV,b,d7,d,c,i,o,e]
     ·cases a
    ·rename_i b
     simp only[xB]at a;obtain⟨q,n,rfl⟩:=a;have c:=f.head;simp only[ax.nat.injEq]at c;have m:=dE n f.tail;simp[cV,b,d,c,i,o,m]
    ·cases a
   ·cases a
  ·rename_i i
   split at a
   ·rename_i q n
    split at a
    ·rename_i b
     split at a
     ·rename_i e
      simp only[xA]at a;subst a;have c:=f.head;simp only[ax.nat.injEq]at c;have m:=dE n f.tail;simp[cV,b,d7,d,c,i,m,e]
     ·cases a
    ·rename_i b
     simp only[xB]at a;obtain⟨x,p,rfl⟩:=a;have c:=f.head;simp only[ax.nat.injEq]at c;have m:=dE n f.tail;simp[cV,b,d,c,i,m,p]
    ·cases a
   ·cases a
 ·cases a
def qQ(P:Program)(b:Option (bj P))(t:TypeId)(k v j a:Nat)(x:AV)(h:aa):Option (Out×ah):=
 match (h k).ob with
 |some (.arr sz es)=>
  if x.stor=true∧x.cells.length=P.cellsOf t∧bp P t=true then
   if sz=1 then
    if a=0 then
     (if x.one then match ni b es j with
      |some r=>some ({val:= .junk,rd:=[k],wr:=[(k,⟨v,some (.arr sz (es.set j x))⟩)]},(.nat (h k).ver, .nat v)::r.2)
      |none=>none
      else if j+x.cells.length≤es.length then some ({val:= .junk,rd:=[k],wr:=[(k,⟨v,some (.arr sz (es.take j ++x.cells ++es.drop (j+x.cells.length)))⟩)]},[(.nat (h k).ver, .nat v)])else none)
    else none
   else match ni b es j with
    |some r=>
     if a=0∧x.cells.length=sz then some ({val:= .junk,rd:=[k],wr:=[(k,⟨v,some (.arr sz (es.set j x))⟩)]},(.nat (h k).ver, .nat v)::r.2)
     else if a+x.cells.length≤sz then some ({val:= .junk,rd:=[k],wr:=[(k,⟨v,some (.arr sz (es.set j (ek (r.1.cells.take a ++x.cells ++r.1.cells.drop (a+x.cells.length)))))⟩)]},(.nat (h k).ver, .nat v)::r.2)else none
    |none=>none
  else none
 |_=>none
theorem pw{P:Program}{n:Option (bj P)}{t:TypeId}{k v j l z:Nat}{x:AV}{h:aa}{r:Out×ah}(a:qQ P n t k v j l x h=some r)(i:Alike r.2):cw P t (.ptr k v j l z) x h=some r.1:=by
 unfold qQ at a;split at a
 ·rename_i sz es f
  split at a
  ·rename_i y
   obtain⟨c1,g,s⟩:=y;split at a
   ·rename_i m
    split at a
    ·rename_i w
     split at a
     ·rename_i c
      split at a
      ·rename_i q p
       simp only[xA]at a;subst a;have d:=i.head;simp only[ax.nat.injEq]at d;have o:=dE p i.tail;have u:j<es.length:=(xD.1 o).1;simp[cw,f,d,c1,g,s,m,w,c,u]
      ·cases a
     ·rename_i c
      split at a
      ·rename_i b
       simp only[xA]at a;subst a;have d:=i.head;simp only[ax.nat.injEq]at d;rw[g]at b;simp[cw,f,d,c1,g,s,m,w,c,b]
      ·cases a
    ·cases a
   ·rename_i m
    split at a
    ·rename_i q p
     split at a
     ·rename_i e
      simp only[xA]at a;subst a;have d:=i.head;simp only[ax.nat.injEq]at d;have o:=dE p i.tail;rw[g]at e;simp[cw,f,d,c1,g,s,m,o,e]
     ·rename_i e
      split at a
      ·rename_i b
       simp only[xA]at a;subst a;have d:=i.head;simp only[ax.nat.injEq]at d;have o:=dE p i.tail;rw[g]at e b;simp only[cw,f,d,c1,g,s,m,o];simp[e,b]
      ·cases a
    ·cases a
  ·cases a
 ·cases a
theorem dc(P:Program)(t:TypeId):lg P t t=true:=by simp[lg]
theorem bq{P:Program}{obm:Bool}{t:TypeId}{s x:AV}{k:Nat}{h:aa}(a:il P t=false):bG P obm t s x k h=aZ P obm t s x k h:=by
 unfold bG;cases aZ P obm t s x k h with
 |none=>rfl
 |some o=>simp[a]
def zx(P:Program)(c:Call)(ρ:Operand→AV)(h:aa)(l:List D)(n:Nat):Option (Out×ah):=
 match c.callee,c.args.toList,c.argTypes.toList with
 | .builtin .append,[s,x],[t,b]=>
  if t=b∧il P t=false then match P.underlying t with
   |some (.slice e)=>match en h (ρ x),bC P e,ρ s with
    |some (news,a),some z, .vec k v sz l'=>
     if news.all (fun y=>y.cells.length==P.cellsOf e)=true∧0<P.cellsOf e∧P.bytesOf e≤256∧z.cells.size=P.cellsOf e then
      if (h k).ob.isNone=true∧k∉a∧sz=P.cellsOf e then
       some ({val:= .vec k (v+1) sz (l' ++news),rd:=k::a,wr:=[(k,⟨v+1,none⟩)]},[(.nat (h k).ver, .nat v),(.ds l', .ds l),(.nat news.length, .nat n)])
      else none
     else none
    |_,_,_=>none
   |_=>none
  else none
 |_,_,_=>none
theorem sK{P:Program}{cfg:d0}{i:Nat}{c:Call}{ρ:Operand→AV}{h:aa}{l:List D}{n k:Nat}{r:Out×ah}(a:zx P c ρ h l n=some r)(p:Alike r.2)(y:l.length+n≤549755813888):aK P cfg i c ρ h k=some r.1:=by
 unfold zx at a;split at a;case h_2=>cases a
 rename_i s x t F g d o;split at a;case isFalse=>cases a
 rename_i b;obtain⟨b,m⟩:=b;subst b;split at a;case h_2=>cases a
 rename_i e A;split at a;case h_2=>cases a
 rename_i news G z H v sz l' j C B;split at a;case isFalse=>cases a
 rename_i E;split at a;case isFalse=>cases a
 rename_i f;simp only[xA]at a;subst a;have u:=p.head;have q:=p.tail.head;have w:=p.tail.tail.head;simp only[ax.nat.injEq,ax.ds.injEq]at u q w;subst q;subst w;simp only[aK,g,d,o,dc,bq m,aZ,A,j,C,B,xz];rw[xW E,xW ⟨u,f.1,f.2.1,f.2.2,y⟩]
def tQ(P:Program)(c:Call)(ρ:Operand→AV)(h:aa)(l a:List D)(cs:Nat):Option (Out×ah):=
 match c.callee,c.args.toList,c.argTypes.toList with
 | .builtin .append,[s,x],[t,d]=>
  if t=d∧il P t=false then match P.underlying t with
   |some (.slice e)=>match en h (ρ x),bC P e,ρ s with
    |some (news,b),some z, .vec k v sz l'=>
     if 0<P.cellsOf e∧P.bytesOf e≤256∧z.cells.size=P.cellsOf e then
      if (h k).ob.isNone=true∧k∉b∧sz=P.cellsOf e then
       some ({val:= .vec k (v+1) sz (l' ++a),rd:=k::b,wr:=[(k,⟨v+1,none⟩)]},[(.nat (h k).ver, .nat v),(.ds l', .ds l),(.ds news, .ds a),(.nat (P.cellsOf e), .nat cs)])
      else none
     else none
    |_,_,_=>none
   |_=>none
  else none
 |_,_,_=>none
theorem qR{P:Program}{cfg:d0}{i:Nat}{c:Call}{ρ:Operand→AV}{h:aa}{l q:List D}{cs k:Nat}{r:Out×ah}(a:tQ P c ρ h l q cs=some r)(n:Alike r.2)(u:l.length+q.length≤549755813888∧q.all (fun y=>y.cells.length==cs)=true):aK P cfg i c ρ h k=some r.1:=by
 unfold tQ at a;split at a;case h_2=>cases a
 rename_i s x t I j d p;split at a;case isFalse=>cases a
 rename_i b;obtain⟨b,o⟩:=b;subst b;split at a;case h_2=>cases a
 rename_i e E;split at a;case h_2=>cases a
 rename_i news J z K v sz l' m G F;split at a;case isFalse=>cases a
 rename_i H;split at a;case isFalse=>cases a
 rename_i f;simp only[xA]at a;subst a;have B:=n.head;have w:=n.tail.head;have C:=n.tail.tail.head;have A:=n.tail.tail.tail.head;simp only[ax.nat.injEq,ax.ds.injEq]at B w C A;subst w;subst C;have g:news.all (fun y=>y.cells.length==P.cellsOf e)=true:=by rw[A];exact u.2
 simp only[aK,j,d,p,dc,bq o,aZ,E,m,G,F,xz];rw[xW ⟨g,H⟩,xW ⟨B,f.1,f.2.1,f.2.2,u.1⟩]
def zy(P:Program)(c:Call)(ρ:Operand→AV)(h:aa)(es:List AV)(i n:Nat):Option (Out×ah):=
 match c.callee,c.args.toList,c.argTypes.toList with
 | .builtin .append,[s,x],[t,g]=>
  if t=g∧il P t=false then match P.underlying t with
   |some (.slice e)=>match en h (ρ x),bC P e,ρ s with
    |some (news,f),some z, .sl k v b a _=>match (h k).ob with
     |some (.arr sz es')=>
      if news.all (fun y=>y.cells.length==P.cellsOf e)=true∧0<P.cellsOf e∧P.bytesOf e≤256∧z.cells.size=P.cellsOf e then
       if b=0∧sz=P.cellsOf e∧(sz=1→news.all D.one=true)then
        some ({val:= .sl k (v+1) 0 (a+news.length) sz,rd:=k::f,wr:=[(k,⟨v+1,some (.arr sz (es'.take a ++news.map .d))⟩)]},[(.nat (h k).ver, .nat v),(.av (.tup es'), .av (.tup es)),(.nat a, .nat i),(.nat news.length, .nat n)])
       else none
      else none
     |_=>none
    |_,_,_=>none
   |_=>none
  else none
 |_,_,_=>none
theorem sL{P:Program}{cfg:d0}{i:Nat}{c:Call}{ρ:Operand→AV}{h:aa}{es:List AV}{m n k:Nat}{r:Out×ah}(a:zy P c ρ h es m n=some r)(l:Alike r.2)(u:m≤es.length∧m+n≤549755813888):aK P cfg i c ρ h k=some r.1:=by
 unfold zy at a;split at a;case h_2=>cases a
 rename_i s x t I g d q;split at a;case isFalse=>cases a
 rename_i b;obtain⟨b,p⟩:=b;subst b;split at a;case h_2=>cases a
 rename_i e D;split at a;case h_2=>cases a
 rename_i news K z L v H C J j F E;split at a;case h_2=>cases a
 rename_i sz es' o;split at a;case isFalse=>cases a
 rename_i G;split at a;case isFalse=>cases a
 rename_i f;simp only[xA]at a;subst a;have A:=l.head;have w:=l.tail.head;have B:=l.tail.tail.head;have y:=l.tail.tail.tail.head;simp only[ax.nat.injEq,ax.av.injEq,AV.tup.injEq]at A w B y;subst w;subst B;subst y;simp only[aK,g,d,q,dc,bq p,aZ,D,j,F,E,xz,o];rw[xW G,xW ⟨A,f.1,u.1,f.2.1,u.2,f.2.2⟩]
def zz(P:Program)(c:Call)(ρ:Operand→AV)(h:aa)(es:List AV)(o n:Nat):Option (Out×ah):=
 match c.callee,c.args.toList,c.argTypes.toList with
 | .builtin .append,[s,x],[t,m]=>
  if t=m then match P.underlying t with
   |some (.slice e)=>match bC P e,ρ s,ρ x with
    |some z, .sl k v f a _, .sl g l d b _=>match (h k).ob,(h g).ob with
     |some (.arr sz es'),some (.arr i [j])=>
      if f=0∧sz=1∧d=0∧b=1∧i=1∧P.cellsOf e=1∧P.bytesOf e≤256∧z.cells.size=1∧j.isRef=true then
       some ({val:= .sl k (v+1) 0 (a+1) 1,rd:=[k,g],wr:=[(k,⟨v+1,some (.arr 1 (es'.take a ++[j]))⟩)]},[(.nat (h k).ver, .nat v),(.av (.tup es'), .av (.tup es)),(.nat a, .nat o),(.nat 1, .nat n),(.nat (h g).ver, .nat l)])
      else none
     |_,_=>none
    |_,_,_=>none
   |_=>none
  else none
 |_,_,_=>none
theorem sM{P:Program}{cfg:d0}{i:Nat}{c:Call}{ρ:Operand→AV}{h:aa}{es:List AV}{o n k:Nat}{r:Out×ah}(a:zz P c ρ h es o n=some r)(g:Alike r.2)(y:o≤es.length∧o+n≤549755813888):aK P cfg i c ρ h k=some r.1:=by
 unfold zz at a;split at a;case h_2=>cases a
 rename_i s x t R j d q;split at a;case isFalse=>cases a
 rename_i u;subst u;split at a;case h_2=>cases a
 rename_i e J;split at a;case h_2=>cases a
 rename_i z W v N I U Q T A F S L K H;split at a;case h_2=>cases a
 rename_i sz es' O V p b;split at a;case isFalse=>cases a
 rename_i M;obtain⟨rfl,rfl,rfl,rfl,rfl,l,w,m,f⟩:=M;simp only[xA]at a;subst a;have D:=g.head;have B:=g.tail.head;have G:=g.tail.tail.head;have C:=g.tail.tail.tail.head;have E:=g.tail.tail.tail.tail.head;simp only[ax.nat.injEq,ax.av.injEq,AV.tup.injEq]at D B G C E;subst B;subst G;subst C;simp only[aK,j,d,q,dc,xz,K,H];rw[eo f b];simp only[cj,J,L,p,b];rw[xW ⟨D,trivial,y.1,trivial,E,trivial,trivial,trivial,l,w,m,y.2,f⟩]
def tR(P:Program)(c:Call)(ρ:Operand→AV)(h:aa)(es:List AV)(j:Nat)(f:List D)(cs:Nat):Option (Out×ah):=
 match c.callee,c.args.toList,c.argTypes.toList with
 | .builtin .append,[s,x],[t,i]=>
  if t=i∧il P t=false then match P.underlying t with
   |some (.slice e)=>match en h (ρ x),bC P e,ρ s with
    |some (news,g),some z, .sl k v b a _=>match (h k).ob with
     |some (.arr sz es')=>
      if 0<P.cellsOf e∧P.bytesOf e≤256∧z.cells.size=P.cellsOf e then
       if b=0∧sz=P.cellsOf e then
        some ({val:= .sl k (v+1) 0 (a+f.length) sz,rd:=k::g,wr:=[(k,⟨v+1,some (.arr sz (es'.take a ++f.map .d))⟩)]},[(.nat (h k).ver, .nat v),(.av (.tup es'), .av (.tup es)),(.nat a, .nat j),(.ds news, .ds f),(.nat (P.cellsOf e), .nat cs)])
       else none
      else none
     |_=>none
    |_,_,_=>none
   |_=>none
  else none
 |_,_,_=>none
theorem qS{P:Program}{cfg:d0}{i:Nat}{c:Call}{ρ:Operand→AV}{h:aa}{es:List AV}{o cs k:Nat}{n:List D}{r:Out×ah}(a:tR P c ρ h es o n cs=some r)(f:Alike r.2)(m:o≤es.length∧o+n.length≤549755813888∧n.all (fun y=>y.cells.length==cs)=true∧n.all D.one=true):aK P cfg i c ρ h k=some r.1:=by
 unfold tR at a;split at a;case h_2=>cases a
 rename_i s x t L g d u;split at a;case isFalse=>cases a
 rename_i b;obtain⟨b,q⟩:=b;subst b;split at a;case h_2=>cases a
 rename_i e G;split at a;case h_2=>cases a
 rename_i news N z O v K F M j I H;split at a;case h_2=>cases a
 rename_i sz es' p;split at a;case isFalse=>cases a
 rename_i J;split at a;case isFalse=>cases a
 rename_i l;simp only[xA]at a;subst a;have B:=f.head;have w:=f.tail.head;have E:=f.tail.tail.head;have A:=f.tail.tail.tail.head;have C:=f.tail.tail.tail.tail.head;simp only[ax.nat.injEq,ax.av.injEq,AV.tup.injEq,ax.ds.injEq]at B w E A C;subst w;subst E;subst A;simp only[aK,g,d,u,dc,bq q,aZ,G,j,I,H,xz,p];rw[xW ⟨by rw[C];exact m.2.2.1,J⟩,xW ⟨B,l.1,m.1,l.2,m.2.1,fun _=>m.2.2.2⟩]
def zB(P:Program)(cfg:d0)(i:Nat)(c:Call)(ρ:Operand→AV)(h:aa)(ds:List D)(n cs k:Nat):Option (Out×ah):=
 match c.callee,c.args.toList,c.argTypes.toList with
 | .builtin .append,[s,x],[t,q]=>
  if t=q∧il P t=false then match P.underlying t with
   |some (.slice e)=>match ρ x,bC P e with
    | .sl b p m f _,some z=>match (h b).ob with
     |some (.arr _ es')=>
      if 0<P.cellsOf e∧P.bytesOf e≤256∧z.cells.size=P.cellsOf e∧m=0 then
       match ρ s with
       | .es=>
        if k≠b then
         some (if cfg.obm i then {val:= .sl k ((h k).ver+1) 0 n (P.cellsOf e),rd:=[k,b],wr:=[newOb h k (P.cellsOf e) (ds.map .d)]}else {val:= .d (.ro ds),rd:=[b]},[(.nat (h b).ver, .nat p),(.av (.tup es'), .av (.tup (ds.map .d))),(.nat f, .nat n),(.nat (P.cellsOf e), .nat cs)])
        else none
       | .vec a g sz []=>
        if (h a).ob.isNone=true∧a≠b∧sz=P.cellsOf e then
         some ({val:= .vec a (g+1) sz ([] ++ds),rd:=[a,b],wr:=[(a,⟨g+1,none⟩)]},[(.nat (h b).ver, .nat p),(.av (.tup es'), .av (.tup (ds.map .d))),(.nat f, .nat n),(.nat (P.cellsOf e), .nat cs),(.nat (h a).ver, .nat g)])
        else none
       | .sl a g j l _=>match (h a).ob with
        |some (.arr sz o)=>
         if j=0∧l=0∧sz=P.cellsOf e then
          some ({val:= .sl a (g+1) 0 n sz,rd:=[a,b],wr:=[(a,⟨g+1,some (.arr sz (o.take 0 ++ds.map .d))⟩)]},[(.nat (h b).ver, .nat p),(.av (.tup es'), .av (.tup (ds.map .d))),(.nat f, .nat n),(.nat (P.cellsOf e), .nat cs),(.nat (h a).ver, .nat g)])
         else none
        |_=>none
       |_=>none
      else none
     |_=>none
    |_,_=>none
   |_=>none
  else none
 |_,_,_=>none
theorem rG(n:Nat)(h:aa):∀ds:List D,view.go (n+1) h (ds.map .d)=some (ds,[])
 |[]=>rfl
 |d::r=>by
  have:=rG n h r;simp only[xI,view.go,cN,view]at this ⊢;rw[this];rfl
theorem sN{P:Program}{cfg:d0}{i:Nat}{c:Call}{ρ:Operand→AV}{h:aa}{n cs k:Nat}{ds:List D}{r:Out×ah}(a:zB P cfg i c ρ h ds n cs k=some r)(l:Alike r.2)(hN:ds.length=n∧ds.length≤549755813888∧ds.all (fun y=>y.cells.length==cs)=true∧ds.all D.one=true):aK P cfg i c ρ h k=some r.1:=by
 obtain⟨F,H⟩:=hN;unfold zB at a;split at a;case h_2=>cases a
 rename_i s x t t' o j C;split at a;case isFalse=>cases a
 rename_i E;obtain⟨E,B⟩:=E;subst E;split at a;case h_2=>cases a
 rename_i e R;split at a;case h_2=>cases a
 rename_i V Y off Q sz z hx S;split at a;case h_2=>cases a
 rename_i sz2 es' O;split at a;case isFalse=>cases a
 rename_i hc;obtain⟨w,G,A,rfl⟩:=hc
 have v:∀(m:(h V).ver=Y)(p:es'=ds.map .d)(q:Q=n),en h (ρ x)=some (ds,[V]):=by
  rintro m rfl rfl;subst F;rw[hx];simp only[en,O];rw[xW ⟨m,by simp⟩,yX,←(show(ds.map AV.d).length=ds.length from xV ..),List.take_length,rG];rfl
 split at a
 ·rename_i K
  split at a;case isFalse=>cases a
  rename_i g;simp only[xA]at a;subst a;have m:=l.head;have p:=l.tail.head;have q:=l.tail.tail.head;have u:=l.tail.tail.tail.head;simp only[ax.nat.injEq,ax.av.injEq,AV.tup.injEq]at m p q u;have f:=v m p q;have b:ds.all (fun y=>y.cells.length==P.cellsOf e)=true:=by rw[u];exact H.2.1
  have T:¬(k∈[V]∨549755813888<ds.length):=by
   rintro(I|I)
   ·exact g (by simpa using I)
   ·omega
  have M:¬(P.cellsOf e=1∧ds.all D.one=false):=fun I=>by rw[H.2.2]at I;exact absurd I.2 (by simp)
  simp only[aK,o,j,C,dc,bq B,aZ,R,f,S,K,xz];rw[xW ⟨b,w,G,A⟩,xi T];rw[←F];cases cfg.obm i with
  |true=>simp only[xz];rw[xi M]
  |false=>simp
 ·rename_i k1 Z U K
  split at a;case isFalse=>cases a
  rename_i g;simp only[xA]at a;subst a;have m:=l.head;have p:=l.tail.head;have q:=l.tail.tail.head;have u:=l.tail.tail.tail.head;have L:=l.tail.tail.tail.tail.head;simp only[ax.nat.injEq,ax.av.injEq,AV.tup.injEq]at m p q u L;have f:=v m p q;have b:ds.all (fun y=>y.cells.length==P.cellsOf e)=true:=by rw[u];exact H.2.1
  simp only[aK,o,j,C,dc,bq B,aZ,R,f,S,K,xz];rw[xW ⟨b,w,G,A⟩,xW ⟨L,g.1,by simpa using g.2.1,g.2.2,by simpa using H.1⟩]
 ·rename_i k1 Z W X U K
  split at a;case h_2=>cases a
  rename_i sz3 es1 J;split at a;case isFalse=>cases a
  rename_i g;simp only[xA]at a;subst a;obtain⟨rfl,rfl,N⟩:=g;have m:=l.head;have p:=l.tail.head;have q:=l.tail.tail.head;have u:=l.tail.tail.tail.head;have L:=l.tail.tail.tail.tail.head;simp only[ax.nat.injEq,ax.av.injEq,AV.tup.injEq]at m p q u L;have f:=v m p q;have b:ds.all (fun y=>y.cells.length==P.cellsOf e)=true:=by rw[u];exact H.2.1
  simp only[aK,o,j,C,dc,bq B,aZ,R,f,S,K,xz,J];rw[xW ⟨b,w,G,A⟩,xW ⟨L,trivial,yd _,N,by omega,fun _=>H.2.2⟩,←F,xe]
 ·cases a
def zC(P:Program)(c:Call)(ρ:Operand→AV)(h:aa):Option (Out×ah):=
 match c.callee,c.args.toList,c.argTypes.toList with
 | .builtin .len,[x],[t]=>match ρ x with
  | .mp k v=>match P.underlying t with
   |some (.map _ _)=>match (h k).ob with
    |some (.map es _)=>some ({val:= .d (.int .i64 (es.length:Int)),rd:=[k]},[(.nat (h k).ver, .nat v)])
    |_=>none
   |_=>none
  |_=>none
 |_,_,_=>none
theorem sO{P:Program}{cfg:d0}{i:Nat}{c:Call}{ρ:Operand→AV}{h:aa}{k:Nat}{r:Out×ah}(d:zC P c ρ h=some r)(p:Alike r.2):aK P cfg i c ρ h k=some r.1:=by
 unfold zC at d;split at d;case h_2=>cases d
 rename_i x t f e g;split at d;case h_2=>cases d
 rename_i q v m;split at d;case h_2=>cases d
 rename_i a b o;split at d;case h_2=>cases d
 rename_i es n j;simp only[xA]at d;subst d;have l:=p.head;simp only[ax.nat.injEq]at l;simp only[aK,f,e,g,m,dj,o,j];rw[xW l]
def BD:AV→Option (List D)
 | .d (.ro l)| .vec _ _ _ l=>some l
 |_=>none
def rH(P:Program)(f:Option (bj P))(cfg:d0)(i:Nat)(o:Oper)(ρ:Operand→AV)(h:aa):Option (Out×ah):=
 match o.op with
 | .load t a=>match ρ a with
  | .ptr k v j g _=>tP P f t k v j g h
  |_=>(aX P cfg i o ρ h).map fun r=>(r,[])
 | .store t a x=>match ρ a with
  | .ptr k v j g _=>qQ P f t k v j g (ρ x) h
  |_=>(aX P cfg i o ρ h).map fun r=>(r,[])
 | .indexAddr t x C=>match f with
  |some (.idx l i y _ _)=>match P.underlying t,ρ C,BD (ρ x)with
   |some (.slice e), .d (.int _ A),some l'=>if y.cells.length=P.cellsOf e∧bp P e=true then some ({val:= .d (.rp y.cells)},[(.ds l', .ds l),(.av (.d (.int .i64 A)), .av (.d (.int .i64 i)))])else none
   |_,_,_=>none
  |some (.inb i n _ _)=>match P.underlying t,ρ C,ρ x with
   |some (.slice e), .d (.int _ A), .sl k v g w sz=>if sz=P.cellsOf e∧bp P e=true then some ({val:= .ptr k v (g+A.toNat) 0 sz},[(.av (.d (.int .i64 A)), .av (.d (.int .i64 i))),(.nat w, .nat n)])else none
   |some (.array K e), .d (.int _ A), .ptr k v j g sz=>if sz=1∧g=0∧bp P e=true then some ({val:= .ptr k v (j+A.toNat*P.cellsOf e) 0 sz},[(.av (.d (.int .i64 A)), .av (.d (.int .i64 i))),(.nat K, .nat n)])else none
   |_,_,_=>none
  |_=>(aX P cfg i o ρ h).map fun r=>(r,[])
 | .call c=>match f with
  |some (.app l n _)=>zx P c ρ h l n
  |some (.apps es F n _)=>match zz P c ρ h es F n with
   |some r=>some r
   |none=>zy P c ρ h es F n
  |some (.appl l J cs _)=>tQ P c ρ h l J cs
  |some (.appsl es F J cs _)=>tR P c ρ h es F J cs
  |some (.appc ds n cs _)=>zB P cfg i c ρ h ds n cs (cfg.base i+o.dst.getD 0)
  |_=>match zC P c ρ h with
   |some r=>some r
   |none=>(aX P cfg i o ρ h).map fun r=>(r,[])
 | .lookup t m q ok=>match f with
  |some (.look x es r _)=>match P.underlying t,ρ m,ρ q with
   |some (.map kt et), .mp k v, .d kd=>match (h k).ob with
    |some (.map es' _)=>
     if fd P kt kd=true then
      match r with
      |some (_,y)=>some ({val:=if ok=true then .tup [.d y, .d (.bool true)]else .d y,rd:=[k]},[(.nat (h k).ver, .nat v),(.mp es', .mp es),(.ds [kd], .ds [x])])
      |none=>match bC P et with
       |some z=>some ({val:=if ok=true then .tup [vC z, .d (.bool false)]else vC z,rd:=[k]},[(.nat (h k).ver, .nat v),(.mp es', .mp es),(.ds [kd], .ds [x])])
       |none=>none
     else none
    |_=>none
   |_,_,_=>none
  |_=>(aX P cfg i o ρ h).map fun r=>(r,[])
 | .mapUpdate t m q x=>match f with
  |some (.look D p none _)=>match P.underlying t,ρ m,ρ q,ρ x with
   |some (.map kt _), .mp k v, .d kd, .d E=>match (h k).ob with
    |some (.map es' c)=>
     if fd P kt kd=true then some ({val:= .junk,rd:=[k],wr:=[(k,⟨v,some (.map (es' ++[(kd,E,c)]) (c+1))⟩)]},[(.nat (h k).ver, .nat v),(.mp es', .mp p),(.ds [kd], .ds [D])])
     else none
    |_=>none
   |_,_,_,_=>none
  |some (.look D p (some (C,_)) _)=>match P.underlying t,ρ m,ρ q,ρ x with
   |some (.map kt _), .mp k v, .d kd, .d E=>match (h k).ob with
    |some (.map es' c)=>
     if fd P kt kd=true then some ({val:= .junk,rd:=[k],wr:=[(k,⟨v,some (.map (co kd E C es') c)⟩)]},[(.nat (h k).ver, .nat v),(.mp es', .mp p),(.ds [kd], .ds [D])])
     else none
    |_=>none
   |_,_,_,_=>none
  |_=>(aX P cfg i o ρ h).map fun r=>(r,[])
 | .insert t m q x=>match f with
  |some (.look D p none _)=>match P.underlying t,ρ m,ρ q,ρ x with
   |some (.map kt _), .mp k v, .d kd, .d E=>match (h k).ob with
    |some (.map es' c)=>
     if fd P kt kd=true then some ({val:= .junk,rd:=[k],wr:=[(k,⟨v,some (.map (es' ++[(kd,E,c)]) (c+1))⟩)]},[(.nat (h k).ver, .nat v),(.mp es', .mp p),(.ds [kd], .ds [D])])
     else none
    |_=>none
   |_,_,_,_=>none
  |some (.look D p (some (C,_)) _)=>match P.underlying t,ρ m,ρ q,ρ x with
   |some (.map kt _), .mp k v, .d kd, .d E=>match (h k).ob with
    |some (.map es' c)=>
     if fd P kt kd=true then some ({val:= .junk,rd:=[k],wr:=[(k,⟨v,some (.map (co kd E C es') c)⟩)]},[(.nat (h k).ver, .nat v),(.mp es', .mp p),(.ds [kd], .ds [D])])
     else none
    |_=>none
   |_,_,_,_=>none
  |_=>(aX P cfg i o ρ h).map fun r=>(r,[])
 | .index t x C=>match f with
  |some (.sidx s i b _ _)=>match P.underlying t,ρ x,ρ C with
   |some .string, .d (.str G), .d (.int _ A)=>some ({val:= .d (.int .u8 (b.toNat:Int))},[(.av (.d (.str G)), .av (.d (.str s))),(.av (.d (.int .i64 A)), .av (.d (.int .i64 i)))])
   |_,_,_=>none
  |_=>(aX P cfg i o ρ h).map fun r=>(r,[])
 | .slice t x I H L=>match f,L with
  |some (.sub s a b _),none=>match P.underlying t,ρ x,bZ (I.map ρ) 0 with
   |some .string, .d (.str G),some B=>match bZ (H.map ρ) G.length with
    |some u=>some ({val:= .d (.str ((G.take u).drop B))},[(.av (.d (.str G)), .av (.d (.str s))),(.nat B, .nat a),(.nat u, .nat b)])
    |none=>none
   |_,_,_=>none
  |some (.cutl l b _),none=>match P.underlying t,ρ x,bZ (I.map ρ) 0 with
   |some (.slice e), .d (.ro l'),some 0=>if bp P e=false then none else match bZ (H.map ρ) l'.length with
    |some u=>some ({val:= .d (.ro ((l'.take u).drop 0))},[(.ds l', .ds l),(.nat u, .nat b)])
    |none=>none
   |_,_,_=>none
  |some (.cutr l a b cs _),none=>match P.underlying t,ρ x,bZ (I.map ρ) 0 with
   |some (.slice e), .d (.ro l'),some B=>if bp P e=false then none else match bZ (H.map ρ) l'.length with
    |some u=>some ({val:= .d (.ro ((l'.take u).drop B))},[(.ds l', .ds l),(.nat B, .nat a),(.nat u, .nat b),(.nat (P.cellsOf e), .nat cs)])
    |none=>none
   |_,_,_=>none
  |some (.cuts F b _),none=>match P.underlying t,ρ x,bZ (I.map ρ) 0 with
   |some (.slice e), .sl k v g w sz,some 0=>if bp P e=false then none else match bZ (H.map ρ) w with
    |some u=>some ({val:= .sl k v g u sz},[(.nat w, .nat F),(.nat u, .nat b)])
    |none=>none
   |_,_,_=>none
  |_,_=>(aX P cfg i o ρ h).map fun r=>(r,[])
 | .binOp .add t x y _=>match f with
  |some (.cat a b _)=>match ρ x,ρ y with
   | .d (.str B), .d (.str u)=>some ({val:= .d (.str (B ++u))},[(.av (.d (.str B)), .av (.d (.str a))),(.av (.d (.str u)), .av (.d (.str b)))])
   |_,_=>none
  |_=>(aX P cfg i o ρ h).map fun r=>(r,[])
 | .makeSlice t l c=>match f with
  |some (.mk n _ _)=>match P.underlying t,ρ l,ρ c with
   |some (.slice e), .d (.int .i64 l'), .d (.int .i64 c')=>match nL P e with
    |some z=>
     if P.bytesOf e≤256∧z.cells.length=P.cellsOf e∧0<P.cellsOf e∧(P.cellsOf e=1→z.lone=true)then
      some ({val:= .sl (cfg.base i+o.dst.getD 0) ((h (cfg.base i+o.dst.getD 0)).ver+1) 0 l'.toNat (P.cellsOf e),rd:=[cfg.base i+o.dst.getD 0],wr:=[newOb h (cfg.base i+o.dst.getD 0) (P.cellsOf e) (List.replicate l'.toNat z)]},[(.av (.d (.int .i64 l')), .av (.d (.int .i64 n))),(.av (.d (.int .i64 c')), .av (.d (.int .i64 n)))])
     else none
    |none=>none
   |_,_,_=>none
  |_=>(aX P cfg i o ρ h).map fun r=>(r,[])
 |_=>(aX P cfg i o ρ h).map fun r=>(r,[])
theorem ma{P:Program}{Y:Option (bj P)}{cfg:d0}{i:Nat}{o:Oper}{ρ:Operand→AV}{h:aa}{r:Out×ah}(f:rH P Y cfg i o ρ h=some r)(u:Alike r.2):aX P cfg i o ρ h=some r.1:=by
 have p:(aX P cfg i o ρ h).map (fun r=>((r,[]):Out×ah))=some r→aX P cfg i o ρ h=some r.1:=fun hh=>by
  simp only[xB]at hh;obtain⟨q,hq,rfl⟩:=hh;exact hq
 unfold rH at f;split at f
 ·rename_i t a g
  split at f
  ·rename_i k v j T z ha
   have:=qP (z:=z) f u;simp only[aX,g,ha,this]
  ·exact p f
 ·rename_i t a x g
  split at f
  ·rename_i k v j T z ha
   have:=pw (z:=z) f u;simp only[aX,g,ha,this]
  ·exact p f
 ·rename_i t x ix g
  split at f
  ·rename_i l i' y S V
   split at f
   ·rename_i e kd i2 l2 B J K
    split at f
    ·rename_i M
     simp only[xA]at f;subst f;have R:=u.head;have h2:=u.tail.head;simp only[ax.ds.injEq,ax.av.injEq,AV.d.injEq,D.int.injEq,true_and]at R h2;subst R;subst h2;simp only[aX,g,c3,B,J];unfold BD at K;split at K
     ·rename_i l3 C
      simp only[xA]at K;subst K;simp only[C,S,V,xz];rw[xW M]
     ·rename_i l3 C
      simp only[xA]at K;subst K;simp only[C,S,V,xz];rw[xW M]
     ·cases K
    ·cases f
   ·cases f
  ·rename_i i' n S V
   split at f
   ·rename_i e kd i2 k v T len sz B J C
    split at f
    ·rename_i M
     simp only[xA]at f;subst f;have R:=u.head;have h2:=u.tail.head;simp only[ax.nat.injEq,ax.av.injEq,AV.d.injEq,D.int.injEq,true_and]at R h2;subst R;subst h2;simp only[aX,g,c3,B,J,C];rw[xW ⟨M.1,M.2,S,V⟩]
    ·cases f
   ·rename_i n' e kd i2 k v j T sz B J C
    split at f
    ·rename_i M
     simp only[xA]at f;subst f;have R:=u.head;have h2:=u.tail.head;simp only[ax.nat.injEq,ax.av.injEq,AV.d.injEq,D.int.injEq,true_and]at R h2;subst R;subst h2;simp only[aX,g,c3,B,J,C];rw[xW ⟨M.1,M.2.1,M.2.2,S,V⟩]
    ·cases f
   ·cases f
  ·exact p f
 ·rename_i c g
  split at f
  ·rename_i l n G
   have:=sK (cfg:=cfg) (i:=i) (k:=cfg.base i+o.dst.getD 0) f u G;simp only[aX,g,this]
  ·rename_i es ln n G
   split at f
   ·rename_i r0 hS
    simp only[xA]at f;subst f;have:=sM (cfg:=cfg) (i:=i) (k:=cfg.base i+o.dst.getD 0) hS u G;simp only[aX,g,this]
   ·have:=sL (cfg:=cfg) (i:=i) (k:=cfg.base i+o.dst.getD 0) f u G
    simp only[aX,g,this]
  ·rename_i l nw cs G
   have:=qR (cfg:=cfg) (i:=i) (k:=cfg.base i+o.dst.getD 0) f u G;simp only[aX,g,this]
  ·rename_i es ln nw cs G
   have:=qS (cfg:=cfg) (i:=i) (k:=cfg.base i+o.dst.getD 0) f u G;simp only[aX,g,this]
  ·rename_i ds n cs G
   have:=sN (cfg:=cfg) (i:=i) (k:=cfg.base i+o.dst.getD 0) f u G;simp only[aX,g,this]
  ·split at f
   ·rename_i r' hr'
    simp only[xA]at f;subst f;have:=sO (cfg:=cfg) (i:=i) (k:=cfg.base i+o.dst.getD 0) hr' u;simp only[aX,g,this]
   ·exact p f
 ·rename_i t m Z ok g
  split at f
  ·rename_i x es r0 O
   split at f
   ·rename_i kt et k v kd B hm Q
    split at f
    ·rename_i es' c F
     split at f
     ·rename_i H
      cases r0 with
      |some jy=>
       obtain⟨j,y⟩:=jy;simp only[xA]at f;subst f;have A:=u.head;have w:=u.tail.head;have E:=u.tail.tail.head;simp only[ax.nat.injEq,ax.mp.injEq,ax.ds.injEq,List.cons.injEq,yp]at A w E;subst w;subst E;simp only[aX,g,cO,B,hm,Q,F,A,H,O,and_self,xz]
      |none=>
       simp only at f;split at f
       ·rename_i z hz
        simp only[xA]at f;subst f;have A:=u.head;have w:=u.tail.head;have E:=u.tail.tail.head;simp only[ax.nat.injEq,ax.mp.injEq,ax.ds.injEq,List.cons.injEq,yp]at A w E;subst w;subst E;simp only[aX,g,cO,B,hm,Q,F,A,H,O,and_self,xz,hz]
       ·cases f
     ·cases f
    ·cases f
   ·cases f
  ·exact p f
 ·rename_i t m Z x g
  split at f
  ·rename_i lx X O
   split at f
   ·rename_i kt et k v kd xd B hm Q C
    split at f
    ·rename_i es' c F
     split at f
     ·rename_i H
      simp only[xA]at f;subst f;have A:=u.head;have w:=u.tail.head;have E:=u.tail.tail.head;simp only[ax.nat.injEq,ax.mp.injEq,ax.ds.injEq,List.cons.injEq,yp]at A w E;subst w;subst E;simp only[aX,g,ba,B,hm,Q,C,F,A,H,O,and_self,xz]
     ·cases f
    ·cases f
   ·cases f
  ·rename_i lx X jx jy O
   split at f
   ·rename_i kt et k v kd xd B hm Q C
    split at f
    ·rename_i es' c F
     split at f
     ·rename_i H
      simp only[xA]at f;subst f;have A:=u.head;have w:=u.tail.head;have E:=u.tail.tail.head;simp only[ax.nat.injEq,ax.mp.injEq,ax.ds.injEq,List.cons.injEq,yp]at A w E;subst w;subst E;simp only[aX,g,ba,B,hm,Q,C,F,A,H,O,and_self,xz]
     ·cases f
    ·cases f
   ·cases f
  ·exact p f
 ·rename_i t m Z x g
  split at f
  ·rename_i lx X O
   split at f
   ·rename_i kt et k v kd xd B hm Q C
    split at f
    ·rename_i es' c F
     split at f
     ·rename_i H
      simp only[xA]at f;subst f;have A:=u.head;have w:=u.tail.head;have E:=u.tail.tail.head;simp only[ax.nat.injEq,ax.mp.injEq,ax.ds.injEq,List.cons.injEq,yp]at A w E;subst w;subst E;simp only[aX,g,ba,B,hm,Q,C,F,A,H,O,and_self,xz]
     ·cases f
    ·cases f
   ·cases f
  ·rename_i lx X jx jy O
   split at f
   ·rename_i kt et k v kd xd B hm Q C
    split at f
    ·rename_i es' c F
     split at f
     ·rename_i H
      simp only[xA]at f;subst f;have A:=u.head;have w:=u.tail.head;have E:=u.tail.tail.head;simp only[ax.nat.injEq,ax.mp.injEq,ax.ds.injEq,List.cons.injEq,yp]at A w E;subst w;subst E;simp only[aX,g,ba,B,hm,Q,C,F,A,H,O,and_self,xz]
     ·cases f
    ·cases f
   ·cases f
  ·exact p f
 ·rename_i t x ix g
  split at f
  ·rename_i s i0 b S U
   split at f
   ·rename_i s' kd i' B C J
    simp only[xA]at f;subst f;have A:=u.head;have w:=u.tail.head;simp only[ax.av.injEq,AV.d.injEq,D.str.injEq,D.int.injEq,true_and]at A w;subst A;subst w;simp only[aX,g,kZ,B,C,J,S,xz,U,xP]
   ·cases f
  ·exact p f
 ·rename_i t x lo hi mx g
  split at f
  ·rename_i s a b W
   split at f
   ·rename_i s' a' B C I
    split at f
    ·rename_i b' L
     simp only[xA]at f;subst f;have A:=u.head;have w:=u.tail.head;have E:=u.tail.tail.head;simp only[ax.av.injEq,AV.d.injEq,D.str.injEq,ax.nat.injEq]at A w E;subst A;subst w;subst E;simp only[aX,g,fp,B,C,I,L,Option.map_none];rw[xW W]
    ·cases f
   ·cases f
  ·rename_i l0 b U
   split at f
   ·rename_i e l' B C I
    split at f
    ·cases f
    ·rename_i N
     split at f
     ·rename_i b' L
      simp only[xA]at f;subst f;have A:=u.head;have w:=u.tail.head;simp only[ax.ds.injEq,ax.nat.injEq]at A w;subst A;subst w;simp only[aX,g,fp,B,C,I,L,Option.map_none];rw[xi N,xW ⟨yd _,U, .inl trivial⟩]
     ·cases f
   ·cases f
  ·rename_i l0 a b cs U
   split at f
   ·rename_i e l' a' B C I
    split at f
    ·cases f
    ·rename_i N
     split at f
     ·rename_i b' L
      simp only[xA]at f;subst f;have A:=u.head;have w:=u.tail.head;have E:=u.tail.tail.head;have g4:=u.tail.tail.tail.head;simp only[ax.ds.injEq,ax.nat.injEq]at A w E g4;subst A;subst w;subst E;subst g4;simp only[aX,g,fp,B,C,I,L,Option.map_none];rw[xi N,xW ⟨U.1,U.2.1, .inr U.2.2⟩]
     ·cases f
   ·cases f
  ·rename_i ln b U
   split at f
   ·rename_i e k v T len sz B C I
    split at f
    ·cases f
    ·rename_i N
     split at f
     ·rename_i b' L
      simp only[xA]at f;subst f;have A:=u.head;have w:=u.tail.head;simp only[ax.nat.injEq]at A w;subst A;subst w;simp only[aX,g,fp,B,C,I,L,Option.map_none];rw[xi N,xW ⟨trivial,U⟩]
     ·cases f
   ·cases f
  ·exact p f
 ·rename_i t x y yt g
  split at f
  ·rename_i a b W
   split at f
   ·rename_i a' b' C V
    simp only[xA]at f;subst f;have A:=u.head;have w:=u.tail.head;simp only[ax.av.injEq,AV.d.injEq,D.str.injEq]at A w;subst A;subst w;simp only[aX,g,C,V,rA];rw[xW W]
   ·cases f
  ·exact p f
 ·rename_i t l c g
  split at f
  ·rename_i n S R
   split at f
   ·rename_i e l' c' B hll hcc
    split at f
    ·rename_i z hz
     split at f
     ·rename_i M
      simp only[xA]at f;subst f;have A:=u.head;have w:=u.tail.head;simp only[ax.av.injEq,AV.d.injEq,D.int.injEq,true_and]at A w;subst A;subst w;simp only[aX,g,bI,B,hll,hcc,hz];rw[xW ⟨S,Int.le_refl _,R,M.1,M.2.1,M.2.2.1,M.2.2.2⟩]
     ·cases f
    ·cases f
   ·cases f
  ·exact p f
 ·exact p f
def tS(P:Program)(c:Option (bj P))(cfg:d0)(i:Nat)(o:Oper)(ρ:Operand→AV)(h:aa):Option (Out×ah):=
 match c with
 |some (.val a b _)=>(rH P none cfg i o ρ h).map fun r=>({r.1 with val:=b},(.av r.1.val, .av a)::r.2)
 |_=>rH P c cfg i o ρ h
theorem qU{P:Program}{d:Option (bj P)}{cfg:d0}{i:Nat}{o:Oper}{ρ:Operand→AV}{h:aa}{r:Out×ah}(c:tS P d cfg i o ρ h=some r)(f:Alike r.2):aX P cfg i o ρ h=some r.1:=by
 unfold tS at c;split at c
 ·rename_i a b e
  simp only[xB]at c;obtain⟨q,j,rfl⟩:=c;have g:=f.head;simp only[ax.av.injEq]at g;have:=ma j f.tail;rw[this];subst e;rw[←g]
 ·exact ma c f
end Go.Avm
namespace Go.Avm
open Go.RowKit
variable[ap]
theorem oe:∀(l:List (Nat×aI))(h:aa){k:Nat},k∉l.map (·.1)→af l h k=h k
 |[],_,_,_=>rfl
 |(b,e)::r,h,k,a=>by
  simp only[xI,xR,yS]at a;simp only[af];rw[ab _ _ a.1];exact oe r h a.2
theorem rI:∀(l:List (Nat×aI))(h h2:aa){k:Nat},k∈l.map (·.1)→af l h k=af l h2 k
 |[],_,_,_,a=>by simp at a
 |(c,e)::r,h,h2,k,a=>by
  simp only[af,aq];split
  ·rfl
  ·rename_i b
   exact rI r h h2 (by simpa [b]using a)
def zD(a h2:aa):Prop:=∀k,h2 k=a k∨((h2 k).ob=none∧(a k).ver≤(h2 k).ver)
theorem vO{G:Gh}{B:Nat}{w0 w:World}{I0:Nat→Nat→Prop}{g h2:aa}(a:HR G B w0 I0 g w)(l:zD g h2):∃m,Ext G w m w∧HR m B w0 I0 h2 w:=by
 have c:∀k,(g k).ver≤(h2 k).ver:=fun k=>by
  rcases l k with e|⟨_,e⟩
  ·rw[e];exact xO _
  ·exact e
 have h:∀k o,(h2 k).ob=some o→h2 k=g k:=fun k o d=>by
  rcases l k with e|⟨e,_⟩
  ·exact e
  ·rw[e]at d;cases d
 have b:∀k L,G.loc k (h2 k).ver=some L→G.loc k (g k).ver=some L:=fun k L f=>by
  have q:=a.fresh k _ L f;have r:=c k;have:(h2 k).ver=(g k).ver:=by omega
  rwa [this]at f
 have hex:Ext G w {G with lim:=fun k=>(h2 k).ver} w:=
  ⟨fun _ _ x=>x,fun _ _ _ x=>x,fun _ _ _=>rfl,xO _,fun k=>by rw[a.lim];exact c k,fun _ _ _ x=>x,fun _ _ _ x=>x,cl rfl⟩
 refine⟨_,hex,a.below,a.bsz,a.immlt,a.i0,a.immlow,fun k v L f=>y8 (a.fresh k v L f) (c k),fun k L f=>a.own k L (b k L f),fun k n L j f i=>a.dis k n L j (b k L f) (b n j i),fun k ob d=> ?_,fun _=>rfl,
  a.maps.step hex rfl (fun _ _ _ x=>x) c fun k o s d=>h k o d⟩
 have p:=h k ob d;rw[p]at d ⊢;exact(a.objs k ob d).mono (a.le k) hex (fun _ _ _=>rfl)
def zE(P:Program)(o:Oper)(S:St)(x:AV)(h':aa)(W:List Nat):Prop:=
 (∃u t y,o.op= .panic u∧opd S.env u=x∧x= .iv t y∧zD S.heap h')∨
 (∃g b c a,bV o S.env=some (g,b)∧(∀h:aa,gS h c→eY P g b h x (af a h))∧gS S.heap c∧(∀k∈W,k∉c.map (·.1)∧k∉a.map (·.1))∧zD (af a S.heap) h')
def jk(P:Program)(a:Array Oper)(p:Nat)(env0:Nat→AV)(x:AV)(h':aa)(W:List Nat)(S:St):Prop:=
 (∃o,a[p]? =some o∧bK a o S.env=some true∧zE P o S x h' W)∧∀t,(iA a).contains t=false→S.env t=env0 t
def RW(W:List Nat)(S S1:St):Prop:=∀k,S1.heap k=S.heap k∨(k∈W∧(S.heap k).ver≤(S1.heap k).ver)
theorem px{W:List Nat}{c b h':aa}(g:∀k∈W,(h' k).ob=none)(h:∀k,b k=c k∨(k∈W∧(c k).ver≤(b k).ver))(d:zD b h'):zD c h':=fun k=>by
 rcases h k with e|⟨f,a⟩
 ·rw[←e];exact d k
 ·refine .inr ⟨g k f, ?_⟩
  rcases d k with e|⟨_,e⟩
  ·rw[e];exact a
  ·exact y8 a e
section
variable{P:Program}{cfg:d0}{N:Nat}{c:Array Oper}{G:Gh}{B:Nat}{w0 w:World}{I0:Nat→Nat→Prop}{W:List Nat}
theorem zF{o:Oper}{S:St}{x:AV}{h':aa}(h:zE P o S x h' W):∃f,sF P o S x f∧zD f h':=by
 rcases h with ⟨u,t,y,b,d,e,k⟩|⟨g,a,l,i,b,d,e,_,j⟩
 ·exact⟨_, .inl ⟨u,t,y,b,d,e,rfl⟩,k⟩
 ·exact⟨_, .inr ⟨g,a,b,d _ e⟩,j⟩
theorem tT{D:List Deferred}{p:Nat}{env0:Nat→AV}{x:AV}{h':aa}{S:St}(r:Option Nat)(n:Nat){a:Act}{K:Act→World→Prop}{Q:Exit→Act→World→Prop}(m:HR G B w0 I0 S.heap w)(u:FR G w N D S.env a)
    (h:jk P c p env0 x h' W S) (j:∀v b d,Ext G w d b→HR d B w0 I0 h' b→FR d b N D (gl c env0) a→Rep d b x v→Q (.panic [{v,recovered:=false}]) a b):wpOpIn (FF r) n P c Q p K a w:=by
 obtain⟨⟨o,q,s,hp⟩,l⟩:=h;obtain⟨k,f,t⟩:=zF hp;refine nY r n m u (env0:=env0) (x:=x) (h':=k) ⟨⟨o,q,s,f⟩,l⟩ (fun v b d y A C i=> ?_);obtain⟨z,e,g⟩:=vO A t;exact j v b z (y.trans e) g (C.mono e) (i.mono e)
theorem qW{p k:Nat}{ok op:Oper}{env0:Nat→AV}{x:AV}{h':aa}{S S1:St}{ob:List Obl}{f:Foot}(I:∀k∈W,(h' k).ob=none)(U:c[k]? =some ok)(m:c[p]? =some op)(R:aV P cfg N c k ok S=some (S1,ob,f))(C:ok.apart c op=true)
    (i:RW W S S1) (h:jk P c p env0 x h' W S1):jk P c p env0 x h' W S:=by
 obtain⟨⟨o,J,V,hp⟩,O⟩:=h;rw[m]at J;cases J;obtain⟨T,_,_⟩:=Oper.apart_spec C;obtain⟨v,L,j,X,Q,_,_⟩:=cp R;have b:∀t∈op.looksAt c,S.env t=S1.env t:=fun t s=>(eQ j (fun e=>T t e s)).symm
 refine⟨⟨op,m,by rw[bu (o:=op) (env:=S1.env) (env':=S.env) b];exact V, ?_⟩,fun t s=>by rw[←O t s,eQ j (jc U s)]⟩;rcases hp with ⟨u,t,y,r,z,A,n⟩|⟨g,l,D,a,r,z,A,n,M⟩
 ·refine .inl ⟨u,t,y,r, ?_,A,px I i n⟩
  rw[fg b u (by rw[r];simp[Op.operands])];exact z
 ·refine .inr ⟨g,l,D,a, ?_,z,fun q H=> ?_,n,px I (fun K=> ?_) M⟩
  ·rw[cz b]
   exact r
  ·have F:q.1∉W:=fun E=>(n q.1 E).1 (y7 H)
   have:=(i q.1).resolve_right fun E=>F E.1
   rw[←this];exact A q H
  ·by_cases d:K∈a.map (·.1)
   ·exact .inl (rI a S1.heap S.heap d)
   ·rw[oe a S1.heap d,oe a S.heap d]
    exact i K
def gP(o:Oper)(k:Nat):Bool:=o.after.any (fun e=>Region.binds .any e&&e.on==k)
theorem fD{o:Oper}{k:Nat}(h:gP o k=true):¬∀e∈o.after,Region.binds .any e=true→e.on≠k:=fun a=>by
 obtain⟨e,d,b⟩:=Array.any_eq_true'.1 h;simp only[xU,yL]at b;exact absurd b.2 (a e d b.1)
def tU(P:Program)(cfg:d0)(N:Nat)(c:Array Oper)(F:Nat→Foot)(p:Nat)(O:List Nat)(L:St→Prop):Nat→Array Bool→St→Prop
 |0,_,_=>False
 |b+1,a,S=>Region.ready .any c a≠[]∧
  ∀i∈Region.ready .any c a,(i=p∧L S)∨(i∈O∧∃o S1 ob,c[i]? =some o∧aV P cfg N c i o S=some (S1,ob,F i)∧dg P ob∧tU P cfg N c F p O L b (a.setIfInBounds i true) S1)
theorem jl{i:Nat}{o:Oper}{S S1:St}{ob:List Obl}{f:Foot}(h:aV P cfg N c i o S=some (S1,ob,f))(a:f.all=false){k:Nat}(e:k∉f.wr):S1.heap k=S.heap k:=by
 obtain⟨v,j,_,l,d,_,_⟩:=cp h;obtain⟨g,rfl,b⟩:=d a;rw[l];exact a8 g _ (by rw[←b];exact e)
theorem vP{i j:Nat}{u p:Oper}{S S1 m a:St}{f b:List Obl}{o d:Foot}(r:o.apart d=true)(q:o.all=false)(e:d.all=false)(t:aV P cfg N c j p S1=some (m,b,d))
    (n:aV P cfg N c j p S=some (a,b,d)) (g:aV P cfg N c i u a=some (m,f,o)) (h:RW W S S1):RW W a m:=fun k=>by
 by_cases l:k∈d.wr
 ·left
  refine jl g q fun s=> ?_
  simp[Foot.apart,q,e]at r;exact(r.1 k s).2 l
 ·rw[jl t e l,jl n e l]
  exact h k
theorem qY{F:Nat→Foot}{p k:Nat}{O:List Nat}{ok op:Oper}{env0:Nat→AV}{x:AV}{h':aa}(hW:∀k∈W,(h' k).ob=none)(hk:c[k]? =some ok)(hp:c[p]? =some op)(Q:k∈O){ob:List Obl}(L:dg P ob):
    ∀(b:Nat)(a:Array Bool)(S S1:St),
     (∀j q,j∈O→c[j]? =some q→j≠k→a.getD j true=false→(∀e∈q.after,Region.binds .any e=true→e.on≠k)→ok.apart c q=true∧(F k).apart (F j)=true∧(F j).all=false)→
     ((∀e∈op.after,Region.binds .any e=true→e.on≠k)→ok.apart c op=true∧(F k).all=false∧RW W S S1)→
     k∈Region.ready .any c a→aV P cfg N c k ok S=some (S1,ob,F k)→
     tU P cfg N c F p O (jk P c p env0 x h' W) b (a.setIfInBounds k true) S1→tU P cfg N c F p O (jk P c p env0 x h' W) (b+1) a S:=by
 intro b;induction b with
 |zero=>intro a S S1 _ _ _ _ H;exact H.elim
 |succ b ih=>
  intro a S S1 f D I K H;refine⟨fun h=>(by rw[h]at I;cases I),fun j hj=> ?_⟩;by_cases d:j=k
  ·subst d;exact .inr ⟨Q,ok,S1,ob,hk,K,L,H⟩
  ·obtain⟨l,q,g,v⟩:=mem_ready.1 hj
   have o:∀e∈q.after,Region.binds .any e=true→e.on≠k:=fun e he hb s=>by
    have E:=v e he hb;have h0:=(mem_ready.1 I).1;rw[s]at E;rcases y9 k a.size with h'|h'
    ·simp[h']at h0 E;rw[h0]at E;cases E
    ·simp[Array.getElem?_eq_none h']at E
   rcases H.2 j (ready_mono hj d)with ⟨rfl,hl⟩|⟨C,t,S2,U,n,m,y,H2⟩
   ·left
    have e:q=op:=by rw[hp]at g;exact(Option.some.inj g).symm
    subst e;obtain⟨J,M,V⟩:=D o;exact⟨rfl,qW hW hk hp K J V hl⟩
   ·right
    have s:t=q:=by rw[g]at n;exact(Option.some.inj n).symm
    subst s;obtain⟨a1,Z,a3⟩:=f j t C g d l o;obtain⟨u,X,Y⟩:=iz a1 Z K m;refine⟨C,t,u,U,g,X,y,ih (a.setIfInBounds j true) u S2 (fun i oi R hi T A r=> ?_) (fun r=> ?_) (ready_mono I (Ne.symm d)) Y ?_⟩
    ·refine f i oi R hi T ?_ r
     by_cases z:j=i
     ·subst z;exact l
     ·rw[getD_set_ne true z]at A;exact A
    ·obtain⟨J,M,V⟩:=D r
     exact⟨J,M,vP Z M a3 m X Y V⟩
    ·rw[Array.setIfInBounds_comm _ _ d]
     exact H2
def tV(c:Array Oper)(F:Nat→Foot)(p:Nat)(O W:List Nat)(b:Array Bool)(k:Nat):Bool:=
 match c[k]?,c[p]? with
 |some ok,some op=>(O.all fun j=>Nat.beq j k||b.getD j true||match c[j]? with
     |some d=>gP d k||(ok.apart c d&&(F k).apart (F j)&& !(F j).all)
     |none=>true)&&(gP op k||(ok.apart c op&& !(F k).all&&(F k).wr.all fun a=>W.any (Nat.beq a)))
 |_,_=>false
theorem qZ{F:Nat→Foot}{p k:Nat}{O:List Nat}{ok op:Oper}{d:Array Bool}(q:c[k]? =some ok)(hp:c[p]? =some op)(h:tV c F p O W d k=true):
    (∀j l,j∈O→c[j]? =some l→j≠k→d.getD j true=false→(∀e∈l.after,Region.binds .any e=true→e.on≠k)→ok.apart c l=true∧(F k).apart (F j)=true∧(F j).all=false)∧
    ((∀e∈op.after,Region.binds .any e=true→e.on≠k)→ok.apart c op=true∧(F k).all=false∧∀a∈(F k).wr,a∈W):=by
 simp only[tV,q,hp,xU]at h;obtain⟨f,h2⟩:=h;refine⟨fun j l n r m o g=> ?_,fun g=> ?_⟩
 ·have f:=xY.1 f j n
  rw[r,o]at f
  have i:Nat.beq j k=false:=by
   cases i:Nat.beq j k with
   |false=>rfl
   |true=>exact absurd (xn i) m
  rw[i]at f;simp only[Bool.false_or,yC]at f;rcases f with f|f
  ·exact absurd g (fD f)
  ·simp only[xU,xu]at f
   exact⟨f.1.1,f.1.2,f.2⟩
 ·rw[yC]at h2
  rcases h2 with h2|h2
  ·exact absurd g (fD h2)
  ·simp only[xU,xu]at h2
   refine⟨h2.1.1,h2.1.2,fun a s=> ?_⟩;have:=xY.1 h2.2 a s;obtain⟨b,i,t⟩:=yT.1 this;rw[xn t];exact i
def nj(c:Array Oper)(F:Nat→Foot)(p:Nat)(O W:List Nat):List Nat→Array Bool→Bool
 |[],a=>match Region.ready .any c a with
  |[i]=>Nat.beq i p
  |_=>false
 |k::r,a=>(Region.ready .any c a).contains k&&tV c F p O W a k&&nj c F p O W r (a.setIfInBounds k true)
def fE(P:Program)(cfg:d0)(N:Nat)(c:Array Oper)(F:Nat→Foot)(op:Oper):List Nat→St→St→Prop
 |[],S,b=>S=b
 |k::r,S,b=>∃o S1 ob,c[k]? =some o∧aV P cfg N c k o S=some (S1,ob,F k)∧dg P ob∧(gP op k=true∨∀a∈(F k).wr,(S.heap a).ver≤(S1.heap a).ver)∧fE P cfg N c F op r S1 b
theorem py{F:Nat→Foot}{p:Nat}{op:Oper}{O:List Nat}{env0:Nat→AV}{x:AV}{h':aa}(y:∀k∈W,(h' k).ob=none)(hp:c[p]? =some op):∀(l:List Nat)(b:Array Bool)(S m:St),(∀k∈l,k∈O)→fE P cfg N c F op l S m→
    nj c F p O W l b=true→jk P c p env0 x h' W m→tU P cfg N c F p O (jk P c p env0 x h' W) (l.length+1) b S
 |[],b,S,m,_,e,d,t=>by
  simp only[fE]at e;subst e;simp only[nj]at d;split at d
  ·rename_i i f
   have:=xn d;subst this
   exact⟨by rw[f];simp,fun j g=>by
    rw[f]at g;simp only[xH]at g;exact .inl ⟨g,t⟩⟩
  ·cases d
 |k::r,b,S,m,A,e,d,t=>by
  obtain⟨o,S1,ob,z,h,s,q,e⟩:=e;simp only[nj,xU]at d;obtain⟨⟨J,h2⟩,D⟩:=d;obtain⟨E,H⟩:=qZ z hp h2;refine qY y z hp (A k (by simp)) s (r.length+1) b S S1 E (fun n=> ?_) (by simpa using J) h (py y hp r _ S1 m (fun j g=>A j (by simp[g])) e D t);obtain⟨C,v,I⟩:=H n;refine⟨C,v,fun a=> ?_⟩;by_cases u:a∈(F k).wr
  ·exact .inr ⟨I a u,(q.resolve_left fun K=>fD K n) a u⟩
  ·exact .inl (jl h v u)
theorem hO{D:List Deferred}(C:eu P)(r:Option Nat)(n:Nat){F:Nat→Foot}{p:Nat}{O:List Nat}{env0:Nat→AV}{x:AV}{h':aa}{Q:Exit→Act→World→Prop}:∀(e:Nat)(b:Array Bool)(G:Gh)(w:World)(S:St)(a:Act),HR G B w0 I0 S.heap w→FR G w N D S.env a→
    tU P cfg N c F p O (jk P c p env0 x h' W) e b S→
    (∀v l f g,Ext G w g f→HR g B w0 I0 h' f→FR g f N D (gl c env0) l→Rep g f x v→Q (.panic [{v,recovered:=false}]) l f)→∀d,e≤d→wpAnyIn (FF r) n P .any c Q d b a w
 |0,b,G,w,S,a,q,k,h,m,d,_=>h.elim
 |e+1,b,G,w,S,a,q,k,h,m,0,j=>absurd j (by omega)
 |e+1,b,G,w,S,a,q,k,h,m,d+1,j=>by
  refine⟨fun E=>absurd E h.1,fun i H=> ?_⟩;rcases h.2 i H with ⟨rfl,R⟩|⟨_,o,S1,ob,T,y,t,h2⟩
  ·exact tT r n q k R (fun v f g z s A u=>m v a f g z s A u)
  ·unfold wpOpIn
   simp only[T];exact c8 C q k y t r n (fun l f g M J L=>hO C r n e _ g f S1 l J L h2 (fun v I K U z s A u=>m v I K U (M.trans z) s A u) d (by omega))
end
theorem mb{X:bD}{S d:St}{Q:au→St→Prop}{id p:Nat}{b:Array Oper}{cfg:d0}{F:Nat→Foot}{op:Oper}{O W:List Nat}{x:AV}{h':aa}(hp:b[p]? =some op)(m:∀k∈W,(h' k).ob=none)(o:fE X.P cfg X.N b F op O S d)
    (l:nj b F p O W O (Array.replicate b.size false)=true) (e:O.length<b.size) (s:jk X.P b p S.env x h' W d) (h:Q (.panic x) ⟨gl b S.env,h'⟩):AW X (.region id b true) S Q:=fun G a w i=>by
 obtain⟨r,f⟩:=i.2;refine wpIn_region_any X.mixed.mixed ?_;have c:=py m hp O (Array.replicate b.size false) S d (fun _ h=>h) o l s;exact hO X.mixed.ext X.rnd 0 (O.length+1) _ G w.drew S a i.1.drew (f.1.mono (Ext.drew G w)) c (fun v u t q g n h2 j=>⟨.panic x,_,q,⟨v,rfl,j⟩,h,(Ext.drew G w).trans g,n,r,h2,f.2.mono ((Ext.drew G w).trans g)⟩) b.size (by omega)
end Go.Avm
namespace Go.Avm
open Go.RowKit
variable[ap]
theorem bc:∀(l:List (Nat×aI))(h:aa){k:Nat},k∉l.map (·.1)→af l h k=h k
 |[],_,_,_=>rfl
 |(b,e)::r,h,k,a=>by
  simp only[xI,xR,yS]at a;simp only[af,ab _ _ a.1];exact bc r h a.2
theorem dF:∀(l:List (Nat×aI))(h h2:aa){k:Nat},k∈l.map (·.1)→af l h k=af l h2 k
 |[],_,_,_,a=>by simp at a
 |(c,e)::r,h,h2,k,a=>by
  simp only[af,aq];split
  ·rfl
  ·rename_i b
   simp only[xI,xR]at a;exact dF r h h2 (a.resolve_left b)
def eD(env:Nat→AV)(l:List (Nat×AV)):ah:=l.map fun p=>(.av (env p.1), .av p.2)
theorem hP{env:Nat→AV}{l:List (Nat×AV)}(h:Alike (eD env l)):∀p∈l,p.2=env p.1:=fun p hp=>by
 have:=h (.av (env p.1), .av p.2) (xf.2 ⟨p,hp,rfl⟩);simp only[ax.av.injEq]at this;exact this.symm
def aE(h:aa):List (Nat×aI)→Option ah
 |[]=>some []
 |(k,⟨v,none⟩)::r=>match aE h r with
  |some q=>some ((.nat (h k).ver, .nat v)::q)
  |none=>none
 |(k,⟨v,some (.arr sz es)⟩)::r=>match (h k).ob,aE h r with
  |some (.arr d es'),some q=>some ((.nat (h k).ver, .nat v)::(.nat d, .nat sz)::(.av (.tup es'), .av (.tup es))::q)
  |_,_=>none
 |(k,⟨v,some (.map es c)⟩)::r=>match (h k).ob,aE h r with
  |some (.map es' c'),some q=>some ((.nat (h k).ver, .nat v)::(.nat c', .nat c)::(.mp es', .mp es)::q)
  |_,_=>none
 |(k,⟨v,some (.lp b N env l Fx i g)⟩)::r=>match (h k).ob,aE h r with
  |some o,some q=>some ((.nat (h k).ver, .nat v)::(.ob o, .ob (.lp b N env l Fx i g))::q)
  |_,_=>none
 |(k,⟨v,some (.itr m f a seen)⟩)::r=>match (h k).ob,aE h r with
  |some o,some q=>some ((.nat (h k).ver, .nat v)::(.ob o, .ob (.itr m f a seen))::q)
  |_,_=>none
 |(k,⟨v,some (.typ j e T n)⟩)::r=>match (h k).ob,aE h r with
  |some o,some q=>some ((.nat (h k).ver, .nat v)::(.ob o, .ob (.typ j e T n))::q)
  |_,_=>none
theorem aB{h:aa}:∀{l:List (Nat×aI)}{q:ah},aE h l=some q→Alike q→∀p∈l,p.2.ver=(h p.1).ver∧(p.2.ob=none∨p.2.ob=(h p.1).ob)
 |[],_,_,_,p,hp=>by simp at hp
 |(k,⟨v,none⟩)::r,q,a,b,p,hp=>by
  simp only[aE]at a;split at a
  ·rename_i i d
   simp only[xA]at a;subst a;rcases xR.1 hp with rfl|hp
   ·have:=b.head
    simp only[ax.nat.injEq]at this;exact⟨this.symm, .inl rfl⟩
   ·exact aB d b.tail p hp
  ·cases a
 |(k,⟨v,some (.arr sz es)⟩)::r,q,a,b,p,hp=>by
  simp only[aE]at a;split at a
  ·rename_i s es' i e d
   simp only[xA]at a;subst a;rcases xR.1 hp with rfl|hp
   ·have f:=b.head
    have h2:=b.tail.head;have g:=b.tail.tail.head;simp only[ax.nat.injEq,ax.av.injEq,AV.tup.injEq]at f h2 g;subst h2;subst g;exact⟨f.symm, .inr e.symm⟩
   ·exact aB d b.tail.tail.tail p hp
  ·cases a
 |(k,⟨v,some (.map es c)⟩)::r,q,a,b,p,hp=>by
  simp only[aE]at a;split at a
  ·rename_i es' c' i e d
   simp only[xA]at a;subst a;rcases xR.1 hp with rfl|hp
   ·have f:=b.head
    have h2:=b.tail.head;have g:=b.tail.tail.head;simp only[ax.nat.injEq,ax.mp.injEq]at f h2 g;subst h2;subst g;exact⟨f.symm, .inr e.symm⟩
   ·exact aB d b.tail.tail.tail p hp
  ·cases a
 |(k,⟨v,some (.lp m N env A Fx x u)⟩)::r,q,a,b,p,hp=>by
  simp only[aE]at a;split at a
  ·rename_i o i e d
   simp only[xA]at a;subst a;rcases xR.1 hp with rfl|hp
   ·have f:=b.head
    have h2:=b.tail.head;simp only[ax.nat.injEq,ax.ob.injEq]at f h2;subst h2;exact⟨f.symm, .inr e.symm⟩
   ·exact aB d b.tail.tail p hp
  ·cases a
 |(k,⟨v,some (.itr y z j seen)⟩)::r,q,a,b,p,hp=>by
  simp only[aE]at a;split at a
  ·rename_i o i e d
   simp only[xA]at a;subst a;rcases xR.1 hp with rfl|hp
   ·have f:=b.head
    have h2:=b.tail.head;simp only[ax.nat.injEq,ax.ob.injEq]at f h2;subst h2;exact⟨f.symm, .inr e.symm⟩
   ·exact aB d b.tail.tail p hp
  ·cases a
 |(k,⟨v,some (.typ w t T n)⟩)::r,q,a,b,p,hp=>by
  simp only[aE]at a;split at a
  ·rename_i o i e d
   simp only[xA]at a;subst a;rcases xR.1 hp with rfl|hp
   ·have f:=b.head
    have h2:=b.tail.head;simp only[ax.nat.injEq,ax.ob.injEq]at f h2;subst h2;exact⟨f.symm, .inr e.symm⟩
   ·exact aB d b.tail.tail p hp
  ·cases a
theorem fj{X:bD}{env:Nat→AV}{h h':aa}(c:∀k,(h' k).ver=(h k).ver∧((h' k).ob=none∨(h' k).ob=(h k).ob)):Weak X ⟨env,h⟩ ⟨env,h'⟩:=fun G a w b=>⟨G,Ext.refl G w,b.1.forget c,b.2⟩
theorem jm{X:bD}{S:St}{l:List (Nat×AV)}{hp:List (Nat×aI)}{q:ah}(b:Alike (eD S.env l))(h2:aE S.heap hp=some q)(a:Alike q):Weak X S ⟨ag l,af hp S.heap⟩:=
 (iB (heap:=S.heap) (hP b)).trans (fj (eP S.heap hp (aB h2 a)))
theorem jn{X:bD}{c:Code}{S:St}{Q:au→St→Prop}(h:AW X c S fun e S'=>∃b,Weak X S' b∧Q e b):AW X c S Q:=fun G a w p=>
 wpIn_mono (h G a w p) fun e n f ⟨l,S',k,x,⟨b,j,g⟩,m,r⟩=>by
  obtain⟨o,d,i⟩:=j k n f r;exact⟨l,b,o,x.mono d,g,m.trans d,i⟩
structure jo(P:Program) where
 N:Nat
 x:Code
 l:List (Nat×AV)
 hp:aa→List (Nat×aI)
 e:au
 l':List (Nat×AV)
 hp':aa→List (Nat×aI)
 proof:∀(rest:aa)(X:bD),X.P=P→X.N=N→AW X (.loop x) ⟨ag l,af (hp rest) rest⟩ fun e' S'=>e'=e∧S'=⟨ag l',af (hp' rest) rest⟩
structure BE(P:Program) where
 N:Nat
 x:Code
 l:List (Nat×AV)
 hp:aa→List (Nat×aI)
 e:au
 l':List (Nat×AV)
 hp':aa→List (Nat×aI)
 proof:∀(rest:aa)(X:bD),X.P=P→X.N=N→AW X x ⟨ag l,af (hp rest) rest⟩ fun e' S'=>e'=e∧S'=⟨ag l',af (hp' rest) rest⟩
structure mc where
 t:Nat
 k:Nat
 n:Nat
 es:List AV
 ds:List D
 hn:es.length=n
 hv:∀h:aa,cN (view 3 h) es=some (ds,[])
structure hQ(P:Program) where
 g:Nat
 args:List AV
 pre:List (Nat×aI)
 rs:List AV
 post:List (Nat×aI)
 proof:∀h:aa,gS h pre→az P g args h rs (af post h)
theorem rJ{P:Program}{g:Nat}{c e:List AV}{d b:List (Nat×aI)}(h:∀a:aa,az P g c (af d a) e (af b a)):∀h:aa,gS h d→az P g c h e (af b h):=
 fun h' f=>nS (h h') (eP h' d f)
theorem md{h:aa}:∀{l:List (Nat×aI)},gS h l→(l.all fun p=>p.2.ob.isSome)=true→af l h=h
 |[],_,_=>rfl
 |(k,e)::r,f,a=>by
  simp only[List.all_cons,xU]at a;have d:=f (k,e) (by simp);have h2:=md (l:=r) (fun p hp=>f p (by simp[hp])) a.2;simp only[af,h2]
  have n:e=h k:=by
   obtain⟨c,ob⟩:=e
   have g:ob=(h k).ob:=d.2.resolve_left (fun i=>by
    have b:ob=none:=i;rw[b]at a;simp at a)
   have j:c=(h k).ver:=d.1;rw[g,j]
  funext t;simp only[aq];split
  ·rename_i m;rw[m,n]
  ·rfl
theorem vQ{P:Program}{g:Nat}{c d:List AV}{a:List (Nat×aI)}(f:(a.all fun p=>p.2.ob.isSome)=true)(h:∀b:aa,az P g c (af a b) d (af a b)):∀h:aa,gS h a→az P g c h d (af [] h):=fun h' e=>by
 have:=h h';rw[md e f]at this;exact this
structure pz where
 C:Nat
 a:Nat
 k:Nat
 n:Nat
 es:List AV
 ds:List D
 hn:es.length=n
 hv:∀h:aa,cN (view 3 h) es=some (ds,[])
structure BF(P:Program) where
 g:Nat
 args:List AV
 pre:List (Nat×aI)
 rs:List AV
 post:List (Nat×aI)
 rst:aa→aa
 bigs:List Nat
 hrst:∀h k,k∉bigs→rst h k=h k
 proof:∀h:aa,gS h pre→az P g args h rs (af post (rst h))
structure gx where
 k:Nat
 i:Nat
 K:Nat
 sz:Nat
 slot:Bool:=false
 obj:Bool:=false
structure nk(P:Program) where
 g:Nat
 args:List AV
 pre:List (Nat×aI)
 x:AV
 post:List (Nat×aI)
 proof:∀h:aa,gS h pre→eY P g args h x (af post h)
structure PHint(P:Program) where
 p:Nat
 call:Option (nk P)
 ex:List Nat:=[]
def PHint.exs{P:Program}(H:PHint P):List Nat:=H.ex.filter fun k=> !Nat.beq k H.p
structure Par(P:Program) where
 obm:Nat→Nat→Bool:=fun _ _=>false
 hp:Nat→Bool:=fun _=>false
 hint:Nat→Nat→Option (bj P):=fun _ _=>none
 hintB:Nat→Nat→Nat→Option (bj P):=fun _ _ _=>none
 loops:Nat→Nat→Option (jo P):=fun _ _=>none
 weaks:Nat→Nat→Option mc:=fun _ _=>none
 nils:Nat→Nat→Option gx:=fun _ _=>none
 calls:Nat→Nat→Nat→Option (hQ P):=fun _ _ _=>none
 nils2:Nat→Nat→List gx:=fun _ _=>[]
 xcalls:Nat→Nat→Option (BF P):=fun _ _=>none
 keeps:Nat→Nat→Option (List (Nat×AV)):=fun _ _=>none
 frz:Nat→Nat→Option pz:=fun _ _=>none
 seqs:Nat→Nat→Option (BE P):=fun _ _=>none
 pans:Nat→Nat→Nat→Option (PHint P):=fun _ _ _=>none
def Par.at{P:Program}(d:Par P)(b c a:Nat):Option (bj P):=match d.hintB b c a with
 |some h=>some h
 |none=>d.hint b c
def dm:Code→Nat
 | .region id _ _=>id
 | .seq x _=>dm x
 | .block _ x=>dm x
 | .loop x=>dm x
 | .cond _ x _=>dm x
 |_=>0
def q7(H:Option mc)(S:St):Option (St×List Nat×ah):=
 match H with
 |none=>some (S,[],[])
 |some H=>match S.env H.t with
  | .sl k v a b _=>if k=H.k∧a=0 then match (S.heap k).ob with
      |some (.arr _ es)=>some (⟨aq S.env H.t (.d (.ro H.ds)),aq S.heap k ⟨(S.heap k).ver+1,none⟩⟩,[k],[(.nat (S.heap k).ver, .nat v),(.nat b, .nat H.n),(.av (.tup es), .av (.tup H.es))])
      |_=>none
   else none
  |_=>none
theorem rK(n:Nat)(h:aa)(k v a b sz:Nat):view (n+1) h (.sl k v a b sz)=match (h k).ob with
    |some (.arr _ es)=>if (h k).ver=v∧a+b≤es.length then (cN (view n h) ((es.drop a).take b)).map fun r=>(.ro r.1,k::r.2)else none
    |_=>none:=rfl
theorem pA{X:bD}{H:Option mc}{S S':St}{tk:List Nat}{u:ah}(h:q7 H S=some (S',tk,u))(p:Alike u):Weak X S S'∧∀k,k∉tk→S'.heap k=S.heap k:=by
 unfold q7 at h;split at h
 ·simp only[xA,xC]at h
  obtain⟨rfl,rfl,rfl⟩:=h;exact⟨Weak.refl S,fun _ _=>rfl⟩
 ·rename_i H
  split at h
  ·rename_i k v D z sz f
   split at h
   ·rename_i C
    obtain⟨rfl,rfl⟩:=C;split at h
    ·rename_i y es n
     simp only[xA,xC]at h;obtain⟨rfl,rfl,rfl⟩:=h;have x:=p.head;have h2:=p.tail.head;have r:=p.tail.tail.head;simp only[ax.nat.injEq,ax.av.injEq,AV.tup.injEq]at x h2 r;subst r
     have i:view 4 S.heap (S.env H.t)=some (.ro H.ds,[H.k]):=by
      rw[f];rw[rK,n];simp only;rw[xW ⟨x,by rw[h2,←H.hn];omega⟩];rw[yX,yR (by rw[h2,←H.hn];exact xO _),H.hv];rfl
     refine⟨fun G a w B=> ?_,fun F l=>by simp at l;exact ab _ _ l⟩;obtain⟨j,A,c,q⟩:=B;have g:ae S.heap (kill S.heap [H.k])=aq S.heap H.k ⟨(S.heap H.k).ver+1,none⟩:=rfl;have s:=j.kill [H.k];rw[g]at s;have hex:=Ext.froz j [H.k];refine⟨_,hex,s,A,⟨c.size,c.nod,fun t m=> ?_,fun t m=> ?_⟩,q.mono hex⟩
     ·by_cases e:t=H.t
      ·subst e
       show Rep _ _ (aq S.env H.t _ H.t) _;rw[ad];have:=b8 j 4 _ _ _ _ i (c.rep H.t m);exact .d (this.mono (fun b o E=>E) (fun _ _ _=>rfl))
      ·show Rep _ _ (aq S.env H.t _ t) _
       rw[ab _ _ e];exact(c.rep t m).mono hex
     ·by_cases e:t=H.t
      ·subst e
       have:=c.out H.t m;rw[f]at this;cases this
      ·show aq S.env H.t _ t=_
       rw[ab _ _ e];exact c.out t m
    ·cases h
   ·cases h
  ·cases h
theorem HR.reob{G:Gh}{B:Nat}{w0 w:World}{I0:Nat→Nat→Prop}{h:aa}(e:HR G B w0 I0 h w){k:Nat}{ob:Ob}(o:ObRep G w k (h k).ver ob)(hm:ob.flex=true):HR G B w0 I0 (aq h k ⟨(h k).ver,some ob⟩) w:=by
 have i:∀a,(aq h k ⟨(h k).ver,some ob⟩ a).ver=(h a).ver:=fun a=>by
  simp only[aq];split
  ·rename_i d;rw[d]
  ·rfl
 refine⟨e.below,e.bsz,e.immlt,e.i0,e.immlow,fun k v L f=>by rw[i];exact e.fresh k v L f,fun k L f=>by rw[i]at f;exact e.own k L f,
  fun k a L A f m=>by rw[i]at f m;exact e.dis k a L A f m,fun a ob' n=> ?_,fun k=>by rw[i];exact e.lim k,⟨fun k v b x=>by rw[i];exact e.maps.low k v b x,fun y z b F H r s=>by
   have q:∀j,fa (aq h k ⟨(h k).ver,some ob⟩ j).ob=true→fa (h j).ob=true:=fun j l=>by
    by_cases d:j=k
    ·subst d;rw[ad]at l;simp[fa,hm]at l
    ·rw[ab _ _ d]at l;exact l
   rw[i]at r s;exact e.maps.inj y z b (q _ F) (q _ H) r s,fun a es c x=> ?_,fun a p N env D Fx C t x=> ?_,fun a E u g seen x=> ?_,e.maps.glob⟩⟩
 ·by_cases d:a=k
  ·subst d
   rw[ad]at n ⊢;cases n;exact o
  ·rw[ab _ _ d]at n ⊢
   exact e.objs a ob' n
 ·by_cases d:a=k
  ·subst d
   rw[ad]at x;cases x;cases hm
  ·rw[ab _ _ d]at x ⊢
   exact e.maps.obj a es c x
 ·by_cases d:a=k
  ·subst d
   rw[ad]at x;cases x;cases hm
  ·rw[ab _ _ d]at x ⊢
   exact e.maps.loops a p N env D Fx C t x
 ·by_cases d:a=k
  ·subst d
   rw[ad]at x;cases x;cases hm
  ·rw[ab _ _ d]at x ⊢
   exact e.maps.iters a E u g seen x
section
variable{G:Gh}{B:Nat}{w0 w:World}{I0:Nat→Nat→Prop}{h:aa}
theorem HR.recell(n:HR G B w0 I0 h w){C a:Nat}{ces:List AV}{x y:AV}(r:(h C).ob=some (.arr 1 ces))(o:ces[a]? =some x)(q:y.lone=true)(k:∀u,Rep G w x u→Rep G w y u):
    HR G B w0 I0 (aq h C ⟨(h C).ver,some (.arr 1 (ces.set a y))⟩) w:=by
 refine n.reob ?_ rfl;have d:=(xD.1 o).1;rcases n.objs C _ r with ⟨rfl,_⟩|⟨L,v,z,s,D,E,l,p⟩
 ·simp at d
 have b:∀e∈ces.set a y,e.lone=true:=fun e f=>by
  rcases xj f with f|rfl
  ·exact l rfl e f
  ·exact q
 refine .inr ⟨L,v,z,s,by simpa using D,fun e f=>by rw[AV.cells_lone (b e f)];rfl,fun _=>b,fun t c i=> ?_⟩;rw[be b,List.getElem?_set]at i;by_cases g:a=t
 ·subst g
  simp only[xz,d]at i;cases i;obtain⟨u,A,m,j⟩:=p a x (by rw[be (l rfl)];exact o);exact⟨u,A,m,k u j⟩
 ·rw[xi g]at i
  exact p t c (by rw[be (l rfl)];exact i)
end
theorem fF{X:bD}{env:Nat→AV}{h:aa}{C K a sz:Nat}{ces:List AV}(d:C≠K)(l:(h C).ob=some (.arr 1 ces))(j:ces[a]? =some .nils):
    Weak X ⟨env,h⟩ ⟨env,aq (aq h K ⟨(h K).ver+1,some (.arr sz [])⟩) C ⟨(h C).ver,some (.arr 1 (ces.set a (.sl K ((h K).ver+1) 0 0 sz)))⟩⟩:=fun G ac w ⟨f,k,m,n⟩=>by
 obtain⟨i,c,e,_⟩:=f.bump K (some (.arr sz [])) (fun o e=>by cases e;exact⟨sz,rfl⟩);have b:(aq h K ⟨(h K).ver+1,some (.arr sz [])⟩ C)=h C:=ab _ _ d;have h2:=c.recell (C:=C) (a:=a) (x:= .nils) (y:= .sl K ((h K).ver+1) 0 0 sz) (by rw[b];exact l) j rfl (fun u g=>by cases g;exact .slNil _ _ _ _);rw[b]at h2;exact⟨i,e,h2,k,m.mono e,n.mono e⟩
section
variable{G:Gh}{B:Nat}{w0 w:World}{I0:Nat→Nat→Prop}{h:aa}
theorem HR.rename(f:HR G B w0 I0 h w){A K sz:Nat}{es:List AV}(F:A≠K)(S:(h A).ob=some (.arr sz es)):
    ∃m,HR m B w0 I0 (aq (aq h A ⟨(h A).ver+1,none⟩) K ⟨(h K).ver+1,some (.arr sz es)⟩) w∧Ext G w m w∧∀L,G.loc A (h A).ver=some L→m.loc K ((h K).ver+1)=some L:=by
 cases q:G.loc A (h A).ver with
 |none=>
  have I:es=[]:=by
   rcases f.objs A _ S with ⟨rfl,_⟩|⟨L,l,_⟩
   ·rfl
   ·rw[q]at l;cases l
  subst I;obtain⟨G1,h1,X,_⟩:=f.bump A none (fun o e=>by cases e);obtain⟨G2,h2,D,_⟩:=h1.bump K (some (.arr sz [])) (fun o e=>by cases e;exact⟨sz,rfl⟩);rw[ab _ _ (Ne.symm F)]at h2;exact⟨G2,h2,X.trans D,fun L x=>by cases x⟩
 |some L=>
  have M:=f.none_next A;have H:=f.none_next K
  let m:Gh:={G with loc:=fun T P=>if T=K∧P=(h K).ver+1 then some L else G.loc T P,lim:=aq (aq G.lim A ((h A).ver+1)) K ((h K).ver+1)}
  have b:∀k v,¬(k=K∧v=(h K).ver+1)→m.loc k v=G.loc k v:=fun k v s=>xi s
  have g:m.loc K ((h K).ver+1)=some L:=xW ⟨rfl,rfl⟩
  have r:∀k,G.lim k≤m.lim k:=fun k=>by
   show _≤aq (aq G.lim A _) K _ k;by_cases d:k=K
   ·subst d;rw[ad,f.lim];omega
   ·rw[ab _ _ d]
    by_cases a:k=A
    ·subst a;rw[ad,f.lim];omega
    ·rw[ab _ _ a];exact xO _
  have hex:Ext G w m w:=⟨fun _ _ x=>x,fun k v j x=>by
   rw[b k v (by rintro⟨rfl,rfl⟩;rw[H]at x;cases x)];exact x,fun _ _ _=>rfl,xO _,r,fun k v hv x=>by
   rw[b k v (by rintro⟨rfl,rfl⟩;rw[f.lim]at hv;omega)];exact x,fun _ _ _ x=>x,cl rfl⟩
  have n:∀k,(h k).ver≤(aq (aq h A ⟨(h A).ver+1,none⟩) K ⟨(h K).ver+1,some (.arr sz es)⟩ k).ver:=fun k=>by
   by_cases d:k=K
   ·subst d;rw[ad];exact Nat.le_succ _
   ·rw[ab _ _ d]
    by_cases a:k=A
    ·subst a;rw[ad];exact Nat.le_succ _
    ·rw[ab _ _ a];exact xO _
  have p:∀k j,m.loc k (aq (aq h A ⟨(h A).ver+1,none⟩) K ⟨(h K).ver+1,some (.arr sz es)⟩ k).ver=some j→(k=K∧j=L)∨(k≠K∧k≠A∧G.loc k (h k).ver=some j):=by
   intro k j x;by_cases d:k=K
   ·subst d
    rw[ad]at x;rw[g]at x;exact .inl ⟨rfl,(Option.some.inj x).symm⟩
   ·rw[ab _ _ d]at x
    by_cases a:k=A
    ·subst a
     rw[ad,b _ _ (by rintro⟨rfl,_⟩;exact d rfl),M]at x;cases x
    ·rw[ab _ _ a,b _ _ (by rintro⟨rfl,_⟩;exact d rfl)]at x
     exact .inr ⟨d,a,x⟩
  refine⟨m,⟨f.below,f.bsz,f.immlt,f.i0,f.immlow, ?_, ?_, ?_, ?_, ?_,f.maps.step hex rfl (fun _ _ _ x=>x) n (fun k o U i=> ?_)⟩,hex,fun j x=>by cases x;exact g⟩
  ·intro k v j x
   by_cases d:k=K∧v=(h K).ver+1
   ·obtain⟨rfl,rfl⟩:=d;rw[ad];exact xO _
   ·rw[b _ _ d]at x
    exact y8 (f.fresh k v j x) (n k)
  ·intro k j x
   rcases p k j x with ⟨rfl,rfl⟩|⟨_,_,x⟩
   ·exact f.own A _ q
   ·exact f.own k j x
  ·intro C E y J x1 x2 O
   rcases p C y x1 with ⟨rfl,rfl⟩|⟨n1,m1,Q⟩<;>rcases p E J x2 with ⟨D,Y⟩|⟨n2,m2,R⟩
   ·exact D.symm
   ·exact absurd (f.dis A E _ J q R O).symm m2
   ·subst Y;exact absurd (f.dis C A y _ Q q O) m1
   ·exact f.dis C E y J Q R O
  ·intro k ob i
   by_cases d:k=K
   ·subst d
    rw[ad]at i ⊢;simp only[xA]at i;subst i;rcases f.objs A _ S with ⟨_,s⟩|⟨j,l,Z,V,g3,W,g6,g5⟩
    ·rw[q]at s;cases s
    ·rw[q]at l
     cases l
     exact .inr ⟨L,g,Z,V,g3,W,g6,fun t c ht=>by
      obtain⟨u,hu,N,z⟩:=g5 t c ht;exact⟨u,hu,N,z.mono hex⟩⟩
   ·rw[ab _ _ d]at i ⊢
    by_cases a:k=A
    ·subst a;rw[ad]at i;cases i
    ·rw[ab _ _ a]at i ⊢
     exact(f.objs k ob i).mono (f.le k) hex (fun _ _ _=>rfl)
  ·intro k
   show aq (aq G.lim A _) K _ k=_;by_cases d:k=K
   ·subst d;rw[ad,ad]
   ·rw[ab _ _ d,ab _ _ d]
    by_cases a:k=A
    ·subst a;rw[ad,ad]
    ·rw[ab _ _ a,ab _ _ a];exact f.lim k
  ·by_cases d:k=K
   ·subst d;rw[ad]at i;cases i;cases U
   ·rw[ab _ _ d]at i ⊢
    by_cases a:k=A
    ·subst a;rw[ad]at i;cases i
    ·rw[ab _ _ a]
theorem Rep.moved{f:Gh}{A v K e a b z:Nat}{u:Value}(i:Rep G w (.sl A v a b z) u)(g:∀L,G.loc A v=some L→f.loc K e=some L):Rep f w (.sl K e a b z) u:=by
 cases i with
 |slNil=>exact .slNil _ _ _ _
 |sl _ _ _ _ c L k j d=>exact .sl K e a b c L (g L k) j d
end
theorem sP{X:bD}{env:Nat→AV}{h:aa}{C A K a sz c b z:Nat}{es ces:List AV}(i:A≠K)(k:C≠A)(j:C≠K)(o:(h C).ob=some (.arr 1 ces))(v:ces[a]? =some (.sl A (h A).ver c b z))(s:(h A).ob=some (.arr sz es)):
    Weak X ⟨env,h⟩ ⟨env,aq (aq (aq h A ⟨(h A).ver+1,none⟩) K ⟨(h K).ver+1,some (.arr sz es)⟩) C ⟨(h C).ver,some (.arr 1 (ces.set a (.sl K ((h K).ver+1) c b z)))⟩⟩:=fun G ac w ⟨m,B,p,r⟩=>by
 obtain⟨q,l,e,n⟩:=m.rename i s;have f:(aq (aq h A ⟨(h A).ver+1,none⟩) K ⟨(h K).ver+1,some (.arr sz es)⟩ C)=h C:=by rw[ab _ _ j,ab _ _ k]
 have h2:=l.recell (C:=C) (a:=a) (x:= .sl A (h A).ver c b z) (y:= .sl K ((h K).ver+1) c b z) (by rw[f];exact o) v rfl (fun u t=>t.moved (fun L g=> ?_))
 ·rw[f]at h2
  exact⟨q,e,h2,B,p.mono e,r.mono e⟩
 ·cases d:G.loc A (h A).ver with
  |none=>
   have:=e.nloc A (h A).ver (by rw[m.lim];exact xO _) d;rw[this]at g;cases g
  |some D=>
   rw[e.loc _ _ _ d]at g;cases g;exact n _ d
def tW(H:Option gx)(S:St):Option (St×List Nat×ah):=
 match H with
 |none=>some (S,[],[])
 |some H=>if H.obj=true then (if H.slot=true then match S.env H.i with
     | .nils=>some (⟨aq S.env H.i (.sl H.K ((S.heap H.K).ver+1) 0 0 H.sz),aq S.heap H.K ⟨(S.heap H.K).ver+1,some (.arr H.sz [])⟩⟩,[H.K],[])
     |_=>none
     else match (S.heap H.k).ob with
     |some (.arr sz es)=>if sz=1∧H.k≠H.K then match es[H.i]? with
         |some .nils=>some (⟨S.env,aq (aq S.heap H.K ⟨(S.heap H.K).ver+1,some (.arr H.sz [])⟩) H.k ⟨(S.heap H.k).ver,some (.arr 1 (es.set H.i (.sl H.K ((S.heap H.K).ver+1) 0 0 H.sz)))⟩⟩,[H.K,H.k],[])
         |some (.sl A v a b z)=>match S.heap A with
          |⟨d,some (.arr c e)⟩=>if A≠H.K∧H.k≠A then some (⟨S.env,aq (aq (aq S.heap A ⟨v+1,none⟩) H.K ⟨(S.heap H.K).ver+1,some (.arr c e)⟩) H.k ⟨(S.heap H.k).ver,some (.arr 1 (es.set H.i (.sl H.K ((S.heap H.K).ver+1) a b z)))⟩⟩,[A,H.K,H.k],[(.nat d, .nat v)])else none
          |_=>none
         |_=>none
      else none
     |_=>none)
  else if H.slot=true then match S.env H.i with
   | .nils=>some (⟨aq S.env H.i (.vec H.K (S.heap H.K).ver H.sz []),S.heap⟩,[],[])
   |_=>none
  else match (S.heap H.k).ob with
  |some (.arr sz es)=>if sz=1 then match es[H.i]? with
      |some .nils=>some (⟨S.env,aq S.heap H.k ⟨(S.heap H.k).ver,some (.arr sz (es.set H.i (.vec H.K (S.heap H.K).ver H.sz [])))⟩⟩,[H.k],[])
      |_=>none
   else none
  |_=>none
theorem q8{X:bD}{H:Option gx}{S S':St}{tk:List Nat}{ps:ah}(h:tW H S=some (S',tk,ps))(hs:Alike ps):Weak X S S'∧∀k,k∉tk→S'.heap k=S.heap k:=by
 unfold tW at h;split at h
 ·simp only[xA,xC]at h
  obtain⟨rfl,rfl,rfl⟩:=h;exact⟨Weak.refl S,fun _ _=>rfl⟩
 ·rename_i H
  split at h
  ·split at h
   case isFalse=>
    split at h;case h_2=>cases h
    rename_i sz es n;split at h;case isFalse=>cases h
    rename_i hc;obtain⟨rfl,y⟩:=hc;split at h
    ·rename_i j
     simp only[xA,xC]at h;obtain⟨rfl,rfl,rfl⟩:=h;refine⟨fF (X:=X) (env:=S.env) y n j,fun k m=> ?_⟩;simp only[xR,yD,or_false,yS]at m;exact(ab _ _ m.2).trans (ab _ _ m.1)
    ·rename_i A v off len z j
     split at h;case h_2=>cases h
     rename_i vA sA eA Z;split at h;case isFalse=>cases h
     rename_i V;obtain⟨N,M⟩:=V;simp only[xA,xC]at h;obtain⟨rfl,rfl,rfl⟩:=h;have D:=hs.head;simp only[ax.nat.injEq]at D;subst D;have Y:(S.heap A).ver=vA:=by rw[Z]
     have e2:(S.heap A).ob=some (.arr sA eA):=by rw[Z]
     refine⟨?_,fun k m=> ?_⟩
     ·have:=sP (X:=X) (env:=S.env) (h:=S.heap) (K:=H.K) N M y n (by rw[Y];exact j) e2
      rw[Y]at this;exact this
     ·simp only[xR,yD,or_false,yS]at m
      exact(ab _ _ m.2.2).trans ((ab _ _ m.2.1).trans (ab _ _ m.1))
    ·cases h
   split at h;case h_2=>cases h
   rename_i f;simp only[xA,xC]at h;obtain⟨rfl,rfl,rfl⟩:=h;refine⟨fun G a w ⟨q,Q,b,p⟩=> ?_,fun k m=>by simp at m;exact ab _ _ m⟩;obtain⟨W,O,B,_⟩:=q.bump H.K (some (.arr H.sz [])) (fun o e=>by cases e;exact⟨_,rfl⟩);refine⟨W,B,O,Q,⟨b.size,b.nod,fun t g=> ?_,fun t g=> ?_⟩,p.mono B⟩
   ·by_cases d:t=H.i
    ·subst d
     show Rep _ _ (aq S.env H.i _ H.i) _;rw[ad];have:=b.rep H.i g;rw[f]at this;have P:∀u,Rep G w .nils u→Rep W w (.sl H.K ((S.heap H.K).ver+1) 0 0 H.sz) u:=fun u F=>by cases F;exact .slNil _ _ _ _
     exact P _ this
    ·show Rep _ _ (aq S.env H.i _ t) _
     rw[ab _ _ d];exact(b.rep t g).mono B
   ·by_cases d:t=H.i
    ·subst d
     have:=b.out H.i g;rw[f]at this;cases this
    ·show aq S.env H.i _ t=_
     rw[ab _ _ d];exact b.out t g
  split at h
  ·split at h
   case h_2=>cases h
   rename_i f;simp only[xA,xC]at h;obtain⟨rfl,rfl,rfl⟩:=h;refine⟨fun G a w ⟨q,Q,b,p⟩=>⟨G,Ext.refl G w,q,Q,⟨b.size,b.nod,fun t g=> ?_,fun t g=> ?_⟩,p⟩,fun _ _=>rfl⟩
   ·by_cases d:t=H.i
    ·subst d
     show Rep _ _ (aq S.env H.i _ H.i) _;rw[ad];have:=b.rep H.i g;rw[f]at this;have P:∀u,Rep G w .nils u→Rep G w (.vec H.K (S.heap H.K).ver H.sz []) u:=fun u F=>by cases F;exact .vecNil _ _ _
     exact P _ this
    ·show Rep _ _ (aq S.env H.i _ t) _
     rw[ab _ _ d];exact b.rep t g
   ·by_cases d:t=H.i
    ·subst d
     have:=b.out H.i g;rw[f]at this;cases this
    ·show aq S.env H.i _ t=_
     rw[ab _ _ d];exact b.out t g
  split at h;case h_2=>cases h
  rename_i sz es n;split at h;case isFalse=>cases h
  rename_i J;subst J;split at h;case h_2=>cases h
  rename_i j;simp only[xA,xC]at h;obtain⟨rfl,rfl,rfl⟩:=h;refine⟨fun G a w T=>⟨G,Ext.refl G w,T.1.reob ?_ rfl,T.2⟩,fun k' r=>by simp at r;exact ab _ _ r⟩;have s:=(xD.1 j).1;rcases T.1.objs H.k _ n with ⟨rfl,_⟩|⟨L,hL,O,B,g3,g4,R,g5⟩
  ·simp at s
  have l:∀x∈es.set H.i (.vec H.K (S.heap H.K).ver H.sz []),x.lone=true:=fun x C=>by
   rcases xj C with C|rfl
   ·exact R rfl x C
   ·rfl
  refine .inr ⟨L,hL,O,B,by simpa using g3,fun x C=>by rw[AV.cells_lone (l x C)];rfl,fun _=>l,fun t c g=> ?_⟩;rw[be l,List.getElem?_set]at g;by_cases E:H.i=t
  ·subst E
   simp only[xz,s]at g;cases g;obtain⟨u,F,U,I⟩:=g5 H.i .nils (by rw[be (R rfl)];exact j);refine⟨u,F,U, ?_⟩;cases I;exact .vecNil _ _ _
  ·rw[xi E]at g
   exact g5 t c (by rw[be (R rfl)];exact g)
def me:List gx→St→Option (St×List Nat×ah)
 |[],S=>some (S,[],[])
 |H::r,S=>match tW (some H) S with
  |some a=>match me r a.1 with
   |some b=>some (b.1,a.2.1 ++b.2.1,a.2.2 ++b.2.2)
   |none=>none
  |none=>none
theorem kC{X:bD}:∀{l:List gx}{S S':St}{tk:List Nat}{c:ah},me l S=some (S',tk,c)→Alike c→Weak X S S'∧∀k,k∉tk→S'.heap k=S.heap k
 |[],S,S',tk,c,h,e=>by
  simp only[me,xA,xC]at h;obtain⟨rfl,rfl,rfl⟩:=h;exact⟨Weak.refl S,fun _ _=>rfl⟩
 |H::r,S,S',tk,c,h,e=>by
  simp only[me]at h;split at h;case h_2=>cases h
  rename_i a g;split at h;case h_2=>cases h
  rename_i b i;simp only[xA,xC]at h;obtain⟨rfl,rfl,rfl⟩:=h;obtain⟨p,q,n⟩:=a;obtain⟨j,m,o⟩:=b;have f:=q8 (X:=X) g e.left;have h2:=kC (X:=X) i e.right;exact⟨f.1.trans h2.1,fun k d=>by simp only[xJ,yS]at d;exact(h2.2 k d.2).trans (f.2 k d.1)⟩
theorem dT{X:bD}{env:Nat→AV}{h:aa}{C a n:Nat}{ces:List AV}{x:AV}{d:D}{ks:List Nat}(y:C∉ks)(E:(h C).ob=some (.arr 1 ces))(z:ces[a]? =some x)(J:d.one=true)(O:view n h x=some (d,ks)):
    Weak X ⟨env,h⟩ ⟨env,aq (ae h (kill h ks)) C ⟨(h C).ver,some (.arr 1 (ces.set a (.d d)))⟩⟩:=fun G ac w ⟨r,P,F,K⟩=>by
 have v:=r.kill ks;have e:=Ext.froz r ks;have l:ae h (kill h ks) C=h C:=by rw[aN,xi y]
 have I:∀u,Rep G w x u→Rep (G.froz h ks) w (.d d) u:=fun u p=> .d ((b8 r n _ _ _ _ O p).mono (fun b o Q=>Q) (fun _ _ _=>rfl))
 have h2:HR (G.froz h ks) X.B X.w0 X.I0 (aq (ae h (kill h ks)) C ⟨(ae h (kill h ks) C).ver,some (.arr 1 (ces.set a (.d d)))⟩) w:=by
  refine v.reob ?_ rfl;rw[l];have j:=(xD.1 z).1;rcases r.objs C _ E with ⟨rfl,_⟩|⟨L,M,N,H,R,S,s,A⟩
  ·simp at j
  have f:∀e∈ces.set a (.d d),e.lone=true:=fun e k=>by
   rcases xj k with k|rfl
   ·exact s rfl e k
   ·cases d<;>first|rfl|(simp[D.one]at J)
  refine .inr ⟨L,e.loc _ _ _ M,N,H,by simpa using R,fun e k=>by rw[AV.cells_lone (f e k)];rfl,fun _=>f,fun t c q=> ?_⟩;rw[be f,List.getElem?_set]at q;by_cases m:a=t
  ·subst m
   simp only[xz,j]at q;cases q;obtain⟨u,p,i,g⟩:=A a x (by rw[be (s rfl)];exact z);exact⟨u,p,i,I u g⟩
  ·rw[xi m]at q
   obtain⟨u,p,i,g⟩:=A t c (by rw[be (s rfl)];exact q);exact⟨u,p,i,g.mono e⟩
 rw[l]at h2;exact⟨_,e,h2,P,F.mono e,K.mono e⟩
def Dr(H:Option pz)(S:St):Option (St×List Nat×ah):=
 match H with
 |none=>some (S,[],[])
 |some H=>match (S.heap H.C).ob with
  |some (.arr sz ces)=>if sz=1∧H.C≠H.k then match ces[H.a]? with
      |some (.sl k v b c _)=>if k=H.k∧b=0 then match (S.heap k).ob with
          |some (.arr _ es)=>some (⟨S.env,aq (aq S.heap k ⟨(S.heap k).ver+1,none⟩) H.C ⟨(S.heap H.C).ver,some (.arr 1 (ces.set H.a (.d (.ro H.ds))))⟩⟩,[k,H.C],[(.nat (S.heap k).ver, .nat v),(.nat c, .nat H.n),(.av (.tup es), .av (.tup H.es))])
          |_=>none
       else none
      |_=>none
   else none
  |_=>none
theorem tX{X:bD}{H:Option pz}{S S':St}{tk:List Nat}{l:ah}(h:Dr H S=some (S',tk,l))(f:Alike l):Weak X S S'∧∀k,k∉tk→S'.heap k=S.heap k:=by
 unfold Dr at h;split at h
 ·simp only[xA,xC]at h
  obtain⟨rfl,rfl,rfl⟩:=h;exact⟨Weak.refl S,fun _ _=>rfl⟩
 rename_i H;split at h;case h_2=>cases h
 rename_i sz ces p;split at h;case isFalse=>cases h
 rename_i q;obtain⟨rfl,d⟩:=q;split at h;case h_2=>cases h
 rename_i k v m c z o;split at h;case isFalse=>cases h
 rename_i e;obtain⟨rfl,rfl⟩:=e;split at h;case h_2=>cases h
 rename_i n es g;simp only[xA,xC]at h;obtain⟨rfl,rfl,rfl⟩:=h;have j:=f.head;have h2:=f.tail.head;have i:=f.tail.tail.head;simp only[ax.nat.injEq,ax.av.injEq,AV.tup.injEq]at j h2 i;subst i
 have b:view 4 S.heap (.sl H.k v 0 c z)=some (.ro H.ds,[H.k]):=by
  rw[rK,g];simp only;rw[xW ⟨j,by rw[h2,←H.hn];omega⟩];rw[yX,yR (by rw[h2,←H.hn];exact xO _),H.hv];rfl
 refine⟨dT (ks:=[H.k]) (by simpa using d) p o rfl b,fun r a=> ?_⟩;simp only[xR,yD,or_false,yS]at a;exact(ab _ _ a.2).trans (ab _ _ a.1)
def mf(K:Option (List (Nat×AV)))(S:St):St×ah:=match K with
 |none=>(S,[])
 |some l=>(⟨ag l,S.heap⟩,eD S.env l)
theorem pB{X:bD}{K:Option (List (Nat×AV))}{S:St}(a:Alike (mf K S).2):Weak X S (mf K S).1∧(mf K S).1.heap=S.heap:=by
 cases K with
 |none=>exact⟨Weak.refl S,rfl⟩
 |some l=>exact⟨iB (heap:=S.heap) (hP a),rfl⟩
def mg(H:Option mc)(N:List gx)(K:Option (List (Nat×AV)))(S:St):Option (St×List Nat×ah):=
 match q7 H S with
 |some a=>match me N a.1 with
  |some b=>some ((mf K b.1).1,a.2.1 ++b.2.1,a.2.2 ++(b.2.2 ++(mf K b.1).2))
  |none=>none
 |none=>none
def og(H:Option mc)(N:List gx)(K:Option (List (Nat×AV)))(Z:Option pz)(S:St):Option (St×List Nat×ah):=
 match mg H N K S with
 |some a=>match Dr Z a.1 with
  |some b=>some (b.1,a.2.1 ++b.2.1,a.2.2 ++b.2.2)
  |none=>none
 |none=>none
theorem m0{X:bD}{H:Option mc}{N:List gx}{K:Option (List (Nat×AV))}{S S':St}{tk:List Nat}{g:ah}(h:mg H N K S=some (S',tk,g))(d:Alike g):Weak X S S'∧∀k,k∉tk→S'.heap k=S.heap k:=by
 unfold mg at h;split at h;case h_2=>cases h
 rename_i a i;split at h;case h_2=>cases h
 rename_i b j;simp only[xA,xC]at h;obtain⟨rfl,rfl,rfl⟩:=h;obtain⟨p,q,n⟩:=a;obtain⟨l,m,o⟩:=b;have f:=pA (X:=X) i d.left;have h2:=kC (X:=X) j d.right.left;have e:=pB (X:=X) d.right.right;exact⟨(f.1.trans h2.1).trans e.1,fun k c=>by simp only[xJ,yS]at c;rw[e.2];exact(h2.2 k c.2).trans (f.2 k c.1)⟩
theorem cD{X:bD}{H:Option mc}{N:List gx}{K:Option (List (Nat×AV))}{Z:Option pz}{S S':St}{tk:List Nat}{f:ah}(h:og H N K Z S=some (S',tk,f))(e:Alike f):Weak X S S'∧∀k,k∉tk→S'.heap k=S.heap k:=by
 unfold og at h;split at h;case h_2=>cases h
 rename_i a g;split at h;case h_2=>cases h
 rename_i b i;simp only[xA,xC]at h;obtain⟨rfl,rfl,rfl⟩:=h;obtain⟨o,p,m⟩:=a;obtain⟨j,l,n⟩:=b;have d:=m0 (X:=X) g e.left;have h2:=tX (X:=X) i e.right;exact⟨d.1.trans h2.1,fun k c=>by simp only[xJ,yS]at c;exact(h2.2 k c.2).trans (d.2 k c.1)⟩
def Par.nilsAt{P:Program}(b:Par P)(a id:Nat):List gx:=match b.nils a id with
 |some H=>H::b.nils2 a id
 |none=>b.nils2 a id
abbrev bx:=Nat→Nat→Nat→Code→St→Option (au×St×Nat×List Nat×ah)
def q9(P:Program)(d:bx)(g:Nat)(ds:List D):Option (List D×ah):=
 match P.funcs[g]? with
 |none=>none
 |some fn=>match fn.body with
  |none=>none
  |some b=>if ds.length≤fn.ntmps then match d g 0 fn.ntmps b (eR ds)with
      |some (.normal,S',_,_,a)=>(hE P S' fn.results.toList).map fun c=>(c,a)
      |some (.ret,S',_,_,a)=>(hE P S' fn.results.toList).map fun c=>(c,a)
      |_=>none
   else none
def dG(P:Program)(i:bx)(c:Nat)(g:Nat)(a:List AV)(h:aa):Option (List AV×aa×Nat×List Nat×ah):=
 match P.funcs[g]? with
 |none=>none
 |some fn=>match fn.body with
  |none=>none
  |some b=>if a.length≤fn.ntmps then match i g c fn.ntmps b ⟨dY a,h⟩with
      |some (.normal,S',f,tk,e)=>(eJ P S' fn.results.toList).map fun d=>(d,S'.heap,f,tk,e)
      |some (.ret,S',f,tk,e)=>(eJ P S' fn.results.toList).map fun d=>(d,S'.heap,f,tk,e)
      |_=>none
   else none
def jU(P:Program)(g:bx)(b:Nat)(d:List AV)(h:aa):Option (aa×Nat×List Nat×ah):=
 match d with
 |[a, .fn f c]=>match jR h a with
  |some (k,v,i,es,n,m)=>
   if n=0 then
    if m=0 then match dG P g b f c (lX h k v i es)with
     |some r=>match jR r.2.1 a with
      |some (q,p,l,e,o,j)=>if q=k∧p=v∧l=i∧o=0∧j=1 then some (lY r.2.1 k v i e,r.2.2.1,k::r.2.2.2.1,r.2.2.2.2)else none
      |none=>none
     |none=>none
    else none
   else some (h,b,[],[])
  |none=>none
 |_=>none
def ra(m:bx)(d k v:Nat)(c:List AV)(h:aa):Option (Bool×aa×Nat×List Nat×ah):=
 match (h k).ob with
 |some (.lp b N env y Fx x .ready)=>match fh N (ag env) y.toList c with
     |some a=>match m b d N Fx ⟨a,h⟩with
      |some (.normal,S1,u,j,l)=>match (S1.heap k).ob with
       |some (.lp s z t n g f .ready)=>match m b u N x ⟨S1.env,aq S1.heap k ⟨v,some (.lp s z t n g f .busy)⟩⟩with
           |some r=>match (r.2.1.heap k).ob,lW r.1 with
            |some (.lp w o A p i e _),some q=>some (q.1,aq r.2.1.heap k ⟨v,some (.lp w o A p i e q.2)⟩,r.2.2.1,k::(j ++r.2.2.2.1),(.nat (h k).ver, .nat v)::(.nat (S1.heap k).ver, .nat v)::(.nat (r.2.1.heap k).ver, .nat v)::(l ++r.2.2.2.2))
            |_,_=>none
           |none=>none
       |_=>none
      |_=>none
     |none=>none
 |_=>none
def keyOf(a i:Nat)(o:Oper):Nat:=match o.dst with
 |some d=>d
 |none=>100000+a*1000+i
def rb(P:Program)(f:Par P)(e:bx)(c d b g:Nat)(a:List AV)(h:aa):Option (List AV×aa×Nat×List Nat×ah):=
 match f.xcalls c d with
 |some H=>if g=H.g then match aE h H.pre with
     |some q=>some (H.rs,af H.post (H.rst h),b,H.post.map (·.1) ++H.bigs,(.av (.tup a), .av (.tup H.args))::q)
     |none=>none
  else none
 |none=>dG P e b g a h
def rL(P:Program)(f:Par P)(h:bx)(c e a N:Nat)(k:Array Oper)(i:Nat)(o:Oper)(S:St):Option (St×Foot×Nat×List Nat×ah):=
 match bK k o S.env with
 |some true=>match n9 o S.env with
  |some (g,b)=>match f.calls c (keyOf e i o) a with
   |some H=>if g=H.g then match aE S.heap H.pre with
      |some q=>(bX N S.env o.dst (dW H.rs)).map fun env=>(⟨env,ae S.heap H.post.reverse⟩,⟨i,H.pre.map (·.1),H.post.reverse.map (·.1),false⟩,a,H.post.reverse.map (·.1),(.av (.tup b), .av (.tup H.args))::q)
      |none=>none
    else none
   |none=>match f.at c (keyOf e i o) a with
    |some (.call m ds j _)=>
     if m=g then match kF b with
      |some l=>(bX N S.env o.dst (fc j)).map fun env=>(⟨env,S.heap⟩,⟨i,[],[],false⟩,a,[],[(.ds l, .ds ds)])
      |none=>match view.go 12 S.heap b with
       |some r=>if j.all D.scal=true then (bX N S.env o.dst (fc j)).map fun env=>(⟨env,S.heap⟩,⟨i,r.2,[],false⟩,a,[],[(.ds r.1, .ds ds)])else none
       |none=>none
     else none
    |_=>if jT g=true then match jU P h a b S.heap with
      |some r=>(bX N S.env o.dst (.tup [])).map fun env=>(⟨env,r.1⟩,⟨i,[],r.2.2.1,true⟩,r.2.1,r.2.2.1,r.2.2.2)
      |none=>none
     else match (if f.hp g=true then none else kF b)with
     |some ds=>match q9 P h g ds with
      |some r=>(bX N S.env o.dst (fc r.1)).map fun env=>(⟨env,S.heap⟩,⟨i,[],[],false⟩,a,[],r.2)
      |none=>none
     |none=>match rb P f h c (keyOf e i o) a g b S.heap with
      |some r=>(bX N S.env o.dst (dW r.1)).map fun env=>(⟨env,r.2.1⟩,⟨i,[],r.2.2.2.1,true⟩,r.2.2.1,r.2.2.2.1,r.2.2.2.2)
      |none=>none
  |none=>match iU o S.env with
   |some y=>match ra h a y.1 y.2.1 y.2.2 S.heap with
    |some r=>(bX N S.env o.dst (.d (.bool r.1))).map fun env=>(⟨env,r.2.1⟩,⟨i,[],r.2.2.2.1,true⟩,r.2.2.1,r.2.2.2.1,r.2.2.2.2)
    |none=>none
   |none=>match tS P (f.at c (keyOf e i o) a) {obm:=fun _=>f.obm c (o.dst.getD 0),base:=fun _=>a} i o (opd S.env) S.heap with
   |some q=>match q.1.ob with
    |[]=>(bX N S.env o.dst q.1.val).map fun env=>(⟨env,ae S.heap q.1.wr⟩,⟨i,q.1.rd,q.1.wr.map (·.1),false⟩,a+N,q.1.wr.map (·.1),q.2)
    |_=>none
   |none=>none
 |some false=>(bX N S.env o.dst (.tup [])).map fun env=>(⟨env,S.heap⟩,⟨i,[],[],false⟩,a,[],[])
 |none=>none
def pC(P:Program)(h:Par P)(g:bx)(d e N:Nat)(f:Array Oper):List Oper→Nat→Nat→St→Option (St×List Foot×Nat×List Nat×ah)
 |[],_,c,S=>some (S,[],c,[],[])
 |o::r,i,c,S=>match rL P h g d e c N f i o S with
  |none=>none
  |some a=>match pC P h g d e N f r (i+1) a.2.2.1 a.1 with
   |none=>none
   |some b=>some (b.1,a.2.1::b.2.1,b.2.2.1,a.2.2.2.1 ++b.2.2.2.1,a.2.2.2.2 ++b.2.2.2.2)
def tY(P:Program)(C:Option (nk P))(b:Array Oper)(o:Oper)(S:St):Option (AV×aa×List Nat×ah):=
 match bK b o S.env with
 |some true=>match C with
  |some C=>match bV o S.env with
   |some (g,a)=>if g=C.g then (aE S.heap C.pre).map fun q=>(C.x,af C.post S.heap,C.post.map (·.1),(.av (.tup a), .av (.tup C.args))::q)else none
   |none=>none
  |none=>match o.op with
   | .panic u=>match opd S.env u with
    | .iv t y=>some (.iv t y,S.heap,[],[])
    |_=>none
   |_=>none
 |_=>none
def tZ(P:Program)(h:Par P)(g:bx)(e f N:Nat)(d:Array Oper)(op:Oper):List Nat→Nat→St→Option (St×List (Nat×Foot)×Nat×List Nat×ah)
 |[],c,S=>some (S,[],c,[],[])
 |i::r,c,S=>match d[i]? with
  |none=>none
  |some o=>match rL P h g e f c N d i o S with
   |none=>none
   |some a=>match (gP op i||a.2.1.wr.all fun k=>Nat.ble (S.heap k).ver (a.1.heap k).ver)&& !(r.any (Nat.beq i))with
    |false=>none
    |true=>match tZ P h g e f N d op r a.2.2.1 a.1 with
     |none=>none
     |some b=>some (b.1,(i,a.2.1)::b.2.1,b.2.2.1,a.2.2.2.1 ++b.2.2.2.1,a.2.2.2.2 ++b.2.2.2.2)
def nl:List (Nat×Foot)→Nat→Foot
 |[],_=>⟨0,[],[],false⟩
 |(j,f)::r,i=>bif Nat.beq i j then f else nl r i
def vR(W:List Nat)(h:aa):aa:=fun k=>bif W.any (Nat.beq k)then ⟨(h k).ver,none⟩else h k
def wQ(op:Oper)(fts:List (Nat×Foot)):List Nat:=(fts.filter fun e=> !gP op e.1).flatMap (·.2.wr)
def BG{P:Program}(C:Option (nk P))(W:List Nat):Bool:=match C with
 |some C=>W.all fun k=> !(C.pre.map (·.1)).any (Nat.beq k)&& !(C.post.map (·.1)).any (Nat.beq k)
 |none=>true
def EI{P:Program}(a:Array Oper)(p:Nat)(op:Oper)(O:List Nat)(fts:List (Nat×Foot))(C:Option (nk P)):Bool:=
 nj a (nl fts) p O (wQ op fts) O (Array.replicate a.size false)&&Nat.blt O.length a.size&&BG C (wQ op fts)
def aJ(P:Program)(j:Par P):Nat→bx
 |0,_,_,_,_,_=>none
 |n+1,f,a,N,c,S=>
  match c with
  | .region id h m=>match og (j.weaks f id) (j.nilsAt f id) (j.keeps f id) (j.frz f id) S with
   |some k=>match j.pans f id a with
    |some H=>match H.ex with
     |[]=>match pC P j (aJ P j n) f id N h (h.toList.take H.p) 0 a k.1 with
      |some r=>match h[H.p]? with
       |some o=>match tY P H.call h o r.1 with
        |some q=>if m=false∨jQ h r.2.1 H.p=true then some (.panic q.1,⟨gl h k.1.env,q.2.1⟩,r.2.2.1,k.2.1 ++(r.2.2.2.1 ++q.2.2.1),k.2.2 ++(r.2.2.2.2 ++q.2.2.2))else none
        |none=>none
       |none=>none
      |none=>none
     |_::_=>match m with
      |false=>none
      |true=>match h[H.p]? with
       |none=>none
       |some o=>match tZ P j (aJ P j n) f id N h o (List.range' 0 H.p ++H.exs) a k.1 with
        |none=>none
        |some r=>match tY P H.call h o r.1 with
         |none=>none
         |some q=>match EI h H.p o (List.range' 0 H.p ++H.exs) r.2.1 H.call with
          |true=>some (.panic q.1,⟨gl h k.1.env,vR (wQ o r.2.1) q.2.1⟩,r.2.2.1,k.2.1 ++(r.2.2.2.1 ++(q.2.2.1 ++wQ o r.2.1)),k.2.2 ++(r.2.2.2.2 ++q.2.2.2))
          |false=>none
    |none=>match pC P j (aJ P j n) f id N h h.toList 0 a k.1 with
     |some r=>match m with
      |false=>some (.normal,r.1,r.2.2.1,k.2.1 ++r.2.2.2.1,k.2.2 ++r.2.2.2.2)
      |true=>match lS h r.2.1 with
       |true=>some (.normal,r.1,r.2.2.1,k.2.1 ++r.2.2.2.1,k.2.2 ++r.2.2.2.2)
       |false=>none
     |none=>none
   |none=>none
  | .seq x y=>match j.seqs f (dm x)with
   |some H=>if H.N=N then match aE S.heap (H.hp S.heap)with
       |some q=>some (H.e,⟨ag H.l',af (H.hp' S.heap) S.heap⟩,a,(H.hp' S.heap).map (·.1),(.code (.seq x y), .code H.x)::(eD S.env H.l ++q))
       |none=>none
    else none
   |none=>match aJ P j n f a N x S with
    |some (.normal,S',v,tk,s)=>match aJ P j n f v N y S' with
     |some (e,A,z,u,t)=>some (e,A,z,tk ++u,s ++t)
     |none=>none
    |r=>r
  | .block id x=>match aJ P j n f a N x S with
   |some (.exit i,S',v,tk,s)=>if i=id then some (.normal,S',v,tk,s)else some (.exit i,S',v,tk,s)
   |r=>r
  | .loop x=>match j.loops f (dm x)with
   |some H=>if H.N=N then match aE S.heap (H.hp S.heap)with
       |some q=>some (H.e,⟨ag H.l',af (H.hp' S.heap) S.heap⟩,a,(H.hp' S.heap).map (·.1),(.code x, .code H.x)::(eD S.env H.l ++q))
       |none=>none
    else none
   |none=>match aJ P j n f a N x S with
    |some (.normal,S',v,tk,s)=>match aJ P j n f v N (.loop x) S' with
     |some (e,A,z,u,t)=>some (e,A,z,tk ++u,s ++t)
     |none=>none
    |r=>r
  | .skip=>some (.normal,S,a,[],[])
  | .exit i=>some (.exit i,S,a,[],[])
  | .ret=>some (.ret,S,a,[],[])
  | .cond c x y=>match opd S.env c with
   | .d (.bool b)=>match b with
    |true=>aJ P j n f a N x S
    |false=>aJ P j n f a N y S
   |_=>none
  | .rangeFunc g s Fx C=>match opd S.env g with
   | .fn D w=>match dG P (aJ P j n) (a+N) D (.yld a ((S.heap a).ver+1)::w) (aq S.heap a ⟨(S.heap a).ver+1,some (.lp f N (zu N S.env) s Fx C .ready)⟩)with
    |some r=>match (r.2.1 a).ob with
     |some (.lp _ _ _ _ _ _ B)=>match vN B with
      |some e=>some (e,⟨S.env,aq r.2.1 a ⟨(r.2.1 a).ver,none⟩⟩,r.2.2.1,a::r.2.2.2.1,(.nat (r.2.1 a).ver, .nat ((S.heap a).ver+1))::r.2.2.2.2)
      |none=>none
     |_=>none
    |none=>none
   |_=>none
  |_=>none
end Go.Avm
