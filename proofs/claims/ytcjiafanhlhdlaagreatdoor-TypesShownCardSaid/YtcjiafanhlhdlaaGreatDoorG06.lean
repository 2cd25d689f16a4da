/-
  The abstract machine, part R: operations on open data. Where a value isn't known the prover says what it is, with a proof ('Hint'); what the run meets and what the prover named are handed out as pairs of sides, which the kernel compares.
-/
import Derived.Test.YtcjiafanhlhdlaaGreatDoorG05
set_option linter.unusedVariables false
set_option linter.unusedSimpArgs false
set_option linter.unusedSectionVars false
namespace Go.Avm
variable[aG]
inductive aL where
 |av (x:AV)
 |nat (n:Nat)
 |ds (l:List D)
 |code (c:Code)
 |mp (es:List (D×D×Nat))
 |ob (o:Ob)
 |hp (h:aa)
abbrev aq:=List (aL×aL)
def Alike(ps:aq):Prop:=∀p∈ps,p.1=p.2
theorem Alike.head{p:aL×aL}{ps:aq}(h:Alike (p::ps)):p.1=p.2:=h p (by simp)
theorem Alike.tail{p:aL×aL}{ps:aq}(h:Alike (p::ps)):Alike ps:=fun q a=>h q (by simp[a])
theorem Alike.left{ps a:aq}(h:Alike (ps ++a)):Alike ps:=fun q b=>h q (by simp[b])
theorem Alike.right{ps a:aq}(h:Alike (ps ++a)):Alike a:=fun q b=>h q (by simp[b])
inductive cf(P:Program) where
 |val (a b:AV) (h:a=b)
 |idx (l:List D) (i:Int) (y:D) (h0:0≤i) (h:l[i.toNat]? =some y)
 |inb (i:Int) (n:Nat) (h0:0≤i) (h:i.toNat<n)
 |elt (es:List AV) (i:Nat) (e:AV) (h:es[i]? =some e)
 |look (x:D) (es:List (D×D×Nat)) (r:Option (Nat×D)) (h:cq x es 0=some r)
 |sidx (s:List UInt8) (i:Int) (b:UInt8) (h0:0≤i) (h:s[i.toNat]? =some b)
 |sub (s:List UInt8) (a b:Nat) (h:a≤b∧b≤s.length)
 |cat (a b:List UInt8) (h:a.length+b.length≤9223372036854775807)
 |cutl (l:List D) (b:Nat) (h:b≤l.length)
 |cuts (ln b:Nat) (h:b≤ln)
 |cutr (l:List D) (a b cs:Nat) (h:a≤b∧b≤l.length∧(l.all fun y=>y.cells.length==cs)=true)
 |mk (l:Int) (h0:0≤l) (h1:l≤1099511627776)
 |app (l:List D) (n:Nat) (h:l.length+n≤549755813888)
 |apps (es:List AV) (ln n:Nat) (h:ln≤es.length∧ln+n≤549755813888)
 |appl (l news:List D) (c:Nat) (h:l.length+news.length≤549755813888∧news.all (fun y=>y.cells.length==c)=true)
 |appsl (es:List AV) (ln:Nat) (nw:List D) (cs:Nat) (h:ln≤es.length∧ln+nw.length≤549755813888∧nw.all (fun y=>y.cells.length==cs)=true∧nw.all D.one=true)
 |appc (ds:List D) (n cs:Nat) (h:ds.length=n∧ds.length≤549755813888∧ds.all (fun y=>y.cells.length==cs)=true∧ds.all D.one=true)
 |appb (l:List D) (s:List UInt8) (h:l.length+s.length≤549755813888)
 |ustr (b:List UInt8) (h:b≠[]∧b.length≤9223372036854775807)
 |call (g:Nat) (ds rs:List D) (h:al P g ds rs)
def tG{P:Program}(a:Option (cf P))(es:List AV)(j:Nat):Option (AV×aq):=
 match a with
 |some (.elt es' b e _)=>some (e,[(.av (.tup es), .av (.tup es')),(.nat j, .nat b)])
 |_=>(es[j]?).map fun e=>(e,[])
theorem gA{P:Program}{a:Option (cf P)}{es:List AV}{j:Nat}{r:AV×aq}(h:tG a es j=some r)(d:Alike r.2):es[j]? =some r.1:=by
 unfold tG at h;split at h
 ·rename_i es' f e b
  simp only[xA]at h;subst h;have c:=d.head;have h2:=d.tail.head;simp only[aL.av.injEq,AV.tup.injEq,aL.nat.injEq]at c h2;subst c;subst h2;exact b
 ·simp only[xB]at h
  obtain⟨e,b,rfl⟩:=h;exact b
def Gm(P:Program)(b:Option (cf P))(t:TypeId)(k v j a:Nat)(h:aa):Option (Out×aq):=
 match (h k).ob with
 |some (.arr sz es)=>
  if sz=1 then
   if a=0 then
    match lU P t with
    |some true=>if j+P.cellsOf t≤es.length then some ({val:=iu ((es.drop j).take (P.cellsOf t)),rd:=[k]},[(.nat (h k).ver, .nat v)])else none
    |some false=>(tG b es j).map fun r=>({val:=r.1,rd:=[k]},(.nat (h k).ver, .nat v)::r.2)
    |none=>none
   else none
  else match tG b es j with
   |some r=>match lU P t with
    |some true=>if a+P.cellsOf t≤sz then some ({val:=iu ((r.1.cells.drop a).take (P.cellsOf t)),rd:=[k]},(.nat (h k).ver, .nat v)::r.2)else none
    |some false=>(r.1.cells[a]?).map fun x=>({val:=x,rd:=[k]},(.nat (h k).ver, .nat v)::r.2)
    |none=>none
   |none=>none
 |_=>none
theorem BH{P:Program}{m:Option (cf P)}{t:TypeId}{k v j l z:Nat}{h:aa}{r:Out×aq}(a:Gm P m t k v j l h=some r)(e:Alike r.2):gu P t (.ptr k v j l z) h=some r.1:=by
 unfold Gm at a;split at a
 ·rename_i sz es d
  split at a
  ·rename_i g
   split at a
   ·rename_i o
    split at a
    ·rename_i b
     split at a
     ·rename_i f
      simp only[xA]at a;subst a;have c:=e.head;simp only[aL.nat.injEq]at c;simp[gu,b,iZ,d,c,g,o,f]
     ·cases a
    ·rename_i b
     simp only[xB]at a;obtain⟨q,n,rfl⟩:=a;have c:=e.head;simp only[aL.nat.injEq]at c;have i:=gA n e.tail;simp[gu,b,d,c,g,o,i]
    ·cases a
   ·cases a
  ·rename_i g
   split at a
   ·rename_i q n
    split at a
    ·rename_i b
     split at a
     ·rename_i f
      simp only[xA]at a;subst a;have c:=e.head;simp only[aL.nat.injEq]at c;have i:=gA n e.tail;simp[gu,b,iZ,d,c,g,i,f]
     ·cases a
    ·rename_i b
     simp only[xB]at a;obtain⟨x,p,rfl⟩:=a;have c:=e.head;simp only[aL.nat.injEq]at c;have i:=gA n e.tail;simp[gu,b,d,c,g,i,p]
    ·cases a
   ·cases a
 ·cases a
def BI(P:Program)(b:Option (cf P))(t:TypeId)(k v j a:Nat)(x:AV)(h:aa):Option (Out×aq):=
 match (h k).ob with
 |some (.arr sz es)=>
  if x.stor=true∧x.cells.length=P.cellsOf t∧cR P t=true then
   if sz=1 then
    if a=0 then
     (if x.one then match tG b es j with
      |some r=>some ({val:= .junk,rd:=[k],wr:=[(k,⟨v,some (.arr sz (es.set j x))⟩)]},(.nat (h k).ver, .nat v)::r.2)
      |none=>none
      else if j+x.cells.length≤es.length then some ({val:= .junk,rd:=[k],wr:=[(k,⟨v,some (.arr sz (es.take j ++x.cells ++es.drop (j+x.cells.length)))⟩)]},[(.nat (h k).ver, .nat v)])else none)
    else none
   else match tG b es j with
    |some r=>
     if a=0∧x.cells.length=sz then some ({val:= .junk,rd:=[k],wr:=[(k,⟨v,some (.arr sz (es.set j x))⟩)]},(.nat (h k).ver, .nat v)::r.2)
     else if a+x.cells.length≤sz then some ({val:= .junk,rd:=[k],wr:=[(k,⟨v,some (.arr sz (es.set j (iu (r.1.cells.take a ++x.cells ++r.1.cells.drop (a+x.cells.length)))))⟩)]},(.nat (h k).ver, .nat v)::r.2)else none
    |none=>none
  else none
 |_=>none
theorem zg{P:Program}{o:Option (cf P)}{t:TypeId}{k v j n z:Nat}{x:AV}{h:aa}{r:Out×aq}(a:BI P o t k v j n x h=some r)(g:Alike r.2):eM P t (.ptr k v j n z) x h=some r.1:=by
 unfold BI at a;split at a
 ·rename_i sz es f
  split at a
  ·rename_i y
   obtain⟨c1,i,p⟩:=y;split at a
   ·rename_i l
    split at a
    ·rename_i w
     split at a
     ·rename_i e
      split at a
      ·rename_i q s
       simp only[xA]at a;subst a;have c:=g.head;simp only[aL.nat.injEq]at c;have m:=gA s g.tail;have u:j<es.length:=(xE.1 m).1;simp[eM,f,c,c1,i,p,l,w,e,u]
      ·cases a
     ·rename_i e
      split at a
      ·rename_i d
       simp only[xA]at a;subst a;have c:=g.head;simp only[aL.nat.injEq]at c;rw[i]at d;simp[eM,f,c,c1,i,p,l,w,e,d]
      ·cases a
    ·cases a
   ·rename_i l
    split at a
    ·rename_i q s
     split at a
     ·rename_i b
      simp only[xA]at a;subst a;have c:=g.head;simp only[aL.nat.injEq]at c;have m:=gA s g.tail;rw[i]at b;simp[eM,f,c,c1,i,p,l,m,b]
     ·rename_i b
      split at a
      ·rename_i d
       simp only[xA]at a;subst a;have c:=g.head;simp only[aL.nat.injEq]at c;have m:=gA s g.tail;rw[i]at b d;simp only[eM,f,c,c1,i,p,l,m];simp[b,d]
      ·cases a
    ·cases a
  ·cases a
 ·cases a
theorem fJ(P:Program)(t:TypeId):pH P t t=true:=by simp[pH]
theorem cS{P:Program}{obm:Bool}{t:TypeId}{s x:AV}{k:Nat}{h:aa}(a:kJ P t=false):cN P obm t s x k h=bH P obm t s x k h:=by
 unfold cN;cases bH P obm t s x k h with
 |none=>rfl
 |some o=>simp[a]
def N3(P:Program)(c:Call)(ρ:Operand→AV)(h:aa)(l:List D)(n:Nat):Option (Out×aq):=
 match c.callee,c.args.toList,c.argTypes.toList with
 | .builtin .append,[s,x],[t,b]=>
  if t=b∧kJ P t=false then match P.underlying t with
   |some (.slice e)=>match hK h (ρ x),db P e,ρ s with
    |some (news,a),some z, .vec k v sz l'=>
     if news.all (fun y=>y.cells.length==P.cellsOf e)=true∧0<P.cellsOf e∧P.bytesOf e≤256∧z.cells.size=P.cellsOf e then
      if (h k).ob.isNone=true∧k∉a∧sz=P.cellsOf e then
       some ({val:= .vec k (v+1) sz (l' ++news),rd:=k::a,wr:=[(k,⟨v+1,none⟩)]},[(.nat (h k).ver, .nat v),(.ds l', .ds l),(.nat news.length, .nat n)])
      else none
     else none
    |_,_,_=>none
   |_=>none
  else none
 |_,_,_=>none
theorem EL{P:Program}{cfg:hQ}{i:Nat}{c:Call}{ρ:Operand→AV}{h:aa}{l:List D}{n k:Nat}{r:Out×aq}(a:N3 P c ρ h l n=some r)(o:Alike r.2)(A:l.length+n≤549755813888):a7 P cfg i c ρ h k=some r.1:=by
 unfold N3 at a;split at a;case h_2=>cases a
 rename_i s x t F j f m;split at a;case isFalse=>cases a
 rename_i b;obtain⟨b,p⟩:=b;subst b;split at a;case h_2=>cases a
 rename_i e B;split at a;case h_2=>cases a
 rename_i news G z H v sz l' g E y;split at a;case isFalse=>cases a
 rename_i C;split at a;case isFalse=>cases a
 rename_i d;simp only[xA]at a;subst a;have u:=o.head;have w:=o.tail.head;have q:=o.tail.tail.head;simp only[aL.nat.injEq,aL.ds.injEq]at u w q;subst w;subst q;simp only[a7,j,f,m,fJ,cS p,bH,B,g,E,y,yS];rw[x9 C,x9 ⟨u,d.1,d.2.1,d.2.2,A⟩]
def Gn(P:Program)(c:Call)(ρ:Operand→AV)(h:aa)(l a:List D)(cs:Nat):Option (Out×aq):=
 match c.callee,c.args.toList,c.argTypes.toList with
 | .builtin .append,[s,x],[t,d]=>
  if t=d∧kJ P t=false then match P.underlying t with
   |some (.slice e)=>match hK h (ρ x),db P e,ρ s with
    |some (news,b),some z, .vec k v sz l'=>
     if 0<P.cellsOf e∧P.bytesOf e≤256∧z.cells.size=P.cellsOf e then
      if (h k).ob.isNone=true∧k∉b∧sz=P.cellsOf e then
       some ({val:= .vec k (v+1) sz (l' ++a),rd:=k::b,wr:=[(k,⟨v+1,none⟩)]},[(.nat (h k).ver, .nat v),(.ds l', .ds l),(.ds news, .ds a),(.nat (P.cellsOf e), .nat cs)])
      else none
     else none
    |_,_,_=>none
   |_=>none
  else none
 |_,_,_=>none
theorem BJ{P:Program}{cfg:hQ}{i:Nat}{c:Call}{ρ:Operand→AV}{h:aa}{l p:List D}{cs k:Nat}{r:Out×aq}(a:Gn P c ρ h l p cs=some r)(n:Alike r.2)(C:l.length+p.length≤549755813888∧p.all (fun y=>y.cells.length==cs)=true):a7 P cfg i c ρ h k=some r.1:=by
 unfold Gn at a;split at a;case h_2=>cases a
 rename_i s x t I m f o;split at a;case isFalse=>cases a
 rename_i b;obtain⟨b,q⟩:=b;subst b;split at a;case h_2=>cases a
 rename_i e F;split at a;case h_2=>cases a
 rename_i news J z K v sz l' g H E;split at a;case isFalse=>cases a
 rename_i G;split at a;case isFalse=>cases a
 rename_i d;simp only[xA]at a;subst a;have w:=n.head;have A:=n.tail.head;have u:=n.tail.tail.head;have B:=n.tail.tail.tail.head;simp only[aL.nat.injEq,aL.ds.injEq]at w A u B;subst A;subst u;have j:news.all (fun y=>y.cells.length==P.cellsOf e)=true:=by rw[B];exact C.2
 simp only[a7,m,f,o,fJ,cS q,bH,F,g,H,E,yS];rw[x9 ⟨j,G⟩,x9 ⟨w,d.1,d.2.1,d.2.2,C.1⟩]
def N4(P:Program)(c:Call)(ρ:Operand→AV)(h:aa)(es:List AV)(ln n:Nat):Option (Out×aq):=
 match c.callee,c.args.toList,c.argTypes.toList with
 | .builtin .append,[s,x],[t,g]=>
  if t=g∧kJ P t=false then match P.underlying t with
   |some (.slice e)=>match hK h (ρ x),db P e,ρ s with
    |some (news,f),some z, .sl k v b a _=>match (h k).ob with
     |some (.arr sz es')=>
      if news.all (fun y=>y.cells.length==P.cellsOf e)=true∧0<P.cellsOf e∧P.bytesOf e≤256∧z.cells.size=P.cellsOf e then
       if b=0∧sz=P.cellsOf e∧(sz=1→news.all D.one=true)then
        some ({val:= .sl k (v+1) 0 (a+news.length) sz,rd:=k::f,wr:=[(k,⟨v+1,some (.arr sz (es'.take a ++news.map .d))⟩)]},[(.nat (h k).ver, .nat v),(.av (.tup es'), .av (.tup es)),(.nat a, .nat ln),(.nat news.length, .nat n)])
       else none
      else none
     |_=>none
    |_,_,_=>none
   |_=>none
  else none
 |_,_,_=>none
theorem EM{P:Program}{cfg:hQ}{i:Nat}{c:Call}{ρ:Operand→AV}{h:aa}{es:List AV}{ln n k:Nat}{r:Out×aq}(a:N4 P c ρ h es ln n=some r)(l:Alike r.2)(A:ln≤es.length∧ln+n≤549755813888):a7 P cfg i c ρ h k=some r.1:=by
 unfold N4 at a;split at a;case h_2=>cases a
 rename_i s x t H j f o;split at a;case isFalse=>cases a
 rename_i b;obtain⟨b,p⟩:=b;subst b;split at a;case h_2=>cases a
 rename_i e D;split at a;case h_2=>cases a
 rename_i news I z K v B G J g F C;split at a;case h_2=>cases a
 rename_i sz es' m;split at a;case isFalse=>cases a
 rename_i E;split at a;case isFalse=>cases a
 rename_i d;simp only[xA]at a;subst a;have u:=l.head;have w:=l.tail.head;have q:=l.tail.tail.head;have y:=l.tail.tail.tail.head;simp only[aL.nat.injEq,aL.av.injEq,AV.tup.injEq]at u w q y;subst w;subst q;subst y;simp only[a7,j,f,o,fJ,cS p,bH,D,g,F,C,yS,m];rw[x9 E,x9 ⟨u,d.1,A.1,d.2.1,A.2,d.2.2⟩]
def N5(P:Program)(c:Call)(ρ:Operand→AV)(h:aa)(es:List AV)(ln n:Nat):Option (Out×aq):=
 match c.callee,c.args.toList,c.argTypes.toList with
 | .builtin .append,[s,x],[t,m]=>
  if t=m then match P.underlying t with
   |some (.slice e)=>match db P e,ρ s,ρ x with
    |some z, .sl k v g a _, .sl f l d b _=>match (h k).ob,(h f).ob with
     |some (.arr sz es'),some (.arr i [j])=>
      if g=0∧sz=1∧d=0∧b=1∧i=1∧P.cellsOf e=1∧P.bytesOf e≤256∧z.cells.size=1∧j.isRef=true then
       some ({val:= .sl k (v+1) 0 (a+1) 1,rd:=[k,f],wr:=[(k,⟨v+1,some (.arr 1 (es'.take a ++[j]))⟩)]},[(.nat (h k).ver, .nat v),(.av (.tup es'), .av (.tup es)),(.nat a, .nat ln),(.nat 1, .nat n),(.nat (h f).ver, .nat l)])
      else none
     |_,_=>none
    |_,_,_=>none
   |_=>none
  else none
 |_,_,_=>none
theorem EN{P:Program}{cfg:hQ}{i:Nat}{c:Call}{ρ:Operand→AV}{h:aa}{es:List AV}{ln n k:Nat}{r:Out×aq}(a:N5 P c ρ h es ln n=some r)(f:Alike r.2)(D:ln≤es.length∧ln+n≤549755813888):a7 P cfg i c ρ h k=some r.1:=by
 unfold N5 at a;split at a;case h_2=>cases a
 rename_i s x t O j d o;split at a;case isFalse=>cases a
 rename_i l;subst l;split at a;case h_2=>cases a
 rename_i e J;split at a;case h_2=>cases a
 rename_i z V v G N Q R U F E T M I H;split at a;case h_2=>cases a
 rename_i sz es' L S m b;split at a;case isFalse=>cases a
 rename_i K;obtain⟨rfl,rfl,rfl,rfl,rfl,p,q,u,g⟩:=K;simp only[xA]at a;subst a;have y:=f.head;have B:=f.tail.head;have w:=f.tail.tail.head;have C:=f.tail.tail.tail.head;have A:=f.tail.tail.tail.tail.head;simp only[aL.nat.injEq,aL.av.injEq,AV.tup.injEq]at y B w C A;subst B;subst w;subst C;simp only[a7,j,d,o,fJ,yS,I,H];rw[iy g b];simp only[ei,J,M,m,b];rw[x9 ⟨y,trivial,D.1,trivial,A,trivial,trivial,trivial,p,q,u,D.2,g⟩]
def Gp(P:Program)(c:Call)(ρ:Operand→AV)(h:aa)(es:List AV)(ln:Nat)(f:List D)(cs:Nat):Option (Out×aq):=
 match c.callee,c.args.toList,c.argTypes.toList with
 | .builtin .append,[s,x],[t,i]=>
  if t=i∧kJ P t=false then match P.underlying t with
   |some (.slice e)=>match hK h (ρ x),db P e,ρ s with
    |some (news,g),some z, .sl k v b a _=>match (h k).ob with
     |some (.arr sz es')=>
      if 0<P.cellsOf e∧P.bytesOf e≤256∧z.cells.size=P.cellsOf e then
       if b=0∧sz=P.cellsOf e then
        some ({val:= .sl k (v+1) 0 (a+f.length) sz,rd:=k::g,wr:=[(k,⟨v+1,some (.arr sz (es'.take a ++f.map .d))⟩)]},[(.nat (h k).ver, .nat v),(.av (.tup es'), .av (.tup es)),(.nat a, .nat ln),(.ds news, .ds f),(.nat (P.cellsOf e), .nat cs)])
       else none
      else none
     |_=>none
    |_,_,_=>none
   |_=>none
  else none
 |_,_,_=>none
theorem BK{P:Program}{cfg:hQ}{i:Nat}{c:Call}{ρ:Operand→AV}{h:aa}{es:List AV}{ln cs k:Nat}{m:List D}{r:Out×aq}(a:Gp P c ρ h es ln m cs=some r)(g:Alike r.2)(n:ln≤es.length∧ln+m.length≤549755813888∧m.all (fun y=>y.cells.length==cs)=true∧m.all D.one=true):a7 P cfg i c ρ h k=some r.1:=by
 unfold Gp at a;split at a;case h_2=>cases a
 rename_i s x t K l d p;split at a;case isFalse=>cases a
 rename_i b;obtain⟨b,q⟩:=b;subst b;split at a;case h_2=>cases a
 rename_i e G;split at a;case h_2=>cases a
 rename_i news L z N v E J M f I F;split at a;case h_2=>cases a
 rename_i sz es' o;split at a;case isFalse=>cases a
 rename_i H;split at a;case isFalse=>cases a
 rename_i j;simp only[xA]at a;subst a;have w:=g.head;have B:=g.tail.head;have u:=g.tail.tail.head;have C:=g.tail.tail.tail.head;have A:=g.tail.tail.tail.tail.head;simp only[aL.nat.injEq,aL.av.injEq,AV.tup.injEq,aL.ds.injEq]at w B u C A;subst B;subst u;subst C;simp only[a7,l,d,p,fJ,cS q,bH,G,f,I,F,yS,o];rw[x9 ⟨by rw[A];exact n.2.2.1,H⟩,x9 ⟨w,j.1,n.1,j.2,n.2.1,fun _=>n.2.2.2⟩]
def N6(P:Program)(cfg:hQ)(i:Nat)(c:Call)(ρ:Operand→AV)(h:aa)(ds:List D)(n cs k:Nat):Option (Out×aq):=
 match c.callee,c.args.toList,c.argTypes.toList with
 | .builtin .append,[s,x],[t,q]=>
  if t=q∧kJ P t=false then match P.underlying t with
   |some (.slice e)=>match ρ x,db P e with
    | .sl b m o f _,some z=>match (h b).ob with
     |some (.arr _ es')=>
      if 0<P.cellsOf e∧P.bytesOf e≤256∧z.cells.size=P.cellsOf e∧o=0 then
       match ρ s with
       | .es=>
        if k≠b then
         some (if cfg.obm i then {val:= .sl k ((h k).ver+1) 0 n (P.cellsOf e),rd:=[k,b],wr:=[newOb h k (P.cellsOf e) (ds.map .d)]}else {val:= .d (.ro ds),rd:=[b]},[(.nat (h b).ver, .nat m),(.av (.tup es'), .av (.tup (ds.map .d))),(.nat f, .nat n),(.nat (P.cellsOf e), .nat cs)])
        else none
       | .vec a g sz []=>
        if (h a).ob.isNone=true∧a≠b∧sz=P.cellsOf e then
         some ({val:= .vec a (g+1) sz ([] ++ds),rd:=[a,b],wr:=[(a,⟨g+1,none⟩)]},[(.nat (h b).ver, .nat m),(.av (.tup es'), .av (.tup (ds.map .d))),(.nat f, .nat n),(.nat (P.cellsOf e), .nat cs),(.nat (h a).ver, .nat g)])
        else none
       | .sl a g j l _=>match (h a).ob with
        |some (.arr sz p)=>
         if j=0∧l=0∧sz=P.cellsOf e then
          some ({val:= .sl a (g+1) 0 n sz,rd:=[a,b],wr:=[(a,⟨g+1,some (.arr sz (p.take 0 ++ds.map .d))⟩)]},[(.nat (h b).ver, .nat m),(.av (.tup es'), .av (.tup (ds.map .d))),(.nat f, .nat n),(.nat (P.cellsOf e), .nat cs),(.nat (h a).ver, .nat g)])
         else none
        |_=>none
       |_=>none
      else none
     |_=>none
    |_,_=>none
   |_=>none
  else none
 |_,_,_=>none
theorem CY(n:Nat)(h:aa):∀ds:List D,view.go (n+1) h (ds.map .d)=some (ds,[])
 |[]=>rfl
 |d::r=>by
  have:=CY n h r;simp only[xN,view.go,eD,view]at this ⊢;rw[this];rfl
theorem EO{P:Program}{cfg:hQ}{i:Nat}{c:Call}{ρ:Operand→AV}{h:aa}{n cs k:Nat}{ds:List D}{r:Out×aq}(a:N6 P cfg i c ρ h ds n cs k=some r)(l:Alike r.2)(Z:ds.length=n∧ds.length≤549755813888∧ds.all (fun y=>y.cells.length==cs)=true∧ds.all D.one=true):a7 P cfg i c ρ h k=some r.1:=by
 obtain⟨v,G⟩:=Z;unfold N6 at a;split at a;case h_2=>cases a
 rename_i s x t t' o j A;split at a;case isFalse=>cases a
 rename_i w;obtain⟨w,E⟩:=w;subst w;split at a;case h_2=>cases a
 rename_i e S;split at a;case h_2=>cases a
 rename_i U X off O sz z hx T;split at a;case h_2=>cases a
 rename_i sz2 es' M;split at a;case isFalse=>cases a
 rename_i hc;obtain⟨B,C,F,rfl⟩:=hc
 have src:∀(m:(h U).ver=X)(q:es'=ds.map .d)(p:O=n),hK h (ρ x)=some (ds,[U]):=by
  rintro m rfl rfl;subst v;rw[hx];simp only[hK,M];rw[x9 ⟨m,by simp⟩,yM,←(show(ds.map AV.d).length=ds.length from xO ..),List.take_length,CY];rfl
 split at a
 ·rename_i K
  split at a;case isFalse=>cases a
  rename_i g;simp only[xA]at a;subst a;have m:=l.head;have q:=l.tail.head;have p:=l.tail.tail.head;have u:=l.tail.tail.tail.head;simp only[aL.nat.injEq,aL.av.injEq,AV.tup.injEq]at m q p u;have b:=src m q p;have f:ds.all (fun y=>y.cells.length==P.cellsOf e)=true:=by rw[u];exact G.2.1
  have R:¬(k∈[U]∨549755813888<ds.length):=by
   rintro(J|J)
   ·exact g (by simpa using J)
   ·omega
  have H:¬(P.cellsOf e=1∧ds.all D.one=false):=fun J=>by rw[G.2.2]at J;exact absurd J.2 (by simp)
  simp only[a7,o,j,A,fJ,cS E,bH,S,b,T,K,yS];rw[x9 ⟨f,B,C,F⟩,xj R];rw[←v];cases cfg.obm i with
  |true=>simp only[yS];rw[xj H]
  |false=>simp
 ·rename_i k1 v1 N K
  split at a;case isFalse=>cases a
  rename_i g;simp only[xA]at a;subst a;have m:=l.head;have q:=l.tail.head;have p:=l.tail.tail.head;have u:=l.tail.tail.tail.head;have I:=l.tail.tail.tail.tail.head;simp only[aL.nat.injEq,aL.av.injEq,AV.tup.injEq]at m q p u I;have b:=src m q p;have f:ds.all (fun y=>y.cells.length==P.cellsOf e)=true:=by rw[u];exact G.2.1
  simp only[a7,o,j,A,fJ,cS E,bH,S,b,T,K,yS];rw[x9 ⟨f,B,C,F⟩,x9 ⟨I,g.1,by simpa using g.2.1,g.2.2,by simpa using G.1⟩]
 ·rename_i k1 v1 V W N K
  split at a;case h_2=>cases a
  rename_i Y es1 L;split at a;case isFalse=>cases a
  rename_i g;simp only[xA]at a;subst a;obtain⟨rfl,rfl,Q⟩:=g;have m:=l.head;have q:=l.tail.head;have p:=l.tail.tail.head;have u:=l.tail.tail.tail.head;have I:=l.tail.tail.tail.tail.head;simp only[aL.nat.injEq,aL.av.injEq,AV.tup.injEq]at m q p u I;have b:=src m q p;have f:ds.all (fun y=>y.cells.length==P.cellsOf e)=true:=by rw[u];exact G.2.1
  simp only[a7,o,j,A,fJ,cS E,bH,S,b,T,K,yS,L];rw[x9 ⟨f,B,C,F⟩,x9 ⟨I,trivial,xz _,Q,by omega,fun _=>G.2.2⟩,←v,xb]
 ·cases a
def N7(P:Program)(c:Call)(ρ:Operand→AV)(h:aa)(l:List D)(s:List UInt8):Option (Out×aq):=
 match c.callee,c.args.toList,c.argTypes.toList with
 | .builtin .append,[a,x],[t,f]=>
  if pH P t f=true∧kJ P t=true then match P.underlying t with
   |some (.slice e)=>match hK h (ρ x),db P e,ρ a with
    |some (news,b),some z, .vec k v sz l'=>match (h (fQ k)).ob with
     |some (.typ d g T none)=>
      if P.cellsOf e=1∧P.bytesOf e≤256∧z.cells.size=1∧sz=1∧(h k).ob.isNone=true∧k∉b∧d=k∧T=e then
       some ({val:= .vec k (v+1) sz (l' ++s.map bx),rd:=fQ k::k::fQ k::k::b,wr:=[(k,⟨v+1,none⟩),(fQ k,⟨(h (fQ k)).ver,some (.typ k (v+1) e none)⟩)]},[(.nat (h k).ver, .nat v),(.nat g, .nat v),(.ds l', .ds l),(.ds news, .ds (s.map bx))])
      else none
     |_=>none
    |_,_,_=>none
   |_=>none
  else none
 |_,_,_=>none
theorem BL(s:List UInt8):(s.map bx).all (fun y=>y.cells.length==1)=true:=by
 rw[xa];intro y a;obtain⟨b,_,rfl⟩:=xi.1 a;rfl
theorem EP{P:Program}{cfg:hQ}{i:Nat}{c:Call}{ρ:Operand→AV}{h:aa}{l:List D}{s:List UInt8}{k:Nat}{r:Out×aq}(b:N7 P c ρ h l s=some r)(q:Alike r.2)(M:l.length+s.length≤549755813888):a7 P cfg i c ρ h k=some r.1:=by
 unfold N7 at b;split at b;case h_2=>cases b
 rename_i a x t W o g w;split at b;case isFalse=>cases b
 rename_i f;obtain⟨f,A⟩:=f;split at b;case h_2=>cases b
 rename_i e F;split at b;case h_2=>cases b
 rename_i news G z X v sz l' m U L;split at b;case h_2=>cases b
 rename_i d j T u;split at b;case isFalse=>cases b
 rename_i Q;obtain⟨c1,H,N,S,K,V,I,R⟩:=Q;simp only[xA]at b;subst b;have p:=q.head;have C:=q.tail.head;have B:=q.tail.tail.head;have E:=q.tail.tail.tail.head;simp only[aL.nat.injEq,aL.ds.injEq]at p C B E;subst C;subst B;subst E;subst I;subst R;subst S;have n:(s.map bx).all (fun y=>y.cells.length==P.cellsOf T)=true:=by rw[c1];exact BL s
 have J:bH P (cfg.obm i) t (ρ a) (ρ x) k h=some {val:= .vec d (j+1) 1 (l' ++s.map bx),rd:=d::G,wr:=[(d,⟨j+1,none⟩)]}:=by
  simp only[bH,F,m,U,L];rw[x9 ⟨n,by omega,H,by rw[c1];exact N⟩,x9 ⟨p,K,V,c1.symm,by rw[xO];exact M⟩]
 have O:cN P (cfg.obm i) t (ρ a) (ρ x) k h=some {val:= .vec d (j+1) 1 (l' ++s.map bx),rd:=fQ d::d::fQ d::d::G,wr:=[(d,⟨j+1,none⟩),(fQ d,⟨(h (fQ d)).ver,some (.typ d (j+1) T none)⟩)]}:=by
  unfold cN;rw[J,A,F];dsimp only;rw[x9 ⟨by rw[p], .inr (by unfold kg;rw[u];dsimp only;rw[x9 ⟨rfl,p.symm⟩])⟩];unfold cC;rw[x9 ⟨rfl,by simp[fQ]⟩];rfl
 simp only[a7,o,g,w,f,yS,O]
def Gs(P:Program)(c:Call)(ρ:Operand→AV)(h:aa)(b:List UInt8):Option (Out×aq):=
 match c.callee,c.args.toList,c.argTypes.toList with
 | .builtin .unsafeString,[x,n],[f,_]=>match P.underlying f,ρ x,ρ n with
  |some (.pointer u), .vp k v l, .d (.int .i64 m)=>match (h (fQ k)).ob with
   |some (.typ a e T none)=>
    if a=k∧T=u∧P.cellsOf u=1 then some ({val:= .d (.str b),rd:=[k,fQ k],wr:=kill h [k]},[(.nat (h k).ver, .nat v),(.nat e, .nat v),(.ds l, .ds (b.map bx)),(.av (.d (.int .i64 m)), .av (.d (.int .i64 ((b.map bx).length:Int))))])
    else none
   |_=>none
  |_,_,_=>none
 |_,_,_=>none
theorem pu:∀b:List UInt8,my (b.map bx)=some b
 |[]=>rfl
 |c::r=>by
  simp only[xN,bx,my,xo,UInt8.ofNat_toNat,yS];rw[pu r];rfl
theorem BM{P:Program}{cfg:hQ}{i:Nat}{c:Call}{ρ:Operand→AV}{h:aa}{b:List UInt8}{k:Nat}{r:Out×aq}(a:Gs P c ρ h b=some r)(g:Alike r.2)(w:b≠[]∧b.length≤9223372036854775807):a7 P cfg i c ρ h k=some r.1:=by
 unfold Gs at a;split at a;case h_2=>cases a
 rename_i x n I H f e o;split at a;case h_2=>cases a
 rename_i u J v l m C A hm;split at a;case h_2=>cases a
 rename_i G y T j;split at a;case isFalse=>cases a
 rename_i E;obtain⟨c1,z,B⟩:=E;simp only[xA]at a;subst a;have q:=g.head;have s:=g.tail.head;have p:=g.tail.tail.head;have t:=g.tail.tail.tail.head;simp only[aL.nat.injEq,aL.ds.injEq,aL.av.injEq,AV.d.injEq,D.int.injEq,true_and]at q s p t;subst s;subst p;subst t;subst c1;subst z;have F:kg h G y=some (T,none):=by unfold kg;rw[j];dsimp only;rw[x9 ⟨rfl,rfl⟩]
 simp only[a7,f,e,o,dc,C,A,hm,F,pu];rw[x9 ⟨q,trivial,by simpa using w.1,trivial,B,by rw[xO];exact w.2⟩]
def N8(P:Program)(c:Call)(ρ:Operand→AV)(h:aa):Option (Out×aq):=
 match c.callee,c.args.toList,c.argTypes.toList with
 | .builtin .len,[x],[t]=>match ρ x with
  | .mp k v=>match P.underlying t with
   |some (.map _ _)=>match (h k).ob with
    |some (.map es _)=>some ({val:= .d (.int .i64 (es.length:Int)),rd:=[k]},[(.nat (h k).ver, .nat v)])
    |_=>none
   |_=>none
  |_=>none
 |_,_,_=>none
theorem EQ{P:Program}{cfg:hQ}{i:Nat}{c:Call}{ρ:Operand→AV}{h:aa}{k:Nat}{r:Out×aq}(d:N8 P c ρ h=some r)(m:Alike r.2):a7 P cfg i c ρ h k=some r.1:=by
 unfold N8 at d;split at d;case h_2=>cases d
 rename_i x t f e j;split at d;case h_2=>cases d
 rename_i q v p;split at d;case h_2=>cases d
 rename_i a b o;split at d;case h_2=>cases d
 rename_i es n g;simp only[xA]at d;subst d;have l:=m.head;simp only[aL.nat.injEq]at l;simp only[a7,f,e,j,p,fX,o,g];rw[x9 l]
def Ri:AV→Option (List D)
 | .d (.ro l)| .vec _ _ _ l=>some l
 |_=>none
def CZ(P:Program)(f:Option (cf P))(cfg:hQ)(i:Nat)(o:Oper)(ρ:Operand→AV)(h:aa):Option (Out×aq):=
 match o.op with
 | .load t a=>match ρ a with
  | .ptr k v j g _=>Gm P f t k v j g h
  |_=>(bU P cfg i o ρ h).map fun r=>(r,[])
 | .store t a x=>match ρ a with
  | .ptr k v j g _=>BI P f t k v j g (ρ x) h
  |_=>(bU P cfg i o ρ h).map fun r=>(r,[])
 | .indexAddr t x B=>match f with
  |some (.idx l i y _ _)=>match P.underlying t,ρ B,Ri (ρ x)with
   |some (.slice e), .d (.int _ A),some l'=>if y.cells.length=P.cellsOf e∧cR P e=true then some ({val:= .d (.rp y.cells)},[(.ds l', .ds l),(.av (.d (.int .i64 A)), .av (.d (.int .i64 i)))])else none
   |_,_,_=>none
  |some (.inb i n _ _)=>match P.underlying t,ρ B,ρ x with
   |some (.slice e), .d (.int _ A), .sl k v g w sz=>if sz=P.cellsOf e∧cR P e=true then some ({val:= .ptr k v (g+A.toNat) 0 sz},[(.av (.d (.int .i64 A)), .av (.d (.int .i64 i))),(.nat w, .nat n)])else none
   |some (.array J e), .d (.int _ A), .ptr k v j g sz=>if sz=1∧g=0∧cR P e=true then some ({val:= .ptr k v (j+A.toNat*P.cellsOf e) 0 sz},[(.av (.d (.int .i64 A)), .av (.d (.int .i64 i))),(.nat J, .nat n)])else none
   |_,_,_=>none
  |_=>(bU P cfg i o ρ h).map fun r=>(r,[])
 | .call c=>match f with
  |some (.app l n _)=>N3 P c ρ h l n
  |some (.apps es ln n _)=>match N5 P c ρ h es ln n with
   |some r=>some r
   |none=>N4 P c ρ h es ln n
  |some (.appl l I cs _)=>Gn P c ρ h l I cs
  |some (.appsl es ln I cs _)=>Gp P c ρ h es ln I cs
  |some (.appc ds n cs _)=>N6 P cfg i c ρ h ds n cs (cfg.base i+o.dst.getD 0)
  |some (.appb l s _)=>N7 P c ρ h l s
  |some (.ustr b _)=>Gs P c ρ h b
  |_=>match N8 P c ρ h with
   |some r=>some r
   |none=>(bU P cfg i o ρ h).map fun r=>(r,[])
 | .lookup t m p ok=>match f with
  |some (.look x es r _)=>match P.underlying t,ρ m,ρ p with
   |some (.map kt et), .mp k v, .d kd=>match (h k).ob with
    |some (.map es' _)=>
     if jp P kt kd=true then
      match r with
      |some (_,y)=>some ({val:=if ok=true then .tup [.d y, .d (.bool true)]else .d y,rd:=[k]},[(.nat (h k).ver, .nat v),(.mp es', .mp es),(.ds [kd], .ds [x])])
      |none=>match db P et with
       |some z=>some ({val:=if ok=true then .tup [J0 z, .d (.bool false)]else J0 z,rd:=[k]},[(.nat (h k).ver, .nat v),(.mp es', .mp es),(.ds [kd], .ds [x])])
       |none=>none
     else none
    |_=>none
   |_,_,_=>none
  |_=>(bU P cfg i o ρ h).map fun r=>(r,[])
 | .mapUpdate t m p x=>match f with
  |some (.look E q none _)=>match P.underlying t,ρ m,ρ p,ρ x with
   |some (.map kt _), .mp k v, .d kd, .d D=>match (h k).ob with
    |some (.map es' c)=>
     if jp P kt kd=true then some ({val:= .junk,rd:=[k],wr:=[(k,⟨v,some (.map (es' ++[(kd,D,c)]) (c+1))⟩)]},[(.nat (h k).ver, .nat v),(.mp es', .mp q),(.ds [kd], .ds [E])])
     else none
    |_=>none
   |_,_,_,_=>none
  |some (.look E q (some (B,_)) _)=>match P.underlying t,ρ m,ρ p,ρ x with
   |some (.map kt _), .mp k v, .d kd, .d D=>match (h k).ob with
    |some (.map es' c)=>
     if jp P kt kd=true then some ({val:= .junk,rd:=[k],wr:=[(k,⟨v,some (.map (eE kd D B es') c)⟩)]},[(.nat (h k).ver, .nat v),(.mp es', .mp q),(.ds [kd], .ds [E])])
     else none
    |_=>none
   |_,_,_,_=>none
  |_=>(bU P cfg i o ρ h).map fun r=>(r,[])
 | .insert t m p x=>match f with
  |some (.look E q none _)=>match P.underlying t,ρ m,ρ p,ρ x with
   |some (.map kt _), .mp k v, .d kd, .d D=>match (h k).ob with
    |some (.map es' c)=>
     if jp P kt kd=true then some ({val:= .junk,rd:=[k],wr:=[(k,⟨v,some (.map (es' ++[(kd,D,c)]) (c+1))⟩)]},[(.nat (h k).ver, .nat v),(.mp es', .mp q),(.ds [kd], .ds [E])])
     else none
    |_=>none
   |_,_,_,_=>none
  |some (.look E q (some (B,_)) _)=>match P.underlying t,ρ m,ρ p,ρ x with
   |some (.map kt _), .mp k v, .d kd, .d D=>match (h k).ob with
    |some (.map es' c)=>
     if jp P kt kd=true then some ({val:= .junk,rd:=[k],wr:=[(k,⟨v,some (.map (eE kd D B es') c)⟩)]},[(.nat (h k).ver, .nat v),(.mp es', .mp q),(.ds [kd], .ds [E])])
     else none
    |_=>none
   |_,_,_,_=>none
  |_=>(bU P cfg i o ρ h).map fun r=>(r,[])
 | .index t x B=>match f with
  |some (.sidx s i b _ _)=>match P.underlying t,ρ x,ρ B with
   |some .string, .d (.str F), .d (.int _ A)=>some ({val:= .d (.int .u8 (b.toNat:Int))},[(.av (.d (.str F)), .av (.d (.str s))),(.av (.d (.int .i64 A)), .av (.d (.int .i64 i)))])
   |_,_,_=>none
  |_=>(bU P cfg i o ρ h).map fun r=>(r,[])
 | .slice t x H G K=>match f,K with
  |some (.sub s a b _),none=>match P.underlying t,ρ x,dQ (H.map ρ) 0 with
   |some .string, .d (.str F),some C=>match dQ (G.map ρ) F.length with
    |some u=>some ({val:= .d (.str ((F.take u).drop C))},[(.av (.d (.str F)), .av (.d (.str s))),(.nat C, .nat a),(.nat u, .nat b)])
    |none=>none
   |_,_,_=>none
  |some (.cutl l b _),none=>match P.underlying t,ρ x,dQ (H.map ρ) 0 with
   |some (.slice e), .d (.ro l'),some 0=>if cR P e=false then none else match dQ (G.map ρ) l'.length with
    |some u=>some ({val:= .d (.ro ((l'.take u).drop 0))},[(.ds l', .ds l),(.nat u, .nat b)])
    |none=>none
   |_,_,_=>none
  |some (.cutr l a b cs _),none=>match P.underlying t,ρ x,dQ (H.map ρ) 0 with
   |some (.slice e), .d (.ro l'),some C=>if cR P e=false then none else match dQ (G.map ρ) l'.length with
    |some u=>some ({val:= .d (.ro ((l'.take u).drop C))},[(.ds l', .ds l),(.nat C, .nat a),(.nat u, .nat b),(.nat (P.cellsOf e), .nat cs)])
    |none=>none
   |_,_,_=>none
  |some (.cuts ln b _),none=>match P.underlying t,ρ x,dQ (H.map ρ) 0 with
   |some (.slice e), .sl k v g w sz,some 0=>if cR P e=false then none else match dQ (G.map ρ) w with
    |some u=>some ({val:= .sl k v g u sz},[(.nat w, .nat ln),(.nat u, .nat b)])
    |none=>none
   |_,_,_=>none
  |_,_=>(bU P cfg i o ρ h).map fun r=>(r,[])
 | .binOp .add t x y _=>match f with
  |some (.cat a b _)=>match ρ x,ρ y with
   | .d (.str C), .d (.str u)=>some ({val:= .d (.str (C ++u))},[(.av (.d (.str C)), .av (.d (.str a))),(.av (.d (.str u)), .av (.d (.str b)))])
   |_,_=>none
  |_=>(bU P cfg i o ρ h).map fun r=>(r,[])
 | .makeSlice t l c=>match f with
  |some (.mk n _ _)=>match P.underlying t,ρ l,ρ c with
   |some (.slice e), .d (.int .i64 l'), .d (.int .i64 c')=>match uD P e with
    |some z=>
     if P.bytesOf e≤256∧z.cells.length=P.cellsOf e∧0<P.cellsOf e∧(P.cellsOf e=1→z.lone=true)then
      some ({val:= .sl (cfg.base i+o.dst.getD 0) ((h (cfg.base i+o.dst.getD 0)).ver+1) 0 l'.toNat (P.cellsOf e),rd:=[cfg.base i+o.dst.getD 0],wr:=[newOb h (cfg.base i+o.dst.getD 0) (P.cellsOf e) (List.replicate l'.toNat z)]},[(.av (.d (.int .i64 l')), .av (.d (.int .i64 n))),(.av (.d (.int .i64 c')), .av (.d (.int .i64 n)))])
     else none
    |none=>none
   |_,_,_=>none
  |_=>(bU P cfg i o ρ h).map fun r=>(r,[])
 |_=>(bU P cfg i o ρ h).map fun r=>(r,[])
theorem rj{P:Program}{Y:Option (cf P)}{cfg:hQ}{i:Nat}{o:Oper}{ρ:Operand→AV}{h:aa}{r:Out×aq}(f:CZ P Y cfg i o ρ h=some r)(p:Alike r.2):bU P cfg i o ρ h=some r.1:=by
 have hP:(bU P cfg i o ρ h).map (fun r=>((r,[]):Out×aq))=some r→bU P cfg i o ρ h=some r.1:=fun hh=>by
  simp only[xB]at hh;obtain⟨q,hq,rfl⟩:=hh;exact hq
 unfold CZ at f;split at f
 ·rename_i t a g
  split at f
  ·rename_i k v j S z ha
   have:=BH (z:=z) f p;simp only[bU,g,ha,this]
  ·exact hP f
 ·rename_i t a x g
  split at f
  ·rename_i k v j S z ha
   have:=zg (z:=z) f p;simp only[bU,g,ha,this]
  ·exact hP f
 ·rename_i t x ix g
  split at f
  ·rename_i l i' y T V
   split at f
   ·rename_i e kd i2 l2 B K J
    split at f
    ·rename_i L
     simp only[xA]at f;subst f;have Q:=p.head;have h2:=p.tail.head;simp only[aL.ds.injEq,aL.av.injEq,AV.d.injEq,D.int.injEq,true_and]at Q h2;subst Q;subst h2;simp only[bU,g,fy,B,K];unfold Ri at J;split at J
     ·rename_i l3 C
      simp only[xA]at J;subst J;simp only[C,T,V,yS];rw[x9 L]
     ·rename_i l3 C
      simp only[xA]at J;subst J;simp only[C,T,V,yS];rw[x9 L]
     ·cases J
    ·cases f
   ·cases f
  ·rename_i i' n T V
   split at f
   ·rename_i e kd i2 k v S len sz B K C
    split at f
    ·rename_i L
     simp only[xA]at f;subst f;have Q:=p.head;have h2:=p.tail.head;simp only[aL.nat.injEq,aL.av.injEq,AV.d.injEq,D.int.injEq,true_and]at Q h2;subst Q;subst h2;simp only[bU,g,fy,B,K,C];rw[x9 ⟨L.1,L.2,T,V⟩]
    ·cases f
   ·rename_i n' e kd i2 k v j S sz B K C
    split at f
    ·rename_i L
     simp only[xA]at f;subst f;have Q:=p.head;have h2:=p.tail.head;simp only[aL.nat.injEq,aL.av.injEq,AV.d.injEq,D.int.injEq,true_and]at Q h2;subst Q;subst h2;simp only[bU,g,fy,B,K,C];rw[x9 ⟨L.1,L.2.1,L.2.2,T,V⟩]
    ·cases f
   ·cases f
  ·exact hP f
 ·rename_i c g
  split at f
  ·rename_i l n A
   have:=EL (cfg:=cfg) (i:=i) (k:=cfg.base i+o.dst.getD 0) f p A;simp only[bU,g,this]
  ·rename_i es ln n A
   split at f
   ·rename_i r0 hS
    simp only[xA]at f;subst f;have:=EN (cfg:=cfg) (i:=i) (k:=cfg.base i+o.dst.getD 0) hS p A;simp only[bU,g,this]
   ·have:=EM (cfg:=cfg) (i:=i) (k:=cfg.base i+o.dst.getD 0) f p A
    simp only[bU,g,this]
  ·rename_i l nw cs A
   have:=BJ (cfg:=cfg) (i:=i) (k:=cfg.base i+o.dst.getD 0) f p A;simp only[bU,g,this]
  ·rename_i es ln nw cs A
   have:=BK (cfg:=cfg) (i:=i) (k:=cfg.base i+o.dst.getD 0) f p A;simp only[bU,g,this]
  ·rename_i ds n cs A
   have:=EO (cfg:=cfg) (i:=i) (k:=cfg.base i+o.dst.getD 0) f p A;simp only[bU,g,this]
  ·rename_i l s A
   have:=EP (cfg:=cfg) (i:=i) (k:=cfg.base i+o.dst.getD 0) f p A;simp only[bU,g,this]
  ·rename_i b A
   have:=BM (cfg:=cfg) (i:=i) (k:=cfg.base i+o.dst.getD 0) f p A;simp only[bU,g,this]
  ·split at f
   ·rename_i r' hr'
    simp only[xA]at f;subst f;have:=EQ (cfg:=cfg) (i:=i) (k:=cfg.base i+o.dst.getD 0) hr' p;simp only[bU,g,this]
   ·exact hP f
 ·rename_i t m X ok g
  split at f
  ·rename_i x es r0 N
   split at f
   ·rename_i kt et k v kd B hm O
    split at f
    ·rename_i es' c F
     split at f
     ·rename_i G
      cases r0 with
      |some jy=>
       obtain⟨j,y⟩:=jy;simp only[xA]at f;subst f;have u:=p.head;have w:=p.tail.head;have E:=p.tail.tail.head;simp only[aL.nat.injEq,aL.mp.injEq,aL.ds.injEq,List.cons.injEq,yr]at u w E;subst w;subst E;simp only[bU,g,fc,B,hm,O,F,u,G,N,and_self,yS]
      |none=>
       simp only at f;split at f
       ·rename_i z hz
        simp only[xA]at f;subst f;have u:=p.head;have w:=p.tail.head;have E:=p.tail.tail.head;simp only[aL.nat.injEq,aL.mp.injEq,aL.ds.injEq,List.cons.injEq,yr]at u w E;subst w;subst E;simp only[bU,g,fc,B,hm,O,F,u,G,N,and_self,yS,hz]
       ·cases f
     ·cases f
    ·cases f
   ·cases f
  ·exact hP f
 ·rename_i t m X x g
  split at f
  ·rename_i lx W N
   split at f
   ·rename_i kt et k v kd xd B hm O C
    split at f
    ·rename_i es' c F
     split at f
     ·rename_i G
      simp only[xA]at f;subst f;have u:=p.head;have w:=p.tail.head;have E:=p.tail.tail.head;simp only[aL.nat.injEq,aL.mp.injEq,aL.ds.injEq,List.cons.injEq,yr]at u w E;subst w;subst E;simp only[bU,g,b9,B,hm,O,C,F,u,G,N,and_self,yS]
     ·cases f
    ·cases f
   ·cases f
  ·rename_i lx W jx jy N
   split at f
   ·rename_i kt et k v kd xd B hm O C
    split at f
    ·rename_i es' c F
     split at f
     ·rename_i G
      simp only[xA]at f;subst f;have u:=p.head;have w:=p.tail.head;have E:=p.tail.tail.head;simp only[aL.nat.injEq,aL.mp.injEq,aL.ds.injEq,List.cons.injEq,yr]at u w E;subst w;subst E;simp only[bU,g,b9,B,hm,O,C,F,u,G,N,and_self,yS]
     ·cases f
    ·cases f
   ·cases f
  ·exact hP f
 ·rename_i t m X x g
  split at f
  ·rename_i lx W N
   split at f
   ·rename_i kt et k v kd xd B hm O C
    split at f
    ·rename_i es' c F
     split at f
     ·rename_i G
      simp only[xA]at f;subst f;have u:=p.head;have w:=p.tail.head;have E:=p.tail.tail.head;simp only[aL.nat.injEq,aL.mp.injEq,aL.ds.injEq,List.cons.injEq,yr]at u w E;subst w;subst E;simp only[bU,g,b9,B,hm,O,C,F,u,G,N,and_self,yS]
     ·cases f
    ·cases f
   ·cases f
  ·rename_i lx W jx jy N
   split at f
   ·rename_i kt et k v kd xd B hm O C
    split at f
    ·rename_i es' c F
     split at f
     ·rename_i G
      simp only[xA]at f;subst f;have u:=p.head;have w:=p.tail.head;have E:=p.tail.tail.head;simp only[aL.nat.injEq,aL.mp.injEq,aL.ds.injEq,List.cons.injEq,yr]at u w E;subst w;subst E;simp only[bU,g,b9,B,hm,O,C,F,u,G,N,and_self,yS]
     ·cases f
    ·cases f
   ·cases f
  ·exact hP f
 ·rename_i t x ix g
  split at f
  ·rename_i s i0 b T R
   split at f
   ·rename_i s' kd i' B C K
    simp only[xA]at f;subst f;have u:=p.head;have w:=p.tail.head;simp only[aL.av.injEq,AV.d.injEq,D.str.injEq,D.int.injEq,true_and]at u w;subst u;subst w;simp only[bU,g,p5,B,C,K,T,yS,R,xc]
   ·cases f
  ·exact hP f
 ·rename_i t x lo hi mx g
  split at f
  ·rename_i s a b U
   split at f
   ·rename_i s' a' B C H
    split at f
    ·rename_i Z I
     simp only[xA]at f;subst f;have u:=p.head;have w:=p.tail.head;have E:=p.tail.tail.head;simp only[aL.av.injEq,AV.d.injEq,D.str.injEq,aL.nat.injEq]at u w E;subst u;subst w;subst E;simp only[bU,g,jI,B,C,H,I,Option.map_none];rw[x9 U]
    ·cases f
   ·cases f
  ·rename_i l0 b R
   split at f
   ·rename_i e l' B C H
    split at f
    ·cases f
    ·rename_i M
     split at f
     ·rename_i Z I
      simp only[xA]at f;subst f;have u:=p.head;have w:=p.tail.head;simp only[aL.ds.injEq,aL.nat.injEq]at u w;subst u;subst w;simp only[bU,g,jI,B,C,H,I,Option.map_none];rw[xj M,x9 ⟨xz _,R, .inl trivial⟩]
     ·cases f
   ·cases f
  ·rename_i l0 a b cs R
   split at f
   ·rename_i e l' a' B C H
    split at f
    ·cases f
    ·rename_i M
     split at f
     ·rename_i Z I
      simp only[xA]at f;subst f;have u:=p.head;have w:=p.tail.head;have E:=p.tail.tail.head;have g4:=p.tail.tail.tail.head;simp only[aL.ds.injEq,aL.nat.injEq]at u w E g4;subst u;subst w;subst E;subst g4;simp only[bU,g,jI,B,C,H,I,Option.map_none];rw[xj M,x9 ⟨R.1,R.2.1, .inr R.2.2⟩]
     ·cases f
   ·cases f
  ·rename_i ln b R
   split at f
   ·rename_i e k v S len sz B C H
    split at f
    ·cases f
    ·rename_i M
     split at f
     ·rename_i Z I
      simp only[xA]at f;subst f;have u:=p.head;have w:=p.tail.head;simp only[aL.nat.injEq]at u w;subst u;subst w;simp only[bU,g,jI,B,C,H,I,Option.map_none];rw[xj M,x9 ⟨trivial,R⟩]
     ·cases f
   ·cases f
  ·exact hP f
 ·rename_i t x y yt g
  split at f
  ·rename_i a b U
   split at f
   ·rename_i a' Z C V
    simp only[xA]at f;subst f;have u:=p.head;have w:=p.tail.head;simp only[aL.av.injEq,AV.d.injEq,D.str.injEq]at u w;subst u;subst w;simp only[bU,g,C,V,CM];rw[x9 U]
   ·cases f
  ·exact hP f
 ·rename_i t l c g
  split at f
  ·rename_i n T Q
   split at f
   ·rename_i e l' c' B hll hcc
    split at f
    ·rename_i z hz
     split at f
     ·rename_i L
      simp only[xA]at f;subst f;have u:=p.head;have w:=p.tail.head;simp only[aL.av.injEq,AV.d.injEq,D.int.injEq,true_and]at u w;subst u;subst w;simp only[bU,g,dm,B,hll,hcc,hz];rw[x9 ⟨T,xx _,Q,L.1,L.2.1,L.2.2.1,L.2.2.2⟩]
     ·cases f
    ·cases f
   ·cases f
  ·exact hP f
 ·exact hP f
def Gt(P:Program)(c:Option (cf P))(cfg:hQ)(i:Nat)(o:Oper)(ρ:Operand→AV)(h:aa):Option (Out×aq):=
 match c with
 |some (.val a b _)=>(CZ P none cfg i o ρ h).map fun r=>({r.1 with val:=b},(.av r.1.val, .av a)::r.2)
 |_=>CZ P c cfg i o ρ h
theorem BN{P:Program}{c:Option (cf P)}{cfg:hQ}{i:Nat}{o:Oper}{ρ:Operand→AV}{h:aa}{r:Out×aq}(d:Gt P c cfg i o ρ h=some r)(e:Alike r.2):bU P cfg i o ρ h=some r.1:=by
 unfold Gt at d;split at d
 ·rename_i a b f
  simp only[xB]at d;obtain⟨q,j,rfl⟩:=d;have g:=e.head;simp only[aL.av.injEq]at g;have:=rj j e.tail;rw[this];subst f;rw[←g]
 ·exact rj d e
end Go.Avm
namespace Go.Avm
open Go.RowKit
variable[aG]
theorem u0:∀(l:List (Nat×aK))(h:aa){k:Nat},k∉l.map (·.1)→ag l h k=h k
 |[],_,_,_=>rfl
 |(b,e)::r,h,k,a=>by
  simp only[xN,xX,zM]at a;simp only[ag];rw[ae _ _ a.1];exact u0 r h a.2
theorem C0:∀(l:List (Nat×aK))(h h2:aa){k:Nat},k∈l.map (·.1)→ag l h k=ag l h2 k
 |[],_,_,_,a=>by simp at a
 |(c,e)::r,h,h2,k,a=>by
  simp only[ag,aJ];split
  ·rfl
  ·rename_i b
   exact C0 r h h2 (by simpa [b]using a)
def N9(a h2:aa):Prop:=∀k,h2 k=a k∨((h2 k).ob=none∧(a k).ver≤(h2 k).ver)
theorem Ki{G:Gh}{B:Nat}{w0 w:World}{I0:Nat→Nat→Prop}{g h2:aa}(a:HR G B w0 I0 g w)(j:N9 g h2):∃l,Ext G w l w∧HR l B w0 I0 h2 w:=by
 have c:∀k,(g k).ver≤(h2 k).ver:=fun k=>by
  rcases j k with e|⟨_,e⟩
  ·rw[e];exact xS _
  ·exact e
 have h:∀k o,(h2 k).ob=some o→h2 k=g k:=fun k o f=>by
  rcases j k with e|⟨e,_⟩
  ·exact e
  ·rw[e]at f;cases f
 have b:∀k L,G.loc k (h2 k).ver=some L→G.loc k (g k).ver=some L:=fun k L d=>by
  have r:=a.fresh k _ L d;have q:=c k;have:(h2 k).ver=(g k).ver:=by omega
  rwa [this]at d
 have hex:Ext G w {G with lim:=fun k=>(h2 k).ver} w:=
  ⟨fun _ _ x=>x,fun _ _ _ x=>x,fun _ _ _=>rfl,xS _,fun k=>by rw[a.lim];exact c k,fun _ _ _ x=>x,fun _ _ _ x=>x,ej rfl⟩
 refine⟨_,hex,a.below,a.bsz,a.immlt,a.i0,a.immlow,fun k v L d=>yX (a.fresh k v L d) (c k),fun k L d=>a.own k L (b k L d),fun k n L m d i=>a.dis k n L m (b k L d) (b n m i),fun k ob f=> ?_,fun _=>rfl,
  a.maps.step hex rfl (fun _ _ _ x=>x) c fun k o s f=>h k o f⟩
 have p:=h k ob f;rw[p]at f ⊢;exact(a.objs k ob f).mono (a.le k) hex (fun _ _ _=>rfl)
def Oa(P:Program)(o:Oper)(S:St)(x:AV)(h':aa)(W:List Nat):Prop:=
 (∃u t y,o.op= .panic u∧opd S.env u=x∧x= .iv t y∧N9 S.heap h')∨
 (∃g args b a,dZ o S.env=some (g,args)∧(∀h:aa,lV h b→iW P g args h x (ag a h))∧lV S.heap b∧(∀k∈W,k∉b.map (·.1)∧k∉a.map (·.1))∧N9 (ag a S.heap) h')
def ns(P:Program)(a:Array Oper)(p:Nat)(env0:Nat→AV)(x:AV)(h':aa)(W:List Nat)(S:St):Prop:=
 (∃o,a[p]? =some o∧er a o S.env=some true∧Oa P o S x h' W)∧∀t,(mI a).contains t=false→S.env t=env0 t
def RW(W:List Nat)(S S1:St):Prop:=∀k,S1.heap k=S.heap k∨(k∈W∧(S.heap k).ver≤(S1.heap k).ver)
theorem zh{W:List Nat}{c b h':aa}(h:∀k∈W,(h' k).ob=none)(g:∀k,b k=c k∨(k∈W∧(c k).ver≤(b k).ver))(d:N9 b h'):N9 c h':=fun k=>by
 rcases g k with e|⟨f,a⟩
 ·rw[←e];exact d k
 ·refine .inr ⟨h k f, ?_⟩
  rcases d k with e|⟨_,e⟩
  ·rw[e];exact a
  ·exact yX a e
section
variable{P:Program}{cfg:hQ}{N:Nat}{c:Array Oper}{G:Gh}{B:Nat}{w0 w:World}{I0:Nat→Nat→Prop}{W:List Nat}
theorem Oc{o:Oper}{S:St}{x:AV}{h':aa}(h:Oa P o S x h' W):∃e,Ke P o S x e∧N9 e h':=by
 rcases h with ⟨u,t,y,d,b,a,j⟩|⟨g,args,k,f,d,b,a,_,i⟩
 ·exact⟨_, .inl ⟨u,t,y,d,b,a,rfl⟩,j⟩
 ·exact⟨_, .inr ⟨g,args,d,b _ a⟩,i⟩
theorem Gu{D:List Deferred}{p:Nat}{env0:Nat→AV}{x:AV}{h':aa}{S:St}(r:Option Nat)(n:Nat){a:Act}{K:Act→World→Prop}{Q:Exit→Act→World→Prop}(m:HR G B w0 I0 S.heap w)(C:FR G w N D S.env a)
    (h:ns P c p env0 x h' W S) (s:∀v b d,Ext G w d b→HR d B w0 I0 h' b→FR d b N D (ow c env0) a→Rep d b x v→Q (.panic [{v,recovered:=false}]) a b):wpOpIn (FF r) n P c Q p K a w:=by
 obtain⟨⟨o,A,k,hp⟩,u⟩:=h;obtain⟨i,f,t⟩:=Oc hp;refine uQ r n m C (env0:=env0) (x:=x) (h':=i) ⟨⟨o,A,k,f⟩,u⟩ (fun v b d y q g l=> ?_);obtain⟨z,e,j⟩:=Ki q t;exact s v b z (y.trans e) j (g.mono e) (l.mono e)
theorem BO{p k:Nat}{ok op:Oper}{env0:Nat→AV}{x:AV}{h':aa}{S S1:St}{ob:List Obl}{f:Foot}(F:∀k∈W,(h' k).ob=none)(O:c[k]? =some ok)(j:c[p]? =some op)(Q:cd P cfg N c k ok S=some (S1,ob,f))(E:ok.apart c op=true)
    (b:RW W S S1) (h:ns P c p env0 x h' W S1):ns P c p env0 x h' W S:=by
 obtain⟨⟨o,H,L,hp⟩,K⟩:=h;rw[j]at H;cases H;obtain⟨M,_,_⟩:=Oper.apart_spec E;obtain⟨v,T,l,V,U,_,_⟩:=eF Q;have d:∀t∈op.looksAt c,S.env t=S1.env t:=fun t r=>(i7 l (fun e=>M t e r)).symm
 refine⟨⟨op,j,by rw[cY (o:=op) (env:=S1.env) (env':=S.env) d];exact L, ?_⟩,fun t r=>by rw[←K t r,i7 l (nq O r)]⟩;rcases hp with ⟨u,t,y,m,C,A,n⟩|⟨g,args,D,a,m,C,A,n,R⟩
 ·refine .inl ⟨u,t,y,m, ?_,A,zh F b n⟩
  rw[js d u (by rw[m];simp[Op.operands])];exact C
 ·refine .inr ⟨g,args,D,a, ?_,C,fun q I=> ?_,n,zh F (fun J=> ?_) R⟩
  ·rw[eP d]
   exact m
  ·have s:q.1∉W:=fun z=>(n q.1 z).1 (zI I)
   have:=(b q.1).resolve_right fun z=>s z.1
   rw[←this];exact A q I
  ·by_cases i:J∈a.map (·.1)
   ·exact .inl (C0 a S1.heap S.heap i)
   ·rw[u0 a S1.heap i,u0 a S.heap i]
    exact b J
def lJ(o:Oper)(k:Nat):Bool:=o.after.any (fun e=>Region.binds .any e&&e.on==k)
theorem jT{o:Oper}{k:Nat}(h:lJ o k=true):¬∀e∈o.after,Region.binds .any e=true→e.on≠k:=fun b=>by
 obtain⟨e,d,a⟩:=Array.any_eq_true'.1 h;simp only[xL,xm]at a;exact absurd a.2 (b e d a.1)
def Gw(P:Program)(cfg:hQ)(N:Nat)(c:Array Oper)(F:Nat→Foot)(p:Nat)(O:List Nat)(L:St→Prop):Nat→Array Bool→St→Prop
 |0,_,_=>False
 |fuel+1,a,S=>Region.ready .any c a≠[]∧
  ∀i∈Region.ready .any c a,(i=p∧L S)∨(i∈O∧∃o S1 ob,c[i]? =some o∧cd P cfg N c i o S=some (S1,ob,F i)∧gz P ob∧Gw P cfg N c F p O L fuel (a.setIfInBounds i true) S1)
theorem nt{i:Nat}{o:Oper}{S S1:St}{ob:List Obl}{f:Foot}(h:cd P cfg N c i o S=some (S1,ob,f))(a:f.all=false){k:Nat}(e:k∉f.wr):S1.heap k=S.heap k:=by
 obtain⟨v,l,_,g,d,_,_⟩:=eF h;obtain⟨j,rfl,b⟩:=d a;rw[g];exact dk j _ (by rw[←b];exact e)
theorem Kj{i j:Nat}{s p:Oper}{S S1 l a:St}{m d:List Obl}{n b:Foot}(r:n.apart b=true)(q:n.all=false)(g:b.all=false)(t:cd P cfg N c j p S1=some (l,d,b))
    (o:cd P cfg N c j p S=some (a,d,b)) (f:cd P cfg N c i s a=some (l,m,n)) (h:RW W S S1):RW W a l:=fun k=>by
 by_cases e:k∈b.wr
 ·left
  refine nt f q fun u=> ?_
  simp[Foot.apart,q,g]at r;exact(r.1 k u).2 e
 ·rw[nt t g e,nt o g e]
  exact h k
theorem BP{F:Nat→Foot}{p k:Nat}{O:List Nat}{ok op:Oper}{env0:Nat→AV}{x:AV}{h':aa}(hW:∀k∈W,(h' k).ob=none)(Z:c[k]? =some ok)(hp:c[p]? =some op)(T:k∈O){ob:List Obl}(I:gz P ob):
    ∀(fuel:Nat)(a:Array Bool)(S S1:St),
     (∀j o,j∈O→c[j]? =some o→j≠k→a.getD j true=false→(∀e∈o.after,Region.binds .any e=true→e.on≠k)→ok.apart c o=true∧(F k).apart (F j)=true∧(F j).all=false)→
     ((∀e∈op.after,Region.binds .any e=true→e.on≠k)→ok.apart c op=true∧(F k).all=false∧RW W S S1)→
     k∈Region.ready .any c a→cd P cfg N c k ok S=some (S1,ob,F k)→
     Gw P cfg N c F p O (ns P c p env0 x h' W) fuel (a.setIfInBounds k true) S1→Gw P cfg N c F p O (ns P c p env0 x h' W) (fuel+1) a S:=by
 intro fuel;induction fuel with
 |zero=>intro a S S1 _ _ _ _ H;exact H.elim
 |succ fuel ih=>
  intro a S S1 f t E U H;refine⟨fun h=>(by rw[h]at E;cases E),fun j V=> ?_⟩;by_cases b:j=k
  ·subst b;exact .inr ⟨T,ok,S1,ob,Z,U,I,H⟩
  ·obtain⟨g,o,d,A⟩:=mem_ready.1 V
   have n:∀e∈o.after,Region.binds .any e=true→e.on≠k:=fun e he hb q=>by
    have z:=A e he hb;have Y:=(mem_ready.1 E).1;rw[q]at z;rcases yJ k a.size with h'|h'
    ·simp[h']at Y z;rw[Y]at z;cases z
    ·simp[Array.getElem?_eq_none h']at z
   rcases H.2 j (ready_mono V b)with ⟨rfl,hl⟩|⟨u,s,S2,R,m,l,D,H2⟩
   ·left
    have e:o=op:=by rw[hp]at d;exact(Option.some.inj d).symm
    subst e;obtain⟨J,Q,M⟩:=t n;exact⟨rfl,BO hW Z hp U J M hl⟩
   ·right
    have q:s=o:=by rw[d]at m;exact(Option.some.inj m).symm
    subst q;obtain⟨a1,X,a3⟩:=f j s u d b g n;obtain⟨C,k1,k2⟩:=mH a1 X U l;refine⟨u,s,C,R,d,k1,D,ih (a.setIfInBounds j true) C S2 (fun i oi K hi L v r=> ?_) (fun r=> ?_) (ready_mono E (Ne.symm b)) k2 ?_⟩
    ·refine f i oi K hi L ?_ r
     by_cases y:j=i
     ·subst y;exact g
     ·rw[getD_set_ne true y]at v;exact v
    ·obtain⟨J,Q,M⟩:=t r
     exact⟨J,Q,Kj X Q a3 l k1 k2 M⟩
    ·rw[Array.setIfInBounds_comm _ _ b]
     exact H2
def Gx(c:Array Oper)(F:Nat→Foot)(p:Nat)(O W:List Nat)(b:Array Bool)(k:Nat):Bool:=
 match c[k]?,c[p]? with
 |some ok,some op=>(O.all fun j=>Nat.beq j k||b.getD j true||match c[j]? with
     |some d=>lJ d k||(ok.apart c d&&(F k).apart (F j)&& !(F j).all)
     |none=>true)&&(lJ op k||(ok.apart c op&& !(F k).all&&(F k).wr.all fun a=>W.any (Nat.beq a)))
 |_,_=>false
theorem BQ{F:Nat→Foot}{p k:Nat}{O:List Nat}{ok op:Oper}{d:Array Bool}(r:c[k]? =some ok)(hp:c[p]? =some op)(h:Gx c F p O W d k=true):
    (∀j l,j∈O→c[j]? =some l→j≠k→d.getD j true=false→(∀e∈l.after,Region.binds .any e=true→e.on≠k)→ok.apart c l=true∧(F k).apart (F j)=true∧(F j).all=false)∧
    ((∀e∈op.after,Region.binds .any e=true→e.on≠k)→ok.apart c op=true∧(F k).all=false∧∀a∈(F k).wr,a∈W):=by
 simp only[Gx,r,hp,xL]at h;obtain⟨f,h2⟩:=h;refine⟨fun j l n t m o g=> ?_,fun g=> ?_⟩
 ·have f:=xa.1 f j n
  rw[t,o]at f
  have i:Nat.beq j k=false:=by
   cases i:Nat.beq j k with
   |false=>rfl
   |true=>exact absurd (yN i) m
  rw[i]at f;simp only[Bool.false_or,xy]at f;rcases f with f|f
  ·exact absurd g (jT f)
  ·simp only[xL,yH]at f
   exact⟨f.1.1,f.1.2,f.2⟩
 ·rw[xy]at h2
  rcases h2 with h2|h2
  ·exact absurd g (jT h2)
  ·simp only[xL,yH]at h2
   refine⟨h2.1.1,h2.1.2,fun a q=> ?_⟩;have:=xa.1 h2.2 a q;obtain⟨b,i,s⟩:=yd.1 this;rw[yN s];exact i
def tI(c:Array Oper)(F:Nat→Foot)(p:Nat)(O W:List Nat):List Nat→Array Bool→Bool
 |[],a=>match Region.ready .any c a with
  |[i]=>Nat.beq i p
  |_=>false
 |k::r,a=>(Region.ready .any c a).contains k&&Gx c F p O W a k&&tI c F p O W r (a.setIfInBounds k true)
def jU(P:Program)(cfg:hQ)(N:Nat)(c:Array Oper)(F:Nat→Foot)(op:Oper):List Nat→St→St→Prop
 |[],S,b=>S=b
 |k::r,S,b=>∃o S1 ob,c[k]? =some o∧cd P cfg N c k o S=some (S1,ob,F k)∧gz P ob∧(lJ op k=true∨∀a∈(F k).wr,(S.heap a).ver≤(S1.heap a).ver)∧jU P cfg N c F op r S1 b
theorem zi{F:Nat→Foot}{p:Nat}{op:Oper}{O:List Nat}{env0:Nat→AV}{x:AV}{h':aa}(y:∀k∈W,(h' k).ob=none)(hp:c[p]? =some op):∀(l:List Nat)(b:Array Bool)(S f:St),(∀k∈l,k∈O)→jU P cfg N c F op l S f→
    tI c F p O W l b=true→ns P c p env0 x h' W f→Gw P cfg N c F p O (ns P c p env0 x h' W) (l.length+1) b S
 |[],b,S,f,_,e,d,u=>by
  simp only[jU]at e;subst e;simp only[tI]at d;split at d
  ·rename_i i m
   have:=yN d;subst this
   exact⟨by rw[m];simp,fun j g=>by
    rw[m]at g;simp only[xK]at g;exact .inl ⟨g,u⟩⟩
  ·cases d
 |k::r,b,S,f,v,e,d,u=>by
  obtain⟨o,S1,ob,z,h,s,q,e⟩:=e;simp only[tI,xL]at d;obtain⟨⟨H,h2⟩,K⟩:=d;obtain⟨C,J⟩:=BQ z hp h2;refine BP y z hp (v k (by simp)) s (r.length+1) b S S1 C (fun n=> ?_) (by simpa using H) h (zi y hp r _ S1 f (fun j g=>v j (by simp[g])) e K u);obtain⟨D,A,I⟩:=J n;refine⟨D,A,fun a=> ?_⟩;by_cases t:a∈(F k).wr
  ·exact .inr ⟨I a t,(q.resolve_left fun E=>jT E n) a t⟩
  ·exact .inl (nt h A t)
theorem mj{D:List Deferred}(A:iB P)(r:Option Nat)(n:Nat){F:Nat→Foot}{p:Nat}{O:List Nat}{env0:Nat→AV}{x:AV}{h':aa}{Q:Exit→Act→World→Prop}:∀(fuel:Nat)(b:Array Bool)(G:Gh)(w:World)(S:St)(a:Act),HR G B w0 I0 S.heap w→FR G w N D S.env a→
    Gw P cfg N c F p O (ns P c p env0 x h' W) fuel b S→
    (∀v m e f,Ext G w f e→HR f B w0 I0 h' e→FR f e N D (ow c env0) m→Rep f e x v→Q (.panic [{v,recovered:=false}]) m e)→∀d,fuel≤d→wpAnyIn (FF r) n P .any c Q d b a w
 |0,b,G,w,S,a,k,j,h,l,d,_=>h.elim
 |fuel+1,b,G,w,S,a,k,j,h,l,0,g=>absurd g (by omega)
 |fuel+1,b,G,w,S,a,k,j,h,l,d+1,g=>by
  refine⟨fun R=>absurd R h.1,fun i M=> ?_⟩;rcases h.2 i M with ⟨rfl,H⟩|⟨_,o,S1,ob,L,t,q,h2⟩
  ·exact Gu r n k j H (fun v e f u y s z=>l v a e f u y s z)
  ·unfold wpOpIn
   simp only[L];exact fH A k j t q r n (fun m e f J T C=>mj A r n fuel _ f e S1 m T C h2 (fun v I K E u y s z=>l v I K E (J.trans u) y s z) d (by omega))
end
theorem rl{X:cA}{S d:St}{Q:aA→St→Prop}{id p:Nat}{b:Array Oper}{cfg:hQ}{F:Nat→Foot}{op:Oper}{O W:List Nat}{x:AV}{h':aa}(hp:b[p]? =some op)(o:∀k∈W,(h' k).ob=none)(m:jU X.P cfg X.N b F op O S d)
    (s:tI b F p O W O (Array.replicate b.size false)=true) (f:O.length<b.size) (j:ns X.P b p S.env x h' W d) (h:Q (.panic x) ⟨ow b S.env,h'⟩):AW X (.region id b true) S Q:=fun G a w e=>by
 obtain⟨n,i⟩:=e.2;refine wpIn_region_any X.mixed.mixed ?_;have c:=zi o hp O (Array.replicate b.size false) S d (fun _ h=>h) m s j;exact mj X.mixed.ext X.rnd 0 (O.length+1) _ G w.drew S a e.1.drew (i.1.mono (Ext.drew G w)) c (fun v u t r g l h2 q=>⟨.panic x,_,r,⟨v,rfl,q⟩,h,(Ext.drew G w).trans g,l,n,h2,i.2.mono ((Ext.drew G w).trans g)⟩) b.size (by omega)
end Go.Avm
namespace Go.Avm
open Go.RowKit
variable[aG]
theorem cg:∀(l:List (Nat×aK))(h:aa){k:Nat},k∉l.map (·.1)→ag l h k=h k
 |[],_,_,_=>rfl
 |(b,e)::r,h,k,a=>by
  simp only[xN,xX,zM]at a;simp only[ag,ae _ _ a.1];exact cg r h a.2
theorem gB:∀(l:List (Nat×aK))(h h2:aa){k:Nat},k∈l.map (·.1)→ag l h k=ag l h2 k
 |[],_,_,_,a=>by simp at a
 |(c,e)::r,h,h2,k,a=>by
  simp only[ag,aJ];split
  ·rfl
  ·rename_i b
   simp only[xN,xX]at a;exact gB r h h2 (a.resolve_left b)
def iE(env:Nat→AV)(l:List (Nat×AV)):aq:=l.map fun p=>(.av (env p.1), .av p.2)
theorem ml{env:Nat→AV}{l:List (Nat×AV)}(h:Alike (iE env l)):∀p∈l,p.2=env p.1:=fun p hp=>by
 have:=h (.av (env p.1), .av p.2) (xi.2 ⟨p,hp,rfl⟩);simp only[aL.av.injEq]at this;exact this.symm
def a6(h:aa):List (Nat×aK)→Option aq
 |[]=>some []
 |(k,⟨v,none⟩)::r=>match a6 h r with
  |some q=>some ((.nat (h k).ver, .nat v)::q)
  |none=>none
 |(k,⟨v,some (.arr sz es)⟩)::r=>match (h k).ob,a6 h r with
  |some (.arr d es'),some q=>some ((.nat (h k).ver, .nat v)::(.nat d, .nat sz)::(.av (.tup es'), .av (.tup es))::q)
  |_,_=>none
 |(k,⟨v,some (.map es c)⟩)::r=>match (h k).ob,a6 h r with
  |some (.map es' c'),some q=>some ((.nat (h k).ver, .nat v)::(.nat c', .nat c)::(.mp es', .mp es)::q)
  |_,_=>none
 |(k,⟨v,some (.lp b N env ps Y0 e g)⟩)::r=>match (h k).ob,a6 h r with
  |some o,some q=>some ((.nat (h k).ver, .nat v)::(.ob o, .ob (.lp b N env ps Y0 e g))::q)
  |_,_=>none
 |(k,⟨v,some (.itr j f a seen)⟩)::r=>match (h k).ob,a6 h r with
  |some o,some q=>some ((.nat (h k).ver, .nat v)::(.ob o, .ob (.itr j f a seen))::q)
  |_,_=>none
 |(k,⟨v,some (.typ i l T n)⟩)::r=>match (h k).ob,a6 h r with
  |some o,some q=>some ((.nat (h k).ver, .nat v)::(.ob o, .ob (.typ i l T n))::q)
  |_,_=>none
theorem aY{h:aa}:∀{l:List (Nat×aK)}{q:aq},a6 h l=some q→Alike q→∀p∈l,p.2.ver=(h p.1).ver∧(p.2.ob=none∨p.2.ob=(h p.1).ob)
 |[],_,_,_,p,hp=>by simp at hp
 |(k,⟨v,none⟩)::r,q,a,b,p,hp=>by
  simp only[a6]at a;split at a
  ·rename_i g d
   simp only[xA]at a;subst a;rcases xX.1 hp with rfl|hp
   ·have:=b.head
    simp only[aL.nat.injEq]at this;exact⟨this.symm, .inl rfl⟩
   ·exact aY d b.tail p hp
  ·cases a
 |(k,⟨v,some (.arr sz es)⟩)::r,q,a,b,p,hp=>by
  simp only[a6]at a;split at a
  ·rename_i s es' g e d
   simp only[xA]at a;subst a;rcases xX.1 hp with rfl|hp
   ·have f:=b.head
    have h2:=b.tail.head;have i:=b.tail.tail.head;simp only[aL.nat.injEq,aL.av.injEq,AV.tup.injEq]at f h2 i;subst h2;subst i;exact⟨f.symm, .inr e.symm⟩
   ·exact aY d b.tail.tail.tail p hp
  ·cases a
 |(k,⟨v,some (.map es c)⟩)::r,q,a,b,p,hp=>by
  simp only[a6]at a;split at a
  ·rename_i es' c' g e d
   simp only[xA]at a;subst a;rcases xX.1 hp with rfl|hp
   ·have f:=b.head
    have h2:=b.tail.head;have i:=b.tail.tail.head;simp only[aL.nat.injEq,aL.mp.injEq]at f h2 i;subst h2;subst i;exact⟨f.symm, .inr e.symm⟩
   ·exact aY d b.tail.tail.tail p hp
  ·cases a
 |(k,⟨v,some (.lp m N env ps Y0 t w)⟩)::r,q,a,b,p,hp=>by
  simp only[a6]at a;split at a
  ·rename_i o g e d
   simp only[xA]at a;subst a;rcases xX.1 hp with rfl|hp
   ·have f:=b.head
    have h2:=b.tail.head;simp only[aL.nat.injEq,aL.ob.injEq]at f h2;subst h2;exact⟨f.symm, .inr e.symm⟩
   ·exact aY d b.tail.tail p hp
  ·cases a
 |(k,⟨v,some (.itr y u j seen)⟩)::r,q,a,b,p,hp=>by
  simp only[a6]at a;split at a
  ·rename_i o g e d
   simp only[xA]at a;subst a;rcases xX.1 hp with rfl|hp
   ·have f:=b.head
    have h2:=b.tail.head;simp only[aL.nat.injEq,aL.ob.injEq]at f h2;subst h2;exact⟨f.symm, .inr e.symm⟩
   ·exact aY d b.tail.tail p hp
  ·cases a
 |(k,⟨v,some (.typ x z T n)⟩)::r,q,a,b,p,hp=>by
  simp only[a6]at a;split at a
  ·rename_i o g e d
   simp only[xA]at a;subst a;rcases xX.1 hp with rfl|hp
   ·have f:=b.head
    have h2:=b.tail.head;simp only[aL.nat.injEq,aL.ob.injEq]at f h2;subst h2;exact⟨f.symm, .inr e.symm⟩
   ·exact aY d b.tail.tail p hp
  ·cases a
theorem ju{X:cA}{env:Nat→AV}{h h':aa}(c:∀k,(h' k).ver=(h k).ver∧((h' k).ob=none∨(h' k).ob=(h k).ob)):Weak X ⟨env,h⟩ ⟨env,h'⟩:=fun G a w b=>⟨G,Ext.refl G w,b.1.forget c,b.2⟩
theorem ny{X:cA}{S:St}{l:List (Nat×AV)}{hp:List (Nat×aK)}{q:aq}(a:Alike (iE S.env l))(h2:a6 S.heap hp=some q)(b:Alike q):Weak X S ⟨ak l,ag hp S.heap⟩:=
 (mJ (heap:=S.heap) (ml a)).trans (ju (i6 S.heap hp (aY h2 b)))
theorem lK{X:cA}{c:Code}{S:St}{Q:aA→St→Prop}(h:AW X c S fun e S'=>∃b,Weak X S' b∧Q e b):AW X c S Q:=fun G a w i=>
 wpIn_mono (h G a w i) fun e l f ⟨g,S',o,x,⟨b,j,m⟩,n,r⟩=>by
  obtain⟨p,d,k⟩:=j o l f r;exact⟨g,b,p,x.mono d,m,n.trans d,k⟩
structure dy(P:Program) where
 N:Nat
 x:Code
 l:List (Nat×AV)
 hp:aa→List (Nat×aK)
 e:aA
 l':List (Nat×AV)
 hp':aa→List (Nat×aK)
 proof:∀(rest:aa)(X:cA),X.P=P→X.N=N→AW X (.loop x) ⟨ak l,ag (hp rest) rest⟩ fun e' S'=>e'=e∧S'=⟨ak l',ag (hp' rest) rest⟩
structure Rj(P:Program) where
 N:Nat
 x:Code
 l:List (Nat×AV)
 hp:aa→List (Nat×aK)
 e:aA
 l':List (Nat×AV)
 hp':aa→List (Nat×aK)
 proof:∀(rest:aa)(X:cA),X.P=P→X.N=N→AW X x ⟨ak l,ag (hp rest) rest⟩ fun e' S'=>e'=e∧S'=⟨ak l',ag (hp' rest) rest⟩
structure rm where
 t:Nat
 k:Nat
 n:Nat
 es:List AV
 ds:List D
 hn:es.length=n
 hv:∀h:aa,eD (view 3 h) es=some (ds,[])
structure fK(P:Program) where
 g:Nat
 args:List AV
 pre:List (Nat×aK)
 rs:List AV
 post:List (Nat×aK)
 proof:∀h:aa,lV h pre→ax P g args h rs (ag post h)
theorem gM{P:Program}{g:Nat}{args d:List AV}{c a:List (Nat×aK)}(h:∀b:aa,ax P g args (ag c b) d (ag a b)):∀h:aa,lV h c→ax P g args h d (ag a h):=
 fun h' e=>uJ (h h') (i6 h' c e)
theorem rn{h:aa}:∀{l:List (Nat×aK)},lV h l→(l.all fun p=>p.2.ob.isSome)=true→ag l h=h
 |[],_,_=>rfl
 |(k,e)::r,f,a=>by
  simp only[List.all_cons,xL]at a;have d:=f (k,e) (by simp);have h2:=rn (l:=r) (fun p hp=>f p (by simp[hp])) a.2;simp only[ag,h2]
  have i:e=h k:=by
   obtain⟨c,ob⟩:=e
   have j:ob=(h k).ob:=d.2.resolve_left (fun n=>by
    have b:ob=none:=n;rw[b]at a;simp at a)
   have g:c=(h k).ver:=d.1;rw[j,g]
  funext t;simp only[aJ];split
  ·rename_i m;rw[m,i]
  ·rfl
theorem p9{P:Program}{g:Nat}{args c:List AV}{a:List (Nat×aK)}(d:(a.all fun p=>p.2.ob.isSome)=true)(h:∀b:aa,ax P g args (ag a b) c (ag a b)):∀h:aa,lV h a→ax P g args h c (ag [] h):=fun h' e=>by
 have:=h h';rw[rn e d]at this;exact this
structure tJ where
 C:Nat
 a:Nat
 k:Nat
 n:Nat
 es:List AV
 ds:List D
 hn:es.length=n
 hv:∀h:aa,eD (view 3 h) es=some (ds,[])
structure Rk(P:Program) where
 g:Nat
 args:List AV
 pre:List (Nat×aK)
 rs:List AV
 post:List (Nat×aK)
 rst:aa→aa
 bigs:List Nat
 hrst:∀h k,k∉bigs→rst h k=h k
 proof:∀h:aa,lV h pre→ax P g args h rs (ag post (rst h))
structure k4 where
 k:Nat
 i:Nat
 K:Nat
 sz:Nat
 slot:Bool:=false
 obj:Bool:=false
structure tK(P:Program) where
 g:Nat
 args:List AV
 pre:List (Nat×aK)
 x:AV
 post:List (Nat×aK)
 proof:∀h:aa,lV h pre→iW P g args h x (ag post h)
structure PHint(P:Program) where
 p:Nat
 call:Option (tK P)
 ex:List Nat:=[]
def PHint.exs{P:Program}(H:PHint P):List Nat:=H.ex.filter fun k=> !Nat.beq k H.p
structure Par(P:Program) where
 obm:Nat→Nat→Bool:=fun _ _=>false
 hp:Nat→Bool:=fun _=>false
 hint:Nat→Nat→Option (cf P):=fun _ _=>none
 hintB:Nat→Nat→Nat→Option (cf P):=fun _ _ _=>none
 loops:Nat→Nat→Option (dy P):=fun _ _=>none
 weaks:Nat→Nat→Option rm:=fun _ _=>none
 nils:Nat→Nat→Option k4:=fun _ _=>none
 calls:Nat→Nat→Nat→Option (fK P):=fun _ _ _=>none
 nils2:Nat→Nat→List k4:=fun _ _=>[]
 xcalls:Nat→Nat→Option (Rk P):=fun _ _=>none
 keeps:Nat→Nat→Option (List (Nat×AV)):=fun _ _=>none
 frz:Nat→Nat→Option tJ:=fun _ _=>none
 seqs:Nat→Nat→Option (Rj P):=fun _ _=>none
 pans:Nat→Nat→Nat→Option (PHint P):=fun _ _ _=>none
def Par.at{P:Program}(d:Par P)(a c b:Nat):Option (cf P):=match d.hintB a c b with
 |some h=>some h
 |none=>d.hint a c
def f0:Code→Nat
 | .region id _ _=>id
 | .seq x _=>f0 x
 | .block _ x=>f0 x
 | .loop x=>f0 x
 | .cond _ x _=>f0 x
 |_=>0
def BS(H:Option rm)(S:St):Option (St×List Nat×aq):=
 match H with
 |none=>some (S,[],[])
 |some H=>match S.env H.t with
  | .sl k v a b _=>if k=H.k∧a=0 then match (S.heap k).ob with
      |some (.arr _ es)=>some (⟨aJ S.env H.t (.d (.ro H.ds)),aJ S.heap k ⟨(S.heap k).ver+1,none⟩⟩,[k],[(.nat (S.heap k).ver, .nat v),(.nat b, .nat H.n),(.av (.tup es), .av (.tup H.es))])
      |_=>none
   else none
  |_=>none
theorem C1(n:Nat)(h:aa)(k v a b sz:Nat):view (n+1) h (.sl k v a b sz)=match (h k).ob with
    |some (.arr _ es)=>if (h k).ver=v∧a+b≤es.length then (eD (view n h) ((es.drop a).take b)).map fun r=>(.ro r.1,k::r.2)else none
    |_=>none:=rfl
theorem zj{X:cA}{H:Option rm}{S S':St}{tk:List Nat}{ps:aq}(h:BS H S=some (S',tk,ps))(q:Alike ps):Weak X S S'∧∀k,k∉tk→S'.heap k=S.heap k:=by
 unfold BS at h;split at h
 ·simp only[xA,xG]at h
  obtain⟨rfl,rfl,rfl⟩:=h;exact⟨Weak.refl S,fun _ _=>rfl⟩
 ·rename_i H
  split at h
  ·rename_i k v A D sz f
   split at h
   ·rename_i B
    obtain⟨rfl,rfl⟩:=B;split at h
    ·rename_i C es n
     simp only[xA,xG]at h;obtain⟨rfl,rfl,rfl⟩:=h;have r:=q.head;have h2:=q.tail.head;have u:=q.tail.tail.head;simp only[aL.nat.injEq,aL.av.injEq,AV.tup.injEq]at r h2 u;subst u
     have j:view 4 S.heap (S.env H.t)=some (.ro H.ds,[H.k]):=by
      rw[f];rw[C1,n];simp only;rw[x9 ⟨r,by rw[h2,←H.hn];omega⟩];rw[yM,yh (by rw[h2,←H.hn];exact xS _),H.hv];rfl
     refine⟨fun G a w x=> ?_,fun E l=>by simp at l;exact ae _ _ l⟩;obtain⟨i,z,c,p⟩:=x;have g:ap S.heap (kill S.heap [H.k])=aJ S.heap H.k ⟨(S.heap H.k).ver+1,none⟩:=rfl;have s:=i.kill [H.k];rw[g]at s;have hex:=Ext.froz i [H.k];refine⟨_,hex,s,z,⟨c.size,c.nod,fun t m=> ?_,fun t m=> ?_⟩,p.mono hex⟩
     ·by_cases e:t=H.t
      ·subst e
       show Rep _ _ (aJ S.env H.t _ H.t) _;rw[ad];have:=d5 i 4 _ _ _ _ j (c.rep H.t m);exact .d (this.mono (fun b o y=>y) (fun _ _ _=>rfl))
      ·show Rep _ _ (aJ S.env H.t _ t) _
       rw[ae _ _ e];exact(c.rep t m).mono hex
     ·by_cases e:t=H.t
      ·subst e
       have:=c.out H.t m;rw[f]at this;cases this
      ·show aJ S.env H.t _ t=_
       rw[ae _ _ e];exact c.out t m
    ·cases h
   ·cases h
  ·cases h
theorem HR.reob{G:Gh}{B:Nat}{w0 w:World}{I0:Nat→Nat→Prop}{h:aa}(e:HR G B w0 I0 h w){k:Nat}{ob:Ob}(o:ObRep G w k (h k).ver ob)(hm:ob.flex=true):HR G B w0 I0 (aJ h k ⟨(h k).ver,some ob⟩) w:=by
 have i:∀a,(aJ h k ⟨(h k).ver,some ob⟩ a).ver=(h a).ver:=fun a=>by
  simp only[aJ];split
  ·rename_i d;rw[d]
  ·rfl
 refine⟨e.below,e.bsz,e.immlt,e.i0,e.immlow,fun k v L f=>by rw[i];exact e.fresh k v L f,fun k L f=>by rw[i]at f;exact e.own k L f,
  fun k a L u f m=>by rw[i]at f m;exact e.dis k a L u f m,fun a ob' n=> ?_,fun k=>by rw[i];exact e.lim k,⟨fun k v b x=>by rw[i];exact e.maps.low k v b x,fun F D b z t r q=>by
   have s:∀j,jm (aJ h k ⟨(h k).ver,some ob⟩ j).ob=true→jm (h j).ob=true:=fun j l=>by
    by_cases d:j=k
    ·subst d;rw[ad]at l;simp[jm,hm]at l
    ·rw[ae _ _ d]at l;exact l
   rw[i]at r q;exact e.maps.inj F D b (s _ z) (s _ t) r q,fun a es c x=> ?_,fun a p N env ps Y0 y A x=> ?_,fun a E C g seen x=> ?_,e.maps.glob⟩⟩
 ·by_cases d:a=k
  ·subst d
   rw[ad]at n ⊢;cases n;exact o
  ·rw[ae _ _ d]at n ⊢
   exact e.objs a ob' n
 ·by_cases d:a=k
  ·subst d
   rw[ad]at x;cases x;cases hm
  ·rw[ae _ _ d]at x ⊢
   exact e.maps.obj a es c x
 ·by_cases d:a=k
  ·subst d
   rw[ad]at x;cases x;cases hm
  ·rw[ae _ _ d]at x ⊢
   exact e.maps.loops a p N env ps Y0 y A x
 ·by_cases d:a=k
  ·subst d
   rw[ad]at x;cases x;cases hm
  ·rw[ae _ _ d]at x ⊢
   exact e.maps.iters a E C g seen x
section
variable{G:Gh}{B:Nat}{w0 w:World}{I0:Nat→Nat→Prop}{h:aa}
theorem HR.recell(p:HR G B w0 I0 h w){C a:Nat}{ces:List AV}{x y:AV}(D:(h C).ob=some (.arr 1 ces))(n:ces[a]? =some x)(A:y.lone=true)(m:∀u,Rep G w x u→Rep G w y u):
    HR G B w0 I0 (aJ h C ⟨(h C).ver,some (.arr 1 (ces.set a y))⟩) w:=by
 refine p.reob ?_ rfl;have g:=(xE.1 n).1;rcases p.objs C _ D with ⟨rfl,_⟩|⟨L,r,s,v,q,E,k,o⟩
 ·simp at g
 have b:∀e∈ces.set a y,e.lone=true:=fun e f=>by
  rcases xu f with f|rfl
  ·exact k rfl e f
  ·exact A
 refine .inr ⟨L,r,s,v,by simpa using q,fun e f=>by rw[AV.cells_lone (b e f)];rfl,fun _=>b,fun t c i=> ?_⟩;rw[bO b,List.getElem?_set]at i;by_cases d:a=t
 ·subst d
  simp only[yS,g]at i;cases i;obtain⟨u,z,j,l⟩:=o a x (by rw[bO (k rfl)];exact n);exact⟨u,z,j,m u l⟩
 ·rw[xj d]at i
  exact o t c (by rw[bO (k rfl)];exact i)
end
theorem jV{X:cA}{env:Nat→AV}{h:aa}{C K a sz:Nat}{ces:List AV}(c:C≠K)(m:(h C).ob=some (.arr 1 ces))(f:ces[a]? =some .nils):
    Weak X ⟨env,h⟩ ⟨env,aJ (aJ h K ⟨(h K).ver+1,some (.arr sz [])⟩) C ⟨(h C).ver,some (.arr 1 (ces.set a (.sl K ((h K).ver+1) 0 0 sz)))⟩⟩:=fun G ac w ⟨i,j,n,g⟩=>by
 obtain⟨l,d,e,_⟩:=i.bump K (some (.arr sz [])) (fun o e=>by cases e;exact⟨sz,rfl⟩);have b:(aJ h K ⟨(h K).ver+1,some (.arr sz [])⟩ C)=h C:=ae _ _ c;have h2:=d.recell (C:=C) (a:=a) (x:= .nils) (y:= .sl K ((h K).ver+1) 0 0 sz) (by rw[b];exact m) f rfl (fun u k=>by cases k;exact .slNil _ _ _ _);rw[b]at h2;exact⟨l,e,h2,j,n.mono e,g.mono e⟩
section
variable{G:Gh}{B:Nat}{w0 w:World}{I0:Nat→Nat→Prop}{h:aa}
theorem HR.rename(f:HR G B w0 I0 h w){A K sz:Nat}{es:List AV}(E:A≠K)(R:(h A).ob=some (.arr sz es)):
    ∃m,HR m B w0 I0 (aJ (aJ h A ⟨(h A).ver+1,none⟩) K ⟨(h K).ver+1,some (.arr sz es)⟩) w∧Ext G w m w∧∀L,G.loc A (h A).ver=some L→m.loc K ((h K).ver+1)=some L:=by
 cases q:G.loc A (h A).ver with
 |none=>
  have I:es=[]:=by
   rcases f.objs A _ R with ⟨rfl,_⟩|⟨L,l,_⟩
   ·rfl
   ·rw[q]at l;cases l
  subst I;obtain⟨G1,h1,e1,_⟩:=f.bump A none (fun o e=>by cases e);obtain⟨W,h2,F,_⟩:=h1.bump K (some (.arr sz [])) (fun o e=>by cases e;exact⟨sz,rfl⟩);rw[ae _ _ (Ne.symm E)]at h2;exact⟨W,h2,e1.trans F,fun L x=>by cases x⟩
 |some L=>
  have D:=f.none_next A;have N:=f.none_next K
  let m:Gh:={G with loc:=fun T P=>if T=K∧P=(h K).ver+1 then some L else G.loc T P,lim:=aJ (aJ G.lim A ((h A).ver+1)) K ((h K).ver+1)}
  have b:∀k v,¬(k=K∧v=(h K).ver+1)→m.loc k v=G.loc k v:=fun k v s=>xj s
  have g:m.loc K ((h K).ver+1)=some L:=x9 ⟨rfl,rfl⟩
  have r:∀k,G.lim k≤m.lim k:=fun k=>by
   show _≤aJ (aJ G.lim A _) K _ k;by_cases d:k=K
   ·subst d;rw[ad,f.lim];omega
   ·rw[ae _ _ d]
    by_cases a:k=A
    ·subst a;rw[ad,f.lim];omega
    ·rw[ae _ _ a];exact xS _
  have hex:Ext G w m w:=⟨fun _ _ x=>x,fun k v j x=>by
   rw[b k v (by rintro⟨rfl,rfl⟩;rw[N]at x;cases x)];exact x,fun _ _ _=>rfl,xS _,r,fun k v hv x=>by
   rw[b k v (by rintro⟨rfl,rfl⟩;rw[f.lim]at hv;omega)];exact x,fun _ _ _ x=>x,ej rfl⟩
  have n:∀k,(h k).ver≤(aJ (aJ h A ⟨(h A).ver+1,none⟩) K ⟨(h K).ver+1,some (.arr sz es)⟩ k).ver:=fun k=>by
   by_cases d:k=K
   ·subst d;rw[ad];exact Nat.le_succ _
   ·rw[ae _ _ d]
    by_cases a:k=A
    ·subst a;rw[ad];exact Nat.le_succ _
    ·rw[ae _ _ a];exact xS _
  have p:∀k j,m.loc k (aJ (aJ h A ⟨(h A).ver+1,none⟩) K ⟨(h K).ver+1,some (.arr sz es)⟩ k).ver=some j→(k=K∧j=L)∨(k≠K∧k≠A∧G.loc k (h k).ver=some j):=by
   intro k j x;by_cases d:k=K
   ·subst d
    rw[ad]at x;rw[g]at x;exact .inl ⟨rfl,(Option.some.inj x).symm⟩
   ·rw[ae _ _ d]at x
    by_cases a:k=A
    ·subst a
     rw[ad,b _ _ (by rintro⟨rfl,_⟩;exact d rfl),D]at x;cases x
    ·rw[ae _ _ a,b _ _ (by rintro⟨rfl,_⟩;exact d rfl)]at x
     exact .inr ⟨d,a,x⟩
  refine⟨m,⟨f.below,f.bsz,f.immlt,f.i0,f.immlow, ?_, ?_, ?_, ?_, ?_,f.maps.step hex rfl (fun _ _ _ x=>x) n (fun k o hf i=> ?_)⟩,hex,fun j x=>by cases x;exact g⟩
  ·intro k v j x
   by_cases d:k=K∧v=(h K).ver+1
   ·obtain⟨rfl,rfl⟩:=d;rw[ad];exact xS _
   ·rw[b _ _ d]at x
    exact yX (f.fresh k v j x) (n k)
  ·intro k j x
   rcases p k j x with ⟨rfl,rfl⟩|⟨_,_,x⟩
   ·exact f.own A _ q
   ·exact f.own k j x
  ·intro O M H J x1 V z
   rcases p O H x1 with ⟨rfl,rfl⟩|⟨n1,m1,Q⟩<;>rcases p M J V with ⟨F,f2⟩|⟨n2,X,S⟩
   ·exact F.symm
   ·exact absurd (f.dis A M _ J q S z).symm X
   ·subst f2;exact absurd (f.dis O A H _ Q q z) m1
   ·exact f.dis O M H J Q S z
  ·intro k ob i
   by_cases d:k=K
   ·subst d
    rw[ad]at i ⊢;simp only[xA]at i;subst i;rcases f.objs A _ R with ⟨_,s⟩|⟨j,l,Z,g2,U,g4,Y,g5⟩
    ·rw[q]at s;cases s
    ·rw[q]at l
     cases l
     exact .inr ⟨L,g,Z,g2,U,g4,Y,fun t c ht=>by
      obtain⟨u,hu,y,C⟩:=g5 t c ht;exact⟨u,hu,y,C.mono hex⟩⟩
   ·rw[ae _ _ d]at i ⊢
    by_cases a:k=A
    ·subst a;rw[ad]at i;cases i
    ·rw[ae _ _ a]at i ⊢
     exact(f.objs k ob i).mono (f.le k) hex (fun _ _ _=>rfl)
  ·intro k
   show aJ (aJ G.lim A _) K _ k=_;by_cases d:k=K
   ·subst d;rw[ad,ad]
   ·rw[ae _ _ d,ae _ _ d]
    by_cases a:k=A
    ·subst a;rw[ad,ad]
    ·rw[ae _ _ a,ae _ _ a];exact f.lim k
  ·by_cases d:k=K
   ·subst d;rw[ad]at i;cases i;cases hf
   ·rw[ae _ _ d]at i ⊢
    by_cases a:k=A
    ·subst a;rw[ad]at i;cases i
    ·rw[ae _ _ a]
theorem Rep.moved{f:Gh}{A v K e a b z:Nat}{u:Value}(i:Rep G w (.sl A v a b z) u)(k:∀L,G.loc A v=some L→f.loc K e=some L):Rep f w (.sl K e a b z) u:=by
 cases i with
 |slNil=>exact .slNil _ _ _ _
 |sl _ _ _ _ c L g j d=>exact .sl K e a b c L (k L g) j d
end
theorem ES{X:cA}{env:Nat→AV}{h:aa}{C A K a sz b c z:Nat}{es ces:List AV}(i:A≠K)(j:C≠A)(k:C≠K)(B:(h C).ob=some (.arr 1 ces))(n:ces[a]? =some (.sl A (h A).ver b c z))(s:(h A).ob=some (.arr sz es)):
    Weak X ⟨env,h⟩ ⟨env,aJ (aJ (aJ h A ⟨(h A).ver+1,none⟩) K ⟨(h K).ver+1,some (.arr sz es)⟩) C ⟨(h C).ver,some (.arr 1 (ces.set a (.sl K ((h K).ver+1) b c z)))⟩⟩:=fun G ac w ⟨m,o,q,r⟩=>by
 obtain⟨v,l,e,p⟩:=m.rename i s;have f:(aJ (aJ h A ⟨(h A).ver+1,none⟩) K ⟨(h K).ver+1,some (.arr sz es)⟩ C)=h C:=by rw[ae _ _ k,ae _ _ j]
 have h2:=l.recell (C:=C) (a:=a) (x:= .sl A (h A).ver b c z) (y:= .sl K ((h K).ver+1) b c z) (by rw[f];exact B) n rfl (fun u t=>t.moved (fun L g=> ?_))
 ·rw[f]at h2
  exact⟨v,e,h2,o,q.mono e,r.mono e⟩
 ·cases d:G.loc A (h A).ver with
  |none=>
   have:=e.nloc A (h A).ver (by rw[m.lim];exact xS _) d;rw[this]at g;cases g
  |some D=>
   rw[e.loc _ _ _ d]at g;cases g;exact p _ d
def Gy(H:Option k4)(S:St):Option (St×List Nat×aq):=
 match H with
 |none=>some (S,[],[])
 |some H=>if H.obj=true then (if H.slot=true then match S.env H.i with
     | .nils=>some (⟨aJ S.env H.i (.sl H.K ((S.heap H.K).ver+1) 0 0 H.sz),aJ S.heap H.K ⟨(S.heap H.K).ver+1,some (.arr H.sz [])⟩⟩,[H.K],[])
     |_=>none
     else match (S.heap H.k).ob with
     |some (.arr sz es)=>if sz=1∧H.k≠H.K then match es[H.i]? with
         |some .nils=>some (⟨S.env,aJ (aJ S.heap H.K ⟨(S.heap H.K).ver+1,some (.arr H.sz [])⟩) H.k ⟨(S.heap H.k).ver,some (.arr 1 (es.set H.i (.sl H.K ((S.heap H.K).ver+1) 0 0 H.sz)))⟩⟩,[H.K,H.k],[])
         |some (.sl A v a b z)=>match S.heap A with
          |⟨c,some (.arr e d)⟩=>if A≠H.K∧H.k≠A then some (⟨S.env,aJ (aJ (aJ S.heap A ⟨v+1,none⟩) H.K ⟨(S.heap H.K).ver+1,some (.arr e d)⟩) H.k ⟨(S.heap H.k).ver,some (.arr 1 (es.set H.i (.sl H.K ((S.heap H.K).ver+1) a b z)))⟩⟩,[A,H.K,H.k],[(.nat c, .nat v)])else none
          |_=>none
         |_=>none
      else none
     |_=>none)
  else if H.slot=true then match S.env H.i with
   | .nils=>some (⟨aJ S.env H.i (.vec H.K (S.heap H.K).ver H.sz []),S.heap⟩,[],[])
   |_=>none
  else match (S.heap H.k).ob with
  |some (.arr sz es)=>if sz=1 then match es[H.i]? with
      |some .nils=>some (⟨S.env,aJ S.heap H.k ⟨(S.heap H.k).ver,some (.arr sz (es.set H.i (.vec H.K (S.heap H.K).ver H.sz [])))⟩⟩,[H.k],[])
      |_=>none
   else none
  |_=>none
theorem BT{X:cA}{H:Option k4}{S S':St}{tk:List Nat}{ps:aq}(h:Gy H S=some (S',tk,ps))(hs:Alike ps):Weak X S S'∧∀k,k∉tk→S'.heap k=S.heap k:=by
 unfold Gy at h;split at h
 ·simp only[xA,xG]at h
  obtain⟨rfl,rfl,rfl⟩:=h;exact⟨Weak.refl S,fun _ _=>rfl⟩
 ·rename_i H
  split at h
  ·split at h
   case isFalse=>
    split at h;case h_2=>cases h
    rename_i sz es n;split at h;case isFalse=>cases h
    rename_i hc;obtain⟨rfl,s⟩:=hc;split at h
    ·rename_i j
     simp only[xA,xG]at h;obtain⟨rfl,rfl,rfl⟩:=h;refine⟨jV (X:=X) (env:=S.env) s n j,fun k l=> ?_⟩;simp only[xX,yD,zG,zM]at l;exact(ae _ _ l.2).trans (ae _ _ l.1)
    ·rename_i A v off len z j
     split at h;case h_2=>cases h
     rename_i vA sA eA Z;split at h;case isFalse=>cases h
     rename_i V;obtain⟨T,J⟩:=V;simp only[xA,xG]at h;obtain⟨rfl,rfl,rfl⟩:=h;have F:=hs.head;simp only[aL.nat.injEq]at F;subst F;have Y:(S.heap A).ver=vA:=by rw[Z]
     have e2:(S.heap A).ob=some (.arr sA eA):=by rw[Z]
     refine⟨?_,fun k l=> ?_⟩
     ·have:=ES (X:=X) (env:=S.env) (h:=S.heap) (K:=H.K) T J s n (by rw[Y];exact j) e2
      rw[Y]at this;exact this
     ·simp only[xX,yD,zG,zM]at l
      exact(ae _ _ l.2.2).trans ((ae _ _ l.2.1).trans (ae _ _ l.1))
    ·cases h
   split at h;case h_2=>cases h
   rename_i f;simp only[xA,xG]at h;obtain⟨rfl,rfl,rfl⟩:=h;refine⟨fun G a w ⟨p,Q,b,q⟩=> ?_,fun k l=>by simp at l;exact ae _ _ l⟩;obtain⟨G',P,y,_⟩:=p.bump H.K (some (.arr H.sz [])) (fun o e=>by cases e;exact⟨_,rfl⟩);refine⟨G',y,P,Q,⟨b.size,b.nod,fun t g=> ?_,fun t g=> ?_⟩,q.mono y⟩
   ·by_cases d:t=H.i
    ·subst d
     show Rep _ _ (aJ S.env H.i _ H.i) _;rw[ad];have:=b.rep H.i g;rw[f]at this;have U:∀u,Rep G w .nils u→Rep G' w (.sl H.K ((S.heap H.K).ver+1) 0 0 H.sz) u:=fun u E=>by cases E;exact .slNil _ _ _ _
     exact U _ this
    ·show Rep _ _ (aJ S.env H.i _ t) _
     rw[ae _ _ d];exact(b.rep t g).mono y
   ·by_cases d:t=H.i
    ·subst d
     have:=b.out H.i g;rw[f]at this;cases this
    ·show aJ S.env H.i _ t=_
     rw[ae _ _ d];exact b.out t g
  split at h
  ·split at h
   case h_2=>cases h
   rename_i f;simp only[xA,xG]at h;obtain⟨rfl,rfl,rfl⟩:=h;refine⟨fun G a w ⟨p,Q,b,q⟩=>⟨G,Ext.refl G w,p,Q,⟨b.size,b.nod,fun t g=> ?_,fun t g=> ?_⟩,q⟩,fun _ _=>rfl⟩
   ·by_cases d:t=H.i
    ·subst d
     show Rep _ _ (aJ S.env H.i _ H.i) _;rw[ad];have:=b.rep H.i g;rw[f]at this;have U:∀u,Rep G w .nils u→Rep G w (.vec H.K (S.heap H.K).ver H.sz []) u:=fun u E=>by cases E;exact .vecNil _ _ _
     exact U _ this
    ·show Rep _ _ (aJ S.env H.i _ t) _
     rw[ae _ _ d];exact b.rep t g
   ·by_cases d:t=H.i
    ·subst d
     have:=b.out H.i g;rw[f]at this;cases this
    ·show aJ S.env H.i _ t=_
     rw[ae _ _ d];exact b.out t g
  split at h;case h_2=>cases h
  rename_i sz es n;split at h;case isFalse=>cases h
  rename_i O;subst O;split at h;case h_2=>cases h
  rename_i j;simp only[xA,xG]at h;obtain⟨rfl,rfl,rfl⟩:=h;refine⟨fun G a w I=>⟨G,Ext.refl G w,I.1.reob ?_ rfl,I.2⟩,fun k' B=>by simp at B;exact ae _ _ B⟩;have D:=(xE.1 j).1;rcases I.1.objs H.k _ n with ⟨rfl,_⟩|⟨L,hL,P,y,g3,g4,N,W⟩
  ·simp at D
  have m:∀x∈es.set H.i (.vec H.K (S.heap H.K).ver H.sz []),x.lone=true:=fun x C=>by
   rcases xu C with C|rfl
   ·exact N rfl x C
   ·rfl
  refine .inr ⟨L,hL,P,y,by simpa using g3,fun x C=>by rw[AV.cells_lone (m x C)];rfl,fun _=>m,fun t c g=> ?_⟩;rw[bO m,List.getElem?_set]at g;by_cases r:H.i=t
  ·subst r
   simp only[yS,D]at g;cases g;obtain⟨u,E,M,R⟩:=W H.i .nils (by rw[bO (N rfl)];exact j);refine⟨u,E,M, ?_⟩;cases R;exact .vecNil _ _ _
  ·rw[xj r]at g
   exact W t c (by rw[bO (N rfl)];exact g)
def rq:List k4→St→Option (St×List Nat×aq)
 |[],S=>some (S,[],[])
 |H::r,S=>match Gy (some H) S with
  |some a=>match rq r a.1 with
   |some b=>some (b.1,a.2.1 ++b.2.1,a.2.2 ++b.2.2)
   |none=>none
  |none=>none
theorem pw{X:cA}:∀{l:List k4}{S S':St}{tk:List Nat}{ps:aq},rq l S=some (S',tk,ps)→Alike ps→Weak X S S'∧∀k,k∉tk→S'.heap k=S.heap k
 |[],S,S',tk,ps,h,d=>by
  simp only[rq,xA,xG]at h;obtain⟨rfl,rfl,rfl⟩:=h;exact⟨Weak.refl S,fun _ _=>rfl⟩
 |H::r,S,S',tk,ps,h,d=>by
  simp only[rq]at h;split at h;case h_2=>cases h
  rename_i a f;split at h;case h_2=>cases h
  rename_i b g;simp only[xA,xG]at h;obtain⟨rfl,rfl,rfl⟩:=h;obtain⟨p,j,i⟩:=a;obtain⟨m,n,o⟩:=b;have e:=BT (X:=X) f d.left;have h2:=pw (X:=X) g d.right;exact⟨e.1.trans h2.1,fun k c=>by simp only[xZ,zM]at c;exact(h2.2 k c.2).trans (e.2 k c.1)⟩
theorem gT{X:cA}{env:Nat→AV}{h:aa}{C a n:Nat}{ces:List AV}{x:AV}{d:D}{ks:List Nat}(v:C∉ks)(R:(h C).ob=some (.arr 1 ces))(z:ces[a]? =some x)(N:d.one=true)(Q:view n h x=some (d,ks)):
    Weak X ⟨env,h⟩ ⟨env,aJ (ap h (kill h ks)) C ⟨(h C).ver,some (.arr 1 (ces.set a (.d d)))⟩⟩:=fun G ac w ⟨r,J,O,P⟩=>by
 have y:=r.kill ks;have e:=Ext.froz r ks;have q:ap h (kill h ks) C=h C:=by rw[bz,xj v]
 have K:∀u,Rep G w x u→Rep (G.froz h ks) w (.d d) u:=fun u m=> .d ((d5 r n _ _ _ _ Q m).mono (fun b o H=>H) (fun _ _ _=>rfl))
 have h2:HR (G.froz h ks) X.B X.w0 X.I0 (aJ (ap h (kill h ks)) C ⟨(ap h (kill h ks) C).ver,some (.arr 1 (ces.set a (.d d)))⟩) w:=by
  refine y.reob ?_ rfl;rw[q];have l:=(xE.1 z).1;rcases r.objs C _ R with ⟨rfl,_⟩|⟨L,F,I,M,E,S,s,A⟩
  ·simp at l
  have f:∀e∈ces.set a (.d d),e.lone=true:=fun e k=>by
   rcases xu k with k|rfl
   ·exact s rfl e k
   ·cases d<;>first|rfl|(simp[D.one]at N)
  refine .inr ⟨L,e.loc _ _ _ F,I,M,by simpa using E,fun e k=>by rw[AV.cells_lone (f e k)];rfl,fun _=>f,fun t c p=> ?_⟩;rw[bO f,List.getElem?_set]at p;by_cases j:a=t
  ·subst j
   simp only[yS,l]at p;cases p;obtain⟨u,m,g,i⟩:=A a x (by rw[bO (s rfl)];exact z);exact⟨u,m,g,K u i⟩
  ·rw[xj j]at p
   obtain⟨u,m,g,i⟩:=A t c (by rw[bO (s rfl)];exact p);exact⟨u,m,g,i.mono e⟩
 rw[q]at h2;exact⟨_,e,h2,J,O.mono e,P.mono e⟩
def U0(H:Option tJ)(S:St):Option (St×List Nat×aq):=
 match H with
 |none=>some (S,[],[])
 |some H=>match (S.heap H.C).ob with
  |some (.arr sz ces)=>if sz=1∧H.C≠H.k then match ces[H.a]? with
      |some (.sl k v b c _)=>if k=H.k∧b=0 then match (S.heap k).ob with
          |some (.arr _ es)=>some (⟨S.env,aJ (aJ S.heap k ⟨(S.heap k).ver+1,none⟩) H.C ⟨(S.heap H.C).ver,some (.arr 1 (ces.set H.a (.d (.ro H.ds))))⟩⟩,[k,H.C],[(.nat (S.heap k).ver, .nat v),(.nat c, .nat H.n),(.av (.tup es), .av (.tup H.es))])
          |_=>none
       else none
      |_=>none
   else none
  |_=>none
theorem Gz{X:cA}{H:Option tJ}{S S':St}{tk:List Nat}{ps:aq}(h:U0 H S=some (S',tk,ps))(c:Alike ps):Weak X S S'∧∀k,k∉tk→S'.heap k=S.heap k:=by
 unfold U0 at h;split at h
 ·simp only[xA,xG]at h
  obtain⟨rfl,rfl,rfl⟩:=h;exact⟨Weak.refl S,fun _ _=>rfl⟩
 rename_i H;split at h;case h_2=>cases h
 rename_i sz ces p;split at h;case isFalse=>cases h
 rename_i n;obtain⟨rfl,f⟩:=n;split at h;case h_2=>cases h
 rename_i k v m g z l;split at h;case isFalse=>cases h
 rename_i d;obtain⟨rfl,rfl⟩:=d;split at h;case h_2=>cases h
 rename_i o es e;simp only[xA,xG]at h;obtain⟨rfl,rfl,rfl⟩:=h;have i:=c.head;have h2:=c.tail.head;have j:=c.tail.tail.head;simp only[aL.nat.injEq,aL.av.injEq,AV.tup.injEq]at i h2 j;subst j
 have a:view 4 S.heap (.sl H.k v 0 g z)=some (.ro H.ds,[H.k]):=by
  rw[C1,e];simp only;rw[x9 ⟨i,by rw[h2,←H.hn];omega⟩];rw[yM,yh (by rw[h2,←H.hn];exact xS _),H.hv];rfl
 refine⟨gT (ks:=[H.k]) (by simpa using f) p l rfl a,fun q b=> ?_⟩;simp only[xX,yD,zG,zM]at b;exact(ae _ _ b.2).trans (ae _ _ b.1)
def rt(K:Option (List (Nat×AV)))(S:St):St×aq:=match K with
 |none=>(S,[])
 |some l=>(⟨ak l,S.heap⟩,iE S.env l)
theorem zk{X:cA}{K:Option (List (Nat×AV))}{S:St}(a:Alike (rt K S).2):Weak X S (rt K S).1∧(rt K S).1.heap=S.heap:=by
 cases K with
 |none=>exact⟨Weak.refl S,rfl⟩
 |some l=>exact⟨mJ (heap:=S.heap) (ml a),rfl⟩
def ru(H:Option rm)(N:List k4)(K:Option (List (Nat×AV)))(S:St):Option (St×List Nat×aq):=
 match BS H S with
 |some a=>match rq N a.1 with
  |some b=>some ((rt K b.1).1,a.2.1 ++b.2.1,a.2.2 ++(b.2.2 ++(rt K b.1).2))
  |none=>none
 |none=>none
def u1(H:Option rm)(N:List k4)(K:Option (List (Nat×AV)))(Z:Option tJ)(S:St):Option (St×List Nat×aq):=
 match ru H N K S with
 |some a=>match U0 Z a.1 with
  |some b=>some (b.1,a.2.1 ++b.2.1,a.2.2 ++b.2.2)
  |none=>none
 |none=>none
theorem tj{X:cA}{H:Option rm}{N:List k4}{K:Option (List (Nat×AV))}{S S':St}{tk:List Nat}{ps:aq}(h:ru H N K S=some (S',tk,ps))(d:Alike ps):Weak X S S'∧∀k,k∉tk→S'.heap k=S.heap k:=by
 unfold ru at h;split at h;case h_2=>cases h
 rename_i a g;split at h;case h_2=>cases h
 rename_i b i;simp only[xA,xG]at h;obtain⟨rfl,rfl,rfl⟩:=h;obtain⟨p,l,j⟩:=a;obtain⟨m,n,o⟩:=b;have e:=zj (X:=X) g d.left;have h2:=pw (X:=X) i d.right.left;have f:=zk (X:=X) d.right.right;exact⟨(e.1.trans h2.1).trans f.1,fun k c=>by simp only[xZ,zM]at c;rw[f.2];exact(h2.2 k c.2).trans (e.2 k c.1)⟩
theorem eQ{X:cA}{H:Option rm}{N:List k4}{K:Option (List (Nat×AV))}{Z:Option tJ}{S S':St}{tk:List Nat}{ps:aq}(h:u1 H N K Z S=some (S',tk,ps))(e:Alike ps):Weak X S S'∧∀k,k∉tk→S'.heap k=S.heap k:=by
 unfold u1 at h;split at h;case h_2=>cases h
 rename_i a f;split at h;case h_2=>cases h
 rename_i b g;simp only[xA,xG]at h;obtain⟨rfl,rfl,rfl⟩:=h;obtain⟨o,j,i⟩:=a;obtain⟨l,m,n⟩:=b;have d:=tj (X:=X) f e.left;have h2:=Gz (X:=X) g e.right;exact⟨d.1.trans h2.1,fun k c=>by simp only[xZ,zM]at c;exact(h2.2 k c.2).trans (d.2 k c.1)⟩
def Par.nilsAt{P:Program}(b:Par P)(a id:Nat):List k4:=match b.nils a id with
 |some H=>H::b.nils2 a id
 |none=>b.nils2 a id
abbrev cZ:=Nat→Nat→Nat→Code→St→Option (aA×St×Nat×List Nat×aq)
def u2(P:Program)(c:cZ)(g:Nat)(ds:List D):Option (List D×aq):=
 match P.funcs[g]? with
 |none=>none
 |some fn=>match fn.body with
  |none=>none
  |some b=>if ds.length≤fn.ntmps then match c g 0 fn.ntmps b (jS ds)with
      |some (.normal,S',_,_,ps)=>(pn P S' fn.results.toList).map fun a=>(a,ps)
      |some (.ret,S',_,_,ps)=>(pn P S' fn.results.toList).map fun a=>(a,ps)
      |_=>none
   else none
def gC(P:Program)(e:cZ)(a:Nat)(g:Nat)(args:List AV)(h:aa):Option (List AV×aa×Nat×List Nat×aq):=
 match P.funcs[g]? with
 |none=>none
 |some fn=>match fn.body with
  |none=>none
  |some b=>if args.length≤fn.ntmps then match e g a fn.ntmps b ⟨hE args,h⟩with
      |some (.normal,S',d,tk,ps)=>(lW P S' fn.results.toList).map fun c=>(c,S'.heap,d,tk,ps)
      |some (.ret,S',d,tk,ps)=>(lW P S' fn.results.toList).map fun c=>(c,S'.heap,d,tk,ps)
      |_=>none
   else none
def oz(P:Program)(g:cZ)(b:Nat)(args:List AV)(h:aa):Option (aa×Nat×List Nat×aq):=
 match args with
 |[a, .fn f c]=>match oy h a with
  |some (k,v,i,es,n,m)=>
   if n=0 then
    if m=0 then match gC P g b f c (w8 h k v i es)with
     |some r=>match oy r.2.1 a with
      |some (o,j,l,d,p,e)=>if o=k∧j=v∧l=i∧p=0∧e=1 then some (w9 r.2.1 k v i d,r.2.2.1,k::r.2.2.2.1,r.2.2.2.2)else none
      |none=>none
     |none=>none
    else none
   else some (h,b,[],[])
  |none=>none
 |_=>none
def BU(l:cZ)(a k v:Nat)(args:List AV)(h:aa):Option (Bool×aa×Nat×List Nat×aq):=
 match (h k).ob with
 |some (.lp b N env ps Y0 p .ready)=>match ki N (ak env) ps.toList args with
     |some c=>match l b a N Y0 ⟨c,h⟩with
      |some (.normal,S1,s,d,j)=>match (S1.heap k).ob with
       |some (.lp m n t o i e .ready)=>match l b s N p ⟨S1.env,aJ S1.heap k ⟨v,some (.lp m n t o i e .busy)⟩⟩with
           |some r=>match (r.2.1.heap k).ob,w6 r.1 with
            |some (.lp u y w x f g _),some q=>some (q.1,aJ r.2.1.heap k ⟨v,some (.lp u y w x f g q.2)⟩,r.2.2.1,k::(d ++r.2.2.2.1),(.nat (h k).ver, .nat v)::(.nat (S1.heap k).ver, .nat v)::(.nat (r.2.1.heap k).ver, .nat v)::(j ++r.2.2.2.2))
            |_,_=>none
           |none=>none
       |_=>none
      |_=>none
     |none=>none
 |_=>none
def keyOf(a i:Nat)(o:Oper):Nat:=match o.dst with
 |some d=>d
 |none=>100000+a*1000+i
def BV(P:Program)(e:Par P)(d:cZ)(c b a g:Nat)(args:List AV)(h:aa):Option (List AV×aa×Nat×List Nat×aq):=
 match e.xcalls c b with
 |some H=>if g=H.g then match a6 h H.pre with
     |some q=>some (H.rs,ag H.post (H.rst h),a,H.post.map (·.1) ++H.bigs,(.av (.tup args), .av (.tup H.args))::q)
     |none=>none
  else none
 |none=>gC P d a g args h
def C2(P:Program)(e:Par P)(f:cZ)(b c a N:Nat)(h:Array Oper)(i:Nat)(o:Oper)(S:St):Option (St×Foot×Nat×List Nat×aq):=
 match er h o S.env with
 |some true=>match BE o S.env with
  |some (g,args)=>match e.calls b (keyOf c i o) a with
   |some H=>if g=H.g then match a6 S.heap H.pre with
      |some q=>(eO N S.env o.dst (iV H.rs)).map fun env=>(⟨env,ap S.heap H.post.reverse⟩,⟨i,H.pre.map (·.1),H.post.reverse.map (·.1),false⟩,a,H.post.reverse.map (·.1),(.av (.tup args), .av (.tup H.args))::q)
      |none=>none
    else none
   |none=>match e.at b (keyOf c i o) a with
    |some (.call l ds j _)=>
     if l=g then match sS args with
      |some k=>(eO N S.env o.dst (kB j)).map fun env=>(⟨env,S.heap⟩,⟨i,[],[],false⟩,a,[],[(.ds k, .ds ds)])
      |none=>match view.go 12 S.heap args with
       |some r=>if j.all D.scal=true then (eO N S.env o.dst (kB j)).map fun env=>(⟨env,S.heap⟩,⟨i,r.2,[],false⟩,a,[],[(.ds r.1, .ds ds)])else none
       |none=>none
     else none
    |_=>if uX g=true then match oz P f a args S.heap with
      |some r=>(eO N S.env o.dst (.tup [])).map fun env=>(⟨env,r.1⟩,⟨i,[],r.2.2.1,true⟩,r.2.1,r.2.2.1,r.2.2.2)
      |none=>none
     else match (if e.hp g=true then none else sS args)with
     |some ds=>match u2 P f g ds with
      |some r=>(eO N S.env o.dst (kB r.1)).map fun env=>(⟨env,S.heap⟩,⟨i,[],[],false⟩,a,[],r.2)
      |none=>none
     |none=>match BV P e f b (keyOf c i o) a g args S.heap with
      |some r=>(eO N S.env o.dst (iV r.1)).map fun env=>(⟨env,r.2.1⟩,⟨i,[],r.2.2.2.1,true⟩,r.2.2.1,r.2.2.2.1,r.2.2.2.2)
      |none=>none
  |none=>match pb o S.env with
   |some y=>match BU f a y.1 y.2.1 y.2.2 S.heap with
    |some r=>(eO N S.env o.dst (.d (.bool r.1))).map fun env=>(⟨env,r.2.1⟩,⟨i,[],r.2.2.2.1,true⟩,r.2.2.1,r.2.2.2.1,r.2.2.2.2)
    |none=>none
   |none=>match Gt P (e.at b (keyOf c i o) a) {obm:=fun _=>e.obm b (o.dst.getD 0),base:=fun _=>a} i o (opd S.env) S.heap with
   |some q=>match q.1.ob with
    |[]=>(eO N S.env o.dst q.1.val).map fun env=>(⟨env,ap S.heap q.1.wr⟩,⟨i,q.1.rd,q.1.wr.map (·.1),false⟩,a+N,q.1.wr.map (·.1),q.2)
    |_=>none
   |none=>none
 |some false=>(eO N S.env o.dst (.tup [])).map fun env=>(⟨env,S.heap⟩,⟨i,[],[],false⟩,a,[],[])
 |none=>none
def zl(P:Program)(h:Par P)(g:cZ)(f e N:Nat)(d:Array Oper):List Oper→Nat→Nat→St→Option (St×List Foot×Nat×List Nat×aq)
 |[],_,c,S=>some (S,[],c,[],[])
 |o::r,i,c,S=>match C2 P h g f e c N d i o S with
  |none=>none
  |some a=>match zl P h g f e N d r (i+1) a.2.2.1 a.1 with
   |none=>none
   |some b=>some (b.1,a.2.1::b.2.1,b.2.2.1,a.2.2.2.1 ++b.2.2.2.1,a.2.2.2.2 ++b.2.2.2.2)
def GB(P:Program)(C:Option (tK P))(a:Array Oper)(o:Oper)(S:St):Option (AV×aa×List Nat×aq):=
 match er a o S.env with
 |some true=>match C with
  |some C=>match dZ o S.env with
   |some (g,args)=>if g=C.g then (a6 S.heap C.pre).map fun q=>(C.x,ag C.post S.heap,C.post.map (·.1),(.av (.tup args), .av (.tup C.args))::q)else none
   |none=>none
  |none=>match o.op with
   | .panic u=>match opd S.env u with
    | .iv t y=>some (.iv t y,S.heap,[],[])
    |_=>none
   |_=>none
 |_=>none
def GC(P:Program)(h:Par P)(g:cZ)(f e N:Nat)(d:Array Oper)(op:Oper):List Nat→Nat→St→Option (St×List (Nat×Foot)×Nat×List Nat×aq)
 |[],c,S=>some (S,[],c,[],[])
 |i::r,c,S=>match d[i]? with
  |none=>none
  |some o=>match C2 P h g f e c N d i o S with
   |none=>none
   |some a=>match (lJ op i||a.2.1.wr.all fun k=>Nat.ble (S.heap k).ver (a.1.heap k).ver)&& !(r.any (Nat.beq i))with
    |false=>none
    |true=>match GC P h g f e N d op r a.2.2.1 a.1 with
     |none=>none
     |some b=>some (b.1,(i,a.2.1)::b.2.1,b.2.2.1,a.2.2.2.1 ++b.2.2.2.1,a.2.2.2.2 ++b.2.2.2.2)
def tL:List (Nat×Foot)→Nat→Foot
 |[],_=>⟨0,[],[],false⟩
 |(j,f)::r,i=>bif Nat.beq i j then f else tL r i
def Kk(W:List Nat)(h:aa):aa:=fun k=>bif W.any (Nat.beq k)then ⟨(h k).ver,none⟩else h k
def wQ(op:Oper)(fts:List (Nat×Foot)):List Nat:=(fts.filter fun e=> !lJ op e.1).flatMap (·.2.wr)
def Rm{P:Program}(C:Option (tK P))(W:List Nat):Bool:=match C with
 |some C=>W.all fun k=> !(C.pre.map (·.1)).any (Nat.beq k)&& !(C.post.map (·.1)).any (Nat.beq k)
 |none=>true
def XJ{P:Program}(a:Array Oper)(p:Nat)(op:Oper)(O:List Nat)(fts:List (Nat×Foot))(C:Option (tK P)):Bool:=
 tI a (tL fts) p O (wQ op fts) O (Array.replicate a.size false)&&Nat.blt O.length a.size&&Rm C (wQ op fts)
def bi(P:Program)(j:Par P):Nat→cZ
 |0,_,_,_,_,_=>none
 |n+1,f,a,N,c,S=>
  match c with
  | .region id h m=>match u1 (j.weaks f id) (j.nilsAt f id) (j.keeps f id) (j.frz f id) S with
   |some k=>match j.pans f id a with
    |some H=>match H.ex with
     |[]=>match zl P j (bi P j n) f id N h (h.toList.take H.p) 0 a k.1 with
      |some r=>match h[H.p]? with
       |some o=>match GB P H.call h o r.1 with
        |some q=>if m=false∨Bw h r.2.1 H.p=true then some (.panic q.1,⟨ow h k.1.env,q.2.1⟩,r.2.2.1,k.2.1 ++(r.2.2.2.1 ++q.2.2.1),k.2.2 ++(r.2.2.2.2 ++q.2.2.2))else none
        |none=>none
       |none=>none
      |none=>none
     |_::_=>match m with
      |false=>none
      |true=>match h[H.p]? with
       |none=>none
       |some o=>match GC P j (bi P j n) f id N h o (List.range' 0 H.p ++H.exs) a k.1 with
        |none=>none
        |some r=>match GB P H.call h o r.1 with
         |none=>none
         |some q=>match XJ h H.p o (List.range' 0 H.p ++H.exs) r.2.1 H.call with
          |true=>some (.panic q.1,⟨ow h k.1.env,Kk (wQ o r.2.1) q.2.1⟩,r.2.2.1,k.2.1 ++(r.2.2.2.1 ++(q.2.2.1 ++wQ o r.2.1)),k.2.2 ++(r.2.2.2.2 ++q.2.2.2))
          |false=>none
    |none=>match zl P j (bi P j n) f id N h h.toList 0 a k.1 with
     |some r=>match m with
      |false=>some (.normal,r.1,r.2.2.1,k.2.1 ++r.2.2.2.1,k.2.2 ++r.2.2.2.2)
      |true=>match CU h r.2.1 with
       |true=>some (.normal,r.1,r.2.2.1,k.2.1 ++r.2.2.2.1,k.2.2 ++r.2.2.2.2)
       |false=>none
     |none=>none
   |none=>none
  | .seq x y=>match j.seqs f (f0 x)with
   |some H=>if H.N=N then match a6 S.heap (H.hp S.heap)with
       |some q=>some (H.e,⟨ak H.l',ag (H.hp' S.heap) S.heap⟩,a,(H.hp' S.heap).map (·.1),(.code (.seq x y), .code H.x)::(iE S.env H.l ++q))
       |none=>none
    else none
   |none=>match bi P j n f a N x S with
    |some (.normal,S',u,tk,ps)=>match bi P j n f u N y S' with
     |some (e,w,z,s,t)=>some (e,w,z,tk ++s,ps ++t)
     |none=>none
    |r=>r
  | .block id x=>match bi P j n f a N x S with
   |some (.exit i,S',u,tk,ps)=>if i=id then some (.normal,S',u,tk,ps)else some (.exit i,S',u,tk,ps)
   |r=>r
  | .loop x=>match j.loops f (f0 x)with
   |some H=>if H.N=N then match a6 S.heap (H.hp S.heap)with
       |some q=>some (H.e,⟨ak H.l',ag (H.hp' S.heap) S.heap⟩,a,(H.hp' S.heap).map (·.1),(.code x, .code H.x)::(iE S.env H.l ++q))
       |none=>none
    else none
   |none=>match bi P j n f a N x S with
    |some (.normal,S',u,tk,ps)=>match bi P j n f u N (.loop x) S' with
     |some (e,w,z,s,t)=>some (e,w,z,tk ++s,ps ++t)
     |none=>none
    |r=>r
  | .skip=>some (.normal,S,a,[],[])
  | .exit i=>some (.exit i,S,a,[],[])
  | .ret=>some (.ret,S,a,[],[])
  | .cond c x y=>match opd S.env c with
   | .d (.bool b)=>match b with
    |true=>bi P j n f a N x S
    |false=>bi P j n f a N y S
   |_=>none
  | .rangeFunc g ps Y0 B=>match opd S.env g with
   | .fn A v=>match gC P (bi P j n) (a+N) A (.yld a ((S.heap a).ver+1)::v) (aJ S.heap a ⟨(S.heap a).ver+1,some (.lp f N (Rg N S.env) ps Y0 B .ready)⟩)with
    |some r=>match (r.2.1 a).ob with
     |some (.lp _ _ _ _ _ _ C)=>match NW C with
      |some e=>some (e,⟨S.env,aJ r.2.1 a ⟨(r.2.1 a).ver,none⟩⟩,r.2.2.1,a::r.2.2.2.1,(.nat (r.2.1 a).ver, .nat ((S.heap a).ver+1))::r.2.2.2.2)
      |none=>none
     |_=>none
    |none=>none
   |_=>none
  |_=>none
end Go.Avm
