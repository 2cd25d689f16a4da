/-
  The abstract machine, part R: operations on open data. Where a value isn't known the prover says what it is, with a proof ('Hint'); what the run meets and what the prover named are handed out as pairs of sides, which the kernel compares.
-/
import Derived.Test.YtcjiafanhlhdlaaGreatDoorG05
import Derived.Test.YtcjiafanhlhdlaaGreatDoorG04
set_option linter.unusedVariables false
set_option linter.unusedSimpArgs false
set_option linter.unusedSectionVars false
namespace Go.Avm
variable[aJ]
inductive aU where
 |av (x:AV)
 |nat (n:Nat)
 |ds (l:List D)
 |code (c:Code)
 |mp (es:List (D×D×Nat))
 |ob (o:Ob)
 |hp (h:ab)
abbrev az:=List (aU×aU)
def Alike(ps:az):Prop:=∀p∈ps,p.1=p.2
theorem Alike.head{p:aU×aU}{ps:az}(h:Alike (p::ps)):p.1=p.2:=h p (by simp)
theorem Alike.tail{p:aU×aU}{ps:az}(h:Alike (p::ps)):Alike ps:=fun q hq=>h q (by simp[hq])
theorem Alike.left{ps qs:az}(h:Alike (ps ++qs)):Alike ps:=fun q hq=>h q (by simp[hq])
theorem Alike.right{ps qs:az}(h:Alike (ps ++qs)):Alike qs:=fun q hq=>h q (by simp[hq])
inductive bZ(P:Program) where
 |val (a b:AV) (h:a=b)
 |idx (l:List D) (i:Int) (y:D) (h0:0≤i) (h:l[i.toNat]? =some y)
 |inb (i:Int) (n:Nat) (h0:0≤i) (h:i.toNat<n)
 |elt (es:List AV) (i:Nat) (e:AV) (h:es[i]? =some e)
 |look (x:D) (es:List (D×D×Nat)) (r:Option (Nat×D)) (h:b8 x es 0=some r)
 |sidx (s:List UInt8) (i:Int) (b:UInt8) (h0:0≤i) (h:s[i.toNat]? =some b)
 |sub (s:List UInt8) (a b:Nat) (h:a≤b∧b≤s.length)
 |cat (a b:List UInt8) (h:a.length+b.length≤9223372036854775807)
 |cutl (l:List D) (b:Nat) (h:b≤l.length)
 |cuts (ln b:Nat) (h:b≤ln)
 |cutr (l:List D) (a b cs:Nat) (h:a≤b∧b≤l.length∧(l.all fun y=>y.cells.length==cs)=true)
 |mk (l:Int) (h0:0≤l) (h1:l≤1099511627776)
 |app (l:List D) (n:Nat) (h:l.length+n≤549755813888)
 |apps (es:List AV) (ln n:Nat) (h:ln≤es.length∧ln+n≤549755813888)
 |appl (l news:List D) (c:Nat) (h:l.length+news.length≤549755813888∧news.all (fun y=>y.cells.length==c)=true)
 |appsl (es:List AV) (ln:Nat) (nw:List D) (cs:Nat) (h:ln≤es.length∧ln+nw.length≤549755813888∧nw.all (fun y=>y.cells.length==cs)=true∧nw.all D.one=true)
 |call (g:Nat) (ds rs:List D) (h:aK P g ds rs)
def uG{P:Program}(hint:Option (bZ P))(es:List AV)(j:Nat):Option (AV×az):=
 match hint with
 |some (.elt es' j' e _)=>some (e,[(.av (.tup es), .av (.tup es')),(.nat j, .nat j')])
 |_=>(es[j]?).map fun e=>(e,[])
theorem gA{P:Program}{hint:Option (bZ P)}{es:List AV}{j:Nat}{r:AV×az}(h:uG hint es j=some r)(hs:Alike r.2):es[j]? =some r.1:=by
 unfold uG at h;split at h
 ·rename_i es' j' e he
  simp only[Option.some.injEq]at h;subst h;have h1:=hs.head;have h2:=hs.tail.head;simp only[aU.av.injEq,AV.tup.injEq,aU.nat.injEq]at h1 h2;subst h1;subst h2;exact he
 ·simp only[Option.map_eq_some_iff]at h
  obtain⟨e,he,rfl⟩:=h;exact he
def Eh(P:Program)(hint:Option (bZ P))(t:TypeId)(k v j off:Nat)(h:ab):Option (Out×az):=
 match (h k).ob with
 |some (.arr sz es)=>
  if sz=1 then
   if off=0 then
    match ml P t with
    |some true=>if j+P.cellsOf t≤es.length then some ({val:=iB ((es.drop j).take (P.cellsOf t)),rd:=[k]},[(.nat (h k).ver, .nat v)])else none
    |some false=>(uG hint es j).map fun r=>({val:=r.1,rd:=[k]},(.nat (h k).ver, .nat v)::r.2)
    |none=>none
   else none
  else match uG hint es j with
   |some r=>match ml P t with
    |some true=>if off+P.cellsOf t≤sz then some ({val:=iB ((r.1.cells.drop off).take (P.cellsOf t)),rd:=[k]},(.nat (h k).ver, .nat v)::r.2)else none
    |some false=>(r.1.cells[off]?).map fun x=>({val:=x,rd:=[k]},(.nat (h k).ver, .nat v)::r.2)
    |none=>none
   |none=>none
 |_=>none
theorem Ad{P:Program}{hint:Option (bZ P)}{t:TypeId}{k v j off z:Nat}{h:ab}{r:Out×az}(hl:Eh P hint t k v j off h=some r)(hs:Alike r.2):fq P t (.ptr k v j off z) h=some r.1:=by
 unfold Eh at hl;split at hl
 ·rename_i sz es hob
  split at hl
  ·rename_i h1
   split at hl
   ·rename_i h0
    split at hl
    ·rename_i hag
     split at hl
     ·rename_i hle
      simp only[Option.some.injEq]at hl;subst hl;have hv:=hs.head;simp only[aU.nat.injEq]at hv;simp[fq,hag,ii,hob,hv,h1,h0,hle]
     ·cases hl
    ·rename_i hag
     simp only[Option.map_eq_some_iff]at hl;obtain⟨q,hq,rfl⟩:=hl;have hv:=hs.head;simp only[aU.nat.injEq]at hv;have he:=gA hq hs.tail;simp[fq,hag,hob,hv,h1,h0,he]
    ·cases hl
   ·cases hl
  ·rename_i h1
   split at hl
   ·rename_i q hq
    split at hl
    ·rename_i hag
     split at hl
     ·rename_i hle
      simp only[Option.some.injEq]at hl;subst hl;have hv:=hs.head;simp only[aU.nat.injEq]at hv;have he:=gA hq hs.tail;simp[fq,hag,ii,hob,hv,h1,he,hle]
     ·cases hl
    ·rename_i hag
     simp only[Option.map_eq_some_iff]at hl;obtain⟨x,hx,rfl⟩:=hl;have hv:=hs.head;simp only[aU.nat.injEq]at hv;have he:=gA hq hs.tail;simp[fq,hag,hob,hv,h1,he,hx]
    ·cases hl
   ·cases hl
 ·cases hl
def Ae(P:Program)(hint:Option (bZ P))(t:TypeId)(k v j off:Nat)(x:AV)(h:ab):Option (Out×az):=
 match (h k).ob with
 |some (.arr sz es)=>
  if x.stor=true∧x.cells.length=P.cellsOf t∧cA P t=true then
   if sz=1 then
    if off=0 then
     (if x.one then match uG hint es j with
      |some r=>some ({val:= .junk,rd:=[k],wr:=[(k,⟨v,some (.arr sz (es.set j x))⟩)]},(.nat (h k).ver, .nat v)::r.2)
      |none=>none
      else if j+x.cells.length≤es.length then some ({val:= .junk,rd:=[k],wr:=[(k,⟨v,some (.arr sz (es.take j ++x.cells ++es.drop (j+x.cells.length)))⟩)]},[(.nat (h k).ver, .nat v)])else none)
    else none
   else match uG hint es j with
    |some r=>
     if off=0∧x.cells.length=sz then some ({val:= .junk,rd:=[k],wr:=[(k,⟨v,some (.arr sz (es.set j x))⟩)]},(.nat (h k).ver, .nat v)::r.2)
     else if off+x.cells.length≤sz then some ({val:= .junk,rd:=[k],wr:=[(k,⟨v,some (.arr sz (es.set j (iB (r.1.cells.take off ++x.cells ++r.1.cells.drop (off+x.cells.length)))))⟩)]},(.nat (h k).ver, .nat v)::r.2)else none
    |none=>none
  else none
 |_=>none
theorem ye{P:Program}{hint:Option (bZ P)}{t:TypeId}{k v j off z:Nat}{x:AV}{h:ab}{r:Out×az}(hl:Ae P hint t k v j off x h=some r)(hs:Alike r.2):eF P t (.ptr k v j off z) x h=some r.1:=by
 unfold Ae at hl;split at hl
 ·rename_i sz es hob
  split at hl
  ·rename_i hc
   obtain⟨c1,c2,c3⟩:=hc;split at hl
   ·rename_i h1
    split at hl
    ·rename_i h0
     split at hl
     ·rename_i hone
      split at hl
      ·rename_i q hq
       simp only[Option.some.injEq]at hl;subst hl;have hv:=hs.head;simp only[aU.nat.injEq]at hv;have he:=gA hq hs.tail;have hlt:j<es.length:=(List.getElem?_eq_some_iff.1 he).1;simp[eF,hob,hv,c1,c2,c3,h1,h0,hone,hlt]
      ·cases hl
     ·rename_i hone
      split at hl
      ·rename_i hle
       simp only[Option.some.injEq]at hl;subst hl;have hv:=hs.head;simp only[aU.nat.injEq]at hv;rw[c2]at hle;simp[eF,hob,hv,c1,c2,c3,h1,h0,hone,hle]
      ·cases hl
    ·cases hl
   ·rename_i h1
    split at hl
    ·rename_i q hq
     split at hl
     ·rename_i hcc
      simp only[Option.some.injEq]at hl;subst hl;have hv:=hs.head;simp only[aU.nat.injEq]at hv;have he:=gA hq hs.tail;rw[c2]at hcc;simp[eF,hob,hv,c1,c2,c3,h1,he,hcc]
     ·rename_i hcc
      split at hl
      ·rename_i hle
       simp only[Option.some.injEq]at hl;subst hl;have hv:=hs.head;simp only[aU.nat.injEq]at hv;have he:=gA hq hs.tail;rw[c2]at hcc hle;simp only[eF,hob,hv,c1,c2,c3,h1,he];simp[hcc,hle]
      ·cases hl
    ·cases hl
  ·cases hl
 ·cases hl
theorem lZ(P:Program)(t:TypeId):vS P t t=true:=by simp[vS]
theorem fk{P:Program}{obm:Bool}{t:TypeId}{s x:AV}{k:Nat}{h:ab}(hb:oY P t=false):fK P obm t s x k h=cN P obm t s x k h:=by
 unfold fK;cases cN P obm t s x k h with
 |none=>rfl
 |some o=>simp[hb]
def KN(P:Program)(c:Call)(ρ:Operand→AV)(h:ab)(l:List D)(n:Nat):Option (Out×az):=
 match c.callee,c.args.toList,c.argTypes.toList with
 | .builtin .append,[s,x],[t,t']=>
  if t=t'∧oY P t=false then match P.underlying t with
   |some (.slice e)=>match kP h (ρ x),eg P e,ρ s with
    |some (news,rs),some z, .vec k v sz l'=>
     if news.all (fun y=>y.cells.length==P.cellsOf e)=true∧0<P.cellsOf e∧P.bytesOf e≤256∧z.cells.size=P.cellsOf e then
      if (h k).ob.isNone=true∧k∉rs∧sz=P.cellsOf e then
       some ({val:= .vec k (v+1) sz (l' ++news),rd:=k::rs,wr:=[(k,⟨v+1,none⟩)]},[(.nat (h k).ver, .nat v),(.ds l', .ds l),(.nat news.length, .nat n)])
      else none
     else none
    |_,_,_=>none
   |_=>none
  else none
 |_,_,_=>none
theorem CT{P:Program}{cfg:iA}{i:Nat}{c:Call}{ρ:Operand→AV}{h:ab}{l:List D}{n k:Nat}{r:Out×az}(hl:KN P c ρ h l n=some r)(hs:Alike r.2)(hn:l.length+n≤549755813888):bP P cfg i c ρ h k=some r.1:=by
 unfold KN at hl;split at hl;case h_2=>cases hl
 rename_i s x t t' hcal hargs hty;split at hl;case isFalse=>cases hl
 rename_i htt;obtain⟨htt,hby⟩:=htt;subst htt;split at hl;case h_2=>cases hl
 rename_i e hu;split at hl;case h_2=>cases hl
 rename_i news rs z k' v sz l' hsrc hz hv;split at hl;case isFalse=>cases hl
 rename_i hc;split at hl;case isFalse=>cases hl
 rename_i hc2;simp only[Option.some.injEq]at hl;subst hl;have g1:=hs.head;have g2:=hs.tail.head;have g3:=hs.tail.tail.head;simp only[aU.nat.injEq,aU.ds.injEq]at g1 g2 g3;subst g2;subst g3;simp only[bP,hcal,hargs,hty,lZ,fk hby,cN,hu,hsrc,hz,hv,if_true];rw[if_pos hc,if_pos ⟨g1,hc2.1,hc2.2.1,hc2.2.2,hn⟩]
def Ei(P:Program)(c:Call)(ρ:Operand→AV)(h:ab)(l nw:List D)(cs:Nat):Option (Out×az):=
 match c.callee,c.args.toList,c.argTypes.toList with
 | .builtin .append,[s,x],[t,t']=>
  if t=t'∧oY P t=false then match P.underlying t with
   |some (.slice e)=>match kP h (ρ x),eg P e,ρ s with
    |some (news,rs),some z, .vec k v sz l'=>
     if 0<P.cellsOf e∧P.bytesOf e≤256∧z.cells.size=P.cellsOf e then
      if (h k).ob.isNone=true∧k∉rs∧sz=P.cellsOf e then
       some ({val:= .vec k (v+1) sz (l' ++nw),rd:=k::rs,wr:=[(k,⟨v+1,none⟩)]},[(.nat (h k).ver, .nat v),(.ds l', .ds l),(.ds news, .ds nw),(.nat (P.cellsOf e), .nat cs)])
      else none
     else none
    |_,_,_=>none
   |_=>none
  else none
 |_,_,_=>none
theorem Af{P:Program}{cfg:iA}{i:Nat}{c:Call}{ρ:Operand→AV}{h:ab}{l nw:List D}{cs k:Nat}{r:Out×az}(hl:Ei P c ρ h l nw cs=some r)(hs:Alike r.2)(hn:l.length+nw.length≤549755813888∧nw.all (fun y=>y.cells.length==cs)=true):bP P cfg i c ρ h k=some r.1:=by
 unfold Ei at hl;split at hl;case h_2=>cases hl
 rename_i s x t t' hcal hargs hty;split at hl;case isFalse=>cases hl
 rename_i htt;obtain⟨htt,hby⟩:=htt;subst htt;split at hl;case h_2=>cases hl
 rename_i e hu;split at hl;case h_2=>cases hl
 rename_i news rs z k' v sz l' hsrc hz hv;split at hl;case isFalse=>cases hl
 rename_i hc;split at hl;case isFalse=>cases hl
 rename_i hc2;simp only[Option.some.injEq]at hl;subst hl;have g1:=hs.head;have g2:=hs.tail.head;have g3:=hs.tail.tail.head;have g4:=hs.tail.tail.tail.head;simp only[aU.nat.injEq,aU.ds.injEq]at g1 g2 g3 g4;subst g2;subst g3;have hall:news.all (fun y=>y.cells.length==P.cellsOf e)=true:=by rw[g4];exact hn.2
 simp only[bP,hcal,hargs,hty,lZ,fk hby,cN,hu,hsrc,hz,hv,if_true];rw[if_pos ⟨hall,hc⟩,if_pos ⟨g1,hc2.1,hc2.2.1,hc2.2.2,hn.1⟩]
def KO(P:Program)(c:Call)(ρ:Operand→AV)(h:ab)(es:List AV)(ln n:Nat):Option (Out×az):=
 match c.callee,c.args.toList,c.argTypes.toList with
 | .builtin .append,[s,x],[t,t']=>
  if t=t'∧oY P t=false then match P.underlying t with
   |some (.slice e)=>match kP h (ρ x),eg P e,ρ s with
    |some (news,rs),some z, .sl k v off len _=>match (h k).ob with
     |some (.arr sz es')=>
      if news.all (fun y=>y.cells.length==P.cellsOf e)=true∧0<P.cellsOf e∧P.bytesOf e≤256∧z.cells.size=P.cellsOf e then
       if off=0∧sz=P.cellsOf e∧(sz=1→news.all D.one=true)then
        some ({val:= .sl k (v+1) 0 (len+news.length) sz,rd:=k::rs,wr:=[(k,⟨v+1,some (.arr sz (es'.take len ++news.map .d))⟩)]},[(.nat (h k).ver, .nat v),(.av (.tup es'), .av (.tup es)),(.nat len, .nat ln),(.nat news.length, .nat n)])
       else none
      else none
     |_=>none
    |_,_,_=>none
   |_=>none
  else none
 |_,_,_=>none
theorem CU{P:Program}{cfg:iA}{i:Nat}{c:Call}{ρ:Operand→AV}{h:ab}{es:List AV}{ln n k:Nat}{r:Out×az}(hl:KO P c ρ h es ln n=some r)(hs:Alike r.2)(hn:ln≤es.length∧ln+n≤549755813888):bP P cfg i c ρ h k=some r.1:=by
 unfold KO at hl;split at hl;case h_2=>cases hl
 rename_i s x t t' hcal hargs hty;split at hl;case isFalse=>cases hl
 rename_i htt;obtain⟨htt,hby⟩:=htt;subst htt;split at hl;case h_2=>cases hl
 rename_i e hu;split at hl;case h_2=>cases hl
 rename_i news rs z k' v off len z2 hsrc hz hv;split at hl;case h_2=>cases hl
 rename_i sz es' hob;split at hl;case isFalse=>cases hl
 rename_i hc;split at hl;case isFalse=>cases hl
 rename_i hc2;simp only[Option.some.injEq]at hl;subst hl;have g1:=hs.head;have g2:=hs.tail.head;have g3:=hs.tail.tail.head;have g4:=hs.tail.tail.tail.head;simp only[aU.nat.injEq,aU.av.injEq,AV.tup.injEq]at g1 g2 g3 g4;subst g2;subst g3;subst g4;simp only[bP,hcal,hargs,hty,lZ,fk hby,cN,hu,hsrc,hz,hv,if_true,hob];rw[if_pos hc,if_pos ⟨g1,hc2.1,hn.1,hc2.2.1,hn.2,hc2.2.2⟩]
def Ej(P:Program)(c:Call)(ρ:Operand→AV)(h:ab)(es:List AV)(ln:Nat)(nw:List D)(cs:Nat):Option (Out×az):=
 match c.callee,c.args.toList,c.argTypes.toList with
 | .builtin .append,[s,x],[t,t']=>
  if t=t'∧oY P t=false then match P.underlying t with
   |some (.slice e)=>match kP h (ρ x),eg P e,ρ s with
    |some (news,rs),some z, .sl k v off len _=>match (h k).ob with
     |some (.arr sz es')=>
      if 0<P.cellsOf e∧P.bytesOf e≤256∧z.cells.size=P.cellsOf e then
       if off=0∧sz=P.cellsOf e then
        some ({val:= .sl k (v+1) 0 (len+nw.length) sz,rd:=k::rs,wr:=[(k,⟨v+1,some (.arr sz (es'.take len ++nw.map .d))⟩)]},[(.nat (h k).ver, .nat v),(.av (.tup es'), .av (.tup es)),(.nat len, .nat ln),(.ds news, .ds nw),(.nat (P.cellsOf e), .nat cs)])
       else none
      else none
     |_=>none
    |_,_,_=>none
   |_=>none
  else none
 |_,_,_=>none
theorem Ag{P:Program}{cfg:iA}{i:Nat}{c:Call}{ρ:Operand→AV}{h:ab}{es:List AV}{ln cs k:Nat}{nw:List D}{r:Out×az}(hl:Ej P c ρ h es ln nw cs=some r)(hs:Alike r.2)(hn:ln≤es.length∧ln+nw.length≤549755813888∧nw.all (fun y=>y.cells.length==cs)=true∧nw.all D.one=true):bP P cfg i c ρ h k=some r.1:=by
 unfold Ej at hl;split at hl;case h_2=>cases hl
 rename_i s x t t' hcal hargs hty;split at hl;case isFalse=>cases hl
 rename_i htt;obtain⟨htt,hby⟩:=htt;subst htt;split at hl;case h_2=>cases hl
 rename_i e hu;split at hl;case h_2=>cases hl
 rename_i news rs z k' v off len z2 hsrc hz hv;split at hl;case h_2=>cases hl
 rename_i sz es' hob;split at hl;case isFalse=>cases hl
 rename_i hc;split at hl;case isFalse=>cases hl
 rename_i hc2;simp only[Option.some.injEq]at hl;subst hl;have g1:=hs.head;have g2:=hs.tail.head;have g3:=hs.tail.tail.head;have g4:=hs.tail.tail.tail.head;have g5:=hs.tail.tail.tail.tail.head;simp only[aU.nat.injEq,aU.av.injEq,AV.tup.injEq,aU.ds.injEq]at g1 g2 g3 g4 g5;subst g2;subst g3;subst g4;simp only[bP,hcal,hargs,hty,lZ,fk hby,cN,hu,hsrc,hz,hv,if_true,hob];rw[if_pos ⟨by rw[g5];exact hn.2.2.1,hc⟩,if_pos ⟨g1,hc2.1,hn.1,hc2.2,hn.2.1,fun _=>hn.2.2.2⟩]
def KP(P:Program)(c:Call)(ρ:Operand→AV)(h:ab):Option (Out×az):=
 match c.callee,c.args.toList,c.argTypes.toList with
 | .builtin .len,[x],[t]=>match ρ x with
  | .mp k v=>match P.underlying t with
   |some (.map _ _)=>match (h k).ob with
    |some (.map es _)=>some ({val:= .d (.int .i64 (es.length:Int)),rd:=[k]},[(.nat (h k).ver, .nat v)])
    |_=>none
   |_=>none
  |_=>none
 |_,_,_=>none
theorem CV{P:Program}{cfg:iA}{i:Nat}{c:Call}{ρ:Operand→AV}{h:ab}{k:Nat}{r:Out×az}(hl:KP P c ρ h=some r)(hs:Alike r.2):bP P cfg i c ρ h k=some r.1:=by
 unfold KP at hl;split at hl;case h_2=>cases hl
 rename_i x t hcal hargs hty;split at hl;case h_2=>cases hl
 rename_i k' v hx;split at hl;case h_2=>cases hl
 rename_i a b hu;split at hl;case h_2=>cases hl
 rename_i es n hob;simp only[Option.some.injEq]at hl;subst hl;have g1:=hs.head;simp only[aU.nat.injEq]at g1;simp only[bP,hcal,hargs,hty,hx,f4,hu,hob];rw[if_pos g1]
def Nw:AV→Option (List D)
 | .d (.ro l)| .vec _ _ _ l=>some l
 |_=>none
def Bn(P:Program)(hint:Option (bZ P))(cfg:iA)(i:Nat)(o:Oper)(ρ:Operand→AV)(h:ab):Option (Out×az):=
 match o.op with
 | .load t a=>match ρ a with
  | .ptr k v j off _=>Eh P hint t k v j off h
  |_=>(bN P cfg i o ρ h).map fun r=>(r,[])
 | .store t a x=>match ρ a with
  | .ptr k v j off _=>Ae P hint t k v j off (ρ x) h
  |_=>(bN P cfg i o ρ h).map fun r=>(r,[])
 | .indexAddr t x ix=>match hint with
  |some (.idx l i y _ _)=>match P.underlying t,ρ ix,Nw (ρ x)with
   |some (.slice e), .d (.int _ i'),some l'=>if y.cells.length=P.cellsOf e∧cA P e=true then some ({val:= .d (.rp y.cells)},[(.ds l', .ds l),(.av (.d (.int .i64 i')), .av (.d (.int .i64 i)))])else none
   |_,_,_=>none
  |some (.inb i n _ _)=>match P.underlying t,ρ ix,ρ x with
   |some (.slice e), .d (.int _ i'), .sl k v off len sz=>if sz=P.cellsOf e∧cA P e=true then some ({val:= .ptr k v (off+i'.toNat) 0 sz},[(.av (.d (.int .i64 i')), .av (.d (.int .i64 i))),(.nat len, .nat n)])else none
   |some (.array n' e), .d (.int _ i'), .ptr k v j off sz=>if sz=1∧off=0∧cA P e=true then some ({val:= .ptr k v (j+i'.toNat*P.cellsOf e) 0 sz},[(.av (.d (.int .i64 i')), .av (.d (.int .i64 i))),(.nat n', .nat n)])else none
   |_,_,_=>none
  |_=>(bN P cfg i o ρ h).map fun r=>(r,[])
 | .call c=>match hint with
  |some (.app l n _)=>KN P c ρ h l n
  |some (.apps es ln n _)=>KO P c ρ h es ln n
  |some (.appl l nw cs _)=>Ei P c ρ h l nw cs
  |some (.appsl es ln nw cs _)=>Ej P c ρ h es ln nw cs
  |_=>match KP P c ρ h with
   |some r=>some r
   |none=>(bN P cfg i o ρ h).map fun r=>(r,[])
 | .lookup t m key ok=>match hint with
  |some (.look x es r _)=>match P.underlying t,ρ m,ρ key with
   |some (.map kt et), .mp k v, .d kd=>match (h k).ob with
    |some (.map es' _)=>
     if jC P kt kd=true then
      match r with
      |some (_,y)=>some ({val:=if ok=true then .tup [.d y, .d (.bool true)]else .d y,rd:=[k]},[(.nat (h k).ver, .nat v),(.mp es', .mp es),(.ds [kd], .ds [x])])
      |none=>match eg P et with
       |some z=>some ({val:=if ok=true then .tup [HF z, .d (.bool false)]else HF z,rd:=[k]},[(.nat (h k).ver, .nat v),(.mp es', .mp es),(.ds [kd], .ds [x])])
       |none=>none
     else none
    |_=>none
   |_,_,_=>none
  |_=>(bN P cfg i o ρ h).map fun r=>(r,[])
 | .mapUpdate t m key x=>match hint with
  |some (.look lx les none _)=>match P.underlying t,ρ m,ρ key,ρ x with
   |some (.map kt _), .mp k v, .d kd, .d xd=>match (h k).ob with
    |some (.map es' c)=>
     if jC P kt kd=true then some ({val:= .junk,rd:=[k],wr:=[(k,⟨v,some (.map (es' ++[(kd,xd,c)]) (c+1))⟩)]},[(.nat (h k).ver, .nat v),(.mp es', .mp les),(.ds [kd], .ds [lx])])
     else none
    |_=>none
   |_,_,_,_=>none
  |some (.look lx les (some (ix,_)) _)=>match P.underlying t,ρ m,ρ key,ρ x with
   |some (.map kt _), .mp k v, .d kd, .d xd=>match (h k).ob with
    |some (.map es' c)=>
     if jC P kt kd=true then some ({val:= .junk,rd:=[k],wr:=[(k,⟨v,some (.map (ey kd xd ix es') c)⟩)]},[(.nat (h k).ver, .nat v),(.mp es', .mp les),(.ds [kd], .ds [lx])])
     else none
    |_=>none
   |_,_,_,_=>none
  |_=>(bN P cfg i o ρ h).map fun r=>(r,[])
 | .insert t m key x=>match hint with
  |some (.look lx les none _)=>match P.underlying t,ρ m,ρ key,ρ x with
   |some (.map kt _), .mp k v, .d kd, .d xd=>match (h k).ob with
    |some (.map es' c)=>
     if jC P kt kd=true then some ({val:= .junk,rd:=[k],wr:=[(k,⟨v,some (.map (es' ++[(kd,xd,c)]) (c+1))⟩)]},[(.nat (h k).ver, .nat v),(.mp es', .mp les),(.ds [kd], .ds [lx])])
     else none
    |_=>none
   |_,_,_,_=>none
  |some (.look lx les (some (ix,_)) _)=>match P.underlying t,ρ m,ρ key,ρ x with
   |some (.map kt _), .mp k v, .d kd, .d xd=>match (h k).ob with
    |some (.map es' c)=>
     if jC P kt kd=true then some ({val:= .junk,rd:=[k],wr:=[(k,⟨v,some (.map (ey kd xd ix es') c)⟩)]},[(.nat (h k).ver, .nat v),(.mp es', .mp les),(.ds [kd], .ds [lx])])
     else none
    |_=>none
   |_,_,_,_=>none
  |_=>(bN P cfg i o ρ h).map fun r=>(r,[])
 | .index t x ix=>match hint with
  |some (.sidx s i b _ _)=>match P.underlying t,ρ x,ρ ix with
   |some .string, .d (.str s'), .d (.int _ i')=>some ({val:= .d (.int .u8 (b.toNat:Int))},[(.av (.d (.str s')), .av (.d (.str s))),(.av (.d (.int .i64 i')), .av (.d (.int .i64 i)))])
   |_,_,_=>none
  |_=>(bN P cfg i o ρ h).map fun r=>(r,[])
 | .slice t x lo hi mx=>match hint,mx with
  |some (.sub s a b _),none=>match P.underlying t,ρ x,dJ (lo.map ρ) 0 with
   |some .string, .d (.str s'),some a'=>match dJ (hi.map ρ) s'.length with
    |some b'=>some ({val:= .d (.str ((s'.take b').drop a'))},[(.av (.d (.str s')), .av (.d (.str s))),(.nat a', .nat a),(.nat b', .nat b)])
    |none=>none
   |_,_,_=>none
  |some (.cutl l b _),none=>match P.underlying t,ρ x,dJ (lo.map ρ) 0 with
   |some (.slice e), .d (.ro l'),some 0=>if cA P e=false then none else match dJ (hi.map ρ) l'.length with
    |some b'=>some ({val:= .d (.ro ((l'.take b').drop 0))},[(.ds l', .ds l),(.nat b', .nat b)])
    |none=>none
   |_,_,_=>none
  |some (.cutr l a b cs _),none=>match P.underlying t,ρ x,dJ (lo.map ρ) 0 with
   |some (.slice e), .d (.ro l'),some a'=>if cA P e=false then none else match dJ (hi.map ρ) l'.length with
    |some b'=>some ({val:= .d (.ro ((l'.take b').drop a'))},[(.ds l', .ds l),(.nat a', .nat a),(.nat b', .nat b),(.nat (P.cellsOf e), .nat cs)])
    |none=>none
   |_,_,_=>none
  |some (.cuts ln b _),none=>match P.underlying t,ρ x,dJ (lo.map ρ) 0 with
   |some (.slice e), .sl k v off len sz,some 0=>if cA P e=false then none else match dJ (hi.map ρ) len with
    |some b'=>some ({val:= .sl k v off b' sz},[(.nat len, .nat ln),(.nat b', .nat b)])
    |none=>none
   |_,_,_=>none
  |_,_=>(bN P cfg i o ρ h).map fun r=>(r,[])
 | .binOp .add t x y _=>match hint with
  |some (.cat a b _)=>match ρ x,ρ y with
   | .d (.str a'), .d (.str b')=>some ({val:= .d (.str (a' ++b'))},[(.av (.d (.str a')), .av (.d (.str a))),(.av (.d (.str b')), .av (.d (.str b)))])
   |_,_=>none
  |_=>(bN P cfg i o ρ h).map fun r=>(r,[])
 | .makeSlice t l c=>match hint with
  |some (.mk n _ _)=>match P.underlying t,ρ l,ρ c with
   |some (.slice e), .d (.int .i64 l'), .d (.int .i64 c')=>match vR P e with
    |some z=>
     if P.bytesOf e≤256∧z.cells.length=P.cellsOf e∧0<P.cellsOf e∧(P.cellsOf e=1→z.lone=true)then
      some ({val:= .sl (cfg.base i+o.dst.getD 0) ((h (cfg.base i+o.dst.getD 0)).ver+1) 0 l'.toNat (P.cellsOf e),rd:=[cfg.base i+o.dst.getD 0],wr:=[newOb h (cfg.base i+o.dst.getD 0) (P.cellsOf e) (List.replicate l'.toNat z)]},[(.av (.d (.int .i64 l')), .av (.d (.int .i64 n))),(.av (.d (.int .i64 c')), .av (.d (.int .i64 n)))])
     else none
    |none=>none
   |_,_,_=>none
  |_=>(bN P cfg i o ρ h).map fun r=>(r,[])
 |_=>(bN P cfg i o ρ h).map fun r=>(r,[])
theorem sH{P:Program}{hint:Option (bZ P)}{cfg:iA}{i:Nat}{o:Oper}{ρ:Operand→AV}{h:ab}{r:Out×az}(hl:Bn P hint cfg i o ρ h=some r)(hs:Alike r.2):bN P cfg i o ρ h=some r.1:=by
 have ig:(bN P cfg i o ρ h).map (fun r=>((r,[]):Out×az))=some r→bN P cfg i o ρ h=some r.1:=fun hh=>by
  simp only[Option.map_eq_some_iff]at hh;obtain⟨q,hq,rfl⟩:=hh;exact hq
 unfold Bn at hl;split at hl
 ·rename_i t a hop
  split at hl
  ·rename_i k v j off z ha
   have:=Ad (z:=z) hl hs;simp only[bN,hop,ha,this]
  ·exact ig hl
 ·rename_i t a x hop
  split at hl
  ·rename_i k v j off z ha
   have:=ye (z:=z) hl hs;simp only[bN,hop,ha,this]
  ·exact ig hl
 ·rename_i t x ix hop
  split at hl
  ·rename_i l i' y h0 hy
   split at hl
   ·rename_i e kd i2 l2 hu hix hro
    split at hl
    ·rename_i hc
     simp only[Option.some.injEq]at hl;subst hl;have h1:=hs.head;have h2:=hs.tail.head;simp only[aU.ds.injEq,aU.av.injEq,AV.d.injEq,D.int.injEq,true_and]at h1 h2;subst h1;subst h2;simp only[bN,hop,fJ,hu,hix];unfold Nw at hro;split at hro
     ·rename_i l3 hx
      simp only[Option.some.injEq]at hro;subst hro;simp only[hx,h0,hy,if_true];rw[if_pos hc]
     ·rename_i l3 hx
      simp only[Option.some.injEq]at hro;subst hro;simp only[hx,h0,hy,if_true];rw[if_pos hc]
     ·cases hro
    ·cases hl
   ·cases hl
  ·rename_i i' n h0 hy
   split at hl
   ·rename_i e kd i2 k v off len sz hu hix hx
    split at hl
    ·rename_i hc
     simp only[Option.some.injEq]at hl;subst hl;have h1:=hs.head;have h2:=hs.tail.head;simp only[aU.nat.injEq,aU.av.injEq,AV.d.injEq,D.int.injEq,true_and]at h1 h2;subst h1;subst h2;simp only[bN,hop,fJ,hu,hix,hx];rw[if_pos ⟨hc.1,hc.2,h0,hy⟩]
    ·cases hl
   ·rename_i n' e kd i2 k v j off sz hu hix hx
    split at hl
    ·rename_i hc
     simp only[Option.some.injEq]at hl;subst hl;have h1:=hs.head;have h2:=hs.tail.head;simp only[aU.nat.injEq,aU.av.injEq,AV.d.injEq,D.int.injEq,true_and]at h1 h2;subst h1;subst h2;simp only[bN,hop,fJ,hu,hix,hx];rw[if_pos ⟨hc.1,hc.2.1,hc.2.2,h0,hy⟩]
    ·cases hl
   ·cases hl
  ·exact ig hl
 ·rename_i c hop
  split at hl
  ·rename_i l n hln
   have:=CT (cfg:=cfg) (i:=i) (k:=cfg.base i+o.dst.getD 0) hl hs hln;simp only[bN,hop,this]
  ·rename_i es ln n hln
   have:=CU (cfg:=cfg) (i:=i) (k:=cfg.base i+o.dst.getD 0) hl hs hln;simp only[bN,hop,this]
  ·rename_i l nw cs hln
   have:=Af (cfg:=cfg) (i:=i) (k:=cfg.base i+o.dst.getD 0) hl hs hln;simp only[bN,hop,this]
  ·rename_i es ln nw cs hln
   have:=Ag (cfg:=cfg) (i:=i) (k:=cfg.base i+o.dst.getD 0) hl hs hln;simp only[bN,hop,this]
  ·split at hl
   ·rename_i r' hr'
    simp only[Option.some.injEq]at hl;subst hl;have:=CV (cfg:=cfg) (i:=i) (k:=cfg.base i+o.dst.getD 0) hr' hs;simp only[bN,hop,this]
   ·exact ig hl
 ·rename_i t m key ok hop
  split at hl
  ·rename_i x es r0 hf
   split at hl
   ·rename_i kt et k v kd hu hm hk
    split at hl
    ·rename_i es' c hob
     split at hl
     ·rename_i hkt
      cases r0 with
      |some jy=>
       obtain⟨j,y⟩:=jy;simp only[Option.some.injEq]at hl;subst hl;have g1:=hs.head;have g2:=hs.tail.head;have g3:=hs.tail.tail.head;simp only[aU.nat.injEq,aU.mp.injEq,aU.ds.injEq,List.cons.injEq,and_true]at g1 g2 g3;subst g2;subst g3;simp only[bN,hop,eY,hu,hm,hk,hob,g1,hkt,hf,and_self,if_true]
      |none=>
       simp only at hl;split at hl
       ·rename_i z hz
        simp only[Option.some.injEq]at hl;subst hl;have g1:=hs.head;have g2:=hs.tail.head;have g3:=hs.tail.tail.head;simp only[aU.nat.injEq,aU.mp.injEq,aU.ds.injEq,List.cons.injEq,and_true]at g1 g2 g3;subst g2;subst g3;simp only[bN,hop,eY,hu,hm,hk,hob,g1,hkt,hf,and_self,if_true,hz]
       ·cases hl
     ·cases hl
    ·cases hl
   ·cases hl
  ·exact ig hl
 ·rename_i t m key x hop
  split at hl
  ·rename_i lx les hf
   split at hl
   ·rename_i kt et k v kd xd hu hm hk hx
    split at hl
    ·rename_i es' c hob
     split at hl
     ·rename_i hkt
      simp only[Option.some.injEq]at hl;subst hl;have g1:=hs.head;have g2:=hs.tail.head;have g3:=hs.tail.tail.head;simp only[aU.nat.injEq,aU.mp.injEq,aU.ds.injEq,List.cons.injEq,and_true]at g1 g2 g3;subst g2;subst g3;simp only[bN,hop,bX,hu,hm,hk,hx,hob,g1,hkt,hf,and_self,if_true]
     ·cases hl
    ·cases hl
   ·cases hl
  ·rename_i lx les jx jy hf
   split at hl
   ·rename_i kt et k v kd xd hu hm hk hx
    split at hl
    ·rename_i es' c hob
     split at hl
     ·rename_i hkt
      simp only[Option.some.injEq]at hl;subst hl;have g1:=hs.head;have g2:=hs.tail.head;have g3:=hs.tail.tail.head;simp only[aU.nat.injEq,aU.mp.injEq,aU.ds.injEq,List.cons.injEq,and_true]at g1 g2 g3;subst g2;subst g3;simp only[bN,hop,bX,hu,hm,hk,hx,hob,g1,hkt,hf,and_self,if_true]
     ·cases hl
    ·cases hl
   ·cases hl
  ·exact ig hl
 ·rename_i t m key x hop
  split at hl
  ·rename_i lx les hf
   split at hl
   ·rename_i kt et k v kd xd hu hm hk hx
    split at hl
    ·rename_i es' c hob
     split at hl
     ·rename_i hkt
      simp only[Option.some.injEq]at hl;subst hl;have g1:=hs.head;have g2:=hs.tail.head;have g3:=hs.tail.tail.head;simp only[aU.nat.injEq,aU.mp.injEq,aU.ds.injEq,List.cons.injEq,and_true]at g1 g2 g3;subst g2;subst g3;simp only[bN,hop,bX,hu,hm,hk,hx,hob,g1,hkt,hf,and_self,if_true]
     ·cases hl
    ·cases hl
   ·cases hl
  ·rename_i lx les jx jy hf
   split at hl
   ·rename_i kt et k v kd xd hu hm hk hx
    split at hl
    ·rename_i es' c hob
     split at hl
     ·rename_i hkt
      simp only[Option.some.injEq]at hl;subst hl;have g1:=hs.head;have g2:=hs.tail.head;have g3:=hs.tail.tail.head;simp only[aU.nat.injEq,aU.mp.injEq,aU.ds.injEq,List.cons.injEq,and_true]at g1 g2 g3;subst g2;subst g3;simp only[bN,hop,bX,hu,hm,hk,hx,hob,g1,hkt,hf,and_self,if_true]
     ·cases hl
    ·cases hl
   ·cases hl
  ·exact ig hl
 ·rename_i t x ix hop
  split at hl
  ·rename_i s i0 b h0 hb
   split at hl
   ·rename_i s' kd i' hu hx hix
    simp only[Option.some.injEq]at hl;subst hl;have g1:=hs.head;have g2:=hs.tail.head;simp only[aU.av.injEq,AV.d.injEq,D.str.injEq,D.int.injEq,true_and]at g1 g2;subst g1;subst g2;simp only[bN,hop,qR,hu,hx,hix,h0,if_true,hb,Option.map_some]
   ·cases hl
  ·exact ig hl
 ·rename_i t x lo hi mx hop
  split at hl
  ·rename_i s a b hab
   split at hl
   ·rename_i s' a' hu hx hlo
    split at hl
    ·rename_i b' hhi
     simp only[Option.some.injEq]at hl;subst hl;have g1:=hs.head;have g2:=hs.tail.head;have g3:=hs.tail.tail.head;simp only[aU.av.injEq,AV.d.injEq,D.str.injEq,aU.nat.injEq]at g1 g2 g3;subst g1;subst g2;subst g3;simp only[bN,hop,jU,hu,hx,hlo,hhi,Option.map_none];rw[if_pos hab]
    ·cases hl
   ·cases hl
  ·rename_i l0 b hb
   split at hl
   ·rename_i e l' hu hx hlo
    split at hl
    ·cases hl
    ·rename_i hkn
     split at hl
     ·rename_i b' hhi
      simp only[Option.some.injEq]at hl;subst hl;have g1:=hs.head;have g2:=hs.tail.head;simp only[aU.ds.injEq,aU.nat.injEq]at g1 g2;subst g1;subst g2;simp only[bN,hop,jU,hu,hx,hlo,hhi,Option.map_none];rw[if_neg hkn,if_pos ⟨Nat.zero_le _,hb, .inl trivial⟩]
     ·cases hl
   ·cases hl
  ·rename_i l0 a b cs hb
   split at hl
   ·rename_i e l' a' hu hx hlo
    split at hl
    ·cases hl
    ·rename_i hkn
     split at hl
     ·rename_i b' hhi
      simp only[Option.some.injEq]at hl;subst hl;have g1:=hs.head;have g2:=hs.tail.head;have g3:=hs.tail.tail.head;have g4:=hs.tail.tail.tail.head;simp only[aU.ds.injEq,aU.nat.injEq]at g1 g2 g3 g4;subst g1;subst g2;subst g3;subst g4;simp only[bN,hop,jU,hu,hx,hlo,hhi,Option.map_none];rw[if_neg hkn,if_pos ⟨hb.1,hb.2.1, .inr hb.2.2⟩]
     ·cases hl
   ·cases hl
  ·rename_i ln b hb
   split at hl
   ·rename_i e k v off len sz hu hx hlo
    split at hl
    ·cases hl
    ·rename_i hkn
     split at hl
     ·rename_i b' hhi
      simp only[Option.some.injEq]at hl;subst hl;have g1:=hs.head;have g2:=hs.tail.head;simp only[aU.nat.injEq]at g1 g2;subst g1;subst g2;simp only[bN,hop,jU,hu,hx,hlo,hhi,Option.map_none];rw[if_neg hkn,if_pos ⟨trivial,hb⟩]
     ·cases hl
   ·cases hl
  ·exact ig hl
 ·rename_i t x y yt hop
  split at hl
  ·rename_i a b hab
   split at hl
   ·rename_i a' b' hx hy
    simp only[Option.some.injEq]at hl;subst hl;have g1:=hs.head;have g2:=hs.tail.head;simp only[aU.av.injEq,AV.d.injEq,D.str.injEq]at g1 g2;subst g1;subst g2;simp only[bN,hop,hx,hy,Bg];rw[if_pos hab]
   ·cases hl
  ·exact ig hl
 ·rename_i t l c hop
  split at hl
  ·rename_i n h0 h1
   split at hl
   ·rename_i e l' c' hu hll hcc
    split at hl
    ·rename_i z hz
     split at hl
     ·rename_i hc
      simp only[Option.some.injEq]at hl;subst hl;have g1:=hs.head;have g2:=hs.tail.head;simp only[aU.av.injEq,AV.d.injEq,D.int.injEq,true_and]at g1 g2;subst g1;subst g2;simp only[bN,hop,da,hu,hll,hcc,hz];rw[if_pos ⟨h0,Int.le_refl _,h1,hc.1,hc.2.1,hc.2.2.1,hc.2.2.2⟩]
     ·cases hl
    ·cases hl
   ·cases hl
  ·exact ig hl
 ·exact ig hl
def Ek(P:Program)(hint:Option (bZ P))(cfg:iA)(i:Nat)(o:Oper)(ρ:Operand→AV)(h:ab):Option (Out×az):=
 match hint with
 |some (.val a b _)=>(Bn P none cfg i o ρ h).map fun r=>({r.1 with val:=b},(.av r.1.val, .av a)::r.2)
 |_=>Bn P hint cfg i o ρ h
theorem Ah{P:Program}{hint:Option (bZ P)}{cfg:iA}{i:Nat}{o:Oper}{ρ:Operand→AV}{h:ab}{r:Out×az}(hl:Ek P hint cfg i o ρ h=some r)(hs:Alike r.2):bN P cfg i o ρ h=some r.1:=by
 unfold Ek at hl;split at hl
 ·rename_i a b hab
  simp only[Option.map_eq_some_iff]at hl;obtain⟨q,hq,rfl⟩:=hl;have h1:=hs.head;simp only[aU.av.injEq]at h1;have:=sH hq hs.tail;rw[this];subst hab;rw[←h1]
 ·exact sH hl hs
end Go.Avm
namespace Go.Avm
open Go.RowKit
variable[aJ]
theorem wo:∀(l:List (Nat×aN))(h:ab){k:Nat},k∉l.map (·.1)→al l h k=h k
 |[],_,_,_=>rfl
 |(k',e)::r,h,k,hk=>by
  simp only[List.map_cons,List.mem_cons,not_or]at hk;simp only[al];rw[am _ _ hk.1];exact wo r h hk.2
theorem Bo:∀(l:List (Nat×aN))(h h2:ab){k:Nat},k∈l.map (·.1)→al l h k=al l h2 k
 |[],_,_,_,hk=>by simp at hk
 |(k',e)::r,h,h2,k,hk=>by
  simp only[al,aM];split
  ·rfl
  ·rename_i hne
   exact Bo r h h2 (by simpa [hne]using hk)
def KQ(h1 h2:ab):Prop:=∀k,h2 k=h1 k∨((h2 k).ob=none∧(h1 k).ver≤(h2 k).ver)
theorem HV{G:Gh}{B:Nat}{w0 w:World}{I0:Nat→Nat→Prop}{h1 h2:ab}(hr:HR G B w0 I0 h1 w)(hu:KQ h1 h2):∃G',Ext G w G' w∧HR G' B w0 I0 h2 w:=by
 have hle:∀k,(h1 k).ver≤(h2 k).ver:=fun k=>by
  rcases hu k with e|⟨_,e⟩
  ·rw[e];exact Nat.le_refl _
  ·exact e
 have hob:∀k o,(h2 k).ob=some o→h2 k=h1 k:=fun k o ho=>by
  rcases hu k with e|⟨e,_⟩
  ·exact e
  ·rw[e]at ho;cases ho
 have hloc:∀k L,G.loc k (h2 k).ver=some L→G.loc k (h1 k).ver=some L:=fun k L hL=>by
  have h3:=hr.fresh k _ L hL;have h4:=hle k;have:(h2 k).ver=(h1 k).ver:=by omega
  rwa [this]at hL
 have hex:Ext G w {G with lim:=fun k=>(h2 k).ver} w:=
  ⟨fun _ _ x=>x,fun _ _ _ x=>x,fun _ _ _=>rfl,Nat.le_refl _,fun k=>by rw[hr.lim];exact hle k,fun _ _ _ x=>x,fun _ _ _ x=>x,eH rfl⟩
 refine⟨_,hex,hr.below,hr.bsz,hr.immlt,hr.i0,hr.immlow,fun k v L hL=>Nat.le_trans (hr.fresh k v L hL) (hle k),fun k L hL=>hr.own k L (hloc k L hL),fun k k' L L' hL hL'=>hr.dis k k' L L' (hloc k L hL) (hloc k' L' hL'),fun k ob ho=> ?_,fun _=>rfl,
  hr.maps.step hex rfl (fun _ _ _ x=>x) hle fun k o hf ho=>hob k o ho⟩
 have he:=hob k ob ho;rw[he]at ho ⊢;exact(hr.objs k ob ho).mono (hr.le k) hex (fun _ _ _=>rfl)
def KR(P:Program)(o:Oper)(S:St)(x:AV)(h':ab)(W:List Nat):Prop:=
 (∃u t y,o.op= .panic u∧opd S.env u=x∧x= .iv t y∧KQ S.heap h')∨
 (∃g args pre post,dr o S.env=some (g,args)∧(∀h:ab,mn h pre→iY P g args h x (al post h))∧mn S.heap pre∧(∀k∈W,k∉pre.map (·.1)∧k∉post.map (·.1))∧KQ (al post S.heap) h')
def oa(P:Program)(ops:Array Oper)(p:Nat)(env0:Nat→AV)(x:AV)(h':ab)(W:List Nat)(S:St):Prop:=
 (∃o,ops[p]? =some o∧db ops o S.env=some true∧KR P o S x h' W)∧∀t,(m5 ops).contains t=false→S.env t=env0 t
def RW(W:List Nat)(S S1:St):Prop:=∀k,S1.heap k=S.heap k∨(k∈W∧(S.heap k).ver≤(S1.heap k).ver)
theorem yf{W:List Nat}{h0 h1 h':ab}(hW:∀k∈W,(h' k).ob=none)(hr:∀k,h1 k=h0 k∨(k∈W∧(h0 k).ver≤(h1 k).ver))(hu:KQ h1 h'):KQ h0 h':=fun k=>by
 rcases hr k with e|⟨hk,hle⟩
 ·rw[←e];exact hu k
 ·refine .inr ⟨hW k hk, ?_⟩
  rcases hu k with e|⟨_,e⟩
  ·rw[e];exact hle
  ·exact Nat.le_trans hle e
section
variable{P:Program}{cfg:iA}{N:Nat}{ops:Array Oper}{G:Gh}{B:Nat}{w0 w:World}{I0:Nat→Nat→Prop}{W:List Nat}
theorem KS{o:Oper}{S:St}{x:AV}{h':ab}(h:KR P o S x h' W):∃h1,CN P o S x h1∧KQ h1 h':=by
 rcases h with ⟨u,t,y,e1,e2,e3,e4⟩|⟨g,args,pre,post,e1,e2,e3,_,e5⟩
 ·exact⟨_, .inl ⟨u,t,y,e1,e2,e3,rfl⟩,e4⟩
 ·exact⟨_, .inr ⟨g,args,e1,e2 _ e3⟩,e5⟩
theorem El{D:List Deferred}{p:Nat}{env0:Nat→AV}{x:AV}{h':ab}{S:St}(r:Option Nat)(n:Nat){a:Act}{K:Act→World→Prop}{Q:Exit→Act→World→Prop}(hr:HR G B w0 I0 S.heap w)(hf:FR G w N D S.env a)
    (h:oa P ops p env0 x h' W S) (hq:∀v w' G',Ext G w G' w'→HR G' B w0 I0 h' w'→FR G' w' N D (lc ops env0) a→Rep G' w' x v→Q (.panic [{v,recovered:=false}]) a w'):wpOpIn (FF r) n P ops Q p K a w:=by
 obtain⟨⟨o,ho,hw,hp⟩,hj⟩:=h;obtain⟨h1,hp1,hu⟩:=KS hp;refine wa r n hr hf (env0:=env0) (x:=x) (h':=h1) ⟨⟨o,ho,hw,hp1⟩,hj⟩ (fun v w' G' e1 e2 e3 e4=> ?_);obtain⟨G2,e5,e6⟩:=HV e2 hu;exact hq v w' G2 (e1.trans e5) e6 (e3.mono e5) (e4.mono e5)
theorem Ai{p k:Nat}{ok op:Oper}{env0:Nat→AV}{x:AV}{h':ab}{S S1:St}{ob:List Obl}{f:Foot}(hW:∀k∈W,(h' k).ob=none)(hk:ops[k]? =some ok)(hop:ops[p]? =some op)(hs:bF P cfg N ops k ok S=some (S1,ob,f))(hap:ok.apart ops op=true)
    (hrw:RW W S S1) (h:oa P ops p env0 x h' W S1):oa P ops p env0 x h' W S:=by
 obtain⟨⟨o,ho,hw,hp⟩,hj⟩:=h;rw[hop]at ho;cases ho;obtain⟨g1,_,_⟩:=Oper.apart_spec hap;obtain⟨v,act,hpt,hh,hwi,_,_⟩:=ez hs;have hag:∀t∈op.looksAt ops,S.env t=S1.env t:=fun t ht=>(jh hpt (fun e=>g1 t e ht)).symm
 refine⟨⟨op,hop,by rw[cI (o:=op) (env:=S1.env) (env':=S.env) hag];exact hw, ?_⟩,fun t ht=>by rw[←hj t ht,jh hpt (nS hk ht)]⟩;rcases hp with ⟨u,t,y,e1,e2,e3,e4⟩|⟨g,args,pre,post,e1,e2,e3,e4,e5⟩
 ·refine .inl ⟨u,t,y,e1, ?_,e3,yf hW hrw e4⟩
  rw[jG hag u (by rw[e1];simp[Op.operands])];exact e2
 ·refine .inr ⟨g,args,pre,post, ?_,e2,fun q hq=> ?_,e4,yf hW (fun k'=> ?_) e5⟩
  ·rw[eJ hag]
   exact e1
  ·have hno:q.1∉W:=fun hx=>(e4 q.1 hx).1 (List.mem_map_of_mem hq)
   have:=(hrw q.1).resolve_right fun hx=>hno hx.1
   rw[←this];exact e3 q hq
  ·by_cases hkp:k'∈post.map (·.1)
   ·exact .inl (Bo post S1.heap S.heap hkp)
   ·rw[wo post S1.heap hkp,wo post S.heap hkp]
    exact hrw k'
def ma(o:Oper)(k:Nat):Bool:=o.after.any (fun e=>Region.binds .any e&&e.on==k)
theorem j9{o:Oper}{k:Nat}(h:ma o k=true):¬∀e∈o.after,Region.binds .any e=true→e.on≠k:=fun hno=>by
 obtain⟨e,he,hb⟩:=Array.any_eq_true'.1 h;simp only[Bool.and_eq_true,beq_iff_eq]at hb;exact absurd hb.2 (hno e he hb.1)
def Em(P:Program)(cfg:iA)(N:Nat)(ops:Array Oper)(F:Nat→Foot)(p:Nat)(O:List Nat)(L:St→Prop):Nat→Array Bool→St→Prop
 |0,_,_=>False
 |fuel+1,listed,S=>Region.ready .any ops listed≠[]∧
  ∀i∈Region.ready .any ops listed,(i=p∧L S)∨(i∈O∧∃o S1 ob,ops[i]? =some o∧bF P cfg N ops i o S=some (S1,ob,F i)∧fT P ob∧Em P cfg N ops F p O L fuel (listed.setIfInBounds i true) S1)
theorem oc{i:Nat}{o:Oper}{S S1:St}{ob:List Obl}{f:Foot}(hs:bF P cfg N ops i o S=some (S1,ob,f))(hall:f.all=false){k:Nat}(hk:k∉f.wr):S1.heap k=S.heap k:=by
 obtain⟨v,act,_,hh,hwi,_,_⟩:=ez hs;obtain⟨wr,rfl,hkk⟩:=hwi hall;rw[hh];exact bV wr _ (by rw[←hkk];exact hk)
theorem HW{i j:Nat}{oi oj:Oper}{S S1 S2 S1':St}{obi obj:List Obl}{fi fj:Foot}(hf:fi.apart fj=true)(ai:fi.all=false)(aj:fj.all=false)(hj:bF P cfg N ops j oj S1=some (S2,obj,fj))
    (hj':bF P cfg N ops j oj S=some (S1',obj,fj)) (hi':bF P cfg N ops i oi S1'=some (S2,obi,fi)) (h:RW W S S1):RW W S1' S2:=fun k=>by
 by_cases hk:k∈fj.wr
 ·left
  refine oc hi' ai fun hx=> ?_
  simp[Foot.apart,ai,aj]at hf;exact(hf.1 k hx).2 hk
 ·rw[oc hj aj hk,oc hj' aj hk]
  exact h k
theorem Aj{F:Nat→Foot}{p k:Nat}{O:List Nat}{ok op:Oper}{env0:Nat→AV}{x:AV}{h':ab}(hW:∀k∈W,(h' k).ob=none)(hk:ops[k]? =some ok)(hp:ops[p]? =some op)(hkO:k∈O){ob:List Obl}(hob:fT P ob):
    ∀(fuel:Nat)(listed:Array Bool)(S S1:St),
     (∀j oj,j∈O→ops[j]? =some oj→j≠k→listed.getD j true=false→(∀e∈oj.after,Region.binds .any e=true→e.on≠k)→ok.apart ops oj=true∧(F k).apart (F j)=true∧(F j).all=false)→
     ((∀e∈op.after,Region.binds .any e=true→e.on≠k)→ok.apart ops op=true∧(F k).all=false∧RW W S S1)→
     k∈Region.ready .any ops listed→bF P cfg N ops k ok S=some (S1,ob,F k)→
     Em P cfg N ops F p O (oa P ops p env0 x h' W) fuel (listed.setIfInBounds k true) S1→Em P cfg N ops F p O (oa P ops p env0 x h' W) (fuel+1) listed S:=by
 intro fuel;induction fuel with
 |zero=>intro listed S S1 _ _ _ _ H;exact H.elim
 |succ fuel ih=>
  intro listed S S1 hfree hpf hr hy H;refine⟨fun h=>(by rw[h]at hr;cases hr),fun j hj=> ?_⟩;by_cases hjk:j=k
  ·subst hjk;exact .inr ⟨hkO,ok,S1,ob,hk,hy,hob,H⟩
  ·obtain⟨hjun,oj,hoj,hall⟩:=mem_ready.1 hj
   have hnot:∀e∈oj.after,Region.binds .any e=true→e.on≠k:=fun e he hb heq=>by
    have h1:=hall e he hb;have h0:=(mem_ready.1 hr).1;rw[heq]at h1;rcases Nat.lt_or_ge k listed.size with h'|h'
    ·simp[h']at h0 h1;rw[h0]at h1;cases h1
    ·simp[Array.getElem?_eq_none h']at h1
   rcases H.2 j (ready_mono hj hjk)with ⟨rfl,hl⟩|⟨hjp,oj',S2,obj,hoj',hstj,hobj,H2⟩
   ·left
    have e:oj=op:=by rw[hp]at hoj;exact(Option.some.inj hoj).symm
    subst e;obtain⟨q1,q2,q3⟩:=hpf hnot;exact⟨rfl,Ai hW hk hp hy q1 q3 hl⟩
   ·right
    have heq:oj'=oj:=by rw[hoj]at hoj';exact(Option.some.inj hoj').symm
    subst heq;obtain⟨a1,a2,a3⟩:=hfree j oj' hjp hoj hjk hjun hnot;obtain⟨S1',k1,k2⟩:=m4 a1 a2 hy hstj;refine⟨hjp,oj',S1',obj,hoj,k1,hobj,ih (listed.setIfInBounds j true) S1' S2 (fun i oi hip hi hik hun hno=> ?_) (fun hno=> ?_) (ready_mono hr (Ne.symm hjk)) k2 ?_⟩
    ·refine hfree i oi hip hi hik ?_ hno
     by_cases hji:j=i
     ·subst hji;exact hjun
     ·rw[getD_set_ne true hji]at hun;exact hun
    ·obtain⟨q1,q2,q3⟩:=hpf hno
     exact⟨q1,q2,HW a2 q2 a3 hstj k1 k2 q3⟩
    ·rw[Array.setIfInBounds_comm _ _ hjk]
     exact H2
def En(ops:Array Oper)(F:Nat→Foot)(p:Nat)(O W:List Nat)(listed:Array Bool)(k:Nat):Bool:=
 match ops[k]?,ops[p]? with
 |some ok,some op=>(O.all fun j=>Nat.beq j k||listed.getD j true||match ops[j]? with
     |some oj=>ma oj k||(ok.apart ops oj&&(F k).apart (F j)&& !(F j).all)
     |none=>true)&&(ma op k||(ok.apart ops op&& !(F k).all&&(F k).wr.all fun a=>W.any (Nat.beq a)))
 |_,_=>false
theorem Ak{F:Nat→Foot}{p k:Nat}{O:List Nat}{ok op:Oper}{listed:Array Bool}(hk:ops[k]? =some ok)(hp:ops[p]? =some op)(h:En ops F p O W listed k=true):
    (∀j oj,j∈O→ops[j]? =some oj→j≠k→listed.getD j true=false→(∀e∈oj.after,Region.binds .any e=true→e.on≠k)→ok.apart ops oj=true∧(F k).apart (F j)=true∧(F j).all=false)∧
    ((∀e∈op.after,Region.binds .any e=true→e.on≠k)→ok.apart ops op=true∧(F k).all=false∧∀a∈(F k).wr,a∈W):=by
 simp only[En,hk,hp,Bool.and_eq_true]at h;obtain⟨h1,h2⟩:=h;refine⟨fun j oj hjO hj hne hun hno=> ?_,fun hno=> ?_⟩
 ·have h1:=List.all_eq_true.1 h1 j hjO
  rw[hj,hun]at h1
  have hb:Nat.beq j k=false:=by
   cases hb:Nat.beq j k with
   |false=>rfl
   |true=>exact absurd (Nat.eq_of_beq_eq_true hb) hne
  rw[hb]at h1;simp only[Bool.false_or,Bool.or_eq_true]at h1;rcases h1 with h1|h1
  ·exact absurd hno (j9 h1)
  ·simp only[Bool.and_eq_true,Bool.not_eq_true']at h1
   exact⟨h1.1.1,h1.1.2,h1.2⟩
 ·rw[Bool.or_eq_true]at h2
  rcases h2 with h2|h2
  ·exact absurd hno (j9 h2)
  ·simp only[Bool.and_eq_true,Bool.not_eq_true']at h2
   refine⟨h2.1.1,h2.1.2,fun a ha=> ?_⟩;have:=List.all_eq_true.1 h2.2 a ha;obtain⟨b,hb,he⟩:=List.any_eq_true.1 this;rw[Nat.eq_of_beq_eq_true he];exact hb
def uH(ops:Array Oper)(F:Nat→Foot)(p:Nat)(O W:List Nat):List Nat→Array Bool→Bool
 |[],listed=>match Region.ready .any ops listed with
  |[i]=>Nat.beq i p
  |_=>false
 |k::r,listed=>(Region.ready .any ops listed).contains k&&En ops F p O W listed k&&uH ops F p O W r (listed.setIfInBounds k true)
def kc(P:Program)(cfg:iA)(N:Nat)(ops:Array Oper)(F:Nat→Foot)(op:Oper):List Nat→St→St→Prop
 |[],S,Sf=>S=Sf
 |k::r,S,Sf=>∃o S1 ob,ops[k]? =some o∧bF P cfg N ops k o S=some (S1,ob,F k)∧fT P ob∧(ma op k=true∨∀a∈(F k).wr,(S.heap a).ver≤(S1.heap a).ver)∧kc P cfg N ops F op r S1 Sf
theorem yg{F:Nat→Foot}{p:Nat}{op:Oper}{O:List Nat}{env0:Nat→AV}{x:AV}{h':ab}(hW:∀k∈W,(h' k).ob=none)(hp:ops[p]? =some op):∀(l:List Nat)(listed:Array Bool)(S Sf:St),(∀k∈l,k∈O)→kc P cfg N ops F op l S Sf→
    uH ops F p O W l listed=true→oa P ops p env0 x h' W Sf→Em P cfg N ops F p O (oa P ops p env0 x h' W) (l.length+1) listed S
 |[],listed,S,Sf,_,hs,hl,hL=>by
  simp only[kc]at hs;subst hs;simp only[uH]at hl;split at hl
  ·rename_i i hri
   have:=Nat.eq_of_beq_eq_true hl;subst this
   exact⟨by rw[hri];simp,fun j hj=>by
    rw[hri]at hj;simp only[List.mem_singleton]at hj;exact .inl ⟨hj,hL⟩⟩
  ·cases hl
 |k::r,listed,S,Sf,hO,hs,hl,hL=>by
  obtain⟨o,S1,ob,ho,hst,hob,hver,hs⟩:=hs;simp only[uH,Bool.and_eq_true]at hl;obtain⟨⟨h1,h2⟩,h3⟩:=hl;obtain⟨f1,f2⟩:=Ak ho hp h2;refine Aj hW ho hp (hO k (by simp)) hob (r.length+1) listed S S1 f1 (fun hno=> ?_) (by simpa using h1) hst (yg hW hp r _ S1 Sf (fun j hj=>hO j (by simp[hj])) hs h3 hL);obtain⟨q1,q2,q3⟩:=f2 hno;refine⟨q1,q2,fun a=> ?_⟩;by_cases ha:a∈(F k).wr
  ·exact .inr ⟨q3 a ha,(hver.resolve_left fun hb=>j9 hb hno) a ha⟩
  ·exact .inl (oc hst q2 ha)
theorem mK{D:List Deferred}(hx:iG P)(r:Option Nat)(n:Nat){F:Nat→Foot}{p:Nat}{O:List Nat}{env0:Nat→AV}{x:AV}{h':ab}{Q:Exit→Act→World→Prop}:∀(fuel:Nat)(listed:Array Bool)(G:Gh)(w:World)(S:St)(a:Act),HR G B w0 I0 S.heap w→FR G w N D S.env a→
    Em P cfg N ops F p O (oa P ops p env0 x h' W) fuel listed S→
    (∀v a' w' G',Ext G w G' w'→HR G' B w0 I0 h' w'→FR G' w' N D (lc ops env0) a'→Rep G' w' x v→Q (.panic [{v,recovered:=false}]) a' w')→∀fuel',fuel≤fuel'→wpAnyIn (FF r) n P .any ops Q fuel' listed a w
 |0,listed,G,w,S,a,hr,hf,h,hq,fuel',_=>h.elim
 |fuel+1,listed,G,w,S,a,hr,hf,h,hq,0,hle=>absurd hle (by omega)
 |fuel+1,listed,G,w,S,a,hr,hf,h,hq,fuel'+1,hle=>by
  refine⟨fun hn=>absurd hn h.1,fun i hi=> ?_⟩;rcases h.2 i hi with ⟨rfl,hL⟩|⟨_,o,S1,ob,ho,hst,hob,h2⟩
  ·exact El r n hr hf hL (fun v w' G' g1 g2 g3 g4=>hq v a w' G' g1 g2 g3 g4)
  ·unfold wpOpIn
   simp only[ho];exact fO hx hr hf hst hob r n (fun a' w' G' e1 h3 h4=>mK hx r n fuel _ G' w' S1 a' h3 h4 h2 (fun v a2 w2 G2 g1 g2 g3 g4=>hq v a2 w2 G2 (e1.trans g1) g2 g3 g4) fuel' (by omega))
end
theorem sI{X:ce}{S Sp:St}{Q:aG→St→Prop}{id p:Nat}{ops:Array Oper}{cfg:iA}{F:Nat→Foot}{op:Oper}{O W:List Nat}{x:AV}{h':ab}(hp:ops[p]? =some op)(hW:∀k∈W,(h' k).ob=none)(hr:kc X.P cfg X.N ops F op O S Sp)
    (hl:uH ops F p O W O (Array.replicate ops.size false)=true) (hlen:O.length<ops.size) (hL:oa X.P ops p S.env x h' W Sp) (h:Q (.panic x) ⟨lc ops S.env,h'⟩):AW X (.region id ops true) S Q:=fun G a w hh=>by
 obtain⟨bs,hf⟩:=hh.2;refine wpIn_region_any X.mixed.mixed ?_;have hany:=yg hW hp O (Array.replicate ops.size false) S Sp (fun _ h=>h) hr hl hL;exact mK X.mixed.ext X.rnd 0 (O.length+1) _ G w.drew S a hh.1.drew (hf.1.mono (Ext.drew G w)) hany (fun v a' w' G' e1 h1 h2 h3=>⟨.panic x,_,G',⟨v,rfl,h3⟩,h,(Ext.drew G w).trans e1,h1,bs,h2,hf.2.mono ((Ext.drew G w).trans e1)⟩) ops.size (by omega)
end Go.Avm
namespace Go.Avm
open Go.RowKit
variable[aJ]
theorem b6:∀(l:List (Nat×aN))(h:ab){k:Nat},k∉l.map (·.1)→al l h k=h k
 |[],_,_,_=>rfl
 |(k',e)::r,h,k,hk=>by
  simp only[List.map_cons,List.mem_cons,not_or]at hk;simp only[al,am _ _ hk.1];exact b6 r h hk.2
theorem gB:∀(l:List (Nat×aN))(h h2:ab){k:Nat},k∈l.map (·.1)→al l h k=al l h2 k
 |[],_,_,_,hk=>by simp at hk
 |(k',e)::r,h,h2,k,hk=>by
  simp only[al,aM];split
  ·rfl
  ·rename_i hne
   simp only[List.map_cons,List.mem_cons]at hk;exact gB r h h2 (hk.resolve_left hne)
def iO(env:Nat→AV)(l:List (Nat×AV)):az:=l.map fun p=>(.av (env p.1), .av p.2)
theorem mL{env:Nat→AV}{l:List (Nat×AV)}(h:Alike (iO env l)):∀p∈l,p.2=env p.1:=fun p hp=>by
 have:=h (.av (env p.1), .av p.2) (List.mem_map.2 ⟨p,hp,rfl⟩);simp only[aU.av.injEq]at this;exact this.symm
def aZ(h:ab):List (Nat×aN)→Option az
 |[]=>some []
 |(k,⟨v,none⟩)::r=>match aZ h r with
  |some q=>some ((.nat (h k).ver, .nat v)::q)
  |none=>none
 |(k,⟨v,some (.arr sz es)⟩)::r=>match (h k).ob,aZ h r with
  |some (.arr sz' es'),some q=>some ((.nat (h k).ver, .nat v)::(.nat sz', .nat sz)::(.av (.tup es'), .av (.tup es))::q)
  |_,_=>none
 |(k,⟨v,some (.map es c)⟩)::r=>match (h k).ob,aZ h r with
  |some (.map es' c'),some q=>some ((.nat (h k).ver, .nat v)::(.nat c', .nat c)::(.mp es', .mp es)::q)
  |_,_=>none
 |(k,⟨v,some (.lp fno N env ps Ua bd st)⟩)::r=>match (h k).ob,aZ h r with
  |some o,some q=>some ((.nat (h k).ver, .nat v)::(.ob o, .ob (.lp fno N env ps Ua bd st))::q)
  |_,_=>none
 |(k,⟨v,some (.itr km vm since seen)⟩)::r=>match (h k).ob,aZ h r with
  |some o,some q=>some ((.nat (h k).ver, .nat v)::(.ob o, .ob (.itr km vm since seen))::q)
  |_,_=>none
 |(k,⟨v,some (.typ kk vv T n)⟩)::r=>match (h k).ob,aZ h r with
  |some o,some q=>some ((.nat (h k).ver, .nat v)::(.ob o, .ob (.typ kk vv T n))::q)
  |_,_=>none
theorem aV{h:ab}:∀{l:List (Nat×aN)}{q:az},aZ h l=some q→Alike q→∀p∈l,p.2.ver=(h p.1).ver∧(p.2.ob=none∨p.2.ob=(h p.1).ob)
 |[],_,_,_,p,hp=>by simp at hp
 |(k,⟨v,none⟩)::r,q,hq,hs,p,hp=>by
  simp only[aZ]at hq;split at hq
  ·rename_i q' hq'
   simp only[Option.some.injEq]at hq;subst hq;rcases List.mem_cons.1 hp with rfl|hp
   ·have:=hs.head
    simp only[aU.nat.injEq]at this;exact⟨this.symm, .inl rfl⟩
   ·exact aV hq' hs.tail p hp
  ·cases hq
 |(k,⟨v,some (.arr sz es)⟩)::r,q,hq,hs,p,hp=>by
  simp only[aZ]at hq;split at hq
  ·rename_i sz' es' q' hob hq'
   simp only[Option.some.injEq]at hq;subst hq;rcases List.mem_cons.1 hp with rfl|hp
   ·have h1:=hs.head
    have h2:=hs.tail.head;have h3:=hs.tail.tail.head;simp only[aU.nat.injEq,aU.av.injEq,AV.tup.injEq]at h1 h2 h3;subst h2;subst h3;exact⟨h1.symm, .inr hob.symm⟩
   ·exact aV hq' hs.tail.tail.tail p hp
  ·cases hq
 |(k,⟨v,some (.map es c)⟩)::r,q,hq,hs,p,hp=>by
  simp only[aZ]at hq;split at hq
  ·rename_i es' c' q' hob hq'
   simp only[Option.some.injEq]at hq;subst hq;rcases List.mem_cons.1 hp with rfl|hp
   ·have h1:=hs.head
    have h2:=hs.tail.head;have h3:=hs.tail.tail.head;simp only[aU.nat.injEq,aU.mp.injEq]at h1 h2 h3;subst h2;subst h3;exact⟨h1.symm, .inr hob.symm⟩
   ·exact aV hq' hs.tail.tail.tail p hp
  ·cases hq
 |(k,⟨v,some (.lp fno N env ps Ua bd st)⟩)::r,q,hq,hs,p,hp=>by
  simp only[aZ]at hq;split at hq
  ·rename_i o q' hob hq'
   simp only[Option.some.injEq]at hq;subst hq;rcases List.mem_cons.1 hp with rfl|hp
   ·have h1:=hs.head
    have h2:=hs.tail.head;simp only[aU.nat.injEq,aU.ob.injEq]at h1 h2;subst h2;exact⟨h1.symm, .inr hob.symm⟩
   ·exact aV hq' hs.tail.tail p hp
  ·cases hq
 |(k,⟨v,some (.itr km vm since seen)⟩)::r,q,hq,hs,p,hp=>by
  simp only[aZ]at hq;split at hq
  ·rename_i o q' hob hq'
   simp only[Option.some.injEq]at hq;subst hq;rcases List.mem_cons.1 hp with rfl|hp
   ·have h1:=hs.head
    have h2:=hs.tail.head;simp only[aU.nat.injEq,aU.ob.injEq]at h1 h2;subst h2;exact⟨h1.symm, .inr hob.symm⟩
   ·exact aV hq' hs.tail.tail p hp
  ·cases hq
 |(k,⟨v,some (.typ kk vv T n)⟩)::r,q,hq,hs,p,hp=>by
  simp only[aZ]at hq;split at hq
  ·rename_i o q' hob hq'
   simp only[Option.some.injEq]at hq;subst hq;rcases List.mem_cons.1 hp with rfl|hp
   ·have h1:=hs.head
    have h2:=hs.tail.head;simp only[aU.nat.injEq,aU.ob.injEq]at h1 h2;subst h2;exact⟨h1.symm, .inr hob.symm⟩
   ·exact aV hq' hs.tail.tail p hp
  ·cases hq
theorem jK{X:ce}{env:Nat→AV}{h h':ab}(hh:∀k,(h' k).ver=(h k).ver∧((h' k).ob=none∨(h' k).ob=(h k).ob)):Weak X ⟨env,h⟩ ⟨env,h'⟩:=fun G a w hq=>⟨G,Ext.refl G w,hq.1.forget hh,hq.2⟩
theorem od{X:ce}{S:St}{l:List (Nat×AV)}{hp:List (Nat×aN)}{q:az}(h1:Alike (iO S.env l))(h2:aZ S.heap hp=some q)(h3:Alike q):Weak X S ⟨an l,al hp S.heap⟩:=
 (m6 (heap:=S.heap) (mL h1)).trans (jK (jg S.heap hp (aV h2 h3)))
theorem mb{X:ce}{c:Code}{S:St}{Q:aG→St→Prop}(h:AW X c S fun e S'=>∃S'',Weak X S' S''∧Q e S''):AW X c S Q:=fun G a w hh=>
 wpIn_mono (h G a w hh) fun e a' w' ⟨e',S',G',x,⟨S'',hw,hq⟩,e1,r⟩=>by
  obtain⟨G2,e2,r2⟩:=hw G' a' w' r;exact⟨e',S'',G2,x.mono e2,hq,e1.trans e2,r2⟩
structure d7(P:Program) where
 N:Nat
 x:Code
 l:List (Nat×AV)
 hp:ab→List (Nat×aN)
 e:aG
 l':List (Nat×AV)
 hp':ab→List (Nat×aN)
 proof:∀(rest:ab)(X:ce),X.P=P→X.N=N→AW X (.loop x) ⟨an l,al (hp rest) rest⟩ fun e' S'=>e'=e∧S'=⟨an l',al (hp' rest) rest⟩
structure Ny(P:Program) where
 N:Nat
 x:Code
 l:List (Nat×AV)
 hp:ab→List (Nat×aN)
 e:aG
 l':List (Nat×AV)
 hp':ab→List (Nat×aN)
 proof:∀(rest:ab)(X:ce),X.P=P→X.N=N→AW X x ⟨an l,al (hp rest) rest⟩ fun e' S'=>e'=e∧S'=⟨an l',al (hp' rest) rest⟩
structure sJ where
 t:Nat
 k:Nat
 n:Nat
 es:List AV
 ds:List D
 hn:es.length=n
 hv:∀h:ab,fI (view 3 h) es=some (ds,[])
structure fQ(P:Program) where
 g:Nat
 args:List AV
 pre:List (Nat×aN)
 rs:List AV
 post:List (Nat×aN)
 proof:∀h:ab,mn h pre→ay P g args h rs (al post h)
theorem gK{P:Program}{g:Nat}{args rs:List AV}{pre post:List (Nat×aN)}(h:∀rest:ab,ay P g args (al pre rest) rs (al post rest)):∀h:ab,mn h pre→ay P g args h rs (al post h):=
 fun h' hf=>vX (h h') (jg h' pre hf)
theorem sK{h:ab}:∀{l:List (Nat×aN)},mn h l→(l.all fun p=>p.2.ob.isSome)=true→al l h=h
 |[],_,_=>rfl
 |(k,e)::r,hf,ha=>by
  simp only[List.all_cons,Bool.and_eq_true]at ha;have h1:=hf (k,e) (by simp);have h2:=sK (l:=r) (fun p hp=>hf p (by simp[hp])) ha.2;simp only[al,h2]
  have he:e=h k:=by
   obtain⟨ver,ob⟩:=e
   have h3:ob=(h k).ob:=h1.2.resolve_left (fun hx=>by
    have hx':ob=none:=hx;rw[hx']at ha;simp at ha)
   have h4:ver=(h k).ver:=h1.1;rw[h3,h4]
  funext t;simp only[aM];split
  ·rename_i ht;rw[ht,he]
  ·rfl
theorem qY{P:Program}{g:Nat}{args rs:List AV}{pre:List (Nat×aN)}(hs:(pre.all fun p=>p.2.ob.isSome)=true)(h:∀rest:ab,ay P g args (al pre rest) rs (al pre rest)):∀h:ab,mn h pre→ay P g args h rs (al [] h):=fun h' hf=>by
 have:=h h';rw[sK hf hs]at this;exact this
structure uI where
 C:Nat
 a:Nat
 k:Nat
 n:Nat
 es:List AV
 ds:List D
 hn:es.length=n
 hv:∀h:ab,fI (view 3 h) es=some (ds,[])
structure Nz(P:Program) where
 g:Nat
 args:List AV
 pre:List (Nat×aN)
 rs:List AV
 post:List (Nat×aN)
 rst:ab→ab
 bigs:List Nat
 hrst:∀h k,k∉bigs→rst h k=h k
 proof:∀h:ab,mn h pre→ay P g args h rs (al post (rst h))
structure lu where
 k:Nat
 i:Nat
 K:Nat
 sz:Nat
 slot:Bool:=false
 obj:Bool:=false
structure uJ(P:Program) where
 g:Nat
 args:List AV
 pre:List (Nat×aN)
 x:AV
 post:List (Nat×aN)
 proof:∀h:ab,mn h pre→iY P g args h x (al post h)
structure PHint(P:Program) where
 p:Nat
 call:Option (uJ P)
 ex:List Nat:=[]
def PHint.exs{P:Program}(H:PHint P):List Nat:=H.ex.filter fun k=> !Nat.beq k H.p
structure Par(P:Program) where
 obm:Nat→Nat→Bool:=fun _ _=>false
 hp:Nat→Bool:=fun _=>false
 hint:Nat→Nat→Option (bZ P):=fun _ _=>none
 hintB:Nat→Nat→Nat→Option (bZ P):=fun _ _ _=>none
 loops:Nat→Nat→Option (d7 P):=fun _ _=>none
 weaks:Nat→Nat→Option sJ:=fun _ _=>none
 nils:Nat→Nat→Option lu:=fun _ _=>none
 calls:Nat→Nat→Nat→Option (fQ P):=fun _ _ _=>none
 nils2:Nat→Nat→List lu:=fun _ _=>[]
 xcalls:Nat→Nat→Option (Nz P):=fun _ _=>none
 keeps:Nat→Nat→Option (List (Nat×AV)):=fun _ _=>none
 frz:Nat→Nat→Option uI:=fun _ _=>none
 seqs:Nat→Nat→Option (Ny P):=fun _ _=>none
 pans:Nat→Nat→Nat→Option (PHint P):=fun _ _ _=>none
def Par.at{P:Program}(pr:Par P)(fno key base:Nat):Option (bZ P):=match pr.hintB fno key base with
 |some h=>some h
 |none=>pr.hint fno key
def gd:Code→Nat
 | .region id _ _=>id
 | .seq x _=>gd x
 | .block _ x=>gd x
 | .loop x=>gd x
 | .cond _ x _=>gd x
 |_=>0
def Al(H:Option sJ)(S:St):Option (St×List Nat×az):=
 match H with
 |none=>some (S,[],[])
 |some H=>match S.env H.t with
  | .sl k v off len _=>if k=H.k∧off=0 then match (S.heap k).ob with
      |some (.arr _ es)=>some (⟨aM S.env H.t (.d (.ro H.ds)),aM S.heap k ⟨(S.heap k).ver+1,none⟩⟩,[k],[(.nat (S.heap k).ver, .nat v),(.nat len, .nat H.n),(.av (.tup es), .av (.tup H.es))])
      |_=>none
   else none
  |_=>none
theorem Bp(n:Nat)(h:ab)(k v off len sz:Nat):view (n+1) h (.sl k v off len sz)=match (h k).ob with
    |some (.arr _ es)=>if (h k).ver=v∧off+len≤es.length then (fI (view n h) ((es.drop off).take len)).map fun r=>(.ro r.1,k::r.2)else none
    |_=>none:=rfl
theorem yh{X:ce}{H:Option sJ}{S S':St}{tk:List Nat}{ps:az}(h:Al H S=some (S',tk,ps))(hs:Alike ps):Weak X S S'∧∀k,k∉tk→S'.heap k=S.heap k:=by
 unfold Al at h;split at h
 ·simp only[Option.some.injEq,Prod.mk.injEq]at h
  obtain⟨rfl,rfl,rfl⟩:=h;exact⟨Weak.refl S,fun _ _=>rfl⟩
 ·rename_i H
  split at h
  ·rename_i k v off len sz henv
   split at h
   ·rename_i hc
    obtain⟨rfl,rfl⟩:=hc;split at h
    ·rename_i sz' es hob
     simp only[Option.some.injEq,Prod.mk.injEq]at h;obtain⟨rfl,rfl,rfl⟩:=h;have h1:=hs.head;have h2:=hs.tail.head;have h3:=hs.tail.tail.head;simp only[aU.nat.injEq,aU.av.injEq,AV.tup.injEq]at h1 h2 h3;subst h3
     have hview:view 4 S.heap (S.env H.t)=some (.ro H.ds,[H.k]):=by
      rw[henv];rw[Bp,hob];simp only;rw[if_pos ⟨h1,by rw[h2,←H.hn];omega⟩];rw[List.drop_zero,List.take_of_length_le (by rw[h2,←H.hn];exact Nat.le_refl _),H.hv];rfl
     refine⟨fun G a w hh=> ?_,fun k' hk'=>by simp at hk';exact am _ _ hk'⟩;obtain⟨hh1,bs,hh2,hh3⟩:=hh;have hkill:aq S.heap (kill S.heap [H.k])=aM S.heap H.k ⟨(S.heap H.k).ver+1,none⟩:=rfl;have hr:=hh1.kill [H.k];rw[hkill]at hr;have hex:=Ext.froz hh1 [H.k];refine⟨_,hex,hr,bs,⟨hh2.size,hh2.nod,fun t ht=> ?_,fun t ht=> ?_⟩,hh3.mono hex⟩
     ·by_cases hts:t=H.t
      ·subst hts
       show Rep _ _ (aM S.env H.t _ H.t) _;rw[ak];have:=dT hh1 4 _ _ _ _ hview (hh2.rep H.t ht);exact .d (this.mono (fun b o hb=>hb) (fun _ _ _=>rfl))
      ·show Rep _ _ (aM S.env H.t _ t) _
       rw[am _ _ hts];exact(hh2.rep t ht).mono hex
     ·by_cases hts:t=H.t
      ·subst hts
       have:=hh2.out H.t ht;rw[henv]at this;cases this
      ·show aM S.env H.t _ t=_
       rw[am _ _ hts];exact hh2.out t ht
    ·cases h
   ·cases h
  ·cases h
theorem HR.reob{G:Gh}{B:Nat}{w0 w:World}{I0:Nat→Nat→Prop}{h:ab}(hr:HR G B w0 I0 h w){k:Nat}{ob:Ob}(hob:ObRep G w k (h k).ver ob)(hm:ob.flex=true):HR G B w0 I0 (aM h k ⟨(h k).ver,some ob⟩) w:=by
 have hv:∀k',(aM h k ⟨(h k).ver,some ob⟩ k').ver=(h k').ver:=fun k'=>by
  simp only[aM];split
  ·rename_i hk;rw[hk]
  ·rfl
 refine⟨hr.below,hr.bsz,hr.immlt,hr.i0,hr.immlow,fun k v L hL=>by rw[hv];exact hr.fresh k v L hL,fun k L hL=>by rw[hv]at hL;exact hr.own k L hL,
  fun k k' L L' hL hL'=>by rw[hv]at hL hL';exact hr.dis k k' L L' hL hL',fun k' ob' ho=> ?_,fun k=>by rw[hv];exact hr.lim k,⟨fun k v b x=>by rw[hv];exact hr.maps.low k v b x,fun k1 k2 b l1 l2 x1 x2=>by
   have lv:∀j,jw (aM h k ⟨(h k).ver,some ob⟩ j).ob=true→jw (h j).ob=true:=fun j l=>by
    by_cases hk:j=k
    ·subst hk;rw[ak]at l;simp[jw,hm]at l
    ·rw[am _ _ hk]at l;exact l
   rw[hv]at x1 x2;exact hr.maps.inj k1 k2 b (lv _ l1) (lv _ l2) x1 x2,fun k' es c x=> ?_,fun k' fno N env ps Ua bd st x=> ?_,fun k' km vm since seen x=> ?_,hr.maps.glob⟩⟩
 ·by_cases hk:k'=k
  ·subst hk
   rw[ak]at ho ⊢;cases ho;exact hob
  ·rw[am _ _ hk]at ho ⊢
   exact hr.objs k' ob' ho
 ·by_cases hk:k'=k
  ·subst hk
   rw[ak]at x;cases x;cases hm
  ·rw[am _ _ hk]at x ⊢
   exact hr.maps.obj k' es c x
 ·by_cases hk:k'=k
  ·subst hk
   rw[ak]at x;cases x;cases hm
  ·rw[am _ _ hk]at x ⊢
   exact hr.maps.loops k' fno N env ps Ua bd st x
 ·by_cases hk:k'=k
  ·subst hk
   rw[ak]at x;cases x;cases hm
  ·rw[am _ _ hk]at x ⊢
   exact hr.maps.iters k' km vm since seen x
section
variable{G:Gh}{B:Nat}{w0 w:World}{I0:Nat→Nat→Prop}{h:ab}
theorem HR.recell(hr:HR G B w0 I0 h w){C a:Nat}{ces:List AV}{x y:AV}(hC:(h C).ob=some (.arr 1 ces))(ha:ces[a]? =some x)(hy:y.lone=true)(hxy:∀u,Rep G w x u→Rep G w y u):
    HR G B w0 I0 (aM h C ⟨(h C).ver,some (.arr 1 (ces.set a y))⟩) w:=by
 refine hr.reob ?_ rfl;have hlt:=(List.getElem?_eq_some_iff.1 ha).1;rcases hr.objs C _ hC with ⟨rfl,_⟩|⟨L,hL,g1,g2,g3,g4,g6,g5⟩
 ·simp at hlt
 have hall:∀e∈ces.set a y,e.lone=true:=fun e he=>by
  rcases List.mem_or_eq_of_mem_set he with he|rfl
  ·exact g6 rfl e he
  ·exact hy
 refine .inr ⟨L,hL,g1,g2,by simpa using g3,fun e he=>by rw[AV.cells_lone (hall e he)];rfl,fun _=>hall,fun t c ht=> ?_⟩;rw[bK hall,List.getElem?_set]at ht;by_cases hit:a=t
 ·subst hit
  simp only[if_true,hlt]at ht;cases ht;obtain⟨u,hu,hu1,hur⟩:=g5 a x (by rw[bK (g6 rfl)];exact ha);exact⟨u,hu,hu1,hxy u hur⟩
 ·rw[if_neg hit]at ht
  exact g5 t c (by rw[bK (g6 rfl)];exact ht)
end
theorem ke{X:ce}{env:Nat→AV}{h:ab}{C K a sz:Nat}{ces:List AV}(hCK:C≠K)(hC:(h C).ob=some (.arr 1 ces))(ha:ces[a]? =some .nils):
    Weak X ⟨env,h⟩ ⟨env,aM (aM h K ⟨(h K).ver+1,some (.arr sz [])⟩) C ⟨(h C).ver,some (.arr 1 (ces.set a (.sl K ((h K).ver+1) 0 0 sz)))⟩⟩:=fun G ac w ⟨hr,bs,hf,hs⟩=>by
 obtain⟨G',hr',e,_⟩:=hr.bump K (some (.arr sz [])) (fun o e=>by cases e;exact⟨sz,rfl⟩);have hCe:(aM h K ⟨(h K).ver+1,some (.arr sz [])⟩ C)=h C:=am _ _ hCK;have h2:=hr'.recell (C:=C) (a:=a) (x:= .nils) (y:= .sl K ((h K).ver+1) 0 0 sz) (by rw[hCe];exact hC) ha rfl (fun u hu=>by cases hu;exact .slNil _ _ _);rw[hCe]at h2;exact⟨G',e,h2,bs,hf.mono e,hs.mono e⟩
def Eo(H:Option lu)(S:St):Option (St×List Nat):=
 match H with
 |none=>some (S,[])
 |some H=>if H.obj=true then (if H.slot=true then match S.env H.i with
     | .nils=>some (⟨aM S.env H.i (.sl H.K ((S.heap H.K).ver+1) 0 0 H.sz),aM S.heap H.K ⟨(S.heap H.K).ver+1,some (.arr H.sz [])⟩⟩,[H.K])
     |_=>none
     else match (S.heap H.k).ob with
     |some (.arr sz es)=>if sz=1∧H.k≠H.K then match es[H.i]? with
         |some .nils=>some (⟨S.env,aM (aM S.heap H.K ⟨(S.heap H.K).ver+1,some (.arr H.sz [])⟩) H.k ⟨(S.heap H.k).ver,some (.arr 1 (es.set H.i (.sl H.K ((S.heap H.K).ver+1) 0 0 H.sz)))⟩⟩,[H.K,H.k])
         |_=>none
      else none
     |_=>none)
  else if H.slot=true then match S.env H.i with
   | .nils=>some (⟨aM S.env H.i (.vec H.K (S.heap H.K).ver H.sz []),S.heap⟩,[])
   |_=>none
  else match (S.heap H.k).ob with
  |some (.arr sz es)=>if sz=1 then match es[H.i]? with
      |some .nils=>some (⟨S.env,aM S.heap H.k ⟨(S.heap H.k).ver,some (.arr sz (es.set H.i (.vec H.K (S.heap H.K).ver H.sz [])))⟩⟩,[H.k])
      |_=>none
   else none
  |_=>none
theorem Am{X:ce}{H:Option lu}{S S':St}{tk:List Nat}(h:Eo H S=some (S',tk)):Weak X S S'∧∀k,k∉tk→S'.heap k=S.heap k:=by
 unfold Eo at h;split at h
 ·simp only[Option.some.injEq,Prod.mk.injEq]at h
  obtain⟨rfl,rfl⟩:=h;exact⟨Weak.refl S,fun _ _=>rfl⟩
 ·rename_i H
  split at h
  ·split at h
   case isFalse=>
    split at h;case h_2=>cases h
    rename_i sz es hob;split at h;case isFalse=>cases h
    rename_i hc;obtain⟨rfl,hkK⟩:=hc;split at h;case h_2=>cases h
    rename_i hes;simp only[Option.some.injEq,Prod.mk.injEq]at h;obtain⟨rfl,rfl⟩:=h;refine⟨ke (X:=X) (env:=S.env) hkK hob hes,fun k hk=> ?_⟩;simp only[List.mem_cons,List.not_mem_nil,or_false,not_or]at hk;exact(am _ _ hk.2).trans (am _ _ hk.1)
   split at h;case h_2=>cases h
   rename_i henv;simp only[Option.some.injEq,Prod.mk.injEq]at h;obtain⟨rfl,rfl⟩:=h;refine⟨fun G a w ⟨hh1,bs,hh2,hh3⟩=> ?_,fun k hk=>by simp at hk;exact am _ _ hk⟩;obtain⟨G',g1,g2,_⟩:=hh1.bump H.K (some (.arr H.sz [])) (fun o e=>by cases e;exact⟨_,rfl⟩);refine⟨G',g2,g1,bs,⟨hh2.size,hh2.nod,fun t ht=> ?_,fun t ht=> ?_⟩,hh3.mono g2⟩
   ·by_cases hts:t=H.i
    ·subst hts
     show Rep _ _ (aM S.env H.i _ H.i) _;rw[ak];have:=hh2.rep H.i ht;rw[henv]at this;have hv:∀u,Rep G w .nils u→Rep G' w (.sl H.K ((S.heap H.K).ver+1) 0 0 H.sz) u:=fun u hu=>by cases hu;exact .slNil _ _ _
     exact hv _ this
    ·show Rep _ _ (aM S.env H.i _ t) _
     rw[am _ _ hts];exact(hh2.rep t ht).mono g2
   ·by_cases hts:t=H.i
    ·subst hts
     have:=hh2.out H.i ht;rw[henv]at this;cases this
    ·show aM S.env H.i _ t=_
     rw[am _ _ hts];exact hh2.out t ht
  split at h
  ·split at h
   case h_2=>cases h
   rename_i henv;simp only[Option.some.injEq,Prod.mk.injEq]at h;obtain⟨rfl,rfl⟩:=h;refine⟨fun G a w ⟨hh1,bs,hh2,hh3⟩=>⟨G,Ext.refl G w,hh1,bs,⟨hh2.size,hh2.nod,fun t ht=> ?_,fun t ht=> ?_⟩,hh3⟩,fun _ _=>rfl⟩
   ·by_cases hts:t=H.i
    ·subst hts
     show Rep _ _ (aM S.env H.i _ H.i) _;rw[ak];have:=hh2.rep H.i ht;rw[henv]at this;have hv:∀u,Rep G w .nils u→Rep G w (.vec H.K (S.heap H.K).ver H.sz []) u:=fun u hu=>by cases hu;exact .vecNil _ _ _
     exact hv _ this
    ·show Rep _ _ (aM S.env H.i _ t) _
     rw[am _ _ hts];exact hh2.rep t ht
   ·by_cases hts:t=H.i
    ·subst hts
     have:=hh2.out H.i ht;rw[henv]at this;cases this
    ·show aM S.env H.i _ t=_
     rw[am _ _ hts];exact hh2.out t ht
  split at h;case h_2=>cases h
  rename_i sz es hob;split at h;case isFalse=>cases h
  rename_i hsz;subst hsz;split at h;case h_2=>cases h
  rename_i hes;simp only[Option.some.injEq,Prod.mk.injEq]at h;obtain⟨rfl,rfl⟩:=h;refine⟨fun G a w hh=>⟨G,Ext.refl G w,hh.1.reob ?_ rfl,hh.2⟩,fun k' hk'=>by simp at hk';exact am _ _ hk'⟩;have hlt:=(List.getElem?_eq_some_iff.1 hes).1;rcases hh.1.objs H.k _ hob with ⟨rfl,_⟩|⟨L,hL,g1,g2,g3,g4,g6,g5⟩
  ·simp at hlt
  have hall:∀x∈es.set H.i (.vec H.K (S.heap H.K).ver H.sz []),x.lone=true:=fun x hx=>by
   rcases List.mem_or_eq_of_mem_set hx with hx|rfl
   ·exact g6 rfl x hx
   ·rfl
  refine .inr ⟨L,hL,g1,g2,by simpa using g3,fun x hx=>by rw[AV.cells_lone (hall x hx)];rfl,fun _=>hall,fun t c ht=> ?_⟩;rw[bK hall,List.getElem?_set]at ht;by_cases hit:H.i=t
  ·subst hit
   simp only[if_true,hlt]at ht;cases ht;obtain⟨u,hu,hu1,hur⟩:=g5 H.i .nils (by rw[bK (g6 rfl)];exact hes);refine⟨u,hu,hu1, ?_⟩;cases hur;exact .vecNil _ _ _
  ·rw[if_neg hit]at ht
   exact g5 t c (by rw[bK (g6 rfl)];exact ht)
def sL:List lu→St→Option (St×List Nat)
 |[],S=>some (S,[])
 |H::r,S=>match Eo (some H) S with
  |some a=>match sL r a.1 with
   |some b=>some (b.1,a.2 ++b.2)
   |none=>none
  |none=>none
theorem qd{X:ce}:∀{l:List lu}{S S':St}{tk:List Nat},sL l S=some (S',tk)→Weak X S S'∧∀k,k∉tk→S'.heap k=S.heap k
 |[],S,S',tk,h=>by
  simp only[sL,Option.some.injEq,Prod.mk.injEq]at h;obtain⟨rfl,rfl⟩:=h;exact⟨Weak.refl S,fun _ _=>rfl⟩
 |H::r,S,S',tk,h=>by
  simp only[sL]at h;split at h;case h_2=>cases h
  rename_i a ha;split at h;case h_2=>cases h
  rename_i b hb;simp only[Option.some.injEq,Prod.mk.injEq]at h;obtain⟨rfl,rfl⟩:=h;obtain⟨a1,a2⟩:=a;obtain⟨b1,b2⟩:=b;have h1:=Am (X:=X) ha;have h2:=qd (X:=X) hb;exact⟨h1.1.trans h2.1,fun k hk=>by simp only[List.mem_append,not_or]at hk;exact(h2.2 k hk.2).trans (h1.2 k hk.1)⟩
theorem gQ{X:ce}{env:Nat→AV}{h:ab}{C a n:Nat}{ces:List AV}{x:AV}{d:D}{ks:List Nat}(hCk:C∉ks)(hC:(h C).ob=some (.arr 1 ces))(ha:ces[a]? =some x)(hd:d.one=true)(hv:view n h x=some (d,ks)):
    Weak X ⟨env,h⟩ ⟨env,aM (aq h (kill h ks)) C ⟨(h C).ver,some (.arr 1 (ces.set a (.d d)))⟩⟩:=fun G ac w ⟨hr,bs,hf,hs⟩=>by
 have hr':=hr.kill ks;have e:=Ext.froz hr ks;have hCe:aq h (kill h ks) C=h C:=by rw[bz,if_neg hCk]
 have h0:∀u,Rep G w x u→Rep (G.froz h ks) w (.d d) u:=fun u hu=> .d ((dT hr n _ _ _ _ hv hu).mono (fun b o hb=>hb) (fun _ _ _=>rfl))
 have h2:HR (G.froz h ks) X.B X.w0 X.I0 (aM (aq h (kill h ks)) C ⟨(aq h (kill h ks) C).ver,some (.arr 1 (ces.set a (.d d)))⟩) w:=by
  refine hr'.reob ?_ rfl;rw[hCe];have hlt:=(List.getElem?_eq_some_iff.1 ha).1;rcases hr.objs C _ hC with ⟨rfl,_⟩|⟨L,hL,g1,g2,g3,g4,g6,g5⟩
  ·simp at hlt
  have hall:∀e∈ces.set a (.d d),e.lone=true:=fun e he=>by
   rcases List.mem_or_eq_of_mem_set he with he|rfl
   ·exact g6 rfl e he
   ·cases d<;>first|rfl|(simp[D.one]at hd)
  refine .inr ⟨L,e.loc _ _ _ hL,g1,g2,by simpa using g3,fun e he=>by rw[AV.cells_lone (hall e he)];rfl,fun _=>hall,fun t c ht=> ?_⟩;rw[bK hall,List.getElem?_set]at ht;by_cases hit:a=t
  ·subst hit
   simp only[if_true,hlt]at ht;cases ht;obtain⟨u,hu,hu1,hur⟩:=g5 a x (by rw[bK (g6 rfl)];exact ha);exact⟨u,hu,hu1,h0 u hur⟩
  ·rw[if_neg hit]at ht
   obtain⟨u,hu,hu1,hur⟩:=g5 t c (by rw[bK (g6 rfl)];exact ht);exact⟨u,hu,hu1,hur.mono e⟩
 rw[hCe]at h2;exact⟨_,e,h2,bs,hf.mono e,hs.mono e⟩
def Qv(H:Option uI)(S:St):Option (St×List Nat×az):=
 match H with
 |none=>some (S,[],[])
 |some H=>match (S.heap H.C).ob with
  |some (.arr sz ces)=>if sz=1∧H.C≠H.k then match ces[H.a]? with
      |some (.sl k v off len _)=>if k=H.k∧off=0 then match (S.heap k).ob with
          |some (.arr _ es)=>some (⟨S.env,aM (aM S.heap k ⟨(S.heap k).ver+1,none⟩) H.C ⟨(S.heap H.C).ver,some (.arr 1 (ces.set H.a (.d (.ro H.ds))))⟩⟩,[k,H.C],[(.nat (S.heap k).ver, .nat v),(.nat len, .nat H.n),(.av (.tup es), .av (.tup H.es))])
          |_=>none
       else none
      |_=>none
   else none
  |_=>none
theorem Ep{X:ce}{H:Option uI}{S S':St}{tk:List Nat}{ps:az}(h:Qv H S=some (S',tk,ps))(hs:Alike ps):Weak X S S'∧∀k,k∉tk→S'.heap k=S.heap k:=by
 unfold Qv at h;split at h
 ·simp only[Option.some.injEq,Prod.mk.injEq]at h
  obtain⟨rfl,rfl,rfl⟩:=h;exact⟨Weak.refl S,fun _ _=>rfl⟩
 rename_i H;split at h;case h_2=>cases h
 rename_i sz ces hC;split at h;case isFalse=>cases h
 rename_i hc;obtain⟨rfl,hCk⟩:=hc;split at h;case h_2=>cases h
 rename_i k v off len z ha;split at h;case isFalse=>cases h
 rename_i hc2;obtain⟨rfl,rfl⟩:=hc2;split at h;case h_2=>cases h
 rename_i sz' es hob;simp only[Option.some.injEq,Prod.mk.injEq]at h;obtain⟨rfl,rfl,rfl⟩:=h;have h1:=hs.head;have h2:=hs.tail.head;have h3:=hs.tail.tail.head;simp only[aU.nat.injEq,aU.av.injEq,AV.tup.injEq]at h1 h2 h3;subst h3
 have hview:view 4 S.heap (.sl H.k v 0 len z)=some (.ro H.ds,[H.k]):=by
  rw[Bp,hob];simp only;rw[if_pos ⟨h1,by rw[h2,←H.hn];omega⟩];rw[List.drop_zero,List.take_of_length_le (by rw[h2,←H.hn];exact Nat.le_refl _),H.hv];rfl
 refine⟨gQ (ks:=[H.k]) (by simpa using hCk) hC ha rfl hview,fun k' hk'=> ?_⟩;simp only[List.mem_cons,List.not_mem_nil,or_false,not_or]at hk';exact(am _ _ hk'.2).trans (am _ _ hk'.1)
def sM(K:Option (List (Nat×AV)))(S:St):St×az:=match K with
 |none=>(S,[])
 |some l=>(⟨an l,S.heap⟩,iO S.env l)
theorem yi{X:ce}{K:Option (List (Nat×AV))}{S:St}(hs:Alike (sM K S).2):Weak X S (sM K S).1∧(sM K S).1.heap=S.heap:=by
 cases K with
 |none=>exact⟨Weak.refl S,rfl⟩
 |some l=>exact⟨m6 (heap:=S.heap) (mL hs),rfl⟩
def sN(H:Option sJ)(N:List lu)(K:Option (List (Nat×AV)))(S:St):Option (St×List Nat×az):=
 match Al H S with
 |some a=>match sL N a.1 with
  |some b=>some ((sM K b.1).1,a.2.1 ++b.2,a.2.2 ++(sM K b.1).2)
  |none=>none
 |none=>none
def wp(H:Option sJ)(N:List lu)(K:Option (List (Nat×AV)))(Z:Option uI)(S:St):Option (St×List Nat×az):=
 match sN H N K S with
 |some a=>match Qv Z a.1 with
  |some b=>some (b.1,a.2.1 ++b.2.1,a.2.2 ++b.2.2)
  |none=>none
 |none=>none
theorem um{X:ce}{H:Option sJ}{N:List lu}{K:Option (List (Nat×AV))}{S S':St}{tk:List Nat}{ps:az}(h:sN H N K S=some (S',tk,ps))(hs:Alike ps):Weak X S S'∧∀k,k∉tk→S'.heap k=S.heap k:=by
 unfold sN at h;split at h;case h_2=>cases h
 rename_i a ha;split at h;case h_2=>cases h
 rename_i b hb;simp only[Option.some.injEq,Prod.mk.injEq]at h;obtain⟨rfl,rfl,rfl⟩:=h;obtain⟨a1,a2,a3⟩:=a;obtain⟨b1,b2⟩:=b;have h1:=yh (X:=X) ha hs.left;have h2:=qd (X:=X) hb;have h3:=yi (X:=X) hs.right;exact⟨(h1.1.trans h2.1).trans h3.1,fun k hk=>by simp only[List.mem_append,not_or]at hk;rw[h3.2];exact(h2.2 k hk.2).trans (h1.2 k hk.1)⟩
theorem eL{X:ce}{H:Option sJ}{N:List lu}{K:Option (List (Nat×AV))}{Z:Option uI}{S S':St}{tk:List Nat}{ps:az}(h:wp H N K Z S=some (S',tk,ps))(hs:Alike ps):Weak X S S'∧∀k,k∉tk→S'.heap k=S.heap k:=by
 unfold wp at h;split at h;case h_2=>cases h
 rename_i a ha;split at h;case h_2=>cases h
 rename_i b hb;simp only[Option.some.injEq,Prod.mk.injEq]at h;obtain⟨rfl,rfl,rfl⟩:=h;obtain⟨a1,a2,a3⟩:=a;obtain⟨b1,b2,b3⟩:=b;have h1:=um (X:=X) ha hs.left;have h2:=Ep (X:=X) hb hs.right;exact⟨h1.1.trans h2.1,fun k hk=>by simp only[List.mem_append,not_or]at hk;exact(h2.2 k hk.2).trans (h1.2 k hk.1)⟩
def Par.nilsAt{P:Program}(pr:Par P)(fno id:Nat):List lu:=match pr.nils fno id with
 |some H=>H::pr.nils2 fno id
 |none=>pr.nils2 fno id
abbrev cJ:=Nat→Nat→Nat→Code→St→Option (aG×St×Nat×List Nat×az)
def wq(P:Program)(ex:cJ)(g:Nat)(ds:List D):Option (List D×az):=
 match P.funcs[g]? with
 |none=>none
 |some fn=>match fn.body with
  |none=>none
  |some b=>if ds.length≤fn.ntmps then match ex g 0 fn.ntmps b (ji ds)with
      |some (.normal,S',_,_,ps)=>(mF P S' fn.results.toList).map fun rs=>(rs,ps)
      |some (.ret,S',_,_,ps)=>(mF P S' fn.results.toList).map fun rs=>(rs,ps)
      |_=>none
   else none
def gC(P:Program)(ex:cJ)(base:Nat)(g:Nat)(args:List AV)(h:ab):Option (List AV×ab×Nat×List Nat×az):=
 match P.funcs[g]? with
 |none=>none
 |some fn=>match fn.body with
  |none=>none
  |some b=>if args.length≤fn.ntmps then match ex g base fn.ntmps b ⟨ga args,h⟩with
      |some (.normal,S',b',tk,ps)=>(iZ P S' fn.results.toList).map fun rs=>(rs,S'.heap,b',tk,ps)
      |some (.ret,S',b',tk,ps)=>(iZ P S' fn.results.toList).map fun rs=>(rs,S'.heap,b',tk,ps)
      |_=>none
   else none
def pb(P:Program)(ex:cJ)(base:Nat)(args:List AV)(h:ab):Option (ab×Nat×List Nat×az):=
 match args with
 |[a, .fn f caps]=>match ld h a with
  |some (k,v,i,es,n,m)=>
   if n=0 then
    if m=0 then match gC P ex base f caps (sx h k v i es)with
     |some r=>match ld r.2.1 a with
      |some (k2,v2,i2,es2,n2,m2)=>if k2=k∧v2=v∧i2=i∧n2=0∧m2=1 then some (sy r.2.1 k v i es2,r.2.2.1,k::r.2.2.2.1,r.2.2.2.2)else none
      |none=>none
     |none=>none
    else none
   else some (h,base,[],[])
  |none=>none
 |_=>none
def An(ex:cJ)(base k v:Nat)(args:List AV)(h:ab):Option (Bool×ab×Nat×List Nat×az):=
 match (h k).ob with
 |some (.lp fno N env ps Ua bd .ready)=>match jH N (an env) ps.toList args with
     |some env1=>match ex fno base N Ua ⟨env1,h⟩with
      |some (.normal,S1,b1,tk1,ps1)=>match (S1.heap k).ob with
       |some (.lp f1 N1 e1 q1 as1 bd1 .ready)=>match ex fno b1 N bd ⟨S1.env,aM S1.heap k ⟨v,some (.lp f1 N1 e1 q1 as1 bd1 .busy)⟩⟩with
           |some r=>match (r.2.1.heap k).ob,su r.1 with
            |some (.lp f2 N2 e2 q2 as2 bd2 _),some q=>some (q.1,aM r.2.1.heap k ⟨v,some (.lp f2 N2 e2 q2 as2 bd2 q.2)⟩,r.2.2.1,k::(tk1 ++r.2.2.2.1),(.nat (h k).ver, .nat v)::(.nat (S1.heap k).ver, .nat v)::(.nat (r.2.1.heap k).ver, .nat v)::(ps1 ++r.2.2.2.2))
            |_,_=>none
           |none=>none
       |_=>none
      |_=>none
     |none=>none
 |_=>none
def keyOf(rid i:Nat)(o:Oper):Nat:=match o.dst with
 |some d=>d
 |none=>100000+rid*1000+i
def Ao(P:Program)(pr:Par P)(ex:cJ)(fno key base g:Nat)(args:List AV)(h:ab):Option (List AV×ab×Nat×List Nat×az):=
 match pr.xcalls fno key with
 |some H=>if g=H.g then match aZ h H.pre with
     |some q=>some (H.rs,al H.post (H.rst h),base,H.post.map (·.1) ++H.bigs,(.av (.tup args), .av (.tup H.args))::q)
     |none=>none
  else none
 |none=>gC P ex base g args h
def Bq(P:Program)(pr:Par P)(ex:cJ)(fno rid base N:Nat)(ops:Array Oper)(i:Nat)(o:Oper)(S:St):Option (St×Foot×Nat×List Nat×az):=
 match db ops o S.env with
 |some true=>match wg o S.env with
  |some (g,args)=>match pr.calls fno (keyOf rid i o) base with
   |some H=>if g=H.g then match aZ S.heap H.pre with
      |some q=>(dS N S.env o.dst (gY H.rs)).map fun env=>(⟨env,aq S.heap H.post.reverse⟩,⟨i,H.pre.map (·.1),H.post.reverse.map (·.1),false⟩,base,H.post.reverse.map (·.1),(.av (.tup args), .av (.tup H.args))::q)
      |none=>none
    else none
   |none=>match pr.at fno (keyOf rid i o) base with
    |some (.call g' ds rs _)=>
     if g'=g then match qu args with
      |some ds'=>(dS N S.env o.dst (jA rs)).map fun env=>(⟨env,S.heap⟩,⟨i,[],[],false⟩,base,[],[(.ds ds', .ds ds)])
      |none=>match view.go 12 S.heap args with
       |some r=>if rs.all D.scal=true then (dS N S.env o.dst (jA rs)).map fun env=>(⟨env,S.heap⟩,⟨i,r.2,[],false⟩,base,[],[(.ds r.1, .ds ds)])else none
       |none=>none
     else none
    |_=>if pa g=true then match pb P ex base args S.heap with
      |some r=>(dS N S.env o.dst (.tup [])).map fun env=>(⟨env,r.1⟩,⟨i,[],r.2.2.1,true⟩,r.2.1,r.2.2.1,r.2.2.2)
      |none=>none
     else match (if pr.hp g=true then none else qu args)with
     |some ds=>match wq P ex g ds with
      |some r=>(dS N S.env o.dst (jA r.1)).map fun env=>(⟨env,S.heap⟩,⟨i,[],[],false⟩,base,[],r.2)
      |none=>none
     |none=>match Ao P pr ex fno (keyOf rid i o) base g args S.heap with
      |some r=>(dS N S.env o.dst (gY r.1)).map fun env=>(⟨env,r.2.1⟩,⟨i,[],r.2.2.2.1,true⟩,r.2.2.1,r.2.2.2.1,r.2.2.2.2)
      |none=>none
  |none=>match nC o S.env with
   |some y=>match An ex base y.1 y.2.1 y.2.2 S.heap with
    |some r=>(dS N S.env o.dst (.d (.bool r.1))).map fun env=>(⟨env,r.2.1⟩,⟨i,[],r.2.2.2.1,true⟩,r.2.2.1,r.2.2.2.1,r.2.2.2.2)
    |none=>none
   |none=>match Ek P (pr.at fno (keyOf rid i o) base) {obm:=fun _=>pr.obm fno (o.dst.getD 0),base:=fun _=>base} i o (opd S.env) S.heap with
   |some q=>match q.1.ob with
    |[]=>(dS N S.env o.dst q.1.val).map fun env=>(⟨env,aq S.heap q.1.wr⟩,⟨i,q.1.rd,q.1.wr.map (·.1),false⟩,base+N,q.1.wr.map (·.1),q.2)
    |_=>none
   |none=>none
 |some false=>(dS N S.env o.dst (.tup [])).map fun env=>(⟨env,S.heap⟩,⟨i,[],[],false⟩,base,[],[])
 |none=>none
def yj(P:Program)(pr:Par P)(ex:cJ)(fno rid N:Nat)(ops:Array Oper):List Oper→Nat→Nat→St→Option (St×List Foot×Nat×List Nat×az)
 |[],_,base,S=>some (S,[],base,[],[])
 |o::r,i,base,S=>match Bq P pr ex fno rid base N ops i o S with
  |none=>none
  |some a=>match yj P pr ex fno rid N ops r (i+1) a.2.2.1 a.1 with
   |none=>none
   |some b=>some (b.1,a.2.1::b.2.1,b.2.2.1,a.2.2.2.1 ++b.2.2.2.1,a.2.2.2.2 ++b.2.2.2.2)
def Er(P:Program)(C:Option (uJ P))(ops:Array Oper)(o:Oper)(S:St):Option (AV×ab×List Nat×az):=
 match db ops o S.env with
 |some true=>match C with
  |some C=>match dr o S.env with
   |some (g,args)=>if g=C.g then (aZ S.heap C.pre).map fun q=>(C.x,al C.post S.heap,C.post.map (·.1),(.av (.tup args), .av (.tup C.args))::q)else none
   |none=>none
  |none=>match o.op with
   | .panic u=>match opd S.env u with
    | .iv t y=>some (.iv t y,S.heap,[],[])
    |_=>none
   |_=>none
 |_=>none
def Es(P:Program)(pr:Par P)(ex:cJ)(fno rid N:Nat)(ops:Array Oper)(op:Oper):List Nat→Nat→St→Option (St×List (Nat×Foot)×Nat×List Nat×az)
 |[],base,S=>some (S,[],base,[],[])
 |i::r,base,S=>match ops[i]? with
  |none=>none
  |some o=>match Bq P pr ex fno rid base N ops i o S with
   |none=>none
   |some a=>match (ma op i||a.2.1.wr.all fun k=>Nat.ble (S.heap k).ver (a.1.heap k).ver)&& !(r.any (Nat.beq i))with
    |false=>none
    |true=>match Es P pr ex fno rid N ops op r a.2.2.1 a.1 with
     |none=>none
     |some b=>some (b.1,(i,a.2.1)::b.2.1,b.2.2.1,a.2.2.2.1 ++b.2.2.2.1,a.2.2.2.2 ++b.2.2.2.2)
def uK:List (Nat×Foot)→Nat→Foot
 |[],_=>⟨0,[],[],false⟩
 |(j,f)::r,i=>bif Nat.beq i j then f else uK r i
def HY(W:List Nat)(h:ab):ab:=fun k=>bif W.any (Nat.beq k)then ⟨(h k).ver,none⟩else h k
def wQ(op:Oper)(fts:List (Nat×Foot)):List Nat:=(fts.filter fun e=> !ma op e.1).flatMap (·.2.wr)
def NA{P:Program}(C:Option (uJ P))(W:List Nat):Bool:=match C with
 |some C=>W.all fun k=> !(C.pre.map (·.1)).any (Nat.beq k)&& !(C.post.map (·.1)).any (Nat.beq k)
 |none=>true
def ST{P:Program}(ops:Array Oper)(p:Nat)(op:Oper)(O:List Nat)(fts:List (Nat×Foot))(C:Option (uJ P)):Bool:=
 uH ops (uK fts) p O (wQ op fts) O (Array.replicate ops.size false)&&Nat.blt O.length ops.size&&NA C (wQ op fts)
def bj(P:Program)(pr:Par P):Nat→cJ
 |0,_,_,_,_,_=>none
 |n+1,fno,base,N,c,S=>
  match c with
  | .region id ops draw=>match wp (pr.weaks fno id) (pr.nilsAt fno id) (pr.keeps fno id) (pr.frz fno id) S with
   |some wk=>match pr.pans fno id base with
    |some H=>match H.ex with
     |[]=>match yj P pr (bj P pr n) fno id N ops (ops.toList.take H.p) 0 base wk.1 with
      |some r=>match ops[H.p]? with
       |some o=>match Er P H.call ops o r.1 with
        |some q=>if draw=false∨o8 ops r.2.1 H.p=true then some (.panic q.1,⟨lc ops wk.1.env,q.2.1⟩,r.2.2.1,wk.2.1 ++(r.2.2.2.1 ++q.2.2.1),wk.2.2 ++(r.2.2.2.2 ++q.2.2.2))else none
        |none=>none
       |none=>none
      |none=>none
     |_::_=>match draw with
      |false=>none
      |true=>match ops[H.p]? with
       |none=>none
       |some o=>match Es P pr (bj P pr n) fno id N ops o (List.range' 0 H.p ++H.exs) base wk.1 with
        |none=>none
        |some r=>match Er P H.call ops o r.1 with
         |none=>none
         |some q=>match ST ops H.p o (List.range' 0 H.p ++H.exs) r.2.1 H.call with
          |true=>some (.panic q.1,⟨lc ops wk.1.env,HY (wQ o r.2.1) q.2.1⟩,r.2.2.1,wk.2.1 ++(r.2.2.2.1 ++(q.2.2.1 ++wQ o r.2.1)),wk.2.2 ++(r.2.2.2.2 ++q.2.2.2))
          |false=>none
    |none=>match yj P pr (bj P pr n) fno id N ops ops.toList 0 base wk.1 with
     |some r=>match draw with
      |false=>some (.normal,r.1,r.2.2.1,wk.2.1 ++r.2.2.2.1,wk.2.2 ++r.2.2.2.2)
      |true=>match so ops r.2.1 with
       |true=>some (.normal,r.1,r.2.2.1,wk.2.1 ++r.2.2.2.1,wk.2.2 ++r.2.2.2.2)
       |false=>none
     |none=>none
   |none=>none
  | .seq x y=>match pr.seqs fno (gd x)with
   |some H=>if H.N=N then match aZ S.heap (H.hp S.heap)with
       |some q=>some (H.e,⟨an H.l',al (H.hp' S.heap) S.heap⟩,base,(H.hp' S.heap).map (·.1),(.code (.seq x y), .code H.x)::(iO S.env H.l ++q))
       |none=>none
    else none
   |none=>match bj P pr n fno base N x S with
    |some (.normal,S',b',tk,ps)=>match bj P pr n fno b' N y S' with
     |some (e,S2,b2,tk2,ps2)=>some (e,S2,b2,tk ++tk2,ps ++ps2)
     |none=>none
    |r=>r
  | .block id x=>match bj P pr n fno base N x S with
   |some (.exit i,S',b',tk,ps)=>if i=id then some (.normal,S',b',tk,ps)else some (.exit i,S',b',tk,ps)
   |r=>r
  | .loop x=>match pr.loops fno (gd x)with
   |some H=>if H.N=N then match aZ S.heap (H.hp S.heap)with
       |some q=>some (H.e,⟨an H.l',al (H.hp' S.heap) S.heap⟩,base,(H.hp' S.heap).map (·.1),(.code x, .code H.x)::(iO S.env H.l ++q))
       |none=>none
    else none
   |none=>match bj P pr n fno base N x S with
    |some (.normal,S',b',tk,ps)=>match bj P pr n fno b' N (.loop x) S' with
     |some (e,S2,b2,tk2,ps2)=>some (e,S2,b2,tk ++tk2,ps ++ps2)
     |none=>none
    |r=>r
  | .skip=>some (.normal,S,base,[],[])
  | .exit i=>some (.exit i,S,base,[],[])
  | .ret=>some (.ret,S,base,[],[])
  | .cond c x y=>match opd S.env c with
   | .d (.bool b)=>match b with
    |true=>bj P pr n fno base N x S
    |false=>bj P pr n fno base N y S
   |_=>none
  | .rangeFunc g ps Ua bd=>match opd S.env g with
   | .fn gf caps=>match gC P (bj P pr n) (base+N) gf (.yld base ((S.heap base).ver+1)::caps) (aM S.heap base ⟨(S.heap base).ver+1,some (.lp fno N (KJ N S.env) ps Ua bd .ready)⟩)with
    |some r=>match (r.2.1 base).ob with
     |some (.lp _ _ _ _ _ _ st)=>match HU st with
      |some e=>some (e,⟨S.env,aM r.2.1 base ⟨(r.2.1 base).ver,none⟩⟩,r.2.2.1,base::r.2.2.2.1,(.nat (r.2.1 base).ver, .nat ((S.heap base).ver+1))::r.2.2.2.2)
      |none=>none
     |_=>none
    |none=>none
   |_=>none
  |_=>none
end Go.Avm
