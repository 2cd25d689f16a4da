/-
  The scanner of texts, part J: a number is next.
-/
import Derived.Test.YtcjiafanhlhdlaaGreatDoorG12
import Derived.Test.YtcjiafanhlhdlaaGreatDoorG08
import Derived.Test.YtcjiafanhlhdlaaGreatDoorG11
set_option linter.unusedVariables false
set_option linter.unusedSimpArgs false
set_option linter.unusedSectionVars false
namespace Go.Avm
open Go.Proofs
def cD(s:List UInt8)(a:Nat):List UInt8:=sub s a (a+fe bJ (s.drop a))
section
variable(w:Bool)(s:List UInt8)(a v m:Nat)(l:List D)
noncomputable def tO(c b:UInt8)(ha:a<s.length)(hlen:s.length≤100000)(h0:(cD s a)[(0:Int).toNat]? =some c)(n:Int)(e:D)(hp:aM Pg 93 [.str (cD s a), .int .i64 10, .int .i64 64] [.int .i64 n,e])
    (hta:a+(cD s a).length≤1099511627776) (hl:l.length+1≤549755813888) (z y x u g k9:Bool) (hz:decide (1<((cD s a).length:Int))=z) (hy:((c.toNat:Int)==48)=y) (hx:decide (((a+(cD s a).length:Nat):Int)<(s.length:Int))=x)
    (hxb:x=true→s[((a+(cD s a).length:Nat):Int).toNat]? =some b) (hu:my b=u) (hg:BI 65 b=g) (hk:BJ b 90=k9):Par Pg:=
 {hint:=fun f' k=>if f'=65 then (if k=11 then some (.call 93 [.str (cD s a), .int .i64 10, .int .i64 64] [.int .i64 n,e] hp)else if k=20 then some (Mw Pg a (cD s a).length hta)else if k=27 then some (hB Pg _ z hz)
     else if k=30 then some (.sidx (cD s a) 0 c (by omega) h0)else if k=31 then some (hB Pg _ y hy)else if k=40 then some (hB Pg _ x hx)
     else if k=47 then (if h:x=true then some (.sidx s ((a+(cD s a).length:Nat):Int) b (by omega) (hxb h))else none)else if k=55 then (if h:x=true then some (.sidx s ((a+(cD s a).length:Nat):Int) b (by omega) (hxb h))else none)
     else if k=63 then (if h:x=true then some (.sidx s ((a+(cD s a).length:Nat):Int) b (by omega) (hxb h))else none)else if k=48 then some (.call 66 [bD b] [.bool u] (hu▸M5 b))else if k=56 then some (hB Pg _ g hg)else if k=64 then some (hB Pg _ k9 hk)else none)else none
  calls:=fun f' k _=>if f'=65 then (if k=8 then some (HG w s a v l 64 (by simp) bJ D4 hlen (by omega))else if k=72 then some (tM w s a v m l 3 n (cD s a) hl hta)else none)else none}
def za(z y x u g k9:Bool):Bool:=(z&&y)||(x&&(u||(g&&k9)))
section
variable(c b:UInt8)(ha:a<s.length)(hlen:s.length≤100000)(h0:(cD s a)[(0:Int).toNat]? =some c)(n:Int)
include c b ha hlen h0 n
theorem Em(hp:aM Pg 93 [.str (cD s a), .int .i64 10, .int .i64 64] [.int .i64 n, .ifc])(hta:a+(cD s a).length≤1099511627776)(hl:l.length+1≤549755813888)(hxb:decide (((a+(cD s a).length:Nat):Int)<(s.length:Int))=true→s[((a+(cD s a).length:Nat):Int).toNat]? =some b)(rest:ab):
    ax Pg 65 [fh] (al (dQ w s a v m l) rest) [dI 2] (al (dQ w s a v m l) rest):=by
 cases w with
 |false=>exact ap aA named (tO false s a v m l c b ha hlen h0 n .ifc hp hta hl _ _ _ _ _ _ rfl rfl rfl hxb rfl rfl rfl) 1000 150000 65 (by kernel_rfl)
 |true=>exact ap aA named (tO true s a v m l c b ha hlen h0 n .ifc hp hta hl _ _ _ _ _ _ rfl rfl rfl hxb rfl rfl rfl) 1000 150000 65 (by kernel_rfl)
theorem Gx(hp:aM Pg 93 [.str (cD s a), .int .i64 10, .int .i64 64] [.int .i64 n, .nili])(hta:a+(cD s a).length≤1099511627776)(hl:l.length+1≤549755813888)(z y x u g k9:Bool)(hz:decide (1<((cD s a).length:Int))=z)(hy:((c.toNat:Int)==48)=y)(hx:decide (((a+(cD s a).length:Nat):Int)<(s.length:Int))=x)(hxb:x=true→s[((a+(cD s a).length:Nat):Int).toNat]? =some b)(hu:my b=u)(hg:BI 65 b=g)(hk:BJ b 90=k9)(hbad:za z y x u g k9=true)(rest:ab):
    ax Pg 65 [fh] (al (dQ w s a v m l) rest) [dI 4] (al (dQ w s a v m l) rest):=by
 cases w with
 |false=>cases z<;>cases y<;>cases x<;>cases u<;>cases g<;>cases k9<;>first|exact absurd hbad (by decide)|exact ap aA named (tO false s a v m l c b ha hlen h0 n .nili hp hta hl _ _ _ _ _ _ hz hy hx hxb hu hg hk) 1000 150000 65 (by kernel_rfl)
 |true=>cases z<;>cases y<;>cases x<;>cases u<;>cases g<;>cases k9<;>first|exact absurd hbad (by decide)|exact ap aA named (tO true s a v m l c b ha hlen h0 n .nili hp hta hl _ _ _ _ _ _ hz hy hx hxb hu hg hk) 1000 150000 65 (by kernel_rfl)
theorem ME(hp:aM Pg 93 [.str (cD s a), .int .i64 10, .int .i64 64] [.int .i64 n, .nili])(hta:a+(cD s a).length≤1099511627776)(hl:l.length+1≤549755813888)(z y x u g k9:Bool)(hz:decide (1<((cD s a).length:Int))=z)(hy:((c.toNat:Int)==48)=y)(hx:decide (((a+(cD s a).length:Nat):Int)<(s.length:Int))=x)(hxb:x=true→s[((a+(cD s a).length:Nat):Int).toNat]? =some b)(hu:my b=u)(hg:BI 65 b=g)(hk:BJ b 90=k9)(hbad:za z y x u g k9=false)(rest:ab):
    ax Pg 65 [fh] (al (dQ w s a v m l) rest) [dI 0] (al (dQ w s (a+(cD s a).length) (v+1) m (l ++[nM 3 a (cD s a) n])) rest):=by
 cases w with
 |false=>cases z<;>cases y<;>cases x<;>cases u<;>cases g<;>cases k9<;>first|exact absurd hbad (by decide)|exact ap aA named (tO false s a v m l c b ha hlen h0 n .nili hp hta hl _ _ _ _ _ _ hz hy hx hxb hu hg hk) 1000 150000 65 (by kernel_rfl)
 |true=>cases z<;>cases y<;>cases x<;>cases u<;>cases g<;>cases k9<;>first|exact absurd hbad (by decide)|exact ap aA named (tO true s a v m l c b ha hlen h0 n .nili hp hta hl _ _ _ _ _ _ hz hy hx hxb hu hg hk) 1000 150000 65 (by kernel_rfl)
end
noncomputable def Gy(b:UInt8)(ha:a<s.length)(hb:s[((a:Nat):Int).toNat]? =some b)(h1:bJ b=true)(C:eY Pg):Par Pg:=
 {hint:=fun f' k=>if f'=38 then (if k=14 then some (.sidx s (a:Int) b (by omega) hb)else if k=17 then some (.call 64 [bD b] [.bool true] (h1▸D4 b))else none)else none
  calls:=fun f' k _=>if f'=38 then (if k=19 then some C else none)else none}
theorem r7(b:UInt8)(ha:a<s.length)(hb:s[((a:Nat):Int).toNat]? =some b)(h1:bJ b=true)(k:Int)(hc:∀rest:ab,ax Pg 65 [fh] (al (dQ w s a v m l) rest) [dI k] (al (dQ w s a v m l) rest))(rest:ab):
    ax Pg 38 [fh] (al (dQ w s a v m l) rest) [dI k] (al (dQ w s a v m l) rest):=by
 cases w with
 |false=>exact ap aA named (Gy s a b ha hb h1 ⟨65,[fh],dQ false s a v m l,[dI k],dQ false s a v m l,gi hc⟩) 1000 130000 38 (by kernel_rfl)
 |true=>exact ap aA named (Gy s a b ha hb h1 ⟨65,[fh],dQ true s a v m l,[dI k],dQ true s a v m l,gi hc⟩) 1000 130000 38 (by kernel_rfl)
theorem Bx(b:UInt8)(ha:a<s.length)(hb:s[((a:Nat):Int).toNat]? =some b)(h1:bJ b=true)(a' v':Nat)(l':List D)(hc:∀rest:ab,ax Pg 65 [fh] (al (dQ w s a v m l) rest) [dI 0] (al (dQ w s a' v' m l') rest))(rest:ab):
    ax Pg 38 [fh] (al (dQ w s a v m l) rest) [dI 0] (al (dQ w s a' v' m l') rest):=by
 cases w with
 |false=>exact ap aA named (Gy s a b ha hb h1 ⟨65,[fh],dQ false s a v m l,[dI 0],dQ false s a' v' m l',gi hc⟩) 1000 130000 38 (by kernel_rfl)
 |true=>exact ap aA named (Gy s a b ha hb h1 ⟨65,[fh],dQ true s a v m l,[dI 0],dQ true s a' v' m l',gi hc⟩) 1000 130000 38 (by kernel_rfl)
end
end Go.Avm
namespace Go.Avm
open Go.Proofs
abbrev sP:=Int×List UInt8×Int
def MF(b:UInt8):Bool:=BI 65 b&&BJ b 90
def En:List UInt8→Bool
 |[]=>false
 |b::_=>my b||MF b
def M6(b:UInt8):Bool:=decide (0≤y8 b)
def u6(b:UInt8)(r:List UInt8):List UInt8:=
 match r with
 |[]=>if M6 b then [b]else []
 |c::_=>if nP.contains [b,c]then [b,c]else if M6 b then [b]else []
def iA:List UInt8→Except Int sP
 |[]=> .error 4
 |b::r=>
  if bJ b then
   if 9223372036854775808≤dv 0 ((b::r).takeWhile bJ)then .error 2
   else if (decide (1<((b::r).takeWhile bJ).length)&&b.toNat==48)||En ((b::r).drop ((b::r).takeWhile bJ).length)then .error 4
   else .ok (3,(b::r).takeWhile bJ,dv 0 ((b::r).takeWhile bJ))
  else if my b then
   if gc ((b::r).takeWhile pG)then .ok (2,(b::r).takeWhile pG,0)
   else if 12<((b::r).takeWhile pG).length then .error 2 else .ok (1,(b::r).takeWhile pG,0)
  else if u6 b r=[]then .error 4 else .ok (4,u6 b r,0)
theorem Gz(p:UInt8→Bool)(l:List UInt8):l.take (l.takeWhile p).length=l.takeWhile p:=(List.prefix_iff_eq_take.1 (List.takeWhile_prefix p)).symm
theorem HJ(p:UInt8→Bool)(l:List UInt8):(l.takeWhile p).length≤l.length:=(List.takeWhile_sublist p).length_le
theorem Eo(p:UInt8→Bool)(s:List UInt8)(a:Nat):sub s a (a+fe p (s.drop a))=(s.drop a).takeWhile p:=by
 unfold sub fe;rw[List.drop_take,Nat.add_sub_cancel_left,Gz]
theorem Ep(s:List UInt8)(a:Nat):rst s a=s.drop a:=by rw[rst,List.take_length]
theorem GB(t:List UInt8)(k:Nat):oL t k=t.take k:=by rw[oL,List.drop_zero]
theorem Er(s:List UInt8)(a:Nat)(b:UInt8)(r:List UInt8)(h:s.drop a=b::r):rY s a b=u6 b r:=by
 unfold rY u6;simp only[Ep,GB,h];cases r with
 |nil=>simp[M6]
 |cons c r=>
  have:decide (2≤((b::c::r).length:Int))=true:=by simp only[List.length_cons,decide_eq_true_eq];omega
  rw[this,Bool.true_and];simp[M6]
theorem Es(p:UInt8→Bool)(b:UInt8)(r:List UInt8)(h:p b=true):∃t,(b::r).takeWhile p=b::t:=⟨r.takeWhile p,by simp[h]⟩
theorem Et(p:UInt8→Bool):∀(l:List UInt8),∀x∈l.takeWhile p,p x=true
 |[],x,hx=>by simp at hx
 |b::r,x,hx=>by
  by_cases hb:p b=true
  ·rw[List.takeWhile_cons,if_pos hb]at hx
   rcases List.mem_cons.1 hx with rfl|hx
   ·exact hb
   ·exact Et p r x hx
  ·rw[List.takeWhile_cons,if_neg hb]at hx
   simp at hx
theorem Bz{b:UInt8}(h:my b=true):pG b=true:=by simp[pG,h]
theorem xf(b:UInt8)(r:List UInt8):u6 b r<+:b::r:=by
 unfold u6;cases r with
 |nil=>dsimp only;split<;>simp
 |cons c r=>
  dsimp only;split
  ·exact⟨r,rfl⟩
  ·split
   ·exact⟨c::r,rfl⟩
   ·exact List.nil_prefix
theorem r8{b:UInt8}{r:List UInt8}{kd n:Int}{t:List UInt8}(h:iA (b::r)= .ok (kd,t,n)):t<+:b::r∧t≠[]:=by
 rw[iA]at h;split at h
 ·rename_i hd
  split at h
  ·cases h
  ·split at h
   ·cases h
   ·cases h
    refine⟨List.takeWhile_prefix _, ?_⟩;obtain⟨u,hu⟩:=Es bJ b r hd;rw[hu];simp
 ·split at h
  ·rename_i hs
   obtain⟨u,hu⟩:=Es pG b r (Bz hs);split at h
   ·cases h
    exact⟨List.takeWhile_prefix _,by rw[hu];simp⟩
   ·split at h
    ·cases h
    ·cases h
     exact⟨List.takeWhile_prefix _,by rw[hu];simp⟩
  ·split at h
   ·cases h
   ·rename_i hne
    cases h;exact⟨xf b r,hne⟩
def xg(w:Bool)(s:List UInt8)(a v m:Nat)(l:List D):Except Int sP→Prop
 | .error k=>∃w' m',k≠0∧∀rest:ab,ax Pg 38 [fh] (al (dQ w s a v m l) rest) [dI k] (al (dQ w' s a v m' l) rest)
 | .ok (kd,t,n)=>∃w' m',∀rest:ab,ax Pg 38 [fh] (al (dQ w s a v m l) rest) [dI 0] (al (dQ w' s (a+t.length) (v+1) m' (l ++[nM kd a t n])) rest)
section
variable(w:Bool)(s:List UInt8)(a v m:Nat)(l:List D)
theorem GC(b:UInt8)(r:List UInt8)(ha:a<s.length)(hr:s.drop a=b::r)(hb:s[((a:Nat):Int).toNat]? =some b)(hlen:s.length≤100000)(hl:l.length+1≤549755813888)(hd:bJ b=true):xg w s a v m l (iA (b::r)):=by
 have hT:cD s a=(b::r).takeWhile bJ:=by rw[cD,Eo,hr]
 obtain⟨t,ht⟩:=Es bJ b r hd;have hall:=Et bJ (b::r);have hle:=HJ bJ (b::r);have hrl:(b::r).length=s.length-a:=by rw[←hr,List.length_drop]
 have htl:a+(cD s a).length≤s.length:=by rw[hT];omega
 have h0:(cD s a)[(0:Int).toNat]? =some b:=by rw[hT,ht];rfl
 have hbeh:∀c,s[a+(cD s a).length]? =some c→(b::r).drop ((b::r).takeWhile bJ).length=c::((b::r).drop ((b::r).takeWhile bJ).length).tail:=fun c hc=>by
  have:((b::r).drop ((b::r).takeWhile bJ).length).head? =some c:=by
   rw[hT,←hr]at hc;rw[List.head?_drop,←hr,List.getElem?_drop];exact hc
  cases hq:(b::r).drop ((b::r).takeWhile bJ).length with
  |nil=>rw[hq]at this;simp at this
  |cons x y=>rw[hq]at this;simp at this;subst this;rfl
 by_cases hv:9223372036854775808≤dv 0 ((b::r).takeWhile bJ)
 ·have e:iA (b::r)= .error 2:=by rw[iA,if_pos hd,if_pos hv]
  rw[e]
  obtain⟨c,hc⟩:∃c,decide (((a+(cD s a).length:Nat):Int)<(s.length:Int))=true→s[((a+(cD s a).length:Nat):Int).toNat]? =some c:=by
   by_cases hx:a+(cD s a).length<s.length
   ·exact⟨s[a+(cD s a).length],fun _=>by simp only[Int.toNat_natCast];exact List.getElem?_eq_getElem hx⟩
   ·exact⟨0,fun h=>by have:=of_decide_eq_true h;omega⟩
  refine⟨w,m,by decide,r7 w s a v m l b ha hb hd 2 (Em w s a v m l b c ha hlen h0 9223372036854775807 ?_ (by omega) hl hc)⟩;rw[hT];rw[ht]at hv hall ⊢;exact El b t hall (by rw[←ht];omega) hv
 ·have hp:aM Pg 93 [.str (cD s a), .int .i64 10, .int .i64 64] [.int .i64 (dv 0 (cD s a):Int), .nili]:=by
    rw[hT];rw[ht]at hv hall ⊢;exact Gw b t hall (by rw[←ht];omega) (by omega)
  obtain⟨c,x,hx,hxb,hlet⟩:∃c x,decide (((a+(cD s a).length:Nat):Int)<(s.length:Int))=x∧(x=true→s[((a+(cD s a).length:Nat):Int).toNat]? =some c)∧En ((b::r).drop ((b::r).takeWhile bJ).length)=(x&&(my c||(BI 65 c&&BJ c 90))):=by
   by_cases hx:a+(cD s a).length<s.length
   ·have hg:s[a+(cD s a).length]? =some s[a+(cD s a).length]:=List.getElem?_eq_getElem hx
    refine⟨s[a+(cD s a).length],true,by simp only[decide_eq_true_eq];omega,fun _=>by simp only[Int.toNat_natCast];exact hg, ?_⟩;rw[hbeh _ hg];rfl
   ·refine⟨0,false,by simp only[decide_eq_false_iff_not];omega,fun h=>(by cases h), ?_⟩
    have:(b::r).drop ((b::r).takeWhile bJ).length=[]:=List.drop_eq_nil_iff.2 (by rw[←hT];omega);rw[this];rfl
  have hz:decide (1<((cD s a).length:Int))=decide (1<((b::r).takeWhile bJ).length):=by rw[hT];exact decide_eq_decide.2 (by omega)
  have hy:((b.toNat:Int)==48)=(b.toNat==48):=by
   rw[Bool.eq_iff_iff];simp only[beq_iff_eq];omega
  by_cases hbad:za (decide (1<((b::r).takeWhile bJ).length)) (b.toNat==48) x (my c) (BI 65 c) (BJ c 90)=true
  ·have e:iA (b::r)= .error 4:=by
     rw[iA,if_pos hd,if_neg hv,if_pos];rw[hlet];exact hbad
   rw[e];exact⟨w,m,by decide,r7 w s a v m l b ha hb hd 4 (Gx w s a v m l b c ha hlen h0 _ hp (by omega) hl _ _ _ _ _ _ hz hy hx hxb rfl rfl rfl hbad)⟩
  ·have e:iA (b::r)= .ok (3,(b::r).takeWhile bJ,dv 0 ((b::r).takeWhile bJ)):=by
     rw[iA,if_pos hd,if_neg hv,if_neg];rw[hlet];exact hbad
   rw[e,←hT];exact⟨w,m,Bx w s a v m l b ha hb hd _ _ _ (ME w s a v m l b c ha hlen h0 _ hp (by omega) hl _ _ _ _ _ _ hz hy hx hxb rfl rfl rfl (by simpa only[Bool.not_eq_true]using hbad))⟩
theorem MG(b:UInt8)(r:List UInt8)(ha:a<s.length)(hr:s.drop a=b::r)(hlen:s.length≤100000)(hl:l.length+1≤549755813888):xg w s a v m l (iA (b::r)):=by
 have hb0:s[a]? =some b:=by
  have:(s.drop a)[0]? =some b:=by rw[hr];rfl
  rwa [List.getElem?_drop,Nat.add_zero]at this
 have hb:s[((a:Nat):Int).toNat]? =some b:=by simpa using hb0
 have hrl:(b::r).length=s.length-a:=by rw[←hr,List.length_drop]
 cases hd:bJ b with
 |true=>exact GC w s a v m l b r ha hr hb hlen hl hd
 |false=>
  cases hs:my b with
  |true=>
   have hT:oJ s a=(b::r).takeWhile pG:=by rw[oJ,Eo,hr]
   have hle:=HJ pG (b::r);have hta:a+(oJ s a).length≤1099511627776:=by rw[hT];omega
   have e:iA (b::r)=(if gc (oJ s a)then .ok (2,oJ s a,0)else if 12<(oJ s a).length then .error 2 else .ok (1,oJ s a,0)):=by
    rw[iA,if_neg (by simp[hd]),if_pos hs,hT]
   rw[e];cases hu:gc (oJ s a)with
   |true=>exact⟨_,_,D9 w s a v m l b ha hb hlen hd hs hu hl hta⟩
   |false=>
    rw[if_neg (by simp)];by_cases h12:12<(oJ s a).length
    ·rw[if_pos h12]
     exact⟨_,_,by decide,Eb w s a v m l b ha hb hlen hd hs hu (by simp only[decide_eq_true_eq];omega) hl hta⟩
    ·rw[if_neg h12]
     exact⟨_,_,Ea w s a v m l b ha hb hlen hd hs hu (by simp only[decide_eq_false_iff_not];omega) hl hta⟩
  |false=>
   have e:iA (b::r)=(if u6 b r=[]then .error 4 else .ok (4,u6 b r,0)):=by
    rw[iA,if_neg (by simp[hd]),if_neg (by simp[hs])]
   have hT:=Er s a b r hr;have hb':(rst s a)[(0:Int).toNat]? =some b:=by rw[Ep,hr];rfl
   have hle:=(xf b r).length_le;rw[e];by_cases h0:u6 b r=[]
   ·rw[if_pos h0]
    exact⟨_,_,by decide,Eg w s a v m l b ha hb hb' hd hs _ hT (by rw[h0];rfl) hl (by omega)⟩
   ·rw[if_neg h0]
    exact⟨_,_,Ef w s a v m l b ha hb hb' hd hs _ hT (by simpa using h0) hl (by omega)⟩
end
end Go.Avm
namespace Go.Avm
open Go.Proofs
def fI:Nat→List UInt8→Nat→Except (Nat×Int) (List (Nat×sP))
 |0,_,_=> .ok []
 |_+1,[],_=> .ok []
 |n+1,b::r,a=>match iA (b::r)with
  | .error k=> .error (a,k)
  | .ok t=>match fI n (((b::r).drop t.2.1.length).drop (cA false ((b::r).drop t.2.1.length))) (a+t.2.1.length+cA false ((b::r).drop t.2.1.length))with
   | .error e=> .error e
   | .ok ts=> .ok ((a,t)::ts)
def jR(s:List UInt8):Except (Nat×Int) (List (Nat×sP)):=fI (s.length+1) (s.drop (cA false s)) (cA false s)
def r9(x:Nat×sP):D:=nM x.2.1 x.1 x.2.2.1 x.2.2.2
def BA(s:List UInt8):List (Nat×AV):=[(0, .d (.str s)),(5,fh)]
section
variable(w w1:Bool)(s:List UInt8)(a v m:Nat)(l:List D)
noncomputable def xh(ha:a<s.length)(a1 v1 m1:Nat)(l1:List D)(k:Int)(z:Bool)(hz:(k !=0)=z)(hlen:s.length≤100000)(ha1:a1≤s.length)(hc:∀rest:ab,ax Pg 38 [fh] (al (dQ w s a v m l) rest) [dI k] (al (dQ w1 s a1 v1 m1 l1) rest)):Par Pg:=
 {hint:=fun f' i=>if f'=21 then (if i=21 then some (qL ha)else if i=27 then some (hB Pg _ z hz)else none)else none
  calls:=fun f' i _=>if f'=21 then (if i=25 then some ⟨38,[fh],dQ w s a v m l,[dI k],dQ w1 s a1 v1 m1 l1,gi hc⟩else if i=23 then some (nO w1 s a1 v1 l1 hlen ha1)else none)else none}
theorem Eu(ha:a<s.length)(a1 v1 m1:Nat)(l1:List D)(hlen:s.length≤100000)(ha1:a1≤s.length)(hc:∀rest:ab,ax Pg 38 [fh] (al (dQ w s a v m l) rest) [dI 0] (al (dQ w1 s a1 v1 m1 l1) rest))(rest:ab)(X:bX)(hP:X.P=Pg)(hN:X.N=39):
    AW X (lO 21 5) ⟨an (BA s),al (dQ w s a v m l) rest⟩ fun e' S'=>e'= .normal∧Weak X S' ⟨an (BA s),al (dQ w1 s (aX s a1) v1 m1 l1) rest⟩:=by
 cases w with
 |false=>cases w1 with
  |false=>exact so aA named (xh false false s a v m l ha a1 v1 m1 l1 0 false rfl hlen ha1 hc) 1000 21 300000 39 (by kernel_rfl) X hP hN
  |true=>exact so aA named (xh false true s a v m l ha a1 v1 m1 l1 0 false rfl hlen ha1 hc) 1000 21 300000 39 (by kernel_rfl) X hP hN
 |true=>cases w1 with
  |false=>exact so aA named (xh true false s a v m l ha a1 v1 m1 l1 0 false rfl hlen ha1 hc) 1000 21 300000 39 (by kernel_rfl) X hP hN
  |true=>exact so aA named (xh true true s a v m l ha a1 v1 m1 l1 0 false rfl hlen ha1 hc) 1000 21 300000 39 (by kernel_rfl) X hP hN
theorem GD(ha:a<s.length)(m1:Nat)(k:Int)(hk:k≠0)(hlen:s.length≤100000)(hc:∀rest:ab,ax Pg 38 [fh] (al (dQ w s a v m l) rest) [dI k] (al (dQ w1 s a v m1 l) rest))(rest:ab)(X:bX)(hP:X.P=Pg)(hN:X.N=39):
    AW X (lO 21 5) ⟨an (BA s),al (dQ w s a v m l) rest⟩ fun e' S'=>e'= .ret∧Weak X S' ⟨an [(2, .nils),(3,dN a),(4,dI k)],al (dQ w1 s a v m1 l) rest⟩:=by
 cases w with
 |false=>cases w1 with
  |false=>exact so aA named (xh false false s a v m l ha a v m1 l k true (by simpa using hk) hlen (by omega) hc) 1000 21 300000 39 (by kernel_rfl) X hP hN
  |true=>exact so aA named (xh false true s a v m l ha a v m1 l k true (by simpa using hk) hlen (by omega) hc) 1000 21 300000 39 (by kernel_rfl) X hP hN
 |true=>cases w1 with
  |false=>exact so aA named (xh true false s a v m l ha a v m1 l k true (by simpa using hk) hlen (by omega) hc) 1000 21 300000 39 (by kernel_rfl) X hP hN
  |true=>exact so aA named (xh true true s a v m l ha a v m1 l k true (by simpa using hk) hlen (by omega) hc) 1000 21 300000 39 (by kernel_rfl) X hP hN
theorem Ev(rest:ab)(X:bX)(hP:X.P=Pg)(hN:X.N=39):
    AW X (lO 21 5) ⟨an (BA s),al (dQ w s s.length v m l) rest⟩ fun e' S'=>e'= .exit 0∧Weak X S' ⟨an (BA s),al (dQ w s s.length v m l) rest⟩:=by
 cases w with
 |false=>exact so aA named {hint:=fun f' k=>if f'=21 then (if k=21 then some (qG s.length)else none)else none} 1000 21 300000 39 (by kernel_rfl) X hP hN
 |true=>exact so aA named {hint:=fun f' k=>if f'=21 then (if k=21 then some (qG s.length)else none)else none} 1000 21 300000 39 (by kernel_rfl) X hP hN
end
end Go.Avm
namespace Go.Avm
open Go.Proofs
def xj(w:Bool)(s:List UInt8)(a v m:Nat)(l:List D):Except (Nat×Int) (List (Nat×sP))→Prop
 | .error (p,k)=>∃w' v' m' l',RL 39 (lO 21 5) (BA s) (dQ w s a v m l) .ret [(2, .nils),(3,dN p),(4,dI k)] (dQ w' s p v' m' l')
 | .ok ts=>(l ++ts.map r9).length≤s.length∧∃w' v' m',RL 39 (lO 21 5) (BA s) (dQ w s a v m l) (.exit 0) (BA s) (dQ w' s s.length v' m' (l ++ts.map r9))
theorem xl(s:List UInt8)(hlen:s.length≤100000):∀(n:Nat)(w:Bool)(a v m:Nat)(l:List D),a≤s.length→s.length<n+a→l.length≤a→xj w s a v m l (fI n (s.drop a) a)
 |0,w,a,v,m,l,h1,h2,_=>by omega
 |n+1,w,a,v,m,l,h1,h2,h3=>by
  cases hr:s.drop a with
  |nil=>
   have:a=s.length:=by have:=List.drop_eq_nil_iff.1 hr;omega
   subst this;refine⟨by simpa [fI]using h3,w,v,m,fun rest X hP hN=> ?_⟩;simp only[fI,List.map_nil,List.append_nil];exact yI (Ev w s v m l rest X hP hN) (by simp)
  |cons b r=>
   have ha:a<s.length:=by
    rcases Nat.lt_or_ge a s.length with h|h
    ·exact h
    ·rw[List.drop_eq_nil_iff.2 h]at hr;cases hr
   have hn:=MG w s a v m l b r ha hr hlen (by omega);rw[fI];cases ht:iA (b::r)with
   |error k=>
    rw[ht]at hn;obtain⟨w1,m1,hk,hc⟩:=hn;exact⟨w1,v,m1,l,fun rest X hP hN=>yI (GD w w1 s a v m l ha m1 k hk hlen hc rest X hP hN) (by simp)⟩
   |ok t=>
    obtain⟨kd,t,k⟩:=t;rw[ht]at hn;obtain⟨w1,m1,hc⟩:=hn;obtain⟨hpre,hne⟩:=r8 ht;have hrl:(b::r).length=s.length-a:=by rw[←hr,List.length_drop]
    have htl:=hpre.length_le;have ht0:0<t.length:=List.length_pos_iff.2 hne;have ha1:a+t.length≤s.length:=by omega
    have hd1:s.drop (a+t.length)=(b::r).drop t.length:=by rw[←hr,List.drop_drop]
    have hb:aX s (a+t.length)=a+t.length+cA false ((b::r).drop t.length):=by rw[aX,hd1]
    have hd2:s.drop (aX s (a+t.length))=((b::r).drop t.length).drop (cA false ((b::r).drop t.length)):=by rw[hb,←List.drop_drop,hd1]
    have hbl:=mz s (a+t.length) ha1;have ih:=xl s hlen n w1 (aX s (a+t.length)) (v+1) m1 (l ++[nM kd a t k]) hbl.2 (by omega) (by rw[List.length_append,List.length_singleton];omega);rw[hd2,hb]at ih
    show xj w s a v m l (match fI n (((b::r).drop t.length).drop (cA false ((b::r).drop t.length))) (a+t.length+cA false ((b::r).drop t.length))with
     | .error e=> .error e
     | .ok ts=> .ok ((a,(kd,t,k))::ts))
    have hstep:=fun rest X hP hN=>Eu w w1 s a v m l ha (a+t.length) (v+1) m1 (l ++[nM kd a t k]) hlen ha1 hc rest X hP hN
    rw[hb]at hstep;cases hs:fI n (((b::r).drop t.length).drop (cA false ((b::r).drop t.length))) (a+t.length+cA false ((b::r).drop t.length))with
    |error e=>
     obtain⟨p,k'⟩:=e;rw[hs]at ih;obtain⟨w',v',m',l',hh⟩:=ih;exact⟨w',v',m',l',fun rest X hP hN=>yH (hstep rest X hP hN) (hh rest X hP hN)⟩
    |ok ts=>
     rw[hs]at ih;obtain⟨hle,w',v',m',hh⟩:=ih;have e:l ++[nM kd a t k] ++ts.map r9=l ++((a,(kd,t,k))::ts).map r9:=by simp[r9]
     rw[e]at hle hh;exact⟨hle,w',v',m',fun rest X hP hN=>yH (hstep rest X hP hN) (hh rest X hP hN)⟩
section
variable(s:List UInt8)
noncomputable def xm(h:Option (dJ Pg))(C:Option (eY Pg))(D:Option (eY Pg))(z:Bool)(hz:decide (20000<(s.length:Int))=z):Par Pg:=
 {hint:=fun f' k=>if f'=21 then (if k=9 then some (hB Pg _ z hz)else none)else none
  nils:=fun f' r=>if f'=21 then (if r=4 then some {k:=324,i:=6,K:=1,sz:=4}else none)else none
  calls:=fun f' k _=>if f'=21 then (if k=14 then C else if k=34 then D else none)else none
  loops:=fun f' r=>if f'=21 then (if r=5 then h else none)else none}
theorem Ew(h:decide (20000<(s.length:Int))=true):aM Pg 21 [.str s] [.ro [], .int .i64 0, .int .i64 2]:=
 bi aA named (xm s none none none true h) 1000 (by kernel_rfl)
noncomputable def GE(w:Bool)(a v m:Nat)(l:List D)(e:aB)(l':List (Nat×AV))(hp:List (Nat×aK))(h:RL 39 (lO 21 5) (BA s) (dQ w s a v m l) e l' hp):dJ Pg:=
 ⟨39,bV Pg 21 5,BA s,fun _=>dQ w s a v m l,e,l',fun _=>hp,fun rest X hP hN=>(h rest X hP hN).aw⟩
theorem GF(h:decide (20000<(s.length:Int))=false)(hlen:s.length≤100000)(p:Nat)(k:Int)(w':Bool)(v' m':Nat)(l':List D)
    (hl:RL 39 (lO 21 5) (BA s) (dQ false s (aX s 0) 0 0 []) .ret [(2, .nils),(3,dN p),(4,dI k)] (dQ w' s p v' m' l')):
    aM Pg 21 [.str s] [.ro [], .int .i64 (p:Int), .int .i64 k]:=by
 cases w' with
 |false=>exact bi aA named (xm s (some (GE s false (aX s 0) 0 0 [] _ _ _ hl)) (some (nO false s 0 0 [] hlen (Nat.zero_le _))) none false h) 1000 (by kernel_rfl)
 |true=>exact bi aA named (xm s (some (GE s false (aX s 0) 0 0 [] _ _ _ hl)) (some (nO false s 0 0 [] hlen (Nat.zero_le _))) none false h) 1000 (by kernel_rfl)
theorem Ey(h:decide (20000<(s.length:Int))=false)(hlen:s.length≤100000)(w':Bool)(v' m':Nat)(l':List D)(hl':l'.length+1≤549755813888)
    (hl:RL 39 (lO 21 5) (BA s) (dQ false s (aX s 0) 0 0 []) (.exit 0) (BA s) (dQ w' s s.length v' m' l')):
    aM Pg 21 [.str s] [.ro (l' ++[nM 0 s.length [] 0]), .int .i64 0, .int .i64 0]:=by
 cases w' with
 |false=>exact bi aA named (xm s (some (GE s false (aX s 0) 0 0 [] _ _ _ hl)) (some (nO false s 0 0 [] hlen (Nat.zero_le _))) (some (tM false s s.length v' m' l' 0 0 [] hl' (by simp only[List.length_nil];omega))) false h) 1000 (by kernel_rfl)
 |true=>exact bi aA named (xm s (some (GE s false (aX s 0) 0 0 [] _ _ _ hl)) (some (nO false s 0 0 [] hlen (Nat.zero_le _))) (some (tM true s s.length v' m' l' 0 0 [] hl' (by simp only[List.length_nil];omega))) false h) 1000 (by kernel_rfl)
end
def nQ(s:List UInt8):List D×Int×Int:=
 if 20000<s.length then ([],0,2)else match jR s with
  | .error (p,k)=>([],p,k)
  | .ok ts=>(ts.map r9 ++[nM 0 s.length [] 0],0,0)
theorem MH(s:List UInt8):aM Pg 21 [.str s] [.ro (nQ s).1, .int .i64 (nQ s).2.1, .int .i64 (nQ s).2.2]:=by
 unfold nQ;by_cases h:20000<s.length
 ·rw[if_pos h]
  exact Ew s (by simp only[decide_eq_true_eq];omega)
 ·rw[if_neg h]
  have hz:decide (20000<(s.length:Int))=false:=by simp only[decide_eq_false_iff_not];omega
  have hb:=mz s 0 (Nat.zero_le _);have hl:=xl s (by omega) (s.length+1) false (aX s 0) 0 0 [] hb.2 (by omega) (Nat.zero_le _)
  have he:fI (s.length+1) (s.drop (aX s 0)) (aX s 0)=jR s:=by
   unfold jR aX;rw[List.drop_zero,Nat.zero_add]
  rw[he]at hl;cases hs:jR s with
  |error e=>
   obtain⟨p,k⟩:=e;rw[hs]at hl;obtain⟨w',v',m',l',hh⟩:=hl;exact GF s hz (by omega) p k w' v' m' l' hh
  |ok ts=>
   rw[hs]at hl;obtain⟨hle,w',v',m',hh⟩:=hl;exact Ey s hz (by omega) w' v' m' _ (by rw[List.nil_append]at hle;omega) hh
end Go.Avm
namespace Go.Avm
open Go.Proofs
theorem jK(n:Nat)(b:UInt8)(r:List UInt8)(a:Nat):fI (n+1) (b::r) a=match iA (b::r)with
    | .error k=> .error (a,k)
    | .ok t=>match fI n (((b::r).drop t.2.1.length).drop (cA false ((b::r).drop t.2.1.length))) (a+t.2.1.length+cA false ((b::r).drop t.2.1.length))with
     | .error e=> .error e
     | .ok ts=> .ok ((a,t)::ts):=rfl
theorem Ez{r:List UInt8}{k:Int}(h:iA r= .error k):k≠0:=by
 cases r with
 |nil=>simp only[iA,Except.error.injEq]at h;omega
 |cons b r=>
  rw[iA]at h;repeat' split at h
  all_goals first
   |(cases h;done)
   |(simp only[Except.error.injEq]at h;omega)
theorem oN:∀(n:Nat)(r:List UInt8)(a p:Nat)(k:Int),fI n r a= .error (p,k)→k≠0
 |0,r,a,p,k,h=>by cases h
 |n+1,[],a,p,k,h=>by cases h
 |n+1,b::r,a,p,k,h=>by
  rw[jK]at h;cases ht:iA (b::r)with
  |error k'=>
   rw[ht]at h;simp only[Except.error.injEq,Prod.mk.injEq]at h;obtain⟨_,rfl⟩:=h;exact Ez ht
  |ok t=>
   rw[ht]at h;dsimp only at h;split at h
   ·rename_i e he
    cases h;exact oN n _ _ p k he
   ·cases h
theorem tP:∀(n:Nat)(r:List UInt8)(a:Nat)(ts:List (Nat×sP)),fI n r a= .ok ts→ts.length≤n
 |0,r,a,ts,h=>by cases h;exact Nat.le_refl _
 |n+1,[],a,ts,h=>by cases h;exact Nat.zero_le _
 |n+1,b::r,a,ts,h=>by
  rw[jK]at h;cases ht:iA (b::r)with
  |error k'=>rw[ht]at h;cases h
  |ok t=>
   rw[ht]at h;dsimp only at h;split at h
   ·cases h
   ·rename_i ts1 hs
    cases h;have:=tP n _ _ ts1 hs;simp only[List.length_cons];omega
theorem GG(l:List T)(e:T)(he:e.k=0)(hl:l.length+1<1000000):dc (l ++[e]):=
 ⟨by simpa using hl,fun i x hx hk=>by
  rw[List.length_append,List.length_singleton];rcases Nat.lt_or_ge i l.length with h|h
  ·omega
  ·rw[List.getElem?_append_right h]at hx
   cases hi:i-l.length with
   |zero=>
    rw[hi]at hx;simp only[List.getElem?_cons_zero,Option.some.injEq]at hx;rw[←hx,he]at hk;exact absurd rfl hk
   |succ j=>rw[hi]at hx;simp at hx⟩
def P2(x:Nat×sP):T:=⟨x.2.1,(x.1:Int),x.2.2.1,x.2.2.2⟩
def cR(ts:List (Nat×sP))(n:Nat):List T:=ts.map P2 ++[⟨0,(n:Int),[],0⟩]
theorem EA(ts:List (Nat×sP))(n:Nat):rx (cR ts n)= .ro (ts.map r9 ++[nM 0 n [] 0]):=by
 simp only[rx,cR,List.map_append,List.map_map];rfl
theorem tQ{ts:List (Nat×sP)}{n:Nat}(h:ts.length+1<1000000):dc (cR ts n):=GG _ _ rfl (by simpa using h)
theorem gd(ts:List (Nat×sP))(n:Nat):0<(cR ts n).length:=by simp[cR]
def zb(ts:List (Nat×sP))(n:Nat):Res (List Fn):=gF (cR ts n) (fuel (cR ts n))
def ip(s:List UInt8):List D:=
 if 20000<s.length then [.agg [.ro []], .int .i64 0, .int .i64 2]else match jR s with
  | .error (p,k)=>[.agg [.ro []], .int .i64 (p:Int), .int .i64 k]
  | .ok ts=>D1 (zb ts s.length)
theorem tR{s:List UInt8}{ts:List (Nat×sP)}(h:jR s= .ok ts):ts.length≤s.length+1:=tP _ _ _ _ h
theorem BB(s:List UInt8):aM Pg 12 [.str s] (ip s):=by
 have hs:=MH s;unfold ip;unfold nQ at hs;by_cases h:20000<s.length
 ·rw[if_pos h]at hs ⊢
  exact DZ (by decide) hs
 ·rw[if_neg h]at hs ⊢
  cases he:jR s with
  |error e=>
   obtain⟨p,k⟩:=e;rw[he]at hs;have hk:=oN _ _ _ _ _ he;exact DZ (by simpa using hk) hs
  |ok ts=>
   rw[he]at hs;have hl:=tR he;have hok:=tQ (ts:=ts) (n:=s.length) (by omega);exact JO hok (gd _ _) (by rw[EA];exact hs) _ (Ab hok (gd _ _))
end Go.Avm
namespace Go.Avm
open Go.Proofs
inductive fM:List bt→Int→Int→Int→Int→Prop
 |nil (n a:Int):fM [] n a n a
 |cons {k id:Int} {nm:List UInt8} {ty v p:Int} {es:List Ex} {bd el r:List bt} {a n1 a1 n2 a2 n3 a3:Int} (h:a<p) (lb:bd.length<1000000) (le:el.length<1000000) (hb:fM bd (fg (id+1)) p n1 a1) (he:fM el n1 a1 n2 a2) (hr:fM r n2 a2 n3 a3):fM (.mk k id nm ty v p es bd el::r) id a n3 a3
inductive sQ:List Fn→Int→Int→Prop
 |nil (n a:Int):sQ [] n a
 |cons {nm:List UInt8} {ps:List Pm} {k:Int} {bd:List bt} {p:Int} {r:List Fn} {n a n1 a1:Int} (lb:bd.length<1000000) (hb:fM bd n a n1 a1) (hr:sQ r n1 a1):sQ (⟨nm,ps,k,bd,p⟩::r) n a
end Go.Avm
namespace Go.Avm
open Go.Proofs
mutual
def vJ:Ex→Nat
 | .mk _ _ _ _ _ xs=>1+dM xs
def dM:List Ex→Nat
 |[]=>0
 |x::l=>vJ x+dM l
end
mutual
def sd:bt→Nat
 | .mk _ _ _ _ _ _ es bd el=>1+dM es+cq bd+cq el
def cq:List bt→Nat
 |[]=>0
 |x::l=>sd x+cq l
end
def GH(x:Fn):Nat:=1+x.ps.length+cq x.bd
def gu:List Fn→Nat
 |[]=>0
 |x::l=>GH x+gu l
theorem GI:∀x,1≤sd x
 | .mk _ _ _ _ _ _ _ _ _=>by simp only[sd];omega
theorem xo:∀l,l.length≤cq l
 |[]=>Nat.le_refl _
 |x::l=>by have:=xo l;have:=GI x;simp only[cq,List.length_cons];omega
theorem se:∀l,l.length≤gu l
 |[]=>Nat.le_refl _
 |x::l=>by have:=se l;simp only[gu,GH,List.length_cons];omega
theorem xq:∀{l:List bt}{i:Nat}{x:bt},l[i]? =some x→sd x≤cq l
 |[],_,_,h=>by simp at h
 |y::l,0,x,h=>by simp at h;subst h;simp only[cq];omega
 |y::l,i+1,x,h=>by simp at h;have:=xq h;simp only[cq];omega
theorem xt:∀{l:List Fn}{i:Nat}{x:Fn},l[i]? =some x→GH x≤gu l
 |[],_,_,h=>by simp at h
 |y::l,0,x,h=>by simp at h;subst h;simp only[gu];omega
 |y::l,i+1,x,h=>by simp at h;have:=xt h;simp only[gu];omega
end Go.Avm
namespace Go.Avm
open Go.Proofs
theorem TR.bind_ne{α β:Type}{r:TR α}{f:α→TR β}(h:r≠ .out)(hf:∀a,f a≠ .out):r.bind f≠ .out:=by
 cases r with
 |ok a=>exact hf a
 |bad p e=>exact fun h=>by cases h
 |out=>exact absurd rfl h
theorem eM{α:Type}{b:Bool}{x y:TR α}(hx:x≠ .out)(hy:y≠ .out):(bif b then x else y)≠ .out:=by cases b<;>assumption
theorem fQ{α:Type}{a:α}:TR.ok a≠ .out:=fun h=>by cases h
theorem eN{α:Type}{p e:Int}:(TR.bad p e:TR α)≠ .out:=fun h=>by cases h
theorem u7(E:TE)(nm:List UInt8)(p:Int):mt E nm p≠ .out:=by
 unfold mt;split
 ·exact fQ
 ·exact eN
theorem u9(E:TE)(nm:List UInt8)(p:Int):rn E nm p≠ .out:=TR.bind_ne (u7 _ _ _) fun _=>eM fQ eN
mutual
theorem Aj(E:TE):∀x:Ex,Ha x=true→dV E x≠ .out
 | .mk k o nm n p xs,h=>by
  simp only[Ha,Bool.and_eq_true]at h;obtain⟨hk,hxs⟩:=h;have hN:=fun ts eq hl he=>nR E xs ts eq hxs hl he
  unfold dV;refine eM fQ ?_;refine eM (TR.bind_ne (u7 _ _ _) fun _=>eM fQ eN) ?_;cases h4:(k==4)with
  |true=>
   have e:=eq_of_beq h4;subst e;have:xs.length=1:=by simpa using hk
   exact TR.bind_ne (u9 _ _ _) fun _=>TR.bind_ne (hN [[1]] false (by simp only[List.length_cons,List.length_nil];omega) (fun h=>by cases h)) fun _=>fQ
  |false=>
   simp only[cond_false];refine eM (TR.bind_ne (u9 _ _ _) fun _=>fQ) ?_;refine eM ?_ ?_
   ·split
    ·exact eN
    ·rename_i j f hf
     cases hl:(f.ps.length==xs.length)with
     |false=>exact eN
     |true=>exact TR.bind_ne (hN _ false (by rw[List.length_map,eq_of_beq hl];exact Nat.le_refl _) (fun h=>by cases h)) fun _=>fQ
   ·cases h8:(k==8)with
    |true=>
     have e:=eq_of_beq h8;subst e;have:xs.length=1:=by simpa using hk
     simp only[cond_true];exact eM (TR.bind_ne (hN [[2]] false (by simp only[List.length_cons,List.length_nil];omega) (fun h=>by cases h)) fun _=>fQ) (TR.bind_ne (hN [[1]] false (by simp only[List.length_cons,List.length_nil];omega) (fun h=>by cases h)) fun _=>fQ)
    |false=>
     simp only[cond_false];cases h9:(k==9)with
     |false=>exact fQ
     |true=>
      have e:=eq_of_beq h9;subst e;have hx:xs.length=2:=by simpa using hk
      simp only[cond_true];have:decide (xs.length<2)=false:=by rw[hx];rfl
      rw[this];simp only[cond_false];refine eM (TR.bind_ne (hN [[2],[2]] false (by simp only[List.length_cons,List.length_nil];omega) (fun h=>by cases h)) fun _=>fQ) (eM (TR.bind_ne (hN [[1,2],[]] true (by simp only[List.length_cons,List.length_nil];omega) (fun _=>by omega)) fun _=>fQ) (TR.bind_ne (hN [[1],[1]] false (by simp only[List.length_cons,List.length_nil];omega) (fun h=>by cases h)) fun _=>fQ))
theorem nR(E:TE):∀(xs:List Ex)(ts:List (List Int))(eq:Bool),eJ xs=true→ts.length≤xs.length→(eq=true→2≤xs.length)→aG E xs ts eq≠ .out
 |[],[],_,_,_,_=>by unfold aG;exact fQ
 |_::_,[],_,_,_,_=>by unfold aG;exact fQ
 |[],_::_,_,_,h,_=>by simp at h
 |x::xs,ts::r,eq,h,hl,he=>by
  simp only[eJ,Bool.and_eq_true]at h;simp only[List.length_cons]at hl he;unfold aG;refine TR.bind_ne (Aj E x h.1) fun t=>eM ?_ eN
  refine nR E xs _ false h.2 ?_ (fun h=>by cases h);cases eq with
  |true=>have:=he rfl;simp only[cond_true,List.length_cons,List.length_nil];omega
  |false=>simp only[cond_false];omega
end
def dy(k:Int)(n b e:Nat):Bool:=
 (bif k==1 then decide (n≤1)else bif k==2 then n==1 else bif k==3 then n==2 else bif k==4 then n==1 else bif k==5 then n==1 else bif k==6 then decide (n≤1)else bif k==7 then n==1 else k==8&&n==1)&&((k==4||k==5||b==0)&&(k==4||e==0))
mutual
def iq:bt→Bool
 | .mk k _ nm _ _ _ es bd el=>decide (nm.length≤1000000)&&(eJ es&&(dy k es.length bd.length el.length&&(dL bd&&dL el)))
def dL:List bt→Bool
 |[]=>true
 |s::r=>iq s&&dL r
end
def NO(n:Int)(b:Nat):TR CS→Prop
 | .ok c=>(c.pts.length:Int)=n∧c.pts.length≤b
 | .bad _ _=>True
 | .out=>False
theorem NO.bindU{α:Type}{n:Int}{b:Nat}{r:TR α}{f:α→TR CS}(h:r≠ .out)(hf:∀a,NO n b (f a)):NO n b (r.bind f):=by
 cases r with
 |ok a=>exact hf a
 |bad p e=>trivial
 |out=>exact absurd rfl h
theorem NO.bif{n:Int}{b:Nat}{c:Bool}{x y:TR CS}(hx:NO n b x)(hy:NO n b y):NO n b (bif c then x else y):=by cases c<;>assumption
theorem JV{fs:List Fn}{deep:Int}{nm:List UInt8}{id ty n p:Int}{es:List Ex}{c:CS}{q:Int}{b:Nat}(hn:nm.length≤1000000)(he:eJ es=true)(hl:es.length≤1)(h:(c.pts.length:Int)=q∧c.pts.length≤b):NO q b (sL fs deep nm id ty n p es c):=by
 unfold sL;have h1:decide (1000000≤es.length)=false:=decide_eq_false (by omega);have h2:decide (1000000<nm.length)=false:=decide_eq_false (by omega);rw[h1,h2];simp only[cond_false];refine NO.bindU (nR _ _ _ _ he (by rw[List.length_map];exact Nat.le_refl _) (fun h=>by cases h)) fun _=> ?_
 refine NO.bif trivial (NO.bif trivial (NO.bif trivial (NO.bif trivial ?_)));cases (ty==3|| !es.isEmpty)<;>exact h
theorem GJ{fs:List Fn}{fn:Nat}{p:Int}{es:List Ex}{c:CS}{q:Int}{b:Nat}(hf:fn<fs.length)(he:eJ es=true)(h:(c.pts.length:Int)=q∧c.pts.length≤b):NO q b (kM fs fn p es c):=by
 unfold kM;rw[List.getElem?_eq_getElem hf];dsimp only;cases es with
 |nil=>exact NO.bif h trivial
 |cons x r=>
  simp only[eJ,Bool.and_eq_true]at he;exact NO.bif (NO.bindU (Aj _ x he.1) fun _=>trivial) (NO.bindU (TR.bind_ne (Aj _ x he.1) fun _=>eM fQ eN) fun _=>h)
theorem kX{n a n' a':Int}(h:fM [] n a n' a'):n=n':=by cases h;rfl
mutual
theorem GK(fs:List Fn)(fn:Nat)(hf:fn<fs.length):∀(x:bt)(deep:Int)(c:CS)(id a n' a':Int),iq x=true→id=(c.pts.length:Int)→fM [x] id a n' a'→c.pts.length+sd x<900000000→NO n' (c.pts.length+sd x) (jQ fs fn deep x c)
 | .mk k id nm ty n p es bd el,deep,c,id',a,n',a',hg,hid,hN,hb=>by
  simp only[iq,Bool.and_eq_true]at hg;obtain⟨hnm,he,har,hbd,hel⟩:=hg;have hnm:=of_decide_eq_true hnm;cases hN with
  | @cons _ _ _ _ _ _ _ _ _ _ _ n1 a1 n2 a2 _ _ hp lb le hNb D8 hNr=>
  have hn:=kX hNr;subst hn;simp only[sd]at hb ⊢
  have hw:fg (id+1)=((c.pts.length+1:Nat):Int):=by
   rw[hid];have:=Int.toNat_of_nonneg (show(0:Int)≤(c.pts.length:Int)+1 by omega);exact(show fg ((c.pts.length:Int)+1)=(c.pts.length:Int)+1 from IntWalk.i64_in _ (by omega)).trans (by omega)
  rw[hw]at hNb;unfold jQ
  have h0:(id==(c.pts.length:Int)&&decide (c.pts.length<900000000))=true:=by
   rw[hid];simp only[beq_self_eq_true,Bool.true_and,decide_eq_true_eq];omega
  rw[h0];simp only[cond_true];have hl1:(c.pts ++[c.pt fn]).length=c.pts.length+1:=by simp
  have flat:bd=[]→el=[]→((c.pts ++[c.pt fn]).length:Int)=n2∧(c.pts ++[c.pt fn]).length≤c.pts.length+(1+dM es+cq bd+cq el):=by
   rintro rfl rfl;have e1:=kX hNb;have e2:=kX D8;rw[hl1];simp only[cq];omega
  have hw1:∀ts:List (List Int),ts.length≤es.length→aG (CS.te fs {c with pts:=c.pts ++[c.pt fn]}) es ts false≠ .out:=fun ts h=>nR _ _ _ _ he h fun h=>by cases h
  cases k1:(k==1)with
  |true=>
   have e:=eq_of_beq k1;subst e;have:es.length≤1∧bd=[]∧el=[]:=by simpa [dy]using har
   exact JV hnm he this.1 (flat this.2.1 this.2.2)
  |false=>
  simp only[cond_false];cases k2:(k==2)with
  |true=>
   have e:=eq_of_beq k2;subst e;have:es.length=1∧bd=[]∧el=[]:=by simpa [dy]using har
   exact NO.bindU (u7 _ _ _) fun r=>NO.bif trivial (NO.bindU (hw1 _ (by simp[this.1])) fun _=>flat this.2.1 this.2.2)
  |false=>
  simp only[cond_false];cases k3:(k==3)with
  |true=>
   have e:=eq_of_beq k3;subst e;have:es.length=2∧bd=[]∧el=[]:=by simpa [dy]using har
   exact NO.bindU (u9 _ _ _) fun r=>NO.bindU (hw1 _ (by simp[this.1])) fun _=>flat this.2.1 this.2.2
  |false=>
  simp only[cond_false];cases k4:(k==4)with
  |true=>
   have e:=eq_of_beq k4;subst e;have:es.length=1:=by simpa [dy]using har
   refine NO.bindU (hw1 _ (by simp[this])) fun _=> ?_
   have gb:=kY fs fn hf bd (fg (deep+1)) false {c with pts:=c.pts ++[c.pt fn]} _ _ _ _ hbd rfl (by rw[hl1];exact hNb) (by rw[hl1];omega);revert gb;cases bF fs fn (fg (deep+1)) false bd {c with pts:=c.pts ++[c.pt fn]}with
   |out=>exact fun h=>h.elim
   |bad p e=>exact fun _=>trivial
   |ok c2=>
    rintro⟨g1,g2⟩;simp only[TR.bind];rw[hl1]at g2;have ge:=kY fs fn hf el (fg (deep+1)) false {c2 with seen:=c.seen,sure:=c.sure} _ _ _ _ hel rfl (by rw[g1];exact D8) (by show c2.pts.length+cq el<_;omega);revert ge;cases bF fs fn (fg (deep+1)) false el {c2 with seen:=c.seen,sure:=c.sure}with
    |out=>exact fun h=>h.elim
    |bad p e=>exact fun _=>trivial
    |ok c3=>
     rintro⟨g3,g4⟩;have g4:c3.pts.length≤c2.pts.length+cq el:=g4;refine⟨g3, ?_⟩;show c3.pts.length≤_;omega
  |false=>
  simp only[cond_false];cases k5:(k==5)with
  |true=>
   have e:=eq_of_beq k5;subst e;have:es.length=1∧el=[]:=by simpa [dy]using har
   obtain⟨ha,rfl⟩:=this;have e2:=kX D8;subst e2;refine NO.bindU (hw1 _ (by simp[ha])) fun _=> ?_
   have gb:=kY fs fn hf bd (fg (deep+1)) false {c with pts:=c.pts ++[c.pt fn]} _ _ _ _ hbd rfl (by rw[hl1];exact hNb) (by rw[hl1];omega);revert gb;cases bF fs fn (fg (deep+1)) false bd {c with pts:=c.pts ++[c.pt fn]}with
   |out=>exact fun h=>h.elim
   |bad p e=>exact fun _=>trivial
   |ok c2=>
    rintro⟨g1,g2⟩;rw[hl1]at g2;refine⟨g1, ?_⟩;show c2.pts.length≤_;omega
  |false=>
  simp only[cond_false]
  have hfl:bd=[]∧el=[]:=by
   simp only[dy,k4,k5,Bool.and_eq_true,Bool.or_eq_true,Bool.false_or,Bool.false_eq_true,false_or,beq_iff_eq,List.length_eq_zero_iff]at har;exact⟨har.2.1,har.2.2⟩
  have fl:=flat hfl.1 hfl.2;refine NO.bif (GJ hf he fl) ?_
  have hes:k≠6→es.length=1:=fun h6=>by
   have h6:(k==6)=false:=by simpa using h6
   have:=har;simp only[dy,k1,k2,k3,k4,k5,h6,cond_false,Bool.and_eq_true]at this;cases h7:(k==7)with
   |true=>rw[h7]at this;simpa using this.1
   |false=>rw[h7]at this;simpa using (show _∧_ by simpa using this.1).2
  cases h7:(k==7)with
  |true=>
   have:=hes (by rw[eq_of_beq h7];decide);exact NO.bindU (hw1 _ (by simp[this])) fun _=>fl
  |false=>
  simp only[cond_false];cases h8:(k==8)with
  |false=>exact fl
  |true=>
   have:=hes (by rw[eq_of_beq h8];decide);simp only[cond_true];cases es with
   |nil=>simp at this
   |cons x r=>
    simp only[eJ,Bool.and_eq_true]at he;exact NO.bindU (Aj _ x he.1) fun _=>fl
theorem kY(fs:List Fn)(fn:Nat)(hf:fn<fs.length):∀(l:List bt)(deep:Int)(prev:Bool)(c:CS)(id a n' a':Int),dL l=true→id=(c.pts.length:Int)→fM l id a n' a'→c.pts.length+cq l<900000000→NO n' (c.pts.length+cq l) (bF fs fn deep prev l c)
 |[],deep,prev,c,id,a,n',a',_,hid,hN,_=>by
  unfold bF;exact⟨hid.symm.trans (kX hN),Nat.le_refl _⟩
 |x::r,deep,prev,c,id,a,n',a',hg,hid,hN,hb=>by
  simp only[dL,Bool.and_eq_true]at hg;simp only[cq]at hb ⊢;unfold bF;refine NO.bif trivial ?_
  obtain⟨n2,a2,h1,h2⟩:∃n2 a2,fM [x] id a n2 a2∧fM r n2 a2 n' a':=by
   cases hN with
   |cons hp lb le hNb D8 hNr=>exact⟨_,_, .cons hp lb le hNb D8 (.nil _ _),hNr⟩
  have gx:=GK fs fn hf x deep c id a n2 a2 hg.1 hid h1 (by omega);revert gx;cases jQ fs fn deep x c with
  |out=>exact fun h=>h.elim
  |bad p e=>exact fun _=>trivial
  |ok c2=>
   rintro⟨g1,g2⟩;simp only[TR.bind];have gr:=kY fs fn hf r deep (nC x) c2 n2 a2 n' a' hg.2 g1.symm h2 (by omega);revert gr;cases bF fs fn deep (nC x) r c2 with
   |out=>exact fun h=>h
   |bad p e=>exact fun _=>trivial
   |ok c3=>exact fun ⟨g3,g4⟩=>⟨g3,by omega⟩
end
end Go.Avm
namespace Go.Avm
open Go.Proofs
def Kn{α:Type}(s:RS)(r:Res α):Prop:=∀a s',r= .ok a s'→s'.n=s.n
theorem Kn.bind{α β:Type}{s:RS}{r:Res α}{f:α→RS→Res β}(h:Kn s r)(hf:∀a s',Kn s' (f a s')):Kn s (r.bind f):=fun b s2 e=>by
 cases r with
 |ok a s1=>exact(hf a s1 b s2 e).trans (h a s1 rfl)
 |bad p q s1=>cases e
 |out=>cases e
theorem Kn.ok{α:Type}(a:α)(s:RS):Kn s (.ok a s):=fun _ _ e=>by cases e;rfl
theorem Kn.out{α:Type}(s:RS):Kn s (Res.out:Res α):=fun _ _ e=>by cases e
theorem Kn.ite{α:Type}{c:Bool}{s:RS}{X Y:Res α}(hX:Kn s X)(hY:Kn s Y):Kn s (bif c then X else Y):=by cases c<;>assumption
theorem nS(L:List T)(x:List UInt8)(s:RS):Kn s (aI L x s):=fun a s' e=>by
 unfold aI at e;cases h:bC L s x<;>rw[h]at e
 ·cases e
 ·simp only[cond_true]at e
  cases h1:(x==[40]||x==[91]||x==[123])<;>rw[h1]at e
  ·simp only[cond_false]at e
   cases h2:(x==[41]||x==[93]||x==[125])<;>rw[h2]at e<;>cases e<;>rfl
  ·simp only[cond_true]at e
   cases h2:decide (200<fg (s.op+1))<;>rw[h2]at e<;>cases e
   rfl
theorem lr(L:List T)(k:Int)(s:RS):Kn s (ei L k s):=fun a s' e=>by
 unfold ei at e;cases h:((bH L s).k==k)<;>rw[h]at e<;>cases e
 rfl
theorem zc(L:List T)(x:List UInt8)(s:RS):Kn s (cr L x s):=by
 unfold cr;exact Kn.ite ((nS L x s).bind fun _ _=>Kn.ok _ _) (Kn.ok _ _)
theorem Ak(L:List T):∀(l:List Int)(s:RS),Kn s (eB L l s)
 |[],s=>fun _ _ e=>by cases e
 |k::r,s=>by
  simp only[eB];exact(zc L _ s).bind fun b s'=>Kn.ite (Kn.ok _ _) (Ak L r s')
theorem vd(L:List T):∀n,(∀s,Kn s (gn L n s))∧(∀s,Kn s (dF L n s))∧(∀nm p s,Kn s (fO L n nm p s))∧(∀s,Kn s (gp L n s))∧(∀l s,Kn s (eZ L n l s))∧(∀k s,Kn s (bu L n k s))∧(∀k e s,Kn s (ej L n k e s))
 |0=>⟨fun s=>Kn.out s,fun s=>Kn.out s,fun _ _ s=>Kn.out s,fun s=>Kn.out s,fun _ s=>Kn.out s,fun _ s=>Kn.out s,fun _ _ s=>Kn.out s⟩
 |n+1=>by
  obtain⟨h1,h2,h3,h4,h5,h6,h7⟩:=vd L n;have W:=nS L;have M:=zc L;refine⟨fun s=> ?_,fun s=> ?_,fun nm p s=> ?_,fun s=> ?_,fun l s=> ?_,fun k s=> ?_,fun k e s=> ?_⟩
  ·simp only[gn]
   have un:∀(f:Ex→Ex) s',Kn s' ((gn L n s').bind fun e s2=> .ok (f e) s2):=fun f s'=>(h1 s').bind fun _ _=>Kn.ok _ _
   refine(M _ s).bind fun _ s1=>Kn.ite (un _ s1) ((M _ s1).bind fun _ s1=>Kn.ite (un _ s1) ((M _ s1).bind fun _ s1=>Kn.ite (un _ s1) (Kn.ite (fun _ _ e=>by cases e;rfl) ?_)))
   refine(M _ s1).bind fun _ s1=>Kn.ite (Kn.ok _ _) ((M _ s1).bind fun _ s1=>Kn.ite (Kn.ok _ _) ?_)
   refine(M _ s1).bind fun _ s1=>Kn.ite ((W _ s1).bind fun _ s2=>(W _ s2).bind fun _ _=>Kn.ok _ _) ?_
   refine(M _ s1).bind fun _ s1=>Kn.ite ((W _ s1).bind fun _ s2=>(lr L _ s2).bind fun _ s3=>(W _ s3).bind fun _ _=>Kn.ok _ _) ?_
   refine Kn.ite ((W _ s1).bind fun _ s2=>(h6 _ s2).bind fun _ s3=>(W _ s3).bind fun _ _=>Kn.ok _ _) ?_;exact(lr L _ s1).bind fun _ s2=>Kn.ite ((h2 s2).bind fun _ _=>Kn.ok _ _) (Kn.ite ((h3 _ _ s2).bind fun _ _=>Kn.ok _ _) (Kn.ok _ _))
  ·simp only[dF]
   exact(W _ s).bind fun _ s2=>(h6 _ s2).bind fun _ s3=>(W _ s3).bind fun _ _=>Kn.ok _ _
  ·simp only[fO]
   exact(h4 s).bind fun _ _=>Kn.ok _ _
  ·simp only[gp]
   exact(W _ s).bind fun _ s1=>Kn.ite ((W _ s1).bind fun _ _=>Kn.ok _ _) ((h6 _ s1).bind fun _ s2=>(h5 _ s2).bind fun _ s3=>(W _ s3).bind fun _ _=>Kn.ok _ _)
  ·simp only[eZ]
   exact(M _ s).bind fun _ s1=>Kn.ite ((h6 _ s1).bind fun _ s2=>h5 _ s2) (Kn.ok _ _)
  ·simp only[bu]
   exact(h1 s).bind fun _ s1=>h7 _ _ s1
  ·simp only[ej]
   refine Kn.ite (Kn.ok _ _) (fun a s' e2=> ?_);exact((h6 _ s.nx).bind fun _ s2=>h7 _ _ s2) a s' e2
theorem pS(L:List T)(n:Nat)(k:Int)(s:RS):Kn s (bu L n k s):=(vd L n).2.2.2.2.2.1 k s
def Pi(L:List T):Prop:=∀i j,i<j→j<L.length→(L.getD i default).p<(L.getD j default).p
def JW(id p:Int):bt→Prop
 | .mk _ id' _ _ _ p' _ bd el=>id'=id∧p'=p∧bd=[]∧el=[]
def Ps{α:Type}(Q:α→Prop)(r:Res α):Prop:=∀a s',r= .ok a s'→Q a
theorem Ps.bind{α β:Type}{Q:β→Prop}{r:Res α}{f:α→RS→Res β}(hf:∀a s',Ps Q (f a s')):Ps Q (r.bind f):=fun b s2 e=>by
 cases r with
 |ok a s1=>exact hf a s1 b s2 e
 |bad p q s1=>cases e
 |out=>cases e
theorem Ps.ite{α:Type}{Q:α→Prop}{c:Bool}{X Y:Res α}(hX:Ps Q X)(hY:Ps Q Y):Ps Q (bif c then X else Y):=by cases c<;>assumption
theorem Ps.ok{α:Type}{Q:α→Prop}{a:α}{s:RS}(h:Q a):Ps Q (.ok a s):=fun _ _ e=>by cases e;exact h
section
variable(L:List T)(n:Nat)(id p:Int)(s:RS)
include L n id p s
theorem JX:Ps (JW id p) (jD L n id p s):=by
 unfold jD;exact Ps.bind fun _ _=>Ps.bind fun _ _=>Ps.bind fun _ _=>Ps.ite (Ps.bind fun _ _=>Ps.bind fun _ _=>Ps.bind fun _ _=>Ps.bind fun _ _=>Ps.ok ⟨rfl,rfl,rfl,rfl⟩) (Ps.bind fun _ _=>Ps.ite (Ps.bind fun _ _=>Ps.bind fun _ _=>Ps.ok ⟨rfl,rfl,rfl,rfl⟩) (Ps.bind fun _ _=>Ps.ok ⟨rfl,rfl,rfl,rfl⟩))
theorem EB:Ps (JW id p) (du L n id p s):=by
 unfold du;exact Ps.bind fun _ _=>Ps.ite (Ps.bind fun _ _=>Ps.bind fun _ _=>Ps.ok ⟨rfl,rfl,rfl,rfl⟩) (Ps.ite (Ps.bind fun _ _=>Ps.bind fun _ _=>Ps.bind fun _ _=>Ps.bind fun _ _=>Ps.ok ⟨rfl,rfl,rfl,rfl⟩) (Ps.bind fun _ _=>Ps.bind fun _ _=>Ps.bind fun _ _=>Ps.ok ⟨rfl,rfl,rfl,rfl⟩))
theorem JY:Kn s (jD L n id p s):=by
 have W:=nS L;unfold jD;exact(lr L _ s).bind fun _ s2=>(W _ s2).bind fun _ s3=>(Ak L _ s3).bind fun _ s4=>Kn.ite ((W _ s4).bind fun _ s5=>(lr L _ s5).bind fun _ s6=>(W _ s6).bind fun _ s7=>(W _ s7).bind fun _ _=>Kn.ok _ _) ((zc L _ s4).bind fun _ s5=>Kn.ite ((pS L n 1 s5).bind fun _ s6=>(W _ s6).bind fun _ _=>Kn.ok _ _) ((W _ s5).bind fun _ _=>Kn.ok _ _))
theorem EC:Kn s (du L n id p s):=by
 have W:=nS L;obtain⟨_,h2,h3,_⟩:=vd L n;unfold du;exact(lr L _ s).bind fun _ s2=>Kn.ite ((h3 _ _ s2).bind fun _ s3=>(W _ s3).bind fun _ _=>Kn.ok _ _) (Kn.ite ((h2 s2).bind fun _ s3=>(W _ s3).bind fun _ s4=>(pS L n 1 s4).bind fun _ s5=>(W _ s5).bind fun _ _=>Kn.ok _ _) ((W _ s2).bind fun _ s3=>(pS L n 1 s3).bind fun _ s4=>(W _ s4).bind fun _ _=>Kn.ok _ _))
end
end Go.Avm
namespace Go.Avm
open Go.Proofs
theorem Ps.bindQ{α β:Type}{Q:α→Prop}{R:β→Prop}{r:Res α}{f:α→RS→Res β}(h:Ps Q r)(hf:∀a s',Q a→Ps R (f a s')):Ps R (r.bind f):=fun b s2 e=>by
 cases r with
 |ok a s1=>exact hf a s1 (h a s1 rfl) b s2 e
 |bad p q s1=>cases e
 |out=>cases e
theorem Ps.out{α:Type}{Q:α→Prop}:Ps Q (Res.out:Res α):=fun _ _ e=>by cases e
theorem Ps.imp{α:Type}{Q R:α→Prop}{r:Res α}(h:Ps Q r)(hq:∀a,Q a→R a):Ps R r:=fun a s' e=>hq a (h a s' e)
theorem xu:∀l m:List Ex,eJ (l ++m)=(eJ l&&eJ m)
 |[],m=>by simp[eJ]
 |x::l,m=>by simp only[List.cons_append,eJ,xu l m,Bool.and_assoc]
theorem tS:∀l m:List bt,dL (l ++m)=(dL l&&dL m)
 |[],m=>by simp[dL]
 |x::l,m=>by simp only[List.cons_append,dL,tS l m,Bool.and_assoc]
abbrev wE(a:Ex):Prop:=Ha a=true
abbrev MI(a:List Ex):Prop:=eJ a=true
abbrev gS(a:bt):Prop:=iq a=true
abbrev gL(a:List bt):Prop:=dL a=true
section
variable(L:List T)
theorem ED:∀n,(∀s,Ps wE (gn L n s))∧(∀s,Ps wE (dF L n s))∧(∀nm p s,Ps wE (fO L n nm p s))∧(∀s,Ps MI (gp L n s))∧(∀l s,MI l→Ps MI (eZ L n l s))∧(∀k s,Ps wE (bu L n k s))∧(∀k e s,wE e→Ps wE (ej L n k e s))
 |0=>⟨fun _=>Ps.out,fun _=>Ps.out,fun _ _ _=>Ps.out,fun _=>Ps.out,fun _ _ _=>Ps.out,fun _ _=>Ps.out,fun _ _ _ _=>Ps.out⟩
 |n+1=>by
  obtain⟨h1,h2,h3,h4,h5,h6,h7⟩:=ED n;refine⟨fun s=> ?_,fun s=> ?_,fun nm p s=> ?_,fun s=> ?_,fun l s hl=> ?_,fun k s=> ?_,fun k e s he=> ?_⟩
  ·simp only[gn]
   have un:∀(o p:Int) s',Ps wE ((gn L n s').bind fun e s2=> .ok (.mk 8 o [] 0 p [e]) s2):=fun o p s'=>(h1 s').bindQ fun a _ ha=>Ps.ok (by simp[wE,Ha,eJ,ha])
   refine Ps.bind fun _ s1=>Ps.ite (un _ _ s1) (Ps.bind fun _ s1=>Ps.ite (un _ _ s1) (Ps.bind fun _ s1=>Ps.ite (un _ _ s1) (Ps.ite (Ps.ok rfl) ?_)))
   refine Ps.bind fun _ s1=>Ps.ite (Ps.ok rfl) (Ps.bind fun _ s1=>Ps.ite (Ps.ok rfl) ?_)
   refine Ps.bind fun _ s1=>Ps.ite (Ps.bind fun _ s2=>Ps.bind fun _ _=>Ps.ok rfl) ?_
   refine Ps.bind fun _ s1=>Ps.ite (Ps.bind fun _ s2=>Ps.bind fun _ s3=>Ps.bind fun _ _=>Ps.ok rfl) ?_
   refine Ps.ite (Ps.bind fun _ s2=>(h6 _ s2).bindQ fun a s3 ha=>Ps.bind fun _ _=>Ps.ok ha) ?_;exact Ps.bind fun _ s2=>Ps.ite ((h2 s2).bindQ fun a _ ha=>Ps.ok (by simp[wE,Ha,eJ,ha])) (Ps.ite ((h3 _ _ s2).bindQ fun a _ ha=>Ps.ok ha) (Ps.ok rfl))
  ·simp only[dF]
   exact Ps.bind fun _ s2=>(h6 _ s2).bindQ fun a s3 ha=>Ps.bind fun _ _=>Ps.ok ha
  ·simp only[fO]
   exact(h4 s).bindQ fun a _ ha=>Ps.ok (by simp[wE,Ha,ha])
  ·simp only[gp]
   exact Ps.bind fun _ s1=>Ps.ite (Ps.bind fun _ _=>Ps.ok rfl) ((h6 _ s1).bindQ fun a s2 ha=>(h5 _ s2 (by simp[MI,eJ,ha])).bindQ fun l s3 hl=>Ps.bind fun _ _=>Ps.ok hl)
  ·simp only[eZ]
   exact Ps.bind fun _ s1=>Ps.ite ((h6 _ s1).bindQ fun a s2 ha=>h5 _ s2 (by rw[MI,xu,hl];simp[eJ,ha])) (Ps.ok hl)
  ·simp only[bu]
   exact(h1 s).bindQ fun a s1 ha=>h7 _ _ s1 ha
  ·simp only[ej]
   exact Ps.ite (Ps.ok he) ((h6 _ s.nx).bindQ fun a s2 ha=>h7 _ _ s2 (by simp[wE,Ha,eJ,he,ha]))
theorem pT(n:Nat)(k:Int)(s:RS):Ps wE (bu L n k s):=(ED L n).2.2.2.2.2.1 k s
def HK:Prop:=∀s:RS,(bH L s).t.length≤20000
variable{L}(hs:HK L)
include hs
theorem pU(k:Int)(s:RS):Ps (fun t:T=>t.t.length≤20000) (ei L k s):=fun a s' e=>by
 unfold ei at e;cases h:((bH L s).k==k)<;>rw[h]at e<;>cases e
 exact hs s
omit hs in
theorem ve:∀(l:List Int)(s:RS),Ps (fun t:Int=>t∈l) (eB L l s)
 |[],s=>fun _ _ e=>by cases e
 |k::r,s=>by
  simp only[eB];exact Ps.bind fun b s'=>Ps.ite (Ps.ok (List.mem_cons_self ..)) ((ve r s').imp fun _ h=>List.mem_cons_of_mem _ h)
theorem JZ(n:Nat)(id p:Int)(s:RS):Ps gS (jD L n id p s):=by
 unfold jD;refine(pU hs 1 s).bindQ fun t s2 ht=>Ps.bind fun _ s3=>Ps.bind fun _ s4=>Ps.ite ?_ ?_
 ·exact Ps.bind fun _ s5=>Ps.bind fun _ s6=>Ps.bind fun _ s7=>Ps.bind fun _ _=>Ps.ok (by simp[gS,iq,eJ,dy,dL];omega)
 ·exact Ps.bind fun _ s5=>Ps.ite ((pT L n 1 s5).bindQ fun a s6 ha=>Ps.bind fun _ _=>Ps.ok (by simp[gS,iq,eJ,dy,dL,ha];omega)) (Ps.bind fun _ _=>Ps.ok (by simp[gS,iq,eJ,dy,dL];omega))
theorem EE(n:Nat)(id p:Int)(s:RS):Ps gS (du L n id p s):=by
 obtain⟨_,h2,h3,_⟩:=ED L n;unfold du;refine(pU hs 1 s).bindQ fun t s2 ht=>Ps.ite ?_ (Ps.ite ?_ ?_)
 ·exact(h3 _ _ s2).bindQ fun a s3 ha=>Ps.bind fun _ _=>Ps.ok (by simp[gS,iq,eJ,dy,dL,ha])
 ·exact(h2 s2).bindQ fun a s3 ha=>Ps.bind fun _ s4=>(pT L n 1 s4).bindQ fun b s5 hb=>Ps.bind fun _ _=>Ps.ok (by simp[gS,iq,eJ,dy,dL,ha,hb];omega)
 ·exact Ps.bind fun _ s3=>(pT L n 1 s3).bindQ fun a s4 ha=>Ps.bind fun _ _=>Ps.ok (by simp[gS,iq,eJ,dy,dL,ha];omega)
theorem Al:∀n,(∀s,Ps gL (bU L n s))∧(∀l s,gL l→Ps gL (dw L n l s))∧(∀s,Ps gS (fE L n s))
 |0=>⟨fun _=>Ps.out,fun _ _ _=>Ps.out,fun _=>Ps.out⟩
 |n+1=>by
  obtain⟨h1,h2,h3⟩:=Al n;refine⟨fun s=> ?_,fun l s hl=> ?_,fun s=> ?_⟩
  ·simp only[bU]
   exact Ps.bind fun _ s1=>(h2 _ s1 rfl).bindQ fun a s2 ha=>Ps.bind fun _ _=>Ps.ok ha
  ·simp only[dw]
   exact Ps.ite (Ps.ok hl) ((h3 s).bindQ fun a s1 ha=>h2 _ s1 (by rw[gL,tS,hl];simp[dL,ha]))
  ·simp only[fE]
   have X:=pT L n 1;refine Ps.bind fun _ s'=>Ps.ite ((JZ hs n _ _ s').bindQ fun a _ ha=>Ps.ok ha) (Ps.bind fun _ s'=>Ps.ite ?_ (Ps.bind fun _ s'=>Ps.ite ?_ (Ps.bind fun _ s'=>Ps.ite ?_ (Ps.bind fun _ s'=>Ps.ite ?_ ?_))))
   ·exact(X s').bindQ fun a s2 ha=>(h1 s2).bindQ fun b s3 hb=>Ps.bind fun _ s4=>Ps.ite ((h1 s4).bindQ fun c _ hc=>Ps.ok (by simp[gS,iq,eJ,dy,ha,hb,hc])) (Ps.ok (by simp[gS,iq,eJ,dy,ha,hb,dL]))
   ·exact(X s').bindQ fun a s2 ha=>(h1 s2).bindQ fun b s3 hb=>Ps.ok (by simp[gS,iq,eJ,dy,ha,hb,dL])
   ·exact Ps.ite (Ps.bind fun _ _=>Ps.ok rfl) ((X s').bindQ fun a s2 ha=>Ps.bind fun _ _=>Ps.ok (by simp[gS,iq,eJ,dy,ha,dL]))
   ·exact(X s').bindQ fun a s2 ha=>Ps.bind fun _ _=>Ps.ok (by simp[gS,iq,eJ,dy,ha,dL])
   ·exact(EE hs n _ _ _).bindQ fun a _ ha=>Ps.ok ha
def sf(p:Pm):Prop:=p.nm.length≤20000∧p.ty∈[1,2,3]
structure mB(f:Fn):Prop where
 bd:dL f.bd=true
 ps:∀p∈f.ps,sf p
 res:f.res∈[0,1,2]
 nm:f.nm.length≤20000
theorem xw(s:RS):Ps sf (f4 L s):=(pU hs 1 s).bindQ fun _ _ ht=>Ps.bind fun _ _=>(ve _ _).bindQ fun _ _ hk=>Ps.ok ⟨ht,hk⟩
theorem xx:∀(n:Nat)(l:List Pm)(s:RS),(∀p∈l,sf p)→Ps (fun l=>∀p∈l,sf p) (dx L n l s)
 |0,_,_,_=>Ps.out
 |n+1,l,s,hl=>by
  simp only[dx]
  exact Ps.bind fun _ s'=>Ps.ite ((xw hs s').bindQ fun a s2 ha=>xx n _ s2 fun p hp=>by
   rcases List.mem_append.1 hp with hp|hp
   ·exact hl p hp
   ·rw[List.mem_singleton.1 hp];exact ha) (Ps.ok hl)
theorem BC(n:Nat)(s:RS):Ps (fun l=>∀p∈l,sf p) (dK L n s):=by
 unfold dK;exact Ps.bind fun _ s3=>Ps.ite (Ps.bind fun _ _=>Ps.ok fun _ h=>by cases h) ((xw hs s3).bindQ fun a s4 ha=>(xx hs n _ s4 fun p hp=>by rw[List.mem_singleton.1 hp];exact ha).bindQ fun l s5 hl=>Ps.bind fun _ _=>Ps.ok hl)
theorem HL(n:Nat)(s:RS):Ps mB (vE L n s):=by
 have B:=(Al hs n).1;unfold vE;refine Ps.bind fun _ s1=>(pU hs 1 s1).bindQ fun u s2 hu=>(BC hs n s2).bindQ fun ps s3 hps=>Ps.bind fun _ s4=>Ps.ite ?_ ?_
 ·exact(ve _ s4).bindQ fun k s5 hk=>(B s5).bindQ fun l _ hl=>Ps.ok ⟨hl,hps,List.mem_cons_of_mem _ hk,hu⟩
 ·exact(B s4).bindQ fun l _ hl=>Ps.ok ⟨hl,hps,List.mem_cons_self ..,hu⟩
theorem EF(N:Nat):∀(n:Nat)(l:List Fn)(s:RS),(∀f∈l,mB f)→Ps (fun l=>∀f∈l,mB f) (kL L N n l s)
 |0,_,_,_=>Ps.out
 |n+1,l,s,hl=>by
  simp only[kL]
  exact Ps.ite (Ps.ok hl) ((HL hs N s).bindQ fun a s1 ha=>EF N n _ s1 fun f hf=>by
   rcases List.mem_append.1 hf with hf|hf
   ·exact hl f hf
   ·rw[List.mem_singleton.1 hf];exact ha)
theorem GL(n:Nat):Ps (fun l=>∀f∈l,mB f) (gF L n):=by
 unfold gF;exact(HL hs n ⟨0,0,0⟩).bindQ fun a s1 ha=>EF hs n n _ s1 fun f hf=>by rw[List.mem_singleton.1 hf];exact ha
end
end Go.Avm
namespace Go.Avm
open Go.Proofs
theorem bind_ok{α β:Type}{r:Res α}{f:α→RS→Res β}{b:β}{s2:RS}(h:r.bind f= .ok b s2):∃a s1,r= .ok a s1∧f a s1= .ok b s2:=by
 cases r with
 |ok a s1=>exact⟨a,s1,rfl,h⟩
 |bad p q s1=>cases h
 |out=>cases h
def jS(s:RS):Int:=fg (s.n+1)
def tT(L:List T)(s:RS)(a:Int):Prop:=a<(bH L s).p
structure On(L:List T)(s s':RS):Prop where
 lt:s.i<s'.i
 len:s'.i<L.length
 n:s'.n=s.n
section
variable{L:List T}(hL:dc L)(hI:Pi L)
include hL
theorem eE{x:List UInt8}{s s':RS}{t:T}(l:s.i<L.length)(h:aI L x s= .ok t s'):On L s s':=⟨((iQ hL x s l).2 t s' h).1,((iQ hL x s l).2 t s' h).2,nS L x s t s' h⟩
theorem Am{k:Int}(hk:k≠0){s s':RS}{t:T}(l:s.i<L.length)(h:ei L k s= .ok t s'):On L s s':=⟨((jJ hL k hk s l).2 t s' h).1,((jJ hL k hk s l).2 t s' h).2,lr L k s t s' h⟩
theorem pV{n:Nat}{k:Int}{s s':RS}{e:Ex}(l:s.i<L.length)(h:bu L n k s= .ok e s'):On L s s':=by
 have c:=(kW hL n).expr k s l;rw[h]at c;exact⟨iJ L n k s e s' h,c.1,pS L n k s e s' h⟩
theorem jL{α:Type}{x:List UInt8}{s s':RS}(l:s.i<L.length){X Y:RS→Res α}{a:α}(h:((cr L x s).bind fun b s1=>bif b then X s1 else Y s1)= .ok a s'):(∃s1,On L s s1∧X s1= .ok a s')∨Y s= .ok a s':=by
 unfold cr at h;cases hi:bC L s x<;>rw[hi]at h
 ·exact .inr h
 ·simp only[cond_true]at h
  cases hw:aI L x s<;>rw[hw]at h
  ·exact .inl ⟨_,eE hL l hw,h⟩
  ·cases h
  ·cases h
theorem J0{n:Nat}{id p:Int}{s s':RS}{x:bt}(l:s.i<L.length)(h:jD L n id p s= .ok x s'):On L s s':=by
 have c:=Mk hL n id p s l;rw[h]at c;exact⟨Cs L n id p s x s' h,c.1,JY L n id p s x s' h⟩
theorem EG{n:Nat}{id p:Int}{s s':RS}{x:bt}(l:s.i<L.length)(h:du L n id p s= .ok x s'):On L s s':=by
 have c:=DV hL n id p s l;rw[h]at c;exact⟨wJ L n id p s x s' h,c.1,EC L n id p s x s' h⟩
theorem oO{n:Nat}{s s':RS}{b:List bt}(l:s.i<L.length)(h:bU L n s= .ok b s'):s.i<s'.i∧s'.i<L.length:=by
 have c:=(xc hL n).block s l;rw[h]at c;exact⟨(lk L n).1 s b s' h,c.1⟩
theorem EH{n:Nat}{s s':RS}{x:bt}(l:s.i<L.length)(h:fE L n s= .ok x s'):s.i<s'.i∧s'.i<L.length:=by
 have c:=(xc hL n).stmt s l;rw[h]at c;exact⟨(lk L n).2.2 s x s' h,c.1⟩
omit hL
include hI
theorem pW{s s':RS}{a:Int}(hle:s.i≤s'.i)(hlt:s'.i<L.length)(h:tT L s a):tT L s' a:=by
 rcases Nat.lt_or_ge s.i s'.i with h1|h1
 ·exact Int.lt_trans h (hI _ _ h1 hlt)
 ·have:s.i=s'.i:=by omega
  unfold tT bH at h ⊢;rw[←this];exact h
theorem EI{s s':RS}(hlt:s.i<s'.i)(hlen:s'.i<L.length):tT L s' (bH L s).p:=hI _ _ hlt hlen
include hL
theorem nT{s0 s':RS}{k id:Int}{nm:List UInt8}{ty v p:Int}{es:List Ex}{bd el:List bt}{a:Int}(hid:id=jS s0)(hp:p=(bH L s0).p)(ha:tT L s0 a)(lb:bd.length<1000000)(le:el.length<1000000){n1 a1 n2 a2:Int}(hb:fM bd (fg (jS s0+1)) (bH L s0).p n1 a1)(he:fM el n1 a1 n2 a2)(hn:n2=jS s'):
    ∀r n3 a3,fM r (jS s') a2 n3 a3→fM (.mk k id nm ty v p es bd el::r) (jS s0) a n3 a3:=fun r n3 a3 hr=>by
 subst hid hp hn;exact fM.cons ha lb le hb he hr
theorem An:∀n,(∀(s s':RS)(l:List bt),s.i<L.length→bU L n s= .ok l s'→l.length<1000000∧∀a,tT L s a→∃a',fM l (jS s) a (jS s') a'∧tT L s' a')∧
    (∀(r:List bt)(s s':RS)(l:List bt),s.i<L.length→r.length≤s.i→dw L n r s= .ok l s'→(l.length≤s'.i∧s'.i<L.length)∧∃l2,l=r ++l2∧∀a,tT L s a→∃a',fM l2 (jS s) a (jS s') a'∧tT L s' a')∧
    (∀(s s':RS)(x:bt),s.i<L.length→fE L n s= .ok x s'→∀a,tT L s a→∃a1,(∀r n3 a3,fM r (jS s') a1 n3 a3→fM (x::r) (jS s) a n3 a3)∧tT L s' a1)
 |0=>⟨fun _ _ _ _ h=>by simp[bU]at h,fun _ _ _ _ _ _ h=>by simp[dw]at h,fun _ _ _ _ h=>by simp[fE]at h⟩
 |n+1=>by
  obtain⟨ihB,ihS,ihT⟩:=An n;refine⟨fun s s' l hl h=> ?_,fun r s s' l hl hr h=> ?_,fun s0 s' x hl h a ha=> ?_⟩
  ·simp only[bU]at h
   obtain⟨t,s1,h1,h⟩:=bind_ok h;obtain⟨l1,s2,h2,h⟩:=bind_ok h;obtain⟨t3,s3,h3,h⟩:=bind_ok h;cases h;have o1:=eE hL hl h1;obtain⟨⟨g1,g2⟩,l2,rfl,g3⟩:=ihS [] s1 s2 _ o1.len (Nat.zero_le _) h2;have o3:=eE hL g2 h3;refine⟨by have:=hL.len;omega,fun a ha=> ?_⟩;obtain⟨a',g4,g5⟩:=g3 a (pW hI (Nat.le_of_lt o1.lt) o1.len ha);refine⟨a', ?_,pW hI (Nat.le_of_lt o3.lt) o3.len g5⟩;have e1:jS s1=jS s:=by simp only[jS,o1.n]
   have e2:jS s'=jS s2:=by simp only[jS,o3.n]
   rw[e2,←e1];exact g4
  ·simp only[dw]at h
   cases hi:bC L s [125]<;>rw[hi]at h
   ·simp only[cond_false]at h
    obtain⟨x,s1,h1,h⟩:=bind_ok h;have g1:=EH hL hl h1;obtain⟨g2,l2,rfl,g3⟩:=ihS (r ++[x]) s1 s' l g1.2 (by simp only[List.length_append,List.length_singleton];omega) h;refine⟨g2,x::l2,by simp,fun a ha=> ?_⟩;obtain⟨a1,g4,g5⟩:=ihT s s1 x hl h1 a ha;obtain⟨a2,g6,g7⟩:=g3 a1 g5;exact⟨a2,g4 _ _ _ g6,g7⟩
   ·cases h
    exact⟨⟨hr,hl⟩,[],by simp,fun a ha=>⟨a, .nil _ _,ha⟩⟩
  ·simp only[fE]at h
   have l0:s0.st.i<L.length:=hl;have hc:bH L s0.st=bH L s0:=rfl;have hz:([]:List bt).length<1000000:=by decide
   have leaf:∀{k:Int}{nm:List UInt8}{ty v:Int}{es:List Ex}{s':RS},On L s0.st s'→∃a1,(∀r n3 a3,fM r (jS s') a1 n3 a3→fM (.mk k s0.st.n nm ty v (bH L s0.st).p es [] []::r) (jS s0) a n3 a3)∧tT L s' a1:=fun {k nm ty v es s'} o=>
    ⟨_,nT hL hI (s0:=s0) rfl rfl ha hz hz (.nil _ _) (.nil _ _) (by simp only[jS,o.n];rfl),EI hI o.lt o.len⟩
   have isl:∀{x:bt}{s':RS},JW s0.st.n (bH L s0.st).p x→On L s0.st s'→∃a1,(∀r n3 a3,fM r (jS s') a1 n3 a3→fM (x::r) (jS s0) a n3 a3)∧tT L s' a1:=fun {x s'} hx o=>by
    obtain⟨k,id,nm,ty,v,p,es,bd,el⟩:=x;obtain⟨rfl,rfl,rfl,rfl⟩:=hx;exact leaf o
   have tr:∀{s1 s2:RS},On L s0.st s1→On L s1 s2→On L s0.st s2:=fun o1 o2=>⟨Nat.lt_trans o1.lt o2.lt,o2.len,o2.n.trans o1.n⟩
   have blk:∀{s2 s3:RS}{b:List bt},On L s0.st s2→bU L n s2= .ok b s3→b.length<1000000∧s2.i<s3.i∧s3.i<L.length∧∃a1,fM b (fg (jS s0+1)) (bH L s0).p (jS s3) a1∧tT L s3 a1:=fun {s2 s3 b} o hb=>by
    obtain⟨g1,g2⟩:=ihB s2 s3 b o.len hb;have g3:=oO hL o.len hb;obtain⟨a1,g4,g5⟩:=g2 _ (EI hI (s:=s0) o.lt o.len)
    have e:jS s2=fg (jS s0+1):=by
     have:jS s2=fg (s2.n+1):=rfl;rw[this,o.n];rfl
    rw[e]at g4;exact⟨g1,g3.1,g3.2,a1,g4,g5⟩
   rcases jL hL l0 h with ⟨s1,o1,h⟩|h
   ·obtain⟨x1,s2,h2,h⟩:=bind_ok h
    cases h;exact isl (JX L n _ _ s1 x s' h2) (tr o1 (J0 hL o1.len h2))
   rcases jL hL l0 h with ⟨s1,o1,h⟩|h
   ·obtain⟨e,s2,h2,h⟩:=bind_ok h
    obtain⟨b,s3,h3,h⟩:=bind_ok h;have o2:=tr o1 (pV hL o1.len h2);obtain⟨lb,p1,p2,a1,g1,g2⟩:=blk o2 h3;rcases jL hL p2 h with ⟨s4,o4,h⟩|h
    ·obtain⟨m,s5,h5,h⟩:=bind_ok h
     cases h;obtain⟨lm,g3⟩:=ihB s4 s' m o4.len h5;have g4:=oO hL o4.len h5;obtain⟨a2,g5,g6⟩:=g3 a1 (pW hI (Nat.le_of_lt o4.lt) o4.len g2);have e4:jS s4=jS s3:=by simp only[jS,o4.n]
     rw[e4]at g5;exact⟨a2,nT hL hI (s0:=s0) rfl rfl ha lb lm g1 g5 rfl,g6⟩
    ·cases h
     exact⟨a1,nT hL hI (s0:=s0) rfl rfl ha lb hz g1 (.nil _ _) rfl,g2⟩
   rcases jL hL l0 h with ⟨s1,o1,h⟩|h
   ·obtain⟨e,s2,h2,h⟩:=bind_ok h
    obtain⟨b,s3,h3,h⟩:=bind_ok h;cases h;obtain⟨lb,p1,p2,a1,g1,g2⟩:=blk (tr o1 (pV hL o1.len h2)) h3;exact⟨a1,nT hL hI (s0:=s0) rfl rfl ha lb hz g1 (.nil _ _) rfl,g2⟩
   rcases jL hL l0 h with ⟨s1,o1,h⟩|h
   ·cases hi:bC L s1 [59]<;>rw[hi]at h
    ·obtain⟨e,s2,h2,h⟩:=bind_ok h
     obtain⟨t,s3,h3,h⟩:=bind_ok h;cases h;have o2:=tr o1 (pV hL o1.len h2);exact leaf (tr o2 (eE hL o2.len h3))
    ·obtain⟨t,s2,h2,h⟩:=bind_ok h
     cases h;exact leaf (tr o1 (eE hL o1.len h2))
   rcases jL hL l0 h with ⟨s1,o1,h⟩|h
   ·obtain⟨e,s2,h2,h⟩:=bind_ok h
    obtain⟨t,s3,h3,h⟩:=bind_ok h;cases h;have o2:=tr o1 (pV hL o1.len h2);exact leaf (tr o2 (eE hL o2.len h3))
   ·obtain⟨x1,s2,h2,h⟩:=bind_ok h
    cases h;exact isl (EB L n _ _ s0.st x s' h2) (EG hL l0 h2)
end
end Go.Avm
namespace Go.Avm
open Go.Proofs
def BD:Nat→List (Nat×sP)→Nat→Prop
 |lo,[],hi=>lo≤hi
 |lo,x::r,hi=>lo≤x.1∧BD (x.1+1) r hi
theorem tU:∀{ts:List (Nat×sP)}{lo lo' hi:Nat},lo≤lo'→BD lo' ts hi→BD lo ts hi
 |[],_,_,_,h,h1=>Nat.le_trans h h1
 |_::_,_,_,_,h,h1=>⟨Nat.le_trans h h1.1,h1.2⟩
theorem sg:∀(n:Nat)(r:List UInt8)(a:Nat)(ts:List (Nat×sP)),fI n r a= .ok ts→BD a ts (a+r.length)
 |0,r,a,ts,h=>by
  simp only[fI,Except.ok.injEq]at h;subst h;exact Nat.le_add_right _ _
 |n+1,[],a,ts,h=>by
  simp only[fI,Except.ok.injEq]at h;subst h;exact Nat.le_add_right _ _
 |n+1,b::r,a,ts,h=>by
  rw[jK]at h;split at h
  ·cases h
  rename_i t ht;split at h
  ·cases h
  rename_i ts' hts;cases h;obtain⟨kd,tx,k⟩:=t;obtain⟨hp,hne⟩:=r8 ht;have h1:0<tx.length:=List.length_pos_iff.2 hne;have h2:tx.length≤(b::r).length:=hp.length_le;have ih:=sg n _ _ _ hts;have h3:=jj false ((b::r).drop tx.length);simp only[List.length_drop]at ih h3;refine⟨Nat.le_refl _, ?_⟩;have e:a+tx.length+cA false (List.drop tx.length (b::r))+((b::r).length-tx.length-cA false (List.drop tx.length (b::r)))=a+(b::r).length:=by omega
  rw[e]at ih;exact tU (show a+1≤a+tx.length+cA false (List.drop tx.length (b::r)) by omega) ih
theorem zd{s:List UInt8}{ts:List (Nat×sP)}(h:jR s= .ok ts):BD 0 ts s.length:=by
 have h1:=sg _ _ _ _ h;have h2:=jj false s;rw[List.length_drop,Nat.add_sub_cancel' h2]at h1;exact tU (Nat.zero_le _) h1
theorem xy(n:Nat):∀{ts:List (Nat×sP)}{lo:Nat},BD lo ts n→(∀i,i<(cR ts n).length→(lo:Int)≤((cR ts n).getD i default).p)∧Pi (cR ts n)
 |[],lo,h=>by
  have h':lo≤n:=h;refine⟨fun i hi=> ?_,fun i j hij hj=> ?_⟩
  ·have:i=0:=by simp[cR]at hi;exact hi
   subst this;show(lo:Int)≤(n:Int);omega
  ·simp[cR]at hj;omega
 |x::r,lo,⟨h1,h2⟩=>by
  obtain⟨g1,g2⟩:=xy n h2;have hc:cR (x::r) n=P2 x::cR r n:=rfl;refine⟨fun i hi=> ?_,fun i j hij hj=> ?_⟩
  ·rw[hc]at hi ⊢
   cases i with
   |zero=>show(lo:Int)≤(x.1:Int);omega
   |succ i=>
    have:=g1 i (by simpa using hi);rw[List.getD_cons_succ];omega
  ·rw[hc]at hj ⊢
   cases j with
   |zero=>omega
   |succ j=>
    have hj':j<(cR r n).length:=by simpa using hj
    rw[List.getD_cons_succ];cases i with
    |zero=>
     have:=g1 j hj';show(x.1:Int)<_;omega
    |succ i=>
     rw[List.getD_cons_succ];exact g2 i j (by omega) hj'
section
variable{L:List T}(hL:dc L)(hI:Pi L)
include hL
theorem jl{s1 s2 s3:RS}(a:On L s1 s2)(b:On L s2 s3):On L s1 s3:=⟨Nat.lt_trans a.lt b.lt,b.len,b.n.trans a.n⟩
theorem vg:∀{k:List Int}{s s':RS}{t:Int},s.i<L.length→eB L k s= .ok t s'→On L s s'
 |[],_,_,_,_,h=>by cases h
 |k::r,s,s',t,l,h=>by
  simp only[eB]at h;rcases jL hL l h with ⟨s1,o,h⟩|h
  ·cases h;exact o
  ·exact vg l h
theorem xz{s s':RS}{x:Pm}(l:s.i<L.length)(h:f4 L s= .ok x s'):On L s s':=by
 unfold f4 at h;obtain⟨t,s1,h1,h⟩:=bind_ok h;obtain⟨u,s2,h2,h⟩:=bind_ok h;obtain⟨k,s3,h3,h⟩:=bind_ok h;cases h;have o1:=Am hL (by decide) l h1;have o2:=eE hL o1.len h2;exact jl hL (jl hL o1 o2) (vg hL o2.len h3)
theorem xA:∀{n:Nat}{r:List Pm}{s s':RS}{l2:List Pm},s.i<L.length→dx L n r s= .ok l2 s'→s'=s∨On L s s'
 |0,_,_,_,_,_,h=>by simp[dx]at h
 |n+1,r,s,s',l2,l,h=>by
  simp only[dx]at h;rcases jL hL l h with ⟨s1,o,h⟩|h
  ·obtain⟨x,s2,h2,h⟩:=bind_ok h
   have o2:=jl hL o (xz hL o.len h2);rcases xA o2.len h with rfl|o3
   ·exact .inr o2
   ·exact .inr (jl hL o2 o3)
  ·cases h;exact .inl rfl
theorem BE{n:Nat}{s s':RS}{l2:List Pm}(l:s.i<L.length)(h:dK L n s= .ok l2 s'):On L s s':=by
 unfold dK at h;obtain⟨t,s1,h1,h⟩:=bind_ok h;have o1:=eE hL l h1;cases hi:bC L s1 [41]<;>rw[hi]at h
 ·obtain⟨x,s2,h2,h⟩:=bind_ok h
  obtain⟨y,s3,h3,h⟩:=bind_ok h;obtain⟨z,s4,h4,h⟩:=bind_ok h;cases h;have o2:=jl hL o1 (xz hL o1.len h2);rcases xA hL o2.len h3 with rfl|o3
  ·exact jl hL o2 (eE hL o2.len h4)
  ·exact jl hL (jl hL o2 o3) (eE hL o3.len h4)
 ·obtain⟨x,s2,h2,h⟩:=bind_ok h
  cases h;exact jl hL o1 (eE hL o1.len h2)
include hI
theorem EJ{n:Nat}{s s':RS}{f:Fn}(l:s.i<L.length)(h:vE L n s= .ok f s'):(s.i<s'.i∧s'.i<L.length)∧f.bd.length<1000000∧∀a,tT L s a→∃a',fM f.bd (jS s) a (jS s') a'∧tT L s' a':=by
 unfold vE at h;obtain⟨t,s1,h1,h⟩:=bind_ok h;obtain⟨u,s2,h2,h⟩:=bind_ok h;obtain⟨ps,s3,h3,h⟩:=bind_ok h;have o1:=eE hL l h1;have o2:=jl hL o1 (Am hL (by decide) o1.len h2);have o3:=jl hL o2 (BE hL o2.len h3)
 have fin:∀{s4:RS}{b:List bt},On L s s4→bU L n s4= .ok b s'→(s.i<s'.i∧s'.i<L.length)∧b.length<1000000∧∀a,tT L s a→∃a',fM b (jS s) a (jS s') a'∧tT L s' a':=fun {s4 b} o hb=>by
  have g1:=oO hL o.len hb;obtain⟨g2,g3⟩:=(An hL hI n).1 s4 s' b o.len hb;refine⟨⟨Nat.lt_trans o.lt g1.1,g1.2⟩,g2,fun a ha=> ?_⟩;obtain⟨a',g4,g5⟩:=g3 a (pW hI (Nat.le_of_lt o.lt) o.len ha);have e:jS s4=jS s:=by simp only[jS,o.n]
  rw[e]at g4;exact⟨a',g4,g5⟩
 rcases jL hL o3.len h with ⟨s4,o4,h⟩|h
 ·obtain⟨k,s5,h5,h⟩:=bind_ok h
  obtain⟨b,s6,h6,h⟩:=bind_ok h;cases h;exact fin (jl hL (jl hL o3 o4) (vg hL o4.len h5)) h6
 ·obtain⟨b,s6,h6,h⟩:=bind_ok h
  cases h;exact fin o3 h6
theorem Ao(N:Nat):∀(n:Nat)(r:List Fn)(s s':RS)(l:List Fn),s.i<L.length→r.length≤s.i→kL L N n r s= .ok l s'→l.length<1000000∧∃l2,l=r ++l2∧∀a,tT L s a→sQ l2 (jS s) a
 |0,_,_,_,_,_,_,h=>by simp[kL]at h
 |n+1,r,s,s',l,hl,hr,h=>by
  simp only[kL]at h;cases hk:((bH L s).k==0)<;>rw[hk]at h
  ·simp only[cond_false]at h
   obtain⟨f,s1,h1,h⟩:=bind_ok h;obtain⟨g1,g2,g3⟩:=EJ hL hI hl h1;obtain⟨g4,l2,rfl,g5⟩:=Ao N n (r ++[f]) s1 s' l g1.2 (by simp only[List.length_append,List.length_singleton];omega) h;refine⟨g4,f::l2,by simp,fun a ha=> ?_⟩;obtain⟨a',g6,g7⟩:=g3 a ha;exact sQ.cons g2 g6 (g5 a' g7)
  ·cases h
   exact⟨by have:=hL.len;omega,[],by simp,fun a _=> .nil _ _⟩
theorem EK{n:Nat}{l:List Fn}{s':RS}(h0:0<L.length)(hp:0≤(bH L ⟨0,0,0⟩).p)(h:gF L n= .ok l s'):l.length<1000000∧sQ l 1 (-1):=by
 unfold gF at h;obtain⟨f,s1,h1,h⟩:=bind_ok h;obtain⟨g1,g2,g3⟩:=EJ hL hI (s:=⟨0,0,0⟩) h0 h1;obtain⟨g4,l2,rfl,g5⟩:=Ao hL hI n n [f] s1 s' l g1.2 (by have:=g1.1;simp only[List.length_singleton];omega) h;obtain⟨a',g6,g7⟩:=g3 (-1) (by unfold tT;omega);exact⟨g4,sQ.cons g2 g6 (g5 a' g7)⟩
end
end Go.Avm
namespace Go.Avm
open Go.Proofs
def Post{α:Type}(Q:α→RS→Prop)(r:Res α):Prop:=∀a s',r= .ok a s'→Q a s'
section
variable{α β:Type}{Q Q':α→RS→Prop}{R:β→RS→Prop}{r:Res α}{f:α→RS→Res β}{s:RS}
theorem Post.bind(h:Post Q r)(hf:∀a s',Q a s'→Post R (f a s')):Post R (r.bind f):=fun b s2 e=>by
 cases r with
 |ok a s1=>exact hf a s1 (h a s1 rfl) b s2 e
 |bad p q s1=>cases e
 |out=>cases e
theorem Post.ok{a:α}(h:Q a s):Post Q (.ok a s):=fun _ _ e=>by cases e;exact h
theorem Post.out:Post Q (Res.out:Res α):=fun _ _ e=>by cases e
theorem Post.bad{p e:Int}:Post Q (Res.bad p e s:Res α):=fun _ _ e=>by cases e
theorem Post.ite{c:Bool}{X Y:Res α}(hX:Post Q X)(hY:Post Q Y):Post Q (bif c then X else Y):=by cases c<;>assumption
theorem Post.imp(h:Post Q r)(hq:∀a s',Q a s'→Q' a s'):Post Q' r:=fun a s' e=>hq a s' (h a s' e)
end
section
variable(L:List T)
theorem kZ(x:List UInt8)(s:RS):Post (fun _ s'=>s.i+1≤s'.i) (aI L x s):=aL L x s
theorem mC(k:Int)(s:RS):Post (fun _ s'=>s.i+1≤s'.i) (ei L k s):=gP L k s
theorem ze(k:List Int)(s:RS):Post (fun _ s'=>s.i+1≤s'.i) (eB L k s):=nB L k s
theorem Post.may{L:List T}{α:Type}{Q:α→RS→Prop}{x:List UInt8}{s:RS}{X Y:RS→Res α}(hX:∀s',s.i+1≤s'.i→Post Q (X s'))(hY:Post Q (Y s)):Post Q ((cr L x s).bind fun b s1=>bif b then X s1 else Y s1):=by
 unfold cr;cases bC L s x with
 |false=>exact hY
 |true=>
  have:=(kZ L x s).bind (f:=fun _ s1=>X s1) fun _ s' h=>hX s' h
  simp only[cond_true];revert this;cases aI L x s<;>exact fun h=>h
structure ZA(n:Nat):Prop where
 one:∀s:RS,Post (fun a s'=>vJ a+s.i≤s'.i) (gn L n s)
 place:∀s:RS,Post (fun a s'=>vJ a+2+s.i≤s'.i) (dF L n s)
 call:∀nm p (s:RS),Post (fun a s'=>vJ a+1+s.i≤s'.i) (fO L n nm p s)
 args:∀s:RS,Post (fun a s'=>dM a+2+s.i≤s'.i) (gp L n s)
 more:∀l (s:RS),Post (fun a s'=>dM a+s.i≤s'.i+dM l) (eZ L n l s)
 expr:∀k (s:RS),Post (fun a s'=>vJ a+s.i≤s'.i) (bu L n k s)
 tail:∀k e (s:RS),Post (fun a s'=>vJ a+s.i≤s'.i+vJ e) (ej L n k e s)
theorem xB:∀l m:List Ex,dM (l ++m)=dM l+dM m
 |[],m=>by simp[dM]
 |x::l,m=>by simp only[List.cons_append,dM,xB l m];omega
theorem xC:∀l m:List bt,cq (l ++m)=cq l+cq m
 |[],m=>by simp[cq]
 |x::l,m=>by simp only[List.cons_append,cq,xC l m];omega
theorem xD:∀l m:List Fn,gu (l ++m)=gu l+gu m
 |[],m=>by simp[gu]
 |x::l,m=>by simp only[List.cons_append,gu,xD l m];omega
theorem GM:∀n,ZA L n
 |0=>⟨fun _=>Post.out,fun _=>Post.out,fun _ _ _=>Post.out,fun _=>Post.out,fun _ _=>Post.out,fun _ _=>Post.out,fun _ _ _=>Post.out⟩
 |n+1=>by
  have ih:=GM n;have W:=kZ L;refine⟨fun s=> ?_,fun s=> ?_,fun nm p s=> ?_,fun s=> ?_,fun l s=> ?_,fun k s=> ?_,fun k e s=> ?_⟩
  ·simp only[gn]
   have un:∀(o p:Int) s',s.i+1≤s'.i→Post (fun a s2=>vJ a+s.i≤s2.i) ((gn L n s').bind fun e s2=> .ok (.mk 8 o [] 0 p [e]) s2):=fun o p s' h=>(ih.one s').bind fun e s2 h2=> .ok (by simp only[vJ,dM];omega)
   refine Post.may (fun s'=>un _ _ s') (Post.may (fun s'=>un _ _ s') (Post.may (fun s'=>un _ _ s') (Post.ite (.ok (by simp only[vJ,dM,RS.nx];omega)) ?_)));refine Post.may (fun s' h=> .ok (by simp only[vJ,dM];omega)) (Post.may (fun s' h=> .ok (by simp only[vJ,dM];omega)) ?_);refine Post.may (fun s' h=>(W _ s').bind fun _ s2 h2=>(W _ s2).bind fun _ _ h3=> .ok (by simp only[vJ,dM];omega)) ?_;refine Post.may (fun s' h=>(W _ s').bind fun _ s2 h2=>(mC L 1 s2).bind fun _ s3 h3=>(W _ s3).bind fun _ _ h4=> .ok (by simp only[vJ,dM];omega)) ?_;refine Post.ite ((W _ s).bind fun _ s2 h2=>(ih.expr _ s2).bind fun _ s3 h3=>(W _ s3).bind fun _ _ h4=> .ok (by omega)) ?_;refine(mC L 1 s).bind fun _ s2 h2=>Post.ite ((ih.place s2).bind fun _ _ h3=> .ok (by simp only[vJ,dM];omega)) (Post.ite ((ih.call _ _ s2).bind fun _ _ h3=> .ok (by omega)) (.ok (by simp only[vJ,dM];omega)))
  ·simp only[dF]
   exact(W _ s).bind fun _ s2 h2=>(ih.expr _ s2).bind fun _ s3 h3=>(W _ s3).bind fun _ _ h4=> .ok (by omega)
  ·simp only[fO]
   exact(ih.args s).bind fun _ _ h=> .ok (by simp only[vJ];omega)
  ·simp only[gp]
   exact(W _ s).bind fun _ s2 h2=>Post.ite ((W _ s2).bind fun _ _ h3=> .ok (by simp only[dM];omega)) ((ih.expr _ s2).bind fun _ s3 h3=>(ih.more _ s3).bind fun _ s4 h4=>(W _ s4).bind fun _ _ h5=> .ok (by simp only[dM]at h4;omega))
  ·simp only[eZ]
   exact Post.may (fun s' h=>(ih.expr _ s').bind fun _ s3 h3=>(ih.more _ s3).imp fun _ _ h4=>by simp only[xB,dM]at h4;omega) (.ok (Nat.le_of_eq (Nat.add_comm _ _)))
  ·simp only[bu]
   exact(ih.one s).bind fun _ s2 h2=>(ih.tail _ _ s2).imp fun _ _ h3=>by omega
  ·simp only[ej]
   exact Post.ite (.ok (Nat.le_of_eq (Nat.add_comm _ _))) ((ih.expr _ _).bind fun _ s2 h2=>(ih.tail _ _ s2).imp fun _ _ h3=>by simp only[vJ,dM,RS.nx]at h2 h3;omega)
theorem MJ(n:Nat)(id p:Int)(s:RS):Post (fun a s'=>sd a+s.i≤s'.i) (jD L n id p s):=by
 have W:=kZ L;unfold jD;refine(mC L 1 s).bind fun _ s2 h2=>(W _ s2).bind fun _ s3 h3=>(ze L _ s3).bind fun _ s4 h4=>Post.ite ?_ ?_
 ·exact(W _ s4).bind fun _ s5 h5=>(mC L 3 s5).bind fun _ s6 h6=>(W _ s6).bind fun _ s7 h7=>(W _ s7).bind fun _ _ h8=> .ok (by simp only[sd,cq,dM];omega)
 ·exact Post.may (fun s' h=>((GM L n).expr 1 s').bind fun _ s6 h6=>(W _ s6).bind fun _ _ h7=> .ok (by simp only[sd,cq,dM];omega)) ((W _ s4).bind fun _ _ h5=> .ok (by simp only[sd,cq,dM];omega))
theorem GN(n:Nat)(id p:Int)(s:RS):Post (fun a s'=>sd a+s.i≤s'.i) (du L n id p s):=by
 have W:=kZ L;have A:=GM L n;unfold du;refine(mC L 1 s).bind fun _ s2 h2=>Post.ite ((A.call _ _ s2).bind fun _ s3 h3=>(W _ s3).bind fun _ _ h4=> .ok (by simp only[sd,cq,dM];omega)) (Post.ite ?_ ?_)
 ·exact(A.place s2).bind fun _ s3 h3=>(W _ s3).bind fun _ s4 h4=>(A.expr 1 s4).bind fun _ s5 h5=>(W _ s5).bind fun _ _ h6=> .ok (by simp only[sd,cq,dM];omega)
 ·exact(W _ s2).bind fun _ s3 h3=>(A.expr 1 s3).bind fun _ s4 h4=>(W _ s4).bind fun _ _ h5=> .ok (by simp only[sd,cq,dM];omega)
theorem EL:∀n,(∀s:RS,Post (fun a s'=>cq a+2+s.i≤s'.i) (bU L n s))∧(∀l (s:RS),Post (fun a s'=>cq a+s.i≤s'.i+cq l) (dw L n l s))∧(∀s:RS,Post (fun a s'=>sd a+s.i≤s'.i) (fE L n s))
 |0=>⟨fun _=>Post.out,fun _ _=>Post.out,fun _=>Post.out⟩
 |n+1=>by
  obtain⟨h1,h2,h3⟩:=EL n;have W:=kZ L;have A:=GM L n;refine⟨fun s=> ?_,fun l s=> ?_,fun s=> ?_⟩
  ·simp only[bU]
   exact(W _ s).bind fun _ s1 g1=>(h2 _ s1).bind fun _ s2 g2=>(W _ s2).bind fun _ _ g3=> .ok (by simp only[cq]at g2;omega)
  ·simp only[dw]
   exact Post.ite (.ok (Nat.le_of_eq (Nat.add_comm _ _))) ((h3 s).bind fun _ s1 g1=>(h2 _ s1).imp fun _ _ g2=>by simp only[xC,cq]at g2;omega)
  ·simp only[fE]
   have hi:s.st.i=s.i:=rfl;refine Post.may (fun s' g=>(MJ L n _ _ s').bind fun _ _ g2=> .ok (by omega)) (Post.may (fun s' g=> ?_) (Post.may (fun s' g=> ?_) (Post.may (fun s' g=> ?_) (Post.may (fun s' g=> ?_) ?_))))
   ·exact(A.expr 1 s').bind fun _ s2 g2=>(h1 s2).bind fun _ s3 g3=>Post.may (fun s4 g4=>(h1 s4).bind fun _ _ g5=> .ok (by simp only[sd,cq,dM];omega)) (.ok (by simp only[sd,cq,dM];omega))
   ·exact(A.expr 1 s').bind fun _ s2 g2=>(h1 s2).bind fun _ s3 g3=> .ok (by simp only[sd,cq,dM];omega)
   ·exact Post.ite ((W _ s').bind fun _ _ g2=> .ok (by simp only[sd,cq,dM];omega)) ((A.expr 1 s').bind fun _ s2 g2=>(W _ s2).bind fun _ _ g3=> .ok (by simp only[sd,cq,dM];omega))
   ·exact(A.expr 1 s').bind fun _ s2 g2=>(W _ s2).bind fun _ _ g3=> .ok (by simp only[sd,cq,dM];omega)
   ·exact(GN L n _ _ _).bind fun _ _ g2=> .ok (by omega)
theorem Ap(s:RS):Post (fun _ s'=>1+s.i≤s'.i) (f4 L s):=(mC L 1 s).bind fun _ s1 h1=>(kZ L _ s1).bind fun _ s2 h2=>(ze L _ s2).bind fun _ _ h3=> .ok (by omega)
theorem Aq:∀(n:Nat)(l:List Pm)(s:RS),Post (fun a s'=>a.length+s.i≤s'.i+l.length) (dx L n l s)
 |0,_,_=>Post.out
 |n+1,l,s=>by
  simp only[dx];exact Post.may (fun s' h=>(Ap L s').bind fun _ s2 h2=>(Aq n _ s2).imp fun _ _ h3=>by simp only[List.length_append,List.length_cons,List.length_nil]at h3;omega) (.ok (Nat.le_of_eq (Nat.add_comm _ _)))
theorem EM(n:Nat)(s:RS):Post (fun a s'=>a.length+2+s.i≤s'.i) (dK L n s):=by
 have W:=kZ L;unfold dK;exact(W _ s).bind fun _ s3 h3=>Post.ite ((W _ s3).bind fun _ _ h4=> .ok (by simp only[List.length_nil];omega)) ((Ap L s3).bind fun _ s4 h4=>(Aq L n _ s4).bind fun _ s5 h5=>(W _ s5).bind fun _ _ h6=> .ok (by simp only[List.length_cons,List.length_nil]at h5;omega))
theorem MK(n:Nat)(s:RS):Post (fun a s'=>GH a+s.i≤s'.i) (vE L n s):=by
 have W:=kZ L;have B:=(EL L n).1;unfold vE;exact(W _ s).bind fun _ s1 h1=>(mC L 1 s1).bind fun _ s2 h2=>(EM L n s2).bind fun _ s3 h3=>Post.may (fun s4 h4=>(ze L _ s4).bind fun _ s5 h5=>(B s5).bind fun _ _ h6=> .ok (by simp only[GH];omega)) ((B s3).bind fun _ _ h6=> .ok (by simp only[GH];omega))
theorem HM(N:Nat):∀(n:Nat)(l:List Fn)(s:RS),Post (fun a s'=>gu a+s.i≤s'.i+gu l) (kL L N n l s)
 |0,_,_=>Post.out
 |n+1,l,s=>by
  simp only[kL];exact Post.ite (.ok (Nat.le_of_eq (Nat.add_comm _ _))) ((MK L N s).bind fun _ s1 h1=>(HM N n _ s1).imp fun _ _ h2=>by simp only[xD,gu]at h2;omega)
theorem J1(n:Nat):Post (fun a s'=>gu a≤s'.i) (gF L n):=by
 unfold gF;exact(MK L n ⟨0,0,0⟩).bind fun _ s1 h1=>(HM L n n _ s1).imp fun _ _ h2=>by simp only[gu]at h1 h2;omega
end
theorem zf{L:List T}(hL:dc L)(h0:0<L.length){l:List Fn}{s':RS}(h:gF L (fuel L)= .ok l s'):gu l<1000000:=by
 have h1:=J1 L (fuel L) l s' h;have h2:=(((JP hL (fuel L) ⟨0,0,0⟩ h0 (by simp only[fuel];omega)).bind fun f s1 h1 h2=>D3 hL (fuel L) (Nat.le_refl _) (fuel L) [f] s1 h2 (by simp only[fuel];omega)).2 l s' h).2;have:=hL.len;omega
end Go.Avm
namespace Go.Avm
open Go.Proofs
def Bd{α:Type}(r:Res α):Prop:=∀p e s,r= .bad p e s→e≠0
section
variable{α β:Type}{r:Res α}{f:α→RS→Res β}{s:RS}{L:List T}
theorem Bd.bind(h:Bd r)(hf:∀a s',Bd (f a s')):Bd (r.bind f):=fun p e s2 q=>by
 cases r with
 |ok a s1=>exact hf a s1 p e s2 q
 |bad p q2 s1=>cases q;exact h _ _ _ rfl
 |out=>cases q
theorem Bd.ok{a:α}:Bd (.ok a s):=fun _ _ _ q=>by cases q
theorem Bd.out:Bd (Res.out:Res α):=fun _ _ _ q=>by cases q
theorem Bd.fail:Bd (fail L s:Res α):=fun _ _ _ q=>by cases q;decide
theorem Bd.ite{c:Bool}{X Y:Res α}(hX:Bd X)(hY:Bd Y):Bd (bif c then X else Y):=by cases c<;>assumption
theorem be(x:List UInt8):Bd (aI L x s):=by
 unfold aI;refine Bd.ite (Bd.ite (Bd.ite (fun _ _ _ q=>by cases q;decide) .ok) (Bd.ite .ok .ok)) .fail
theorem jM(k:Int):Bd (ei L k s):=by unfold ei;exact Bd.ite .ok .fail
theorem dG(x:List UInt8):Bd (cr L x s):=by unfold cr;exact Bd.ite ((be x).bind fun _ _=> .ok) .ok
theorem pX:∀(l:List Int)(s:RS),Bd (eB L l s)
 |[],s=> .fail
 |k::r,s=>by unfold eB;exact(dG _).bind fun _ s'=>Bd.ite .ok (pX r s')
end
section
variable(L:List T)
theorem EN:∀n,(∀s,Bd (gn L n s))∧(∀s,Bd (dF L n s))∧(∀nm p s,Bd (fO L n nm p s))∧(∀s,Bd (gp L n s))∧(∀l s,Bd (eZ L n l s))∧(∀k s,Bd (bu L n k s))∧(∀k e s,Bd (ej L n k e s))
 |0=>⟨fun _=> .out,fun _=> .out,fun _ _ _=> .out,fun _=> .out,fun _ _=> .out,fun _ _=> .out,fun _ _ _=> .out⟩
 |n+1=>by
  obtain⟨h1,h2,h3,h4,h5,h6,h7⟩:=EN n;refine⟨fun s=> ?_,fun s=> ?_,fun nm p s=> ?_,fun s=> ?_,fun l s=> ?_,fun k s=> ?_,fun k e s=> ?_⟩
  ·simp only[gn]
   refine(dG _).bind fun _ s1=>Bd.ite ((h1 _).bind fun _ _=> .ok) ((dG _).bind fun _ s2=>Bd.ite ((h1 _).bind fun _ _=> .ok) ((dG _).bind fun _ s3=>Bd.ite ((h1 _).bind fun _ _=> .ok) (Bd.ite .ok ?_)))
   refine(dG _).bind fun _ s1=>Bd.ite .ok ((dG _).bind fun _ s2=>Bd.ite .ok ((dG _).bind fun _ s3=>Bd.ite ((be _).bind fun _ _=>(be _).bind fun _ _=> .ok) ?_))
   refine(dG _).bind fun _ s1=>Bd.ite ((be _).bind fun _ _=>(jM _).bind fun _ _=>(be _).bind fun _ _=> .ok) (Bd.ite ((be _).bind fun _ _=>(h6 _ _).bind fun _ _=>(be _).bind fun _ _=> .ok) ?_)
   exact(jM _).bind fun _ _=>Bd.ite ((h2 _).bind fun _ _=> .ok) (Bd.ite ((h3 _ _ _).bind fun _ _=> .ok) .ok)
  ·simp only[dF]
   exact(be _).bind fun _ _=>(h6 _ _).bind fun _ _=>(be _).bind fun _ _=> .ok
  ·simp only[fO]
   exact(h4 _).bind fun _ _=> .ok
  ·simp only[gp]
   exact(be _).bind fun _ _=>Bd.ite ((be _).bind fun _ _=> .ok) ((h6 _ _).bind fun _ _=>(h5 _ _).bind fun _ _=>(be _).bind fun _ _=> .ok)
  ·simp only[eZ]
   exact(dG _).bind fun _ _=>Bd.ite ((h6 _ _).bind fun _ _=>h5 _ _) .ok
  ·simp only[bu]
   exact(h1 _).bind fun _ _=>h7 _ _ _
  ·simp only[ej]
   exact Bd.ite .ok ((h6 _ _).bind fun _ _=>h7 _ _ _)
theorem jN(n:Nat)(k:Int)(s:RS):Bd (bu L n k s):=(EN L n).2.2.2.2.2.1 k s
theorem J2(n:Nat)(id p:Int)(s:RS):Bd (jD L n id p s):=by
 unfold jD;exact(jM _).bind fun _ _=>(be _).bind fun _ _=>(pX _ _).bind fun _ _=>Bd.ite ((be _).bind fun _ _=>(jM _).bind fun _ _=>(be _).bind fun _ _=>(be _).bind fun _ _=> .ok) ((dG _).bind fun _ _=>Bd.ite ((jN L _ _ _).bind fun _ _=>(be _).bind fun _ _=> .ok) ((be _).bind fun _ _=> .ok))
theorem EO(n:Nat)(id p:Int)(s:RS):Bd (du L n id p s):=by
 obtain⟨_,h2,h3,_⟩:=EN L n;unfold du;exact(jM _).bind fun _ _=>Bd.ite ((h3 _ _ _).bind fun _ _=>(be _).bind fun _ _=> .ok) (Bd.ite ((h2 _).bind fun _ _=>(be _).bind fun _ _=>(jN L _ _ _).bind fun _ _=>(be _).bind fun _ _=> .ok) ((be _).bind fun _ _=>(jN L _ _ _).bind fun _ _=>(be _).bind fun _ _=> .ok))
theorem Ar:∀n,(∀s,Bd (bU L n s))∧(∀l s,Bd (dw L n l s))∧(∀s,Bd (fE L n s))
 |0=>⟨fun _=> .out,fun _ _=> .out,fun _=> .out⟩
 |n+1=>by
  obtain⟨h1,h2,h3⟩:=Ar n;refine⟨fun s=> ?_,fun l s=> ?_,fun s=> ?_⟩
  ·simp only[bU]
   exact(be _).bind fun _ _=>(h2 _ _).bind fun _ _=>(be _).bind fun _ _=> .ok
  ·simp only[dw]
   exact Bd.ite .ok ((h3 _).bind fun _ _=>h2 _ _)
  ·simp only[fE]
   refine(dG _).bind fun _ _=>Bd.ite ((J2 L _ _ _ _).bind fun _ _=> .ok) ((dG _).bind fun _ _=>Bd.ite ((jN L _ _ _).bind fun _ _=>(h1 _).bind fun _ _=>(dG _).bind fun _ _=>Bd.ite ((h1 _).bind fun _ _=> .ok) .ok) ?_)
   refine(dG _).bind fun _ _=>Bd.ite ((jN L _ _ _).bind fun _ _=>(h1 _).bind fun _ _=> .ok) ((dG _).bind fun _ _=>Bd.ite (Bd.ite ((be _).bind fun _ _=> .ok) ((jN L _ _ _).bind fun _ _=>(be _).bind fun _ _=> .ok)) ?_)
   exact(dG _).bind fun _ _=>Bd.ite ((jN L _ _ _).bind fun _ _=>(be _).bind fun _ _=> .ok) ((EO L _ _ _ _).bind fun _ _=> .ok)
theorem xE(s:RS):Bd (f4 L s):=(jM _).bind fun _ _=>(be _).bind fun _ _=>(pX _ _).bind fun _ _=> .ok
theorem xF:∀(n:Nat)(l:List Pm)(s:RS),Bd (dx L n l s)
 |0,_,_=> .out
 |n+1,l,s=>by
  simp only[dx];exact(dG _).bind fun _ _=>Bd.ite ((xE L _).bind fun _ _=>xF n _ _) .ok
theorem HN(n:Nat)(s:RS):Bd (vE L n s):=by
 have B:=(Ar L n).1;unfold vE dK;exact(be _).bind fun _ _=>(jM _).bind fun _ _=>Bd.bind ((be _).bind fun _ _=>Bd.ite ((be _).bind fun _ _=> .ok) ((xE L _).bind fun _ _=>(xF L _ _ _).bind fun _ _=>(be _).bind fun _ _=> .ok)) fun _ _=>(dG _).bind fun _ _=>Bd.ite ((pX _ _).bind fun _ _=>(B _).bind fun _ _=> .ok) ((B _).bind fun _ _=> .ok)
theorem EP(N:Nat):∀(n:Nat)(l:List Fn)(s:RS),Bd (kL L N n l s)
 |0,_,_=> .out
 |n+1,l,s=>by
  simp only[kL];exact Bd.ite .ok ((HN L N s).bind fun _ _=>EP N n _ _)
theorem GO(n:Nat):Bd (gF L n):=by
 unfold gF;exact(HN L n _).bind fun _ _=>EP L n n _ _
end
end Go.Avm
namespace Go.Avm
open Go.Proofs
theorem Au:∀(ps:List Pm)(k:Nat)(had:List (List UInt8))(u:Unit),nJ k had ps= .ok u→(k≤6→k+ps.length≤6)∧(ps.map (·.nm)).Nodup∧∀p∈ps,p.nm∉had
 |[],k,had,u,_=>⟨fun h=>h,List.nodup_nil,fun _ h=>by cases h⟩
 |p::r,k,had,u,h=>by
  simp only[nJ]at h;cases h6:decide (6≤k)with
  |true=>rw[h6]at h;cases h
  |false=>
   rw[h6]at h;have h6:=of_decide_eq_false h6;cases hh:had.any (· ==p.nm)with
   |true=>rw[hh]at h;cases h
   |false=>
    rw[hh]at h;obtain⟨g1,g2,g3⟩:=Au r (k+1) (had ++[p.nm]) u h;refine⟨fun _=>by have:=g1 (by omega);simp only[List.length_cons];omega, ?_, ?_⟩
    ·rw[List.map_cons,List.nodup_cons]
     refine⟨fun hm=> ?_,g2⟩;obtain⟨q,hq,he⟩:=List.mem_map.1 hm;exact g3 q hq (by rw[he];simp)
    ·intro q hq
     rcases List.mem_cons.1 hq with rfl|hq
     ·intro hm
      have:had.any (· ==q.nm)=true:=List.any_eq_true.2 ⟨_,hm,by simp⟩;rw[hh]at this;cases this
     ·exact fun hm=>g3 q hq (List.mem_append_left _ hm)
theorem Av:∀(ps:List Pm)(k:Nat)(had:List (List UInt8)),nJ k had ps≠ .out
 |[],_,_=>by simp[nJ]
 |p::r,k,had=>by
  simp only[nJ];exact eM eN (eM eN (Av r _ _))
theorem tV:∀(fs pre:List Fn)(u:Unit),fH pre fs= .ok u→∀f∈fs,f.ps.length≤6∧(f.ps.map (·.nm)).Nodup
 |[],_,_,_,_,h=>by cases h
 |f::r,pre,u,h,g,hg=>by
  simp only[fH]at h;cases hf:(dC f.nm pre 0).isSome with
  |true=>rw[hf]at h;cases h
  |false=>
   rw[hf]at h;simp only[cond_false]at h;cases hp:nJ 0 [] f.ps with
   |out=>rw[hp]at h;cases h
   |bad p e=>rw[hp]at h;cases h
   |ok v=>
    rw[hp]at h;rcases List.mem_cons.1 hg with rfl|hg
    ·obtain⟨g1,g2,_⟩:=Au _ _ _ _ hp
     exact⟨by have:=g1 (by omega);omega,g2⟩
    ·exact tV r _ u h g hg
theorem tW:∀(fs pre:List Fn),fH pre fs≠ .out
 |[],_=>by simp[fH]
 |f::r,pre=>by
  simp only[fH];exact eM eN (TR.bind_ne (Av _ _ _) fun _=>tW r _)
theorem tX(fs:List Fn):gC fs≠ .out:=by
 unfold gC;refine TR.bind_ne (tW _ _) fun _=> ?_
 split
 ·exact eN
 ·exact eM fQ eN
theorem oP{fs:List Fn}{u:Unit}(h:gC fs= .ok u):∀f∈fs,f.ps.length≤6∧(f.ps.map (·.nm)).Nodup:=by
 unfold gC at h;cases hn:fH [] fs with
 |out=>rw[hn]at h;cases h
 |bad p e=>rw[hn]at h;cases h
 |ok v=>exact tV fs [] v hn
theorem si:∀(m:Nat)(l:List bt),cq l<m→m≤1000000→iO m l
 |0,_,h,_=>absurd h (Nat.not_lt_zero _)
 |m+1,l,h,hm=>by
  have hl:=xo l;refine⟨by omega,fun s hs=> ?_⟩;obtain⟨i,hi,he⟩:=List.getElem_of_mem hs;have hz:=xq (show l[i]? =some s by rw[List.getElem?_eq_getElem hi,he]);obtain⟨k,id,nm,ty,n,p,es,bd,el⟩:=s;simp only[sd]at hz;exact⟨si m bd (by omega) (by omega),si m el (by omega) (by omega)⟩
structure PG(fs:List Fn):Prop where
 z:gu fs<1000000
 g:∀f∈fs,mB f
 num:sQ fs 1 (-1)
theorem PG.fsOk{fs:List Fn}(h:PG fs){u:Unit}(hh:gC fs= .ok u):Dq fs 999999 where
 len:=Nat.lt_of_le_of_lt (se fs) h.z
 par:=fun f hf=>(oP hh f hf).1
 nod:=fun f hf=>(oP hh f hf).2
 nml:=fun f hf p hp=>by have:=((h.g f hf).ps p hp).1;omega
 sh:=fun f hf=>by
  obtain⟨i,hi,he⟩:=List.getElem_of_mem hf;have hz:=xt (show fs[i]? =some f by rw[List.getElem?_eq_getElem hi,he]);have:=h.z;unfold GH at hz;exact si _ _ (by omega) (by omega)
 m:=by decide
theorem vo(c:CS):∀ps:List Pm,(ps.foldl CS.par c).pts=c.pts
 |[]=>rfl
 |p::r=>vo (c.par p) r
theorem Aw{fs:List Fn}{i:Nat}(hi:i<fs.length){f:Fn}(hg:dL f.bd=true){pts:List Pt}{n a n' a':Int}(hn:n=(pts.length:Int))(hN:fM f.bd n a n' a')(hb:pts.length+cq f.bd<900000000):
    kU fs i f pts≠ .out∧∀q,kU fs i f pts= .ok q→(q.2.length:Int)=n'∧q.2.length≤pts.length+cq f.bd:=by
 have hp:=vo ⟨[],[],⟨[],0⟩,pts⟩ f.ps;unfold kU en;generalize f.ps.foldl CS.par ⟨[],[],⟨[],0⟩,pts⟩=c at hp;have hp:c.pts=pts:=hp;have g:=kY fs i hi f.bd 0 false c n a n' a' hg (by rw[hp];exact hn) hN (by rw[hp];exact hb);revert g;show NO n' (c.pts.length+cq f.bd) (bF fs i 0 false f.bd c)→_;dsimp only;cases bF fs i 0 false f.bd c with
 |out=>exact fun h=>h.elim
 |bad p e=>exact fun _=>⟨eN,fun _ h=>by cases h⟩
 |ok c2=>
  rintro⟨g1,g2⟩;rw[hp]at g2;simp only[TR.bind];cases (f.res==0||em f.bd)with
  |false=>exact⟨eN,fun _ h=>by cases h⟩
  |true=>exact⟨fQ,fun q h=>by cases h;exact⟨g1,g2⟩⟩
theorem tY{fs:List Fn}:∀(lB:List Fn)(i:Nat)(rows:List (List Vr))(pts:List Pt)(n a:Int),i+lB.length≤fs.length→(∀f∈lB,mB f)→sQ lB n a→n=(pts.length:Int)→pts.length+gu lB<900000000→cv fs i lB rows pts≠ .out
 |[],_,_,_,_,_,_,_,_,_,_=>by simp[cv]
 |f::r,i,rows,pts,n,a,hi,hg,hN,hn,hb=>by
  simp only[List.length_cons]at hi;simp only[gu,GH]at hb;cases hN with
  | @cons nm ps k bd p _ _ _ n1 a1 lb hNb hNr=>
  have hb:pts.length+(1+ps.length+cq bd+gu r)<900000000:=hb;obtain⟨g1,g2⟩:=Aw (fs:=fs) (i:=i) (by omega) (f:=⟨nm,ps,k,bd,p⟩) (hg _ (List.mem_cons_self ..)).bd hn hNb (by show pts.length+cq bd<_;omega);simp only[cv];revert g1 g2;cases kU fs i ⟨nm,ps,k,bd,p⟩ pts with
  |out=>exact fun h _=>absurd rfl h
  |bad p e=>exact fun _ _=>eN
  |ok q=>
   intro _ g2;obtain⟨g3,g4⟩:=g2 q rfl;have g4:q.2.length≤pts.length+cq bd:=g4;simp only[TR.bind];exact tY r (i+1) _ _ n1 a1 (by omega) (fun f hf=>hg f (List.mem_cons_of_mem _ hf)) hNr g3.symm (by omega)
theorem sj{fs:List Fn}(h:PG fs):eK fs≠ .out:=by
 unfold eK;exact TR.bind_ne (tX fs) fun _=>tY fs 0 [] [dU] 1 (-1) (by omega) h.g h.num rfl (by have:=h.z;simp only[List.length_cons,List.length_nil];omega)
theorem J3{fs:List Fn}(h:PG fs):aM Pg 13 [.agg [.ro (fs.map cW)]] (Dw (eK fs)):=by
 cases hh:gC fs with
 |ok u=>exact Jp (h.fsOk hh) (sj h)
 |out=>exact absurd hh (tX fs)
 |bad p e=>
  have len:=Nat.lt_of_le_of_lt (se fs) h.z;have ch:=Dk (fs:=fs) (nn:= .junk) (fun _=>rfl) len;unfold eK;rw[hh]at ch ⊢;simp only[M3]at ch;exact PU len p e fun rest=>w9 aA (ch rest) (rT fs rest)
theorem xG:∀(n:Nat)(r:List UInt8)(a:Nat)(ts:List (Nat×sP)),fI n r a= .ok ts→∀x∈ts,x.2.2.1.length≤r.length
 |0,r,a,ts,h,x,hx=>by
  simp only[fI,Except.ok.injEq]at h;subst h;cases hx
 |n+1,[],a,ts,h,x,hx=>by
  simp only[fI,Except.ok.injEq]at h;subst h;cases hx
 |n+1,b::r,a,ts,h,x,hx=>by
  rw[jK]at h;split at h
  ·cases h
  rename_i t ht;split at h
  ·cases h
  rename_i ts' hts;cases h;obtain⟨kd,tx,k⟩:=t;obtain⟨hp,_⟩:=r8 ht;rcases List.mem_cons.1 hx with rfl|hx
  ·exact hp.length_le
  ·have:=xG n _ _ _ hts x hx
   simp only[List.length_drop]at this;omega
theorem zg{s:List UInt8}(h:s.length≤20000){ts:List (Nat×sP)}(he:jR s= .ok ts):HK (cR ts s.length):=fun r=>by
 unfold bH;rw[List.getD_eq_getElem?_getD];cases hg:(cR ts s.length)[r.i]? with
 |none=>exact Nat.zero_le _
 |some x=>
  have hm:=List.mem_of_getElem? hg;rcases List.mem_append.1 hm with hm|hm
  ·obtain⟨y,hy,rfl⟩:=List.mem_map.1 hm
   have:=xG _ _ _ _ he y hy;simp only[List.length_drop]at this;show y.2.2.1.length≤20000;omega
  ·rw[List.mem_singleton.1 hm]
   exact Nat.zero_le _
end Go.Avm
namespace Go.Avm
open Go.Proofs
def xH(s:List UInt8):Except (Int×Int) (List Fn):=
 if 20000<s.length then .error (0,2)else match jR s with
  | .error (p,k)=> .error ((p:Int),k)
  | .ok ts=>match gF (cR ts s.length) (fuel (cR ts s.length))with
   | .ok l _=> .ok l
   | .bad p e _=> .error (p,e)
   | .out=> .error (0,1)
def zh(s:List UInt8):Except (Int×Int) (List Fn)→Prop
 | .error (q,e)=>ip s=[.agg [.ro []], .int .i64 q, .int .i64 e]∧e≠0
 | .ok l=>ip s=[.agg [.ro (l.map cW)], .int .i64 0, .int .i64 0]∧PG l
theorem Ax(s:List UInt8):zh s (xH s):=by
 unfold xH;have hq:∀x:Except (Int×Int) (List Fn),zh s x=zh s x:=fun _=>rfl
 by_cases h:20000<s.length
 ·rw[if_pos h]
  exact⟨by unfold ip;rw[if_pos h],by decide⟩
 ·rw[if_neg h]
  have hp:ip s=match jR s with
   | .error (p,k)=>[.agg [.ro []], .int .i64 (p:Int), .int .i64 k]
   | .ok ts=>D1 (zb ts s.length):=by unfold ip;rw[if_neg h];try rfl
  cases he:jR s with
  |error e=>
   obtain⟨p,k⟩:=e;rw[he]at hp;exact⟨hp,oN _ _ _ _ _ he⟩
  |ok ts=>
   rw[he]at hp;have hl:=tR he;have hok:=tQ (ts:=ts) (n:=s.length) (by omega);obtain⟨r1,r2⟩:=xy s.length (zd he);have hno:=Ab hok (gd ts s.length);dsimp only at hp ⊢;unfold zb at hp;cases hs:gF (cR ts s.length) (fuel (cR ts s.length))with
   |ok l s'=>
    rw[hs]at hp;exact⟨hp,zf hok (gd _ _) hs,GL (zg (by omega) he) _ l s' hs,(EK hok r2 (gd _ _) (r1 0 (gd _ _)) hs).2⟩
   |bad p e s'=>
    rw[hs]at hp;exact⟨hp,GO _ _ _ _ _ hs⟩
   |out=>exact absurd hs hno
def jm(s:List UInt8):List D:=match xH s with
 | .error (q,e)=>[.agg [.ro []], .agg [.ro [], .ro []], .int .i64 q, .int .i64 e]
 | .ok l=> .agg [.ro (l.map cW)]::Dw (eK l)
section
variable{s:List UInt8}
theorem Pj{q e:Int}(hp:aM Pg 12 [.str s] [.agg [.ro []], .int .i64 q, .int .i64 e])(he:(e !=0)=true):aM Pg 9 [.str s] [.agg [.ro []], .agg [.ro [], .ro []], .int .i64 q, .int .i64 e]:=
 qV {hint:=qT 9 [(12, .call 12 _ _ hp),(17,qB he)]} 709297
theorem ML{l:List Fn}{a b:List D}{q e:Int}(hp:aM Pg 12 [.str s] [.agg [.ro (l.map cW)], .int .i64 0, .int .i64 0])(hc:aM Pg 13 [.agg [.ro (l.map cW)]] [.agg [.ro a, .ro b], .int .i64 q, .int .i64 e]):aM Pg 9 [.str s] [.agg [.ro (l.map cW)], .agg [.ro a, .ro b], .int .i64 q, .int .i64 e]:=
 qV {hint:=qT 9 [(12, .call 12 _ _ hp),(24, .call 13 _ _ hc)]} 709297
end
theorem vw(s:List UInt8):aM Pg 9 [.str s] (jm s):=by
 have hp:=BB s;have hr:=Ax s;unfold jm;cases h:xH s with
 |error x=>
  obtain⟨q,e⟩:=x;rw[h]at hr;obtain⟨h1,h2⟩:=hr;rw[h1]at hp;exact Pj hp (by simpa using h2)
 |ok l=>
  rw[h]at hr;obtain⟨h1,h2⟩:=hr;rw[h1]at hp;have hc:=J3 h2;have hn:=sj h2;dsimp only;revert hc hn;cases eK l with
  |out=>exact fun _ h=>absurd rfl h
  |ok q=>exact fun hc _=>ML hp hc
  |bad p e=>exact fun hc _=>ML hp hc
end Go.Avm
namespace Go.Avm
open Go.Proofs
set_option maxRecDepth 100000 in
theorem Pk:aM Pg 9 [.str [102,110,32,109,97,105,110,40,41,58,32,105,110,116,32,123,32,108,101,116,32,120,58,32,105,110,116,59,32,105,102,32,116,114,117,101,32,123,32,120,32,61,32,49,59,32,125,32,114,101,116,117,114,110,32,120,59,32,125]] [.agg [.ro [.agg [.str [109,97,105,110], .ro [], .int .u8 1, .ro [.agg [.int .u8 1, .int .i64 1, .str [120], .int .u8 1, .int .i64 0, .int .i64 17, .ro [], .ro [], .ro []], .agg [.int .u8 4, .int .i64 2, .str [], .int .u8 0, .int .i64 0, .int .i64 29, .ro [.agg [.int .u8 2, .int .u8 0, .str [], .int .i64 1, .int .i64 32, .ro []]], .ro [.agg [.int .u8 2, .int .i64 3, .str [120], .int .u8 0, .int .i64 0, .int .i64 39, .ro [.agg [.int .u8 1, .int .u8 0, .str [], .int .i64 1, .int .i64 43, .ro []]], .ro [], .ro []]], .ro []], .agg [.int .u8 6, .int .i64 4, .str [], .int .u8 0, .int .i64 0, .int .i64 48, .ro [.agg [.int .u8 3, .int .u8 0, .str [120], .int .i64 0, .int .i64 55, .ro []]], .ro [], .ro []]], .int .i64 0]]], .agg [.ro [], .ro []], .int .i64 55, .int .i64 10]:=by
 have h:=vw [102,110,32,109,97,105,110,40,41,58,32,105,110,116,32,123,32,108,101,116,32,120,58,32,105,110,116,59,32,105,102,32,116,114,117,101,32,123,32,120,32,61,32,49,59,32,125,32,114,101,116,117,114,110,32,120,59,32,125];rw[show jm [102,110,32,109,97,105,110,40,41,58,32,105,110,116,32,123,32,108,101,116,32,120,58,32,105,110,116,59,32,105,102,32,116,114,117,101,32,123,32,120,32,61,32,49,59,32,125,32,114,101,116,117,114,110,32,120,59,32,125]=[.agg [.ro [.agg [.str [109,97,105,110], .ro [], .int .u8 1, .ro [.agg [.int .u8 1, .int .i64 1, .str [120], .int .u8 1, .int .i64 0, .int .i64 17, .ro [], .ro [], .ro []], .agg [.int .u8 4, .int .i64 2, .str [], .int .u8 0, .int .i64 0, .int .i64 29, .ro [.agg [.int .u8 2, .int .u8 0, .str [], .int .i64 1, .int .i64 32, .ro []]], .ro [.agg [.int .u8 2, .int .i64 3, .str [120], .int .u8 0, .int .i64 0, .int .i64 39, .ro [.agg [.int .u8 1, .int .u8 0, .str [], .int .i64 1, .int .i64 43, .ro []]], .ro [], .ro []]], .ro []], .agg [.int .u8 6, .int .i64 4, .str [], .int .u8 0, .int .i64 0, .int .i64 48, .ro [.agg [.int .u8 3, .int .u8 0, .str [120], .int .i64 0, .int .i64 55, .ro []]], .ro [], .ro []]], .int .i64 0]]], .agg [.ro [], .ro []], .int .i64 55, .int .i64 10] by kernel_rfl]at h;exact h
set_option maxRecDepth 100000 in
theorem Pn:aM Pg 9 [.str [102,110,32,109,97,105,110,40,41,58,32,105,110,116,32,123,32,108,101,116,32,120,58,32,105,110,116,59,32,105,102,32,116,114,117,101,32,123,32,120,32,61,32,49,59,32,125,32,101,108,115,101,32,123,32,120,32,61,32,50,59,32,125,32,114,101,116,117,114,110,32,120,59,32,125]] [.agg [.ro [.agg [.str [109,97,105,110], .ro [], .int .u8 1, .ro [.agg [.int .u8 1, .int .i64 1, .str [120], .int .u8 1, .int .i64 0, .int .i64 17, .ro [], .ro [], .ro []], .agg [.int .u8 4, .int .i64 2, .str [], .int .u8 0, .int .i64 0, .int .i64 29, .ro [.agg [.int .u8 2, .int .u8 0, .str [], .int .i64 1, .int .i64 32, .ro []]], .ro [.agg [.int .u8 2, .int .i64 3, .str [120], .int .u8 0, .int .i64 0, .int .i64 39, .ro [.agg [.int .u8 1, .int .u8 0, .str [], .int .i64 1, .int .i64 43, .ro []]], .ro [], .ro []]], .ro [.agg [.int .u8 2, .int .i64 4, .str [120], .int .u8 0, .int .i64 0, .int .i64 55, .ro [.agg [.int .u8 1, .int .u8 0, .str [], .int .i64 2, .int .i64 59, .ro []]], .ro [], .ro []]]], .agg [.int .u8 6, .int .i64 5, .str [], .int .u8 0, .int .i64 0, .int .i64 64, .ro [.agg [.int .u8 3, .int .u8 0, .str [120], .int .i64 0, .int .i64 71, .ro []]], .ro [], .ro []]], .int .i64 0]]], .agg [.ro [.ro [.agg [.str [120], .int .u8 1, .int .i64 0, .int .i64 1]]], .ro [.agg [.int .i64 0, .ro [], .ro []], .agg [.int .i64 0, .ro [], .ro []], .agg [.int .i64 0, .ro [.int .i64 0], .ro []], .agg [.int .i64 0, .ro [.int .i64 0], .ro []], .agg [.int .i64 0, .ro [.int .i64 0], .ro []], .agg [.int .i64 0, .ro [.int .i64 0], .ro [.int .i64 0]]]], .int .i64 0, .int .i64 0]:=by
 have h:=vw [102,110,32,109,97,105,110,40,41,58,32,105,110,116,32,123,32,108,101,116,32,120,58,32,105,110,116,59,32,105,102,32,116,114,117,101,32,123,32,120,32,61,32,49,59,32,125,32,101,108,115,101,32,123,32,120,32,61,32,50,59,32,125,32,114,101,116,117,114,110,32,120,59,32,125];rw[show jm [102,110,32,109,97,105,110,40,41,58,32,105,110,116,32,123,32,108,101,116,32,120,58,32,105,110,116,59,32,105,102,32,116,114,117,101,32,123,32,120,32,61,32,49,59,32,125,32,101,108,115,101,32,123,32,120,32,61,32,50,59,32,125,32,114,101,116,117,114,110,32,120,59,32,125]=[.agg [.ro [.agg [.str [109,97,105,110], .ro [], .int .u8 1, .ro [.agg [.int .u8 1, .int .i64 1, .str [120], .int .u8 1, .int .i64 0, .int .i64 17, .ro [], .ro [], .ro []], .agg [.int .u8 4, .int .i64 2, .str [], .int .u8 0, .int .i64 0, .int .i64 29, .ro [.agg [.int .u8 2, .int .u8 0, .str [], .int .i64 1, .int .i64 32, .ro []]], .ro [.agg [.int .u8 2, .int .i64 3, .str [120], .int .u8 0, .int .i64 0, .int .i64 39, .ro [.agg [.int .u8 1, .int .u8 0, .str [], .int .i64 1, .int .i64 43, .ro []]], .ro [], .ro []]], .ro [.agg [.int .u8 2, .int .i64 4, .str [120], .int .u8 0, .int .i64 0, .int .i64 55, .ro [.agg [.int .u8 1, .int .u8 0, .str [], .int .i64 2, .int .i64 59, .ro []]], .ro [], .ro []]]], .agg [.int .u8 6, .int .i64 5, .str [], .int .u8 0, .int .i64 0, .int .i64 64, .ro [.agg [.int .u8 3, .int .u8 0, .str [120], .int .i64 0, .int .i64 71, .ro []]], .ro [], .ro []]], .int .i64 0]]], .agg [.ro [.ro [.agg [.str [120], .int .u8 1, .int .i64 0, .int .i64 1]]], .ro [.agg [.int .i64 0, .ro [], .ro []], .agg [.int .i64 0, .ro [], .ro []], .agg [.int .i64 0, .ro [.int .i64 0], .ro []], .agg [.int .i64 0, .ro [.int .i64 0], .ro []], .agg [.int .i64 0, .ro [.int .i64 0], .ro []], .agg [.int .i64 0, .ro [.int .i64 0], .ro [.int .i64 0]]]], .int .i64 0, .int .i64 0] by kernel_rfl]at h;exact h
set_option maxRecDepth 100000 in
theorem Po:aM Pg 9 [.str [102,110,32,109,97,105,110,40,41,58,32,105,110,116,32,123,32,114,101,116,117,114,110,32,49,59,32,112,114,105,110,116,32,50,59,32,125]] [.agg [.ro [.agg [.str [109,97,105,110], .ro [], .int .u8 1, .ro [.agg [.int .u8 6, .int .i64 1, .str [], .int .u8 0, .int .i64 0, .int .i64 17, .ro [.agg [.int .u8 1, .int .u8 0, .str [], .int .i64 1, .int .i64 24, .ro []]], .ro [], .ro []], .agg [.int .u8 7, .int .i64 2, .str [], .int .u8 0, .int .i64 0, .int .i64 27, .ro [.agg [.int .u8 1, .int .u8 0, .str [], .int .i64 2, .int .i64 33, .ro []]], .ro [], .ro []]], .int .i64 0]]], .agg [.ro [], .ro []], .int .i64 27, .int .i64 11]:=by
 have h:=vw [102,110,32,109,97,105,110,40,41,58,32,105,110,116,32,123,32,114,101,116,117,114,110,32,49,59,32,112,114,105,110,116,32,50,59,32,125];rw[show jm [102,110,32,109,97,105,110,40,41,58,32,105,110,116,32,123,32,114,101,116,117,114,110,32,49,59,32,112,114,105,110,116,32,50,59,32,125]=[.agg [.ro [.agg [.str [109,97,105,110], .ro [], .int .u8 1, .ro [.agg [.int .u8 6, .int .i64 1, .str [], .int .u8 0, .int .i64 0, .int .i64 17, .ro [.agg [.int .u8 1, .int .u8 0, .str [], .int .i64 1, .int .i64 24, .ro []]], .ro [], .ro []], .agg [.int .u8 7, .int .i64 2, .str [], .int .u8 0, .int .i64 0, .int .i64 27, .ro [.agg [.int .u8 1, .int .u8 0, .str [], .int .i64 2, .int .i64 33, .ro []]], .ro [], .ro []]], .int .i64 0]]], .agg [.ro [], .ro []], .int .i64 27, .int .i64 11] by kernel_rfl]at h;exact h
set_option maxRecDepth 100000 in
theorem Ay:aM Pg 8 [] [.bool true]:=
 bi aA named {hint:=qT 8 [(14, .call 9 _ _ Pk),(20, .call 9 _ _ Pn),(26, .call 9 _ _ Po)]} 2000 (by kernel_rfl)
end Go.Avm
namespace Go.Avm
open Go.Proofs
theorem MM{s:List UInt8}{P:D}{q e:Int}(hp:aM Pg 9 [.str s] [.agg [P], .agg [.ro [], .ro []], .int .i64 q, .int .i64 e])(he:(e !=0)=true):aM Pg 5 [.str s] [.bool true]:=
 qV {hint:=qT 5 [(13, .call 8 _ _ Ay),(17, .call 9 _ _ hp),(23,qB he)]} 709297
section
variable(rows pts:List D)(id:Nat)
abbrev BK:List (Nat×aK):=[(710156,⟨1,some (.arr 1 [.d (.ro rows), .d (.ro pts)])⟩)]
abbrev J4:List (Nat×AV):=[(4, .ptr 710156 1 0 0 1),(29, .d (.ro pts)),(30,dN pts.length),(31,dN id)]
abbrev xN(fn:Nat)(S U:List D):List (Nat×aK):=[(710156,⟨1,some (.arr 1 [.d (.ro rows), .d (.ro pts)])⟩),(600388,⟨1,some (.arr 1 [dN fn, .d (.ro S), .d (.ro U)])⟩)]
abbrev EQ(S:List D)(la:Int)(k j:Nat):List (Nat×AV):=[(4, .ptr 710156 1 0 0 1),(7,dN id),(8, .ptr 600388 1 0 0 1),(9,dI la),(10,dN k),(29, .d (.ro pts)),(30,dN pts.length),(31,dN id),(37, .d (.ro S)),(38,dN S.length),(39,dN j)]
abbrev MN(k:Nat):List (Nat×AV):=[(4, .ptr 710156 1 0 0 1),(8, .ptr 600388 1 0 0 1),(10,dN k),(29, .d (.ro pts)),(30,dN pts.length),(31,dN id)]
section
variable(fn:Nat)(S U:List D)(la:Int)(k j:Nat)
theorem MO(h:decide (j<S.length)=false):RE 95 (lO 5 12) (EQ pts id S la k j) (xN rows pts fn S U) (.exit 2) (MN pts id k) (xN rows pts fn S U):=
 qE {hint:=qT 5 [(40,jE Pg j S.length false h)]} 5 600000
section
variable(h:decide (j<S.length)=true)(v:Nat)(hv:S[((j:Nat):Int).toNat]? =some (.int .i64 (v:Int)))(h1:decide ((v:Int)≤la)=false)(vs:List D)(hr:rows[((fn:Nat):Int).toNat]? =some (.ro vs))(h2:decide ((vs.length:Int)≤(v:Int))=false)(x0 x1 x2:D)(st:Int)(hx:vs[((v:Nat):Int).toNat]? =some (.agg [x0,x1,x2, .int .i64 st]))(h3:decide ((id:Int)≤st)=false)(hj:j<1000000)
include h hv h1 hr h2 hx h3 hj
section
variable(hk:decide (k<U.length)=true)(w:Nat)(hw:U[((k:Nat):Int).toNat]? =some (.int .i64 (w:Int)))
include hk w hw
theorem Pq(he:((w:Int)==(v:Int))=true)(hk2:k<1000000):RE 95 (lO 5 12) (EQ pts id S la k j) (xN rows pts fn S U) .normal (EQ pts id S (v:Int) (k+1) (j+1)) (xN rows pts fn S U):=
 qE {hint:=qT 5 [(40,jE Pg j S.length true h),(41, .idx S ((j:Nat):Int) _ (by omega) hv),(45,qB h1),(52, .idx rows ((fn:Nat):Int) _ (by omega) hr),(55,qB h2),(62, .idx rows ((fn:Nat):Int) _ (by omega) hr),(65, .idx vs ((v:Nat):Int) _ (by omega) hx),(69,qB h3),(76,jE Pg k U.length true hk),(81, .idx U ((k:Nat):Int) _ (by omega) hw),(84,qB he),(87,cT Pg k (by omega)),(88,cT Pg j (by omega))]} 5 600000
theorem Pr(he:((w:Int)==(v:Int))=false):RE 95 (lO 5 12) (EQ pts id S la k j) (xN rows pts fn S U) .normal (EQ pts id S (v:Int) k (j+1)) (xN rows pts fn S U):=
 qE {hint:=qT 5 [(40,jE Pg j S.length true h),(41, .idx S ((j:Nat):Int) _ (by omega) hv),(45,qB h1),(52, .idx rows ((fn:Nat):Int) _ (by omega) hr),(55,qB h2),(62, .idx rows ((fn:Nat):Int) _ (by omega) hr),(65, .idx vs ((v:Nat):Int) _ (by omega) hx),(69,qB h3),(76,jE Pg k U.length true hk),(81, .idx U ((k:Nat):Int) _ (by omega) hw),(84,qB he),(88,cT Pg j (by omega))]} 5 600000
end
theorem MP(hk:decide (k<U.length)=false):RE 95 (lO 5 12) (EQ pts id S la k j) (xN rows pts fn S U) .normal (EQ pts id S (v:Int) k (j+1)) (xN rows pts fn S U):=
 qE {hint:=qT 5 [(40,jE Pg j S.length true h),(41, .idx S ((j:Nat):Int) _ (by omega) hv),(45,qB h1),(52, .idx rows ((fn:Nat):Int) _ (by omega) hr),(55,qB h2),(62, .idx rows ((fn:Nat):Int) _ (by omega) hr),(65, .idx vs ((v:Nat):Int) _ (by omega) hx),(69,qB h3),(76,jE Pg k U.length false hk),(88,cT Pg j (by omega))]} 5 600000
end
end
noncomputable def Pu{rows pts:List D}{id fn:Nat}{S U:List D}{k:Nat}(h:RL 95 (lO 5 12) (EQ pts id S (-1) 0 0) (xN rows pts fn S U) (.exit 2) (MN pts id k) (xN rows pts fn S U)):dJ Pg:=
 ⟨95,bV Pg 5 12,EQ pts id S (-1) 0 0,fun _=>xN rows pts fn S U, .exit 2,MN pts id k,fun _=>xN rows pts fn S U,fun rest X hP hN=>(h rest X hP hN).aw⟩
theorem Pv(h:decide (id<pts.length)=true)(fn:Nat)(S U:List D)(hp:pts[((id:Nat):Int).toNat]? =some (.agg [.int .i64 (fn:Int), .ro S, .ro U]))(hi:id<1000000000)
    (hc:RL 95 (lO 5 12) (EQ pts id S (-1) 0 0) (xN rows pts fn S U) (.exit 2) (MN pts id U.length) (xN rows pts fn S U)):RE 95 (lO 5 7) (J4 pts id) (BK rows pts) .normal (J4 pts (id+1)) (BK rows pts):=
 qE {loops:=fun g q=>if g=5 then (if q=12 then some (Pu hc)else none)else none,hint:=qT 5 [(32,jE Pg id pts.length true h),(34, .idx pts ((id:Nat):Int) _ (by omega) hp),(93,hB Pg ((U.length:Int) !=(U.length:Int)) false (by simp)),(94,cT Pg id (by omega))]} 5 600000
theorem MQ(h:decide (id<pts.length)=false):RE 95 (lO 5 7) (J4 pts id) (BK rows pts) (.exit 0) [] (BK rows pts):=
 qE {hint:=qT 5 [(32,jE Pg id pts.length false h)]} 5 600000
end
noncomputable def Pw{rows pts:List D}(h:RL 95 (lO 5 7) (J4 pts 0) (BK rows pts) (.exit 0) [] (BK rows pts)):dJ Pg:=
 ⟨95,bV Pg 5 7,J4 pts 0,fun _=>BK rows pts, .exit 0,[],fun _=>BK rows pts,fun rest X hP hN=>(h rest X hP hN).aw⟩
theorem Px{s:List UInt8}{P:D}{a b:List D}(hp:aM Pg 9 [.str s] [.agg [P], .agg [.ro a, .ro b], .int .i64 0, .int .i64 0])
    (h:RL 95 (lO 5 7) (J4 b 0) (BK a b) (.exit 0) [] (BK a b)):aM Pg 5 [.str s] [.bool true]:=
 qV {loops:=fun g q=>if g=5 then (if q=7 then some (Pw h)else none)else none,hint:=qT 5 [(13, .call 8 _ _ Ay),(17, .call 9 _ _ hp)]} 709297
end Go.Avm
