/-
  The scanner of texts, part J: a number is next.
-/
import Derived.Test.YtcjiafanhlhdlaaGreatDoorG12
import Derived.Test.YtcjiafanhlhdlaaGreatDoorG08
import Derived.Test.YtcjiafanhlhdlaaGreatDoorG11
set_option linter.unusedVariables false
set_option linter.unusedSimpArgs false
set_option linter.unusedSectionVars false
namespace Go.Avm
open Go.Proofs
def cM(s:List UInt8)(a:Nat):List UInt8:=sub s a (a+fU bx (s.drop a))
section
variable(w:Bool)(s:List UInt8)(a v m:Nat)(l:List D)
noncomputable def u7(c b:UInt8)(ha:a<s.length)(hlen:s.length≤100000)(h0:(cM s a)[(0:Int).toNat]? =some c)(n:Int)(e:D)(hp:aK Pg 93 [.str (cM s a), .int .i64 10, .int .i64 64] [.int .i64 n,e])
    (hta:a+(cM s a).length≤1099511627776) (hl:l.length+1≤549755813888) (z y x u g k9:Bool) (hz:decide (1<((cM s a).length:Int))=z) (hy:((c.toNat:Int)==48)=y) (hx:decide (((a+(cM s a).length:Nat):Int)<(s.length:Int))=x)
    (hxb:x=true→s[((a+(cM s a).length:Nat):Int).toNat]? =some b) (hu:jb b=u) (hg:DQ 65 b=g) (hk:DR b 90=k9):Par Pg:=
 {hint:=fun f' k=>if f'=65 then (if k=11 then some (.call 93 [.str (cM s a), .int .i64 10, .int .i64 64] [.int .i64 n,e] hp)else if k=20 then some (PR Pg a (cM s a).length hta)else if k=27 then some (hB Pg _ z hz)
     else if k=30 then some (.sidx (cM s a) 0 c (by omega) h0)else if k=31 then some (hB Pg _ y hy)else if k=40 then some (hB Pg _ x hx)
     else if k=47 then (if h:x=true then some (.sidx s ((a+(cM s a).length:Nat):Int) b (by omega) (hxb h))else none)else if k=55 then (if h:x=true then some (.sidx s ((a+(cM s a).length:Nat):Int) b (by omega) (hxb h))else none)
     else if k=63 then (if h:x=true then some (.sidx s ((a+(cM s a).length:Nat):Int) b (by omega) (hxb h))else none)else if k=48 then some (.call 66 [bD b] [.bool u] (hu▸Qt b))else if k=56 then some (hB Pg _ g hg)else if k=64 then some (hB Pg _ k9 hk)else none)else none
  calls:=fun f' k _=>if f'=65 then (if k=8 then some (Kt w s a v l 64 (by simp) bx Gk hlen (by omega))else if k=72 then some (u5 w s a v m l 3 n (cM s a) hl hta)else none)else none}
def AU(z y x u g k9:Bool):Bool:=(z&&y)||(x&&(u||(g&&k9)))
section
variable(c b:UInt8)(ha:a<s.length)(hlen:s.length≤100000)(h0:(cM s a)[(0:Int).toNat]? =some c)(n:Int)
include c b ha hlen h0 n
theorem GH(hp:aK Pg 93 [.str (cM s a), .int .i64 10, .int .i64 64] [.int .i64 n, .ifc])(hta:a+(cM s a).length≤1099511627776)(hl:l.length+1≤549755813888)(hxb:decide (((a+(cM s a).length:Nat):Int)<(s.length:Int))=true→s[((a+(cM s a).length:Nat):Int).toNat]? =some b)(rest:ab):
    ay Pg 65 [fX] (al (er w s a v m l) rest) [dI 2] (al (er w s a v m l) rest):=by
 cases w with
 |false=>exact ap aD named (u7 false s a v m l c b ha hlen h0 n .ifc hp hta hl _ _ _ _ _ _ rfl rfl rfl hxb rfl rfl rfl) 1000 150000 65 (by kernel_rfl)
 |true=>exact ap aD named (u7 true s a v m l c b ha hlen h0 n .ifc hp hta hl _ _ _ _ _ _ rfl rfl rfl hxb rfl rfl rfl) 1000 150000 65 (by kernel_rfl)
theorem Jl(hp:aK Pg 93 [.str (cM s a), .int .i64 10, .int .i64 64] [.int .i64 n, .nili])(hta:a+(cM s a).length≤1099511627776)(hl:l.length+1≤549755813888)(z y x u g k9:Bool)(hz:decide (1<((cM s a).length:Int))=z)(hy:((c.toNat:Int)==48)=y)(hx:decide (((a+(cM s a).length:Nat):Int)<(s.length:Int))=x)(hxb:x=true→s[((a+(cM s a).length:Nat):Int).toNat]? =some b)(hu:jb b=u)(hg:DQ 65 b=g)(hk:DR b 90=k9)(hbad:AU z y x u g k9=true)(rest:ab):
    ay Pg 65 [fX] (al (er w s a v m l) rest) [dI 4] (al (er w s a v m l) rest):=by
 cases w with
 |false=>cases z<;>cases y<;>cases x<;>cases u<;>cases g<;>cases k9<;>first|exact absurd hbad (by decide)|exact ap aD named (u7 false s a v m l c b ha hlen h0 n .nili hp hta hl _ _ _ _ _ _ hz hy hx hxb hu hg hk) 1000 150000 65 (by kernel_rfl)
 |true=>cases z<;>cases y<;>cases x<;>cases u<;>cases g<;>cases k9<;>first|exact absurd hbad (by decide)|exact ap aD named (u7 true s a v m l c b ha hlen h0 n .nili hp hta hl _ _ _ _ _ _ hz hy hx hxb hu hg hk) 1000 150000 65 (by kernel_rfl)
theorem PZ(hp:aK Pg 93 [.str (cM s a), .int .i64 10, .int .i64 64] [.int .i64 n, .nili])(hta:a+(cM s a).length≤1099511627776)(hl:l.length+1≤549755813888)(z y x u g k9:Bool)(hz:decide (1<((cM s a).length:Int))=z)(hy:((c.toNat:Int)==48)=y)(hx:decide (((a+(cM s a).length:Nat):Int)<(s.length:Int))=x)(hxb:x=true→s[((a+(cM s a).length:Nat):Int).toNat]? =some b)(hu:jb b=u)(hg:DQ 65 b=g)(hk:DR b 90=k9)(hbad:AU z y x u g k9=false)(rest:ab):
    ay Pg 65 [fX] (al (er w s a v m l) rest) [dI 0] (al (er w s (a+(cM s a).length) (v+1) m (l ++[oM 3 a (cM s a) n])) rest):=by
 cases w with
 |false=>cases z<;>cases y<;>cases x<;>cases u<;>cases g<;>cases k9<;>first|exact absurd hbad (by decide)|exact ap aD named (u7 false s a v m l c b ha hlen h0 n .nili hp hta hl _ _ _ _ _ _ hz hy hx hxb hu hg hk) 1000 150000 65 (by kernel_rfl)
 |true=>cases z<;>cases y<;>cases x<;>cases u<;>cases g<;>cases k9<;>first|exact absurd hbad (by decide)|exact ap aD named (u7 true s a v m l c b ha hlen h0 n .nili hp hta hl _ _ _ _ _ _ hz hy hx hxb hu hg hk) 1000 150000 65 (by kernel_rfl)
end
noncomputable def Jm(b:UInt8)(ha:a<s.length)(hb:s[((a:Nat):Int).toNat]? =some b)(h1:bx b=true)(C:fQ Pg):Par Pg:=
 {hint:=fun f' k=>if f'=38 then (if k=14 then some (.sidx s (a:Int) b (by omega) hb)else if k=17 then some (.call 64 [bD b] [.bool true] (h1▸Gk b))else none)else none
  calls:=fun f' k _=>if f'=38 then (if k=19 then some C else none)else none}
theorem tL(b:UInt8)(ha:a<s.length)(hb:s[((a:Nat):Int).toNat]? =some b)(h1:bx b=true)(k:Int)(hc:∀rest:ab,ay Pg 65 [fX] (al (er w s a v m l) rest) [dI k] (al (er w s a v m l) rest))(rest:ab):
    ay Pg 38 [fX] (al (er w s a v m l) rest) [dI k] (al (er w s a v m l) rest):=by
 cases w with
 |false=>exact ap aD named (Jm s a b ha hb h1 ⟨65,[fX],er false s a v m l,[dI k],er false s a v m l,gK hc⟩) 1000 130000 38 (by kernel_rfl)
 |true=>exact ap aD named (Jm s a b ha hb h1 ⟨65,[fX],er true s a v m l,[dI k],er true s a v m l,gK hc⟩) 1000 130000 38 (by kernel_rfl)
theorem Dx(b:UInt8)(ha:a<s.length)(hb:s[((a:Nat):Int).toNat]? =some b)(h1:bx b=true)(a' v':Nat)(l':List D)(hc:∀rest:ab,ay Pg 65 [fX] (al (er w s a v m l) rest) [dI 0] (al (er w s a' v' m l') rest))(rest:ab):
    ay Pg 38 [fX] (al (er w s a v m l) rest) [dI 0] (al (er w s a' v' m l') rest):=by
 cases w with
 |false=>exact ap aD named (Jm s a b ha hb h1 ⟨65,[fX],er false s a v m l,[dI 0],er false s a' v' m l',gK hc⟩) 1000 130000 38 (by kernel_rfl)
 |true=>exact ap aD named (Jm s a b ha hb h1 ⟨65,[fX],er true s a v m l,[dI 0],er true s a' v' m l',gK hc⟩) 1000 130000 38 (by kernel_rfl)
end
end Go.Avm
namespace Go.Avm
open Go.Proofs
abbrev jn:=Int×List UInt8×Int
def Cb(b:UInt8):Bool:=DQ 65 b&&DR b 90
def pG:List UInt8→Bool
 |[]=>false
 |b::_=>jb b||Cb b
def P0(b:UInt8):Bool:=decide (0≤AQ b)
def mu(b:UInt8)(r:List UInt8):List UInt8:=
 match r with
 |[]=>if P0 b then [b]else []
 |c::_=>if lL.contains [b,c]then [b,c]else if P0 b then [b]else []
def ef:List UInt8→Except Int jn
 |[]=> .error 4
 |b::r=>
  if bx b then
   if 9223372036854775808≤dv 0 ((b::r).takeWhile bx)then .error 2
   else if (decide (1<((b::r).takeWhile bx).length)&&b.toNat==48)||pG ((b::r).drop ((b::r).takeWhile bx).length)then .error 4
   else .ok (3,(b::r).takeWhile bx,dv 0 ((b::r).takeWhile bx))
  else if jb b then
   if fE ((b::r).takeWhile ju)then .ok (2,(b::r).takeWhile ju,0)
   else if 12<((b::r).takeWhile ju).length then .error 2 else .ok (1,(b::r).takeWhile ju,0)
  else if mu b r=[]then .error 4 else .ok (4,mu b r,0)
theorem Jn(p:UInt8→Bool)(l:List UInt8):l.take (l.takeWhile p).length=l.takeWhile p:=(List.prefix_iff_eq_take.1 (List.takeWhile_prefix p)).symm
theorem Kw(p:UInt8→Bool)(l:List UInt8):(l.takeWhile p).length≤l.length:=(List.takeWhile_sublist p).length_le
theorem GI(p:UInt8→Bool)(s:List UInt8)(a:Nat):sub s a (a+fU p (s.drop a))=(s.drop a).takeWhile p:=by
 unfold sub fU;rw[List.drop_take,Nat.add_sub_cancel_left,Jn]
theorem GJ(s:List UInt8)(a:Nat):rst s a=s.drop a:=by rw[rst,List.take_length]
theorem Jo(t:List UInt8)(k:Nat):pE t k=t.take k:=by rw[pE,List.drop_zero]
theorem GK(s:List UInt8)(a:Nat)(b:UInt8)(r:List UInt8)(h:s.drop a=b::r):tJ s a b=mu b r:=by
 unfold tJ mu;simp only[GJ,Jo,h];cases r with
 |nil=>simp[P0]
 |cons c r=>
  have:decide (2≤((b::c::r).length:Int))=true:=by simp only[List.length_cons,decide_eq_true_eq];omega
  rw[this,Bool.true_and];simp[P0]
theorem GL(p:UInt8→Bool)(b:UInt8)(r:List UInt8)(h:p b=true):∃t,(b::r).takeWhile p=b::t:=⟨r.takeWhile p,by simp[h]⟩
theorem GM(p:UInt8→Bool):∀(l:List UInt8),∀x∈l.takeWhile p,p x=true
 |[],x,hx=>by simp at hx
 |b::r,x,hx=>by
  by_cases hb:p b=true
  ·rw[List.takeWhile_cons,if_pos hb]at hx
   rcases List.mem_cons.1 hx with rfl|hx
   ·exact hb
   ·exact GM p r x hx
  ·rw[List.takeWhile_cons,if_neg hb]at hx
   simp at hx
theorem Dy{b:UInt8}(h:jb b=true):ju b=true:=by simp[ju,h]
theorem yX(b:UInt8)(r:List UInt8):mu b r<+:b::r:=by
 unfold mu;cases r with
 |nil=>dsimp only;split<;>simp
 |cons c r=>
  dsimp only;split
  ·exact⟨r,rfl⟩
  ·split
   ·exact⟨c::r,rfl⟩
   ·exact List.nil_prefix
theorem oP{b:UInt8}{r:List UInt8}{kd n:Int}{t:List UInt8}(h:ef (b::r)= .ok (kd,t,n)):t<+:b::r∧t≠[]:=by
 rw[ef]at h;split at h
 ·rename_i hd
  split at h
  ·cases h
  ·split at h
   ·cases h
   ·cases h
    refine⟨List.takeWhile_prefix _, ?_⟩;obtain⟨u,hu⟩:=GL bx b r hd;rw[hu];simp
 ·split at h
  ·rename_i hs
   obtain⟨u,hu⟩:=GL ju b r (Dy hs);split at h
   ·cases h
    exact⟨List.takeWhile_prefix _,by rw[hu];simp⟩
   ·split at h
    ·cases h
    ·cases h
     exact⟨List.takeWhile_prefix _,by rw[hu];simp⟩
  ·split at h
   ·cases h
   ·rename_i hne
    cases h;exact⟨yX b r,hne⟩
def yY(w:Bool)(s:List UInt8)(a v m:Nat)(l:List D):Except Int jn→Prop
 | .error k=>∃w' m',k≠0∧∀rest:ab,ay Pg 38 [fX] (al (er w s a v m l) rest) [dI k] (al (er w' s a v m' l) rest)
 | .ok (kd,t,n)=>∃w' m',∀rest:ab,ay Pg 38 [fX] (al (er w s a v m l) rest) [dI 0] (al (er w' s (a+t.length) (v+1) m' (l ++[oM kd a t n])) rest)
section
variable(w:Bool)(s:List UInt8)(a v m:Nat)(l:List D)
theorem Jp(b:UInt8)(r:List UInt8)(ha:a<s.length)(hr:s.drop a=b::r)(hb:s[((a:Nat):Int).toNat]? =some b)(hlen:s.length≤100000)(hl:l.length+1≤549755813888)(hd:bx b=true):yY w s a v m l (ef (b::r)):=by
 have hT:cM s a=(b::r).takeWhile bx:=by rw[cM,GI,hr]
 obtain⟨t,ht⟩:=GL bx b r hd;have hall:=GM bx (b::r);have hle:=Kw bx (b::r);have hrl:(b::r).length=s.length-a:=by rw[←hr,List.length_drop]
 have htl:a+(cM s a).length≤s.length:=by rw[hT];omega
 have h0:(cM s a)[(0:Int).toNat]? =some b:=by rw[hT,ht];rfl
 have hbeh:∀c,s[a+(cM s a).length]? =some c→(b::r).drop ((b::r).takeWhile bx).length=c::((b::r).drop ((b::r).takeWhile bx).length).tail:=fun c hc=>by
  have:((b::r).drop ((b::r).takeWhile bx).length).head? =some c:=by
   rw[hT,←hr]at hc;rw[List.head?_drop,←hr,List.getElem?_drop];exact hc
  cases hq:(b::r).drop ((b::r).takeWhile bx).length with
  |nil=>rw[hq]at this;simp at this
  |cons x y=>rw[hq]at this;simp at this;subst this;rfl
 by_cases hv:9223372036854775808≤dv 0 ((b::r).takeWhile bx)
 ·have e:ef (b::r)= .error 2:=by rw[ef,if_pos hd,if_pos hv]
  rw[e]
  obtain⟨c,hc⟩:∃c,decide (((a+(cM s a).length:Nat):Int)<(s.length:Int))=true→s[((a+(cM s a).length:Nat):Int).toNat]? =some c:=by
   by_cases hx:a+(cM s a).length<s.length
   ·exact⟨s[a+(cM s a).length],fun _=>by simp only[Int.toNat_natCast];exact List.getElem?_eq_getElem hx⟩
   ·exact⟨0,fun h=>by have:=of_decide_eq_true h;omega⟩
  refine⟨w,m,by decide,tL w s a v m l b ha hb hd 2 (GH w s a v m l b c ha hlen h0 9223372036854775807 ?_ (by omega) hl hc)⟩;rw[hT];rw[ht]at hv hall ⊢;exact GG b t hall (by rw[←ht];omega) hv
 ·have hp:aK Pg 93 [.str (cM s a), .int .i64 10, .int .i64 64] [.int .i64 (dv 0 (cM s a):Int), .nili]:=by
    rw[hT];rw[ht]at hv hall ⊢;exact Jk b t hall (by rw[←ht];omega) (by omega)
  obtain⟨c,x,hx,hxb,hlet⟩:∃c x,decide (((a+(cM s a).length:Nat):Int)<(s.length:Int))=x∧(x=true→s[((a+(cM s a).length:Nat):Int).toNat]? =some c)∧pG ((b::r).drop ((b::r).takeWhile bx).length)=(x&&(jb c||(DQ 65 c&&DR c 90))):=by
   by_cases hx:a+(cM s a).length<s.length
   ·have hg:s[a+(cM s a).length]? =some s[a+(cM s a).length]:=List.getElem?_eq_getElem hx
    refine⟨s[a+(cM s a).length],true,by simp only[decide_eq_true_eq];omega,fun _=>by simp only[Int.toNat_natCast];exact hg, ?_⟩;rw[hbeh _ hg];rfl
   ·refine⟨0,false,by simp only[decide_eq_false_iff_not];omega,fun h=>(by cases h), ?_⟩
    have:(b::r).drop ((b::r).takeWhile bx).length=[]:=List.drop_eq_nil_iff.2 (by rw[←hT];omega);rw[this];rfl
  have hz:decide (1<((cM s a).length:Int))=decide (1<((b::r).takeWhile bx).length):=by rw[hT];exact decide_eq_decide.2 (by omega)
  have hy:((b.toNat:Int)==48)=(b.toNat==48):=by
   rw[Bool.eq_iff_iff];simp only[beq_iff_eq];omega
  by_cases hbad:AU (decide (1<((b::r).takeWhile bx).length)) (b.toNat==48) x (jb c) (DQ 65 c) (DR c 90)=true
  ·have e:ef (b::r)= .error 4:=by
     rw[ef,if_pos hd,if_neg hv,if_pos];rw[hlet];exact hbad
   rw[e];exact⟨w,m,by decide,tL w s a v m l b ha hb hd 4 (Jl w s a v m l b c ha hlen h0 _ hp (by omega) hl _ _ _ _ _ _ hz hy hx hxb rfl rfl rfl hbad)⟩
  ·have e:ef (b::r)= .ok (3,(b::r).takeWhile bx,dv 0 ((b::r).takeWhile bx)):=by
     rw[ef,if_pos hd,if_neg hv,if_neg];rw[hlet];exact hbad
   rw[e,←hT];exact⟨w,m,Dx w s a v m l b ha hb hd _ _ _ (PZ w s a v m l b c ha hlen h0 _ hp (by omega) hl _ _ _ _ _ _ hz hy hx hxb rfl rfl rfl (by simpa only[Bool.not_eq_true]using hbad))⟩
theorem P1(b:UInt8)(r:List UInt8)(ha:a<s.length)(hr:s.drop a=b::r)(hlen:s.length≤100000)(hl:l.length+1≤549755813888):yY w s a v m l (ef (b::r)):=by
 have hb0:s[a]? =some b:=by
  have:(s.drop a)[0]? =some b:=by rw[hr];rfl
  rwa [List.getElem?_drop,Nat.add_zero]at this
 have hb:s[((a:Nat):Int).toNat]? =some b:=by simpa using hb0
 have hrl:(b::r).length=s.length-a:=by rw[←hr,List.length_drop]
 cases hd:bx b with
 |true=>exact Jp w s a v m l b r ha hr hb hlen hl hd
 |false=>
  cases hs:jb b with
  |true=>
   have hT:pB s a=(b::r).takeWhile ju:=by rw[pB,GI,hr]
   have hle:=Kw ju (b::r);have hta:a+(pB s a).length≤1099511627776:=by rw[hT];omega
   have e:ef (b::r)=(if fE (pB s a)then .ok (2,pB s a,0)else if 12<(pB s a).length then .error 2 else .ok (1,pB s a,0)):=by
    rw[ef,if_neg (by simp[hd]),if_pos hs,hT]
   rw[e];cases hu:fE (pB s a)with
   |true=>exact⟨_,_,Gs w s a v m l b ha hb hlen hd hs hu hl hta⟩
   |false=>
    rw[if_neg (by simp)];by_cases h12:12<(pB s a).length
    ·rw[if_pos h12]
     exact⟨_,_,by decide,Gu w s a v m l b ha hb hlen hd hs hu (by simp only[decide_eq_true_eq];omega) hl hta⟩
    ·rw[if_neg h12]
     exact⟨_,_,Gt w s a v m l b ha hb hlen hd hs hu (by simp only[decide_eq_false_iff_not];omega) hl hta⟩
  |false=>
   have e:ef (b::r)=(if mu b r=[]then .error 4 else .ok (4,mu b r,0)):=by
    rw[ef,if_neg (by simp[hd]),if_neg (by simp[hs])]
   have hT:=GK s a b r hr;have hb':(rst s a)[(0:Int).toNat]? =some b:=by rw[GJ,hr];rfl
   have hle:=(yX b r).length_le;rw[e];by_cases h0:mu b r=[]
   ·rw[if_pos h0]
    exact⟨_,_,by decide,GB w s a v m l b ha hb hb' hd hs _ hT (by rw[h0];rfl) hl (by omega)⟩
   ·rw[if_neg h0]
    exact⟨_,_,Gz w s a v m l b ha hb hb' hd hs _ hT (by simpa using h0) hl (by omega)⟩
end
end Go.Avm
namespace Go.Avm
open Go.Proofs
def cz:Nat→List UInt8→Nat→Except (Nat×Int) (List (Nat×jn))
 |0,_,_=> .ok []
 |_+1,[],_=> .ok []
 |n+1,b::r,a=>match ef (b::r)with
  | .error k=> .error (a,k)
  | .ok t=>match cz n (((b::r).drop t.2.1.length).drop (aF false ((b::r).drop t.2.1.length))) (a+t.2.1.length+aF false ((b::r).drop t.2.1.length))with
   | .error e=> .error e
   | .ok ts=> .ok ((a,t)::ts)
def eE(s:List UInt8):Except (Nat×Int) (List (Nat×jn)):=cz (s.length+1) (s.drop (aF false s)) (aF false s)
def tM(x:Nat×jn):D:=oM x.2.1 x.1 x.2.2.1 x.2.2.2
def Dz(s:List UInt8):List (Nat×AV):=[(0, .d (.str s)),(5,fX)]
section
variable(w w1:Bool)(s:List UInt8)(a v m:Nat)(l:List D)
noncomputable def yZ(ha:a<s.length)(a1 v1 m1:Nat)(l1:List D)(k:Int)(z:Bool)(hz:(k !=0)=z)(hlen:s.length≤100000)(ha1:a1≤s.length)(hc:∀rest:ab,ay Pg 38 [fX] (al (er w s a v m l) rest) [dI k] (al (er w1 s a1 v1 m1 l1) rest)):Par Pg:=
 {hint:=fun f' i=>if f'=21 then (if i=21 then some (qL ha)else if i=27 then some (hB Pg _ z hz)else none)else none
  calls:=fun f' i _=>if f'=21 then (if i=25 then some ⟨38,[fX],er w s a v m l,[dI k],er w1 s a1 v1 m1 l1,gK hc⟩else if i=23 then some (oO w1 s a1 v1 l1 hlen ha1)else none)else none}
theorem GN(ha:a<s.length)(a1 v1 m1:Nat)(l1:List D)(hlen:s.length≤100000)(ha1:a1≤s.length)(hc:∀rest:ab,ay Pg 38 [fX] (al (er w s a v m l) rest) [dI 0] (al (er w1 s a1 v1 m1 l1) rest))(rest:ab)(X:ce)(hP:X.P=Pg)(hN:X.N=39):
    AW X (lO 21 5) ⟨an (Dz s),al (er w s a v m l) rest⟩ fun e' S'=>e'= .normal∧Weak X S' ⟨an (Dz s),al (er w1 s (be s a1) v1 m1 l1) rest⟩:=by
 cases w with
 |false=>cases w1 with
  |false=>exact t6 aD named (yZ false false s a v m l ha a1 v1 m1 l1 0 false rfl hlen ha1 hc) 1000 21 300000 39 (by kernel_rfl) X hP hN
  |true=>exact t6 aD named (yZ false true s a v m l ha a1 v1 m1 l1 0 false rfl hlen ha1 hc) 1000 21 300000 39 (by kernel_rfl) X hP hN
 |true=>cases w1 with
  |false=>exact t6 aD named (yZ true false s a v m l ha a1 v1 m1 l1 0 false rfl hlen ha1 hc) 1000 21 300000 39 (by kernel_rfl) X hP hN
  |true=>exact t6 aD named (yZ true true s a v m l ha a1 v1 m1 l1 0 false rfl hlen ha1 hc) 1000 21 300000 39 (by kernel_rfl) X hP hN
theorem Jq(ha:a<s.length)(m1:Nat)(k:Int)(hk:k≠0)(hlen:s.length≤100000)(hc:∀rest:ab,ay Pg 38 [fX] (al (er w s a v m l) rest) [dI k] (al (er w1 s a v m1 l) rest))(rest:ab)(X:ce)(hP:X.P=Pg)(hN:X.N=39):
    AW X (lO 21 5) ⟨an (Dz s),al (er w s a v m l) rest⟩ fun e' S'=>e'= .ret∧Weak X S' ⟨an [(2, .nils),(3,dN a),(4,dI k)],al (er w1 s a v m1 l) rest⟩:=by
 cases w with
 |false=>cases w1 with
  |false=>exact t6 aD named (yZ false false s a v m l ha a v m1 l k true (by simpa using hk) hlen (by omega) hc) 1000 21 300000 39 (by kernel_rfl) X hP hN
  |true=>exact t6 aD named (yZ false true s a v m l ha a v m1 l k true (by simpa using hk) hlen (by omega) hc) 1000 21 300000 39 (by kernel_rfl) X hP hN
 |true=>cases w1 with
  |false=>exact t6 aD named (yZ true false s a v m l ha a v m1 l k true (by simpa using hk) hlen (by omega) hc) 1000 21 300000 39 (by kernel_rfl) X hP hN
  |true=>exact t6 aD named (yZ true true s a v m l ha a v m1 l k true (by simpa using hk) hlen (by omega) hc) 1000 21 300000 39 (by kernel_rfl) X hP hN
theorem GO(rest:ab)(X:ce)(hP:X.P=Pg)(hN:X.N=39):
    AW X (lO 21 5) ⟨an (Dz s),al (er w s s.length v m l) rest⟩ fun e' S'=>e'= .exit 0∧Weak X S' ⟨an (Dz s),al (er w s s.length v m l) rest⟩:=by
 cases w with
 |false=>exact t6 aD named {hint:=fun f' k=>if f'=21 then (if k=21 then some (qG s.length)else none)else none} 1000 21 300000 39 (by kernel_rfl) X hP hN
 |true=>exact t6 aD named {hint:=fun f' k=>if f'=21 then (if k=21 then some (qG s.length)else none)else none} 1000 21 300000 39 (by kernel_rfl) X hP hN
end
end Go.Avm
namespace Go.Avm
open Go.Proofs
def y8(w:Bool)(s:List UInt8)(a v m:Nat)(l:List D):Except (Nat×Int) (List (Nat×jn))→Prop
 | .error (p,k)=>∃w' v' m' l',RL 39 (lO 21 5) (Dz s) (er w s a v m l) .ret [(2, .nils),(3,dN p),(4,dI k)] (er w' s p v' m' l')
 | .ok ts=>(l ++ts.map tM).length≤s.length∧∃w' v' m',RL 39 (lO 21 5) (Dz s) (er w s a v m l) (.exit 0) (Dz s) (er w' s s.length v' m' (l ++ts.map tM))
theorem y9(s:List UInt8)(hlen:s.length≤100000):∀(n:Nat)(w:Bool)(a v m:Nat)(l:List D),a≤s.length→s.length<n+a→l.length≤a→y8 w s a v m l (cz n (s.drop a) a)
 |0,w,a,v,m,l,h1,h2,_=>by omega
 |n+1,w,a,v,m,l,h1,h2,h3=>by
  cases hr:s.drop a with
  |nil=>
   have:a=s.length:=by have:=List.drop_eq_nil_iff.1 hr;omega
   subst this;refine⟨by simpa [cz]using h3,w,v,m,fun rest X hP hN=> ?_⟩;simp only[cz,List.map_nil,List.append_nil];exact Av (GO w s v m l rest X hP hN) (by simp)
  |cons b r=>
   have ha:a<s.length:=by
    rcases Nat.lt_or_ge a s.length with h|h
    ·exact h
    ·rw[List.drop_eq_nil_iff.2 h]at hr;cases hr
   have hn:=P1 w s a v m l b r ha hr hlen (by omega);rw[cz];cases ht:ef (b::r)with
   |error k=>
    rw[ht]at hn;obtain⟨w1,m1,hk,hc⟩:=hn;exact⟨w1,v,m1,l,fun rest X hP hN=>Av (Jq w w1 s a v m l ha m1 k hk hlen hc rest X hP hN) (by simp)⟩
   |ok t=>
    obtain⟨kd,t,k⟩:=t;rw[ht]at hn;obtain⟨w1,m1,hc⟩:=hn;obtain⟨hpre,hne⟩:=oP ht;have hrl:(b::r).length=s.length-a:=by rw[←hr,List.length_drop]
    have htl:=hpre.length_le;have ht0:0<t.length:=List.length_pos_iff.2 hne;have ha1:a+t.length≤s.length:=by omega
    have hd1:s.drop (a+t.length)=(b::r).drop t.length:=by rw[←hr,List.drop_drop]
    have hb:be s (a+t.length)=a+t.length+aF false ((b::r).drop t.length):=by rw[be,hd1]
    have hd2:s.drop (be s (a+t.length))=((b::r).drop t.length).drop (aF false ((b::r).drop t.length)):=by rw[hb,←List.drop_drop,hd1]
    have hbl:=nh s (a+t.length) ha1;have ih:=y9 s hlen n w1 (be s (a+t.length)) (v+1) m1 (l ++[oM kd a t k]) hbl.2 (by omega) (by rw[List.length_append,List.length_singleton];omega);rw[hd2,hb]at ih
    show y8 w s a v m l (match cz n (((b::r).drop t.length).drop (aF false ((b::r).drop t.length))) (a+t.length+aF false ((b::r).drop t.length))with
     | .error e=> .error e
     | .ok ts=> .ok ((a,(kd,t,k))::ts))
    have hstep:=fun rest X hP hN=>GN w w1 s a v m l ha (a+t.length) (v+1) m1 (l ++[oM kd a t k]) hlen ha1 hc rest X hP hN
    rw[hb]at hstep;cases hs:cz n (((b::r).drop t.length).drop (aF false ((b::r).drop t.length))) (a+t.length+aF false ((b::r).drop t.length))with
    |error e=>
     obtain⟨p,k'⟩:=e;rw[hs]at ih;obtain⟨w',v',m',l',hh⟩:=ih;exact⟨w',v',m',l',fun rest X hP hN=>Au (hstep rest X hP hN) (hh rest X hP hN)⟩
    |ok ts=>
     rw[hs]at ih;obtain⟨hle,w',v',m',hh⟩:=ih;have e:l ++[oM kd a t k] ++ts.map tM=l ++((a,(kd,t,k))::ts).map tM:=by simp[tM]
     rw[e]at hle hh;exact⟨hle,w',v',m',fun rest X hP hN=>Au (hstep rest X hP hN) (hh rest X hP hN)⟩
section
variable(s:List UInt8)
noncomputable def za(h:Option (d7 Pg))(C:Option (fQ Pg))(D:Option (fQ Pg))(z:Bool)(hz:decide (20000<(s.length:Int))=z):Par Pg:=
 {hint:=fun f' k=>if f'=21 then (if k=9 then some (hB Pg _ z hz)else none)else none
  nils:=fun f' r=>if f'=21 then (if r=4 then some {k:=324,i:=6,K:=1,sz:=4}else none)else none
  calls:=fun f' k _=>if f'=21 then (if k=14 then C else if k=34 then D else none)else none
  loops:=fun f' r=>if f'=21 then (if r=5 then h else none)else none}
theorem GP(h:decide (20000<(s.length:Int))=true):aK Pg 21 [.str s] [.ro [], .int .i64 0, .int .i64 2]:=
 bq aD named (za s none none none true h) 1000 (by kernel_rfl)
noncomputable def Jr(w:Bool)(a v m:Nat)(l:List D)(e:aG)(l':List (Nat×AV))(hp:List (Nat×aN))(h:RL 39 (lO 21 5) (Dz s) (er w s a v m l) e l' hp):d7 Pg:=
 ⟨39,bO Pg 21 5,Dz s,fun _=>er w s a v m l,e,l',fun _=>hp,fun rest X hP hN=>(h rest X hP hN).aw⟩
theorem Js(h:decide (20000<(s.length:Int))=false)(hlen:s.length≤100000)(p:Nat)(k:Int)(w':Bool)(v' m':Nat)(l':List D)
    (hl:RL 39 (lO 21 5) (Dz s) (er false s (be s 0) 0 0 []) .ret [(2, .nils),(3,dN p),(4,dI k)] (er w' s p v' m' l')):
    aK Pg 21 [.str s] [.ro [], .int .i64 (p:Int), .int .i64 k]:=by
 cases w' with
 |false=>exact bq aD named (za s (some (Jr s false (be s 0) 0 0 [] _ _ _ hl)) (some (oO false s 0 0 [] hlen (Nat.zero_le _))) none false h) 1000 (by kernel_rfl)
 |true=>exact bq aD named (za s (some (Jr s false (be s 0) 0 0 [] _ _ _ hl)) (some (oO false s 0 0 [] hlen (Nat.zero_le _))) none false h) 1000 (by kernel_rfl)
theorem GQ(h:decide (20000<(s.length:Int))=false)(hlen:s.length≤100000)(w':Bool)(v' m':Nat)(l':List D)(hl':l'.length+1≤549755813888)
    (hl:RL 39 (lO 21 5) (Dz s) (er false s (be s 0) 0 0 []) (.exit 0) (Dz s) (er w' s s.length v' m' l')):
    aK Pg 21 [.str s] [.ro (l' ++[oM 0 s.length [] 0]), .int .i64 0, .int .i64 0]:=by
 cases w' with
 |false=>exact bq aD named (za s (some (Jr s false (be s 0) 0 0 [] _ _ _ hl)) (some (oO false s 0 0 [] hlen (Nat.zero_le _))) (some (u5 false s s.length v' m' l' 0 0 [] hl' (by simp only[List.length_nil];omega))) false h) 1000 (by kernel_rfl)
 |true=>exact bq aD named (za s (some (Jr s false (be s 0) 0 0 [] _ _ _ hl)) (some (oO false s 0 0 [] hlen (Nat.zero_le _))) (some (u5 true s s.length v' m' l' 0 0 [] hl' (by simp only[List.length_nil];omega))) false h) 1000 (by kernel_rfl)
end
def oQ(s:List UInt8):List D×Int×Int:=
 if 20000<s.length then ([],0,2)else match eE s with
  | .error (p,k)=>([],p,k)
  | .ok ts=>(ts.map tM ++[oM 0 s.length [] 0],0,0)
theorem P2(s:List UInt8):aK Pg 21 [.str s] [.ro (oQ s).1, .int .i64 (oQ s).2.1, .int .i64 (oQ s).2.2]:=by
 unfold oQ;by_cases h:20000<s.length
 ·rw[if_pos h]
  exact GP s (by simp only[decide_eq_true_eq];omega)
 ·rw[if_neg h]
  have hz:decide (20000<(s.length:Int))=false:=by simp only[decide_eq_false_iff_not];omega
  have hb:=nh s 0 (Nat.zero_le _);have hl:=y9 s (by omega) (s.length+1) false (be s 0) 0 0 [] hb.2 (by omega) (Nat.zero_le _)
  have he:cz (s.length+1) (s.drop (be s 0)) (be s 0)=eE s:=by
   unfold eE be;rw[List.drop_zero,Nat.zero_add]
  rw[he]at hl;cases hs:eE s with
  |error e=>
   obtain⟨p,k⟩:=e;rw[hs]at hl;obtain⟨w',v',m',l',hh⟩:=hl;exact Js s hz (by omega) p k w' v' m' l' hh
  |ok ts=>
   rw[hs]at hl;obtain⟨hle,w',v',m',hh⟩:=hl;exact GQ s hz (by omega) w' v' m' _ (by rw[List.nil_append]at hle;omega) hh
end Go.Avm
namespace Go.Avm
open Go.Proofs
theorem d4(n:Nat)(b:UInt8)(r:List UInt8)(a:Nat):cz (n+1) (b::r) a=match ef (b::r)with
    | .error k=> .error (a,k)
    | .ok t=>match cz n (((b::r).drop t.2.1.length).drop (aF false ((b::r).drop t.2.1.length))) (a+t.2.1.length+aF false ((b::r).drop t.2.1.length))with
     | .error e=> .error e
     | .ok ts=> .ok ((a,t)::ts):=rfl
theorem GR{r:List UInt8}{k:Int}(h:ef r= .error k):k≠0:=by
 cases r with
 |nil=>simp only[ef,Except.error.injEq]at h;omega
 |cons b r=>
  rw[ef]at h;repeat' split at h
  all_goals first
   |(cases h;done)
   |(simp only[Except.error.injEq]at h;omega)
theorem pH:∀(n:Nat)(r:List UInt8)(a p:Nat)(k:Int),cz n r a= .error (p,k)→k≠0
 |0,r,a,p,k,h=>by cases h
 |n+1,[],a,p,k,h=>by cases h
 |n+1,b::r,a,p,k,h=>by
  rw[d4]at h;cases ht:ef (b::r)with
  |error k'=>
   rw[ht]at h;simp only[Except.error.injEq,Prod.mk.injEq]at h;obtain⟨_,rfl⟩:=h;exact GR ht
  |ok t=>
   rw[ht]at h;dsimp only at h;split at h
   ·rename_i e he
    cases h;exact pH n _ _ p k he
   ·cases h
theorem u9:∀(n:Nat)(r:List UInt8)(a:Nat)(ts:List (Nat×jn)),cz n r a= .ok ts→ts.length≤n
 |0,r,a,ts,h=>by cases h;exact Nat.le_refl _
 |n+1,[],a,ts,h=>by cases h;exact Nat.zero_le _
 |n+1,b::r,a,ts,h=>by
  rw[d4]at h;cases ht:ef (b::r)with
  |error k'=>rw[ht]at h;cases h
  |ok t=>
   rw[ht]at h;dsimp only at h;split at h
   ·cases h
   ·rename_i ts1 hs
    cases h;have:=u9 n _ _ ts1 hs;simp only[List.length_cons];omega
theorem Jt(l:List T)(e:T)(he:e.k=0)(hl:l.length+1<1000000):dF (l ++[e]):=
 ⟨by simpa using hl,fun i x hx hk=>by
  rw[List.length_append,List.length_singleton];rcases Nat.lt_or_ge i l.length with h|h
  ·omega
  ·rw[List.getElem?_append_right h]at hx
   cases hi:i-l.length with
   |zero=>
    rw[hi]at hx;simp only[List.getElem?_cons_zero,Option.some.injEq]at hx;rw[←hx,he]at hk;exact absurd rfl hk
   |succ j=>rw[hi]at hx;simp at hx⟩
def SH(x:Nat×jn):T:=⟨x.2.1,(x.1:Int),x.2.2.1,x.2.2.2⟩
def ax(ts:List (Nat×jn))(n:Nat):List T:=ts.map SH ++[⟨0,(n:Int),[],0⟩]
theorem GS(ts:List (Nat×jn))(n:Nat):sX (ax ts n)= .ro (ts.map tM ++[oM 0 n [] 0]):=by
 simp only[sX,ax,List.map_append,List.map_map];rfl
theorem vd{ts:List (Nat×jn)}{n:Nat}(h:ts.length+1<1000000):dF (ax ts n):=Jt _ _ rfl (by simpa using h)
theorem gH(ts:List (Nat×jn))(n:Nat):0<(ax ts n).length:=by simp[ax]
def AX(ts:List (Nat×jn))(n:Nat):Res (List Fn):=cT (ax ts n) (fuel (ax ts n))
def iV(s:List UInt8):List D:=
 if 20000<s.length then [.agg [.ro []], .int .i64 0, .int .i64 2]else match eE s with
  | .error (p,k)=>[.agg [.ro []], .int .i64 (p:Int), .int .i64 k]
  | .ok ts=>Gg (AX ts s.length)
theorem ve{s:List UInt8}{ts:List (Nat×jn)}(h:eE s= .ok ts):ts.length≤s.length+1:=u9 _ _ _ _ h
theorem DA(s:List UInt8):aK Pg 12 [.str s] (iV s):=by
 have hs:=P2 s;unfold iV;unfold oQ at hs;by_cases h:20000<s.length
 ·rw[if_pos h]at hs ⊢
  exact Gf (by decide) hs
 ·rw[if_neg h]at hs ⊢
  cases he:eE s with
  |error e=>
   obtain⟨p,k⟩:=e;rw[he]at hs;have hk:=pH _ _ _ _ _ he;exact Gf (by simpa using hk) hs
  |ok ts=>
   rw[he]at hs;have hl:=ve he;have hok:=vd (ts:=ts) (n:=s.length) (by omega);exact MG hok (gH _ _) (by rw[GS];exact hs) _ (B4 hok (gH _ _))
end Go.Avm
namespace Go.Avm
open Go.Proofs
inductive gm:List bu→Int→Int→Int→Int→Prop
 |nil (n a:Int):gm [] n a n a
 |cons {k id:Int} {nm:List UInt8} {ty v p:Int} {es:List Ex} {bd el r:List bu} {a n1 a1 n2 a2 n3 a3:Int} (h:a<p) (lb:bd.length<1000000) (le:el.length<1000000) (hb:gm bd (dD (id+1)) p n1 a1) (he:gm el n1 a1 n2 a2) (hr:gm r n2 a2 n3 a3):gm (.mk k id nm ty v p es bd el::r) id a n3 a3
inductive uv:List Fn→Int→Int→Prop
 |nil (n a:Int):uv [] n a
 |cons {nm:List UInt8} {ps:List Pm} {k:Int} {bd:List bu} {p:Int} {r:List Fn} {n a n1 a1:Int} (lb:bd.length<1000000) (hb:gm bd n a n1 a1) (hr:uv r n1 a1):uv (⟨nm,ps,k,bd,p⟩::r) n a
end Go.Avm
namespace Go.Avm
open Go.Proofs
mutual
def xw:Ex→Nat
 | .mk _ _ _ _ _ xs=>1+eo xs
def eo:List Ex→Nat
 |[]=>0
 |x::l=>xw x+eo l
end
mutual
def tN:bu→Nat
 | .mk _ _ _ _ _ _ es bd el=>1+eo es+cD bd+cD el
def cD:List bu→Nat
 |[]=>0
 |x::l=>tN x+cD l
end
def Ju(x:Fn):Nat:=1+x.ps.length+cD x.bd
def gU:List Fn→Nat
 |[]=>0
 |x::l=>Ju x+gU l
theorem Jv:∀x,1≤tN x
 | .mk _ _ _ _ _ _ _ _ _=>by simp only[tN];omega
theorem zb:∀l,l.length≤cD l
 |[]=>Nat.le_refl _
 |x::l=>by have:=zb l;have:=Jv x;simp only[cD,List.length_cons];omega
theorem lM:∀l,l.length≤gU l
 |[]=>Nat.le_refl _
 |x::l=>by have:=lM l;simp only[gU,Ju,List.length_cons];omega
theorem zc:∀{l:List bu}{i:Nat}{x:bu},l[i]? =some x→tN x≤cD l
 |[],_,_,h=>by simp at h
 |y::l,0,x,h=>by simp at h;subst h;simp only[cD];omega
 |y::l,i+1,x,h=>by simp at h;have:=zc h;simp only[cD];omega
theorem zd:∀{l:List Fn}{i:Nat}{x:Fn},l[i]? =some x→Ju x≤gU l
 |[],_,_,h=>by simp at h
 |y::l,0,x,h=>by simp at h;subst h;simp only[gU];omega
 |y::l,i+1,x,h=>by simp at h;have:=zd h;simp only[gU];omega
end Go.Avm
namespace Go.Avm
open Go.Proofs
theorem TR.bind_ne{α β:Type}{r:TR α}{f:α→TR β}(h:r≠ .out)(hf:∀a,f a≠ .out):r.bind f≠ .out:=by
 cases r with
 |ok a=>exact hf a
 |bad p e=>exact fun h=>by cases h
 |out=>exact absurd rfl h
theorem fF{α:Type}{b:Bool}{x y:TR α}(hx:x≠ .out)(hy:y≠ .out):(bif b then x else y)≠ .out:=by cases b<;>assumption
theorem gq{α:Type}{a:α}:TR.ok a≠ .out:=fun h=>by cases h
theorem fH{α:Type}{p e:Int}:(TR.bad p e:TR α)≠ .out:=fun h=>by cases h
theorem wY(E:TE)(nm:List UInt8)(p:Int):kf E nm p≠ .out:=by
 unfold kf;split
 ·exact gq
 ·exact fH
theorem wZ(E:TE)(nm:List UInt8)(p:Int):nc E nm p≠ .out:=TR.bind_ne (wY _ _ _) fun _=>fF gq fH
mutual
theorem Cc(E:TE):∀x:Ex,JW x=true→dy E x≠ .out
 | .mk k o nm n p xs,h=>by
  simp only[JW,Bool.and_eq_true]at h;obtain⟨hk,hxs⟩:=h;have hN:=fun ts eq hl he=>oR E xs ts eq hxs hl he
  unfold dy;refine fF gq ?_;refine fF (TR.bind_ne (wY _ _ _) fun _=>fF gq fH) ?_;cases h4:(k==4)with
  |true=>
   have e:=eq_of_beq h4;subst e;have:xs.length=1:=by simpa using hk
   exact TR.bind_ne (wZ _ _ _) fun _=>TR.bind_ne (hN [[1]] false (by simp only[List.length_cons,List.length_nil];omega) (fun h=>by cases h)) fun _=>gq
  |false=>
   simp only[cond_false];refine fF (TR.bind_ne (wZ _ _ _) fun _=>gq) ?_;refine fF ?_ ?_
   ·split
    ·exact fH
    ·rename_i j f hf
     cases hl:(f.ps.length==xs.length)with
     |false=>exact fH
     |true=>exact TR.bind_ne (hN _ false (by rw[List.length_map,eq_of_beq hl];exact Nat.le_refl _) (fun h=>by cases h)) fun _=>gq
   ·cases h8:(k==8)with
    |true=>
     have e:=eq_of_beq h8;subst e;have:xs.length=1:=by simpa using hk
     simp only[cond_true];exact fF (TR.bind_ne (hN [[2]] false (by simp only[List.length_cons,List.length_nil];omega) (fun h=>by cases h)) fun _=>gq) (TR.bind_ne (hN [[1]] false (by simp only[List.length_cons,List.length_nil];omega) (fun h=>by cases h)) fun _=>gq)
    |false=>
     simp only[cond_false];cases h9:(k==9)with
     |false=>exact gq
     |true=>
      have e:=eq_of_beq h9;subst e;have hx:xs.length=2:=by simpa using hk
      simp only[cond_true];have:decide (xs.length<2)=false:=by rw[hx];rfl
      rw[this];simp only[cond_false];refine fF (TR.bind_ne (hN [[2],[2]] false (by simp only[List.length_cons,List.length_nil];omega) (fun h=>by cases h)) fun _=>gq) (fF (TR.bind_ne (hN [[1,2],[]] true (by simp only[List.length_cons,List.length_nil];omega) (fun _=>by omega)) fun _=>gq) (TR.bind_ne (hN [[1],[1]] false (by simp only[List.length_cons,List.length_nil];omega) (fun h=>by cases h)) fun _=>gq))
theorem oR(E:TE):∀(xs:List Ex)(ts:List (List Int))(eq:Bool),fC xs=true→ts.length≤xs.length→(eq=true→2≤xs.length)→aB E xs ts eq≠ .out
 |[],[],_,_,_,_=>by unfold aB;exact gq
 |_::_,[],_,_,_,_=>by unfold aB;exact gq
 |[],_::_,_,_,h,_=>by simp at h
 |x::xs,ts::r,eq,h,hl,he=>by
  simp only[fC,Bool.and_eq_true]at h;simp only[List.length_cons]at hl he;unfold aB;refine TR.bind_ne (Cc E x h.1) fun t=>fF ?_ fH
  refine oR E xs _ false h.2 ?_ (fun h=>by cases h);cases eq with
  |true=>have:=he rfl;simp only[cond_true,List.length_cons,List.length_nil];omega
  |false=>simp only[cond_false];omega
end
def d5(k:Int)(n b e:Nat):Bool:=
 (bif k==1 then decide (n≤1)else bif k==2 then n==1 else bif k==3 then n==2 else bif k==4 then n==1 else bif k==5 then n==1 else bif k==6 then decide (n≤1)else bif k==7 then n==1 else k==8&&n==1)&&((k==4||k==5||b==0)&&(k==4||e==0))
mutual
def iW:bu→Bool
 | .mk k _ nm _ _ _ es bd el=>decide (nm.length≤1000000)&&(fC es&&(d5 k es.length bd.length el.length&&(em bd&&em el)))
def em:List bu→Bool
 |[]=>true
 |s::r=>iW s&&em r
end
def NO(n:Int)(b:Nat):TR CS→Prop
 | .ok c=>(c.pts.length:Int)=n∧c.pts.length≤b
 | .bad _ _=>True
 | .out=>False
theorem NO.bindU{α:Type}{n:Int}{b:Nat}{r:TR α}{f:α→TR CS}(h:r≠ .out)(hf:∀a,NO n b (f a)):NO n b (r.bind f):=by
 cases r with
 |ok a=>exact hf a
 |bad p e=>trivial
 |out=>exact absurd rfl h
theorem NO.bif{n:Int}{b:Nat}{c:Bool}{x y:TR CS}(hx:NO n b x)(hy:NO n b y):NO n b (bif c then x else y):=by cases c<;>assumption
theorem MO{fs:List Fn}{deep:Int}{nm:List UInt8}{id ty n p:Int}{es:List Ex}{c:CS}{q:Int}{b:Nat}(hn:nm.length≤1000000)(he:fC es=true)(hl:es.length≤1)(h:(c.pts.length:Int)=q∧c.pts.length≤b):NO q b (oB fs deep nm id ty n p es c):=by
 unfold oB;have h1:decide (1000000≤es.length)=false:=decide_eq_false (by omega);have h2:decide (1000000<nm.length)=false:=decide_eq_false (by omega);rw[h1,h2];simp only[cond_false];refine NO.bindU (oR _ _ _ _ he (by rw[List.length_map];exact Nat.le_refl _) (fun h=>by cases h)) fun _=> ?_
 refine NO.bif trivial (NO.bif trivial (NO.bif trivial (NO.bif trivial ?_)));cases (ty==3|| !es.isEmpty)<;>exact h
theorem Jw{fs:List Fn}{fn:Nat}{p:Int}{es:List Ex}{c:CS}{q:Int}{b:Nat}(hf:fn<fs.length)(he:fC es=true)(h:(c.pts.length:Int)=q∧c.pts.length≤b):NO q b (gR fs fn p es c):=by
 unfold gR;rw[List.getElem?_eq_getElem hf];dsimp only;cases es with
 |nil=>exact NO.bif h trivial
 |cons x r=>
  simp only[fC,Bool.and_eq_true]at he;exact NO.bif (NO.bindU (Cc _ x he.1) fun _=>trivial) (NO.bindU (TR.bind_ne (Cc _ x he.1) fun _=>fF gq fH) fun _=>h)
theorem lN{n a n' a':Int}(h:gm [] n a n' a'):n=n':=by cases h;rfl
mutual
theorem Jx(fs:List Fn)(fn:Nat)(hf:fn<fs.length):∀(x:bu)(deep:Int)(c:CS)(id a n' a':Int),iW x=true→id=(c.pts.length:Int)→gm [x] id a n' a'→c.pts.length+tN x<900000000→NO n' (c.pts.length+tN x) (dz fs fn deep x c)
 | .mk k id nm ty n p es bd el,deep,c,id',a,n',a',hg,hid,hN,hb=>by
  simp only[iW,Bool.and_eq_true]at hg;obtain⟨hnm,he,har,hbd,hel⟩:=hg;have hnm:=of_decide_eq_true hnm;cases hN with
  | @cons _ _ _ _ _ _ _ _ _ _ _ n1 a1 n2 a2 _ _ hp lb le hNb Gp hNr=>
  have hn:=lN hNr;subst hn;simp only[tN]at hb ⊢
  have hw:dD (id+1)=((c.pts.length+1:Nat):Int):=by
   rw[hid];have:=Int.toNat_of_nonneg (show(0:Int)≤(c.pts.length:Int)+1 by omega);exact(show dD ((c.pts.length:Int)+1)=(c.pts.length:Int)+1 from IntWalk.i64_in _ (by omega)).trans (by omega)
  rw[hw]at hNb;unfold dz
  have h0:(id==(c.pts.length:Int)&&decide (c.pts.length<900000000))=true:=by
   rw[hid];simp only[beq_self_eq_true,Bool.true_and,decide_eq_true_eq];omega
  rw[h0];simp only[cond_true];have hl1:(c.pts ++[c.pt fn]).length=c.pts.length+1:=by simp
  have flat:bd=[]→el=[]→((c.pts ++[c.pt fn]).length:Int)=n2∧(c.pts ++[c.pt fn]).length≤c.pts.length+(1+eo es+cD bd+cD el):=by
   rintro rfl rfl;have e1:=lN hNb;have e2:=lN Gp;rw[hl1];simp only[cD];omega
  have hw1:∀ts:List (List Int),ts.length≤es.length→aB (CS.te fs {c with pts:=c.pts ++[c.pt fn]}) es ts false≠ .out:=fun ts h=>oR _ _ _ _ he h fun h=>by cases h
  cases k1:(k==1)with
  |true=>
   have e:=eq_of_beq k1;subst e;have:es.length≤1∧bd=[]∧el=[]:=by simpa [d5]using har
   exact MO hnm he this.1 (flat this.2.1 this.2.2)
  |false=>
  simp only[cond_false];cases k2:(k==2)with
  |true=>
   have e:=eq_of_beq k2;subst e;have:es.length=1∧bd=[]∧el=[]:=by simpa [d5]using har
   exact NO.bindU (wY _ _ _) fun r=>NO.bif trivial (NO.bindU (hw1 _ (by simp[this.1])) fun _=>flat this.2.1 this.2.2)
  |false=>
  simp only[cond_false];cases k3:(k==3)with
  |true=>
   have e:=eq_of_beq k3;subst e;have:es.length=2∧bd=[]∧el=[]:=by simpa [d5]using har
   exact NO.bindU (wZ _ _ _) fun r=>NO.bindU (hw1 _ (by simp[this.1])) fun _=>flat this.2.1 this.2.2
  |false=>
  simp only[cond_false];cases k4:(k==4)with
  |true=>
   have e:=eq_of_beq k4;subst e;have:es.length=1:=by simpa [d5]using har
   refine NO.bindU (hw1 _ (by simp[this])) fun _=> ?_
   have gb:=lP fs fn hf bd (dD (deep+1)) false {c with pts:=c.pts ++[c.pt fn]} _ _ _ _ hbd rfl (by rw[hl1];exact hNb) (by rw[hl1];omega);revert gb;cases aX fs fn (dD (deep+1)) false bd {c with pts:=c.pts ++[c.pt fn]}with
   |out=>exact fun h=>h.elim
   |bad p e=>exact fun _=>trivial
   |ok c2=>
    rintro⟨g1,g2⟩;simp only[TR.bind];rw[hl1]at g2;have ge:=lP fs fn hf el (dD (deep+1)) false {c2 with seen:=c.seen,sure:=c.sure} _ _ _ _ hel rfl (by rw[g1];exact Gp) (by show c2.pts.length+cD el<_;omega);revert ge;cases aX fs fn (dD (deep+1)) false el {c2 with seen:=c.seen,sure:=c.sure}with
    |out=>exact fun h=>h.elim
    |bad p e=>exact fun _=>trivial
    |ok c3=>
     rintro⟨g3,g4⟩;have g4:c3.pts.length≤c2.pts.length+cD el:=g4;refine⟨g3, ?_⟩;show c3.pts.length≤_;omega
  |false=>
  simp only[cond_false];cases k5:(k==5)with
  |true=>
   have e:=eq_of_beq k5;subst e;have:es.length=1∧el=[]:=by simpa [d5]using har
   obtain⟨ha,rfl⟩:=this;have e2:=lN Gp;subst e2;refine NO.bindU (hw1 _ (by simp[ha])) fun _=> ?_
   have gb:=lP fs fn hf bd (dD (deep+1)) false {c with pts:=c.pts ++[c.pt fn]} _ _ _ _ hbd rfl (by rw[hl1];exact hNb) (by rw[hl1];omega);revert gb;cases aX fs fn (dD (deep+1)) false bd {c with pts:=c.pts ++[c.pt fn]}with
   |out=>exact fun h=>h.elim
   |bad p e=>exact fun _=>trivial
   |ok c2=>
    rintro⟨g1,g2⟩;rw[hl1]at g2;refine⟨g1, ?_⟩;show c2.pts.length≤_;omega
  |false=>
  simp only[cond_false]
  have hfl:bd=[]∧el=[]:=by
   simp only[d5,k4,k5,Bool.and_eq_true,Bool.or_eq_true,Bool.false_or,Bool.false_eq_true,false_or,beq_iff_eq,List.length_eq_zero_iff]at har;exact⟨har.2.1,har.2.2⟩
  have fl:=flat hfl.1 hfl.2;refine NO.bif (Jw hf he fl) ?_
  have hes:k≠6→es.length=1:=fun h6=>by
   have h6:(k==6)=false:=by simpa using h6
   have:=har;simp only[d5,k1,k2,k3,k4,k5,h6,cond_false,Bool.and_eq_true]at this;cases h7:(k==7)with
   |true=>rw[h7]at this;simpa using this.1
   |false=>rw[h7]at this;simpa using (show _∧_ by simpa using this.1).2
  cases h7:(k==7)with
  |true=>
   have:=hes (by rw[eq_of_beq h7];decide);exact NO.bindU (hw1 _ (by simp[this])) fun _=>fl
  |false=>
  simp only[cond_false];cases h8:(k==8)with
  |false=>exact fl
  |true=>
   have:=hes (by rw[eq_of_beq h8];decide);simp only[cond_true];cases es with
   |nil=>simp at this
   |cons x r=>
    simp only[fC,Bool.and_eq_true]at he;exact NO.bindU (Cc _ x he.1) fun _=>fl
theorem lP(fs:List Fn)(fn:Nat)(hf:fn<fs.length):∀(l:List bu)(deep:Int)(prev:Bool)(c:CS)(id a n' a':Int),em l=true→id=(c.pts.length:Int)→gm l id a n' a'→c.pts.length+cD l<900000000→NO n' (c.pts.length+cD l) (aX fs fn deep prev l c)
 |[],deep,prev,c,id,a,n',a',_,hid,hN,_=>by
  unfold aX;exact⟨hid.symm.trans (lN hN),Nat.le_refl _⟩
 |x::r,deep,prev,c,id,a,n',a',hg,hid,hN,hb=>by
  simp only[em,Bool.and_eq_true]at hg;simp only[cD]at hb ⊢;unfold aX;refine NO.bif trivial ?_
  obtain⟨n2,a2,h1,h2⟩:∃n2 a2,gm [x] id a n2 a2∧gm r n2 a2 n' a':=by
   cases hN with
   |cons hp lb le hNb Gp hNr=>exact⟨_,_, .cons hp lb le hNb Gp (.nil _ _),hNr⟩
  have gx:=Jx fs fn hf x deep c id a n2 a2 hg.1 hid h1 (by omega);revert gx;cases dz fs fn deep x c with
  |out=>exact fun h=>h.elim
  |bad p e=>exact fun _=>trivial
  |ok c2=>
   rintro⟨g1,g2⟩;simp only[TR.bind];have gr:=lP fs fn hf r deep (kg x) c2 n2 a2 n' a' hg.2 g1.symm h2 (by omega);revert gr;cases aX fs fn deep (kg x) r c2 with
   |out=>exact fun h=>h
   |bad p e=>exact fun _=>trivial
   |ok c3=>exact fun ⟨g3,g4⟩=>⟨g3,by omega⟩
end
end Go.Avm
namespace Go.Avm
open Go.Proofs
def Kn{α:Type}(s:RS)(r:Res α):Prop:=∀a s',r= .ok a s'→s'.n=s.n
theorem Kn.bind{α β:Type}{s:RS}{r:Res α}{f:α→RS→Res β}(h:Kn s r)(hf:∀a s',Kn s' (f a s')):Kn s (r.bind f):=fun b s2 e=>by
 cases r with
 |ok a s1=>exact(hf a s1 b s2 e).trans (h a s1 rfl)
 |bad p q s1=>cases e
 |out=>cases e
theorem Kn.ok{α:Type}(a:α)(s:RS):Kn s (.ok a s):=fun _ _ e=>by cases e;rfl
theorem Kn.out{α:Type}(s:RS):Kn s (Res.out:Res α):=fun _ _ e=>by cases e
theorem Kn.ite{α:Type}{c:Bool}{s:RS}{X Y:Res α}(hX:Kn s X)(hY:Kn s Y):Kn s (bif c then X else Y):=by cases c<;>assumption
theorem oS(L:List T)(x:List UInt8)(s:RS):Kn s (aE L x s):=fun a s' e=>by
 unfold aE at e;cases h:isT L s x<;>rw[h]at e
 ·cases e
 ·simp only[cond_true]at e
  cases h1:(x==[40]||x==[91]||x==[123])<;>rw[h1]at e
  ·simp only[cond_false]at e
   cases h2:(x==[41]||x==[93]||x==[125])<;>rw[h2]at e<;>cases e<;>rfl
  ·simp only[cond_true]at e
   cases h2:decide (200<dD (s.op+1))<;>rw[h2]at e<;>cases e
   rfl
theorem mf(L:List T)(k:Int)(s:RS):Kn s (dt L k s):=fun a s' e=>by
 unfold dt at e;cases h:((bt L s).k==k)<;>rw[h]at e<;>cases e
 rfl
theorem AY(L:List T)(x:List UInt8)(s:RS):Kn s (ci L x s):=by
 unfold ci;exact Kn.ite ((oS L x s).bind fun _ _=>Kn.ok _ _) (Kn.ok _ _)
theorem Cd(L:List T):∀(l:List Int)(s:RS),Kn s (dP L l s)
 |[],s=>fun _ _ e=>by cases e
 |k::r,s=>by
  simp only[dP];exact(AY L _ s).bind fun b s'=>Kn.ite (Kn.ok _ _) (Cd L r s')
theorem w5(L:List T):∀n,(∀s,Kn s (eP L n s))∧(∀s,Kn s (cP L n s))∧(∀nm p s,Kn s (du L n nm p s))∧(∀s,Kn s (eS L n s))∧(∀l s,Kn s (d8 L n l s))∧(∀k s,Kn s (bv L n k s))∧(∀k e s,Kn s (dw L n k e s))
 |0=>⟨fun s=>Kn.out s,fun s=>Kn.out s,fun _ _ s=>Kn.out s,fun s=>Kn.out s,fun _ s=>Kn.out s,fun _ s=>Kn.out s,fun _ _ s=>Kn.out s⟩
 |n+1=>by
  obtain⟨h1,h2,h3,h4,h5,h6,h7⟩:=w5 L n;have W:=oS L;have M:=AY L;refine⟨fun s=> ?_,fun s=> ?_,fun nm p s=> ?_,fun s=> ?_,fun l s=> ?_,fun k s=> ?_,fun k e s=> ?_⟩
  ·simp only[eP]
   have un:∀(f:Ex→Ex) s',Kn s' ((eP L n s').bind fun e s2=> .ok (f e) s2):=fun f s'=>(h1 s').bind fun _ _=>Kn.ok _ _
   refine(M _ s).bind fun _ s1=>Kn.ite (un _ s1) ((M _ s1).bind fun _ s1=>Kn.ite (un _ s1) ((M _ s1).bind fun _ s1=>Kn.ite (un _ s1) (Kn.ite (fun _ _ e=>by cases e;rfl) ?_)))
   refine(M _ s1).bind fun _ s1=>Kn.ite (Kn.ok _ _) ((M _ s1).bind fun _ s1=>Kn.ite (Kn.ok _ _) ?_)
   refine(M _ s1).bind fun _ s1=>Kn.ite ((W _ s1).bind fun _ s2=>(W _ s2).bind fun _ _=>Kn.ok _ _) ?_
   refine(M _ s1).bind fun _ s1=>Kn.ite ((W _ s1).bind fun _ s2=>(mf L _ s2).bind fun _ s3=>(W _ s3).bind fun _ _=>Kn.ok _ _) ?_
   refine Kn.ite ((W _ s1).bind fun _ s2=>(h6 _ s2).bind fun _ s3=>(W _ s3).bind fun _ _=>Kn.ok _ _) ?_;exact(mf L _ s1).bind fun _ s2=>Kn.ite ((h2 s2).bind fun _ _=>Kn.ok _ _) (Kn.ite ((h3 _ _ s2).bind fun _ _=>Kn.ok _ _) (Kn.ok _ _))
  ·simp only[cP]
   exact(W _ s).bind fun _ s2=>(h6 _ s2).bind fun _ s3=>(W _ s3).bind fun _ _=>Kn.ok _ _
  ·simp only[du]
   exact(h4 s).bind fun _ _=>Kn.ok _ _
  ·simp only[eS]
   exact(W _ s).bind fun _ s1=>Kn.ite ((W _ s1).bind fun _ _=>Kn.ok _ _) ((h6 _ s1).bind fun _ s2=>(h5 _ s2).bind fun _ s3=>(W _ s3).bind fun _ _=>Kn.ok _ _)
  ·simp only[d8]
   exact(M _ s).bind fun _ s1=>Kn.ite ((h6 _ s1).bind fun _ s2=>h5 _ s2) (Kn.ok _ _)
  ·simp only[bv]
   exact(h1 s).bind fun _ s1=>h7 _ _ s1
  ·simp only[dw]
   refine Kn.ite (Kn.ok _ _) (fun a s' e2=> ?_);exact((h6 _ s.nx).bind fun _ s2=>h7 _ _ s2) a s' e2
theorem ri(L:List T)(n:Nat)(k:Int)(s:RS):Kn s (bv L n k s):=(w5 L n).2.2.2.2.2.1 k s
def SI(L:List T):Prop:=∀i j,i<j→j<L.length→(L.getD i default).p<(L.getD j default).p
def MP(id p:Int):bu→Prop
 | .mk _ id' _ _ _ p' _ bd el=>id'=id∧p'=p∧bd=[]∧el=[]
def Ps{α:Type}(Q:α→Prop)(r:Res α):Prop:=∀a s',r= .ok a s'→Q a
theorem Ps.bind{α β:Type}{Q:β→Prop}{r:Res α}{f:α→RS→Res β}(hf:∀a s',Ps Q (f a s')):Ps Q (r.bind f):=fun b s2 e=>by
 cases r with
 |ok a s1=>exact hf a s1 b s2 e
 |bad p q s1=>cases e
 |out=>cases e
theorem Ps.ite{α:Type}{Q:α→Prop}{c:Bool}{X Y:Res α}(hX:Ps Q X)(hY:Ps Q Y):Ps Q (bif c then X else Y):=by cases c<;>assumption
theorem Ps.ok{α:Type}{Q:α→Prop}{a:α}{s:RS}(h:Q a):Ps Q (.ok a s):=fun _ _ e=>by cases e;exact h
section
variable(L:List T)(n:Nat)(id p:Int)(s:RS)
include L n id p s
theorem MQ:Ps (MP id p) (ip L n id p s):=by
 unfold ip;exact Ps.bind fun _ _=>Ps.bind fun _ _=>Ps.bind fun _ _=>Ps.ite (Ps.bind fun _ _=>Ps.bind fun _ _=>Ps.bind fun _ _=>Ps.bind fun _ _=>Ps.ok ⟨rfl,rfl,rfl,rfl⟩) (Ps.bind fun _ _=>Ps.ite (Ps.bind fun _ _=>Ps.bind fun _ _=>Ps.ok ⟨rfl,rfl,rfl,rfl⟩) (Ps.bind fun _ _=>Ps.ok ⟨rfl,rfl,rfl,rfl⟩))
theorem GT:Ps (MP id p) (cE L n id p s):=by
 unfold cE;exact Ps.bind fun _ _=>Ps.ite (Ps.bind fun _ _=>Ps.bind fun _ _=>Ps.ok ⟨rfl,rfl,rfl,rfl⟩) (Ps.ite (Ps.bind fun _ _=>Ps.bind fun _ _=>Ps.bind fun _ _=>Ps.bind fun _ _=>Ps.ok ⟨rfl,rfl,rfl,rfl⟩) (Ps.bind fun _ _=>Ps.bind fun _ _=>Ps.bind fun _ _=>Ps.ok ⟨rfl,rfl,rfl,rfl⟩))
theorem MS:Kn s (ip L n id p s):=by
 have W:=oS L;unfold ip;exact(mf L _ s).bind fun _ s2=>(W _ s2).bind fun _ s3=>(Cd L _ s3).bind fun _ s4=>Kn.ite ((W _ s4).bind fun _ s5=>(mf L _ s5).bind fun _ s6=>(W _ s6).bind fun _ s7=>(W _ s7).bind fun _ _=>Kn.ok _ _) ((AY L _ s4).bind fun _ s5=>Kn.ite ((ri L n 1 s5).bind fun _ s6=>(W _ s6).bind fun _ _=>Kn.ok _ _) ((W _ s5).bind fun _ _=>Kn.ok _ _))
theorem GU:Kn s (cE L n id p s):=by
 have W:=oS L;obtain⟨_,h2,h3,_⟩:=w5 L n;unfold cE;exact(mf L _ s).bind fun _ s2=>Kn.ite ((h3 _ _ s2).bind fun _ s3=>(W _ s3).bind fun _ _=>Kn.ok _ _) (Kn.ite ((h2 s2).bind fun _ s3=>(W _ s3).bind fun _ s4=>(ri L n 1 s4).bind fun _ s5=>(W _ s5).bind fun _ _=>Kn.ok _ _) ((W _ s2).bind fun _ s3=>(ri L n 1 s3).bind fun _ s4=>(W _ s4).bind fun _ _=>Kn.ok _ _))
end
end Go.Avm
namespace Go.Avm
open Go.Proofs
theorem Ps.bindQ{α β:Type}{Q:α→Prop}{R:β→Prop}{r:Res α}{f:α→RS→Res β}(h:Ps Q r)(hf:∀a s',Q a→Ps R (f a s')):Ps R (r.bind f):=fun b s2 e=>by
 cases r with
 |ok a s1=>exact hf a s1 (h a s1 rfl) b s2 e
 |bad p q s1=>cases e
 |out=>cases e
theorem Ps.out{α:Type}{Q:α→Prop}:Ps Q (Res.out:Res α):=fun _ _ e=>by cases e
theorem Ps.imp{α:Type}{Q R:α→Prop}{r:Res α}(h:Ps Q r)(hq:∀a,Q a→R a):Ps R r:=fun a s' e=>hq a (h a s' e)
theorem ze:∀l m:List Ex,fC (l ++m)=(fC l&&fC m)
 |[],m=>by simp[fC]
 |x::l,m=>by simp only[List.cons_append,fC,ze l m,Bool.and_assoc]
theorem vg:∀l m:List bu,em (l ++m)=(em l&&em m)
 |[],m=>by simp[em]
 |x::l,m=>by simp only[List.cons_append,em,vg l m,Bool.and_assoc]
abbrev wE(a:Ex):Prop:=JW a=true
abbrev P3(a:List Ex):Prop:=fC a=true
abbrev gS(a:bu):Prop:=iW a=true
abbrev gL(a:List bu):Prop:=em a=true
section
variable(L:List T)
theorem GV:∀n,(∀s,Ps wE (eP L n s))∧(∀s,Ps wE (cP L n s))∧(∀nm p s,Ps wE (du L n nm p s))∧(∀s,Ps P3 (eS L n s))∧(∀l s,P3 l→Ps P3 (d8 L n l s))∧(∀k s,Ps wE (bv L n k s))∧(∀k e s,wE e→Ps wE (dw L n k e s))
 |0=>⟨fun _=>Ps.out,fun _=>Ps.out,fun _ _ _=>Ps.out,fun _=>Ps.out,fun _ _ _=>Ps.out,fun _ _=>Ps.out,fun _ _ _ _=>Ps.out⟩
 |n+1=>by
  obtain⟨h1,h2,h3,h4,h5,h6,h7⟩:=GV n;refine⟨fun s=> ?_,fun s=> ?_,fun nm p s=> ?_,fun s=> ?_,fun l s hl=> ?_,fun k s=> ?_,fun k e s he=> ?_⟩
  ·simp only[eP]
   have un:∀(o p:Int) s',Ps wE ((eP L n s').bind fun e s2=> .ok (.mk 8 o [] 0 p [e]) s2):=fun o p s'=>(h1 s').bindQ fun a _ ha=>Ps.ok (by simp[wE,JW,fC,ha])
   refine Ps.bind fun _ s1=>Ps.ite (un _ _ s1) (Ps.bind fun _ s1=>Ps.ite (un _ _ s1) (Ps.bind fun _ s1=>Ps.ite (un _ _ s1) (Ps.ite (Ps.ok rfl) ?_)))
   refine Ps.bind fun _ s1=>Ps.ite (Ps.ok rfl) (Ps.bind fun _ s1=>Ps.ite (Ps.ok rfl) ?_)
   refine Ps.bind fun _ s1=>Ps.ite (Ps.bind fun _ s2=>Ps.bind fun _ _=>Ps.ok rfl) ?_
   refine Ps.bind fun _ s1=>Ps.ite (Ps.bind fun _ s2=>Ps.bind fun _ s3=>Ps.bind fun _ _=>Ps.ok rfl) ?_
   refine Ps.ite (Ps.bind fun _ s2=>(h6 _ s2).bindQ fun a s3 ha=>Ps.bind fun _ _=>Ps.ok ha) ?_;exact Ps.bind fun _ s2=>Ps.ite ((h2 s2).bindQ fun a _ ha=>Ps.ok (by simp[wE,JW,fC,ha])) (Ps.ite ((h3 _ _ s2).bindQ fun a _ ha=>Ps.ok ha) (Ps.ok rfl))
  ·simp only[cP]
   exact Ps.bind fun _ s2=>(h6 _ s2).bindQ fun a s3 ha=>Ps.bind fun _ _=>Ps.ok ha
  ·simp only[du]
   exact(h4 s).bindQ fun a _ ha=>Ps.ok (by simp[wE,JW,ha])
  ·simp only[eS]
   exact Ps.bind fun _ s1=>Ps.ite (Ps.bind fun _ _=>Ps.ok rfl) ((h6 _ s1).bindQ fun a s2 ha=>(h5 _ s2 (by simp[P3,fC,ha])).bindQ fun l s3 hl=>Ps.bind fun _ _=>Ps.ok hl)
  ·simp only[d8]
   exact Ps.bind fun _ s1=>Ps.ite ((h6 _ s1).bindQ fun a s2 ha=>h5 _ s2 (by rw[P3,ze,hl];simp[fC,ha])) (Ps.ok hl)
  ·simp only[bv]
   exact(h1 s).bindQ fun a s1 ha=>h7 _ _ s1 ha
  ·simp only[dw]
   exact Ps.ite (Ps.ok he) ((h6 _ s.nx).bindQ fun a s2 ha=>h7 _ _ s2 (by simp[wE,JW,fC,he,ha]))
theorem rj(n:Nat)(k:Int)(s:RS):Ps wE (bv L n k s):=(GV L n).2.2.2.2.2.1 k s
def Kx:Prop:=∀s:RS,(bt L s).t.length≤20000
variable{L}(hs:Kx L)
include hs
theorem rm(k:Int)(s:RS):Ps (fun t:T=>t.t.length≤20000) (dt L k s):=fun a s' e=>by
 unfold dt at e;cases h:((bt L s).k==k)<;>rw[h]at e<;>cases e
 exact hs s
omit hs in
theorem w6:∀(l:List Int)(s:RS),Ps (fun t:Int=>t∈l) (dP L l s)
 |[],s=>fun _ _ e=>by cases e
 |k::r,s=>by
  simp only[dP];exact Ps.bind fun b s'=>Ps.ite (Ps.ok (List.mem_cons_self ..)) ((w6 r s').imp fun _ h=>List.mem_cons_of_mem _ h)
theorem MT(n:Nat)(id p:Int)(s:RS):Ps gS (ip L n id p s):=by
 unfold ip;refine(rm hs 1 s).bindQ fun t s2 ht=>Ps.bind fun _ s3=>Ps.bind fun _ s4=>Ps.ite ?_ ?_
 ·exact Ps.bind fun _ s5=>Ps.bind fun _ s6=>Ps.bind fun _ s7=>Ps.bind fun _ _=>Ps.ok (by simp[gS,iW,fC,d5,em];omega)
 ·exact Ps.bind fun _ s5=>Ps.ite ((rj L n 1 s5).bindQ fun a s6 ha=>Ps.bind fun _ _=>Ps.ok (by simp[gS,iW,fC,d5,em,ha];omega)) (Ps.bind fun _ _=>Ps.ok (by simp[gS,iW,fC,d5,em];omega))
theorem GW(n:Nat)(id p:Int)(s:RS):Ps gS (cE L n id p s):=by
 obtain⟨_,h2,h3,_⟩:=GV L n;unfold cE;refine(rm hs 1 s).bindQ fun t s2 ht=>Ps.ite ?_ (Ps.ite ?_ ?_)
 ·exact(h3 _ _ s2).bindQ fun a s3 ha=>Ps.bind fun _ _=>Ps.ok (by simp[gS,iW,fC,d5,em,ha])
 ·exact(h2 s2).bindQ fun a s3 ha=>Ps.bind fun _ s4=>(rj L n 1 s4).bindQ fun b s5 hb=>Ps.bind fun _ _=>Ps.ok (by simp[gS,iW,fC,d5,em,ha,hb];omega)
 ·exact Ps.bind fun _ s3=>(rj L n 1 s3).bindQ fun a s4 ha=>Ps.bind fun _ _=>Ps.ok (by simp[gS,iW,fC,d5,em,ha];omega)
theorem Ce:∀n,(∀s,Ps gL (bM L n s))∧(∀l s,gL l→Ps gL (cF L n l s))∧(∀s,Ps gS (ej L n s))
 |0=>⟨fun _=>Ps.out,fun _ _ _=>Ps.out,fun _=>Ps.out⟩
 |n+1=>by
  obtain⟨h1,h2,h3⟩:=Ce n;refine⟨fun s=> ?_,fun l s hl=> ?_,fun s=> ?_⟩
  ·simp only[bM]
   exact Ps.bind fun _ s1=>(h2 _ s1 rfl).bindQ fun a s2 ha=>Ps.bind fun _ _=>Ps.ok ha
  ·simp only[cF]
   exact Ps.ite (Ps.ok hl) ((h3 s).bindQ fun a s1 ha=>h2 _ s1 (by rw[gL,vg,hl];simp[em,ha]))
  ·simp only[ej]
   have X:=rj L n 1;refine Ps.bind fun _ s'=>Ps.ite ((MT hs n _ _ s').bindQ fun a _ ha=>Ps.ok ha) (Ps.bind fun _ s'=>Ps.ite ?_ (Ps.bind fun _ s'=>Ps.ite ?_ (Ps.bind fun _ s'=>Ps.ite ?_ (Ps.bind fun _ s'=>Ps.ite ?_ ?_))))
   ·exact(X s').bindQ fun a s2 ha=>(h1 s2).bindQ fun b s3 hb=>Ps.bind fun _ s4=>Ps.ite ((h1 s4).bindQ fun c _ hc=>Ps.ok (by simp[gS,iW,fC,d5,ha,hb,hc])) (Ps.ok (by simp[gS,iW,fC,d5,ha,hb,em]))
   ·exact(X s').bindQ fun a s2 ha=>(h1 s2).bindQ fun b s3 hb=>Ps.ok (by simp[gS,iW,fC,d5,ha,hb,em])
   ·exact Ps.ite (Ps.bind fun _ _=>Ps.ok rfl) ((X s').bindQ fun a s2 ha=>Ps.bind fun _ _=>Ps.ok (by simp[gS,iW,fC,d5,ha,em]))
   ·exact(X s').bindQ fun a s2 ha=>Ps.bind fun _ _=>Ps.ok (by simp[gS,iW,fC,d5,ha,em])
   ·exact(GW hs n _ _ _).bindQ fun a _ ha=>Ps.ok ha
def tO(p:Pm):Prop:=p.nm.length≤20000∧p.ty∈[1,2,3]
structure nj(f:Fn):Prop where
 bd:em f.bd=true
 ps:∀p∈f.ps,tO p
 res:f.res∈[0,1,2]
 nm:f.nm.length≤20000
theorem zf(s:RS):Ps tO (eW L s):=(rm hs 1 s).bindQ fun _ _ ht=>Ps.bind fun _ _=>(w6 _ _).bindQ fun _ _ hk=>Ps.ok ⟨ht,hk⟩
theorem zg:∀(n:Nat)(l:List Pm)(s:RS),(∀p∈l,tO p)→Ps (fun l=>∀p∈l,tO p) (cG L n l s)
 |0,_,_,_=>Ps.out
 |n+1,l,s,hl=>by
  simp only[cG]
  exact Ps.bind fun _ s'=>Ps.ite ((zf hs s').bindQ fun a s2 ha=>zg n _ s2 fun p hp=>by
   rcases List.mem_append.1 hp with hp|hp
   ·exact hl p hp
   ·rw[List.mem_singleton.1 hp];exact ha) (Ps.ok hl)
theorem DB(n:Nat)(s:RS):Ps (fun l=>∀p∈l,tO p) (cQ L n s):=by
 unfold cQ;exact Ps.bind fun _ s3=>Ps.ite (Ps.bind fun _ _=>Ps.ok fun _ h=>by cases h) ((zf hs s3).bindQ fun a s4 ha=>(zg hs n _ s4 fun p hp=>by rw[List.mem_singleton.1 hp];exact ha).bindQ fun l s5 hl=>Ps.bind fun _ _=>Ps.ok hl)
theorem Ky(n:Nat)(s:RS):Ps nj (qg L n s):=by
 have B:=(Ce hs n).1;unfold qg;refine Ps.bind fun _ s1=>(rm hs 1 s1).bindQ fun u s2 hu=>(DB hs n s2).bindQ fun ps s3 hps=>Ps.bind fun _ s4=>Ps.ite ?_ ?_
 ·exact(w6 _ s4).bindQ fun k s5 hk=>(B s5).bindQ fun l _ hl=>Ps.ok ⟨hl,hps,List.mem_cons_of_mem _ hk,hu⟩
 ·exact(B s4).bindQ fun l _ hl=>Ps.ok ⟨hl,hps,List.mem_cons_self ..,hu⟩
theorem GX(N:Nat):∀(n:Nat)(l:List Fn)(s:RS),(∀f∈l,nj f)→Ps (fun l=>∀f∈l,nj f) (fA L N n l s)
 |0,_,_,_=>Ps.out
 |n+1,l,s,hl=>by
  simp only[fA]
  exact Ps.ite (Ps.ok hl) ((Ky hs N s).bindQ fun a s1 ha=>GX N n _ s1 fun f hf=>by
   rcases List.mem_append.1 hf with hf|hf
   ·exact hl f hf
   ·rw[List.mem_singleton.1 hf];exact ha)
theorem Jy(n:Nat):Ps (fun l=>∀f∈l,nj f) (cT L n):=by
 unfold cT;exact(Ky hs n ⟨0,0,0⟩).bindQ fun a s1 ha=>GX hs n n _ s1 fun f hf=>by rw[List.mem_singleton.1 hf];exact ha
end
end Go.Avm
namespace Go.Avm
open Go.Proofs
theorem bind_ok{α β:Type}{r:Res α}{f:α→RS→Res β}{b:β}{s2:RS}(h:r.bind f= .ok b s2):∃a s1,r= .ok a s1∧f a s1= .ok b s2:=by
 cases r with
 |ok a s1=>exact⟨a,s1,rfl,h⟩
 |bad p q s1=>cases h
 |out=>cases h
def kA(s:RS):Int:=dD (s.n+1)
def vo(L:List T)(s:RS)(a:Int):Prop:=a<(bt L s).p
structure On(L:List T)(s s':RS):Prop where
 lt:s.i<s'.i
 len:s'.i<L.length
 n:s'.n=s.n
section
variable{L:List T}(hL:dF L)(hI:SI L)
include hL
theorem fm{x:List UInt8}{s s':RS}{t:T}(l:s.i<L.length)(h:aE L x s= .ok t s'):On L s s':=⟨((jt hL x s l).2 t s' h).1,((jt hL x s l).2 t s' h).2,oS L x s t s' h⟩
theorem Cf{k:Int}(hk:k≠0){s s':RS}{t:T}(l:s.i<L.length)(h:dt L k s= .ok t s'):On L s s':=⟨((kp hL k hk s l).2 t s' h).1,((kp hL k hk s l).2 t s' h).2,mf L k s t s' h⟩
theorem rn{n:Nat}{k:Int}{s s':RS}{e:Ex}(l:s.i<L.length)(h:bv L n k s= .ok e s'):On L s s':=by
 have c:=(lK hL n).expr k s l;rw[h]at c;exact⟨jk L n k s e s' h,c.1,ri L n k s e s' h⟩
theorem kq{α:Type}{x:List UInt8}{s s':RS}(l:s.i<L.length){X Y:RS→Res α}{a:α}(h:((ci L x s).bind fun b s1=>bif b then X s1 else Y s1)= .ok a s'):(∃s1,On L s s1∧X s1= .ok a s')∨Y s= .ok a s':=by
 unfold ci at h;cases hi:isT L s x<;>rw[hi]at h
 ·exact .inr h
 ·simp only[cond_true]at h
  cases hw:aE L x s<;>rw[hw]at h
  ·exact .inl ⟨_,fm hL l hw,h⟩
  ·cases h
  ·cases h
theorem MU{n:Nat}{id p:Int}{s s':RS}{x:bu}(l:s.i<L.length)(h:ip L n id p s= .ok x s'):On L s s':=by
 have c:=PC hL n id p s l;rw[h]at c;exact⟨EC L n id p s x s' h,c.1,MS L n id p s x s' h⟩
theorem GY{n:Nat}{id p:Int}{s s':RS}{x:bu}(l:s.i<L.length)(h:cE L n id p s= .ok x s'):On L s s':=by
 have c:=Gb hL n id p s l;rw[h]at c;exact⟨yq L n id p s x s' h,c.1,GU L n id p s x s' h⟩
theorem pI{n:Nat}{s s':RS}{b:List bu}(l:s.i<L.length)(h:bM L n s= .ok b s'):s.i<s'.i∧s'.i<L.length:=by
 have c:=(yV hL n).block s l;rw[h]at c;exact⟨(me L n).1 s b s' h,c.1⟩
theorem GZ{n:Nat}{s s':RS}{x:bu}(l:s.i<L.length)(h:ej L n s= .ok x s'):s.i<s'.i∧s'.i<L.length:=by
 have c:=(yV hL n).stmt s l;rw[h]at c;exact⟨(me L n).2.2 s x s' h,c.1⟩
omit hL
include hI
theorem rq{s s':RS}{a:Int}(hle:s.i≤s'.i)(hlt:s'.i<L.length)(h:vo L s a):vo L s' a:=by
 rcases Nat.lt_or_ge s.i s'.i with h1|h1
 ·exact Int.lt_trans h (hI _ _ h1 hlt)
 ·have:s.i=s'.i:=by omega
  unfold vo bt at h ⊢;rw[←this];exact h
theorem G4{s s':RS}(hlt:s.i<s'.i)(hlen:s'.i<L.length):vo L s' (bt L s).p:=hI _ _ hlt hlen
include hL
theorem oT{s0 s':RS}{k id:Int}{nm:List UInt8}{ty v p:Int}{es:List Ex}{bd el:List bu}{a:Int}(hid:id=kA s0)(hp:p=(bt L s0).p)(ha:vo L s0 a)(lb:bd.length<1000000)(le:el.length<1000000){n1 a1 n2 a2:Int}(hb:gm bd (dD (kA s0+1)) (bt L s0).p n1 a1)(he:gm el n1 a1 n2 a2)(hn:n2=kA s'):
    ∀r n3 a3,gm r (kA s') a2 n3 a3→gm (.mk k id nm ty v p es bd el::r) (kA s0) a n3 a3:=fun r n3 a3 hr=>by
 subst hid hp hn;exact gm.cons ha lb le hb he hr
theorem Cg:∀n,(∀(s s':RS)(l:List bu),s.i<L.length→bM L n s= .ok l s'→l.length<1000000∧∀a,vo L s a→∃a',gm l (kA s) a (kA s') a'∧vo L s' a')∧
    (∀(r:List bu)(s s':RS)(l:List bu),s.i<L.length→r.length≤s.i→cF L n r s= .ok l s'→(l.length≤s'.i∧s'.i<L.length)∧∃l2,l=r ++l2∧∀a,vo L s a→∃a',gm l2 (kA s) a (kA s') a'∧vo L s' a')∧
    (∀(s s':RS)(x:bu),s.i<L.length→ej L n s= .ok x s'→∀a,vo L s a→∃a1,(∀r n3 a3,gm r (kA s') a1 n3 a3→gm (x::r) (kA s) a n3 a3)∧vo L s' a1)
 |0=>⟨fun _ _ _ _ h=>by simp[bM]at h,fun _ _ _ _ _ _ h=>by simp[cF]at h,fun _ _ _ _ h=>by simp[ej]at h⟩
 |n+1=>by
  obtain⟨ihB,ihS,ihT⟩:=Cg n;refine⟨fun s s' l hl h=> ?_,fun r s s' l hl hr h=> ?_,fun s0 s' x hl h a ha=> ?_⟩
  ·simp only[bM]at h
   obtain⟨t,s1,h1,h⟩:=bind_ok h;obtain⟨l1,s2,h2,h⟩:=bind_ok h;obtain⟨t3,s3,h3,h⟩:=bind_ok h;cases h;have o1:=fm hL hl h1;obtain⟨⟨g1,g2⟩,l2,rfl,g3⟩:=ihS [] s1 s2 _ o1.len (Nat.zero_le _) h2;have o3:=fm hL g2 h3;refine⟨by have:=hL.len;omega,fun a ha=> ?_⟩;obtain⟨a',g4,g5⟩:=g3 a (rq hI (Nat.le_of_lt o1.lt) o1.len ha);refine⟨a', ?_,rq hI (Nat.le_of_lt o3.lt) o3.len g5⟩;have e1:kA s1=kA s:=by simp only[kA,o1.n]
   have e2:kA s'=kA s2:=by simp only[kA,o3.n]
   rw[e2,←e1];exact g4
  ·simp only[cF]at h
   cases hi:isT L s [125]<;>rw[hi]at h
   ·simp only[cond_false]at h
    obtain⟨x,s1,h1,h⟩:=bind_ok h;have g1:=GZ hL hl h1;obtain⟨g2,l2,rfl,g3⟩:=ihS (r ++[x]) s1 s' l g1.2 (by simp only[List.length_append,List.length_singleton];omega) h;refine⟨g2,x::l2,by simp,fun a ha=> ?_⟩;obtain⟨a1,g4,g5⟩:=ihT s s1 x hl h1 a ha;obtain⟨a2,g6,g7⟩:=g3 a1 g5;exact⟨a2,g4 _ _ _ g6,g7⟩
   ·cases h
    exact⟨⟨hr,hl⟩,[],by simp,fun a ha=>⟨a, .nil _ _,ha⟩⟩
  ·simp only[ej]at h
   have l0:s0.st.i<L.length:=hl;have hc:bt L s0.st=bt L s0:=rfl;have hz:([]:List bu).length<1000000:=by decide
   have leaf:∀{k:Int}{nm:List UInt8}{ty v:Int}{es:List Ex}{s':RS},On L s0.st s'→∃a1,(∀r n3 a3,gm r (kA s') a1 n3 a3→gm (.mk k s0.st.n nm ty v (bt L s0.st).p es [] []::r) (kA s0) a n3 a3)∧vo L s' a1:=fun {k nm ty v es s'} o=>
    ⟨_,oT hL hI (s0:=s0) rfl rfl ha hz hz (.nil _ _) (.nil _ _) (by simp only[kA,o.n];rfl),G4 hI o.lt o.len⟩
   have isl:∀{x:bu}{s':RS},MP s0.st.n (bt L s0.st).p x→On L s0.st s'→∃a1,(∀r n3 a3,gm r (kA s') a1 n3 a3→gm (x::r) (kA s0) a n3 a3)∧vo L s' a1:=fun {x s'} hx o=>by
    obtain⟨k,id,nm,ty,v,p,es,bd,el⟩:=x;obtain⟨rfl,rfl,rfl,rfl⟩:=hx;exact leaf o
   have tr:∀{s1 s2:RS},On L s0.st s1→On L s1 s2→On L s0.st s2:=fun o1 o2=>⟨Nat.lt_trans o1.lt o2.lt,o2.len,o2.n.trans o1.n⟩
   have blk:∀{s2 s3:RS}{b:List bu},On L s0.st s2→bM L n s2= .ok b s3→b.length<1000000∧s2.i<s3.i∧s3.i<L.length∧∃a1,gm b (dD (kA s0+1)) (bt L s0).p (kA s3) a1∧vo L s3 a1:=fun {s2 s3 b} o hb=>by
    obtain⟨g1,g2⟩:=ihB s2 s3 b o.len hb;have g3:=pI hL o.len hb;obtain⟨a1,g4,g5⟩:=g2 _ (G4 hI (s:=s0) o.lt o.len)
    have e:kA s2=dD (kA s0+1):=by
     have:kA s2=dD (s2.n+1):=rfl;rw[this,o.n];rfl
    rw[e]at g4;exact⟨g1,g3.1,g3.2,a1,g4,g5⟩
   rcases kq hL l0 h with ⟨s1,o1,h⟩|h
   ·obtain⟨x1,s2,h2,h⟩:=bind_ok h
    cases h;exact isl (MQ L n _ _ s1 x s' h2) (tr o1 (MU hL o1.len h2))
   rcases kq hL l0 h with ⟨s1,o1,h⟩|h
   ·obtain⟨e,s2,h2,h⟩:=bind_ok h
    obtain⟨b,s3,h3,h⟩:=bind_ok h;have o2:=tr o1 (rn hL o1.len h2);obtain⟨lb,p1,p2,a1,g1,g2⟩:=blk o2 h3;rcases kq hL p2 h with ⟨s4,o4,h⟩|h
    ·obtain⟨m,s5,h5,h⟩:=bind_ok h
     cases h;obtain⟨lm,g3⟩:=ihB s4 s' m o4.len h5;have g4:=pI hL o4.len h5;obtain⟨a2,g5,g6⟩:=g3 a1 (rq hI (Nat.le_of_lt o4.lt) o4.len g2);have e4:kA s4=kA s3:=by simp only[kA,o4.n]
     rw[e4]at g5;exact⟨a2,oT hL hI (s0:=s0) rfl rfl ha lb lm g1 g5 rfl,g6⟩
    ·cases h
     exact⟨a1,oT hL hI (s0:=s0) rfl rfl ha lb hz g1 (.nil _ _) rfl,g2⟩
   rcases kq hL l0 h with ⟨s1,o1,h⟩|h
   ·obtain⟨e,s2,h2,h⟩:=bind_ok h
    obtain⟨b,s3,h3,h⟩:=bind_ok h;cases h;obtain⟨lb,p1,p2,a1,g1,g2⟩:=blk (tr o1 (rn hL o1.len h2)) h3;exact⟨a1,oT hL hI (s0:=s0) rfl rfl ha lb hz g1 (.nil _ _) rfl,g2⟩
   rcases kq hL l0 h with ⟨s1,o1,h⟩|h
   ·cases hi:isT L s1 [59]<;>rw[hi]at h
    ·obtain⟨e,s2,h2,h⟩:=bind_ok h
     obtain⟨t,s3,h3,h⟩:=bind_ok h;cases h;have o2:=tr o1 (rn hL o1.len h2);exact leaf (tr o2 (fm hL o2.len h3))
    ·obtain⟨t,s2,h2,h⟩:=bind_ok h
     cases h;exact leaf (tr o1 (fm hL o1.len h2))
   rcases kq hL l0 h with ⟨s1,o1,h⟩|h
   ·obtain⟨e,s2,h2,h⟩:=bind_ok h
    obtain⟨t,s3,h3,h⟩:=bind_ok h;cases h;have o2:=tr o1 (rn hL o1.len h2);exact leaf (tr o2 (fm hL o2.len h3))
   ·obtain⟨x1,s2,h2,h⟩:=bind_ok h
    cases h;exact isl (GT L n _ _ s0.st x s' h2) (GY hL l0 h2)
end
end Go.Avm
namespace Go.Avm
open Go.Proofs
def DC:Nat→List (Nat×jn)→Nat→Prop
 |lo,[],hi=>lo≤hi
 |lo,x::r,hi=>lo≤x.1∧DC (x.1+1) r hi
theorem vw:∀{ts:List (Nat×jn)}{lo lo' hi:Nat},lo≤lo'→DC lo' ts hi→DC lo ts hi
 |[],_,_,_,h,h1=>Nat.le_trans h h1
 |_::_,_,_,_,h,h1=>⟨Nat.le_trans h h1.1,h1.2⟩
theorem tP:∀(n:Nat)(r:List UInt8)(a:Nat)(ts:List (Nat×jn)),cz n r a= .ok ts→DC a ts (a+r.length)
 |0,r,a,ts,h=>by
  simp only[cz,Except.ok.injEq]at h;subst h;exact Nat.le_add_right _ _
 |n+1,[],a,ts,h=>by
  simp only[cz,Except.ok.injEq]at h;subst h;exact Nat.le_add_right _ _
 |n+1,b::r,a,ts,h=>by
  rw[d4]at h;split at h
  ·cases h
  rename_i t ht;split at h
  ·cases h
  rename_i ts' hts;cases h;obtain⟨kd,tx,k⟩:=t;obtain⟨hp,hne⟩:=oP ht;have h1:0<tx.length:=List.length_pos_iff.2 hne;have h2:tx.length≤(b::r).length:=hp.length_le;have ih:=tP n _ _ _ hts;have h3:=fg false ((b::r).drop tx.length);simp only[List.length_drop]at ih h3;refine⟨Nat.le_refl _, ?_⟩;have e:a+tx.length+aF false (List.drop tx.length (b::r))+((b::r).length-tx.length-aF false (List.drop tx.length (b::r)))=a+(b::r).length:=by omega
  rw[e]at ih;exact vw (show a+1≤a+tx.length+aF false (List.drop tx.length (b::r)) by omega) ih
theorem AZ{s:List UInt8}{ts:List (Nat×jn)}(h:eE s= .ok ts):DC 0 ts s.length:=by
 have h1:=tP _ _ _ _ h;have h2:=fg false s;rw[List.length_drop,Nat.add_sub_cancel' h2]at h1;exact vw (Nat.zero_le _) h1
theorem zh(n:Nat):∀{ts:List (Nat×jn)}{lo:Nat},DC lo ts n→(∀i,i<(ax ts n).length→(lo:Int)≤((ax ts n).getD i default).p)∧SI (ax ts n)
 |[],lo,h=>by
  have h':lo≤n:=h;refine⟨fun i hi=> ?_,fun i j hij hj=> ?_⟩
  ·have:i=0:=by simp[ax]at hi;exact hi
   subst this;show(lo:Int)≤(n:Int);omega
  ·simp[ax]at hj;omega
 |x::r,lo,⟨h1,h2⟩=>by
  obtain⟨g1,g2⟩:=zh n h2;have hc:ax (x::r) n=SH x::ax r n:=rfl;refine⟨fun i hi=> ?_,fun i j hij hj=> ?_⟩
  ·rw[hc]at hi ⊢
   cases i with
   |zero=>show(lo:Int)≤(x.1:Int);omega
   |succ i=>
    have:=g1 i (by simpa using hi);rw[List.getD_cons_succ];omega
  ·rw[hc]at hj ⊢
   cases j with
   |zero=>omega
   |succ j=>
    have hj':j<(ax r n).length:=by simpa using hj
    rw[List.getD_cons_succ];cases i with
    |zero=>
     have:=g1 j hj';show(x.1:Int)<_;omega
    |succ i=>
     rw[List.getD_cons_succ];exact g2 i j (by omega) hj'
section
variable{L:List T}(hL:dF L)(hI:SI L)
include hL
theorem jS{s1 s2 s3:RS}(a:On L s1 s2)(b:On L s2 s3):On L s1 s3:=⟨Nat.lt_trans a.lt b.lt,b.len,b.n.trans a.n⟩
theorem w7:∀{k:List Int}{s s':RS}{t:Int},s.i<L.length→dP L k s= .ok t s'→On L s s'
 |[],_,_,_,_,h=>by cases h
 |k::r,s,s',t,l,h=>by
  simp only[dP]at h;rcases kq hL l h with ⟨s1,o,h⟩|h
  ·cases h;exact o
  ·exact w7 l h
theorem zi{s s':RS}{x:Pm}(l:s.i<L.length)(h:eW L s= .ok x s'):On L s s':=by
 unfold eW at h;obtain⟨t,s1,h1,h⟩:=bind_ok h;obtain⟨u,s2,h2,h⟩:=bind_ok h;obtain⟨k,s3,h3,h⟩:=bind_ok h;cases h;have o1:=Cf hL (by decide) l h1;have o2:=fm hL o1.len h2;exact jS hL (jS hL o1 o2) (w7 hL o2.len h3)
theorem zj:∀{n:Nat}{r:List Pm}{s s':RS}{l2:List Pm},s.i<L.length→cG L n r s= .ok l2 s'→s'=s∨On L s s'
 |0,_,_,_,_,_,h=>by simp[cG]at h
 |n+1,r,s,s',l2,l,h=>by
  simp only[cG]at h;rcases kq hL l h with ⟨s1,o,h⟩|h
  ·obtain⟨x,s2,h2,h⟩:=bind_ok h
   have o2:=jS hL o (zi hL o.len h2);rcases zj o2.len h with rfl|o3
   ·exact .inr o2
   ·exact .inr (jS hL o2 o3)
  ·cases h;exact .inl rfl
theorem DD{n:Nat}{s s':RS}{l2:List Pm}(l:s.i<L.length)(h:cQ L n s= .ok l2 s'):On L s s':=by
 unfold cQ at h;obtain⟨t,s1,h1,h⟩:=bind_ok h;have o1:=fm hL l h1;cases hi:isT L s1 [41]<;>rw[hi]at h
 ·obtain⟨x,s2,h2,h⟩:=bind_ok h
  obtain⟨y,s3,h3,h⟩:=bind_ok h;obtain⟨z,s4,h4,h⟩:=bind_ok h;cases h;have o2:=jS hL o1 (zi hL o1.len h2);rcases zj hL o2.len h3 with rfl|o3
  ·exact jS hL o2 (fm hL o2.len h4)
  ·exact jS hL (jS hL o2 o3) (fm hL o3.len h4)
 ·obtain⟨x,s2,h2,h⟩:=bind_ok h
  cases h;exact jS hL o1 (fm hL o1.len h2)
include hI
theorem G5{n:Nat}{s s':RS}{f:Fn}(l:s.i<L.length)(h:qg L n s= .ok f s'):(s.i<s'.i∧s'.i<L.length)∧f.bd.length<1000000∧∀a,vo L s a→∃a',gm f.bd (kA s) a (kA s') a'∧vo L s' a':=by
 unfold qg at h;obtain⟨t,s1,h1,h⟩:=bind_ok h;obtain⟨u,s2,h2,h⟩:=bind_ok h;obtain⟨ps,s3,h3,h⟩:=bind_ok h;have o1:=fm hL l h1;have o2:=jS hL o1 (Cf hL (by decide) o1.len h2);have o3:=jS hL o2 (DD hL o2.len h3)
 have fin:∀{s4:RS}{b:List bu},On L s s4→bM L n s4= .ok b s'→(s.i<s'.i∧s'.i<L.length)∧b.length<1000000∧∀a,vo L s a→∃a',gm b (kA s) a (kA s') a'∧vo L s' a':=fun {s4 b} o hb=>by
  have g1:=pI hL o.len hb;obtain⟨g2,g3⟩:=(Cg hL hI n).1 s4 s' b o.len hb;refine⟨⟨Nat.lt_trans o.lt g1.1,g1.2⟩,g2,fun a ha=> ?_⟩;obtain⟨a',g4,g5⟩:=g3 a (rq hI (Nat.le_of_lt o.lt) o.len ha);have e:kA s4=kA s:=by simp only[kA,o.n]
  rw[e]at g4;exact⟨a',g4,g5⟩
 rcases kq hL o3.len h with ⟨s4,o4,h⟩|h
 ·obtain⟨k,s5,h5,h⟩:=bind_ok h
  obtain⟨b,s6,h6,h⟩:=bind_ok h;cases h;exact fin (jS hL (jS hL o3 o4) (w7 hL o4.len h5)) h6
 ·obtain⟨b,s6,h6,h⟩:=bind_ok h
  cases h;exact fin o3 h6
theorem Ch(N:Nat):∀(n:Nat)(r:List Fn)(s s':RS)(l:List Fn),s.i<L.length→r.length≤s.i→fA L N n r s= .ok l s'→l.length<1000000∧∃l2,l=r ++l2∧∀a,vo L s a→uv l2 (kA s) a
 |0,_,_,_,_,_,_,h=>by simp[fA]at h
 |n+1,r,s,s',l,hl,hr,h=>by
  simp only[fA]at h;cases hk:((bt L s).k==0)<;>rw[hk]at h
  ·simp only[cond_false]at h
   obtain⟨f,s1,h1,h⟩:=bind_ok h;obtain⟨g1,g2,g3⟩:=G5 hL hI hl h1;obtain⟨g4,l2,rfl,g5⟩:=Ch N n (r ++[f]) s1 s' l g1.2 (by simp only[List.length_append,List.length_singleton];omega) h;refine⟨g4,f::l2,by simp,fun a ha=> ?_⟩;obtain⟨a',g6,g7⟩:=g3 a ha;exact uv.cons g2 g6 (g5 a' g7)
  ·cases h
   exact⟨by have:=hL.len;omega,[],by simp,fun a _=> .nil _ _⟩
theorem G6{n:Nat}{l:List Fn}{s':RS}(h0:0<L.length)(hp:0≤(bt L ⟨0,0,0⟩).p)(h:cT L n= .ok l s'):l.length<1000000∧uv l 1 (-1):=by
 unfold cT at h;obtain⟨f,s1,h1,h⟩:=bind_ok h;obtain⟨g1,g2,g3⟩:=G5 hL hI (s:=⟨0,0,0⟩) h0 h1;obtain⟨g4,l2,rfl,g5⟩:=Ch hL hI n n [f] s1 s' l g1.2 (by have:=g1.1;simp only[List.length_singleton];omega) h;obtain⟨a',g6,g7⟩:=g3 (-1) (by unfold vo;omega);exact⟨g4,uv.cons g2 g6 (g5 a' g7)⟩
end
end Go.Avm
namespace Go.Avm
open Go.Proofs
def Post{α:Type}(Q:α→RS→Prop)(r:Res α):Prop:=∀a s',r= .ok a s'→Q a s'
section
variable{α β:Type}{Q Q':α→RS→Prop}{R:β→RS→Prop}{r:Res α}{f:α→RS→Res β}{s:RS}
theorem Post.bind(h:Post Q r)(hf:∀a s',Q a s'→Post R (f a s')):Post R (r.bind f):=fun b s2 e=>by
 cases r with
 |ok a s1=>exact hf a s1 (h a s1 rfl) b s2 e
 |bad p q s1=>cases e
 |out=>cases e
theorem Post.ok{a:α}(h:Q a s):Post Q (.ok a s):=fun _ _ e=>by cases e;exact h
theorem Post.out:Post Q (Res.out:Res α):=fun _ _ e=>by cases e
theorem Post.bad{p e:Int}:Post Q (Res.bad p e s:Res α):=fun _ _ e=>by cases e
theorem Post.ite{c:Bool}{X Y:Res α}(hX:Post Q X)(hY:Post Q Y):Post Q (bif c then X else Y):=by cases c<;>assumption
theorem Post.imp(h:Post Q r)(hq:∀a s',Q a s'→Q' a s'):Post Q' r:=fun a s' e=>hq a s' (h a s' e)
end
section
variable(L:List T)
theorem lQ(x:List UInt8)(s:RS):Post (fun _ s'=>s.i+1≤s'.i) (aE L x s):=aO L x s
theorem nk(k:Int)(s:RS):Post (fun _ s'=>s.i+1≤s'.i) (dt L k s):=iq L k s
theorem A0(k:List Int)(s:RS):Post (fun _ s'=>s.i+1≤s'.i) (dP L k s):=oA L k s
theorem Post.may{L:List T}{α:Type}{Q:α→RS→Prop}{x:List UInt8}{s:RS}{X Y:RS→Res α}(hX:∀s',s.i+1≤s'.i→Post Q (X s'))(hY:Post Q (Y s)):Post Q ((ci L x s).bind fun b s1=>bif b then X s1 else Y s1):=by
 unfold ci;cases isT L s x with
 |false=>exact hY
 |true=>
  have:=(lQ L x s).bind (f:=fun _ s1=>X s1) fun _ s' h=>hX s' h
  simp only[cond_true];revert this;cases aE L x s<;>exact fun h=>h
structure ZA(n:Nat):Prop where
 one:∀s:RS,Post (fun a s'=>xw a+s.i≤s'.i) (eP L n s)
 place:∀s:RS,Post (fun a s'=>xw a+2+s.i≤s'.i) (cP L n s)
 call:∀nm p (s:RS),Post (fun a s'=>xw a+1+s.i≤s'.i) (du L n nm p s)
 args:∀s:RS,Post (fun a s'=>eo a+2+s.i≤s'.i) (eS L n s)
 more:∀l (s:RS),Post (fun a s'=>eo a+s.i≤s'.i+eo l) (d8 L n l s)
 expr:∀k (s:RS),Post (fun a s'=>xw a+s.i≤s'.i) (bv L n k s)
 tail:∀k e (s:RS),Post (fun a s'=>xw a+s.i≤s'.i+xw e) (dw L n k e s)
theorem zk:∀l m:List Ex,eo (l ++m)=eo l+eo m
 |[],m=>by simp[eo]
 |x::l,m=>by simp only[List.cons_append,eo,zk l m];omega
theorem zl:∀l m:List bu,cD (l ++m)=cD l+cD m
 |[],m=>by simp[cD]
 |x::l,m=>by simp only[List.cons_append,cD,zl l m];omega
theorem zm:∀l m:List Fn,gU (l ++m)=gU l+gU m
 |[],m=>by simp[gU]
 |x::l,m=>by simp only[List.cons_append,gU,zm l m];omega
theorem Jz:∀n,ZA L n
 |0=>⟨fun _=>Post.out,fun _=>Post.out,fun _ _ _=>Post.out,fun _=>Post.out,fun _ _=>Post.out,fun _ _=>Post.out,fun _ _ _=>Post.out⟩
 |n+1=>by
  have ih:=Jz n;have W:=lQ L;refine⟨fun s=> ?_,fun s=> ?_,fun nm p s=> ?_,fun s=> ?_,fun l s=> ?_,fun k s=> ?_,fun k e s=> ?_⟩
  ·simp only[eP]
   have un:∀(o p:Int) s',s.i+1≤s'.i→Post (fun a s2=>xw a+s.i≤s2.i) ((eP L n s').bind fun e s2=> .ok (.mk 8 o [] 0 p [e]) s2):=fun o p s' h=>(ih.one s').bind fun e s2 h2=> .ok (by simp only[xw,eo];omega)
   refine Post.may (fun s'=>un _ _ s') (Post.may (fun s'=>un _ _ s') (Post.may (fun s'=>un _ _ s') (Post.ite (.ok (by simp only[xw,eo,RS.nx];omega)) ?_)));refine Post.may (fun s' h=> .ok (by simp only[xw,eo];omega)) (Post.may (fun s' h=> .ok (by simp only[xw,eo];omega)) ?_);refine Post.may (fun s' h=>(W _ s').bind fun _ s2 h2=>(W _ s2).bind fun _ _ h3=> .ok (by simp only[xw,eo];omega)) ?_;refine Post.may (fun s' h=>(W _ s').bind fun _ s2 h2=>(nk L 1 s2).bind fun _ s3 h3=>(W _ s3).bind fun _ _ h4=> .ok (by simp only[xw,eo];omega)) ?_;refine Post.ite ((W _ s).bind fun _ s2 h2=>(ih.expr _ s2).bind fun _ s3 h3=>(W _ s3).bind fun _ _ h4=> .ok (by omega)) ?_;refine(nk L 1 s).bind fun _ s2 h2=>Post.ite ((ih.place s2).bind fun _ _ h3=> .ok (by simp only[xw,eo];omega)) (Post.ite ((ih.call _ _ s2).bind fun _ _ h3=> .ok (by omega)) (.ok (by simp only[xw,eo];omega)))
  ·simp only[cP]
   exact(W _ s).bind fun _ s2 h2=>(ih.expr _ s2).bind fun _ s3 h3=>(W _ s3).bind fun _ _ h4=> .ok (by omega)
  ·simp only[du]
   exact(ih.args s).bind fun _ _ h=> .ok (by simp only[xw];omega)
  ·simp only[eS]
   exact(W _ s).bind fun _ s2 h2=>Post.ite ((W _ s2).bind fun _ _ h3=> .ok (by simp only[eo];omega)) ((ih.expr _ s2).bind fun _ s3 h3=>(ih.more _ s3).bind fun _ s4 h4=>(W _ s4).bind fun _ _ h5=> .ok (by simp only[eo]at h4;omega))
  ·simp only[d8]
   exact Post.may (fun s' h=>(ih.expr _ s').bind fun _ s3 h3=>(ih.more _ s3).imp fun _ _ h4=>by simp only[zk,eo]at h4;omega) (.ok (Nat.le_of_eq (Nat.add_comm _ _)))
  ·simp only[bv]
   exact(ih.one s).bind fun _ s2 h2=>(ih.tail _ _ s2).imp fun _ _ h3=>by omega
  ·simp only[dw]
   exact Post.ite (.ok (Nat.le_of_eq (Nat.add_comm _ _))) ((ih.expr _ _).bind fun _ s2 h2=>(ih.tail _ _ s2).imp fun _ _ h3=>by simp only[xw,eo,RS.nx]at h2 h3;omega)
theorem P4(n:Nat)(id p:Int)(s:RS):Post (fun a s'=>tN a+s.i≤s'.i) (ip L n id p s):=by
 have W:=lQ L;unfold ip;refine(nk L 1 s).bind fun _ s2 h2=>(W _ s2).bind fun _ s3 h3=>(A0 L _ s3).bind fun _ s4 h4=>Post.ite ?_ ?_
 ·exact(W _ s4).bind fun _ s5 h5=>(nk L 3 s5).bind fun _ s6 h6=>(W _ s6).bind fun _ s7 h7=>(W _ s7).bind fun _ _ h8=> .ok (by simp only[tN,cD,eo];omega)
 ·exact Post.may (fun s' h=>((Jz L n).expr 1 s').bind fun _ s6 h6=>(W _ s6).bind fun _ _ h7=> .ok (by simp only[tN,cD,eo];omega)) ((W _ s4).bind fun _ _ h5=> .ok (by simp only[tN,cD,eo];omega))
theorem JA(n:Nat)(id p:Int)(s:RS):Post (fun a s'=>tN a+s.i≤s'.i) (cE L n id p s):=by
 have W:=lQ L;have A:=Jz L n;unfold cE;refine(nk L 1 s).bind fun _ s2 h2=>Post.ite ((A.call _ _ s2).bind fun _ s3 h3=>(W _ s3).bind fun _ _ h4=> .ok (by simp only[tN,cD,eo];omega)) (Post.ite ?_ ?_)
 ·exact(A.place s2).bind fun _ s3 h3=>(W _ s3).bind fun _ s4 h4=>(A.expr 1 s4).bind fun _ s5 h5=>(W _ s5).bind fun _ _ h6=> .ok (by simp only[tN,cD,eo];omega)
 ·exact(W _ s2).bind fun _ s3 h3=>(A.expr 1 s3).bind fun _ s4 h4=>(W _ s4).bind fun _ _ h5=> .ok (by simp only[tN,cD,eo];omega)
theorem G7:∀n,(∀s:RS,Post (fun a s'=>cD a+2+s.i≤s'.i) (bM L n s))∧(∀l (s:RS),Post (fun a s'=>cD a+s.i≤s'.i+cD l) (cF L n l s))∧(∀s:RS,Post (fun a s'=>tN a+s.i≤s'.i) (ej L n s))
 |0=>⟨fun _=>Post.out,fun _ _=>Post.out,fun _=>Post.out⟩
 |n+1=>by
  obtain⟨h1,h2,h3⟩:=G7 n;have W:=lQ L;have A:=Jz L n;refine⟨fun s=> ?_,fun l s=> ?_,fun s=> ?_⟩
  ·simp only[bM]
   exact(W _ s).bind fun _ s1 g1=>(h2 _ s1).bind fun _ s2 g2=>(W _ s2).bind fun _ _ g3=> .ok (by simp only[cD]at g2;omega)
  ·simp only[cF]
   exact Post.ite (.ok (Nat.le_of_eq (Nat.add_comm _ _))) ((h3 s).bind fun _ s1 g1=>(h2 _ s1).imp fun _ _ g2=>by simp only[zl,cD]at g2;omega)
  ·simp only[ej]
   have hi:s.st.i=s.i:=rfl;refine Post.may (fun s' g=>(P4 L n _ _ s').bind fun _ _ g2=> .ok (by omega)) (Post.may (fun s' g=> ?_) (Post.may (fun s' g=> ?_) (Post.may (fun s' g=> ?_) (Post.may (fun s' g=> ?_) ?_))))
   ·exact(A.expr 1 s').bind fun _ s2 g2=>(h1 s2).bind fun _ s3 g3=>Post.may (fun s4 g4=>(h1 s4).bind fun _ _ g5=> .ok (by simp only[tN,cD,eo];omega)) (.ok (by simp only[tN,cD,eo];omega))
   ·exact(A.expr 1 s').bind fun _ s2 g2=>(h1 s2).bind fun _ s3 g3=> .ok (by simp only[tN,cD,eo];omega)
   ·exact Post.ite ((W _ s').bind fun _ _ g2=> .ok (by simp only[tN,cD,eo];omega)) ((A.expr 1 s').bind fun _ s2 g2=>(W _ s2).bind fun _ _ g3=> .ok (by simp only[tN,cD,eo];omega))
   ·exact(A.expr 1 s').bind fun _ s2 g2=>(W _ s2).bind fun _ _ g3=> .ok (by simp only[tN,cD,eo];omega)
   ·exact(JA L n _ _ _).bind fun _ _ g2=> .ok (by omega)
theorem Ci(s:RS):Post (fun _ s'=>1+s.i≤s'.i) (eW L s):=(nk L 1 s).bind fun _ s1 h1=>(lQ L _ s1).bind fun _ s2 h2=>(A0 L _ s2).bind fun _ _ h3=> .ok (by omega)
theorem Cj:∀(n:Nat)(l:List Pm)(s:RS),Post (fun a s'=>a.length+s.i≤s'.i+l.length) (cG L n l s)
 |0,_,_=>Post.out
 |n+1,l,s=>by
  simp only[cG];exact Post.may (fun s' h=>(Ci L s').bind fun _ s2 h2=>(Cj n _ s2).imp fun _ _ h3=>by simp only[List.length_append,List.length_cons,List.length_nil]at h3;omega) (.ok (Nat.le_of_eq (Nat.add_comm _ _)))
theorem G8(n:Nat)(s:RS):Post (fun a s'=>a.length+2+s.i≤s'.i) (cQ L n s):=by
 have W:=lQ L;unfold cQ;exact(W _ s).bind fun _ s3 h3=>Post.ite ((W _ s3).bind fun _ _ h4=> .ok (by simp only[List.length_nil];omega)) ((Ci L s3).bind fun _ s4 h4=>(Cj L n _ s4).bind fun _ s5 h5=>(W _ s5).bind fun _ _ h6=> .ok (by simp only[List.length_cons,List.length_nil]at h5;omega))
theorem P5(n:Nat)(s:RS):Post (fun a s'=>Ju a+s.i≤s'.i) (qg L n s):=by
 have W:=lQ L;have B:=(G7 L n).1;unfold qg;exact(W _ s).bind fun _ s1 h1=>(nk L 1 s1).bind fun _ s2 h2=>(G8 L n s2).bind fun _ s3 h3=>Post.may (fun s4 h4=>(A0 L _ s4).bind fun _ s5 h5=>(B s5).bind fun _ _ h6=> .ok (by simp only[Ju];omega)) ((B s3).bind fun _ _ h6=> .ok (by simp only[Ju];omega))
theorem Kz(N:Nat):∀(n:Nat)(l:List Fn)(s:RS),Post (fun a s'=>gU a+s.i≤s'.i+gU l) (fA L N n l s)
 |0,_,_=>Post.out
 |n+1,l,s=>by
  simp only[fA];exact Post.ite (.ok (Nat.le_of_eq (Nat.add_comm _ _))) ((P5 L N s).bind fun _ s1 h1=>(Kz N n _ s1).imp fun _ _ h2=>by simp only[zm,gU]at h2;omega)
theorem MV(n:Nat):Post (fun a s'=>gU a≤s'.i) (cT L n):=by
 unfold cT;exact(P5 L n ⟨0,0,0⟩).bind fun _ s1 h1=>(Kz L n n _ s1).imp fun _ _ h2=>by simp only[gU]at h1 h2;omega
end
theorem A3{L:List T}(hL:dF L)(h0:0<L.length){l:List Fn}{s':RS}(h:cT L (fuel L)= .ok l s'):gU l<1000000:=by
 have h1:=MV L (fuel L) l s' h;have h2:=(((MH hL (fuel L) ⟨0,0,0⟩ h0 (by simp only[fuel];omega)).bind fun f s1 h1 h2=>Gj hL (fuel L) (Nat.le_refl _) (fuel L) [f] s1 h2 (by simp only[fuel];omega)).2 l s' h).2;have:=hL.len;omega
end Go.Avm
namespace Go.Avm
open Go.Proofs
def Bd{α:Type}(r:Res α):Prop:=∀p e s,r= .bad p e s→e≠0
section
variable{α β:Type}{r:Res α}{f:α→RS→Res β}{s:RS}{L:List T}
theorem Bd.bind(h:Bd r)(hf:∀a s',Bd (f a s')):Bd (r.bind f):=fun p e s2 q=>by
 cases r with
 |ok a s1=>exact hf a s1 p e s2 q
 |bad p q2 s1=>cases q;exact h _ _ _ rfl
 |out=>cases q
theorem Bd.ok{a:α}:Bd (.ok a s):=fun _ _ _ q=>by cases q
theorem Bd.out:Bd (Res.out:Res α):=fun _ _ _ q=>by cases q
theorem Bd.fail:Bd (fail L s:Res α):=fun _ _ _ q=>by cases q;decide
theorem Bd.ite{c:Bool}{X Y:Res α}(hX:Bd X)(hY:Bd Y):Bd (bif c then X else Y):=by cases c<;>assumption
theorem bk(x:List UInt8):Bd (aE L x s):=by
 unfold aE;refine Bd.ite (Bd.ite (Bd.ite (fun _ _ _ q=>by cases q;decide) .ok) (Bd.ite .ok .ok)) .fail
theorem kr(k:Int):Bd (dt L k s):=by unfold dt;exact Bd.ite .ok .fail
theorem eh(x:List UInt8):Bd (ci L x s):=by unfold ci;exact Bd.ite ((bk x).bind fun _ _=> .ok) .ok
theorem rt:∀(l:List Int)(s:RS),Bd (dP L l s)
 |[],s=> .fail
 |k::r,s=>by unfold dP;exact(eh _).bind fun _ s'=>Bd.ite .ok (rt r s')
end
section
variable(L:List T)
theorem G9:∀n,(∀s,Bd (eP L n s))∧(∀s,Bd (cP L n s))∧(∀nm p s,Bd (du L n nm p s))∧(∀s,Bd (eS L n s))∧(∀l s,Bd (d8 L n l s))∧(∀k s,Bd (bv L n k s))∧(∀k e s,Bd (dw L n k e s))
 |0=>⟨fun _=> .out,fun _=> .out,fun _ _ _=> .out,fun _=> .out,fun _ _=> .out,fun _ _=> .out,fun _ _ _=> .out⟩
 |n+1=>by
  obtain⟨h1,h2,h3,h4,h5,h6,h7⟩:=G9 n;refine⟨fun s=> ?_,fun s=> ?_,fun nm p s=> ?_,fun s=> ?_,fun l s=> ?_,fun k s=> ?_,fun k e s=> ?_⟩
  ·simp only[eP]
   refine(eh _).bind fun _ s1=>Bd.ite ((h1 _).bind fun _ _=> .ok) ((eh _).bind fun _ s2=>Bd.ite ((h1 _).bind fun _ _=> .ok) ((eh _).bind fun _ s3=>Bd.ite ((h1 _).bind fun _ _=> .ok) (Bd.ite .ok ?_)))
   refine(eh _).bind fun _ s1=>Bd.ite .ok ((eh _).bind fun _ s2=>Bd.ite .ok ((eh _).bind fun _ s3=>Bd.ite ((bk _).bind fun _ _=>(bk _).bind fun _ _=> .ok) ?_))
   refine(eh _).bind fun _ s1=>Bd.ite ((bk _).bind fun _ _=>(kr _).bind fun _ _=>(bk _).bind fun _ _=> .ok) (Bd.ite ((bk _).bind fun _ _=>(h6 _ _).bind fun _ _=>(bk _).bind fun _ _=> .ok) ?_)
   exact(kr _).bind fun _ _=>Bd.ite ((h2 _).bind fun _ _=> .ok) (Bd.ite ((h3 _ _ _).bind fun _ _=> .ok) .ok)
  ·simp only[cP]
   exact(bk _).bind fun _ _=>(h6 _ _).bind fun _ _=>(bk _).bind fun _ _=> .ok
  ·simp only[du]
   exact(h4 _).bind fun _ _=> .ok
  ·simp only[eS]
   exact(bk _).bind fun _ _=>Bd.ite ((bk _).bind fun _ _=> .ok) ((h6 _ _).bind fun _ _=>(h5 _ _).bind fun _ _=>(bk _).bind fun _ _=> .ok)
  ·simp only[d8]
   exact(eh _).bind fun _ _=>Bd.ite ((h6 _ _).bind fun _ _=>h5 _ _) .ok
  ·simp only[bv]
   exact(h1 _).bind fun _ _=>h7 _ _ _
  ·simp only[dw]
   exact Bd.ite .ok ((h6 _ _).bind fun _ _=>h7 _ _ _)
theorem ku(n:Nat)(k:Int)(s:RS):Bd (bv L n k s):=(G9 L n).2.2.2.2.2.1 k s
theorem MW(n:Nat)(id p:Int)(s:RS):Bd (ip L n id p s):=by
 unfold ip;exact(kr _).bind fun _ _=>(bk _).bind fun _ _=>(rt _ _).bind fun _ _=>Bd.ite ((bk _).bind fun _ _=>(kr _).bind fun _ _=>(bk _).bind fun _ _=>(bk _).bind fun _ _=> .ok) ((eh _).bind fun _ _=>Bd.ite ((ku L _ _ _).bind fun _ _=>(bk _).bind fun _ _=> .ok) ((bk _).bind fun _ _=> .ok))
theorem Ha(n:Nat)(id p:Int)(s:RS):Bd (cE L n id p s):=by
 obtain⟨_,h2,h3,_⟩:=G9 L n;unfold cE;exact(kr _).bind fun _ _=>Bd.ite ((h3 _ _ _).bind fun _ _=>(bk _).bind fun _ _=> .ok) (Bd.ite ((h2 _).bind fun _ _=>(bk _).bind fun _ _=>(ku L _ _ _).bind fun _ _=>(bk _).bind fun _ _=> .ok) ((bk _).bind fun _ _=>(ku L _ _ _).bind fun _ _=>(bk _).bind fun _ _=> .ok))
theorem Ck:∀n,(∀s,Bd (bM L n s))∧(∀l s,Bd (cF L n l s))∧(∀s,Bd (ej L n s))
 |0=>⟨fun _=> .out,fun _ _=> .out,fun _=> .out⟩
 |n+1=>by
  obtain⟨h1,h2,h3⟩:=Ck n;refine⟨fun s=> ?_,fun l s=> ?_,fun s=> ?_⟩
  ·simp only[bM]
   exact(bk _).bind fun _ _=>(h2 _ _).bind fun _ _=>(bk _).bind fun _ _=> .ok
  ·simp only[cF]
   exact Bd.ite .ok ((h3 _).bind fun _ _=>h2 _ _)
  ·simp only[ej]
   refine(eh _).bind fun _ _=>Bd.ite ((MW L _ _ _ _).bind fun _ _=> .ok) ((eh _).bind fun _ _=>Bd.ite ((ku L _ _ _).bind fun _ _=>(h1 _).bind fun _ _=>(eh _).bind fun _ _=>Bd.ite ((h1 _).bind fun _ _=> .ok) .ok) ?_)
   refine(eh _).bind fun _ _=>Bd.ite ((ku L _ _ _).bind fun _ _=>(h1 _).bind fun _ _=> .ok) ((eh _).bind fun _ _=>Bd.ite (Bd.ite ((bk _).bind fun _ _=> .ok) ((ku L _ _ _).bind fun _ _=>(bk _).bind fun _ _=> .ok)) ?_)
   exact(eh _).bind fun _ _=>Bd.ite ((ku L _ _ _).bind fun _ _=>(bk _).bind fun _ _=> .ok) ((Ha L _ _ _ _).bind fun _ _=> .ok)
theorem zn(s:RS):Bd (eW L s):=(kr _).bind fun _ _=>(bk _).bind fun _ _=>(rt _ _).bind fun _ _=> .ok
theorem zo:∀(n:Nat)(l:List Pm)(s:RS),Bd (cG L n l s)
 |0,_,_=> .out
 |n+1,l,s=>by
  simp only[cG];exact(eh _).bind fun _ _=>Bd.ite ((zn L _).bind fun _ _=>zo n _ _) .ok
theorem KA(n:Nat)(s:RS):Bd (qg L n s):=by
 have B:=(Ck L n).1;unfold qg cQ;exact(bk _).bind fun _ _=>(kr _).bind fun _ _=>Bd.bind ((bk _).bind fun _ _=>Bd.ite ((bk _).bind fun _ _=> .ok) ((zn L _).bind fun _ _=>(zo L _ _ _).bind fun _ _=>(bk _).bind fun _ _=> .ok)) fun _ _=>(eh _).bind fun _ _=>Bd.ite ((rt _ _).bind fun _ _=>(B _).bind fun _ _=> .ok) ((B _).bind fun _ _=> .ok)
theorem Hb(N:Nat):∀(n:Nat)(l:List Fn)(s:RS),Bd (fA L N n l s)
 |0,_,_=> .out
 |n+1,l,s=>by
  simp only[fA];exact Bd.ite .ok ((KA L N s).bind fun _ _=>Hb N n _ _)
theorem JB(n:Nat):Bd (cT L n):=by
 unfold cT;exact(KA L n _).bind fun _ _=>Hb L n n _ _
end
end Go.Avm
namespace Go.Avm
open Go.Proofs
theorem Cl:∀(ps:List Pm)(k:Nat)(had:List (List UInt8))(u:Unit),ja k had ps= .ok u→(k≤6→k+ps.length≤6)∧(ps.map (·.nm)).Nodup∧∀p∈ps,p.nm∉had
 |[],k,had,u,_=>⟨fun h=>h,List.nodup_nil,fun _ h=>by cases h⟩
 |p::r,k,had,u,h=>by
  simp only[ja]at h;cases h6:decide (6≤k)with
  |true=>rw[h6]at h;cases h
  |false=>
   rw[h6]at h;have h6:=of_decide_eq_false h6;cases hh:had.any (· ==p.nm)with
   |true=>rw[hh]at h;cases h
   |false=>
    rw[hh]at h;obtain⟨g1,g2,g3⟩:=Cl r (k+1) (had ++[p.nm]) u h;refine⟨fun _=>by have:=g1 (by omega);simp only[List.length_cons];omega, ?_, ?_⟩
    ·rw[List.map_cons,List.nodup_cons]
     refine⟨fun hm=> ?_,g2⟩;obtain⟨q,hq,he⟩:=List.mem_map.1 hm;exact g3 q hq (by rw[he];simp)
    ·intro q hq
     rcases List.mem_cons.1 hq with rfl|hq
     ·intro hm
      have:had.any (· ==q.nm)=true:=List.any_eq_true.2 ⟨_,hm,by simp⟩;rw[hh]at this;cases this
     ·exact fun hm=>g3 q hq (List.mem_append_left _ hm)
theorem Cm:∀(ps:List Pm)(k:Nat)(had:List (List UInt8)),ja k had ps≠ .out
 |[],_,_=>by simp[ja]
 |p::r,k,had=>by
  simp only[ja];exact fF fH (fF fH (Cm r _ _))
theorem vz:∀(fs pre:List Fn)(u:Unit),cq pre fs= .ok u→∀f∈fs,f.ps.length≤6∧(f.ps.map (·.nm)).Nodup
 |[],_,_,_,_,h=>by cases h
 |f::r,pre,u,h,g,hg=>by
  simp only[cq]at h;cases hf:(bw f.nm pre 0).isSome with
  |true=>rw[hf]at h;cases h
  |false=>
   rw[hf]at h;simp only[cond_false]at h;cases hp:ja 0 [] f.ps with
   |out=>rw[hp]at h;cases h
   |bad p e=>rw[hp]at h;cases h
   |ok v=>
    rw[hp]at h;rcases List.mem_cons.1 hg with rfl|hg
    ·obtain⟨g1,g2,_⟩:=Cl _ _ _ _ hp
     exact⟨by have:=g1 (by omega);omega,g2⟩
    ·exact vz r _ u h g hg
theorem vA:∀(fs pre:List Fn),cq pre fs≠ .out
 |[],_=>by simp[cq]
 |f::r,pre=>by
  simp only[cq];exact fF fH (TR.bind_ne (Cm _ _ _) fun _=>vA r _)
theorem vB(fs:List Fn):di fs≠ .out:=by
 unfold di;refine TR.bind_ne (vA _ _) fun _=> ?_
 split
 ·exact fH
 ·exact fF gq fH
theorem mg{fs:List Fn}{u:Unit}(h:di fs= .ok u):∀f∈fs,f.ps.length≤6∧(f.ps.map (·.nm)).Nodup:=by
 unfold di at h;cases hn:cq [] fs with
 |out=>rw[hn]at h;cases h
 |bad p e=>rw[hn]at h;cases h
 |ok v=>exact vz fs [] v hn
theorem tQ:∀(m:Nat)(l:List bu),cD l<m→m≤1000000→jr m l
 |0,_,h,_=>absurd h (Nat.not_lt_zero _)
 |m+1,l,h,hm=>by
  have hl:=zb l;refine⟨by omega,fun s hs=> ?_⟩;obtain⟨i,hi,he⟩:=List.getElem_of_mem hs;have hz:=zc (show l[i]? =some s by rw[List.getElem?_eq_getElem hi,he]);obtain⟨k,id,nm,ty,n,p,es,bd,el⟩:=s;simp only[tN]at hz;exact⟨tQ m bd (by omega) (by omega),tQ m el (by omega) (by omega)⟩
structure PG(fs:List Fn):Prop where
 z:gU fs<1000000
 g:∀f∈fs,nj f
 num:uv fs 1 (-1)
theorem PG.fsOk{fs:List Fn}(h:PG fs){u:Unit}(hh:di fs= .ok u):FI fs 999999 where
 len:=Nat.lt_of_le_of_lt (lM fs) h.z
 par:=fun f hf=>(mg hh f hf).1
 nod:=fun f hf=>(mg hh f hf).2
 nml:=fun f hf p hp=>by have:=((h.g f hf).ps p hp).1;omega
 sh:=fun f hf=>by
  obtain⟨i,hi,he⟩:=List.getElem_of_mem hf;have hz:=zd (show fs[i]? =some f by rw[List.getElem?_eq_getElem hi,he]);have:=h.z;unfold Ju at hz;exact tQ _ _ (by omega) (by omega)
 m:=by decide
theorem w8(c:CS):∀ps:List Pm,(ps.foldl CS.par c).pts=c.pts
 |[]=>rfl
 |p::r=>w8 (c.par p) r
theorem Cn{fs:List Fn}{i:Nat}(hi:i<fs.length){f:Fn}(hg:em f.bd=true){pts:List Pt}{n a n' a':Int}(hn:n=(pts.length:Int))(hN:gm f.bd n a n' a')(hb:pts.length+cD f.bd<900000000):
    ff fs i f pts≠ .out∧∀q,ff fs i f pts= .ok q→(q.2.length:Int)=n'∧q.2.length≤pts.length+cD f.bd:=by
 have hp:=w8 ⟨[],[],⟨[],0⟩,pts⟩ f.ps;unfold ff dQ;generalize f.ps.foldl CS.par ⟨[],[],⟨[],0⟩,pts⟩=c at hp;have hp:c.pts=pts:=hp;have g:=lP fs i hi f.bd 0 false c n a n' a' hg (by rw[hp];exact hn) hN (by rw[hp];exact hb);revert g;show NO n' (c.pts.length+cD f.bd) (aX fs i 0 false f.bd c)→_;dsimp only;cases aX fs i 0 false f.bd c with
 |out=>exact fun h=>h.elim
 |bad p e=>exact fun _=>⟨fH,fun _ h=>by cases h⟩
 |ok c2=>
  rintro⟨g1,g2⟩;rw[hp]at g2;simp only[TR.bind];cases (f.res==0||cU f.bd)with
  |false=>exact⟨fH,fun _ h=>by cases h⟩
  |true=>exact⟨gq,fun q h=>by cases h;exact⟨g1,g2⟩⟩
theorem vC{fs:List Fn}:∀(mt:List Fn)(i:Nat)(rows:List (List Vr))(pts:List Pt)(n a:Int),i+mt.length≤fs.length→(∀f∈mt,nj f)→uv mt n a→n=(pts.length:Int)→pts.length+gU mt<900000000→bp fs i mt rows pts≠ .out
 |[],_,_,_,_,_,_,_,_,_,_=>by simp[bp]
 |f::r,i,rows,pts,n,a,hi,hg,hN,hn,hb=>by
  simp only[List.length_cons]at hi;simp only[gU,Ju]at hb;cases hN with
  | @cons nm ps k bd p _ _ _ n1 a1 lb hNb hNr=>
  have hb:pts.length+(1+ps.length+cD bd+gU r)<900000000:=hb;obtain⟨g1,g2⟩:=Cn (fs:=fs) (i:=i) (by omega) (f:=⟨nm,ps,k,bd,p⟩) (hg _ (List.mem_cons_self ..)).bd hn hNb (by show pts.length+cD bd<_;omega);simp only[bp];revert g1 g2;cases ff fs i ⟨nm,ps,k,bd,p⟩ pts with
  |out=>exact fun h _=>absurd rfl h
  |bad p e=>exact fun _ _=>fH
  |ok q=>
   intro _ g2;obtain⟨g3,g4⟩:=g2 q rfl;have g4:q.2.length≤pts.length+cD bd:=g4;simp only[TR.bind];exact vC r (i+1) _ _ n1 a1 (by omega) (fun f hf=>hg f (List.mem_cons_of_mem _ hf)) hNr g3.symm (by omega)
theorem lR{fs:List Fn}(h:PG fs):bI fs≠ .out:=by
 unfold bI;exact TR.bind_ne (vB fs) fun _=>vC fs 0 [] [dx] 1 (-1) (by omega) h.g h.num rfl (by have:=h.z;simp only[List.length_cons,List.length_nil];omega)
theorem MX{fs:List Fn}(h:PG fs):aK Pg 13 [.agg [.ro (fs.map cW)]] (B0 (bI fs)):=by
 cases hh:di fs with
 |ok u=>exact Mh (h.fsOk hh) (lR h)
 |out=>exact absurd hh (vB fs)
 |bad p e=>
  have len:=Nat.lt_of_le_of_lt (lM fs) h.z;have ch:=FC (fs:=fs) (nn:= .junk) (fun _=>rfl) len;unfold bI;rw[hh]at ch ⊢;simp only[Qq]at ch;exact Te len p e fun rest=>yR aD (ch rest) (tE fs rest)
theorem zp:∀(n:Nat)(r:List UInt8)(a:Nat)(ts:List (Nat×jn)),cz n r a= .ok ts→∀x∈ts,x.2.2.1.length≤r.length
 |0,r,a,ts,h,x,hx=>by
  simp only[cz,Except.ok.injEq]at h;subst h;cases hx
 |n+1,[],a,ts,h,x,hx=>by
  simp only[cz,Except.ok.injEq]at h;subst h;cases hx
 |n+1,b::r,a,ts,h,x,hx=>by
  rw[d4]at h;split at h
  ·cases h
  rename_i t ht;split at h
  ·cases h
  rename_i ts' hts;cases h;obtain⟨kd,tx,k⟩:=t;obtain⟨hp,_⟩:=oP ht;rcases List.mem_cons.1 hx with rfl|hx
  ·exact hp.length_le
  ·have:=zp n _ _ _ hts x hx
   simp only[List.length_drop]at this;omega
theorem A4{s:List UInt8}(h:s.length≤20000){ts:List (Nat×jn)}(he:eE s= .ok ts):Kx (ax ts s.length):=fun r=>by
 unfold bt;rw[List.getD_eq_getElem?_getD];cases hg:(ax ts s.length)[r.i]? with
 |none=>exact Nat.zero_le _
 |some x=>
  have hm:=List.mem_of_getElem? hg;rcases List.mem_append.1 hm with hm|hm
  ·obtain⟨y,hy,rfl⟩:=List.mem_map.1 hm
   have:=zp _ _ _ _ he y hy;simp only[List.length_drop]at this;show y.2.2.1.length≤20000;omega
  ·rw[List.mem_singleton.1 hm]
   exact Nat.zero_le _
end Go.Avm
namespace Go.Avm
open Go.Proofs
def gV(s:List UInt8):Except (Int×Int) (List Fn):=
 if 20000<s.length then .error (0,2)else match eE s with
  | .error (p,k)=> .error ((p:Int),k)
  | .ok ts=>match cT (ax ts s.length) (fuel (ax ts s.length))with
   | .ok l _=> .ok l
   | .bad p e _=> .error (p,e)
   | .out=> .error (0,1)
def A5(s:List UInt8):Except (Int×Int) (List Fn)→Prop
 | .error (q,e)=>iV s=[.agg [.ro []], .int .i64 q, .int .i64 e]∧e≠0
 | .ok l=>iV s=[.agg [.ro (l.map cW)], .int .i64 0, .int .i64 0]∧PG l
theorem ru(s:List UInt8):A5 s (gV s):=by
 unfold gV;have hq:∀x:Except (Int×Int) (List Fn),A5 s x=A5 s x:=fun _=>rfl
 by_cases h:20000<s.length
 ·rw[if_pos h]
  exact⟨by unfold iV;rw[if_pos h],by decide⟩
 ·rw[if_neg h]
  have hp:iV s=match eE s with
   | .error (p,k)=>[.agg [.ro []], .int .i64 (p:Int), .int .i64 k]
   | .ok ts=>Gg (AX ts s.length):=by unfold iV;rw[if_neg h];try rfl
  cases he:eE s with
  |error e=>
   obtain⟨p,k⟩:=e;rw[he]at hp;exact⟨hp,pH _ _ _ _ _ he⟩
  |ok ts=>
   rw[he]at hp;have hl:=ve he;have hok:=vd (ts:=ts) (n:=s.length) (by omega);obtain⟨r1,r2⟩:=zh s.length (AZ he);have hno:=B4 hok (gH ts s.length);dsimp only at hp ⊢;unfold AX at hp;cases hs:cT (ax ts s.length) (fuel (ax ts s.length))with
   |ok l s'=>
    rw[hs]at hp;exact⟨hp,A3 hok (gH _ _) hs,Jy (A4 (by omega) he) _ l s' hs,(G6 hok r2 (gH _ _) (r1 0 (gH _ _)) hs).2⟩
   |bad p e s'=>
    rw[hs]at hp;exact⟨hp,JB _ _ _ _ _ hs⟩
   |out=>exact absurd hs hno
def gW(s:List UInt8):List D:=match gV s with
 | .error (q,e)=>[.agg [.ro []], .agg [.ro [], .ro []], .int .i64 q, .int .i64 e]
 | .ok l=> .agg [.ro (l.map cW)]::B0 (bI l)
section
variable{s:List UInt8}
theorem SJ{q e:Int}(hp:aK Pg 12 [.str s] [.agg [.ro []], .int .i64 q, .int .i64 e])(he:(e !=0)=true):aK Pg 9 [.str s] [.agg [.ro []], .agg [.ro [], .ro []], .int .i64 q, .int .i64 e]:=
 qV {hint:=qT 9 [(12, .call 12 _ _ hp),(17,qB he)]} 709297
theorem P6{l:List Fn}{a b:List D}{q e:Int}(hp:aK Pg 12 [.str s] [.agg [.ro (l.map cW)], .int .i64 0, .int .i64 0])(hc:aK Pg 13 [.agg [.ro (l.map cW)]] [.agg [.ro a, .ro b], .int .i64 q, .int .i64 e]):aK Pg 9 [.str s] [.agg [.ro (l.map cW)], .agg [.ro a, .ro b], .int .i64 q, .int .i64 e]:=
 qV {hint:=qT 9 [(12, .call 12 _ _ hp),(24, .call 13 _ _ hc)]} 709297
end
theorem pJ(s:List UInt8):aK Pg 9 [.str s] (gW s):=by
 have hp:=DA s;have hr:=ru s;unfold gW;cases h:gV s with
 |error x=>
  obtain⟨q,e⟩:=x;rw[h]at hr;obtain⟨h1,h2⟩:=hr;rw[h1]at hp;exact SJ hp (by simpa using h2)
 |ok l=>
  rw[h]at hr;obtain⟨h1,h2⟩:=hr;rw[h1]at hp;have hc:=MX h2;have hn:=lR h2;dsimp only;revert hc hn;cases bI l with
  |out=>exact fun _ h=>absurd rfl h
  |ok q=>exact fun hc _=>P6 hp hc
  |bad p e=>exact fun hc _=>P6 hp hc
end Go.Avm
namespace Go.Avm
open Go.Proofs
theorem mh:∀(c:Bool)(l m:List UInt8),aF c l<l.length→aF c (l ++m)=aF c l
 |_,[],m,h=>by simp at h
 |true,b::r,m,h=>by
  simp only[aF,List.length_cons]at h;have ih:=mh (ed b) r m (by omega);simp only[List.cons_append,aF,ih]
 |false,b::r,m,h=>by
  simp only[List.cons_append,aF]at h ⊢;split
  ·rename_i hw
   rw[if_pos hw,List.length_cons]at h;rw[mh false r m (by omega)]
  ·rename_i hw
   rw[if_neg hw]at h;split
   ·rename_i h35
    rw[if_pos h35,List.length_cons]at h;rw[mh true r m (by omega)]
   ·rfl
theorem tR(p:UInt8→Bool)(q:List UInt8)(hq:∀c,q.head? =some c→p c=false):∀(t:List UInt8),(∀x∈t,p x=true)→(t ++q).takeWhile p=t
 |[],_=>by
  cases q with
  |nil=>rfl
  |cons c r=>rw[List.nil_append,List.takeWhile_cons,if_neg (by rw[hq c rfl];exact Bool.false_ne_true)]
 |x::r,h=>by rw[List.cons_append,List.takeWhile_cons,if_pos (h x (by simp)),tR p q hq r fun y hy=>h y (by simp[hy])]
theorem w9(p:UInt8→Bool)(q:List UInt8):∀(t:List UInt8),(t ++q).takeWhile p=t→(∀x∈t,p x=true)∧∀c,q.head? =some c→p c=false
 |[],h=>by
  refine⟨fun x hx=>by simp at hx,fun c hc=> ?_⟩;cases q with
  |nil=>simp at hc
  |cons d r=>
   simp at hc;subst hc;rw[List.nil_append,List.takeWhile_cons]at h;by_cases hp:p d=true
   ·rw[if_pos hp]at h;cases h
   ·simpa using hp
 |x::r,h=>by
  rw[List.cons_append,List.takeWhile_cons]at h;by_cases hp:p x=true
  ·rw[if_pos hp]at h
   have ih:=w9 p q r (List.cons.inj h).2
   exact⟨fun y hy=>by
    rcases List.mem_cons.1 hy with rfl|hy
    ·exact hp
    ·exact ih.1 y hy,ih.2⟩
  ·rw[if_neg hp]at h;cases h
def qq(kd:Int)(t:List UInt8)(n:Int)(h:Option UInt8):Prop:=
 (kd=3∧n=(dv 0 t:Int)∧t≠[]∧(∀x∈t,bx x=true)∧¬9223372036854775808≤dv 0 t∧(decide (1<t.length)&&(t.headD 0).toNat==48)=false∧∀c,h=some c→bx c=false∧jb c=false∧Cb c=false)∨
 (n=0∧bx (t.headD 0)=false∧jb (t.headD 0)=true∧t≠[]∧(∀x∈t,ju x=true)∧((kd=2∧fE t=true)∨(kd=1∧fE t=false∧¬12<t.length))∧∀c,h=some c→ju c=false)∨
 (kd=4∧n=0∧bx (t.headD 0)=false∧jb (t.headD 0)=false∧((∃b c,t=[b,c]∧lL.contains [b,c]=true)∨(∃b,t=[b]∧P0 b=true∧∀c,h=some c→lL.contains [b,c]=false)))
theorem mi(t q:List UInt8)(h:t≠[]):∃b r,t=b::r∧t ++q=b::(r ++q)∧t.headD 0=b:=by
 cases t with
 |nil=>exact absurd rfl h
 |cons b r=>exact⟨b,r,rfl,rfl,rfl⟩
theorem qr(q:List UInt8):pG q=false↔∀c,q.head? =some c→jb c=false∧Cb c=false:=by
 cases q with
 |nil=>simp[pG]
 |cons c r=>simp[pG]
theorem Hc{t q:List UInt8}{kd n:Int}(ht:ef (t ++q)= .ok (kd,t,n))(hne:t≠[]):qq kd t n q.head? :=by
 obtain⟨b,r,hb,hbq,hh⟩:=mi t q hne;rw[hbq,ef,←hbq]at ht;by_cases hd:bx b=true
 ·rw[if_pos hd]at ht
  split at ht
  ·cases ht
  rename_i hv;split at ht
  ·cases ht
  rename_i hbad;simp only[Except.ok.injEq,Prod.mk.injEq]at ht;obtain⟨rfl,h2,rfl⟩:=ht;rw[h2]at hv hbad;obtain⟨g1,g2⟩:=w9 bx q t h2;rw[List.drop_append_of_le_length (Nat.le_refl _),List.drop_length,List.nil_append,Bool.not_eq_true,Bool.or_eq_false_iff]at hbad;have hl:=(qr q).1 hbad.2;refine .inl ⟨rfl,by rw[h2],hne,g1,hv,by rw[hh];exact hbad.1,fun c hc=>⟨g2 c hc,hl c hc⟩⟩
 ·rw[if_neg hd]at ht
  by_cases hs:jb b=true
  ·rw[if_pos hs]at ht
   have key:∀kd':Int,(.ok (kd',(t ++q).takeWhile ju,0):Except Int jn)= .ok (kd,t,n)→kd=kd'∧(t ++q).takeWhile ju=t∧n=0:=fun kd' h=>by
    simp only[Except.ok.injEq,Prod.mk.injEq]at h;exact⟨h.1.symm,h.2.1,h.2.2.symm⟩
   split at ht
   ·rename_i hw
    obtain⟨rfl,h2,rfl⟩:=key _ ht;rw[h2]at hw;obtain⟨g1,g2⟩:=w9 ju q t h2;exact .inr (.inl ⟨rfl,by rw[hh];simpa using hd,by rw[hh];exact hs,hne,g1, .inl ⟨rfl,hw⟩,g2⟩)
   ·rename_i hw
    split at ht
    ·cases ht
    rename_i h12;obtain⟨rfl,h2,rfl⟩:=key _ ht;rw[h2]at hw h12;obtain⟨g1,g2⟩:=w9 ju q t h2;exact .inr (.inl ⟨rfl,by rw[hh];simpa using hd,by rw[hh];exact hs,hne,g1, .inr ⟨rfl,by simpa using hw,h12⟩,g2⟩)
  ·rw[if_neg hs]at ht
   split at ht
   ·cases ht
   simp only[Except.ok.injEq,Prod.mk.injEq]at ht;obtain⟨rfl,h2,rfl⟩:=ht;refine .inr (.inr ⟨rfl,rfl,by rw[hh];simpa using hd,by rw[hh];simpa using hs, ?_⟩);unfold mu at h2;cases hrq:r ++q with
   |nil=>
    rw[hrq]at h2;dsimp only at h2;split at h2
    ·rename_i hg
     refine .inr ⟨b,h2.symm,hg,fun c hc=> ?_⟩;have:q=[]:=(List.append_eq_nil_iff.1 hrq).2;rw[this]at hc;simp at hc
    ·exact absurd h2.symm hne
   |cons c u=>
    rw[hrq]at h2;dsimp only at h2;split at h2
    ·rename_i hp
     exact .inl ⟨b,c,h2.symm,hp⟩
    ·rename_i hp
     split at h2
     ·rename_i hg
      refine .inr ⟨b,h2.symm,hg,fun d hd'=> ?_⟩;have:r=[]:=by rw[hb]at h2;exact(List.cons.inj h2).2.symm
      subst this;rw[List.nil_append]at hrq;rw[hrq]at hd';simp at hd';subst hd';simpa using hp
     ·exact absurd h2.symm hne
theorem Hd{t q:List UInt8}{kd n:Int}(h:qq kd t n q.head?):ef (t ++q)= .ok (kd,t,n):=by
 rcases h with ⟨rfl,rfl,hne,h1,h2,h3,h4⟩|⟨rfl,h1,h2,hne,h3,h4,h5⟩|⟨rfl,rfl,h1,h2,h3⟩
 ·obtain⟨b,r,hb,hbq,hh⟩:=mi t q hne
  have htw:=tR bx q (fun c hc=>(h4 c hc).1) t h1;have hl:pG q=false:=(qr q).2 fun c hc=>(h4 c hc).2
  rw[hh]at h3;rw[hbq,ef,←hbq,if_pos (h1 b (by rw[hb];simp)),htw,if_neg h2,List.drop_append_of_le_length (Nat.le_refl _),List.drop_length,List.nil_append,h3,hl];rfl
 ·obtain⟨b,r,hb,hbq,hh⟩:=mi t q hne
  have htw:=tR ju q h5 t h3;rw[hh]at h1 h2;rw[hbq,ef,←hbq,if_neg (by rw[h1];exact Bool.false_ne_true),if_pos h2,htw];rcases h4 with ⟨rfl,hw⟩|⟨rfl,hw,h12⟩
  ·rw[if_pos hw]
  ·rw[if_neg (by rw[hw];exact Bool.false_ne_true),if_neg h12]
 ·rcases h3 with ⟨b,c,rfl,hp⟩|⟨b,rfl,hg,hno⟩
  ·have hs:mu b (c::q)=[b,c]:=by unfold mu;dsimp only;rw[if_pos hp]
   show ef (b::c::q)=_;rw[ef,if_neg (by simpa using h1),if_neg (by simpa using h2),hs];rfl
  ·have hs:mu b q=[b]:=by
     unfold mu;cases q with
     |nil=>dsimp only;rw[if_pos hg]
     |cons c u=>dsimp only;rw[if_neg (by rw[hno c rfl];exact Bool.false_ne_true),if_pos hg]
   show ef (b::q)=_;rw[ef,if_neg (by simpa using h1),if_neg (by simpa using h2),hs];rfl
def ends(c:UInt8):Prop:=ju c=false∧Cb c=false∧∀b,lL.contains [b,c]=false
theorem He{c:UInt8}(h:ends c):bx c=false∧jb c=false:=by
 have:=h.1;simp only[ju,Bool.or_eq_false_iff]at this;exact⟨this.2,this.1⟩
theorem DE{kd n:Int}{t:List UInt8}{h:Option UInt8}{c:UInt8}(hg:qq kd t n h)(hc:ends c):qq kd t n (some c):=by
 have hd:=He hc;rcases hg with ⟨h0,h1,h2,h3,h4,h5,_⟩|⟨h0,h1,h2,h3,h4,h5,_⟩|⟨h0,h1,h2,h3,h4⟩
 ·exact .inl ⟨h0,h1,h2,h3,h4,h5,fun d hd'=>by cases hd';exact⟨hd.1,hd.2,hc.2.1⟩⟩
 ·exact .inr (.inl ⟨h0,h1,h2,h3,h4,h5,fun d hd'=>by cases hd';exact hc.1⟩)
 ·refine .inr (.inr ⟨h0,h1,h2,h3, ?_⟩)
  rcases h4 with h4|⟨b,hb,hs,_⟩
  ·exact .inl h4
  ·exact .inr ⟨b,hb,hs,fun d hd'=>by cases hd';exact hc.2.2 b⟩
theorem MY(c:UInt8)(h:c=10∨c=32∨c=9)(b:UInt8):lL.contains [b,c]=false:=by
 rcases h with rfl|rfl|rfl<;>simp[lL]
theorem MZ:ends 10:=⟨by decide,by decide,MY 10 (.inl rfl)⟩
end Go.Avm
namespace Go.Avm
open Go.Proofs
theorem pK{b:UInt8}{r:List UInt8}{kd n:Int}{t:List UInt8}(h:ef (b::r)= .ok (kd,t,n)):∃q,b::r=t ++q∧t≠[]∧qq kd t n q.head? :=by
 obtain⟨⟨q,hq⟩,hne⟩:=oP h;refine⟨q,hq.symm,hne,Hc (q:=q) ?_ hne⟩;rw[hq];exact h
theorem tS(t q:List UInt8):(t ++q).drop t.length=q:=by
 rw[List.drop_append_of_le_length (Nat.le_refl _),List.drop_length,List.nil_append]
theorem jT(n:Nat)(t q:List UInt8)(kd k:Int)(a:Nat)(hne:t≠[])(hg:qq kd t k q.head?):cz (n+1) (t ++q) a=match cz n (q.drop (aF false q)) (a+t.length+aF false q)with
    | .error e=> .error e
    | .ok ts=> .ok ((a,(kd,t,k))::ts):=by
 have ht:=Hd hg;obtain⟨b,r,hb,hbq,_⟩:=mi t q hne;rw[hbq,d4,←hbq,ht];dsimp only;rw[tS];try rfl
def JC(s:List UInt8):Nat→List (Nat×jn)→Prop
 |at0,[]=>at0+aF false (s.drop at0)=s.length
 |at0,x::ts=>x.1=at0+aF false (s.drop at0)∧x.1+x.2.2.1.length≤s.length∧(s.drop x.1).take x.2.2.1.length=x.2.2.1∧x.2.1≠0∧x.2.2.1≠[]∧JC s (x.1+x.2.2.1.length) ts
theorem DF{kd n:Int}{t:List UInt8}{h:Option UInt8}(hg:qq kd t n h):kd≠0:=by
 rcases hg with ⟨rfl,_⟩|⟨_,_,_,_,_,⟨rfl,_⟩|⟨rfl,_⟩,_⟩|⟨rfl,_⟩<;>decide
theorem vD(s:List UInt8):∀(n at0 a:Nat)(ts:List (Nat×jn)),a=at0+aF false (s.drop at0)→at0≤s.length→s.length<n+a→cz n (s.drop a) a= .ok ts→JC s at0 ts
 |0,at0,a,ts,h1,h2,h3,_=>by
  have:=fg false (s.drop at0);rw[List.length_drop]at this;omega
 |n+1,at0,a,ts,h1,h2,h3,h4=>by
  have hle:=fg false (s.drop at0);rw[List.length_drop]at hle;cases hr:s.drop a with
  |nil=>
   rw[hr]at h4;cases h4;have:=List.drop_eq_nil_iff.1 hr;show at0+aF false (s.drop at0)=s.length;omega
  |cons b r=>
   rw[hr]at h4;cases ht:ef (b::r)with
   |error k=>rw[d4,ht]at h4;cases h4
   |ok t=>
    obtain⟨kd,t,k⟩:=t;obtain⟨q,hq,hne,hg⟩:=pK ht;rw[hq,jT n t q kd k a hne hg]at h4;have hlen:(b::r).length=s.length-a:=by rw[←hr,List.length_drop]
    rw[hq,List.length_append]at hlen
    have hal:a<s.length:=by
     rcases Nat.lt_or_ge a s.length with h|h
     ·exact h
     ·rw[List.drop_eq_nil_iff.2 h]at hr;cases hr
    have hd:s.drop (a+t.length)=q:=by rw[←List.drop_drop,hr,hq,tS]
    have ht0:=List.length_pos_iff.2 hne;cases hs:cz n (q.drop (aF false q)) (a+t.length+aF false q)with
    |error e=>rw[hs]at h4;cases h4
    |ok ts1=>
     rw[hs]at h4;cases h4;refine⟨h1,by show a+t.length≤s.length;omega, ?_,DF hg,hne, ?_⟩
     ·show(s.drop a).take t.length=t
      rw[hr,hq,List.take_append_of_le_length (Nat.le_refl _),List.take_length]
     ·have hd2:s.drop (a+t.length+aF false q)=q.drop (aF false q):=by rw[←List.drop_drop,hd]
      exact vD s n (a+t.length) (a+t.length+aF false q) ts1 (by rw[hd]) (by omega) (by omega) (by rw[hd2];exact hs)
theorem A6{s:List UInt8}{ts:List (Nat×jn)}(h:eE s= .ok ts):JC s 0 ts:=by
 unfold eE at h;have:=vD s (s.length+1) 0 (aF false s) ts (by rw[List.drop_zero,Nat.zero_add]) (Nat.zero_le _) (by omega) h;exact this
end Go.Avm
namespace Go.Avm
open Go.Proofs
theorem bg{n:Nat}{b:UInt8}{r:List UInt8}{a:Nat}{t:jn}{r2:List UInt8}{a2:Nat}{ts:List (Nat×jn)}(ht:ef (b::r)= .ok t)(hr:((b::r).drop t.2.1.length).drop (aF false ((b::r).drop t.2.1.length))=r2)(ha:a+t.2.1.length+aF false ((b::r).drop t.2.1.length)=a2)(h:cz n r2 a2= .ok ts):cz (n+1) (b::r) a= .ok ((a,t)::ts):=by
 rw[d4,ht];dsimp only;rw[hr,ha,h]
end Go.Avm
namespace Go.Avm
open Go.Proofs
def kv:List UInt8:=[102,110,32,122,122,57,40,97,58,32,105,110,116,41,58,32,105,110,116,32,123,32,108,101,116,32,98,58,32,105,110,116,32,61,32,97,59,32,114,101,116,117,114,110,32,98,59,32,125]
def dC(a:Nat):List (Nat×jn):=[(a,(2,[102,110],0)),(a+3,(1,[122,122,57],0)),(a+6,(4,[40],0)),(a+7,(1,[97],0)),(a+8,(4,[58],0)),(a+10,(2,[105,110,116],0)),(a+13,(4,[41],0)),(a+14,(4,[58],0)),(a+16,(2,[105,110,116],0)),(a+20,(4,[123],0)),(a+22,(2,[108,101,116],0)),(a+26,(1,[98],0)),(a+27,(4,[58],0)),(a+29,(2,[105,110,116],0)),(a+33,(4,[61],0)),(a+35,(1,[97],0)),(a+36,(4,[59],0)),(a+38,(2,[114,101,116,117,114,110],0)),(a+45,(1,[98],0)),(a+46,(4,[59],0)),(a+48,(4,[125],0))]
theorem JD(s:List UInt8):ef (125::s)= .ok (4,[125],0):=by
 have h:mu 125 s=[125]:=by
  cases s with
  |nil=>rfl
  |cons c r=>
   have:lL.contains [125,c]=false:=rfl;unfold mu;dsimp only;rw[this];rfl
 have a1:bx 125=false:=by decide
 have a2:jb 125=false:=by decide
 simp only[ef,a1,a2,h];rfl
theorem Co{n a:Nat}{s:List UInt8}{ts:List (Nat×jn)}(h:cz n (s.drop (aF false s)) (a+49+aF false s)= .ok ts):cz (n+21) (kv ++s) a= .ok (dC a ++ts):=by
 have e:kv ++s=102::110::32::122::122::57::40::97::58::32::105::110::116::41::58::32::105::110::116::32::123::32::108::101::116::32::98::58::32::105::110::116::32::61::32::97::59::32::114::101::116::117::114::110::32::98::59::32::125::s:=rfl;rw[e];refine bg (t:=(2,[102,110],0)) (r2:=122::122::57::40::97::58::32::105::110::116::41::58::32::105::110::116::32::123::32::108::101::116::32::98::58::32::105::110::116::32::61::32::97::59::32::114::101::116::117::114::110::32::98::59::32::125::s) (a2:=a+3) rfl rfl rfl ?_;refine bg (t:=(1,[122,122,57],0)) (r2:=40::97::58::32::105::110::116::41::58::32::105::110::116::32::123::32::108::101::116::32::98::58::32::105::110::116::32::61::32::97::59::32::114::101::116::117::114::110::32::98::59::32::125::s) (a2:=a+6) rfl rfl rfl ?_;refine bg (t:=(4,[40],0)) (r2:=97::58::32::105::110::116::41::58::32::105::110::116::32::123::32::108::101::116::32::98::58::32::105::110::116::32::61::32::97::59::32::114::101::116::117::114::110::32::98::59::32::125::s) (a2:=a+7) rfl rfl rfl ?_;refine bg (t:=(1,[97],0)) (r2:=58::32::105::110::116::41::58::32::105::110::116::32::123::32::108::101::116::32::98::58::32::105::110::116::32::61::32::97::59::32::114::101::116::117::114::110::32::98::59::32::125::s) (a2:=a+8) rfl rfl rfl ?_;refine bg (t:=(4,[58],0)) (r2:=105::110::116::41::58::32::105::110::116::32::123::32::108::101::116::32::98::58::32::105::110::116::32::61::32::97::59::32::114::101::116::117::114::110::32::98::59::32::125::s) (a2:=a+10) rfl rfl rfl ?_;refine bg (t:=(2,[105,110,116],0)) (r2:=41::58::32::105::110::116::32::123::32::108::101::116::32::98::58::32::105::110::116::32::61::32::97::59::32::114::101::116::117::114::110::32::98::59::32::125::s) (a2:=a+13) rfl rfl rfl ?_;refine bg (t:=(4,[41],0)) (r2:=58::32::105::110::116::32::123::32::108::101::116::32::98::58::32::105::110::116::32::61::32::97::59::32::114::101::116::117::114::110::32::98::59::32::125::s) (a2:=a+14) rfl rfl rfl ?_;refine bg (t:=(4,[58],0)) (r2:=105::110::116::32::123::32::108::101::116::32::98::58::32::105::110::116::32::61::32::97::59::32::114::101::116::117::114::110::32::98::59::32::125::s) (a2:=a+16) rfl rfl rfl ?_;refine bg (t:=(2,[105,110,116],0)) (r2:=123::32::108::101::116::32::98::58::32::105::110::116::32::61::32::97::59::32::114::101::116::117::114::110::32::98::59::32::125::s) (a2:=a+20) rfl rfl rfl ?_;refine bg (t:=(4,[123],0)) (r2:=108::101::116::32::98::58::32::105::110::116::32::61::32::97::59::32::114::101::116::117::114::110::32::98::59::32::125::s) (a2:=a+22) rfl rfl rfl ?_;refine bg (t:=(2,[108,101,116],0)) (r2:=98::58::32::105::110::116::32::61::32::97::59::32::114::101::116::117::114::110::32::98::59::32::125::s) (a2:=a+26) rfl rfl rfl ?_;refine bg (t:=(1,[98],0)) (r2:=58::32::105::110::116::32::61::32::97::59::32::114::101::116::117::114::110::32::98::59::32::125::s) (a2:=a+27) rfl rfl rfl ?_;refine bg (t:=(4,[58],0)) (r2:=105::110::116::32::61::32::97::59::32::114::101::116::117::114::110::32::98::59::32::125::s) (a2:=a+29) rfl rfl rfl ?_;refine bg (t:=(2,[105,110,116],0)) (r2:=61::32::97::59::32::114::101::116::117::114::110::32::98::59::32::125::s) (a2:=a+33) rfl rfl rfl ?_;refine bg (t:=(4,[61],0)) (r2:=97::59::32::114::101::116::117::114::110::32::98::59::32::125::s) (a2:=a+35) rfl rfl rfl ?_;refine bg (t:=(1,[97],0)) (r2:=59::32::114::101::116::117::114::110::32::98::59::32::125::s) (a2:=a+36) rfl rfl rfl ?_;refine bg (t:=(4,[59],0)) (r2:=114::101::116::117::114::110::32::98::59::32::125::s) (a2:=a+38) rfl rfl rfl ?_;refine bg (t:=(2,[114,101,116,117,114,110],0)) (r2:=98::59::32::125::s) (a2:=a+45) rfl rfl rfl ?_;refine bg (t:=(1,[98],0)) (r2:=59::32::125::s) (a2:=a+46) rfl rfl rfl ?_;refine bg (t:=(4,[59],0)) (r2:=125::s) (a2:=a+48) rfl rfl rfl ?_;exact bg (t:=(4,[125],0)) (r2:=s.drop (aF false s)) (a2:=a+49+aF false s) (JD s) rfl rfl h
theorem Hf(n a:Nat):cz (n+22) kv a= .ok (dC a):=by
 have:=Co (n:=n+1) (a:=a) (s:=[]) (ts:=[]) rfl;rw[List.append_nil,List.append_nil]at this;exact this
theorem tT(d:Nat):∀(n N:Nat)(r:List UInt8)(a:Nat)(ts:List (Nat×jn)),cz n r a= .ok ts→r.length<n→r.length<N→cz N r (d+a)= .ok (ts.map fun x=>(d+x.1,x.2))
 |0,_,_,_,_,_,h,_=>by omega
 |n+1,0,_,_,_,_,_,h=>by omega
 |n+1,N+1,[],a,ts,h1,_,_=>by
  cases h1;rfl
 |n+1,N+1,b::r,a,ts,h1,h2,h3=>by
  cases ht:ef (b::r)with
  |error k=>rw[d4,ht]at h1;cases h1
  |ok t=>
   obtain⟨kd,t,k⟩:=t;obtain⟨q,hq,hne,hg⟩:=pK ht;have ht0:=List.length_pos_iff.2 hne;rw[hq]at h1 h2 h3 ⊢;rw[jT n t q kd k a hne hg]at h1;rw[jT N t q kd k (d+a) hne hg];simp only[List.length_append]at h2 h3;cases hs:cz n (q.drop (aF false q)) (a+t.length+aF false q)with
   |error e=>rw[hs]at h1;cases h1
   |ok ts1=>
    rw[hs]at h1;cases h1;have:=tT d n N _ _ ts1 hs (by rw[List.length_drop];omega) (by rw[List.length_drop];omega);rw[show d+(a+t.length+aF false q)=d+a+t.length+aF false q by omega]at this;rw[this];rfl
theorem oU:∀(c:Bool)(q m:List UInt8),q.length≤aF c q→aF c (q ++10::m)=q.length+1+aF false m
 |true,[],m,_=>by
  have:ed 10=false:=rfl;simp only[List.nil_append,aF,this,List.length_nil]
 |false,[],m,_=>by
  have:MJ 10=true:=rfl;simp only[List.nil_append,aF,this,if_true,List.length_nil]
 |true,b::r,m,h=>by
  have:=oU (ed b) r m;simp only[List.cons_append,aF,List.length_cons]at h ⊢;rw[this (by omega)];omega
 |false,b::r,m,h=>by
  have h1:=oU false r m;have h2:=oU true r m;simp only[List.cons_append,aF,List.length_cons]at h ⊢;split at h
  ·rename_i hb;rw[if_pos hb,h1 (by omega)];try omega
  ·rename_i hb
   rw[if_neg hb];split at h
   ·rename_i hb;rw[if_pos hb,h2 (by omega)];try omega
   ·omega
theorem vE:∀(n:Nat)(q:List UInt8)(a:Nat)(ts:List (Nat×jn))(N:Nat),cz n (q.drop (aF false q)) (a+aF false q)= .ok ts→q.length<n→n+22≤N→cz N ((q ++10::kv).drop (aF false (q ++10::kv))) (a+aF false (q ++10::kv))= .ok (ts ++dC (a+q.length+1))
 |0,_,_,_,_,_,h,_=>by omega
 |n+1,q,a,ts,N,h1,h2,h3=>by
  rcases Nat.lt_or_ge (aF false q) q.length with hlt|hge
  ·have hle:=fg false q
   rw[mh false q _ hlt,List.drop_append_of_le_length hle];cases hd:q.drop (aF false q)with
   |nil=>exact absurd (List.drop_eq_nil_iff.1 hd) (by omega)
   |cons b r=>
    rw[hd]at h1;cases ht:ef (b::r)with
    |error k=>rw[d4,ht]at h1;cases h1
    |ok t=>
     obtain⟨kd,t,k⟩:=t;obtain⟨q',hq,hne,hg⟩:=pK ht;have ht0:=List.length_pos_iff.2 hne;have hlen:t.length+q'.length=q.length-aF false q:=by rw[←List.length_append,←hq,←hd,List.length_drop]
     rw[hq]at h1 ⊢;obtain⟨N,rfl⟩:∃x,N=x+1:=⟨N-1,by omega⟩
     rw[jT n t q' kd k _ hne hg]at h1
     have hg':qq kd t k (q' ++10::kv).head? :=by
      cases q' with
      |nil=>exact DE hg MZ
      |cons c u=>exact hg
     rw[List.append_assoc,jT N t (q' ++10::kv) kd k _ hne hg'];cases hs:cz n (q'.drop (aF false q')) (a+aF false q+t.length+aF false q')with
     |error e=>rw[hs]at h1;cases h1
     |ok ts1=>
      rw[hs]at h1;cases h1;have:=vE n q' (a+aF false q+t.length) ts1 N hs (by omega) (by omega);rw[this,show a+aF false q+t.length+q'.length+1=a+q.length+1 by omega];rfl
  ·have hd:q.drop (aF false q)=[]:=List.drop_eq_nil_iff.2 hge
   rw[hd]at h1;cases h1;have h0:aF false kv=0:=rfl;rw[oU false q _ hge,h0]
   have e:(q ++10::kv).drop (q.length+1+0)=kv:=by
    rw[show q ++10::kv=(q ++[10]) ++kv by simp,show q.length+1+0=(q ++[10]).length by simp,tS]
   rw[e];obtain⟨N,rfl⟩:∃x,N=x+22:=⟨N-22,by omega⟩
   have:=Hf N (a+(q.length+1+0));rw[this];rfl
theorem zq{s:List UInt8}{ts:List (Nat×jn)}(h:eE s= .ok ts):eE (kv ++s)= .ok (dC 0 ++ts.map fun x=>(49+x.1,x.2)):=by
 unfold eE at h ⊢;have h0:aF false (kv ++s)=0:=rfl;rw[h0,List.drop_zero,show(kv ++s).length+1=s.length+29+21 by rw[List.length_append];simp only[kv,List.length_cons,List.length_nil];omega];refine Co ?_;have hle:=fg false s;have:=tT 49 _ (s.length+29) _ _ _ h (by rw[List.length_drop];omega) (by rw[List.length_drop];omega);rw[show 0+49+aF false s=49+aF false s by omega];exact this
theorem A7{s:List UInt8}{ts:List (Nat×jn)}(h:eE s= .ok ts):eE (s ++10::kv)= .ok (ts ++dC (s.length+1)):=by
 unfold eE at h ⊢;have:=vE (s.length+1) s 0 ts ((s ++10::kv).length+1) (by rw[Nat.zero_add];exact h) (by omega) (by rw[List.length_append];simp only[kv,List.length_cons,List.length_nil];omega);rw[Nat.zero_add,Nat.zero_add]at this;exact this
end Go.Avm
