/-
  The scanner of texts, part J: a number is next.
-/
import Derived.Test.YtcjiafanhlhdlaaGreatDoorG12
import Derived.Test.YtcjiafanhlhdlaaGreatDoorG08
import Derived.Test.YtcjiafanhlhdlaaGreatDoorG11
set_option linter.unusedVariables false
set_option linter.unusedSimpArgs false
set_option linter.unusedSectionVars false
namespace Go.Avm
open Go.Proofs
def cJ(s:List UInt8)(a:Nat):List UInt8:=sub s a (a+fK bM (s.drop a))
section
variable(w:Bool)(s:List UInt8)(a v m:Nat)(l:List D)
noncomputable def uz(c b:UInt8)(ha:a<s.length)(hlen:s.length≤100000)(h0:(cJ s a)[(0:Int).toNat]? =some c)(n:Int)(e:D)(hp:ax Pg 93 [.str (cJ s a), .int .i64 10, .int .i64 64] [.int .i64 n,e])
    (hta:a+(cJ s a).length≤1099511627776) (hl:l.length+1≤549755813888) (z y x u g k9:Bool) (hz:decide (1<((cJ s a).length:Int))=z) (hy:((c.toNat:Int)==48)=y) (hx:decide (((a+(cJ s a).length:Nat):Int)<(s.length:Int))=x)
    (hxb:x=true→s[((a+(cJ s a).length:Nat):Int).toNat]? =some b) (hu:ma b=u) (hg:Cy 65 b=g) (hk:Cz b 90=k9):Par Pg:=
 {hint:=fun f' k=>if f'=65 then (if k=11 then some (.call 93 [.str (cJ s a), .int .i64 10, .int .i64 64] [.int .i64 n,e] hp)else if k=20 then some (NI Pg a (cJ s a).length hta)else if k=27 then some (hB Pg _ z hz)
     else if k=30 then some (.sidx (cJ s a) 0 c (by omega) h0)else if k=31 then some (hB Pg _ y hy)else if k=40 then some (hB Pg _ x hx)
     else if k=47 then (if h:x=true then some (.sidx s ((a+(cJ s a).length:Nat):Int) b (by omega) (hxb h))else none)else if k=55 then (if h:x=true then some (.sidx s ((a+(cJ s a).length:Nat):Int) b (by omega) (hxb h))else none)
     else if k=63 then (if h:x=true then some (.sidx s ((a+(cJ s a).length:Nat):Int) b (by omega) (hxb h))else none)else if k=48 then some (.call 66 [bD b] [.bool u] (hu▸Ok b))else if k=56 then some (hB Pg _ g hg)else if k=64 then some (hB Pg _ k9 hk)else none)else none
  calls:=fun f' k _=>if f'=65 then (if k=8 then some (IE w s a v l 64 (by simp) bM EU hlen (by omega))else if k=72 then some (ux w s a v m l 3 n (cJ s a) hl hta)else none)else none}
def z8(z y x u g k9:Bool):Bool:=(z&&y)||(x&&(u||(g&&k9)))
section
variable(c b:UInt8)(ha:a<s.length)(hlen:s.length≤100000)(h0:(cJ s a)[(0:Int).toNat]? =some c)(n:Int)
include c b ha hlen h0 n
theorem Fc(hp:ax Pg 93 [.str (cJ s a), .int .i64 10, .int .i64 64] [.int .i64 n, .ifc])(hta:a+(cJ s a).length≤1099511627776)(hl:l.length+1≤549755813888)(hxb:decide (((a+(cJ s a).length:Nat):Int)<(s.length:Int))=true→s[((a+(cJ s a).length:Nat):Int).toNat]? =some b)(rest:ab):
    ay Pg 65 [fN] (al (dZ w s a v m l) rest) [dI 2] (al (dZ w s a v m l) rest):=by
 cases w with
 |false=>exact ap aB named (uz false s a v m l c b ha hlen h0 n .ifc hp hta hl _ _ _ _ _ _ rfl rfl rfl hxb rfl rfl rfl) 1000 150000 65 (by kernel_rfl)
 |true=>exact ap aB named (uz true s a v m l c b ha hlen h0 n .ifc hp hta hl _ _ _ _ _ _ rfl rfl rfl hxb rfl rfl rfl) 1000 150000 65 (by kernel_rfl)
theorem Hw(hp:ax Pg 93 [.str (cJ s a), .int .i64 10, .int .i64 64] [.int .i64 n, .nili])(hta:a+(cJ s a).length≤1099511627776)(hl:l.length+1≤549755813888)(z y x u g k9:Bool)(hz:decide (1<((cJ s a).length:Int))=z)(hy:((c.toNat:Int)==48)=y)(hx:decide (((a+(cJ s a).length:Nat):Int)<(s.length:Int))=x)(hxb:x=true→s[((a+(cJ s a).length:Nat):Int).toNat]? =some b)(hu:ma b=u)(hg:Cy 65 b=g)(hk:Cz b 90=k9)(hbad:z8 z y x u g k9=true)(rest:ab):
    ay Pg 65 [fN] (al (dZ w s a v m l) rest) [dI 4] (al (dZ w s a v m l) rest):=by
 cases w with
 |false=>cases z<;>cases y<;>cases x<;>cases u<;>cases g<;>cases k9<;>first|exact absurd hbad (by decide)|exact ap aB named (uz false s a v m l c b ha hlen h0 n .nili hp hta hl _ _ _ _ _ _ hz hy hx hxb hu hg hk) 1000 150000 65 (by kernel_rfl)
 |true=>cases z<;>cases y<;>cases x<;>cases u<;>cases g<;>cases k9<;>first|exact absurd hbad (by decide)|exact ap aB named (uz true s a v m l c b ha hlen h0 n .nili hp hta hl _ _ _ _ _ _ hz hy hx hxb hu hg hk) 1000 150000 65 (by kernel_rfl)
theorem NR(hp:ax Pg 93 [.str (cJ s a), .int .i64 10, .int .i64 64] [.int .i64 n, .nili])(hta:a+(cJ s a).length≤1099511627776)(hl:l.length+1≤549755813888)(z y x u g k9:Bool)(hz:decide (1<((cJ s a).length:Int))=z)(hy:((c.toNat:Int)==48)=y)(hx:decide (((a+(cJ s a).length:Nat):Int)<(s.length:Int))=x)(hxb:x=true→s[((a+(cJ s a).length:Nat):Int).toNat]? =some b)(hu:ma b=u)(hg:Cy 65 b=g)(hk:Cz b 90=k9)(hbad:z8 z y x u g k9=false)(rest:ab):
    ay Pg 65 [fN] (al (dZ w s a v m l) rest) [dI 0] (al (dZ w s (a+(cJ s a).length) (v+1) m (l ++[om 3 a (cJ s a) n])) rest):=by
 cases w with
 |false=>cases z<;>cases y<;>cases x<;>cases u<;>cases g<;>cases k9<;>first|exact absurd hbad (by decide)|exact ap aB named (uz false s a v m l c b ha hlen h0 n .nili hp hta hl _ _ _ _ _ _ hz hy hx hxb hu hg hk) 1000 150000 65 (by kernel_rfl)
 |true=>cases z<;>cases y<;>cases x<;>cases u<;>cases g<;>cases k9<;>first|exact absurd hbad (by decide)|exact ap aB named (uz true s a v m l c b ha hlen h0 n .nili hp hta hl _ _ _ _ _ _ hz hy hx hxb hu hg hk) 1000 150000 65 (by kernel_rfl)
end
noncomputable def Hx(b:UInt8)(ha:a<s.length)(hb:s[((a:Nat):Int).toNat]? =some b)(h1:bM b=true)(C:fC Pg):Par Pg:=
 {hint:=fun f' k=>if f'=38 then (if k=14 then some (.sidx s (a:Int) b (by omega) hb)else if k=17 then some (.call 64 [bD b] [.bool true] (h1▸EU b))else none)else none
  calls:=fun f' k _=>if f'=38 then (if k=19 then some C else none)else none}
theorem sT(b:UInt8)(ha:a<s.length)(hb:s[((a:Nat):Int).toNat]? =some b)(h1:bM b=true)(k:Int)(hc:∀rest:ab,ay Pg 65 [fN] (al (dZ w s a v m l) rest) [dI k] (al (dZ w s a v m l) rest))(rest:ab):
    ay Pg 38 [fN] (al (dZ w s a v m l) rest) [dI k] (al (dZ w s a v m l) rest):=by
 cases w with
 |false=>exact ap aB named (Hx s a b ha hb h1 ⟨65,[fN],dZ false s a v m l,[dI k],dZ false s a v m l,gH hc⟩) 1000 130000 38 (by kernel_rfl)
 |true=>exact ap aB named (Hx s a b ha hb h1 ⟨65,[fN],dZ true s a v m l,[dI k],dZ true s a v m l,gH hc⟩) 1000 130000 38 (by kernel_rfl)
theorem Cm(b:UInt8)(ha:a<s.length)(hb:s[((a:Nat):Int).toNat]? =some b)(h1:bM b=true)(a' v':Nat)(l':List D)(hc:∀rest:ab,ay Pg 65 [fN] (al (dZ w s a v m l) rest) [dI 0] (al (dZ w s a' v' m l') rest))(rest:ab):
    ay Pg 38 [fN] (al (dZ w s a v m l) rest) [dI 0] (al (dZ w s a' v' m l') rest):=by
 cases w with
 |false=>exact ap aB named (Hx s a b ha hb h1 ⟨65,[fN],dZ false s a v m l,[dI 0],dZ false s a' v' m l',gH hc⟩) 1000 130000 38 (by kernel_rfl)
 |true=>exact ap aB named (Hx s a b ha hb h1 ⟨65,[fN],dZ true s a v m l,[dI 0],dZ true s a' v' m l',gH hc⟩) 1000 130000 38 (by kernel_rfl)
end
end Go.Avm
namespace Go.Avm
open Go.Proofs
abbrev kq:=Int×List UInt8×Int
def NS(b:UInt8):Bool:=Cy 65 b&&Cz b 90
def Fd:List UInt8→Bool
 |[]=>false
 |b::_=>ma b||NS b
def Ol(b:UInt8):Bool:=decide (0≤zY b)
def wm(b:UInt8)(r:List UInt8):List UInt8:=
 match r with
 |[]=>if Ol b then [b]else []
 |c::_=>if ou.contains [b,c]then [b,c]else if Ol b then [b]else []
def gY:List UInt8→Except Int kq
 |[]=> .error 4
 |b::r=>
  if bM b then
   if 9223372036854775808≤dv 0 ((b::r).takeWhile bM)then .error 2
   else if (decide (1<((b::r).takeWhile bM).length)&&b.toNat==48)||Fd ((b::r).drop ((b::r).takeWhile bM).length)then .error 4
   else .ok (3,(b::r).takeWhile bM,dv 0 ((b::r).takeWhile bM))
  else if ma b then
   if fc ((b::r).takeWhile ki)then .ok (2,(b::r).takeWhile ki,0)
   else if 12<((b::r).takeWhile ki).length then .error 2 else .ok (1,(b::r).takeWhile ki,0)
  else if wm b r=[]then .error 4 else .ok (4,wm b r,0)
theorem Hy(p:UInt8→Bool)(l:List UInt8):l.take (l.takeWhile p).length=l.takeWhile p:=(List.prefix_iff_eq_take.1 (List.takeWhile_prefix p)).symm
theorem II(p:UInt8→Bool)(l:List UInt8):(l.takeWhile p).length≤l.length:=(List.takeWhile_sublist p).length_le
theorem Fe(p:UInt8→Bool)(s:List UInt8)(a:Nat):sub s a (a+fK p (s.drop a))=(s.drop a).takeWhile p:=by
 unfold sub fK;rw[List.drop_take,Nat.add_sub_cancel_left,Hy]
theorem Ff(s:List UInt8)(a:Nat):rst s a=s.drop a:=by rw[rst,List.take_length]
theorem Hz(t:List UInt8)(k:Nat):pg t k=t.take k:=by rw[pg,List.drop_zero]
theorem Fg(s:List UInt8)(a:Nat)(b:UInt8)(r:List UInt8)(h:s.drop a=b::r):sQ s a b=wm b r:=by
 unfold sQ wm;simp only[Ff,Hz,h];cases r with
 |nil=>simp[Ol]
 |cons c r=>
  have:decide (2≤((b::c::r).length:Int))=true:=by simp only[List.length_cons,decide_eq_true_eq];omega
  rw[this,Bool.true_and];simp[Ol]
theorem Fh(p:UInt8→Bool)(b:UInt8)(r:List UInt8)(h:p b=true):∃t,(b::r).takeWhile p=b::t:=⟨r.takeWhile p,by simp[h]⟩
theorem Fi(p:UInt8→Bool):∀(l:List UInt8),∀x∈l.takeWhile p,p x=true
 |[],x,hx=>by simp at hx
 |b::r,x,hx=>by
  by_cases hb:p b=true
  ·rw[List.takeWhile_cons,if_pos hb]at hx
   rcases List.mem_cons.1 hx with rfl|hx
   ·exact hb
   ·exact Fi p r x hx
  ·rw[List.takeWhile_cons,if_neg hb]at hx
   simp at hx
theorem Cn{b:UInt8}(h:ma b=true):ki b=true:=by simp[ki,h]
theorem yf(b:UInt8)(r:List UInt8):wm b r<+:b::r:=by
 unfold wm;cases r with
 |nil=>dsimp only;split<;>simp
 |cons c r=>
  dsimp only;split
  ·exact⟨r,rfl⟩
  ·split
   ·exact⟨c::r,rfl⟩
   ·exact List.nil_prefix
theorem sU{b:UInt8}{r:List UInt8}{kd n:Int}{t:List UInt8}(h:gY (b::r)= .ok (kd,t,n)):t<+:b::r∧t≠[]:=by
 rw[gY]at h;split at h
 ·rename_i hd
  split at h
  ·cases h
  ·split at h
   ·cases h
   ·cases h
    refine⟨List.takeWhile_prefix _, ?_⟩;obtain⟨u,hu⟩:=Fh bM b r hd;rw[hu];simp
 ·split at h
  ·rename_i hs
   obtain⟨u,hu⟩:=Fh ki b r (Cn hs);split at h
   ·cases h
    exact⟨List.takeWhile_prefix _,by rw[hu];simp⟩
   ·split at h
    ·cases h
    ·cases h
     exact⟨List.takeWhile_prefix _,by rw[hu];simp⟩
  ·split at h
   ·cases h
   ·rename_i hne
    cases h;exact⟨yf b r,hne⟩
def yg(w:Bool)(s:List UInt8)(a v m:Nat)(l:List D):Except Int kq→Prop
 | .error k=>∃w' m',k≠0∧∀rest:ab,ay Pg 38 [fN] (al (dZ w s a v m l) rest) [dI k] (al (dZ w' s a v m' l) rest)
 | .ok (kd,t,n)=>∃w' m',∀rest:ab,ay Pg 38 [fN] (al (dZ w s a v m l) rest) [dI 0] (al (dZ w' s (a+t.length) (v+1) m' (l ++[om kd a t n])) rest)
section
variable(w:Bool)(s:List UInt8)(a v m:Nat)(l:List D)
theorem HA(b:UInt8)(r:List UInt8)(ha:a<s.length)(hr:s.drop a=b::r)(hb:s[((a:Nat):Int).toNat]? =some b)(hlen:s.length≤100000)(hl:l.length+1≤549755813888)(hd:bM b=true):yg w s a v m l (gY (b::r)):=by
 have hT:cJ s a=(b::r).takeWhile bM:=by rw[cJ,Fe,hr]
 obtain⟨t,ht⟩:=Fh bM b r hd;have hall:=Fi bM (b::r);have hle:=II bM (b::r);have hrl:(b::r).length=s.length-a:=by rw[←hr,List.length_drop]
 have htl:a+(cJ s a).length≤s.length:=by rw[hT];omega
 have h0:(cJ s a)[(0:Int).toNat]? =some b:=by rw[hT,ht];rfl
 have hbeh:∀c,s[a+(cJ s a).length]? =some c→(b::r).drop ((b::r).takeWhile bM).length=c::((b::r).drop ((b::r).takeWhile bM).length).tail:=fun c hc=>by
  have:((b::r).drop ((b::r).takeWhile bM).length).head? =some c:=by
   rw[hT,←hr]at hc;rw[List.head?_drop,←hr,List.getElem?_drop];exact hc
  cases hq:(b::r).drop ((b::r).takeWhile bM).length with
  |nil=>rw[hq]at this;simp at this
  |cons x y=>rw[hq]at this;simp at this;subst this;rfl
 by_cases hv:9223372036854775808≤dv 0 ((b::r).takeWhile bM)
 ·have e:gY (b::r)= .error 2:=by rw[gY,if_pos hd,if_pos hv]
  rw[e]
  obtain⟨c,hc⟩:∃c,decide (((a+(cJ s a).length:Nat):Int)<(s.length:Int))=true→s[((a+(cJ s a).length:Nat):Int).toNat]? =some c:=by
   by_cases hx:a+(cJ s a).length<s.length
   ·exact⟨s[a+(cJ s a).length],fun _=>by simp only[Int.toNat_natCast];exact List.getElem?_eq_getElem hx⟩
   ·exact⟨0,fun h=>by have:=of_decide_eq_true h;omega⟩
  refine⟨w,m,by decide,sT w s a v m l b ha hb hd 2 (Fc w s a v m l b c ha hlen h0 9223372036854775807 ?_ (by omega) hl hc)⟩;rw[hT];rw[ht]at hv hall ⊢;exact Fb b t hall (by rw[←ht];omega) hv
 ·have hp:ax Pg 93 [.str (cJ s a), .int .i64 10, .int .i64 64] [.int .i64 (dv 0 (cJ s a):Int), .nili]:=by
    rw[hT];rw[ht]at hv hall ⊢;exact Hv b t hall (by rw[←ht];omega) (by omega)
  obtain⟨c,x,hx,hxb,hlet⟩:∃c x,decide (((a+(cJ s a).length:Nat):Int)<(s.length:Int))=x∧(x=true→s[((a+(cJ s a).length:Nat):Int).toNat]? =some c)∧Fd ((b::r).drop ((b::r).takeWhile bM).length)=(x&&(ma c||(Cy 65 c&&Cz c 90))):=by
   by_cases hx:a+(cJ s a).length<s.length
   ·have hg:s[a+(cJ s a).length]? =some s[a+(cJ s a).length]:=List.getElem?_eq_getElem hx
    refine⟨s[a+(cJ s a).length],true,by simp only[decide_eq_true_eq];omega,fun _=>by simp only[Int.toNat_natCast];exact hg, ?_⟩;rw[hbeh _ hg];rfl
   ·refine⟨0,false,by simp only[decide_eq_false_iff_not];omega,fun h=>(by cases h), ?_⟩
    have:(b::r).drop ((b::r).takeWhile bM).length=[]:=List.drop_eq_nil_iff.2 (by rw[←hT];omega);rw[this];rfl
  have hz:decide (1<((cJ s a).length:Int))=decide (1<((b::r).takeWhile bM).length):=by rw[hT];exact decide_eq_decide.2 (by omega)
  have hy:((b.toNat:Int)==48)=(b.toNat==48):=by
   rw[Bool.eq_iff_iff];simp only[beq_iff_eq];omega
  by_cases hbad:z8 (decide (1<((b::r).takeWhile bM).length)) (b.toNat==48) x (ma c) (Cy 65 c) (Cz c 90)=true
  ·have e:gY (b::r)= .error 4:=by
     rw[gY,if_pos hd,if_neg hv,if_pos];rw[hlet];exact hbad
   rw[e];exact⟨w,m,by decide,sT w s a v m l b ha hb hd 4 (Hw w s a v m l b c ha hlen h0 _ hp (by omega) hl _ _ _ _ _ _ hz hy hx hxb rfl rfl rfl hbad)⟩
  ·have e:gY (b::r)= .ok (3,(b::r).takeWhile bM,dv 0 ((b::r).takeWhile bM)):=by
     rw[gY,if_pos hd,if_neg hv,if_neg];rw[hlet];exact hbad
   rw[e,←hT];exact⟨w,m,Cm w s a v m l b ha hb hd _ _ _ (NR w s a v m l b c ha hlen h0 _ hp (by omega) hl _ _ _ _ _ _ hz hy hx hxb rfl rfl rfl (by simpa only[Bool.not_eq_true]using hbad))⟩
theorem NT(b:UInt8)(r:List UInt8)(ha:a<s.length)(hr:s.drop a=b::r)(hlen:s.length≤100000)(hl:l.length+1≤549755813888):yg w s a v m l (gY (b::r)):=by
 have hb0:s[a]? =some b:=by
  have:(s.drop a)[0]? =some b:=by rw[hr];rfl
  rwa [List.getElem?_drop,Nat.add_zero]at this
 have hb:s[((a:Nat):Int).toNat]? =some b:=by simpa using hb0
 have hrl:(b::r).length=s.length-a:=by rw[←hr,List.length_drop]
 cases hd:bM b with
 |true=>exact HA w s a v m l b r ha hr hb hlen hl hd
 |false=>
  cases hs:ma b with
  |true=>
   have hT:pe s a=(b::r).takeWhile ki:=by rw[pe,Fe,hr]
   have hle:=II ki (b::r);have hta:a+(pe s a).length≤1099511627776:=by rw[hT];omega
   have e:gY (b::r)=(if fc (pe s a)then .ok (2,pe s a,0)else if 12<(pe s a).length then .error 2 else .ok (1,pe s a,0)):=by
    rw[gY,if_neg (by simp[hd]),if_pos hs,hT]
   rw[e];cases hu:fc (pe s a)with
   |true=>exact⟨_,_,EZ w s a v m l b ha hb hlen hd hs hu hl hta⟩
   |false=>
    rw[if_neg (by simp)];by_cases h12:12<(pe s a).length
    ·rw[if_pos h12]
     exact⟨_,_,by decide,E1 w s a v m l b ha hb hlen hd hs hu (by simp only[decide_eq_true_eq];omega) hl hta⟩
    ·rw[if_neg h12]
     exact⟨_,_,E0 w s a v m l b ha hb hlen hd hs hu (by simp only[decide_eq_false_iff_not];omega) hl hta⟩
  |false=>
   have e:gY (b::r)=(if wm b r=[]then .error 4 else .ok (4,wm b r,0)):=by
    rw[gY,if_neg (by simp[hd]),if_neg (by simp[hs])]
   have hT:=Fg s a b r hr;have hb':(rst s a)[(0:Int).toNat]? =some b:=by rw[Ff,hr];rfl
   have hle:=(yf b r).length_le;rw[e];by_cases h0:wm b r=[]
   ·rw[if_pos h0]
    exact⟨_,_,by decide,E6 w s a v m l b ha hb hb' hd hs _ hT (by rw[h0];rfl) hl (by omega)⟩
   ·rw[if_neg h0]
    exact⟨_,_,E5 w s a v m l b ha hb hb' hd hs _ hT (by simpa using h0) hl (by omega)⟩
end
end Go.Avm
namespace Go.Avm
open Go.Proofs
def cZ:Nat→List UInt8→Nat→Except (Nat×Int) (List (Nat×kq))
 |0,_,_=> .ok []
 |_+1,[],_=> .ok []
 |n+1,b::r,a=>match gY (b::r)with
  | .error k=> .error (a,k)
  | .ok t=>match cZ n (((b::r).drop t.2.1.length).drop (bN false ((b::r).drop t.2.1.length))) (a+t.2.1.length+bN false ((b::r).drop t.2.1.length))with
   | .error e=> .error e
   | .ok ts=> .ok ((a,t)::ts)
def ji(s:List UInt8):Except (Nat×Int) (List (Nat×kq)):=cZ (s.length+1) (s.drop (bN false s)) (bN false s)
def sV(x:Nat×kq):D:=om x.2.1 x.1 x.2.2.1 x.2.2.2
def Co(s:List UInt8):List (Nat×AV):=[(0, .d (.str s)),(5,fN)]
section
variable(w w1:Bool)(s:List UInt8)(a v m:Nat)(l:List D)
noncomputable def yh(ha:a<s.length)(a1 v1 m1:Nat)(l1:List D)(k:Int)(z:Bool)(hz:(k !=0)=z)(hlen:s.length≤100000)(ha1:a1≤s.length)(hc:∀rest:ab,ay Pg 38 [fN] (al (dZ w s a v m l) rest) [dI k] (al (dZ w1 s a1 v1 m1 l1) rest)):Par Pg:=
 {hint:=fun f' i=>if f'=21 then (if i=21 then some (qL ha)else if i=27 then some (hB Pg _ z hz)else none)else none
  calls:=fun f' i _=>if f'=21 then (if i=25 then some ⟨38,[fN],dZ w s a v m l,[dI k],dZ w1 s a1 v1 m1 l1,gH hc⟩else if i=23 then some (ot w1 s a1 v1 l1 hlen ha1)else none)else none}
theorem Fj(ha:a<s.length)(a1 v1 m1:Nat)(l1:List D)(hlen:s.length≤100000)(ha1:a1≤s.length)(hc:∀rest:ab,ay Pg 38 [fN] (al (dZ w s a v m l) rest) [dI 0] (al (dZ w1 s a1 v1 m1 l1) rest))(rest:ab)(X:cf)(hP:X.P=Pg)(hN:X.N=39):
    AW X (lO 21 5) ⟨an (Co s),al (dZ w s a v m l) rest⟩ fun e' S'=>e'= .normal∧Weak X S' ⟨an (Co s),al (dZ w1 s (ba s a1) v1 m1 l1) rest⟩:=by
 cases w with
 |false=>cases w1 with
  |false=>exact th aB named (yh false false s a v m l ha a1 v1 m1 l1 0 false rfl hlen ha1 hc) 1000 21 300000 39 (by kernel_rfl) X hP hN
  |true=>exact th aB named (yh false true s a v m l ha a1 v1 m1 l1 0 false rfl hlen ha1 hc) 1000 21 300000 39 (by kernel_rfl) X hP hN
 |true=>cases w1 with
  |false=>exact th aB named (yh true false s a v m l ha a1 v1 m1 l1 0 false rfl hlen ha1 hc) 1000 21 300000 39 (by kernel_rfl) X hP hN
  |true=>exact th aB named (yh true true s a v m l ha a1 v1 m1 l1 0 false rfl hlen ha1 hc) 1000 21 300000 39 (by kernel_rfl) X hP hN
theorem HB(ha:a<s.length)(m1:Nat)(k:Int)(hk:k≠0)(hlen:s.length≤100000)(hc:∀rest:ab,ay Pg 38 [fN] (al (dZ w s a v m l) rest) [dI k] (al (dZ w1 s a v m1 l) rest))(rest:ab)(X:cf)(hP:X.P=Pg)(hN:X.N=39):
    AW X (lO 21 5) ⟨an (Co s),al (dZ w s a v m l) rest⟩ fun e' S'=>e'= .ret∧Weak X S' ⟨an [(2, .nils),(3,dN a),(4,dI k)],al (dZ w1 s a v m1 l) rest⟩:=by
 cases w with
 |false=>cases w1 with
  |false=>exact th aB named (yh false false s a v m l ha a v m1 l k true (by simpa using hk) hlen (by omega) hc) 1000 21 300000 39 (by kernel_rfl) X hP hN
  |true=>exact th aB named (yh false true s a v m l ha a v m1 l k true (by simpa using hk) hlen (by omega) hc) 1000 21 300000 39 (by kernel_rfl) X hP hN
 |true=>cases w1 with
  |false=>exact th aB named (yh true false s a v m l ha a v m1 l k true (by simpa using hk) hlen (by omega) hc) 1000 21 300000 39 (by kernel_rfl) X hP hN
  |true=>exact th aB named (yh true true s a v m l ha a v m1 l k true (by simpa using hk) hlen (by omega) hc) 1000 21 300000 39 (by kernel_rfl) X hP hN
theorem Fk(rest:ab)(X:cf)(hP:X.P=Pg)(hN:X.N=39):
    AW X (lO 21 5) ⟨an (Co s),al (dZ w s s.length v m l) rest⟩ fun e' S'=>e'= .exit 0∧Weak X S' ⟨an (Co s),al (dZ w s s.length v m l) rest⟩:=by
 cases w with
 |false=>exact th aB named {hint:=fun f' k=>if f'=21 then (if k=21 then some (qG s.length)else none)else none} 1000 21 300000 39 (by kernel_rfl) X hP hN
 |true=>exact th aB named {hint:=fun f' k=>if f'=21 then (if k=21 then some (qG s.length)else none)else none} 1000 21 300000 39 (by kernel_rfl) X hP hN
end
end Go.Avm
namespace Go.Avm
open Go.Proofs
def yi(w:Bool)(s:List UInt8)(a v m:Nat)(l:List D):Except (Nat×Int) (List (Nat×kq))→Prop
 | .error (p,k)=>∃w' v' m' l',RL 39 (lO 21 5) (Co s) (dZ w s a v m l) .ret [(2, .nils),(3,dN p),(4,dI k)] (dZ w' s p v' m' l')
 | .ok ts=>(l ++ts.map sV).length≤s.length∧∃w' v' m',RL 39 (lO 21 5) (Co s) (dZ w s a v m l) (.exit 0) (Co s) (dZ w' s s.length v' m' (l ++ts.map sV))
theorem yj(s:List UInt8)(hlen:s.length≤100000):∀(n:Nat)(w:Bool)(a v m:Nat)(l:List D),a≤s.length→s.length<n+a→l.length≤a→yi w s a v m l (cZ n (s.drop a) a)
 |0,w,a,v,m,l,h1,h2,_=>by omega
 |n+1,w,a,v,m,l,h1,h2,h3=>by
  cases hr:s.drop a with
  |nil=>
   have:a=s.length:=by have:=List.drop_eq_nil_iff.1 hr;omega
   subst this;refine⟨by simpa [cZ]using h3,w,v,m,fun rest X hP hN=> ?_⟩;simp only[cZ,List.map_nil,List.append_nil];exact zF (Fk w s v m l rest X hP hN) (by simp)
  |cons b r=>
   have ha:a<s.length:=by
    rcases Nat.lt_or_ge a s.length with h|h
    ·exact h
    ·rw[List.drop_eq_nil_iff.2 h]at hr;cases hr
   have hn:=NT w s a v m l b r ha hr hlen (by omega);rw[cZ];cases ht:gY (b::r)with
   |error k=>
    rw[ht]at hn;obtain⟨w1,m1,hk,hc⟩:=hn;exact⟨w1,v,m1,l,fun rest X hP hN=>zF (HB w w1 s a v m l ha m1 k hk hlen hc rest X hP hN) (by simp)⟩
   |ok t=>
    obtain⟨kd,t,k⟩:=t;rw[ht]at hn;obtain⟨w1,m1,hc⟩:=hn;obtain⟨hpre,hne⟩:=sU ht;have hrl:(b::r).length=s.length-a:=by rw[←hr,List.length_drop]
    have htl:=hpre.length_le;have ht0:0<t.length:=List.length_pos_iff.2 hne;have ha1:a+t.length≤s.length:=by omega
    have hd1:s.drop (a+t.length)=(b::r).drop t.length:=by rw[←hr,List.drop_drop]
    have hb:ba s (a+t.length)=a+t.length+bN false ((b::r).drop t.length):=by rw[ba,hd1]
    have hd2:s.drop (ba s (a+t.length))=((b::r).drop t.length).drop (bN false ((b::r).drop t.length)):=by rw[hb,←List.drop_drop,hd1]
    have hbl:=mX s (a+t.length) ha1;have ih:=yj s hlen n w1 (ba s (a+t.length)) (v+1) m1 (l ++[om kd a t k]) hbl.2 (by omega) (by rw[List.length_append,List.length_singleton];omega);rw[hd2,hb]at ih
    show yi w s a v m l (match cZ n (((b::r).drop t.length).drop (bN false ((b::r).drop t.length))) (a+t.length+bN false ((b::r).drop t.length))with
     | .error e=> .error e
     | .ok ts=> .ok ((a,(kd,t,k))::ts))
    have hstep:=fun rest X hP hN=>Fj w w1 s a v m l ha (a+t.length) (v+1) m1 (l ++[om kd a t k]) hlen ha1 hc rest X hP hN
    rw[hb]at hstep;cases hs:cZ n (((b::r).drop t.length).drop (bN false ((b::r).drop t.length))) (a+t.length+bN false ((b::r).drop t.length))with
    |error e=>
     obtain⟨p,k'⟩:=e;rw[hs]at ih;obtain⟨w',v',m',l',hh⟩:=ih;exact⟨w',v',m',l',fun rest X hP hN=>zE (hstep rest X hP hN) (hh rest X hP hN)⟩
    |ok ts=>
     rw[hs]at ih;obtain⟨hle,w',v',m',hh⟩:=ih;have e:l ++[om kd a t k] ++ts.map sV=l ++((a,(kd,t,k))::ts).map sV:=by simp[sV]
     rw[e]at hle hh;exact⟨hle,w',v',m',fun rest X hP hN=>zE (hstep rest X hP hN) (hh rest X hP hN)⟩
section
variable(s:List UInt8)
noncomputable def yk(h:Option (dJ Pg))(C:Option (fC Pg))(D:Option (fC Pg))(z:Bool)(hz:decide (20000<(s.length:Int))=z):Par Pg:=
 {hint:=fun f' k=>if f'=21 then (if k=9 then some (hB Pg _ z hz)else none)else none
  nils:=fun f' r=>if f'=21 then (if r=4 then some {k:=324,i:=6,K:=1,sz:=4}else none)else none
  calls:=fun f' k _=>if f'=21 then (if k=14 then C else if k=34 then D else none)else none
  loops:=fun f' r=>if f'=21 then (if r=5 then h else none)else none}
theorem Fl(h:decide (20000<(s.length:Int))=true):ax Pg 21 [.str s] [.ro [], .int .i64 0, .int .i64 2]:=
 bn aB named (yk s none none none true h) 1000 (by kernel_rfl)
noncomputable def HD(w:Bool)(a v m:Nat)(l:List D)(e:aD)(l':List (Nat×AV))(hp:List (Nat×aL))(h:RL 39 (lO 21 5) (Co s) (dZ w s a v m l) e l' hp):dJ Pg:=
 ⟨39,b6 Pg 21 5,Co s,fun _=>dZ w s a v m l,e,l',fun _=>hp,fun rest X hP hN=>(h rest X hP hN).aw⟩
theorem HE(h:decide (20000<(s.length:Int))=false)(hlen:s.length≤100000)(p:Nat)(k:Int)(w':Bool)(v' m':Nat)(l':List D)
    (hl:RL 39 (lO 21 5) (Co s) (dZ false s (ba s 0) 0 0 []) .ret [(2, .nils),(3,dN p),(4,dI k)] (dZ w' s p v' m' l')):
    ax Pg 21 [.str s] [.ro [], .int .i64 (p:Int), .int .i64 k]:=by
 cases w' with
 |false=>exact bn aB named (yk s (some (HD s false (ba s 0) 0 0 [] _ _ _ hl)) (some (ot false s 0 0 [] hlen (Nat.zero_le _))) none false h) 1000 (by kernel_rfl)
 |true=>exact bn aB named (yk s (some (HD s false (ba s 0) 0 0 [] _ _ _ hl)) (some (ot false s 0 0 [] hlen (Nat.zero_le _))) none false h) 1000 (by kernel_rfl)
theorem Fm(h:decide (20000<(s.length:Int))=false)(hlen:s.length≤100000)(w':Bool)(v' m':Nat)(l':List D)(hl':l'.length+1≤549755813888)
    (hl:RL 39 (lO 21 5) (Co s) (dZ false s (ba s 0) 0 0 []) (.exit 0) (Co s) (dZ w' s s.length v' m' l')):
    ax Pg 21 [.str s] [.ro (l' ++[om 0 s.length [] 0]), .int .i64 0, .int .i64 0]:=by
 cases w' with
 |false=>exact bn aB named (yk s (some (HD s false (ba s 0) 0 0 [] _ _ _ hl)) (some (ot false s 0 0 [] hlen (Nat.zero_le _))) (some (ux false s s.length v' m' l' 0 0 [] hl' (by simp only[List.length_nil];omega))) false h) 1000 (by kernel_rfl)
 |true=>exact bn aB named (yk s (some (HD s false (ba s 0) 0 0 [] _ _ _ hl)) (some (ot false s 0 0 [] hlen (Nat.zero_le _))) (some (ux true s s.length v' m' l' 0 0 [] hl' (by simp only[List.length_nil];omega))) false h) 1000 (by kernel_rfl)
end
def ov(s:List UInt8):List D×Int×Int:=
 if 20000<s.length then ([],0,2)else match ji s with
  | .error (p,k)=>([],p,k)
  | .ok ts=>(ts.map sV ++[om 0 s.length [] 0],0,0)
theorem NU(s:List UInt8):ax Pg 21 [.str s] [.ro (ov s).1, .int .i64 (ov s).2.1, .int .i64 (ov s).2.2]:=by
 unfold ov;by_cases h:20000<s.length
 ·rw[if_pos h]
  exact Fl s (by simp only[decide_eq_true_eq];omega)
 ·rw[if_neg h]
  have hz:decide (20000<(s.length:Int))=false:=by simp only[decide_eq_false_iff_not];omega
  have hb:=mX s 0 (Nat.zero_le _);have hl:=yj s (by omega) (s.length+1) false (ba s 0) 0 0 [] hb.2 (by omega) (Nat.zero_le _)
  have he:cZ (s.length+1) (s.drop (ba s 0)) (ba s 0)=ji s:=by
   unfold ji ba;rw[List.drop_zero,Nat.zero_add]
  rw[he]at hl;cases hs:ji s with
  |error e=>
   obtain⟨p,k⟩:=e;rw[hs]at hl;obtain⟨w',v',m',l',hh⟩:=hl;exact HE s hz (by omega) p k w' v' m' l' hh
  |ok ts=>
   rw[hs]at hl;obtain⟨hle,w',v',m',hh⟩:=hl;exact Fm s hz (by omega) w' v' m' _ (by rw[List.nil_append]at hle;omega) hh
end Go.Avm
namespace Go.Avm
open Go.Proofs
theorem iQ(n:Nat)(b:UInt8)(r:List UInt8)(a:Nat):cZ (n+1) (b::r) a=match gY (b::r)with
    | .error k=> .error (a,k)
    | .ok t=>match cZ n (((b::r).drop t.2.1.length).drop (bN false ((b::r).drop t.2.1.length))) (a+t.2.1.length+bN false ((b::r).drop t.2.1.length))with
     | .error e=> .error e
     | .ok ts=> .ok ((a,t)::ts):=rfl
theorem Fo{r:List UInt8}{k:Int}(h:gY r= .error k):k≠0:=by
 cases r with
 |nil=>simp only[gY,Except.error.injEq]at h;omega
 |cons b r=>
  rw[gY]at h;repeat' split at h
  all_goals first
   |(cases h;done)
   |(simp only[Except.error.injEq]at h;omega)
theorem pi:∀(n:Nat)(r:List UInt8)(a p:Nat)(k:Int),cZ n r a= .error (p,k)→k≠0
 |0,r,a,p,k,h=>by cases h
 |n+1,[],a,p,k,h=>by cases h
 |n+1,b::r,a,p,k,h=>by
  rw[iQ]at h;cases ht:gY (b::r)with
  |error k'=>
   rw[ht]at h;simp only[Except.error.injEq,Prod.mk.injEq]at h;obtain⟨_,rfl⟩:=h;exact Fo ht
  |ok t=>
   rw[ht]at h;dsimp only at h;split at h
   ·rename_i e he
    cases h;exact pi n _ _ p k he
   ·cases h
theorem uA:∀(n:Nat)(r:List UInt8)(a:Nat)(ts:List (Nat×kq)),cZ n r a= .ok ts→ts.length≤n
 |0,r,a,ts,h=>by cases h;exact Nat.le_refl _
 |n+1,[],a,ts,h=>by cases h;exact Nat.zero_le _
 |n+1,b::r,a,ts,h=>by
  rw[iQ]at h;cases ht:gY (b::r)with
  |error k'=>rw[ht]at h;cases h
  |ok t=>
   rw[ht]at h;dsimp only at h;split at h
   ·cases h
   ·rename_i ts1 hs
    cases h;have:=uA n _ _ ts1 hs;simp only[List.length_cons];omega
theorem HF(l:List T)(e:T)(he:e.k=0)(hl:l.length+1<1000000):dm (l ++[e]):=
 ⟨by simpa using hl,fun i x hx hk=>by
  rw[List.length_append,List.length_singleton];rcases Nat.lt_or_ge i l.length with h|h
  ·omega
  ·rw[List.getElem?_append_right h]at hx
   cases hi:i-l.length with
   |zero=>
    rw[hi]at hx;simp only[List.getElem?_cons_zero,Option.some.injEq]at hx;rw[←hx,he]at hk;exact absurd rfl hk
   |succ j=>rw[hi]at hx;simp at hx⟩
def NV(x:Nat×kq):T:=⟨x.2.1,(x.1:Int),x.2.2.1,x.2.2.2⟩
def bk(ts:List (Nat×kq))(n:Nat):List T:=ts.map NV ++[⟨0,(n:Int),[],0⟩]
theorem Fp(ts:List (Nat×kq))(n:Nat):so (bk ts n)= .ro (ts.map sV ++[om 0 n [] 0]):=by
 simp only[so,bk,List.map_append,List.map_map];rfl
theorem uB{ts:List (Nat×kq)}{n:Nat}(h:ts.length+1<1000000):dm (bk ts n):=HF _ _ rfl (by simpa using h)
theorem gE(ts:List (Nat×kq))(n:Nat):0<(bk ts n).length:=by simp[bk]
def Aa(ts:List (Nat×kq))(n:Nat):Res (List Fn):=fX (bk ts n) (fuel (bk ts n))
def iR(s:List UInt8):List D:=
 if 20000<s.length then [.agg [.ro []], .int .i64 0, .int .i64 2]else match ji s with
  | .error (p,k)=>[.agg [.ro []], .int .i64 (p:Int), .int .i64 k]
  | .ok ts=>ER (Aa ts s.length)
theorem uC{s:List UInt8}{ts:List (Nat×kq)}(h:ji s= .ok ts):ts.length≤s.length+1:=uA _ _ _ _ h
theorem Cp(s:List UInt8):ax Pg 12 [.str s] (iR s):=by
 have hs:=NU s;unfold iR;unfold ov at hs;by_cases h:20000<s.length
 ·rw[if_pos h]at hs ⊢
  exact EQ (by decide) hs
 ·rw[if_neg h]at hs ⊢
  cases he:ji s with
  |error e=>
   obtain⟨p,k⟩:=e;rw[he]at hs;have hk:=pi _ _ _ _ _ he;exact EQ (by simpa using hk) hs
  |ok ts=>
   rw[he]at hs;have hl:=uC he;have hok:=uB (ts:=ts) (n:=s.length) (by omega);exact KJ hok (gE _ _) (by rw[Fp];exact hs) _ (Ba hok (gE _ _))
end Go.Avm
namespace Go.Avm
open Go.Proofs
inductive gd:List bt→Int→Int→Int→Int→Prop
 |nil (n a:Int):gd [] n a n a
 |cons {k id:Int} {nm:List UInt8} {ty v p:Int} {es:List Ex} {bd el r:List bt} {a n1 a1 n2 a2 n3 a3:Int} (h:a<p) (lb:bd.length<1000000) (le:el.length<1000000) (hb:gd bd (fJ (id+1)) p n1 a1) (he:gd el n1 a1 n2 a2) (hr:gd r n2 a2 n3 a3):gd (.mk k id nm ty v p es bd el::r) id a n3 a3
inductive wn:List Fn→Int→Int→Prop
 |nil (n a:Int):wn [] n a
 |cons {nm:List UInt8} {ps:List Pm} {k:Int} {bd:List bt} {p:Int} {r:List Fn} {n a n1 a1:Int} (lb:bd.length<1000000) (hb:gd bd n a n1 a1) (hr:wn r n1 a1):wn (⟨nm,ps,k,bd,p⟩::r) n a
end Go.Avm
namespace Go.Avm
open Go.Proofs
mutual
def wH:Ex→Nat
 | .mk _ _ _ _ _ xs=>1+dX xs
def dX:List Ex→Nat
 |[]=>0
 |x::l=>wH x+dX l
end
mutual
def sW:bt→Nat
 | .mk _ _ _ _ _ _ es bd el=>1+dX es+cO bd+cO el
def cO:List bt→Nat
 |[]=>0
 |x::l=>sW x+cO l
end
def IJ(x:Fn):Nat:=1+x.ps.length+cO x.bd
def jq:List Fn→Nat
 |[]=>0
 |x::l=>IJ x+jq l
theorem HG:∀x,1≤sW x
 | .mk _ _ _ _ _ _ _ _ _=>by simp only[sW];omega
theorem yl:∀l,l.length≤cO l
 |[]=>Nat.le_refl _
 |x::l=>by have:=yl l;have:=HG x;simp only[cO,List.length_cons];omega
theorem sX:∀l,l.length≤jq l
 |[]=>Nat.le_refl _
 |x::l=>by have:=sX l;simp only[jq,IJ,List.length_cons];omega
theorem ym:∀{l:List bt}{i:Nat}{x:bt},l[i]? =some x→sW x≤cO l
 |[],_,_,h=>by simp at h
 |y::l,0,x,h=>by simp at h;subst h;simp only[cO];omega
 |y::l,i+1,x,h=>by simp at h;have:=ym h;simp only[cO];omega
theorem yn:∀{l:List Fn}{i:Nat}{x:Fn},l[i]? =some x→IJ x≤jq l
 |[],_,_,h=>by simp at h
 |y::l,0,x,h=>by simp at h;subst h;simp only[jq];omega
 |y::l,i+1,x,h=>by simp at h;have:=yn h;simp only[jq];omega
end Go.Avm
namespace Go.Avm
open Go.Proofs
theorem TR.bind_ne{α β:Type}{r:TR α}{f:α→TR β}(h:r≠ .out)(hf:∀a,f a≠ .out):r.bind f≠ .out:=by
 cases r with
 |ok a=>exact hf a
 |bad p e=>exact fun h=>by cases h
 |out=>exact absurd rfl h
theorem fe{α:Type}{b:Bool}{x y:TR α}(hx:x≠ .out)(hy:y≠ .out):(bif b then x else y)≠ .out:=by cases b<;>assumption
theorem gj{α:Type}{a:α}:TR.ok a≠ .out:=fun h=>by cases h
theorem ff{α:Type}{p e:Int}:(TR.bad p e:TR α)≠ .out:=fun h=>by cases h
theorem wo(E:TE)(nm:List UInt8)(p:Int):oV E nm p≠ .out:=by
 unfold oV;split
 ·exact gj
 ·exact ff
theorem wp(E:TE)(nm:List UInt8)(p:Int):tK E nm p≠ .out:=TR.bind_ne (wo _ _ _) fun _=>fe gj ff
mutual
theorem Bi(E:TE):∀x:Ex,H8 x=true→eM E x≠ .out
 | .mk k o nm n p xs,h=>by
  simp only[H8,Bool.and_eq_true]at h;obtain⟨hk,hxs⟩:=h;have hN:=fun ts eq hl he=>ow E xs ts eq hxs hl he
  unfold eM;refine fe gj ?_;refine fe (TR.bind_ne (wo _ _ _) fun _=>fe gj ff) ?_;cases h4:(k==4)with
  |true=>
   have e:=eq_of_beq h4;subst e;have:xs.length=1:=by simpa using hk
   exact TR.bind_ne (wp _ _ _) fun _=>TR.bind_ne (hN [[1]] false (by simp only[List.length_cons,List.length_nil];omega) (fun h=>by cases h)) fun _=>gj
  |false=>
   simp only[cond_false];refine fe (TR.bind_ne (wp _ _ _) fun _=>gj) ?_;refine fe ?_ ?_
   ·split
    ·exact ff
    ·rename_i j f hf
     cases hl:(f.ps.length==xs.length)with
     |false=>exact ff
     |true=>exact TR.bind_ne (hN _ false (by rw[List.length_map,eq_of_beq hl];exact Nat.le_refl _) (fun h=>by cases h)) fun _=>gj
   ·cases h8:(k==8)with
    |true=>
     have e:=eq_of_beq h8;subst e;have:xs.length=1:=by simpa using hk
     simp only[cond_true];exact fe (TR.bind_ne (hN [[2]] false (by simp only[List.length_cons,List.length_nil];omega) (fun h=>by cases h)) fun _=>gj) (TR.bind_ne (hN [[1]] false (by simp only[List.length_cons,List.length_nil];omega) (fun h=>by cases h)) fun _=>gj)
    |false=>
     simp only[cond_false];cases h9:(k==9)with
     |false=>exact gj
     |true=>
      have e:=eq_of_beq h9;subst e;have hx:xs.length=2:=by simpa using hk
      simp only[cond_true];have:decide (xs.length<2)=false:=by rw[hx];rfl
      rw[this];simp only[cond_false];refine fe (TR.bind_ne (hN [[2],[2]] false (by simp only[List.length_cons,List.length_nil];omega) (fun h=>by cases h)) fun _=>gj) (fe (TR.bind_ne (hN [[1,2],[]] true (by simp only[List.length_cons,List.length_nil];omega) (fun _=>by omega)) fun _=>gj) (TR.bind_ne (hN [[1],[1]] false (by simp only[List.length_cons,List.length_nil];omega) (fun h=>by cases h)) fun _=>gj))
theorem ow(E:TE):∀(xs:List Ex)(ts:List (List Int))(eq:Bool),eY xs=true→ts.length≤xs.length→(eq=true→2≤xs.length)→aM E xs ts eq≠ .out
 |[],[],_,_,_,_=>by unfold aM;exact gj
 |_::_,[],_,_,_,_=>by unfold aM;exact gj
 |[],_::_,_,_,h,_=>by simp at h
 |x::xs,ts::r,eq,h,hl,he=>by
  simp only[eY,Bool.and_eq_true]at h;simp only[List.length_cons]at hl he;unfold aM;refine TR.bind_ne (Bi E x h.1) fun t=>fe ?_ ff
  refine ow E xs _ false h.2 ?_ (fun h=>by cases h);cases eq with
  |true=>have:=he rfl;simp only[cond_true,List.length_cons,List.length_nil];omega
  |false=>simp only[cond_false];omega
end
def dH(k:Int)(n b e:Nat):Bool:=
 (bif k==1 then decide (n≤1)else bif k==2 then n==1 else bif k==3 then n==2 else bif k==4 then n==1 else bif k==5 then n==1 else bif k==6 then decide (n≤1)else bif k==7 then n==1 else k==8&&n==1)&&((k==4||k==5||b==0)&&(k==4||e==0))
mutual
def iS:bt→Bool
 | .mk k _ nm _ _ _ es bd el=>decide (nm.length≤1000000)&&(eY es&&(dH k es.length bd.length el.length&&(dW bd&&dW el)))
def dW:List bt→Bool
 |[]=>true
 |s::r=>iS s&&dW r
end
def NO(n:Int)(b:Nat):TR CS→Prop
 | .ok c=>(c.pts.length:Int)=n∧c.pts.length≤b
 | .bad _ _=>True
 | .out=>False
theorem NO.bindU{α:Type}{n:Int}{b:Nat}{r:TR α}{f:α→TR CS}(h:r≠ .out)(hf:∀a,NO n b (f a)):NO n b (r.bind f):=by
 cases r with
 |ok a=>exact hf a
 |bad p e=>trivial
 |out=>exact absurd rfl h
theorem NO.bif{n:Int}{b:Nat}{c:Bool}{x y:TR CS}(hx:NO n b x)(hy:NO n b y):NO n b (bif c then x else y):=by cases c<;>assumption
theorem KQ{fs:List Fn}{deep:Int}{nm:List UInt8}{id ty n p:Int}{es:List Ex}{c:CS}{q:Int}{b:Nat}(hn:nm.length≤1000000)(he:eY es=true)(hl:es.length≤1)(h:(c.pts.length:Int)=q∧c.pts.length≤b):NO q b (zI fs deep nm id ty n p es c):=by
 unfold zI;have h1:decide (1000000≤es.length)=false:=decide_eq_false (by omega);have h2:decide (1000000<nm.length)=false:=decide_eq_false (by omega);rw[h1,h2];simp only[cond_false];refine NO.bindU (ow _ _ _ _ he (by rw[List.length_map];exact Nat.le_refl _) (fun h=>by cases h)) fun _=> ?_
 refine NO.bif trivial (NO.bif trivial (NO.bif trivial (NO.bif trivial ?_)));cases (ty==3|| !es.isEmpty)<;>exact h
theorem HH{fs:List Fn}{fn:Nat}{p:Int}{es:List Ex}{c:CS}{q:Int}{b:Nat}(hf:fn<fs.length)(he:eY es=true)(h:(c.pts.length:Int)=q∧c.pts.length≤b):NO q b (sg fs fn p es c):=by
 unfold sg;rw[List.getElem?_eq_getElem hf];dsimp only;cases es with
 |nil=>exact NO.bif h trivial
 |cons x r=>
  simp only[eY,Bool.and_eq_true]at he;exact NO.bif (NO.bindU (Bi _ x he.1) fun _=>trivial) (NO.bindU (TR.bind_ne (Bi _ x he.1) fun _=>fe gj ff) fun _=>h)
theorem lG{n a n' a':Int}(h:gd [] n a n' a'):n=n':=by cases h;rfl
mutual
theorem HI(fs:List Fn)(fn:Nat)(hf:fn<fs.length):∀(x:bt)(deep:Int)(c:CS)(id a n' a':Int),iS x=true→id=(c.pts.length:Int)→gd [x] id a n' a'→c.pts.length+sW x<900000000→NO n' (c.pts.length+sW x) (jh fs fn deep x c)
 | .mk k id nm ty n p es bd el,deep,c,id',a,n',a',hg,hid,hN,hb=>by
  simp only[iS,Bool.and_eq_true]at hg;obtain⟨hnm,he,har,hbd,hel⟩:=hg;have hnm:=of_decide_eq_true hnm;cases hN with
  | @cons _ _ _ _ _ _ _ _ _ _ _ n1 a1 n2 a2 _ _ hp lb le hNb EY hNr=>
  have hn:=lG hNr;subst hn;simp only[sW]at hb ⊢
  have hw:fJ (id+1)=((c.pts.length+1:Nat):Int):=by
   rw[hid];have:=Int.toNat_of_nonneg (show(0:Int)≤(c.pts.length:Int)+1 by omega);exact(show fJ ((c.pts.length:Int)+1)=(c.pts.length:Int)+1 from IntWalk.i64_in _ (by omega)).trans (by omega)
  rw[hw]at hNb;unfold jh
  have h0:(id==(c.pts.length:Int)&&decide (c.pts.length<900000000))=true:=by
   rw[hid];simp only[beq_self_eq_true,Bool.true_and,decide_eq_true_eq];omega
  rw[h0];simp only[cond_true];have hl1:(c.pts ++[c.pt fn]).length=c.pts.length+1:=by simp
  have flat:bd=[]→el=[]→((c.pts ++[c.pt fn]).length:Int)=n2∧(c.pts ++[c.pt fn]).length≤c.pts.length+(1+dX es+cO bd+cO el):=by
   rintro rfl rfl;have e1:=lG hNb;have e2:=lG EY;rw[hl1];simp only[cO];omega
  have hw1:∀ts:List (List Int),ts.length≤es.length→aM (CS.te fs {c with pts:=c.pts ++[c.pt fn]}) es ts false≠ .out:=fun ts h=>ow _ _ _ _ he h fun h=>by cases h
  cases k1:(k==1)with
  |true=>
   have e:=eq_of_beq k1;subst e;have:es.length≤1∧bd=[]∧el=[]:=by simpa [dH]using har
   exact KQ hnm he this.1 (flat this.2.1 this.2.2)
  |false=>
  simp only[cond_false];cases k2:(k==2)with
  |true=>
   have e:=eq_of_beq k2;subst e;have:es.length=1∧bd=[]∧el=[]:=by simpa [dH]using har
   exact NO.bindU (wo _ _ _) fun r=>NO.bif trivial (NO.bindU (hw1 _ (by simp[this.1])) fun _=>flat this.2.1 this.2.2)
  |false=>
  simp only[cond_false];cases k3:(k==3)with
  |true=>
   have e:=eq_of_beq k3;subst e;have:es.length=2∧bd=[]∧el=[]:=by simpa [dH]using har
   exact NO.bindU (wp _ _ _) fun r=>NO.bindU (hw1 _ (by simp[this.1])) fun _=>flat this.2.1 this.2.2
  |false=>
  simp only[cond_false];cases k4:(k==4)with
  |true=>
   have e:=eq_of_beq k4;subst e;have:es.length=1:=by simpa [dH]using har
   refine NO.bindU (hw1 _ (by simp[this])) fun _=> ?_
   have gb:=lH fs fn hf bd (fJ (deep+1)) false {c with pts:=c.pts ++[c.pt fn]} _ _ _ _ hbd rfl (by rw[hl1];exact hNb) (by rw[hl1];omega);revert gb;cases bE fs fn (fJ (deep+1)) false bd {c with pts:=c.pts ++[c.pt fn]}with
   |out=>exact fun h=>h.elim
   |bad p e=>exact fun _=>trivial
   |ok c2=>
    rintro⟨g1,g2⟩;simp only[TR.bind];rw[hl1]at g2;have ge:=lH fs fn hf el (fJ (deep+1)) false {c2 with seen:=c.seen,sure:=c.sure} _ _ _ _ hel rfl (by rw[g1];exact EY) (by show c2.pts.length+cO el<_;omega);revert ge;cases bE fs fn (fJ (deep+1)) false el {c2 with seen:=c.seen,sure:=c.sure}with
    |out=>exact fun h=>h.elim
    |bad p e=>exact fun _=>trivial
    |ok c3=>
     rintro⟨g3,g4⟩;have g4:c3.pts.length≤c2.pts.length+cO el:=g4;refine⟨g3, ?_⟩;show c3.pts.length≤_;omega
  |false=>
  simp only[cond_false];cases k5:(k==5)with
  |true=>
   have e:=eq_of_beq k5;subst e;have:es.length=1∧el=[]:=by simpa [dH]using har
   obtain⟨ha,rfl⟩:=this;have e2:=lG EY;subst e2;refine NO.bindU (hw1 _ (by simp[ha])) fun _=> ?_
   have gb:=lH fs fn hf bd (fJ (deep+1)) false {c with pts:=c.pts ++[c.pt fn]} _ _ _ _ hbd rfl (by rw[hl1];exact hNb) (by rw[hl1];omega);revert gb;cases bE fs fn (fJ (deep+1)) false bd {c with pts:=c.pts ++[c.pt fn]}with
   |out=>exact fun h=>h.elim
   |bad p e=>exact fun _=>trivial
   |ok c2=>
    rintro⟨g1,g2⟩;rw[hl1]at g2;refine⟨g1, ?_⟩;show c2.pts.length≤_;omega
  |false=>
  simp only[cond_false]
  have hfl:bd=[]∧el=[]:=by
   simp only[dH,k4,k5,Bool.and_eq_true,Bool.or_eq_true,Bool.false_or,Bool.false_eq_true,false_or,beq_iff_eq,List.length_eq_zero_iff]at har;exact⟨har.2.1,har.2.2⟩
  have fl:=flat hfl.1 hfl.2;refine NO.bif (HH hf he fl) ?_
  have hes:k≠6→es.length=1:=fun h6=>by
   have h6:(k==6)=false:=by simpa using h6
   have:=har;simp only[dH,k1,k2,k3,k4,k5,h6,cond_false,Bool.and_eq_true]at this;cases h7:(k==7)with
   |true=>rw[h7]at this;simpa using this.1
   |false=>rw[h7]at this;simpa using (show _∧_ by simpa using this.1).2
  cases h7:(k==7)with
  |true=>
   have:=hes (by rw[eq_of_beq h7];decide);exact NO.bindU (hw1 _ (by simp[this])) fun _=>fl
  |false=>
  simp only[cond_false];cases h8:(k==8)with
  |false=>exact fl
  |true=>
   have:=hes (by rw[eq_of_beq h8];decide);simp only[cond_true];cases es with
   |nil=>simp at this
   |cons x r=>
    simp only[eY,Bool.and_eq_true]at he;exact NO.bindU (Bi _ x he.1) fun _=>fl
theorem lH(fs:List Fn)(fn:Nat)(hf:fn<fs.length):∀(l:List bt)(deep:Int)(prev:Bool)(c:CS)(id a n' a':Int),dW l=true→id=(c.pts.length:Int)→gd l id a n' a'→c.pts.length+cO l<900000000→NO n' (c.pts.length+cO l) (bE fs fn deep prev l c)
 |[],deep,prev,c,id,a,n',a',_,hid,hN,_=>by
  unfold bE;exact⟨hid.symm.trans (lG hN),Nat.le_refl _⟩
 |x::r,deep,prev,c,id,a,n',a',hg,hid,hN,hb=>by
  simp only[dW,Bool.and_eq_true]at hg;simp only[cO]at hb ⊢;unfold bE;refine NO.bif trivial ?_
  obtain⟨n2,a2,h1,h2⟩:∃n2 a2,gd [x] id a n2 a2∧gd r n2 a2 n' a':=by
   cases hN with
   |cons hp lb le hNb EY hNr=>exact⟨_,_, .cons hp lb le hNb EY (.nil _ _),hNr⟩
  have gx:=HI fs fn hf x deep c id a n2 a2 hg.1 hid h1 (by omega);revert gx;cases jh fs fn deep x c with
  |out=>exact fun h=>h.elim
  |bad p e=>exact fun _=>trivial
  |ok c2=>
   rintro⟨g1,g2⟩;simp only[TR.bind];have gr:=lH fs fn hf r deep (mT x) c2 n2 a2 n' a' hg.2 g1.symm h2 (by omega);revert gr;cases bE fs fn deep (mT x) r c2 with
   |out=>exact fun h=>h
   |bad p e=>exact fun _=>trivial
   |ok c3=>exact fun ⟨g3,g4⟩=>⟨g3,by omega⟩
end
end Go.Avm
namespace Go.Avm
open Go.Proofs
def Kn{α:Type}(s:RS)(r:Res α):Prop:=∀a s',r= .ok a s'→s'.n=s.n
theorem Kn.bind{α β:Type}{s:RS}{r:Res α}{f:α→RS→Res β}(h:Kn s r)(hf:∀a s',Kn s' (f a s')):Kn s (r.bind f):=fun b s2 e=>by
 cases r with
 |ok a s1=>exact(hf a s1 b s2 e).trans (h a s1 rfl)
 |bad p q s1=>cases e
 |out=>cases e
theorem Kn.ok{α:Type}(a:α)(s:RS):Kn s (.ok a s):=fun _ _ e=>by cases e;rfl
theorem Kn.out{α:Type}(s:RS):Kn s (Res.out:Res α):=fun _ _ e=>by cases e
theorem Kn.ite{α:Type}{c:Bool}{s:RS}{X Y:Res α}(hX:Kn s X)(hY:Kn s Y):Kn s (bif c then X else Y):=by cases c<;>assumption
theorem oz(L:List T)(x:List UInt8)(s:RS):Kn s (aG L x s):=fun a s' e=>by
 unfold aG at e;cases h:br L s x<;>rw[h]at e
 ·cases e
 ·simp only[cond_true]at e
  cases h1:(x==[40]||x==[91]||x==[123])<;>rw[h1]at e
  ·simp only[cond_false]at e
   cases h2:(x==[41]||x==[93]||x==[125])<;>rw[h2]at e<;>cases e<;>rfl
  ·simp only[cond_true]at e
   cases h2:decide (200<fJ (s.op+1))<;>rw[h2]at e<;>cases e
   rfl
theorem lU(L:List T)(k:Int)(s:RS):Kn s (dT L k s):=fun a s' e=>by
 unfold dT at e;cases h:((bA L s).k==k)<;>rw[h]at e<;>cases e
 rfl
theorem Ab(L:List T)(x:List UInt8)(s:RS):Kn s (b8 L x s):=by
 unfold b8;exact Kn.ite ((oz L x s).bind fun _ _=>Kn.ok _ _) (Kn.ok _ _)
theorem Bj(L:List T):∀(l:List Int)(s:RS),Kn s (eB L l s)
 |[],s=>fun _ _ e=>by cases e
 |k::r,s=>by
  simp only[eB];exact(Ab L _ s).bind fun b s'=>Kn.ite (Kn.ok _ _) (Bj L r s')
theorem wq(L:List T):∀n,(∀s,Kn s (gA L n s))∧(∀s,Kn s (dQ L n s))∧(∀nm p s,Kn s (gh L n nm p s))∧(∀s,Kn s (gN L n s))∧(∀l s,Kn s (fE L n l s))∧(∀k s,Kn s (bw L n k s))∧(∀k e s,Kn s (d9 L n k e s))
 |0=>⟨fun s=>Kn.out s,fun s=>Kn.out s,fun _ _ s=>Kn.out s,fun s=>Kn.out s,fun _ s=>Kn.out s,fun _ s=>Kn.out s,fun _ _ s=>Kn.out s⟩
 |n+1=>by
  obtain⟨h1,h2,h3,h4,h5,h6,h7⟩:=wq L n;have W:=oz L;have M:=Ab L;refine⟨fun s=> ?_,fun s=> ?_,fun nm p s=> ?_,fun s=> ?_,fun l s=> ?_,fun k s=> ?_,fun k e s=> ?_⟩
  ·simp only[gA]
   have un:∀(f:Ex→Ex) s',Kn s' ((gA L n s').bind fun e s2=> .ok (f e) s2):=fun f s'=>(h1 s').bind fun _ _=>Kn.ok _ _
   refine(M _ s).bind fun _ s1=>Kn.ite (un _ s1) ((M _ s1).bind fun _ s1=>Kn.ite (un _ s1) ((M _ s1).bind fun _ s1=>Kn.ite (un _ s1) (Kn.ite (fun _ _ e=>by cases e;rfl) ?_)))
   refine(M _ s1).bind fun _ s1=>Kn.ite (Kn.ok _ _) ((M _ s1).bind fun _ s1=>Kn.ite (Kn.ok _ _) ?_)
   refine(M _ s1).bind fun _ s1=>Kn.ite ((W _ s1).bind fun _ s2=>(W _ s2).bind fun _ _=>Kn.ok _ _) ?_
   refine(M _ s1).bind fun _ s1=>Kn.ite ((W _ s1).bind fun _ s2=>(lU L _ s2).bind fun _ s3=>(W _ s3).bind fun _ _=>Kn.ok _ _) ?_
   refine Kn.ite ((W _ s1).bind fun _ s2=>(h6 _ s2).bind fun _ s3=>(W _ s3).bind fun _ _=>Kn.ok _ _) ?_;exact(lU L _ s1).bind fun _ s2=>Kn.ite ((h2 s2).bind fun _ _=>Kn.ok _ _) (Kn.ite ((h3 _ _ s2).bind fun _ _=>Kn.ok _ _) (Kn.ok _ _))
  ·simp only[dQ]
   exact(W _ s).bind fun _ s2=>(h6 _ s2).bind fun _ s3=>(W _ s3).bind fun _ _=>Kn.ok _ _
  ·simp only[gh]
   exact(h4 s).bind fun _ _=>Kn.ok _ _
  ·simp only[gN]
   exact(W _ s).bind fun _ s1=>Kn.ite ((W _ s1).bind fun _ _=>Kn.ok _ _) ((h6 _ s1).bind fun _ s2=>(h5 _ s2).bind fun _ s3=>(W _ s3).bind fun _ _=>Kn.ok _ _)
  ·simp only[fE]
   exact(M _ s).bind fun _ s1=>Kn.ite ((h6 _ s1).bind fun _ s2=>h5 _ s2) (Kn.ok _ _)
  ·simp only[bw]
   exact(h1 s).bind fun _ s1=>h7 _ _ s1
  ·simp only[d9]
   refine Kn.ite (Kn.ok _ _) (fun a s' e2=> ?_);exact((h6 _ s.nx).bind fun _ s2=>h7 _ _ s2) a s' e2
theorem qz(L:List T)(n:Nat)(k:Int)(s:RS):Kn s (bw L n k s):=(wq L n).2.2.2.2.2.1 k s
def QA(L:List T):Prop:=∀i j,i<j→j<L.length→(L.getD i default).p<(L.getD j default).p
def KR(id p:Int):bt→Prop
 | .mk _ id' _ _ _ p' _ bd el=>id'=id∧p'=p∧bd=[]∧el=[]
def Ps{α:Type}(Q:α→Prop)(r:Res α):Prop:=∀a s',r= .ok a s'→Q a
theorem Ps.bind{α β:Type}{Q:β→Prop}{r:Res α}{f:α→RS→Res β}(hf:∀a s',Ps Q (f a s')):Ps Q (r.bind f):=fun b s2 e=>by
 cases r with
 |ok a s1=>exact hf a s1 b s2 e
 |bad p q s1=>cases e
 |out=>cases e
theorem Ps.ite{α:Type}{Q:α→Prop}{c:Bool}{X Y:Res α}(hX:Ps Q X)(hY:Ps Q Y):Ps Q (bif c then X else Y):=by cases c<;>assumption
theorem Ps.ok{α:Type}{Q:α→Prop}{a:α}{s:RS}(h:Q a):Ps Q (.ok a s):=fun _ _ e=>by cases e;exact h
section
variable(L:List T)(n:Nat)(id p:Int)(s:RS)
include L n id p s
theorem KS:Ps (KR id p) (jI L n id p s):=by
 unfold jI;exact Ps.bind fun _ _=>Ps.bind fun _ _=>Ps.bind fun _ _=>Ps.ite (Ps.bind fun _ _=>Ps.bind fun _ _=>Ps.bind fun _ _=>Ps.bind fun _ _=>Ps.ok ⟨rfl,rfl,rfl,rfl⟩) (Ps.bind fun _ _=>Ps.ite (Ps.bind fun _ _=>Ps.bind fun _ _=>Ps.ok ⟨rfl,rfl,rfl,rfl⟩) (Ps.bind fun _ _=>Ps.ok ⟨rfl,rfl,rfl,rfl⟩))
theorem Fq:Ps (KR id p) (dF L n id p s):=by
 unfold dF;exact Ps.bind fun _ _=>Ps.ite (Ps.bind fun _ _=>Ps.bind fun _ _=>Ps.ok ⟨rfl,rfl,rfl,rfl⟩) (Ps.ite (Ps.bind fun _ _=>Ps.bind fun _ _=>Ps.bind fun _ _=>Ps.bind fun _ _=>Ps.ok ⟨rfl,rfl,rfl,rfl⟩) (Ps.bind fun _ _=>Ps.bind fun _ _=>Ps.bind fun _ _=>Ps.ok ⟨rfl,rfl,rfl,rfl⟩))
theorem KT:Kn s (jI L n id p s):=by
 have W:=oz L;unfold jI;exact(lU L _ s).bind fun _ s2=>(W _ s2).bind fun _ s3=>(Bj L _ s3).bind fun _ s4=>Kn.ite ((W _ s4).bind fun _ s5=>(lU L _ s5).bind fun _ s6=>(W _ s6).bind fun _ s7=>(W _ s7).bind fun _ _=>Kn.ok _ _) ((Ab L _ s4).bind fun _ s5=>Kn.ite ((qz L n 1 s5).bind fun _ s6=>(W _ s6).bind fun _ _=>Kn.ok _ _) ((W _ s5).bind fun _ _=>Kn.ok _ _))
theorem Fr:Kn s (dF L n id p s):=by
 have W:=oz L;obtain⟨_,h2,h3,_⟩:=wq L n;unfold dF;exact(lU L _ s).bind fun _ s2=>Kn.ite ((h3 _ _ s2).bind fun _ s3=>(W _ s3).bind fun _ _=>Kn.ok _ _) (Kn.ite ((h2 s2).bind fun _ s3=>(W _ s3).bind fun _ s4=>(qz L n 1 s4).bind fun _ s5=>(W _ s5).bind fun _ _=>Kn.ok _ _) ((W _ s2).bind fun _ s3=>(qz L n 1 s3).bind fun _ s4=>(W _ s4).bind fun _ _=>Kn.ok _ _))
end
end Go.Avm
namespace Go.Avm
open Go.Proofs
theorem Ps.bindQ{α β:Type}{Q:α→Prop}{R:β→Prop}{r:Res α}{f:α→RS→Res β}(h:Ps Q r)(hf:∀a s',Q a→Ps R (f a s')):Ps R (r.bind f):=fun b s2 e=>by
 cases r with
 |ok a s1=>exact hf a s1 (h a s1 rfl) b s2 e
 |bad p q s1=>cases e
 |out=>cases e
theorem Ps.out{α:Type}{Q:α→Prop}:Ps Q (Res.out:Res α):=fun _ _ e=>by cases e
theorem Ps.imp{α:Type}{Q R:α→Prop}{r:Res α}(h:Ps Q r)(hq:∀a,Q a→R a):Ps R r:=fun a s' e=>hq a (h a s' e)
theorem yo:∀l m:List Ex,eY (l ++m)=(eY l&&eY m)
 |[],m=>by simp[eY]
 |x::l,m=>by simp only[List.cons_append,eY,yo l m,Bool.and_assoc]
theorem uD:∀l m:List bt,dW (l ++m)=(dW l&&dW m)
 |[],m=>by simp[dW]
 |x::l,m=>by simp only[List.cons_append,dW,uD l m,Bool.and_assoc]
abbrev wE(a:Ex):Prop:=H8 a=true
abbrev NW(a:List Ex):Prop:=eY a=true
abbrev gS(a:bt):Prop:=iS a=true
abbrev gL(a:List bt):Prop:=dW a=true
section
variable(L:List T)
theorem Fs:∀n,(∀s,Ps wE (gA L n s))∧(∀s,Ps wE (dQ L n s))∧(∀nm p s,Ps wE (gh L n nm p s))∧(∀s,Ps NW (gN L n s))∧(∀l s,NW l→Ps NW (fE L n l s))∧(∀k s,Ps wE (bw L n k s))∧(∀k e s,wE e→Ps wE (d9 L n k e s))
 |0=>⟨fun _=>Ps.out,fun _=>Ps.out,fun _ _ _=>Ps.out,fun _=>Ps.out,fun _ _ _=>Ps.out,fun _ _=>Ps.out,fun _ _ _ _=>Ps.out⟩
 |n+1=>by
  obtain⟨h1,h2,h3,h4,h5,h6,h7⟩:=Fs n;refine⟨fun s=> ?_,fun s=> ?_,fun nm p s=> ?_,fun s=> ?_,fun l s hl=> ?_,fun k s=> ?_,fun k e s he=> ?_⟩
  ·simp only[gA]
   have un:∀(o p:Int) s',Ps wE ((gA L n s').bind fun e s2=> .ok (.mk 8 o [] 0 p [e]) s2):=fun o p s'=>(h1 s').bindQ fun a _ ha=>Ps.ok (by simp[wE,H8,eY,ha])
   refine Ps.bind fun _ s1=>Ps.ite (un _ _ s1) (Ps.bind fun _ s1=>Ps.ite (un _ _ s1) (Ps.bind fun _ s1=>Ps.ite (un _ _ s1) (Ps.ite (Ps.ok rfl) ?_)))
   refine Ps.bind fun _ s1=>Ps.ite (Ps.ok rfl) (Ps.bind fun _ s1=>Ps.ite (Ps.ok rfl) ?_)
   refine Ps.bind fun _ s1=>Ps.ite (Ps.bind fun _ s2=>Ps.bind fun _ _=>Ps.ok rfl) ?_
   refine Ps.bind fun _ s1=>Ps.ite (Ps.bind fun _ s2=>Ps.bind fun _ s3=>Ps.bind fun _ _=>Ps.ok rfl) ?_
   refine Ps.ite (Ps.bind fun _ s2=>(h6 _ s2).bindQ fun a s3 ha=>Ps.bind fun _ _=>Ps.ok ha) ?_;exact Ps.bind fun _ s2=>Ps.ite ((h2 s2).bindQ fun a _ ha=>Ps.ok (by simp[wE,H8,eY,ha])) (Ps.ite ((h3 _ _ s2).bindQ fun a _ ha=>Ps.ok ha) (Ps.ok rfl))
  ·simp only[dQ]
   exact Ps.bind fun _ s2=>(h6 _ s2).bindQ fun a s3 ha=>Ps.bind fun _ _=>Ps.ok ha
  ·simp only[gh]
   exact(h4 s).bindQ fun a _ ha=>Ps.ok (by simp[wE,H8,ha])
  ·simp only[gN]
   exact Ps.bind fun _ s1=>Ps.ite (Ps.bind fun _ _=>Ps.ok rfl) ((h6 _ s1).bindQ fun a s2 ha=>(h5 _ s2 (by simp[NW,eY,ha])).bindQ fun l s3 hl=>Ps.bind fun _ _=>Ps.ok hl)
  ·simp only[fE]
   exact Ps.bind fun _ s1=>Ps.ite ((h6 _ s1).bindQ fun a s2 ha=>h5 _ s2 (by rw[NW,yo,hl];simp[eY,ha])) (Ps.ok hl)
  ·simp only[bw]
   exact(h1 s).bindQ fun a s1 ha=>h7 _ _ s1 ha
  ·simp only[d9]
   exact Ps.ite (Ps.ok he) ((h6 _ s.nx).bindQ fun a s2 ha=>h7 _ _ s2 (by simp[wE,H8,eY,he,ha]))
theorem qA(n:Nat)(k:Int)(s:RS):Ps wE (bw L n k s):=(Fs L n).2.2.2.2.2.1 k s
def IK:Prop:=∀s:RS,(bA L s).t.length≤20000
variable{L}(hs:IK L)
include hs
theorem qC(k:Int)(s:RS):Ps (fun t:T=>t.t.length≤20000) (dT L k s):=fun a s' e=>by
 unfold dT at e;cases h:((bA L s).k==k)<;>rw[h]at e<;>cases e
 exact hs s
omit hs in
theorem ws:∀(l:List Int)(s:RS),Ps (fun t:Int=>t∈l) (eB L l s)
 |[],s=>fun _ _ e=>by cases e
 |k::r,s=>by
  simp only[eB];exact Ps.bind fun b s'=>Ps.ite (Ps.ok (List.mem_cons_self ..)) ((ws r s').imp fun _ h=>List.mem_cons_of_mem _ h)
theorem KU(n:Nat)(id p:Int)(s:RS):Ps gS (jI L n id p s):=by
 unfold jI;refine(qC hs 1 s).bindQ fun t s2 ht=>Ps.bind fun _ s3=>Ps.bind fun _ s4=>Ps.ite ?_ ?_
 ·exact Ps.bind fun _ s5=>Ps.bind fun _ s6=>Ps.bind fun _ s7=>Ps.bind fun _ _=>Ps.ok (by simp[gS,iS,eY,dH,dW];omega)
 ·exact Ps.bind fun _ s5=>Ps.ite ((qA L n 1 s5).bindQ fun a s6 ha=>Ps.bind fun _ _=>Ps.ok (by simp[gS,iS,eY,dH,dW,ha];omega)) (Ps.bind fun _ _=>Ps.ok (by simp[gS,iS,eY,dH,dW];omega))
theorem Ft(n:Nat)(id p:Int)(s:RS):Ps gS (dF L n id p s):=by
 obtain⟨_,h2,h3,_⟩:=Fs L n;unfold dF;refine(qC hs 1 s).bindQ fun t s2 ht=>Ps.ite ?_ (Ps.ite ?_ ?_)
 ·exact(h3 _ _ s2).bindQ fun a s3 ha=>Ps.bind fun _ _=>Ps.ok (by simp[gS,iS,eY,dH,dW,ha])
 ·exact(h2 s2).bindQ fun a s3 ha=>Ps.bind fun _ s4=>(qA L n 1 s4).bindQ fun b s5 hb=>Ps.bind fun _ _=>Ps.ok (by simp[gS,iS,eY,dH,dW,ha,hb];omega)
 ·exact Ps.bind fun _ s3=>(qA L n 1 s3).bindQ fun a s4 ha=>Ps.bind fun _ _=>Ps.ok (by simp[gS,iS,eY,dH,dW,ha];omega)
theorem Bk:∀n,(∀s,Ps gL (b9 L n s))∧(∀l s,gL l→Ps gL (bT L n l s))∧(∀s,Ps gS (dU L n s))
 |0=>⟨fun _=>Ps.out,fun _ _ _=>Ps.out,fun _=>Ps.out⟩
 |n+1=>by
  obtain⟨h1,h2,h3⟩:=Bk n;refine⟨fun s=> ?_,fun l s hl=> ?_,fun s=> ?_⟩
  ·simp only[b9]
   exact Ps.bind fun _ s1=>(h2 _ s1 rfl).bindQ fun a s2 ha=>Ps.bind fun _ _=>Ps.ok ha
  ·simp only[bT]
   exact Ps.ite (Ps.ok hl) ((h3 s).bindQ fun a s1 ha=>h2 _ s1 (by rw[gL,uD,hl];simp[dW,ha]))
  ·simp only[dU]
   have X:=qA L n 1;refine Ps.bind fun _ s'=>Ps.ite ((KU hs n _ _ s').bindQ fun a _ ha=>Ps.ok ha) (Ps.bind fun _ s'=>Ps.ite ?_ (Ps.bind fun _ s'=>Ps.ite ?_ (Ps.bind fun _ s'=>Ps.ite ?_ (Ps.bind fun _ s'=>Ps.ite ?_ ?_))))
   ·exact(X s').bindQ fun a s2 ha=>(h1 s2).bindQ fun b s3 hb=>Ps.bind fun _ s4=>Ps.ite ((h1 s4).bindQ fun c _ hc=>Ps.ok (by simp[gS,iS,eY,dH,ha,hb,hc])) (Ps.ok (by simp[gS,iS,eY,dH,ha,hb,dW]))
   ·exact(X s').bindQ fun a s2 ha=>(h1 s2).bindQ fun b s3 hb=>Ps.ok (by simp[gS,iS,eY,dH,ha,hb,dW])
   ·exact Ps.ite (Ps.bind fun _ _=>Ps.ok rfl) ((X s').bindQ fun a s2 ha=>Ps.bind fun _ _=>Ps.ok (by simp[gS,iS,eY,dH,ha,dW]))
   ·exact(X s').bindQ fun a s2 ha=>Ps.bind fun _ _=>Ps.ok (by simp[gS,iS,eY,dH,ha,dW])
   ·exact(Ft hs n _ _ _).bindQ fun a _ ha=>Ps.ok ha
def sY(p:Pm):Prop:=p.nm.length≤20000∧p.ty∈[1,2,3]
structure pj(f:Fn):Prop where
 bd:dW f.bd=true
 ps:∀p∈f.ps,sY p
 res:f.res∈[0,1,2]
 nm:f.nm.length≤20000
theorem yp(s:RS):Ps sY (gB L s):=(qC hs 1 s).bindQ fun _ _ ht=>Ps.bind fun _ _=>(ws _ _).bindQ fun _ _ hk=>Ps.ok ⟨ht,hk⟩
theorem yq:∀(n:Nat)(l:List Pm)(s:RS),(∀p∈l,sY p)→Ps (fun l=>∀p∈l,sY p) (dG L n l s)
 |0,_,_,_=>Ps.out
 |n+1,l,s,hl=>by
  simp only[dG]
  exact Ps.bind fun _ s'=>Ps.ite ((yp hs s').bindQ fun a s2 ha=>yq n _ s2 fun p hp=>by
   rcases List.mem_append.1 hp with hp|hp
   ·exact hl p hp
   ·rw[List.mem_singleton.1 hp];exact ha) (Ps.ok hl)
theorem Cq(n:Nat)(s:RS):Ps (fun l=>∀p∈l,sY p) (dV L n s):=by
 unfold dV;exact Ps.bind fun _ s3=>Ps.ite (Ps.bind fun _ _=>Ps.ok fun _ h=>by cases h) ((yp hs s3).bindQ fun a s4 ha=>(yq hs n _ s4 fun p hp=>by rw[List.mem_singleton.1 hp];exact ha).bindQ fun l s5 hl=>Ps.bind fun _ _=>Ps.ok hl)
theorem IL(n:Nat)(s:RS):Ps pj (wB L n s):=by
 have B:=(Bk hs n).1;unfold wB;refine Ps.bind fun _ s1=>(qC hs 1 s1).bindQ fun u s2 hu=>(Cq hs n s2).bindQ fun ps s3 hps=>Ps.bind fun _ s4=>Ps.ite ?_ ?_
 ·exact(ws _ s4).bindQ fun k s5 hk=>(B s5).bindQ fun l _ hl=>Ps.ok ⟨hl,hps,List.mem_cons_of_mem _ hk,hu⟩
 ·exact(B s4).bindQ fun l _ hl=>Ps.ok ⟨hl,hps,List.mem_cons_self ..,hu⟩
theorem Fu(N:Nat):∀(n:Nat)(l:List Fn)(s:RS),(∀f∈l,pj f)→Ps (fun l=>∀f∈l,pj f) (jJ L N n l s)
 |0,_,_,_=>Ps.out
 |n+1,l,s,hl=>by
  simp only[jJ]
  exact Ps.ite (Ps.ok hl) ((IL hs N s).bindQ fun a s1 ha=>Fu N n _ s1 fun f hf=>by
   rcases List.mem_append.1 hf with hf|hf
   ·exact hl f hf
   ·rw[List.mem_singleton.1 hf];exact ha)
theorem HJ(n:Nat):Ps (fun l=>∀f∈l,pj f) (fX L n):=by
 unfold fX;exact(IL hs n ⟨0,0,0⟩).bindQ fun a s1 ha=>Fu hs n n _ s1 fun f hf=>by rw[List.mem_singleton.1 hf];exact ha
end
end Go.Avm
namespace Go.Avm
open Go.Proofs
theorem bh{α β:Type}{r:Res α}{f:α→RS→Res β}{b:β}{s2:RS}(h:r.bind f= .ok b s2):∃a s1,r= .ok a s1∧f a s1= .ok b s2:=by
 cases r with
 |ok a s1=>exact⟨a,s1,rfl,h⟩
 |bad p q s1=>cases h
 |out=>cases h
def kr(s:RS):Int:=fJ (s.n+1)
def uE(L:List T)(s:RS)(a:Int):Prop:=a<(bA L s).p
structure On(L:List T)(s s':RS):Prop where
 lt:s.i<s'.i
 len:s'.i<L.length
 n:s'.n=s.n
section
variable{L:List T}(hL:dm L)(hI:QA L)
include hL
theorem eQ{x:List UInt8}{s s':RS}{t:T}(l:s.i<L.length)(h:aG L x s= .ok t s'):On L s s':=⟨((jp hL x s l).2 t s' h).1,((jp hL x s l).2 t s' h).2,oz L x s t s' h⟩
theorem Bl{k:Int}(hk:k≠0){s s':RS}{t:T}(l:s.i<L.length)(h:dT L k s= .ok t s'):On L s s':=⟨((kh hL k hk s l).2 t s' h).1,((kh hL k hk s l).2 t s' h).2,lU L k s t s' h⟩
theorem qD{n:Nat}{k:Int}{s s':RS}{e:Ex}(l:s.i<L.length)(h:bw L n k s= .ok e s'):On L s s':=by
 have c:=(lF hL n).expr k s l;rw[h]at c;exact⟨jg L n k s e s' h,c.1,qz L n k s e s' h⟩
theorem kj{α:Type}{x:List UInt8}{s s':RS}(l:s.i<L.length){X Y:RS→Res α}{a:α}(h:((b8 L x s).bind fun b s1=>bif b then X s1 else Y s1)= .ok a s'):(∃s1,On L s s1∧X s1= .ok a s')∨Y s= .ok a s':=by
 unfold b8 at h;cases hi:br L s x<;>rw[hi]at h
 ·exact .inr h
 ·simp only[cond_true]at h
  cases hw:aG L x s<;>rw[hw]at h
  ·exact .inl ⟨_,eQ hL l hw,h⟩
  ·cases h
  ·cases h
theorem KV{n:Nat}{id p:Int}{s s':RS}{x:bt}(l:s.i<L.length)(h:jI L n id p s= .ok x s'):On L s s':=by
 have c:=Nv hL n id p s l;rw[h]at c;exact⟨Dl L n id p s x s' h,c.1,KT L n id p s x s' h⟩
theorem Fv{n:Nat}{id p:Int}{s s':RS}{x:bt}(l:s.i<L.length)(h:dF L n id p s= .ok x s'):On L s s':=by
 have c:=EM hL n id p s l;rw[h]at c;exact⟨xJ L n id p s x s' h,c.1,Fr L n id p s x s' h⟩
theorem pk{n:Nat}{s s':RS}{b:List bt}(l:s.i<L.length)(h:b9 L n s= .ok b s'):s.i<s'.i∧s'.i<L.length:=by
 have c:=(yd hL n).block s l;rw[h]at c;exact⟨(lT L n).1 s b s' h,c.1⟩
theorem Fw{n:Nat}{s s':RS}{x:bt}(l:s.i<L.length)(h:dU L n s= .ok x s'):s.i<s'.i∧s'.i<L.length:=by
 have c:=(yd hL n).stmt s l;rw[h]at c;exact⟨(lT L n).2.2 s x s' h,c.1⟩
omit hL
include hI
theorem qF{s s':RS}{a:Int}(hle:s.i≤s'.i)(hlt:s'.i<L.length)(h:uE L s a):uE L s' a:=by
 rcases Nat.lt_or_ge s.i s'.i with h1|h1
 ·exact Int.lt_trans h (hI _ _ h1 hlt)
 ·have:s.i=s'.i:=by omega
  unfold uE bA at h ⊢;rw[←this];exact h
theorem Fx{s s':RS}(hlt:s.i<s'.i)(hlen:s'.i<L.length):uE L s' (bA L s).p:=hI _ _ hlt hlen
include hL
theorem oA{s0 s':RS}{k id:Int}{nm:List UInt8}{ty v p:Int}{es:List Ex}{bd el:List bt}{a:Int}(hid:id=kr s0)(hp:p=(bA L s0).p)(ha:uE L s0 a)(lb:bd.length<1000000)(le:el.length<1000000){n1 a1 n2 a2:Int}(hb:gd bd (fJ (kr s0+1)) (bA L s0).p n1 a1)(he:gd el n1 a1 n2 a2)(hn:n2=kr s'):
    ∀r n3 a3,gd r (kr s') a2 n3 a3→gd (.mk k id nm ty v p es bd el::r) (kr s0) a n3 a3:=fun r n3 a3 hr=>by
 subst hid hp hn;exact gd.cons ha lb le hb he hr
theorem Bn:∀n,(∀(s s':RS)(l:List bt),s.i<L.length→b9 L n s= .ok l s'→l.length<1000000∧∀a,uE L s a→∃a',gd l (kr s) a (kr s') a'∧uE L s' a')∧
    (∀(r:List bt)(s s':RS)(l:List bt),s.i<L.length→r.length≤s.i→bT L n r s= .ok l s'→(l.length≤s'.i∧s'.i<L.length)∧∃l2,l=r ++l2∧∀a,uE L s a→∃a',gd l2 (kr s) a (kr s') a'∧uE L s' a')∧
    (∀(s s':RS)(x:bt),s.i<L.length→dU L n s= .ok x s'→∀a,uE L s a→∃a1,(∀r n3 a3,gd r (kr s') a1 n3 a3→gd (x::r) (kr s) a n3 a3)∧uE L s' a1)
 |0=>⟨fun _ _ _ _ h=>by simp[b9]at h,fun _ _ _ _ _ _ h=>by simp[bT]at h,fun _ _ _ _ h=>by simp[dU]at h⟩
 |n+1=>by
  obtain⟨ihB,ihS,ihT⟩:=Bn n;refine⟨fun s s' l hl h=> ?_,fun r s s' l hl hr h=> ?_,fun s0 s' x hl h a ha=> ?_⟩
  ·simp only[b9]at h
   obtain⟨t,s1,h1,h⟩:=bh h;obtain⟨l1,s2,h2,h⟩:=bh h;obtain⟨t3,s3,h3,h⟩:=bh h;cases h;have o1:=eQ hL hl h1;obtain⟨⟨g1,g2⟩,l2,rfl,g3⟩:=ihS [] s1 s2 _ o1.len (Nat.zero_le _) h2;have o3:=eQ hL g2 h3;refine⟨by have:=hL.len;omega,fun a ha=> ?_⟩;obtain⟨a',g4,g5⟩:=g3 a (qF hI (Nat.le_of_lt o1.lt) o1.len ha);refine⟨a', ?_,qF hI (Nat.le_of_lt o3.lt) o3.len g5⟩;have e1:kr s1=kr s:=by simp only[kr,o1.n]
   have e2:kr s'=kr s2:=by simp only[kr,o3.n]
   rw[e2,←e1];exact g4
  ·simp only[bT]at h
   cases hi:br L s [125]<;>rw[hi]at h
   ·simp only[cond_false]at h
    obtain⟨x,s1,h1,h⟩:=bh h;have g1:=Fw hL hl h1;obtain⟨g2,l2,rfl,g3⟩:=ihS (r ++[x]) s1 s' l g1.2 (by simp only[List.length_append,List.length_singleton];omega) h;refine⟨g2,x::l2,by simp,fun a ha=> ?_⟩;obtain⟨a1,g4,g5⟩:=ihT s s1 x hl h1 a ha;obtain⟨a2,g6,g7⟩:=g3 a1 g5;exact⟨a2,g4 _ _ _ g6,g7⟩
   ·cases h
    exact⟨⟨hr,hl⟩,[],by simp,fun a ha=>⟨a, .nil _ _,ha⟩⟩
  ·simp only[dU]at h
   have l0:s0.st.i<L.length:=hl;have hc:bA L s0.st=bA L s0:=rfl;have hz:([]:List bt).length<1000000:=by decide
   have leaf:∀{k:Int}{nm:List UInt8}{ty v:Int}{es:List Ex}{s':RS},On L s0.st s'→∃a1,(∀r n3 a3,gd r (kr s') a1 n3 a3→gd (.mk k s0.st.n nm ty v (bA L s0.st).p es [] []::r) (kr s0) a n3 a3)∧uE L s' a1:=fun {k nm ty v es s'} o=>
    ⟨_,oA hL hI (s0:=s0) rfl rfl ha hz hz (.nil _ _) (.nil _ _) (by simp only[kr,o.n];rfl),Fx hI o.lt o.len⟩
   have isl:∀{x:bt}{s':RS},KR s0.st.n (bA L s0.st).p x→On L s0.st s'→∃a1,(∀r n3 a3,gd r (kr s') a1 n3 a3→gd (x::r) (kr s0) a n3 a3)∧uE L s' a1:=fun {x s'} hx o=>by
    obtain⟨k,id,nm,ty,v,p,es,bd,el⟩:=x;obtain⟨rfl,rfl,rfl,rfl⟩:=hx;exact leaf o
   have tr:∀{s1 s2:RS},On L s0.st s1→On L s1 s2→On L s0.st s2:=fun o1 o2=>⟨Nat.lt_trans o1.lt o2.lt,o2.len,o2.n.trans o1.n⟩
   have blk:∀{s2 s3:RS}{b:List bt},On L s0.st s2→b9 L n s2= .ok b s3→b.length<1000000∧s2.i<s3.i∧s3.i<L.length∧∃a1,gd b (fJ (kr s0+1)) (bA L s0).p (kr s3) a1∧uE L s3 a1:=fun {s2 s3 b} o hb=>by
    obtain⟨g1,g2⟩:=ihB s2 s3 b o.len hb;have g3:=pk hL o.len hb;obtain⟨a1,g4,g5⟩:=g2 _ (Fx hI (s:=s0) o.lt o.len)
    have e:kr s2=fJ (kr s0+1):=by
     have:kr s2=fJ (s2.n+1):=rfl;rw[this,o.n];rfl
    rw[e]at g4;exact⟨g1,g3.1,g3.2,a1,g4,g5⟩
   rcases kj hL l0 h with ⟨s1,o1,h⟩|h
   ·obtain⟨x1,s2,h2,h⟩:=bh h
    cases h;exact isl (KS L n _ _ s1 x s' h2) (tr o1 (KV hL o1.len h2))
   rcases kj hL l0 h with ⟨s1,o1,h⟩|h
   ·obtain⟨e,s2,h2,h⟩:=bh h
    obtain⟨b,s3,h3,h⟩:=bh h;have o2:=tr o1 (qD hL o1.len h2);obtain⟨lb,p1,p2,a1,g1,g2⟩:=blk o2 h3;rcases kj hL p2 h with ⟨s4,o4,h⟩|h
    ·obtain⟨m,s5,h5,h⟩:=bh h
     cases h;obtain⟨lm,g3⟩:=ihB s4 s' m o4.len h5;have g4:=pk hL o4.len h5;obtain⟨a2,g5,g6⟩:=g3 a1 (qF hI (Nat.le_of_lt o4.lt) o4.len g2);have e4:kr s4=kr s3:=by simp only[kr,o4.n]
     rw[e4]at g5;exact⟨a2,oA hL hI (s0:=s0) rfl rfl ha lb lm g1 g5 rfl,g6⟩
    ·cases h
     exact⟨a1,oA hL hI (s0:=s0) rfl rfl ha lb hz g1 (.nil _ _) rfl,g2⟩
   rcases kj hL l0 h with ⟨s1,o1,h⟩|h
   ·obtain⟨e,s2,h2,h⟩:=bh h
    obtain⟨b,s3,h3,h⟩:=bh h;cases h;obtain⟨lb,p1,p2,a1,g1,g2⟩:=blk (tr o1 (qD hL o1.len h2)) h3;exact⟨a1,oA hL hI (s0:=s0) rfl rfl ha lb hz g1 (.nil _ _) rfl,g2⟩
   rcases kj hL l0 h with ⟨s1,o1,h⟩|h
   ·cases hi:br L s1 [59]<;>rw[hi]at h
    ·obtain⟨e,s2,h2,h⟩:=bh h
     obtain⟨t,s3,h3,h⟩:=bh h;cases h;have o2:=tr o1 (qD hL o1.len h2);exact leaf (tr o2 (eQ hL o2.len h3))
    ·obtain⟨t,s2,h2,h⟩:=bh h
     cases h;exact leaf (tr o1 (eQ hL o1.len h2))
   rcases kj hL l0 h with ⟨s1,o1,h⟩|h
   ·obtain⟨e,s2,h2,h⟩:=bh h
    obtain⟨t,s3,h3,h⟩:=bh h;cases h;have o2:=tr o1 (qD hL o1.len h2);exact leaf (tr o2 (eQ hL o2.len h3))
   ·obtain⟨x1,s2,h2,h⟩:=bh h
    cases h;exact isl (Fq L n _ _ s0.st x s' h2) (Fv hL l0 h2)
end
end Go.Avm
namespace Go.Avm
open Go.Proofs
def Cr:Nat→List (Nat×kq)→Nat→Prop
 |lo,[],hi=>lo≤hi
 |lo,x::r,hi=>lo≤x.1∧Cr (x.1+1) r hi
theorem uF:∀{ts:List (Nat×kq)}{lo lo' hi:Nat},lo≤lo'→Cr lo' ts hi→Cr lo ts hi
 |[],_,_,_,h,h1=>Nat.le_trans h h1
 |_::_,_,_,_,h,h1=>⟨Nat.le_trans h h1.1,h1.2⟩
theorem sZ:∀(n:Nat)(r:List UInt8)(a:Nat)(ts:List (Nat×kq)),cZ n r a= .ok ts→Cr a ts (a+r.length)
 |0,r,a,ts,h=>by
  simp only[cZ,Except.ok.injEq]at h;subst h;exact Nat.le_add_right _ _
 |n+1,[],a,ts,h=>by
  simp only[cZ,Except.ok.injEq]at h;subst h;exact Nat.le_add_right _ _
 |n+1,b::r,a,ts,h=>by
  rw[iQ]at h;split at h
  ·cases h
  rename_i t ht;split at h
  ·cases h
  rename_i ts' hts;cases h;obtain⟨kd,tx,k⟩:=t;obtain⟨hp,hne⟩:=sU ht;have h1:0<tx.length:=List.length_pos_iff.2 hne;have h2:tx.length≤(b::r).length:=hp.length_le;have ih:=sZ n _ _ _ hts;have h3:=jO false ((b::r).drop tx.length);simp only[List.length_drop]at ih h3;refine⟨Nat.le_refl _, ?_⟩;have e:a+tx.length+bN false (List.drop tx.length (b::r))+((b::r).length-tx.length-bN false (List.drop tx.length (b::r)))=a+(b::r).length:=by omega
  rw[e]at ih;exact uF (show a+1≤a+tx.length+bN false (List.drop tx.length (b::r)) by omega) ih
theorem Ad{s:List UInt8}{ts:List (Nat×kq)}(h:ji s= .ok ts):Cr 0 ts s.length:=by
 have h1:=sZ _ _ _ _ h;have h2:=jO false s;rw[List.length_drop,Nat.add_sub_cancel' h2]at h1;exact uF (Nat.zero_le _) h1
theorem yr(n:Nat):∀{ts:List (Nat×kq)}{lo:Nat},Cr lo ts n→(∀i,i<(bk ts n).length→(lo:Int)≤((bk ts n).getD i default).p)∧QA (bk ts n)
 |[],lo,h=>by
  have h':lo≤n:=h;refine⟨fun i hi=> ?_,fun i j hij hj=> ?_⟩
  ·have:i=0:=by simp[bk]at hi;exact hi
   subst this;show(lo:Int)≤(n:Int);omega
  ·simp[bk]at hj;omega
 |x::r,lo,⟨h1,h2⟩=>by
  obtain⟨g1,g2⟩:=yr n h2;have hc:bk (x::r) n=NV x::bk r n:=rfl;refine⟨fun i hi=> ?_,fun i j hij hj=> ?_⟩
  ·rw[hc]at hi ⊢
   cases i with
   |zero=>show(lo:Int)≤(x.1:Int);omega
   |succ i=>
    have:=g1 i (by simpa using hi);rw[List.getD_cons_succ];omega
  ·rw[hc]at hj ⊢
   cases j with
   |zero=>omega
   |succ j=>
    have hj':j<(bk r n).length:=by simpa using hj
    rw[List.getD_cons_succ];cases i with
    |zero=>
     have:=g1 j hj';show(x.1:Int)<_;omega
    |succ i=>
     rw[List.getD_cons_succ];exact g2 i j (by omega) hj'
section
variable{L:List T}(hL:dm L)(hI:QA L)
include hL
theorem jQ{s1 s2 s3:RS}(a:On L s1 s2)(b:On L s2 s3):On L s1 s3:=⟨Nat.lt_trans a.lt b.lt,b.len,b.n.trans a.n⟩
theorem wt:∀{k:List Int}{s s':RS}{t:Int},s.i<L.length→eB L k s= .ok t s'→On L s s'
 |[],_,_,_,_,h=>by cases h
 |k::r,s,s',t,l,h=>by
  simp only[eB]at h;rcases kj hL l h with ⟨s1,o,h⟩|h
  ·cases h;exact o
  ·exact wt l h
theorem yu{s s':RS}{x:Pm}(l:s.i<L.length)(h:gB L s= .ok x s'):On L s s':=by
 unfold gB at h;obtain⟨t,s1,h1,h⟩:=bh h;obtain⟨u,s2,h2,h⟩:=bh h;obtain⟨k,s3,h3,h⟩:=bh h;cases h;have o1:=Bl hL (by decide) l h1;have o2:=eQ hL o1.len h2;exact jQ hL (jQ hL o1 o2) (wt hL o2.len h3)
theorem yv:∀{n:Nat}{r:List Pm}{s s':RS}{l2:List Pm},s.i<L.length→dG L n r s= .ok l2 s'→s'=s∨On L s s'
 |0,_,_,_,_,_,h=>by simp[dG]at h
 |n+1,r,s,s',l2,l,h=>by
  simp only[dG]at h;rcases kj hL l h with ⟨s1,o,h⟩|h
  ·obtain⟨x,s2,h2,h⟩:=bh h
   have o2:=jQ hL o (yu hL o.len h2);rcases yv o2.len h with rfl|o3
   ·exact .inr o2
   ·exact .inr (jQ hL o2 o3)
  ·cases h;exact .inl rfl
theorem Cs{n:Nat}{s s':RS}{l2:List Pm}(l:s.i<L.length)(h:dV L n s= .ok l2 s'):On L s s':=by
 unfold dV at h;obtain⟨t,s1,h1,h⟩:=bh h;have o1:=eQ hL l h1;cases hi:br L s1 [41]<;>rw[hi]at h
 ·obtain⟨x,s2,h2,h⟩:=bh h
  obtain⟨y,s3,h3,h⟩:=bh h;obtain⟨z,s4,h4,h⟩:=bh h;cases h;have o2:=jQ hL o1 (yu hL o1.len h2);rcases yv hL o2.len h3 with rfl|o3
  ·exact jQ hL o2 (eQ hL o2.len h4)
  ·exact jQ hL (jQ hL o2 o3) (eQ hL o3.len h4)
 ·obtain⟨x,s2,h2,h⟩:=bh h
  cases h;exact jQ hL o1 (eQ hL o1.len h2)
include hI
theorem Fy{n:Nat}{s s':RS}{f:Fn}(l:s.i<L.length)(h:wB L n s= .ok f s'):(s.i<s'.i∧s'.i<L.length)∧f.bd.length<1000000∧∀a,uE L s a→∃a',gd f.bd (kr s) a (kr s') a'∧uE L s' a':=by
 unfold wB at h;obtain⟨t,s1,h1,h⟩:=bh h;obtain⟨u,s2,h2,h⟩:=bh h;obtain⟨ps,s3,h3,h⟩:=bh h;have o1:=eQ hL l h1;have o2:=jQ hL o1 (Bl hL (by decide) o1.len h2);have o3:=jQ hL o2 (Cs hL o2.len h3)
 have fin:∀{s4:RS}{b:List bt},On L s s4→b9 L n s4= .ok b s'→(s.i<s'.i∧s'.i<L.length)∧b.length<1000000∧∀a,uE L s a→∃a',gd b (kr s) a (kr s') a'∧uE L s' a':=fun {s4 b} o hb=>by
  have g1:=pk hL o.len hb;obtain⟨g2,g3⟩:=(Bn hL hI n).1 s4 s' b o.len hb;refine⟨⟨Nat.lt_trans o.lt g1.1,g1.2⟩,g2,fun a ha=> ?_⟩;obtain⟨a',g4,g5⟩:=g3 a (qF hI (Nat.le_of_lt o.lt) o.len ha);have e:kr s4=kr s:=by simp only[kr,o.n]
  rw[e]at g4;exact⟨a',g4,g5⟩
 rcases kj hL o3.len h with ⟨s4,o4,h⟩|h
 ·obtain⟨k,s5,h5,h⟩:=bh h
  obtain⟨b,s6,h6,h⟩:=bh h;cases h;exact fin (jQ hL (jQ hL o3 o4) (wt hL o4.len h5)) h6
 ·obtain⟨b,s6,h6,h⟩:=bh h
  cases h;exact fin o3 h6
theorem Bo(N:Nat):∀(n:Nat)(r:List Fn)(s s':RS)(l:List Fn),s.i<L.length→r.length≤s.i→jJ L N n r s= .ok l s'→l.length<1000000∧∃l2,l=r ++l2∧∀a,uE L s a→wn l2 (kr s) a
 |0,_,_,_,_,_,_,h=>by simp[jJ]at h
 |n+1,r,s,s',l,hl,hr,h=>by
  simp only[jJ]at h;cases hk:((bA L s).k==0)<;>rw[hk]at h
  ·simp only[cond_false]at h
   obtain⟨f,s1,h1,h⟩:=bh h;obtain⟨g1,g2,g3⟩:=Fy hL hI hl h1;obtain⟨g4,l2,rfl,g5⟩:=Bo N n (r ++[f]) s1 s' l g1.2 (by simp only[List.length_append,List.length_singleton];omega) h;refine⟨g4,f::l2,by simp,fun a ha=> ?_⟩;obtain⟨a',g6,g7⟩:=g3 a ha;exact wn.cons g2 g6 (g5 a' g7)
  ·cases h
   exact⟨by have:=hL.len;omega,[],by simp,fun a _=> .nil _ _⟩
theorem Fz{n:Nat}{l:List Fn}{s':RS}(h0:0<L.length)(hp:0≤(bA L ⟨0,0,0⟩).p)(h:fX L n= .ok l s'):l.length<1000000∧wn l 1 (-1):=by
 unfold fX at h;obtain⟨f,s1,h1,h⟩:=bh h;obtain⟨g1,g2,g3⟩:=Fy hL hI (s:=⟨0,0,0⟩) h0 h1;obtain⟨g4,l2,rfl,g5⟩:=Bo hL hI n n [f] s1 s' l g1.2 (by have:=g1.1;simp only[List.length_singleton];omega) h;obtain⟨a',g6,g7⟩:=g3 (-1) (by unfold uE;omega);exact⟨g4,wn.cons g2 g6 (g5 a' g7)⟩
end
end Go.Avm
namespace Go.Avm
open Go.Proofs
def Post{α:Type}(Q:α→RS→Prop)(r:Res α):Prop:=∀a s',r= .ok a s'→Q a s'
section
variable{α β:Type}{Q Q':α→RS→Prop}{R:β→RS→Prop}{r:Res α}{f:α→RS→Res β}{s:RS}
theorem Post.bind(h:Post Q r)(hf:∀a s',Q a s'→Post R (f a s')):Post R (r.bind f):=fun b s2 e=>by
 cases r with
 |ok a s1=>exact hf a s1 (h a s1 rfl) b s2 e
 |bad p q s1=>cases e
 |out=>cases e
theorem Post.ok{a:α}(h:Q a s):Post Q (.ok a s):=fun _ _ e=>by cases e;exact h
theorem Post.out:Post Q (Res.out:Res α):=fun _ _ e=>by cases e
theorem Post.bad{p e:Int}:Post Q (Res.bad p e s:Res α):=fun _ _ e=>by cases e
theorem Post.ite{c:Bool}{X Y:Res α}(hX:Post Q X)(hY:Post Q Y):Post Q (bif c then X else Y):=by cases c<;>assumption
theorem Post.imp(h:Post Q r)(hq:∀a s',Q a s'→Q' a s'):Post Q' r:=fun a s' e=>hq a s' (h a s' e)
end
section
variable(L:List T)
theorem lI(x:List UInt8)(s:RS):Post (fun _ s'=>s.i+1≤s'.i) (aG L x s):=aN L x s
theorem mZ(k:Int)(s:RS):Post (fun _ s'=>s.i+1≤s'.i) (dT L k s):=il L k s
theorem Ae(k:List Int)(s:RS):Post (fun _ s'=>s.i+1≤s'.i) (eB L k s):=nZ L k s
theorem Post.may{L:List T}{α:Type}{Q:α→RS→Prop}{x:List UInt8}{s:RS}{X Y:RS→Res α}(hX:∀s',s.i+1≤s'.i→Post Q (X s'))(hY:Post Q (Y s)):Post Q ((b8 L x s).bind fun b s1=>bif b then X s1 else Y s1):=by
 unfold b8;cases br L s x with
 |false=>exact hY
 |true=>
  have:=(lI L x s).bind (f:=fun _ s1=>X s1) fun _ s' h=>hX s' h
  simp only[cond_true];revert this;cases aG L x s<;>exact fun h=>h
structure ZA(n:Nat):Prop where
 one:∀s:RS,Post (fun a s'=>wH a+s.i≤s'.i) (gA L n s)
 place:∀s:RS,Post (fun a s'=>wH a+2+s.i≤s'.i) (dQ L n s)
 call:∀nm p (s:RS),Post (fun a s'=>wH a+1+s.i≤s'.i) (gh L n nm p s)
 args:∀s:RS,Post (fun a s'=>dX a+2+s.i≤s'.i) (gN L n s)
 more:∀l (s:RS),Post (fun a s'=>dX a+s.i≤s'.i+dX l) (fE L n l s)
 expr:∀k (s:RS),Post (fun a s'=>wH a+s.i≤s'.i) (bw L n k s)
 tail:∀k e (s:RS),Post (fun a s'=>wH a+s.i≤s'.i+wH e) (d9 L n k e s)
theorem yx:∀l m:List Ex,dX (l ++m)=dX l+dX m
 |[],m=>by simp[dX]
 |x::l,m=>by simp only[List.cons_append,dX,yx l m];omega
theorem yy:∀l m:List bt,cO (l ++m)=cO l+cO m
 |[],m=>by simp[cO]
 |x::l,m=>by simp only[List.cons_append,cO,yy l m];omega
theorem yz:∀l m:List Fn,jq (l ++m)=jq l+jq m
 |[],m=>by simp[jq]
 |x::l,m=>by simp only[List.cons_append,jq,yz l m];omega
theorem HK:∀n,ZA L n
 |0=>⟨fun _=>Post.out,fun _=>Post.out,fun _ _ _=>Post.out,fun _=>Post.out,fun _ _=>Post.out,fun _ _=>Post.out,fun _ _ _=>Post.out⟩
 |n+1=>by
  have ih:=HK n;have W:=lI L;refine⟨fun s=> ?_,fun s=> ?_,fun nm p s=> ?_,fun s=> ?_,fun l s=> ?_,fun k s=> ?_,fun k e s=> ?_⟩
  ·simp only[gA]
   have un:∀(o p:Int) s',s.i+1≤s'.i→Post (fun a s2=>wH a+s.i≤s2.i) ((gA L n s').bind fun e s2=> .ok (.mk 8 o [] 0 p [e]) s2):=fun o p s' h=>(ih.one s').bind fun e s2 h2=> .ok (by simp only[wH,dX];omega)
   refine Post.may (fun s'=>un _ _ s') (Post.may (fun s'=>un _ _ s') (Post.may (fun s'=>un _ _ s') (Post.ite (.ok (by simp only[wH,dX,RS.nx];omega)) ?_)));refine Post.may (fun s' h=> .ok (by simp only[wH,dX];omega)) (Post.may (fun s' h=> .ok (by simp only[wH,dX];omega)) ?_);refine Post.may (fun s' h=>(W _ s').bind fun _ s2 h2=>(W _ s2).bind fun _ _ h3=> .ok (by simp only[wH,dX];omega)) ?_;refine Post.may (fun s' h=>(W _ s').bind fun _ s2 h2=>(mZ L 1 s2).bind fun _ s3 h3=>(W _ s3).bind fun _ _ h4=> .ok (by simp only[wH,dX];omega)) ?_;refine Post.ite ((W _ s).bind fun _ s2 h2=>(ih.expr _ s2).bind fun _ s3 h3=>(W _ s3).bind fun _ _ h4=> .ok (by omega)) ?_;refine(mZ L 1 s).bind fun _ s2 h2=>Post.ite ((ih.place s2).bind fun _ _ h3=> .ok (by simp only[wH,dX];omega)) (Post.ite ((ih.call _ _ s2).bind fun _ _ h3=> .ok (by omega)) (.ok (by simp only[wH,dX];omega)))
  ·simp only[dQ]
   exact(W _ s).bind fun _ s2 h2=>(ih.expr _ s2).bind fun _ s3 h3=>(W _ s3).bind fun _ _ h4=> .ok (by omega)
  ·simp only[gh]
   exact(ih.args s).bind fun _ _ h=> .ok (by simp only[wH];omega)
  ·simp only[gN]
   exact(W _ s).bind fun _ s2 h2=>Post.ite ((W _ s2).bind fun _ _ h3=> .ok (by simp only[dX];omega)) ((ih.expr _ s2).bind fun _ s3 h3=>(ih.more _ s3).bind fun _ s4 h4=>(W _ s4).bind fun _ _ h5=> .ok (by simp only[dX]at h4;omega))
  ·simp only[fE]
   exact Post.may (fun s' h=>(ih.expr _ s').bind fun _ s3 h3=>(ih.more _ s3).imp fun _ _ h4=>by simp only[yx,dX]at h4;omega) (.ok (Nat.le_of_eq (Nat.add_comm _ _)))
  ·simp only[bw]
   exact(ih.one s).bind fun _ s2 h2=>(ih.tail _ _ s2).imp fun _ _ h3=>by omega
  ·simp only[d9]
   exact Post.ite (.ok (Nat.le_of_eq (Nat.add_comm _ _))) ((ih.expr _ _).bind fun _ s2 h2=>(ih.tail _ _ s2).imp fun _ _ h3=>by simp only[wH,dX,RS.nx]at h2 h3;omega)
theorem NX(n:Nat)(id p:Int)(s:RS):Post (fun a s'=>sW a+s.i≤s'.i) (jI L n id p s):=by
 have W:=lI L;unfold jI;refine(mZ L 1 s).bind fun _ s2 h2=>(W _ s2).bind fun _ s3 h3=>(Ae L _ s3).bind fun _ s4 h4=>Post.ite ?_ ?_
 ·exact(W _ s4).bind fun _ s5 h5=>(mZ L 3 s5).bind fun _ s6 h6=>(W _ s6).bind fun _ s7 h7=>(W _ s7).bind fun _ _ h8=> .ok (by simp only[sW,cO,dX];omega)
 ·exact Post.may (fun s' h=>((HK L n).expr 1 s').bind fun _ s6 h6=>(W _ s6).bind fun _ _ h7=> .ok (by simp only[sW,cO,dX];omega)) ((W _ s4).bind fun _ _ h5=> .ok (by simp only[sW,cO,dX];omega))
theorem HL(n:Nat)(id p:Int)(s:RS):Post (fun a s'=>sW a+s.i≤s'.i) (dF L n id p s):=by
 have W:=lI L;have A:=HK L n;unfold dF;refine(mZ L 1 s).bind fun _ s2 h2=>Post.ite ((A.call _ _ s2).bind fun _ s3 h3=>(W _ s3).bind fun _ _ h4=> .ok (by simp only[sW,cO,dX];omega)) (Post.ite ?_ ?_)
 ·exact(A.place s2).bind fun _ s3 h3=>(W _ s3).bind fun _ s4 h4=>(A.expr 1 s4).bind fun _ s5 h5=>(W _ s5).bind fun _ _ h6=> .ok (by simp only[sW,cO,dX];omega)
 ·exact(W _ s2).bind fun _ s3 h3=>(A.expr 1 s3).bind fun _ s4 h4=>(W _ s4).bind fun _ _ h5=> .ok (by simp only[sW,cO,dX];omega)
theorem FA:∀n,(∀s:RS,Post (fun a s'=>cO a+2+s.i≤s'.i) (b9 L n s))∧(∀l (s:RS),Post (fun a s'=>cO a+s.i≤s'.i+cO l) (bT L n l s))∧(∀s:RS,Post (fun a s'=>sW a+s.i≤s'.i) (dU L n s))
 |0=>⟨fun _=>Post.out,fun _ _=>Post.out,fun _=>Post.out⟩
 |n+1=>by
  obtain⟨h1,h2,h3⟩:=FA n;have W:=lI L;have A:=HK L n;refine⟨fun s=> ?_,fun l s=> ?_,fun s=> ?_⟩
  ·simp only[b9]
   exact(W _ s).bind fun _ s1 g1=>(h2 _ s1).bind fun _ s2 g2=>(W _ s2).bind fun _ _ g3=> .ok (by simp only[cO]at g2;omega)
  ·simp only[bT]
   exact Post.ite (.ok (Nat.le_of_eq (Nat.add_comm _ _))) ((h3 s).bind fun _ s1 g1=>(h2 _ s1).imp fun _ _ g2=>by simp only[yy,cO]at g2;omega)
  ·simp only[dU]
   have hi:s.st.i=s.i:=rfl;refine Post.may (fun s' g=>(NX L n _ _ s').bind fun _ _ g2=> .ok (by omega)) (Post.may (fun s' g=> ?_) (Post.may (fun s' g=> ?_) (Post.may (fun s' g=> ?_) (Post.may (fun s' g=> ?_) ?_))))
   ·exact(A.expr 1 s').bind fun _ s2 g2=>(h1 s2).bind fun _ s3 g3=>Post.may (fun s4 g4=>(h1 s4).bind fun _ _ g5=> .ok (by simp only[sW,cO,dX];omega)) (.ok (by simp only[sW,cO,dX];omega))
   ·exact(A.expr 1 s').bind fun _ s2 g2=>(h1 s2).bind fun _ s3 g3=> .ok (by simp only[sW,cO,dX];omega)
   ·exact Post.ite ((W _ s').bind fun _ _ g2=> .ok (by simp only[sW,cO,dX];omega)) ((A.expr 1 s').bind fun _ s2 g2=>(W _ s2).bind fun _ _ g3=> .ok (by simp only[sW,cO,dX];omega))
   ·exact(A.expr 1 s').bind fun _ s2 g2=>(W _ s2).bind fun _ _ g3=> .ok (by simp only[sW,cO,dX];omega)
   ·exact(HL L n _ _ _).bind fun _ _ g2=> .ok (by omega)
theorem Bp(s:RS):Post (fun _ s'=>1+s.i≤s'.i) (gB L s):=(mZ L 1 s).bind fun _ s1 h1=>(lI L _ s1).bind fun _ s2 h2=>(Ae L _ s2).bind fun _ _ h3=> .ok (by omega)
theorem Bq:∀(n:Nat)(l:List Pm)(s:RS),Post (fun a s'=>a.length+s.i≤s'.i+l.length) (dG L n l s)
 |0,_,_=>Post.out
 |n+1,l,s=>by
  simp only[dG];exact Post.may (fun s' h=>(Bp L s').bind fun _ s2 h2=>(Bq n _ s2).imp fun _ _ h3=>by simp only[List.length_append,List.length_cons,List.length_nil]at h3;omega) (.ok (Nat.le_of_eq (Nat.add_comm _ _)))
theorem FB(n:Nat)(s:RS):Post (fun a s'=>a.length+2+s.i≤s'.i) (dV L n s):=by
 have W:=lI L;unfold dV;exact(W _ s).bind fun _ s3 h3=>Post.ite ((W _ s3).bind fun _ _ h4=> .ok (by simp only[List.length_nil];omega)) ((Bp L s3).bind fun _ s4 h4=>(Bq L n _ s4).bind fun _ s5 h5=>(W _ s5).bind fun _ _ h6=> .ok (by simp only[List.length_cons,List.length_nil]at h5;omega))
theorem NY(n:Nat)(s:RS):Post (fun a s'=>IJ a+s.i≤s'.i) (wB L n s):=by
 have W:=lI L;have B:=(FA L n).1;unfold wB;exact(W _ s).bind fun _ s1 h1=>(mZ L 1 s1).bind fun _ s2 h2=>(FB L n s2).bind fun _ s3 h3=>Post.may (fun s4 h4=>(Ae L _ s4).bind fun _ s5 h5=>(B s5).bind fun _ _ h6=> .ok (by simp only[IJ];omega)) ((B s3).bind fun _ _ h6=> .ok (by simp only[IJ];omega))
theorem IM(N:Nat):∀(n:Nat)(l:List Fn)(s:RS),Post (fun a s'=>jq a+s.i≤s'.i+jq l) (jJ L N n l s)
 |0,_,_=>Post.out
 |n+1,l,s=>by
  simp only[jJ];exact Post.ite (.ok (Nat.le_of_eq (Nat.add_comm _ _))) ((NY L N s).bind fun _ s1 h1=>(IM N n _ s1).imp fun _ _ h2=>by simp only[yz,jq]at h2;omega)
theorem KW(n:Nat):Post (fun a s'=>jq a≤s'.i) (fX L n):=by
 unfold fX;exact(NY L n ⟨0,0,0⟩).bind fun _ s1 h1=>(IM L n n _ s1).imp fun _ _ h2=>by simp only[jq]at h1 h2;omega
end
theorem Af{L:List T}(hL:dm L)(h0:0<L.length){l:List Fn}{s':RS}(h:fX L (fuel L)= .ok l s'):jq l<1000000:=by
 have h1:=KW L (fuel L) l s' h;have h2:=(((KK hL (fuel L) ⟨0,0,0⟩ h0 (by simp only[fuel];omega)).bind fun f s1 h1 h2=>ET hL (fuel L) (Nat.le_refl _) (fuel L) [f] s1 h2 (by simp only[fuel];omega)).2 l s' h).2;have:=hL.len;omega
end Go.Avm
namespace Go.Avm
open Go.Proofs
def Bd{α:Type}(r:Res α):Prop:=∀p e s,r= .bad p e s→e≠0
section
variable{α β:Type}{r:Res α}{f:α→RS→Res β}{s:RS}{L:List T}
theorem Bd.bind(h:Bd r)(hf:∀a s',Bd (f a s')):Bd (r.bind f):=fun p e s2 q=>by
 cases r with
 |ok a s1=>exact hf a s1 p e s2 q
 |bad p q2 s1=>cases q;exact h _ _ _ rfl
 |out=>cases q
theorem Bd.ok{a:α}:Bd (.ok a s):=fun _ _ _ q=>by cases q
theorem Bd.out:Bd (Res.out:Res α):=fun _ _ _ q=>by cases q
theorem Bd.fail:Bd (fail L s:Res α):=fun _ _ _ q=>by cases q;decide
theorem Bd.ite{c:Bool}{X Y:Res α}(hX:Bd X)(hY:Bd Y):Bd (bif c then X else Y):=by cases c<;>assumption
theorem bi(x:List UInt8):Bd (aG L x s):=by
 unfold aG;refine Bd.ite (Bd.ite (Bd.ite (fun _ _ _ q=>by cases q;decide) .ok) (Bd.ite .ok .ok)) .fail
theorem kl(k:Int):Bd (dT L k s):=by unfold dT;exact Bd.ite .ok .fail
theorem dR(x:List UInt8):Bd (b8 L x s):=by unfold b8;exact Bd.ite ((bi x).bind fun _ _=> .ok) .ok
theorem qH:∀(l:List Int)(s:RS),Bd (eB L l s)
 |[],s=> .fail
 |k::r,s=>by unfold eB;exact(dR _).bind fun _ s'=>Bd.ite .ok (qH r s')
end
section
variable(L:List T)
theorem FC:∀n,(∀s,Bd (gA L n s))∧(∀s,Bd (dQ L n s))∧(∀nm p s,Bd (gh L n nm p s))∧(∀s,Bd (gN L n s))∧(∀l s,Bd (fE L n l s))∧(∀k s,Bd (bw L n k s))∧(∀k e s,Bd (d9 L n k e s))
 |0=>⟨fun _=> .out,fun _=> .out,fun _ _ _=> .out,fun _=> .out,fun _ _=> .out,fun _ _=> .out,fun _ _ _=> .out⟩
 |n+1=>by
  obtain⟨h1,h2,h3,h4,h5,h6,h7⟩:=FC n;refine⟨fun s=> ?_,fun s=> ?_,fun nm p s=> ?_,fun s=> ?_,fun l s=> ?_,fun k s=> ?_,fun k e s=> ?_⟩
  ·simp only[gA]
   refine(dR _).bind fun _ s1=>Bd.ite ((h1 _).bind fun _ _=> .ok) ((dR _).bind fun _ s2=>Bd.ite ((h1 _).bind fun _ _=> .ok) ((dR _).bind fun _ s3=>Bd.ite ((h1 _).bind fun _ _=> .ok) (Bd.ite .ok ?_)))
   refine(dR _).bind fun _ s1=>Bd.ite .ok ((dR _).bind fun _ s2=>Bd.ite .ok ((dR _).bind fun _ s3=>Bd.ite ((bi _).bind fun _ _=>(bi _).bind fun _ _=> .ok) ?_))
   refine(dR _).bind fun _ s1=>Bd.ite ((bi _).bind fun _ _=>(kl _).bind fun _ _=>(bi _).bind fun _ _=> .ok) (Bd.ite ((bi _).bind fun _ _=>(h6 _ _).bind fun _ _=>(bi _).bind fun _ _=> .ok) ?_)
   exact(kl _).bind fun _ _=>Bd.ite ((h2 _).bind fun _ _=> .ok) (Bd.ite ((h3 _ _ _).bind fun _ _=> .ok) .ok)
  ·simp only[dQ]
   exact(bi _).bind fun _ _=>(h6 _ _).bind fun _ _=>(bi _).bind fun _ _=> .ok
  ·simp only[gh]
   exact(h4 _).bind fun _ _=> .ok
  ·simp only[gN]
   exact(bi _).bind fun _ _=>Bd.ite ((bi _).bind fun _ _=> .ok) ((h6 _ _).bind fun _ _=>(h5 _ _).bind fun _ _=>(bi _).bind fun _ _=> .ok)
  ·simp only[fE]
   exact(dR _).bind fun _ _=>Bd.ite ((h6 _ _).bind fun _ _=>h5 _ _) .ok
  ·simp only[bw]
   exact(h1 _).bind fun _ _=>h7 _ _ _
  ·simp only[d9]
   exact Bd.ite .ok ((h6 _ _).bind fun _ _=>h7 _ _ _)
theorem kn(n:Nat)(k:Int)(s:RS):Bd (bw L n k s):=(FC L n).2.2.2.2.2.1 k s
theorem KX(n:Nat)(id p:Int)(s:RS):Bd (jI L n id p s):=by
 unfold jI;exact(kl _).bind fun _ _=>(bi _).bind fun _ _=>(qH _ _).bind fun _ _=>Bd.ite ((bi _).bind fun _ _=>(kl _).bind fun _ _=>(bi _).bind fun _ _=>(bi _).bind fun _ _=> .ok) ((dR _).bind fun _ _=>Bd.ite ((kn L _ _ _).bind fun _ _=>(bi _).bind fun _ _=> .ok) ((bi _).bind fun _ _=> .ok))
theorem FD(n:Nat)(id p:Int)(s:RS):Bd (dF L n id p s):=by
 obtain⟨_,h2,h3,_⟩:=FC L n;unfold dF;exact(kl _).bind fun _ _=>Bd.ite ((h3 _ _ _).bind fun _ _=>(bi _).bind fun _ _=> .ok) (Bd.ite ((h2 _).bind fun _ _=>(bi _).bind fun _ _=>(kn L _ _ _).bind fun _ _=>(bi _).bind fun _ _=> .ok) ((bi _).bind fun _ _=>(kn L _ _ _).bind fun _ _=>(bi _).bind fun _ _=> .ok))
theorem Br:∀n,(∀s,Bd (b9 L n s))∧(∀l s,Bd (bT L n l s))∧(∀s,Bd (dU L n s))
 |0=>⟨fun _=> .out,fun _ _=> .out,fun _=> .out⟩
 |n+1=>by
  obtain⟨h1,h2,h3⟩:=Br n;refine⟨fun s=> ?_,fun l s=> ?_,fun s=> ?_⟩
  ·simp only[b9]
   exact(bi _).bind fun _ _=>(h2 _ _).bind fun _ _=>(bi _).bind fun _ _=> .ok
  ·simp only[bT]
   exact Bd.ite .ok ((h3 _).bind fun _ _=>h2 _ _)
  ·simp only[dU]
   refine(dR _).bind fun _ _=>Bd.ite ((KX L _ _ _ _).bind fun _ _=> .ok) ((dR _).bind fun _ _=>Bd.ite ((kn L _ _ _).bind fun _ _=>(h1 _).bind fun _ _=>(dR _).bind fun _ _=>Bd.ite ((h1 _).bind fun _ _=> .ok) .ok) ?_)
   refine(dR _).bind fun _ _=>Bd.ite ((kn L _ _ _).bind fun _ _=>(h1 _).bind fun _ _=> .ok) ((dR _).bind fun _ _=>Bd.ite (Bd.ite ((bi _).bind fun _ _=> .ok) ((kn L _ _ _).bind fun _ _=>(bi _).bind fun _ _=> .ok)) ?_)
   exact(dR _).bind fun _ _=>Bd.ite ((kn L _ _ _).bind fun _ _=>(bi _).bind fun _ _=> .ok) ((FD L _ _ _ _).bind fun _ _=> .ok)
theorem yA(s:RS):Bd (gB L s):=(kl _).bind fun _ _=>(bi _).bind fun _ _=>(qH _ _).bind fun _ _=> .ok
theorem yB:∀(n:Nat)(l:List Pm)(s:RS),Bd (dG L n l s)
 |0,_,_=> .out
 |n+1,l,s=>by
  simp only[dG];exact(dR _).bind fun _ _=>Bd.ite ((yA L _).bind fun _ _=>yB n _ _) .ok
theorem IO(n:Nat)(s:RS):Bd (wB L n s):=by
 have B:=(Br L n).1;unfold wB dV;exact(bi _).bind fun _ _=>(kl _).bind fun _ _=>Bd.bind ((bi _).bind fun _ _=>Bd.ite ((bi _).bind fun _ _=> .ok) ((yA L _).bind fun _ _=>(yB L _ _ _).bind fun _ _=>(bi _).bind fun _ _=> .ok)) fun _ _=>(dR _).bind fun _ _=>Bd.ite ((qH _ _).bind fun _ _=>(B _).bind fun _ _=> .ok) ((B _).bind fun _ _=> .ok)
theorem FE(N:Nat):∀(n:Nat)(l:List Fn)(s:RS),Bd (jJ L N n l s)
 |0,_,_=> .out
 |n+1,l,s=>by
  simp only[jJ];exact Bd.ite .ok ((IO L N s).bind fun _ _=>FE N n _ _)
theorem HM(n:Nat):Bd (fX L n):=by
 unfold fX;exact(IO L n _).bind fun _ _=>FE L n n _ _
end
end Go.Avm
namespace Go.Avm
open Go.Proofs
theorem Bs:∀(ps:List Pm)(k:Nat)(had:List (List UInt8))(u:Unit),qh k had ps= .ok u→(k≤6→k+ps.length≤6)∧(ps.map (·.nm)).Nodup∧∀p∈ps,p.nm∉had
 |[],k,had,u,_=>⟨fun h=>h,List.nodup_nil,fun _ h=>by cases h⟩
 |p::r,k,had,u,h=>by
  simp only[qh]at h;cases h6:decide (6≤k)with
  |true=>rw[h6]at h;cases h
  |false=>
   rw[h6]at h;have h6:=of_decide_eq_false h6;cases hh:had.any (· ==p.nm)with
   |true=>rw[hh]at h;cases h
   |false=>
    rw[hh]at h;obtain⟨g1,g2,g3⟩:=Bs r (k+1) (had ++[p.nm]) u h;refine⟨fun _=>by have:=g1 (by omega);simp only[List.length_cons];omega, ?_, ?_⟩
    ·rw[List.map_cons,List.nodup_cons]
     refine⟨fun hm=> ?_,g2⟩;obtain⟨q,hq,he⟩:=List.mem_map.1 hm;exact g3 q hq (by rw[he];simp)
    ·intro q hq
     rcases List.mem_cons.1 hq with rfl|hq
     ·intro hm
      have:had.any (· ==q.nm)=true:=List.any_eq_true.2 ⟨_,hm,by simp⟩;rw[hh]at this;cases this
     ·exact fun hm=>g3 q hq (List.mem_append_left _ hm)
theorem Bt:∀(ps:List Pm)(k:Nat)(had:List (List UInt8)),qh k had ps≠ .out
 |[],_,_=>by simp[qh]
 |p::r,k,had=>by
  simp only[qh];exact fe ff (fe ff (Bt r _ _))
theorem uG:∀(fs pre:List Fn)(u:Unit),gW pre fs= .ok u→∀f∈fs,f.ps.length≤6∧(f.ps.map (·.nm)).Nodup
 |[],_,_,_,_,h=>by cases h
 |f::r,pre,u,h,g,hg=>by
  simp only[gW]at h;cases hf:(dK f.nm pre 0).isSome with
  |true=>rw[hf]at h;cases h
  |false=>
   rw[hf]at h;simp only[cond_false]at h;cases hp:qh 0 [] f.ps with
   |out=>rw[hp]at h;cases h
   |bad p e=>rw[hp]at h;cases h
   |ok v=>
    rw[hp]at h;rcases List.mem_cons.1 hg with rfl|hg
    ·obtain⟨g1,g2,_⟩:=Bs _ _ _ _ hp
     exact⟨by have:=g1 (by omega);omega,g2⟩
    ·exact uG r _ u h g hg
theorem uH:∀(fs pre:List Fn),gW pre fs≠ .out
 |[],_=>by simp[gW]
 |f::r,pre=>by
  simp only[gW];exact fe ff (TR.bind_ne (Bt _ _ _) fun _=>uH r _)
theorem uI(fs:List Fn):iL fs≠ .out:=by
 unfold iL;refine TR.bind_ne (uH _ _) fun _=> ?_
 split
 ·exact ff
 ·exact fe gj ff
theorem uJ{fs:List Fn}{u:Unit}(h:iL fs= .ok u):∀f∈fs,f.ps.length≤6∧(f.ps.map (·.nm)).Nodup:=by
 unfold iL at h;cases hn:gW [] fs with
 |out=>rw[hn]at h;cases h
 |bad p e=>rw[hn]at h;cases h
 |ok v=>exact uG fs [] v hn
theorem tc:∀(m:Nat)(l:List bt),cO l<m→m≤1000000→jn m l
 |0,_,h,_=>absurd h (Nat.not_lt_zero _)
 |m+1,l,h,hm=>by
  have hl:=yl l;refine⟨by omega,fun s hs=> ?_⟩;obtain⟨i,hi,he⟩:=List.getElem_of_mem hs;have hz:=ym (show l[i]? =some s by rw[List.getElem?_eq_getElem hi,he]);obtain⟨k,id,nm,ty,n,p,es,bd,el⟩:=s;simp only[sW]at hz;exact⟨tc m bd (by omega) (by omega),tc m el (by omega) (by omega)⟩
structure PG(fs:List Fn):Prop where
 z:jq fs<1000000
 g:∀f∈fs,pj f
 num:wn fs 1 (-1)
theorem PG.fsOk{fs:List Fn}(h:PG fs){u:Unit}(hh:iL fs= .ok u):Eh fs 999999 where
 len:=Nat.lt_of_le_of_lt (sX fs) h.z
 par:=fun f hf=>(uJ hh f hf).1
 nod:=fun f hf=>(uJ hh f hf).2
 nml:=fun f hf p hp=>by have:=((h.g f hf).ps p hp).1;omega
 sh:=fun f hf=>by
  obtain⟨i,hi,he⟩:=List.getElem_of_mem hf;have hz:=yn (show fs[i]? =some f by rw[List.getElem?_eq_getElem hi,he]);have:=h.z;unfold IJ at hz;exact tc _ _ (by omega) (by omega)
 m:=by decide
theorem Bu(c:CS):∀ps:List Pm,(ps.foldl CS.par c).pts=c.pts
 |[]=>rfl
 |p::r=>Bu (c.par p) r
theorem HN{fs:List Fn}{i:Nat}(hi:i<fs.length){f:Fn}(hg:dW f.bd=true){pts:List Pt}{n a n' a':Int}(hn:n=(pts.length:Int))(hN:gd f.bd n a n' a')(hb:pts.length+cO f.bd<900000000):
    pR fs i f pts≠ .out∧∀q,pR fs i f pts= .ok q→(q.2.length:Int)=n'∧q.2.length≤pts.length+cO f.bd:=by
 have hp:=Bu ⟨[],[],⟨[],0⟩,pts⟩ f.ps;unfold pR eO;generalize f.ps.foldl CS.par ⟨[],[],⟨[],0⟩,pts⟩=c at hp;have hp:c.pts=pts:=hp;have g:=lH fs i hi f.bd 0 false c n a n' a' hg (by rw[hp];exact hn) hN (by rw[hp];exact hb);revert g;show NO n' (c.pts.length+cO f.bd) (bE fs i 0 false f.bd c)→_;dsimp only;cases bE fs i 0 false f.bd c with
 |out=>exact fun h=>h.elim
 |bad p e=>exact fun _=>⟨ff,fun _ h=>by cases h⟩
 |ok c2=>
  rintro⟨g1,g2⟩;rw[hp]at g2;simp only[TR.bind];cases (f.res==0||du f.bd)with
  |false=>exact⟨ff,fun _ h=>by cases h⟩
  |true=>exact⟨gj,fun q h=>by cases h;exact⟨g1,g2⟩⟩
theorem uK{fs:List Fn}:∀(uo:List Fn)(i:Nat)(rows:List (List Vr))(pts:List Pt)(n a:Int),i+uo.length≤fs.length→(∀f∈uo,pj f)→wn uo n a→n=(pts.length:Int)→pts.length+jq uo<900000000→f3 fs i uo rows pts≠ .out
 |[],_,_,_,_,_,_,_,_,_,_=>by simp[f3]
 |f::r,i,rows,pts,n,a,hi,hg,hN,hn,hb=>by
  simp only[List.length_cons]at hi;simp only[jq,IJ]at hb;cases hN with
  | @cons nm ps k bd p _ _ _ n1 a1 lb hNb hNr=>
  have hb:pts.length+(1+ps.length+cO bd+jq r)<900000000:=hb;obtain⟨g1,g2⟩:=HN (fs:=fs) (i:=i) (by omega) (f:=⟨nm,ps,k,bd,p⟩) (hg _ (List.mem_cons_self ..)).bd hn hNb (by show pts.length+cO bd<_;omega);simp only[f3];revert g1 g2;cases pR fs i ⟨nm,ps,k,bd,p⟩ pts with
  |out=>exact fun h _=>absurd rfl h
  |bad p e=>exact fun _ _=>ff
  |ok q=>
   intro _ g2;obtain⟨g3,g4⟩:=g2 q rfl;have g4:q.2.length≤pts.length+cO bd:=g4;simp only[TR.bind];exact uK r (i+1) _ _ n1 a1 (by omega) (fun f hf=>hg f (List.mem_cons_of_mem _ hf)) hNr g3.symm (by omega)
theorem td{fs:List Fn}(h:PG fs):eZ fs≠ .out:=by
 unfold eZ;exact TR.bind_ne (uI fs) fun _=>uK fs 0 [] [eC] 1 (-1) (by omega) h.g h.num rfl (by have:=h.z;simp only[List.length_cons,List.length_nil];omega)
theorem KY{fs:List Fn}(h:PG fs):ax Pg 13 [.agg [.ro (fs.map de)]] (En (eZ fs)):=by
 cases hh:iL fs with
 |ok u=>exact Kj (h.fsOk hh) (td h)
 |out=>exact absurd hh (uI fs)
 |bad p e=>
  have len:=Nat.lt_of_le_of_lt (sX fs) h.z;have ch:=Ec (fs:=fs) (nn:= .junk) (fun _=>rfl) len;unfold eZ;rw[hh]at ch ⊢;simp only[Oi]at ch;exact Q7 len p e fun rest=>ya aB (ch rest) (sM fs rest)
theorem yC:∀(n:Nat)(r:List UInt8)(a:Nat)(ts:List (Nat×kq)),cZ n r a= .ok ts→∀x∈ts,x.2.2.1.length≤r.length
 |0,r,a,ts,h,x,hx=>by
  simp only[cZ,Except.ok.injEq]at h;subst h;cases hx
 |n+1,[],a,ts,h,x,hx=>by
  simp only[cZ,Except.ok.injEq]at h;subst h;cases hx
 |n+1,b::r,a,ts,h,x,hx=>by
  rw[iQ]at h;split at h
  ·cases h
  rename_i t ht;split at h
  ·cases h
  rename_i ts' hts;cases h;obtain⟨kd,tx,k⟩:=t;obtain⟨hp,_⟩:=sU ht;rcases List.mem_cons.1 hx with rfl|hx
  ·exact hp.length_le
  ·have:=yC n _ _ _ hts x hx
   simp only[List.length_drop]at this;omega
theorem Ag{s:List UInt8}(h:s.length≤20000){ts:List (Nat×kq)}(he:ji s= .ok ts):IK (bk ts s.length):=fun r=>by
 unfold bA;rw[List.getD_eq_getElem?_getD];cases hg:(bk ts s.length)[r.i]? with
 |none=>exact Nat.zero_le _
 |some x=>
  have hm:=List.mem_of_getElem? hg;rcases List.mem_append.1 hm with hm|hm
  ·obtain⟨y,hy,rfl⟩:=List.mem_map.1 hm
   have:=yC _ _ _ _ he y hy;simp only[List.length_drop]at this;show y.2.2.1.length≤20000;omega
  ·rw[List.mem_singleton.1 hm]
   exact Nat.zero_le _
end Go.Avm
namespace Go.Avm
open Go.Proofs
def pV(s:List UInt8):Except (Int×Int) (List Fn):=
 if 20000<s.length then .error (0,2)else match ji s with
  | .error (p,k)=> .error ((p:Int),k)
  | .ok ts=>match fX (bk ts s.length) (fuel (bk ts s.length))with
   | .ok l _=> .ok l
   | .bad p e _=> .error (p,e)
   | .out=> .error (0,1)
def Ah(s:List UInt8):Except (Int×Int) (List Fn)→Prop
 | .error (q,e)=>iR s=[.agg [.ro []], .int .i64 q, .int .i64 e]∧e≠0
 | .ok l=>iR s=[.agg [.ro (l.map de)], .int .i64 0, .int .i64 0]∧PG l
theorem Bv(s:List UInt8):Ah s (pV s):=by
 unfold pV;have hq:∀x:Except (Int×Int) (List Fn),Ah s x=Ah s x:=fun _=>rfl
 by_cases h:20000<s.length
 ·rw[if_pos h]
  exact⟨by unfold iR;rw[if_pos h],by decide⟩
 ·rw[if_neg h]
  have hp:iR s=match ji s with
   | .error (p,k)=>[.agg [.ro []], .int .i64 (p:Int), .int .i64 k]
   | .ok ts=>ER (Aa ts s.length):=by unfold iR;rw[if_neg h];try rfl
  cases he:ji s with
  |error e=>
   obtain⟨p,k⟩:=e;rw[he]at hp;exact⟨hp,pi _ _ _ _ _ he⟩
  |ok ts=>
   rw[he]at hp;have hl:=uC he;have hok:=uB (ts:=ts) (n:=s.length) (by omega);obtain⟨r1,r2⟩:=yr s.length (Ad he);have hno:=Ba hok (gE ts s.length);dsimp only at hp ⊢;unfold Aa at hp;cases hs:fX (bk ts s.length) (fuel (bk ts s.length))with
   |ok l s'=>
    rw[hs]at hp;exact⟨hp,Af hok (gE _ _) hs,HJ (Ag (by omega) he) _ l s' hs,(Fz hok r2 (gE _ _) (r1 0 (gE _ _)) hs).2⟩
   |bad p e s'=>
    rw[hs]at hp;exact⟨hp,HM _ _ _ _ _ hs⟩
   |out=>exact absurd hs hno
def jR(s:List UInt8):List D:=match pV s with
 | .error (q,e)=>[.agg [.ro []], .agg [.ro [], .ro []], .int .i64 q, .int .i64 e]
 | .ok l=> .agg [.ro (l.map de)]::En (eZ l)
section
variable{s:List UInt8}
theorem QB{q e:Int}(hp:ax Pg 12 [.str s] [.agg [.ro []], .int .i64 q, .int .i64 e])(he:(e !=0)=true):ax Pg 9 [.str s] [.agg [.ro []], .agg [.ro [], .ro []], .int .i64 q, .int .i64 e]:=
 qV {hint:=qT 9 [(12, .call 12 _ _ hp),(17,qB he)]} 709297
theorem NZ{l:List Fn}{a b:List D}{q e:Int}(hp:ax Pg 12 [.str s] [.agg [.ro (l.map de)], .int .i64 0, .int .i64 0])(hc:ax Pg 13 [.agg [.ro (l.map de)]] [.agg [.ro a, .ro b], .int .i64 q, .int .i64 e]):ax Pg 9 [.str s] [.agg [.ro (l.map de)], .agg [.ro a, .ro b], .int .i64 q, .int .i64 e]:=
 qV {hint:=qT 9 [(12, .call 12 _ _ hp),(24, .call 13 _ _ hc)]} 709297
end
theorem wu(s:List UInt8):ax Pg 9 [.str s] (jR s):=by
 have hp:=Cp s;have hr:=Bv s;unfold jR;cases h:pV s with
 |error x=>
  obtain⟨q,e⟩:=x;rw[h]at hr;obtain⟨h1,h2⟩:=hr;rw[h1]at hp;exact QB hp (by simpa using h2)
 |ok l=>
  rw[h]at hr;obtain⟨h1,h2⟩:=hr;rw[h1]at hp;have hc:=KY h2;have hn:=td h2;dsimp only;revert hc hn;cases eZ l with
  |out=>exact fun _ h=>absurd rfl h
  |ok q=>exact fun hc _=>NZ hp hc
  |bad p e=>exact fun hc _=>NZ hp hc
end Go.Avm
namespace Go.Avm
open Go.Proofs
theorem bH{n:Nat}{b:UInt8}{r:List UInt8}{a:Nat}{t:kq}{r2:List UInt8}{a2:Nat}{ts:List (Nat×kq)}(ht:gY (b::r)= .ok t)(hr:((b::r).drop t.2.1.length).drop (bN false ((b::r).drop t.2.1.length))=r2)(ha:a+t.2.1.length+bN false ((b::r).drop t.2.1.length)=a2)(h:cZ n r2 a2= .ok ts):cZ (n+1) (b::r) a= .ok ((a,t)::ts):=by
 rw[iQ,ht];dsimp only;rw[hr,ha,h]
end Go.Avm
namespace Go.Avm
open Go.Proofs
section
variable{L:List T}{s:RS}{p v:Int}{x:List UInt8}
theorem wv(h:bA L s=⟨4,p,x,v⟩)(y:List UInt8):br L s y=(x==y):=by
 unfold br;rw[h];rfl
theorem Ai{x:Int}(h1: -2000≤x)(h2:x≤2000):fJ x=x:=IntWalk.i64_in _ (by omega)
theorem HO(h:bA L s=⟨4,p,x,v⟩)(h1:(x==[40]||x==[91]||x==[123])=false)(h2:(x==[41]||x==[93]||x==[125])=false):aG L x s= .ok ⟨4,p,x,v⟩ s.nx:=by
 unfold aG;rw[wv h,h1,h2,h];simp
theorem Ct(h:bA L s=⟨4,p,x,v⟩)(h1:(x==[40]||x==[91]||x==[123])=false)(h2:(x==[41]||x==[93]||x==[125])=true)(ho: -100≤s.op∧s.op≤1000):aG L x s= .ok ⟨4,p,x,v⟩ ⟨s.i+1,s.op-1,s.n⟩:=by
 unfold aG;rw[wv h,h1,h2,h,Ai (x:=s.op-1) (by omega) (by omega)];simp
theorem Cu{c:UInt8}(h:bA L s=⟨4,p,[c],v⟩)(hc:c=41∨c=59∨c=93)(k:Int):di L k s=(0,0):=by
 have hi:=wv h;unfold di xI;rcases hc with rfl|rfl|rfl<;>simp only[gV,hi]<;>simp
end
theorem yD{ts:List (Nat×kq)}{n j:Nat}{x:Nat×kq}(h:ts[j]? =some x):(bk ts n).getD j default=NV x:=by
 have hj:j<ts.length:=(List.getElem?_eq_some_iff.1 h).1;simp only[bk,List.getD_eq_getElem?_getD];rw[List.getElem?_append_left (by simpa using hj),List.getElem?_map,h];rfl
theorem FG(ts:List (Nat×kq))(n:Nat):(bk ts n).getD ts.length default=⟨0,(n:Int),[],0⟩:=by
 simp only[bk,List.getD_eq_getElem?_getD];rw[List.getElem?_append_right (by simp)];simp
section
variable(P Q:List (Nat×kq))(x:Nat×kq)(a b k:Nat)
end
end Go.Avm
namespace Go.Avm
open Go.Proofs
def lx(i:Nat):UInt8:=UInt8.ofNat (97+i/26)
def ly(i:Nat):UInt8:=UInt8.ofNat (97+i % 26)
def pl(i:Nat):List UInt8:=[118,lx i,ly i]
def yE(i:Nat):List UInt8:=[108,101,116,32,118] ++[lx i,ly i] ++[58,32,105,110,116,59,32]
def f4:Nat→List UInt8
 |0=>[]
 |k+1=>f4 k ++yE k
def gP:Nat→Nat→List UInt8
 |_,0=>[]
 |i,k+1=>yE i ++gP (i+1) k
theorem tf:∀k i,gP i (k+1)=gP i k ++yE (i+k)
 |0,i=>by simp[gP]
 |k+1,i=>by
  rw[gP,tf k (i+1),gP,List.append_assoc,show i+1+k=i+(k+1) by omega]
theorem cB:∀k,f4 k=gP 0 k
 |0=>rfl
 |k+1=>by rw[tf,f4,cB k,Nat.zero_add]
theorem ce:∀k i,(gP i k).length=14*k
 |0,_=>rfl
 |k+1,i=>by rw[gP,List.length_append,ce k];simp only[yE,List.length_append,List.length_cons,List.length_nil];omega
def eH:List UInt8:=[102,110,32,109,97,105,110,40,41,58,32,105,110,116,32,123,32]
def cG:List UInt8:=[114,101,116,117,114,110,32,48,59,32,125]
def iU(k:Nat):List UInt8:=eH ++f4 k ++cG
theorem yF(k:Nat):(iU k).length=14*k+28:=by
 simp only[iU,cB,List.length_append,ce,eH,cG,List.length_cons,List.length_nil];omega
def N0(l:List UInt8):Nat:=match l with
 |[_,x,y]=>26*(x.toNat-97)+(y.toNat-97)
 |_=>0
theorem HP:((List.range 260).all fun i=>ki (lx i)&&ki (ly i)&& !fc (pl i)&&N0 (pl i)==i)=true:=by kernel_rfl
theorem tg{i:Nat}(h:i<260):ki (lx i)=true∧ki (ly i)=true∧fc (pl i)=false∧N0 (pl i)=i:=by
 have:=List.all_eq_true.1 HP i (List.mem_range.2 h);simpa [Bool.and_eq_true,and_assoc]using this
theorem KZ{i j:Nat}(hi:i<260)(hj:j<260)(h:pl i=pl j):i=j:=by
 rw[←(tg hi).2.2.2,h,(tg hj).2.2.2]
theorem K0{i:Nat}(h:i<260)(r:List UInt8):gY (118::lx i::ly i::58::r)= .ok (1,pl i,0):=by
 obtain⟨h1,h2,h3,_⟩:=tg h
 have ht:(118::lx i::ly i::58::r).takeWhile ki=pl i:=by
  have a:ki 118=true:=by decide
  have b:ki 58=false:=by decide
  simp only[List.takeWhile,a,b,h1,h2,pl]
 have a1:bM 118=false:=by decide
 have a2:ma 118=true:=by decide
 simp only[gY,ht,h3,a1,a2];simp[pl]
def jj:Nat→Nat→Nat→List (Nat×kq)
 |_,_,0=>[]
 |i,a,k+1=>(a,(2,[108,101,116],0))::(a+4,(1,pl i,0))::(a+7,(4,[58],0))::(a+9,(2,[105,110,116],0))::(a+12,(4,[59],0))::jj (i+1) (a+14) k
theorem jS:∀k i a,(jj i a k).length=5*k
 |0,_,_=>rfl
 |k+1,i,a=>by simp only[jj,List.length_cons,jS k];omega
theorem yG{n:Nat}{c:UInt8}{r:List UInt8}{ts:List (Nat×kq)}{i a:Nat}(hc:∀y:List UInt8,bN false (32::c::y)=1)(hi:i<260)(h:cZ n (c::r) (a+14)= .ok ts):
    cZ (n+5) (yE i ++c::r) a= .ok ((a,(2,[108,101,116],0))::(a+4,(1,pl i,0))::(a+7,(4,[58],0))::(a+9,(2,[105,110,116],0))::(a+12,(4,[59],0))::ts):=by
 have e:yE i ++c::r=108::101::116::32::118::lx i::ly i::58::32::105::110::116::59::32::c::r:=rfl;rw[e];refine bH (t:=(2,[108,101,116],0)) (r2:=118::lx i::ly i::58::32::105::110::116::59::32::c::r) (a2:=a+4) rfl rfl rfl ?_;refine bH (t:=(1,pl i,0)) (r2:=58::32::105::110::116::59::32::c::r) (a2:=a+7) (K0 hi _) rfl rfl ?_;refine bH (t:=(4,[58],0)) (r2:=105::110::116::59::32::c::r) (a2:=a+9) rfl rfl rfl ?_;refine bH (t:=(2,[105,110,116],0)) (r2:=59::32::c::r) (a2:=a+12) rfl rfl rfl ?_;refine bH (t:=(4,[59],0)) (r2:=c::r) (a2:=a+14) rfl ?_ ?_ h
 ·show(32::c::r).drop (bN false (32::c::r))=c::r
  rw[hc];rfl
 ·show a+12+1+bN false (32::c::r)=a+14
  rw[hc]
theorem uL{n:Nat}{c:UInt8}{r:List UInt8}{ts:List (Nat×kq)}(hc:∀y:List UInt8,bN false (32::c::y)=1):∀k i a,i+k≤260→cZ n (c::r) (a+14*k)= .ok ts→cZ (n+5*k) (gP i k ++c::r) a= .ok (jj i a k ++ts)
 |0,_,_,_,h=>h
 |k+1,i,a,hi,h=>by
  have ih:=uL hc k (i+1) (a+14) (by omega) (by rw[←h];congr 1;omega);rw[show n+5*(k+1)=n+5*k+5 by omega,gP,List.append_assoc];cases k with
  |zero=>exact yG hc (by omega) ih
  |succ k=>
   have e:gP (i+1) (k+1) ++c::r=108::(101::116::32::118::lx (i+1)::ly (i+1)::58::32::105::110::116::59::32::(gP (i+1+1) k ++c::r)):=rfl;rw[e]at ih ⊢;exact yG (fun _=>rfl) (by omega) ih
def pL:List (Nat×kq):=[(0,(2,[102,110],0)),(3,(1,[109,97,105,110],0)),(7,(4,[40],0)),(8,(4,[41],0)),(9,(4,[58],0)),(11,(2,[105,110,116],0)),(15,(4,[123],0))]
def Lw(a:Nat):List (Nat×kq):=[(a,(2,[114,101,116,117,114,110],0)),(a+7,(3,[48],0)),(a+8,(4,[59],0)),(a+10,(4,[125],0))]
theorem uM{n:Nat}{c:UInt8}{r:List UInt8}{ts:List (Nat×kq)}(hc:∀y:List UInt8,bN false (32::c::y)=1)(h:cZ n (c::r) 17= .ok ts):cZ (n+7) (eH ++c::r) 0= .ok (pL ++ts):=by
 have e:eH ++c::r=102::110::32::109::97::105::110::40::41::58::32::105::110::116::32::123::32::c::r:=rfl;rw[e];refine bH (t:=(2,[102,110],0)) (r2:=109::97::105::110::40::41::58::32::105::110::116::32::123::32::c::r) (a2:=3) rfl rfl rfl ?_;refine bH (t:=(1,[109,97,105,110],0)) (r2:=40::41::58::32::105::110::116::32::123::32::c::r) (a2:=7) rfl rfl rfl ?_;refine bH (t:=(4,[40],0)) (r2:=41::58::32::105::110::116::32::123::32::c::r) (a2:=8) rfl rfl rfl ?_;refine bH (t:=(4,[41],0)) (r2:=58::32::105::110::116::32::123::32::c::r) (a2:=9) rfl rfl rfl ?_;refine bH (t:=(4,[58],0)) (r2:=105::110::116::32::123::32::c::r) (a2:=11) rfl rfl rfl ?_;refine bH (t:=(2,[105,110,116],0)) (r2:=123::32::c::r) (a2:=15) rfl rfl rfl ?_;refine bH (t:=(4,[123],0)) (r2:=c::r) (a2:=17) rfl ?_ ?_ h
 ·show(32::c::r).drop (bN false (32::c::r))=c::r
  rw[hc];rfl
 ·show 15+1+bN false (32::c::r)=17
  rw[hc]
theorem Aj(n a:Nat):cZ (n+1+4) cG a= .ok (Lw a):=by
 unfold cG;refine bH (t:=(2,[114,101,116,117,114,110],0)) (r2:=48::59::32::125::([]:List UInt8)) (a2:=a+7) rfl rfl rfl ?_;refine bH (t:=(3,[48],0)) (r2:=59::32::125::([]:List UInt8)) (a2:=a+8) rfl rfl rfl ?_;refine bH (t:=(4,[59],0)) (r2:=125::([]:List UInt8)) (a2:=a+10) rfl rfl rfl ?_;refine bH (t:=(4,[125],0)) (r2:=([]:List UInt8)) (a2:=a+11) rfl rfl rfl ?_;rfl
def fH(k:Nat):List (Nat×kq):=pL ++(jj 0 17 k ++Lw (17+14*k))
theorem FH(k:Nat)(hk:k≤260):ji (iU k)= .ok (fH k):=by
 have hl:=yF k;have h1:=Aj (9*k+17) (17+14*k);have h2:=uL (fun _=>rfl) k 0 17 (by omega) h1;unfold ji;have h0:bN false (iU k)=0:=rfl;rw[h0,List.drop_zero,hl];have e:iU k=eH ++(gP 0 k ++cG):=by rw[iU,cB,List.append_assoc]
 rw[e,show 14*k+28+1=9*k+17+1+4+5*k+7 by omega];cases k with
 |zero=>exact uM (fun _=>rfl) h2
 |succ k=>
  have e:gP 0 (k+1) ++cG=108::(101::116::32::118::lx 0::ly 0::58::32::105::110::116::59::32::(gP (0+1) k ++cG)):=rfl;have h3:cZ (9*(k+1)+17+1+4+5*(k+1)) (108::(101::116::32::118::lx 0::ly 0::58::32::105::110::116::59::32::(gP (0+1) k ++cG))) 17= .ok (jj 0 17 (k+1) ++Lw (17+14*(k+1))):=h2;rw[e];exact uM (fun _=>rfl) h3
theorem uN:∀k i a j,j<k→(jj i a k)[5*j]? =some (a+14*j,(2,[108,101,116],0))∧(jj i a k)[5*j+1]? =some (a+14*j+4,(1,pl (i+j),0))∧(jj i a k)[5*j+2]? =some (a+14*j+7,(4,[58],0))∧(jj i a k)[5*j+3]? =some (a+14*j+9,(2,[105,110,116],0))∧(jj i a k)[5*j+4]? =some (a+14*j+12,(4,[59],0))
 |0,_,_,_,h=>by omega
 |k+1,i,a,0,_=>⟨rfl,rfl,rfl,rfl,rfl⟩
 |k+1,i,a,j+1,h=>by
  have:=uN k (i+1) (a+14) j (by omega);rw[jj];have e:∀c,5*(j+1)+c=5*j+c+1+1+1+1+1:=fun c=>by omega
  have e0:5*(j+1)=5*j+1+1+1+1+1:=by omega
  rw[e 1,e 2,e 3,e 4,e0];simp only[List.getElem?_cons_succ];rw[show a+14*(j+1)=a+14+14*j by omega,show i+(j+1)=i+1+j by omega];exact this
end Go.Avm
namespace Go.Avm
open Go.Proofs
def gQ:Nat→Nat→Nat→Nat→List bt
 |_,_,_,0=>[]
 |i,a,q,k+1=> .mk 1 ((q+1:Nat):Int) (pl i) 1 0 (a:Int) [] [] []::gQ (i+1) (a+14) (q+1) k
section
variable{L:List T}{s:RS}
theorem ww{x:List UInt8}{p v:Int}{k:Int}(hk:(k==2||k==4)=true)(h:bA L s=⟨k,p,x,v⟩)(h1:(x==[40]||x==[91]||x==[123])=false)(h2:(x==[41]||x==[93]||x==[125])=false):aG L x s= .ok ⟨k,p,x,v⟩ s.nx:=by
 unfold aG;have ht:br L s x=true:=by unfold br;rw[h];simp only[hk];simp
 rw[ht,h1,h2,h];simp
theorem Ak{x y:List UInt8}{p v k:Int}(h:bA L s=⟨k,p,x,v⟩)(hx:(x==y)=false):b8 L y s= .ok false s:=by
 unfold b8;have ht:br L s y=false:=by unfold br;rw[h];simp only[hx,Bool.and_false]
 rw[ht];rfl
theorem wx{x:List UInt8}{p v:Int}{k:Int}(hk:(k==2||k==4)=true)(h:bA L s=⟨k,p,x,v⟩)(h1:(x==[40]||x==[91]||x==[123])=false)(h2:(x==[41]||x==[93]||x==[125])=false):b8 L x s= .ok true s.nx:=by
 unfold b8;have ht:br L s x=true:=by unfold br;rw[h];simp only[hk];simp
 rw[ht,ww hk h h1 h2];rfl
end
theorem FI{L:List T}{i q a N:Nat}{o:Int}{nm:List UInt8}{p1 p2 p3 p4:Int}(hq:q<1000)(h0:L.getD i default=⟨2,(a:Int),[108,101,116],0⟩)(h1:L.getD (i+1) default=⟨1,p1,nm,0⟩)(h2:L.getD (i+2) default=⟨4,p2,[58],0⟩)(h3:L.getD (i+3) default=⟨2,p3,[105,110,116],0⟩)(h4:L.getD (i+4) default=⟨4,p4,[59],0⟩):
    dU L (N+1) ⟨i,o,(q:Int)⟩= .ok (.mk 1 ((q+1:Nat):Int) nm 1 0 (a:Int) [] [] []) ⟨i+5,o,((q+1:Nat):Int)⟩:=by
 have e:RS.st ⟨i,o,(q:Int)⟩=⟨i,o,((q+1:Nat):Int)⟩:=by unfold RS.st;dsimp only;rw[Ai (by omega) (by omega)];rfl
 have m0:=wx (s:=⟨i,o,((q+1:Nat):Int)⟩) rfl h0 rfl rfl;have c0:bA L ⟨i,o,((q+1:Nat):Int)⟩=⟨2,(a:Int),[108,101,116],0⟩:=h0;have c1:bA L ⟨i+1,o,((q+1:Nat):Int)⟩=⟨1,p1,nm,0⟩:=h1;have w2:=ww (s:=⟨i+1+1,o,((q+1:Nat):Int)⟩) rfl h2 rfl rfl;have m3:=wx (s:=⟨i+1+1+1,o,((q+1:Nat):Int)⟩) rfl h3 rfl rfl;have m4:=Ak (s:=⟨i+1+1+1+1,o,((q+1:Nat):Int)⟩) (y:=[61]) h4 rfl;have w4:=ww (s:=⟨i+1+1+1+1,o,((q+1:Nat):Int)⟩) rfl h4 rfl rfl;have t1:dT L 1 ⟨i+1,o,((q+1:Nat):Int)⟩= .ok ⟨1,p1,nm,0⟩ ⟨i+1+1,o,((q+1:Nat):Int)⟩:=by unfold dT;rw[c1];rfl
 rw[dU,e];simp only[m0,RS.nx,Res.bind,cond_true,jI,t1,w2,eB,fD,m3,m4,w4,cond_false,c0];rfl
theorem uO{L:List T}{o:Int}{N:Nat}:∀(k i j q a:Nat)(l:List bt),q+k<1000→
    (∀m,m<k→L.getD (i+5*m) default=⟨2,((a+14*m:Nat):Int),[108,101,116],0⟩∧(∃p,L.getD (i+5*m+1) default=⟨1,p,pl (j+m),0⟩)∧(∃p,L.getD (i+5*m+2) default=⟨4,p,[58],0⟩)∧(∃p,L.getD (i+5*m+3) default=⟨2,p,[105,110,116],0⟩)∧(∃p,L.getD (i+5*m+4) default=⟨4,p,[59],0⟩))→
    bT L (N+k+1) l ⟨i,o,(q:Int)⟩=bT L (N+1) (l ++gQ j a q k) ⟨i+5*k,o,((q+k:Nat):Int)⟩
 |0,i,j,q,a,l,_,_=>by simp[gQ]
 |k+1,i,j,q,a,l,hq,h=>by
  obtain⟨h0,⟨p1,h1⟩,⟨p2,h2⟩,⟨p3,h3⟩,⟨p4,h4⟩⟩:=h 0 (by omega);have r:=FI (N:=N+k) (o:=o) (q:=q) (by omega) h0 h1 h2 h3 h4
  have ih:=uO (L:=L) (o:=o) (N:=N) k (i+5) (j+1) (q+1) (a+14) (l ++[.mk 1 ((q+1:Nat):Int) (pl j) 1 0 (a:Int) [] [] []]) (by omega) fun m hm=>by
   have:=h (m+1) (by omega);have e:∀c,i+5*(m+1)+c=i+5+5*m+c:=fun c=>by omega
   rw[e 1,e 2,e 3,e 4,show i+5*(m+1)=i+5+5*m by omega,show a+14*(m+1)=a+14+14*m by omega,show j+(m+1)=j+1+m by omega]at this;exact this
  have c0:bA L ⟨i,o,(q:Int)⟩=⟨2,(a:Int),[108,101,116],0⟩:=h0;have s0:br L ⟨i,o,(q:Int)⟩ [125]=false:=by unfold br;rw[c0];rfl
  rw[show N+(k+1)+1=N+k+1+1 by omega,bT,s0];simp only[cond_false];have r':dU L (N+k+1) ⟨i,o,(q:Int)⟩= .ok (.mk 1 ((q+1:Nat):Int) (pl j) 1 0 (a:Int) [] [] []) ⟨i+5,o,((q+1:Nat):Int)⟩:=r;rw[r'];simp only[Res.bind];rw[ih,gQ,List.append_assoc,show i+5+5*k=i+5*(k+1) by omega,show q+1+k=q+(k+1) by omega];rfl
def QC(L:List T)(m:Nat)(r:Res (List bt)):Res (List Fn):=((r.bind fun l s2=>(aG L [125] s2).bind fun _ s3=> .ok l s3).bind fun l s6=> .ok ⟨[109,97,105,110],[],1,l,0⟩ s6).bind fun f s1=>jJ L (m+60) (m+60) [f] s1
theorem QD(R:List (Nat×kq))(n m:Nat):fX (bk (pL ++R) n) (m+60)=QC (bk (pL ++R) n) m (bT (bk (pL ++R) n) (m+59) [] ⟨7,1,0⟩):=by kernel_rfl
def lJ(q a:Nat):bt:= .mk 6 ((q+1:Nat):Int) [] 0 0 (a:Int) [.mk 1 0 [] 0 ((a+7:Nat):Int) []] [] []
def tO(k:Nat):List Fn:=[⟨[109,97,105,110],[],1,gQ 0 17 0 k ++[lJ k (17+14*k)],0⟩]
section
variable(k n:Nat)
theorem oB(j:Nat)(h:j<k)(c:Nat)(x:Nat×kq)(hx:(jj 0 17 k)[5*j+c]? =some x):(bk (fH k) n).getD (7+5*j+c) default=NV x:=by
 refine yD ?_;have hl:5*j+c<(jj 0 17 k).length:=(List.getElem?_eq_some_iff.1 hx).1;rw[fH,List.getElem?_append_right (by simp only[pL,List.length_cons,List.length_nil];omega),List.getElem?_append_left (by simp only[pL,List.length_cons,List.length_nil];omega),←hx];congr 1;simp only[pL,List.length_cons,List.length_nil];omega
theorem oC(c:Nat)(x:Nat×kq)(hx:(Lw (17+14*k))[c]? =some x):(bk (fH k) n).getD (7+5*k+c) default=NV x:=by
 refine yD ?_;rw[fH,List.getElem?_append_right (by simp only[pL,List.length_cons,List.length_nil];omega),List.getElem?_append_right (by rw[jS];simp only[pL,List.length_cons,List.length_nil];omega),←hx];congr 1;rw[jS];simp only[pL,List.length_cons,List.length_nil];omega
theorem HQ:(bk (fH k) n).getD (7+5*k+4) default=⟨0,(n:Int),[],0⟩:=by
 have:=FG (fH k) n;rw[show(fH k).length=7+5*k+4 by simp only[fH,List.length_append,jS,pL,Lw,List.length_cons,List.length_nil];omega]at this;exact this
end
theorem FJ{L:List T}{n:Nat}{l:List bt}{s:RS}(h:br L s [125]=true):bT L (n+1) l s= .ok l s:=by rw[bT,h];rfl
theorem FK(k n m:Nat)(hk:k<300)(hm:k+20≤m):∃s,fX (bk (fH k) n) (m+60)= .ok (tO k) s:=by
 have e:fX (bk (fH k) n) (m+60)=QC (bk (fH k) n) m (bT (bk (fH k) n) (m+59) [] ⟨7,1,0⟩):=QD _ n m;obtain⟨N,hN⟩:∃N,m+58=N+10+k:=⟨m+48-k,by omega⟩
 have r:=uO (L:=bk (fH k) n) (o:=1) (N:=N+10) k 7 0 0 17 [] (by omega) fun j hj=>by
  obtain⟨g0,g1,g2,g3,g4⟩:=uN k 0 17 j hj;exact⟨oB k n j hj 0 _ g0,⟨_,oB k n j hj 1 _ g1⟩,⟨_,oB k n j hj 2 _ g2⟩,⟨_,oB k n j hj 3 _ g3⟩,⟨_,oB k n j hj 4 _ g4⟩⟩
 have t0:=oC k n 0 _ rfl;have t1:=oC k n 1 _ rfl;have t2:=oC k n 2 _ rfl;have t3:=oC k n 3 _ rfl;have t4:=HQ k n
 have r':bT (bk (fH k) n) (m+59) [] ⟨7,1,0⟩=bT (bk (fH k) n) (N+10+1) ([] ++gQ 0 17 0 k) ⟨7+5*k,1,((0+k:Nat):Int)⟩:=by
  rw[show m+59=N+10+k+1 by omega];exact r
 rw[e,r'];generalize bk (fH k) n=L at*;generalize hI:7+5*k=I at*;have es:RS.st ⟨I,1,((0+k:Nat):Int)⟩=⟨I,1,((k+1:Nat):Int)⟩:=by unfold RS.st;dsimp only;rw[Ai (by omega) (by omega)];congr 1;omega
 have c0:bA L ⟨I,1,((0+k:Nat):Int)⟩=⟨2,((17+14*k:Nat):Int),[114,101,116,117,114,110],0⟩:=t0;have c0':bA L ⟨I,1,((k+1:Nat):Int)⟩=⟨2,((17+14*k:Nat):Int),[114,101,116,117,114,110],0⟩:=t0;have c1:bA L ⟨I+1,1,((k+1:Nat):Int)⟩=⟨3,((17+14*k+7:Nat):Int),[48],0⟩:=t1;have c2:bA L ⟨I+1+1,1,((k+1:Nat):Int)⟩=⟨4,((17+14*k+8:Nat):Int),[59],0⟩:=t2;have c3:bA L ⟨I+1+1+1,1,((k+1:Nat):Int)⟩=⟨4,((17+14*k+10:Nat):Int),[125],0⟩:=t3;have c4:bA L ⟨I+1+1+1+1,0,((k+1:Nat):Int)⟩=⟨0,(n:Int),[],0⟩:=t4;have s0:br L ⟨I,1,((0+k:Nat):Int)⟩ [125]=false:=by unfold br;rw[c0];rfl
 have n1:∀y:List UInt8,([114,101,116,117,114,110]==y)=false→b8 L y ⟨I,1,((k+1:Nat):Int)⟩= .ok false ⟨I,1,((k+1:Nat):Int)⟩:=fun y hy=>Ak c0' hy
 have y1:=wx rfl c0' rfl rfl;have i1:br L ⟨I+1,1,((k+1:Nat):Int)⟩ [59]=false:=by unfold br;rw[c1];rfl
 have n2:∀y:List UInt8,([48]==y)=false→b8 L y ⟨I+1,1,((k+1:Nat):Int)⟩= .ok false ⟨I+1,1,((k+1:Nat):Int)⟩:=fun y hy=>Ak c1 hy
 have k3:((3:Int)==3)=true:=rfl;have hs:=Cu (L:=L) (s:=⟨I+1+1,1,((k+1:Nat):Int)⟩) c2 (.inr (.inl rfl)) 1;have w2:=HO (s:=⟨I+1+1,1,((k+1:Nat):Int)⟩) c2 rfl rfl;have i3:=wv (s:=⟨I+1+1+1,1,((k+1:Nat):Int)⟩) c3 [125];have w3:=Ct (s:=⟨I+1+1+1,1,((k+1:Nat):Int)⟩) c3 rfl rfl ⟨by simp,by simp⟩
 have ex:∀M,bw L (M+2) 1 ⟨I+1,1,((k+1:Nat):Int)⟩= .ok (.mk 1 0 [] 0 ((17+14*k+7:Nat):Int) []) ⟨I+1+1,1,((k+1:Nat):Int)⟩:=fun M=>by
  simp only[bw,gA,n2 [45] rfl,n2 [126] rfl,n2 [33] rfl,Res.bind,cond_false,c1,k3,cond_true,RS.nx,d9,hs];rfl
 have st:dU L (N+10) ⟨I,1,((0+k:Nat):Int)⟩= .ok (lJ k (17+14*k)) ⟨I+1+1+1,1,((k+1:Nat):Int)⟩:=by
  rw[dU,es];simp only[n1 [108,101,116] rfl,n1 [105,102] rfl,n1 [119,104,105,108,101] rfl,y1,RS.nx,Res.bind,cond_false,cond_true,i1,ex (N+7),w2,c0',lJ]
 have ss:bT L (N+10+1) ([] ++gQ 0 17 0 k) ⟨I,1,((0+k:Nat):Int)⟩= .ok (gQ 0 17 0 k ++[lJ k (17+14*k)]) ⟨I+1+1+1,1,((k+1:Nat):Int)⟩:=by
  rw[bT,s0,cond_false,st];simp only[Res.bind,List.nil_append];exact FJ (i3.trans rfl)
 refine⟨⟨I+1+1+1+1,0,((k+1:Nat):Int)⟩, ?_⟩;simp only[QC,ss,Res.bind,w3];show jJ L (m+60) (m+60) [⟨[109,97,105,110],[],1,gQ 0 17 0 k ++[lJ k (17+14*k)],0⟩] ⟨I+1+1+1+1,0,((k+1:Nat):Int)⟩=_;rw[jJ,c4];rfl
theorem FL(k:Nat)(h1:10≤k)(hk:k<260):pV (iU k)= .ok (tO k):=by
 have hl:=yF k;have ht:(fH k).length=7+5*k+4:=by simp only[fH,List.length_append,jS,pL,Lw,List.length_cons,List.length_nil];omega
 have hf:fuel (bk (fH k) (iU k).length)=20*k-11+60:=by
  simp only[fuel,bk,List.length_append,List.length_map,ht,List.length_cons,List.length_nil];omega
 obtain⟨s,hs⟩:=FK k (iU k).length (20*k-11) (by omega) (by omega);unfold pV;rw[if_neg (by omega),FH k (by omega)];dsimp only;rw[hf,hs]
end Go.Avm
