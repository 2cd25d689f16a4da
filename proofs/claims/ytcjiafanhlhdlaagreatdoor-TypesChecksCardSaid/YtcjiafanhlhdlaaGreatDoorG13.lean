/-
  The scanner of texts, part K: the next token, told of what is left of the text.
-/
import Derived.Test.YtcjiafanhlhdlaaGreatDoorG12
import Derived.Test.YtcjiafanhlhdlaaGreatDoorG08
import Derived.Test.YtcjiafanhlhdlaaGreatDoorG11
set_option linter.unusedVariables false
set_option linter.unusedSimpArgs false
set_option linter.unusedSectionVars false
namespace Go.Avm
open Go.Proofs
abbrev tj:=Int×List UInt8×Int
def SH(b:UInt8):Bool:=E6 65 b&&E7 b 90
def HP:List UInt8→Bool
 |[]=>false
 |b::_=>mR b||SH b
def T2(b:UInt8):Bool:=decide (0≤B5 b)
def vH(b:UInt8)(r:List UInt8):List UInt8:=
 match r with
 |[]=>if T2 b then [b]else []
 |c::_=>if nY.contains [b,c]then [b,c]else if T2 b then [b]else []
def iK:List UInt8→Except Int tj
 |[]=> .error 4
 |b::r=>
  if b0 b then
   if 9223372036854775808≤dv 0 ((b::r).takeWhile b0)then .error 2
   else if (decide (1<((b::r).takeWhile b0).length)&&b.toNat==48)||HP ((b::r).drop ((b::r).takeWhile b0).length)then .error 4
   else .ok (3,(b::r).takeWhile b0,dv 0 ((b::r).takeWhile b0))
  else if mR b then
   if gI ((b::r).takeWhile pY)then .ok (2,(b::r).takeWhile pY,0)
   else if 12<((b::r).takeWhile pY).length then .error 2 else .ok (1,(b::r).takeWhile pY,0)
  else if vH b r=[]then .error 4 else .ok (4,vH b r,0)
theorem KA(p:UInt8→Bool)(l:List UInt8):l.take (l.takeWhile p).length=l.takeWhile p:=(List.prefix_iff_eq_take.1 (List.takeWhile_prefix p)).symm
theorem L8(p:UInt8→Bool)(l:List UInt8):(l.takeWhile p).length≤l.length:=(List.takeWhile_sublist p).length_le
theorem HQ(p:UInt8→Bool)(s:List UInt8)(a:Nat):sub s a (a+fH p (s.drop a))=(s.drop a).takeWhile p:=by
 unfold sub fH;rw[List.drop_take,Nat.add_sub_cancel_left,KA]
theorem HS(s:List UInt8)(a:Nat):rst s a=s.drop a:=by rw[rst,List.take_length]
theorem KB(t:List UInt8)(k:Nat):oX t k=t.take k:=by rw[oX,xn]
theorem HT(s:List UInt8)(a:Nat)(b:UInt8)(r:List UInt8)(h:s.drop a=b::r):so s a b=vH b r:=by
 unfold so vH;simp only[HS,KB,h];cases r with
 |nil=>simp[T2]
 |cons c r=>
  have:decide (2≤((b::c::r).length:Int))=true:=by simp only[xG,xw];omega
  rw[this,Bool.true_and];simp[T2]
theorem HU(p:UInt8→Bool)(b:UInt8)(r:List UInt8)(h:p b=true):∃t,(b::r).takeWhile p=b::t:=⟨r.takeWhile p,by simp[h]⟩
theorem HV(p:UInt8→Bool):∀(l:List UInt8),∀x∈l.takeWhile p,p x=true
 |[],x,a=>by simp at a
 |b::r,x,a=>by
  by_cases c:p b=true
  ·rw[yu,xf c]at a
   rcases x0.1 a with rfl|a
   ·exact c
   ·exact HV p r x a
  ·rw[yu,xo c]at a
   simp at a
theorem EM{b:UInt8}(h:mR b=true):pY b=true:=by simp[pY,h]
theorem Ab(b:UInt8)(r:List UInt8):vH b r<+:b::r:=by
 unfold vH;cases r with
 |nil=>dsimp only;split<;>simp
 |cons c r=>
  dsimp only;split
  ·exact⟨r,rfl⟩
  ·split
   ·exact⟨c::r,rfl⟩
   ·exact List.nil_prefix
theorem sr{b:UInt8}{r:List UInt8}{kd n:Int}{t:List UInt8}(h:iK (b::r)= .ok (kd,t,n)):t<+:b::r∧t≠[]:=by
 rw[iK]at h;split at h
 ·rename_i d
  split at h
  ·cases h
  ·split at h
   ·cases h
   ·cases h
    refine⟨List.takeWhile_prefix _, ?_⟩;obtain⟨u,a⟩:=HU b0 b r d;rw[a];simp
 ·split at h
  ·rename_i e
   obtain⟨u,a⟩:=HU pY b r (EM e);split at h
   ·cases h
    exact⟨List.takeWhile_prefix _,by rw[a];simp⟩
   ·split at h
    ·cases h
    ·cases h
     exact⟨List.takeWhile_prefix _,by rw[a];simp⟩
  ·split at h
   ·cases h
   ·rename_i c
    cases h;exact⟨Ab b r,c⟩
def Ad(w:Bool)(s:List UInt8)(a v m:Nat)(l:List D):Except Int tj→Prop
 | .error k=>∃d c,k≠0∧∀b:aa,am Pg 38 [fK] (ae (eh w s a v m l) b) [dI k] (ae (eh d s a v c l) b)
 | .ok (kd,t,n)=>∃d c,∀b:aa,am Pg 38 [fK] (ae (eh w s a v m l) b) [dI 0] (ae (eh d s (a+t.length) (v+1) c (l ++[nU kd a t n])) b)
section
variable(w:Bool)(s:List UInt8)(a v m:Nat)(l:List D)
theorem KC(b:UInt8)(r:List UInt8)(n:a<s.length)(B:s.drop a=b::r)(C:s[((a:Nat):Int).toNat]? =some b)(g:s.length≤100000)(D:l.length+1≤549755813888)(k:b0 b=true):Ad w s a v m l (iK (b::r)):=by
 have i:cO s a=(b::r).takeWhile b0:=by rw[cO,HQ,B]
 obtain⟨t,q⟩:=HU b0 b r k;have d:=HV b0 (b::r);have K:=L8 b0 (b::r);have L:(b::r).length=s.length-a:=by rw[←B,yc]
 have J:a+(cO s a).length≤s.length:=by rw[i];omega
 have E:(cO s a)[(0:Int).toNat]? =some b:=by rw[i,q];rfl
 have z:∀c,s[a+(cO s a).length]? =some c→(b::r).drop ((b::r).takeWhile b0).length=c::((b::r).drop ((b::r).takeWhile b0).length).tail:=fun c A=>by
  have:((b::r).drop ((b::r).takeWhile b0).length).head? =some c:=by
   rw[i,←B]at A;rw[List.head?_drop,←B,xu];exact A
  cases I:(b::r).drop ((b::r).takeWhile b0).length with
  |nil=>rw[I]at this;simp at this
  |cons x y=>rw[I]at this;simp at this;subst this;rfl
 by_cases p:9223372036854775808≤dv 0 ((b::r).takeWhile b0)
 ·have e:iK (b::r)= .error 2:=by rw[iK,xf k,xf p]
  rw[e]
  obtain⟨c,A⟩:∃c,decide (((a+(cO s a).length:Nat):Int)<(s.length:Int))=true→s[((a+(cO s a).length:Nat):Int).toNat]? =some c:=by
   by_cases o:a+(cO s a).length<s.length
   ·exact⟨s[a+(cO s a).length],fun _=>by simp only[xb];exact xD o⟩
   ·exact⟨0,fun h=>by have:=xe h;omega⟩
  refine⟨w,m,by decide,sq w s a v m l b n C k 2 (HO w s a v m l b c n g E 9223372036854775807 ?_ (by omega) D A)⟩;rw[i];rw[q]at p d ⊢;exact HN b t d (by rw[←q];omega) p
 ·have hp:aF Pg 93 [.str (cO s a), .int .i64 10, .int .i64 64] [.int .i64 (dv 0 (cO s a):Int), .nili]:=by
    rw[i];rw[q]at p d ⊢;exact Kx b t d (by rw[←q];omega) (by omega)
  obtain⟨c,x,o,u,j⟩:∃c x,decide (((a+(cO s a).length:Nat):Int)<(s.length:Int))=x∧(x=true→s[((a+(cO s a).length:Nat):Int).toNat]? =some c)∧HP ((b::r).drop ((b::r).takeWhile b0).length)=(x&&(mR c||(E6 65 c&&E7 c 90))):=by
   by_cases o:a+(cO s a).length<s.length
   ·have G:s[a+(cO s a).length]? =some s[a+(cO s a).length]:=xD o
    refine⟨s[a+(cO s a).length],true,by simp only[xw];omega,fun _=>by simp only[xb];exact G, ?_⟩;rw[z _ G];rfl
   ·refine⟨0,false,by simp only[x6];omega,fun h=>(by cases h), ?_⟩
    have:(b::r).drop ((b::r).takeWhile b0).length=[]:=xx.2 (by rw[←i];omega);rw[this];rfl
  have F:decide (1<((cO s a).length:Int))=decide (1<((b::r).takeWhile b0).length):=by rw[i];exact decide_eq_decide.2 (by omega)
  have H:((b.toNat:Int)==48)=(b.toNat==48):=by
   rw[Bool.eq_iff_iff];simp only[yI];omega
  by_cases f:B7 (decide (1<((b::r).takeWhile b0).length)) (b.toNat==48) x (mR c) (E6 65 c) (E7 c 90)=true
  ·have e:iK (b::r)= .error 4:=by
     rw[iK,xf k,xo p,xf];rw[j];exact f
   rw[e];exact⟨w,m,by decide,sq w s a v m l b n C k 4 (Ky w s a v m l b c n g E _ hp (by omega) D _ _ _ _ _ _ F H o u rfl rfl rfl f)⟩
  ·have e:iK (b::r)= .ok (3,(b::r).takeWhile b0,dv 0 ((b::r).takeWhile b0)):=by
     rw[iK,xf k,xo p,xo];rw[j];exact f
   rw[e,←i];exact⟨w,m,EL w s a v m l b n C k _ _ _ (SG w s a v m l b c n g E _ hp (by omega) D _ _ _ _ _ _ F H o u rfl rfl rfl (by simpa only[Bool.not_eq_true]using f))⟩
theorem SI(b:UInt8)(r:List UInt8)(i:a<s.length)(h:s.drop a=b::r)(c:s.length≤100000)(k:l.length+1≤549755813888):Ad w s a v m l (iK (b::r)):=by
 have t:s[a]? =some b:=by
  have:(s.drop a)[0]? =some b:=by rw[h];rfl
  rwa [xu,yo]at this
 have j:s[((a:Nat):Int).toNat]? =some b:=by simpa using t
 have y:(b::r).length=s.length-a:=by rw[←h,yc]
 cases d:b0 b with
 |true=>exact KC w s a v m l b r i h j c k d
 |false=>
  cases g:mR b with
  |true=>
   have p:oV s a=(b::r).takeWhile pY:=by rw[oV,HQ,h]
   have x:=L8 pY (b::r);have f:a+(oV s a).length≤1099511627776:=by rw[p];omega
   have e:iK (b::r)=(if gI (oV s a)then .ok (2,oV s a,0)else if 12<(oV s a).length then .error 2 else .ok (1,oV s a,0)):=by
    rw[iK,xo (by simp[d]),xf g,p]
   rw[e];cases u:gI (oV s a)with
   |true=>exact⟨_,_,HA w s a v m l b i j c d g u k f⟩
   |false=>
    rw[xo (by simp)];by_cases n:12<(oV s a).length
    ·rw[xf n]
     exact⟨_,_,by decide,HD w s a v m l b i j c d g u (by simp only[xw];omega) k f⟩
    ·rw[xo n]
     exact⟨_,_,HB w s a v m l b i j c d g u (by simp only[x6];omega) k f⟩
  |false=>
   have e:iK (b::r)=(if vH b r=[]then .error 4 else .ok (4,vH b r,0)):=by
    rw[iK,xo (by simp[d]),xo (by simp[g])]
   have p:=HT s a b r h;have o:(rst s a)[(0:Int).toNat]? =some b:=by rw[HS,h];rfl
   have x:=(Ab b r).length_le;rw[e];by_cases q:vH b r=[]
   ·rw[xf q]
    exact⟨_,_,by decide,HI w s a v m l b i j o d g _ p (by rw[q];rfl) k (by omega)⟩
   ·rw[xo q]
    exact⟨_,_,HH w s a v m l b i j o d g _ p (by simpa using q) k (by omega)⟩
end
end Go.Avm
namespace Go.Avm
open Go.Proofs
def f3:Nat→List UInt8→Nat→Except (Nat×Int) (List (Nat×tj))
 |0,_,_=> .ok []
 |_+1,[],_=> .ok []
 |n+1,b::r,a=>match iK (b::r)with
  | .error k=> .error (a,k)
  | .ok t=>match f3 n (((b::r).drop t.2.1.length).drop (cL false ((b::r).drop t.2.1.length))) (a+t.2.1.length+cL false ((b::r).drop t.2.1.length))with
   | .error e=> .error e
   | .ok ts=> .ok ((a,t)::ts)
def kj(s:List UInt8):Except (Nat×Int) (List (Nat×tj)):=f3 (s.length+1) (s.drop (cL false s)) (cL false s)
def ss(x:Nat×tj):D:=nU x.2.1 x.1 x.2.2.1 x.2.2.2
def EN(s:List UInt8):List (Nat×AV):=[(0, .d (.str s)),(5,fK)]
section
variable(w b:Bool)(s:List UInt8)(a v m:Nat)(l:List D)
noncomputable def Ae(q:a<s.length)(e f n:Nat)(j:List D)(k:Int)(z:Bool)(o:(k !=0)=z)(d:s.length≤100000)(h:e≤s.length)(p:∀c:aa,am Pg 38 [fK] (ae (eh w s a v m l) c) [dI k] (ae (eh b s e f n j) c)):Par Pg:=
 {hint:=fun g i=>if g=21 then (if i=21 then some (qL q)else if i=27 then some (hB Pg _ z o)else none)else none
  calls:=fun g i _=>if g=21 then (if i=25 then some ⟨38,[fK],eh w s a v m l,[dI k],eh b s e f n j,gM p⟩else if i=23 then some (nX b s e f j d h)else none)else none}
theorem HW(n:a<s.length)(f g h:Nat)(i:List D)(d:s.length≤100000)(e:f≤s.length)(j:∀c:aa,am Pg 38 [fK] (ae (eh w s a v m l) c) [dI 0] (ae (eh b s f g h i) c))(c:aa)(X:b4)(k:X.P=Pg)(o:X.N=39):
    AW X (lO 21 5) ⟨ah (EN s),ae (eh w s a v m l) c⟩ fun p S'=>p= .normal∧Weak X S' ⟨ah (EN s),ae (eh b s (a7 s f) g h i) c⟩:=by
 cases w with
 |false=>cases b with
  |false=>exact sG b9 named (Ae false false s a v m l n f g h i 0 false rfl d e j) 1000 21 300000 39 (by kernel_rfl) X k o
  |true=>exact sG b9 named (Ae false true s a v m l n f g h i 0 false rfl d e j) 1000 21 300000 39 (by kernel_rfl) X k o
 |true=>cases b with
  |false=>exact sG b9 named (Ae true false s a v m l n f g h i 0 false rfl d e j) 1000 21 300000 39 (by kernel_rfl) X k o
  |true=>exact sG b9 named (Ae true true s a v m l n f g h i 0 false rfl d e j) 1000 21 300000 39 (by kernel_rfl) X k o
theorem KD(h:a<s.length)(e:Nat)(k:Int)(j:k≠0)(d:s.length≤100000)(f:∀c:aa,am Pg 38 [fK] (ae (eh w s a v m l) c) [dI k] (ae (eh b s a v e l) c))(c:aa)(X:b4)(g:X.P=Pg)(i:X.N=39):
    AW X (lO 21 5) ⟨ah (EN s),ae (eh w s a v m l) c⟩ fun n S'=>n= .ret∧Weak X S' ⟨ah [(2, .nils),(3,dN a),(4,dI k)],ae (eh b s a v e l) c⟩:=by
 cases w with
 |false=>cases b with
  |false=>exact sG b9 named (Ae false false s a v m l h a v e l k true (by simpa using j) d (by omega) f) 1000 21 300000 39 (by kernel_rfl) X g i
  |true=>exact sG b9 named (Ae false true s a v m l h a v e l k true (by simpa using j) d (by omega) f) 1000 21 300000 39 (by kernel_rfl) X g i
 |true=>cases b with
  |false=>exact sG b9 named (Ae true false s a v m l h a v e l k true (by simpa using j) d (by omega) f) 1000 21 300000 39 (by kernel_rfl) X g i
  |true=>exact sG b9 named (Ae true true s a v m l h a v e l k true (by simpa using j) d (by omega) f) 1000 21 300000 39 (by kernel_rfl) X g i
theorem HY(c:aa)(X:b4)(e:X.P=Pg)(f:X.N=39):
    AW X (lO 21 5) ⟨ah (EN s),ae (eh w s s.length v m l) c⟩ fun g S'=>g= .exit 0∧Weak X S' ⟨ah (EN s),ae (eh w s s.length v m l) c⟩:=by
 cases w with
 |false=>exact sG b9 named {hint:=fun d k=>if d=21 then (if k=21 then some (qG s.length)else none)else none} 1000 21 300000 39 (by kernel_rfl) X e f
 |true=>exact sG b9 named {hint:=fun d k=>if d=21 then (if k=21 then some (qG s.length)else none)else none} 1000 21 300000 39 (by kernel_rfl) X e f
end
end Go.Avm
namespace Go.Avm
open Go.Proofs
def Af(w:Bool)(s:List UInt8)(a v m:Nat)(l:List D):Except (Nat×Int) (List (Nat×tj))→Prop
 | .error (p,k)=>∃c v' b l',RL 39 (lO 21 5) (EN s) (eh w s a v m l) .ret [(2, .nils),(3,dN p),(4,dI k)] (eh c s p v' b l')
 | .ok ts=>(l ++ts.map ss).length≤s.length∧∃c v' b,RL 39 (lO 21 5) (EN s) (eh w s a v m l) (.exit 0) (EN s) (eh c s s.length v' b (l ++ts.map ss))
theorem Ag(s:List UInt8)(f:s.length≤100000):∀(n:Nat)(w:Bool)(a v m:Nat)(l:List D),a≤s.length→s.length<n+a→l.length≤a→Af w s a v m l (f3 n (s.drop a) a)
 |0,w,a,v,m,l,T,h2,_=>by omega
 |n+1,w,a,v,m,l,T,h2,P=>by
  cases j:s.drop a with
  |nil=>
   have:a=s.length:=by have:=xx.1 j;omega
   subst this;refine⟨by simpa [f3]using P,w,v,m,fun c X g i=> ?_⟩;simp only[f3,xY,yC];exact BL (HY w s v m l c X g i) (by simp)
  |cons b r=>
   have F:a<s.length:=by
    rcases yR a s.length with h|h
    ·exact h
    ·rw[xx.2 h]at j;cases j
   have B:=SI w s a v m l b r F j f (by omega);rw[f3];cases K:iK (b::r)with
   |error k=>
    rw[K]at B;obtain⟨u,A,O,E⟩:=B;exact⟨u,v,A,l,fun c X g i=>BL (KD w u s a v m l F A k O f E c X g i) (by simp)⟩
   |ok t=>
    obtain⟨kd,t,k⟩:=t;rw[K]at B;obtain⟨u,A,E⟩:=B;obtain⟨o,G⟩:=sr K;have R:(b::r).length=s.length-a:=by rw[←j,yc]
    have Q:=o.length_le;have S:0<t.length:=List.length_pos_iff.2 G;have x:a+t.length≤s.length:=by omega
    have z:s.drop (a+t.length)=(b::r).drop t.length:=by rw[←j,List.drop_drop]
    have H:a7 s (a+t.length)=a+t.length+cL false ((b::r).drop t.length):=by rw[a7,z]
    have L:s.drop (a7 s (a+t.length))=((b::r).drop t.length).drop (cL false ((b::r).drop t.length)):=by rw[H,←List.drop_drop,z]
    have I:=mS s (a+t.length) x;have q:=Ag s f n u (a7 s (a+t.length)) (v+1) A (l ++[nU kd a t k]) I.2 (by omega) (by rw[xK,xt];omega);rw[L,H]at q
    show Af w s a v m l (match f3 n (((b::r).drop t.length).drop (cL false ((b::r).drop t.length))) (a+t.length+cL false ((b::r).drop t.length))with
     | .error e=> .error e
     | .ok ts=> .ok ((a,(kd,t,k))::ts))
    have d:=fun c X g i=>HW w u s a v m l F (a+t.length) (v+1) A (l ++[nU kd a t k]) f x E c X g i
    rw[H]at d;cases N:f3 n (((b::r).drop t.length).drop (cL false ((b::r).drop t.length))) (a+t.length+cL false ((b::r).drop t.length))with
    |error e=>
     obtain⟨p,U⟩:=e;rw[N]at q;obtain⟨M,v',J,l',C⟩:=q;exact⟨M,v',J,l',fun c X g i=>BK (d c X g i) (C c X g i)⟩
    |ok ts=>
     rw[N]at q;obtain⟨y,M,v',J,C⟩:=q;have e:l ++[nU kd a t k] ++ts.map ss=l ++((a,(kd,t,k))::ts).map ss:=by simp[ss]
     rw[e]at y C;exact⟨y,M,v',J,fun c X g i=>BK (d c X g i) (C c X g i)⟩
section
variable(s:List UInt8)
noncomputable def Ah(h:Option (dJ Pg))(C:Option (eI Pg))(D:Option (eI Pg))(z:Bool)(b:decide (20000<(s.length:Int))=z):Par Pg:=
 {hint:=fun a k=>if a=21 then (if k=9 then some (hB Pg _ z b)else none)else none
  nils:=fun a r=>if a=21 then (if r=4 then some {k:=324,i:=6,K:=1,sz:=4}else none)else none
  calls:=fun a k _=>if a=21 then (if k=14 then C else if k=34 then D else none)else none
  loops:=fun a r=>if a=21 then (if r=5 then h else none)else none}
theorem HZ(h:decide (20000<(s.length:Int))=true):aF Pg 21 [.str s] [.ro [], .int .i64 0, .int .i64 2]:=
 bp b9 named (Ah s none none none true h) 1000 (by kernel_rfl)
noncomputable def KE(w:Bool)(a v m:Nat)(l:List D)(e:aB)(l':List (Nat×AV))(hp:List (Nat×aE))(h:RL 39 (lO 21 5) (EN s) (eh w s a v m l) e l' hp):dJ Pg:=
 ⟨39,aJ Pg 21 5,EN s,fun _=>eh w s a v m l,e,l',fun _=>hp,fun b X c d=>(h b X c d).aw⟩
theorem KF(h:decide (20000<(s.length:Int))=false)(a:s.length≤100000)(p:Nat)(k:Int)(c:Bool)(v' d:Nat)(l':List D)
    (b:RL 39 (lO 21 5) (EN s) (eh false s (a7 s 0) 0 0 []) .ret [(2, .nils),(3,dN p),(4,dI k)] (eh c s p v' d l')):
    aF Pg 21 [.str s] [.ro [], .int .i64 (p:Int), .int .i64 k]:=by
 cases c with
 |false=>exact bp b9 named (Ah s (some (KE s false (a7 s 0) 0 0 [] _ _ _ b)) (some (nX false s 0 0 [] a (xz _))) none false h) 1000 (by kernel_rfl)
 |true=>exact bp b9 named (Ah s (some (KE s false (a7 s 0) 0 0 [] _ _ _ b)) (some (nX false s 0 0 [] a (xz _))) none false h) 1000 (by kernel_rfl)
theorem H0(h:decide (20000<(s.length:Int))=false)(a:s.length≤100000)(d:Bool)(v' c:Nat)(l':List D)(b:l'.length+1≤549755813888)
    (e:RL 39 (lO 21 5) (EN s) (eh false s (a7 s 0) 0 0 []) (.exit 0) (EN s) (eh d s s.length v' c l')):
    aF Pg 21 [.str s] [.ro (l' ++[nU 0 s.length [] 0]), .int .i64 0, .int .i64 0]:=by
 cases d with
 |false=>exact bp b9 named (Ah s (some (KE s false (a7 s 0) 0 0 [] _ _ _ e)) (some (nX false s 0 0 [] a (xz _))) (some (ub false s s.length v' c l' 0 0 [] b (by simp only[xS];omega))) false h) 1000 (by kernel_rfl)
 |true=>exact bp b9 named (Ah s (some (KE s false (a7 s 0) 0 0 [] _ _ _ e)) (some (nX false s 0 0 [] a (xz _))) (some (ub true s s.length v' c l' 0 0 [] b (by simp only[xS];omega))) false h) 1000 (by kernel_rfl)
end
def nZ(s:List UInt8):List D×Int×Int:=
 if 20000<s.length then ([],0,2)else match kj s with
  | .error (p,k)=>([],p,k)
  | .ok ts=>(ts.map ss ++[nU 0 s.length [] 0],0,0)
theorem SJ(s:List UInt8):aF Pg 21 [.str s] [.ro (nZ s).1, .int .i64 (nZ s).2.1, .int .i64 (nZ s).2.2]:=by
 unfold nZ;by_cases h:20000<s.length
 ·rw[xf h]
  exact HZ s (by simp only[xw];omega)
 ·rw[xo h]
  have g:decide (20000<(s.length:Int))=false:=by simp only[x6];omega
  have l:=mS s 0 (xz _);have a:=Ag s (by omega) (s.length+1) false (a7 s 0) 0 0 [] l.2 (by omega) (xz _)
  have j:f3 (s.length+1) (s.drop (a7 s 0)) (a7 s 0)=kj s:=by
   unfold kj a7;rw[xn,x8]
  rw[j]at a;cases i:kj s with
  |error e=>
   obtain⟨p,k⟩:=e;rw[i]at a;obtain⟨b,v',c,l',f⟩:=a;exact KF s g (by omega) p k b v' c l' f
  |ok ts=>
   rw[i]at a;obtain⟨d,b,v',c,f⟩:=a;exact H0 s g (by omega) b v' c _ (by rw[yG]at d;omega) f
end Go.Avm
namespace Go.Avm
open Go.Proofs
theorem j7(n:Nat)(b:UInt8)(r:List UInt8)(a:Nat):f3 (n+1) (b::r) a=match iK (b::r)with
    | .error k=> .error (a,k)
    | .ok t=>match f3 n (((b::r).drop t.2.1.length).drop (cL false ((b::r).drop t.2.1.length))) (a+t.2.1.length+cL false ((b::r).drop t.2.1.length))with
     | .error e=> .error e
     | .ok ts=> .ok ((a,t)::ts):=rfl
theorem H1{r:List UInt8}{k:Int}(h:iK r= .error k):k≠0:=by
 cases r with
 |nil=>simp only[iK,Except.error.injEq]at h;omega
 |cons b r=>
  rw[iK]at h;repeat' split at h
  all_goals first
   |(cases h;done)
   |(simp only[Except.error.injEq]at h;omega)
theorem oZ:∀(n:Nat)(r:List UInt8)(a p:Nat)(k:Int),f3 n r a= .error (p,k)→k≠0
 |0,r,a,p,k,h=>by cases h
 |n+1,[],a,p,k,h=>by cases h
 |n+1,b::r,a,p,k,h=>by
  rw[j7]at h;cases c:iK (b::r)with
  |error f=>
   rw[c]at h;simp only[Except.error.injEq,xE]at h;obtain⟨_,rfl⟩:=h;exact H1 c
  |ok t=>
   rw[c]at h;dsimp only at h;split at h
   ·rename_i e d
    cases h;exact oZ n _ _ p k d
   ·cases h
theorem ue:∀(n:Nat)(r:List UInt8)(a:Nat)(ts:List (Nat×tj)),f3 n r a= .ok ts→ts.length≤n
 |0,r,a,ts,h=>by cases h;exact xL _
 |n+1,[],a,ts,h=>by cases h;exact xz _
 |n+1,b::r,a,ts,h=>by
  rw[j7]at h;cases d:iK (b::r)with
  |error f=>rw[d]at h;cases h
  |ok t=>
   rw[d]at h;dsimp only at h;split at h
   ·cases h
   ·rename_i c e
    cases h;have:=ue n _ _ c e;simp only[xG];omega
theorem KG(l:List T)(e:T)(d:e.k=0)(f:l.length+1<1000000):dC (l ++[e]):=
 ⟨by simpa using f,fun i x a c=>by
  rw[xK,xt];rcases yR i l.length with h|h
  ·omega
  ·rw[xV h]at a
   cases b:i-l.length with
   |zero=>
    rw[b]at a;simp only[xj,xA]at a;rw[←a,d]at c;exact absurd rfl c
   |succ j=>rw[b]at a;simp at a⟩
def Xw(x:Nat×tj):T:=⟨x.2.1,(x.1:Int),x.2.2.1,x.2.2.2⟩
def di(ts:List (Nat×tj))(n:Nat):List T:=ts.map Xw ++[⟨0,(n:Int),[],0⟩]
theorem H3(ts:List (Nat×tj))(n:Nat):rN (di ts n)= .ro (ts.map ss ++[nU 0 n [] 0]):=by
 simp only[rN,di,xF,yx];rfl
theorem uf{ts:List (Nat×tj)}{n:Nat}(h:ts.length+1<1000000):dC (di ts n):=KG _ _ rfl (by simpa using h)
theorem gJ(ts:List (Nat×tj))(n:Nat):0<(di ts n).length:=by simp[di]
def B8(ts:List (Nat×tj))(n:Nat):Res (List Fn):=g8 (di ts n) (fuel (di ts n))
def iD(s:List UInt8):List D:=
 if 20000<s.length then [.agg [.ro []], .int .i64 0, .int .i64 2]else match kj s with
  | .error (p,k)=>[.agg [.ro []], .int .i64 (p:Int), .int .i64 k]
  | .ok ts=>Hs (B8 ts s.length)
theorem ug{s:List UInt8}{ts:List (Nat×tj)}(h:kj s= .ok ts):ts.length≤s.length+1:=ue _ _ _ _ h
theorem uh(s:List UInt8):aF Pg 12 [.str s] (iD s):=by
 have a:=SJ s;unfold iD;unfold nZ at a;by_cases h:20000<s.length
 ·rw[xf h]at a ⊢
  exact Hr (by decide) a
 ·rw[xo h]at a ⊢
  cases c:kj s with
  |error e=>
   obtain⟨p,k⟩:=e;rw[c]at a;have d:=oZ _ _ _ _ _ c;exact Hr (by simpa using d) a
  |ok ts=>
   rw[c]at a;have f:=ug c;have b:=uf (ts:=ts) (n:=s.length) (by omega);exact OB b (gJ _ _) (by rw[H3];exact a) _ (Di b (gJ _ _))
end Go.Avm
namespace Go.Avm
open Go.Proofs
mutual
def wq:Ex→Nat
 | .mk _ _ _ _ _ xs=>1+eg xs
def eg:List Ex→Nat
 |[]=>0
 |x::l=>wq x+eg l
end
mutual
def j8:aP→Nat
 | .mk _ _ _ _ _ _ es bd a=>1+eg es+bf bd+bf a
def bf:List aP→Nat
 |[]=>0
 |x::l=>j8 x+bf l
end
def EO(x:Fn):Nat:=1+x.ps.length+bf x.bd
def gh:List Fn→Nat
 |[]=>0
 |x::l=>EO x+gh l
theorem Dq:∀x,1≤j8 x
 | .mk _ _ _ _ _ _ _ _ _=>by simp only[j8];omega
theorem jz:∀l,l.length≤bf l
 |[]=>xL _
 |x::l=>by have:=jz l;have:=Dq x;simp only[bf,xG];omega
theorem jA:∀l,l.length≤gh l
 |[]=>xL _
 |x::l=>by have:=jA l;simp only[gh,EO,xG];omega
theorem Ai:∀{l:List aP}{i:Nat}{x:aP},l[i]? =some x→j8 x≤bf l
 |[],_,_,h=>by simp at h
 |y::l,0,x,h=>by simp at h;subst h;simp only[bf];omega
 |y::l,i+1,x,h=>by simp at h;have:=Ai h;simp only[bf];omega
theorem ly:∀{l:List Fn}{i:Nat}{x:Fn},l[i]? =some x→EO x≤gh l
 |[],_,_,h=>by simp at h
 |y::l,0,x,h=>by simp at h;subst h;simp only[gh];omega
 |y::l,i+1,x,h=>by simp at h;have:=ly h;simp only[gh];omega
end Go.Avm
namespace Go.Avm
mutual
def SK:aP→Bool
 | .mk k _ _ _ _ _ es bd a=>(!(k==1)||decide (es.length≤1))&&(b8 es&&(B9 bd&&B9 a))
def B9:List aP→Bool
 |[]=>true
 |s::r=>SK s&&B9 r
end
def SR(c:CS)(s:LS)(r:TR CS)(q:WS×LS):Prop:=match r with
 | .ok c'=>CJ c'∧QS c' q.1 q.2∧s.seen.length≤q.2.seen.length∧c.vars<+:c'.vars
 | .bad p e=>q.1.w=⟨p,e⟩∧(e==0)=false
 | .out=>True
theorem QS.long{c:CS}{s:LS}{w:WE}(hw:w.e=0)(r:Rl c.vars c.seen c.sure s):QS c ⟨c.vars,c.pts,w⟩ s where
 v:=rfl
 p:=rfl
 w:=hw
 len:=r.ls.trans r.lq.symm
 le:=Nat.le_of_eq r.ls
 rl:=by rw[px r.ls];exact r
theorem SR.of_ur{c c':CS}{s b:LS}{r:TR Unit}{q w:WE}{vs:List Vr}{ps:List Pt}(h:UR r q w)(a:SR c s (.ok c') (⟨vs,ps,w⟩,b)):SR c s (r.bind fun _=> .ok c') (⟨vs,ps,q⟩,b):=by
 cases r with
 |ok _=>rw[show q=w from h];exact a
 |bad p e=>exact h
 |out=>trivial
theorem Aj(E:BO)(x:Ex)(t:Int)(w:WE):dj E x t w=ba E [x] [t] w:=by simp only[dj,ba]
theorem gK{w:WE}(h:(w.e==0)=false)(b:Bool)(p e:Int):(bif b then w.fail p e else w)=w:=by
 cases b
 ·rfl
 ·exact dh h
theorem Ca{q:SureL}{n m:Nat}(h:∀p∈q.l,p.1<m)(b:n<m):∀p∈(q.put n).l,p.1<m:=fun p hp=>by
 unfold SureL.put at hp;cases a:q.has n with
 |true=>rw[a]at hp;exact h p hp
 |false=>
  rw[a]at hp;simp only[xP,xU,xM]at hp;rcases hp with hp|rfl
  ·exact h p hp
  ·exact b
section
variable{fs:List Fn}{c:CS}(d:CJ c){s:LS}(r:Rl c.vars c.seen c.sure s)
include d r
theorem mU(w:WE)(nm:List UInt8):dZ nm (WS.x ⟨c.vars,c.pts,w⟩ fs s).vars (WS.x ⟨c.vars,c.pts,w⟩ fs s).seen 0=(ct nm (c.te fs).seen 0).map (·.2):=CR d.toCI r nm
theorem o0(w:WE)(nm:List UInt8)(j i:Nat)(h:ct nm (c.te fs).seen 0=some (j,i)):(WS.x ⟨c.vars,c.pts,w⟩ fs s).sure.getD i false=(c.te fs).sure.has i:=by
 have hm:=d.sl _ (nJ h);show s.sure.getD i false=_;rw[yX,r.sure i hm];rfl
theorem OI{j:Int}{own:Bool}(K:own=(j==0)){w:WE}(hw:w.e=0)(nm:List UInt8)(id ty n p:Int)(es:List Ex)(B:es.length≤1)(o:b8 es=true):SR c s (tf fs j nm id ty n p es c) (MK fs own nm id ty n p es ⟨c.vars,c.pts,w⟩ s):=by
 have u:UR (ay (c.te fs) es (es.map fun _=>[ty]) false) (CM (WS.x ⟨c.vars,c.pts,w⟩ fs s) es ty w) w:=by
  match es,B,o with
  |[],_,_=>simp only[xY,ay];exact rfl
  |[x],_,o=>
   have:=jq (E:=c.te fs) (E':=WS.x ⟨c.vars,c.pts,w⟩ fs s) rfl rfl (mU d r w) (o0 d r w) [x] [ty] w hw o;simp only[CM,Aj];exact this
  |_::_::_,B,_=>simp at B
 unfold tf;have J:decide (1000000≤es.length)=false:=by simp;omega
 simp only[J,xP,MK];generalize (CM (WS.x ⟨c.vars,c.pts,w⟩ fs s) es ty w)=C at u ⊢;revert u;cases ay (c.te fs) es (es.map fun _=>[ty]) false with
 |out=>exact fun _=>trivial
 |bad q e=>
  rintro⟨rfl,h2⟩;simp only[gK (w:=⟨q,e⟩) h2];exact⟨rfl,h2⟩
 |ok _=>
  intro u;have u:C=w:=u;subst u;simp only[TR.bind];cases decide (1000000<nm.length)with
  |true=>trivial
  |false=>
  simp only[xP];cases F:c.vars.any fun v=>v.nm==nm with
  |true=>
   simp only[xW,bI hw,gK (w:=⟨p,7⟩) rfl];exact⟨rfl,rfl⟩
  |false=>
  simp only[xP,K];cases M:(ty==3&& !(j==0))with
  |true=>
   simp only[xW,bI hw,gK (w:=⟨p,3⟩) rfl];exact⟨rfl,rfl⟩
  |false=>
  simp only[xP]
  have D:(decide (n<1)||decide (256<n))= !(decide (1≤n)&&decide (n≤256)):=by
   rw[Bool.not_and];congr 1<;>rw[Bool.eq_iff_iff]<;>simp
  rw[D];cases L:(ty==3&& !(decide (1≤n)&&decide (n≤256)))with
  |true=>
   simp only[xW,bI hw,gK (w:=⟨p,1⟩) rfl];exact⟨rfl,rfl⟩
  |false=>
  simp only[xP];cases N:decide (255≤c.vars.length)with
  |true=>
   simp only[xW,bI hw];exact⟨rfl,rfl⟩
  |false=>
  simp only[xP]
  have y:∀v∈c.vars,v.nm≠nm:=fun v t e=>by
   have:=List.any_eq_false.1 F v t;rw[e]at this;simp at this
  have k:∀q':SureL,(∀p∈q'.l,p.1<c.vars.length+1)→(∀i,i<c.vars.length→q'.has i=c.sure.has i)→q'.has c.vars.length=(ty==3|| !es.isEmpty)→
      SR c s (.ok {c.add ⟨nm,ty,n,id⟩with sure:=q'}) (⟨c.vars ++[⟨nm,ty,n,id⟩],c.pts,C⟩,⟨s.seen ++[true],s.sure ++[ty==3|| !es.isEmpty]⟩):=fun q' H G I=>by
   have g:(c.vars ++[(⟨nm,ty,n,id⟩:Vr)]).length=c.vars.length+1:=by simp
   refine⟨⟨⟨?_,fun p hp=> ?_, ?_⟩,fun p hp=>by show p.1<(c.vars ++[_]).length;rw[g];exact H p hp⟩,⟨rfl,rfl,hw,by simp[r.ls,r.lq],by show(s.seen ++[true]).length≤(c.vars ++[_]).length;simp[r.ls], ?_⟩,by simp,zO _ _⟩
   ·show((c.vars ++[(⟨nm,ty,n,id⟩:Vr)]).map (·.nm)).Nodup
    rw[xF,zF];refine⟨d.nod,by simp,fun a A b m=> ?_⟩;obtain⟨v,t,rfl⟩:=x9.1 A;simp only[xH,xY,xM]at m;subst m;exact y v t
   ·show ∃v,(c.vars ++[(⟨nm,ty,n,id⟩:Vr)])[p.2]? =some v∧v.nm=p.1
    rcases xU.1 hp with hp|hp
    ·obtain⟨v,t,h2⟩:=d.sn p hp
     exact⟨v,by rw[xQ (d.sl p hp)];exact t,h2⟩
    ·rw[xM]at hp
     subst hp;exact⟨⟨nm,ty,n,id⟩,by simp,rfl⟩
   ·show((c.seen ++[(nm,c.vars.length)]).map (·.2)).Pairwise (· < ·)
    rw[xF,List.pairwise_append];refine⟨d.inc,by simp,fun a A b m=> ?_⟩;obtain⟨v,t,rfl⟩:=x9.1 A;simp only[xH,xY,xM]at m;subst m;exact d.sl v t
   ·show Rl (c.vars ++[_]) (c.seen ++[(nm,c.vars.length)]) q' _
    rw[px (by show(s.seen ++[true]).length=(c.vars ++[_]).length;simp[r.ls])];refine⟨by simp[r.ls],by simp[r.lq],fun i z=> ?_,fun i z=> ?_⟩
    ·rw[g]at z
     rw[List.any_append];by_cases h:i=c.vars.length
     ·subst h
      simp[←r.ls]
     ·have f:i<c.vars.length:=by omega
      rw[xQ (by rw[r.ls];exact f),r.seen i f];have:(c.vars.length==i)=false:=by simp;omega
      simp[this]
    ·rw[g]at z
     by_cases h:i=c.vars.length
     ·subst h
      rw[I];simp[←r.lq]
     ·have f:i<c.vars.length:=by omega
      rw[xQ (by rw[r.lq];exact f),r.sure i f,G i f]
  cases m:(ty==3|| !es.isEmpty)with
  |true=>
   rw[m]at k
   exact k (c.sure.put c.vars.length) (Ca (fun p hp=>by have:=d.sv p hp;omega) (by omega)) (fun i z=>by
    rw[qc];have:(c.vars.length==i)=false:=by simp;omega
    rw[this];rfl) (by rw[qc];simp)
  |false=>
   rw[m]at k;exact k c.sure (fun p hp=>by have:=d.sv p hp;omega) (fun _ _=>rfl) (CT d.sv (xL _))
end
theorem pF{s x:LS}{m:Nat}(a:s.seen.length≤x.seen.length)(h2:x.seen.length≤m):(⟨iw s.seen x.seen,x.sure⟩:LS).longer m=⟨(s.longer m).seen,(x.longer m).sure⟩:=by
 simp only[LS.longer,ve _ _ a,xa,xK,List.length_replicate,List.replicate_append_replicate];rw[show s.seen.length+(x.seen.length-s.seen.length)=x.seen.length by omega,show x.seen.length-s.seen.length+(m-x.seen.length)=m-s.seen.length by omega]
theorem Cb{c:List Vr}{sl d:eL}{q e:SureL}{s x:LS}(a:Rl c sl q s)(b:Rl c d e x):Rl c sl e ⟨s.seen,x.sure⟩:=⟨a.ls,b.lq,a.seen,b.sure⟩
theorem OJ{c:List Vr}{sl d:eL}{q f:SureL}{s x:LS}(a:Rl c sl q s)(b:Rl c d f x):Rl c sl (q.both f) ⟨s.seen,kp s.sure x.sure⟩:=
 ⟨a.ls,by rw[nL,a.lq,b.lq,Nat.min_self],a.seen,fun i e=>by rw[nM _ _ i _ _ (a.sure i e) (b.sure i e),F0]⟩
theorem vJ{c a:CS}(h:CJ c)(f:CJ a)(hp:c.vars<+:a.vars){q:SureL}(g:∀p∈q.l,p.1<a.vars.length):CJ {a with seen:=c.seen,sure:=q} where
 nod:=f.nod
 sn:=fun p b=>by
  obtain⟨v,d,i⟩:=h.sn p b;obtain⟨t,e⟩:=hp;exact⟨v,by show a.vars[p.2]? =_;rw[←e,xQ (h.sl p b)];exact d,i⟩
 inc:=h.inc
 sv:=g
theorem KH{a b:SureL}{n:Nat}(h:∀p∈a.l,p.1<n):∀p∈(a.both b).l,p.1<n:=fun p hp=>h p (ym.1 hp).1
theorem KI{d z:Int}(a:0≤d)(h:d+1+z<4611686018427387904)(b:0≤z):fh (d+1)=d+1:=by
 unfold fh;exact IntWalk.i64_in _ (by omega)
theorem QS.rl2{c a:CS}{g:WS}{x:LS}(q:QS a g x)(d:CJ a){n:Nat}(e:a.vars.length≤n):∀b:List Vr,b.length=n→Rl b a.seen a.sure (x.longer n):=fun b f=>by
 subst f;have:=q.rl.longer (vars':=b) e d.sl d.sv;rw[mq q.len q.le e]at this;exact this
mutual
theorem KJ(fs:List Fn)(fn:Nat)(F:∀f∈fs,0≤f.res):∀(x:aP)(o:Int)(own:Bool)(c:CS)(ws:WS)(s:LS),SK x=true→own=(o==0)→0≤o→o+(j8 x:Nat)<4611686018427387904→CJ c→QS c ws s→SR c s (jn fs fn o x c) (cK fs fn own x ws s)
 | .mk k i0 nm ty n p es bd Z,o,own,⟨vars,seen,g,pts0⟩,⟨m,wp,w⟩,s0,hwf,ho,hd,hz,H,q=>by
  obtain⟨hv,hp,hw,hl,W,r⟩:=q;simp only at hv hp hw r W;subst hv;subst hp;have hw2:(w.e==0)=true:=by simp[hw]
  simp only[SK,xJ]at hwf;obtain⟨hf1,y,hbd,hel⟩:=hwf
  have V:o+1+(bf bd:Nat)<4611686018427387904:=by
   simp only[j8]at hz;omega
  have hze:o+1+(bf Z:Nat)<4611686018427387904:=by
   simp only[j8]at hz;omega
  have hdw:fh (o+1)=o+1:=KI hd V (by omega);have U:(o+1==0)=false:=by simp;omega
  unfold jn cK;simp only[hw2,Bool.not_true,xP];cases hid:(i0==(wp.length:Int)&&decide (wp.length<900000000))with
  |false=>trivial
  |true=>
  simp only[xW];have hll:=dV hl W;have r0:=r;rw[Qp (c:=⟨m,seen,g,wp⟩) H r fn];clear hid;generalize hs:s0.longer m.length=s at r hll ⊢;have hgr:s0.seen.length≤s.seen.length:=by rw[hll.1];exact W
  generalize wp ++[CS.pt fn ⟨m,seen,g,wp⟩]=P;have z:CJ ⟨m,seen,g,P⟩:=⟨⟨H.nod,H.sn,H.inc⟩,H.sv⟩
  have A:Rl (⟨m,seen,g,P⟩:CS).vars (⟨m,seen,g,P⟩:CS).seen (⟨m,seen,g,P⟩:CS).sure s:=r
  have Q:∀{rr:TR CS}{qq:WS×LS},SR (⟨m,seen,g,P⟩:CS) s rr qq→SR ⟨m,seen,g,wp⟩ s0 rr qq:=fun {rr qq} h=>by
   cases rr with
   |ok c'=>exact⟨h.1,h.2.1,yH hgr h.2.2.1,h.2.2.2⟩
   |bad _ _=>exact h
   |out=>trivial
  refine Q ?_;clear Q;have hN:=fun ts=>jq (E:=CS.te fs ⟨m,seen,g,P⟩) (E':=WS.x ⟨m,P,w⟩ fs s) rfl rfl (mU z A w) (o0 z A w) es ts w hw y
  have B:SR ⟨m,seen,g,P⟩ s (.ok ⟨m,seen,g,P⟩) (⟨m,P,w⟩,s):=⟨z,QS.long hw A,xL _,yp _⟩
  cases h1:(k==1)with
  |true=>
   simp only[xW];rw[h1]at hf1;exact OI z A ho hw nm i0 ty n p es (by simpa using hf1) y
  |false=>
  simp only[xP];cases h2:(k==2)with
  |true=>
   simp only[xW,lV];rw[show dZ nm m s.seen 0=(ct nm (CS.te fs ⟨m,seen,g,P⟩).seen 0).map (·.2)from CR z.toCI A nm];cases hq:ct nm (CS.te fs ⟨m,seen,g,P⟩).seen 0 with
   |none=>exact⟨bI hw,rfl⟩
   |some q=>
    obtain⟨j,i⟩:=q;have hi:=z.sl _ (nJ hq);simp only[x5,TR.bind];show SR ⟨m,seen,g,P⟩ s (bif (m.getD i default).ty==3 then _ else _) _;cases (m.getD i default).ty==3 with
    |true=>
     simp only[xW,bI hw];rw[dd _ _ _ rfl];exact⟨rfl,rfl⟩
    |false=>
     simp only[xP];refine SR.of_ur (hN [(m.getD i default).ty]) ⟨⟨⟨z.nod,z.sn,z.inc⟩,Ca z.sv hi⟩,QS.long (c:=⟨m,seen,g.put i,P⟩) hw ⟨A.ls,by simp[A.lq],A.seen,fun t ht=> ?_⟩,xL _,yp _⟩;show(s.sure.set i true)[t]? =some ((g.put i).has t);rw[zE,qc];by_cases e:i=t
     ·subst e
      rw[xf rfl,xf (by rw[A.lq];exact hi)];simp
     ·rw[xo e,A.sure t ht]
      simp[e]
  |false=>
  simp only[xP];cases h3:(k==3)with
  |true=>
   simp only[xW];have a:=BP (E:=CS.te fs ⟨m,seen,g,P⟩) (E':=WS.x ⟨m,P,w⟩ fs s) rfl (mU z A w) nm p hw;have b:=UR.trans a (fun e=>by rw[e];exact hN [1,1]) (fun e=>dd _ es [1,1] e);have d:=SR.of_ur b B;revert d;cases nG (CS.te fs ⟨m,seen,g,P⟩) nm p<;>exact fun h=>h
  |false=>
  simp only[xP];cases h4:(k==4)with
  |true=>
   simp only[xW];have R:=hN [2];generalize ba (WS.x ⟨m,P,w⟩ fs s) es [2] w=T at R ⊢;revert R;simp only[xH,xY];cases ay (CS.te fs ⟨m,seen,g,P⟩) es [[2]] false with
   |out=>exact fun _=>trivial
   |bad u e=>
    rintro⟨rfl,D⟩;rw[dU fs fn false bd false (c:=⟨m,P,⟨u,e⟩⟩) D];simp only;rw[dU fs fn false Z false (c:=⟨m,P,⟨u,e⟩⟩) D];exact⟨rfl,D⟩
   |ok _=>
    intro D;have D:T=w:=D;subst D;have I:=lz fs fn F bd (o+1) false false ⟨m,seen,g,P⟩ ⟨m,P,T⟩ s hbd U.symm (by omega) V z (QS.long hw A);simp only[TR.bind,hdw];generalize bc fs fn false false bd ⟨m,P,T⟩ s=a at I ⊢;obtain⟨M,sa⟩:=a;revert I;cases bu fs fn (o+1) false bd ⟨m,seen,g,P⟩with
    |out=>exact fun _=>trivial
    |bad u e=>
     rintro⟨K,G⟩;simp only at K;have O:(M.w.e==0)=false:=by rw[K];exact G
     simp only;rw[dU fs fn false Z false O];exact⟨K,G⟩
    |ok ca=>
     rintro⟨ja,C,ga,L⟩;simp only at C ga ⊢;obtain⟨t,ht⟩:=L;have L:m<+:ca.vars:=⟨t,ht⟩
     have la:m.length≤ca.vars.length:=L.length_le;have r2:Rl ca.vars seen g (s.longer ca.vars.length):=A.longer la z.sl z.sv
     have qe:QS (⟨ca.vars,seen,g,ca.pts⟩:CS) M (s.longer M.vars.length):=by
      rw[C.v];have:=QS.long (c:=⟨ca.vars,seen,g,ca.pts⟩) C.w r2;refine⟨C.v,C.p,C.w,this.len,this.le,this.rl⟩
     have jc:CJ (⟨ca.vars,seen,g,ca.pts⟩:CS):=vJ z ja L fun p hp=>xy (z.sv p hp) la
     have ihb:=lz fs fn F Z (o+1) false false _ M (s.longer M.vars.length) hel U.symm (by omega) hze jc qe;generalize bc fs fn false false Z M (s.longer M.vars.length)=b at ihb ⊢;obtain⟨bw,bs⟩:=b;revert ihb;cases bu fs fn (o+1) false Z ⟨ca.vars,seen,g,ca.pts⟩with
     |out=>exact fun _=>trivial
     |bad u e=>exact fun h=>h
     |ok cb=>
      rintro⟨jb,N,gb,pb⟩;simp only at N gb pb ⊢;have lb:ca.vars.length≤cb.vars.length:=pb.length_le;have hsl:s.seen.length=m.length:=A.ls
      have eA:(⟨iw s.seen sa.seen,sa.sure⟩:LS).longer bw.vars.length=⟨(s.longer cb.vars.length).seen,(sa.longer cb.vars.length).sure⟩:=by
       rw[N.v,pF ga (by have:=C.le;omega)]
      have hs2:(s.longer M.vars.length).seen.length=ca.vars.length:=by rw[C.v];exact r2.ls
      have eB:(⟨iw (s.longer M.vars.length).seen bs.seen,bs.sure⟩:LS).longer bw.vars.length=⟨(s.longer cb.vars.length).seen,(bs.longer cb.vars.length).sure⟩:=by
       rw[N.v,pF gb N.le,C.v,mq (A.ls.trans A.lq.symm) (by rw[A.ls];exact la) lb]
      rw[eA,eB];have rs:Rl cb.vars seen g (s.longer cb.vars.length):=A.longer (yH la lb) z.sl z.sv;have ra:Rl cb.vars ca.seen ca.sure (sa.longer cb.vars.length):=QS.rl2 (c:=⟨m,seen,g,P⟩) C ja lb cb.vars rfl;have rb:Rl cb.vars cb.seen cb.sure (bs.longer cb.vars.length):=N.rl
      have X:∀(J:SureL)(S:LS),Rl cb.vars seen J S→(∀p∈J.l,p.1<cb.vars.length)→SR ⟨m,seen,g,P⟩ s (.ok ⟨cb.vars,seen,J,cb.pts⟩) (bw,S):=fun J S h1 h2=>
       ⟨vJ z jb (L.trans pb) h2,by
        have:=QS.long (c:=⟨cb.vars,seen,J,cb.pts⟩) N.w h1;exact⟨N.v,N.p,N.w,this.len,this.le,this.rl⟩,by rw[h1.ls];omega,L.trans pb⟩
      simp only[zn];cases bT bd with
      |true=>exact X _ _ (Cb rs rb) jb.sv
      |false=>
      cases bT Z with
      |true=>exact X _ _ (Cb rs ra) fun p hp=>xy (ja.sv p hp) lb
      |false=>exact X _ _ (OJ (Cb rs ra) rb) (KH fun p hp=>xy (ja.sv p hp) lb)
  |false=>
  simp only[xP];cases h5:(k==5)with
  |true=>
   simp only[xW];have R:=hN [2];generalize ba (WS.x ⟨m,P,w⟩ fs s) es [2] w=T at R ⊢;revert R;simp only[xH,xY];cases ay (CS.te fs ⟨m,seen,g,P⟩) es [[2]] false with
   |out=>exact fun _=>trivial
   |bad u e=>
    rintro⟨rfl,D⟩;rw[dU fs fn false bd false (c:=⟨m,P,⟨u,e⟩⟩) D];exact⟨rfl,D⟩
   |ok _=>
    intro D;have D:T=w:=D;subst D;have I:=lz fs fn F bd (o+1) false false ⟨m,seen,g,P⟩ ⟨m,P,T⟩ s hbd U.symm (by omega) V z (QS.long hw A);simp only[TR.bind,hdw];generalize bc fs fn false false bd ⟨m,P,T⟩ s=a at I ⊢;obtain⟨M,sa⟩:=a;revert I;cases bu fs fn (o+1) false bd ⟨m,seen,g,P⟩with
    |out=>exact fun _=>trivial
    |bad u e=>exact fun h=>h
    |ok ca=>
     rintro⟨ja,C,ga,L⟩;simp only at C ga ⊢;have la:m.length≤ca.vars.length:=L.length_le;have r2:Rl ca.vars seen g (s.longer ca.vars.length):=A.longer la z.sl z.sv;refine⟨vJ z ja L fun p hp=>xy (z.sv p hp) la, ?_, ?_,L⟩
     ·rw[C.v]
      have:=QS.long (c:=⟨ca.vars,seen,g,ca.pts⟩) C.w r2;exact⟨C.v,C.p,C.w,this.len,this.le,this.rl⟩
     ·simp only
      rw[C.v,r2.ls,A.ls];exact la
  |false=>
  simp only[xP];cases D:(k==6)with
  |true=>
   simp only[xW,mo];cases hf:fs[fn]? with
   |none=>trivial
   |some f=>
    simp only;have h0:=F f (xX hf);cases hr0:(f.res==0)with
    |true=>
     have e0:decide (0<f.res)=false:=by rw[eq_of_beq hr0];rfl
     simp only[xW,e0,xP];match es,hN with
     |[],_=>exact B
     |x::es',hN=>
      simp only[b8,xJ]at y;have Y:=nK (E:=CS.te fs ⟨m,seen,g,P⟩) (E':=WS.x ⟨m,P,w⟩ fs s) rfl rfl (mU z A w) (o0 z A w) x w hw y.1;simp only;revert Y;cases dc (CS.te fs ⟨m,seen,g,P⟩) x with
      |out=>exact fun _=>trivial
      |bad u e=>
       rintro⟨K,G⟩;refine⟨?_,G⟩;show WE.fail _ _ _=_;rw[K,dh G]
      |ok t=>
       intro K;have K:aM (WS.x ⟨m,P,w⟩ fs s) x w=(t,w):=K;refine⟨?_,rfl⟩;show WE.fail _ _ _=_;rw[K];exact bI hw
    |false=>
     have e0:decide (0<f.res)=true:=by
      have:f.res≠0:=by simpa using hr0
      simp;omega
     simp only[xP,e0,xW];match es,hN,y with
     |[],_,_=>exact⟨bI hw,rfl⟩
     |x::es',_,y=>
      simp only[b8,xJ]at y;have Y:=jq (E:=CS.te fs ⟨m,seen,g,P⟩) (E':=WS.x ⟨m,P,w⟩ fs s) rfl rfl (mU z A w) (o0 z A w) [x] [f.res] w hw (by simp[b8,y.1]);simp only[Aj];have d:=SR.of_ur Y B
      have e:∀k:TR CS,((ch (CS.te fs ⟨m,seen,g,P⟩) x [f.res]).bind fun _=>k)=(ay (CS.te fs ⟨m,seen,g,P⟩) [x] ([f.res].map fun t=>[t]) false).bind fun _=>k:=fun k=>by
       simp only[ay,ch,xH,xY];cases dc (CS.te fs ⟨m,seen,g,P⟩) x with
       |ok t=>simp only[TR.bind];cases [f.res].contains t<;>rfl
       |bad _ _=>rfl
       |out=>rfl
      rw[e];exact d
  |false=>
  simp only[xP];cases K:(k==7)with
  |true=>
   simp only[xW];match es,y with
   |[],_=>simp only[ay];trivial
   |x::es',y=>
    simp only[b8,xJ]at y;have Y:=nK (E:=CS.te fs ⟨m,seen,g,P⟩) (E':=WS.x ⟨m,P,w⟩ fs s) rfl rfl (mU z A w) (o0 z A w) x w hw y.1;simp only[ay];revert Y;cases dc (CS.te fs ⟨m,seen,g,P⟩) x with
    |out=>exact fun _=>trivial
    |bad u e=>
     rintro⟨G,O⟩;refine⟨?_,O⟩;have h3:((aM (WS.x ⟨m,P,w⟩ fs s) x w).2.e==0)=false:=by rw[G];exact O
     show(bif _ then _ else _)=_;rw[dh h3];exact(Bool.cond_self _ _).trans G
    |ok t=>
     intro G;have G:aM (WS.x ⟨m,P,w⟩ fs s) x w=(t,w):=G;rw[G];simp only[TR.bind]
     have R:[(1:Int),2].contains t=(t==1||t==2):=by
      simp[List.contains,List.elem];cases (t==1)<;>cases (t==2)<;>rfl
     rw[R];cases t==1||t==2 with
     |true=>
      simp only[xW,xP];cases es'<;>(simp only[ay];exact B)
     |false=>exact⟨bI hw,rfl⟩
  |false=>
  simp only[xP];cases G:(k==8)with
  |true=>
   simp only[xW];match es,y with
   |[],_=>trivial
   |x::es',y=>
    simp only[b8,xJ]at y;have Y:=nK (E:=CS.te fs ⟨m,seen,g,P⟩) (E':=WS.x ⟨m,P,w⟩ fs s) rfl rfl (mU z A w) (o0 z A w) x w hw y.1;simp only;revert Y;cases dc (CS.te fs ⟨m,seen,g,P⟩) x with
    |out=>exact fun _=>trivial
    |bad u e=>exact fun h=>h
    |ok t=>
     intro O;have O:aM (WS.x ⟨m,P,w⟩ fs s) x w=(t,w):=O;rw[O];exact B
  |false=>exact B
theorem lz(fs:List Fn)(fn:Nat)(j:∀f∈fs,0≤f.res):∀(l:List aP)(d:Int)(own g:Bool)(c:CS)(i:WS)(s:LS),B9 l=true→own=(d==0)→0≤d→d+(bf l:Nat)<4611686018427387904→CJ c→QS c i s→SR c s (bu fs fn d g l c) (bc fs fn own g l i s)
 |[],d,own,g,c,i,s,_,_,_,_,p,q=>by
  simp only[bu,bc];exact⟨p,q,xL _,yp _⟩
 |x::l,d,own,g,c,i,s,k,A,C,v,p,q=>by
  simp only[B9,xJ]at k
  have o:d+(j8 x:Nat)<4611686018427387904:=by
   simp only[bf]at v;omega
  have r:d+(bf l:Nat)<4611686018427387904:=by
   simp only[bf]at v;omega
  simp only[bu,bc];cases g with
  |true=>
   simp only[xW];have m:({i with w:=i.w.fail (Lw x) 11}:WS)=⟨i.vars,i.pts,⟨Lw x,11⟩⟩:=by rw[bI q.w]
   rw[m,lh fs fn own x (c:=⟨i.vars,i.pts,⟨Lw x,11⟩⟩) rfl];simp only;rw[dU fs fn own l (eQ x) (c:=⟨i.vars,i.pts,⟨Lw x,11⟩⟩) rfl];exact⟨rfl,rfl⟩
  |false=>
   simp only[xP];have t:=KJ fs fn j x d own c i s k.1 A C o p q;generalize cK fs fn own x i s=a at t ⊢;obtain⟨D,B⟩:=a;revert t;cases jn fs fn d x c with
   |out=>exact fun _=>trivial
   |bad u e=>
    rintro⟨m,h2⟩;simp only at m ⊢;rw[dU fs fn own l (eQ x) (by rw[m];exact h2)];exact⟨m,h2⟩
   |ok ca=>
    rintro⟨G,y,z,H⟩;simp only at y z ⊢;have n:=lz fs fn j l d own (eQ x) ca D B k.2 A C r G y;simp only[TR.bind];generalize bc fs fn own (eQ x) l D B=b at n ⊢;revert n;cases bu fs fn d (eQ x) l ca with
    |out=>exact fun _=>trivial
    |bad u e=>exact fun h=>h
    |ok cb=>exact fun ⟨m,h2,F,E⟩=>⟨m,h2,yH z F,H.trans E⟩
end
end Go.Avm
namespace Go.Avm
open Go.Proofs
inductive gi:List aP→Int→Int→Int→Int→Prop
 |nil (n a:Int):gi [] n a n a
 |cons {k id:Int} {nm:List UInt8} {ty v p:Int} {es:List Ex} {bd el r:List aP} {a n1 a1 n2 a2 n3 a3:Int} (h:a<p) (lb:bd.length<1000000) (le:el.length<1000000) (hb:gi bd (fh (id+1)) p n1 a1) (he:gi el n1 a1 n2 a2) (hr:gi r n2 a2 n3 a3):gi (.mk k id nm ty v p es bd el::r) id a n3 a3
inductive tl:List Fn→Int→Int→Prop
 |nil (n a:Int):tl [] n a
 |cons {nm:List UInt8} {ps:List Pm} {k:Int} {bd:List aP} {p:Int} {r:List Fn} {n a n1 a1:Int} (lb:bd.length<1000000) (hb:gi bd n a n1 a1) (hr:tl r n1 a1):tl (⟨nm,ps,k,bd,p⟩::r) n a
end Go.Avm
namespace Go.Avm
open Go.Proofs
theorem TR.bind_ne{b c:Type}{r:TR b}{f:b→TR c}(h:r≠ .out)(d:∀a,f a≠ .out):r.bind f≠ .out:=by
 cases r with
 |ok a=>exact d a
 |bad p e=>exact fun h=>by cases h
 |out=>exact absurd rfl h
theorem fl{a:Type}{b:Bool}{x y:TR a}(d:x≠ .out)(c:y≠ .out):(bif b then x else y)≠ .out:=by cases b<;>assumption
theorem gq{b:Type}{a:b}:TR.ok a≠ .out:=fun h=>by cases h
theorem fo{a:Type}{p e:Int}:(TR.bad p e:TR a)≠ .out:=fun h=>by cases h
theorem vK(E:TE)(nm:List UInt8)(p:Int):lV E nm p≠ .out:=by
 unfold lV;split
 ·exact gq
 ·exact fo
theorem vL(E:TE)(nm:List UInt8)(p:Int):nG E nm p≠ .out:=TR.bind_ne (vK _ _ _) fun _=>fl gq fo
mutual
theorem Dr(E:TE):∀x:Ex,Eh x=true→dc E x≠ .out
 | .mk k o nm n p xs,h=>by
  simp only[Eh,xJ]at h;obtain⟨c,b⟩:=h;have a:=fun ts r d g=>n0 E xs ts r b d g
  unfold dc;refine fl gq ?_;refine fl (TR.bind_ne (vK _ _ _) fun _=>fl gq fo) ?_;cases q:(k==4)with
  |true=>
   have e:=eq_of_beq q;subst e;have:xs.length=1:=by simpa using c
   exact TR.bind_ne (vL _ _ _) fun _=>TR.bind_ne (a [[1]] false (by simp only[xG,xS];omega) (fun h=>by cases h)) fun _=>gq
  |false=>
   simp only[xP];refine fl (TR.bind_ne (vL _ _ _) fun _=>gq) ?_;refine fl ?_ ?_
   ·split
    ·exact fo
    ·rename_i j f s
     cases d:(f.ps.length==xs.length)with
     |false=>exact fo
     |true=>exact TR.bind_ne (a _ false (by rw[xO,eq_of_beq d];exact xL _) (fun h=>by cases h)) fun _=>gq
   ·cases i:(k==8)with
    |true=>
     have e:=eq_of_beq i;subst e;have:xs.length=1:=by simpa using c
     simp only[xW];exact fl (TR.bind_ne (a [[2]] false (by simp only[xG,xS];omega) (fun h=>by cases h)) fun _=>gq) (TR.bind_ne (a [[1]] false (by simp only[xG,xS];omega) (fun h=>by cases h)) fun _=>gq)
    |false=>
     simp only[xP];cases m:(k==9)with
     |false=>exact gq
     |true=>
      have e:=eq_of_beq m;subst e;have l:xs.length=2:=by simpa using c
      simp only[xW];have:decide (xs.length<2)=false:=by rw[l];rfl
      rw[this];simp only[xP];refine fl (TR.bind_ne (a [[2],[2]] false (by simp only[xG,xS];omega) (fun h=>by cases h)) fun _=>gq) (fl (TR.bind_ne (a [[1,2],[]] true (by simp only[xG,xS];omega) (fun _=>by omega)) fun _=>gq) (TR.bind_ne (a [[1],[1]] false (by simp only[xG,xS];omega) (fun h=>by cases h)) fun _=>gq))
theorem n0(E:TE):∀(xs:List Ex)(ts:List (List Int))(a:Bool),b8 xs=true→ts.length≤xs.length→(a=true→2≤xs.length)→ay E xs ts a≠ .out
 |[],[],_,_,_,_=>by unfold ay;exact gq
 |_::_,[],_,_,_,_=>by unfold ay;exact gq
 |[],_::_,_,_,h,_=>by simp at h
 |x::xs,ts::r,a,h,c,b=>by
  simp only[b8,xJ]at h;simp only[xG]at c b;unfold ay;refine TR.bind_ne (Dr E x h.1) fun t=>fl ?_ fo
  refine n0 E xs _ false h.2 ?_ (fun h=>by cases h);cases a with
  |true=>have:=b rfl;simp only[xW,xG,xS];omega
  |false=>simp only[xP];omega
end
def cW(k:Int)(n b e:Nat):Bool:=
 (bif k==1 then decide (n≤1)else bif k==2 then n==1 else bif k==3 then n==2 else bif k==4 then n==1 else bif k==5 then n==1 else bif k==6 then decide (n≤1)else bif k==7 then n==1 else k==8&&n==1)&&((k==4||k==5||b==0)&&(k==4||e==0))
mutual
def f9:aP→Bool
 | .mk k _ nm _ _ _ es bd a=>decide (nm.length≤1000000)&&(b8 es&&(cW k es.length bd.length a.length&&(de bd&&de a)))
def de:List aP→Bool
 |[]=>true
 |s::r=>f9 s&&de r
end
def NO(n:Int)(b:Nat):TR CS→Prop
 | .ok c=>(c.pts.length:Int)=n∧c.pts.length≤b
 | .bad _ _=>True
 | .out=>False
theorem NO.bindU{c:Type}{n:Int}{b:Nat}{r:TR c}{f:c→TR CS}(h:r≠ .out)(d:∀a,NO n b (f a)):NO n b (r.bind f):=by
 cases r with
 |ok a=>exact d a
 |bad p e=>trivial
 |out=>exact absurd rfl h
theorem NO.bif{n:Int}{b:Nat}{c:Bool}{x y:TR CS}(d:NO n b x)(a:NO n b y):NO n b (bif c then x else y):=by cases c<;>assumption
theorem OK{fs:List Fn}{a:Int}{nm:List UInt8}{id ty n p:Int}{es:List Ex}{c:CS}{q:Int}{b:Nat}(f:nm.length≤1000000)(d:b8 es=true)(g:es.length≤1)(h:(c.pts.length:Int)=q∧c.pts.length≤b):NO q b (tf fs a nm id ty n p es c):=by
 unfold tf;have e:decide (1000000≤es.length)=false:=decide_eq_false (by omega);have h2:decide (1000000<nm.length)=false:=decide_eq_false (by omega);rw[e,h2];simp only[xP];refine NO.bindU (n0 _ _ _ _ d (by rw[xO];exact xL _) (fun h=>by cases h)) fun _=> ?_
 refine NO.bif trivial (NO.bif trivial (NO.bif trivial (NO.bif trivial ?_)));cases (ty==3|| !es.isEmpty)<;>exact h
theorem KK{fs:List Fn}{fn:Nat}{p:Int}{es:List Ex}{c:CS}{q:Int}{b:Nat}(d:fn<fs.length)(a:b8 es=true)(h:(c.pts.length:Int)=q∧c.pts.length≤b):NO q b (mo fs fn p es c):=by
 unfold mo;rw[xD d];dsimp only;cases es with
 |nil=>exact NO.bif h trivial
 |cons x r=>
  simp only[b8,xJ]at a;exact NO.bif (NO.bindU (Dr _ x a.1) fun _=>trivial) (NO.bindU (TR.bind_ne (Dr _ x a.1) fun _=>fl gq fo) fun _=>h)
theorem lA{n a b c:Int}(h:gi [] n a b c):n=b:=by cases h;rfl
mutual
theorem KL(fs:List Fn)(fn:Nat)(z:fn<fs.length):∀(x:aP)(b:Int)(c:CS)(id a D Q:Int),f9 x=true→id=(c.pts.length:Int)→gi [x] id a D Q→c.pts.length+j8 x<900000000→NO D (c.pts.length+j8 x) (jn fs fn b x c)
 | .mk k id nm ty n p es bd j,b,c,V,a,D,Q,O,t,hN,R=>by
  simp only[f9,xJ]at O;obtain⟨m,v,d,q,C⟩:=O;have m:=xe m;cases hN with
  | @cons _ _ _ _ _ _ _ _ _ _ _ n1 a1 Z a2 _ _ hp lb le l Hz G=>
  have T:=lA G;subst T;simp only[j8]at R ⊢
  have hw:fh (id+1)=((c.pts.length+1:Nat):Int):=by
   rw[t];have:=Int.toNat_of_nonneg (show(0:Int)≤(c.pts.length:Int)+1 by omega);exact(show fh ((c.pts.length:Int)+1)=(c.pts.length:Int)+1 from IntWalk.i64_in _ (by omega)).trans (by omega)
  rw[hw]at l;unfold jn
  have Y:(id==(c.pts.length:Int)&&decide (c.pts.length<900000000))=true:=by
   rw[t];simp only[beq_self_eq_true,Bool.true_and,xw];omega
  rw[Y];simp only[xW];have f:(c.pts ++[c.pt fn]).length=c.pts.length+1:=by simp
  have g:bd=[]→j=[]→((c.pts ++[c.pt fn]).length:Int)=Z∧(c.pts ++[c.pt fn]).length≤c.pts.length+(1+eg es+bf bd+bf j):=by
   rintro rfl rfl;have e1:=lA l;have K:=lA Hz;rw[f];simp only[bf];omega
  have i:∀ts:List (List Int),ts.length≤es.length→ay (CS.te fs {c with pts:=c.pts ++[c.pt fn]}) es ts false≠ .out:=fun ts h=>n0 _ _ _ _ v h fun h=>by cases h
  cases M:(k==1)with
  |true=>
   have e:=eq_of_beq M;subst e;have:es.length≤1∧bd=[]∧j=[]:=by simpa [cW]using d
   exact OK m v this.1 (g this.2.1 this.2.2)
  |false=>
  simp only[xP];cases L:(k==2)with
  |true=>
   have e:=eq_of_beq L;subst e;have:es.length=1∧bd=[]∧j=[]:=by simpa [cW]using d
   exact NO.bindU (vK _ _ _) fun r=>NO.bif trivial (NO.bindU (i _ (by simp[this.1])) fun _=>g this.2.1 this.2.2)
  |false=>
  simp only[xP];cases N:(k==3)with
  |true=>
   have e:=eq_of_beq N;subst e;have:es.length=2∧bd=[]∧j=[]:=by simpa [cW]using d
   exact NO.bindU (vL _ _ _) fun r=>NO.bindU (i _ (by simp[this.1])) fun _=>g this.2.1 this.2.2
  |false=>
  simp only[xP];cases I:(k==4)with
  |true=>
   have e:=eq_of_beq I;subst e;have:es.length=1:=by simpa [cW]using d
   refine NO.bindU (i _ (by simp[this])) fun _=> ?_
   have F:=lB fs fn z bd (fh (b+1)) false {c with pts:=c.pts ++[c.pt fn]} _ _ _ _ q rfl (by rw[f];exact l) (by rw[f];omega);revert F;cases bu fs fn (fh (b+1)) false bd {c with pts:=c.pts ++[c.pt fn]}with
   |out=>exact fun h=>h.elim
   |bad p e=>exact fun _=>trivial
   |ok o=>
    rintro⟨B,A⟩;simp only[TR.bind];rw[f]at A;have W:=lB fs fn z j (fh (b+1)) false {o with seen:=c.seen,sure:=c.sure} _ _ _ _ C rfl (by rw[B];exact Hz) (by show o.pts.length+bf j<_;omega);revert W;cases bu fs fn (fh (b+1)) false j {o with seen:=c.seen,sure:=c.sure}with
    |out=>exact fun h=>h.elim
    |bad p e=>exact fun _=>trivial
    |ok P=>
     rintro⟨X,J⟩;have J:P.pts.length≤o.pts.length+bf j:=J;refine⟨X, ?_⟩;show P.pts.length≤_;omega
  |false=>
  simp only[xP];cases E:(k==5)with
  |true=>
   have e:=eq_of_beq E;subst e;have:es.length=1∧j=[]:=by simpa [cW]using d
   obtain⟨S,rfl⟩:=this;have K:=lA Hz;subst K;refine NO.bindU (i _ (by simp[S])) fun _=> ?_
   have F:=lB fs fn z bd (fh (b+1)) false {c with pts:=c.pts ++[c.pt fn]} _ _ _ _ q rfl (by rw[f];exact l) (by rw[f];omega);revert F;cases bu fs fn (fh (b+1)) false bd {c with pts:=c.pts ++[c.pt fn]}with
   |out=>exact fun h=>h.elim
   |bad p e=>exact fun _=>trivial
   |ok o=>
    rintro⟨B,A⟩;rw[f]at A;refine⟨B, ?_⟩;show o.pts.length≤_;omega
  |false=>
  simp only[xP]
  have s:bd=[]∧j=[]:=by
   simp only[cW,I,E,xJ,yQ,Bool.false_or,yl,false_or,yI,List.length_eq_zero_iff]at d;exact⟨d.2.1,d.2.2⟩
  have y:=g s.1 s.2;refine NO.bif (KK z v y) ?_
  have u:k≠6→es.length=1:=fun H=>by
   have H:(k==6)=false:=by simpa using H
   have:=d;simp only[cW,M,L,N,I,E,H,xP,xJ]at this;cases w:(k==7)with
   |true=>rw[w]at this;simpa using this.1
   |false=>rw[w]at this;simpa using (show _∧_ by simpa using this.1).2
  cases w:(k==7)with
  |true=>
   have:=u (by rw[eq_of_beq w];decide);exact NO.bindU (i _ (by simp[this])) fun _=>y
  |false=>
  simp only[xP];cases U:(k==8)with
  |false=>exact y
  |true=>
   have:=u (by rw[eq_of_beq U];decide);simp only[xW];cases es with
   |nil=>simp at this
   |cons x r=>
    simp only[b8,xJ]at v;exact NO.bindU (Dr _ x v.1) fun _=>y
theorem lB(fs:List Fn)(fn:Nat)(t:fn<fs.length):∀(l:List aP)(b:Int)(d:Bool)(c:CS)(id a g k:Int),de l=true→id=(c.pts.length:Int)→gi l id a g k→c.pts.length+bf l<900000000→NO g (c.pts.length+bf l) (bu fs fn b d l c)
 |[],b,d,c,id,a,g,k,_,f,q,_=>by
  unfold bu;exact⟨f.symm.trans (lA q),xL _⟩
 |x::r,b,d,c,id,a,g,k,m,f,q,u=>by
  simp only[de,xJ]at m;simp only[bf]at u ⊢;unfold bu;refine NO.bif trivial ?_
  obtain⟨j,i,A,h2⟩:∃j i,gi [x] id a j i∧gi r j i g k:=by
   cases q with
   |cons hp lb z n Hz o=>exact⟨_,_, .cons hp lb z n Hz (.nil _ _),o⟩
  have gx:=KL fs fn t x b c id a j i m.1 f A (by omega);revert gx;cases jn fs fn b x c with
  |out=>exact fun h=>h.elim
  |bad p e=>exact fun _=>trivial
  |ok s=>
   rintro⟨w,C⟩;simp only[TR.bind];have v:=lB fs fn t r b (eQ x) s j i g k m.2 w.symm h2 (by omega);revert v;cases bu fs fn b (eQ x) r s with
   |out=>exact fun h=>h
   |bad p e=>exact fun _=>trivial
   |ok D=>exact fun ⟨y,B⟩=>⟨y,by omega⟩
end
end Go.Avm
namespace Go.Avm
open Go.Proofs
def Kn{c:Type}(s:RS)(r:Res c):Prop:=∀a b,r= .ok a b→b.n=s.n
theorem Kn.bind{d j:Type}{s:RS}{r:Res d}{f:d→RS→Res j}(h:Kn s r)(k:∀a g,Kn g (f a g)):Kn s (r.bind f):=fun b i e=>by
 cases r with
 |ok a c=>exact(k a c b i e).trans (h a c rfl)
 |bad p q c=>cases e
 |out=>cases e
theorem Kn.ok{b:Type}(a:b)(s:RS):Kn s (.ok a s):=fun _ _ e=>by cases e;rfl
theorem Kn.out{a:Type}(s:RS):Kn s (Res.out:Res a):=fun _ _ e=>by cases e
theorem Kn.ite{a:Type}{c:Bool}{s:RS}{X Y:Res a}(b:Kn s X)(d:Kn s Y):Kn s (bif c then X else Y):=by cases c<;>assumption
theorem n4(L:List T)(x:List UInt8)(s:RS):Kn s (aL L x s):=fun a c e=>by
 unfold aL at e;cases h:bV L s x<;>rw[h]at e
 ·cases e
 ·simp only[xW]at e
  cases b:(x==[40]||x==[91]||x==[123])<;>rw[b]at e
  ·simp only[xP]at e
   cases h2:(x==[41]||x==[93]||x==[125])<;>rw[h2]at e<;>cases e<;>rfl
  ·simp only[xW]at e
   cases h2:decide (200<fh (s.op+1))<;>rw[h2]at e<;>cases e
   rfl
theorem lQ(L:List T)(k:Int)(s:RS):Kn s (eJ L k s):=fun a b e=>by
 unfold eJ at e;cases h:((bZ L s).k==k)<;>rw[h]at e<;>cases e
 rfl
theorem Cc(L:List T)(x:List UInt8)(s:RS):Kn s (cD L x s):=by
 unfold cD;exact Kn.ite ((n4 L x s).bind fun _ _=>Kn.ok _ _) (Kn.ok _ _)
theorem Ds(L:List T):∀(l:List Int)(s:RS),Kn s (e8 L l s)
 |[],s=>fun _ _ e=>by cases e
 |k::r,s=>by
  simp only[e8];exact(Cc L _ s).bind fun b a=>Kn.ite (Kn.ok _ _) (Ds L r a)
theorem vM(L:List T):∀n,(∀s,Kn s (gQ L n s))∧(∀s,Kn s (d8 L n s))∧(∀nm p s,Kn s (gk L n nm p s))∧(∀s,Kn s (gR L n s))∧(∀l s,Kn s (fD L n l s))∧(∀k s,Kn s (bH L n k s))∧(∀k e s,Kn s (eK L n k e s))
 |0=>⟨fun s=>Kn.out s,fun s=>Kn.out s,fun _ _ s=>Kn.out s,fun s=>Kn.out s,fun _ s=>Kn.out s,fun _ s=>Kn.out s,fun _ _ s=>Kn.out s⟩
 |n+1=>by
  obtain⟨o,h2,t,r,j,h,m⟩:=vM L n;have W:=n4 L;have M:=Cc L;refine⟨fun s=> ?_,fun s=> ?_,fun nm p s=> ?_,fun s=> ?_,fun l s=> ?_,fun k s=> ?_,fun k e s=> ?_⟩
  ·simp only[gQ]
   have i:∀(f:Ex→Ex) g,Kn g ((gQ L n g).bind fun e c=> .ok (f e) c):=fun f g=>(o g).bind fun _ _=>Kn.ok _ _
   refine(M _ s).bind fun _ b=>Kn.ite (i _ b) ((M _ b).bind fun _ b=>Kn.ite (i _ b) ((M _ b).bind fun _ b=>Kn.ite (i _ b) (Kn.ite (fun _ _ e=>by cases e;rfl) ?_)))
   refine(M _ b).bind fun _ b=>Kn.ite (Kn.ok _ _) ((M _ b).bind fun _ b=>Kn.ite (Kn.ok _ _) ?_)
   refine(M _ b).bind fun _ b=>Kn.ite ((W _ b).bind fun _ c=>(W _ c).bind fun _ _=>Kn.ok _ _) ?_
   refine(M _ b).bind fun _ b=>Kn.ite ((W _ b).bind fun _ c=>(lQ L _ c).bind fun _ d=>(W _ d).bind fun _ _=>Kn.ok _ _) ?_
   refine Kn.ite ((W _ b).bind fun _ c=>(h _ c).bind fun _ d=>(W _ d).bind fun _ _=>Kn.ok _ _) ?_;exact(lQ L _ b).bind fun _ c=>Kn.ite ((h2 c).bind fun _ _=>Kn.ok _ _) (Kn.ite ((t _ _ c).bind fun _ _=>Kn.ok _ _) (Kn.ok _ _))
  ·simp only[d8]
   exact(W _ s).bind fun _ c=>(h _ c).bind fun _ d=>(W _ d).bind fun _ _=>Kn.ok _ _
  ·simp only[gk]
   exact(r s).bind fun _ _=>Kn.ok _ _
  ·simp only[gR]
   exact(W _ s).bind fun _ b=>Kn.ite ((W _ b).bind fun _ _=>Kn.ok _ _) ((h _ b).bind fun _ c=>(j _ c).bind fun _ d=>(W _ d).bind fun _ _=>Kn.ok _ _)
  ·simp only[fD]
   exact(M _ s).bind fun _ b=>Kn.ite ((h _ b).bind fun _ c=>j _ c) (Kn.ok _ _)
  ·simp only[bH]
   exact(o s).bind fun _ b=>m _ _ b
  ·simp only[eK]
   refine Kn.ite (Kn.ok _ _) (fun a g q=> ?_);exact((h _ s.nx).bind fun _ c=>m _ _ c) a g q
theorem qh(L:List T)(n:Nat)(k:Int)(s:RS):Kn s (bH L n k s):=(vM L n).2.2.2.2.2.1 k s
def V6(L:List T):Prop:=∀i j,i<j→j<L.length→(L.getD i default).p<(L.getD j default).p
def OL(id p:Int):aP→Prop
 | .mk _ a _ _ _ c _ bd b=>a=id∧c=p∧bd=[]∧b=[]
def Ps{b:Type}(Q:b→Prop)(r:Res b):Prop:=∀a c,r= .ok a c→Q a
theorem Ps.bind{c d:Type}{Q:d→Prop}{r:Res c}{f:c→RS→Res d}(j:∀a i,Ps Q (f a i)):Ps Q (r.bind f):=fun b h e=>by
 cases r with
 |ok a g=>exact j a g b h e
 |bad p q g=>cases e
 |out=>cases e
theorem Ps.ite{a:Type}{Q:a→Prop}{c:Bool}{X Y:Res a}(b:Ps Q X)(d:Ps Q Y):Ps Q (bif c then X else Y):=by cases c<;>assumption
theorem Ps.ok{b:Type}{Q:b→Prop}{a:b}{s:RS}(h:Q a):Ps Q (.ok a s):=fun _ _ e=>by cases e;exact h
section
variable(L:List T)(n:Nat)(id p:Int)(s:RS)
include L n id p s
theorem OM:Ps (OL id p) (jX L n id p s):=by
 unfold jX;exact Ps.bind fun _ _=>Ps.bind fun _ _=>Ps.bind fun _ _=>Ps.ite (Ps.bind fun _ _=>Ps.bind fun _ _=>Ps.bind fun _ _=>Ps.bind fun _ _=>Ps.ok ⟨rfl,rfl,rfl,rfl⟩) (Ps.bind fun _ _=>Ps.ite (Ps.bind fun _ _=>Ps.bind fun _ _=>Ps.ok ⟨rfl,rfl,rfl,rfl⟩) (Ps.bind fun _ _=>Ps.ok ⟨rfl,rfl,rfl,rfl⟩))
theorem H4:Ps (OL id p) (dR L n id p s):=by
 unfold dR;exact Ps.bind fun _ _=>Ps.ite (Ps.bind fun _ _=>Ps.bind fun _ _=>Ps.ok ⟨rfl,rfl,rfl,rfl⟩) (Ps.ite (Ps.bind fun _ _=>Ps.bind fun _ _=>Ps.bind fun _ _=>Ps.bind fun _ _=>Ps.ok ⟨rfl,rfl,rfl,rfl⟩) (Ps.bind fun _ _=>Ps.bind fun _ _=>Ps.bind fun _ _=>Ps.ok ⟨rfl,rfl,rfl,rfl⟩))
theorem ON:Kn s (jX L n id p s):=by
 have W:=n4 L;unfold jX;exact(lQ L _ s).bind fun _ d=>(W _ d).bind fun _ e=>(Ds L _ e).bind fun _ c=>Kn.ite ((W _ c).bind fun _ a=>(lQ L _ a).bind fun _ b=>(W _ b).bind fun _ f=>(W _ f).bind fun _ _=>Kn.ok _ _) ((Cc L _ c).bind fun _ a=>Kn.ite ((qh L n 1 a).bind fun _ b=>(W _ b).bind fun _ _=>Kn.ok _ _) ((W _ a).bind fun _ _=>Kn.ok _ _))
theorem H5:Kn s (dR L n id p s):=by
 have W:=n4 L;obtain⟨_,h2,e,_⟩:=vM L n;unfold dR;exact(lQ L _ s).bind fun _ b=>Kn.ite ((e _ _ b).bind fun _ a=>(W _ a).bind fun _ _=>Kn.ok _ _) (Kn.ite ((h2 b).bind fun _ a=>(W _ a).bind fun _ c=>(qh L n 1 c).bind fun _ d=>(W _ d).bind fun _ _=>Kn.ok _ _) ((W _ b).bind fun _ a=>(qh L n 1 a).bind fun _ c=>(W _ c).bind fun _ _=>Kn.ok _ _))
end
end Go.Avm
namespace Go.Avm
open Go.Proofs
theorem Ps.bindQ{c g:Type}{Q:c→Prop}{R:g→Prop}{r:Res c}{f:c→RS→Res g}(h:Ps Q r)(k:∀a j,Q a→Ps R (f a j)):Ps R (r.bind f):=fun b i e=>by
 cases r with
 |ok a d=>exact k a d (h a d rfl) b i e
 |bad p q d=>cases e
 |out=>cases e
theorem Ps.out{a:Type}{Q:a→Prop}:Ps Q (Res.out:Res a):=fun _ _ e=>by cases e
theorem Ps.imp{b:Type}{Q R:b→Prop}{r:Res b}(h:Ps Q r)(c:∀a,Q a→R a):Ps R r:=fun a d e=>c a (h a d e)
theorem Ak:∀l m:List Ex,b8 (l ++m)=(b8 l&&b8 m)
 |[],m=>by simp[b8]
 |x::l,m=>by simp only[xk,b8,Ak l m,Bool.and_assoc]
theorem ui:∀l m:List aP,de (l ++m)=(de l&&de m)
 |[],m=>by simp[de]
 |x::l,m=>by simp only[xk,de,ui l m,Bool.and_assoc]
abbrev wE(a:Ex):Prop:=Eh a=true
abbrev SL(a:List Ex):Prop:=b8 a=true
abbrev gS(a:aP):Prop:=f9 a=true
abbrev gL(a:List aP):Prop:=de a=true
section
variable(L:List T)
theorem H6:∀n,(∀s,Ps wE (gQ L n s))∧(∀s,Ps wE (d8 L n s))∧(∀nm p s,Ps wE (gk L n nm p s))∧(∀s,Ps SL (gR L n s))∧(∀l s,SL l→Ps SL (fD L n l s))∧(∀k s,Ps wE (bH L n k s))∧(∀k e s,wE e→Ps wE (eK L n k e s))
 |0=>⟨fun _=>Ps.out,fun _=>Ps.out,fun _ _ _=>Ps.out,fun _=>Ps.out,fun _ _ _=>Ps.out,fun _ _=>Ps.out,fun _ _ _ _=>Ps.out⟩
 |n+1=>by
  obtain⟨t,h2,v,u,q,f,r⟩:=H6 n;refine⟨fun s=> ?_,fun s=> ?_,fun nm p s=> ?_,fun s=> ?_,fun l s g=> ?_,fun k s=> ?_,fun k e s m=> ?_⟩
  ·simp only[gQ]
   have j:∀(o p:Int) i,Ps wE ((gQ L n i).bind fun e c=> .ok (.mk 8 o [] 0 p [e]) c):=fun o p i=>(t i).bindQ fun a _ b=>Ps.ok (by simp[wE,Eh,b8,b])
   refine Ps.bind fun _ d=>Ps.ite (j _ _ d) (Ps.bind fun _ d=>Ps.ite (j _ _ d) (Ps.bind fun _ d=>Ps.ite (j _ _ d) (Ps.ite (Ps.ok rfl) ?_)))
   refine Ps.bind fun _ d=>Ps.ite (Ps.ok rfl) (Ps.bind fun _ d=>Ps.ite (Ps.ok rfl) ?_)
   refine Ps.bind fun _ d=>Ps.ite (Ps.bind fun _ c=>Ps.bind fun _ _=>Ps.ok rfl) ?_
   refine Ps.bind fun _ d=>Ps.ite (Ps.bind fun _ c=>Ps.bind fun _ h=>Ps.bind fun _ _=>Ps.ok rfl) ?_
   refine Ps.ite (Ps.bind fun _ c=>(f _ c).bindQ fun a h b=>Ps.bind fun _ _=>Ps.ok b) ?_;exact Ps.bind fun _ c=>Ps.ite ((h2 c).bindQ fun a _ b=>Ps.ok (by simp[wE,Eh,b8,b])) (Ps.ite ((v _ _ c).bindQ fun a _ b=>Ps.ok b) (Ps.ok rfl))
  ·simp only[d8]
   exact Ps.bind fun _ c=>(f _ c).bindQ fun a h b=>Ps.bind fun _ _=>Ps.ok b
  ·simp only[gk]
   exact(u s).bindQ fun a _ b=>Ps.ok (by simp[wE,Eh,b])
  ·simp only[gR]
   exact Ps.bind fun _ d=>Ps.ite (Ps.bind fun _ _=>Ps.ok rfl) ((f _ d).bindQ fun a c b=>(q _ c (by simp[SL,b8,b])).bindQ fun l h g=>Ps.bind fun _ _=>Ps.ok g)
  ·simp only[fD]
   exact Ps.bind fun _ d=>Ps.ite ((f _ d).bindQ fun a c b=>q _ c (by rw[SL,Ak,g];simp[b8,b])) (Ps.ok g)
  ·simp only[bH]
   exact(t s).bindQ fun a d b=>r _ _ d b
  ·simp only[eK]
   exact Ps.ite (Ps.ok m) ((f _ s.nx).bindQ fun a c b=>r _ _ c (by simp[wE,Eh,b8,m,b]))
theorem qj(n:Nat)(k:Int)(s:RS):Ps wE (bH L n k s):=(H6 L n).2.2.2.2.2.1 k s
def L9:Prop:=∀s:RS,(bZ L s).t.length≤20000
variable{L}(d:L9 L)
include d
theorem qk(k:Int)(s:RS):Ps (fun t:T=>t.t.length≤20000) (eJ L k s):=fun a b e=>by
 unfold eJ at e;cases h:((bZ L s).k==k)<;>rw[h]at e<;>cases e
 exact d s
omit d in
theorem vN:∀(l:List Int)(s:RS),Ps (fun t:Int=>t∈l) (e8 L l s)
 |[],s=>fun _ _ e=>by cases e
 |k::r,s=>by
  simp only[e8];exact Ps.bind fun b a=>Ps.ite (Ps.ok (yE ..)) ((vN r a).imp fun _ h=>xp _ h)
theorem OO(n:Nat)(id p:Int)(s:RS):Ps gS (jX L n id p s):=by
 unfold jX;refine(qk d 1 s).bindQ fun t f h=>Ps.bind fun _ g=>Ps.bind fun _ i=>Ps.ite ?_ ?_
 ·exact Ps.bind fun _ b=>Ps.bind fun _ e=>Ps.bind fun _ j=>Ps.bind fun _ _=>Ps.ok (by simp[gS,f9,b8,cW,de];omega)
 ·exact Ps.bind fun _ b=>Ps.ite ((qj L n 1 b).bindQ fun a e c=>Ps.bind fun _ _=>Ps.ok (by simp[gS,f9,b8,cW,de,c];omega)) (Ps.bind fun _ _=>Ps.ok (by simp[gS,f9,b8,cW,de];omega))
theorem H7(n:Nat)(id p:Int)(s:RS):Ps gS (dR L n id p s):=by
 obtain⟨_,h2,i,_⟩:=H6 L n;unfold dR;refine(qk d 1 s).bindQ fun t f k=>Ps.ite ?_ (Ps.ite ?_ ?_)
 ·exact(i _ _ f).bindQ fun a e c=>Ps.bind fun _ _=>Ps.ok (by simp[gS,f9,b8,cW,de,c])
 ·exact(h2 f).bindQ fun a e c=>Ps.bind fun _ g=>(qj L n 1 g).bindQ fun b j h=>Ps.bind fun _ _=>Ps.ok (by simp[gS,f9,b8,cW,de,c,h];omega)
 ·exact Ps.bind fun _ e=>(qj L n 1 e).bindQ fun a g c=>Ps.bind fun _ _=>Ps.ok (by simp[gS,f9,b8,cW,de,c];omega)
theorem Dt:∀n,(∀s,Ps gL (cm L n s))∧(∀l s,gL l→Ps gL (dS L n l s))∧(∀s,Ps gS (fV L n s))
 |0=>⟨fun _=>Ps.out,fun _ _ _=>Ps.out,fun _=>Ps.out⟩
 |n+1=>by
  obtain⟨j,h2,q⟩:=Dt n;refine⟨fun s=> ?_,fun l s k=> ?_,fun s=> ?_⟩
  ·simp only[cm]
   exact Ps.bind fun _ i=>(h2 _ i rfl).bindQ fun a g e=>Ps.bind fun _ _=>Ps.ok e
  ·simp only[dS]
   exact Ps.ite (Ps.ok k) ((q s).bindQ fun a i e=>h2 _ i (by rw[gL,ui,k];simp[de,e]))
  ·simp only[fV]
   have X:=qj L n 1;refine Ps.bind fun _ f=>Ps.ite ((OO d n _ _ f).bindQ fun a _ e=>Ps.ok e) (Ps.bind fun _ f=>Ps.ite ?_ (Ps.bind fun _ f=>Ps.ite ?_ (Ps.bind fun _ f=>Ps.ite ?_ (Ps.bind fun _ f=>Ps.ite ?_ ?_))))
   ·exact(X f).bindQ fun a g e=>(j g).bindQ fun b m h=>Ps.bind fun _ p=>Ps.ite ((j p).bindQ fun c _ o=>Ps.ok (by simp[gS,f9,b8,cW,e,h,o])) (Ps.ok (by simp[gS,f9,b8,cW,e,h,de]))
   ·exact(X f).bindQ fun a g e=>(j g).bindQ fun b m h=>Ps.ok (by simp[gS,f9,b8,cW,e,h,de])
   ·exact Ps.ite (Ps.bind fun _ _=>Ps.ok rfl) ((X f).bindQ fun a g e=>Ps.bind fun _ _=>Ps.ok (by simp[gS,f9,b8,cW,e,de]))
   ·exact(X f).bindQ fun a g e=>Ps.bind fun _ _=>Ps.ok (by simp[gS,f9,b8,cW,e,de])
   ·exact(H7 d n _ _ _).bindQ fun a _ e=>Ps.ok e
def su(p:Pm):Prop:=p.nm.length≤20000∧p.ty∈[1,2,3]
structure gc(f:Fn):Prop where
 bd:de f.bd=true
 ps:∀p∈f.ps,su p
 res:f.res∈[0,1,2]
 nm:f.nm.length≤20000
theorem Al(s:RS):Ps su (gD L s):=(qk d 1 s).bindQ fun _ _ a=>Ps.bind fun _ _=>(vN _ _).bindQ fun _ _ b=>Ps.ok ⟨a,b⟩
theorem Am:∀(n:Nat)(l:List Pm)(s:RS),(∀p∈l,su p)→Ps (fun l=>∀p∈l,su p) (dT L n l s)
 |0,_,_,_=>Ps.out
 |n+1,l,s,b=>by
  simp only[dT]
  exact Ps.bind fun _ f=>Ps.ite ((Al d f).bindQ fun a c e=>Am n _ c fun p hp=>by
   rcases xU.1 hp with hp|hp
   ·exact b p hp
   ·rw[xM.1 hp];exact e) (Ps.ok b)
theorem EP(n:Nat)(s:RS):Ps (fun l=>∀p∈l,su p) (ed L n s):=by
 unfold ed;exact Ps.bind fun _ b=>Ps.ite (Ps.bind fun _ _=>Ps.ok fun _ h=>by cases h) ((Al d b).bindQ fun a c e=>(Am d n _ c fun p hp=>by rw[xM.1 hp];exact e).bindQ fun l g f=>Ps.bind fun _ _=>Ps.ok f)
theorem Ma(n:Nat)(s:RS):Ps gc (wh L n s):=by
 have B:=(Dt d n).1;unfold wh;refine Ps.bind fun _ h=>(qk d 1 h).bindQ fun u f c=>(EP d n f).bindQ fun ps j a=>Ps.bind fun _ e=>Ps.ite ?_ ?_
 ·exact(vN _ e).bindQ fun k g i=>(B g).bindQ fun l _ b=>Ps.ok ⟨b,a,xp _ i,c⟩
 ·exact(B e).bindQ fun l _ b=>Ps.ok ⟨b,a,yE ..,c⟩
theorem H8(N:Nat):∀(n:Nat)(l:List Fn)(s:RS),(∀f∈l,gc f)→Ps (fun l=>∀f∈l,gc f) (ld L N n l s)
 |0,_,_,_=>Ps.out
 |n+1,l,s,c=>by
  simp only[ld]
  exact Ps.ite (Ps.ok c) ((Ma d N s).bindQ fun a g e=>H8 N n _ g fun f b=>by
   rcases xU.1 b with b|b
   ·exact c f b
   ·rw[xM.1 b];exact e)
theorem KM(n:Nat):Ps (fun l=>∀f∈l,gc f) (g8 L n):=by
 unfold g8;exact(Ma d n ⟨0,0,0⟩).bindQ fun a c b=>H8 d n n _ c fun f e=>by rw[xM.1 e];exact b
end
end Go.Avm
namespace Go.Avm
open Go.Proofs
theorem bind_ok{e g:Type}{r:Res e}{f:e→RS→Res g}{b:g}{d:RS}(h:r.bind f= .ok b d):∃a c,r= .ok a c∧f a c= .ok b d:=by
 cases r with
 |ok a c=>exact⟨a,c,rfl,h⟩
 |bad p q c=>cases h
 |out=>cases h
def kk(s:RS):Int:=fh (s.n+1)
def uj(L:List T)(s:RS)(a:Int):Prop:=a<(bZ L s).p
structure On(L:List T)(s s':RS):Prop where
 lt:s.i<s'.i
 len:s'.i<L.length
 n:s'.n=s.n
section
variable{L:List T}(d:dC L)(f:V6 L)
include d
theorem fe{x:List UInt8}{s a:RS}{t:T}(l:s.i<L.length)(h:aL L x s= .ok t a):On L s a:=⟨((i7 d x s l).2 t a h).1,((i7 d x s l).2 t a h).2,n4 L x s t a h⟩
theorem Du{k:Int}(b:k≠0){s a:RS}{t:T}(l:s.i<L.length)(h:eJ L k s= .ok t a):On L s a:=⟨((j6 d k b s l).2 t a h).1,((j6 d k b s l).2 t a h).2,lQ L k s t a h⟩
theorem ql{n:Nat}{k:Int}{s a:RS}{e:Ex}(l:s.i<L.length)(h:bH L n k s= .ok e a):On L s a:=by
 have c:=(lw d n).expr k s l;rw[h]at c;exact⟨iU L n k s e a h,c.1,qh L n k s e a h⟩
theorem j9{g:Type}{x:List UInt8}{s e:RS}(l:s.i<L.length){X Y:RS→Res g}{a:g}(h:((cD L x s).bind fun b c=>bif b then X c else Y c)= .ok a e):(∃c,On L s c∧X c= .ok a e)∨Y s= .ok a e:=by
 unfold cD at h;cases j:bV L s x<;>rw[j]at h
 ·exact .inr h
 ·simp only[xW]at h
  cases hw:aL L x s<;>rw[hw]at h
  ·exact .inl ⟨_,fe d l hw,h⟩
  ·cases h
  ·cases h
theorem OP{n:Nat}{id p:Int}{s a:RS}{x:aP}(l:s.i<L.length)(h:jX L n id p s= .ok x a):On L s a:=by
 have c:=Sk d n id p s l;rw[h]at c;exact⟨FS L n id p s x a h,c.1,ON L n id p s x a h⟩
theorem H9{n:Nat}{id p:Int}{s a:RS}{x:aP}(l:s.i<L.length)(h:dR L n id p s= .ok x a):On L s a:=by
 have c:=Hn d n id p s l;rw[h]at c;exact⟨zm L n id p s x a h,c.1,H5 L n id p s x a h⟩
theorem o1{n:Nat}{s a:RS}{b:List aP}(l:s.i<L.length)(h:cm L n s= .ok b a):s.i<a.i∧a.i<L.length:=by
 have c:=(z8 d n).block s l;rw[h]at c;exact⟨(lN L n).1 s b a h,c.1⟩
theorem Ia{n:Nat}{s a:RS}{x:aP}(l:s.i<L.length)(h:fV L n s= .ok x a):s.i<a.i∧a.i<L.length:=by
 have c:=(z8 d n).stmt s l;rw[h]at c;exact⟨(lN L n).2.2 s x a h,c.1⟩
omit d
include f
theorem qm{s b:RS}{a:Int}(g:s.i≤b.i)(c:b.i<L.length)(h:uj L s a):uj L b a:=by
 rcases yR s.i b.i with e|e
 ·exact Int.lt_trans h (f _ _ e c)
 ·have:s.i=b.i:=by omega
  unfold uj bZ at h ⊢;rw[←this];exact h
theorem Ib{s b:RS}(c:s.i<b.i)(a:b.i<L.length):uj L b (bZ L s).p:=f _ _ c a
include d
theorem n8{s0 l:RS}{k id:Int}{nm:List UInt8}{ty v p:Int}{es:List Ex}{bd b:List aP}{a:Int}(e:id=kk s0)(hp:p=(bZ L s0).p)(s:uj L s0 a)(lb:bd.length<1000000)(o:b.length<1000000){j h m i:Int}(t:gi bd (fh (kk s0+1)) (bZ L s0).p j h)(n:gi b j h m i)(u:m=kk l):
    ∀r g c,gi r (kk l) i g c→gi (.mk k id nm ty v p es bd b::r) (kk s0) a g c:=fun r g c q=>by
 subst e hp u;exact gi.cons s lb o t n q
theorem Dv:∀n,(∀(s c:RS)(l:List aP),s.i<L.length→cm L n s= .ok l c→l.length<1000000∧∀a,uj L s a→∃M,gi l (kk s) a (kk c) M∧uj L c M)∧
    (∀(r:List aP)(s c:RS)(l:List aP),s.i<L.length→r.length≤s.i→dS L n r s= .ok l c→(l.length≤c.i∧c.i<L.length)∧∃Q,l=r ++Q∧∀a,uj L s a→∃M,gi Q (kk s) a (kk c) M∧uj L c M)∧
    (∀(s c:RS)(x:aP),s.i<L.length→fV L n s= .ok x c→∀a,uj L s a→∃q,(∀r F G,gi r (kk c) q F G→gi (x::r) (kk s) a F G)∧uj L c q)
 |0=>⟨fun _ _ _ _ h=>by simp[cm]at h,fun _ _ _ _ _ _ h=>by simp[dS]at h,fun _ _ _ _ h=>by simp[fV]at h⟩
 |n+1=>by
  obtain⟨P,S,X⟩:=Dv n;refine⟨fun s c l K h=> ?_,fun r s c l K hr h=> ?_,fun s0 c x K h a A=> ?_⟩
  ·simp only[cm]at h
   obtain⟨t,u,V,h⟩:=bind_ok h;obtain⟨l1,j,h2,h⟩:=bind_ok h;obtain⟨t3,y,D,h⟩:=bind_ok h;cases h;have g:=fe d K V;obtain⟨⟨C,B⟩,Q,rfl,H⟩:=S [] u j _ g.len (xz _) h2;have W:=fe d B D;refine⟨by have:=d.len;omega,fun a A=> ?_⟩;obtain⟨M,J,E⟩:=H a (qm f (zN g.lt) g.len A);refine⟨M, ?_,qm f (zN W.lt) W.len E⟩;have e1:kk u=kk s:=by simp only[kk,g.n]
   have e2:kk c=kk j:=by simp only[kk,W.n]
   rw[e2,←e1];exact J
  ·simp only[dS]at h
   cases hi:bV L s [125]<;>rw[hi]at h
   ·simp only[xP]at h
    obtain⟨x,u,V,h⟩:=bind_ok h;have C:=Ia d K V;obtain⟨B,Q,rfl,H⟩:=S (r ++[x]) u c l C.2 (by simp only[xK,xt];omega) h;refine⟨B,x::Q,by simp,fun a A=> ?_⟩;obtain⟨q,J,E⟩:=X s u x K V a A;obtain⟨Y,Z,g7⟩:=H q E;exact⟨Y,J _ _ _ Z,g7⟩
   ·cases h
    exact⟨⟨hr,K⟩,[],by simp,fun a A=>⟨a, .nil _ _,A⟩⟩
  ·simp only[fV]at h
   have N:s0.st.i<L.length:=K;have hc:bZ L s0.st=bZ L s0:=rfl;have U:([]:List aP).length<1000000:=by decide
   have w:∀{k:Int}{nm:List UInt8}{ty v:Int}{es:List Ex}{c:RS},On L s0.st c→∃q,(∀r F G,gi r (kk c) q F G→gi (.mk k s0.st.n nm ty v (bZ L s0.st).p es [] []::r) (kk s0) a F G)∧uj L c q:=fun {k nm ty v es c} o=>
    ⟨_,n8 d f (s0:=s0) rfl rfl A U U (.nil _ _) (.nil _ _) (by simp only[kk,o.n];rfl),Ib f o.lt o.len⟩
   have T:∀{x:aP}{c:RS},OL s0.st.n (bZ L s0.st).p x→On L s0.st c→∃q,(∀r F G,gi r (kk c) q F G→gi (x::r) (kk s0) a F G)∧uj L c q:=fun {x c} hx o=>by
    obtain⟨k,id,nm,ty,v,p,es,bd,el⟩:=x;obtain⟨rfl,rfl,rfl,rfl⟩:=hx;exact w o
   have I:∀{u j:RS},On L s0.st u→On L u j→On L s0.st j:=fun g z=>⟨Nat.lt_trans g.lt z.lt,z.len,z.n.trans g.n⟩
   have O:∀{j y:RS}{b:List aP},On L s0.st j→cm L n j= .ok b y→b.length<1000000∧j.i<y.i∧y.i<L.length∧∃q,gi b (fh (kk s0+1)) (bZ L s0).p (kk y) q∧uj L y q:=fun {j y b} o hb=>by
    obtain⟨C,B⟩:=P j y b o.len hb;have H:=o1 d o.len hb;obtain⟨q,J,E⟩:=B _ (Ib f (s:=s0) o.lt o.len)
    have e:kk j=fh (kk s0+1):=by
     have:kk j=fh (j.n+1):=rfl;rw[this,o.n];rfl
    rw[e]at J;exact⟨C,H.1,H.2,q,J,E⟩
   rcases j9 d N h with ⟨u,g,h⟩|h
   ·obtain⟨x1,j,h2,h⟩:=bind_ok h
    cases h;exact T (OM L n _ _ u x c h2) (I g (OP d g.len h2))
   rcases j9 d N h with ⟨u,g,h⟩|h
   ·obtain⟨e,j,h2,h⟩:=bind_ok h
    obtain⟨b,y,D,h⟩:=bind_ok h;have z:=I g (ql d g.len h2);obtain⟨lb,p1,p2,q,C,B⟩:=O z D;rcases j9 d p2 h with ⟨s4,R,h⟩|h
    ·obtain⟨m,s5,h5,h⟩:=bind_ok h
     cases h;obtain⟨lm,H⟩:=P s4 c m R.len h5;have J:=o1 d R.len h5;obtain⟨Y,E,Z⟩:=H q (qm f (zN R.lt) R.len B);have e4:kk s4=kk y:=by simp only[kk,R.n]
     rw[e4]at E;exact⟨Y,n8 d f (s0:=s0) rfl rfl A lb lm C E rfl,Z⟩
    ·cases h
     exact⟨q,n8 d f (s0:=s0) rfl rfl A lb U C (.nil _ _) rfl,B⟩
   rcases j9 d N h with ⟨u,g,h⟩|h
   ·obtain⟨e,j,h2,h⟩:=bind_ok h
    obtain⟨b,y,D,h⟩:=bind_ok h;cases h;obtain⟨lb,p1,p2,q,C,B⟩:=O (I g (ql d g.len h2)) D;exact⟨q,n8 d f (s0:=s0) rfl rfl A lb U C (.nil _ _) rfl,B⟩
   rcases j9 d N h with ⟨u,g,h⟩|h
   ·cases hi:bV L u [59]<;>rw[hi]at h
    ·obtain⟨e,j,h2,h⟩:=bind_ok h
     obtain⟨t,y,D,h⟩:=bind_ok h;cases h;have z:=I g (ql d g.len h2);exact w (I z (fe d z.len D))
    ·obtain⟨t,j,h2,h⟩:=bind_ok h
     cases h;exact w (I g (fe d g.len h2))
   rcases j9 d N h with ⟨u,g,h⟩|h
   ·obtain⟨e,j,h2,h⟩:=bind_ok h
    obtain⟨t,y,D,h⟩:=bind_ok h;cases h;have z:=I g (ql d g.len h2);exact w (I z (fe d z.len D))
   ·obtain⟨x1,j,h2,h⟩:=bind_ok h
    cases h;exact T (H4 L n _ _ s0.st x c h2) (H9 d N h2)
end
end Go.Avm
namespace Go.Avm
open Go.Proofs
def EQ:Nat→List (Nat×tj)→Nat→Prop
 |b,[],a=>b≤a
 |b,x::r,a=>b≤x.1∧EQ (x.1+1) r a
theorem uk:∀{ts:List (Nat×tj)}{d a c:Nat},d≤a→EQ a ts c→EQ d ts c
 |[],_,_,_,h,b=>yH h b
 |_::_,_,_,_,h,b=>⟨yH h b.1,b.2⟩
theorem sx:∀(n:Nat)(r:List UInt8)(a:Nat)(ts:List (Nat×tj)),f3 n r a= .ok ts→EQ a ts (a+r.length)
 |0,r,a,ts,h=>by
  simp only[f3,Except.ok.injEq]at h;subst h;exact zL _ _
 |n+1,[],a,ts,h=>by
  simp only[f3,Except.ok.injEq]at h;subst h;exact zL _ _
 |n+1,b::r,a,ts,h=>by
  rw[j7]at h;split at h
  ·cases h
  rename_i t j;split at h
  ·cases h
  rename_i i d;cases h;obtain⟨kd,c,k⟩:=t;obtain⟨hp,g⟩:=sr j;have m:0<c.length:=List.length_pos_iff.2 g;have h2:c.length≤(b::r).length:=hp.length_le;have f:=sx n _ _ _ d;have l:=jv false ((b::r).drop c.length);simp only[yc]at f l;refine⟨xL _, ?_⟩;have e:a+c.length+cL false (List.drop c.length (b::r))+((b::r).length-c.length-cL false (List.drop c.length (b::r)))=a+(b::r).length:=by omega
  rw[e]at f;exact uk (show a+1≤a+c.length+cL false (List.drop c.length (b::r)) by omega) f
theorem Cd{s:List UInt8}{ts:List (Nat×tj)}(h:kj s= .ok ts):EQ 0 ts s.length:=by
 have a:=sx _ _ _ _ h;have h2:=jv false s;rw[yc,Nat.add_sub_cancel' h2]at a;exact uk (xz _) a
theorem An(n:Nat):∀{ts:List (Nat×tj)}{a:Nat},EQ a ts n→(∀i,i<(di ts n).length→(a:Int)≤((di ts n).getD i default).p)∧V6 (di ts n)
 |[],a,h=>by
  have h':a≤n:=h;refine⟨fun i b=> ?_,fun i j e d=> ?_⟩
  ·have:i=0:=by simp[di]at b;exact b
   subst this;show(a:Int)≤(n:Int);omega
  ·simp[di]at d;omega
 |x::r,a,⟨l,h2⟩=>by
  obtain⟨g,k⟩:=An n h2;have f:di (x::r) n=Xw x::di r n:=rfl;refine⟨fun i b=> ?_,fun i j e d=> ?_⟩
  ·rw[f]at b ⊢
   cases i with
   |zero=>show(a:Int)≤(x.1:Int);omega
   |succ i=>
    have:=g i (by simpa using b);rw[List.getD_cons_succ];omega
  ·rw[f]at d ⊢
   cases j with
   |zero=>omega
   |succ j=>
    have c:j<(di r n).length:=by simpa using d
    rw[List.getD_cons_succ];cases i with
    |zero=>
     have:=g j c;show(x.1:Int)<_;omega
    |succ i=>
     rw[List.getD_cons_succ];exact k i j (by omega) c
section
variable{L:List T}(c:dC L)(d:V6 L)
include c
theorem jB{f e g:RS}(a:On L f e)(b:On L e g):On L f g:=⟨Nat.lt_trans a.lt b.lt,b.len,b.n.trans a.n⟩
theorem vO:∀{k:List Int}{s a:RS}{t:Int},s.i<L.length→e8 L k s= .ok t a→On L s a
 |[],_,_,_,_,h=>by cases h
 |k::r,s,a,t,l,h=>by
  simp only[e8]at h;rcases j9 c l h with ⟨b,o,h⟩|h
  ·cases h;exact o
  ·exact vO l h
theorem Ao{s b:RS}{x:Pm}(l:s.i<L.length)(h:gD L s= .ok x b):On L s b:=by
 unfold gD at h;obtain⟨t,n,g,h⟩:=bind_ok h;obtain⟨u,j,h2,h⟩:=bind_ok h;obtain⟨k,m,f,h⟩:=bind_ok h;cases h;have a:=Du c (by decide) l g;have e:=fe c a.len h2;exact jB c (jB c a e) (vO c e.len f)
theorem Ap:∀{n:Nat}{r:List Pm}{s a:RS}{e:List Pm},s.i<L.length→dT L n r s= .ok e a→a=s∨On L s a
 |0,_,_,_,_,_,h=>by simp[dT]at h
 |n+1,r,s,a,e,l,h=>by
  simp only[dT]at h;rcases j9 c l h with ⟨j,o,h⟩|h
  ·obtain⟨x,g,h2,h⟩:=bind_ok h
   have b:=jB c o (Ao c o.len h2);rcases Ap b.len h with rfl|f
   ·exact .inr b
   ·exact .inr (jB c b f)
  ·cases h;exact .inl rfl
theorem ER{n:Nat}{s f:RS}{o:List Pm}(l:s.i<L.length)(h:ed L n s= .ok o f):On L s f:=by
 unfold ed at h;obtain⟨t,m,q,h⟩:=bind_ok h;have a:=fe c l q;cases k:bV L m [41]<;>rw[k]at h
 ·obtain⟨x,j,h2,h⟩:=bind_ok h
  obtain⟨y,r,p,h⟩:=bind_ok h;obtain⟨z,u,g,h⟩:=bind_ok h;cases h;have b:=jB c a (Ao c a.len h2);rcases Ap c b.len p with rfl|e
  ·exact jB c b (fe c b.len g)
  ·exact jB c (jB c b e) (fe c e.len g)
 ·obtain⟨x,j,h2,h⟩:=bind_ok h
  cases h;exact jB c a (fe c a.len h2)
include d
theorem Ic{n:Nat}{s g:RS}{f:Fn}(l:s.i<L.length)(h:wh L n s= .ok f g):(s.i<g.i∧g.i<L.length)∧f.bd.length<1000000∧∀a,uj L s a→∃j,gi f.bd (kk s) a (kk g) j∧uj L g j:=by
 unfold wh at h;obtain⟨t,M,I,h⟩:=bind_ok h;obtain⟨u,J,h2,h⟩:=bind_ok h;obtain⟨ps,N,D,h⟩:=bind_ok h;have y:=fe c l I;have z:=jB c y (Du c (by decide) y.len h2);have q:=jB c z (ER c z.len D)
 have p:∀{m:RS}{b:List aP},On L s m→cm L n m= .ok b g→(s.i<g.i∧g.i<L.length)∧b.length<1000000∧∀a,uj L s a→∃j,gi b (kk s) a (kk g) j∧uj L g j:=fun {m b} o w=>by
  have x:=o1 c o.len w;obtain⟨C,G⟩:=(Dv c d n).1 m g b o.len w;refine⟨⟨Nat.lt_trans o.lt x.1,x.2⟩,C,fun a B=> ?_⟩;obtain⟨j,v,E⟩:=G a (qm d (zN o.lt) o.len B);have e:kk m=kk s:=by simp only[kk,o.n]
  rw[e]at v;exact⟨j,v,E⟩
 rcases j9 c q.len h with ⟨m,A,h⟩|h
 ·obtain⟨k,K,H,h⟩:=bind_ok h
  obtain⟨b,F,r,h⟩:=bind_ok h;cases h;exact p (jB c (jB c q A) (vO c A.len H)) r
 ·obtain⟨b,F,r,h⟩:=bind_ok h
  cases h;exact p q r
theorem Dw(N:Nat):∀(n:Nat)(r:List Fn)(s e:RS)(l:List Fn),s.i<L.length→r.length≤s.i→ld L N n r s= .ok l e→l.length<1000000∧∃b,l=r ++b∧∀a,uj L s a→tl b (kk s) a
 |0,_,_,_,_,_,_,h=>by simp[ld]at h
 |n+1,r,s,e,l,w,A,h=>by
  simp only[ld]at h;cases u:((bZ L s).k==0)<;>rw[u]at h
  ·simp only[xP]at h
   obtain⟨f,q,z,h⟩:=bind_ok h;obtain⟨o,y,t⟩:=Ic c d w z;obtain⟨g,b,rfl,m⟩:=Dw N n (r ++[f]) q e l o.2 (by simp only[xK,xt];omega) h;refine⟨g,f::b,by simp,fun a p=> ?_⟩;obtain⟨j,v,x⟩:=t a p;exact tl.cons y v (m j x)
  ·cases h
   exact⟨by have:=c.len;omega,[],by simp,fun a _=> .nil _ _⟩
theorem Id{n:Nat}{l:List Fn}{a:RS}(j:0<L.length)(hp:0≤(bZ L ⟨0,0,0⟩).p)(h:g8 L n= .ok l a):l.length<1000000∧tl l 1 (-1):=by
 unfold g8 at h;obtain⟨f,m,t,h⟩:=bind_ok h;obtain⟨b,k,o⟩:=Ic c d (s:=⟨0,0,0⟩) j t;obtain⟨e,u,rfl,i⟩:=Dw c d n n [f] m a l b.2 (by have:=b.1;simp only[xt];omega) h;obtain⟨g,q,r⟩:=o (-1) (by unfold uj;omega);exact⟨e,tl.cons k q (i g r)⟩
end
end Go.Avm
namespace Go.Avm
open Go.Proofs
def Post{b:Type}(Q:b→RS→Prop)(r:Res b):Prop:=∀a c,r= .ok a c→Q a c
section
variable{d i:Type}{Q g:d→RS→Prop}{R:i→RS→Prop}{r:Res d}{f:d→RS→Res i}{s:RS}
theorem Post.bind(h:Post Q r)(l:∀a j,Q a j→Post R (f a j)):Post R (r.bind f):=fun b k e=>by
 cases r with
 |ok a c=>exact l a c (h a c rfl) b k e
 |bad p q c=>cases e
 |out=>cases e
theorem Post.ok{a:d}(h:Q a s):Post Q (.ok a s):=fun _ _ e=>by cases e;exact h
theorem Post.out:Post Q (Res.out:Res d):=fun _ _ e=>by cases e
theorem Post.bad{p e:Int}:Post Q (Res.bad p e s:Res d):=fun _ _ e=>by cases e
theorem Post.ite{c:Bool}{X Y:Res d}(a:Post Q X)(b:Post Q Y):Post Q (bif c then X else Y):=by cases c<;>assumption
theorem Post.imp(h:Post Q r)(c:∀a b,Q a b→g a b):Post g r:=fun a b e=>c a b (h a b e)
end
section
variable(L:List T)
theorem lC(x:List UInt8)(s:RS):Post (fun _ a=>s.i+1≤a.i) (aL L x s):=aQ L x s
theorem mV(k:Int)(s:RS):Post (fun _ a=>s.i+1≤a.i) (eJ L k s):=hO L k s
theorem Ce(k:List Int)(s:RS):Post (fun _ a=>s.i+1≤a.i) (e8 L k s):=nF L k s
theorem Post.may{L:List T}{d:Type}{Q:d→RS→Prop}{x:List UInt8}{s:RS}{X Y:RS→Res d}(e:∀a,s.i+1≤a.i→Post Q (X a))(g:Post Q (Y s)):Post Q ((cD L x s).bind fun b c=>bif b then X c else Y c):=by
 unfold cD;cases bV L s x with
 |false=>exact g
 |true=>
  have:=(lC L x s).bind (f:=fun _ c=>X c) fun _ a h=>e a h
  simp only[xW];revert this;cases aL L x s<;>exact fun h=>h
structure ZA(n:Nat):Prop where
 one:∀s:RS,Post (fun a s'=>wq a+s.i≤s'.i) (gQ L n s)
 place:∀s:RS,Post (fun a s'=>wq a+2+s.i≤s'.i) (d8 L n s)
 call:∀nm p (s:RS),Post (fun a s'=>wq a+1+s.i≤s'.i) (gk L n nm p s)
 args:∀s:RS,Post (fun a s'=>eg a+2+s.i≤s'.i) (gR L n s)
 more:∀l (s:RS),Post (fun a s'=>eg a+s.i≤s'.i+eg l) (fD L n l s)
 expr:∀k (s:RS),Post (fun a s'=>wq a+s.i≤s'.i) (bH L n k s)
 tail:∀k e (s:RS),Post (fun a s'=>wq a+s.i≤s'.i+wq e) (eK L n k e s)
theorem Aq:∀l m:List Ex,eg (l ++m)=eg l+eg m
 |[],m=>by simp[eg]
 |x::l,m=>by simp only[xk,eg,Aq l m];omega
theorem Ar:∀l m:List aP,bf (l ++m)=bf l+bf m
 |[],m=>by simp[bf]
 |x::l,m=>by simp only[xk,bf,Ar l m];omega
theorem Au:∀l m:List Fn,gh (l ++m)=gh l+gh m
 |[],m=>by simp[gh]
 |x::l,m=>by simp only[xk,gh,Au l m];omega
theorem KN:∀n,ZA L n
 |0=>⟨fun _=>Post.out,fun _=>Post.out,fun _ _ _=>Post.out,fun _=>Post.out,fun _ _=>Post.out,fun _ _=>Post.out,fun _ _ _=>Post.out⟩
 |n+1=>by
  have d:=KN n;have W:=lC L;refine⟨fun s=> ?_,fun s=> ?_,fun nm p s=> ?_,fun s=> ?_,fun l s=> ?_,fun k s=> ?_,fun k e s=> ?_⟩
  ·simp only[gQ]
   have m:∀(o p:Int) c,s.i+1≤c.i→Post (fun a b=>wq a+s.i≤b.i) ((gQ L n c).bind fun e b=> .ok (.mk 8 o [] 0 p [e]) b):=fun o p c h=>(d.one c).bind fun e b h2=> .ok (by simp only[wq,eg];omega)
   refine Post.may (fun c=>m _ _ c) (Post.may (fun c=>m _ _ c) (Post.may (fun c=>m _ _ c) (Post.ite (.ok (by simp only[wq,eg,RS.nx];omega)) ?_)));refine Post.may (fun c h=> .ok (by simp only[wq,eg];omega)) (Post.may (fun c h=> .ok (by simp only[wq,eg];omega)) ?_);refine Post.may (fun c h=>(W _ c).bind fun _ b h2=>(W _ b).bind fun _ _ f=> .ok (by simp only[wq,eg];omega)) ?_;refine Post.may (fun c h=>(W _ c).bind fun _ b h2=>(mV L 1 b).bind fun _ g f=>(W _ g).bind fun _ _ j=> .ok (by simp only[wq,eg];omega)) ?_;refine Post.ite ((W _ s).bind fun _ b h2=>(d.expr _ b).bind fun _ g f=>(W _ g).bind fun _ _ j=> .ok (by omega)) ?_;refine(mV L 1 s).bind fun _ b h2=>Post.ite ((d.place b).bind fun _ _ f=> .ok (by simp only[wq,eg];omega)) (Post.ite ((d.call _ _ b).bind fun _ _ f=> .ok (by omega)) (.ok (by simp only[wq,eg];omega)))
  ·simp only[d8]
   exact(W _ s).bind fun _ b h2=>(d.expr _ b).bind fun _ g f=>(W _ g).bind fun _ _ j=> .ok (by omega)
  ·simp only[gk]
   exact(d.args s).bind fun _ _ h=> .ok (by simp only[wq];omega)
  ·simp only[gR]
   exact(W _ s).bind fun _ b h2=>Post.ite ((W _ b).bind fun _ _ f=> .ok (by simp only[eg];omega)) ((d.expr _ b).bind fun _ g f=>(d.more _ g).bind fun _ q j=>(W _ q).bind fun _ _ r=> .ok (by simp only[eg]at j;omega))
  ·simp only[fD]
   exact Post.may (fun c h=>(d.expr _ c).bind fun _ g f=>(d.more _ g).imp fun _ _ j=>by simp only[Aq,eg]at j;omega) (.ok (Nat.le_of_eq (Nat.add_comm _ _)))
  ·simp only[bH]
   exact(d.one s).bind fun _ b h2=>(d.tail _ _ b).imp fun _ _ f=>by omega
  ·simp only[eK]
   exact Post.ite (.ok (Nat.le_of_eq (Nat.add_comm _ _))) ((d.expr _ _).bind fun _ b h2=>(d.tail _ _ b).imp fun _ _ f=>by simp only[wq,eg,RS.nx]at h2 f;omega)
theorem SM(n:Nat)(id p:Int)(s:RS):Post (fun a b=>j8 a+s.i≤b.i) (jX L n id p s):=by
 have W:=lC L;unfold jX;refine(mV L 1 s).bind fun _ e h2=>(W _ e).bind fun _ g q=>(Ce L _ g).bind fun _ d r=>Post.ite ?_ ?_
 ·exact(W _ d).bind fun _ f j=>(mV L 3 f).bind fun _ c m=>(W _ c).bind fun _ l k=>(W _ l).bind fun _ _ o=> .ok (by simp only[j8,bf,eg];omega)
 ·exact Post.may (fun b h=>((KN L n).expr 1 b).bind fun _ c m=>(W _ c).bind fun _ _ k=> .ok (by simp only[j8,bf,eg];omega)) ((W _ d).bind fun _ _ j=> .ok (by simp only[j8,bf,eg];omega))
theorem KO(n:Nat)(id p:Int)(s:RS):Post (fun a j=>j8 a+s.i≤j.i) (dR L n id p s):=by
 have W:=lC L;have A:=KN L n;unfold dR;refine(mV L 1 s).bind fun _ c h2=>Post.ite ((A.call _ _ c).bind fun _ b f=>(W _ b).bind fun _ _ e=> .ok (by simp only[j8,bf,eg];omega)) (Post.ite ?_ ?_)
 ·exact(A.place c).bind fun _ b f=>(W _ b).bind fun _ d e=>(A.expr 1 d).bind fun _ g h=>(W _ g).bind fun _ _ k=> .ok (by simp only[j8,bf,eg];omega)
 ·exact(W _ c).bind fun _ b f=>(A.expr 1 b).bind fun _ d e=>(W _ d).bind fun _ _ h=> .ok (by simp only[j8,bf,eg];omega)
theorem Ie:∀n,(∀s:RS,Post (fun a b=>bf a+2+s.i≤b.i) (cm L n s))∧(∀l (s:RS),Post (fun a b=>bf a+s.i≤b.i+bf l) (dS L n l s))∧(∀s:RS,Post (fun a b=>j8 a+s.i≤b.i) (fV L n s))
 |0=>⟨fun _=>Post.out,fun _ _=>Post.out,fun _=>Post.out⟩
 |n+1=>by
  obtain⟨h,h2,o⟩:=Ie n;have W:=lC L;have A:=KN L n;refine⟨fun s=> ?_,fun l s=> ?_,fun s=> ?_⟩
  ·simp only[cm]
   exact(W _ s).bind fun _ f m=>(h2 _ f).bind fun _ d c=>(W _ d).bind fun _ _ e=> .ok (by simp only[bf]at c;omega)
  ·simp only[dS]
   exact Post.ite (.ok (Nat.le_of_eq (Nat.add_comm _ _))) ((o s).bind fun _ f m=>(h2 _ f).imp fun _ _ c=>by simp only[Ar,bf]at c;omega)
  ·simp only[fV]
   have q:s.st.i=s.i:=rfl;refine Post.may (fun b g=>(SM L n _ _ b).bind fun _ _ c=> .ok (by omega)) (Post.may (fun b g=> ?_) (Post.may (fun b g=> ?_) (Post.may (fun b g=> ?_) (Post.may (fun b g=> ?_) ?_))))
   ·exact(A.expr 1 b).bind fun _ d c=>(h d).bind fun _ j e=>Post.may (fun k p=>(h k).bind fun _ _ r=> .ok (by simp only[j8,bf,eg];omega)) (.ok (by simp only[j8,bf,eg];omega))
   ·exact(A.expr 1 b).bind fun _ d c=>(h d).bind fun _ j e=> .ok (by simp only[j8,bf,eg];omega)
   ·exact Post.ite ((W _ b).bind fun _ _ c=> .ok (by simp only[j8,bf,eg];omega)) ((A.expr 1 b).bind fun _ d c=>(W _ d).bind fun _ _ e=> .ok (by simp only[j8,bf,eg];omega))
   ·exact(A.expr 1 b).bind fun _ d c=>(W _ d).bind fun _ _ e=> .ok (by simp only[j8,bf,eg];omega)
   ·exact(KO L n _ _ _).bind fun _ _ c=> .ok (by omega)
theorem Dx(s:RS):Post (fun _ b=>1+s.i≤b.i) (gD L s):=(mV L 1 s).bind fun _ c e=>(lC L _ c).bind fun _ a h2=>(Ce L _ a).bind fun _ _ d=> .ok (by omega)
theorem Dy:∀(n:Nat)(l:List Pm)(s:RS),Post (fun a b=>a.length+s.i≤b.i+l.length) (dT L n l s)
 |0,_,_=>Post.out
 |n+1,l,s=>by
  simp only[dT];exact Post.may (fun b h=>(Dx L b).bind fun _ c h2=>(Dy n _ c).imp fun _ _ d=>by simp only[xK,xG,xS]at d;omega) (.ok (Nat.le_of_eq (Nat.add_comm _ _)))
theorem Ig(n:Nat)(s:RS):Post (fun a e=>a.length+2+s.i≤e.i) (ed L n s):=by
 have W:=lC L;unfold ed;exact(W _ s).bind fun _ b j=>Post.ite ((W _ b).bind fun _ _ g=> .ok (by simp only[xS];omega)) ((Dx L b).bind fun _ f g=>(Dy L n _ f).bind fun _ c d=>(W _ c).bind fun _ _ h=> .ok (by simp only[xG,xS]at d;omega))
theorem SN(n:Nat)(s:RS):Post (fun a e=>EO a+s.i≤e.i) (wh L n s):=by
 have W:=lC L;have B:=(Ie L n).1;unfold wh;exact(W _ s).bind fun _ g m=>(mV L 1 g).bind fun _ b h2=>(Ig L n b).bind fun _ d l=>Post.may (fun f k=>(Ce L _ f).bind fun _ c j=>(B c).bind fun _ _ h=> .ok (by simp only[EO];omega)) ((B d).bind fun _ _ h=> .ok (by simp only[EO];omega))
theorem Mb(N:Nat):∀(n:Nat)(l:List Fn)(s:RS),Post (fun a c=>gh a+s.i≤c.i+gh l) (ld L N n l s)
 |0,_,_=>Post.out
 |n+1,l,s=>by
  simp only[ld];exact Post.ite (.ok (Nat.le_of_eq (Nat.add_comm _ _))) ((SN L N s).bind fun _ b d=>(Mb N n _ b).imp fun _ _ h2=>by simp only[Au,gh]at h2;omega)
theorem OQ(n:Nat):Post (fun a c=>gh a≤c.i) (g8 L n):=by
 unfold g8;exact(SN L n ⟨0,0,0⟩).bind fun _ b d=>(Mb L n n _ b).imp fun _ _ h2=>by simp only[gh]at d h2;omega
end
theorem Cf{L:List T}(a:dC L)(c:0<L.length){l:List Fn}{b:RS}(h:g8 L (fuel L)= .ok l b):gh l<1000000:=by
 have e:=OQ L (fuel L) l b h;have h2:=(((OC a (fuel L) ⟨0,0,0⟩ c (by simp only[fuel];omega)).bind fun f d e h2=>Hu a (fuel L) (xL _) (fuel L) [f] d h2 (by simp only[fuel];omega)).2 l b h).2;have:=a.len;omega
end Go.Avm
namespace Go.Avm
open Go.Proofs
def Bd{a:Type}(r:Res a):Prop:=∀p e s,r= .bad p e s→e≠0
section
variable{b d:Type}{r:Res b}{f:b→RS→Res d}{s:RS}{L:List T}
theorem Bd.bind(h:Bd r)(j:∀a i,Bd (f a i)):Bd (r.bind f):=fun p e g q=>by
 cases r with
 |ok a c=>exact j a c p e g q
 |bad p k c=>cases q;exact h _ _ _ rfl
 |out=>cases q
theorem Bd.ok{a:b}:Bd (.ok a s):=fun _ _ _ q=>by cases q
theorem Bd.out:Bd (Res.out:Res b):=fun _ _ _ q=>by cases q
theorem Bd.fail:Bd (fail L s:Res b):=fun _ _ _ q=>by cases q;decide
theorem Bd.ite{c:Bool}{X Y:Res b}(a:Bd X)(e:Bd Y):Bd (bif c then X else Y):=by cases c<;>assumption
theorem bh(x:List UInt8):Bd (aL L x s):=by
 unfold aL;refine Bd.ite (Bd.ite (Bd.ite (fun _ _ _ q=>by cases q;decide) .ok) (Bd.ite .ok .ok)) .fail
theorem kc(k:Int):Bd (eJ L k s):=by unfold eJ;exact Bd.ite .ok .fail
theorem d9(x:List UInt8):Bd (cD L x s):=by unfold cD;exact Bd.ite ((bh x).bind fun _ _=> .ok) .ok
theorem qn:∀(l:List Int)(s:RS),Bd (e8 L l s)
 |[],s=> .fail
 |k::r,s=>by unfold e8;exact(d9 _).bind fun _ a=>Bd.ite .ok (qn r a)
end
section
variable(L:List T)
theorem Ih:∀n,(∀s,Bd (gQ L n s))∧(∀s,Bd (d8 L n s))∧(∀nm p s,Bd (gk L n nm p s))∧(∀s,Bd (gR L n s))∧(∀l s,Bd (fD L n l s))∧(∀k s,Bd (bH L n k s))∧(∀k e s,Bd (eK L n k e s))
 |0=>⟨fun _=> .out,fun _=> .out,fun _ _ _=> .out,fun _=> .out,fun _ _=> .out,fun _ _=> .out,fun _ _ _=> .out⟩
 |n+1=>by
  obtain⟨b,h2,j,i,c,a,d⟩:=Ih n;refine⟨fun s=> ?_,fun s=> ?_,fun nm p s=> ?_,fun s=> ?_,fun l s=> ?_,fun k s=> ?_,fun k e s=> ?_⟩
  ·simp only[gQ]
   refine(d9 _).bind fun _ f=>Bd.ite ((b _).bind fun _ _=> .ok) ((d9 _).bind fun _ g=>Bd.ite ((b _).bind fun _ _=> .ok) ((d9 _).bind fun _ h=>Bd.ite ((b _).bind fun _ _=> .ok) (Bd.ite .ok ?_)))
   refine(d9 _).bind fun _ f=>Bd.ite .ok ((d9 _).bind fun _ g=>Bd.ite .ok ((d9 _).bind fun _ h=>Bd.ite ((bh _).bind fun _ _=>(bh _).bind fun _ _=> .ok) ?_))
   refine(d9 _).bind fun _ f=>Bd.ite ((bh _).bind fun _ _=>(kc _).bind fun _ _=>(bh _).bind fun _ _=> .ok) (Bd.ite ((bh _).bind fun _ _=>(a _ _).bind fun _ _=>(bh _).bind fun _ _=> .ok) ?_)
   exact(kc _).bind fun _ _=>Bd.ite ((h2 _).bind fun _ _=> .ok) (Bd.ite ((j _ _ _).bind fun _ _=> .ok) .ok)
  ·simp only[d8]
   exact(bh _).bind fun _ _=>(a _ _).bind fun _ _=>(bh _).bind fun _ _=> .ok
  ·simp only[gk]
   exact(i _).bind fun _ _=> .ok
  ·simp only[gR]
   exact(bh _).bind fun _ _=>Bd.ite ((bh _).bind fun _ _=> .ok) ((a _ _).bind fun _ _=>(c _ _).bind fun _ _=>(bh _).bind fun _ _=> .ok)
  ·simp only[fD]
   exact(d9 _).bind fun _ _=>Bd.ite ((a _ _).bind fun _ _=>c _ _) .ok
  ·simp only[bH]
   exact(b _).bind fun _ _=>d _ _ _
  ·simp only[eK]
   exact Bd.ite .ok ((a _ _).bind fun _ _=>d _ _ _)
theorem ke(n:Nat)(k:Int)(s:RS):Bd (bH L n k s):=(Ih L n).2.2.2.2.2.1 k s
theorem OR(n:Nat)(id p:Int)(s:RS):Bd (jX L n id p s):=by
 unfold jX;exact(kc _).bind fun _ _=>(bh _).bind fun _ _=>(qn _ _).bind fun _ _=>Bd.ite ((bh _).bind fun _ _=>(kc _).bind fun _ _=>(bh _).bind fun _ _=>(bh _).bind fun _ _=> .ok) ((d9 _).bind fun _ _=>Bd.ite ((ke L _ _ _).bind fun _ _=>(bh _).bind fun _ _=> .ok) ((bh _).bind fun _ _=> .ok))
theorem Ii(n:Nat)(id p:Int)(s:RS):Bd (dR L n id p s):=by
 obtain⟨_,h2,a,_⟩:=Ih L n;unfold dR;exact(kc _).bind fun _ _=>Bd.ite ((a _ _ _).bind fun _ _=>(bh _).bind fun _ _=> .ok) (Bd.ite ((h2 _).bind fun _ _=>(bh _).bind fun _ _=>(ke L _ _ _).bind fun _ _=>(bh _).bind fun _ _=> .ok) ((bh _).bind fun _ _=>(ke L _ _ _).bind fun _ _=>(bh _).bind fun _ _=> .ok))
theorem Dz:∀n,(∀s,Bd (cm L n s))∧(∀l s,Bd (dS L n l s))∧(∀s,Bd (fV L n s))
 |0=>⟨fun _=> .out,fun _ _=> .out,fun _=> .out⟩
 |n+1=>by
  obtain⟨a,h2,b⟩:=Dz n;refine⟨fun s=> ?_,fun l s=> ?_,fun s=> ?_⟩
  ·simp only[cm]
   exact(bh _).bind fun _ _=>(h2 _ _).bind fun _ _=>(bh _).bind fun _ _=> .ok
  ·simp only[dS]
   exact Bd.ite .ok ((b _).bind fun _ _=>h2 _ _)
  ·simp only[fV]
   refine(d9 _).bind fun _ _=>Bd.ite ((OR L _ _ _ _).bind fun _ _=> .ok) ((d9 _).bind fun _ _=>Bd.ite ((ke L _ _ _).bind fun _ _=>(a _).bind fun _ _=>(d9 _).bind fun _ _=>Bd.ite ((a _).bind fun _ _=> .ok) .ok) ?_)
   refine(d9 _).bind fun _ _=>Bd.ite ((ke L _ _ _).bind fun _ _=>(a _).bind fun _ _=> .ok) ((d9 _).bind fun _ _=>Bd.ite (Bd.ite ((bh _).bind fun _ _=> .ok) ((ke L _ _ _).bind fun _ _=>(bh _).bind fun _ _=> .ok)) ?_)
   exact(d9 _).bind fun _ _=>Bd.ite ((ke L _ _ _).bind fun _ _=>(bh _).bind fun _ _=> .ok) ((Ii L _ _ _ _).bind fun _ _=> .ok)
theorem Av(s:RS):Bd (gD L s):=(kc _).bind fun _ _=>(bh _).bind fun _ _=>(qn _ _).bind fun _ _=> .ok
theorem Aw:∀(n:Nat)(l:List Pm)(s:RS),Bd (dT L n l s)
 |0,_,_=> .out
 |n+1,l,s=>by
  simp only[dT];exact(d9 _).bind fun _ _=>Bd.ite ((Av L _).bind fun _ _=>Aw n _ _) .ok
theorem Mc(n:Nat)(s:RS):Bd (wh L n s):=by
 have B:=(Dz L n).1;unfold wh ed;exact(bh _).bind fun _ _=>(kc _).bind fun _ _=>Bd.bind ((bh _).bind fun _ _=>Bd.ite ((bh _).bind fun _ _=> .ok) ((Av L _).bind fun _ _=>(Aw L _ _ _).bind fun _ _=>(bh _).bind fun _ _=> .ok)) fun _ _=>(d9 _).bind fun _ _=>Bd.ite ((qn _ _).bind fun _ _=>(B _).bind fun _ _=> .ok) ((B _).bind fun _ _=> .ok)
theorem Ij(N:Nat):∀(n:Nat)(l:List Fn)(s:RS),Bd (ld L N n l s)
 |0,_,_=> .out
 |n+1,l,s=>by
  simp only[ld];exact Bd.ite .ok ((Mc L N s).bind fun _ _=>Ij N n _ _)
theorem KP(n:Nat):Bd (g8 L n):=by
 unfold g8;exact(Mc L n _).bind fun _ _=>Ij L n n _ _
end
end Go.Avm
namespace Go.Avm
open Go.Proofs
theorem DA:∀(ps:List Pm)(k:Nat)(a:List (List UInt8))(u:Unit),lX k a ps= .ok u→(k≤6→k+ps.length≤6)∧(ps.map (·.nm)).Nodup∧∀p∈ps,p.nm∉a
 |[],k,a,u,_=>⟨fun h=>h,yV,fun _ h=>by cases h⟩
 |p::r,k,a,u,h=>by
  simp only[lX]at h;cases c:decide (6≤k)with
  |true=>rw[c]at h;cases h
  |false=>
   rw[c]at h;have c:=ya c;cases d:a.any (· ==p.nm)with
   |true=>rw[d]at h;cases h
   |false=>
    rw[d]at h;obtain⟨g,i,e⟩:=DA r (k+1) (a ++[p.nm]) u h;refine⟨fun _=>by have:=g (by omega);simp only[xG];omega, ?_, ?_⟩
    ·rw[xH,yy]
     refine⟨fun hm=> ?_,i⟩;obtain⟨q,b,f⟩:=x9.1 hm;exact e q b (by rw[f];simp)
    ·intro q b
     rcases x0.1 b with rfl|b
     ·intro hm
      have:a.any (· ==q.nm)=true:=yP.2 ⟨_,hm,by simp⟩;rw[d]at this;cases this
     ·exact fun hm=>e q b (yK _ hm)
theorem DB:∀(ps:List Pm)(k:Nat)(a:List (List UInt8)),lX k a ps≠ .out
 |[],_,_=>by simp[lX]
 |p::r,k,a=>by
  simp only[lX];exact fl fo (fl fo (DB r _ _))
theorem ul:∀(fs a:List Fn)(u:Unit),fi a fs= .ok u→∀f∈fs,f.ps.length≤6∧(f.ps.map (·.nm)).Nodup
 |[],_,_,_,_,h=>by cases h
 |f::r,a,u,h,g,b=>by
  simp only[fi]at h;cases c:(bA f.nm a 0).isSome with
  |true=>rw[c]at h;cases h
  |false=>
   rw[c]at h;simp only[xP]at h;cases hp:lX 0 [] f.ps with
   |out=>rw[hp]at h;cases h
   |bad p e=>rw[hp]at h;cases h
   |ok v=>
    rw[hp]at h;rcases x0.1 b with rfl|b
    ·obtain⟨d,i,_⟩:=DA _ _ _ _ hp
     exact⟨by have:=d (by omega);omega,i⟩
    ·exact ul r _ u h g b
theorem um:∀(fs a:List Fn),fi a fs≠ .out
 |[],_=>by simp[fi]
 |f::r,a=>by
  simp only[fi];exact fl fo (TR.bind_ne (DB _ _ _) fun _=>um r _)
theorem o2(fs:List Fn):f0 fs≠ .out:=by
 unfold f0;refine TR.bind_ne (um _ _) fun _=> ?_
 split
 ·exact fo
 ·exact fl gq fo
theorem hZ{fs:List Fn}{u:Unit}(h:f0 fs= .ok u):∀f∈fs,f.ps.length≤6∧(f.ps.map (·.nm)).Nodup:=by
 unfold f0 at h;cases a:fi [] fs with
 |out=>rw[a]at h;cases h
 |bad p e=>rw[a]at h;cases h
 |ok v=>exact ul fs [] v a
theorem sy:∀(m:Nat)(l:List aP),bf l<m→m≤1000000→iZ m l
 |0,_,h,_=>absurd h (Nat.not_lt_zero _)
 |m+1,l,h,hm=>by
  have f:=jz l;refine⟨by omega,fun s e=> ?_⟩;obtain⟨i,c,a⟩:=yY e;have b:=Ai (show l[i]? =some s by rw[xD c,a]);obtain⟨k,id,nm,ty,n,p,es,bd,d⟩:=s;simp only[j8]at b;exact⟨sy m bd (by omega) (by omega),sy m d (by omega) (by omega)⟩
structure PG(fs:List Fn):Prop where
 z:gh fs<1000000
 g:∀f∈fs,gc f
 num:tl fs 1 (-1)
theorem PG.fsOk{fs:List Fn}(h:PG fs){u:Unit}(b:f0 fs= .ok u):GR fs 999999 where
 len:=Nat.lt_of_le_of_lt (jA fs) h.z
 par:=fun f a=>(hZ b f a).1
 nod:=fun f a=>(hZ b f a).2
 nml:=fun f a p hp=>by have:=((h.g f a).ps p hp).1;omega
 sh:=fun f a=>by
  obtain⟨i,e,d⟩:=yY a;have c:=ly (show fs[i]? =some f by rw[xD e,d]);have:=h.z;unfold EO at c;exact sy _ _ (by omega) (by omega)
 m:=by decide
theorem qo(c:CS):∀ps:List Pm,(ps.foldl CS.par c).pts=c.pts
 |[]=>rfl
 |p::r=>qo (c.par p) r
theorem DC{fs:List Fn}{i:Nat}(k:i<fs.length){f:Fn}(r:de f.bd=true){pts:List Pt}{n a b j:Int}(o:n=(pts.length:Int))(m:gi f.bd n a b j)(l:pts.length+bf f.bd<900000000):
    jt fs i f pts≠ .out∧∀q,jt fs i f pts= .ok q→(q.2.length:Int)=b∧q.2.length≤pts.length+bf f.bd:=by
 have hp:=qo ⟨[],[],⟨[],0⟩,pts⟩ f.ps;unfold jt eM;generalize f.ps.foldl CS.par ⟨[],[],⟨[],0⟩,pts⟩=c at hp;have hp:c.pts=pts:=hp;have g:=lB fs i k f.bd 0 false c n a b j r (by rw[hp];exact o) m (by rw[hp];exact l);revert g;show NO b (c.pts.length+bf f.bd) (bu fs i 0 false f.bd c)→_;dsimp only;cases bu fs i 0 false f.bd c with
 |out=>exact fun h=>h.elim
 |bad p e=>exact fun _=>⟨fo,fun _ h=>by cases h⟩
 |ok t=>
  rintro⟨s,d⟩;rw[hp]at d;simp only[TR.bind];cases (f.res==0||bT f.bd)with
  |false=>exact⟨fo,fun _ h=>by cases h⟩
  |true=>exact⟨gq,fun q h=>by cases h;exact⟨s,d⟩⟩
theorem un{fs:List Fn}:∀(mQ:List Fn)(i:Nat)(b:List (List Vr))(pts:List Pt)(n a:Int),i+mQ.length≤fs.length→(∀f∈mQ,gc f)→tl mQ n a→n=(pts.length:Int)→pts.length+gh mQ<900000000→cn fs i mQ b pts≠ .out
 |[],_,_,_,_,_,_,_,_,_,_=>by simp[cn]
 |f::r,i,b,pts,n,a,s,m,w,v,g=>by
  simp only[xG]at s;simp only[gh,EO]at g;cases w with
  | @cons nm ps k bd p _ _ _ t o lb c d=>
  have g:pts.length+(1+ps.length+bf bd+gh r)<900000000:=g;obtain⟨x,j⟩:=DC (fs:=fs) (i:=i) (by omega) (f:=⟨nm,ps,k,bd,p⟩) (m _ (yE ..)).bd v c (by show pts.length+bf bd<_;omega);simp only[cn];revert x j;cases jt fs i ⟨nm,ps,k,bd,p⟩ pts with
  |out=>exact fun h _=>absurd rfl h
  |bad p e=>exact fun _ _=>fo
  |ok q=>
   intro _ j;obtain⟨u,l⟩:=j q rfl;have l:q.2.length≤pts.length+bf bd:=l;simp only[TR.bind];exact un r (i+1) _ _ t o (by omega) (fun f y=>m f (xp _ y)) d u.symm (by omega)
theorem n9{fs:List Fn}(h:PG fs):du fs≠ .out:=by
 unfold du;exact TR.bind_ne (o2 fs) fun _=>un fs 0 [] [dz] 1 (-1) (by omega) h.g h.num rfl (by have:=h.z;simp only[xG,xS];omega)
theorem Ik{fs:List Fn}(h:PG fs):aF Pg 13 [.agg [.ro (fs.map bn)]] (nT (du fs)):=by
 cases d:f0 fs with
 |ok u=>exact N7 (h.fsOk d) (n9 h)
 |out=>exact absurd d (o2 fs)
 |bad p e=>
  have b:=Nat.lt_of_le_of_lt (jA fs) h.z;have c:=GM (fs:=fs) (nn:= .junk) (fun _=>rfl) b;unfold du;rw[d]at c ⊢;simp only[TZ]at c;exact Xo b p e fun a=>zZ b9 (c a) (sg fs a)
theorem Ax:∀(n:Nat)(r:List UInt8)(a:Nat)(ts:List (Nat×tj)),f3 n r a= .ok ts→∀x∈ts,x.2.2.1.length≤r.length
 |0,r,a,ts,h,x,c=>by
  simp only[f3,Except.ok.injEq]at h;subst h;cases c
 |n+1,[],a,ts,h,x,c=>by
  simp only[f3,Except.ok.injEq]at h;subst h;cases c
 |n+1,b::r,a,ts,h,x,c=>by
  rw[j7]at h;split at h
  ·cases h
  rename_i t f;split at h
  ·cases h
  rename_i e d;cases h;obtain⟨kd,g,k⟩:=t;obtain⟨hp,_⟩:=sr f;rcases x0.1 c with rfl|c
  ·exact hp.length_le
  ·have:=Ax n _ _ _ d x c
   simp only[yc]at this;omega
theorem Cg{s:List UInt8}(h:s.length≤20000){ts:List (Nat×tj)}(b:kj s= .ok ts):L9 (di ts s.length):=fun r=>by
 unfold bZ;rw[yX];cases c:(di ts s.length)[r.i]? with
 |none=>exact xz _
 |some x=>
  have hm:=xX c;rcases xU.1 hm with hm|hm
  ·obtain⟨y,a,rfl⟩:=x9.1 hm
   have:=Ax _ _ _ _ b y a;simp only[yc]at this;show y.2.2.1.length≤20000;omega
  ·rw[xM.1 hm]
   exact xz _
end Go.Avm
namespace Go.Avm
open Go.Proofs
def Ay(s:List UInt8):Except (Int×Int) (List Fn):=
 if 20000<s.length then .error (0,2)else match kj s with
  | .error (p,k)=> .error ((p:Int),k)
  | .ok ts=>match g8 (di ts s.length) (fuel (di ts s.length))with
   | .ok l _=> .ok l
   | .bad p e _=> .error (p,e)
   | .out=> .error (0,1)
def Ch(s:List UInt8):Except (Int×Int) (List Fn)→Prop
 | .error (q,e)=>iD s=[.agg [.ro []], .int .i64 q, .int .i64 e]∧e≠0
 | .ok l=>iD s=[.agg [.ro (l.map bn)], .int .i64 0, .int .i64 0]∧PG l
theorem DD(s:List UInt8):Ch s (Ay s):=by
 unfold Ay;have m:∀x:Except (Int×Int) (List Fn),Ch s x=Ch s x:=fun _=>rfl
 by_cases h:20000<s.length
 ·rw[xf h]
  exact⟨by unfold iD;rw[xf h],by decide⟩
 ·rw[xo h]
  have hp:iD s=match kj s with
   | .error (p,k)=>[.agg [.ro []], .int .i64 (p:Int), .int .i64 k]
   | .ok ts=>Hs (B8 ts s.length):=by unfold iD;rw[xo h];try rfl
  cases c:kj s with
  |error e=>
   obtain⟨p,k⟩:=e;rw[c]at hp;exact⟨hp,oZ _ _ _ _ _ c⟩
  |ok ts=>
   rw[c]at hp;have j:=ug c;have a:=uf (ts:=ts) (n:=s.length) (by omega);obtain⟨g,i⟩:=An s.length (Cd c);have d:=Di a (gJ ts s.length);dsimp only at hp ⊢;unfold B8 at hp;cases b:g8 (di ts s.length) (fuel (di ts s.length))with
   |ok l f=>
    rw[b]at hp;exact⟨hp,Cf a (gJ _ _) b,KM (Cg (by omega) c) _ l f b,(Id a i (gJ _ _) (g 0 (gJ _ _)) b).2⟩
   |bad p e f=>
    rw[b]at hp;exact⟨hp,KP _ _ _ _ _ b⟩
   |out=>exact absurd b d
def lD(s:List UInt8):List D:=match Ay s with
 | .error (q,e)=>[.agg [.ro []], .agg [.ro [], .ro []], .int .i64 q, .int .i64 e]
 | .ok l=> .agg [.ro (l.map bn)]::nT (du l)
section
variable{s:List UInt8}
theorem V7{q e:Int}(hp:aF Pg 12 [.str s] [.agg [.ro []], .int .i64 q, .int .i64 e])(a:(e !=0)=true):aF Pg 9 [.str s] [.agg [.ro []], .agg [.ro [], .ro []], .int .i64 q, .int .i64 e]:=
 qV {hint:=qT 9 [(12, .call 12 _ _ hp),(17,qB a)]} 709297
theorem SO{l:List Fn}{a b:List D}{q e:Int}(hp:aF Pg 12 [.str s] [.agg [.ro (l.map bn)], .int .i64 0, .int .i64 0])(c:aF Pg 13 [.agg [.ro (l.map bn)]] [.agg [.ro a, .ro b], .int .i64 q, .int .i64 e]):aF Pg 9 [.str s] [.agg [.ro (l.map bn)], .agg [.ro a, .ro b], .int .i64 q, .int .i64 e]:=
 qV {hint:=qT 9 [(12, .call 12 _ _ hp),(24, .call 13 _ _ c)]} 709297
end
theorem Ci(s:List UInt8):aF Pg 9 [.str s] (lD s):=by
 have hp:=uh s;have b:=DD s;unfold lD;cases h:Ay s with
 |error x=>
  obtain⟨q,e⟩:=x;rw[h]at b;obtain⟨c,h2⟩:=b;rw[c]at hp;exact V7 hp (by simpa using h2)
 |ok l=>
  rw[h]at b;obtain⟨c,h2⟩:=b;rw[c]at hp;have a:=Ik h2;have d:=n9 h2;dsimp only;revert a d;cases du l with
  |out=>exact fun _ h=>absurd rfl h
  |ok q=>exact fun a _=>SO hp a
  |bad p e=>exact fun a _=>SO hp a
end Go.Avm
