/-
  The scanner of texts, part K: the next token, told of what is left of the text.
-/
import Derived.Test.YtcjiafanhlhdlaaGreatDoorG12
import Derived.Test.YtcjiafanhlhdlaaGreatDoorG11
import Derived.Test.YtcjiafanhlhdlaaGreatDoorG08
set_option linter.unusedVariables false
set_option linter.unusedSimpArgs false
set_option linter.unusedSectionVars false
namespace Go.Avm
open Go.Proofs
abbrev l9:=Int×List UInt8×Int
def DR(b:UInt8):Bool:=FU 65 b&&FV b 90
def o1:List UInt8→Bool
 |[]=>false
 |b::_=>gl b||DR b
def IB(b:UInt8):Bool:=decide (0≤Ck b)
def nZ(b:UInt8)(r:List UInt8):List UInt8:=
 match r with
 |[]=>if IB b then [b]else []
 |c::_=>if jl.contains [b,c]then [b,c]else if IB b then [b]else []
def eX:List UInt8→Except Int l9
 |[]=> .error 4
 |b::r=>
  if be b then
   if 9223372036854775808≤dv 0 ((b::r).takeWhile be)then .error 2
   else if (decide (1<((b::r).takeWhile be).length)&&b.toNat==48)||o1 ((b::r).drop ((b::r).takeWhile be).length)then .error 4
   else .ok (3,(b::r).takeWhile be,dv 0 ((b::r).takeWhile be))
  else if gl b then
   if e8 ((b::r).takeWhile iY)then .ok (2,(b::r).takeWhile iY,0)
   else if 12<((b::r).takeWhile iY).length then .error 2 else .ok (1,(b::r).takeWhile iY,0)
  else if nZ b r=[]then .error 4 else .ok (4,nZ b r,0)
theorem LV(p:UInt8→Bool)(l:List UInt8):l.take (l.takeWhile p).length=l.takeWhile p:=(List.prefix_iff_eq_take.1 (List.takeWhile_prefix p)).symm
theorem Ns(p:UInt8→Bool)(l:List UInt8):(l.takeWhile p).length≤l.length:=(List.takeWhile_sublist p).length_le
theorem IC(p:UInt8→Bool)(s:List UInt8)(a:Nat):sub s a (a+fS p (s.drop a))=(s.drop a).takeWhile p:=by
 unfold sub fS;rw[List.drop_take,Nat.add_sub_cancel_left,LV]
theorem ID(s:List UInt8)(a:Nat):rst s a=s.drop a:=by rw[rst,List.take_length]
theorem LX(t:List UInt8)(k:Nat):oX t k=t.take k:=by rw[oX,yM]
theorem IE(s:List UInt8)(a:Nat)(b:UInt8)(r:List UInt8)(h:s.drop a=b::r):si s a b=nZ b r:=by
 unfold si nZ;simp only[ID,LX,h];cases r with
 |nil=>simp[IB]
 |cons c r=>
  have:decide (2≤((b::c::r).length:Int))=true:=by simp only[xD,x6];omega
  rw[this,Bool.true_and];simp[IB]
theorem IG(p:UInt8→Bool)(b:UInt8)(r:List UInt8)(h:p b=true):∃t,(b::r).takeWhile p=b::t:=⟨r.takeWhile p,by simp[h]⟩
theorem IH(p:UInt8→Bool):∀(l:List UInt8),∀x∈l.takeWhile p,p x=true
 |[],x,a=>by simp at a
 |b::r,x,a=>by
  by_cases c:p b=true
  ·rw[yV,x9 c]at a
   rcases xX.1 a with rfl|a
   ·exact c
   ·exact IH p r x a
  ·rw[yV,xj c]at a
   simp at a
theorem Fo{b:UInt8}(h:gl b=true):iY b=true:=by simp[iY,h]
theorem Ah(b:UInt8)(r:List UInt8):nZ b r<+:b::r:=by
 unfold nZ;cases r with
 |nil=>dsimp only;split<;>simp
 |cons c r=>
  dsimp only;split
  ·exact⟨r,rfl⟩
  ·split
   ·exact⟨c::r,rfl⟩
   ·exact List.nil_prefix
theorem n0{b:UInt8}{r:List UInt8}{kd n:Int}{t:List UInt8}(h:eX (b::r)= .ok (kd,t,n)):t<+:b::r∧t≠[]:=by
 rw[eX]at h;split at h
 ·rename_i e
  split at h
  ·cases h
  ·split at h
   ·cases h
   ·cases h
    refine⟨List.takeWhile_prefix _, ?_⟩;obtain⟨u,a⟩:=IG be b r e;rw[a];simp
 ·split at h
  ·rename_i d
   obtain⟨u,a⟩:=IG iY b r (Fo d);split at h
   ·cases h
    exact⟨List.takeWhile_prefix _,by rw[a];simp⟩
   ·split at h
    ·cases h
    ·cases h
     exact⟨List.takeWhile_prefix _,by rw[a];simp⟩
  ·split at h
   ·cases h
   ·rename_i c
    cases h;exact⟨Ah b r,c⟩
def Ai(w:Bool)(s:List UInt8)(a v m:Nat)(l:List D):Except Int l9→Prop
 | .error k=>∃d c,k≠0∧∀b:aa,ax Pg 38 [fU] (ag (eB w s a v m l) b) [dI k] (ag (eB d s a v c l) b)
 | .ok (kd,t,n)=>∃d c,∀b:aa,ax Pg 38 [fU] (ag (eB w s a v m l) b) [dI 0] (ag (eB d s (a+t.length) (v+1) c (l ++[nW kd a t n])) b)
section
variable(w:Bool)(s:List UInt8)(a v m:Nat)(l:List D)
theorem LY(b:UInt8)(r:List UInt8)(n:a<s.length)(A:s.drop a=b::r)(C:s[((a:Nat):Int).toNat]? =some b)(g:s.length≤100000)(E:l.length+1≤549755813888)(k:be b=true):Ai w s a v m l (eX (b::r)):=by
 have i:da s a=(b::r).takeWhile be:=by rw[da,IC,A]
 obtain⟨t,z⟩:=IG be b r k;have f:=IH be (b::r);have L:=Ns be (b::r);have K:(b::r).length=s.length-a:=by rw[←A,yW]
 have J:a+(da s a).length≤s.length:=by rw[i];omega
 have D:(da s a)[(0:Int).toNat]? =some b:=by rw[i,z];rfl
 have u:∀c,s[a+(da s a).length]? =some c→(b::r).drop ((b::r).takeWhile be).length=c::((b::r).drop ((b::r).takeWhile be).length).tail:=fun c B=>by
  have:((b::r).drop ((b::r).takeWhile be).length).head? =some c:=by
   rw[i,←A]at B;rw[List.head?_drop,←A,xw];exact B
  cases G:(b::r).drop ((b::r).takeWhile be).length with
  |nil=>rw[G]at this;simp at this
  |cons x y=>rw[G]at this;simp at this;subst this;rfl
 by_cases p:9223372036854775808≤dv 0 ((b::r).takeWhile be)
 ·have e:eX (b::r)= .error 2:=by rw[eX,x9 k,x9 p]
  rw[e]
  obtain⟨c,B⟩:∃c,decide (((a+(da s a).length:Nat):Int)<(s.length:Int))=true→s[((a+(da s a).length:Nat):Int).toNat]? =some c:=by
   by_cases o:a+(da s a).length<s.length
   ·exact⟨s[a+(da s a).length],fun _=>by simp only[xo];exact xH o⟩
   ·exact⟨0,fun h=>by have:=yC h;omega⟩
  refine⟨w,m,by decide,sm w s a v m l b n C k 2 (IA w s a v m l b c n g D 9223372036854775807 ?_ (by omega) E B)⟩;rw[i];rw[z]at p f ⊢;exact Iz b t f (by rw[←z];omega) p
 ·have hp:al Pg 93 [.str (da s a), .int .i64 10, .int .i64 64] [.int .i64 (dv 0 (da s a):Int), .nili]:=by
    rw[i];rw[z]at p f ⊢;exact LR b t f (by rw[←z];omega) (by omega)
  obtain⟨c,x,o,q,j⟩:∃c x,decide (((a+(da s a).length:Nat):Int)<(s.length:Int))=x∧(x=true→s[((a+(da s a).length:Nat):Int).toNat]? =some c)∧o1 ((b::r).drop ((b::r).takeWhile be).length)=(x&&(gl c||(FU 65 c&&FV c 90))):=by
   by_cases o:a+(da s a).length<s.length
   ·have F:s[a+(da s a).length]? =some s[a+(da s a).length]:=xH o
    refine⟨s[a+(da s a).length],true,by simp only[x6];omega,fun _=>by simp only[xo];exact F, ?_⟩;rw[u _ F];rfl
   ·refine⟨0,false,by simp only[xh];omega,fun h=>(by cases h), ?_⟩
    have:(b::r).drop ((b::r).takeWhile be).length=[]:=yI.2 (by rw[←i];omega);rw[this];rfl
  have I:decide (1<((da s a).length:Int))=decide (1<((b::r).takeWhile be).length):=by rw[i];exact decide_eq_decide.2 (by omega)
  have H:((b.toNat:Int)==48)=(b.toNat==48):=by
   rw[Bool.eq_iff_iff];simp only[xm];omega
  by_cases d:Cl (decide (1<((b::r).takeWhile be).length)) (b.toNat==48) x (gl c) (FU 65 c) (FV c 90)=true
  ·have e:eX (b::r)= .error 4:=by
     rw[eX,x9 k,xj p,x9];rw[j];exact d
   rw[e];exact⟨w,m,by decide,sm w s a v m l b n C k 4 (LT w s a v m l b c n g D _ hp (by omega) E _ _ _ _ _ _ I H o q rfl rfl rfl d)⟩
  ·have e:eX (b::r)= .ok (3,(b::r).takeWhile be,dv 0 ((b::r).takeWhile be)):=by
     rw[eX,x9 k,xj p,xj];rw[j];exact d
   rw[e,←i];exact⟨w,m,Fm w s a v m l b n C k _ _ _ (TO w s a v m l b c n g D _ hp (by omega) E _ _ _ _ _ _ I H o q rfl rfl rfl (by simpa only[Bool.not_eq_true]using d))⟩
theorem TP(b:UInt8)(r:List UInt8)(h:a<s.length)(j:s.drop a=b::r)(c:s.length≤100000)(k:l.length+1≤549755813888):Ai w s a v m l (eX (b::r)):=by
 have u:s[a]? =some b:=by
  have:(s.drop a)[0]? =some b:=by rw[j];rfl
  rwa [xw,yp]at this
 have i:s[((a:Nat):Int).toNat]? =some b:=by simpa using u
 have y:(b::r).length=s.length-a:=by rw[←j,yW]
 cases d:be b with
 |true=>exact LY w s a v m l b r h j i c k d
 |false=>
  cases f:gl b with
  |true=>
   have n:oV s a=(b::r).takeWhile iY:=by rw[oV,IC,j]
   have x:=Ns iY (b::r);have g:a+(oV s a).length≤1099511627776:=by rw[n];omega
   have e:eX (b::r)=(if e8 (oV s a)then .ok (2,oV s a,0)else if 12<(oV s a).length then .error 2 else .ok (1,oV s a,0)):=by
    rw[eX,xj (by simp[d]),x9 f,n]
   rw[e];cases t:e8 (oV s a)with
   |true=>exact⟨_,_,Io w s a v m l b h i c d f t k g⟩
   |false=>
    rw[xj (by simp)];by_cases p:12<(oV s a).length
    ·rw[x9 p]
     exact⟨_,_,by decide,Iq w s a v m l b h i c d f t (by simp only[x6];omega) k g⟩
    ·rw[xj p]
     exact⟨_,_,Ip w s a v m l b h i c d f t (by simp only[xh];omega) k g⟩
  |false=>
   have e:eX (b::r)=(if nZ b r=[]then .error 4 else .ok (4,nZ b r,0)):=by
    rw[eX,xj (by simp[d]),xj (by simp[f])]
   have n:=IE s a b r j;have o:(rst s a)[(0:Int).toNat]? =some b:=by rw[ID,j];rfl
   have x:=(Ah b r).length_le;rw[e];by_cases q:nZ b r=[]
   ·rw[x9 q]
    exact⟨_,_,by decide,Iv w s a v m l b h i o d f _ n (by rw[q];rfl) k (by omega)⟩
   ·rw[xj q]
    exact⟨_,_,Iu w s a v m l b h i o d f _ n (by simpa using q) k (by omega)⟩
end
end Go.Avm
namespace Go.Avm
open Go.Proofs
def dX:Nat→List UInt8→Nat→Except (Nat×Int) (List (Nat×l9))
 |0,_,_=> .ok []
 |_+1,[],_=> .ok []
 |n+1,b::r,a=>match eX (b::r)with
  | .error k=> .error (a,k)
  | .ok t=>match dX n (((b::r).drop t.2.1.length).drop (bl false ((b::r).drop t.2.1.length))) (a+t.2.1.length+bl false ((b::r).drop t.2.1.length))with
   | .error e=> .error e
   | .ok ts=> .ok ((a,t)::ts)
def gp(s:List UInt8):Except (Nat×Int) (List (Nat×l9)):=dX (s.length+1) (s.drop (bl false s)) (bl false s)
def so(x:Nat×l9):D:=nW x.2.1 x.1 x.2.2.1 x.2.2.2
def Fp(s:List UInt8):List (Nat×AV):=[(0, .d (.str s)),(5,fU)]
section
variable(w b:Bool)(s:List UInt8)(a v m:Nat)(l:List D)
noncomputable def Aj(n:a<s.length)(e h j:Nat)(f:List D)(k:Int)(z:Bool)(p:(k !=0)=z)(d:s.length≤100000)(g:e≤s.length)(o:∀c:aa,ax Pg 38 [fU] (ag (eB w s a v m l) c) [dI k] (ag (eB b s e h j f) c)):Par Pg:=
 {hint:=fun f' i=>if f'=21 then (if i=21 then some (qL n)else if i=27 then some (hB Pg _ z p)else none)else none
  calls:=fun f' i _=>if f'=21 then (if i=25 then some ⟨38,[fU],eB w s a v m l,[dI k],eB b s e h j f,gM o⟩else if i=23 then some (nY b s e h f d g)else none)else none}
theorem II(j:a<s.length)(f h i:Nat)(g:List D)(d:s.length≤100000)(e:f≤s.length)(n:∀c:aa,ax Pg 38 [fU] (ag (eB w s a v m l) c) [dI 0] (ag (eB b s f h i g) c))(c:aa)(X:cA)(o:X.P=Pg)(k:X.N=39):
    AW X (lO 21 5) ⟨ak (Fp s),ag (eB w s a v m l) c⟩ fun p S'=>p= .normal∧Weak X S' ⟨ak (Fp s),ag (eB b s (ba s f) h i g) c⟩:=by
 cases w with
 |false=>cases b with
  |false=>exact sO bv named (Aj false false s a v m l j f h i g 0 false rfl d e n) 1000 21 300000 39 (by kernel_rfl) X o k
  |true=>exact sO bv named (Aj false true s a v m l j f h i g 0 false rfl d e n) 1000 21 300000 39 (by kernel_rfl) X o k
 |true=>cases b with
  |false=>exact sO bv named (Aj true false s a v m l j f h i g 0 false rfl d e n) 1000 21 300000 39 (by kernel_rfl) X o k
  |true=>exact sO bv named (Aj true true s a v m l j f h i g 0 false rfl d e n) 1000 21 300000 39 (by kernel_rfl) X o k
theorem LZ(g:a<s.length)(e:Nat)(k:Int)(f:k≠0)(d:s.length≤100000)(i:∀c:aa,ax Pg 38 [fU] (ag (eB w s a v m l) c) [dI k] (ag (eB b s a v e l) c))(c:aa)(X:cA)(j:X.P=Pg)(h:X.N=39):
    AW X (lO 21 5) ⟨ak (Fp s),ag (eB w s a v m l) c⟩ fun n S'=>n= .ret∧Weak X S' ⟨ak [(2, .nils),(3,dN a),(4,dI k)],ag (eB b s a v e l) c⟩:=by
 cases w with
 |false=>cases b with
  |false=>exact sO bv named (Aj false false s a v m l g a v e l k true (by simpa using f) d (by omega) i) 1000 21 300000 39 (by kernel_rfl) X j h
  |true=>exact sO bv named (Aj false true s a v m l g a v e l k true (by simpa using f) d (by omega) i) 1000 21 300000 39 (by kernel_rfl) X j h
 |true=>cases b with
  |false=>exact sO bv named (Aj true false s a v m l g a v e l k true (by simpa using f) d (by omega) i) 1000 21 300000 39 (by kernel_rfl) X j h
  |true=>exact sO bv named (Aj true true s a v m l g a v e l k true (by simpa using f) d (by omega) i) 1000 21 300000 39 (by kernel_rfl) X j h
theorem IJ(c:aa)(X:cA)(d:X.P=Pg)(e:X.N=39):
    AW X (lO 21 5) ⟨ak (Fp s),ag (eB w s s.length v m l) c⟩ fun f S'=>f= .exit 0∧Weak X S' ⟨ak (Fp s),ag (eB w s s.length v m l) c⟩:=by
 cases w with
 |false=>exact sO bv named {hint:=fun f' k=>if f'=21 then (if k=21 then some (qG s.length)else none)else none} 1000 21 300000 39 (by kernel_rfl) X d e
 |true=>exact sO bv named {hint:=fun f' k=>if f'=21 then (if k=21 then some (qG s.length)else none)else none} 1000 21 300000 39 (by kernel_rfl) X d e
end
end Go.Avm
namespace Go.Avm
open Go.Proofs
def Ak(w:Bool)(s:List UInt8)(a v m:Nat)(l:List D):Except (Nat×Int) (List (Nat×l9))→Prop
 | .error (p,k)=>∃c d b l',RL 39 (lO 21 5) (Fp s) (eB w s a v m l) .ret [(2, .nils),(3,dN p),(4,dI k)] (eB c s p d b l')
 | .ok ts=>(l ++ts.map so).length≤s.length∧∃c d b,RL 39 (lO 21 5) (Fp s) (eB w s a v m l) (.exit 0) (Fp s) (eB c s s.length d b (l ++ts.map so))
theorem Al(s:List UInt8)(f:s.length≤100000):∀(n:Nat)(w:Bool)(a v m:Nat)(l:List D),a≤s.length→s.length<n+a→l.length≤a→Ak w s a v m l (dX n (s.drop a) a)
 |0,w,a,v,m,l,R,h2,_=>by omega
 |n+1,w,a,v,m,l,R,h2,T=>by
  cases j:s.drop a with
  |nil=>
   have:a=s.length:=by have:=yI.1 j;omega
   subst this;refine⟨by simpa [dX]using T,w,v,m,fun c X i g=> ?_⟩;simp only[dX,xk,yF];exact B1 (IJ w s v m l c X i g) (by simp)
  |cons b r=>
   have G:a<s.length:=by
    rcases yJ a s.length with h|h
    ·exact h
    ·rw[yI.2 h]at j;cases j
   have C:=TP w s a v m l b r G j f (by omega);rw[dX];cases N:eX (b::r)with
   |error k=>
    rw[N]at C;obtain⟨y,q,Q,L⟩:=C;exact⟨y,v,q,l,fun c X i g=>B1 (LZ w y s a v m l G q k Q f L c X i g) (by simp)⟩
   |ok t=>
    obtain⟨kd,t,k⟩:=t;rw[N]at C;obtain⟨y,q,L⟩:=C;obtain⟨x,J⟩:=n0 N;have U:(b::r).length=s.length-a:=by rw[←j,yW]
    have P:=x.length_le;have S:0<t.length:=List.length_pos_iff.2 J;have z:a+t.length≤s.length:=by omega
    have o:s.drop (a+t.length)=(b::r).drop t.length:=by rw[←j,List.drop_drop]
    have I:ba s (a+t.length)=a+t.length+bl false ((b::r).drop t.length):=by rw[ba,o]
    have M:s.drop (ba s (a+t.length))=((b::r).drop t.length).drop (bl false ((b::r).drop t.length)):=by rw[I,←List.drop_drop,o]
    have F:=mT s (a+t.length) z;have u:=Al s f n y (ba s (a+t.length)) (v+1) q (l ++[nW kd a t k]) F.2 (by omega) (by rw[xC,xt];omega);rw[M,I]at u
    show Ak w s a v m l (match dX n (((b::r).drop t.length).drop (bl false ((b::r).drop t.length))) (a+t.length+bl false ((b::r).drop t.length))with
     | .error e=> .error e
     | .ok ts=> .ok ((a,(kd,t,k))::ts))
    have d:=fun c X i g=>II w y s a v m l G (a+t.length) (v+1) q (l ++[nW kd a t k]) f z L c X i g
    rw[I]at d;cases O:dX n (((b::r).drop t.length).drop (bl false ((b::r).drop t.length))) (a+t.length+bl false ((b::r).drop t.length))with
    |error e=>
     obtain⟨p,V⟩:=e;rw[O]at u;obtain⟨H,E,K,l',B⟩:=u;exact⟨H,E,K,l',fun c X i g=>B0 (d c X i g) (B c X i g)⟩
    |ok ts=>
     rw[O]at u;obtain⟨A,H,E,K,B⟩:=u;have e:l ++[nW kd a t k] ++ts.map so=l ++((a,(kd,t,k))::ts).map so:=by simp[so]
     rw[e]at A B;exact⟨A,H,E,K,fun c X i g=>B0 (d c X i g) (B c X i g)⟩
section
variable(s:List UInt8)
noncomputable def Am(h:Option (dy Pg))(C:Option (fK Pg))(D:Option (fK Pg))(z:Bool)(a:decide (20000<(s.length:Int))=z):Par Pg:=
 {hint:=fun f' k=>if f'=21 then (if k=9 then some (hB Pg _ z a)else none)else none
  nils:=fun f' r=>if f'=21 then (if r=4 then some {k:=324,i:=6,K:=1,sz:=4}else none)else none
  calls:=fun f' k _=>if f'=21 then (if k=14 then C else if k=34 then D else none)else none
  loops:=fun f' r=>if f'=21 then (if r=5 then h else none)else none}
theorem IK(h:decide (20000<(s.length:Int))=true):al Pg 21 [.str s] [.ro [], .int .i64 0, .int .i64 2]:=
 bq bv named (Am s none none none true h) 1000 (by kernel_rfl)
noncomputable def L3(w:Bool)(a v m:Nat)(l:List D)(e:aA)(l':List (Nat×AV))(hp:List (Nat×aK))(h:RL 39 (lO 21 5) (Fp s) (eB w s a v m l) e l' hp):dy Pg:=
 ⟨39,bG Pg 21 5,Fp s,fun _=>eB w s a v m l,e,l',fun _=>hp,fun b X c d=>(h b X c d).aw⟩
theorem L4(h:decide (20000<(s.length:Int))=false)(a:s.length≤100000)(p:Nat)(k:Int)(b:Bool)(d e:Nat)(l':List D)
    (c:RL 39 (lO 21 5) (Fp s) (eB false s (ba s 0) 0 0 []) .ret [(2, .nils),(3,dN p),(4,dI k)] (eB b s p d e l')):
    al Pg 21 [.str s] [.ro [], .int .i64 (p:Int), .int .i64 k]:=by
 cases b with
 |false=>exact bq bv named (Am s (some (L3 s false (ba s 0) 0 0 [] _ _ _ c)) (some (nY false s 0 0 [] a (xz _))) none false h) 1000 (by kernel_rfl)
 |true=>exact bq bv named (Am s (some (L3 s false (ba s 0) 0 0 [] _ _ _ c)) (some (nY false s 0 0 [] a (xz _))) none false h) 1000 (by kernel_rfl)
theorem IL(h:decide (20000<(s.length:Int))=false)(a:s.length≤100000)(e:Bool)(c d:Nat)(l':List D)(b:l'.length+1≤549755813888)
    (f:RL 39 (lO 21 5) (Fp s) (eB false s (ba s 0) 0 0 []) (.exit 0) (Fp s) (eB e s s.length c d l')):
    al Pg 21 [.str s] [.ro (l' ++[nW 0 s.length [] 0]), .int .i64 0, .int .i64 0]:=by
 cases e with
 |false=>exact bq bv named (Am s (some (L3 s false (ba s 0) 0 0 [] _ _ _ f)) (some (nY false s 0 0 [] a (xz _))) (some (ua false s s.length c d l' 0 0 [] b (by simp only[xF];omega))) false h) 1000 (by kernel_rfl)
 |true=>exact bq bv named (Am s (some (L3 s false (ba s 0) 0 0 [] _ _ _ f)) (some (nY false s 0 0 [] a (xz _))) (some (ua true s s.length c d l' 0 0 [] b (by simp only[xF];omega))) false h) 1000 (by kernel_rfl)
end
def n4(s:List UInt8):List D×Int×Int:=
 if 20000<s.length then ([],0,2)else match gp s with
  | .error (p,k)=>([],p,k)
  | .ok ts=>(ts.map so ++[nW 0 s.length [] 0],0,0)
theorem TT(s:List UInt8):al Pg 21 [.str s] [.ro (n4 s).1, .int .i64 (n4 s).2.1, .int .i64 (n4 s).2.2]:=by
 unfold n4;by_cases h:20000<s.length
 ·rw[x9 h]
  exact IK s (by simp only[x6];omega)
 ·rw[xj h]
  have j:decide (20000<(s.length:Int))=false:=by simp only[xh];omega
  have l:=mT s 0 (xz _);have a:=Al s (by omega) (s.length+1) false (ba s 0) 0 0 [] l.2 (by omega) (xz _)
  have m:dX (s.length+1) (s.drop (ba s 0)) (ba s 0)=gp s:=by
   unfold gp ba;rw[yM,xb]
  rw[m]at a;cases i:gp s with
  |error e=>
   obtain⟨p,k⟩:=e;rw[i]at a;obtain⟨b,c,f,l',d⟩:=a;exact L4 s j (by omega) p k b c f l' d
  |ok ts=>
   rw[i]at a;obtain⟨g,b,c,f,d⟩:=a;exact IL s j (by omega) b c f _ (by rw[xn]at g;omega) d
end Go.Avm
namespace Go.Avm
open Go.Proofs
theorem fq(n:Nat)(b:UInt8)(r:List UInt8)(a:Nat):dX (n+1) (b::r) a=match eX (b::r)with
    | .error k=> .error (a,k)
    | .ok t=>match dX n (((b::r).drop t.2.1.length).drop (bl false ((b::r).drop t.2.1.length))) (a+t.2.1.length+bl false ((b::r).drop t.2.1.length))with
     | .error e=> .error e
     | .ok ts=> .ok ((a,t)::ts):=rfl
theorem IM{r:List UInt8}{k:Int}(h:eX r= .error k):k≠0:=by
 cases r with
 |nil=>simp only[eX,Except.error.injEq]at h;omega
 |cons b r=>
  rw[eX]at h;repeat' split at h
  all_goals first
   |(cases h;done)
   |(simp only[Except.error.injEq]at h;omega)
theorem o2:∀(n:Nat)(r:List UInt8)(a p:Nat)(k:Int),dX n r a= .error (p,k)→k≠0
 |0,r,a,p,k,h=>by cases h
 |n+1,[],a,p,k,h=>by cases h
 |n+1,b::r,a,p,k,h=>by
  rw[fq]at h;cases c:eX (b::r)with
  |error f=>
   rw[c]at h;simp only[Except.error.injEq,xG]at h;obtain⟨_,rfl⟩:=h;exact IM c
  |ok t=>
   rw[c]at h;dsimp only at h;split at h
   ·rename_i e d
    cases h;exact o2 n _ _ p k d
   ·cases h
theorem ud:∀(n:Nat)(r:List UInt8)(a:Nat)(ts:List (Nat×l9)),dX n r a= .ok ts→ts.length≤n
 |0,r,a,ts,h=>by cases h;exact xS _
 |n+1,[],a,ts,h=>by cases h;exact xz _
 |n+1,b::r,a,ts,h=>by
  rw[fq]at h;cases d:eX (b::r)with
  |error f=>rw[d]at h;cases h
  |ok t=>
   rw[d]at h;dsimp only at h;split at h
   ·cases h
   ·rename_i c e
    cases h;have:=ud n _ _ c e;simp only[xD];omega
theorem L5(l:List T)(e:T)(d:e.k=0)(f:l.length+1<1000000):dM (l ++[e]):=
 ⟨by simpa using f,fun i x a b=>by
  rw[xC,xt];rcases yJ i l.length with h|h
  ·omega
  ·rw[xV h]at a
   cases c:i-l.length with
   |zero=>
    rw[c]at a;simp only[xl,xA]at a;rw[←a,d]at b;exact absurd rfl b
   |succ j=>rw[c]at a;simp at a⟩
def TU(x:Nat×l9):T:=⟨x.2.1,(x.1:Int),x.2.2.1,x.2.2.2⟩
def bp(ts:List (Nat×l9))(n:Nat):List T:=ts.map TU ++[⟨0,(n:Int),[],0⟩]
theorem IO(ts:List (Nat×l9))(n:Nat):rH (bp ts n)= .ro (ts.map so ++[nW 0 n [] 0]):=by
 simp only[rH,bp,xY,yq];rfl
theorem o3{ts:List (Nat×l9)}{n:Nat}(h:ts.length+1<1000000):dM (bp ts n):=L5 _ _ rfl (by simpa using h)
theorem fu(ts:List (Nat×l9))(n:Nat):0<(bp ts n).length:=by simp[bp]
def Cm(ts:List (Nat×l9))(n:Nat):Res (List Fn):=dA (bp ts n) (fuel (bp ts n))
def iM(s:List UInt8):List D:=
 if 20000<s.length then [.agg [.ro []], .int .i64 0, .int .i64 2]else match gp s with
  | .error (p,k)=>[.agg [.ro []], .int .i64 (p:Int), .int .i64 k]
  | .ok ts=>Ig (Cm ts s.length)
theorem o4{s:List UInt8}{ts:List (Nat×l9)}(h:gp s= .ok ts):ts.length≤s.length+1:=ud _ _ _ _ h
theorem Fq(s:List UInt8):al Pg 12 [.str s] (iM s):=by
 have a:=TT s;unfold iM;unfold n4 at a;by_cases h:20000<s.length
 ·rw[x9 h]at a ⊢
  exact Ie (by decide) a
 ·rw[xj h]at a ⊢
  cases c:gp s with
  |error e=>
   obtain⟨p,k⟩:=e;rw[c]at a;have d:=o2 _ _ _ _ _ c;exact Ie (by simpa using d) a
  |ok ts=>
   rw[c]at a;have f:=o4 c;have b:=o3 (ts:=ts) (n:=s.length) (by omega);exact P4 b (fu _ _) (by rw[IO];exact a) _ (vP b (fu _ _))
end Go.Avm
namespace Go.Avm
open Go.Proofs
inductive dx:List aP→Int→Int→Int→Int→Prop
 |nil (n a:Int):dx [] n a n a
 |cons {k id:Int} {nm:List UInt8} {ty v p:Int} {es:List Ex} {bd el r:List aP} {a n1 a1 n2 a2 n3 a3:Int} (h:a<p) (lb:bd.length<1000000) (le:el.length<1000000) (hb:dx bd (b5 (id+1)) p n1 a1) (he:dx el n1 a1 n2 a2) (hr:dx r n2 a2 n3 a3):dx (.mk k id nm ty v p es bd el::r) id a n3 a3
inductive mV:List Fn→Int→Int→Prop
 |nil (n a:Int):mV [] n a
 |cons {nm:List UInt8} {ps:List Pm} {k:Int} {bd:List aP} {p:Int} {r:List Fn} {n a n1 a1:Int} (lb:bd.length<1000000) (hb:dx bd n a n1 a1) (hr:mV r n1 a1):mV (⟨nm,ps,k,bd,p⟩::r) n a
end Go.Avm
namespace Go.Avm
open Go.Proofs
def o5:List UInt8:=[108,101,116]
def L6:List UInt8:=[105,102]
def kk:List UInt8:=[101,108,115,101]
def o6:List UInt8:=[119,104,105,108,101]
def sq:List UInt8:=[114,101,116,117,114,110]
def o7:List UInt8:=[112,114,105,110,116]
mutual
def fb:aP→List Tk
 | .mk k _ nm ty n _ es a b=>
  bif k==1 then .kw o5:: .nm nm:: .sg [58]:: .kw (aN ty)::(bif ty==3 then [.sg [91], .num n, .sg [93], .sg [59]]else bif es.isEmpty then [.sg [59]]else .sg [61]::(kq es ++[.sg [59]]))
  else bif k==2 then .nm nm:: .sg [61]::(kq es ++[.sg [59]])
  else bif k==3 then .nm nm:: .sg [91]::(kq (es.take 1) ++ .sg [93]:: .sg [61]::(kq (es.drop 1) ++[.sg [59]]))
  else bif k==4 then .kw L6::(kq es ++ .sg [123]::(cM a ++ .sg [125]::(bif b.isEmpty then []else .kw kk:: .sg [123]::(cM b ++[.sg [125]]))))
  else bif k==5 then .kw o6::(kq es ++ .sg [123]::(cM a ++[.sg [125]]))
  else bif k==6 then .kw sq::(kq es ++[.sg [59]])
  else bif k==7 then .kw o7::(kq es ++[.sg [59]])
  else kq es ++[.sg [59]]
def cM:List aP→List Tk
 |[]=>[]
 |x::l=>fb x ++cM l
end
mutual
def dS:aP→Int
 | .mk k _ _ ty _ _ es a b=>
  bif k==1 then bif ty==3 then 1 else g8 es
  else bif k==3 then max (1+g8 (es.take 1)) (g8 (es.drop 1))
  else bif k==4 then max (g8 es) (max (1+iO a) (bif b.isEmpty then 0 else 1+iO b))
  else bif k==5 then max (g8 es) (1+iO a)
  else g8 es
def iO:List aP→Int
 |[]=>0
 |x::l=>max (dS x) (iO l)
end
mutual
theorem IP:∀x,0≤dS x
 | .mk k _ _ ty _ _ es a e=>by
  have c:=oQ es;have h2:=oQ (es.take 1);have d:=oQ (es.drop 1);have b:=ji a;simp only[dS];cases (k==1)<;>cases (ty==3)<;>cases (k==3)<;>cases (k==4)<;>cases (k==5)<;>simp only[xR,xI]<;>omega
theorem ji:∀l,0≤iO l
 |[]=>xx _
 |x::l=>by
  have a:=ji l;simp only[iO];omega
end
structure Cw where
 nm:List UInt8→Prop
 nu:Int→Prop
 ex:Ex→Prop
section
variable(C:Cw)
mutual
inductive j5:aP→Prop
 |letA (id:Int) {nm:List UInt8} {n:Int} (p:Int) (hn:C.nm nm) (h:C.nu n):j5 (.mk 1 id nm 3 n p [] [] [])
 |letN (id:Int) {nm:List UInt8} {ty:Int} (p:Int) (hn:C.nm nm) (h:ty=1∨ty=2):j5 (.mk 1 id nm ty 0 p [] [] [])
 |letV (id:Int) {nm:List UInt8} {ty:Int} (p:Int) {x:Ex} (hn:C.nm nm) (h:ty=1∨ty=2) (hx:C.ex x):j5 (.mk 1 id nm ty 0 p [x] [] [])
 |set (id:Int) {nm:List UInt8} (p:Int) {x:Ex} (hn:C.nm nm) (hx:C.ex x):j5 (.mk 2 id nm 0 0 p [x] [] [])
 |put (id:Int) {nm:List UInt8} (p:Int) {x y:Ex} (hn:C.nm nm) (hx:C.ex x) (hy:C.ex y):j5 (.mk 3 id nm 0 0 p [x,y] [] [])
 |ifs (id:Int) (p:Int) {x:Ex} {bd el:List aP} (hx:C.ex x) (hb:CanL bd) (he:CanL el):j5 (.mk 4 id [] 0 0 p [x] bd el)
 |loop (id:Int) (p:Int) {x:Ex} {bd:List aP} (hx:C.ex x) (hb:CanL bd):j5 (.mk 5 id [] 0 0 p [x] bd [])
 |ret0 (id:Int) (p:Int):j5 (.mk 6 id [] 0 0 p [] [] [])
 |ret1 (id:Int) (p:Int) {x:Ex} (hx:C.ex x):j5 (.mk 6 id [] 0 0 p [x] [] [])
 |prt (id:Int) (p:Int) {x:Ex} (hx:C.ex x):j5 (.mk 7 id [] 0 0 p [x] [] [])
 |call (id:Int) (p:Int) {nm:List UInt8} {q:Int} {xs:List Ex} (hn:C.nm nm) (hx:C.ex (.mk 5 0 nm 0 q xs)):j5 (.mk 8 id [] 0 0 p [.mk 5 0 nm 0 q xs] [] [])
inductive CanL:List aP→Prop
 |nil:CanL []
 |cons {x:aP} {l:List aP} (h:j5 x) (hl:CanL l):CanL (x::l)
end
end
theorem j6{x:Ex}(h:hG x=true){L:List T}{s:RS}{t:List UInt8}{r:List Tk}(a:bZ L s.i (bL x ++ .sg t::r))(d:t=[41]∨t=[93]∨t=[44]∨t=[59]∨t=[123]∨t=[61])(e:0≤s.op)(j:s.op+fN x≤200):
    ∃b,t6 b=t6 x∧∀M,fE x+1≤M→aQ L M 1 s= .ok b (bI s (bL x)):=by
 have A:=HU x h;obtain⟨c,h2⟩:=(cX _ _ _).1 a;obtain⟨f,g⟩:=nV (s:=bI s (bL x)) h2 d;exact A.ok.1.full (xx 1) A.ok.2 ⟨c,g,e,j⟩ (f 1)
theorem vQ{L:List T}{s:RS}{ty:Int}{r:List Tk}(b:ty=1∨ty=2∨ty=3)(a:bZ L s.i (.kw (aN ty)::r)):cL L [1,2,3] s= .ok ty s.nx:=by
 have c:=bt a;rcases b with rfl|rfl|rfl
 ·rw[cL,show aM L (aN 1) s= .ok true s.nx from co a rfl rfl rfl];rfl
 ·rw[cL,a9 (by rw[c];rfl)]
  show Res.bind (.ok false s) _=_;simp only[Res.bind,xI];rw[cL,show aM L (aN 2) s= .ok true s.nx from co a rfl rfl rfl];rfl
 ·rw[cL,a9 (by rw[c];rfl)]
  simp only[Res.bind,xI];rw[cL,a9 (by rw[c];rfl)];simp only[Res.bind,xI];rw[cL,show aM L (aN 3) s= .ok true s.nx from co a rfl rfl rfl];rfl
theorem bT(x:Ex):kq [x]=bL x:=by rw[gU];simp[t7]
theorem cp(x:Ex):g8 [x]=fN x:=by
 have:=jZ x;rw[g8,g8];omega
def p4(x:aP):Prop:=∀(L:List T)(s:RS)(a c d:Int),dx [x] (b5 (s.n+1)) a c d→bZ L s.i (fb x)→isT L (bI s (fb x)) kk=false→0≤s.op→s.op+dS x≤200→
 ∃b N e,m3 b=m3 x∧b5 (N+1)=c∧∀m,e≤m→b6 L m s= .ok b ⟨s.i+(fb x).length,s.op,N⟩
theorem vR{k id:Int}{nm:List UInt8}{ty v p:Int}{es:List Ex}{b f:List aP}{n a c g:Int}(h:dx [.mk k id nm ty v p es b f] n a c g):n=id∧∃d e l,dx b (b5 (id+1)) p d e∧dx f d e c l:=by
 cases h with
 |cons _ _ _ i m j=>cases j;exact⟨rfl,_,_,_,i,m⟩
theorem gW{k id:Int}{nm:List UInt8}{ty v p:Int}{es:List Ex}{n a b c:Int}(h:dx [.mk k id nm ty v p es [] []] n a b c):n=id∧b5 (id+1)=b:=by
 obtain⟨e,i,j,g,d,f⟩:=vR h;cases d;cases f;exact⟨e,rfl⟩
section
variable{L:List T}{s:RS}{r:List Tk}
theorem IQ(h:bZ L s.i (.kw o5::r))(m:Nat):b6 L (m+1) s=(gE L m s.st.n (aD L s.st).p s.st.nx).bind fun x a=> .ok x a:=by
 rw[b6,show aM L [108,101,116] s.st= .ok true s.st.nx from co (s:=s.st) h rfl rfl rfl];rfl
theorem Nt(h:bZ L s.i (.kw L6::r))(m:Nat):b6 L (m+1) s=((aQ L m 1 s.st.nx).bind fun e f=>(bg L m f).bind fun l g=>(aM L [101,108,115,101] g).bind fun b a=>
        bif b then (bg L m a).bind fun m d=> .ok (.mk 4 s.st.n [] 0 0 (aD L s.st).p [e] l m) d else .ok (.mk 4 s.st.n [] 0 0 (aD L s.st).p [e] l []) a):=by
 have c:=bt (s:=s.st) h;rw[b6,a9 (by rw[c];rfl)];simp only[Res.bind,xI];rw[show aM L [105,102] s.st= .ok true s.st.nx from co (s:=s.st) h rfl rfl rfl];simp only[xR]
theorem IR(h:bZ L s.i (.kw o6::r))(m:Nat):b6 L (m+1) s=((aQ L m 1 s.st.nx).bind fun e b=>(bg L m b).bind fun l c=> .ok (.mk 5 s.st.n [] 0 0 (aD L s.st).p [e] l []) c):=by
 have a:=bt (s:=s.st) h;rw[b6,a9 (by rw[a];rfl)];simp only[Res.bind,xI];rw[a9 (by rw[a];rfl)];simp only[xI];rw[show aM L [119,104,105,108,101] s.st= .ok true s.st.nx from co (s:=s.st) h rfl rfl rfl];simp only[xR]
theorem IS(h:bZ L s.i (.kw sq::r))(m:Nat):b6 L (m+1) s=(bif isT L s.st.nx [59]then (ah L [59] s.st.nx).bind fun _ a=> .ok (.mk 6 s.st.n [] 0 0 (aD L s.st).p [] [] []) a
      else (aQ L m 1 s.st.nx).bind fun e a=>(ah L [59] a).bind fun _ c=> .ok (.mk 6 s.st.n [] 0 0 (aD L s.st).p [e] [] []) c):=by
 have b:=bt (s:=s.st) h;rw[b6,a9 (by rw[b];rfl)];simp only[Res.bind,xI];rw[a9 (by rw[b];rfl)];simp only[xI];rw[a9 (by rw[b];rfl)];simp only[xI];rw[show aM L [114,101,116,117,114,110] s.st= .ok true s.st.nx from co (s:=s.st) h rfl rfl rfl];simp only[xR]
theorem Qa(h:bZ L s.i (.kw o7::r))(m:Nat):b6 L (m+1) s=((aQ L m 1 s.st.nx).bind fun e b=>(ah L [59] b).bind fun _ c=> .ok (.mk 7 s.st.n [] 0 0 (aD L s.st).p [e] [] []) c):=by
 have a:=bt (s:=s.st) h;rw[b6,a9 (by rw[a];rfl)];simp only[Res.bind,xI];rw[a9 (by rw[a];rfl)];simp only[xI];rw[a9 (by rw[a];rfl)];simp only[xI];rw[a9 (by rw[a];rfl)];simp only[xI];rw[show aM L [112,114,105,110,116] s.st= .ok true s.st.nx from co (s:=s.st) h rfl rfl rfl];simp only[xR]
theorem sr{nm:List UInt8}(h:bZ L s.i (.nm nm::r))(m:Nat):b6 L (m+1) s=(ci L m s.st.n (aD L s.st).p s.st).bind fun x b=> .ok x b:=by
 have a:=bt (s:=s.st) h;rw[b6,a9 (by rw[a];rfl)];simp only[Res.bind,xI];rw[a9 (by rw[a];rfl)];simp only[xI];rw[a9 (by rw[a];rfl)];simp only[xI];rw[a9 (by rw[a];rfl)];simp only[xI];rw[a9 (by rw[a];rfl)];simp only[xI]
end
end Go.Avm
namespace Go.Avm
open Go.Proofs
def lw(C:Cw):Prop:=∀x,C.ex x→hG x=true
section
variable{C:Cw}(c:lw C)
theorem sc{t:List UInt8}:t=[59]→t=[41]∨t=[93]∨t=[44]∨t=[59]∨t=[123]∨t=[61]:=fun h=>by simp[h]
theorem IT(id:Int)(nm:List UInt8)(n p:Int):p4 (.mk 1 id nm 3 n p [] [] []):=fun L s a y B r b _ u d=>by
 obtain⟨l,x⟩:=gW r;have b:bZ L s.i [.kw o5, .nm nm, .sg [58], .kw (aN 3), .sg [91], .num n, .sg [93], .sg [59]]:=by rw[fb]at b;exact b
 have d:s.op+1≤200:=by rw[dS]at d;exact d
 have f:bZ L s.st.nx.i [.nm nm, .sg [58], .kw (aN 3), .sg [91], .num n, .sg [93], .sg [59]]:=az b;have j:bZ L s.st.nx.nx.i [.sg [58], .kw (aN 3), .sg [91], .num n, .sg [93], .sg [59]]:=az f;have g:bZ L s.st.nx.nx.nx.i [.kw (aN 3), .sg [91], .num n, .sg [93], .sg [59]]:=az j;have o:bZ L s.st.nx.nx.nx.nx.i [.sg [91], .num n, .sg [93], .sg [59]]:=az g;have e:bZ L (⟨s.st.nx.nx.nx.nx.i+1,s.op+1,s.st.n⟩:RS).i [.num n, .sg [93], .sg [59]]:=az o;have h:bZ L (⟨s.st.nx.nx.nx.nx.i+1,s.op+1,s.st.n⟩:RS).nx.i [.sg [93], .sg [59]]:=az e;have v:ah L [91] s.st.nx.nx.nx.nx= .ok (aD L s.st.nx.nx.nx.nx) ⟨s.st.nx.nx.nx.nx.i+1,s.op+1,s.st.n⟩:=fM o rfl rfl u (by show s.op<200;omega);have q:ah L [93] (⟨s.st.nx.nx.nx.nx.i+1,s.op+1,s.st.n⟩:RS).nx=_:=ek (s:=(⟨s.st.nx.nx.nx.nx.i+1,s.op+1,s.st.n⟩:RS).nx) h rfl rfl rfl (by show 0≤s.op+1;omega) (by show s.op+1≤200;omega);have z:ah L [59] (⟨(⟨s.st.nx.nx.nx.nx.i+1,s.op+1,s.st.n⟩:RS).nx.i+1,(⟨s.st.nx.nx.nx.nx.i+1,s.op+1,s.st.n⟩:RS).nx.op-1,(⟨s.st.nx.nx.nx.nx.i+1,s.op+1,s.st.n⟩:RS).nx.n⟩:RS)= .ok _ ⟨s.i+8,s.op+1-1,s.st.n⟩:=ea (s:=⟨(⟨s.st.nx.nx.nx.nx.i+1,s.op+1,s.st.n⟩:RS).nx.i+1,(⟨s.st.nx.nx.nx.nx.i+1,s.op+1,s.st.n⟩:RS).nx.op-1,(⟨s.st.nx.nx.nx.nx.i+1,s.op+1,s.st.n⟩:RS).nx.n⟩) (az h) rfl rfl rfl;have A:(aD L s.st.nx).t=nm:=f.1.2.1;have w:(aD L (⟨s.st.nx.nx.nx.nx.i+1,s.op+1,s.st.n⟩:RS)).n=n:=e.1.2.2;refine⟨.mk 1 s.st.n nm 3 n (aD L s.st).p [] [] [],s.st.n,1,by rw[m3,m3];show aP.mk 1 (b5 (s.n+1)) _ _ _ _ _ _ _=_;rw[l],by show b5 (b5 (s.n+1)+1)=y;rw[l];exact x,fun m hm=> ?_⟩;obtain⟨m,rfl⟩:∃k,m=k+1:=⟨m-1,by omega⟩
 rw[IQ b,gE,show b0 L 1 s.st.nx= .ok (aD L s.st.nx) s.st.nx.nx from gP f];simp only[Res.bind];rw[show ah L [58] s.st.nx.nx= .ok (aD L s.st.nx.nx) s.st.nx.nx.nx from ea j rfl rfl rfl];simp only;rw[vQ (.inr (.inr rfl)) g];simp only[show((3:Int)==3)=true from rfl,xR];rw[v];simp only;rw[show b0 L 3 (⟨s.st.nx.nx.nx.nx.i+1,s.op+1,s.st.n⟩:RS)= .ok (aD L ⟨s.st.nx.nx.nx.nx.i+1,s.op+1,s.st.n⟩) (⟨s.st.nx.nx.nx.nx.i+1,s.op+1,s.st.n⟩:RS).nx from gP e];simp only;rw[q];simp only;rw[z,A,w,zA,fb];rfl
theorem DS(c:lw C)(id:Int)(nm:List UInt8)(ty p:Int)(q:ty=1∨ty=2)(es:List Ex)(E:es=[]∨∃x,es=[x]∧C.ex x):p4 (.mk 1 id nm ty 0 p es [] []):=fun L s a A N F d _ G h=>by
 obtain⟨o,y⟩:=gW F;have l:(ty==3)=false:=by rcases q with rfl|rfl<;>rfl
 have d:bZ L s.i (.kw o5:: .nm nm:: .sg [58]:: .kw (aN ty)::(bif es.isEmpty then [.sg [59]]else .sg [61]::(kq es ++[.sg [59]]))):=by rw[fb]at d;simpa [l]using d
 have h:s.op+g8 es≤200:=by rw[dS]at h;simpa [l]using h
 have r:=az d;have v:=az r;have u:=az v;have f:=az u;have M:(aD L s.st.nx).t=nm:=r.1.2.1
 have w:∀m,b6 L (m+1) s=(Res.bind (aM L [61] s.st.nx.nx.nx.nx) fun b j=>bif b then (aQ L m 1 j).bind fun e g=>(ah L [59] g).bind fun _ K=> .ok (.mk 1 s.st.n nm ty 0 (aD L s.st).p [e] [] []) K
  else (ah L [59] j).bind fun _ g=> .ok (.mk 1 s.st.n nm ty 0 (aD L s.st).p [] [] []) g):=fun m=>by
  rw[IQ d,gE,show b0 L 1 s.st.nx= .ok (aD L s.st.nx) s.st.nx.nx from gP (s:=s.st.nx) r];simp only[Res.bind];rw[show ah L [58] s.st.nx.nx= .ok (aD L s.st.nx.nx) s.st.nx.nx.nx from ea (s:=s.st.nx.nx) v rfl rfl rfl];simp only;rw[vQ (s:=s.st.nx.nx.nx) (by omega) u,M];simp only[l,xI];cases aM L [61] s.st.nx.nx.nx.nx with
  |out=>rfl
  |bad p e s=>rfl
  |ok b j=>
   cases b with
   |true=>
    simp only[xR];cases aQ L m 1 j with
    |out=>rfl
    |bad p e s=>rfl
    |ok b g=>
     simp only;cases ah L [59] g<;>rfl
   |false=>
    simp only[xI];cases ah L [59] j<;>rfl
 rcases E with rfl|⟨x,rfl,H⟩
 ·have f:bZ L s.st.nx.nx.nx.nx.i [.sg [59]]:=f
  have I:=bt f;refine⟨.mk 1 s.st.n nm ty 0 (aD L s.st).p [] [] [],s.st.n,1,by rw[m3,m3];show aP.mk 1 (b5 (s.n+1)) _ _ _ _ _ _ _=_;rw[o],by show b5 (b5 (s.n+1)+1)=A;rw[o];exact y,fun m hm=> ?_⟩;obtain⟨m,rfl⟩:∃k,m=k+1:=⟨m-1,by omega⟩
  rw[w,a9 (by rw[I];rfl)];simp only[Res.bind,xI];rw[show ah L [59] s.st.nx.nx.nx.nx= .ok (aD L s.st.nx.nx.nx.nx) s.st.nx.nx.nx.nx.nx from ea f rfl rfl rfl,fb];simp only[l,xI,xR,show((1:Int)==1)=true from rfl,zR,xD,xF];rfl
 ·have f:bZ L s.st.nx.nx.nx.nx.i (.sg [61]::(bL x ++[.sg [59]])):=by rw[bT]at f;exact f
  have z:bZ L s.st.nx.nx.nx.nx.nx.i (bL x ++[.sg [59]]):=az f;rw[cp]at h;obtain⟨D,J,k⟩:=j6 (c x H) (s:=s.st.nx.nx.nx.nx.nx) z (sc rfl) G h;have B:bZ L (bI s.st.nx.nx.nx.nx.nx (bL x)).i [.sg [59]]:=((cX _ _ _).1 z).2;refine⟨.mk 1 s.st.n nm ty 0 (aD L s.st).p [D] [] [],s.st.n,fE x+2,by rw[m3,m3,dh,dh,J];show aP.mk 1 (b5 (s.n+1)) _ _ _ _ _ _ _=_;rw[o];rfl,by show b5 (b5 (s.n+1)+1)=A;rw[o];exact y,fun m hm=> ?_⟩;obtain⟨m,rfl⟩:∃k,m=k+1:=⟨m-1,by omega⟩
  rw[w,show aM L [61] s.st.nx.nx.nx.nx= .ok true s.st.nx.nx.nx.nx.nx from co f rfl rfl rfl];simp only[Res.bind,xR];rw[k m (by omega)];simp only;rw[show ah L [59] (bI s.st.nx.nx.nx.nx.nx (bL x))=_ from ea B rfl rfl rfl,fb];simp only[l,xI,xR,show((1:Int)==1)=true from rfl,yl,bT,xD,xF,xC,bI,RS.nx,RS.st];congr 2;omega
theorem L7(c:lw C)(id:Int)(nm:List UInt8)(p:Int){x:Ex}(y:C.ex x):p4 (.mk 2 id nm 0 0 p [x] [] []):=fun L s a v z l b _ u d=>by
 obtain⟨h,r⟩:=gW l;have b:bZ L s.i (.nm nm:: .sg [61]::(bL x ++[.sg [59]])):=by rw[fb]at b;rw[←bT];exact b
 have d:s.op+fN x≤200:=by rw[dS]at d;rw[←cp];exact d
 have e:bZ L s.st.nx.i (.sg [61]::(bL x ++[.sg [59]])):=az b;have g:bZ L s.st.nx.nx.i (bL x ++[.sg [59]]):=az e;obtain⟨q,o,k⟩:=j6 (c x y) (s:=s.st.nx.nx) g (sc rfl) u d;have j:bZ L (bI s.st.nx.nx (bL x)).i [.sg [59]]:=((cX _ _ _).1 g).2;have f:=bt e;have w:(aD L s.st).t=nm:=b.1.2.1;refine⟨.mk 2 s.st.n nm 0 0 (aD L s.st).p [q] [] [],s.st.n,fE x+2,by rw[m3,m3,dh,dh,o];show aP.mk 2 (b5 (s.n+1)) _ _ _ _ _ _ _=_;rw[h];rfl,by show b5 (b5 (s.n+1)+1)=v;rw[h];exact r,fun m hm=> ?_⟩;obtain⟨m,rfl⟩:∃k,m=k+1:=⟨m-1,by omega⟩
 rw[sr b,ci,show b0 L 1 s.st= .ok (aD L s.st) s.st.nx from gP (s:=s.st) b];simp only[Res.bind];rw[show isT L s.st.nx [40]=false by rw[f];rfl,show isT L s.st.nx [91]=false by rw[f];rfl];simp only[xI];rw[show ah L [61] s.st.nx= .ok (aD L s.st.nx) s.st.nx.nx from ea e rfl rfl rfl];simp only;rw[k m (by omega)];simp only;rw[show ah L [59] (bI s.st.nx.nx (bL x))=_ from ea j rfl rfl rfl,w,fb];simp only[xI,xR,show((2:Int)==1)=false from rfl,show((2:Int)==2)=true from rfl,bT,xD,xF,xC,bI,RS.nx,RS.st];congr 2;omega
theorem L8(c:lw C)(id:Int)(nm:List UInt8)(p:Int){x y:Ex}(A:C.ex x)(H:C.ex y):p4 (.mk 3 id nm 0 0 p [x,y] [] []):=fun L s a F M v b _ h d=>by
 obtain⟨j,E⟩:=gW v;have b:bZ L s.i (.nm nm:: .sg [91]::(bL x ++ .sg [93]:: .sg [61]::(bL y ++[.sg [59]]))):=by rw[fb]at b;rw[←bT,←bT];exact b
 have d:s.op+max (1+fN x) (fN y)≤200:=by rw[dS]at d;rw[←cp,←cp];exact d
 have K:=jZ x;have e:bZ L s.st.nx.i (.sg [91]::(bL x ++ .sg [93]:: .sg [61]::(bL y ++[.sg [59]]))):=az b;have g:bZ L (⟨s.i+2,s.op+1,s.st.n⟩:RS).i (bL x ++ .sg [93]:: .sg [61]::(bL y ++[.sg [59]])):=az e;obtain⟨u,D,k⟩:=j6 (c x A) (s:=⟨s.i+2,s.op+1,s.st.n⟩) g (by simp) (by show 0≤s.op+1;omega) (by show s.op+1+fN x≤200;omega);have f:bZ L (bI ⟨s.i+2,s.op+1,s.st.n⟩ (bL x)).i (.sg [93]:: .sg [61]::(bL y ++[.sg [59]])):=((cX _ _ _).1 g).2;have q:bZ L (⟨s.i+2+(bL x).length+1,s.op,s.st.n⟩:RS).i (.sg [61]::(bL y ++[.sg [59]])):=az f;have o:bZ L (⟨s.i+2+(bL x).length+2,s.op,s.st.n⟩:RS).i (bL y ++[.sg [59]]):=az q;obtain⟨z,G,B⟩:=j6 (c y H) (s:=⟨s.i+2+(bL x).length+2,s.op,s.st.n⟩) o (sc rfl) h (by show s.op+fN y≤200;omega);have r:bZ L (bI ⟨s.i+2+(bL x).length+2,s.op,s.st.n⟩ (bL y)).i [.sg [59]]:=((cX _ _ _).1 o).2;have l:=bt e;have J:(aD L s.st).t=nm:=b.1.2.1;have I:ah L [91] s.st.nx= .ok (aD L s.st.nx) ⟨s.i+2,s.op+1,s.st.n⟩:=fM e rfl rfl h (by show s.op<200;omega)
 have w:ah L [93] (bI ⟨s.i+2,s.op+1,s.st.n⟩ (bL x))= .ok (aD L (bI ⟨s.i+2,s.op+1,s.st.n⟩ (bL x))) ⟨s.i+2+(bL x).length+1,s.op,s.st.n⟩:=by
  rw[show ah L [93] (bI ⟨s.i+2,s.op+1,s.st.n⟩ (bL x))=_ from ek f rfl rfl rfl (by show 0≤s.op+1;omega) (by show s.op+1≤200;omega)];show Res.ok _ (⟨_,s.op+1-1,_⟩:RS)=_;rw[zA];rfl
 refine⟨.mk 3 s.st.n nm 0 0 (aD L s.st).p [u,z] [] [],s.st.n,fE x+fE y+4,by rw[m3,m3,dh,dh,dh,dh,dh,D,G];show aP.mk 3 (b5 (s.n+1)) _ _ _ _ _ _ _=_;rw[j];rfl,by show b5 (b5 (s.n+1)+1)=F;rw[j];exact E,fun m hm=> ?_⟩;obtain⟨m,rfl⟩:∃k,m=k+2:=⟨m-2,by omega⟩
 rw[sr b,ci,show b0 L 1 s.st= .ok (aD L s.st) s.st.nx from gP (s:=s.st) b];simp only[Res.bind];rw[show isT L s.st.nx [40]=false by rw[l];rfl,show isT L s.st.nx [91]=true by rw[l];rfl];simp only[xI,xR];rw[ch,I];simp only[Res.bind];rw[k m (by omega)];simp only;rw[w];simp only;rw[show ah L [61] (⟨s.i+2+(bL x).length+1,s.op,s.st.n⟩:RS)= .ok (aD L ⟨s.i+2+(bL x).length+1,s.op,s.st.n⟩) ⟨s.i+2+(bL x).length+2,s.op,s.st.n⟩from ea q rfl rfl rfl];simp only;rw[B (m+1) (by omega)];simp only;rw[show ah L [59] (bI ⟨s.i+2+(bL x).length+2,s.op,s.st.n⟩ (bL y))=_ from ea r rfl rfl rfl,J,fb];simp only[xI,xR,show((3:Int)==1)=false from rfl,show((3:Int)==2)=false from rfl,show((3:Int)==3)=true from rfl,List.take,List.drop,bT,xD,xF,xC,bI,RS.nx,RS.st];congr 2;omega
theorem IU(id p:Int):p4 (.mk 6 id [] 0 0 p [] [] []):=fun L s a j l g b _ o q=>by
 obtain⟨e,h⟩:=gW g;have b:bZ L s.i [.kw sq, .sg [59]]:=by rw[fb]at b;exact b
 have d:bZ L s.st.nx.i [.sg [59]]:=az b;have f:=bt d;refine⟨.mk 6 s.st.n [] 0 0 (aD L s.st).p [] [] [],s.st.n,1,by rw[m3,m3];show aP.mk 6 (b5 (s.n+1)) _ _ _ _ _ _ _=_;rw[e],by show b5 (b5 (s.n+1)+1)=j;rw[e];exact h,fun m hm=> ?_⟩;obtain⟨m,rfl⟩:∃k,m=k+1:=⟨m-1,by omega⟩
 rw[IS b,show isT L s.st.nx [59]=true by rw[f];rfl];simp only[xR];rw[show ah L [59] s.st.nx= .ok (aD L s.st.nx) s.st.nx.nx from ea d rfl rfl rfl,fb];rfl
theorem DT{x:Ex}(h:hG x=true){L:List T}{s:RS}(a:bZ L s.i (bL x ++[.sg [59]]))(j:0≤s.op)(o:s.op+fN x≤200):∃b,t6 b=t6 x∧∀(f:Ex→aP)(m:Nat),fE x+1≤m→((aQ L m 1 s).bind fun e l=>(ah L [59] l).bind fun _ p=> .ok (f e) p)= .ok (f b) ⟨s.i+((bL x).length+1),s.op,s.n⟩:=by
 obtain⟨b,g,k⟩:=j6 h a (sc rfl) j o;have d:bZ L (bI s (bL x)).i [.sg [59]]:=((cX _ _ _).1 a).2;refine⟨b,g,fun f m hm=> ?_⟩;rw[k m hm];simp only[Res.bind];rw[show ah L [59] (bI s (bL x))=_ from ea d rfl rfl rfl];rfl
theorem L9{x:Ex}(h:hG x=true):∃t r,bL x=t::r∧((t.k==2||t.k==4)&&t.t==[59])=false:=by
 obtain⟨t,r,e,q⟩:=(HU x h).hd;refine⟨t,r,e, ?_⟩;revert q;cases (t.k==2||t.k==4)<;>cases (t.t==[59])<;>simp
theorem IV(c:lw C)(id p:Int){x:Ex}(h:C.ex x):p4 (.mk 6 id [] 0 0 p [x] [] []):=fun L s a w z l b _ v d=>by
 obtain⟨g,u⟩:=gW l;have b:bZ L s.i (.kw sq::(bL x ++[.sg [59]])):=by rw[fb]at b;rw[←bT];exact b
 have d:s.op+fN x≤200:=by rw[dS]at d;rw[←cp];exact d
 have f:bZ L s.st.nx.i (bL x ++[.sg [59]]):=az b;obtain⟨q,o,k⟩:=DT (c x h) f v d;obtain⟨t,r,y,et⟩:=L9 (c x h);refine⟨.mk 6 s.st.n [] 0 0 (aD L s.st).p [q] [] [],s.st.n,fE x+2,by rw[m3,m3,dh,dh,o];show aP.mk 6 (b5 (s.n+1)) _ _ _ _ _ _ _=_;rw[g];rfl,by show b5 (b5 (s.n+1)+1)=w;rw[g];exact u,fun m hm=> ?_⟩;obtain⟨m,rfl⟩:∃k,m=k+1:=⟨m-1,by omega⟩
 have j:isT L s.st.nx [59]=false:=by
  rw[y]at f;rw[bt (s:=s.st.nx) f];exact et
 rw[IS b,j,xI,k (fun e=> .mk 6 s.st.n [] 0 0 (aD L s.st).p [e] [] []) m (by omega),fb];simp only[xI,xR,show((6:Int)==1)=false from rfl,show((6:Int)==2)=false from rfl,show((6:Int)==3)=false from rfl,show((6:Int)==4)=false from rfl,show((6:Int)==5)=false from rfl,show((6:Int)==6)=true from rfl,bT,xD,xF,xC,RS.nx,RS.st];congr 2;omega
theorem Ma(c:lw C)(id p:Int){x:Ex}(t:C.ex x):p4 (.mk 7 id [] 0 0 p [x] [] []):=fun L s a r u g b _ o d=>by
 obtain⟨f,l⟩:=gW g;have b:bZ L s.i (.kw o7::(bL x ++[.sg [59]])):=by rw[fb]at b;rw[←bT];exact b
 have d:s.op+fN x≤200:=by rw[dS]at d;rw[←cp];exact d
 have q:bZ L s.st.nx.i (bL x ++[.sg [59]]):=az b;obtain⟨j,h,k⟩:=DT (c x t) q o d;refine⟨.mk 7 s.st.n [] 0 0 (aD L s.st).p [j] [] [],s.st.n,fE x+2,by rw[m3,m3,dh,dh,h];show aP.mk 7 (b5 (s.n+1)) _ _ _ _ _ _ _=_;rw[f];rfl,by show b5 (b5 (s.n+1)+1)=r;rw[f];exact l,fun m hm=> ?_⟩;obtain⟨m,rfl⟩:∃k,m=k+1:=⟨m-1,by omega⟩
 rw[Qa b,k (fun e=> .mk 7 s.st.n [] 0 0 (aD L s.st).p [e] [] []) m (by omega),fb];simp only[xI,xR,show((7:Int)==1)=false from rfl,show((7:Int)==2)=false from rfl,show((7:Int)==3)=false from rfl,show((7:Int)==4)=false from rfl,show((7:Int)==5)=false from rfl,show((7:Int)==6)=false from rfl,show((7:Int)==7)=true from rfl,bT,xD,xF,xC,RS.nx,RS.st];congr 2;omega
end
end Go.Avm
namespace Go.Avm
open Go.Proofs
section
variable{C:Cw}
theorem IW(B:lw C)(id p:Int){nm:List UInt8}{q:Int}{xs:List Ex}(r:C.ex (.mk 5 0 nm 0 q xs)):p4 (.mk 8 id [] 0 0 p [.mk 5 0 nm 0 q xs] [] []):=fun L s a z F j b _ o f=>by
 obtain⟨e,w⟩:=gW j
 have A:gk xs=true:=by
  have:=B _ r;rw[hG]at this;simpa using this
 have v:fb (.mk 8 id [] 0 0 p [.mk 5 0 nm 0 q xs] [] [])= .nm nm:: .sg [40]::(kq xs ++[.sg [41], .sg [59]]):=by
  rw[fb];show kq [.mk 5 0 nm 0 q xs] ++[.sg [59]]=_;rw[bT,bL];show(.nm nm:: .sg [40]::(kq xs ++[.sg [41]])) ++[.sg [59]]=_;rw[x8,x8,xM];rfl
 have y:dS (.mk 8 id [] 0 0 p [.mk 5 0 nm 0 q xs] [] [])=1+g8 xs:=by
  rw[dS];show g8 [.mk 5 0 nm 0 q xs]=_;rw[cp,fN];rfl
 rw[v]at b ⊢;rw[y]at f;have h:bZ L s.st.nx.i (.sg [40]::(kq xs ++[.sg [41], .sg [59]])):=az b;have d:bZ L s.st.nx.i ((.sg [40]::(kq xs ++[.sg [41]])) ++[.sg [59]]):=by rw[x8,xM];exact h
 obtain⟨l,c⟩:=(cX _ _ _).1 d;have g:=fun x hm=>Cf xs A x hm
 obtain⟨l',E,k⟩:=Dy xs (fun x hm=>⟨(g x hm).ok,(g x hm).hd⟩) (s:=s.st.nx) l o f;have c:bZ L (bI s.st.nx (.sg [40]::(kq xs ++[.sg [41]]))).i [.sg [59]]:=c;have u:=bt h;have D:(aD L s.st).t=nm:=b.1.2.1;refine⟨.mk 8 s.st.n [] 0 0 (aD L s.st).p [.mk 5 0 nm 0 (aD L s.st).p l'] [] [],s.st.n,fA xs+5,by simp only[m3,dh,t6,E];show aP.mk 8 (b5 (s.n+1)) _ _ _ _ _ _ _=_;rw[e],by show b5 (b5 (s.n+1)+1)=z;rw[e];exact w,fun m hm=> ?_⟩;obtain⟨m,rfl⟩:∃k,m=k+2:=⟨m-2,by omega⟩
 rw[sr b,ci,show b0 L 1 s.st= .ok (aD L s.st) s.st.nx from gP (s:=s.st) b];simp only[Res.bind];rw[show isT L s.st.nx [40]=true by rw[u];rfl];simp only[xR];rw[dz,k m (by omega)];simp only[Res.bind];rw[show ah L [59] (bI s.st.nx (.sg [40]::(kq xs ++[.sg [41]])))=_ from ea c rfl rfl rfl,D];simp only[xD,xF,xC,bI,RS.nx,RS.st];congr 2;omega
theorem TV{L:List T}{s a:RS}(h:s.i=a.i)(t:List UInt8):isT L s t=isT L a t:=by
 unfold isT aD;rw[h]
theorem Nu(a:lw C){x:aP}(h:j5 C x):∃t r,fb x=t::r∧((t.k==2||t.k==4)&&(t.t==[125]||t.t==kk))=false:=by
 cases h with
 |letA=>exact⟨_,_,by rw[fb];rfl,rfl⟩
 |letN=>exact⟨_,_,by rw[fb];rfl,rfl⟩
 |letV=>exact⟨_,_,by rw[fb];rfl,rfl⟩
 |set=>exact⟨_,_,by rw[fb];rfl,rfl⟩
 |put=>exact⟨_,_,by rw[fb];rfl,rfl⟩
 |ifs=>exact⟨_,_,by rw[fb];rfl,rfl⟩
 |loop=>exact⟨_,_,by rw[fb];rfl,rfl⟩
 |ret0=>exact⟨_,_,by rw[fb];rfl,rfl⟩
 |ret1=>exact⟨_,_,by rw[fb];rfl,rfl⟩
 |prt=>exact⟨_,_,by rw[fb];rfl,rfl⟩
 | @call id p nm q xs b=>
  refine⟨.nm nm, .sg [40]::(kq xs ++[.sg [41]]) ++[.sg [59]], ?_,rfl⟩;rw[fb];show kq [.mk 5 0 nm 0 q xs] ++[.sg [59]]=_;rw[bT,bL];rfl
def StsOk(l:List aP):Prop:=∀(L:List T)(b:List aP)(s:RS)(a c d:Int),dx l (b5 (s.n+1)) a c d→bZ L s.i (cM l ++[.sg [125]])→0≤s.op→s.op+iO l≤200→
 ∃l' N e,lk l'=lk l∧b5 (N+1)=c∧∀m,e≤m→cj L m b s= .ok (b ++l') ⟨s.i+(cM l).length,s.op,N⟩
def ss(l:List aP):Prop:=∀(L:List T)(s:RS)(a b c:Int)(r:List Tk),dx l (b5 (s.n+1)) a b c→bZ L s.i (.sg [123]::(cM l ++ .sg [125]::r))→0≤s.op→s.op+(1+iO l)≤200→
 ∃l' N d,lk l'=lk l∧b5 (N+1)=b∧∀m,d≤m→bg L m s= .ok l' ⟨s.i+(cM l).length+2,s.op,N⟩
theorem StsOk.blk{l:List aP}(h:StsOk l):ss l:=fun L s a q f r e b o w=>by
 have v:=ji l;have p:bZ L (⟨s.i+1,s.op+1,s.n⟩:RS).i (cM l ++ .sg [125]::r):=az b;obtain⟨j,c⟩:=(cX _ _ _).1 p;obtain⟨l',N,d,t,g,k⟩:=h L [] ⟨s.i+1,s.op+1,s.n⟩ a q f e ((cX _ _ _).2 ⟨j,c.1,trivial⟩) (by show 0≤s.op+1;omega) (by show s.op+1+iO l≤200;omega);have u:bZ L (⟨s.i+1+(cM l).length,s.op+1,N⟩:RS).i (.sg [125]::r):=c;refine⟨l',N,d+1,t,g,fun m hm=> ?_⟩;obtain⟨m,rfl⟩:∃k,m=k+1:=⟨m-1,by omega⟩
 rw[bg,show ah L [123] s=_ from fM b rfl rfl o (by omega)];simp only[Res.bind];rw[k m (by omega)];simp only[xn];rw[show ah L [125] ⟨s.i+1+(cM l).length,s.op+1,N⟩=_ from ek u rfl rfl rfl (by show 0≤s.op+1;omega) (by show s.op+1≤200;omega)];show Res.ok l' (⟨s.i+1+(cM l).length+1,s.op+1-1,N⟩:RS)=_;rw[zA,show s.i+1+(cM l).length+1=s.i+(cM l).length+2 by omega]
theorem Mb{x:aP}{l:List aP}{n a d b:Int}(h:dx (x::l) n a d b):∃e c,dx [x] n a e c∧dx l e c d b:=by
 cases h with
 |cons h lb j f i g=>exact⟨_,_, .cons h lb j f i (.nil _ _),g⟩
theorem Mc:StsOk []:=fun L e s a h f d b g _=>by
 cases d;have c:=bt (show bZ L s.i [.sg [125]]from b);refine⟨[],s.n,1,rfl,rfl,fun m hm=> ?_⟩;obtain⟨m,rfl⟩:∃k,m=k+1:=⟨m-1,by omega⟩
 rw[cj,show isT L s [125]=true by rw[c];rfl,yF];rfl
theorem IX(w:lw C){x:aP}{l:List aP}(P:j5 C x)(E:CanL C l)(F:p4 x)(J:StsOk l):StsOk (x::l):=fun L n s a O R A c v j=>by
 obtain⟨T,u,o,d⟩:=Mb A;rw[cM,xM]at c;obtain⟨h,b⟩:=(cX _ _ _).1 c;have j:s.op+max (dS x) (iO l)≤200:=by rw[iO]at j;exact j
 have b:bZ L (bI s (fb x)).i (cM l ++[.sg [125]]):=b
 have g:isT L (bI s (fb x)) kk=false:=by
  cases E with
  |nil=>rw[bt (show bZ L (bI s (fb x)).i [.sg [125]]from b)];rfl
  | @cons y r Q _=>
   obtain⟨t,q,e,f⟩:=Nu w Q;rw[cM,e]at b;rw[bt (x:=t) (by exact b)];revert f;cases (t.k==2||t.k==4)<;>cases (t.t==kk)<;>simp
 obtain⟨p,N,z,B,K,k⟩:=F L s a T u o h g v (by omega);obtain⟨l',M,D,G,I,S⟩:=J L (n ++[p]) ⟨s.i+(fb x).length,s.op,N⟩ u O R (by rw[K];exact d) b v (by show s.op+iO l≤200;omega);refine⟨p::l',M,z+D+1,by rw[lk,lk,B,G],I,fun m hm=> ?_⟩;obtain⟨m,rfl⟩:∃k,m=k+1:=⟨m-1,by omega⟩
 have H:isT L s [125]=false:=by
  obtain⟨t,q,e,f⟩:=Nu w P;rw[e]at h;rw[bt (s:=s) h];revert f;cases (t.k==2||t.k==4)<;>cases (t.t==[125])<;>simp
 rw[cj,H,xI,k m (by omega)];simp only[Res.bind];rw[S m (by omega),xM,cM,xC,ya];rfl
theorem Fr(z:lw C)(id p:Int){x:Ex}{c:List aP}(u:C.ex x)(t:ss c):p4 (.mk 5 id [] 0 0 p [x] c []):=fun L s a j E r b _ g d=>by
 obtain⟨h,B,D,A,e,A7⟩:=vR r;cases A7;have b:bZ L s.i (.kw o6::(bL x ++ .sg [123]::(cM c ++[.sg [125]]))):=by rw[fb]at b;rw[←bT];exact b
 have d:s.op+max (fN x) (1+iO c)≤200:=by rw[dS]at d;rw[←cp];exact d
 have f:bZ L s.st.nx.i (bL x ++ .sg [123]::(cM c ++[.sg [125]])):=az b;obtain⟨o,w,k⟩:=j6 (z x u) (s:=s.st.nx) f (by simp) g (by show s.op+_≤_;omega);have q:bZ L (bI s.st.nx (bL x)).i (.sg [123]::(cM c ++[.sg [125]])):=((cX _ _ _).1 f).2;obtain⟨l',N,l,y,v,kb⟩:=t L (bI s.st.nx (bL x)) p j _ [] (by show dx c (b5 (b5 (s.n+1)+1)) p j _;rw[h];exact e) q g (by show s.op+_≤_;omega);refine⟨.mk 5 s.st.n [] 0 0 (aD L s.st).p [o] l' [],N,l+fE x+2,by rw[m3,m3,dh,dh,w,y];show aP.mk 5 (b5 (s.n+1)) _ _ _ _ _ _ _=_;rw[h];rfl,v,fun m hm=> ?_⟩;obtain⟨m,rfl⟩:∃k,m=k+1:=⟨m-1,by omega⟩
 rw[IR b,k m (by omega)];simp only[Res.bind];rw[kb m (by omega),fb];simp only[xI,xR,show((5:Int)==1)=false from rfl,show((5:Int)==2)=false from rfl,show((5:Int)==3)=false from rfl,show((5:Int)==4)=false from rfl,show((5:Int)==5)=true from rfl,bT,xD,xF,xC,bI,RS.nx,RS.st];congr 2;omega
theorem Qb(S:lw C)(id p:Int){x:Ex}{b c:List aP}(J:C.ex x)(G:ss b)(E:ss c):p4 (.mk 4 id [] 0 0 p [x] b c):=fun L s a Q U F d e j g=>by
 obtain⟨o,B,R,T,q,A7⟩:=vR F;have M:fb (.mk 4 id [] 0 0 p [x] b c)= .kw L6::(bL x ++ .sg [123]::(cM b ++ .sg [125]::(bif c.isEmpty then []else .kw kk:: .sg [123]::(cM c ++[.sg [125]])))):=by rw[fb,←bT];rfl
 have g:s.op+max (fN x) (max (1+iO b) (bif c.isEmpty then 0 else 1+iO c))≤200:=by rw[dS]at g;rw[←cp];exact g
 rw[M]at d e ⊢;have v:=az d;obtain⟨t,z,k⟩:=j6 (S x J) (s:=s.st.nx) v (by simp) j (by show s.op+_≤_;omega);have u:bZ L (bI s.st.nx (bL x)).i _:=((cX _ _ _).1 v).2;obtain⟨l',N,h,A,w,kb⟩:=G L (bI s.st.nx (bL x)) p B _ _ (by show dx b (b5 (b5 (s.n+1)+1)) p B _;rw[o];exact q) u j (by show s.op+_≤_;omega)
 have f:bZ L (⟨s.i+1+(bL x).length+(cM b).length+2,s.op,N⟩:RS).i (bif c.isEmpty then []else .kw kk:: .sg [123]::(cM c ++[.sg [125]])):=by
  have:=az ((cX _ _ _).1 (az u)).2;show bZ L (s.i+1+(bL x).length+(cM b).length+2) _;rw[show s.i+1+(bL x).length+(cM b).length+2=s.i+1+(bL x).length+1+(cM b).length+1 by omega];exact this
 have kb:∀m,h≤m→bg L m (bI s.st.nx (bL x))= .ok l' ⟨s.i+1+(bL x).length+(cM b).length+2,s.op,N⟩:=kb;cases c with
 |nil=>
  cases A7
  have l:isT L ⟨s.i+1+(bL x).length+(cM b).length+2,s.op,N⟩ kk=false:=by
   rw[←e];apply TV;simp only[bI,zR,xR,xD,xC,xF];omega
  refine⟨.mk 4 s.st.n [] 0 0 (aD L s.st).p [t] l' [],N,h+fE x+2,by rw[m3,m3,dh,dh,z,A];show aP.mk 4 (b5 (s.n+1)) _ _ _ _ _ _ _=_;rw[o];rfl,w,fun m hm=> ?_⟩;obtain⟨m,rfl⟩:∃k,m=k+1:=⟨m-1,by omega⟩
  rw[Nt d,k m (by omega)];simp only[Res.bind];rw[kb m (by omega)];simp only;rw[show aM L [101,108,115,101] ⟨s.i+1+(bL x).length+(cM b).length+2,s.op,N⟩=_ from a9 l];simp only[xI,zR,xR,xD,xF,xC];congr 2;omega
 |cons y r=>
  have f:bZ L (⟨s.i+1+(bL x).length+(cM b).length+2,s.op,N⟩:RS).i (.kw kk:: .sg [123]::(cM (y::r) ++[.sg [125]])):=f
  obtain⟨D,P,I,O,K,H⟩:=E L (⟨s.i+1+(bL x).length+(cM b).length+2,s.op,N⟩:RS).nx R Q _ [] (by show dx _ (b5 (N+1)) _ _ _;rw[w];exact A7) (az f) j (by
   have:s.op+max (fN x) (max (1+iO b) (1+iO (y::r)))≤200:=g;show s.op+_≤_;omega)
  refine⟨.mk 4 s.st.n [] 0 0 (aD L s.st).p [t] l' D,P,h+I+fE x+2,by rw[m3,m3,dh,dh,z,A,O];show aP.mk 4 (b5 (s.n+1)) _ _ _ _ _ _ _=_;rw[o];rfl,K,fun m hm=> ?_⟩;obtain⟨m,rfl⟩:∃k,m=k+1:=⟨m-1,by omega⟩
  rw[Nt d,k m (by omega)];simp only[Res.bind];rw[kb m (by omega)];simp only;rw[show aM L [101,108,115,101] ⟨s.i+1+(bL x).length+(cM b).length+2,s.op,N⟩=_ from co f rfl rfl rfl];simp only[xR];rw[H m (by omega)];simp only[yl,xI,xD,xF,xC,RS.nx];congr 2;omega
mutual
theorem Md(b:lw C):∀x:aP,j5 C x→p4 x
 | .mk k id nm ty n p es d e,h=>by
  have f:CanL C d→ss d:=fun h=>(qg b d h).blk
  have g:CanL C e→ss e:=fun h=>(qg b e h).blk
  cases h with
  |letA=>exact IT _ _ _ _
  |letN _ _ _ h=>exact DS b _ _ _ _ h _ (.inl rfl)
  |letV _ _ _ h a=>exact DS b _ _ _ _ h _ (.inr ⟨_,rfl,a⟩)
  |set _ _ _ a=>exact L7 b _ _ _ a
  |put _ _ _ a i=>exact L8 b _ _ _ a i
  |ifs _ _ a c h2=>exact Qb b _ _ a (f c) (g h2)
  |loop _ _ a c=>exact Fr b _ _ a (f c)
  |ret0=>exact IU _ _
  |ret1 _ _ a=>exact IV b _ _ a
  |prt _ _ a=>exact Ma b _ _ a
  |call _ _ _ a=>exact IW b _ _ a
theorem qg(a:lw C):∀l:List aP,CanL C l→StsOk l
 |[],_=>Mc
 |x::l,h=>by
  have d:=Md a x;have h2:=qg a l;cases h with
  |cons b c=>exact IX a b c (d b) (h2 c)
end
end
end Go.Avm
namespace Go.Avm
open Go.Proofs
def Me:List UInt8:=[102,110]
def vS(p:Pm):List Tk:=[.nm p.nm, .sg [58], .kw (aN p.ty)]
def wu:List Pm→List Tk
 |[]=>[]
 |y::r=> .sg [44]::(vS y ++wu r)
def ik:List Pm→List Tk
 |[]=>[]
 |x::l=>vS x ++wu l
def vT(k:Int):List Tk:=bif k==0 then []else [.sg [58], .kw (aN k)]
def Cn(f:Fn):List Tk:= .kw Me:: .nm f.nm:: .sg [40]::(ik f.ps ++ .sg [41]::(vT f.res ++ .sg [123]::(cM f.bd ++[.sg [125]])))
def su:List Fn→List Tk
 |[]=>[]
 |f::l=>Cn f ++su l
structure ku(C:Cw)(f:Fn):Prop where
 nm:C.nm f.nm
 ps:∀p∈f.ps,C.nm p.nm∧(p.ty=1∨p.ty=2∨p.ty=3)
 res:f.res=0∨f.res=1∨f.res=2
 bd:CanL C f.bd
 dp:1+iO f.bd≤200
section
variable{C:Cw}{L:List T}
theorem Nv{p:Pm}(f:p.ty=1∨p.ty=2∨p.ty=3){s:RS}{r:List Tk}(a:bZ L s.i (vS p ++r)):∃b,FS b=FS p∧eH L s= .ok b ⟨s.i+3,s.op,s.n⟩:=by
 have a:bZ L s.i (.nm p.nm:: .sg [58]:: .kw (aN p.ty)::r):=a;have c:bZ L s.nx.i (.sg [58]:: .kw (aN p.ty)::r):=az a;have e:bZ L s.nx.nx.i (.kw (aN p.ty)::r):=az c;have d:(aD L s).t=p.nm:=a.1.2.1;refine⟨⟨p.nm,p.ty,(aD L s).p⟩,rfl, ?_⟩;unfold eH;rw[show b0 L 1 s= .ok (aD L s) s.nx from gP a];simp only[Res.bind];rw[show ah L [58] s.nx= .ok (aD L s.nx) s.nx.nx from ea c rfl rfl rfl];simp only;rw[vQ f e,d];rfl
theorem IY:∀(l:List Pm),(∀p∈l,p.ty=1∨p.ty=2∨p.ty=3)→∀(b:List Pm)(s:RS)(r:List Tk),bZ L s.i (wu l ++ .sg [41]::r)→∃l',l'.map FS=l.map FS∧∀m,l.length+1≤m→cl L m b s= .ok (b ++l') ⟨s.i+(wu l).length,s.op,s.n⟩
 |[],_,b,s,r,a=>⟨[],rfl,fun m hm=>by
  obtain⟨m,rfl⟩:∃k,m=k+1:=⟨m-1,by omega⟩
  have e:=bt (show bZ L s.i (.sg [41]::r)from a);rw[cl,a9 (by rw[e];rfl),yF];rfl⟩
 |p::l,h,b,s,r,a=>by
  have a:bZ L s.i (.sg [44]::((vS p ++wu l) ++ .sg [41]::r)):=a;have d:bZ L s.nx.i (vS p ++(wu l ++ .sg [41]::r)):=by rw[←xM];exact az a
  obtain⟨c,u,f⟩:=Nv (h p (x0 ..)) (s:=s.nx) d;have o:bZ L (⟨s.nx.i+3,s.nx.op,s.nx.n⟩:RS).i (wu l ++ .sg [41]::r):=((cX _ _ _).1 d).2;obtain⟨l',g,t⟩:=IY l (fun q j=>h q (xW _ j)) (b ++[c]) ⟨s.nx.i+3,s.nx.op,s.nx.n⟩ r o;refine⟨c::l',by rw[xN,xN,u,g],fun m hm=> ?_⟩;obtain⟨m,rfl⟩:∃k,m=k+1:=⟨m-1,by omega⟩
  rw[cl,show aM L [44] s= .ok true s.nx from co a rfl rfl rfl];simp only[Res.bind,xR];rw[f];simp only;rw[t m (by simp only[xD]at hm;omega),xM];simp only[wu,vS,xD,xC,xF,RS.nx];congr 2;omega
theorem Fs(l:List Pm)(h:∀p∈l,p.ty=1∨p.ty=2∨p.ty=3){s:RS}{r:List Tk}(b:bZ L s.i (.sg [40]::(ik l ++ .sg [41]::r)))(t:s.op=0):∃l',l'.map FS=l.map FS∧∀m,l.length+1≤m→cE L m s= .ok l' ⟨s.i+(ik l).length+2,0,s.n⟩:=by
 obtain⟨i,op,n⟩:=s;obtain rfl:op=0:=t;have f:ah L [40] ⟨i,0,n⟩= .ok (aD L ⟨i,0,n⟩) ⟨i+1,1,n⟩:=fM (s:=⟨i,0,n⟩) b rfl rfl (xx _) (show(0:Int)<200 by decide);have a:bZ L (⟨i+1,1,n⟩:RS).i (ik l ++ .sg [41]::r):=az b;cases l with
 |nil=>
  have a:bZ L (⟨i+1,1,n⟩:RS).i (.sg [41]::r):=a;have c:=bt a;refine⟨[],rfl,fun m hm=> ?_⟩;unfold cE;rw[f];simp only[Res.bind];rw[show isT L ⟨i+1,1,n⟩ [41]=true by rw[c];rfl];simp only[xR];rw[show ah L [41] ⟨i+1,1,n⟩=_ from ek a rfl rfl rfl (show(0:Int)≤1 by decide) (show(1:Int)≤200 by decide)];rfl
 |cons p l=>
  have a:bZ L (⟨i+1,1,n⟩:RS).i (vS p ++(wu l ++ .sg [41]::r)):=by
   rw[←xM];exact a
  obtain⟨d,v,j⟩:=Nv (h p (x0 ..)) (s:=⟨i+1,1,n⟩) a;have e:bZ L (⟨i+1+3,1,n⟩:RS).i (wu l ++ .sg [41]::r):=((cX _ _ _).1 a).2;obtain⟨l',k,u⟩:=IY l (fun q o=>h q (xW _ o)) [d] ⟨i+1+3,1,n⟩ r e;have g:bZ L (⟨i+1+3+(wu l).length,1,n⟩:RS).i (.sg [41]::r):=((cX _ _ _).1 e).2;have c:=bt (s:=⟨i+1,1,n⟩) (show bZ L (⟨i+1,1,n⟩:RS).i (.nm p.nm:: .sg [58]:: .kw (aN p.ty)::(wu l ++ .sg [41]::r))from a);refine⟨d::l',by rw[xN,xN,v,k],fun m hm=> ?_⟩;unfold cE;rw[f];simp only[Res.bind];rw[show isT L ⟨i+1,1,n⟩ [41]=false by rw[c];rfl];simp only[xI];rw[j];simp only;rw[u m (by simp only[xD]at hm;omega)];simp only;rw[show ah L [41] ⟨i+1+3+(wu l).length,1,n⟩=_ from ek g rfl rfl rfl (show(0:Int)≤1 by decide) (show(1:Int)≤200 by decide)];simp only[ik,vS,xD,xC,xF];show Res.ok (d::l') (⟨i+1+3+(wu l).length+1,0,n⟩:RS)=_;rw[show i+1+3+(wu l).length+1=i+(0+1+1+1+(wu l).length)+2 by omega]
theorem IZ{s:RS}{ty:Int}{r:List Tk}(b:ty=1∨ty=2)(a:bZ L s.i (.kw (aN ty)::r)):cL L [1,2] s= .ok ty s.nx:=by
 have c:=bt a;rcases b with rfl|rfl
 ·rw[cL,show aM L (aN 1) s= .ok true s.nx from co a rfl rfl rfl];rfl
 ·rw[cL,a9 (by rw[c];rfl)]
  simp only[Res.bind,xI];rw[cL,show aM L (aN 2) s= .ok true s.nx from co a rfl rfl rfl];rfl
theorem TW(V:lw C){f:Fn}(v:ku C f){s:RS}{a w q:Int}{r:List Tk}(F:dx f.bd (b5 (s.n+1)) a w q)(g:bZ L s.i (Cn f ++r))(P:s.op=0):
    ∃f' N j,lr f'=lr f∧b5 (N+1)=w∧∀m,j≤m→oF L m s= .ok f' ⟨s.i+(Cn f).length,0,N⟩:=by
 obtain⟨nm,ps,c,d,p⟩:=f;obtain⟨i,op,n⟩:=s;obtain rfl:op=0:=P;have T:1+iO d≤200:=v.dp;have J:c=0∨c=1∨c=2:=v.res;have x:∀p∈ps,p.ty=1∨p.ty=2∨p.ty=3:=fun p hp=>(v.ps p hp).2
 have B:ss d:=(qg V d v.bd).blk
 have g:bZ L i (.kw Me:: .nm nm:: .sg [40]::(ik ps ++ .sg [41]::(vT c ++ .sg [123]::(cM d ++ .sg [125]::r)))):=by
  have h:Cn ⟨nm,ps,c,d,p⟩ ++r= .kw Me:: .nm nm:: .sg [40]::(ik ps ++ .sg [41]::(vT c ++ .sg [123]::(cM d ++ .sg [125]::r))):=by
   simp[Cn]
  rw[←h];exact g
 have q:bZ L (⟨i+1,0,n⟩:RS).i _:=az g;have H:bZ L (⟨i+2,0,n⟩:RS).i _:=az q;have R:(aD L ⟨i+1,0,n⟩).t=nm:=q.1.2.1;obtain⟨u,I,G⟩:=Fs ps x (s:=⟨i+2,0,n⟩) H rfl
 have e:bZ L (i+2+(ik ps).length+2) (vT c ++ .sg [123]::(cM d ++ .sg [125]::r)):=by
  have:=az ((cX _ _ _).1 (az H)).2;rw[show i+2+(ik ps).length+2=i+2+1+(ik ps).length+1 by omega];exact this
 have E:∀m,oF L m ⟨i,0,n⟩=(Res.bind (cE L m ⟨i+2,0,n⟩) fun ps U=>(aM L [58] U).bind fun b D=>
     bif b then (cL L [1,2] D).bind fun k z=>(bg L m z).bind fun l O=> .ok ⟨nm,ps,k,l,(aD L ⟨i,0,n⟩).p⟩ O
     else (bg L m D).bind fun l z=> .ok ⟨nm,ps,0,l,(aD L ⟨i,0,n⟩).p⟩ z):=fun m=>by
  unfold oF;rw[show ah L [102,110] ⟨i,0,n⟩= .ok (aD L ⟨i,0,n⟩) ⟨i+1,0,n⟩from ea (s:=⟨i,0,n⟩) g rfl rfl rfl];simp only[Res.bind];rw[show b0 L 1 ⟨i+1,0,n⟩= .ok (aD L ⟨i+1,0,n⟩) ⟨i+2,0,n⟩from gP (s:=⟨i+1,0,n⟩) q];simp only[R]
 by_cases M:c=0
 ·subst M
  have e:bZ L (⟨i+2+(ik ps).length+2,0,n⟩:RS).i (.sg [123]::(cM d ++ .sg [125]::r)):=e;have Q:=bt e;obtain⟨l',N,j,A,y,kb⟩:=B L ⟨i+2+(ik ps).length+2,0,n⟩ a w _ r F e (xx _) (by show 0+(1+iO d)≤200;omega);refine⟨⟨nm,u,0,l',(aD L ⟨i,0,n⟩).p⟩,N,j+ps.length+1,by simp only[lr,I,A],y,fun m hm=> ?_⟩;rw[E,G m (by omega)];simp only[Res.bind];rw[show aM L [58] ⟨i+2+(ik ps).length+2,0,n⟩=_ from a9 (by rw[Q];rfl)];simp only[xI];rw[kb m (by omega)];simp only[Cn,vT,xD,xF,xC,show((0:Int)==0)=true from rfl,xR,xn];congr 2;omega
 ·have o:(c==0)=false:=beq_eq_false_iff_ne.2 M
  have e:bZ L (⟨i+2+(ik ps).length+2,0,n⟩:RS).i (.sg [58]:: .kw (aN c):: .sg [123]::(cM d ++ .sg [125]::r)):=by
   unfold vT at e;rw[o]at e;exact e
  have K:bZ L (⟨i+2+(ik ps).length+3,0,n⟩:RS).i (.kw (aN c):: .sg [123]::(cM d ++ .sg [125]::r)):=az e;have S:bZ L (⟨i+2+(ik ps).length+4,0,n⟩:RS).i (.sg [123]::(cM d ++ .sg [125]::r)):=az K;obtain⟨l',N,j,A,y,kb⟩:=B L ⟨i+2+(ik ps).length+4,0,n⟩ a w _ r F S (xx _) (by show 0+(1+iO d)≤200;omega);refine⟨⟨nm,u,c,l',(aD L ⟨i,0,n⟩).p⟩,N,j+ps.length+1,by simp only[lr,I,A],y,fun m hm=> ?_⟩;rw[E,G m (by omega)];simp only[Res.bind];rw[show aM L [58] ⟨i+2+(ik ps).length+2,0,n⟩= .ok true ⟨i+2+(ik ps).length+3,0,n⟩from co e rfl rfl rfl];simp only[xR];rw[IZ (by omega) K];show Res.bind (bg L m ⟨i+2+(ik ps).length+4,0,n⟩) _=_;rw[kb m (by omega)];simp only[Res.bind,Cn,vT,o,xI,xD,xF,xC];congr 2;omega
theorem I1{f:Fn}{l:List Fn}{n a:Int}(h:mV (f::l) n a):∃c b,dx f.bd n a c b∧mV l c b:=by
 cases h with
 |cons lb d e=>exact⟨_,_,d,e⟩
theorem I2(q:lw C):∀(l:List Fn),(∀f∈l,ku C f)→∀(b:List Fn)(s:RS)(a:Int),mV l (b5 (s.n+1)) a→bZ L s.i (su l)→(L.getD (s.i+(su l).length) default).k=0→s.op=0→
    ∃l' j e,l'.map lr=l.map lr∧∀m N,e≤m→e≤N→gF L N m b s= .ok (b ++l') j
 |[],_,b,s,a,_,_,d,_=>⟨[],s,1,rfl,fun m N hm _=>by
  obtain⟨m,rfl⟩:∃k,m=k+1:=⟨m-1,by omega⟩
  have d:(aD L s).k=0:=d;rw[gF,d,yF];rfl⟩
 |f::l,p,b,s,a,t,c,d,v=>by
  obtain⟨H,B,o,h⟩:=I1 t;have c:bZ L s.i (Cn f ++su l):=c;obtain⟨f',D,e,w,A,F⟩:=TW q (p f (x0 ..)) o c v;have u:=((cX _ _ _).1 c).2;obtain⟨l',j,x,y,E⟩:=I2 q l (fun g r=>p g (xW _ r)) (b ++[f']) ⟨s.i+(Cn f).length,0,D⟩ B (by rw[A];exact h) u (by rw[←d];show(L.getD (s.i+(Cn f).length+(su l).length) default).k=_;rw[su,xC,ya]) rfl;refine⟨f'::l',j,e+x+1,by rw[xN,xN,w,y],fun m N hm G=> ?_⟩;obtain⟨m,rfl⟩:∃k,m=k+1:=⟨m-1,by omega⟩
  have z:(aD L s).k=2:=c.1.1;rw[gF,z];show Res.bind (oF L N s) _=_;rw[F N (by omega)];simp only[Res.bind];rw[E m N (by omega) (by omega),xM];rfl
theorem Mf(o:lw C){l:List Fn}(n:l≠[])(m:∀f∈l,ku C f){a:Int}(h:mV l 1 a)(b:bZ L 0 (su l))(j:(L.getD (su l).length default).k=0){F:Nat}(i:dA L F≠ .out):
    ∃l' d,l'.map lr=l.map lr∧dA L F= .ok l' d:=by
 obtain⟨l',d,c,e,k⟩:=I2 o l m [] ⟨0,0,0⟩ a h b (by rw[←j];show(L.getD (0+_) default).k=_;rw[xb]) rfl;refine⟨l',d,e, ?_⟩;rw[←EZ L i (show F≤F+c by omega)];have:=k (F+c+1) (F+c) (by omega) (by omega);cases l with
 |nil=>exact absurd rfl n
 |cons f r=>
  have g:(aD L ⟨0,0,0⟩).k=2:=b.1.1;rw[gF,g]at this;exact this
end
end Go.Avm
namespace Go.Avm
open Go.Proofs
mutual
def ly:Ex→Nat
 | .mk _ _ _ _ _ xs=>1+bn xs
def bn:List Ex→Nat
 |[]=>0
 |x::l=>ly x+bn l
end
mutual
def kl:aP→Nat
 | .mk _ _ _ _ _ _ es a b=>1+bn es+bN a+bN b
def bN:List aP→Nat
 |[]=>0
 |x::l=>kl x+bN l
end
def Co(x:Fn):Nat:=1+x.ps.length+bN x.bd
def fh:List Fn→Nat
 |[]=>0
 |x::l=>Co x+fh l
theorem Mg:∀x,1≤ly x
 | .mk _ _ _ _ _ _=>by simp only[ly];omega
theorem Mh:∀x,1≤kl x
 | .mk _ _ _ _ _ _ _ _ _=>by simp only[kl];omega
theorem An:∀l,l.length≤bn l
 |[]=>xS _
 |x::l=>by have:=An l;have:=Mg x;simp only[bn,xD];omega
theorem sx:∀l,l.length≤bN l
 |[]=>xS _
 |x::l=>by have:=sx l;have:=Mh x;simp only[bN,xD];omega
theorem jC:∀l,l.length≤fh l
 |[]=>xS _
 |x::l=>by have:=jC l;simp only[fh,Co,xD];omega
theorem Ao:∀{l:List aP}{i:Nat}{x:aP},l[i]? =some x→kl x≤bN l
 |[],_,_,h=>by simp at h
 |y::l,0,x,h=>by simp at h;subst h;simp only[bN];omega
 |y::l,i+1,x,h=>by simp at h;have:=Ao h;simp only[bN];omega
theorem Ap:∀{l:List Fn}{i:Nat}{x:Fn},l[i]? =some x→Co x≤fh l
 |[],_,_,h=>by simp at h
 |y::l,0,x,h=>by simp at h;subst h;simp only[fh];omega
 |y::l,i+1,x,h=>by simp at h;have:=Ap h;simp only[fh];omega
end Go.Avm
namespace Go.Avm
open Go.Proofs
def Post{c:Type}(Q:c→RS→Prop)(r:Res c):Prop:=∀a b,r= .ok a b→Q a b
section
variable{d i:Type}{Q g:d→RS→Prop}{R:i→RS→Prop}{r:Res d}{f:d→RS→Res i}{s:RS}
theorem Post.bind(h:Post Q r)(k:∀a j,Q a j→Post R (f a j)):Post R (r.bind f):=fun b l e=>by
 cases r with
 |ok a c=>exact k a c (h a c rfl) b l e
 |bad p q c=>cases e
 |out=>cases e
theorem Post.ok{a:d}(h:Q a s):Post Q (.ok a s):=fun _ _ e=>by cases e;exact h
theorem Post.out:Post Q (Res.out:Res d):=fun _ _ e=>by cases e
theorem Post.bad{p e:Int}:Post Q (Res.bad p e s:Res d):=fun _ _ e=>by cases e
theorem Post.ite{c:Bool}{X Y:Res d}(b:Post Q X)(a:Post Q Y):Post Q (bif c then X else Y):=by cases c<;>assumption
theorem Post.imp(h:Post Q r)(c:∀a b,Q a b→g a b):Post g r:=fun a b e=>c a b (h a b e)
end
section
variable(L:List T)
theorem lz(x:List UInt8)(s:RS):Post (fun _ a=>s.i+1≤a.i) (ah L x s):=aO L x s
theorem mW(k:Int)(s:RS):Post (fun _ a=>s.i+1≤a.i) (b0 L k s):=ig L k s
theorem Cp(k:List Int)(s:RS):Post (fun _ a=>s.i+1≤a.i) (cL L k s):=nK L k s
theorem Post.may{L:List T}{d:Type}{Q:d→RS→Prop}{x:List UInt8}{s:RS}{X Y:RS→Res d}(g:∀c,s.i+1≤c.i→Post Q (X c))(e:Post Q (Y s)):Post Q ((aM L x s).bind fun b a=>bif b then X a else Y a):=by
 unfold aM;cases isT L s x with
 |false=>exact e
 |true=>
  have:=(lz L x s).bind (f:=fun _ a=>X a) fun _ c h=>g c h
  simp only[xR];revert this;cases ah L x s<;>exact fun h=>h
structure ZA(n:Nat):Prop where
 one:∀s:RS,Post (fun a s'=>ly a+s.i≤s'.i) (dC L n s)
 place:∀s:RS,Post (fun a s'=>ly a+2+s.i≤s'.i) (ch L n s)
 call:∀nm p (s:RS),Post (fun a s'=>ly a+1+s.i≤s'.i) (dz L n nm p s)
 args:∀s:RS,Post (fun a s'=>bn a+2+s.i≤s'.i) (dU L n s)
 more:∀l (s:RS),Post (fun a s'=>bn a+s.i≤s'.i+bn l) (du L n l s)
 expr:∀k (s:RS),Post (fun a s'=>ly a+s.i≤s'.i) (aQ L n k s)
 tail:∀k e (s:RS),Post (fun a s'=>ly a+s.i≤s'.i+ly e) (c3 L n k e s)
theorem Aq:∀l m:List Ex,bn (l ++m)=bn l+bn m
 |[],m=>by simp[bn]
 |x::l,m=>by simp only[x8,bn,Aq l m];omega
theorem Ar:∀l m:List aP,bN (l ++m)=bN l+bN m
 |[],m=>by simp[bN]
 |x::l,m=>by simp only[x8,bN,Ar l m];omega
theorem Au:∀l m:List Fn,fh (l ++m)=fh l+fh m
 |[],m=>by simp[fh]
 |x::l,m=>by simp only[x8,fh,Au l m];omega
theorem Mi:∀n,ZA L n
 |0=>⟨fun _=>Post.out,fun _=>Post.out,fun _ _ _=>Post.out,fun _=>Post.out,fun _ _=>Post.out,fun _ _=>Post.out,fun _ _ _=>Post.out⟩
 |n+1=>by
  have d:=Mi n;have W:=lz L;refine⟨fun s=> ?_,fun s=> ?_,fun nm p s=> ?_,fun s=> ?_,fun l s=> ?_,fun k s=> ?_,fun k e s=> ?_⟩
  ·simp only[dC]
   have m:∀(o p:Int) c,s.i+1≤c.i→Post (fun a b=>ly a+s.i≤b.i) ((dC L n c).bind fun e b=> .ok (.mk 8 o [] 0 p [e]) b):=fun o p c h=>(d.one c).bind fun e b h2=> .ok (by simp only[ly,bn];omega)
   refine Post.may (fun c=>m _ _ c) (Post.may (fun c=>m _ _ c) (Post.may (fun c=>m _ _ c) (Post.ite (.ok (by simp only[ly,bn,RS.nx];omega)) ?_)));refine Post.may (fun c h=> .ok (by simp only[ly,bn];omega)) (Post.may (fun c h=> .ok (by simp only[ly,bn];omega)) ?_);refine Post.may (fun c h=>(W _ c).bind fun _ b h2=>(W _ b).bind fun _ _ f=> .ok (by simp only[ly,bn];omega)) ?_;refine Post.may (fun c h=>(W _ c).bind fun _ b h2=>(mW L 1 b).bind fun _ g f=>(W _ g).bind fun _ _ j=> .ok (by simp only[ly,bn];omega)) ?_;refine Post.ite ((W _ s).bind fun _ b h2=>(d.expr _ b).bind fun _ g f=>(W _ g).bind fun _ _ j=> .ok (by omega)) ?_;refine(mW L 1 s).bind fun _ b h2=>Post.ite ((d.place b).bind fun _ _ f=> .ok (by simp only[ly,bn];omega)) (Post.ite ((d.call _ _ b).bind fun _ _ f=> .ok (by omega)) (.ok (by simp only[ly,bn];omega)))
  ·simp only[ch]
   exact(W _ s).bind fun _ b h2=>(d.expr _ b).bind fun _ g f=>(W _ g).bind fun _ _ j=> .ok (by omega)
  ·simp only[dz]
   exact(d.args s).bind fun _ _ h=> .ok (by simp only[ly];omega)
  ·simp only[dU]
   exact(W _ s).bind fun _ b h2=>Post.ite ((W _ b).bind fun _ _ f=> .ok (by simp only[bn];omega)) ((d.expr _ b).bind fun _ g f=>(d.more _ g).bind fun _ q j=>(W _ q).bind fun _ _ r=> .ok (by simp only[bn]at j;omega))
  ·simp only[du]
   exact Post.may (fun c h=>(d.expr _ c).bind fun _ g f=>(d.more _ g).imp fun _ _ j=>by simp only[Aq,bn]at j;omega) (.ok (Nat.le_of_eq (Nat.add_comm _ _)))
  ·simp only[aQ]
   exact(d.one s).bind fun _ b h2=>(d.tail _ _ b).imp fun _ _ f=>by omega
  ·simp only[c3]
   exact Post.ite (.ok (Nat.le_of_eq (Nat.add_comm _ _))) ((d.expr _ _).bind fun _ b h2=>(d.tail _ _ b).imp fun _ _ f=>by simp only[ly,bn,RS.nx]at h2 f;omega)
theorem TY(n:Nat)(id p:Int)(s:RS):Post (fun a c=>kl a+s.i≤c.i) (gE L n id p s):=by
 have W:=lz L;unfold gE;refine(mW L 1 s).bind fun _ g h2=>(W _ g).bind fun _ l r=>(Cp L _ l).bind fun _ d o=>Post.ite ?_ ?_
 ·exact(W _ d).bind fun _ e m=>(mW L 3 e).bind fun _ b k=>(W _ b).bind fun _ j f=>(W _ j).bind fun _ _ q=> .ok (by simp only[kl,bN,bn];omega)
 ·exact Post.may (fun c h=>((Mi L n).expr 1 c).bind fun _ b k=>(W _ b).bind fun _ _ f=> .ok (by simp only[kl,bN,bn];omega)) ((W _ d).bind fun _ _ m=> .ok (by simp only[kl,bN,bn];omega))
theorem Mj(n:Nat)(id p:Int)(s:RS):Post (fun a j=>kl a+s.i≤j.i) (ci L n id p s):=by
 have W:=lz L;have A:=Mi L n;unfold ci;refine(mW L 1 s).bind fun _ d h2=>Post.ite ((A.call _ _ d).bind fun _ b f=>(W _ b).bind fun _ _ e=> .ok (by simp only[kl,bN,bn];omega)) (Post.ite ?_ ?_)
 ·exact(A.place d).bind fun _ b f=>(W _ b).bind fun _ c e=>(A.expr 1 c).bind fun _ g h=>(W _ g).bind fun _ _ k=> .ok (by simp only[kl,bN,bn];omega)
 ·exact(W _ d).bind fun _ b f=>(A.expr 1 b).bind fun _ c e=>(W _ c).bind fun _ _ h=> .ok (by simp only[kl,bN,bn];omega)
theorem I3:∀n,(∀s:RS,Post (fun a b=>bN a+2+s.i≤b.i) (bg L n s))∧(∀l (s:RS),Post (fun a b=>bN a+s.i≤b.i+bN l) (cj L n l s))∧(∀s:RS,Post (fun a b=>kl a+s.i≤b.i) (b6 L n s))
 |0=>⟨fun _=>Post.out,fun _ _=>Post.out,fun _=>Post.out⟩
 |n+1=>by
  obtain⟨f,h2,m⟩:=I3 n;have W:=lz L;have A:=Mi L n;refine⟨fun s=> ?_,fun l s=> ?_,fun s=> ?_⟩
  ·simp only[bg]
   exact(W _ s).bind fun _ h k=>(h2 _ h).bind fun _ d c=>(W _ d).bind fun _ _ e=> .ok (by simp only[bN]at c;omega)
  ·simp only[cj]
   exact Post.ite (.ok (Nat.le_of_eq (Nat.add_comm _ _))) ((m s).bind fun _ h k=>(h2 _ h).imp fun _ _ c=>by simp only[Ar,bN]at c;omega)
  ·simp only[b6]
   have p:s.st.i=s.i:=rfl;refine Post.may (fun b g=>(TY L n _ _ b).bind fun _ _ c=> .ok (by omega)) (Post.may (fun b g=> ?_) (Post.may (fun b g=> ?_) (Post.may (fun b g=> ?_) (Post.may (fun b g=> ?_) ?_))))
   ·exact(A.expr 1 b).bind fun _ d c=>(f d).bind fun _ o e=>Post.may (fun j q=>(f j).bind fun _ _ r=> .ok (by simp only[kl,bN,bn];omega)) (.ok (by simp only[kl,bN,bn];omega))
   ·exact(A.expr 1 b).bind fun _ d c=>(f d).bind fun _ o e=> .ok (by simp only[kl,bN,bn];omega)
   ·exact Post.ite ((W _ b).bind fun _ _ c=> .ok (by simp only[kl,bN,bn];omega)) ((A.expr 1 b).bind fun _ d c=>(W _ d).bind fun _ _ e=> .ok (by simp only[kl,bN,bn];omega))
   ·exact(A.expr 1 b).bind fun _ d c=>(W _ d).bind fun _ _ e=> .ok (by simp only[kl,bN,bn];omega)
   ·exact(Mj L n _ _ _).bind fun _ _ c=> .ok (by omega)
theorem DU(s:RS):Post (fun _ c=>1+s.i≤c.i) (eH L s):=(mW L 1 s).bind fun _ a d=>(lz L _ a).bind fun _ b h2=>(Cp L _ b).bind fun _ _ e=> .ok (by omega)
theorem DV:∀(n:Nat)(l:List Pm)(s:RS),Post (fun a b=>a.length+s.i≤b.i+l.length) (cl L n l s)
 |0,_,_=>Post.out
 |n+1,l,s=>by
  simp only[cl];exact Post.may (fun b h=>(DU L b).bind fun _ c h2=>(DV n _ c).imp fun _ _ d=>by simp only[xC,xD,xF]at d;omega) (.ok (Nat.le_of_eq (Nat.add_comm _ _)))
theorem I4(n:Nat)(s:RS):Post (fun a g=>a.length+2+s.i≤g.i) (cE L n s):=by
 have W:=lz L;unfold cE;exact(W _ s).bind fun _ b h=>Post.ite ((W _ b).bind fun _ _ d=> .ok (by simp only[xF];omega)) ((DU L b).bind fun _ c d=>(DV L n _ c).bind fun _ e f=>(W _ e).bind fun _ _ j=> .ok (by simp only[xD,xF]at f;omega))
theorem TZ(n:Nat)(s:RS):Post (fun a h=>Co a+s.i≤h.i) (oF L n s):=by
 have W:=lz L;have B:=(I3 L n).1;unfold oF;exact(W _ s).bind fun _ c k=>(mW L 1 c).bind fun _ e h2=>(I4 L n e).bind fun _ g l=>Post.may (fun b j=>(Cp L _ b).bind fun _ d m=>(B d).bind fun _ _ f=> .ok (by simp only[Co];omega)) ((B g).bind fun _ _ f=> .ok (by simp only[Co];omega))
theorem Nw(N:Nat):∀(n:Nat)(l:List Fn)(s:RS),Post (fun a c=>fh a+s.i≤c.i+fh l) (gF L N n l s)
 |0,_,_=>Post.out
 |n+1,l,s=>by
  simp only[gF];exact Post.ite (.ok (Nat.le_of_eq (Nat.add_comm _ _))) ((TZ L N s).bind fun _ b d=>(Nw N n _ b).imp fun _ _ h2=>by simp only[Au,fh]at h2;omega)
theorem Qc(n:Nat):Post (fun a d=>fh a≤d.i) (dA L n):=by
 unfold dA;exact(TZ L n ⟨0,0,0⟩).bind fun _ c b=>(Nw L n n _ c).imp fun _ _ h2=>by simp only[fh]at b h2;omega
end
theorem Cq{L:List T}(a:dM L)(e:0<L.length){l:List Fn}{b:RS}(h:dA L (fuel L)= .ok l b):fh l<1000000:=by
 have c:=Qc L (fuel L) l b h;have h2:=(((P5 a (fuel L) ⟨0,0,0⟩ e (by simp only[fuel];omega)).bind fun f d c h2=>Ii a (fuel L) (xS _) (fuel L) [f] d h2 (by simp only[fuel];omega)).2 l b h).2;have:=a.len;omega
end Go.Avm
namespace Go.Avm
open Go.Proofs
theorem sy(p:UInt8→Bool)(q:List UInt8)(a:∀c,q.head? =some c→p c=false):∀(t:List UInt8),(∀x∈t,p x=true)→(t ++q).takeWhile p=t
 |[],_=>by
  cases q with
  |nil=>rfl
  |cons c r=>rw[xn,yV,xj (by rw[a c rfl];exact Bool.false_ne_true)]
 |x::r,h=>by rw[x8,yV,x9 (h x (by simp)),sy p q a r fun y b=>h y (by simp[b])]
theorem vU(p:UInt8→Bool)(q:List UInt8):∀(t:List UInt8),(t ++q).takeWhile p=t→(∀x∈t,p x=true)∧∀c,q.head? =some c→p c=false
 |[],h=>by
  refine⟨fun x f=>by simp at f,fun c b=> ?_⟩;cases q with
  |nil=>simp at b
  |cons d r=>
   simp at b;subst b;rw[xn,yV]at h;by_cases hp:p d=true
   ·rw[x9 hp]at h;cases h
   ·simpa using hp
 |x::r,h=>by
  rw[x8,yV]at h;by_cases hp:p x=true
  ·rw[x9 hp]at h
   have e:=vU p q r (List.cons.inj h).2
   exact⟨fun y a=>by
    rcases xX.1 a with rfl|a
    ·exact hp
    ·exact e.1 y a,e.2⟩
  ·rw[xj hp]at h;cases h
def iP(kd:Int)(t:List UInt8)(n:Int)(h:Option UInt8):Prop:=
 (kd=3∧n=(dv 0 t:Int)∧t≠[]∧(∀x∈t,be x=true)∧¬9223372036854775808≤dv 0 t∧(decide (1<t.length)&&(t.headD 0).toNat==48)=false∧∀c,h=some c→be c=false∧gl c=false∧DR c=false)∨
 (n=0∧be (t.headD 0)=false∧gl (t.headD 0)=true∧t≠[]∧(∀x∈t,iY x=true)∧((kd=2∧e8 t=true)∨(kd=1∧e8 t=false∧¬12<t.length))∧∀c,h=some c→iY c=false)∨
 (kd=4∧n=0∧be (t.headD 0)=false∧gl (t.headD 0)=false∧((∃b c,t=[b,c]∧jl.contains [b,c]=true)∨(∃b,t=[b]∧IB b=true∧∀c,h=some c→jl.contains [b,c]=false)))
theorem lP(t q:List UInt8)(h:t≠[]):∃b r,t=b::r∧t ++q=b::(r ++q)∧t.headD 0=b:=by
 cases t with
 |nil=>exact absurd rfl h
 |cons b r=>exact⟨b,r,rfl,rfl,rfl⟩
theorem pF(q:List UInt8):o1 q=false↔∀c,q.head? =some c→gl c=false∧DR c=false:=by
 cases q with
 |nil=>simp[o1]
 |cons c r=>simp[o1]
theorem I5{t q:List UInt8}{kd n:Int}(a:eX (t ++q)= .ok (kd,t,n))(f:t≠[]):iP kd t n q.head? :=by
 obtain⟨b,r,B,x,i⟩:=lP t q f;rw[x,eX,←x]at a;by_cases s:be b=true
 ·rw[x9 s]at a
  split at a
  ·cases a
  rename_i A;split at a
  ·cases a
  rename_i e;simp only[Except.ok.injEq,xG]at a;obtain⟨rfl,h2,rfl⟩:=a;rw[h2]at A e;obtain⟨m,p⟩:=vU be q t h2;rw[List.drop_append_of_le_length (xS _),yi,xn,Bool.not_eq_true,zE]at e;have C:=(pF q).1 e.2;refine .inl ⟨rfl,by rw[h2],f,m,A,by rw[i];exact e.1,fun c w=>⟨p c w,C c w⟩⟩
 ·rw[xj s]at a
  by_cases v:gl b=true
  ·rw[x9 v]at a
   have o:∀k:Int,(.ok (k,(t ++q).takeWhile iY,0):Except Int l9)= .ok (kd,t,n)→kd=k∧(t ++q).takeWhile iY=t∧n=0:=fun k h=>by
    simp only[Except.ok.injEq,xG]at h;exact⟨h.1.symm,h.2.1,h.2.2.symm⟩
   split at a
   ·rename_i l
    obtain⟨rfl,h2,rfl⟩:=o _ a;rw[h2]at l;obtain⟨m,p⟩:=vU iY q t h2;exact .inr (.inl ⟨rfl,by rw[i];simpa using s,by rw[i];exact v,f,m, .inl ⟨rfl,l⟩,p⟩)
   ·rename_i l
    split at a
    ·cases a
    rename_i y;obtain⟨rfl,h2,rfl⟩:=o _ a;rw[h2]at l y;obtain⟨m,p⟩:=vU iY q t h2;exact .inr (.inl ⟨rfl,by rw[i];simpa using s,by rw[i];exact v,f,m, .inr ⟨rfl,by simpa using l,y⟩,p⟩)
  ·rw[xj v]at a
   split at a
   ·cases a
   simp only[Except.ok.injEq,xG]at a;obtain⟨rfl,h2,rfl⟩:=a;refine .inr (.inr ⟨rfl,rfl,by rw[i];simpa using s,by rw[i];simpa using v, ?_⟩);unfold nZ at h2;cases g:r ++q with
   |nil=>
    rw[g]at h2;dsimp only at h2;split at h2
    ·rename_i z
     refine .inr ⟨b,h2.symm,z,fun c w=> ?_⟩;have:q=[]:=(List.append_eq_nil_iff.1 g).2;rw[this]at w;simp at w
    ·exact absurd h2.symm f
   |cons c u=>
    rw[g]at h2;dsimp only at h2;split at h2
    ·rename_i hp
     exact .inl ⟨b,c,h2.symm,hp⟩
    ·rename_i hp
     split at h2
     ·rename_i z
      refine .inr ⟨b,h2.symm,z,fun d j=> ?_⟩;have:r=[]:=by rw[B]at h2;exact(List.cons.inj h2).2.symm
      subst this;rw[xn]at g;rw[g]at j;simp at j;subst j;simpa using hp
     ·exact absurd h2.symm f
theorem I6{t q:List UInt8}{kd n:Int}(h:iP kd t n q.head?):eX (t ++q)= .ok (kd,t,n):=by
 rcases h with ⟨rfl,rfl,e,d,h2,g,i⟩|⟨rfl,d,h2,e,g,i,x⟩|⟨rfl,rfl,d,h2,g⟩
 ·obtain⟨b,r,s,a,j⟩:=lP t q e
  have f:=sy be q (fun c o=>(i c o).1) t d;have w:o1 q=false:=(pF q).2 fun c o=>(i c o).2
  rw[j]at g;rw[a,eX,←a,x9 (d b (by rw[s];simp)),f,xj h2,List.drop_append_of_le_length (xS _),yi,xn,g,w];rfl
 ·obtain⟨b,r,s,a,j⟩:=lP t q e
  have f:=sy iY q x t g;rw[j]at d h2;rw[a,eX,←a,xj (by rw[d];exact Bool.false_ne_true),x9 h2,f];rcases i with ⟨rfl,l⟩|⟨rfl,l,p⟩
  ·rw[x9 l]
  ·rw[xj (by rw[l];exact Bool.false_ne_true),xj p]
 ·rcases g with ⟨b,c,rfl,hp⟩|⟨b,rfl,v,m⟩
  ·have k:nZ b (c::q)=[b,c]:=by unfold nZ;dsimp only;rw[x9 hp]
   show eX (b::c::q)=_;rw[eX,xj (by simpa using d),xj (by simpa using h2),k];rfl
  ·have k:nZ b q=[b]:=by
     unfold nZ;cases q with
     |nil=>dsimp only;rw[x9 v]
     |cons c u=>dsimp only;rw[xj (by rw[m c rfl];exact Bool.false_ne_true),x9 v]
   show eX (b::q)=_;rw[eX,xj (by simpa using d),xj (by simpa using h2),k];rfl
def ends(c:UInt8):Prop:=iY c=false∧DR c=false∧∀b,jl.contains [b,c]=false
theorem Av{c:UInt8}(h:ends c):be c=false∧gl c=false:=by
 have:=h.1;simp only[iY,zE]at this;exact⟨this.2,this.1⟩
theorem Ft{kd n:Int}{t:List UInt8}{h:Option UInt8}{c:UInt8}(p:iP kd t n h)(j:ends c):iP kd t n (some c):=by
 have l:=Av j;rcases p with ⟨g,f,h2,i,e,k,_⟩|⟨g,f,h2,i,e,k,_⟩|⟨g,f,h2,i,e⟩
 ·exact .inl ⟨g,f,h2,i,e,k,fun d a=>by cases a;exact⟨l.1,l.2,j.2.1⟩⟩
 ·exact .inr (.inl ⟨g,f,h2,i,e,k,fun d a=>by cases a;exact j.1⟩)
 ·refine .inr (.inr ⟨g,f,h2,i, ?_⟩)
  rcases e with e|⟨b,o,m,_⟩
  ·exact .inl e
  ·exact .inr ⟨b,o,m,fun d a=>by cases a;exact j.2.2 b⟩
end Go.Avm
namespace Go.Avm
open Go.Proofs
theorem ue{b:UInt8}{r:List UInt8}{kd n:Int}{t:List UInt8}(h:eX (b::r)= .ok (kd,t,n)):∃q,b::r=t ++q∧t≠[]∧iP kd t n q.head? :=by
 obtain⟨⟨q,c⟩,a⟩:=n0 h;refine⟨q,c.symm,a,I5 (q:=q) ?_ a⟩;rw[c];exact h
theorem Aw(t q:List UInt8):(t ++q).drop t.length=q:=by
 rw[List.drop_append_of_le_length (xS _),yi,xn]
theorem o8(n:Nat)(t q:List UInt8)(kd k:Int)(a:Nat)(d:t≠[])(f:iP kd t k q.head?):dX (n+1) (t ++q) a=match dX n (q.drop (bl false q)) (a+t.length+bl false q)with
    | .error e=> .error e
    | .ok ts=> .ok ((a,(kd,t,k))::ts):=by
 have g:=I6 f;obtain⟨b,r,h,c,_⟩:=lP t q d;rw[c,fq,←c,g];dsimp only;rw[Aw];try rfl
def Mk(s:List UInt8):Nat→List (Nat×l9)→Prop
 |a,[]=>a+bl false (s.drop a)=s.length
 |a,x::ts=>x.1=a+bl false (s.drop a)∧x.1+x.2.2.1.length≤s.length∧(s.drop x.1).take x.2.2.1.length=x.2.2.1∧x.2.1≠0∧x.2.2.1≠[]∧Mk s (x.1+x.2.2.1.length) ts
theorem Fu{kd n:Int}{t:List UInt8}{h:Option UInt8}(a:iP kd t n h):kd≠0:=by
 rcases a with ⟨rfl,_⟩|⟨_,_,_,_,_,⟨rfl,_⟩|⟨rfl,_⟩,_⟩|⟨rfl,_⟩<;>decide
theorem uf(s:List UInt8):∀(n c a:Nat)(ts:List (Nat×l9)),a=c+bl false (s.drop c)→c≤s.length→s.length<n+a→dX n (s.drop a) a= .ok ts→Mk s c ts
 |0,c,a,ts,u,h2,z,_=>by
  have:=gV false (s.drop c);rw[yW]at this;omega
 |n+1,c,a,ts,u,h2,z,d=>by
  have p:=gV false (s.drop c);rw[yW]at p;cases f:s.drop a with
  |nil=>
   rw[f]at d;cases d;have:=yI.1 f;show c+bl false (s.drop c)=s.length;omega
  |cons b r=>
   rw[f]at d;cases v:eX (b::r)with
   |error k=>rw[fq,v]at d;cases d
   |ok t=>
    obtain⟨kd,t,k⟩:=t;obtain⟨q,j,g,w⟩:=ue v;rw[j,o8 n t q kd k a g w]at d;have i:(b::r).length=s.length-a:=by rw[←f,yW]
    rw[j,xC]at i
    have A:a<s.length:=by
     rcases yJ a s.length with h|h
     ·exact h
     ·rw[yI.2 h]at f;cases f
    have x:s.drop (a+t.length)=q:=by rw[←List.drop_drop,f,j,Aw]
    have y:=List.length_pos_iff.2 g;cases l:dX n (q.drop (bl false q)) (a+t.length+bl false q)with
    |error e=>rw[l]at d;cases d
    |ok m=>
     rw[l]at d;cases d;refine⟨u,by show a+t.length≤s.length;omega, ?_,Fu w,g, ?_⟩
     ·show(s.drop a).take t.length=t
      rw[f,j,List.take_append_of_le_length (xS _),List.take_length]
     ·have o:s.drop (a+t.length+bl false q)=q.drop (bl false q):=by rw[←List.drop_drop,x]
      exact uf s n (a+t.length) (a+t.length+bl false q) m (by rw[x]) (by omega) (by omega) (by rw[o];exact l)
theorem Cr{s:List UInt8}{ts:List (Nat×l9)}(h:gp s= .ok ts):Mk s 0 ts:=by
 unfold gp at h;have:=uf s (s.length+1) 0 (bl false s) ts (by rw[yM,xb]) (xz _) (by omega) h;exact this
end Go.Avm
namespace Go.Avm
open Go.Proofs
def jj(t:List UInt8):Prop:=t≠[]∧∃h,iP 1 t 0 h
def sB(n:Int):Prop:=0≤n∧n<9223372036854775808
mutual
def NE:Ex→Prop
 | .mk k _ nm n _ xs=>(k=1→sB n)∧((k=3∨k=4∨k=5∨k=7)→jj nm)∧A8 xs
def A8:List Ex→Prop
 |[]=>True
 |x::l=>NE x∧A8 l
end
def CE(x:Ex):Prop:=hG x=true∧NE x
def CEL(l:List Ex):Prop:=gk l=true∧A8 l
theorem CEL.nil:CEL []:=⟨rfl,trivial⟩
theorem CEL.cons{x:Ex}{l:List Ex}(h:CE x)(a:CEL l):CEL (x::l):=⟨by rw[gk,h.1,a.1];rfl,h.2,a.2⟩
theorem CEL.app:∀{l m:List Ex},CEL l→CEL m→CEL (l ++m)
 |[],_,_,h=>h
 |x::l,m,h,hm=>by
  obtain⟨a,h2,b⟩:=h;rw[gk,xL]at a;exact CEL.cons ⟨a.1,h2⟩ (CEL.app ⟨a.2,b⟩ hm)
def cw:Cw:=⟨jj,sB,CE⟩
theorem T0:lw cw:=fun _ h=>h.1
def Ml(L:List T):Prop:=∀s,((aD L s).k=1→jj (aD L s).t)∧((aD L s).k=3→sB (aD L s).n)
def OpOk(s:RS):Prop:=0≤s.op∧s.op≤200
section
variable{L:List T}
theorem mX{x:List UInt8}(c:(x==[40]||x==[91]||x==[123])=false)(h2:(x==[41]||x==[93]||x==[125])=false)(s:RS):Post (fun _ b=>b.op=s.op) (ah L x s):=fun a b e=>by
 unfold ah at e;rw[c,h2]at e;cases h:isT L s x<;>rw[h]at e<;>cases e
 rfl
theorem Ax{x:List UInt8}(f:(x==[40]||x==[91]||x==[123])=true){s:RS}(c:OpOk s):Post (fun _ d=>d.op=s.op+1∧s.op+1≤200) (ah L x s):=fun a d e=>by
 have g:b5 (s.op+1)=s.op+1:=by unfold b5;exact IntWalk.i64_in _ (by have:=c.1;have:=c.2;omega)
 unfold ah at e;rw[f,g]at e;cases h:isT L s x<;>rw[h]at e
 ·cases e
 ·simp only[xR]at e
  cases b:decide (200<s.op+1)<;>rw[b]at e<;>cases e
  exact⟨rfl,by have:=yQ b;omega⟩
theorem tr{x:List UInt8}(d:(x==[40]||x==[91]||x==[123])=false)(h2:(x==[41]||x==[93]||x==[125])=true){s:RS}(f:0≤s.op)(hp:s.op≤201):Post (fun _ b=>b.op=s.op-1) (ah L x s):=fun a b e=>by
 have c:b5 (s.op-1)=s.op-1:=by unfold b5;exact IntWalk.i64_in _ (by omega)
 unfold ah at e;rw[d,h2,c]at e;cases h:isT L s x<;>rw[h]at e<;>cases e
 rfl
theorem gq{d:Type}{Q:d→RS→Prop}{x:List UInt8}(e:(x==[40]||x==[91]||x==[123])=false)(h2:(x==[41]||x==[93]||x==[125])=false){s:RS}{X Y:RS→Res d}(i:∀c,c.op=s.op→Post Q (X c))(g:Post Q (Y s)):Post Q ((aM L x s).bind fun b a=>bif b then X a else Y a):=by
 unfold aM;cases isT L s x with
 |false=>exact g
 |true=>
  have:=(mX (L:=L) e h2 s).bind (f:=fun _ a=>X a) fun _ c h=>i c h
  simp only[xR];revert this;cases ah L x s<;>exact fun h=>h
theorem mY(c:Ml L)(k:Int)(s:RS):Post (fun t d=>d.op=s.op∧(k=1→jj t.t)∧(k=3→sB t.n)) (b0 L k s):=fun a d e=>by
 unfold b0 at e;cases h:((aD L s).k==k)<;>rw[h]at e<;>cases e
 have h:=eq_of_beq h;exact⟨rfl,fun b=>(c s).1 (h.trans b),fun b=>(c s).2 (h.trans b)⟩
theorem vV:∀(l:List Int)(s:RS),(∀k∈l,k=1∨k=2∨k=3)→Post (fun k a=>a.op=s.op∧k∈l) (cL L l s)
 |[],s,_=>fun _ _ e=>by cases e
 |k::r,s,h=>by
  simp only[cL];refine gq ?_ ?_ (fun a h=> .ok ⟨h,x0 ..⟩) ((vV r s fun k b=>h k (xW _ b)).imp fun _ _ h=>⟨h.1,xW _ h.2⟩)
  ·rcases h k (x0 ..)with rfl|rfl|rfl<;>rfl
  ·rcases h k (x0 ..)with rfl|rfl|rfl<;>rfl
theorem Ny{x:Ex}{k j:Int}(h:k≤j):dW k x≤dW j x:=by
 unfold dW;cases a:decide (cn x<k)<;>cases h2:decide (cn x<j)<;>simp only[xR,xI]
 ·omega
 ·omega
 ·have:=yC a;have:=yQ h2;omega
 ·omega
theorem ug(x:Ex)(k:Int):fN x≤dW k x∧dW k x≤1+fN x:=by
 unfold dW;cases decide (cn x<k)<;>simp only[xR,xI]<;>omega
theorem I7{x:Ex}{k:Int}(h:k≤cn x):dW k x=fN x:=by
 unfold dW;rw[decide_eq_false (by omega)];rfl
theorem j7(s:RS)(k:Int):∀l:List (Int×List UInt8×Int),(d9 L s k l).1≠0→∃e∈l,d9 L s k l=(e.1,e.2.2)∧k≤e.2.2∧isT L s e.2.1=true
 |[],h=>absurd rfl h
 |(o,x,j)::r,h=>by
  simp only[d9]at h ⊢;cases a:decide (k≤j)&&isT L s x with
  |true=>
   rw[xL,x6]at a;exact⟨_,x0 ..,rfl,a.1,a.2⟩
  |false=>
   rw[a]at h;obtain⟨e,c,b⟩:=j7 s k r h;exact⟨e,xW _ c,b⟩
theorem uh(s:RS)(k:Int):∀l:List (Int×List UInt8×Int),(∀e∈l,e.1≠0)→(d9 L s k l).1=0→∀e∈l,k≤e.2.2→isT L s e.2.1=false
 |[],_,_,e,b,_=>by cases b
 |(o,x,j)::r,d,h,e,b,c=>by
  simp only[d9]at h;cases a:decide (k≤j)&&isT L s x with
  |true=>
   rw[a]at h;exact absurd h (d _ (x0 ..))
  |false=>
   rw[a]at h;rcases xX.1 b with rfl|b
   ·rw[Bool.and_eq_false_iff]at a
    rcases a with a|a
    ·exact absurd c (yQ a)
    ·exact a
   ·exact uh s k r (fun e b=>d e (xW _ b)) h e b c
theorem lA:∀e∈au,1≤e.1∧e.1≤18∧(dE e.1 au).2=e.2.2∧1≤e.2.2∧e.2.2≤10∧e.1≠0:=by decide
def QE(k:Int)(s:RS)(x:Ex)(a:RS):Prop:=CE x∧a.op=s.op∧s.op+dW k x≤200
structure CA(n:Nat):Prop where
 one:∀s:RS,OpOk s→Post (QE 11 s) (dC L n s)
 place:∀s:RS,OpOk s→Post (fun x s'=>CE x∧s'.op=s.op∧s.op+(1+fN x)≤200) (ch L n s)
 call:∀nm p (s:RS),jj nm→OpOk s→Post (fun x s'=>CE x∧s'.op=s.op∧s.op+fN x≤200∧cn x=11∧∃q xs,x= .mk 5 0 nm 0 q xs) (dz L n nm p s)
 args:∀s:RS,OpOk s→Post (fun l s'=>CEL l∧s'.op=s.op∧s.op+(1+g8 l)≤200) (dU L n s)
 more:∀l (s:RS),OpOk s→CEL l→s.op+g8 l≤200→Post (fun l' s'=>CEL l'∧s'.op=s.op∧s.op+g8 l'≤200) (du L n l s)
 expr:∀k (s:RS),1≤k→k≤11→OpOk s→Post (fun x s'=>QE k s x s'∧(ce L k s').1=0) (aQ L n k s)
 tail:∀k e (s:RS),1≤k→k≤11→OpOk s→CE e→s.op+dW k e≤200→(∀o j,ce L k s=(o,j)→o≠0→s.op+dW j e≤200)→Post (fun x s'=>QE k s x s'∧(ce L k s').1=0) (c3 L n k e s)
theorem OpOk.of{s a:RS}(h:OpOk s)(e:a.op=s.op):OpOk a:=⟨by rw[e];exact h.1,by rw[e];exact h.2⟩
theorem DW:∀(l m:List Ex),g8 (l ++m)=max (g8 l) (g8 m)
 |[],m=>by have:=oQ m;simp only[xn,g8];omega
 |x::l,m=>by simp only[x8,g8,DW l m];omega
theorem j8{k:Int}{x:Ex}{s a:RS}(h:CE x)(e:a.op=s.op)(d:cn x=11)(c:k≤11)(b:s.op+fN x≤200):QE k s x a:=⟨h,e,by rw[I7 (by omega)];exact b⟩
theorem Mm(Q:Ml L):∀n,CA (L:=L) n
 |0=>⟨fun _ _=>Post.out,fun _ _=>Post.out,fun _ _ _ _ _=>Post.out,fun _ _=>Post.out,fun _ _ _ _ _=>Post.out,fun _ _ _ _ _=>Post.out,fun _ _ _ _ _ _ _ _ _=>Post.out⟩
 |n+1=>by
  have q:=Mm Q n;refine⟨fun s a=> ?_,fun s a=> ?_,fun nm p s hn a=> ?_,fun s a=> ?_,fun l s a hl M=> ?_,fun k s W w a=> ?_,fun k e s W w a D M B=> ?_⟩
  ·simp only[dC]
   have Z:∀(o p:Int)(d:RS),(o=19∨o=20∨o=21)→d.op=s.op→Post (QE 11 s) ((dC L n d).bind fun e i=> .ok (.mk 8 o [] 0 p [e]) i):=fun o p d h e=>(q.one d (a.of e)).bind fun x i h2=> .ok (by
    obtain⟨⟨c1,I⟩,E,R⟩:=h2;refine j8 ⟨?_, ?_⟩ (E.trans e) (by rw[cn];rfl) (xx _) ?_
    ·have:(o==19||o==20||o==21)=true:=by rcases h with rfl|rfl|rfl<;>rfl
     simp[hG,gk,c1,this]
    ·simp only[NE,A8];exact⟨fun h=>by omega,fun h=>by omega,I,trivial⟩
    ·have hx:fN (.mk 8 o [] 0 p [x])=dW 11 x:=by rw[fN];show J6 11 [x]=_;rw[J6];rfl
     rw[hx,←e];exact R)
   refine gq rfl rfl (fun d e=>Z _ _ d (.inl rfl) e) (gq rfl rfl (fun d e=>Z _ _ d (.inr (.inl rfl)) e) (gq rfl rfl (fun d e=>Z _ _ d (.inr (.inr rfl)) e) ?_));have L0:∀{k o n p:Int}{nm:List UInt8}{d:RS},CE (.mk k o nm n p [])→d.op=s.op→cn (.mk k o nm n p [])=11→fN (.mk k o nm n p [])≤1→s.op+fN (.mk k o nm n p [])≤200→QE 11 s (.mk k o nm n p []) d:=fun h e B _ M=>j8 h e B (xx _) M
   cases hk:((aD L s).k==3)with
   |true=>
    simp only[xR];have N:=(Q s).2 (eq_of_beq hk);exact .ok (j8 ⟨by simp[hG,N.1],by simp only[NE,A8];exact⟨fun _=>N,fun h=>by omega,trivial⟩⟩ rfl (by rw[cn];rfl) (xx _) (by rw[fN];show s.op+0≤200;have:=a.2;omega))
   |false=>
   simp only[xI];have bo:∀(m p:Int)(d:RS),(m=0∨m=1)→d.op=s.op→QE 11 s (.mk 2 0 [] m p []) d:=fun m p d hm e=>j8 ⟨by rcases hm with rfl|rfl<;>rfl,by simp only[NE,A8];exact⟨fun h=>by omega,fun h=>by omega,trivial⟩⟩ e (by rw[cn];rfl) (xx _) (by rw[fN];show s.op+0≤200;have:=a.2;omega)
   refine gq rfl rfl (fun d e=> .ok (bo _ _ d (.inr rfl) e)) (gq rfl rfl (fun d e=> .ok (bo _ _ d (.inl rfl) e)) ?_);refine gq rfl rfl (fun d e=>(Ax rfl (a.of e)).bind fun _ i h2=>(tr rfl rfl (by have:=a.1;omega) (by omega)).bind fun _ u b=> .ok (j8 ⟨rfl,by simp only[NE,A8];exact⟨fun h=>by omega,fun h=>by omega,trivial⟩⟩ (by omega) (by rw[cn];rfl) (xx _) (by rw[fN];show s.op+1≤200;omega))) ?_;refine gq rfl rfl (fun d e=>(Ax rfl (a.of e)).bind fun _ i h2=>(mY Q 1 i).bind fun t u b=>(tr rfl rfl (by have:=a.1;omega) (by omega)).bind fun _ P y=> .ok (j8 ⟨by simp[hG],by simp only[NE,A8];exact⟨fun h=>by omega,fun _=>b.2.1 rfl,trivial⟩⟩ (by omega) (by rw[cn];rfl) (xx _) (by rw[fN];show s.op+1≤200;omega))) ?_;refine Post.ite ((Ax rfl a).bind fun _ i h2=>(q.expr 1 i (by decide) (by decide) ⟨by have:=a.1;omega,by omega⟩).bind fun x u b=>(tr rfl rfl (by have:=a.1;have:=b.1.2.1;omega) (by have:=b.1.2.1;omega)).bind fun _ P y=> .ok ?_) ?_
   ·obtain⟨⟨c,A,C⟩,_⟩:=b
    have z:=(ug x 1).1;have g2:=(ug x 11).2;exact⟨c,by omega,by omega⟩
   ·refine(mY Q 1 s).bind fun t i h2=>Post.ite ((q.place i (a.of h2.1)).bind fun x u b=> .ok ?_) (Post.ite ((q.call _ _ i (h2.2.1 rfl) (a.of h2.1)).bind fun x u b=> .ok ?_) (.ok ?_))
    ·obtain⟨⟨c1,I⟩,A,C⟩:=b
     refine j8 ⟨by simp[hG,gk,c1],by simp only[NE,A8];exact⟨fun h=>by omega,fun _=>h2.2.1 rfl,I,trivial⟩⟩ (A.trans h2.1) (by rw[cn];rfl) (xx _) ?_;rw[fN];show s.op+(1+g8 [x])≤200;rw[cp,←h2.1];exact C
    ·obtain⟨c,A,C,T,_⟩:=b
     exact j8 c (A.trans h2.1) T (xx _) (by rw[←h2.1];exact C)
    ·exact j8 ⟨by simp[hG],by simp only[NE,A8];exact⟨fun h=>by omega,fun _=>h2.2.1 rfl,trivial⟩⟩ h2.1 (by rw[cn];rfl) (xx _) (by rw[fN];show s.op+0≤200;have:=a.2;omega)
  ·simp only[ch]
   refine(Ax rfl a).bind fun _ i h2=>(q.expr 1 i (by decide) (by decide) ⟨by have:=a.1;omega,by omega⟩).bind fun x u b=>(tr rfl rfl (by have:=a.1;have:=b.1.2.1;omega) (by have:=b.1.2.1;omega)).bind fun _ P y=> .ok ?_
   obtain⟨⟨c,A,C⟩,_⟩:=b;have z:=(ug x 1).1;exact⟨c,by omega,by omega⟩
  ·simp only[dz]
   refine(q.args s a).bind fun l i h2=> .ok ?_
   obtain⟨⟨c1,I⟩,E,R⟩:=h2;exact⟨⟨by simp[hG,c1],by simp only[NE];exact⟨fun h=>by omega,fun _=>hn,I⟩⟩,E,by rw[fN];exact R,by rw[cn];rfl,_,_,rfl⟩
  ·simp only[dU]
   refine(Ax rfl a).bind fun _ i h2=>Post.ite ((tr rfl rfl (by have:=a.1;omega) (by omega)).bind fun _ u b=> .ok ⟨CEL.nil,by omega,by rw[g8];omega⟩) ?_
   refine(q.expr 1 i (by decide) (by decide) ⟨by have:=a.1;omega,by omega⟩).bind fun x u b=> ?_
   obtain⟨⟨c,A,C⟩,_⟩:=b;have z:=(ug x 1).1;refine(q.more [x] u ⟨by have:=a.1;omega,by omega⟩ (CEL.cons c CEL.nil) (by rw[cp];omega)).bind fun l P y=>(tr rfl rfl (by have:=a.1;have:=y.2.1;omega) (by have:=y.2.1;omega)).bind fun _ s5 H=> .ok ?_
   obtain⟨X,e4,d4⟩:=y;exact⟨X,by omega,by omega⟩
  ·simp only[du]
   refine gq rfl rfl (fun d e=>(q.expr 1 d (by decide) (by decide) (a.of e)).bind fun x u b=> ?_) (.ok ⟨hl,rfl,M⟩);obtain⟨⟨c,A,C⟩,_⟩:=b;have z:=(ug x 1).1;refine(q.more _ u (a.of (A.trans e)) (hl.app (CEL.cons c CEL.nil)) (by rw[DW,cp];omega)).imp fun l' P y=> ?_
   obtain⟨X,e4,d4⟩:=y;exact⟨X,by omega,by omega⟩
  ·simp only[aQ]
   refine(q.one s a).bind fun x s1 h2=> ?_
   obtain⟨c,E,R⟩:=h2;refine(q.tail k x s1 W w (a.of E) c (by have:=Ny (x:=x) w;omega) fun o j B G=> ?_).imp fun x' i b=>⟨⟨b.1.1,b.1.2.1.trans E,by rw[←E];exact b.1.2.2⟩,b.2⟩
   obtain⟨e,D,H,h6,_⟩:=j7 (L:=L) s1 k au (by unfold ce at B;rw[B];exact G);unfold ce at B;rw[B]at H;cases H;have f:=lA e D;have:=Ny (x:=x) (show e.2.2≤11 by omega);omega
  ·simp only[c3]
   cases G:((ce L k s).1==0)with
   |true=>exact .ok ⟨⟨D,rfl,M⟩,eq_of_beq G⟩
   |false=>
   simp only[xI];have G:(ce L k s).1≠0:=fun h=>by rw[h]at G;cases G
   obtain⟨g,hg,z,g2,_⟩:=j7 (L:=L) s k au G;have z:ce L k s=(g.1,g.2.2):=z;obtain⟨f1,f2,f3,f4,f5,f6⟩:=lA g hg;have d0:=B _ _ z f6;rw[z];have hw:b5 (g.2.2+1)=g.2.2+1:=by unfold b5;exact IntWalk.i64_in _ (by omega)
   simp only[hw];refine(q.expr (g.2.2+1) s.nx (by omega) (by omega) a).bind fun r i h2=> ?_
   obtain⟨⟨cr,K,dr⟩,nr⟩:=h2;have K:i.op=s.op:=K;have dr:s.op+dW (g.2.2+1) r≤200:=dr;have J:∀p,cn (.mk 9 g.1 [] 0 p [e,r])=g.2.2:=fun p=>by rw[cn];exact f3
   have O:∀p,fN (.mk 9 g.1 [] 0 p [e,r])=max (dW g.2.2 e) (dW (g.2.2+1) r):=fun p=>by
    rw[fN];show PJ (dE g.1 au).2 [e,r]=_;rw[PJ,J6,f3,dW,dW]
   have c9:∀p,CE (.mk 9 g.1 [] 0 p [e,r]):=fun p=>⟨by simp[hG,gk,D.1,cr.1,f1,f2],by simp only[NE,A8];exact⟨fun h=>by omega,fun h=>by omega,D.2,cr.2,trivial⟩⟩
   refine(q.tail k _ i W w (a.of K) (c9 _) (by rw[I7 (by rw[J];exact g2),O];omega) fun o j v Y=> ?_).imp fun x' u b=>⟨⟨b.1.1,b.1.2.1.trans K,by rw[←K];exact b.1.2.2⟩,b.2⟩
   obtain⟨V,U,H,h6,h7⟩:=j7 (L:=L) i k au (by unfold ce at v;rw[v];exact Y);unfold ce at v;rw[v]at H;cases H;have S:=uh (L:=L) i (g.2.2+1) au (fun e D=>(lA e D).2.2.2.2.2) nr V U
   have F:V.2.2≤g.2.2:=by
    rcases Int.lt_or_le g.2.2 V.2.2 with hlt|F
    ·rw[S (by omega)]at h7;cases h7
    ·exact F
   rw[I7 (by rw[J];exact F),O];omega
end
end Go.Avm
namespace Go.Avm
open Go.Proofs
def T1(c:Nat):List UInt8:=match c with
 |0=>[32]
 |1=>[10]
 |2=>[35,32,125,10]
 |_=>[9,9]
def Nz(a:List UInt8)(i:Nat):List UInt8:=match a[i]? with
 |some g=>T1 (g.toNat % 4)
 |none=>T1 0
def apart(a:List UInt8):Nat→List (Nat×l9)→List UInt8
 |i,[]=>Nz a i
 |i,x::ts=>x.2.2.1 ++(Nz a i ++apart a (i+1) ts)
def Ay(n:Nat):Bool:=(LJ (UInt8.ofNat n)||UInt8.ofNat n==35)&&(be (UInt8.ofNat n)||gl (UInt8.ofNat n)||IB (UInt8.ofNat n))
theorem Cs:(List.range 256).all (fun n=> !(Ay n))=true:=by kernel_rfl
theorem tt{b:UInt8}(h:be b=true∨gl b=true∨IB b=true):LJ b=false∧(b==35)=false:=by
 have a:=xa.1 Cs b.toNat (List.mem_range.2 b.toNat_lt);simp only[Ay,UInt8.ofNat_toNat,yH,Bool.and_eq_false_iff,zE]at a;rcases a with a|⟨⟨h2,d⟩,c⟩
 ·exact a
 ·rcases h with h|h|h
  ·rw[h2]at h;cases h
  ·rw[d]at h;cases h
  ·rw[c]at h;cases h
theorem Mn{b c:UInt8}(h:jl.contains [b,c]=true):IB b=true:=by
 simp only[jl,zF,x6,xX,yD,zG,List.cons.injEq,yr]at h;rcases h with ⟨rfl,_⟩|⟨rfl,_⟩|⟨rfl,_⟩|⟨rfl,_⟩|⟨rfl,_⟩|⟨rfl,_⟩|⟨rfl,_⟩|⟨rfl,_⟩<;>rfl
theorem Fv{kd n:Int}{t:List UInt8}{h:Option UInt8}(i:iP kd t n h)(a:t≠[])(r:List UInt8):bl false (t ++r)=0:=by
 have d:be (t.headD 0)=true∨gl (t.headD 0)=true∨IB (t.headD 0)=true:=by
  rcases i with ⟨_,_,e,f,_⟩|⟨_,_,e,_⟩|⟨_,_,_,_,⟨b,c,rfl,hp⟩|⟨b,rfl,g,_⟩⟩
  ·cases t with
   |nil=>exact absurd rfl e
   |cons b u=>exact .inl (f b (by simp))
  ·exact .inr (.inl e)
  ·exact .inr (.inr (Mn hp))
  ·exact .inr (.inr g)
 cases t with
 |nil=>exact absurd rfl a
 |cons b u=>
  have:=tt (b:=b) d;rw[x8];simp only[bl,this.1,this.2];rfl
def DX(ts:List (Nat×l9)):Prop:=∀x∈ts,x.2.2.1≠[]∧∃h,iP x.2.1 x.2.2.1 x.2.2.2 h
theorem sC:∀(n:Nat)(r:List UInt8)(a:Nat)(ts:List (Nat×l9)),dX n r a= .ok ts→DX ts
 |0,r,a,ts,h=>by cases h;intro x c;cases c
 |n+1,[],a,ts,h=>by cases h;intro x c;cases c
 |n+1,b::r,a,ts,h=>by
  cases g:eX (b::r)with
  |error m=>rw[fq,g]at h;cases h
  |ok t=>
   obtain⟨kd,t,k⟩:=t;obtain⟨q,l,d,f⟩:=ue g;rw[l,o8 n t q kd k a d f]at h;split at h
   ·cases h
   ·rename_i e j
    cases h;have i:=sC n _ _ e j;intro x c;rcases xX.1 c with rfl|c
    ·exact⟨d,_,f⟩
    ·exact i x c
end Go.Avm
namespace Go.Avm
open Go.Proofs
theorem CanL.app:∀{l m:List aP},CanL cw l→CanL cw m→CanL cw (l ++m)
 |[],_,_,h=>h
 |x::l,m,h,hm=>by
  cases h with
  |cons b a=>exact .cons b (CanL.app a hm)
theorem DY:∀(l m:List aP),iO (l ++m)=max (iO l) (iO m)
 |[],m=>by have:=ji m;simp only[xn,iO];omega
 |x::l,m=>by simp only[x8,iO,DY l m];omega
def WT(s:RS)(x:aP)(a:RS):Prop:=j5 cw x∧a.op=s.op∧s.op+dS x≤200
section
variable{L:List T}(a:Ml L)
include a
theorem vW(n:Nat)(s:RS)(c:OpOk s):Post (fun x b=>CE x∧b.op=s.op∧s.op+fN x≤200) (aQ L n 1 s):=
 ((Mm a n).expr 1 s (by decide) (by decide) c).imp fun x b h=>⟨h.1.1,h.1.2.1,by have:=(ug x 1).1;have:=h.1.2.2;omega⟩
theorem T2(n:Nat)(id p:Int)(s:RS)(f:OpOk s):Post (WT s) (gE L n id p s):=by
 unfold gE;refine(mY a 1 s).bind fun t v h2=>(mX rfl rfl v).bind fun _ y A=>(vV _ y (by simp)).bind fun ty j r=> ?_
 have g:=h2.2.1 rfl;have q:j.op=s.op:=by omega
 have b:ty=1∨ty=2∨ty=3:=by simpa using r.2
 cases h:(ty==3)with
 |true=>
  obtain rfl:=eq_of_beq h;simp only[xR];refine(Ax rfl (f.of q)).bind fun _ w C=>(mY a 3 w).bind fun m k c=>(tr rfl rfl (by have:=f.1;omega) (by omega)).bind fun _ i o=>(mX rfl rfl i).bind fun _ B z=> .ok ⟨.letA _ _ g (c.2.2 rfl),by omega, ?_⟩
  rw[dS];show s.op+1≤200;omega
 |false=>
  have b:ty=1∨ty=2:=by
   rcases b with d|d|d
   ·exact .inl d
   ·exact .inr d
   ·subst d;cases h
  have l:∀x id nm p,dS (.mk 1 id nm ty 0 p x [] [])=g8 x:=fun x id nm p=>by
   rw[dS];show(bif ty==3 then 1 else g8 x)=_;rw[h];rfl
  simp only[xI];refine gq rfl rfl (fun u e=>(vW a n u (f.of (e.trans q))).bind fun x k c=>(mX rfl rfl k).bind fun _ i o=> .ok ⟨.letV _ _ g b c.1,by have:=c.2.1;omega, ?_⟩) ((mX rfl rfl j).bind fun _ i o=> .ok ⟨.letN _ _ g b,by omega, ?_⟩)
  ·rw[l,cp]
   have:=c.2.2;omega
  ·rw[l]
   show s.op+0≤200;have:=f.2;omega
theorem Mo(n:Nat)(id p:Int)(s:RS)(f:OpOk s):Post (WT s) (ci L n id p s):=by
 unfold ci;refine(mY a 1 s).bind fun t i h2=> ?_
 have d:=h2.2.1 rfl;refine Post.ite (((Mm a n).call _ _ i d (f.of h2.1)).bind fun x j e=>(mX rfl rfl j).bind fun _ b l=> .ok ?_) (Post.ite (((Mm a n).place i (f.of h2.1)).bind fun x j e=>(mX rfl rfl j).bind fun _ b l=>(vW a n b (f.of (by have:=e.2.1;omega))).bind fun y h k=>(mX rfl rfl h).bind fun _ v z=> .ok ?_) ((mX rfl rfl i).bind fun _ b l=>(vW a n b (f.of (by omega))).bind fun y h k=>(mX rfl rfl h).bind fun _ v z=> .ok ?_))
 ·obtain⟨c,o,m,w,q,xs,rfl⟩:=e
  refine⟨.call _ _ d c,by omega, ?_⟩;rw[dS];show s.op+g8 [_]≤200;rw[cp,←h2.1];exact m
 ·obtain⟨c,o,m⟩:=e
  obtain⟨g,r,u⟩:=k;refine⟨.put _ _ d c g,by omega, ?_⟩;rw[dS];show s.op+max (1+g8 [x]) (g8 [y])≤200;rw[cp,cp];omega
 ·obtain⟨g,r,u⟩:=k
  refine⟨.set _ _ d g,by omega, ?_⟩;rw[dS];show s.op+g8 [y]≤200;rw[cp];omega
theorem I8:∀n,(∀s:RS,OpOk s→Post (fun l i=>CanL cw l∧i.op=s.op∧s.op+(1+iO l)≤200) (bg L n s))∧(∀l (s:RS),OpOk s→CanL cw l→s.op+iO l≤200→Post (fun l' i=>CanL cw l'∧i.op=s.op∧s.op+iO l'≤200) (cj L n l s))∧(∀s:RS,OpOk s→Post (WT s) (b6 L n s))
 |0=>⟨fun _ _=>Post.out,fun _ _ _ _ _=>Post.out,fun _ _=>Post.out⟩
 |n+1=>by
  obtain⟨v,h2,I⟩:=I8 n;refine⟨fun s h=> ?_,fun l s h B F=> ?_,fun s h=> ?_⟩
  ·simp only[bg]
   refine(Ax rfl h).bind fun _ r A=>(h2 [] r ⟨by have:=h.1;omega,by omega⟩ .nil (by show r.op+0≤200;omega)).bind fun l j f=>(tr rfl rfl (by have:=h.1;have:=f.2.1;omega) (by have:=f.2.1;omega)).bind fun _ t m=> .ok ?_
   obtain⟨c,e,d⟩:=f;exact⟨c,by omega,by omega⟩
  ·simp only[cj]
   refine Post.ite (.ok ⟨B,rfl,F⟩) ((I s h).bind fun x r A=> ?_);obtain⟨c,e,d⟩:=A;refine(h2 _ r (h.of e) (B.app (.cons c .nil)) (by rw[DY,iO,iO];have:=IP x;omega)).imp fun l' j f=> ?_
   exact⟨f.1,f.2.1.trans e,by rw[←e];exact f.2.2⟩
  ·simp only[b6]
   have o:s.st.op=s.op:=rfl;have y:OpOk s.st:=h;have p:=vW a n;refine gq rfl rfl (fun i e=>((T2 a n _ _ i (h.of (e.trans o))).bind fun x j g=> .ok ⟨g.1,by have:=g.2.1;omega,by have:=g.2.2;omega⟩)) (gq rfl rfl (fun i e=> ?_) (gq rfl rfl (fun i e=> ?_) (gq rfl rfl (fun i e=> ?_) (gq rfl rfl (fun i e=> ?_) ((Mo a n _ _ s.st y).bind fun x j g=> .ok g)))))
   ·refine(p i (h.of (e.trans o))).bind fun x j f=>(v j (h.of (by have:=f.2.1;omega))).bind fun b t m=> ?_
    obtain⟨k,w,u⟩:=f;obtain⟨q,H,D⟩:=m;refine gq rfl rfl (fun C M=>(v C (h.of (by omega))).bind fun z K E=> .ok ?_) (.ok ?_)
    ·obtain⟨G,J,N⟩:=E
     refine⟨.ifs _ _ k q G,by omega, ?_⟩;rw[dS];show s.op+max (g8 [x]) (max (1+iO b) (bif z.isEmpty then 0 else 1+iO z))≤200;rw[cp];have:=ji b;have:=jZ x;cases z.isEmpty<;>simp only[xR,xI]<;>omega
    ·refine⟨.ifs _ _ k q .nil,by omega, ?_⟩
     rw[dS];show s.op+max (g8 [x]) (max (1+iO b) 0)≤200;rw[cp];have:=ji b;omega
   ·refine(p i (h.of (e.trans o))).bind fun x j f=>(v j (h.of (by have:=f.2.1;omega))).bind fun b t m=> .ok ?_
    obtain⟨k,w,u⟩:=f;obtain⟨q,H,D⟩:=m;refine⟨.loop _ _ k q,by omega, ?_⟩;rw[dS];show s.op+max (g8 [x]) (1+iO b)≤200;rw[cp];omega
   ·refine Post.ite ((mX rfl rfl i).bind fun _ j f=> .ok ⟨.ret0 _ _,by omega,by rw[dS];show s.op+0≤200;have:=h.2;omega⟩) ((p i (h.of (e.trans o))).bind fun x j f=>(mX rfl rfl j).bind fun _ t m=> .ok ?_)
    obtain⟨k,w,u⟩:=f;refine⟨.ret1 _ _ k,by omega, ?_⟩;rw[dS];show s.op+g8 [x]≤200;rw[cp];omega
   ·refine(p i (h.of (e.trans o))).bind fun x j f=>(mX rfl rfl j).bind fun _ t m=> .ok ?_
    obtain⟨k,w,u⟩:=f;refine⟨.prt _ _ k,by omega, ?_⟩;rw[dS];show s.op+g8 [x]≤200;rw[cp];omega
def sD(p:Pm):Prop:=jj p.nm∧(p.ty=1∨p.ty=2∨p.ty=3)
theorem DZ(s:RS):Post (fun p f=>sD p∧f.op=s.op) (eH L s):=by
 unfold eH;exact(mY a 1 s).bind fun t c b=>(mX rfl rfl c).bind fun _ d h2=>(vV _ d (by simp)).bind fun k g e=> .ok ⟨⟨b.2.1 rfl,by simpa using e.2⟩,by omega⟩
theorem D0:∀(n:Nat)(l:List Pm)(s:RS),(∀p∈l,sD p)→Post (fun l' c=>(∀p∈l',sD p)∧c.op=s.op) (cl L n l s)
 |0,_,_,_=>Post.out
 |n+1,l,s,d=>by
  simp only[cl];refine gq rfl rfl (fun c e=>(DZ a c).bind fun p f h2=>(D0 n _ f fun q b=> ?_).imp fun l' h g=>⟨g.1,by omega⟩) (.ok ⟨d,rfl⟩);rcases xZ.1 b with b|b
  ·exact d q b
  ·rw[xK.1 b];exact h2.1
theorem I9(n:Nat)(s:RS)(b:OpOk s):Post (fun l h=>(∀p∈l,sD p)∧h.op=s.op) (cE L n s):=by
 unfold cE;refine(Ax rfl b).bind fun _ g h2=>Post.ite ((tr rfl rfl (by have:=b.1;omega) (by omega)).bind fun _ d c=> .ok ⟨fun p hp=>(by cases hp),by omega⟩) ((DZ a g).bind fun p d c=>(D0 a n [p] d fun q f=>by rw[xK.1 f];exact c.1).bind fun l i e=>(tr rfl rfl (by have:=b.1;omega) (by omega)).bind fun _ j k=> .ok ⟨e.1,by omega⟩)
theorem T3(n:Nat)(s:RS)(x:s.op=0):Post (fun f r=>ku cw f∧r.op=0) (oF L n s):=by
 have B:=(I8 a n).1;unfold oF;refine(mX rfl rfl s).bind fun _ i v=>(mY a 1 i).bind fun u o h2=>(I9 a n o ⟨by omega,by omega⟩).bind fun ps p g=>gq rfl rfl (fun h w=>(vV _ h (by simp)).bind fun k j q=>(B j ⟨by omega,by omega⟩).bind fun l m b=> .ok ?_) ((B p ⟨by omega,by omega⟩).bind fun l m b=> .ok ?_)
 ·obtain⟨c,e,d⟩:=b
  have t:k=1∨k=2:=by simpa using q.2
  exact⟨⟨h2.2.1 rfl,g.1,by show k=0∨k=1∨k=2;omega,c,by show 1+iO l≤200;omega⟩,by omega⟩
 ·obtain⟨c,e,d⟩:=b
  exact⟨⟨h2.2.1 rfl,g.1, .inl rfl,c,by show 1+iO l≤200;omega⟩,by omega⟩
theorem NA(N:Nat):∀(n:Nat)(l:List Fn)(s:RS),l≠[]→(∀f∈l,ku cw f)→s.op=0→Post (fun l' _=>l'≠[]∧∀f∈l',ku cw f) (gF L N n l s)
 |0,_,_,_,_,_=>Post.out
 |n+1,l,s,h,d,i=>by
  simp only[gF];refine Post.ite (.ok ⟨h,d⟩) ((T3 a N s i).bind fun f e c=>NA N n _ e (by simp) (fun g b=> ?_) c.2);rcases xZ.1 b with b|b
  ·exact d g b
  ·rw[xK.1 b];exact c.1
theorem Qd(n:Nat):Post (fun l _=>l≠[]∧∀f∈l,ku cw f) (dA L n):=by
 unfold dA;exact(T3 a n ⟨0,0,0⟩ rfl).bind fun f d b=>NA a n n _ d (by simp) (fun g c=>by rw[xK.1 c];exact b.1) b.2
end
theorem T4{ts:List (Nat×l9)}{n:Nat}(h:DX ts):Ml (bp ts n):=fun s=>by
 unfold aD;rw[List.getD_eq_getElem?_getD];cases f:(bp ts n)[s.i]? with
 |none=>exact⟨fun h=>(by cases h),fun h=>(by cases h)⟩
 |some x=>
  have hm:=x5 f;rcases xZ.1 hm with hm|hm
  ·obtain⟨y,g,rfl⟩:=xi.1 hm
   obtain⟨d,q,c⟩:=h y g;refine⟨fun b=> ?_,fun b=> ?_⟩
   ·have b:y.2.1=1:=b
    refine⟨d,q, ?_⟩;rw[b]at c;rcases c with ⟨a,_⟩|⟨a,e⟩|⟨a,_⟩
    ·cases a
    ·exact .inr (.inl ⟨rfl,e⟩)
    ·cases a
   ·have b:y.2.1=3:=b
    rw[b]at c;rcases c with ⟨_,e,_,_,h2,_⟩|⟨_,_,_,_,_,⟨a,_⟩|⟨a,_⟩,_⟩|⟨a,_⟩
    ·show sB y.2.2.2
     rw[e];exact⟨by omega,by omega⟩
    ·cases a
    ·cases a
    ·cases a
  ·rw[xK.1 hm]
   exact⟨fun h=>(by cases h),fun h=>(by cases h)⟩
end Go.Avm
