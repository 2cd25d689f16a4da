/-
  Types: the tokens of what is shown: the steps (plain).
-/
import Derived.Test.YtcjiafanhlhdlaaGreatDoorG13
import Derived.Shelf.LaysM
import Derived.Ground.NamesProg
import Derived.Shelf.Strconv.Itoa4
import Derived.Shelf.Strings.OnBuilder
import Derived.Shelf.Strings.Repeat
import Derived.Shelf.Strings.Prefix
import Derived.Test.YtcjiafanhlhdlaaGreatDoorProg
import Derived.Test.YtcjiafanhlhdlaaGreatDoorG12
import Derived.Lib.Join
import Derived.Lib.Strings
import Derived.Test.YtcjiafanhlhdlaaGreatDoorG09
import Derived.Test.YtcjiafanhlhdlaaGreatDoorG11
import Derived.Test.YtcjiafanhlhdlaaGreatDoorG07
import Derived.Test.YtcjiafanhlhdlaaGreatDoorG08
set_option linter.unusedVariables false
set_option linter.unusedSimpArgs false
set_option linter.unusedSectionVars false
namespace Go.Avm
open Go.Proofs
theorem D1(c:UInt8):∀(l:List UInt8)(a:Nat),dv a (l ++[c])=dv a l*10+(c.toNat-48)
 |[],a=>by rw[xn,lM,oY,oY]
 |x::l,a=>by rw[x8,lM,lM,D1 c l]
theorem qh{k:Nat}(h:k<10):(UInt8.ofNat (48+k)).toNat=48+k:=by
 have:48+k<256:=by omega
 simp[UInt8.toNat_ofNat',Nat.mod_eq_of_lt this]
theorem Ja{k:Nat}(h:k<10):be (UInt8.ofNat (48+k))=true:=(lN _).2 (by rw[qh h];omega)
theorem Ct(u:Nat):dv 0 (jA u)=u∧(∀x∈jA u,be x=true)∧jA u≠[]∧(1≤u→((jA u).headD 0).toNat≠48):=by
 induction u using Nat.strongRecOn with
 |_ u e=>
  by_cases h:u<10
  ·rw[jA,dif_pos h]
   refine⟨by rw[lM,oY,qh h];omega,fun x b=>by rw[xK.1 b];exact Ja h,by simp,fun c=> ?_⟩;show(UInt8.ofNat (48+u)).toNat≠48;rw[qh h];omega
  ·rw[jA,dif_neg h]
   obtain⟨c,h2,g,f⟩:=e (u/10) (by omega);have hm:u % 10<10:=Nat.mod_lt _ (by decide);refine⟨by rw[D1,c,qh hm];omega,fun x b=> ?_,by simp,fun _=> ?_⟩
   ·rcases xZ.1 b with b|b
    ·exact h2 x b
    ·rw[xK.1 b];exact Ja hm
   ·have:=f (by omega)
    cases d:jA (u/10)with
    |nil=>exact absurd d g
    |cons a r=>rw[d]at this;exact this
theorem Mp(u:Nat)(h:1<(jA u).length):1≤u:=by
 rcases Nat.eq_zero_or_pos u with rfl|a
 ·rw[jA]at h;simp at h
 ·exact a
theorem Jb{n:Int}(h:sB n){c:UInt8}(e:ends c):iP 3 (l8 n) n (some c):=by
 obtain⟨b,h2,i,g⟩:=Ct n.toNat;have f:=Av e;refine .inl ⟨rfl,by unfold l8;rw[b];have:=h.1;omega,i,h2,by unfold l8;rw[b];have:=h.1;have:=h.2;omega, ?_,fun d a=>by cases a;exact⟨f.1,f.2,e.2.1⟩⟩;unfold l8;cases j:decide (1<(jA n.toNat).length)with
 |false=>rfl
 |true=>
  have:=g (Mp _ (yC j));rw[Bool.true_and];exact beq_eq_false_iff_ne.2 this
inductive ga:List UInt8→List Tk→Prop
 |nil:ga [] []
 |sp {c:UInt8} {r:List UInt8} {l:List Tk} (h:LJ c=true) (hr:ga r l):ga (c::r) l
 |tk {x:Tk} {r:List UInt8} {l:List Tk} (hn:x.t≠[]) (hg:iP x.k x.t x.n r.head?) (hr:ga r l):ga (x.t ++r) (x::l)
theorem Jc{s:List UInt8}{l:List Tk}(h:ga s l):∀(n a:Nat),s.length<n→∃ts,dX n (s.drop (bl false s)) (a+bl false s)= .ok ts∧ts.map (·.2)=l.map fun x=>(x.k,x.t,x.n):=by
 induction h with
 |nil=>exact fun n a b=>⟨[],by cases n<;>rfl,rfl⟩
 | @sp c r l o m d=>
  intro n a b;have f:bl false (c::r)=1+bl false r:=by simp only[bl,o,yS]
  obtain⟨ts,e,h2⟩:=d n (a+1) (by simp only[xD]at b;omega);refine⟨ts, ?_,h2⟩;rw[f,←e,Nat.add_comm 1 (bl false r),List.drop_succ_cons,show a+(bl false r+1)=a+1+bl false r by omega]
 | @tk x r l b g m d=>
  intro n a i;have f:bl false (x.t ++r)=0:=Fv g b r;have p:=List.length_pos_iff.2 b;rw[xC]at i;obtain⟨n,rfl⟩:∃k,n=k+1:=⟨n-1,by omega⟩
  have j:x.t.length+r.length<n+1:=i;obtain⟨ts,e,h2⟩:=d n (a+x.t.length) (by omega);refine⟨(a,(x.k,x.t,x.n))::ts, ?_,by rw[xN,xN,h2]⟩;rw[f,yM];show dX (n+1) (x.t ++r) a=_;rw[o8 n x.t r x.k x.n a b g,e]
theorem Fw{s:List UInt8}{l:List Tk}(h:ga s l):∃ts,gp s= .ok ts∧ts.map (·.2)=l.map fun x=>(x.k,x.t,x.n):=by
 have:=Jc h (s.length+1) 0 (zC _);rw[xb]at this;exact this
theorem D2:∀{l:List Tk}{ts:List (Nat×l9)}(P:List T)(n:Nat),ts.map (·.2)=l.map (fun x=>(x.k,x.t,x.n))→bZ (P ++bp ts n) P.length l
 |[],_,_,_,_=>trivial
 |x::l,[],P,n,h=>by cases h
 |x::l,y::ts,P,n,h=>by
  simp only[xN,List.cons.injEq]at h;have e:(P ++bp (y::ts) n)=(P ++[TU y]) ++bp ts n:=by simp[bp]
  have g:(P ++bp (y::ts) n).getD P.length default=TU y:=by simp[bp]
  refine⟨?_, ?_⟩
  ·rw[g]
   obtain⟨a,k,t,m⟩:=y;have b:=h.1;simp only[xG]at b;exact b
  ·have:=D2 (P ++[TU y]) n h.2
   rw[←e]at this;simpa using this
theorem Jd(ts:List (Nat×l9))(n:Nat):((bp ts n).getD ts.length default).k=0:=by
 simp[bp]
theorem b8{c:UInt8}(h:c=32∨c=10∨c=40∨c=41∨c=91∨c=93∨c=44∨c=59∨c=58):ends c:=by
 refine⟨?_, ?_,fun b=> ?_⟩
 ·rcases h with rfl|rfl|rfl|rfl|rfl|rfl|rfl|rfl|rfl<;>decide
 ·rcases h with rfl|rfl|rfl|rfl|rfl|rfl|rfl|rfl|rfl<;>decide
 ·simp only[jl,zF,xh,xX,yD,zG,List.cons.injEq,yr]
  rcases h with rfl|rfl|rfl|rfl|rfl|rfl|rfl|rfl|rfl<;>simp
def WU(t:List UInt8):Bool:=e8 t&&t.all iY&& !(be (t.headD 0))&&gl (t.headD 0)&& !t.isEmpty
theorem Mq{t:List UInt8}(h:WU t=true){c:UInt8}(j:ends c):iP 2 t 0 (some c):=by
 simp only[WU,xL,yH]at h;obtain⟨⟨⟨⟨f,h2⟩,i⟩,b⟩,a⟩:=h;exact .inr (.inl ⟨rfl,i,b,fun e=>(by rw[e]at a;cases a),xa.1 h2, .inl ⟨rfl,f⟩,fun d g=>by cases g;exact j.1⟩)
theorem vX{b:UInt8}(h:(IB b&& !(be b)&& !(gl b))=true){q:Option UInt8}(a:∀c,q=some c→jl.contains [b,c]=false):iP 4 [b] 0 q:=by
 simp only[xL,yH]at h;exact .inr (.inr ⟨rfl,rfl,h.1.2,h.2, .inr ⟨b,rfl,h.1.1,a⟩⟩)
theorem kn{t:List UInt8}(h:jj t){c:UInt8}{r:List UInt8}{l:List Tk}(e:ends c)(b:ga (c::r) l):ga (t ++c::r) (.nm t::l):=by
 obtain⟨a,q,d⟩:=h;exact .tk (x:= .nm t) a (Ft d e) b
theorem gc{t:List UInt8}(h:WU t=true){c:UInt8}{r:List UInt8}{l:List Tk}(b:ends c)(a:ga (c::r) l):ga (t ++c::r) (.kw t::l):=
 .tk (x:= .kw t) (fun e=>by have e:t=[]:=e;rw[e]at h;cases h) (Mq h b) a
theorem Je{n:Int}(h:sB n){c:UInt8}{r:List UInt8}{l:List Tk}(b:ends c)(a:ga (c::r) l):ga (l8 n ++c::r) (.num n::l):=
 .tk (x:= .num n) (Ct n.toNat).2.2.1 (Jb h b) a
theorem bV{b:UInt8}(h:b=40∨b=41∨b=91∨b=93∨b=44∨b=59∨b=58∨b=123∨b=125∨b=45∨b=126){r:List UInt8}{l:List Tk}(a:ga r l):ga (b::r) (.sg [b]::l):=by
 refine .tk (x:= .sg [b]) (by simp) (vX ?_ fun c _=> ?_) a
 ·rcases h with rfl|rfl|rfl|rfl|rfl|rfl|rfl|rfl|rfl|rfl|rfl<;>decide
 ·simp only[jl,zF,xh,xX,yD,zG,List.cons.injEq,yr]
  rcases h with rfl|rfl|rfl|rfl|rfl|rfl|rfl|rfl|rfl|rfl|rfl<;>simp
theorem Qe{c:UInt8}(b:c≠61){r:List UInt8}{l:List Tk}(e:ga (c::r) l):ga (33::c::r) (.sg [33]::l):=by
 refine .tk (x:= .sg [33]) (by simp) (vX (by decide) fun d a=> ?_) e;have a:some c=some d:=a;cases a;simp only[jl,zF,xh,xX,yD,zG,List.cons.injEq,yr];simp[b]
theorem Jf{r:List UInt8}{l:List Tk}(a:ga r l):ga (61::32::r) (.sg [61]::l):=
 .tk (x:= .sg [61]) (r:=32::r) (by simp) (vX (by decide) fun d b=>by cases b;decide) (.sp rfl a)
def X9(o:Nat):Bool:=
 let t:=(dE (o:Int) au).1
 !(be (t.headD 0))&& !(gl (t.headD 0))&&(jl.contains t||(t.length==1&&IB (t.headD 0)&& !(jl.contains [t.headD 0,32])))
theorem Mr:((List.range 18).all fun o=>X9 (o+1))=true:=by decide
theorem D3{o:Int}(d:1≤o)(h2:o≤18):iP 4 (dE o au).1 0 (some 32)∧(dE o au).1≠[]:=by
 have h:=xa.1 Mr (o.toNat-1) (List.mem_range.2 (by omega));unfold X9 at h;rw[show((o.toNat-1+1:Nat):Int)=o by omega]at h;revert h;generalize (dE o au).1=t;intro h;simp only[xL,xy,yH,xm]at h;obtain⟨⟨d,h2⟩,a⟩:=h;rcases a with a|⟨⟨a,e⟩,g⟩
 ·have hm:t∈jl:=by simpa using a
  have:∃b c,t=[b,c]:=by
   simp only[jl,xX,yD,zG]at hm;rcases hm with rfl|rfl|rfl|rfl|rfl|rfl|rfl|rfl<;>exact⟨_,_,rfl⟩
  obtain⟨b,c,rfl⟩:=this;exact⟨.inr (.inr ⟨rfl,rfl,d,h2, .inl ⟨b,c,rfl,a⟩⟩),by simp⟩
 ·obtain⟨b,rfl⟩:=yE.1 a
  exact⟨.inr (.inr ⟨rfl,rfl,d,h2, .inr ⟨b,rfl,e,fun c f=>by cases f;exact g⟩⟩),by simp⟩
theorem T5{o:Int}(a:1≤o)(h2:o≤18){r:List UInt8}{l:List Tk}(b:ga r l):ga (32::((dE o au).1 ++32::r)) (.sg (dE o au).1::l):=
 .sp rfl (.tk (x:= .sg (dE o au).1) (r:=32::r) (D3 a h2).2 (D3 a h2).1 (.sp rfl b))
end Go.Avm
namespace Go.Avm
open Go.Proofs
def vY:List UInt8:=[102,97,108,115,101]
def D4:List UInt8:=[116,114,117,101]
def D5:List UInt8:=[114,101,97,100]
def Az:List UInt8:=[108,101,110]
mutual
def cG:Ex→List UInt8
 | .mk k o nm n _ xs=>
  bif k==1 then l8 n
  else bif k==2 then (bif n==0 then vY else D4)
  else bif k==3 then nm
  else bif k==4 then nm ++91::(bw xs ++[93])
  else bif k==5 then nm ++40::(bw xs ++[41])
  else bif k==6 then D5 ++[40,41]
  else bif k==7 then Az ++40::(nm ++[41])
  else bif k==8 then A6 o ++Jg xs
  else Jh (dE o au).1 (dE o au).2 xs
def bw:List Ex→List UInt8
 |[]=>[]
 |x::l=>match l with
  |[]=>cG x
  |_::_=>cG x ++44::32::bw l
def Jg:List Ex→List UInt8
 |[]=>[]
 |x::_=>bif decide (cn x<11)then 40::(cG x ++[41])else cG x
def Jh(t:List UInt8)(k:Int):List Ex→List UInt8
 |[]=>[]
 |x::l=>(bif decide (cn x<k)then 40::(cG x ++[41])else cG x) ++32::(t ++32::Qf k l)
def Qf(k:Int):List Ex→List UInt8
 |[]=>[]
 |y::_=>bif decide (cn y<k+1)then 40::(cG y ++[41])else cG y
end
def wT(k:Int)(x:Ex):List UInt8:=bif decide (cn x<k)then 40::(cG x ++[41])else cG x
def Ji:List Ex→List UInt8
 |[]=>[]
 |y::r=>44::32::bw (y::r)
theorem gJ(x:Ex)(l:List Ex):bw (x::l)=cG x ++Ji l:=by
 cases l with
 |nil=>simp[bw,Ji]
 |cons y r=>simp only[bw,Ji]
structure Ka(x:Ex):Prop where
 hd:∃c t,cG x=c::t∧c≠61
 la:∃t c,cG x=t ++[c]∧c≠32
 lx:∀{c:UInt8}{r:List UInt8}{l:List Tk},ends c→ga (c::r) l→ga (cG x ++c::r) (bL x ++l)
 len:(cG x).length+2≤40*ly x
theorem Qg(k:Nat):∀u,u<10^(k+1)→(jA u).length≤k+1:=by
 induction k with
 |zero=>exact fun u h=>by rw[jA,dif_pos (by simpa using h)];exact xS _
 |succ k a=>
  intro u h;rw[jA];split
  ·simp
  ·have:=a (u/10) (by rw[Nat.pow_succ]at h;omega)
   simp only[xC,xD,xF];omega
theorem vZ{n:Int}(h:sB n):(l8 n).length≤19:=Qg 18 _ (by have:=h.1;have:=h.2;omega)
theorem jD{t:List UInt8}(h:jj t):(∃c r,t=c::r∧c≠61)∧(∃r c,t=r ++[c]∧c≠32)∧t.length≤12:=by
 obtain⟨b,q,f⟩:=h;rcases f with ⟨a,_⟩|⟨_,_,g,_,d,⟨a,_⟩|⟨_,_,i⟩,_⟩|⟨a,_⟩
 ·cases a
 ·cases a
 ·refine⟨?_, ?_,by omega⟩
  ·cases t with
   |nil=>exact absurd rfl b
   |cons c r=>exact⟨c,r,rfl,fun e=>by subst e;exact absurd (show gl 61=true from g) (by decide)⟩
  ·refine⟨t.dropLast,t.getLast b,(List.dropLast_concat_getLast b).symm,fun e=> ?_⟩
   have:=d _ (List.getLast_mem b);rw[e]at this;exact absurd this (by decide)
 ·cases a
theorem NB{b:UInt8}(a:b=41∨b=93){r:List UInt8}{m:List Tk}(h:ga (b::r) m):∀l:List Ex,(∀x∈l,Ka x)→∃c q,Ji l ++b::r=c::q∧ends c∧ga (c::q) (t7 l ++m)
 |[],_=>⟨b,r,rfl,b8 (by rcases a with rfl|rfl<;>simp),h⟩
 |y::l,d=>by
  obtain⟨c,q,e,g,f⟩:=NB a h l fun x i=>d x (xW _ i)
  refine⟨44,32::(cG y ++c::q), ?_,b8 (by simp), ?_⟩
  ·rw[Ji,gJ,←e]
   simp only[x8,xM]
  ·rw[t7,gU,x8,xM]
   exact bV (by simp) (.sp rfl ((d y (x0 ..)).lx g f))
theorem D6{b:UInt8}(d:b=41∨b=93){r:List UInt8}{m:List Tk}(h:ga (b::r) m):∀l:List Ex,(∀x∈l,Ka x)→ga (bw l ++b::r) (kq l ++m)
 |[],_=>h
 |y::l,a=>by
  obtain⟨c,q,e,g,f⟩:=NB d h l fun x i=>a x (xW _ i)
  rw[gJ,gU,xM,xM,e];exact(a y (x0 ..)).lx g f
theorem n8:∀l:List Ex,(∀x∈l,Ka x)→(bw l).length≤40*bn l
 |[],_=>by simp[bw]
 |y::l,a=>by
  have c:=(a y (x0 ..)).len;have h2:=n8 l fun x b=>a x (xW _ b)
  have d:(Ji l).length≤2+(bw l).length:=by cases l<;>simp[Ji];omega
  rw[gJ,xC,bn];omega
theorem Qh{x:Ex}(h:Ka x)(k:Int){c:UInt8}{r:List UInt8}{l:List Tk}(b:ends c)(a:ga (c::r) l):ga (wT k x ++c::r) (wp k x ++l):=by
 unfold wT wp;cases decide (cn x<k)with
 |false=>exact h.lx b a
 |true=>
  show ga (40::((cG x ++[41]) ++c::r)) (.sg [40]::((bL x ++[.sg [41]]) ++l));rw[xM,xM];exact bV (by simp) (h.lx (b8 (by simp)) (bV (by simp) a))
theorem T6{x:Ex}(h:Ka x)(k:Int):∃c t,wT k x=c::t∧c≠61:=by
 unfold wT;cases decide (cn x<k)with
 |false=>exact h.hd
 |true=>exact⟨_,_,rfl,by decide⟩
theorem T7{x:Ex}(h:Ka x)(k:Int):∃t c,wT k x=t ++[c]∧c≠32:=by
 unfold wT;cases decide (cn x<k)with
 |false=>exact h.la
 |true=>exact⟨40::cG x,41,rfl,by decide⟩
theorem ui(x:Ex)(k:Int):(wT k x).length≤(cG x).length+2:=by
 unfold wT;cases decide (cn x<k)with
 |false=>exact Nat.le_add_right _ _
 |true=>simp
mutual
theorem uj:∀x:Ex,hG x=true→NE x→Ka x
 | .mk k o nm n p xs,h,v=>by
  have i:gk xs=true→∀x∈xs,Ka x:=fun d=>Cu xs d (by rw[NE]at v;exact v.2.2)
  rw[NE]at v;obtain⟨G,j,_⟩:=v;rw[hG]at h;cases T:(k==1)with
  |true=>
   obtain rfl:=eq_of_beq T;have g:=G rfl;have et:cG (.mk 1 o nm n p xs)=l8 n:=by rw[cG];rfl
   have es:bL (.mk 1 o nm n p xs)=[.num n]:=by rw[bL];rfl
   obtain⟨_,R,u,_⟩:=Ct n.toNat;refine⟨?_, ?_,fun d f=>by rw[et,es];exact Je g d f,by rw[et,ly];have:=vZ g;omega⟩
   ·rw[et]
    unfold l8;cases S:jA n.toNat with
    |nil=>exact absurd S u
    |cons c r=>exact⟨c,r,rfl,fun e=>by have:=R c (by rw[S];exact x0 ..);rw[e]at this;exact absurd this (by decide)⟩
   ·rw[et]
    unfold l8;refine⟨(jA n.toNat).dropLast,(jA n.toNat).getLast u,(List.dropLast_concat_getLast u).symm,fun e=> ?_⟩;have:=R _ (List.getLast_mem u);rw[e]at this;exact absurd this (by decide)
  |false=>
  rw[T,xI]at h;cases h2:(k==2)with
  |true=>
   rw[h2]at h;simp only[xR,xL,xy,xm,zB]at h;obtain⟨rfl,rfl,g,rfl⟩:=h;obtain rfl:=eq_of_beq h2;rcases g with rfl|rfl
   ·have et:cG (.mk 2 0 [] 0 p [])=vY:=by rw[cG];rfl
    have es:bL (.mk 2 0 [] 0 p [])=[.kw vY]:=by rw[bL];rfl
    exact⟨⟨_,_,et,by decide⟩,⟨[102,97,108,115],101,et,by decide⟩,fun d f=>by rw[et,es];exact gc (by decide) d f,by rw[et,ly,bn];decide⟩
   ·have et:cG (.mk 2 0 [] 1 p [])=D4:=by rw[cG];rfl
    have es:bL (.mk 2 0 [] 1 p [])=[.kw D4]:=by rw[bL];rfl
    exact⟨⟨_,_,et,by decide⟩,⟨[116,114,117],101,et,by decide⟩,fun d f=>by rw[et,es];exact gc (by decide) d f,by rw[et,ly,bn];decide⟩
  |false=>
  rw[h2,xI]at h;cases A:(k==3)with
  |true=>
   obtain rfl:=eq_of_beq A;have g:=j (.inl rfl);have et:cG (.mk 3 o nm n p xs)=nm:=by rw[cG];rfl
   have es:bL (.mk 3 o nm n p xs)=[.nm nm]:=by rw[bL];rfl
   obtain⟨q,X,E⟩:=jD g;exact⟨by rw[et];exact q,by rw[et];exact X,fun d f=>by rw[et,es];exact kn g d f,by rw[et,ly];omega⟩
  |false=>
  rw[A,xI]at h;cases t:(k==4)with
  |true=>
   rw[t]at h;simp only[xR,xL,xm,x6]at h;obtain⟨rfl,rfl,z,d⟩:=h;obtain rfl:=eq_of_beq t;have g:=j (.inr (.inl rfl));have i:=i d;have et:cG (.mk 4 0 nm 0 p xs)=nm ++91::(bw xs ++[93]):=by rw[cG];rfl
   have es:bL (.mk 4 0 nm 0 p xs)= .nm nm:: .sg [91]::(kq xs ++[.sg [93]]):=by rw[bL];rfl
   obtain⟨⟨c1,M,q,I⟩,_,E⟩:=jD g;have s:=n8 xs i;refine⟨⟨c1,M ++91::(bw xs ++[93]),by rw[et,q];rfl,I⟩,⟨nm ++91::bw xs,93,by rw[et];simp,by decide⟩,fun {c r l} d f=> ?_, ?_⟩
   ·rw[et,es,xM]
    show ga (nm ++91::((bw xs ++[93]) ++c::r)) (.nm nm:: .sg [91]::((kq xs ++[.sg [93]]) ++l));rw[xM,xM];exact kn g (b8 (by simp)) (bV (by simp) (D6 (.inr rfl) (bV (by simp) f) xs i))
   ·rw[et,ly]
    simp only[xC,xD,xF];omega
  |false=>
  rw[t,xI]at h;cases C:(k==5)with
  |true=>
   rw[C]at h;simp only[xR,xL,xm]at h;obtain⟨rfl,rfl,d⟩:=h;obtain rfl:=eq_of_beq C;have g:=j (.inr (.inr (.inl rfl)));have i:=i d;have et:cG (.mk 5 0 nm 0 p xs)=nm ++40::(bw xs ++[41]):=by rw[cG];rfl
   have es:bL (.mk 5 0 nm 0 p xs)= .nm nm:: .sg [40]::(kq xs ++[.sg [41]]):=by rw[bL];rfl
   obtain⟨⟨c1,M,q,I⟩,_,E⟩:=jD g;have s:=n8 xs i;refine⟨⟨c1,M ++40::(bw xs ++[41]),by rw[et,q];rfl,I⟩,⟨nm ++40::bw xs,41,by rw[et];simp,by decide⟩,fun {c r l} d f=> ?_, ?_⟩
   ·rw[et,es,xM]
    show ga (nm ++40::((bw xs ++[41]) ++c::r)) (.nm nm:: .sg [40]::((kq xs ++[.sg [41]]) ++l));rw[xM,xM];exact kn g (b8 (by simp)) (bV (by simp) (D6 (.inl rfl) (bV (by simp) f) xs i))
   ·rw[et,ly]
    simp only[xC,xD,xF];omega
  |false=>
  rw[C,xI]at h;cases Q:(k==6)with
  |true=>
   obtain rfl:=eq_of_beq Q;have et:cG (.mk 6 o nm n p xs)=D5 ++[40,41]:=by rw[cG];rfl
   have es:bL (.mk 6 o nm n p xs)=[.kw D5, .sg [40], .sg [41]]:=by rw[bL];rfl
   exact⟨⟨_,_,et,by decide⟩,⟨D5 ++[40],41,by rw[et];rfl,by decide⟩,fun d f=>by rw[et,es,xM];exact gc (by decide) (b8 (by simp)) (bV (by simp) (bV (by simp) f)),by rw[et,ly];show 8≤_;omega⟩
  |false=>
  rw[Q,xI]at h;cases U:(k==7)with
  |true=>
   obtain rfl:=eq_of_beq U;have g:=j (.inr (.inr (.inr rfl)));have et:cG (.mk 7 o nm n p xs)=Az ++40::(nm ++[41]):=by rw[cG];rfl
   have es:bL (.mk 7 o nm n p xs)=[.kw Az, .sg [40], .nm nm, .sg [41]]:=by rw[bL];rfl
   obtain⟨_,_,E⟩:=jD g;refine⟨⟨_,_,et,by decide⟩,⟨Az ++40::nm,41,by rw[et];simp,by decide⟩,fun {c r l} d f=> ?_, ?_⟩
   ·rw[et,es,xM]
    show ga (Az ++40::((nm ++[41]) ++c::r)) _;rw[xM];exact gc (by decide) (b8 (by simp)) (bV (by simp) (kn g (b8 (by simp)) (bV (by simp) f)))
   ·rw[et,ly]
    simp only[xC,xD,xF,Az];omega
  |false=>
  rw[U,xI]at h;cases F:(k==8)with
  |true=>
   rw[F]at h;simp only[xR,xL,xy,xm,x6]at h;obtain⟨m,rfl,rfl,z,d⟩:=h;obtain rfl:=eq_of_beq F;obtain⟨y,rfl⟩:=yE.1 z;have B:=i d y (xK.2 rfl);have m:o=19∨o=20∨o=21:=by omega
   have et:cG (.mk 8 o [] 0 p [y])=A6 o ++wT 11 y:=by
    rw[cG];show A6 o ++Jg [y]=_;rw[Jg];rfl
   have es:bL (.mk 8 o [] 0 p [y])= .sg (A6 o)::wp 11 y:=by rw[bL];show Tk.sg (A6 o)::Sy [y]=_;rw[Sy];rfl
   obtain⟨V,W,P,O⟩:=T6 B 11;obtain⟨D,c1,J,N⟩:=T7 B 11;have h2:=ui y 11;have A:=B.len;refine⟨?_,⟨A6 o ++D,c1,by rw[et,J,xM],N⟩,fun {c r l} d f=> ?_, ?_⟩
   ·rw[et]
    rcases m with rfl|rfl|rfl<;>exact⟨_,_,rfl,by decide⟩
   ·have w:=Qh B 11 d f
    rw[et,es,xM];show ga _ (.sg (A6 o)::(wp 11 y ++l));rcases m with rfl|rfl|rfl
    ·exact bV (by simp) w
    ·exact bV (by simp) w
    ·rw[P]at w ⊢
     exact Qe O w
   ·rw[et,ly,bn,bn,xC]
    have:(A6 o).length=1:=by rcases m with rfl|rfl|rfl<;>rfl
    omega
  |false=>
  rw[F,xI]at h;simp only[xL,xm,x6]at h;obtain⟨rfl,L,K,rfl,rfl,z,d⟩:=h;obtain⟨a,b,rfl⟩:=vN z;have s:=i d a (x0 ..);have H:=i d b (xW _ (xK.2 rfl))
  have et:cG (.mk 9 o [] 0 p [a,b])=wT (dE o au).2 a ++32::((dE o au).1 ++32::wT ((dE o au).2+1) b):=by
   rw[cG];show Jh (dE o au).1 (dE o au).2 [a,b]=_;rw[Jh,Qf];rfl
  have es:bL (.mk 9 o [] 0 p [a,b])=wp (dE o au).2 a ++ .sg (dE o au).1::wp ((dE o au).2+1) b:=by
   rw[bL];show Sz (dE o au).1 (dE o au).2 [a,b]=_;rw[Sz,VH,wp,wp]
  obtain⟨V,W,P,O⟩:=T6 s (dE o au).2;obtain⟨D,c1,J,N⟩:=T7 H ((dE o au).2+1);have h2:=ui a (dE o au).2;have A:=ui b ((dE o au).2+1);have t:=s.len;have C:=H.len;refine⟨⟨V,_,by rw[et,P];rfl,O⟩,⟨wT (dE o au).2 a ++32::((dE o au).1 ++32::D),c1,by rw[et,J];simp,N⟩,fun {c r l} d f=> ?_, ?_⟩
  ·rw[et,es]
   simp only[xM,x8];exact Qh s _ (b8 (by simp)) (T5 L K (Qh H _ d f))
  ·have Y:(dE o au).1.length≤2:=by
     have m:o=1∨o=2∨o=3∨o=4∨o=5∨o=6∨o=7∨o=8∨o=9∨o=10∨o=11∨o=12∨o=13∨o=14∨o=15∨o=16∨o=17∨o=18:=by omega
     rcases m with rfl|rfl|rfl|rfl|rfl|rfl|rfl|rfl|rfl|rfl|rfl|rfl|rfl|rfl|rfl|rfl|rfl|rfl<;>decide
   rw[et,ly,bn,bn,bn];simp only[xC,xD];omega
theorem Cu:∀l:List Ex,gk l=true→A8 l→∀x∈l,Ka x
 |[],_,_,_,hm=>by cases hm
 |y::r,h,a,x,hm=>by
  rw[gk,xL]at h;rw[A8]at a;rcases xX.1 hm with e|hm
  ·rw[e];exact uj y h.1 a.1
  ·exact Cu r h.2 a.2 x hm
end
end Go.Avm
namespace Go.Avm
open Go.Proofs
def ind:Nat→List UInt8
 |0=>[]
 |d+1=>32::32::ind d
def ln(d:Nat)(ps:List (List UInt8)):List UInt8:=ind d ++(ps.flatten ++[10])
def fP(nm:List UInt8)(ty n:Int)(es:List Ex):List UInt8:=
 (([108,101,116,32] ++nm) ++[58,32] ++aN ty) ++(bif ty==3 then ([91] ++l8 n) ++[93]else bif es.isEmpty then []else [32,61,32] ++bw es)
def gX(es:List Ex):List UInt8:=bif es.isEmpty then sq else [114,101,116,117,114,110,32] ++bw es
mutual
def jH(d:Nat):aP→List UInt8
 | .mk k _ nm ty n _ es a b=>
  bif k==1 then ln d [fP nm ty n es,[59]]
  else bif k==2 then ln d [nm,[32,61,32],bw es,[59]]
  else bif k==3 then ln d [nm,[91],bw (es.take 1),[93,32,61,32],bw (es.drop 1),[59]]
  else bif k==4 then ln d [[105,102,32],bw es,[32,123]] ++(gK (d+1) a ++((bif b.isEmpty then []else ln d [[125,32,101,108,115,101,32,123]] ++gK (d+1) b) ++ln d [[125]]))
  else bif k==5 then ln d [[119,104,105,108,101,32],bw es,[32,123]] ++(gK (d+1) a ++ln d [[125]])
  else bif k==6 then ln d [gX es,[59]]
  else bif k==7 then ln d [[112,114,105,110,116,32],bw es,[59]]
  else ln d [bw es,[59]]
def gK(d:Nat):List aP→List UInt8
 |[]=>[]
 |x::l=>jH d x ++gK d l
end
def kv(p:Pm):List UInt8:=(p.nm ++[58,32]) ++aN p.ty
def v2:List Pm→List UInt8
 |[]=>[]
 |y::r=>44::32::(kv y ++v2 r)
def iQ:List Pm→List UInt8
 |[]=>[]
 |x::l=>kv x ++v2 l
def gd(f:Fn):List UInt8:=((([102,110,32] ++f.nm) ++[40]) ++iQ f.ps ++[41]) ++(bif f.res==0 then []else [58,32] ++aN f.res)
def sE(f:Fn):List UInt8:=ln 0 [gd f,[32,123]] ++(gK 1 f.bd ++ln 0 [[125]])
def fi:List Fn→List UInt8
 |[]=>[]
 |f::l=>sE f ++fi l
theorem eL{s:List UInt8}{l:List Tk}(h:ga s l):∀d,ga (ind d ++s) l
 |0=>h
 |d+1=> .sp rfl (.sp rfl (eL h d))
theorem ms{x:Ex}(h:CE x){c:UInt8}{r:List UInt8}{l:List Tk}(b:ends c)(a:ga (c::r) l):ga (cG x ++c::r) (bL x ++l):=(uj x h.1 h.2).lx b a
theorem a0(x:Ex):bw [x]=cG x:=by rw[gJ];simp[Ji]
theorem il{r:List UInt8}{l:List Tk}(a:ga r l):ga (59::10::r) (.sg [59]::l):=bV (by simp) (.sp rfl a)
theorem lQ{r:List UInt8}{l:List Tk}(a:ga r l):ga (32::123::10::r) (.sg [123]::l):= .sp rfl (bV (by simp) (.sp rfl a))
theorem qi{r:List UInt8}{l:List Tk}(a:ga r l):ga (125::10::r) (.sg [125]::l):=bV (by simp) (.sp rfl a)
theorem AA{ty:Int}(h:ty=1∨ty=2∨ty=3){c:UInt8}{r:List UInt8}{l:List Tk}(b:ends c)(a:ga (c::r) l):ga (aN ty ++c::r) (.kw (aN ty)::l):=by
 rcases h with rfl|rfl|rfl
 ·exact gc (by decide) b a
 ·exact gc (by decide) b a
 ·exact gc (by decide) b a
theorem AB:ends 32:=b8 (by simp)
theorem NC:ends 59:=b8 (by simp)
mutual
theorem T8:∀(x:aP)(d:Nat),j5 cw x→∀{r:List UInt8}{l:List Tk},ga r l→ga (jH d x ++r) (fb x ++l)
 | .mk k id nm ty n p es a m,d,h,r,l,b=>by
  have j:=fun h r l b=>v3 a (d+1) h (r:=r) (l:=l) b
  have o:=fun h r l b=>v3 m (d+1) h (r:=r) (l:=l) b
  cases h with
  |letA _ _ e h=>
   have et:jH d (.mk 1 id nm 3 n p [] [] []) ++r=ind d ++(o5 ++32::(nm ++58::32::(aN 3 ++91::(l8 n ++93::59::10::r)))):=by
    rw[jH];show ln d [fP nm 3 n [],[59]] ++r=_;simp[ln,fP,o5]
   have es:fb (.mk 1 id nm 3 n p [] [] []) ++l= .kw o5:: .nm nm:: .sg [58]:: .kw (aN 3):: .sg [91]:: .num n:: .sg [93]:: .sg [59]::l:=by rw[fb];rfl
   rw[et,es];exact eL (gc (by decide) AB (.sp rfl (kn e (b8 (by simp)) (bV (by simp) (.sp rfl (AA (by simp) (b8 (by simp)) (bV (by simp) (Je h (b8 (by simp)) (bV (by simp) (il b)))))))))) d
  |letN _ _ e h=>
   have g:(ty==3)=false:=by rcases h with rfl|rfl<;>rfl
   have et:jH d (.mk 1 id nm ty 0 p [] [] []) ++r=ind d ++(o5 ++32::(nm ++58::32::(aN ty ++59::10::r))):=by
    rw[jH];show ln d [fP nm ty 0 [],[59]] ++r=_;simp[ln,fP,o5,g]
   have es:fb (.mk 1 id nm ty 0 p [] [] []) ++l= .kw o5:: .nm nm:: .sg [58]:: .kw (aN ty):: .sg [59]::l:=by rw[fb];simp[g]
   rw[et,es];exact eL (gc (by decide) AB (.sp rfl (kn e (b8 (by simp)) (bV (by simp) (.sp rfl (AA (by omega) NC (il b))))))) d
  | @letV _ _ _ _ x e h c=>
   have g:(ty==3)=false:=by rcases h with rfl|rfl<;>rfl
   have et:jH d (.mk 1 id nm ty 0 p [x] [] []) ++r=ind d ++(o5 ++32::(nm ++58::32::(aN ty ++32::61::32::(cG x ++59::10::r)))):=by
    rw[jH];show ln d [fP nm ty 0 [x],[59]] ++r=_;simp[ln,fP,o5,g,a0]
   have es:fb (.mk 1 id nm ty 0 p [x] [] []) ++l= .kw o5:: .nm nm:: .sg [58]:: .kw (aN ty):: .sg [61]::(bL x ++ .sg [59]::l):=by rw[fb];simp[g,bT]
   rw[et,es];exact eL (gc (by decide) AB (.sp rfl (kn e (b8 (by simp)) (bV (by simp) (.sp rfl (AA (by omega) AB (.sp rfl (Jf (ms c NC (il b)))))))))) d
  | @set _ _ _ x e c=>
   have et:jH d (.mk 2 id nm 0 0 p [x] [] []) ++r=ind d ++(nm ++32::61::32::(cG x ++59::10::r)):=by
    rw[jH];show ln d [nm,[32,61,32],bw [x],[59]] ++r=_;simp[ln,a0]
   have es:fb (.mk 2 id nm 0 0 p [x] [] []) ++l= .nm nm:: .sg [61]::(bL x ++ .sg [59]::l):=by rw[fb];simp[bT]
   rw[et,es];exact eL (kn e AB (.sp rfl (Jf (ms c NC (il b))))) d
  | @put _ _ _ x y e c s=>
   have et:jH d (.mk 3 id nm 0 0 p [x,y] [] []) ++r=ind d ++(nm ++91::(cG x ++93::32::61::32::(cG y ++59::10::r))):=by
    rw[jH];show ln d [nm,[91],bw [x],[93,32,61,32],bw [y],[59]] ++r=_;simp[ln,a0]
   have es:fb (.mk 3 id nm 0 0 p [x,y] [] []) ++l= .nm nm:: .sg [91]::(bL x ++ .sg [93]:: .sg [61]::(bL y ++ .sg [59]::l)):=by rw[fb];simp[bT]
   rw[et,es];exact eL (kn e (b8 (by simp)) (bV (by simp) (ms c (b8 (by simp)) (bV (by simp) (.sp rfl (Jf (ms s NC (il b)))))))) d
  | @ifs _ _ x _ _ c i h2=>
   cases m with
   |nil=>
    have et:jH d (.mk 4 id [] 0 0 p [x] a []) ++r=ind d ++(L6 ++32::(cG x ++32::123::10::(gK (d+1) a ++(ind d ++125::10::r)))):=by
     rw[jH];show(ln d [[105,102,32],bw [x],[32,123]] ++(gK (d+1) a ++([] ++ln d [[125]]))) ++r=_;simp[ln,a0,L6]
    have es:fb (.mk 4 id [] 0 0 p [x] a []) ++l= .kw L6::(bL x ++ .sg [123]::(cM a ++ .sg [125]::l)):=by rw[fb];simp[bT]
    rw[et,es];exact eL (gc (by decide) AB (.sp rfl (ms c AB (lQ (j i _ _ (eL (qi b) d)))))) d
   |cons y q=>
    have et:jH d (.mk 4 id [] 0 0 p [x] a (y::q)) ++r=ind d ++(L6 ++32::(cG x ++32::123::10::(gK (d+1) a ++(ind d ++125::32::(kk ++32::123::10::(gK (d+1) (y::q) ++(ind d ++125::10::r))))))):=by
     rw[jH];show(ln d [[105,102,32],bw [x],[32,123]] ++(gK (d+1) a ++((ln d [[125,32,101,108,115,101,32,123]] ++gK (d+1) (y::q)) ++ln d [[125]]))) ++r=_;simp[ln,a0,L6,kk]
    have es:fb (.mk 4 id [] 0 0 p [x] a (y::q)) ++l= .kw L6::(bL x ++ .sg [123]::(cM a ++ .sg [125]:: .kw kk:: .sg [123]::(cM (y::q) ++ .sg [125]::l))):=by rw[fb];simp[bT]
    rw[et,es];exact eL (gc (by decide) AB (.sp rfl (ms c AB (lQ (j i _ _ (eL (bV (by simp) (.sp rfl (gc (by decide) AB (lQ (o h2 _ _ (eL (qi b) d)))))) d)))))) d
  | @loop _ _ x _ c i=>
   have et:jH d (.mk 5 id [] 0 0 p [x] a []) ++r=ind d ++(o6 ++32::(cG x ++32::123::10::(gK (d+1) a ++(ind d ++125::10::r)))):=by
    rw[jH];show(ln d [[119,104,105,108,101,32],bw [x],[32,123]] ++(gK (d+1) a ++ln d [[125]])) ++r=_;simp[ln,a0,o6]
   have es:fb (.mk 5 id [] 0 0 p [x] a []) ++l= .kw o6::(bL x ++ .sg [123]::(cM a ++ .sg [125]::l)):=by rw[fb];simp[bT]
   rw[et,es];exact eL (gc (by decide) AB (.sp rfl (ms c AB (lQ (j i _ _ (eL (qi b) d)))))) d
  |ret0=>
   have et:jH d (.mk 6 id [] 0 0 p [] [] []) ++r=ind d ++(sq ++59::10::r):=by
    rw[jH];show ln d [gX [],[59]] ++r=_;simp[ln,gX]
   have es:fb (.mk 6 id [] 0 0 p [] [] []) ++l= .kw sq:: .sg [59]::l:=by rw[fb];rfl
   rw[et,es];exact eL (gc (by decide) NC (il b)) d
  | @ret1 _ _ x c=>
   have et:jH d (.mk 6 id [] 0 0 p [x] [] []) ++r=ind d ++(sq ++32::(cG x ++59::10::r)):=by
    rw[jH];show ln d [gX [x],[59]] ++r=_;simp[ln,gX,sq,a0]
   have es:fb (.mk 6 id [] 0 0 p [x] [] []) ++l= .kw sq::(bL x ++ .sg [59]::l):=by rw[fb];simp[bT]
   rw[et,es];exact eL (gc (by decide) AB (.sp rfl (ms c NC (il b)))) d
  | @prt _ _ x c=>
   have et:jH d (.mk 7 id [] 0 0 p [x] [] []) ++r=ind d ++(o7 ++32::(cG x ++59::10::r)):=by
    rw[jH];show ln d [[112,114,105,110,116,32],bw [x],[59]] ++r=_;simp[ln,o7,a0]
   have es:fb (.mk 7 id [] 0 0 p [x] [] []) ++l= .kw o7::(bL x ++ .sg [59]::l):=by rw[fb];simp[bT]
   rw[et,es];exact eL (gc (by decide) AB (.sp rfl (ms c NC (il b)))) d
  | @call _ _ f q xs e c=>
   have et:jH d (.mk 8 id [] 0 0 p [.mk 5 0 f 0 q xs] [] []) ++r=ind d ++(cG (.mk 5 0 f 0 q xs) ++59::10::r):=by
    rw[jH];show ln d [bw [.mk 5 0 f 0 q xs],[59]] ++r=_;simp[ln,a0]
   have es:fb (.mk 8 id [] 0 0 p [.mk 5 0 f 0 q xs] [] []) ++l=bL (.mk 5 0 f 0 q xs) ++ .sg [59]::l:=by rw[fb];simp[bT]
   rw[et,es];exact eL (ms c NC (il b)) d
theorem v3:∀(xs:List aP)(d:Nat),CanL cw xs→∀{r:List UInt8}{l:List Tk},ga r l→ga (gK d xs ++r) (cM xs ++l)
 |[],_,_,_,_,a=>by rw[gK,cM];exact a
 |x::xs,d,h,r,l,a=>by
  have c:=fun h r l a=>T8 x d h (r:=r) (l:=l) a
  have h2:=fun h r l a=>v3 xs d h (r:=r) (l:=l) a
  cases h with
  |cons b e=>
   rw[gK,cM,xM,xM];exact c b _ _ (h2 e _ _ a)
end
theorem ND{p:Pm}(h:sD p){c:UInt8}{r:List UInt8}{l:List Tk}(b:ends c)(a:ga (c::r) l):ga (kv p ++c::r) (vS p ++l):=by
 have e:kv p ++c::r=p.nm ++58::32::(aN p.ty ++c::r):=by simp[kv]
 rw[e];exact kn h.1 (b8 (by simp)) (bV (by simp) (.sp rfl (AA h.2 b a)))
theorem Jj{r:List UInt8}{m:List Tk}(h:ga (41::r) m):∀l:List Pm,(∀p∈l,sD p)→∃c q,v2 l ++41::r=c::q∧ends c∧ga (c::q) (wu l ++m)
 |[],_=>⟨41,r,rfl,b8 (by simp),h⟩
 |y::l,a=>by
  obtain⟨c,q,e,f,d⟩:=Jj h l fun x b=>a x (xW _ b)
  refine⟨44,32::(kv y ++c::q), ?_,b8 (by simp), ?_⟩
  ·rw[v2,←e]
   simp only[x8,xM]
  ·rw[wu,x8,xM]
   exact bV (by simp) (.sp rfl (ND (a y (x0 ..)) f d))
theorem Jk{r:List UInt8}{m:List Tk}(h:ga (41::r) m)(l:List Pm)(a:∀p∈l,sD p):ga (iQ l ++41::r) (ik l ++m):=by
 cases l with
 |nil=>exact h
 |cons y l=>
  obtain⟨c,q,e,f,d⟩:=Jj h l fun x b=>a x (xW _ b)
  rw[iQ,ik,xM,xM,e];exact ND (a y (x0 ..)) f d
theorem T9{f:Fn}(h:ku cw f){r:List UInt8}{l:List Tk}(g:ga r l):ga (sE f ++r) (Cn f ++l):=by
 have d:=v3 f.bd 1 h.bd (qi g);have e:jj f.nm:=h.nm;have a:∀p∈f.ps,sD p:=fun p hp=>h.ps p hp
 by_cases c:f.res=0
 ·have et:sE f ++r=Me ++32::(f.nm ++40::(iQ f.ps ++41::32::123::10::(gK 1 f.bd ++125::10::r))):=by
    simp[sE,ln,gd,ind,Me,c]
  have es:Cn f ++l= .kw Me:: .nm f.nm:: .sg [40]::(ik f.ps ++ .sg [41]:: .sg [123]::(cM f.bd ++ .sg [125]::l)):=by
   simp[Cn,vT,c]
  rw[et,es];exact gc (by decide) AB (.sp rfl (kn e (b8 (by simp)) (bV (by simp) (Jk (bV (by simp) (lQ d)) _ a))))
 ·have b:(f.res==0)=false:=beq_eq_false_iff_ne.2 c
  have et:sE f ++r=Me ++32::(f.nm ++40::(iQ f.ps ++41::58::32::(aN f.res ++32::123::10::(gK 1 f.bd ++125::10::r)))):=by
   simp[sE,ln,gd,ind,Me,b]
  have es:Cn f ++l= .kw Me:: .nm f.nm:: .sg [40]::(ik f.ps ++ .sg [41]:: .sg [58]:: .kw (aN f.res):: .sg [123]::(cM f.bd ++ .sg [125]::l)):=by
   simp[Cn,vT,b]
  rw[et,es];have:=h.res;exact gc (by decide) AB (.sp rfl (kn e (b8 (by simp)) (bV (by simp) (Jk (bV (by simp) (bV (by simp) (.sp rfl (AA (by omega) AB (lQ d))))) _ a))))
theorem Jl:∀l:List Fn,(∀f∈l,ku cw f)→ga (fi l) (su l)
 |[],_=> .nil
 |f::l,h=>T9 (h f (x0 ..)) (Jl l fun g a=>h g (xW _ a))
end Go.Avm
namespace Go.Avm
open Go.Proofs
def fV(d:Nat)(ps:List (List UInt8)):List (List UInt8):=ind d::(ps ++[[10]])
theorem n9(d:Nat)(ps:List (List UInt8)):(fV d ps).flatten=ln d ps:=by simp[fV,ln]
mutual
def eo(d:Nat):aP→List (List UInt8)
 | .mk k _ nm ty n _ es a b=>
  bif k==1 then fV d [fP nm ty n es,[59]]
  else bif k==2 then fV d [nm,[32,61,32],bw es,[59]]
  else bif k==3 then fV d [nm,[91],bw (es.take 1),[93,32,61,32],bw (es.drop 1),[59]]
  else bif k==4 then fV d [[105,102,32],bw es,[32,123]] ++(dK (d+1) a ++((bif b.isEmpty then []else fV d [[125,32,101,108,115,101,32,123]] ++dK (d+1) b) ++fV d [[125]]))
  else bif k==5 then fV d [[119,104,105,108,101,32],bw es,[32,123]] ++(dK (d+1) a ++fV d [[125]])
  else bif k==6 then fV d [gX es,[59]]
  else bif k==7 then fV d [[112,114,105,110,116,32],bw es,[59]]
  else fV d [bw es,[59]]
def dK(d:Nat):List aP→List (List UInt8)
 |[]=>[]
 |x::l=>eo d x ++dK d l
end
def lB(f:Fn):List (List UInt8):=fV 0 [gd f,[32,123]] ++(dK 1 f.bd ++fV 0 [[125]])
def jE:List Fn→List (List UInt8)
 |[]=>[]
 |f::l=>lB f ++jE l
mutual
theorem Fx:∀(x:aP)(d:Nat),(eo d x).flatten=jH d x
 | .mk k _ nm ty n _ es b a,d=>by
  have c:=j9 b (d+1);have h2:=j9 a (d+1);rw[eo,jH];cases (k==1)<;>cases (k==2)<;>cases (k==3)<;>cases (k==4)<;>cases (k==5)<;>cases (k==6)<;>cases (k==7)<;>cases a.isEmpty<;>simp only[xR,xI,zL,n9,c,h2,yU]
theorem j9:∀(l:List aP)(d:Nat),(dK d l).flatten=gK d l
 |[],_=>by rw[dK,gK];rfl
 |x::l,d=>by rw[dK,gK,zL,Fx x d,j9 l d]
end
theorem Fy(f:Fn):(lB f).flatten=sE f:=by simp only[lB,sE,zL,n9,j9]
theorem mZ:∀l:List Fn,(jE l).flatten=fi l
 |[]=>rfl
 |f::l=>by simp only[jE,fi,zL,Fy,mZ l]
theorem oa:∀d,(ind d).length=2*d
 |0=>rfl
 |d+1=>by simp only[ind,xD,oa d];omega
theorem hJ{x:Ex}(h:CE x):(cG x).length+2≤40*ly x:=(uj x h.1 h.2).len
theorem fa{t:List UInt8}(h:jj t):t.length≤12:=(jD h).2.2
theorem iR(ty:Int):(aN ty).length≤4:=by
 unfold aN;split<;>decide
theorem fv(d:Nat)(ps:List (List UInt8)):(ln d ps).length=2*d+ps.flatten.length+1:=by
 simp only[ln,xC,oa,xD,xF];omega
mutual
theorem Ms:∀(x:aP)(d:Nat),j5 cw x→(d:Int)+dS x≤210→(jH d x).length≤2000*kl x
 | .mk k id nm ty n p es g c,d,h,j=>by
  have B:=oc g (d+1);have E:=oc c (d+1);have s:=IP (.mk k id nm ty n p es g c);have r:=ji g;have t:=ji c;cases h with
  |letA _ _ a h=>
   have a:jj nm:=a;have:=fa a;have:=vZ (show sB n from h);have:=iR 3;rw[jH];show(ln d [fP nm 3 n [],[59]]).length≤_;have e:fP nm 3 n []=(([108,101,116,32] ++nm) ++[58,32]) ++aN 3 ++(([91] ++l8 n) ++[93]):=rfl;rw[fv,e];simp only[yO,yU,xC,xD,xF,kl,bN,bn];omega
  |letN _ _ a h=>
   have a:jj nm:=a;have:=fa a;have:=iR ty;have m:(ty==3)=false:=by rcases h with rfl|rfl<;>rfl
   rw[jH];show(ln d [fP nm ty 0 [],[59]]).length≤_;rw[fv];simp only[fP,m,xI,zR,xR,yO,yU,xC,xD,xF,kl,bN,bn];omega
  | @letV _ _ _ _ x a h b=>
   have a:jj nm:=a;have:=fa a;have:=iR ty;have:=hJ (show CE x from b);have m:(ty==3)=false:=by rcases h with rfl|rfl<;>rfl
   rw[jH];show(ln d [fP nm ty 0 [x],[59]]).length≤_;rw[fv];simp only[fP,m,xI,yl,a0,yO,yU,xC,xD,xF,kl,bN,bn];omega
  | @set _ _ _ x a b=>
   have a:jj nm:=a;have:=fa a;have:=hJ (show CE x from b);rw[jH];show(ln d [nm,[32,61,32],bw [x],[59]]).length≤_;rw[fv];simp only[a0,yO,yU,xC,xD,xF,kl,bN,bn];omega
  | @put _ _ _ x y a b o=>
   have a:jj nm:=a;have:=fa a;have:=hJ (show CE x from b);have:=hJ (show CE y from o);rw[jH];show(ln d [nm,[91],bw [x],[93,32,61,32],bw [y],[59]]).length≤_;rw[fv];simp only[a0,yO,yU,xC,xD,xF,kl,bN,bn];omega
  | @ifs _ _ x _ _ b l h2=>
   have:=hJ (show CE x from b);have i:(d:Int)+max (g8 [x]) (max (1+iO g) (bif c.isEmpty then 0 else 1+iO c))≤210:=by rw[dS]at j;exact j
   have B:=B l (by omega);rw[jH];show(ln d [[105,102,32],bw [x],[32,123]] ++(gK (d+1) g ++((bif c.isEmpty then []else ln d [[125,32,101,108,115,101,32,123]] ++gK (d+1) c) ++ln d [[125]]))).length≤_;cases c with
   |nil=>
    simp only[zR,xR,a0,fv,yO,yU,xC,xD,xF,kl,bN,bn];omega
   |cons y q=>
    have E:=E h2 (by simp only[yl,xI]at i;omega);simp only[yl,xI,a0,fv,yO,yU,xC,xD,xF,kl,bn];simp only[yl,xI]at i;omega
  | @loop _ _ x _ b l=>
   have:=hJ (show CE x from b);have i:(d:Int)+max (g8 [x]) (1+iO g)≤210:=by rw[dS]at j;exact j
   have B:=B l (by omega);rw[jH];show(ln d [[119,104,105,108,101,32],bw [x],[32,123]] ++(gK (d+1) g ++ln d [[125]])).length≤_;simp only[a0,fv,yO,yU,xC,xD,xF,kl,bN,bn];omega
  |ret0=>
   rw[jH];show(ln d [gX [],[59]]).length≤_;simp only[gX,sq,zR,xR,fv,yO,yU,xC,xD,xF,kl,bN,bn];omega
  | @ret1 _ _ x b=>
   have:=hJ (show CE x from b);rw[jH];show(ln d [gX [x],[59]]).length≤_;simp only[gX,yl,xI,a0,fv,yO,yU,xC,xD,xF,kl,bN,bn];omega
  | @prt _ _ x b=>
   have:=hJ (show CE x from b);rw[jH];show(ln d [[112,114,105,110,116,32],bw [x],[59]]).length≤_;simp only[a0,fv,yO,yU,xC,xD,xF,kl,bN,bn];omega
  | @call _ _ f q xs a b=>
   have:=hJ (show CE (.mk 5 0 f 0 q xs)from b);rw[jH];show(ln d [bw [.mk 5 0 f 0 q xs],[59]]).length≤_;simp only[a0,fv,yO,yU,xC,xD,xF,kl,bN,bn];omega
theorem oc:∀(l:List aP)(d:Nat),CanL cw l→(d:Int)+iO l≤210→(gK d l).length≤2000*bN l
 |[],_,_,_=>by simp[gK]
 |x::l,d,h,e=>by
  have b:=Ms x d;have h2:=oc l d;rw[iO]at e;cases h with
  |cons a c=>
   have:=b a (by omega);have:=h2 c (by omega);rw[gK,xC,bN];omega
end
theorem AD:∀l:List Pm,(∀p∈l,sD p)→(v2 l).length≤40*l.length
 |[],_=>by simp[v2]
 |p::l,h=>by
  have b:=AD l fun x a=>h x (xW _ a)
  have h2:=fa (h p (x0 ..)).1;have c:=iR p.ty;simp only[v2,kv,xD,xC,xF];omega
theorem uk(l:List Pm)(h:∀p∈l,sD p):(iQ l).length≤40*l.length:=by
 cases l with
 |nil=>simp[iQ]
 |cons p l=>
  have b:=AD l fun x a=>h x (xW _ a)
  have h2:=fa (h p (x0 ..)).1;have c:=iR p.ty;simp only[iQ,kv,xD,xC,xF];omega
theorem Jm{f:Fn}(h:ku cw f):(sE f).length≤2000*Co f:=by
 have c:=oc f.bd 1 h.bd (by have:=h.dp;omega);have h2:=uk f.ps fun p hp=>h.ps p hp
 have d:=fa (show jj f.nm from h.nm);have a:=iR f.res
 have b:(bif f.res==0 then ([]:List UInt8)else [58,32] ++aN f.res).length≤6:=by
  cases f.res==0
  ·simp only[xI,xC,xD,xF];omega
  ·simp
 simp only[sE,gd,fv,yO,yU,xC,xD,xF,Co];omega
theorem ul:∀l:List Fn,(∀f∈l,ku cw f)→(fi l).length≤2000*fh l
 |[],_=>by simp[fi]
 |f::l,h=>by
  have b:=Jm (h f (x0 ..));have h2:=ul l fun g a=>h g (xW _ a)
  rw[fi,xC,fh];omega
end Go.Avm
namespace Go.Proofs
open Go.Shelf
def Tryz.laysM173_ren:Go.Shelf.Ren:=⟨fun|173=>60|246=>91|283=>115|284=>116|285=>117|286=>118|129=>139|317=>138|318=>140|319=>141|320=>142|337=>161|338=>162|n=>n,fun|2=>2|3=>3|9=>9|4=>4|171=>201|0=>0|53=>175|37=>49|5=>5|173=>204|212=>224|51=>119|20=>20|213=>225|46=>149|232=>268|233=>269|n=>n,fun|17=>2|18=>6|19=>7|n=>n⟩
theorem Tryz.laysM173:Go.Proofs.LaysM.n173 Tryz.prog Tryz.laysM173_ren:=by constructor<;>intros<;>first|kernel_rfl|(constructor<;>intros<;>first|kernel_rfl|(constructor<;>intros<;>kernel_rfl))
def Tryz.lays156_ren:Go.Shelf.Ren:=⟨fun|156=>17|165=>32|166=>33|169=>20|240=>53|241=>54|276=>83|277=>84|n=>n,fun|31=>63|9=>9|3=>3|4=>4|0=>0|20=>20|72=>60|76=>106|70=>58|37=>49|75=>105|127=>114|164=>170|5=>5|80=>70|n=>n,fun|n=>n⟩
theorem Tryz.lays156:Go.Proofs.Lays.n156 Tryz.prog Tryz.lays156_ren:=by constructor<;>intros<;>first|kernel_rfl|(constructor<;>intros<;>first|kernel_rfl|(constructor<;>intros<;>kernel_rfl))
def Tryz.lays105_ren:Go.Shelf.Ren:=⟨fun|105=>34|212=>55|99=>56|165=>32|166=>33|170=>57|169=>20|263=>85|264=>86|206=>87|240=>53|241=>54|276=>83|277=>84|n=>n,fun|9=>9|3=>3|4=>4|20=>20|0=>0|46=>149|109=>150|5=>5|72=>60|76=>106|51=>119|146=>173|53=>175|148=>176|70=>58|37=>49|75=>105|127=>114|164=>170|80=>70|n=>n,fun|n=>n⟩
theorem Tryz.lays105:Go.Proofs.Lays.n105 Tryz.prog Tryz.lays105_ren:=by constructor<;>intros<;>first|kernel_rfl|(constructor<;>intros<;>first|kernel_rfl|(constructor<;>intros<;>kernel_rfl))
def Tryz.lays102_ren:Go.Shelf.Ren:=⟨fun|102=>61|209=>92|207=>119|n=>n,fun|9=>9|4=>4|3=>3|n=>n,fun|n=>n⟩
theorem Tryz.lays102:Go.Proofs.Lays.n102 Tryz.prog Tryz.lays102_ren:=by constructor<;>intros<;>first|kernel_rfl|(constructor<;>intros<;>first|kernel_rfl|(constructor<;>intros<;>kernel_rfl))
end Go.Proofs
namespace Go.Avm
open Go.Proofs Go.RowKit Go.Shelf
theorem Qi{I:Nat→Nat→Prop}{w:World}{a:D}{x:Value}(h:DRep I w a x):mE I w [a] x:= .inl ⟨a,rfl,h⟩
theorem pG{a b:D}{I:Nat→Nat→Prop}{w:World}{c:Array Value}(d:c.size=2)(h:∀(i:Nat)(x:D)(u:Value),[a,b][i]? =some x→c[i]? =some u→DRep I w x u):
    ∃u v,c= #[u,v]∧DRep I w a u∧DRep I w b v:=by
 obtain⟨l⟩:=c;match l,d with
 |[u,v],_=>exact⟨u,v,rfl,h 0 _ u rfl rfl,h 1 _ v rfl rfl⟩
theorem lR{I:Nat→Nat→Prop}{w c:World}{v:Value}{a:D}{e:Ending}(g:e= .returned v)(f:∀b o,I b o→b<w.heap.size)(d:Below w.heap.size w c)(h:DRep I c a v):
    ∃v I',e= .returned v∧Below w.heap.size w c∧(∀b o,I b o→I' b o)∧(∀b o,I' b o→I b o∨w.heap.size≤b)∧(∀b o,I' b o→b<c.heap.size)∧mE I' c [a] v:=
 ⟨v,I,g,d,fun _ _ x=>x,fun _ _ x=> .inl x,fun b o x=>yK (f b o x) d.size,Qi h⟩
theorem AE:ct Pg 34:=⟨Tryz.f34,Tryz.func34,by kernel_rfl,by kernel_rfl⟩
theorem v4:ct Pg 17:=⟨Tryz.f17,Tryz.func17,by kernel_rfl,by kernel_rfl⟩
theorem v6:ct Pg 61:=⟨Tryz.f61,Tryz.func61,by kernel_rfl,by kernel_rfl⟩
theorem AF:ct Pg 60:=⟨Tryz.f60,Tryz.func60,by kernel_rfl,by kernel_rfl⟩
theorem Qj:Builder.Extra Pg Tryz.lays105_ren where
 sizeBuilder:=by kernel_rfl
 liesBuilder:=by kernel_rfl
 t5:=Tryz.underlying5
 a5:=Tryz.isAgg5
 z5:=Tryz.sizeOf5
 v5:=Tryz.zeroValue5
 infoByte:=by kernel_rfl
 cellsByte:=by kernel_rfl
 sizeByte:=by kernel_rfl
 neB5:=by decide
theorem v7:Builder.Extra Pg Tryz.lays156_ren where
 sizeBuilder:=by kernel_rfl
 liesBuilder:=by kernel_rfl
 t5:=Tryz.underlying5
 a5:=Tryz.isAgg5
 z5:=Tryz.sizeOf5
 v5:=Tryz.zeroValue5
 infoByte:=by kernel_rfl
 cellsByte:=by kernel_rfl
 sizeByte:=by kernel_rfl
 neB5:=by decide
theorem D7:∀d,Lib.repeatL [32,32] d=ind d
 |0=>rfl
 |d+1=>by rw[Lib.repeatL,D7 d];rfl
theorem AG{s:ByteArray}{t:List UInt8}(h:s.data.toList=t):s.size=t.length:=by rw[←h];exact Lib.size_eq s
theorem D8(d:Nat)(h:d≤1000):al Pg 34 [.str [32,32], .int .i64 (d:Int)] [.str (ind d)]:=by
 refine⟨AE,fun w I c g b a n=> ?_⟩;obtain⟨u,v,rfl,k,i⟩:=pG b a;obtain⟨s,rfl,f⟩:=oZ k;obtain rfl:=o0 i;refine(Any.strings_Repeat Tryz.lays105 Qj s d w (by omega) (by rw[AG f];simp only[xD,xF];omega)).mono ?_;rintro e m ⟨l,j⟩;exact lR l g j (.str _ _ (by show Lib.repeatL s.data.toList d=_;rw[f,D7]))
theorem NF(s p:List UInt8)(h:s.length≤1000000000):al Pg 61 [.str s, .str p] [.str (Lib.trimSuffix s p)]:=by
 refine⟨v6,fun w I f i d c o=> ?_⟩;obtain⟨u,v,rfl,l,j⟩:=pG d c;obtain⟨a,rfl,g⟩:=oZ l;obtain⟨b,rfl,k⟩:=oZ j;refine(Any.strings_TrimSuffix Tryz.lays102 a b w (by rw[AG g];omega)).mono ?_;rintro e n ⟨m,rfl⟩;exact lR m i (Below.refl _ _) (.str _ _ (by show Lib.trimSuffix a.data.toList b.data.toList=_;rw[g,k]))
theorem WV:Pg.globalNamed "internal/strconv.uint64pow10"=some 2:=by kernel_rfl
theorem Jn(t:Nat)(h:t<20):mO[t]? =some (.int .u64 ((10^t:Nat):Int)):=by
 unfold mO;rw[xP,yu h];rfl
theorem Ua{I:Nat→Nat→Prop}{w:World}(k:Globs I w):Lib.TabIs Pg w "internal/strconv.uint64pow10" .u64 Lib.pow10Tab:=by
 obtain⟨i,_,f⟩:=k 2 mO rfl;have f:w.cell? ⟨2,20,none⟩=none:=f
 have c:∀t,t<20→w.cell? ⟨2,t,none⟩=some (.int .u64 ((10^t:Nat):Int)):=fun t g=>by
  cases i with
  |rp cs b o U j m c l=>
   have a:=c t _ (Jn t g);have b:=o0 (l t _ (Jn t g));rw[b,xb]at a;exact a
 have d:=c 0 (by decide);unfold Lib.TabIs World.var?;rw[WV,yA];unfold World.cell? at f c d;dsimp only at f c d ⊢;cases h:w.heap[2]? with
 |none=>rw[h]at d;cases d
 |some ob=>
  rw[h]at f c d;cases ob<;>first|(cases d;done)|skip
  rename_i cs ty fz;dsimp only at f c d ⊢;congr 1
  have n:cs.size=20:=by
   have a:=Array.getElem?_eq_none_iff.1 f;have b:=(xQ.1 (c 19 (by decide))).1;omega
  apply Array.ext_getElem?;intro t;by_cases g:t<20
  ·have e:cs[t]? =some (Value.int .u64 ((10^t:Nat):Int)):=c t g
   rw[e];unfold Lib.pow10Tab;rw[yY,xP,xP,yu g];rfl
  ·rw[Array.getElem?_eq_none_iff.2 (by omega),yY,List.getElem?_eq_none_iff.2 (by rw[xO,Lib.pow10Tab_length];omega)]
theorem Jo(w:World)(k:Nat)(os:Array Obj):Below w.heap.size w (Go.Sort.grow (w.drewN k) os):=
 ⟨rfl,rfl,rfl,by show w.heap.size≤(w.heap ++os).size;rw[Array.size_append];omega,fun j a=>by show(w.heap ++os)[j]? =_;rw[yT a]⟩
theorem Mt(u:Nat):Lib.decDigits u=jA u:=by
 induction u using Nat.strongRecOn with
 |ind u a=>
  rw[Lib.decDigits,jA];split
  ·rfl
  ·rw[a (u/10) (by omega)]
theorem Ub{n:Int}(h:sB n):al Pg 60 [.int .i64 n, .int .i64 10] [.str (l8 n)]:=by
 refine⟨AF,fun w I c d b a g=> ?_⟩;obtain⟨u,v,rfl,i,f⟩:=pG b a;obtain rfl:=o0 i;obtain rfl:=o0 f;have o:=h.1;have m:=h.2;refine(Any.strconv_FormatInt_10 Tryz.laysM173 n (by omega) (by omega) w (Ua g)).mono ?_;rintro e l ⟨j,k,os,rfl⟩;refine lR j d (Jo w k os) (.str _ _ ?_);show Lib.itoa n=_;rw[Lib.itoa,xj (by omega),Mt];rfl
theorem NG(l:List (List UInt8))(d:List UInt8)(hl:l.length≤1000000000)(Z:(Lib.join l d).length≤1000000000):al Pg 17 [.ro (l.map .str), .str d] [.str (Lib.join l d)]:=by
 refine⟨v4,fun w I q n y g Y=> ?_⟩;obtain⟨u,v,rfl,M,S⟩:=pG y g;obtain⟨s,rfl,K⟩:=oZ S;generalize J:l.map D.str=ds at M;cases M with
 |roNil N c=>
  have:l=[]:=by cases l with|nil=>rfl|cons _ _=>cases J
  subst this;refine(Any.strings_Join_none Tryz.lays156 v7 N c s w).mono ?_;rintro e G ⟨h,rfl⟩;exact lR h n (Below.refl _ _) (.str _ _ rfl)
 |ro _ b o c sz U E H h1 R X T=>
  subst J
  have z:∀l:List (List UInt8),D.flat (l.map D.str)=l.map D.str:=fun l=>by
   induction l with
   |nil=>rfl
   |cons a r L=>simp only[D.flat,xN,yB,D.cells,x8,xn]at L ⊢;rw[L]
  have k:(l.map D.str).length=l.length:=xO ..;cases A:l with
  |nil=>
   subst A;refine(Any.strings_Join_none Tryz.lays156 v7 _ c s w).mono ?_;rintro e G ⟨h,rfl⟩;exact lR h n (Below.refl _ _) (.str _ _ rfl)
  |cons W r0=>
  rw[←A];have O:∀(j:Nat) x,l[j]? =some x→∃t:ByteArray,U j= .string t∧t.data.toList=x:=fun j x p=>oZ (T j (.str x) (by rw[z,xP,p];rfl))
  let xs:List ByteArray:=l.map fun x=>⟨x.toArray⟩
  have m:xs.map (·.data.toList)=l:=by simp[xs,Function.comp_def]
  have f:∀(j:Nat)(x:ByteArray),xs[j]? =some x→w.cell? ⟨b,o+j,none⟩=some (.string x):=fun j x p=>by
   simp only[xs,xP,xB]at p;obtain⟨a,F,rfl⟩:=p;obtain⟨t,Q,V⟩:=O j a F;rw[X j (.str a) (by rw[z,xP,F];rfl),Q,←V]
  have C:b<w.heap.size:=n b (o+0) (R 0 (.str W) (by rw[z,A];rfl));have B:xs.length=l.length:=xO ..;have i:=Any.strings_Join Tryz.lays156 v7 b o c xs s w f C (by omega) (by omega) (by rw[m,K];omega);rw[B,←k]at i;refine i.mono ?_;rintro e G ⟨h,P⟩;exact lR h n P (.str _ _ (by show Lib.join (xs.map (·.data.toList)) s.data.toList=_;rw[m,K]))
end Go.Avm
namespace Go.Avm
open Go.Proofs
theorem D9:∀r:List Ex,Lib.joinTail [44,32] (r.map cG)=Ji r
 |[]=>rfl
 |y::q=>by
  rw[Ji,gJ,←D9 q];simp[Lib.joinTail]
theorem Ea:∀xs:List Ex,Lib.join (xs.map cG) [44,32]=bw xs
 |[]=>by rw[xk,Lib.join_nil,bw]
 |x::r=>by rw[xN,Lib.join_cons,gJ,D9]
theorem Eb:∀r:List Pm,Lib.joinTail [44,32] (r.map kv)=v2 r
 |[]=>rfl
 |y::q=>by
  rw[v2,←Eb q];simp[Lib.joinTail]
theorem Ec:∀xs:List Pm,Lib.join (xs.map kv) [44,32]=iQ xs
 |[]=>by rw[xk,Lib.join_nil,iQ]
 |x::r=>by rw[xN,Lib.join_cons,iQ,Eb]
theorem Fz:Lib.trimSuffix ([114,101,116,117,114,110,32] ++[]) [32]=gX []:=by decide
theorem FA{x:Ex}(h:CE x):Lib.trimSuffix ([114,101,116,117,114,110,32] ++bw [x]) [32]=gX [x]:=by
 obtain⟨t,c,e,b⟩:=(uj x h.1 h.2).la;unfold gX;rw[a0,e];unfold Lib.trimSuffix;rw[xj]
 ·rfl
 ·intro h
  unfold Lib.hasSuffix at h;obtain⟨q,a⟩:=List.isSuffixOf_iff_suffix.1 h;rw[←xM]at a;have:=(List.append_inj' a rfl).2;simp only[List.cons.injEq,yr]at this;exact b this.symm
end Go.Avm
namespace Go.Avm
open Go.Proofs
def Kb(P:Program)(a t:Bool)(h:a=t):cf P:= .val (dB a) (dB t) (by rw[h])
theorem Uc:al Pg 89 [.int .u8 19] [.str [45], .int .i64 11]:=qV {} 709297
theorem Ud:al Pg 89 [.int .u8 20] [.str [126], .int .i64 11]:=qV {} 709297
theorem Ue:al Pg 89 [.int .u8 21] [.str [33], .int .i64 11]:=qV {} 709297
theorem Ya{o:Int}(b:1≤o)(h2:o≤18):al Pg 89 [.int .u8 o] [.str (dE o au).1, .int .i64 (dE o au).2]:=by
 have a:o=1∨o=2∨o=3∨o=4∨o=5∨o=6∨o=7∨o=8∨o=9∨o=10∨o=11∨o=12∨o=13∨o=14∨o=15∨o=16∨o=17∨o=18:=by omega
 rcases a with rfl|rfl|rfl|rfl|rfl|rfl|rfl|rfl|rfl|rfl|rfl|rfl|rfl|rfl|rfl|rfl|rfl|rfl
 ·exact Lo
 ·exact Lp
 ·exact Lq
 ·exact Lr
 ·exact Ls
 ·exact Lt
 ·exact Lu
 ·exact Lv
 ·exact Lw
 ·exact Dz
 ·exact DA
 ·exact DB
 ·exact DC
 ·exact DD
 ·exact DE
 ·exact DF
 ·exact DG
 ·exact DH
theorem YR{o:Int}(b:1≤o)(h2:o≤18):1≤(dE o au).2∧(dE o au).2≤10∧(dE o au).1.length≤2:=by
 have a:o=1∨o=2∨o=3∨o=4∨o=5∨o=6∨o=7∨o=8∨o=9∨o=10∨o=11∨o=12∨o=13∨o=14∨o=15∨o=16∨o=17∨o=18:=by omega
 rcases a with rfl|rfl|rfl|rfl|rfl|rfl|rfl|rfl|rfl|rfl|rfl|rfl|rfl|rfl|rfl|rfl|rfl|rfl<;>decide
theorem YS{o:Int}(h:o=19∨o=20∨o=21):al Pg 89 [.int .u8 o] [.str (A6 o), .int .i64 11]:=by
 rcases h with rfl|rfl|rfl
 ·exact Uc
 ·exact Ud
 ·exact Ue
section
variable{k o n p:Int}{nm:List UInt8}{xs:List D}
theorem WW(h:(k !=9)=true):al Pg 114 [.agg [.int .u8 k, .int .u8 o, .str nm, .int .i64 n, .int .i64 p, .ro xs]] [.int .i64 11]:=
 qV {hint:=qT 114 [(7,Kb Pg (k !=9) true h)]} 709297
theorem WY{t:List UInt8}{b:Int}(h:al Pg 89 [.int .u8 o] [.str t, .int .i64 b]):al Pg 114 [.agg [.int .u8 9, .int .u8 o, .str nm, .int .i64 n, .int .i64 p, .ro xs]] [.int .i64 b]:=
 qV {hint:=qT 114 [(11, .call 89 _ _ h)]} 709297
end
theorem WZ:∀x:Ex,hG x=true→al Pg 114 [ez x] [.int .i64 (cn x)]
 | .mk k o nm n p xs,h=>by
  rw[ez,cn];cases a:(k==9)with
  |false=>exact WW (by simp[bne,a])
  |true=>
   obtain rfl:=eq_of_beq a;rw[hG]at h;have h:((9:Int)==9&&(decide (1≤o)&&(decide (o≤18)&&(nm==[]&&(n==0&&(decide (xs.length=2)&&gk xs))))))=true:=h;simp only[xL,xm,x6]at h;obtain⟨_,b,h2,_⟩:=h;exact WY (Ya b h2)
theorem Ed:∀l:List Ex,gk l=true→∀x∈l,hG x=true
 |[],_,_,hm=>by cases hm
 |y::r,h,x,hm=>by
  rw[gk,xL]at h;rcases xX.1 hm with e|hm
  ·rw[e];exact h.1
  ·exact Ed r h.2 x hm
section
variable{a b n p k s:Int}{nm t:List UInt8}{xs:List D}
section
variable(c:al Pg 114 [.agg [.int .u8 a, .int .u8 b, .str nm, .int .i64 n, .int .i64 p, .ro xs]] [.int .i64 s])(h2:al Pg 59 [.agg [.int .u8 a, .int .u8 b, .str nm, .int .i64 n, .int .i64 p, .ro xs]] [.str t])
include c h2
theorem Mu(d:t.length≤100000000)(h:decide (s<k)=true):al Pg 90 [.agg [.int .u8 a, .int .u8 b, .str nm, .int .i64 n, .int .i64 p, .ro xs], .int .i64 k] [.str ([40] ++t ++[41])]:=
 qV {hint:=qT 90 [(6, .call 114 _ _ c),(8,Kb Pg (decide (s<k)) true h),(10, .call 59 _ _ h2),(11, .cat [40] t (by simp only[xD,xF];omega)),(12, .cat ([40] ++t) [41] (by simp only[xC,xD,xF];omega))]} 709297
theorem Mv(h:decide (s<k)=false):al Pg 90 [.agg [.int .u8 a, .int .u8 b, .str nm, .int .i64 n, .int .i64 p, .ro xs], .int .i64 k] [.str t]:=
 qV {hint:=qT 90 [(6, .call 114 _ _ c),(8,Kb Pg (decide (s<k)) false h),(14, .call 59 _ _ h2)]} 709297
end
end
theorem v8{x:Ex}(d:hG x=true)(h:al Pg 59 [ez x] [.str (cG x)])(e:(cG x).length≤100000000)(k:Int):al Pg 90 [ez x, .int .i64 k] [.str (wT k x)]:=by
 have b:=WZ x d;unfold wT;obtain⟨a,o,nm,n,p,xs⟩:=x;cases c:decide (cn (.mk a o nm n p xs)<k)with
 |true=>exact Mu b h e c
 |false=>exact Mv b h c
section
variable{o n p:Int}{nm t u v:List UInt8}{xs:List D}
theorem W0(h:al Pg 60 [.int .i64 n, .int .i64 10] [.str t]):al Pg 59 [.agg [.int .u8 1, .int .u8 o, .str nm, .int .i64 n, .int .i64 p, .ro xs]] [.str t]:=
 qV {hint:=qT 59 [(11, .call 60 _ _ h)]} 709297
theorem Uf:al Pg 59 [.agg [.int .u8 2, .int .u8 o, .str nm, .int .i64 1, .int .i64 p, .ro xs]] [.str [116,114,117,101]]:=
 qV {} 709297
theorem Ug:al Pg 59 [.agg [.int .u8 2, .int .u8 o, .str nm, .int .i64 0, .int .i64 p, .ro xs]] [.str [102,97,108,115,101]]:=
 qV {} 709297
theorem W2:al Pg 59 [.agg [.int .u8 3, .int .u8 o, .str nm, .int .i64 n, .int .i64 p, .ro xs]] [.str nm]:=
 qV {} 709297
theorem W3(h:al Pg 58 [.ro xs] [.str t])(a:nm.length≤100)(h2:t.length≤100000000):al Pg 59 [.agg [.int .u8 4, .int .u8 o, .str nm, .int .i64 n, .int .i64 p, .ro xs]] [.str (nm ++[91] ++t ++[93])]:=
 qV {hint:=qT 59 [(26, .cat nm [91] (by simp only[xD,xF];omega)),(29, .call 58 _ _ h),(30, .cat (nm ++[91]) t (by simp only[xC,xD,xF];omega)),(31, .cat (nm ++[91] ++t) [93] (by simp only[xC,xD,xF];omega))]} 709297
theorem W4(h:al Pg 58 [.ro xs] [.str t])(a:nm.length≤100)(h2:t.length≤100000000):al Pg 59 [.agg [.int .u8 5, .int .u8 o, .str nm, .int .i64 n, .int .i64 p, .ro xs]] [.str (nm ++[40] ++t ++[41])]:=
 qV {hint:=qT 59 [(36, .cat nm [40] (by simp only[xD,xF];omega)),(39, .call 58 _ _ h),(40, .cat (nm ++[40]) t (by simp only[xC,xD,xF];omega)),(41, .cat (nm ++[40] ++t) [41] (by simp only[xC,xD,xF];omega))]} 709297
theorem W5:al Pg 59 [.agg [.int .u8 6, .int .u8 o, .str nm, .int .i64 n, .int .i64 p, .ro xs]] [.str [114,101,97,100,40,41]]:=
 qV {} 709297
theorem W6(a:nm.length≤100):al Pg 59 [.agg [.int .u8 7, .int .u8 o, .str nm, .int .i64 n, .int .i64 p, .ro xs]] [.str ([108,101,110,40] ++nm ++[41])]:=
 qV {hint:=qT 59 [(48, .cat [108,101,110,40] nm (by simp only[xD,xF];omega)),(49, .cat ([108,101,110,40] ++nm) [41] (by simp only[xC,xD,xF];omega))]} 709297
theorem W7{c e b a k:Int}{f:List UInt8}{d:List D}(g:al Pg 89 [.int .u8 o] [.str u, .int .i64 k])(h:al Pg 90 [.agg [.int .u8 c, .int .u8 e, .str f, .int .i64 b, .int .i64 a, .ro d], .int .i64 11] [.str t])(i:u.length≤100)(h2:t.length≤100000000):al Pg 59 [.agg [.int .u8 8, .int .u8 o, .str nm, .int .i64 n, .int .i64 p, .ro [.agg [.int .u8 c, .int .u8 e, .str f, .int .i64 b, .int .i64 a, .ro d]]]] [.str (u ++t)]:=
 qV {hint:=qT 59 [(53, .call 89 _ _ g),(66, .call 90 _ _ h),(67, .cat u t (by omega))]} 709297
theorem W8{i j f b e r c q k a:Int}{m l:List UInt8}{g d:List D}(w:al Pg 89 [.int .u8 o] [.str u, .int .i64 k])(s:IntKind.i64.wrap (k+1)=a)(h:al Pg 90 [.agg [.int .u8 i, .int .u8 j, .str m, .int .i64 f, .int .i64 b, .ro g], .int .i64 k] [.str t])(h':al Pg 90 [.agg [.int .u8 e, .int .u8 r, .str l, .int .i64 c, .int .i64 q, .ro d], .int .i64 a] [.str v])(x:u.length≤100)(h2:t.length≤100000000)(y:v.length≤100000000):al Pg 59 [.agg [.int .u8 9, .int .u8 o, .str nm, .int .i64 n, .int .i64 p, .ro [.agg [.int .u8 i, .int .u8 j, .str m, .int .i64 f, .int .i64 b, .ro g], .agg [.int .u8 e, .int .u8 r, .str l, .int .i64 c, .int .i64 q, .ro d]]]] [.str (t ++[32] ++u ++[32] ++v)]:=
 qV {hint:=qT 59 [(53, .call 89 _ _ w),(75, .call 90 _ _ h),(76, .cat t [32] (by simp only[xD,xF];omega)),(78, .cat (t ++[32]) u (by simp only[xC,xD,xF];omega)),(79, .cat (t ++[32] ++u) [32] (by simp only[xC,xD,xF];omega)),(85, .val (dI (IntKind.i64.wrap (k+1))) (dI a) (by rw[s])),(86, .call 90 _ _ h'),(87, .cat (t ++[32] ++u ++[32]) v (by simp only[xC,xD,xF];omega))]} 709297
end
abbrev Qk(es a:List D)(i:Nat):List (Nat×AV):=[(3, .vec 400000 i 1 a),(6, .d (.ro es)),(7,dN es.length),(8,dN i)]
section
variable(es a:List D)(i:Nat)
theorem Ql(h:decide (i<es.length)=false):RE 20 (lO 58 3) (Qk es a i) [(400000,⟨i,none⟩)] (.exit 0) [(3, .vec 400000 i 1 a)] [(400000,⟨i,none⟩)]:=
 qE {hint:=qT 58 [(9,gn Pg i es.length false h)]} 58 600000
theorem W9(h:decide (i<es.length)=true)(d:i<1000000)(e:a.length=i){k o n p:Int}{nm t:List UInt8}{xs:List D}(b:es[((i:Nat):Int).toNat]? =some (.agg [.int .u8 k, .int .u8 o, .str nm, .int .i64 n, .int .i64 p, .ro xs]))(c:al Pg 59 [.agg [.int .u8 k, .int .u8 o, .str nm, .int .i64 n, .int .i64 p, .ro xs]] [.str t]):RE 20 (lO 58 3) (Qk es a i) [(400000,⟨i,none⟩)] .normal (Qk es (a ++[.str t]) (i+1)) [(400000,⟨i+1,none⟩)]:=
 qE {hint:=qT 58 [(9,gn Pg i es.length true h),(10, .idx es ((i:Nat):Int) _ (by omega) b),(14, .call 59 _ _ c),(16, .app a 1 (by omega)),(17,cy Pg i (by omega))]} 58 600000
end
theorem Uh(xs:List Ex)(z:xs.length<1000000):∀(r:List Ex)(i:Nat)(a:List D),xs.drop i=r→a.length=i→(∀x∈r,al Pg 59 [ez x] [.str (cG x)])→RL 20 (lO 58 3) (Qk (gZ xs) a i) [(400000,⟨i,none⟩)] (.exit 0) [(3, .vec 400000 (i+r.length) 1 (a ++r.map fun x=> .str (cG x)))] [(400000,⟨i+r.length,none⟩)]
 |[],i,a,c,s,l,b,X,e,d=>by
  have t:xs.length≤i:=yI.1 c;have:=aU (Ql (gZ xs) a i (by rw[ic];simp only[xO,xh];omega) b X e d) (by simp);simpa using this
 |x::r,i,a,c,s,l,b,X,e,d=>by
  have t:i<xs.length:=by
   rcases yJ i xs.length with h|h
   ·exact h
   ·rw[yI.2 h]at c;cases c
  have A:xs[i]? =some x:=by
   have:=congrArg (fun q=>q[0]?) c;simpa using this
  have j:xs.drop (i+1)=r:=by
   have:=congrArg List.tail c;simpa using this
  have h2:=Uh xs z r (i+1) (a ++[.str (cG x)]) j (by simp;omega) (fun y v=>l y (xW _ v)) b X e d;have m:=l x (x0 ..);have f:decide (i<(gZ xs).length)=true:=by rw[ic];simp only[xO,x6];omega
  have g:(gZ xs)[((i:Nat):Int).toNat]? =some (ez x):=by rw[xo,ic,xP,A];rfl
  have w:i+1+r.length=i+(x::r).length:=by simp only[xD];omega
  have u:a ++[.str (cG x)] ++(r.map fun x=>D.str (cG x))=a ++((x::r).map fun x=>D.str (cG x)):=by simp
  rw[w,u]at h2;obtain⟨k,o,nm,n,p,ys⟩:=x;exact aR (W9 (gZ xs) a i f (by omega) s g m b X e d) h2
noncomputable def Xa{es a:List D}{n:Nat}(h:RL 20 (lO 58 3) (Qk es [] 0) [(400000,⟨0,none⟩)] (.exit 0) [(3, .vec 400000 n 1 a)] [(400000,⟨n,none⟩)]):dy Pg:=
 ⟨20,bG Pg 58 3,Qk es [] 0,fun _=>[(400000,⟨0,none⟩)], .exit 0,[(3, .vec 400000 n 1 a)],fun _=>[(400000,⟨n,none⟩)],fun b X c d=>(h b X c d).aw⟩
theorem Ui{es a:List D}{n:Nat}{t:List UInt8}(h:RL 20 (lO 58 3) (Qk es [] 0) [(400000,⟨0,none⟩)] (.exit 0) [(3, .vec 400000 n 1 a)] [(400000,⟨n,none⟩)])(b:al Pg 17 [.ro a, .str [44,32]] [.str t]):al Pg 58 [.ro es] [.str t]:=
 qV {nils2:=fun g q=>if g=58 then (if q=2 then [{k:=0,i:=3,K:=400000,sz:=1,slot:=true}]else [])else [],loops:=fun g q=>if g=58 then (if q=3 then some (Xa h)else none)else none,hint:=qT 58 [(19, .call 17 _ _ b)]} 709297
theorem Ee(xs:List Ex)(b:xs.length<1000000)(c:∀x∈xs,al Pg 59 [ez x] [.str (cG x)])(d:(bw xs).length≤100000000):al Pg 58 [.ro (gZ xs)] [.str (bw xs)]:=by
 have a:=NG (xs.map cG) [44,32] (by rw[xO];omega) (by rw[Ea];omega);rw[Ea,yq]at a;have h:=Uh xs b xs 0 [] yM rfl c;simp only[xn]at h;exact Ui h a
mutual
theorem Uj:∀x:Ex,hG x=true→NE x→ly x<1000000→al Pg 59 [ez x] [.str (cG x)]
 | .mk k o nm n p xs,h,g,A=>by
  have hle:=(uj (.mk k o nm n p xs) h g).len;have D:gk xs=true→A8 xs:=fun c=>by rw[NE]at g;exact g.2.2
  rw[ly]at A;have m:gk xs=true→∀x∈xs,al Pg 59 [ez x] [.str (cG x)]:=fun c=>NH xs c (D c) (by omega)
  have d:gk xs=true→∀x∈xs,Ka x:=fun c=>Cu xs c (D c)
  have f:gk xs=true→∀x∈xs,hG x=true:=fun c x hm=>Ed xs c x hm
  have K:=An xs
  have q:gk xs=true→al Pg 58 [.ro (gZ xs)] [.str (bw xs)]∧(bw xs).length≤100000000:=fun c=>by
   have:=n8 xs (d c);exact⟨Ee xs (by omega) (m c) (by omega),by omega⟩
  rw[NE]at g;obtain⟨u,e,_⟩:=g;rw[hG]at h;cases E:(k==1)with
  |true=>
   obtain rfl:=eq_of_beq E;have et:cG (.mk 1 o nm n p xs)=l8 n:=by rw[cG];rfl
   rw[et];exact W0 (Ub (u rfl))
  |false=>
  rw[E,xI]at h;cases h2:(k==2)with
  |true=>
   rw[h2]at h;simp only[xR,xL,xy,xm,zB]at h;obtain⟨rfl,rfl,r,rfl⟩:=h;obtain rfl:=eq_of_beq h2;rcases r with rfl|rfl
   ·have et:cG (.mk 2 0 [] 0 p [])=vY:=by rw[cG];rfl
    rw[et];exact Ug
   ·have et:cG (.mk 2 0 [] 1 p [])=D4:=by rw[cG];rfl
    rw[et];exact Uf
  |false=>
  rw[h2,xI]at h;cases G:(k==3)with
  |true=>
   obtain rfl:=eq_of_beq G;have et:cG (.mk 3 o nm n p xs)=nm:=by rw[cG];rfl
   rw[et];exact W2
  |false=>
  rw[G,xI]at h;cases s:(k==4)with
  |true=>
   rw[s]at h;simp only[xR,xL,xm,x6]at h;obtain⟨rfl,rfl,l,c⟩:=h;obtain rfl:=eq_of_beq s;have r:=fa (e (.inr (.inl rfl)));have et:cG (.mk 4 0 nm 0 p xs)=nm ++[91] ++bw xs ++[93]:=by rw[cG];show nm ++91::(bw xs ++[93])=_;simp
   rw[et];exact W3 (q c).1 (by omega) (q c).2
  |false=>
  rw[s,xI]at h;cases B:(k==5)with
  |true=>
   rw[B]at h;simp only[xR,xL,xm]at h;obtain⟨rfl,rfl,c⟩:=h;obtain rfl:=eq_of_beq B;have r:=fa (e (.inr (.inr (.inl rfl))));have et:cG (.mk 5 0 nm 0 p xs)=nm ++[40] ++bw xs ++[41]:=by rw[cG];show nm ++40::(bw xs ++[41])=_;simp
   rw[et];exact W4 (q c).1 (by omega) (q c).2
  |false=>
  rw[B,xI]at h;cases C:(k==6)with
  |true=>
   obtain rfl:=eq_of_beq C;have et:cG (.mk 6 o nm n p xs)=[114,101,97,100,40,41]:=by rw[cG];rfl
   rw[et];exact W5
  |false=>
  rw[C,xI]at h;cases F:(k==7)with
  |true=>
   obtain rfl:=eq_of_beq F;have r:=fa (e (.inr (.inr (.inr rfl))));have et:cG (.mk 7 o nm n p xs)=[108,101,110,40] ++nm ++[41]:=by rw[cG];show Az ++40::(nm ++[41])=_;simp[Az]
   rw[et];exact W6 (by omega)
  |false=>
  rw[F,xI]at h;cases t:(k==8)with
  |true=>
   rw[t]at h;simp only[xR,xL,xy,xm,x6]at h;obtain⟨w,rfl,rfl,l,c⟩:=h;obtain rfl:=eq_of_beq t;obtain⟨y,rfl⟩:=yE.1 l;have hm:=xK.2 (rfl:y=y);have V:=(d c y hm).len;rw[bn,bn]at A;have R:=v8 (f c y hm) (m c y hm) (by omega) 11;have X:=ui y 11;have w:o=19∨o=20∨o=21:=by omega
   have et:cG (.mk 8 o [] 0 p [y])=A6 o ++wT 11 y:=by
    rw[cG];show A6 o ++Jg [y]=_;rw[Jg];rfl
   rw[et];obtain⟨S,N,O,L,H,M⟩:=y;exact W7 (YS w) R (by rcases w with rfl|rfl|rfl<;>decide) (by omega)
  |false=>
  rw[t,xI]at h;simp only[xL,xm,x6]at h;obtain⟨rfl,j,i,rfl,rfl,l,c⟩:=h;obtain⟨a,b,rfl⟩:=vN l;have z:a∈[a,b]:=x0 ..;have v:b∈[a,b]:=xW _ (xK.2 rfl);have I:=(d c a z).len;have T:=(d c b v).len;rw[bn,bn,bn]at A;obtain⟨k1,k2,k3⟩:=YR j i
  have et:cG (.mk 9 o [] 0 p [a,b])=wT (dE o au).2 a ++[32] ++(dE o au).1 ++[32] ++wT ((dE o au).2+1) b:=by
   rw[cG];show Jh (dE o au).1 (dE o au).2 [a,b]=_;rw[Jh,Qf];simp[wT]
  rw[et];have Y:=ui a (dE o au).2;have J:=ui b ((dE o au).2+1);have Q:=v8 (f c a z) (m c a z) (by omega) (dE o au).2;have Z:=v8 (f c b v) (m c b v) (by omega) ((dE o au).2+1);have P:(wT (dE o au).2 a).length≤100000000:=by omega
  have W:(wT ((dE o au).2+1) b).length≤100000000:=by omega
  have U:IntKind.i64.wrap ((dE o au).2+1)=(dE o au).2+1:=IntWalk.i64_in _ (by omega);obtain⟨S,N,O,L,H,M⟩:=a;obtain⟨y1,y2,y3,y4,y5,y6⟩:=b;exact W8 (Ya j i) U Q Z (by omega) P W
theorem NH:∀l:List Ex,gk l=true→A8 l→bn l<1000000→∀x∈l,al Pg 59 [ez x] [.str (cG x)]
 |[],_,_,_,_,hm=>by cases hm
 |y::r,h,a,b,x,hm=>by
  rw[gk,xL]at h;rw[A8]at a;rw[bn]at b;rcases xX.1 hm with e|hm
  ·rw[e];exact Uj y h.1 a.1 (by omega)
  ·exact NH r h.2 a.2 (by omega) x hm
end
end Go.Avm
namespace Go.Avm
open Go.Proofs
def bS(fs:List Fn)(W:List AV)(a:List Pt)(g:Gv)(i:Nat):CK:=⟨fs,i,W,0,⟨[],[],⟨[],0⟩,a⟩,g.vh+1,g.vs+1,g.vq+1,g.vp,g.vv+1⟩
theorem YT{X:cA}{env:Nat→AV}(fs:List Fn)(W:List AV)(c:List Pt)(g:Gv)(i:Nat)(d:aK)(r:W[i]? =some .nils)(b:aa):Weak X ⟨env,ag (K7 fs W c g i ++[(600003,d)]) b⟩ ⟨env,ag (ck (bS fs W c g i) ++[(600003,d)]) b⟩:=by
 have w:=jV (X:=X) (env:=env) (h:=ag (K7 fs W c g i ++[(600003,d)]) b) (C:=500191) (K:=500005) (a:=i) (sz:=4) (ces:=W) (by decide) (by simp[ag,aJ]) r;refine w.trans (ju fun k=> ?_);have e:(ag (K7 fs W c g i ++[(600003,d)]) b 500005).ver=g.vv:=by simp[ag,aJ]
 have s:(ag (K7 fs W c g i ++[(600003,d)]) b 500191).ver=1:=by simp[ag,aJ]
 rw[e,s];simp only[K7,ck,Dc,bS,lg,xk,xF,kp,gG,cU,a8,x8,xn,ag,aJ];by_cases n:k=500000
 ·subst n;simp
 by_cases l:k=499904
 ·subst l;simp
 by_cases h2:k=500002
 ·subst h2;simp
 by_cases o:k=500003
 ·subst o;simp
 by_cases f:k=500004
 ·subst f;simp
 by_cases q:k=500005
 ·subst q;simp
 by_cases p:k=500382
 ·subst p;simp
 by_cases m:k=500191
 ·subst m;simp
 by_cases j:k=600003
 ·subst j;simp
 simp only[n,l,h2,o,f,q,p,m,j,zS];simp
theorem Jp(n:Nat)(h:aa):∀r:List D,eD (view (n+1) h) (r.map .d)=some (r,[])
 |[]=>rfl
 |x::r=>by
  rw[xN,eD,Jp n h r];rfl
theorem sF{h:aa}{K v sz n:Nat}{ds:List D}(a:h K=⟨v,some (.arr sz (ds.map .d))⟩):view (n+2) h (.sl K v 0 ds.length sz)=some (.ro ds,[K]):=by
 unfold view;simp only[a,true_and,xO,xb,xS,yS,yM];rw[yh (by simp),Jp];rfl
def Cv(vs:List Vr):AV:= .d (.ro (vs.map rC))
theorem YU{X:cA}{env:Nat→AV}(S:CK)(f:S.deep=0)(r:S.fn<S.W.length)(e:aK)(b:aa):Weak X ⟨env,ag (ck S ++[(600003,e)]) b⟩ ⟨env,ag (iK S.fs (S.W.set S.fn (Cv S.c.vars)) S.c.pts ⟨S.vh,S.vs,S.vq,S.vv+1,S.vp⟩ S.fn (.mp 500002 S.vh) (.mp 500003 S.vs) (.mp 500004 S.vq) ++[(600003,e)]) b⟩:=by
 have t:S.c.vars.map A2=(S.c.vars.map rC).map .d:=by simp[A2]
 have u:S.c.vars.length=(S.c.vars.map rC).length:=by simp
 have w:=gT (X:=X) (env:=env) (h:=ag (ck S ++[(600003,e)]) b) (C:=500191) (a:=S.fn) (n:=2) (ces:=S.W.set S.fn (lg S.vv S.c.vars)) (x:=lg S.vv S.c.vars) (d:= .ro (S.c.vars.map rC)) (ks:=[500005]) (by decide) (by simp[ag,aJ]) (by simp[r]) rfl (by
  unfold lg;rw[u];exact sF (n:=0) (by rw[←t];simp[ag,aJ]))
 refine w.trans (ju fun k=> ?_);have s:(ag (ck S ++[(600003,e)]) b 500191).ver=1:=by simp[ag,aJ]
 rw[s,List.set_set]
 have q:∀k,aJ (ap (ag (ck S ++[(600003,e)]) b) (kill (ag (ck S ++[(600003,e)]) b) [500005])) 500191 ⟨1,some (.arr 1 (S.W.set S.fn (.d (.ro (S.c.vars.map rC)))))⟩ k=if k=500191 then ⟨1,some (.arr 1 (S.W.set S.fn (.d (.ro (S.c.vars.map rC)))))⟩else if k=500005 then ⟨S.vv+1,none⟩else ag (ck S ++[(600003,e)]) b k:=fun k=>by
  simp only[aJ];split
  ·rfl
  ·rw[bz]
   simp only[xK];split
   ·rename_i g
    subst g;simp[ag,aJ]
   ·rfl
 rw[q];simp only[iK,ck,Dc,f,Cv,x8,xn,ag,aJ];by_cases f:k=500000
 ·subst f;simp
 by_cases l:k=499904
 ·subst l;simp
 by_cases h2:k=500002
 ·subst h2;simp
 by_cases o:k=500003
 ·subst o;simp
 by_cases i:k=500004
 ·subst i;simp
 by_cases g:k=500005
 ·subst g;simp
 by_cases p:k=500382
 ·subst p;simp
 by_cases m:k=500191
 ·subst m;simp
 by_cases j:k=600003
 ·subst j;simp
 simp only[f,l,h2,o,i,g,p,m,j,zS];simp
noncomputable def Xb{S:CK}{fs:List Fn}{i:Nat}{nm:List UInt8}{ps:List Pm}{a:Int}{d:List aP}{p:Int}{x:aA}{l':List (Nat×AV)}{c:List (Nat×aK)}(h:RL 69 (lO 27 5) (Ng fs i ps 0) (ck S ++fB nm ps a d p) x l' c):dy Pg:=
 ⟨69,bG Pg 27 5,Ng fs i ps 0,fun _=>ck S ++fB nm ps a d p,x,l',fun _=>c,fun b X f e=>(h b X f e).aw⟩
abbrev Xc(S S':CK)(l:List aP):Prop:=HC 49 [aE, .d (.ro (dH l))] (ck S) [] (ck S')
section
variable{S S':CK}(h:CKok S)(fs:List Fn)(i:Nat)(nm:List UInt8)(ps:List Pm)(a:Int)(b:List aP)(p:Int)
include h
theorem YV(h':CKok S')(c:∀(d:aa)(X:cA),X.P=Pg→X.N=69→LW X (lO 27 5) ⟨ak (Ng fs i ps 0),ag (ck S ++fB nm ps a b p) d⟩ fun e g=>e= .exit 2∧g=⟨ak (HI fs i),ag (ck S' ++fB nm ps a b p) d⟩):
    ∀(d:aa)(X:cA),X.P=Pg→X.N=69→AW X XZ ⟨ak (qd fs i ++[(3, .ptr 600003 1 0 0 1)]),ag (ck S ++fB nm ps a b p) d⟩ fun e g=>e= .normal∧g=⟨ak (HI fs i),ag (ck S' ++fB nm ps a b p) d⟩:=
 qE ({loops:=fun f q=>if f=27 then (if q=5 then some (Xb c)else none)else none}) 27 599000 (gH h h' rfl rfl rfl rfl rfl rfl)
theorem Xd(g:Gv)(q e:Int)(c:HX 49 [aE, .d (.ro (dH b))] (ck S) (aB q e) (cP g)):
    ∀(f:aa)(X:cA),X.P=Pg→X.N=69→AW X PC ⟨ak (HI fs i),ag (ck S ++fB nm ps a b p) f⟩ fun j k=>j= .panic (aB q e)∧k=⟨ak [],ag (cP g ++fG) f⟩:=
 qE {pans:=an Pg [(27,9,599000,⟨3,some (bh c),[]⟩)]} 27 599000 (li h rfl rfl rfl rfl rfl rfl)
variable(h':CKok S')(c:Xc S S' b)
include h' c
theorem Xe(e:(a==0)=true):∀(d:aa)(X:cA),X.P=Pg→X.N=69→AW X PC ⟨ak (HI fs i),ag (ck S ++fB nm ps a b p) d⟩ fun f g=>f= .normal∧g=⟨ak (qd fs i),ag (ck S' ++fG) d⟩:=
 qE {hint:=qT 27 [(59,qB e)],calls:=tC [(27,56,599207,ab c),(27,67,599690,bc rfl (aV p 12))]} 27 599000 (gH h h' rfl rfl rfl rfl rfl rfl)
theorem Xf(f:(a==0)=false)(j:jg b true):∀(d:aa)(X:cA),X.P=Pg→X.N=69→AW X PC ⟨ak (HI fs i),ag (ck S ++fB nm ps a b p) d⟩ fun e g=>e= .normal∧g=⟨ak (qd fs i),ag (ck S' ++fG) d⟩:=
 qE {hint:=qT 27 [(59,qB f)],calls:=tC [(27,56,599207,ab c),(27,63,599621,bc rfl j),(27,67,599828,bc rfl (aV p 12))]} 27 599000 (gH h h' rfl rfl rfl rfl rfl rfl)
theorem Xg(f:(a==0)=false)(j:jg b false):∀(d:aa)(X:cA),X.P=Pg→X.N=69→AW X PC ⟨ak (HI fs i),ag (ck S ++fB nm ps a b p) d⟩ fun e g=>e= .panic (aB p 12)∧g=⟨ak [],ag (cP S'.gv ++fG) d⟩:=
 qE {hint:=qT 27 [(59,qB f)],calls:=tC [(27,56,599207,ab c),(27,63,599621,bc rfl j)],pans:=an Pg [(27,10,599207,⟨10,some (bh (b7 p 12)),[]⟩)]} 27 599000 (li h rfl rfl rfl rfl rfl rfl)
end
theorem Xh{fs:List Fn}{W:List AV}{a:List Pt}{g:Gv}{f:Nat}{b d c:AV}(h:p0 W)(k:XS b)(j:XS d)(e:XS c)(i:Nat)(l:i<1000000):RE 69 PD (qd fs i) (iK fs W a g f b d c ++fG) .normal (qd fs (i+1)) (iK fs W a g f b d c ++fG):=
 qE {hint:=qT 27 [(68,cy Pg i (by omega))]} 27 599000 (Dt rfl rfl rfl rfl rfl (e7 h rfl k j e) (e7 h rfl k j e) rfl rfl)
end Go.Avm
namespace Go.Avm
open Go.Proofs
structure Jq(fs:List Fn)(m:Nat):Prop where
 len:fs.length<1000000
 par:∀f∈fs,f.ps.length≤6
 nod:∀f∈fs,(f.ps.map (·.nm)).Nodup
 nml:∀f∈fs,∀p∈f.ps,p.nm.length≤1000000
 sh:∀f∈fs,jf m f.bd
 m:m<1000000
theorem Ef:∀{m:Nat}{l:List aP},jf m l→l.length<1000000∧∀x∈l,mo x
 |0,_,h=>h.elim
 |_+1,_,h=>⟨h.1,fun x a=>by
  have h2:=h.2 x a;obtain⟨k,id,nm,ty,n,p,es,b,c⟩:=x;exact M4 h2.1 h2.2⟩
theorem NI{fs:List Fn}{m:Nat}(ok:Jq fs m){W:List AV}{a:List Pt}{g:Gv}{i:Nat}(c:i<fs.length)(d:W.length=fs.length)(b:p0 W)(hp:a.length<1000000000):CKok (bS fs W a g i) where
 fn:=c
 W:=d
 dat:=b
 len:=ok.len
 par:=ok.par
 vars:=xz _
 seen:=fun p hp=>by cases hp
 inc:=List.Pairwise.nil
 nms:=y8
 nml:=fun p hp=>by cases hp
 had:=fun p hp=>by cases hp
 sk:=y8
 sb:=y8
 sc:=fun p hp=>by cases hp
 sv:=fun p hp=>by cases hp
 pts:=hp
theorem v9{B a:List (Nat×aK)}(hB:B.map (·.1)=Ni)(R:aa)(k:Nat)(b:k∈Ni):ag (B ++a) R k=ag B (ag (B ++a) R) k:=by
 have c:ag (B ++a) R k=ag B (ag a R) k:=by rw[lj R]
 rw[c];exact gB B _ _ (by rw[hB];exact b)
theorem Jr{k:Nat}(a:1000000≤k):k∉Ni:=fun h=>by
 simp only[Ni,xX,yD,zG]at h;omega
theorem qj{A B a:List (Nat×aK)}(c:A.map (·.1)=Ni)(hB:B.map (·.1)=Ni)(d:a.map (·.1)=[600003])(R:aa)(k:Nat)(b:1000000≤k):ag (B ++a) R k=ag A R k:=by
 rw[lj R,cg B _ (by rw[hB];exact Jr b),cg A _ (by rw[c];exact Jr b),cg a _ (by rw[d,xK];omega)]
theorem gY(A:List (Nat×aK))(a:aa):ag (A ++fZ) (eV 1000000 a)=ag A (eV 1000000 a):=by
 rw[lj a];congr 1;funext k;simp only[fZ,ag,aJ];by_cases h:k=600003
 ·subst h
  rfl
 ·rw[xj h]
def Qm(fs:List Fn)(W:List AV)(b:List Pt)(g:Gv)(f:Nat)(c h d:AV)(i:Nat):TR (List Vr×List Pt)→Prop
 | .ok q=>q.2.length<1000000000∧∃a:Gv,RE 69 bB (qd fs i) (iK fs W b g f c h d) .normal (qd fs (i+1)) (iK fs (W.set i (Cv q.1)) q.2 a i (.mp 500002 a.vh) (.mp 500003 a.vs) (.mp 500004 a.vq))
 | .bad p e=>∃a:Gv,RE 69 bB (qd fs i) (iK fs W b g f c h d) (.panic (aB p e)) [] (cP a)
 | .out=>True
theorem cz(v:Nat):XS (.mp 500002 v):=fun ρ h _ _=>by simp only[aX,h]
theorem Xi(v:Nat):XS (.mp 500003 v):=fun ρ _ h _=>by simp only[aX,h]
theorem Xj(v:Nat):XS (.mp 500004 v):=fun ρ _ _ h=>by simp only[aX,h]
theorem Js{W:List AV}(h:p0 W)(i:Nat)(vs:List Vr):p0 (W.set i (Cv vs)):=fun x a=>by
 rcases xu a with a|rfl
 ·exact h x a
 ·exact .inr ⟨_,rfl⟩
section
variable{fs:List Fn}{m:Nat}(ok:Jq fs m){W:List AV}(u:W.length=fs.length)(d:p0 W){a:List Pt}(hp:a.length<1000000000)(g:Gv)(s:Nat){o t r:AV}(l:XS o)(n:XS t)(j:XS r){i:Nat}
include ok u d hp l n j
theorem Qn{nm:List UInt8}{ps:List Pm}{c:Int}{f:List aP}{p:Int}(w:fs[i]? =some ⟨nm,ps,c,f,p⟩)(z:W[i]? =some .nils){S1:CK}(y:CKok S1)
    (C:∀(e:aa)(X:cA),X.P=Pg→X.N=69→LW X (lO 27 5) ⟨ak (Ng fs i ps 0),ag (ck (bS fs W a g i) ++fB nm ps c f p) e⟩ fun x A=>x= .exit 2∧A=⟨ak (HI fs i),ag (ck S1 ++fB nm ps c f p) e⟩)
    (Q:aA→St→Prop) (R:aa) (X:cA) (q:X.P=Pg) (k:X.N=69) (B:AW X PC ⟨ak (HI fs i),ag (ck S1 ++fB nm ps c f p) R⟩ (uR 1 (CV (fun S'=>AW X PD S' Q) Q))):
    AW X bB ⟨ak (qd fs i),ag (iK fs W a g s o t r ++fZ) R⟩ Q:=by
 have v:i<fs.length:=(xE.1 w).1;rw[z8];refine eG ((X0 d l n j i true (by simpa using v) R X q k).mono ?_);rintro _ _ ⟨rfl,rfl⟩;refine eG (i8 (b:=true) rfl (fun _=>p7 ?_) (fun h=>by cases h));refine eG (kX (eG ((YC d l n j i nm ps c f p w R X q k).mono ?_)));rintro _ _ ⟨rfl,rfl⟩;refine eG ((YD d l n j i nm ps c f p R X q k).mono ?_);rintro _ _ ⟨rfl,rfl⟩;refine AW.weak (YT fs W a g i _ z R) (eG ((YV (NI ok v u d hp) fs i nm ps c f p y C R X q k).mono ?_));rintro _ _ ⟨rfl,rfl⟩;exact B
theorem Qo{f:Fn}(K:fs[i]? =some f)(hn:W[i]? =some .nils):Qm fs W a g s o t r i (iJ fs i f a):=by
 have T:i<fs.length:=(xE.1 K).1;have H:f∈fs:=x5 K;have P:=ok.nod f H;have S:=ok.par f H;have O:=ok.nml f H;have G:=ok.sh f H;have hm:=ok.m;have h0:=NI ok (g:=g) T u d hp;obtain⟨nm,ps,x,z,p⟩:=f;simp only at P S O G;obtain⟨S1,b,c5⟩:=Nh (fs:=fs) i nm ps x z p P S O _ 0 (bS fs W a g i) rfl (xz _) h0 rfl;rw[yM]at b;have a1:At ⟨fs,i,0⟩ S1:=⟨b.ok,b.fs,b.fn,b.deep⟩
 have cb:=Hl (Ef G).1 (Cd m ⟨fs,i,0⟩ z G (by simp) (by simp only;omega)) (Ef G).2 S1 a1;rw[b.c]at cb;have F:=rK m z G;have J:=fun Q R X C B hc=>Qn ok u d hp g s l n j (i:=i) K hn b.ok c5 Q R X C B hc
 unfold iJ;show Qm _ _ _ _ _ _ _ _ _ ((e5 ⟨fs,i,0⟩ z (ps.foldl CS.par ⟨[],[],⟨[],0⟩,a⟩)).bind fun c=>bif x==0||dV z then .ok (c.vars,c.pts)else .bad p 12);have ec:(bS fs W a g i).c=⟨[],[],⟨[],0⟩,a⟩:=rfl;rw[ec]at cb;revert cb;cases e5 ⟨fs,i,0⟩ z (ps.foldl CS.par ⟨[],[],⟨[],0⟩,a⟩)with
 |out=>exact fun _=>trivial
 |bad q e=>
  rintro⟨Z,c⟩;refine⟨Z,nS (M:=1000000) (N:=69) (l':=[]) ⟨rfl,rfl,rfl,rfl,e7 d rfl l n j,rfl⟩ rfl rfl fun h X C B=> ?_⟩;rw[←gY];refine J _ _ X C B ((Xd b.ok fs i nm ps x z p Z q e c _ X C B).mono ?_);rintro _ _ ⟨rfl,rfl⟩;exact⟨rfl,rfl,fun k D=>v9 rfl _ k D,fun k D=>(qj (A:=iK fs W a g s o t r) rfl rfl rfl _ k D).trans (congrFun (gY _ h).symm k)⟩
 |ok c=>
  rintro⟨y,v,I⟩;have e1:y.fs=fs:=v.fs.trans b.fs;have Y:y.fn=i:=v.fn.trans b.fn;have e3:y.deep=0:=v.deep.trans b.deep;have V:y.W=W:=v.W.trans b.W;have U:y.c=c:=v.c
  have E:(RE 69 PC (HI fs i) (ck S1 ++fB nm ps x z p) .normal (qd fs i) (ck y ++fG))→Qm fs W a g s o t r i (.ok (c.vars,c.pts)):=fun c9=>by
   refine⟨by rw[←U];exact v.ok.pts,⟨y.vh,y.vs,y.vq,y.vv+1,y.vp⟩,nS (M:=1000000) (N:=69) ⟨rfl,rfl,rfl,rfl,e7 d rfl l n j,e7 (Js d i _) rfl (cz _) (Xi _) (Xj _)⟩ rfl rfl fun h X C B=> ?_⟩;rw[←gY];refine J _ _ X C B ((c9 _ X C B).mono ?_);rintro _ _ ⟨rfl,rfl⟩;have w:=YU (X:=X) (env:=ak (qd fs i)) y e3 (by rw[Y,V,u];exact T) ⟨1,none⟩ (eV 1000000 h);rw[e1,Y,V,U]at w;refine AW.weak w ((Xh (Js d i _) (cz _) (Xi _) (Xj _) i (by have:=ok.len;omega) _ X C B).mono ?_);rintro _ _ ⟨rfl,rfl⟩;exact⟨rfl,rfl,fun k D=>v9 rfl _ k D,fun k D=>(qj (A:=iK fs W a g s o t r) rfl rfl rfl _ k D).trans (congrFun (gY _ h).symm k)⟩
  simp only[TR.bind];cases L:(x==0)with
  |true=>exact E (Xe b.ok fs i nm ps x z p v.ok I L)
  |false=>
   unfold mq at F;revert F;cases dV z with
   |true=>exact fun F=>E (Xf b.ok fs i nm ps x z p v.ok I L F)
   |false=>
    intro F;simp only[Bool.or_self,xI];refine⟨y.gv,nS (M:=1000000) (N:=69) (l':=[]) ⟨rfl,rfl,rfl,rfl,e7 d rfl l n j,rfl⟩ rfl rfl fun h X C B=> ?_⟩;rw[←gY];refine J _ _ X C B ((Xg b.ok fs i nm ps x z p v.ok I L F _ X C B).mono ?_);rintro _ _ ⟨rfl,rfl⟩;exact⟨rfl,rfl,fun k D=>v9 rfl _ k D,fun k D=>(qj (A:=iK fs W a g s o t r) rfl rfl rfl _ k D).trans (congrFun (gY _ h).symm k)⟩
end
def gr(a:List (List Vr))(n:Nat):List AV:=a.map Cv ++List.replicate (n-a.length) .nils
theorem FB{a:List (List Vr)}{n:Nat}(h:a.length≤n):(gr a n).length=n:=by
 simp only[gr,xC,xO,List.length_replicate];omega
theorem jF(a:List (List Vr))(n:Nat):p0 (gr a n):=fun x b=>by
 rcases xZ.1 b with b|b
 ·obtain⟨r,_,rfl⟩:=xi.1 b
  exact .inr ⟨_,rfl⟩
 ·exact .inl (List.eq_of_mem_replicate b)
theorem FC{a:List (List Vr)}{n:Nat}(h:a.length<n):(gr a n)[a.length]? =some .nils:=by
 unfold gr;rw[xV (by simp),xO,Nat.sub_self,List.getElem?_replicate,x9 (by omega)]
theorem FD{a:List (List Vr)}{n:Nat}(h:a.length<n)(r:List Vr):(gr a n).set a.length (Cv r)=gr (a ++[r]) n:=by
 unfold gr;rw[List.set_append_right _ _ (by simp),xO,Nat.sub_self,xY,xM];congr 1;obtain⟨k,b⟩:∃k,n-a.length=k+1:=⟨n-a.length-1,by omega⟩
 rw[b,List.replicate_succ,List.set_cons_zero,xC,xt,show n-(a.length+1)=k by omega];rfl
def Uk(fs:List Fn)(W:List AV)(a:List Pt)(g:Gv)(j:Nat)(c k h:AV)(i:Nat):TR (List (List Vr)×List Pt)→Prop
 | .ok q=>q.2.length<1000000000∧q.1.length=fs.length∧∃(b:Gv)(m:Nat)(l d f:AV),XS l∧XS d∧XS f∧RL 69 bB (qd fs i) (iK fs W a g j c k h) (.exit 0) [(0,aE)] (iK fs (gr q.1 fs.length) q.2 b m l d f)
 | .bad p e=>∃b:Gv,RL 69 bB (qd fs i) (iK fs W a g j c k h) (.panic (aB p e)) [] (cP b)
 | .out=>True
theorem Ul{fs:List Fn}{W:List AV}{c:List Pt}{g:Gv}{i:Nat}{d f e:AV}(o:p0 W)(r:XS d)(p:XS f)(n:XS e)(a:aa)(X:cA)(l:X.P=Pg)(m:X.N=69):AW X bB ⟨ak (qd fs fs.length),ag (iK fs W c g i d f e) a⟩ fun t S'=>t= .exit 0∧S'=⟨ak [(0,aE)],ag (iK fs W c g i d f e) a⟩:=by
 refine nS (M:=1000000) (N:=69) ⟨rfl,rfl,rfl,rfl,e7 o rfl r p n,e7 o rfl r p n⟩ rfl rfl (fun a X l m=> ?_) a X l m;rw[←gY,z8];refine eG ((X0 o r p n fs.length false (by simp) _ X l m).mono ?_);rintro _ _ ⟨rfl,rfl⟩;refine eG (i8 (b:=false) rfl (fun h=>by cases h) (fun _=>lK (uS ⟨⟨ak [(0,aE)],ag (iK fs W c g i d f e ++fZ) (eV 1000000 a)⟩, ?_,rfl,rfl,fun k j=>v9 rfl _ k j,fun k j=>(qj (A:=iK fs W c g i d f e) rfl rfl rfl _ k j).trans (congrFun (gY _ a).symm k)⟩)))
 exact nR (fun q s=>by
  rw[xK]at s;subst s;rfl) rfl
theorem NJ{fs:List Fn}{m:Nat}(ok:Jq fs m):∀(mR a:List Fn)(b:List (List Vr))(i:List Pt)(g:Gv)(s:Nat)(o t v:AV),fs=a ++mR→b.length=a.length→i.length<1000000000→XS o→XS t→XS v→
    Uk fs (gr b fs.length) i g s o t v a.length (cF fs a.length mR b i)
 |[],a,b,i,g,s,o,t,v,h,u,hp,y,w,x=>by
  have:fs=a:=by rw[h,yF]
  subst this;exact⟨hp,u,g,s,o,t,v,y,w,x,fun d X k j=>aU (Ul (jF _ _) y w x d X k j) (by simp)⟩
 |f::mR,a,b,i,g,s,o,t,v,h,u,hp,y,w,x=>by
  have I:a.length<fs.length:=by rw[h];simp
  have G:fs[a.length]? =some f:=by rw[h];simp
  have c:=Qo ok (FB (by omega)) (jF b fs.length) hp g s y w x G (by rw[←u];exact FC (by omega));simp only[cF];revert c;cases iJ fs a.length f i with
  |out=>exact fun _=>trivial
  |bad p e=>exact fun ⟨n,c⟩=>⟨n,fun d X k j=>aU (c d X k j) (by simp)⟩
  |ok q=>
   rintro⟨K,n,c⟩
   have F:(gr b fs.length).set a.length (Cv q.1)=gr (b ++[q.1]) fs.length:=by
    rw[←u];exact FD (by omega) q.1
   rw[F]at c;have l:=NJ ok mR (a ++[f]) (b ++[q.1]) q.2 n a.length (.mp 500002 n.vh) (.mp 500003 n.vs) (.mp 500004 n.vq) (by rw[h];simp) (by simp[u]) K (cz _) (Xi _) (Xj _);have L:(a ++[f]).length=a.length+1:=by simp
   rw[L]at l;simp only[TR.bind];revert l;cases cF fs (a.length+1) mR (b ++[q.1]) q.2 with
   |out=>exact fun _=>trivial
   |bad p e=>exact fun ⟨z,l⟩=>⟨z,fun d X k j=>aR (c d X k j) (l d X k j)⟩
   |ok r=>exact fun ⟨M,E,z,B,N,D,H,A,J,C,l⟩=>⟨M,E,z,B,N,D,H,A,J,C,fun d X k j=>aR (c d X k j) (l d X k j)⟩
end Go.Avm
namespace Go.Avm
open Go.Proofs
noncomputable def Um{fs:List Fn}{W:List AV}{c:List Pt}{g:Gv}{f:Nat}{d i e:AV}{x:aA}{l':List (Nat×AV)}{b:List (Nat×aK)}(h:RL 69 bB (qd fs 0) (iK fs W c g f d i e) x l' b):dy Pg:=
 ⟨69,bB,qd fs 0,fun _=>iK fs W c g f d i e,x,l',fun _=>b,fun a X k j=>(h a X k j).aw⟩
section
variable{fs:List Fn}{W u:List AV}(m:p0 W)(i:p0 u){a b:List Pt}{g l:Gv}{k x:Nat}{d h j t o r:AV}(v:XS d)(n:XS h)(s:XS j)(w:XS t)(z:XS o)(y:XS r)
include m v n s
theorem FE(p e:Int)(c:RL 69 bB (qd fs 0) (iK fs W a g k d h j) (.panic (aB p e)) [] (cP l)):HX 27 [aE] (iK fs W a g k d h j) (aB p e) (cP l):=
 qX ({loops:=fun f q=>if f=27 then (if q=1 then some (Um c)else none)else none}) 2000 (⟨rfl,rfl,rfl,rfl,e7 m rfl v n s,rfl⟩)
include i w z y
theorem Jt(c:RL 69 bB (qd fs 0) (iK fs W a g k d h j) (.exit 0) [(0,aE)] (iK fs u b l x t o r)):HC 27 [aE] (iK fs W a g k d h j) [] (iK fs u b l x t o r):=
 qN ({loops:=fun f q=>if f=27 then (if q=1 then some (Um c)else none)else none}) 2000 (⟨rfl,rfl,rfl,rfl,e7 m rfl v n s,e7 i rfl w z y⟩)
end
def c7(a:List (List Vr)):List D:=a.map fun vs=> .ro (vs.map rC)
def ky(a:List Pt):List D:=a.map Kp
abbrev Xk(fs:List Fn)(a:List (List Vr))(b:List Pt)(g:Gv)(f:Nat)(c h e:AV):List (Nat×aK):=
 [(500000,⟨1,some (.arr 1 [.mp 499904 1, .d (.ro (fs.map c2)), .d (.ro (c7 a)), .d (.ro (ky b)),dN f,c,h,e,dI 0])⟩),(499904,⟨1,none⟩),(500002,⟨g.vh,none⟩),(500003,⟨g.vs,none⟩),(500004,⟨g.vq,none⟩),(500005,⟨g.vv,none⟩),(500382,⟨g.vp+1,none⟩),(500191,⟨2,none⟩)]
theorem Ju{X:cA}{env:Nat→AV}(fs:List Fn)(b:List (List Vr))(v:b.length=fs.length)(c:List Pt)(g:Gv)(i:Nat)(f j l:AV)(e:aa):Weak X ⟨env,ag (iK fs (gr b fs.length) c g i f j l) e⟩ ⟨env,ag (Xk fs b c g i f j l) e⟩:=by
 have y:gr b fs.length=(c7 b).map .d:=by
  unfold gr c7;rw[v,Nat.sub_self,List.replicate_zero,yF,yq];rfl
 have A:fs.length=(c7 b).length:=by rw[←v];simp[c7]
 have w:c.length=(ky c).length:=by simp[ky]
 have B:c.map cO=(ky c).map .d:=by simp[ky,cO]
 rw[y]
 have D:=gT (X:=X) (env:=env) (h:=ag (iK fs ((c7 b).map .d) c g i f j l) e) (C:=500000) (a:=2) (n:=2) (ces:=[.mp 499904 1, .d (.ro (fs.map c2)), .sl 500191 1 0 fs.length 1, .sl 500382 g.vp 0 c.length 3,dN i,f,j,l,dI 0]) (x:= .sl 500191 1 0 fs.length 1) (d:= .ro (c7 b)) (ks:=[500191]) (by decide) (by simp[ag,aJ]) rfl rfl (by
  rw[A];exact sF (n:=0) (by simp[ag,aJ]))
 refine D.trans ?_
 have h2:∀k,aJ (ap (ag (iK fs ((c7 b).map .d) c g i f j l) e) (kill (ag (iK fs ((c7 b).map .d) c g i f j l) e) [500191])) 500000 ⟨(ag (iK fs ((c7 b).map .d) c g i f j l) e 500000).ver,some (.arr 1 (List.set [.mp 499904 1, .d (.ro (fs.map c2)), .sl 500191 1 0 fs.length 1, .sl 500382 g.vp 0 c.length 3,dN i,f,j,l,dI 0] 2 (.d (.ro (c7 b)))))⟩ k=if k=500000 then ⟨1,some (.arr 1 [.mp 499904 1, .d (.ro (fs.map c2)), .d (.ro (c7 b)), .sl 500382 g.vp 0 c.length 3,dN i,f,j,l,dI 0])⟩else if k=500191 then ⟨2,none⟩else ag (iK fs ((c7 b).map .d) c g i f j l) e k:=fun k=>by
  simp only[aJ];split
  ·simp[ag,aJ]
  ·rw[bz]
   simp only[xK];split
   ·rename_i m
    subst m;simp[ag,aJ]
   ·rfl
 rw[show(aJ (ap (ag (iK fs ((c7 b).map .d) c g i f j l) e) (kill (ag (iK fs ((c7 b).map .d) c g i f j l) e) [500191])) 500000 ⟨(ag (iK fs ((c7 b).map .d) c g i f j l) e 500000).ver,some (.arr 1 (List.set [.mp 499904 1, .d (.ro (fs.map c2)), .sl 500191 1 0 fs.length 1, .sl 500382 g.vp 0 c.length 3,dN i,f,j,l,dI 0] 2 (.d (.ro (c7 b)))))⟩)=_ from funext h2];generalize o:(fun k=>if k=500000 then (⟨1,some (.arr 1 [.mp 499904 1, .d (.ro (fs.map c2)), .d (.ro (c7 b)), .sl 500382 g.vp 0 c.length 3,dN i,f,j,l,dI 0])⟩:aK)else if k=500191 then ⟨2,none⟩else ag (iK fs ((c7 b).map .d) c g i f j l) e k)=H
 have z:=gT (X:=X) (env:=env) (h:=H) (C:=500000) (a:=3) (n:=2) (ces:=[.mp 499904 1, .d (.ro (fs.map c2)), .d (.ro (c7 b)), .sl 500382 g.vp 0 c.length 3,dN i,f,j,l,dI 0]) (x:= .sl 500382 g.vp 0 c.length 3) (d:= .ro (ky c)) (ks:=[500382]) (by decide) (by rw[←o];simp) rfl rfl (by
  rw[w];exact sF (n:=0) (by rw[←o];simp[ag,aJ,B]))
 refine z.trans (ju fun k=> ?_)
 have p:aJ (ap H (kill H [500382])) 500000 ⟨(H 500000).ver,some (.arr 1 (List.set [.mp 499904 1, .d (.ro (fs.map c2)), .d (.ro (c7 b)), .sl 500382 g.vp 0 c.length 3,dN i,f,j,l,dI 0] 3 (.d (.ro (ky c)))))⟩ k=if k=500000 then ⟨1,some (.arr 1 [.mp 499904 1, .d (.ro (fs.map c2)), .d (.ro (c7 b)), .d (.ro (ky c)),dN i,f,j,l,dI 0])⟩else if k=500382 then ⟨g.vp+1,none⟩else H k:=by
  simp only[aJ];split
  ·rw[←o];simp
  ·rw[bz]
   simp only[xK];split
   ·rename_i m
    subst m;rw[←o];simp[ag,aJ]
   ·rfl
 rw[p,←o];simp only[Xk,iK,ag,aJ];by_cases s:k=500000
 ·subst s;simp
 by_cases t:k=499904
 ·subst t;simp
 by_cases h2:k=500002
 ·subst h2;simp
 by_cases p:k=500003
 ·subst p;simp
 by_cases q:k=500004
 ·subst q;simp
 by_cases m:k=500005
 ·subst m;simp
 by_cases r:k=500382
 ·subst r;simp
 by_cases u:k=500191
 ·subst u;simp
 simp only[s,t,h2,p,q,m,r,u,zS];simp
theorem Mw{G:Gh}{B:Nat}{w0 w:World}{I0:Nat→Nat→Prop}{h:aa}(b:HR G B w0 I0 h w){K:Nat}{x:D}(l:(h K).ob=some (.arr 3 [.agg [.d x, .nils, .nils]])):HR G B w0 I0 (aJ h K ⟨(h K).ver,some (.arr 3 [.d (.agg [x, .ro [], .ro []])])⟩) w:=by
 refine b.reob ?_ rfl;rcases b.objs K _ l with ⟨o,_⟩|⟨L,k,m,p,n,q,r,g⟩
 ·cases o
 refine .inr ⟨L,k,m,p,n,fun e j=>by rw[xK]at j;subst j;rfl,(fun h=>absurd h (by decide)),fun t c a=> ?_⟩;match t,a with
 |0,a=>
  cases a;exact g 0 (.d x) rfl
 |1,a=>
  cases a;obtain⟨u,i,f,b⟩:=g 1 .nils rfl;refine⟨u,i,f, ?_⟩;cases b;exact .d (.roNil _ _)
 |2,a=>
  cases a;obtain⟨u,i,f,b⟩:=g 2 .nils rfl;refine⟨u,i,f, ?_⟩;cases b;exact .d (.roNil _ _)
theorem FG{X:cA}{env:Nat→AV}{h:aa}{K:Nat}{x:D}(a:(h K).ob=some (.arr 3 [.agg [.d x, .nils, .nils]])):Weak X ⟨env,h⟩ ⟨env,aJ h K ⟨(h K).ver,some (.arr 3 [.d (.agg [x, .ro [], .ro []])])⟩⟩:=fun G ac w ⟨c,e,f,b⟩=>⟨G,Ext.refl G w,Mw c a,e,f,b⟩
theorem Jv{P:Program}(hm:jP P){h c:aa}(g:∀(X:cA)(env:Nat→AV),Weak X ⟨env,h⟩ ⟨env,c⟩){G:Gh}{B:Nat}{w0 w:World}{I0:Nat→Nat→Prop}(j:HR G B w0 I0 h w):∃d,Ext G w d w∧HR d B w0 I0 c w:=by
 let X:cA:={P:=P,B:=B,w0:=w0,I0:=I0,N:=0,mixed:=hm}
 obtain⟨k,i,e,_⟩:=g X (fun _=> .junk) G {tmps:= #[],defers:=[]} w ⟨j,[],⟨rfl,rfl,fun t f=>absurd f (by simp[X]),fun _ _=>rfl⟩,⟨y8,fun b a=>by simp at a,fun b a=>by simp at a,fun l m=>by simp[X]at m,xz _⟩⟩;exact⟨k,i,e⟩
theorem FH{P:Program}(hm:jP P){f:Nat}{args g:List AV}{h c h2:aa}(e:ax P f args c g h2)(m:∀(X:cA)(env:Nat→AV),Weak X ⟨env,h⟩ ⟨env,c⟩):ax P f args h g h2:=
 ⟨e.1,fun G B w0 I0 w b o k a=>by
  obtain⟨s,d,l⟩:=Jv hm m o;exact(e.2 s B w0 I0 w b l k (fun i x u y q=>(a i x u y q).mono d)).mono fun _ _ ⟨v,r,t,p,j,n⟩=>⟨v,r,t,d.trans p,j,n⟩⟩
theorem AH{P:Program}(hm:jP P){f:Nat}{args:List AV}{x:AV}{h c h2:aa}(e:iW P f args c x h2)(l:∀(X:cA)(env:Nat→AV),Weak X ⟨env,h⟩ ⟨env,c⟩):iW P f args h x h2:=
 ⟨e.1,fun G B w0 I0 w b n j a=>by
  obtain⟨r,d,k⟩:=Jv hm l n;exact(e.2 r B w0 I0 w b k j (fun i x u t p=>(a i x u t p).mono d)).mono fun _ _ ⟨v,q,s,o,g,m⟩=>⟨v,q,s,d.trans o,g,m⟩⟩
abbrev NK(fs:List Fn):List (Nat×aK):=
 [(500000,⟨1,some (.arr 1 [.mp 499904 1, .d (.ro (fs.map c2)), .sl 500191 1 0 (fs.map c2).length 1, .sl 500382 1 0 1 3,dI 0, .junk, .junk, .junk,dI 0])⟩),(499904,⟨1,some (.map [] 0)⟩),(500382,⟨1,some (.arr 3 [.agg [dI 0, .nils, .nils]])⟩),(500191,⟨1,some (.arr 1 (List.replicate (fs.map c2).length .nils))⟩)]
theorem sG(fs:List Fn)(a:aa)(X:cA)(env:Nat→AV):Weak X ⟨env,ag (NK fs) a⟩ ⟨env,ag (fL fs [] 0 .junk) a⟩:=by
 have w:=FG (X:=X) (env:=env) (h:=ag (NK fs) a) (K:=500382) (x:= .int .i64 0) (by simp[ag,aJ])
 have e:aJ (ag (NK fs) a) 500382 ⟨(ag (NK fs) a 500382).ver,some (.arr 3 [.d (.agg [.int .i64 0, .ro [], .ro []])])⟩=ag (fL fs [] 0 .junk) a:=by
  funext k;have c:(ag (NK fs) a 500382).ver=1:=by simp[ag,aJ]
  rw[c];simp only[NK,fL,xO,ag,aJ];by_cases b:k=500382
  ·subst b;rfl
  ·simp only[b,zS]
 rw[e]at w;exact w
abbrev Eg(a:List (List Vr))(b:List Pt):D:= .agg [.ro (c7 a), .ro (ky b)]
def Xl(P:Program)(fs:List Fn)(h:fs.length<1000000):cf P:= .mk ((fs.map c2).length:Int) (by omega) (by rw[xO];omega)
section
variable{fs:List Fn}(a:fs.length<1000000)
include a
theorem Yb(p e:Int)(c:HX 26 [aE] (NK fs) (aB p e) A5):al Pg 13 [.agg [.ro (fs.map c2)]] [.agg [.ro [], .ro []], .int .i64 p, .int .i64 e]:=
 qV {hint:=qT 13 [(14,Xl Pg fs a)],pans:=an Pg [(13,5,500518,⟨1,some (bh c),[]⟩)]} 499774
variable(c:HC 26 [aE] (NK fs) [] (fL fs (kp 0 fs) fs.length .junk))
include c
theorem YW(p e:Int)(g:Gv)(b:HX 27 [aE] (iK fs (gr [] fs.length) [ey] ⟨0,0,0,0,1⟩ 0 .junk .junk .junk) (aB p e) (cP g)):al Pg 13 [.agg [.ro (fs.map c2)]] [.agg [.ro [], .ro []], .int .i64 p, .int .i64 e]:=
 qV {hint:=qT 13 [(14,Xl Pg fs a)],calls:=tC [(13,24,500549,ab c)],pans:=an Pg [(13,6,500549,⟨1,some (bh b),[]⟩)]} 499774
theorem YX(b:List (List Vr))(d:List Pt)(g:Gv)(i:Nat)(e j h:AV)(f:HC 27 [aE] (iK fs (gr [] fs.length) [ey] ⟨0,0,0,0,1⟩ 0 .junk .junk .junk) [] (Xk fs b d g i e j h)):al Pg 13 [.agg [.ro (fs.map c2)]] [Eg b d, .int .i64 0, .int .i64 0]:=
 qV {hint:=qT 13 [(14,Xl Pg fs a)],calls:=tC [(13,24,500549,ab c),(13,26,500580,ab f)]} 499774
end
def Jw:TR (List (List Vr)×List Pt)→List D
 | .ok q=>[Eg q.1 q.2, .int .i64 0, .int .i64 0]
 | .bad p e=>[.agg [.ro [], .ro []], .int .i64 p, .int .i64 e]
 | .out=>[]
theorem Mx:XS .junk:=fun _ _ _ _=>rfl
theorem Qp{fs:List Fn}{m:Nat}(ok:Jq fs m)(c:cT fs≠ .out):al Pg 13 [.agg [.ro (fs.map c2)]] (Jw (cT fs)):=by
 have b:=HH (fs:=fs) (nn:= .junk) (fun _=>rfl) ok.len;unfold cT at c ⊢;revert b c;cases gI fs with
 |out=>exact fun c _=>absurd rfl c
 |bad p e=>
  intro _ b;simp only[UU]at b;exact Yb ok.len p e fun a=>AH bv (b a) (sG fs a)
 |ok _=>
  intro c b;simp only[UU]at b;have b:=fun a=>FH bv (b a) (sG fs a)
  have cb:=NJ ok fs [] [] [ey] ⟨0,0,0,0,1⟩ 0 .junk .junk .junk rfl rfl (by simp) Mx Mx Mx;simp only[TR.bind]at c ⊢;revert cb c;show cF fs 0 fs [] [ey]≠ .out→Uk fs (gr [] fs.length) [ey] ⟨0,0,0,0,1⟩ 0 .junk .junk .junk 0 (cF fs 0 fs [] [ey])→_;cases cF fs 0 fs [] [ey]with
  |out=>exact fun c _=>absurd rfl c
  |bad p e=>exact fun _ ⟨g,d⟩=>YW ok.len b p e g (FE (jF _ _) Mx Mx Mx p e d)
  |ok q=>
   rintro _ ⟨hp,o,g,h,j,f,i,k,l,n,d⟩;have r:=Jt (jF _ _) (jF _ _) Mx Mx Mx k l n d;exact YX ok.len b q.1 q.2 g h j f i fun a=>rY bv (r a) fun X env=>Ju fs q.1 o q.2 g h j f i a
end Go.Avm
namespace Go.Avm
open Go.Proofs
theorem TR.bind_ne{b c:Type}{r:TR b}{f:b→TR c}(h:r≠ .out)(d:∀a,f a≠ .out):r.bind f≠ .out:=by
 cases r with
 |ok a=>exact d a
 |bad p e=>exact fun h=>by cases h
 |out=>exact absurd rfl h
theorem fw{a:Type}{b:Bool}{x y:TR a}(d:x≠ .out)(c:y≠ .out):(bif b then x else y)≠ .out:=by cases b<;>assumption
theorem gs{b:Type}{a:b}:TR.ok a≠ .out:=fun h=>by cases h
theorem fx{a:Type}{p e:Int}:(TR.bad p e:TR a)≠ .out:=fun h=>by cases h
theorem wa(E:TE)(nm:List UInt8)(p:Int):lZ E nm p≠ .out:=by
 unfold lZ;split
 ·exact gs
 ·exact fx
theorem wb(E:TE)(nm:List UInt8)(p:Int):pX E nm p≠ .out:=TR.bind_ne (wa _ _ _) fun _=>fw gs fx
mutual
theorem Eh(E:TE):∀x:Ex,MV x=true→ev E x≠ .out
 | .mk k o nm n p xs,h=>by
  simp only[MV,xL]at h;obtain⟨b,c⟩:=h;have a:=fun ts g d m=>od E xs ts g c d m
  unfold ev;refine fw gs ?_;refine fw (TR.bind_ne (wa _ _ _) fun _=>fw gs fx) ?_;cases i:(k==4)with
  |true=>
   have e:=eq_of_beq i;subst e;have:xs.length=1:=by simpa using b
   exact TR.bind_ne (wb _ _ _) fun _=>TR.bind_ne (a [[1]] false (by simp only[xD,xF];omega) (fun h=>by cases h)) fun _=>gs
  |false=>
   simp only[xI];refine fw (TR.bind_ne (wb _ _ _) fun _=>gs) ?_;refine fw ?_ ?_
   ·split
    ·exact fx
    ·rename_i j f s
     cases d:(f.ps.length==xs.length)with
     |false=>exact fx
     |true=>exact TR.bind_ne (a _ false (by rw[xO,eq_of_beq d];exact xS _) (fun h=>by cases h)) fun _=>gs
   ·cases l:(k==8)with
    |true=>
     have e:=eq_of_beq l;subst e;have:xs.length=1:=by simpa using b
     simp only[xR];exact fw (TR.bind_ne (a [[2]] false (by simp only[xD,xF];omega) (fun h=>by cases h)) fun _=>gs) (TR.bind_ne (a [[1]] false (by simp only[xD,xF];omega) (fun h=>by cases h)) fun _=>gs)
    |false=>
     simp only[xI];cases r:(k==9)with
     |false=>exact gs
     |true=>
      have e:=eq_of_beq r;subst e;have q:xs.length=2:=by simpa using b
      simp only[xR];have:decide (xs.length<2)=false:=by rw[q];rfl
      rw[this];simp only[xI];refine fw (TR.bind_ne (a [[2],[2]] false (by simp only[xD,xF];omega) (fun h=>by cases h)) fun _=>gs) (fw (TR.bind_ne (a [[1,2],[]] true (by simp only[xD,xF];omega) (fun _=>by omega)) fun _=>gs) (TR.bind_ne (a [[1],[1]] false (by simp only[xD,xF];omega) (fun h=>by cases h)) fun _=>gs))
theorem od(E:TE):∀(xs:List Ex)(ts:List (List Int))(a:Bool),fm xs=true→ts.length≤xs.length→(a=true→2≤xs.length)→aF E xs ts a≠ .out
 |[],[],_,_,_,_=>by unfold aF;exact gs
 |_::_,[],_,_,_,_=>by unfold aF;exact gs
 |[],_::_,_,_,h,_=>by simp at h
 |x::xs,ts::r,a,h,c,b=>by
  simp only[fm,xL]at h;simp only[xD]at c b;unfold aF;refine TR.bind_ne (Eh E x h.1) fun t=>fw ?_ fx
  refine od E xs _ false h.2 ?_ (fun h=>by cases h);cases a with
  |true=>have:=b rfl;simp only[xR,xD,xF];omega
  |false=>simp only[xI];omega
end
def ed(k:Int)(n b e:Nat):Bool:=
 (bif k==1 then decide (n≤1)else bif k==2 then n==1 else bif k==3 then n==2 else bif k==4 then n==1 else bif k==5 then n==1 else bif k==6 then decide (n≤1)else bif k==7 then n==1 else k==8&&n==1)&&((k==4||k==5||b==0)&&(k==4||e==0))
mutual
def iS:aP→Bool
 | .mk k _ nm _ _ _ es a b=>decide (nm.length≤1000000)&&(fm es&&(ed k es.length a.length b.length&&(ew a&&ew b)))
def ew:List aP→Bool
 |[]=>true
 |s::r=>iS s&&ew r
end
def NO(n:Int)(b:Nat):TR CS→Prop
 | .ok c=>(c.pts.length:Int)=n∧c.pts.length≤b
 | .bad _ _=>True
 | .out=>False
theorem NO.bindU{c:Type}{n:Int}{b:Nat}{r:TR c}{f:c→TR CS}(h:r≠ .out)(d:∀a,NO n b (f a)):NO n b (r.bind f):=by
 cases r with
 |ok a=>exact d a
 |bad p e=>trivial
 |out=>exact absurd rfl h
theorem NO.bif{n:Int}{b:Nat}{c:Bool}{x y:TR CS}(d:NO n b x)(a:NO n b y):NO n b (bif c then x else y):=by cases c<;>assumption
theorem Qq{fs:List Fn}{a:Int}{nm:List UInt8}{id ty n p:Int}{es:List Ex}{c:CS}{q:Int}{b:Nat}(f:nm.length≤1000000)(e:fm es=true)(g:es.length≤1)(h:(c.pts.length:Int)=q∧c.pts.length≤b):NO q b (rD fs a nm id ty n p es c):=by
 unfold rD;have d:decide (1000000≤es.length)=false:=decide_eq_false (by omega);have h2:decide (1000000<nm.length)=false:=decide_eq_false (by omega);rw[d,h2];simp only[xI];refine NO.bindU (od _ _ _ _ e (by rw[xO];exact xS _) (fun h=>by cases h)) fun _=> ?_
 refine NO.bif trivial (NO.bif trivial (NO.bif trivial (NO.bif trivial ?_)));cases (ty==3|| !es.isEmpty)<;>exact h
theorem My{fs:List Fn}{fn:Nat}{p:Int}{es:List Ex}{c:CS}{q:Int}{b:Nat}(d:fn<fs.length)(a:fm es=true)(h:(c.pts.length:Int)=q∧c.pts.length≤b):NO q b (kj fs fn p es c):=by
 unfold kj;rw[xH d];dsimp only;cases es with
 |nil=>exact NO.bif h trivial
 |cons x r=>
  simp only[fm,xL]at a;exact NO.bif (NO.bindU (Eh _ x a.1) fun _=>trivial) (NO.bindU (TR.bind_ne (Eh _ x a.1) fun _=>fw gs fx) fun _=>h)
theorem lC{n a b c:Int}(h:dx [] n a b c):n=b:=by cases h;rfl
mutual
theorem Mz(fs:List Fn)(fn:Nat)(y:fn<fs.length):∀(x:aP)(b:Int)(c:CS)(id a I P:Int),iS x=true→id=(c.pts.length:Int)→dx [x] id a I P→c.pts.length+kl x<900000000→NO I (c.pts.length+kl x) (jv fs fn b x c)
 | .mk k id nm ty n p es l j,b,c,Z,a,I,P,L,s,U,W=>by
  simp only[iS,xL]at L;obtain⟨o,t,d,u,C⟩:=L;have o:=yC o;cases U with
  | @cons _ _ _ _ _ _ _ _ _ _ _ n1 a1 n2 a2 _ _ hp lb le m A7 J=>
  have Y:=lC J;subst Y;simp only[kl]at W ⊢
  have V:b5 (id+1)=((c.pts.length+1:Nat):Int):=by
   rw[s];have:=Int.toNat_of_nonneg (show(0:Int)≤(c.pts.length:Int)+1 by omega);exact(show b5 ((c.pts.length:Int)+1)=(c.pts.length:Int)+1 from IntWalk.i64_in _ (by omega)).trans (by omega)
  rw[V]at m;unfold jv
  have X:(id==(c.pts.length:Int)&&decide (c.pts.length<900000000))=true:=by
   rw[s];simp only[beq_self_eq_true,Bool.true_and,x6];omega
  rw[X];simp only[xR];have f:(c.pts ++[c.pt fn]).length=c.pts.length+1:=by simp
  have g:l=[]→j=[]→((c.pts ++[c.pt fn]).length:Int)=n2∧(c.pts ++[c.pt fn]).length≤c.pts.length+(1+bn es+bN l+bN j):=by
   rintro rfl rfl;have e1:=lC m;have N:=lC A7;rw[f];simp only[bN];omega
  have i:∀ts:List (List Int),ts.length≤es.length→aF (CS.te fs {c with pts:=c.pts ++[c.pt fn]}) es ts false≠ .out:=fun ts h=>od _ _ _ _ t h fun h=>by cases h
  cases R:(k==1)with
  |true=>
   have e:=eq_of_beq R;subst e;have:es.length≤1∧l=[]∧j=[]:=by simpa [ed]using d
   exact Qq o t this.1 (g this.2.1 this.2.2)
  |false=>
  simp only[xI];cases Q:(k==2)with
  |true=>
   have e:=eq_of_beq Q;subst e;have:es.length=1∧l=[]∧j=[]:=by simpa [ed]using d
   exact NO.bindU (wa _ _ _) fun r=>NO.bif trivial (NO.bindU (i _ (by simp[this.1])) fun _=>g this.2.1 this.2.2)
  |false=>
  simp only[xI];cases K:(k==3)with
  |true=>
   have e:=eq_of_beq K;subst e;have:es.length=2∧l=[]∧j=[]:=by simpa [ed]using d
   exact NO.bindU (wb _ _ _) fun r=>NO.bindU (i _ (by simp[this.1])) fun _=>g this.2.1 this.2.2
  |false=>
  simp only[xI];cases E:(k==4)with
  |true=>
   have e:=eq_of_beq E;subst e;have:es.length=1:=by simpa [ed]using d
   refine NO.bindU (i _ (by simp[this])) fun _=> ?_
   have H:=lD fs fn y l (b5 (b+1)) false {c with pts:=c.pts ++[c.pt fn]} _ _ _ _ u rfl (by rw[f];exact m) (by rw[f];omega);revert H;cases bQ fs fn (b5 (b+1)) false l {c with pts:=c.pts ++[c.pt fn]}with
   |out=>exact fun h=>h.elim
   |bad p e=>exact fun _=>trivial
   |ok q=>
    rintro⟨F,G⟩;simp only[TR.bind];rw[f]at G;have ge:=lD fs fn y j (b5 (b+1)) false {q with seen:=c.seen,sure:=c.sure} _ _ _ _ C rfl (by rw[F];exact A7) (by show q.pts.length+bN j<_;omega);revert ge;cases bQ fs fn (b5 (b+1)) false j {q with seen:=c.seen,sure:=c.sure}with
    |out=>exact fun h=>h.elim
    |bad p e=>exact fun _=>trivial
    |ok O=>
     rintro⟨S,M⟩;have M:O.pts.length≤q.pts.length+bN j:=M;refine⟨S, ?_⟩;show O.pts.length≤_;omega
  |false=>
  simp only[xI];cases B:(k==5)with
  |true=>
   have e:=eq_of_beq B;subst e;have:es.length=1∧j=[]:=by simpa [ed]using d
   obtain⟨T,rfl⟩:=this;have N:=lC A7;subst N;refine NO.bindU (i _ (by simp[T])) fun _=> ?_
   have H:=lD fs fn y l (b5 (b+1)) false {c with pts:=c.pts ++[c.pt fn]} _ _ _ _ u rfl (by rw[f];exact m) (by rw[f];omega);revert H;cases bQ fs fn (b5 (b+1)) false l {c with pts:=c.pts ++[c.pt fn]}with
   |out=>exact fun h=>h.elim
   |bad p e=>exact fun _=>trivial
   |ok q=>
    rintro⟨F,G⟩;rw[f]at G;refine⟨F, ?_⟩;show q.pts.length≤_;omega
  |false=>
  simp only[xI]
  have v:l=[]∧j=[]:=by
   simp only[ed,E,B,xL,xy,Bool.false_or,yz,false_or,xm,List.length_eq_zero_iff]at d;exact⟨d.2.1,d.2.2⟩
  have A:=g v.1 v.2;refine NO.bif (My y t A) ?_
  have w:k≠6→es.length=1:=fun D=>by
   have D:(k==6)=false:=by simpa using D
   have:=d;simp only[ed,R,Q,K,E,B,D,xI,xL]at this;cases z:(k==7)with
   |true=>rw[z]at this;simpa using this.1
   |false=>rw[z]at this;simpa using (show _∧_ by simpa using this.1).2
  cases z:(k==7)with
  |true=>
   have:=w (by rw[eq_of_beq z];decide);exact NO.bindU (i _ (by simp[this])) fun _=>A
  |false=>
  simp only[xI];cases h8:(k==8)with
  |false=>exact A
  |true=>
   have:=w (by rw[eq_of_beq h8];decide);simp only[xR];cases es with
   |nil=>simp at this
   |cons x r=>
    simp only[fm,xL]at t;exact NO.bindU (Eh _ x t.1) fun _=>A
theorem lD(fs:List Fn)(fn:Nat)(t:fn<fs.length):∀(l:List aP)(b:Int)(d:Bool)(c:CS)(id a g j:Int),ew l=true→id=(c.pts.length:Int)→dx l id a g j→c.pts.length+bN l<900000000→NO g (c.pts.length+bN l) (bQ fs fn b d l c)
 |[],b,d,c,id,a,g,j,_,f,n,_=>by
  unfold bQ;exact⟨f.symm.trans (lC n),xS _⟩
 |x::r,b,d,c,id,a,g,j,m,f,n,w=>by
  simp only[ew,xL]at m;simp only[bN]at w ⊢;unfold bQ;refine NO.bif trivial ?_
  obtain⟨k,i,A,h2⟩:∃k i,dx [x] id a k i∧dx r k i g j:=by
   cases n with
   |cons hp lb z o A7 q=>exact⟨_,_, .cons hp lb z o A7 (.nil _ _),q⟩
  have B:=Mz fs fn t x b c id a k i m.1 f A (by omega);revert B;cases jv fs fn b x c with
  |out=>exact fun h=>h.elim
  |bad p e=>exact fun _=>trivial
  |ok s=>
   rintro⟨y,C⟩;simp only[TR.bind];have v:=lD fs fn t r b (lc x) s k i g j m.2 y.symm h2 (by omega);revert v;cases bQ fs fn b (lc x) r s with
   |out=>exact fun h=>h
   |bad p e=>exact fun _=>trivial
   |ok E=>exact fun ⟨u,D⟩=>⟨u,by omega⟩
end
end Go.Avm
namespace Go.Avm
open Go.Proofs
def Kn{c:Type}(s:RS)(r:Res c):Prop:=∀a b,r= .ok a b→b.n=s.n
theorem Kn.bind{d j:Type}{s:RS}{r:Res d}{f:d→RS→Res j}(h:Kn s r)(k:∀a g,Kn g (f a g)):Kn s (r.bind f):=fun b i e=>by
 cases r with
 |ok a c=>exact(k a c b i e).trans (h a c rfl)
 |bad p q c=>cases e
 |out=>cases e
theorem Kn.ok{b:Type}(a:b)(s:RS):Kn s (.ok a s):=fun _ _ e=>by cases e;rfl
theorem Kn.out{a:Type}(s:RS):Kn s (Res.out:Res a):=fun _ _ e=>by cases e
theorem Kn.ite{a:Type}{c:Bool}{s:RS}{X Y:Res a}(d:Kn s X)(b:Kn s Y):Kn s (bif c then X else Y):=by cases c<;>assumption
theorem oe(L:List T)(x:List UInt8)(s:RS):Kn s (ah L x s):=fun a c e=>by
 unfold ah at e;cases h:isT L s x<;>rw[h]at e
 ·cases e
 ·simp only[xR]at e
  cases b:(x==[40]||x==[91]||x==[123])<;>rw[b]at e
  ·simp only[xI]at e
   cases h2:(x==[41]||x==[93]||x==[125])<;>rw[h2]at e<;>cases e<;>rfl
  ·simp only[xR]at e
   cases h2:decide (200<b5 (s.op+1))<;>rw[h2]at e<;>cases e
   rfl
theorem lS(L:List T)(k:Int)(s:RS):Kn s (b0 L k s):=fun a b e=>by
 unfold b0 at e;cases h:((aD L s).k==k)<;>rw[h]at e<;>cases e
 rfl
theorem Cx(L:List T)(x:List UInt8)(s:RS):Kn s (aM L x s):=by
 unfold aM;exact Kn.ite ((oe L x s).bind fun _ _=>Kn.ok _ _) (Kn.ok _ _)
theorem Ei(L:List T):∀(l:List Int)(s:RS),Kn s (cL L l s)
 |[],s=>fun _ _ e=>by cases e
 |k::r,s=>by
  simp only[cL];exact(Cx L _ s).bind fun b a=>Kn.ite (Kn.ok _ _) (Ei L r a)
theorem wc(L:List T):∀n,(∀s,Kn s (dC L n s))∧(∀s,Kn s (ch L n s))∧(∀nm p s,Kn s (dz L n nm p s))∧(∀s,Kn s (dU L n s))∧(∀l s,Kn s (du L n l s))∧(∀k s,Kn s (aQ L n k s))∧(∀k e s,Kn s (c3 L n k e s))
 |0=>⟨fun s=>Kn.out s,fun s=>Kn.out s,fun _ _ s=>Kn.out s,fun s=>Kn.out s,fun _ s=>Kn.out s,fun _ s=>Kn.out s,fun _ _ s=>Kn.out s⟩
 |n+1=>by
  obtain⟨j,h2,t,q,o,h,m⟩:=wc L n;have W:=oe L;have M:=Cx L;refine⟨fun s=> ?_,fun s=> ?_,fun nm p s=> ?_,fun s=> ?_,fun l s=> ?_,fun k s=> ?_,fun k e s=> ?_⟩
  ·simp only[dC]
   have i:∀(f:Ex→Ex) g,Kn g ((dC L n g).bind fun e c=> .ok (f e) c):=fun f g=>(j g).bind fun _ _=>Kn.ok _ _
   refine(M _ s).bind fun _ b=>Kn.ite (i _ b) ((M _ b).bind fun _ b=>Kn.ite (i _ b) ((M _ b).bind fun _ b=>Kn.ite (i _ b) (Kn.ite (fun _ _ e=>by cases e;rfl) ?_)))
   refine(M _ b).bind fun _ b=>Kn.ite (Kn.ok _ _) ((M _ b).bind fun _ b=>Kn.ite (Kn.ok _ _) ?_)
   refine(M _ b).bind fun _ b=>Kn.ite ((W _ b).bind fun _ c=>(W _ c).bind fun _ _=>Kn.ok _ _) ?_
   refine(M _ b).bind fun _ b=>Kn.ite ((W _ b).bind fun _ c=>(lS L _ c).bind fun _ d=>(W _ d).bind fun _ _=>Kn.ok _ _) ?_
   refine Kn.ite ((W _ b).bind fun _ c=>(h _ c).bind fun _ d=>(W _ d).bind fun _ _=>Kn.ok _ _) ?_;exact(lS L _ b).bind fun _ c=>Kn.ite ((h2 c).bind fun _ _=>Kn.ok _ _) (Kn.ite ((t _ _ c).bind fun _ _=>Kn.ok _ _) (Kn.ok _ _))
  ·simp only[ch]
   exact(W _ s).bind fun _ c=>(h _ c).bind fun _ d=>(W _ d).bind fun _ _=>Kn.ok _ _
  ·simp only[dz]
   exact(q s).bind fun _ _=>Kn.ok _ _
  ·simp only[dU]
   exact(W _ s).bind fun _ b=>Kn.ite ((W _ b).bind fun _ _=>Kn.ok _ _) ((h _ b).bind fun _ c=>(o _ c).bind fun _ d=>(W _ d).bind fun _ _=>Kn.ok _ _)
  ·simp only[du]
   exact(M _ s).bind fun _ b=>Kn.ite ((h _ b).bind fun _ c=>o _ c) (Kn.ok _ _)
  ·simp only[aQ]
   exact(j s).bind fun _ b=>m _ _ b
  ·simp only[c3]
   refine Kn.ite (Kn.ok _ _) (fun a g r=> ?_);exact((h _ s.nx).bind fun _ c=>m _ _ c) a g r
theorem qk(L:List T)(n:Nat)(k:Int)(s:RS):Kn s (aQ L n k s):=(wc L n).2.2.2.2.2.1 k s
def Xm(L:List T):Prop:=∀i j,i<j→j<L.length→(L.getD i default).p<(L.getD j default).p
def Qr(id p:Int):aP→Prop
 | .mk _ a _ _ _ d _ b c=>a=id∧d=p∧b=[]∧c=[]
def Ps{b:Type}(Q:b→Prop)(r:Res b):Prop:=∀a c,r= .ok a c→Q a
theorem Ps.bind{d g:Type}{Q:g→Prop}{r:Res d}{f:d→RS→Res g}(i:∀a j,Ps Q (f a j)):Ps Q (r.bind f):=fun b h e=>by
 cases r with
 |ok a c=>exact i a c b h e
 |bad p q c=>cases e
 |out=>cases e
theorem Ps.ite{a:Type}{Q:a→Prop}{c:Bool}{X Y:Res a}(d:Ps Q X)(b:Ps Q Y):Ps Q (bif c then X else Y):=by cases c<;>assumption
theorem Ps.ok{b:Type}{Q:b→Prop}{a:b}{s:RS}(h:Q a):Ps Q (.ok a s):=fun _ _ e=>by cases e;exact h
section
variable(L:List T)(n:Nat)(id p:Int)(s:RS)
include L n id p s
theorem Qs:Ps (Qr id p) (gE L n id p s):=by
 unfold gE;exact Ps.bind fun _ _=>Ps.bind fun _ _=>Ps.bind fun _ _=>Ps.ite (Ps.bind fun _ _=>Ps.bind fun _ _=>Ps.bind fun _ _=>Ps.bind fun _ _=>Ps.ok ⟨rfl,rfl,rfl,rfl⟩) (Ps.bind fun _ _=>Ps.ite (Ps.bind fun _ _=>Ps.bind fun _ _=>Ps.ok ⟨rfl,rfl,rfl,rfl⟩) (Ps.bind fun _ _=>Ps.ok ⟨rfl,rfl,rfl,rfl⟩))
theorem Jx:Ps (Qr id p) (ci L n id p s):=by
 unfold ci;exact Ps.bind fun _ _=>Ps.ite (Ps.bind fun _ _=>Ps.bind fun _ _=>Ps.ok ⟨rfl,rfl,rfl,rfl⟩) (Ps.ite (Ps.bind fun _ _=>Ps.bind fun _ _=>Ps.bind fun _ _=>Ps.bind fun _ _=>Ps.ok ⟨rfl,rfl,rfl,rfl⟩) (Ps.bind fun _ _=>Ps.bind fun _ _=>Ps.bind fun _ _=>Ps.ok ⟨rfl,rfl,rfl,rfl⟩))
theorem Qt:Kn s (gE L n id p s):=by
 have W:=oe L;unfold gE;exact(lS L _ s).bind fun _ d=>(W _ d).bind fun _ f=>(Ei L _ f).bind fun _ c=>Kn.ite ((W _ c).bind fun _ a=>(lS L _ a).bind fun _ b=>(W _ b).bind fun _ e=>(W _ e).bind fun _ _=>Kn.ok _ _) ((Cx L _ c).bind fun _ a=>Kn.ite ((qk L n 1 a).bind fun _ b=>(W _ b).bind fun _ _=>Kn.ok _ _) ((W _ a).bind fun _ _=>Kn.ok _ _))
theorem Jy:Kn s (ci L n id p s):=by
 have W:=oe L;obtain⟨_,h2,e,_⟩:=wc L n;unfold ci;exact(lS L _ s).bind fun _ c=>Kn.ite ((e _ _ c).bind fun _ a=>(W _ a).bind fun _ _=>Kn.ok _ _) (Kn.ite ((h2 c).bind fun _ a=>(W _ a).bind fun _ b=>(qk L n 1 b).bind fun _ d=>(W _ d).bind fun _ _=>Kn.ok _ _) ((W _ c).bind fun _ a=>(qk L n 1 a).bind fun _ b=>(W _ b).bind fun _ _=>Kn.ok _ _))
end
end Go.Avm
