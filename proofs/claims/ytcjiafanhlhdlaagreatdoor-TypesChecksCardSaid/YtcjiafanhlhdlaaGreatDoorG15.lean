/-
  Types: the document's walker: calls for states at other keys.
-/
import Derived.Test.YtcjiafanhlhdlaaGreatDoorG14
import Derived.Test.YtcjiafanhlhdlaaGreatDoorG10
import Derived.Test.YtcjiafanhlhdlaaGreatDoorG13
set_option linter.unusedVariables false
set_option linter.unusedSimpArgs false
set_option linter.unusedSectionVars false
namespace Go.Avm
open Go.Proofs
section
variable{f:Nat→Nat}(a:∀k,f (f k)=k)
include a
theorem EW:Names f fun j=>some (f j):=⟨fun k=>by simp only[a],fun j k h=>by
 have:f j=k:=Option.some.inj h;rw[←this,a]⟩
theorem vY(b:aa):∀(l:List (Nat×aE))(j:Nat),aY f (ae l b (f j))=ae (l.map fun p=>(f p.1,aY f p.2)) (eP f (fun j=>some (f j)) b) j
 |[],j=>rfl
 |(k,e)::r,j=>by
  simp only[xH,ae,aG];by_cases h:f j=k
  ·have h2:j=f k:=by rw[←h,a]
   rw[xf h,xf h2]
  ·have h2:¬j=f k:=fun h2=>h (by rw[h2,a])
   rw[xo h,xo h2];exact vY b r j
theorem lH{g:Nat}{args o h n:List AV}{m i l d:List (Nat×aE)}(c:∀b:aa,am Pg g h (ae l b) n (ae d b))(s:bk f args=h)(h2:bk f o=n)(r:(m.map fun p=>(f p.1,aY f p.2))=l)(q:(i.map fun p=>(f p.1,aY f p.2))=d)(b:aa):am Pg g args (ae m b) o (ae i b):=by
 have e:eP f (fun j=>some (f j)) (ae m b)=ae l (eP f (fun j=>some (f j)) b):=by
  funext j;have:=vY a b m j;rw[r]at this;exact this
 refine lM (EW a) (h2:=ae d (eP f (fun j=>some (f j)) b)) ?_ fun k=> ?_
 ·rw[e,s,h2]
  exact c _
 ·have:=vY a b i (f k)
  rw[q,a]at this;exact this.symm
end
def Iw(a b c d k:Nat):Nat:=bif Nat.beq k a then b else bif Nat.beq k b then a else bif Nat.beq k c then d else bif Nat.beq k d then c else k
theorem eV{a b:Nat}(h:a≠b):Nat.beq a b=false:=by
 cases c:Nat.beq a b with
 |false=>rfl
 |true=>exact absurd (yF c) h
theorem vZ{a b c d:Nat}(o:a≠b)(h2:a≠c)(n:a≠d)(m:b≠c)(h:b≠d)(l:c≠d)(k:Nat):Iw a b c d (Iw a b c d k)=k:=by
 by_cases j:k=a
 ·subst j;simp[Iw,eV o.symm]
 ·by_cases i:k=b
  ·subst i;simp[Iw,eV o.symm]
  ·by_cases g:k=c
   ·subst g;simp[Iw,eV h2.symm,eV m.symm,eV n.symm,eV h.symm,eV l.symm]
   ·by_cases f:k=d
    ·subst f;simp[Iw,eV n.symm,eV h.symm,eV l.symm,eV h2.symm,eV m.symm]
    ·have e:Iw a b c d k=k:=by simp[Iw,eV j,eV i,eV g,eV f]
     rw[e,e]
def Qb:Nat→Nat:=Iw 500010 500020 500011 500072
theorem Mg(k:Nat):Qb (Qb k)=k:=vZ (by decide) (by decide) (by decide) (by decide) (by decide) (by decide) k
def Qc:Nat→Nat:=Iw 500010 500120 500011 500172
theorem Mh(k:Nat):Qc (Qc k)=k:=vZ (by decide) (by decide) (by decide) (by decide) (by decide) (by decide) k
def Qd:Nat→Nat:=Iw 500020 500120 500072 500172
theorem Tt(k:Nat):Qd (Qd k)=k:=vZ (by decide) (by decide) (by decide) (by decide) (by decide) (by decide) k
abbrev Ix(q:WL):AV:= .agg [.sl 500120 q.vS 0 q.s.seen.length 1, .sl 500172 q.vU 0 q.s.sure.length 1]
abbrev AG(q:WL):List (Nat×aE):=[(500120,⟨q.vS,some (.arr 1 ((q.s.seen.map D.bool).map AV.d))⟩),(500172,⟨q.vU,some (.arr 1 ((q.s.sure.map D.bool).map AV.d))⟩)]
abbrev YB(a b:Nat):List (Nat×aE):=[(500120,⟨a,none⟩),(500172,⟨b,none⟩)]
theorem DL{f:Nat→Nat}{l:List (Nat×aE)}(b:(l.map (·.1)).map f=l.map (·.1))(a:(l.map fun p=>aY f p.2)=l.map (·.2)):(l.map fun p=>(f p.1,aY f p.2))=l:=by
 induction l with
 |nil=>rfl
 |cons p r c=>
  simp only[xH,List.cons.injEq]at b a ⊢;exact⟨by rw[b.1,a.1],c b.2 a.2⟩
section
variable{S S':WK}(h:WKok S)(h':WKok S'){w a:WE}{q q':WL}
theorem v6(h:WKok S):((wk S w).map fun p=>(Qb p.1,aY Qb p.2))=wk S w:=DL rfl (fX h rfl)
theorem v7(h:WKok S):((wk S w).map fun p=>(Qc p.1,aY Qc p.2))=wk S w:=DL rfl (fX h rfl)
theorem v8:((tn q).map fun p=>(Qb p.1,aY Qb p.2))=bt q:=by
 simp only[tn,xH,xY,aY,x5,dx,jZ];rfl
theorem wa:((AG q).map fun p=>(Qc p.1,aY Qc p.2))=bt q:=by
 simp only[AG,xH,xY,aY,x5,dx,jZ];rfl
theorem Lb:((AG q).map fun p=>(Qd p.1,aY Qd p.2))=tn q:=by
 simp only[AG,xH,xY,aY,x5,dx,jZ];rfl
theorem DM:((bt q).map fun p=>(Qd p.1,aY Qd p.2))=bt q:=by
 simp only[bt,xH,xY,aY,x5,dx,jZ];rfl
include h h'
theorem Iy{l:List aP}{own:Bool}(c:Pv S S' q q' w a l own):∀b:aa,am Pg 30 [gl,Ir q, .d (.ro (cg l)), .d (.bool own)] (ae (wk S w ++tn q) b) [Ir q'] (ae (wk S' a ++tn q') b):=
 lH Mg c rfl rfl (by rw[xF,v6 h,v8]) (by rw[xF,v6 h',v8])
theorem Px{l:List aP}{own:Bool}(c:Pv S S' q q' w a l own):∀b:aa,am Pg 30 [gl,Ix q, .d (.ro (cg l)), .d (.bool own)] (ae (wk S w ++AG q) b) [Ix q'] (ae (wk S' a ++AG q') b):=
 lH Mh c rfl rfl (by rw[xF,v7 h,wa]) (by rw[xF,v7 h',wa])
end
section
variable{S:WK}(h:WKok S){w:WE}{q q':WL}
include h
theorem Tu(c:EU S q q' w):∀a:aa,am Pg 77 [gl,Ir q] (ae (wk S w ++tn q) a) [Ir q'] (ae (wk S w ++tn q') a):=
 lH Mg c rfl rfl (by rw[xF,v6 h,v8]) (by rw[xF,v6 h,v8])
theorem Mi(c:EU S q q' w):∀a:aa,am Pg 77 [gl,Ix q] (ae (wk S w ++AG q) a) [Ix q'] (ae (wk S w ++AG q') a):=
 lH Mh c rfl rfl (by rw[xF,v7 h,wa]) (by rw[xF,v7 h,wa])
end
theorem Tv(q:WL)(a b:Nat)(d:q.s.seen.length<1000000)(h2:q.s.sure.length<1000000):∀c:aa,am Pg 81 [cS q] (ae (bt q ++YB a b) c) [Ix ⟨q.s,a+2,b+2⟩] (ae (bt q ++AG ⟨q.s,a+2,b+2⟩) c):=
 lH Tt (It q a b d h2) rfl rfl (by rw[xF,DM];rfl) (by rw[xF,DM,Lb])
end Go.Avm
namespace Go.Avm
open Go.Proofs
theorem jD:∀(a x:List Bool),(iw a x).length=x.length
 |_,[]=>by simp[iw]
 |[],_::r=>by simp[iw,jD [] r]
 |_::a,_::r=>by simp[iw,jD a r]
theorem EX(a:List Bool)(b:Bool)(r:List Bool):iw a (b::r)=(a.headD false)::iw a.tail r:=by
 cases a<;>rfl
theorem AH{a:Type}{l:List a}{j:Nat}(h:j<l.length)(v:a):(l.set j v).take (j+1)=l.take j ++[v]:=by
 rw[List.take_set,List.take_succ_eq_append_getElem h,List.set_append_right _ _ (by rw[yb];exact Nat.min_le_left _ _),yb,Nat.min_eq_left (zN h),zM];rfl
section
variable{S:WK}(h:WKok S)(w:WE)(a:List Bool)
include h
theorem WH(q:WL)(n j:Nat)(g:j<n)(k:q.s.seen.length=n)(i:n<1000000):RE 69 (lO 30 11) (tq (a.map D.bool) a.length n j) (fb S w q) .normal (tq (a.map D.bool) a.length n (j+1)) (fb S w (q.seth j ((a.drop j).headD false))):=by
 have d:j<q.s.seen.length:=by omega
 have f:q.s.seen[j]? =some q.s.seen[j]:=xD d;have e:∀v,fb S w (q.seth j v)=wk S w ++Iv q j v ++dD 600005 q ++T7:=fun v=>by rw[vX,sC 600005 q j v]
 rw[e];by_cases b:j<a.length
 ·have c:(a.drop j).headD false=a[j]:=by rw[xZ b];rfl
  rw[c];exact WG h w q (a.map D.bool) a.length n j (yM g) (by omega) d _ f (yM b) a[j] (by rw[xb,xN,xD b];rfl)
 ·have c:(a.drop j).headD false=false:=by rw[xx.2 (by omega)];rfl
  rw[c];exact Ts h w q (a.map D.bool) a.length n j (yM g) (by omega) d _ f (decide_eq_false b)
theorem Tw(n:Nat)(i:n<1000000):∀(d j:Nat)(q:WL),j+d=n→q.s.seen.length=n→∃f:WL,f.s=⟨q.s.seen.take j ++iw (a.drop j) (q.s.seen.drop j),q.s.sure⟩∧∀(b:aa)(X:b4),X.P=Pg→X.N=69→LW X (lO 30 11) ⟨ah (tq (a.map D.bool) a.length n j),ae (fb S w q) b⟩ fun m r=>m= .exit 2∧r=⟨ah La,ae (fb S w f) b⟩
 |0,j,q,l,g=>by
  refine⟨q, ?_,fun b X c e=>aA (Pu h w q (a.map D.bool) a.length n j (by rw[x6];omega) b X c e) (by simp)⟩;rw[xx.2 (show q.s.seen.length≤j by omega),yB (by omega)];simp[iw]
 |d+1,j,q,l,g=>by
  obtain⟨f,o,p⟩:=Tw n i d (j+1) (q.seth j ((a.drop j).headD false)) (by omega) (by simp only[WL.seth,zP];exact g);refine⟨f, ?_,fun b X c e=>au (WH h w a q n j (by omega) g i b X c e) (p b X c e)⟩;have k:j<q.s.seen.length:=by omega
  rw[o];simp only[WL.seth];rw[AH k,List.drop_set_of_lt (by omega),xZ k,EX,List.tail_drop,xa];rfl
end
def AR(l:List aP):Nat→Bool
 |0=>false
 |j+1=>match l[j]? with
  |some x=>eQ x
  |none=>false
theorem VB.fail{n:Nat}{w:WE}{p e:Int}(h:VB n w):VB n (w.fail p e):=by
 rcases h with h|⟨h,a⟩
 ·exact .inl h
 ·refine .inr ⟨h, ?_⟩
  unfold WE.fail;rw[a];exact a
def EY(b:Bool)(x:aP)(c:WS):WS:=bif b then {c with w:=c.w.fail (Lw x) 11}else c
theorem AtW.rch{S:WK}{c:WS}{q:WL}{z:Nat}(b:Bool)(x:aP)(h:AtW S c q z):AtW S (EY b x c) q z:=by
 cases b with
 |false=>exact h
 |true=>exact⟨h.ok,h.v,h.P,h.vb.fail,h.l1,h.l2,h.b⟩
theorem WI{l:List aP}(O:l.length<1000000)(J:∀x∈l,o4 x (eQ x))(own:Bool)(v:List D)(u:Nat){S S':WK}(h:WKok S)(h':WKok S'){q q':WL}{c:WS}{z:WE}{i:Nat}(C:i<l.length)(k:sH S S' q q' (EY (AR l i) l[i] c).w z l[i] own):∀(b:aa)(X:b4),X.P=Pg→X.N=69→AW X (lO 30 4) ⟨ah (pZ (cg l) own v u i),ae (fb S c.w q) b⟩ fun M K=>M= .normal∧K=⟨ah (pZ (cg l) own v u (i+1)),ae (fb S' z q') b⟩:=by
 have I:∀j (t:j<l.length),(cg l)[((j:Nat):Int).toNat]? =some (mn l[j]):=fun j t=>by
  rw[xb,jW,xN,xD t];rfl
 have a:(cg l).length=l.length:=fT l;have f:=I i C;cases i with
 |zero=>
  revert k f;generalize l[0]=x;obtain⟨A,id,nm,ty,n,p,es,bd,E⟩:=x;intro k f;exact Tp h c.w q (cg l) own v u A id nm ty n p es bd E h' z q' (by rw[a];exact yM C) f k
 |succ j=>
  have t:j<l.length:=by omega
  have B:=I j t;have g:=J _ (yO t);have L:AR l (j+1)=eQ l[j]:=by simp only[AR,xD t]
  rw[L]at k;revert k f B g;generalize l[j+1]=x;generalize l[j]=y;obtain⟨A,id,nm,ty,n,p,es,bd,E⟩:=x;obtain⟨F,s,r,e,H,G,m,o,d⟩:=y;intro f k B g;revert g k;cases eQ (.mk F s r e H G m o d)with
  |false=>exact fun k g=>Tq h c.w q (cg l) own v u j A id nm ty n p es bd E h' z q' (by rw[a];exact yM C) (by omega) f F s r e H G m o d B g k
  |true=>exact fun k g=>Tr h c.w q (cg l) own v u j A id nm ty n p es bd E h' z q' (by rw[a];exact yM C) (by omega) f F s r e H G m o d B g k
theorem Tx{l:List aP}(A:l.length<1000000)(m:∀x∈l,T4 x)(z:∀x∈l,o4 x (eQ x))(own:Bool)(j:List D)(h:Nat):∀(d i:Nat)(S:WK)(q:WL)(c:WS),i+d=l.length→AtW S c q (bf (l.drop i))→∃S' q',NxW S S' q q' c (bf (l.drop i)) (bc S.fs S.fn own (AR l i) (l.drop i) c q.s)∧∀(a:aa)(X:b4),X.P=Pg→X.N=69→LW X (lO 30 4) ⟨ah (pZ (cg l) own j h i),ae (fb S c.w q) a⟩ fun K r=>K= .exit 0∧r=⟨ah (K9 j h),ae (fb S' (bc S.fs S.fn own (AR l i) (l.drop i) c q.s).1.w q') a⟩
 |0,i,S,q,c,J,f=>by
  have e:l.drop i=[]:=xx.2 (by omega);rw[e]at f ⊢;simp only[bc];exact⟨S,q,NxW.refl f,fun a X n p=>aA (Pr f.ok c.w q (cg l) own j h i (by rw[fT,x6];omega) a X n p) (by simp)⟩
 |d+1,i,S,q,c,J,f=>by
  have o:i<l.length:=by omega
  have y:l.drop i=l[i]::l.drop (i+1):=xZ o;have F:bf (l.drop i)=j8 l[i]+bf (l.drop (i+1)):=by rw[y];rfl
  rw[F]at f ⊢;have t:AtW S (EY (AR l i) l[i] c) q (j8 l[i]):=(f.mono (zL _ _)).rch _ _;obtain⟨S1,B,g,E⟩:=m _ (yO o) S q own _ t;have k:(EY (AR l i) l[i] c).pts=c.pts:=by cases AR l i<;>rfl
  have u:(EY (AR l i) l[i] c).vars=c.vars:=by cases AR l i<;>rfl
  have b:=f.b;obtain⟨r,I,L,C⟩:=Tx A m z own j h d (i+1) S1 B _ (by omega) (g.at (by rw[k];omega));have H:AR l (i+1)=eQ l[i]:=by simp only[AR,xD o]
  have G:bc S.fs S.fn own (AR l i) (l.drop i) c q.s=bc S1.fs S1.fn own (AR l (i+1)) (l.drop (i+1)) (cK S.fs S.fn own l[i] (EY (AR l i) l[i] c) q.s).1 B.s:=by
   rw[y,bc,H,g.fs,g.fn,g.s];rfl
  rw[G];refine⟨r,I, ?_,fun a X n p=>au (WI A z own j h f.ok g.ok o E a X n p) (C a X n p)⟩;have nn:=g.trans L;exact⟨nn.ok,nn.fs,nn.fn,nn.W,nn.vR,nn.v,nn.P,nn.vb,nn.s,nn.l1,nn.l2,by have:=nn.gv;rw[u]at this;exact this,nn.gs,by have:=nn.gp;rw[k]at this;exact this⟩
def Ty(l:List aP):Prop:=∀(S:WK)(q:WL)(own:Bool)(c:WS),AtW S c q (bf l)→∃S' q',NxW S S' q q' c (bf l) ((bc S.fs S.fn own false l c q.s).1,⟨iw q.s.seen (bc S.fs S.fn own false l c q.s).2.seen,(bc S.fs S.fn own false l c q.s).2.sure⟩)∧Pv S S' q q' c.w (bc S.fs S.fn own false l c q.s).1.w l own
theorem YC{l:List aP}(o:l.length<1000000)(f:∀x∈l,T4 x)(k:∀x∈l,o4 x (eQ x)):Ty l:=fun S q own c b=>by
 obtain⟨S1,d,a,e⟩:=Tx o f k own (q.s.seen.map D.bool) q.s.seen.length l.length 0 S q c (x8 _) b;rw[xn]at a e;have n:AR l 0=false:=rfl;rw[n]at a e;generalize bc S.fs S.fn own false l c q.s=r at a e ⊢;have j:d.s.seen.length<1000000:=by have:=a.l2;have:=a.vb.le;rw[a.s];omega
 have g:q.s.seen.length<1000000:=by have:=b.l2;have:=b.vb.le;omega
 obtain⟨i,h,m⟩:=Tw a.ok r.1.w q.s.seen d.s.seen.length j d.s.seen.length 0 d (x8 _) rfl;rw[List.take_zero,xn,xn,yG,a.s]at h;refine⟨S1,i,⟨a.ok,a.fs,a.fn,a.W,a.vR,a.v,a.P,a.vb,h,by simp only[jD];exact a.l1,by simp only[jD];exact a.l2,a.gv,by simp only[jD];exact a.gs,a.gp⟩,Pw b.ok c.w q a.ok r.1.w d i l own g e m⟩
end Go.Avm
namespace Go.Avm
open Go.Proofs
section
variable{S:WK}(h:WKok S)(w:WE)(own:Bool)(id:Int)(nm:List UInt8)(ty n p:Int)(bd c:List aP){a b:List D}{va vb:Nat}(f:S.np+1<1000000000)
variable(v:(w.e !=0)=false){x q:WL}(u:EU S x q w)(j:q.s.seen.length<1000000)(m:q.s.sure.length<1000000){o:WK}(h2:WKok o)(t q':WL)
include h f v u j m h2
theorem YD(C B:Int)(y:List UInt8)(D E:Int)(z es:List Ex)(H:vV S q w ⟨5,id,nm,ty,n,p,((.mk C B y D E z)::es),bd,c⟩ own a b va vb)(G F:WE)(c1:iL (S.addP a b) q w G (.mk C B y D E z) 2)(I:∀e:aa,am Pg 30 [gl,Ir ⟨q.s,2,2⟩, .d (.ro (cg bd)), .d (.bool false)] (ae (wk (S.addP a b) G ++tn ⟨q.s,2,2⟩) e) [Ir t] (ae (wk o F ++tn t) e))(A:EU o q q' F):sH S o x q' w F (.mk 5 id nm ty n p ((.mk C B y D E z)::es) bd c) own:=
 qA {loops:=fun g l=>if g=52 then (if l=6 then some (AQ H)else none)else none,nils2:=fun g r=>if g=52 then (if r=5 then [{k:=607385,i:=1,K:=600101,sz:=1},{k:=607385,i:=2,K:=600102,sz:=1}]else [])else [],hint:=qT 52 [(24,qB v),(71, .apps S.P S.np 1 ⟨by rw[h.pl];exact xL _,by omega⟩)],calls:=tC [(52,28,604610,ad u),(52,362,624433,ad c1),(52,365,625355,ad (It q 0 0 j m)),(52,368,626277,ad I),(52,371,627199,ad A)]} 600000 (bF h h2 rfl)
end
end Go.Avm
namespace Go.Avm
open Go.Proofs
def EZ(own:Bool)(ty n p:Int)(a:Nat)(b:WE):WE:=
 let d:=bif ty==3&& !own then b.fail p 3 else b
 let c:=bif ty==3&&(decide (n<1)||decide (256<n))then d.fail p 1 else d
 bif decide (255≤a)then c.fail p 2 else c
theorem ci{S S1:WK}{q b:WL}{w f:WE}{v:Vr}{x:aP}{own y:Bool}(c:∀a:aa,am Pg 52 [gl,cS q, .d (mn x), .d (.bool own)] (ae (wk S w ++bt q) a) [.agg [.sl 500010 (b.vS+1) 0 (b.s.seen.length+1) 1, .sl 500011 (b.vU+1) 0 (b.s.sure.length+1) 1]] (ae (Qa S1 f v ++Az b true y) a)):sH S (S1.addV v) q (b.push true y) w f x own:=fun a=>by
 have h:=c a;rw[Iu,lR]at h
 have e:cS (b.push true y)= .agg [.sl 500010 (b.vS+1) 0 (b.s.seen.length+1) 1, .sl 500011 (b.vU+1) 0 (b.s.sure.length+1) 1]:=by
  simp only[cS,WL.push,xK,xG,xS,x8]
 rw[e];exact h
theorem Mj{S:WK}(h:WKok S)(q:WL)(x:SC)(own:Bool)(w:WE):P9 S q w (bif S.vars.any fun v=>v.nm==x.nm then w.fail x.p 7 else w) x own:=fun a X b c=>by
 have:=O8 h q x own S.vars.length 0 w (x8 _) a X b c;rw[xn]at this;exact this
section
variable{S:WK}(h:WKok S)(w:WE)(id:Int)(nm:List UInt8)(ty n p:Int)(bd f:List aP){a b:List D}{va vb:Nat}(k:S.np+1<1000000000)(g:S.vars.length+1<100000)(j:(w.e !=0)=false){l q:WL}(i:EU S l q w)(c:q.s.seen.length<1000000)(d:q.s.sure.length<1000000)
include h k g j i c d
theorem WJ(own:Bool)(r:vV S q w ⟨1,id,nm,ty,n,p,[],bd,f⟩ own a b va vb)(t:WE)(s:P9 (S.addP a b) q w t ⟨1,id,nm,ty,n,p,[],bd,f⟩ own):sH S ((S.addP a b).addV ⟨nm,ty,n,id⟩) l (q.push true (ty==3||false)) w (EZ own ty n p S.vars.length t) (.mk 1 id nm ty n p [] bd f) own:=by
 have v:decide (255≤S.vars.length)=decide ((255:Int)≤(S.vars.length:Int)):=by rw[decide_eq_decide];omega
 unfold EZ;dsimp only;rw[v];cases u:(ty==3)with
 |false=>cases e:decide ((255:Int)≤(S.vars.length:Int))with
  |false=>exact ci (Tn h w id nm ty n p bd f k g j i c d own r t s u e)
  |true=>exact ci (O9 h w id nm ty n p bd f k g j i c d own r t s u e)
 |true=>
  revert r s;cases own with
  |true=>
   intro r s;cases m:decide (n<1)with
   |true=>cases e:decide ((255:Int)≤(S.vars.length:Int))with
    |false=>exact ci (Pa h w id nm ty n p bd f k g j i c d r t s u m e)
    |true=>exact ci (KX h w id nm ty n p bd f k g j i c d r t s u m e)
   |false=>cases o:decide (256<n)with
    |true=>cases e:decide ((255:Int)≤(S.vars.length:Int))with
     |false=>exact ci (Pb h w id nm ty n p bd f k g j i c d r t s u m o e)
     |true=>exact ci (KY h w id nm ty n p bd f k g j i c d r t s u m o e)
    |false=>cases e:decide ((255:Int)≤(S.vars.length:Int))with
     |false=>exact ci (Pc h w id nm ty n p bd f k g j i c d r t s u m o e)
     |true=>exact ci (KZ h w id nm ty n p bd f k g j i c d r t s u m o e)
  |false=>
   intro r s;cases m:decide (n<1)with
   |true=>cases e:decide ((255:Int)≤(S.vars.length:Int))with
    |false=>exact ci (Pd h w id nm ty n p bd f k g j i c d r t s u m e)
    |true=>exact ci (K0 h w id nm ty n p bd f k g j i c d r t s u m e)
   |false=>cases o:decide (256<n)with
    |true=>cases e:decide ((255:Int)≤(S.vars.length:Int))with
     |false=>exact ci (Pe h w id nm ty n p bd f k g j i c d r t s u m o e)
     |true=>exact ci (K1 h w id nm ty n p bd f k g j i c d r t s u m o e)
    |false=>cases e:decide ((255:Int)≤(S.vars.length:Int))with
     |false=>exact ci (Pf h w id nm ty n p bd f k g j i c d r t s u m o e)
     |true=>exact ci (K2 h w id nm ty n p bd f k g j i c d r t s u m o e)
theorem WM(u t:Int)(m:List UInt8)(v x:Int)(o:List Ex)(own:Bool)(y:vV S q w ⟨1,id,nm,ty,n,p,[.mk u t m v x o],bd,f⟩ own a b va vb)(A B:WE)(c1:iL (S.addP a b) q w A (.mk u t m v x o) ty)(z:P9 (S.addP a b) q A B ⟨1,id,nm,ty,n,p,[.mk u t m v x o],bd,f⟩ own):sH S ((S.addP a b).addV ⟨nm,ty,n,id⟩) l (q.push true (ty==3||true)) w (EZ own ty n p S.vars.length B) (.mk 1 id nm ty n p [.mk u t m v x o] bd f) own:=by
 have D:decide (255≤S.vars.length)=decide ((255:Int)≤(S.vars.length:Int)):=by rw[decide_eq_decide];omega
 unfold EZ;dsimp only;rw[D];cases C:(ty==3)with
 |false=>cases e:decide ((255:Int)≤(S.vars.length:Int))with
  |false=>exact ci (To h w id nm ty n p bd f k g j i c d u t m v x o [] own y A B c1 z C e)
  |true=>exact ci (Ph h w id nm ty n p bd f k g j i c d u t m v x o [] own y A B c1 z C e)
 |true=>
  revert y z;cases own with
  |true=>
   intro y z;cases r:decide (n<1)with
   |true=>cases e:decide ((255:Int)≤(S.vars.length:Int))with
    |false=>exact ci (Pi h w id nm ty n p bd f k g j i c d u t m v x o [] y A B c1 z C r e)
    |true=>exact ci (K3 h w id nm ty n p bd f k g j i c d u t m v x o [] y A B c1 z C r e)
   |false=>cases s:decide (256<n)with
    |true=>cases e:decide ((255:Int)≤(S.vars.length:Int))with
     |false=>exact ci (Pj h w id nm ty n p bd f k g j i c d u t m v x o [] y A B c1 z C r s e)
     |true=>exact ci (K4 h w id nm ty n p bd f k g j i c d u t m v x o [] y A B c1 z C r s e)
    |false=>cases e:decide ((255:Int)≤(S.vars.length:Int))with
     |false=>exact ci (Pk h w id nm ty n p bd f k g j i c d u t m v x o [] y A B c1 z C r s e)
     |true=>exact ci (K5 h w id nm ty n p bd f k g j i c d u t m v x o [] y A B c1 z C r s e)
  |false=>
   intro y z;cases r:decide (n<1)with
   |true=>cases e:decide ((255:Int)≤(S.vars.length:Int))with
    |false=>exact ci (Pn h w id nm ty n p bd f k g j i c d u t m v x o [] y A B c1 z C r e)
    |true=>exact ci (K6 h w id nm ty n p bd f k g j i c d u t m v x o [] y A B c1 z C r e)
   |false=>cases s:decide (256<n)with
    |true=>cases e:decide ((255:Int)≤(S.vars.length:Int))with
     |false=>exact ci (Po h w id nm ty n p bd f k g j i c d u t m v x o [] y A B c1 z C r s e)
     |true=>exact ci (K7 h w id nm ty n p bd f k g j i c d u t m v x o [] y A B c1 z C r s e)
    |false=>cases e:decide ((255:Int)≤(S.vars.length:Int))with
     |false=>exact ci (Pq h w id nm ty n p bd f k g j i c d u t m v x o [] y A B c1 z C r s e)
     |true=>exact ci (K8 h w id nm ty n p bd f k g j i c d u t m v x o [] y A B c1 z C r s e)
end
section
variable{S:WK}{c:WS}{q a:WL}{z:Nat}(B:Beg S c q a z)(f:1≤z)(g:EU S q a c.w)(own:Bool)(id:Int)(nm:List UInt8)(ty n p:Int)(es:List Ex)(bd d:List aP)
include B f
theorem Iz(j:WE)(v:Vr)(b:Bool):NxW S ((S.addP (lY a.s) (lZ a.s)).addV v) q (a.push true b) c z (⟨c.vars ++[v],c.pts ++[a.s.pt S.fn],bif decide (255≤c.vars.length)then j.fail p 2 else j⟩,⟨a.s.seen ++[true],a.s.sure ++[b]⟩):=by
 have nn:=B.nx f c.w;have i:=B.v255;have e:(c.vars ++[v]).length=c.vars.length+1:=by simp
 refine⟨B.ok1.addV v (by show S.vars.length+1<_;rw[B.at_.v];omega),rfl,rfl,rfl,rfl,by show S.vars ++[v]=_;rw[B.at_.v],nn.P, ?_,rfl,by simp only[xK,xG,xS];have:=nn.l1;simp only at this;omega,by simp only[xK];have:=nn.l2;simp only at this;simp only[xG,xS];omega,by simp,by simp only[xK];have:=nn.gs;simp only at this;omega,nn.gp⟩;simp only[e];cases h:decide (255≤c.vars.length)with
 |true=>
  have:=xe h;exact .inr ⟨by omega,qr rfl⟩
 |false=>
  have:=ya h;exact .inl (by omega)
include g
theorem WN(i:b8 es=true)(y:es.length≤1):StR S c q z own (.mk 1 id nm ty n p es bd d):=by
 have C:=B.v255;have A:S.vars.length+1<100000:=by rw[B.at_.v];omega
 have t:a.s.seen.length<1000000:=by rw[B.len.1];omega
 have u:a.s.sure.length<1000000:=by rw[B.len.2];omega
 have D:(S.addP (lY a.s) (lZ a.s)).vars=c.vars:=B.at_.v;match es,y,i with
 |[],_,_=>
  obtain⟨va,vb,x⟩:=B.loop ⟨1,id,nm,ty,n,p,[],bd,d⟩ own;have r:=Mj B.ok1 a ⟨1,id,nm,ty,n,p,[],bd,d⟩ own c.w;rw[D]at r;have k:=WJ B.at_.ok c.w id nm ty n p bd d B.hn A B.h0' g t u own x _ r;rw[B.at_.v]at k
  have e:cK S.fs S.fn own (.mk 1 id nm ty n p [] bd d) c q.s=(⟨c.vars ++[⟨nm,ty,n,id⟩],c.pts ++[a.s.pt S.fn],EZ own ty n p c.vars.length (bif c.vars.any fun v=>v.nm==nm then c.w.fail p 7 else c.w)⟩,⟨a.s.seen ++[true],a.s.sure ++[ty==3||false]⟩):=by
   rw[cK,B.h0,←B.s];rfl
  exact StR.of own e (Iz B f p _ ⟨nm,ty,n,id⟩ _) k
 |[.mk m j b o l h],_,i=>
  simp only[b8,xJ]at i;have E:=gW B.ok1 (B.ex _ i.1) c.w ty;obtain⟨va,vb,x⟩:=B.loop ⟨1,id,nm,ty,n,p,[.mk m j b o l h],bd,d⟩ own;have r:=Mj B.ok1 a ⟨1,id,nm,ty,n,p,[.mk m j b o l h],bd,d⟩ own (dj (eU (S.addP (lY a.s) (lZ a.s)) a) (.mk m j b o l h) ty c.w);rw[D]at r;have k:=WM B.at_.ok c.w id nm ty n p bd d B.hn A B.h0' g t u m j b o l h own x _ _ E r
  have e:cK S.fs S.fn own (.mk 1 id nm ty n p [.mk m j b o l h] bd d) c q.s=(⟨c.vars ++[⟨nm,ty,n,id⟩],c.pts ++[a.s.pt S.fn],EZ own ty n p c.vars.length (bif c.vars.any fun v=>v.nm==nm then (dj (eU (S.addP (lY a.s) (lZ a.s)) a) (.mk m j b o l h) ty c.w).fail p 7 else (dj (eU (S.addP (lY a.s) (lZ a.s)) a) (.mk m j b o l h) ty c.w))⟩,⟨a.s.seen ++[true],a.s.sure ++[ty==3||true]⟩):=by
   rw[cK,B.h0,←B.s,←pG B.at_.v _ _ (c.pts ++[a.s.pt S.fn]) c.w];rfl
  have d:S.vars.length=c.vars.length:=by rw[B.at_.v]
  rw[d]at k;exact StR.of own e (Iz B f p _ ⟨nm,ty,n,id⟩ _) k
 |_::_::_,y,_=>simp at y
theorem WO(y:b8 es=true)(N:es.length=1)(L:Ty bd)(Q:1+bf bd≤z):StR S c q z own (.mk 5 id nm ty n p es bd d):=by
 obtain⟨o,m,i,t,l,j,rfl⟩:=one_of N;simp only[b8,xJ]at y;have J:=B.v255;have E:a.s.seen.length<1000000:=by rw[B.len.1];omega
 have H:a.s.sure.length<1000000:=by rw[B.len.2];omega
 obtain⟨va,vb,K⟩:=B.loop ⟨5,id,nm,ty,n,p,[.mk o m i t l j],bd,d⟩ own;have T:=gW B.ok1 (B.ex _ y.1) c.w 2;have u:=B.nx f (dj (eU (S.addP (lY a.s) (lZ a.s)) a) (.mk o m i t l j) 2 c.w);have b:=B.at_.b;have F:AtW (S.addP (lY a.s) (lZ a.s)) ⟨c.vars,c.pts ++[a.s.pt S.fn],dj (eU (S.addP (lY a.s) (lZ a.s)) a) (.mk o m i t l j) 2 c.w⟩ ⟨a.s,2,2⟩ (bf bd):=⟨u.ok,u.v,u.P,u.vb,u.l1,u.l2,by simp only[xK,xG,xS];omega⟩
 obtain⟨I,O,h,C⟩:=L _ _ false _ F
 have e:cK S.fs S.fn own (.mk 5 id nm ty n p [.mk o m i t l j] bd d) c q.s=((bc S.fs S.fn false false bd ⟨c.vars,c.pts ++[a.s.pt S.fn],dj (eU (S.addP (lY a.s) (lZ a.s)) a) (.mk o m i t l j) 2 c.w⟩ a.s).1,a.s.longer (bc S.fs S.fn false false bd ⟨c.vars,c.pts ++[a.s.pt S.fn],dj (eU (S.addP (lY a.s) (lZ a.s)) a) (.mk o m i t l j) 2 c.w⟩ a.s).1.vars.length):=by
  rw[←lF];rw[cK,B.h0,←B.s,←pG B.at_.v _ _ (c.pts ++[a.s.pt S.fn]) c.w];rfl
 dsimp only at h C;change NxW _ _ _ _ _ _ ((bc S.fs S.fn false false bd _ a.s).1,_)at h
 change Pv _ _ _ _ _ (bc S.fs S.fn false false bd _ a.s).1.w _ _ at C
 generalize bc S.fs S.fn false false bd ⟨c.vars,c.pts ++[a.s.pt S.fn],dj (eU (S.addP (lY a.s) (lZ a.s)) a) (.mk o m i t l j) 2 c.w⟩ a.s=r at e h C;have D:c.vars.length≤r.1.vars.length:=h.gv;have R:r.1.pts.length≤(c.pts ++[a.s.pt S.fn]).length+bf bd:=h.gp;have G:a.s.seen.length≤I.vars.length:=by rw[h.v,B.len.1];exact D
 have x:a.s.sure.length=a.s.seen.length:=by rw[B.len.1,B.len.2]
 obtain⟨q',A,M⟩:=AB h.ok r.1.w a x G;rw[h.v]at A;have k:=dV (s:=a.s) (n:=r.1.vars.length) x.symm (by rw[B.len.1];exact D);refine StR.of own e (S':=I) (q':=q') ⟨h.ok,h.fs,h.fn,h.W,h.vR,h.v,h.P,h.vb,A,by simp only[k.1,k.2],by simp only[k.1,xL],D,by simp only[k.1];have:=B.at_.l2;omega,by simp only[xK,xG,xS]at R;simp only;omega⟩ ?_;exact YD B.at_.ok c.w own id nm ty n p bd d B.hn B.h0' g E H h.ok O q' o m i t l j [] K _ r.1.w T (Iy B.ok1 h.ok C) M
end
end Go.Avm
namespace Go.Avm
open Go.Proofs
abbrev jE(q b a:WL)(x:SC):List (Nat×aE):=bt q ++dD 600005 q ++[(600467,⟨1,some (.arr 1 (P8 x))⟩),(600930,⟨1,some (.arr 1 [.nils, .nils])⟩)] ++tn b ++AG a ++[(625370,⟨1,some (.arr 1 [.sl 500020 b.vS 0 b.s.seen.length 1, .sl 500072 b.vU 0 b.s.sure.length 1])⟩),(629059,⟨1,some (.arr 1 [.sl 500120 a.vS 0 a.s.seen.length 1, .sl 500172 a.vU 0 a.s.sure.length 1])⟩)]
abbrev Tz(q a b:WL)(x:SC)(j:Nat)(v:Bool):List (Nat×aE):=bt q ++dD 600005 q ++[(600467,⟨1,some (.arr 1 (P8 x))⟩),(600930,⟨1,some (.arr 1 [.nils, .nils])⟩)] ++[(500020,⟨a.vS,some (.arr 1 ((a.s.seen.map D.bool).map AV.d))⟩),(500072,⟨a.vU,some (.arr 1 (((a.s.sure.map D.bool).map AV.d).set (0+((j:Nat):Int).toNat) (AV.d (.bool v))))⟩)] ++AG b ++[(625370,⟨1,some (.arr 1 [.sl 500020 a.vS 0 a.s.seen.length 1, .sl 500072 a.vU 0 a.s.sure.length 1])⟩),(629059,⟨1,some (.arr 1 [.sl 500120 b.vS 0 b.s.seen.length 1, .sl 500172 b.vU 0 b.s.sure.length 1])⟩)]
def WL.setu(q:WL)(j:Nat)(v:Bool):WL:=⟨⟨q.s.seen,q.s.sure.set j v⟩,q.vS,q.vU⟩
theorem o7(q b a:WL)(x:SC)(j:Nat)(v:Bool):Tz q b a x j v=jE q (b.setu j v) a x:=by
 have e:0+((j:Nat):Int).toNat=j:=by omega
 unfold Tz jE tn WL.setu;rw[e];simp only[List.map_set,zP]
abbrev oe(n i:Nat):List (Nat×AV):=[(5, .ptr 600005 1 0 0 1),(6, .ptr 600467 1 0 0 1),(8, .ptr 600930 1 0 0 1),(15, .ptr 625370 1 0 0 1),(16, .ptr 629059 1 0 0 1),(314,dN n),(315,dN i)]
abbrev Lc:List (Nat×AV):=[(5, .ptr 600005 1 0 0 1),(8, .ptr 600930 1 0 0 1),(15, .ptr 625370 1 0 0 1)]
theorem i8{q c b:WL}{x:SC}{ρ:Nat→Nat}(a:([500010,500011,500020,500072,500120,500172].map ρ)=[500010,500011,500020,500072,500120,500172]):((jE q c b x).map fun p=>aY ρ p.2)=(jE q c b x).map (·.2):=by
 simp only[xH,xY,List.cons.injEq,zB]at a;obtain⟨h,h2,g,f,d,e⟩:=a;simp only[jE,xF,xH,xY,aY,x5,dx,bk,aO,jZ,P8,h,h2,g,f,d,e]
section
variable(q a b:WL)(x:SC)(n i:Nat)
theorem Py(c:decide (i<n)=false):RE 461 (lO 52 53) (oe n i) (jE q a b x) (.exit 5) Lc (jE q a b x):=
 qE {hint:=qT 52 [(316,dk Pg i n false c)]} 52 700000 ⟨rfl,rfl,rfl,rfl,i8 rfl,i8 rfl⟩
section
variable(c:decide (i<n)=true)(h:i<1000000)(g:i<a.s.sure.length)(f:i<b.s.sure.length)(u v:Bool)(e:a.s.sure[i]? =some u)(d:b.s.sure[i]? =some v)
include c h g f e d
theorem YE(j:kw x.bd true):RE 461 (lO 52 53) (oe n i) (jE q a b x) .normal (oe n (i+1)) (Tz q a b x i v):=
 qE {hint:=qT 52 [(316,dk Pg i n true c),(321, .call 31 _ _ j),(328, .inb (i:Int) b.s.sure.length (by omega) (by simpa using f)),(329,jC Pg b.s.sure i v d),(330, .inb (i:Int) a.s.sure.length (by omega) (by simpa using g)),(156009,jC Pg a.s.sure i u e),(352,bj Pg i (by omega))]} 52 700000 ⟨rfl,rfl,rfl,rfl,i8 rfl,by rw[o7];exact i8 rfl⟩
theorem YF(j:kw x.bd false)(k:kw x.el true):RE 461 (lO 52 53) (oe n i) (jE q a b x) .normal (oe n (i+1)) (jE q a b x):=
 qE {hint:=qT 52 [(316,dk Pg i n true c),(321, .call 31 _ _ j),(334, .call 31 _ _ k),(352,bj Pg i (by omega))]} 52 700000 ⟨rfl,rfl,rfl,rfl,i8 rfl,i8 rfl⟩
end
theorem WP(g:decide (i<n)=true)(h:i<1000000)(d:i<a.s.sure.length)(c:a.s.sure[i]? =some false)(f:kw x.bd false)(e:kw x.el false):RE 461 (lO 52 53) (oe n i) (jE q a b x) .normal (oe n (i+1)) (Tz q a b x i false):=
 qE {hint:=qT 52 [(316,dk Pg i n true g),(321, .call 31 _ _ f),(334, .call 31 _ _ e),(342, .inb (i:Int) a.s.sure.length (by omega) (by simpa using d)),(343,jC Pg a.s.sure i false c),(351, .inb (i:Int) a.s.sure.length (by omega) (by simpa using d)),(158016,jC Pg a.s.sure i false c),(352,bj Pg i (by omega))]} 52 700000 ⟨rfl,rfl,rfl,rfl,i8 rfl,by rw[o7];exact i8 rfl⟩
theorem WQ(j:decide (i<n)=true)(k:i<1000000)(d:i<a.s.sure.length)(g:i<b.s.sure.length)(v:Bool)(c:a.s.sure[i]? =some true)(e:b.s.sure[i]? =some v)(h:kw x.bd false)(f:kw x.el false):RE 461 (lO 52 53) (oe n i) (jE q a b x) .normal (oe n (i+1)) (Tz q a b x i v):=
 qE {hint:=qT 52 [(316,dk Pg i n true j),(321, .call 31 _ _ h),(334, .call 31 _ _ f),(342, .inb (i:Int) a.s.sure.length (by omega) (by simpa using d)),(343,jC Pg a.s.sure i true c),(348, .inb (i:Int) b.s.sure.length (by omega) (by simpa using g)),(349,jC Pg b.s.sure i v e),(351, .inb (i:Int) a.s.sure.length (by omega) (by simpa using d)),(158016,jC Pg a.s.sure i true c),(352,bj Pg i (by omega))]} 52 700000 ⟨rfl,rfl,rfl,rfl,i8 rfl,by rw[o7];exact i8 rfl⟩
end
end Go.Avm
namespace Go.Avm
open Go.Proofs
abbrev WR(q c a b:WL)(x:SC):Prop:=RL 461 (lO 52 53) (oe c.s.sure.length 0) (jE q c b x) (.exit 5) Lc (jE q a b x)
noncomputable def YG{q e b d:WL}{x:SC}(c:WR q e b d x):dJ Pg:=
 ⟨461,aJ Pg 52 53,oe e.s.sure.length 0,fun _=>jE q e d x, .exit 5,Lc,fun _=>jE q b d x,fun a X f g=>(c a X f g).aw⟩
section
variable{S:WK}(h:WKok S)(w:WE)(own:Bool)(id:Int)(nm:List UInt8)(ty n p:Int)(bd c:List aP){a b:List D}{va vb:Nat}(f:S.np+1<1000000000)
variable(D:(w.e !=0)=false){B q:WL}(C:EU S B q w)(x:q.s.seen.length<1000000)(y:q.s.sure.length<1000000){v:WK}(E:WKok v)(z:WK)(A m j t o u:WL)
include h f D C x y E
set_option maxRecDepth 100000 in
theorem YH(L J:Int)(F:List UInt8)(N I:Int)(G es:List Ex)(U:vV S q w ⟨4,id,nm,ty,n,p,((.mk L J F N I G)::es),bd,c⟩ own a b va vb)(T M H:WE)(c1:iL (S.addP a b) q w T (.mk L J F N I G) 2)(Y:∀e:aa,am Pg 30 [gl,Ir ⟨q.s,2,2⟩, .d (.ro (cg bd)), .d (.bool false)] (ae (wk (S.addP a b) T ++tn ⟨q.s,2,2⟩) e) [Ir A] (ae (wk z M ++tn A) e))
    (Q:∀e:aa,am Pg 77 [gl,Ix ⟨q.s,2,2⟩] (ae (wk z M ++AG ⟨q.s,2,2⟩) e) [Ix t] (ae (wk z M ++AG t) e))
    (W:∀e:aa,am Pg 30 [gl,Ix t, .d (.ro (cg c)), .d (.bool false)] (ae (wk z M ++AG t) e) [Ix o] (ae (wk v H ++AG o) e))
    (R:∀e:aa,am Pg 77 [gl,Ix o] (ae (wk v H ++AG o) e) [Ix u] (ae (wk v H ++AG u) e))
    (O:∀e:aa,am Pg 77 [gl,Ir A] (ae (wk v H ++tn A) e) [Ir m] (ae (wk v H ++tn m) e))
    (X:WR q m j u ⟨4,id,nm,ty,n,p,((.mk L J F N I G)::es),bd,c⟩) (V:j.s.seen.length=m.s.seen.length) (Z:j.s.sure.length=m.s.sure.length):∀e:aa,am Pg 52 [gl,cS B, .d (mn (.mk 4 id nm ty n p ((.mk L J F N I G)::es) bd c)), .d (.bool own)] (ae (wk S w ++bt B) e) [cS ⟨j.s,q.vS+1,q.vU+1⟩] (ae (wk v H ++bt ⟨j.s,q.vS+1,q.vU+1⟩) e):=
 qA {loops:=fun g l=>if g=52 then (if l=6 then some (AQ U)else if l=53 then some (YG X)else none)else none,nils2:=fun g r=>if g=52 then (if r=80 then [{k:=600005,i:=0,K:=500010,sz:=1,obj:=true},{k:=600005,i:=1,K:=500011,sz:=1,obj:=true}]else if r=5 then [{k:=607385,i:=1,K:=600101,sz:=1},{k:=607385,i:=2,K:=600102,sz:=1}]else [])else [],hint:=qT 52 [(24,qB D),(71, .apps S.P S.np 1 ⟨by rw[h.pl];exact xL _,by omega⟩)],calls:=tC [(52,28,604610,ad C),(52,292,623511,ad c1),(52,295,624433,ad (It q 0 0 x y)),(52,298,625355,ad Y),(52,303,628121,ad (Tv q 0 0 x y)),(52,304,628121,ad Q),(52,307,629043,ad W),(52,308,629043,ad R),(52,311,630887,ad O)]} 600000 (bF h E rfl)
end
end Go.Avm
namespace Go.Avm
open Go.Proofs
def Ld(c d:Bool)(a b:List Bool):List Bool:=bif c then b else bif d then a else kp a b
theorem IA(c d x y:Bool)(a b:List Bool):Ld c d (x::a) (y::b)=(bif c then y else bif d then x else (x&&y))::Ld c d a b:=by
 cases c<;>cases d<;>rfl
theorem Le(a b:Bool):Ld a b [] []=[]:=by cases a<;>cases b<;>rfl
theorem Lf(c d:Bool){a b:List Bool}(h:b.length=a.length):(Ld c d a b).length=a.length:=by
 cases c<;>cases d<;>simp only[Ld,xW,xP,h,nL,Nat.min_self]
theorem IB(c d:Bool)(a b:LS):zn c d a b=⟨a.seen,Ld c d a.sure b.sure⟩:=by
 cases c<;>cases d<;>rfl
section
variable(q a:WL)(x:SC)(e f:Bool)(b:kw x.bd e)(c:kw x.el f)
include b c
theorem WT(d:WL)(n i:Nat)(r:i<n)(t:n<1000000)(j:i<d.s.sure.length)(o:i<a.s.sure.length):∃h:WL,h.s=⟨d.s.seen,d.s.sure.set i (bif e then a.s.sure[i]else bif f then d.s.sure[i]else (d.s.sure[i]&&a.s.sure[i]))⟩∧RE 461 (lO 52 53) (oe n i) (jE q d a x) .normal (oe n (i+1)) (jE q h a x):=by
 have g:d.s.sure[i]? =some d.s.sure[i]:=xD j;have p:a.s.sure[i]? =some a.s.sure[i]:=xD o;have m:decide (i<n)=true:=yM r;have l:i<1000000:=by omega
 cases e with
 |true=>
  have k:=YE q d a x n i m l j o _ _ g p b;rw[o7]at k;exact⟨d.setu i a.s.sure[i],rfl,k⟩
 |false=>cases f with
  |true=>exact⟨d,by simp only[xP,xW,List.set_getElem_self],YF q d a x n i m l j o _ _ g p b c⟩
  |false=>
   simp only[xP];revert g;cases d.s.sure[i]with
   |false=>
    intro g;have k:=WP q d a x n i m l j g b c;rw[o7]at k;exact⟨d.setu i false,rfl,k⟩
   |true=>
    intro g;have k:=WQ q d a x n i m l j o _ g p b c;rw[o7]at k;exact⟨d.setu i a.s.sure[i],by rw[Bool.true_and];rfl,k⟩
theorem TA(n:Nat)(p:n<1000000)(y:a.s.sure.length=n):∀(d i:Nat)(h:WL),i+d=n→h.s.sure.length=n→∃j:WL,j.s=⟨h.s.seen,h.s.sure.take i ++Ld e f (h.s.sure.drop i) (a.s.sure.drop i)⟩∧RL 461 (lO 52 53) (oe n i) (jE q h a x) (.exit 5) Lc (jE q j a x)
 |0,i,h,u,r=>by
  refine⟨h, ?_,fun g X l m=>aA (Py q h a x n i (by rw[x6];omega) g X l m) (by simp)⟩;rw[xx.2 (by omega:h.s.sure.length≤i),xx.2 (by omega:a.s.sure.length≤i),Le,yC,yB (by omega)]
 |d+1,i,h,u,r=>by
  have o:i<h.s.sure.length:=by omega
  have k:i<a.s.sure.length:=by omega
  obtain⟨A,t,v⟩:=WT q a x e f b c h n i (by omega) p o k;obtain⟨B,w,z⟩:=TA n p y d (i+1) A (by omega) (by rw[t,zP];exact r);refine⟨B, ?_,fun g X l m=>au (v g X l m) (z g X l m)⟩;rw[w,t];simp only;rw[AH o,List.drop_set_of_lt (by omega),xZ o,xZ k,IA,xa];rfl
end
section
variable{S:WK}{c:WS}{q d:WL}{z:Nat}(B:Beg S c q d z)(g:1≤z)(h:EU S q d c.w)(own:Bool)(id:Int)(nm:List UInt8)(ty n p:Int)(es:List Ex)(bd f:List aP)
include B g h
theorem WU(K:b8 es=true)(he:es.length=1)(hb:Ty bd)(U:Ty f)(hbz:1+bf bd+bf f≤z)(hzz:z<1000000):StR S c q z own (.mk 4 id nm ty n p es bd f):=by
 obtain⟨r,o,k,t,m,l,rfl⟩:=one_of he;simp only[b8,xJ]at K;have h255:=B.v255;have Z:d.s.seen.length<1000000:=by rw[B.len.1];omega
 have hq2:d.s.sure.length<1000000:=by rw[B.len.2];omega
 have J:d.s.sure.length=d.s.seen.length:=by rw[B.len.1,B.len.2]
 obtain⟨va,vb,cP⟩:=B.loop ⟨4,id,nm,ty,n,p,[.mk r o k t m l],bd,f⟩ own;have cx:=gW B.ok1 (B.ex _ K.1) c.w 2
 have e:cK S.fs S.fn own (.mk 4 id nm ty n p [.mk r o k t m l] bd f) c q.s=
     (let a:=bc S.fs S.fn false false bd ⟨c.vars,c.pts ++[d.s.pt S.fn],dj (eU (S.addP (lY d.s) (lZ d.s)) d) (.mk r o k t m l) 2 c.w⟩ d.s
     let a':LS:=⟨iw d.s.seen a.2.seen,a.2.sure⟩
     let s2:=d.s.longer a.1.vars.length
     let b:=bc S.fs S.fn false false f a.1 s2
     let b':=(⟨iw s2.seen b.2.seen,b.2.sure⟩:LS).longer b.1.vars.length
     (b.1,zn (bT bd) (bT f) (a'.longer b.1.vars.length) b')):=by
  rw[←lF];rw[cK,B.h0,←B.s,←pG B.at_.v _ _ (c.pts ++[d.s.pt S.fn]) c.w];rfl
 have G:=B.nx g (dj (eU (S.addP (lY d.s) (lZ d.s)) d) (.mk r o k t m l) 2 c.w);have bb:=B.at_.b;have at2:AtW (S.addP (lY d.s) (lZ d.s)) ⟨c.vars,c.pts ++[d.s.pt S.fn],dj (eU (S.addP (lY d.s) (lZ d.s)) d) (.mk r o k t m l) 2 c.w⟩ ⟨d.s,2,2⟩ (bf bd):=⟨G.ok,G.v,G.P,G.vb,G.l1,G.l2,by simp only[xK,xG,xS];omega⟩
 obtain⟨A,qa,j,O⟩:=hb _ _ false _ at2;dsimp only at j O;change NxW _ _ _ _ _ _ ((bc S.fs S.fn false false bd _ d.s).1,⟨iw d.s.seen (bc S.fs S.fn false false bd _ d.s).2.seen,(bc S.fs S.fn false false bd _ d.s).2.sure⟩)at j
 change Pv _ _ _ _ _ (bc S.fs S.fn false false bd _ d.s).1.w _ _ at O
 dsimp only at e;generalize bc S.fs S.fn false false bd ⟨c.vars,c.pts ++[d.s.pt S.fn],dj (eU (S.addP (lY d.s) (lZ d.s)) d) (.mk r o k t m l) 2 c.w⟩ d.s=a at e j O;have V:c.vars.length≤a.1.vars.length:=j.gv;have gp:a.1.pts.length≤(c.pts ++[d.s.pt S.fn]).length+bf bd:=j.gp;simp only[xK,xG,xS]at gp;have u:A.fs=S.fs:=j.fs;have x:A.fn=S.fn:=j.fn;have R:A.W=S.W:=j.W;have T:A.vR=S.vR:=j.vR;obtain⟨q3,I,c3⟩:=AB j.ok a.1.w ⟨d.s,2,2⟩ J (by rw[j.v];show d.s.seen.length≤_;rw[B.len.1];exact V);change q3.s=d.s.longer A.vars.length at I
 rw[j.v]at I;have l3:=dV (s:=d.s) (n:=a.1.vars.length) J.symm (by rw[B.len.1];exact V);have Y:AtW A a.1 q3 (bf f):=⟨j.ok,j.v,j.P,j.vb,by rw[I,l3.1,l3.2],by rw[I,l3.1];exact xL _,by omega⟩
 obtain⟨S3,qb,i,k4⟩:=U _ _ false _ Y;rw[u,x,I]at i k4;generalize bc S.fs S.fn false false f a.1 (d.s.longer a.1.vars.length)=b at e i k4;have C:a.1.vars.length≤b.1.vars.length:=i.gv;have gp4:b.1.pts.length≤a.1.pts.length+bf f:=i.gp;have v4:b.1.vars.length≤256:=i.vb.le;obtain⟨N,Q,c5⟩:=AB i.ok b.1.w qb (by rw[i.s];exact i.l1) (by rw[i.s,i.v];exact i.l2);rw[i.s,i.v]at Q;have l5:=dV (n:=b.1.vars.length) i.l1.symm i.l2;obtain⟨E,D,c6⟩:=AB i.ok b.1.w qa (by rw[j.s];exact j.l1) (by rw[j.s,i.v];exact yH j.l2 C);rw[j.s,i.v]at D;have M:=dV (n:=b.1.vars.length) j.l1.symm (yH j.l2 C);have z1:=Iq bd (by omega);have z2:=Iq f (by omega);obtain⟨H,F,c7⟩:=TA d N ⟨4,id,nm,ty,n,p,[.mk r o k t m l],bd,f⟩ _ _ z1 z2 b.1.vars.length (by omega) (by rw[Q];exact l5.2) b.1.vars.length 0 E (x8 _) (by rw[D];exact M.2);rw[List.take_zero,xn,xn,yG]at F
 have cM:WR d E H N ⟨4,id,nm,ty,n,p,[.mk r o k t m l],bd,f⟩:=fun L X hP hN=>by
  have:=c7 L X hP hN;rw[←M.2,←D]at this;exact this
 have lm:(Ld (bT bd) (bT f) E.s.sure N.s.sure).length=E.s.sure.length:=Lf _ _ (by rw[Q,D,l5.2,M.2])
 have es:H.s=zn (bT bd) (bT f) ((⟨iw d.s.seen a.2.seen,a.2.sure⟩:LS).longer b.1.vars.length) ((⟨iw (d.s.longer a.1.vars.length).seen b.2.seen,b.2.sure⟩:LS).longer b.1.vars.length):=by
  rw[IB,←D,←Q];exact F
 have y:H.s.seen.length=b.1.vars.length:=by rw[F];show E.s.seen.length=_;rw[D];exact M.1
 have ls2:H.s.sure.length=b.1.vars.length:=by rw[F];show(Ld _ _ _ _).length=_;rw[lm,D];exact M.2
 rw[←es]at e;refine StR.of own e (S':=S3) (q':=⟨H.s,d.vS+1,d.vU+1⟩) ⟨i.ok,i.fs.trans u,i.fn.trans x,i.W.trans R,i.vR.trans T,i.v,i.P,i.vb,rfl,by rw[y,ls2],by rw[y];exact xL _,yH V C,by rw[y];have:=B.at_.l2;omega,by show b.1.pts.length≤_;omega⟩ ?_;exact YH B.at_.ok c.w own id nm ty n p bd f B.hn B.h0' h Z hq2 i.ok A qa E H q3 qb N r o k t m l [] cP _ a.1.w b.1.w cx (Iy B.ok1 j.ok O) (Mi j.ok c3) (Px j.ok i.ok k4) (Mi i.ok c5) (Tu i.ok c6) cM (by rw[F]) (by rw[F];exact lm)
end
mutual
theorem Pz:∀x:aP,f9 x=true→j8 x<1000000→T4 x
 | .mk k id nm ty n p es bd g,r,j=>fun S q own c a=>by
  simp only[f9,xJ]at r;obtain⟨_,d,y,o,l⟩:=r;have z:=j;simp only[j8]at z;have h:1≤j8 (.mk k id nm ty n p es bd g):=Dq _;cases m:(c.w.e==0)with
  |false=>
   have e:cK S.fs S.fn own (.mk k id nm ty n p es bd g) c q.s=(c,q.s):=lh S.fs S.fn own _ m;rw[e];exact⟨S,q,NxW.refl a,Yx a.ok c.w own id nm ty n p bd g (by rw[←a.ok.pl,a.P,xO];have:=a.b;omega) k es q (by rw[bne,m];rfl)⟩
  |true=>
   obtain⟨u,t,i⟩:=AB a.ok c.w q a.l1 (by rw[a.v];exact a.l2);rw[a.v]at t;have B:Beg S c q u (j8 (.mk k id nm ty n p es bd g)):=⟨a,t,m⟩
   rcases AE y with ⟨rfl,f⟩|⟨rfl,f⟩|⟨rfl,f⟩|⟨rfl,f⟩|⟨rfl,f⟩|⟨rfl,f⟩|⟨rfl,f⟩|⟨rfl,f⟩
   ·exact WN B h i own id nm ty n p es bd g d f
   ·exact WF B h i own id nm ty n p es bd g d f
   ·exact WD B h i own id nm ty n p es bd g d f
   ·exact WU B h i own id nm ty n p es bd g d f (wb bd o (by omega)) (wb g l (by omega)) (by simp only[j8];omega) j
   ·exact WO B h i own id nm ty n p es bd g d f (wb bd o (by omega)) (by simp only[j8];omega)
   ·exact WC B h i own id nm ty n p es bd g d f
   ·exact WB B h i own id nm ty n p es bd g d f
   ·exact WA B h i own id nm ty n p es bd g d f
theorem wb:∀l:List aP,de l=true→bf l<1000000→Ty l:=fun l b a=>YC (by have:=jz l;omega) (DN l b a) (sB l a)
theorem DN:∀l:List aP,de l=true→bf l<1000000→∀x∈l,T4 x
 |[],_,_,x,a=>by cases a
 |y::r,b,c,x,a=>by
  simp only[de,xJ]at b;simp only[bf]at c;rcases x0.1 a with e|a
  ·rw[e];exact Pz y b.1 (by omega)
  ·exact DN r b.2 (by omega) x a
end
end Go.Avm
namespace Go.Avm
open Go.Proofs
def AI(x:Pm)(a:List Pm)(w:WE):WE:=bif a.any fun y=>y.nm==x.nm then w.fail x.p 7 else w
def sD:Nat→List Pm→List Pm→WE→WE
 |_,_,[],w=>w
 |k,a,x::r,w=>sD (k+1) (a ++[x]) r (AI x a (bif decide (6≤k)then w.fail x.p 9 else w))
def eW:List Fn→List Fn→WE→WE
 |_,[],w=>w
 |a,f::r,w=>eW (a ++[f]) r (sD 0 [] f.ps (bif (bA f.nm a 0).isSome then w.fail f.p 7 else w))
abbrev hw(fs:List Fn)(w:WE):List (Nat×aE):=[(500000,⟨1,some (.arr 1 [.d (.ro (fs.map bn)), .nils, .nils,dI 0,dI w.p,dI w.e])⟩)]
section
variable(fs:List Fn)(w:WE)
theorem PA(p e:Int)(a:(w.e==0)=true):HC 29 [gl,dI p,dI e] (hw fs w) [] (hw fs ⟨p,e⟩):=
 qN {hint:=qT 29 [(10,qB a)]} 1000 ⟨rfl,rfl,rfl,rfl,rfl,rfl⟩
theorem PB(p e:Int)(a:(w.e==0)=false):HC 29 [gl,dI p,dI e] (hw fs w) [] (hw fs w):=
 qN {hint:=qT 29 [(10,qB a)]} 1000 ⟨rfl,rfl,rfl,rfl,rfl,rfl⟩
theorem uo(p e:Int):HC 29 [gl,dI p,dI e] (hw fs w) [] (hw fs (w.fail p e)):=by
 unfold WE.fail;cases a:(w.e==0)with
 |true=>exact PA fs w p e a
 |false=>exact PB fs w p e a
end
abbrev tr(fs:List Fn)(w:WE):List (Nat×aE):=[(498797,⟨1,some (.arr 1 [.d (.ro (fs.map bn))])⟩),(498995,⟨1,some (.arr 1 [.nils, .nils])⟩)] ++hw fs w
abbrev AJ(fs:List Fn)(w:WE)(nm:List UInt8)(ps:List Pm)(res:Int)(bd:List aP)(p:Int):List (Nat×aE):=tr fs w ++[(600795,⟨1,some (.arr 1 [.d (.str nm), .d (.ro (ps.map cR)),Ju res, .d (.ro (cg bd)),dI p])⟩)]
abbrev AU(fs:List Fn)(w:WE)(nm:List UInt8)(ps:List Pm)(res:Int)(bd:List aP)(p:Int)(x:Pm):List (Nat×aE):=AJ fs w nm ps res bd p ++[(700797,⟨1,some (.arr 1 [.d (.str x.nm),Ju x.ty,dI x.p])⟩)]
abbrev wc(fs:List Fn)(i:Nat):List (Nat×AV):=[(1, .ptr 498797 1 0 0 1),(2, .ptr 498995 1 0 0 1),(5,gl),(24, .d (.ro (fs.map bn))),(25,dN (fs.map bn).length),(26,dN i)]
abbrev E9(fs:List Fn)(i:Nat)(ps:List Pm)(k:Nat):List (Nat×AV):=wc fs i ++[(7, .ptr 600795 1 0 0 1),(42, .d (.ro (ps.map cR))),(43,dN (ps.map cR).length),(44,dN k)]
abbrev Ja(fs:List Fn)(i:Nat)(ps:List Pm)(k:Nat)(a:List D)(j:Nat):List (Nat×AV):=E9 fs i ps k ++[(9, .ptr 700797 1 0 0 1),(58, .d (.ro a)),(59,dN a.length),(60,dN j)]
abbrev Mk(fs:List Fn)(i:Nat)(ps:List Pm)(k:Nat):List (Nat×AV):=E9 fs i ps k
section
variable(fs:List Fn)(w:WE)(nm:List UInt8)(ps:List Pm)(res:Int)(bd:List aP)(p:Int)(i:Nat)
section
variable(k:Nat)(x:Pm)(a:List D)(j:Nat)
theorem PC(b:decide (j<a.length)=false):RE 197 (lO 14 13) (Ja fs i ps k a j) (AU fs w nm ps res bd p x) (.exit 4) (Mk fs i ps k) (AU fs w nm ps res bd p x):=
 qE {hint:=qT 14 [(61,dk Pg j a.length false b)]} 14 800000 ⟨rfl,rfl,rfl,rfl,rfl,rfl⟩
section
variable(d:decide (j<a.length)=true)(f:j<1000000)(c:List UInt8)(ty e:Int)(b:a[((j:Nat):Int).toNat]? =some (.agg [.str c, .int .u8 ty, .int .i64 e]))
include d f b
theorem WV(g:(c==x.nm)=false):RE 197 (lO 14 13) (Ja fs i ps k a j) (AU fs w nm ps res bd p x) .normal (Ja fs i ps k a (j+1)) (AU fs w nm ps res bd p x):=
 qE {hint:=qT 14 [(61,dk Pg j a.length true d),(62, .idx a ((j:Nat):Int) _ (by omega) b),(68,qB g),(73,bj Pg j (by omega))]} 14 800000 ⟨rfl,rfl,rfl,rfl,rfl,rfl⟩
theorem TB(g:(c==x.nm)=true):RE 197 (lO 14 13) (Ja fs i ps k a j) (AU fs w nm ps res bd p x) .normal (Ja fs i ps k a (j+1)) (AU fs (w.fail x.p 7) nm ps res bd p x):=
 qE {hint:=qT 14 [(61,dk Pg j a.length true d),(62, .idx a ((j:Nat):Int) _ (by omega) b),(68,qB g),(73,bj Pg j (by omega))],calls:=tC [(14,72,802561,ad (uo fs w x.p 7))]} 14 800000 ⟨rfl,rfl,rfl,rfl,rfl,rfl⟩
end
end
end
end Go.Avm
namespace Go.Avm
open Go.Proofs
section
variable(fs:List Fn)(nm:List UInt8)(ps:List Pm)(res:Int)(bd:List aP)(p:Int)(i:Nat)
theorem WW{x:Pm}(w:WE)(b:Bool):(bif b then (w.fail x.p 7).fail x.p 7 else w.fail x.p 7)=w.fail x.p 7:=by
 cases b with
 |false=>rfl
 |true=>
  simp only[xW,WE.fail];cases hw:(w.e==0)with
  |true=>rfl
  |false=>simp only[xP,hw]
theorem PD(k:Nat)(x:Pm)(a:List Pm)(l:a.length<1000000):∀(d j:Nat)(w:WE),j+d=a.length→RL 197 (lO 14 13) (Ja fs i ps k (a.map cR) j) (AU fs w nm ps res bd p x) (.exit 4) (Mk fs i ps k) (AU fs (AI x (a.drop j) w) nm ps res bd p x)
 |0,j,w,o,b,X,c,e=>by
  rw[xx.2 (by omega:a.length≤j)];exact aA (PC fs w nm ps res bd p i k x (a.map cR) j (by rw[xO,x6];omega) b X c e) (by simp)
 |d+1,j,w,o,b,X,c,e=>by
  have f:j<a.length:=by omega
  have h:(a.map cR)[((j:Nat):Int).toNat]? =some (.agg [.str a[j].nm, .int .u8 a[j].ty, .int .i64 a[j].p]):=by
   rw[xb,xN,xD f];rfl
  have n:decide (j<(a.map cR).length)=true:=by rw[xO];exact yM f
  rw[xZ f];simp only[AI,yn];cases m:(a[j].nm==x.nm)with
  |false=>exact au (WV fs w nm ps res bd p i k x _ j n (by omega) _ _ _ h m b X c e) (PD k x a l d (j+1) w (by omega) b X c e)
  |true=>
   have g:=PD k x a l d (j+1) (w.fail x.p 7) (by omega) b X c e;unfold AI at g;rw[WW]at g;exact au (TB fs w nm ps res bd p i k x _ j n (by omega) _ _ _ h m b X c e) g
section
variable(w:WE)(k:Nat)
theorem PE(a:decide (k<(ps.map cR).length)=false):RE 197 (lO 14 8) (E9 fs i ps k) (AJ fs w nm ps res bd p) (.exit 2) (wc fs i) (AJ fs w nm ps res bd p):=
 qE {hint:=qT 14 [(45,dk Pg k (ps.map cR).length false a)]} 14 700000 ⟨rfl,rfl,rfl,rfl,rfl,rfl⟩
section
variable(h:decide (k<(ps.map cR).length)=true)(b:List UInt8)(ty a:Int)(f:(ps.map cR)[((k:Nat):Int).toNat]? =some (.agg [.str b, .int .u8 ty, .int .i64 a]))(j:k<1000000)(d:k≤(ps.map cR).length)(e:WE)
include h f j d
theorem TD(n:decide ((6:Int)≤(k:Int))=false)(c:RL 197 (lO 14 13) (Ja fs i ps k ((ps.map cR).take k) 0) (AU fs w nm ps res bd p ⟨b,ty,a⟩) (.exit 4) (Mk fs i ps k) (AU fs e nm ps res bd p ⟨b,ty,a⟩)):RE 197 (lO 14 8) (E9 fs i ps k) (AJ fs w nm ps res bd p) .normal (E9 fs i ps (k+1)) (AJ fs e nm ps res bd p):=
 qE {loops:=fun g l=>if g=14 then (if l=13 then some ⟨197,aJ Pg 14 13,Ja fs i ps k ((ps.map cR).take k) 0,fun _=>AU fs w nm ps res bd p ⟨b,ty,a⟩, .exit 4,Mk fs i ps k,fun _=>AU fs e nm ps res bd p ⟨b,ty,a⟩,fun m X o q=>(c m X o q).aw⟩else none)else none,hint:=qT 14 [(45,dk Pg k (ps.map cR).length true h),(47, .idx (ps.map cR) ((k:Nat):Int) _ (by omega) f),(50,qB n),(58, .cutl (ps.map cR) k d),(74,bj Pg k (by omega))]} 14 700000 ⟨rfl,rfl,rfl,rfl,rfl,rfl⟩
theorem TF(n:decide ((6:Int)≤(k:Int))=true)(c:RL 197 (lO 14 13) (Ja fs i ps k ((ps.map cR).take k) 0) (AU fs (w.fail a 9) nm ps res bd p ⟨b,ty,a⟩) (.exit 4) (Mk fs i ps k) (AU fs e nm ps res bd p ⟨b,ty,a⟩)):RE 197 (lO 14 8) (E9 fs i ps k) (AJ fs w nm ps res bd p) .normal (E9 fs i ps (k+1)) (AJ fs e nm ps res bd p):=
 qE {loops:=fun g l=>if g=14 then (if l=13 then some ⟨197,aJ Pg 14 13,Ja fs i ps k ((ps.map cR).take k) 0,fun _=>AU fs (w.fail a 9) nm ps res bd p ⟨b,ty,a⟩, .exit 4,Mk fs i ps k,fun _=>AU fs e nm ps res bd p ⟨b,ty,a⟩,fun m X o q=>(c m X o q).aw⟩else none)else none,hint:=qT 14 [(45,dk Pg k (ps.map cR).length true h),(47, .idx (ps.map cR) ((k:Nat):Int) _ (by omega) f),(50,qB n),(58, .cutl (ps.map cR) k d),(74,bj Pg k (by omega))],calls:=tC [(14,54,702364,ad (uo fs w a 9))]} 14 700000 ⟨rfl,rfl,rfl,rfl,rfl,rfl⟩
end
end
theorem TG(r:ps.length<1000000):∀(d k:Nat)(w:WE),k+d=ps.length→RL 197 (lO 14 8) (E9 fs i ps k) (AJ fs w nm ps res bd p) (.exit 2) (wc fs i) (AJ fs (sD k (ps.take k) (ps.drop k) w) nm ps res bd p)
 |0,k,w,o,a,X,e,f=>by
  rw[xx.2 (by omega:ps.length≤k)];exact aA (PE fs nm ps res bd p i w k (by rw[xO,x6];omega) a X e f) (by simp)
 |d+1,k,w,o,a,X,e,f=>by
  have h:k<ps.length:=by omega
  have g:(ps.map cR)[((k:Nat):Int).toNat]? =some (cR ps[k]):=by
   rw[xb,xN,xD h];rfl
  have n:decide (k<(ps.map cR).length)=true:=by rw[xO];exact yM h
  have et:ps.take (k+1)=ps.take k ++[ps[k]]:=List.take_succ_eq_append_getElem h;have q:(ps.map cR).take k=(ps.take k).map cR:=List.map_take.symm;have s:decide (6≤k)=decide ((6:Int)≤(k:Int)):=by rw[decide_eq_decide];omega
  have b:=TG r d (k+1) (AI ps[k] (ps.take k) (bif decide (6≤k)then w.fail ps[k].p 9 else w)) (by omega) a X e f;rw[et]at b;rw[xZ h,sD];have c:=fun w=>PD fs nm ps res bd p i k ps[k] (ps.take k) (by rw[yb];omega) (ps.take k).length 0 w (x8 _)
  simp only[xn]at c;rw[←q]at c;revert b c g;generalize ps[k]=x;obtain⟨l,ty,m⟩:=x;intro g b c;rw[s]at b ⊢;cases j:decide ((6:Int)≤(k:Int))with
  |false=>
   rw[j]at b;exact au (TD fs nm ps res bd p i w k n l ty m g (by omega) (by rw[xO];omega) _ j (c w) a X e f) b
  |true=>
   rw[j]at b;exact au (TF fs nm ps res bd p i w k n l ty m g (by omega) (by rw[xO];omega) _ j (c _) a X e f) b
end
abbrev Ml:List (Nat×AV):=[(1, .ptr 498797 1 0 0 1),(2, .ptr 498995 1 0 0 1),(5,gl)]
section
variable(fs:List Fn)(i:Nat)(w:WE)
theorem PF(a:decide (i<(fs.map bn).length)=false):RE 197 (lO 14 3) (wc fs i) (tr fs w) (.exit 0) Ml (tr fs w):=
 qE {hint:=qT 14 [(27,dk Pg i (fs.map bn).length false a)]} 14 600000 ⟨rfl,rfl,rfl,rfl,rfl,rfl⟩
section
variable(e:decide (i<(fs.map bn).length)=true)(nm:List UInt8)(ps:List Pm)(res:Int)(bd:List aP)(p:Int)(d:(fs.map bn)[((i:Nat):Int).toNat]? =some (.agg [.str nm, .ro (ps.map cR), .int .u8 res, .ro (cg bd), .int .i64 p]))(f:i<1000000)(j:Nat)(b:aF Pg 28 [.agg [.ro (fs.map bn)], .str nm] [.int .i64 (j:Int)])(a:WE)
include e d f b
theorem YI(n:decide ((j:Int)<(i:Int))=false)(c:RL 197 (lO 14 8) (E9 fs i ps 0) (AJ fs w nm ps res bd p) (.exit 2) (wc fs i) (AJ fs a nm ps res bd p)):RE 197 (lO 14 3) (wc fs i) (tr fs w) .normal (wc fs (i+1)) (tr fs a):=
 qE {loops:=fun g l=>if g=14 then (if l=8 then some ⟨197,aJ Pg 14 8,E9 fs i ps 0,fun _=>AJ fs w nm ps res bd p, .exit 2,wc fs i,fun _=>AJ fs a nm ps res bd p,fun h X k m=>(c h X k m).aw⟩else none)else none,hint:=qT 14 [(27,dk Pg i (fs.map bn).length true e),(29, .idx (fs.map bn) ((i:Nat):Int) _ (by omega) d),(34, .call 28 _ _ b),(36,qB n),(75,bj Pg i (by omega))]} 14 600000 ⟨rfl,rfl,rfl,rfl,rfl,rfl⟩
theorem YJ(n:decide ((j:Int)<(i:Int))=true)(c:RL 197 (lO 14 8) (E9 fs i ps 0) (AJ fs (w.fail p 7) nm ps res bd p) (.exit 2) (wc fs i) (AJ fs a nm ps res bd p)):RE 197 (lO 14 3) (wc fs i) (tr fs w) .normal (wc fs (i+1)) (tr fs a):=
 qE {loops:=fun g l=>if g=14 then (if l=8 then some ⟨197,aJ Pg 14 8,E9 fs i ps 0,fun _=>AJ fs (w.fail p 7) nm ps res bd p, .exit 2,wc fs i,fun _=>AJ fs a nm ps res bd p,fun h X k m=>(c h X k m).aw⟩else none)else none,hint:=qT 14 [(27,dk Pg i (fs.map bn).length true e),(29, .idx (fs.map bn) ((i:Nat):Int) _ (by omega) d),(34, .call 28 _ _ b),(36,qB n),(75,bj Pg i (by omega))],calls:=tC [(14,40,602955,ad (uo fs w p 7))]} 14 600000 ⟨rfl,rfl,rfl,rfl,rfl,rfl⟩
end
end
end Go.Avm
namespace Go.Avm
open Go.Proofs
theorem uq{x:List UInt8}(f:Fn)(r:List Fn)(h:(x==f.nm)=true):∀(a:List Fn)(n:Nat),bA x (a ++f::r) n=match bA x a n with
    |some q=>some q
    |none=>some (n+a.length,f)
 |[],n=>by simp only[yG,bA,h,xW];rfl
 |e::a,n=>by
  simp only[xk,bA];cases b:(x==e.nm)with
  |true=>rfl
  |false=>
   simp only[xP];rw[uq f r h a (n+1),xG,show n+1+a.length=n+(a.length+1) by omega]
theorem TH{fs:List Fn}(s:fs.length<1000000)(hp:∀f∈fs,f.ps.length<1000000):∀(r a:List Fn)(w:WE),fs=a ++r→RL 197 (lO 14 3) (wc fs a.length) (tr fs w) (.exit 0) Ml (tr fs (eW a r w))
 |[],a,w,d,b,X,i,k=>by
  rw[yC]at d;subst d;exact aA (PF fs fs.length w (by simp) b X i k) (by simp)
 |f::r,a,w,d,b,X,i,k=>by
  have u:a.length<fs.length:=by rw[d];simp
  have o:fs[a.length]? =some f:=by rw[d];simp
  have l:(fs.map bn)[((a.length:Nat):Int).toNat]? =some (bn f):=by
   rw[xb,xN,o];rfl
  have t:decide (a.length<(fs.map bn).length)=true:=by rw[xO];exact yM u
  have m:=hp f (xX o);have e:=Im fs f.nm s;have n:=uq f r (show(f.nm==f.nm)=true by simp) a 0;rw[←d]at n;have h:=TH s hp r (a ++[f]) (sD 0 [] f.ps (bif (bA f.nm a 0).isSome then w.fail f.p 7 else w)) (by rw[d];simp) b X i k;rw[show(a ++[f]).length=a.length+1 by simp]at h;rw[eW];rw[n]at e;have c:=fun w=>TG fs f.nm f.ps f.res f.bd f.p a.length m f.ps.length 0 w (x8 _)
  simp only[List.take_zero,xn]at c;revert h e c l;obtain⟨nm,ps,res,bd,p⟩:=f;dsimp only;intro l;cases v:bA nm a 0 with
  |none=>
   intro e h c;exact au (YI fs a.length w t nm ps res bd p l (by omega) (0+a.length) e _ (by rw[x6];omega) (c w) b X i k) h
  |some q=>
   obtain⟨j,g⟩:=q;intro e h c
   have x:j<a.length:=by
    have y:=(xC.1 (oc v).2).1;omega
   exact au (YJ fs a.length w t nm ps res bd p l (by omega) j e _ (by rw[decide_eq_true_iff];omega) (c _) b X i k) h
end Go.Avm
namespace Go.Avm
open Go.Proofs
abbrev gx:List (Nat×aE):=[(498995,⟨1,some (.arr 1 [.nils, .nils])⟩)]
abbrev gC(fs:List Fn)(W:List AV)(b c vp a:Nat)(w:WE):List AV:=[.d (.ro (fs.map bn)), .sl 500191 c 0 W.length 1, .sl 500382 vp 0 b 3,dN a,dI w.p,dI w.e]
abbrev gH(fs:List Fn)(W:List AV)(P:List AV)(c b vp d a:Nat)(w:WE):List (Nat×aE):=
 gx ++[(500000,⟨1,some (.arr 1 (gC fs W c b vp a w))⟩),(500005,⟨d,none⟩),(500382,⟨vp,some (.arr 3 P)⟩),(500191,⟨b,some (.arr 1 W)⟩)]
abbrev gV(fs:List Fn)(W:List AV)(P:List AV)(c b vp a:Nat)(w:WE)(vs:List Vr)(v:Nat):List (Nat×aE):=
 gx ++[(500000,⟨1,some (.arr 1 (gC fs W c b vp a w))⟩),(500005,⟨v,some (.arr 4 (vs.map oh))⟩),(500382,⟨vp,some (.arr 3 P)⟩),(500191,⟨b,some (.arr 1 W)⟩)]
abbrev WY(fs:List Fn)(W:List AV)(P:List AV)(c b vp a:Nat)(w:WE)(vs:List Vr)(v:Nat)(x:Vr):List (Nat×aE):=
 gx ++[(500000,⟨1,some (.arr 1 (gC fs W c b vp a w))⟩),(500005,⟨v+1,some (.arr 4 ((vs.map oh).take vs.length ++[AV.d (mX x)]))⟩),(500382,⟨vp,some (.arr 3 P)⟩),(500191,⟨b,some (.arr 1 W)⟩)]
theorem IC(fs:List Fn)(W:List AV)(P:List AV)(b c vp a:Nat)(w:WE)(vs:List Vr)(v:Nat)(x:Vr):WY fs W P b c vp a w vs v x=gV fs W P b c vp a w (vs ++[x]) (v+1):=by
 unfold WY gV;rw[yB (by simp),xF];rfl
abbrev wt(nm:List UInt8)(ps:List Pm)(res:Int)(bd:List aP)(p:Int):List (Nat×aE):=[(600803,⟨1,some (.arr 1 [.d (.str nm), .d (.ro (ps.map cR)),Ju res, .d (.ro (cg bd)),dI p])⟩)]
abbrev bL(fs:List Fn)(i:Nat):List (Nat×AV):=[(2, .ptr 498995 1 0 0 1),(5,gl),(106, .d (.ro (fs.map bn))),(107,dN (fs.map bn).length),(108,dN i)]
abbrev Jb(fs:List Fn)(i:Nat)(ps:List Pm)(n v k:Nat):List (Nat×AV):=bL fs i ++[(15, .ptr 600803 1 0 0 1),(16, .sl 500005 v 0 n 4),(17, .ptr 603563 1 0 0 1),(123, .d (.ro (ps.map cR))),(124,dN (ps.map cR).length),(125,dN k)]
abbrev Qe(fs:List Fn)(i:Nat)(n v:Nat):List (Nat×AV):=bL fs i ++[(15, .ptr 600803 1 0 0 1),(16, .sl 500005 v 0 n 4),(17, .ptr 603563 1 0 0 1)]
theorem AK{W:List AV}(h:iJ W)(ρ:Nat→Nat):bk ρ W=W:=vE h ρ
section
variable{fs:List Fn}{W P:List AV}{e f vp h b:Nat}{w:WE}(g:iJ W)(c:∀x∈P,∃d,x=AV.d d){ρ:Nat→Nat}(a:([500005,500382,500191,500010,500011].map ρ)=[500005,500382,500191,500010,500011])
include g c a
theorem wd{vs:List Vr}{v:Nat}{q:WL}{nm:List UInt8}{ps:List Pm}{res:Int}{bd:List aP}{p:Int}:((gV fs W P e f vp b w vs v ++bt q ++dD 603563 q ++wt nm ps res bd p).map fun p=>aY ρ p.2)=(gV fs W P e f vp b w vs v ++bt q ++dD 603563 q ++wt nm ps res bd p).map (·.2):=by
 have n:bk ρ P=P:=gT fun x j=>by obtain⟨d,rfl⟩:=c x j;rfl
 simp only[xH,xY,List.cons.injEq,zB]at a;obtain⟨o,m,l,i,k⟩:=a;simp only[gV,gC,bt,dD,xH,xY,xk,yG,aY,x5,yz,dx,n,AK g,lj,jZ,bk,aO,m,l,i,k]
end
section
variable{fs:List Fn}{W P:List AV}(f:iJ W)(b:∀x∈P,∃d,x=AV.d d)(c e vp a:Nat)(w:WE)(i:Nat)(nm:List UInt8)(ps:List Pm)(res:Int)(bd:List aP)(p:Int)(vs:List Vr)(v:Nat)(q:WL)(k:Nat)
include f b
theorem PH(g:decide (k<(ps.map cR).length)=false):RE 197 (lO 14 35) (Jb fs i ps vs.length v k) (gV fs W P c e vp a w vs v ++bt q ++dD 603563 q ++wt nm ps res bd p) (.exit 8) (Qe fs i vs.length v) (gV fs W P c e vp a w vs v ++bt q ++dD 603563 q ++wt nm ps res bd p):=
 qE {hint:=qT 14 [(126,dk Pg k (ps.map cR).length false g)]} 14 700000 ⟨rfl,rfl,rfl,rfl,wd f b rfl,wd f b rfl⟩
section
variable(l:decide (k<(ps.map cR).length)=true)(m:k<1000000)(g:List UInt8)(ty j:Int)(h:(ps.map cR)[((k:Nat):Int).toNat]? =some (.agg [.str g, .int .u8 ty, .int .i64 j]))(h2:vs.length<1000000)(o:q.s.seen.length<1000000)(n:q.s.sure.length<1000000)
include l m g ty j h h2 o n
theorem TI:RE 197 (lO 14 35) (Jb fs i ps vs.length v k) (gV fs W P c e vp a w vs v ++bt q ++dD 603563 q ++wt nm ps res bd p) .normal (Jb fs i ps (vs.length+1) (v+1) (k+1)) (WY fs W P c e vp a w vs v ⟨g,ty,0,0⟩ ++Az q true true ++KS 603563 q ++wt nm ps res bd p):=
 qE {hint:=qT 14 [(126,dk Pg k (ps.map cR).length true l),(127, .idx (ps.map cR) ((k:Nat):Int) _ (by omega) h),(136, .apps (vs.map oh) vs.length 1 ⟨by simp,by omega⟩),(140, .apps ((q.s.seen.map D.bool).map AV.d) q.s.seen.length 1 ⟨by simp,by omega⟩),(145, .apps ((q.s.sure.map D.bool).map AV.d) q.s.sure.length 1 ⟨by simp,by omega⟩),(147,bj Pg k (by omega))]} 14 700000 ⟨rfl,rfl,rfl,rfl,wd f b rfl,by rw[IC,lR,qp 603563 q true true];exact wd f b rfl⟩
theorem WZ:RE 197 (lO 14 35) (Jb fs i ps vs.length v k) (gV fs W P c e vp a w vs v ++bt q ++dD 603563 q ++wt nm ps res bd p) .normal (Jb fs i ps (vs ++[(⟨g,ty,0,0⟩:Vr)]).length (v+1) (k+1)) (gV fs W P c e vp a w (vs ++[⟨g,ty,0,0⟩]) (v+1) ++bt (q.push true true) ++dD 603563 (q.push true true) ++wt nm ps res bd p):=by
 have:=TI (fs:=fs) f b c e vp a w i nm ps res bd p vs v q k l m g ty j h h2 o n;rw[IC,lR,qp 603563 q true true]at this;rw[show(vs ++[(⟨g,ty,0,0⟩:Vr)]).length=vs.length+1 by simp];exact this
end
end
end Go.Avm
namespace Go.Avm
open Go.Proofs
section
variable{fs:List Fn}{W P:List AV}(g:iJ W)(b:∀x∈P,∃d,x=AV.d d)(e f vp a:Nat)(w:WE)(i:Nat)(nm:List UInt8)(ps:List Pm)(res:Int)(bd:List aP)(p:Int)
include g b
theorem TJ:∀(d k:Nat)(vs:List Vr)(v:Nat)(q:WL),k+d=ps.length→ps.length<1000000→vs.length+d<1000000→q.s.seen.length+d<1000000→q.s.sure.length+d<1000000→∃(q':WL)(v':Nat),q'.s=⟨q.s.seen ++List.replicate d true,q.s.sure ++List.replicate d true⟩∧RL 197 (lO 14 35) (Jb fs i ps vs.length v k) (gV fs W P e f vp a w vs v ++bt q ++dD 603563 q ++wt nm ps res bd p) (.exit 8) (Qe fs i (vs ++(ps.drop k).map lP).length v') (gV fs W P e f vp a w (vs ++(ps.drop k).map lP) v' ++bt q' ++dD 603563 q' ++wt nm ps res bd p)
 |0,k,vs,v,q,r,n,z,h2,y=>by
  refine⟨q,v,by simp,fun h X l m=> ?_⟩;rw[xx.2 (by omega:ps.length≤k),xY,yC];exact aA (PH g b e f vp a w i nm ps res bd p vs v q k (by rw[xO,x6];omega) h X l m) (by simp)
 |d+1,k,vs,v,q,r,n,z,h2,y=>by
  have j:k<ps.length:=by omega
  have t:(ps.map cR)[((k:Nat):Int).toNat]? =some (cR ps[k]):=by
   rw[xb,xN,xD j];rfl
  have o:decide (k<(ps.map cR).length)=true:=by rw[xO];exact yM j
  obtain⟨q',v',u,c⟩:=TJ d (k+1) (vs ++[⟨ps[k].nm,ps[k].ty,0,0⟩]) (v+1) (q.push true true) (by omega) n (by simp only[xK,xG,xS];omega) (by simp only[WL.push,xK,xG,xS];omega) (by simp only[WL.push,xK,xG,xS];omega);refine⟨q',v', ?_,fun h X l m=> ?_⟩
  ·rw[u]
   simp only[WL.push,List.replicate_succ,xa];rfl
  ·have c:=c h X l m
   rw[xZ j,xH];rw[show vs ++[(⟨ps[k].nm,ps[k].ty,0,0⟩:Vr)] ++(ps.drop (k+1)).map lP=vs ++lP ps[k]::(ps.drop (k+1)).map lP from by rw[xa];rfl]at c;exact au (WZ g b e f vp a w i nm ps res bd p vs v q k o (by omega) _ _ _ t (by omega) (by omega) (by omega) h X l m) c
end
def TK(fs:List Fn)(W P:List AV)(a b vp v:Nat)(vs:List Vr):WK:=⟨fs,W.length,W ++[.nils],vs,P,a,b+1,vp,v⟩
abbrev T8(fs:List Fn)(W P:List AV)(b a vp v:Nat)(vs:List Vr)(w:WE):List (Nat×aE):=
 [(500000,⟨1,some (.arr 1 [.d (.ro (fs.map bn)), .sl 500191 (a+1) 0 (W.length+1) 1, .sl 500382 vp 0 b 3,dN W.length,dI w.p,dI w.e])⟩),(500005,⟨v,some (.arr 4 (vs.map oh))⟩),(500382,⟨vp,some (.arr 3 P)⟩),(500191,⟨a+1,some (.arr 1 (W.take W.length ++[.sl 500005 v 0 vs.length 4]))⟩)]
theorem PJ(fs:List Fn)(W P:List AV)(a b vp v:Nat)(vs:List Vr)(w:WE):T8 fs W P a b vp v vs w=wk (TK fs W P a b vp v vs) w:=by
 unfold T8 wk TK Qs fF;rw[List.take_length,List.set_append_right _ _ (xL _),zM];rfl
abbrev bO:List (Nat×AV):=[(2, .ptr 498995 1 0 0 1),(5,gl)]
theorem kf{fs:List Fn}{W P:List AV}{c f vp e a:Nat}{w:WE}(i:iJ W)(g:∀x∈P,∃d,x=AV.d d){ρ:Nat→Nat}(b:([500382,500191].map ρ)=[500382,500191]):((gH fs W P c f vp e a w).map fun p=>aY ρ p.2)=(gH fs W P c f vp e a w).map (·.2):=by
 have l:bk ρ P=P:=gT fun x h=>by obtain⟨d,rfl⟩:=g x h;rfl
 simp only[xH,xY,List.cons.injEq,zB]at b;obtain⟨k,j⟩:=b;simp only[gH,gC,xH,xY,xk,yG,aY,x5,yz,dx,l,AK i,bk,aO,k,j]
theorem Cn{S:WK}{w:WE}(h:WKok S){ρ:Nat→Nat}(a:([500005,500382,500191].map ρ)=[500005,500382,500191]):((gx ++wk S w).map fun p=>aY ρ p.2)=(gx ++wk S w).map (·.2):=by
 rw[xF,fX h a,xF];rfl
section
variable{fs:List Fn}{W P:List AV}(j:iJ W)(a:∀x∈P,∃d,x=AV.d d)(b c vp f h:Nat)(w:WE)
include j a
theorem ID(i:Nat)(e:decide (i<(fs.map bn).length)=false):RE 197 (lO 14 28) (bL fs i) (gH fs W P b c vp f h w) (.exit 6) bO (gH fs W P b c vp f h w):=
 qE {hint:=qT 14 [(109,dk Pg i (fs.map bn).length false e)]} 14 600000 ⟨rfl,rfl,rfl,rfl,kf j a rfl,kf j a rfl⟩
variable(nm:List UInt8)(ps:List Pm)(res:Int)(bd:List aP)(p:Int)
theorem Mm(i:Nat)(l:decide (i<(fs.map bn).length)=true)(k:(fs.map bn)[((i:Nat):Int).toNat]? =some (.agg [.str nm, .ro (ps.map cR), .int .u8 res, .ro (cg bd), .int .i64 p]))(g:(w.e !=0)=true):RE 197 (lO 14 28) (bL fs i) (gH fs W P b c vp f h w) (.exit 6) bO (gH fs W P b c vp f h w):=
 qE {hint:=qT 14 [(109,dk Pg i (fs.map bn).length true l),(111, .idx (fs.map bn) ((i:Nat):Int) _ (by omega) k),(117,qB g)]} 14 600000 ⟨rfl,rfl,rfl,rfl,kf j a rfl,kf j a rfl⟩
variable(A:decide (W.length<(fs.map bn).length)=true)(u:(fs.map bn)[((W.length:Nat):Int).toNat]? =some (.agg [.str nm, .ro (ps.map cR), .int .u8 res, .ro (cg bd), .int .i64 p]))(y:(w.e !=0)=false)(C:W.length<1000000)(vs:List Vr)(v:Nat)(n B:WL){t:WK}(h2:WKok t)(q:WE)
    (o:RL 197 (lO 14 35) (Jb fs W.length ps 0 (f+1) 0) (gV fs W P b c vp W.length w [] (f+1) ++bt ⟨⟨[],[]⟩,1,1⟩ ++dD 603563 ⟨⟨[],[]⟩,1,1⟩ ++wt nm ps res bd p) (.exit 8) (Qe fs W.length vs.length v) (gV fs W P b c vp W.length w vs v ++bt n ++dD 603563 n ++wt nm ps res bd p))
    (z:∀m:aa,am Pg 30 [gl,cS n, .d (.ro (cg bd)), .d (.bool true)] (ae (T8 fs W P b c vp v vs w ++bt n) m) [cS B] (ae (wk t q ++bt B) m))
include A u y C h2 o z
theorem YK(E:decide ((0:Int)<res)=false):RE 197 (lO 14 28) (bL fs W.length) (gH fs W P b c vp f h w) .normal (bL fs (W.length+1)) (gx ++wk t q):=
 qE {loops:=fun g l=>if g=14 then (if l=35 then some ⟨197,aJ Pg 14 35,Jb fs W.length ps 0 (f+1) 0,fun _=>gV fs W P b c vp W.length w [] (f+1) ++bt ⟨⟨[],[]⟩,1,1⟩ ++dD 603563 ⟨⟨[],[]⟩,1,1⟩ ++wt nm ps res bd p, .exit 8,Qe fs W.length vs.length v,fun _=>gV fs W P b c vp W.length w vs v ++bt n ++dD 603563 n ++wt nm ps res bd p,fun m X e D=>(o m X e D).aw⟩else none)else none,nils2:=fun g r=>if g=14 then (if r=34 then [{k:=0,i:=16,K:=500005,sz:=4,slot:=true,obj:=true},{k:=603563,i:=0,K:=500010,sz:=1,obj:=true},{k:=603563,i:=1,K:=500011,sz:=1,obj:=true}]else [])else [],obm:=fun g s=>g==14&&s==155,hint:=qT 14 [(109,dk Pg W.length (fs.map bn).length true A),(111, .idx (fs.map bn) ((W.length:Nat):Int) _ (by omega) u),(117,qB y),(156, .apps W W.length 1 ⟨xL _,by omega⟩),(167,qB E),(178,bj Pg W.length (by omega))],calls:=tC [(14,164,607880,ad z)]} 14 600000 ⟨rfl,rfl,rfl,rfl,kf j a rfl,Cn h2 rfl⟩
theorem YL(E:decide ((0:Int)<res)=true)(D:kw bd true):RE 197 (lO 14 28) (bL fs W.length) (gH fs W P b c vp f h w) .normal (bL fs (W.length+1)) (gx ++wk t q):=
 qE {loops:=fun g l=>if g=14 then (if l=35 then some ⟨197,aJ Pg 14 35,Jb fs W.length ps 0 (f+1) 0,fun _=>gV fs W P b c vp W.length w [] (f+1) ++bt ⟨⟨[],[]⟩,1,1⟩ ++dD 603563 ⟨⟨[],[]⟩,1,1⟩ ++wt nm ps res bd p, .exit 8,Qe fs W.length vs.length v,fun _=>gV fs W P b c vp W.length w vs v ++bt n ++dD 603563 n ++wt nm ps res bd p,fun m X e F=>(o m X e F).aw⟩else none)else none,nils2:=fun g r=>if g=14 then (if r=34 then [{k:=0,i:=16,K:=500005,sz:=4,slot:=true,obj:=true},{k:=603563,i:=0,K:=500010,sz:=1,obj:=true},{k:=603563,i:=1,K:=500011,sz:=1,obj:=true}]else [])else [],obm:=fun g s=>g==14&&s==155,hint:=qT 14 [(109,dk Pg W.length (fs.map bn).length true A),(111, .idx (fs.map bn) ((W.length:Nat):Int) _ (by omega) u),(117,qB y),(156, .apps W W.length 1 ⟨xL _,by omega⟩),(167,qB E),(171, .call 31 _ _ D),(178,bj Pg W.length (by omega))],calls:=tC [(14,164,607880,ad z)]} 14 600000 ⟨rfl,rfl,rfl,rfl,kf j a rfl,Cn h2 rfl⟩
theorem YM(E:decide ((0:Int)<res)=true)(D:kw bd false):RE 197 (lO 14 28) (bL fs W.length) (gH fs W P b c vp f h w) .normal (bL fs (W.length+1)) (gx ++wk t (q.fail p 12)):=
 qE {loops:=fun g l=>if g=14 then (if l=35 then some ⟨197,aJ Pg 14 35,Jb fs W.length ps 0 (f+1) 0,fun _=>gV fs W P b c vp W.length w [] (f+1) ++bt ⟨⟨[],[]⟩,1,1⟩ ++dD 603563 ⟨⟨[],[]⟩,1,1⟩ ++wt nm ps res bd p, .exit 8,Qe fs W.length vs.length v,fun _=>gV fs W P b c vp W.length w vs v ++bt n ++dD 603563 n ++wt nm ps res bd p,fun m X e F=>(o m X e F).aw⟩else none)else none,nils2:=fun g r=>if g=14 then (if r=34 then [{k:=0,i:=16,K:=500005,sz:=4,slot:=true,obj:=true},{k:=603563,i:=0,K:=500010,sz:=1,obj:=true},{k:=603563,i:=1,K:=500011,sz:=1,obj:=true}]else [])else [],obm:=fun g s=>g==14&&s==155,hint:=qT 14 [(109,dk Pg W.length (fs.map bn).length true A),(111, .idx (fs.map bn) ((W.length:Nat):Int) _ (by omega) u),(117,qB y),(156, .apps W W.length 1 ⟨xL _,by omega⟩),(167,qB E),(171, .call 31 _ _ D),(178,bj Pg W.length (by omega))],calls:=tC [(14,164,607880,ad z),(14,177,610047,ad (a8 h2 q p 12))]} 14 600000 ⟨rfl,rfl,rfl,rfl,kf j a rfl,Cn h2 rfl⟩
end
end Go.Avm
namespace Go.Avm
open Go.Proofs
def DP(fs:List Fn)(w:WE):WE:=match bA pA fs 0 with
 |none=>w.fail 0 13
 |some (_,f)=>bif f.ps.isEmpty&&f.res==1 then w else w.fail f.p 13
def ew(fs:List Fn):WE:=DP fs (eW [] fs ⟨0,0⟩)
theorem iE{w:WE}(h:(w.e==0)=false):∀(ps:List Pm)(k:Nat)(a:List Pm),sD k a ps w=w
 |[],_,_=>rfl
 |x::r,k,a=>by
  simp only[sD,AI,gK h];exact iE h r _ _
theorem kg{w:WE}(h:(w.e==0)=false):∀(r a:List Fn),eW a r w=w
 |[],_=>rfl
 |f::r,a=>by
  simp only[eW,gK h,iE h];exact kg h r _
theorem IE(nm:List UInt8):∀a:List Pm,((a.map (·.nm)).any (· ==nm))=a.any fun y=>y.nm==nm
 |[]=>rfl
 |y::r=>by rw[xH,yn,yn,IE nm r]
theorem IG:∀(ps:List Pm)(k:Nat)(a:List Pm)(w:WE),w.e=0→UR (lX k (a.map (·.nm)) ps) (sD k a ps w) w
 |[],_,_,_,_=>rfl
 |x::r,k,a,w,hw=>by
  simp only[lX,sD,IE];cases decide (6≤k)with
  |true=>
   simp only[xW,bI hw,AI,gK (w:=⟨x.p,9⟩) rfl];exact⟨iE rfl r _ _,rfl⟩
  |false=>
   simp only[xP,AI];cases (a.any fun y=>y.nm==x.nm)with
   |true=>
    simp only[xW,bI hw];exact⟨iE rfl r _ _,rfl⟩
   |false=>
    simp only[xP];have:=IG r (k+1) (a ++[x]) w hw;rw[xF]at this;exact this
theorem AL:∀(r a:List Fn)(w:WE),w.e=0→UR (fi a r) (eW a r w) w
 |[],_,_,_=>rfl
 |f::r,a,w,hw=>by
  simp only[fi,eW];cases (bA f.nm a 0).isSome with
  |true=>
   simp only[xW,bI hw];rw[iE rfl,kg rfl];exact⟨rfl,rfl⟩
  |false=>
   simp only[xP];have h:UR (lX 0 [] f.ps) (sD 0 [] f.ps w) w:=IG f.ps 0 [] w hw;revert h;cases lX 0 [] f.ps with
   |out=>exact fun _=>trivial
   |bad p e=>
    rintro⟨b,h2⟩;rw[b,kg h2];exact⟨rfl,h2⟩
   |ok u=>
    intro h;have h:sD 0 [] f.ps w=w:=h;rw[h];exact AL r _ w hw
theorem AM(fs:List Fn):UR (f0 fs) (ew fs) ⟨0,0⟩:=by
 unfold f0 ew DP;have h:=AL fs [] ⟨0,0⟩ rfl;revert h;cases fi [] fs with
 |out=>exact fun _=>trivial
 |bad p e=>
  rintro⟨a,h2⟩;rw[a];refine⟨?_,h2⟩;split
  ·exact dh h2
  ·rename_i f _
   cases (f.ps.isEmpty&&f.res==1)with
   |true=>rfl
   |false=>exact dh h2
 |ok u=>
  intro h;have h:eW [] fs ⟨0,0⟩=⟨0,0⟩:=h;rw[h];simp only[TR.bind];cases bA pA fs 0 with
  |none=>exact⟨rfl,rfl⟩
  |some q=>
   obtain⟨j,f⟩:=q;simp only;cases (f.ps.isEmpty&&f.res==1)with
   |true=>rfl
   |false=>exact⟨rfl,rfl⟩
theorem IH{c:CS}(g:CJ c){s:LS}(r:Rl c.vars c.seen c.sure s)(x:Pm)(k:∀v∈c.vars,v.nm≠x.nm):CJ (c.par x)∧Rl (c.par x).vars (c.par x).seen (c.par x).sure ⟨s.seen ++[true],s.sure ++[true]⟩:=by
 have d:(c.vars ++[lP x]).length=c.vars.length+1:=by simp
 refine⟨⟨⟨?_,fun p hp=> ?_, ?_⟩,fun p hp=> ?_⟩, ?_, ?_,fun i f=> ?_,fun i f=> ?_⟩
 ·show((c.vars ++[lP x]).map (·.nm)).Nodup
  rw[xF,zF];refine⟨g.nod,by simp,fun a n b m=> ?_⟩;obtain⟨v,j,rfl⟩:=x9.1 n;simp only[xH,xY,xM]at m;subst m;exact k v j
 ·show ∃v,(c.vars ++[lP x])[p.2]? =some v∧v.nm=p.1
  rcases xU.1 (show p∈c.seen ++[((lP x).nm,c.vars.length)]from hp)with hp|hp
  ·obtain⟨v,j,h2⟩:=g.sn p hp
   exact⟨v,by rw[xQ (g.sl p hp)];exact j,h2⟩
  ·rw[xM]at hp
   subst hp;exact⟨lP x,by simp,rfl⟩
 ·show((c.seen ++[((lP x).nm,c.vars.length)]).map (·.2)).Pairwise (· < ·)
  rw[xF,List.pairwise_append];refine⟨g.inc,by simp,fun a n b m=> ?_⟩;obtain⟨v,j,rfl⟩:=x9.1 n;simp only[xH,xY,xM]at m;subst m;exact g.sl v j
 ·show p.1<(c.vars ++[lP x]).length
  rw[d];exact Ca (fun p hp=>by have:=g.sv p hp;omega) (by omega) p (show p∈(c.sure.put c.vars.length).l from hp)
 ·show(s.seen ++[true]).length=(c.vars ++[lP x]).length
  simp[r.ls]
 ·show(s.sure ++[true]).length=(c.vars ++[lP x]).length
  simp[r.lq]
 ·have f:i<(c.vars ++[lP x]).length:=f
  show(s.seen ++[true])[i]? =some ((c.seen ++[((lP x).nm,c.vars.length)]).any (·.2==i));rw[d]at f;rw[List.any_append];by_cases h:i=c.vars.length
  ·subst h
   simp[←r.ls]
  ·have e:i<c.vars.length:=by omega
   rw[xQ (by rw[r.ls];exact e),r.seen i e];have:(c.vars.length==i)=false:=by simp;omega
   simp[this]
 ·have f:i<(c.vars ++[lP x]).length:=f
  show(s.sure ++[true])[i]? =some ((c.sure.put c.vars.length).has i);rw[d]at f;rw[qc];by_cases h:i=c.vars.length
  ·subst h
   simp[←r.lq]
  ·have e:i<c.vars.length:=by omega
   rw[xQ (by rw[r.lq];exact e),r.sure i e];have:(c.vars.length==i)=false:=by simp;omega
   rw[this];rfl
theorem DQ:∀(ps:List Pm)(c:CS)(s:LS),CJ c→Rl c.vars c.seen c.sure s→(ps.map (·.nm)).Nodup→(∀v∈c.vars,∀p∈ps,v.nm≠p.nm)→CJ (ps.foldl CS.par c)∧Rl (ps.foldl CS.par c).vars (ps.foldl CS.par c).seen (ps.foldl CS.par c).sure ⟨s.seen ++List.replicate ps.length true,s.sure ++List.replicate ps.length true⟩∧(ps.foldl CS.par c).vars=c.vars ++ps.map lP
 |[],c,s,b,r,_,_=>⟨b,by simpa using r,by simp⟩
 |x::ps,c,s,b,r,d,f=>by
  rw[xH,yy]at d;obtain⟨l,g⟩:=IH b r x (fun v a=>f v a x (yE ..))
  obtain⟨k,i,j⟩:=DQ ps (c.par x) _ l g d.2 (fun v a p hp=>by
   rcases xU.1 (show v∈c.vars ++[lP x]from a)with h|h
   ·exact f v h p (xp _ hp)
   ·rw[xM]at h
    subst h;exact fun e=>d.1 (by rw[show x.nm=p.nm from e];exact yr hp))
  refine⟨k, ?_, ?_⟩
  ·have:=i
   simp only[xa]at this;exact this
  ·rw[List.foldl_cons,j]
   show(c.vars ++[lP x]) ++_=_;rw[xa,xH];rfl
def Mn(n:Nat):LS:=⟨List.replicate n true,List.replicate n true⟩
theorem E0{ps:List Pm}(g:(ps.map (·.nm)).Nodup)(pts:List Pt)(w:WE)(hw:w.e=0):CJ (ps.foldl CS.par ⟨[],[],⟨[],0⟩,pts⟩)∧QS (ps.foldl CS.par ⟨[],[],⟨[],0⟩,pts⟩) ⟨ps.map lP,pts,w⟩ (Mn ps.length):=by
 obtain⟨d,h,f⟩:=DQ ps ⟨[],[],⟨[],0⟩,pts⟩ ⟨[],[]⟩ ⟨⟨yV,(fun p hp=>by cases hp),List.Pairwise.nil⟩,(fun p hp=>by cases hp)⟩ ⟨rfl,rfl,(fun i a=>by cases a),(fun i a=>by cases a)⟩ g (fun v b=>by cases b);have hp:=qo ⟨[],[],⟨[],0⟩,pts⟩ ps;refine⟨d, ?_⟩;have:=QS.long (c:=ps.foldl CS.par ⟨[],[],⟨[],0⟩,pts⟩) hw h;rw[f,hp]at this;exact this
def gd(fs:List Fn)(i:Nat)(f:Fn)(pts:List Pt)(w:WE):WS:=
 let r:=(bc fs i true false f.bd ⟨f.ps.map lP,pts,w⟩ (Mn f.ps.length)).1
 bif decide (0<f.res)&& !bT f.bd then {r with w:=r.w.fail f.p 12}else r
def eH(fs:List Fn):Nat→List Fn→List (List Vr)→List Pt→WE→List (List Vr)×List Pt×WE
 |_,[],a,pts,w=>(a,pts,w)
 |i,f::r,a,pts,w=>bif w.e==0 then eH fs (i+1) r (a ++[(gd fs i f pts w).vars]) (gd fs i f pts w).pts (gd fs i f pts w).w else (a,pts,w)
def tt(q:List (List Vr)×List Pt×WE):List D:=bif q.2.2.e==0 then [t7 q.1 q.2.1, .int .i64 0, .int .i64 0]else [.agg [.ro [], .ro []], .int .i64 q.2.2.p, .int .i64 q.2.2.e]
def eX(fs:List Fn):List (List Vr)×List Pt×WE:=eH fs 0 fs [] [dz] (ew fs)
theorem fc{w:WE}(h:(w.e==0)=false)(fs:List Fn)(i:Nat):∀(r:List Fn)(a:List (List Vr))(pts:List Pt),eH fs i r a pts w=(a,pts,w)
 |[],_,_=>rfl
 |f::r,a,pts=>by
  simp only[eH,h,xP]
mutual
theorem II:∀x:aP,f9 x=true→SK x=true
 | .mk k _ nm _ _ _ es bd a,h=>by
  simp only[f9,xJ]at h;obtain⟨_,e,h2,d,c⟩:=h;simp only[SK,xJ];refine⟨?_,e,og bd d,og a c⟩;cases b:(k==1)with
  |false=>rfl
  |true=>
   simp only[cW,b,xW,xJ]at h2;simpa using h2.1
theorem og:∀l:List aP,de l=true→B9 l=true
 |[],_=>rfl
 |x::r,h=>by
  simp only[de,xJ]at h;simp only[B9,xJ];exact⟨II x h.1,og r h.2⟩
end
theorem IJ{f:Fn}(h:gc f):0≤f.res:=by
 have:=h.res;simp only[x0,yU,zR]at this;omega
theorem Lg{fs:List Fn}(l:∀f∈fs,gc f)(i:Nat){f:Fn}(b:gc f)(k:(f.ps.map (·.nm)).Nodup)(m:bf f.bd<1000000)(pts:List Pt)(w:WE)(hw:w.e=0):
    match jt fs i f pts with
    | .ok q=>(gd fs i f pts w).vars=q.1∧(gd fs i f pts w).pts=q.2∧(gd fs i f pts w).w.e=0
    | .bad p e=>(gd fs i f pts w).w=⟨p,e⟩∧(e==0)=false
    | .out=>True:=by
 obtain⟨j,q⟩:=E0 k pts w hw;have h:=lz fs i (fun f b=>IJ (l f b)) f.bd 0 true false _ _ _ (og _ b.bd) rfl (Int.le_refl 0) (by omega) j q;unfold jt eM gd
 have g:(f.res==0||bT f.bd)= !(decide (0<f.res)&& !bT f.bd):=by
  rw[Bool.not_and,Bool.not_not];congr 1;have:=IJ b;rw[Bool.eq_iff_iff];simp only[yI,yN,x6];omega
 rw[g];generalize (bc fs i true false f.bd ⟨f.ps.map lP,pts,w⟩ (Mn f.ps.length))=a at h ⊢;revert h;show SR _ _ (bu fs i 0 false f.bd (f.ps.foldl CS.par ⟨[],[],⟨[],0⟩,pts⟩)) a→_;dsimp only;cases bu fs i 0 false f.bd (f.ps.foldl CS.par ⟨[],[],⟨[],0⟩,pts⟩)with
 |out=>exact fun _=>trivial
 |bad p e=>
  rintro⟨d,h2⟩;simp only[TR.bind];refine⟨?_,h2⟩;cases (decide (0<f.res)&& !bT f.bd)with
  |false=>exact d
  |true=>
   simp only[xW,d];exact dh h2
 |ok c=>
  rintro⟨_,h,_,_⟩;simp only[TR.bind];cases (decide (0<f.res)&& !bT f.bd)with
  |false=>exact⟨h.v,h.p,h.w⟩
  |true=>exact⟨bI h.w,rfl⟩
theorem ur{fs:List Fn}(k:∀f∈fs,gc f):∀(r:List Fn)(i:Nat)(a:List (List Vr))(pts:List Pt)(w:WE),w.e=0→(∀f∈r,gc f∧(f.ps.map (·.nm)).Nodup∧bf f.bd<1000000)→cn fs i r a pts≠ .out→tt (eH fs i r a pts w)=nT (cn fs i r a pts)
 |[],i,a,pts,w,hw,_,_=>by
  simp only[eH,cn,tt,hw,nT];rfl
 |f::r,i,a,pts,w,hw,j,b=>by
  obtain⟨o,h2,n⟩:=j f (yE ..);have h:=Lg k i o h2 n pts w hw;simp only[cn]at b ⊢;have d:(w.e==0)=true:=by simp[hw]
  simp only[eH,d,xW];revert h b;cases jt fs i f pts with
  |out=>exact fun h _=>absurd rfl h
  |bad p e=>
   rintro _ ⟨g,c⟩;rw[g,fc c];simp only[tt,c,xP,TR.bind,nT]
  |ok q=>
   rintro b ⟨g,c,m⟩;simp only[TR.bind]at b ⊢;rw[←g,←c]at b ⊢;exact ur k r (i+1) _ _ _ m (fun f l=>j f (xp _ l)) b
theorem IK{fs:List Fn}(h:PG fs):tt (eX fs)=nT (du fs):=by
 unfold eX;have b:=AM fs;have a:=n9 h;unfold du at a ⊢;revert b a;cases l:f0 fs with
 |out=>exact fun _ h=>absurd rfl h
 |bad p e=>
  rintro⟨m,h2⟩ _;rw[m,fc h2];simp only[tt,h2,xP,TR.bind,nT]
 |ok u=>
  intro b a;have b:ew fs=⟨0,0⟩:=b;rw[b]
  exact ur h.g fs 0 [] [dz] ⟨0,0⟩ rfl (fun f c=>⟨h.g f c,(hZ l f c).2,by
   obtain⟨i,k,j⟩:=yY c;have d:=ly (show fs[i]? =some f by rw[xD k,j]);have:=h.z;unfold EO at d;omega⟩) a
end Go.Avm
namespace Go.Avm
open Go.Proofs
theorem YN{X:b4}{env:Nat→AV}{S:WK}(h:WKok S)(w:WE)(b:aa):Weak X ⟨env,ae (gx ++wk S w) b⟩ ⟨env,ae (gH S.fs (S.W.set S.fn (ku S.vars)) S.P S.np S.vR S.vp (S.vv+1) S.fn w) b⟩:=by
 have j:S.fn<S.W.length:=by rw[h.W];omega
 have m:S.vars.map oh=(S.vars.map mX).map .d:=by simp[oh]
 have p:S.vars.length=(S.vars.map mX).length:=by simp
 have q:=eo (X:=X) (env:=env) (h:=ae (gx ++wk S w) b) (C:=500191) (a:=S.fn) (n:=2) (ces:=S.W.set S.fn (fF S.vv S.vars)) (x:=fF S.vv S.vars) (d:= .ro (S.vars.map mX)) (ks:=[500005]) (by decide) (by simp[ae,aG]) (by simp[j]) rfl (by
  unfold fF;rw[p];exact lu (n:=0) (by rw[←m];simp[ae,aG]))
 refine q.trans (eD fun k=> ?_);have o:(ae (gx ++wk S w) b 500191).ver=S.vR:=by simp[ae,aG]
 rw[o,List.set_set]
 have l:∀k,aG (ap (ae (gx ++wk S w) b) (kill (ae (gx ++wk S w) b) [500005])) 500191 ⟨S.vR,some (.arr 1 (S.W.set S.fn (.d (.ro (S.vars.map mX)))))⟩ k=if k=500191 then ⟨S.vR,some (.arr 1 (S.W.set S.fn (.d (.ro (S.vars.map mX)))))⟩else if k=500005 then ⟨S.vv+1,none⟩else ae (gx ++wk S w) b k:=fun k=>by
  simp only[aG];split
  ·rfl
  ·rw[bo]
   simp only[xM];split
   ·rename_i c
    subst c;simp[ae,aG]
   ·rfl
 rw[l];simp only[gH,gC,gx,wk,Qs,ku,zP,h.W,xk,yG,ae,aG];by_cases e:k=500000
 ·subst e;simp
 by_cases i:k=498995
 ·subst i;simp
 by_cases c:k=500005
 ·subst c;simp
 by_cases g:k=500382
 ·subst g;simp
 by_cases f:k=500191
 ·subst f;simp
 simp only[e,i,c,g,f,yi];simp
theorem IL{fs:List Fn}(I:fs.length<1000000)(o:∀f∈fs,f.ps.length≤6){W:List AV}{pts:List Pt}(H:iJ W)(w:WE)(h0:(w.e==0)=true)(i vp z g:Nat){f:Fn}(hf:gc f)(j:fs[W.length]? =some f)(V:bf f.bd<1000000)(hb:pts.length+bf f.bd<900000000):
    (gd fs W.length f pts w).pts.length≤pts.length+bf f.bd∧∃C t q:Nat,∀(b:aa)(X:b4),X.P=Pg→X.N=197→∀Q:aB→St→Prop,LW X (lO 14 28) ⟨ah (bL fs (W.length+1)),ae (gH fs (W ++[ku (gd fs W.length f pts w).vars]) ((gd fs W.length f pts w).pts.map bU) (gd fs W.length f pts w).pts.length C t q W.length (gd fs W.length f pts w).w) b⟩ Q→
     LW X (lO 14 28) ⟨ah (bL fs W.length),ae (gH fs W (pts.map bU) pts.length i vp z g w) b⟩ Q:=by
 have hi:W.length<fs.length:=(xC.1 j).1;have hp6:=o _ (xX j)
 have l:∀x∈pts.map bU,∃d,x=AV.d d:=fun x j=>by
  obtain⟨y,_,rfl⟩:=x9.1 j;exact⟨_,rfl⟩
 obtain⟨nm,ps,res,bd,p⟩:=f;simp only at V hb hp6;have h1:decide (W.length<(fs.map bn).length)=true:=by rw[xO];exact yM hi
 have B:(fs.map bn)[((W.length:Nat):Int).toNat]? =some (.agg [.str nm, .ro (ps.map cR), .int .u8 res, .ro (cg bd), .int .i64 p]):=by
  rw[xb,xN,j];rfl
 have A:(w.e !=0)=false:=by rw[bne,h0];rfl
 obtain⟨m,F,R,n⟩:=TJ H l pts.length i vp W.length w W.length nm ps res bd p ps.length 0 [] (z+1) ⟨⟨[],[]⟩,1,1⟩ (by omega) (by omega) (by simp;omega) (by simp;omega) (by simp;omega);rw[xn,yG]at n;have R:m.s=Mn ps.length:=R
 have ok0:WKok (TK fs W (pts.map bU) pts.length i vp F (ps.map lP)):={
  W:=by simp[TK]
  dat:=fun x j=>by
   rcases xU.1 (show x∈W ++[.nils]from j)with j|j
   ·exact H x j
   ·exact .inl (xM.1 j)
  fn:=hi
  len:=I
  par:=o
  vars:=by show(ps.map lP).length<100000;rw[xO];omega
  pl:=by show(pts.map bU).length=pts.length;rw[xO]
  pd:=l
  pts:=by show pts.length<1000000000;omega}
 have U:AtW (TK fs W (pts.map bU) pts.length i vp F (ps.map lP)) ⟨ps.map lP,pts,w⟩ m (bf bd):=
  ⟨ok0,rfl,rfl, .inl (by show(ps.map lP).length≤255;rw[xO];omega),by rw[R];simp[Mn],by rw[R];show(List.replicate ps.length true).length≤(ps.map lP).length;simp,hb⟩
 obtain⟨h,D,c,K⟩:=wb bd hf.bd V _ m true _ U;rw[R]at c K;have c:NxW _ h m D _ (bf bd) ((bc fs W.length true false bd ⟨ps.map lP,pts,w⟩ (Mn ps.length)).1,_):=c;have K:Pv _ h m D w (bc fs W.length true false bd ⟨ps.map lP,pts,w⟩ (Mn ps.length)).1.w bd true:=K;unfold gd;simp only;generalize bc fs W.length true false bd ⟨ps.map lP,pts,w⟩ (Mn ps.length)=a at c K ⊢;have L:h.fs=fs:=c.fs;have J:h.fn=W.length:=c.fn;have T:h.W=W ++[.nils]:=c.W;have e_R:h.vR=i+1:=c.vR;have Y:h.vars=a.1.vars:=c.v;have O:h.P=a.1.pts.map bU:=c.P;have G:h.np=a.1.pts.length:=by rw[←c.ok.pl,O,xO]
 have E:∀x,(W ++[AV.nils]).set W.length x=W ++[x]:=fun x=>by
  rw[List.set_append_right _ _ (xL _),zM];rfl
 have u:∀b:aa,am Pg 30 [gl,cS m, .d (.ro (cg bd)), .d (.bool true)] (ae (T8 fs W (pts.map bU) pts.length i vp F (ps.map lP) w ++bt m) b) [cS D] (ae (wk h a.1.w ++bt D) b):=fun b=>by
  rw[PJ];exact K b
 have r:∀S:WE,(RE 197 (lO 14 28) (bL fs W.length) (gH fs W (pts.map bU) pts.length i vp z g w) .normal (bL fs (W.length+1)) (gx ++wk h S))→
     ∃C t q:Nat,∀(b:aa)(X:b4),X.P=Pg→X.N=197→∀Q:aB→St→Prop,LW X (lO 14 28) ⟨ah (bL fs (W.length+1)),ae (gH fs (W ++[ku a.1.vars]) (a.1.pts.map bU) a.1.pts.length C t q W.length S) b⟩ Q→
     LW X (lO 14 28) ⟨ah (bL fs W.length),ae (gH fs W (pts.map bU) pts.length i vp z g w) b⟩ Q:=fun S hs=>⟨i+1,h.vp,h.vv+1,fun b X hP hN Q hl=>by
  refine au (hs b X hP hN) (LW.weak ?_ hl);have k:=YN (X:=X) (env:=ah (bL fs (W.length+1))) c.ok S b;rw[L,J,T,e_R,Y,O,G,E]at k;exact k⟩
 have gp:a.1.pts.length≤pts.length+bf bd:=c.gp;have M:=Iq bd V;cases Z:decide ((0:Int)<res)with
 |false=>exact⟨gp,r a.1.w (YK H l pts.length i vp z g w nm ps res bd p h1 B A (by omega) _ F m D c.ok a.1.w n u Z)⟩
 |true=>
  revert M;cases bT bd with
  |true=>exact fun M=>⟨gp,r a.1.w (YL H l pts.length i vp z g w nm ps res bd p h1 B A (by omega) _ F m D c.ok a.1.w n u Z M)⟩
  |false=>exact fun M=>⟨gp,r (a.1.w.fail p 12) (YM H l pts.length i vp z g w nm ps res bd p h1 B A (by omega) _ F m D c.ok a.1.w n u Z M)⟩
theorem Mo{fs:List Fn}(k:fs.length<1000000)(n:∀f∈fs,f.ps.length≤6):∀(r j:List Fn)(a:List (List Vr))(W:List AV)(pts:List Pt)(w:WE)(m vp l g:Nat),W=a.map ku→fs=j ++r→j.length=W.length→(∀f∈r,gc f∧bf f.bd<1000000)→pts.length+gh r<900000000→
    ∃t q o z:Nat,RL 197 (lO 14 28) (bL fs W.length) (gH fs W (pts.map bU) pts.length m vp l g w) (.exit 6) bO (gH fs ((eH fs W.length r a pts w).1.map ku) ((eH fs W.length r a pts w).2.1.map bU) (eH fs W.length r a pts w).2.1.length t q o z (eH fs W.length r a pts w).2.2)
 |[],j,a,W,pts,w,m,vp,l,g,h,C,hp,_,_=>by
  have A:iJ W:=by
   rw[h];exact fun x i=>by obtain⟨y,_,rfl⟩:=x9.1 i;exact .inr ⟨_,rfl⟩
  have s:∀x∈pts.map bU,∃d,x=AV.d d:=fun x i=>by
   obtain⟨y,_,rfl⟩:=x9.1 i;exact⟨_,rfl⟩
  refine⟨m,vp,l,g,fun b X u v=> ?_⟩;simp only[eH];rw[←h];have:fs.length=W.length:=by rw[C,←hp,yC]
  exact aA (ID A s pts.length m vp l g w W.length (by rw[xO,x6];omega) b X u v) (by simp)
 |f::r,j,a,W,pts,w,m,vp,l,g,h,C,hp,D,F=>by
  have A:iJ W:=by
   rw[h];exact fun x i=>by obtain⟨y,_,rfl⟩:=x9.1 i;exact .inr ⟨_,rfl⟩
  have s:∀x∈pts.map bU,∃d,x=AV.d d:=fun x i=>by
   obtain⟨y,_,rfl⟩:=x9.1 i;exact⟨_,rfl⟩
  have i:fs[W.length]? =some f:=by rw[C,←hp];simp
  have K:W.length<fs.length:=(xC.1 i).1;simp only[gh,EO]at F;cases hw:(w.e==0)with
  |false=>
   refine⟨m,vp,l,g,fun b X u v=> ?_⟩;rw[fc hw];simp only;rw[←h];exact aA (Mm A s pts.length m vp l g w f.nm f.ps f.res f.bd f.p W.length (by rw[xO];exact yM K) (by rw[xb,xN,i];rfl) (by rw[bne,hw];rfl) b X u v) (by simp)
  |true=>
   obtain⟨H,G⟩:=D f (yE ..);obtain⟨N,t,q,o,c⟩:=IL (pts:=pts) k n A w hw m vp l g H i G (by omega);obtain⟨I,J,L,E,B⟩:=Mo k n r (j ++[f]) (a ++[(gd fs W.length f pts w).vars]) (W ++[ku (gd fs W.length f pts w).vars]) (gd fs W.length f pts w).pts (gd fs W.length f pts w).w t q o W.length (by rw[h,xF];rfl) (by rw[C];simp) (by simp[hp]) (fun f M=>D f (xp _ M)) (by omega);refine⟨I,J,L,E,fun b X u v=>c b X u v _ ?_⟩;simp only[eH,hw,xW];have B:=B b X u v;rw[show(W ++[ku (gd fs W.length f pts w).vars]).length=W.length+1 by simp]at B;exact B
end Go.Avm
namespace Go.Avm
open Go.Proofs
theorem sE{X:b4}{env:Nat→AV}{h:aa}{C K a v v' sz:Nat}{ces:List AV}{ds:List D}(b:C≠K)(e:h C=⟨v,some (.arr 1 ces)⟩)(i:ces[a]? =some (.sl K v' 0 ds.length sz))(c:h K=⟨v',some (.arr sz (ds.map .d))⟩):Weak X ⟨env,h⟩ ⟨env,aG (aG h K ⟨v'+1,none⟩) C ⟨v,some (.arr 1 (ces.set a (.d (.ro ds))))⟩⟩:=by
 have w:=eo (X:=X) (env:=env) (h:=h) (C:=C) (a:=a) (n:=2) (ces:=ces) (x:= .sl K v' 0 ds.length sz) (d:= .ro ds) (ks:=[K]) (by simpa using b) (by rw[e]) i rfl (lu (n:=0) c);refine w.trans (eD fun k=> ?_);simp only[aG];by_cases f:k=C
 ·subst f
  simp only[yS];rw[e];simp
 ·simp only[f,yi]
  rw[bo];simp only[xM];by_cases g:k=K
  ·subst g
   simp only[yS];rw[c];simp
  ·simp only[g,yi]
   simp
abbrev gZ(fs:List Fn)(a:List (List Vr))(pts:List Pt)(c vp f b:Nat)(w:WE):List (Nat×aE):=
 gx ++[(500000,⟨1,some (.arr 1 [.d (.ro (fs.map bn)), .d (.ro (bJ a)), .d (.ro (fj pts)),dN b,dI w.p,dI w.e])⟩),(500005,⟨f,none⟩),(500382,⟨vp+1,none⟩),(500191,⟨c+1,none⟩)]
theorem Lh{X:b4}{env:Nat→AV}(fs:List Fn)(b:List (List Vr))(pts:List Pt)(f vp g c:Nat)(w:WE)(e:aa):Weak X ⟨env,ae (gH fs (b.map ku) (pts.map bU) pts.length f vp g c w) e⟩ ⟨env,ae (gZ fs b pts f vp g c w) e⟩:=by
 have u:b.map ku=(bJ b).map .d:=by
  unfold bJ;rw[yx];rfl
 have t:pts.length=(fj pts).length:=by simp[fj]
 have r:pts.map bU=(fj pts).map .d:=by
  unfold fj;rw[yx];rfl
 have s:((bJ b).map AV.d).length=(bJ b).length:=xO ..;rw[u,r,t];have p:=sE (X:=X) (env:=env) (h:=ae (gH fs ((bJ b).map .d) ((fj pts).map .d) (fj pts).length f vp g c w) e) (C:=500000) (K:=500191) (a:=1) (v:=1) (v':=f) (sz:=1) (ds:=bJ b) (ces:=gC fs ((bJ b).map .d) (fj pts).length f vp c w) (by decide) (by simp[ae,aG]) (by simp only[gC,s];rfl) (by simp[ae,aG]);refine p.trans ?_;generalize i:aG (aG (ae (gH fs ((bJ b).map .d) ((fj pts).map .d) (fj pts).length f vp g c w) e) 500191 ⟨f+1,none⟩) 500000 ⟨1,some (.arr 1 ((gC fs ((bJ b).map .d) (fj pts).length f vp c w).set 1 (.d (.ro (bJ b)))))⟩=H;have q:=sE (X:=X) (env:=env) (h:=H) (C:=500000) (K:=500382) (a:=2) (v:=1) (v':=vp) (sz:=3) (ds:=fj pts) (ces:=(gC fs ((bJ b).map .d) (fj pts).length f vp c w).set 1 (.d (.ro (bJ b)))) (by decide) (by rw[←i];simp[aG]) rfl (by rw[←i];simp[ae,aG]);refine q.trans (eD fun k=> ?_);rw[←i];simp only[gZ,gH,gC,gx,xk,yG,ae,aG];by_cases n:k=500000
 ·subst n;simp
 by_cases j:k=498995
 ·subst j;simp
 by_cases l:k=500005
 ·subst l;simp
 by_cases o:k=500382
 ·subst o;simp
 by_cases m:k=500191
 ·subst m;simp
 simp only[n,j,l,o,m,yi];simp
abbrev gB(fs:List Fn)(b vp a:Nat)(w:WE):List (Nat×aE):=gH fs [] [.agg [dI 0, .nils, .nils]] 1 b vp a 0 w
theorem Li{X:b4}{env:Nat→AV}(fs:List Fn)(c vp b:Nat)(w:WE)(a:aa):Weak X ⟨env,ae (gB fs c vp b w) a⟩ ⟨env,ae (gH fs [] ([dz].map bU) [dz].length c vp b 0 w) a⟩:=by
 have e:=t6 (X:=X) (env:=env) (h:=ae (gB fs c vp b w) a) (K:=500382) (x:= .int .i64 0) (by simp[ae,aG]);refine e.trans (eD fun k=> ?_);have f:(ae (gB fs c vp b w) a 500382).ver=vp:=by simp[ae,aG]
 rw[f];simp only[gB,gH,gC,gx,xk,yG,ae,aG];by_cases d:k=500382
 ·subst d;simp[bU,I3,dz,bN]
 ·simp only[d,yi,xG,xS]
  simp
theorem IM{fs:List Fn}{w:WE}(hw:(w.e==0)=false)(pts:List Pt)(h vp g a:Nat):RL 197 (lO 14 28) (bL fs 0) (gH fs [] (pts.map bU) pts.length h vp g a w) (.exit 6) bO (gH fs [] (pts.map bU) pts.length h vp g a w):=fun b X j l=>by
 have k:iJ []:=fun x i=>by cases i
 have c:∀x∈pts.map bU,∃d,x=AV.d d:=fun x i=>by
  obtain⟨y,_,rfl⟩:=x9.1 i;exact⟨_,rfl⟩
 cases fs with
 |nil=>exact aA (ID k c pts.length h vp g a w 0 rfl b X j l) (by simp)
 |cons f r=>exact aA (Mm k c pts.length h vp g a w f.nm f.ps f.res f.bd f.p 0 (by simp) rfl (by rw[bne,hw];rfl) b X j l) (by simp)
theorem W0{fs:List Fn}(h:PG fs)(m vp l:Nat):∃j d c a:Nat,RE 197 (.loop (lO 14 28)) (bL fs 0) (gB fs m vp l (ew fs)) (.exit 6) bO (gZ fs (eX fs).1 (eX fs).2.1 j d c a (eX fs).2.2):=by
 have o:∃j d c a:Nat,RL 197 (lO 14 28) (bL fs 0) (gH fs [] ([dz].map bU) [dz].length m vp l 0 (ew fs)) (.exit 6) bO (gH fs ((eX fs).1.map ku) ((eX fs).2.1.map bU) (eX fs).2.1.length j d c a (eX fs).2.2):=by
  have w:=AM fs;revert w;cases t:f0 fs with
  |out=>exact absurd t (o2 fs)
  |bad p e=>
   rintro⟨D,h2⟩;have hw:((ew fs).e==0)=false:=by rw[D];exact h2
   refine⟨m,vp,l,0, ?_⟩;unfold eX;rw[fc hw];exact IM hw [dz] m vp l 0
  |ok u=>
   intro _
   exact Mo (Nat.lt_of_le_of_lt (jA fs) h.z) (fun f n=>(hZ t f n).1) fs [] [] [] [dz] (ew fs) m vp l 0 rfl rfl rfl (fun f n=>⟨h.g f n,by
    obtain⟨i,A,B⟩:=yY n;have x:=ly (show fs[i]? =some f by rw[xD A,B]);have:=h.z;unfold EO at x;omega⟩) (by have:=h.z;simp only[xG,xS];omega)
 obtain⟨r,s,v,q,k⟩:=o;refine⟨r,s,v,q,fun b X y C=> ?_⟩;refine AW.weak (Li fs m vp l _ b) (jT ((k b X y C).aw.mono ?_));rintro _ _ ⟨rfl,rfl⟩;exact⟨_,Lh fs _ _ r s v q _ b,rfl,rfl⟩
end Go.Avm
namespace Go.Avm
open Go.Proofs
abbrev C3(fs:List Fn)(a:WE):Prop:=RE 197 (.loop (lO 14 3)) (wc fs 0) (tr fs ⟨0,0⟩) (.exit 0) Ml (tr fs a)
abbrev Qf(fs:List Fn)(e:WE)(a:List (List Vr))(pts:List Pt)(b d c f:Nat)(g:WE):Prop:=RE 197 (.loop (lO 14 28)) (bL fs 0) (gB fs 1 1 0 e) (.exit 6) bO (gZ fs a pts b d c f g)
section
variable{fs:List Fn}{c b:WE}{a:List (List Vr)}{pts:List Pt}{d h f m:Nat}(n:C3 fs c)
include n
theorem YO(q:aF Pg 28 [.agg [.ro (fs.map bn)], .str pA] [.int .i64 (-1)])(o:(b.e !=0)=true)(j:Qf fs (c.fail 0 13) a pts d h f m b):aF Pg 14 [.agg [.ro (fs.map bn)]] [.agg [.ro [], .ro []], .int .i64 b.p, .int .i64 b.e]:=
 qV {loops:=fun g l=>if g=14 then (if l=3 then some ⟨197,aJ Pg 14 3,wc fs 0,fun _=>tr fs ⟨0,0⟩, .exit 0,Ml,fun _=>tr fs c,n⟩else if l=28 then some ⟨197,aJ Pg 14 28,bL fs 0,fun _=>gB fs 1 1 0 (c.fail 0 13), .exit 6,bO,fun _=>gZ fs a pts d h f m b,j⟩else none)else none,nils2:=fun g r=>if g=14 then (if r=27 then [{k:=500000,i:=1,K:=500191,sz:=1,obj:=true},{k:=500000,i:=2,K:=500382,sz:=3,obj:=true}]else [])else [],hint:=qT 14 [(77, .call 28 _ _ q),(183,qB o)],calls:=tC [(14,81,502145,ad (uo fs c 0 13))]} 498796
variable(j:Nat)(nm:List UInt8)(ps:List Pm)(res:Int)(bd:List aP)(p:Int)(q:aF Pg 28 [.agg [.ro (fs.map bn)], .str pA] [.int .i64 (j:Int)])(s:j<1000000)(o:(fs.map bn)[((j:Nat):Int).toNat]? =some (.agg [.str nm, .ro (ps.map cR), .int .u8 res, .ro (cg bd), .int .i64 p]))
include q s o
theorem YP(hp:decide ((0:Int)<((ps.map cR).length:Int))=true)(u:(b.e !=0)=true)(t:Qf fs (c.fail p 13) a pts d h f m b):aF Pg 14 [.agg [.ro (fs.map bn)]] [.agg [.ro [], .ro []], .int .i64 b.p, .int .i64 b.e]:=
 qV {loops:=fun g l=>if g=14 then (if l=3 then some ⟨197,aJ Pg 14 3,wc fs 0,fun _=>tr fs ⟨0,0⟩, .exit 0,Ml,fun _=>tr fs c,n⟩else if l=28 then some ⟨197,aJ Pg 14 28,bL fs 0,fun _=>gB fs 1 1 0 (c.fail p 13), .exit 6,bO,fun _=>gZ fs a pts d h f m b,t⟩else none)else none,nils2:=fun g r=>if g=14 then (if r=27 then [{k:=500000,i:=1,K:=500191,sz:=1,obj:=true},{k:=500000,i:=2,K:=500382,sz:=3,obj:=true}]else [])else [],hint:=qT 14 [(77, .call 28 _ _ q),(85, .idx (fs.map bn) ((j:Nat):Int) _ (by omega) o),(90,qB hp),(183,qB u)],calls:=tC [(14,99,505100,ad (uo fs c p 13))]} 498796
section
variable(hp:decide ((0:Int)<((ps.map cR).length:Int))=false)
include hp
theorem YQ(v:(res !=1)=true)(u:(b.e !=0)=true)(t:Qf fs (c.fail p 13) a pts d h f m b):aF Pg 14 [.agg [.ro (fs.map bn)]] [.agg [.ro [], .ro []], .int .i64 b.p, .int .i64 b.e]:=
 qV {loops:=fun g l=>if g=14 then (if l=3 then some ⟨197,aJ Pg 14 3,wc fs 0,fun _=>tr fs ⟨0,0⟩, .exit 0,Ml,fun _=>tr fs c,n⟩else if l=28 then some ⟨197,aJ Pg 14 28,bL fs 0,fun _=>gB fs 1 1 0 (c.fail p 13), .exit 6,bO,fun _=>gZ fs a pts d h f m b,t⟩else none)else none,nils2:=fun g r=>if g=14 then (if r=27 then [{k:=500000,i:=1,K:=500191,sz:=1,obj:=true},{k:=500000,i:=2,K:=500382,sz:=3,obj:=true}]else [])else [],hint:=qT 14 [(77, .call 28 _ _ q),(85, .idx (fs.map bn) ((j:Nat):Int) _ (by omega) o),(90,qB hp),(94,qB v),(183,qB u)],calls:=tC [(14,99,505691,ad (uo fs c p 13))]} 498796
theorem YR(v:(res !=1)=false)(u:(b.e !=0)=true)(t:Qf fs c a pts d h f m b):aF Pg 14 [.agg [.ro (fs.map bn)]] [.agg [.ro [], .ro []], .int .i64 b.p, .int .i64 b.e]:=
 qV {loops:=fun g l=>if g=14 then (if l=3 then some ⟨197,aJ Pg 14 3,wc fs 0,fun _=>tr fs ⟨0,0⟩, .exit 0,Ml,fun _=>tr fs c,n⟩else if l=28 then some ⟨197,aJ Pg 14 28,bL fs 0,fun _=>gB fs 1 1 0 c, .exit 6,bO,fun _=>gZ fs a pts d h f m b,t⟩else none)else none,nils2:=fun g r=>if g=14 then (if r=27 then [{k:=500000,i:=1,K:=500191,sz:=1,obj:=true},{k:=500000,i:=2,K:=500382,sz:=3,obj:=true}]else [])else [],hint:=qT 14 [(77, .call 28 _ _ q),(85, .idx (fs.map bn) ((j:Nat):Int) _ (by omega) o),(90,qB hp),(94,qB v),(183,qB u)]} 498796
theorem YS(v:(res !=1)=false)(u:(b.e !=0)=false)(t:Qf fs c a pts d h f m b):aF Pg 14 [.agg [.ro (fs.map bn)]] [t7 a pts, .int .i64 0, .int .i64 0]:=
 qV {loops:=fun g l=>if g=14 then (if l=3 then some ⟨197,aJ Pg 14 3,wc fs 0,fun _=>tr fs ⟨0,0⟩, .exit 0,Ml,fun _=>tr fs c,n⟩else if l=28 then some ⟨197,aJ Pg 14 28,bL fs 0,fun _=>gB fs 1 1 0 c, .exit 6,bO,fun _=>gZ fs a pts d h f m b,t⟩else none)else none,nils2:=fun g r=>if g=14 then (if r=27 then [{k:=500000,i:=1,K:=500191,sz:=1,obj:=true},{k:=500000,i:=2,K:=500382,sz:=3,obj:=true}]else [])else [],hint:=qT 14 [(77, .call 28 _ _ q),(85, .idx (fs.map bn) ((j:Nat):Int) _ (by omega) o),(90,qB hp),(94,qB v),(183,qB u)]} 498796
end
end
end Go.Avm
namespace Go.Avm
open Go.Proofs
theorem Lj{fs:List Fn}(h:PG fs):aF Pg 14 [.agg [.ro (fs.map bn)]] (nT (du fs)):=by
 rw[←IK h];have v:=Nat.lt_of_le_of_lt (jA fs) h.z
 have t:∀f∈fs,f.ps.length<1000000:=fun f D=>by
  obtain⟨i,B,m⟩:=yY D;have b:=ly (show fs[i]? =some f by rw[xD B,m]);have:=h.z;unfold EO at b;omega
 have o:C3 fs (eW [] fs ⟨0,0⟩):=fun n X A E=>(TH v t fs [] ⟨0,0⟩ rfl n X A E).aw
 obtain⟨x,y,C,w,d⟩:=W0 h 1 1 0;have g:=Im fs pA v
 have c:((ew fs).e==0)=false→((eX fs).2.2.e==0)=false:=fun hw=>by
  unfold eX;rw[fc hw];exact hw
 have d:Qf fs (ew fs) (eX fs).1 (eX fs).2.1 x y C w (eX fs).2.2:=d;have bad:∀{e:Int},(e==0)=false→(e !=0)=true:=fun h=>by rw[bne,h];rfl
 have k:∀{e:Int},(e==0)=true→(e !=0)=false:=fun h=>by rw[bne,h];rfl
 cases r:bA pA fs 0 with
 |none=>
  rw[r]at g;have a:ew fs=(eW [] fs ⟨0,0⟩).fail 0 13:=by unfold ew DP;rw[r]
  have b:=c (by rw[a];exact qr rfl);rw[a]at d;rw[tt,b];exact YO o g (bad b) d
 |some q=>
  obtain⟨j,f⟩:=q;rw[r]at g;have u:fs[j]? =some f:=(oc r).2;have F:j<fs.length:=(xC.1 u).1
  have s:(fs.map bn)[((j:Nat):Int).toNat]? =some (bn f):=by
   rw[xb,xN,u];rfl
  have a:ew fs=bif f.ps.isEmpty&&f.res==1 then eW [] fs ⟨0,0⟩else (eW [] fs ⟨0,0⟩).fail f.p 13:=by unfold ew DP;rw[r]
  obtain⟨nm,ps,res,bd,p⟩:=f;simp only at a;cases hp:decide ((0:Int)<((ps.map cR).length:Int))with
  |true=>
   have m:ps.isEmpty=false:=by
    cases ps with
    |nil=>simp at hp
    |cons _ _=>rfl
   rw[m]at a;have a:ew fs=(eW [] fs ⟨0,0⟩).fail p 13:=a;have b:=c (by rw[a];exact qr rfl);rw[a]at d;rw[tt,b];exact YP o j nm ps res bd p g (by omega) s hp (bad b) d
  |false=>
   have m:ps.isEmpty=true:=by
    cases ps with
    |nil=>rfl
    |cons _ _=>rw[x6]at hp;simp only[xH,xG]at hp;omega
   rw[m]at a;cases l:(res==1)with
   |false=>
    rw[l]at a;have a:ew fs=(eW [] fs ⟨0,0⟩).fail p 13:=a;have b:=c (by rw[a];exact qr rfl);rw[a]at d;rw[tt,b];exact YQ o j nm ps res bd p g (by omega) s hp (by rw[bne,l];rfl) (bad b) d
   |true=>
    rw[l]at a;have a:ew fs=eW [] fs ⟨0,0⟩:=a;rw[a]at d;cases b:((eX fs).2.2.e==0)with
    |false=>
     rw[tt,b];exact YR o j nm ps res bd p g (by omega) s hp (by rw[bne,l];rfl) (bad b) d
    |true=>
     rw[tt,b];exact YS o j nm ps res bd p g (by omega) s hp (by rw[bne,l];rfl) (k b) d
end Go.Avm
namespace Go.Avm
open Go.Proofs
abbrev TL(l:List Nat)(i:Nat):List (Nat×AV):=[(0, .d (.ro (bN l))),(1, .d (.ro (bN l))),(12,dN (bN l).length),(13,dN i)]
section
variable(l:List Nat)(i:Nat)
theorem PK(h:decide (i<(bN l).length)=false):RE 26 (lO 15 4) (TL l i) ([]) (.exit 0) [] ([]):=
 qE {hint:=qT 15 [(14,dk Pg i (bN l).length false h)]} 15 600000
theorem W2(h:decide (i<(bN l).length)=true)(v:Nat)(a:(bN l)[((i:Nat):Int).toNat]? =some (.int .i64 (v:Int)))(b:i<1000000):RE 26 (lO 15 4) (TL l i) ([]) .normal (TL l (i+1)) ([]):=
 qE {hint:=qT 15 [(14,dk Pg i (bN l).length true h),(18, .idx (bN l) ((i:Nat):Int) _ (by omega) a),(22, .idx (bN l) ((i:Nat):Int) _ (by omega) a),(24,hB Pg ((v:Int) !=(v:Int)) false (by simp)),(25,bj Pg i (by omega))]} 15 600000
end
theorem IO(l:List Nat)(d:l.length<1000000):∀m i:Nat,i+m=l.length→RL 26 (lO 15 4) (TL l i) ([]) (.exit 0) [] ([])
 |0,i,h=>fun a X b c=>aA (PK l i (by simp only[bN,xO,x6];omega) a X b c) (by simp)
 |m+1,i,h=>fun a X b c=>au (W2 l i (by simp only[bN,xO,xw];omega) (l[i]'(by omega)) (by rw[xb];simp[bN,xD (show i<l.length by omega)]) (by omega) a X b c) (IO l d m (i+1) (by omega) a X b c)
noncomputable def W3(l:List Nat)(d:l.length<1000000):dJ Pg:=
 ⟨26,aJ Pg 15 4,TL l 0,fun _=>[], .exit 0,[],fun _=>[],fun a X b c=>(IO l d l.length 0 (by omega) a X b c).aw⟩
theorem IP(l:List Nat)(a:l.length<1000000):aF Pg 15 [.ro (bN l), .ro (bN l)] [.bool true]:=
 qV {loops:=fun g q=>if g=15 then (if q=4 then some (W3 l a)else none)else none,hint:=qT 15 [(10,hB Pg (((bN l).length:Int) !=((bN l).length:Int)) false (by simp))]} 709297
abbrev fI(a b:List D):List (Nat×aE):=[(600156,⟨1,some (.arr 1 [.d (.ro a), .d (.ro b)])⟩),(600268,⟨1,some (.arr 1 [.d (.ro a), .d (.ro b)])⟩)]
abbrev tu(n i:Nat):List (Nat×AV):=[(2, .ptr 600156 1 0 0 1),(3, .ptr 600268 1 0 0 1),(28,dN n),(29,dN i)]
abbrev E1(n i m k:Nat):List (Nat×AV):=[(2, .ptr 600156 1 0 0 1),(3, .ptr 600268 1 0 0 1),(5,dN i),(28,dN n),(29,dN i),(50,dN m),(51,dN k)]
section
variable(a b:List D)
theorem IQ(n i m k:Nat)(h:decide (k<m)=false):RE 111 (lO 11 9) (E1 n i m k) (fI a b) (.exit 2) (tu n i) (fI a b):=
 qE {hint:=qT 11 [(52,dk Pg k m false h)]} 11 600000
theorem PL(n i m k:Nat)(r:List D)(h:decide (k<m)=true)(j:a[((i:Nat):Int).toNat]? =some (.ro r))(e:List UInt8)(f c d:Int)(g:r[((k:Nat):Int).toNat]? =some (.agg [.str e, .int .u8 f, .int .i64 c, .int .i64 d]))(l:k<1000000):RE 111 (lO 11 9) (E1 n i m k) (fI a b) .normal (E1 n i m (k+1)) (fI a b):=
 qE {hint:=qT 11 [(52,dk Pg k m true h),(57, .idx a ((i:Nat):Int) _ (by omega) j),(60, .idx r ((k:Nat):Int) _ (by omega) g),(65, .idx a ((i:Nat):Int) _ (by omega) j),(68, .idx r ((k:Nat):Int) _ (by omega) g),(70,hB Pg (!(e==e&&(f==f&&(c==c&&(d==d&&true))))) false (by simp)),(71,bj Pg k (by omega))]} 11 600000
theorem IR(n i:Nat)(h:decide (i<n)=false):RE 111 (lO 11 4) (tu n i) (fI a b) (.exit 0) [(2, .ptr 600156 1 0 0 1),(3, .ptr 600268 1 0 0 1)] (fI a b):=
 qE {hint:=qT 11 [(30,dk Pg i n false h)]} 11 600000
theorem PM(n i:Nat)(r:List D)(h:decide (i<n)=true)(d:a[((i:Nat):Int).toNat]? =some (.ro r))(k:i<1000000)(e:RL 111 (lO 11 9) (E1 n i r.length 0) (fI a b) (.exit 2) (tu n i) (fI a b)):RE 111 (lO 11 4) (tu n i) (fI a b) .normal (tu n (i+1)) (fI a b):=
 qE {loops:=fun g q=>if g=11 then (if q=9 then some ⟨111,aJ Pg 11 9,E1 n i r.length 0,fun _=>fI a b, .exit 2,tu n i,fun _=>fI a b,fun c X f j=>(e c X f j).aw⟩else none)else none,hint:=qT 11 [(30,dk Pg i n true h),(35, .idx a ((i:Nat):Int) _ (by omega) d),(41, .idx a ((i:Nat):Int) _ (by omega) d),(44,hB Pg ((r.length:Int) !=(r.length:Int)) false (by simp)),(48, .idx a ((i:Nat):Int) _ (by omega) d),(72,bj Pg i (by omega))]} 11 600000
abbrev us(n i:Nat):List (Nat×AV):=[(2, .ptr 600156 1 0 0 1),(3, .ptr 600268 1 0 0 1),(75,dN n),(76,dN i)]
theorem IS(n i:Nat)(h:decide (i<n)=false):RE 111 (lO 11 16) (us n i) (fI a b) (.exit 4) [] (fI a b):=
 qE {hint:=qT 11 [(77,dk Pg i n false h)]} 11 600000
theorem PN(n i:Nat)(fn:Int)(S U:List Nat)(h:decide (i<n)=true)(c:b[((i:Nat):Int).toNat]? =some (.agg [.int .i64 fn, .ro (bN S), .ro (bN U)]))(f:i<1000000000)(d:aF Pg 15 [.ro (bN S), .ro (bN S)] [.bool true])(e:aF Pg 15 [.ro (bN U), .ro (bN U)] [.bool true]):RE 111 (lO 11 16) (us n i) (fI a b) .normal (us n (i+1)) (fI a b):=
 qE {hint:=qT 11 [(77,dk Pg i n true h),(82, .idx b ((i:Nat):Int) _ (by omega) c),(87, .idx b ((i:Nat):Int) _ (by omega) c),(93,hB Pg (fn !=fn) false (by simp)),(99, .call 15 _ _ d),(107, .call 15 _ _ e),(110,bj Pg i (by omega))]} 11 600000
theorem W4(f:RL 111 (lO 11 4) (tu a.length 0) (fI a b) (.exit 0) [(2, .ptr 600156 1 0 0 1),(3, .ptr 600268 1 0 0 1)] (fI a b))
    (h2:RL 111 (lO 11 16) (us b.length 0) (fI a b) (.exit 4) [] (fI a b)):aF Pg 11 [.agg [.ro a, .ro b], .agg [.ro a, .ro b]] [.bool true]:=
 qV {loops:=fun g q=>if g=11 then (if q=4 then some ⟨111,aJ Pg 11 4,tu a.length 0,fun _=>fI a b, .exit 0,[(2, .ptr 600156 1 0 0 1),(3, .ptr 600268 1 0 0 1)],fun _=>fI a b,fun c X d e=>(f c X d e).aw⟩else if q=16 then some ⟨111,aJ Pg 11 16,us b.length 0,fun _=>fI a b, .exit 4,[],fun _=>fI a b,fun c X d e=>(h2 c X d e).aw⟩else none)else none,hint:=qT 11 [(16,hB Pg ((a.length:Int) !=(a.length:Int)) false (by simp)),(24,hB Pg ((b.length:Int) !=(b.length:Int)) false (by simp))]} 600154
end
end Go.Avm
