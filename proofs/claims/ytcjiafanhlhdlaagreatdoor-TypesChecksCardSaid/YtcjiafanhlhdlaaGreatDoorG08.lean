/-
  Types: both checkers say the same of statements (plain).
-/
import Derived.Test.YtcjiafanhlhdlaaGreatDoorG07
set_option linter.unusedVariables false
set_option linter.unusedSimpArgs false
set_option linter.unusedSectionVars false
namespace Go.Avm
theorem lh(fs:List Fn)(fn:Nat)(own:Bool)(x:aP){c:WS}{s:LS}(h:(c.w.e==0)=false):cK fs fn own x c s=(c,s):=by
 obtain⟨k,id,nm,ty,n,p,es,bd,a⟩:=x;unfold cK;rw[h];rfl
theorem dU(fs:List Fn)(fn:Nat)(own:Bool):∀(l:List aP)(a:Bool){c:WS}{s:LS},(c.w.e==0)=false→bc fs fn own a l c s=(c,s)
 |[],_,_,_,_=>by simp only[bc]
 |x::r,a,c,s,h=>by
  have e:(bif a then {c with w:=c.w.fail (Lw x) 11}else c)=c:=by
   cases a
   ·rfl
   ·simp only[xW,dh h]
  simp only[bc,e,lh fs fn own x h];exact dU fs fn own r (eQ x) h
theorem tT{x:Nat}:∀{l:List (Nat×Nat)}{j:Nat},(bQ x l j).isSome=l.any (·.1==x)
 |[],_=>rfl
 |e::r,j=>by
  simp only[bQ,yn];have a:(x==e.1)=(e.1==x):=by rw[Bool.eq_iff_iff];simp only[yI];exact eq_comm
  rw[a];cases (e.1==x)with
  |true=>rfl
  |false=>exact tT
theorem p9(q:SureL)(i:Nat):q.has i=q.l.any (·.1==i):=tT
theorem qc(q:SureL)(n i:Nat):(q.put n).has i=(n==i||q.has i):=by
 unfold SureL.put;cases h:q.has n with
 |true=>
  simp only[xW];cases a:(n==i)with
  |false=>rfl
  |true=>rw[←eq_of_beq a,h];rfl
 |false=>
  simp only[xP,p9,List.any_append,yn,List.any_nil,Bool.or_false];exact Bool.or_comm _ _
theorem F0(a b:SureL)(i:Nat):(a.both b).has i=(a.has i&&b.has i):=by
 rw[p9,p9 a];unfold SureL.both;simp only;induction a.l with
 |nil=>rfl
 |cons e r d=>
  rw[List.filter_cons];cases f:b.has e.1 with
  |true=>
   simp only[yn,yS,d];cases c:(e.1==i)with
   |false=>rfl
   |true=>rw[←eq_of_beq c,f];simp
  |false=>
   simp only[yn,yl,yi,d];cases c:(e.1==i)with
   |false=>rfl
   |true=>rw[←eq_of_beq c,f];simp
theorem nL:∀(a b:List Bool),(kp a b).length=min a.length b.length
 |[],b=>by simp[kp]
 |_::_,[]=>by simp[kp]
 |x::a,y::b=>by simp[kp,nL a b,Nat.add_min_add_right]
theorem nM:∀(a b:List Bool)(i:Nat)(x y:Bool),a[i]? =some x→b[i]? =some y→(kp a b)[i]? =some (x&&y)
 |[],_,_,_,_,h,_=>by simp at h
 |_::_,[],_,_,_,_,h=>by simp at h
 |u::a,v::b,i,x,y,c,h2=>by
  cases i with
  |zero=>simp at c h2;simp[kp,c,h2]
  |succ i=>exact nM a b i x y (by simpa using c) (by simpa using h2)
theorem ve:∀(a x:List Bool),a.length≤x.length→iw a x=a ++List.replicate (x.length-a.length) false
 |[],[],_=>rfl
 |[],_::r,_=>by
  have:=ve [] r (xz _);simp only[iw,List.tail_nil,this,yG,xG,xS,Nat.sub_zero,List.replicate_succ]
 |_::_,[],h=>by simp at h
 |b::a,_::r,h=>by
  have:=ve a r (by simpa using h);simp only[iw,List.tail_cons,this,xk,xG,Nat.add_sub_add_right]
structure QS(c:CS)(ws:WS)(s:LS):Prop where
 v:ws.vars=c.vars
 p:ws.pts=c.pts
 w:ws.w.e=0
 len:s.seen.length=s.sure.length
 le:s.seen.length≤c.vars.length
 rl:Rl c.vars c.seen c.sure (s.longer c.vars.length)
structure CJ(c:CS):Prop extends CI c where
 sv:∀p∈c.sure.l,p.1<c.vars.length
theorem CJ.sl{c:CS}(h:CJ c):∀p∈c.seen,p.2<c.vars.length:=fun p hp=>by
 obtain⟨v,a,_⟩:=h.sn p hp;exact(xC.1 a).1
theorem Jq{l:eL}{n i:Nat}(h:∀p∈l,p.2<n)(a:n≤i):(l.any (·.2==i))=false:=by
 rw[List.any_eq_false];intro p hp e;have:=h p hp;rw[eq_of_beq e]at this;omega
theorem CT{q:SureL}{n i:Nat}(h:∀p∈q.l,p.1<n)(a:n≤i):q.has i=false:=by
 rw[p9,List.any_eq_false];intro p hp e;have:=h p hp;rw[eq_of_beq e]at this;omega
theorem dV{s:LS}{n:Nat}(a:s.seen.length=s.sure.length)(h:s.seen.length≤n):(s.longer n).seen.length=n∧(s.longer n).sure.length=n:=by
 simp only[LS.longer,xK,List.length_replicate];omega
theorem px{s:LS}{n:Nat}(h:s.seen.length=n):s.longer n=s:=by
 simp only[LS.longer,h,zM,List.replicate_zero,yC]
theorem mq{s:LS}{n m:Nat}(a:s.seen.length=s.sure.length)(h:s.seen.length≤n)(hm:n≤m):(s.longer n).longer m=s.longer m:=by
 have:=dV a h;simp only[LS.longer]at this ⊢;rw[this.1];simp only[xa,List.replicate_append_replicate];rw[show n-s.seen.length+(m-n)=m-s.seen.length by omega]
theorem rL(a:List Bool)(k i:Nat):(a ++List.replicate k false)[i]? =if i<a.length then a[i]? else if i<a.length+k then some false else none:=by
 split
 ·rename_i h
  rw[xQ h]
 ·rename_i h
  rw[xV (by omega),List.getElem?_replicate];by_cases h2:i<a.length+k
  ·rw[xf h2,xf (by omega)]
  ·rw[xo h2,xo (by omega)]
theorem Rl.longer{a vars':List Vr}{sl:eL}{q:SureL}{s:LS}(r:Rl a sl q s)(h:a.length≤vars'.length)(d:∀p∈sl,p.2<a.length)(c:∀p∈q.l,p.1<a.length):Rl vars' sl q (s.longer vars'.length) where
 ls:=(dV (r.ls.trans r.lq.symm) (by rw[r.ls];exact h)).1
 lq:=(dV (r.ls.trans r.lq.symm) (by rw[r.ls];exact h)).2
 seen:=fun i b=>by
  simp only[LS.longer,rL,r.ls];split
  ·exact r.seen i ‹_›
  ·rw[xf (by omega),Jq d (by omega)]
 sure:=fun i b=>by
  simp only[LS.longer,rL,r.ls,r.lq];split
  ·exact r.sure i ‹_›
  ·rw[xf (by omega),CT c (by omega)]
theorem iy:∀(l:List Bool)(i k:Nat),k∈cE i l↔i≤k∧l[k-i]? =some true
 |[],i,k=>by simp[cE]
 |b::r,i,k=>by
  have a:=iy r (i+1) k;have e:cE i (b::r)=(bif b then i::cE (i+1) r else cE (i+1) r):=rfl;rw[e];by_cases c:i=k
  ·subst c
   cases b
   ·simp only[xP,a,zM,xj]
    constructor
    ·intro h;omega
    ·rintro⟨_,h⟩;cases h
   ·simp
  ·have:i≤k∧(b::r)[k-i]? =some true↔i+1≤k∧r[k-(i+1)]? =some true:=by
     constructor
     ·rintro⟨d,h2⟩
      refine⟨by omega, ?_⟩;rw[show k-i=(k-(i+1))+1 by omega]at h2;simpa using h2
     ·rintro⟨d,h2⟩
      refine⟨by omega, ?_⟩;rw[show k-i=(k-(i+1))+1 by omega];simpa using h2
   rw[this,←a];cases b with
   |false=>rfl
   |true=>simp only[xW,x0];constructor
          ·rintro(h|h)
           ·exact absurd h.symm c
           ·exact h
          ·exact .inr
theorem jY:∀(l:List Bool)(i:Nat),(cE i l).Pairwise (· < ·)
 |[],_=>by simp[cE]
 |b::r,i=>by
  have e:cE i (b::r)=(bif b then i::cE (i+1) r else cE (i+1) r):=rfl;rw[e];cases b with
  |false=>exact jY r (i+1)
  |true=>
   simp only[xW,List.pairwise_cons];refine⟨fun k a=> ?_,jY r (i+1)⟩;have:=(iy r (i+1) k).1 a;omega
theorem vg:∀{a b:List Nat},a.Pairwise (· < ·)→b.Pairwise (· < ·)→(∀k,k∈a↔k∈b)→a=b
 |[],[],_,_,_=>rfl
 |[],y::b,_,_,h=>by have:=(h y).2 (by simp);cases this
 |x::a,[],_,_,h=>by have:=(h x).1 (by simp);cases this
 |x::a,y::b,f,g,h=>by
  rw[List.pairwise_cons]at f g
  have i:x=y:=by
   have c:=(h x).1 (by simp);have h2:=(h y).2 (by simp);rcases x0.1 c with c|c
   ·exact c
   ·rcases x0.1 h2 with h2|h2
    ·exact h2.symm
    ·have:=g.1 x c
     have:=f.1 y h2;omega
  subst i;refine congrArg (x:: ·) (vg f.2 g.2 fun k=> ?_);constructor
  ·intro d
   have:=f.1 k d;rcases x0.1 ((h k).1 (by simp[d]))with e|e
   ·omega
   ·exact e
  ·intro d
   have:=g.1 k d;rcases x0.1 ((h k).2 (by simp[d]))with e|e
   ·omega
   ·exact e
theorem Qp{c:CS}(h:CJ c){s:LS}(r:Rl c.vars c.seen c.sure s)(fn:Nat):s.pt fn=c.pt fn:=by
 have hm:∀k,k∈cE 0 s.seen↔k∈c.seen.map (·.2):=fun k=>by
  rw[iy];simp only[xz,zQ,Nat.sub_zero];constructor
  ·intro b
   have a:k<c.vars.length:=by rw[←r.ls];exact(xC.1 b).1
   rw[r.seen k a]at b;obtain⟨p,hp,e⟩:=yP.1 (Option.some.inj b);exact x9.2 ⟨p,hp,eq_of_beq e⟩
  ·intro b
   obtain⟨p,hp,rfl⟩:=x9.1 b;rw[r.seen _ (h.sl p hp)];congr 1;exact yP.2 ⟨p,hp,by simp⟩
 unfold LS.pt CS.pt;congr 1
 ·exact vg (jY _ _) h.inc hm
 ·refine vg (jY _ _) (h.inc.filter _) fun k=> ?_
  rw[iy,ym,←hm k,iy];simp only[xz,zQ,Nat.sub_zero];constructor
  ·intro b
   have a:=(xC.1 b).1;rw[nL,r.ls,r.lq,Nat.min_self]at a;rw[nM _ _ k _ _ (r.seen k a) (r.sure k a)]at b;have:=Option.some.inj b;rw[xJ]at this;exact⟨by rw[r.seen k a,this.1],this.2⟩
  ·rintro⟨d,h2⟩
   have a:k<c.vars.length:=by rw[←r.ls];exact(xC.1 d).1
   rw[nM _ _ k _ _ d (r.sure k a),h2];rfl
end Go.Avm
