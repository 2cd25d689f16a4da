/-
  Types: statements among other functions are right as they are alone (plain).
-/
import Derived.Test.YtcjiafanhlhdlaaGreatDoorG13
import Derived.Test.YtcjiafanhlhdlaaGreatDoorG11
import Derived.Test.YtcjiafanhlhdlaaGreatDoorG08
import Derived.Test.YtcjiafanhlhdlaaGreatDoorRows
import Derived.Test.YtcjiafanhlhdlaaGreatDoorG12
import Derived.Laws.StandIn
import Derived.LaidMore
import Derived.LaidSub
import Derived.Lay
import Derived.MakeChecks
import Derived.ChangeMaps5
import Derived.Lib.LaidTab
import Derived.Stop.LaidErr
import Derived.ChangeSlices
import Derived.OpenShut
import Derived.Deep.Slices
set_option linter.unusedVariables false
set_option linter.unusedSimpArgs false
set_option linter.unusedSectionVars false
namespace Go.Avm
open Go.Proofs
def TQ{α β:Type}(Q:α→β→Prop)(r:TR α)(r':TR β):Prop:=∀a,r= .ok a→r'= .out∨∃a',r'= .ok a'∧Q a a'
section
variable{α β γ δ:Type}{Q:α→β→Prop}{Q2:γ→δ→Prop}{r X Y:TR α}{r' X' Y':TR β}{f:α→TR γ}{f':β→TR δ}
theorem TQ.bind(h:TQ Q r r')(hf:∀a a',Q a a'→TQ Q2 (f a) (f' a')):TQ Q2 (r.bind f) (r'.bind f'):=fun b e=>by
 cases r with
 |ok a=>
  rcases h a rfl with rfl|⟨a',rfl,hq⟩
  ·exact .inl rfl
  ·exact hf a a' hq b e
 |bad p q=>cases e
 |out=>cases e
theorem TQ.ok{a:α}{a':β}(h:Q a a'):TQ Q (.ok a) (.ok a'):=fun b e=>by cases e;exact .inr ⟨a',rfl,h⟩
theorem TQ.bad{p e:Int}:TQ Q (.bad p e) r':=fun b e=>by cases e
theorem TQ.nout:TQ Q .out r':=fun b e=>by cases e
theorem TQ.outR:TQ Q r .out:=fun _ _=> .inl rfl
theorem TQ.bif{c:Bool}(hX:TQ Q X X')(hY:TQ Q Y Y'):TQ Q (bif c then X else Y) (bif c then X' else Y'):=by cases c<;>assumption
end
def KB(fs fs':List Fn):Prop:=∀nm i f,bw nm fs 0=some (i,f)→∃i' f',bw nm fs' 0=some (i',f')∧f'.ps.map (·.ty)=f.ps.map (·.ty)∧f'.res=f.res
def vK(ex:Bool)(v:Vr):List UInt8×Int×Int×Int:=(v.nm,v.ty,v.n,bif ex then v.st else 0)
structure ER(ex:Bool)(E E':TE):Prop where
 fr:KB E.fs E'.fs
 vars:E'.vars.map (vK ex)=E.vars.map (vK ex)
 seen:E'.seen=E.seen
 sure:E'.sure=E.sure
theorem M0{ex:Bool}{l l':List Vr}(h:l'.map (vK ex)=l.map (vK ex))(i:Nat):(l'.getD i default).ty=(l.getD i default).ty:=by
 have hg:=congrArg (fun q=>q[i]?) h;simp only[List.getElem?_map]at hg;simp only[List.getD_eq_getElem?_getD];revert hg;cases l'[i]? with
 |none=>cases l[i]? with
  |none=>exact fun _=>rfl
  |some _=>exact fun hg=>by cases hg
 |some a=>cases l[i]? with
  |none=>exact fun hg=>by cases hg
  |some b=>
   intro hg;simp only[Option.map_some,Option.some.injEq]at hg;exact congrArg (·.2.1) hg
section
variable{ex:Bool}{E E':TE}(H:ER ex E E')
include H
theorem xa(nm:List UInt8)(p p':Int):TQ (fun r r'=>r'.1=r.1∧r'.2.ty=r.2.ty) (kf E nm p) (kf E' nm p'):=by
 unfold kf;rw[H.seen];cases eA nm E.seen 0 with
 |none=>exact .bad
 |some q=>exact .ok ⟨rfl,M0 H.vars _⟩
theorem xb(nm:List UInt8)(p p':Int):TQ (fun _ _=>True) (nc E nm p) (nc E' nm p'):=by
 unfold nc;exact(xa H nm p p').bind fun r r' h=>by rw[h.2];exact TQ.bif (.ok trivial) .bad
mutual
theorem xc:∀x x':Ex,lE false x'=lE false x→TQ (fun t t'=>t'=t) (dy E x) (dy E' x')
 | .mk k o nm n p xs, .mk k' o' nm' n' p' xs',h=>by
  simp only[lE,Ex.mk.injEq,cond_false]at h;obtain⟨rfl,rfl,rfl,rfl,_,hxs⟩:=h;have hl:xs'.length=xs.length:=by simpa [oD]using congrArg List.length hxs
  have W:=fun ts eq=>mj xs xs' ts eq hxs
  unfold dy;rw[hl];refine TQ.bif (.ok rfl) ?_;refine TQ.bif ((xa H _ _ _).bind fun r r' hr=>by rw[H.sure,hr.1,hr.2];exact TQ.bif (.ok rfl) .bad) ?_;refine TQ.bif ((xb H _ _ _).bind fun _ _ _=>(W _ _).bind fun _ _ _=> .ok rfl) ?_;refine TQ.bif ((xb H _ _ _).bind fun _ _ _=> .ok rfl) ?_;refine TQ.bif ?_ ?_
  ·cases hf:bw nm' E.fs 0 with
   |none=>exact .bad
   |some q=>
    obtain⟨i,f⟩:=q;obtain⟨i',f',h1,h2,h3⟩:=H.fr _ _ _ hf;have hpl:f'.ps.length=f.ps.length:=by simpa using congrArg List.length h2
    have hts:(f'.ps.map fun q=>[q.ty])=f.ps.map fun q=>[q.ty]:=by
     have:=congrArg (List.map fun t:Int=>[t]) h2;simpa [List.map_map,Function.comp_def]using this
    rw[h1];dsimp only;rw[hpl,hts,h3];exact TQ.bif ((W _ _).bind fun _ _ _=> .ok rfl) .bad
  ·refine TQ.bif (TQ.bif ((W _ _).bind fun _ _ _=> .ok rfl) ((W _ _).bind fun _ _ _=> .ok rfl)) (TQ.bif (TQ.bif .nout (TQ.bif ((W _ _).bind fun _ _ _=> .ok rfl) (TQ.bif ((W _ _).bind fun _ _ _=> .ok rfl) ((W _ _).bind fun _ _ _=> .ok rfl)))) (.ok rfl))
theorem mj:∀(xs xs':List Ex)(ts:List (List Int))(eq:Bool),b7 false xs'=b7 false xs→TQ (fun _ _=>True) (aB E xs ts eq) (aB E' xs' ts eq)
 |[],[],[],_,_=>by unfold aB;exact .ok trivial
 |[],[],_::_,_,_=>by unfold aB;exact .nout
 |[],_::_,_,_,h=>by simp only[b7]at h;cases h
 |_::_,[],_,_,h=>by simp only[b7]at h;cases h
 |_::_,_::_,[],_,_=>by unfold aB;exact .ok trivial
 |x::xs,x'::xs',ts::r,eq,h=>by
  simp only[b7,List.cons.injEq]at h;unfold aB;exact(xc x x' h.1).bind fun t t' e=>by rw[e];exact TQ.bif (mj xs xs' _ _ h.2) .bad
end
end
structure CR(ex:Bool)(A:List Pt)(e:Nat)(c c':CS):Prop where
 vars:c'.vars.map (vK ex)=c.vars.map (vK ex)
 seen:c'.seen=c.seen
 sure:c'.sure=c.sure
 pts:c'.pts.length=c.pts.length+e
 pre:∃Z,c'.pts=A ++Z
 exa:ex=true→c'.pts=c.pts
mutual
theorem A8(g:Int→Int):∀x:bu,kg (oE g x)=kg x
 | .mk k i nm ty n p es bd el=>by simp only[oE,kg,tU g bd,tU g el]
theorem tU(g:Int→Int):∀l:List bu,cU (dg g l)=cU l
 |[]=>rfl
 |[x]=>by simp only[dg,cU,A8 g x]
 |x::y::l=>by
  have:=tU g (y::l);simp only[dg,cU]at this ⊢;exact this
end
theorem JE{g g':Int→Int}{x x':bu}(h:oE g' x'=oE g x):kg x'=kg x:=by rw[←A8 g',h,A8]
theorem xe{g g':Int→Int}{l l':List bu}(h:dg g' l'=dg g l):cU l'=cU l:=by rw[←tU g',h,tU]
def gE(e:Nat)(x:Int):Int:=dD (x+e)
def KC(fs:List Fn)(fn:Nat)(deep k i:Int)(nm:List UInt8)(ty n p:Int)(es:List Ex)(bd el:List bu)(c:CS):TR CS:=
 bif k==1 then oB fs deep nm i ty n p es c
 else bif k==2 then (kf (c.te fs) nm p).bind fun r=>bif r.2.ty==3 then .bad p 8 else (aB (c.te fs) es [[r.2.ty]] false).bind fun _=> .ok {c with sure:=c.sure.put r.1}
 else bif k==3 then (nc (c.te fs) nm p).bind fun _=>(aB (c.te fs) es [[1],[1]] false).bind fun _=> .ok c
 else bif k==4 then (aB (c.te fs) es [[2]] false).bind fun _=>
  (aX fs fn (dD (deep+1)) false bd c).bind fun a=>
  (aX fs fn (dD (deep+1)) false el {a with seen:=c.seen,sure:=c.sure}).bind fun b=>
  .ok {b with seen:=c.seen,sure:=bif cU bd then b.sure else bif cU el then a.sure else a.sure.both b.sure}
 else bif k==5 then (aB (c.te fs) es [[2]] false).bind fun _=>
  (aX fs fn (dD (deep+1)) false bd c).bind fun a=> .ok {a with seen:=c.seen,sure:=c.sure}
 else bif k==6 then gR fs fn p es c
 else bif k==7 then (aB (c.te fs) es [[1,2]] false).bind fun _=> .ok c
 else bif k==8 then (match es with
  |[]=> .out
  |x::_=>(dy (c.te fs) x).bind fun _=> .ok c)
 else .ok c
theorem A9(fs:List Fn)(fn:Nat)(deep k i:Int)(nm:List UInt8)(ty n p:Int)(es:List Ex)(bd el:List bu)(c0:CS):dz fs fn deep (.mk k i nm ty n p es bd el) c0=bif i==(c0.pts.length:Int)&&decide (c0.pts.length<900000000)then KC fs fn deep k i nm ty n p es bd el {c0 with pts:=c0.pts ++[c0.pt fn]}else .out:=by
 rw[dz];rfl
section
variable{ex:Bool}{A:List Pt}{e:Nat}{fs fs':List Fn}(fr:KB fs fs'){fn fn':Nat}(hfn:∀f,fs[fn]? =some f→∃f',fs'[fn']? =some f'∧f'.res=f.res)(he:e≤100000000)(hex:ex=true→e=0∧fn'=fn)
theorem CR.te{c c':CS}(h:CR ex A e c c')(fr:KB fs fs'):ER ex (c.te fs) (c'.te fs'):=⟨fr,h.vars,h.seen,h.sure⟩
theorem CR.len{c c':CS}(h:CR ex A e c c'):c'.vars.length=c.vars.length:=by simpa using congrArg List.length h.vars
theorem CR.any{c c':CS}(h:CR ex A e c c')(nm:List UInt8):(c'.vars.any fun v=>v.nm==nm)=c.vars.any fun v=>v.nm==nm:=by
 have:=congrArg (fun l=>l.any fun q=>q.1==nm) h.vars;simpa [List.any_map,Function.comp_def,vK]using this
theorem CR.put{c c':CS}(h:CR ex A e c c')(i:Nat):CR ex A e {c with sure:=c.sure.put i} {c' with sure:=c'.sure.put i}:=⟨h.vars,h.seen,by dsimp only;rw[h.sure],h.pts,h.pre,h.exa⟩
theorem CR.set{c c' d d':CS}(h:CR ex A e c c')(hs:d'.seen=d.seen){q q':SureL}(hq:q'=q):CR ex A e {c with seen:=d.seen,sure:=q} {c' with seen:=d'.seen,sure:=q'}:=⟨h.vars,hs,hq,h.pts,h.pre,h.exa⟩
theorem CR.add{c c':CS}(h:CR ex A e c c'){v v':Vr}(hv:vK ex v'=vK ex v):CR ex A e (c.add v) (c'.add v'):=by
 refine⟨?_, ?_,h.sure,h.pts,h.pre,h.exa⟩
 ·simp only[CS.add,List.map_append,List.map_cons,List.map_nil,h.vars,hv]
 ·have:v'.nm=v.nm:=congrArg (·.1) hv
  simp only[CS.add,h.seen,h.len,this]
include fr he hex in
theorem JF{deep:Int}{nm:List UInt8}{i i' ty n p p':Int}{es es':List Ex}{c c':CS}(hes:b7 false es'=b7 false es)(hi:ex=true→i'=i)(h:CR ex A e c c'):TQ (CR ex A e) (oB fs deep nm i ty n p es c) (oB fs' deep nm i' ty n p' es' c'):=by
 have hl:es'.length=es.length:=by simpa [oD]using congrArg List.length hes
 have hm:(es'.map fun _=>[ty])=es.map fun _=>[ty]:=by simp only[List.map_const',hl]
 have hem:es'.isEmpty=es.isEmpty:=by cases es<;>cases es'<;>first|rfl|simp at hl
 have hv:vK ex ⟨nm,ty,n,i'⟩=vK ex ⟨nm,ty,n,i⟩:=by
  cases ex with
  |true=>rw[hi rfl]
  |false=>rfl
 unfold oB;rw[hl,hm,hem,h.any,h.len];refine TQ.bif .nout ((mj (h.te fr) _ _ _ _ hes).bind fun _ _ _=>TQ.bif .nout (TQ.bif .bad (TQ.bif .bad (TQ.bif .bad (TQ.bif .bad (.ok ?_))))));have ha:=h.add hv;cases (ty==3|| !es.isEmpty)with
 |true=>exact⟨ha.vars,ha.seen,by simp only[cond_true];rw[h.sure],ha.pts,ha.pre,ha.exa⟩
 |false=>exact ha
include fr hfn in
theorem Hg{p p':Int}{es es':List Ex}{c c':CS}(hes:b7 false es'=b7 false es)(h:CR ex A e c c'):TQ (CR ex A e) (gR fs fn p es c) (gR fs' fn' p' es' c'):=by
 unfold gR;cases hf:fs[fn]? with
 |none=>exact .nout
 |some f=>
  obtain⟨f',h1,h2⟩:=hfn f hf;rw[h1];dsimp only;rw[h2];cases es with
  |nil=>cases es' with
   |nil=>exact TQ.bif (.ok h) .bad
   |cons x l=>simp only[b7]at hes;cases hes
  |cons x l=>cases es' with
   |nil=>simp only[b7]at hes;cases hes
   |cons x' l'=>
    simp only[b7,List.cons.injEq]at hes;refine TQ.bif ((xc (h.te fr) x x' hes.1).bind fun _ _ _=> .bad) ?_;unfold b9;exact((xc (h.te fr) x x' hes.1).bind (Q2:=fun _ _=>True) fun t t' et=>by rw[et];exact TQ.bif (.ok trivial) .bad).bind fun _ _ _=> .ok h
theorem P7{x:Nat}(hx:x<900000000)(he:e≤100000000):gE e ((x:Nat):Int)=((x+e:Nat):Int):=by
 unfold gE dD;rw[IntWalk.i64_in _ (by omega)];omega
include fr hfn he hex
mutual
theorem M1:∀(x x':bu)(deep:Int)(c c':CS),oE id x'=oE (gE e) x→CR ex A e c c'→TQ (CR ex A e) (dz fs fn deep x c) (dz fs' fn' deep x' c')
 | .mk k i nm ty n p es bd el, .mk k' i' nm' ty' n' p' es' bd' el',deep,c0,c0',h,hc=>by
  simp only[oE,bu.mk.injEq,id_eq]at h;obtain⟨rfl,hi,rfl,rfl,rfl,_,hes,hbd,hel⟩:=h;rw[A9,A9];cases hb:(i==(c0.pts.length:Int)&&decide (c0.pts.length<900000000))with
  |false=>exact .nout
  |true=>
   simp only[Bool.and_eq_true,beq_iff_eq,decide_eq_true_eq]at hb;obtain⟨hi0,hlt⟩:=hb;have hi':i'=(c0'.pts.length:Int):=by rw[hi,hi0,P7 hlt he,hc.pts]
   have hii:ex=true→i'=i:=fun h=>by rw[hi',hc.exa h,hi0]
   cases hb':decide (c0'.pts.length<900000000)with
   |false=>simp only[hi',beq_self_eq_true,Bool.true_and,cond_false];exact .outR
   |true=>
    have h1:(i'==(c0'.pts.length:Int)&&true)=true:=by rw[hi'];simp
    rw[h1]
    have hc1:CR ex A e {c0 with pts:=c0.pts ++[c0.pt fn]} {c0' with pts:=c0'.pts ++[c0'.pt fn']}:=by
     refine⟨hc.vars,hc.seen,hc.sure, ?_, ?_,fun h=> ?_⟩
     ·simp only[List.length_append,hc.pts,List.length_cons,List.length_nil];omega
     ·obtain⟨Z,hZ⟩:=hc.pre
      exact⟨Z ++[c0'.pt fn'],by simp only[hZ,List.append_assoc]⟩
     ·have:c0'.pt fn'=c0.pt fn:=by simp only[CS.pt,hc.seen,hc.sure,(hex h).2]
      simp only[hc.exa h,this]
    rw[cond_true,cond_true];generalize ({c0 with pts:=c0.pts ++[c0.pt fn]}:CS)=c at hc1 ⊢;generalize ({c0' with pts:=c0'.pts ++[c0'.pt fn']}:CS)=c' at hc1 ⊢;have W:=fun ts=>mj (hc1.te fr) es es' ts false hes
    unfold KC;refine TQ.bif (JF fr he hex hes hii hc1) ?_
    refine TQ.bif ((xa (hc1.te fr) _ _ _).bind fun r r' hr=>by
     rw[hr.1,hr.2];exact TQ.bif .bad ((W _).bind fun _ _ _=> .ok (hc1.put _))) ?_
    refine TQ.bif ((xb (hc1.te fr) _ _ _).bind fun _ _ _=>(W _).bind fun _ _ _=> .ok hc1) ?_;refine TQ.bif ((W _).bind fun _ _ _=>(tV bd bd' _ false c c' hbd hc1).bind fun a a' ha=>(tV el el' _ false _ _ hel (ha.set hc1.seen hc1.sure)).bind fun b b' hb=> .ok ?_) ?_
    ·rw[xe hbd,xe hel]
     refine hb.set hc1.seen ?_;rw[hb.sure,ha.sure]
    refine TQ.bif ((W _).bind fun _ _ _=>(tV bd bd' _ false c c' hbd hc1).bind fun a a' ha=> .ok (ha.set hc1.seen hc1.sure)) ?_;refine TQ.bif (Hg fr hfn hes hc1) ?_;refine TQ.bif ((W _).bind fun _ _ _=> .ok hc1) ?_;refine TQ.bif ?_ (.ok hc1);cases es with
    |nil=>exact .nout
    |cons x l=>cases es' with
     |nil=>simp only[b7]at hes;cases hes
     |cons x' l'=>
      simp only[b7,List.cons.injEq]at hes;exact(xc (hc1.te fr) x x' hes.1).bind fun _ _ _=> .ok hc1
theorem tV:∀(l l':List bu)(deep:Int)(prev:Bool)(c c':CS),dg id l'=dg (gE e) l→CR ex A e c c'→TQ (CR ex A e) (aX fs fn deep prev l c) (aX fs' fn' deep prev l' c')
 |[],[],deep,prev,c,c',_,hc=>by unfold aX;exact .ok hc
 |[],_::_,_,_,_,_,h,_=>by simp only[dg]at h;cases h
 |_::_,[],_,_,_,_,h,_=>by simp only[dg]at h;cases h
 |x::l,x'::l',deep,prev,c,c',h,hc=>by
  simp only[dg,List.cons.injEq]at h;unfold aX;refine TQ.bif .bad ((M1 x x' deep c c' h.1 hc).bind fun a a' ha=> ?_);rw[JE h.1];exact tV l l' deep _ a a' h.2 ha
end
end
structure Tm(ex:Bool)(A:List Pt)(e:Nat)(q q':List Vr×List Pt):Prop where
 vars:ex=true→q'.1=q.1
 pts:q'.2.length=q.2.length+e
 pre:∃Z,q'.2=A ++Z
 exa:ex=true→q'.2=q.2
theorem Hh:∀(l l':List Vr),l'.map (vK true)=l.map (vK true)→l'=l
 |[],[],_=>rfl
 |[],_::_,h=>by cases h
 |_::_,[],h=>by cases h
 |a::l,b::l',h=>by
  simp only[List.map_cons,List.cons.injEq,vK,cond_true,Prod.mk.injEq]at h;obtain⟨⟨h1,h2,h3,h4⟩,h5⟩:=h;rw[Hh l l' h5];cases a;cases b;simp only at h1 h2 h3 h4;subst h1 h2 h3 h4;rfl
theorem Cp{ex:Bool}{A:List Pt}{e:Nat}:∀(ps ps':List Pm)(c c':CS),ps'.map (q7 false)=ps.map (q7 false)→CR ex A e c c'→CR ex A e (ps.foldl CS.par c) (ps'.foldl CS.par c')
 |[],[],_,_,_,h=>h
 |[],_::_,_,_,h,_=>by cases h
 |_::_,[],_,_,h,_=>by cases h
 |p::ps,p'::ps',c,c',h,hc=>by
  simp only[List.map_cons,List.cons.injEq,q7,Pm.mk.injEq]at h;obtain⟨⟨h1,h2,_⟩,h3⟩:=h;rw[List.foldl_cons,List.foldl_cons];refine Cp ps ps' _ _ (by simpa [q7]using h3) ?_;have ha:=hc.add (v:=Qr p) (v':=Qr p') (by simp only[vK,Qr,h1,h2]);exact⟨ha.vars,ha.seen,by simp only[CS.par];rw[hc.sure,hc.len],ha.pts,ha.pre,ha.exa⟩
section
variable{ex:Bool}{A:List Pt}{e:Nat}{fs fs':List Fn}(fr:KB fs fs')(he:e≤100000000)
include fr he in
theorem Hi{i i':Nat}(hfn:∀f,fs[i]? =some f→∃f',fs'[i']? =some f'∧f'.res=f.res)(hex:ex=true→e=0∧i'=i){f f':Fn}(hf:iz id f'=iz (gE e) f){pts pts':List Pt}(hp:pts'.length=pts.length+e)(hZ:∃Z,pts'=A ++Z)(hx:ex=true→pts'=pts):TQ (Tm ex A e) (ff fs i f pts) (ff fs' i' f' pts'):=by
 obtain⟨nm,ps,res,bd,p⟩:=f;obtain⟨nm',ps',res',bd',p'⟩:=f';simp only[iz,Fn.mk.injEq]at hf;obtain⟨rfl,hps,rfl,hbd,_⟩:=hf;have hc:CR ex A e ⟨[],[],⟨[],0⟩,pts⟩ ⟨[],[],⟨[],0⟩,pts'⟩:=⟨rfl,rfl,rfl,hp,hZ,hx⟩
 have hc:=Cp ps ps' _ _ hps hc;unfold ff dQ;dsimp only;rw[xe hbd];refine TQ.bind (Q:=CR ex A e) ((tV fr hfn he hex bd bd' 0 false _ _ hbd hc).bind fun a a' ha=> .ok ⟨ha.vars,hc.seen,ha.sure,ha.pts,ha.pre,ha.exa⟩) fun a a' ha=>TQ.bif (.ok ⟨fun h=> ?_,ha.pts,ha.pre,ha.exa⟩) .bad
 subst h;exact Hh _ _ ha.vars
theorem nl{tl:List Fn}(fr:KB fs fs')(he:e≤100000000):∀(r r':List Fn)(i i':Nat)(rows rows':List (List Vr))(pts pts':List Pt),r'.map (iz id)=r.map (iz (gE e))→fs.drop i=r→fs'.drop i'=r' ++tl→(ex=true→e=0∧i'=i∧rows'=rows)→pts'.length=pts.length+e→(∃Z,pts'=A ++Z)→(ex=true→pts'=pts)→∀q:List (List Vr)×List Pt,bp fs i r rows pts= .ok q→
    bp fs' i' (r' ++tl) rows' pts'= .out∨∃q':List (List Vr)×List Pt,Tm ex A e ([],q.2) ([],q'.2)∧(ex=true→q'.1=q.1)∧q'.1.length+rows.length=q.1.length+rows'.length∧bp fs' i' (r' ++tl) rows' pts'=bp fs' (i'+r.length) tl q'.1 q'.2
 |[],[],i,i',rows,rows',pts,pts',_,_,_,hex,hp,hZ,hx,q,h=>by
  cases h;exact .inr ⟨(rows',pts'),⟨fun _=>rfl,hp,hZ,hx⟩,fun h=>(hex h).2.2,Nat.add_comm _ _,rfl⟩
 |[],_::_,_,_,_,_,_,_,h,_,_,_,_,_,_,_,_=>by cases h
 |_::_,[],_,_,_,_,_,_,h,_,_,_,_,_,_,_,_=>by cases h
 |f::r,f'::r',i,i',rows,rows',pts,pts',hr,hd,hd',hex,hp,hZ,hx,q,h=>by
  simp only[List.map_cons,List.cons.injEq]at hr;have hi:fs[i]? =some f:=by rw[←List.head?_drop,hd];rfl
  have hi':fs'[i']? =some f':=by rw[←List.head?_drop,hd'];rfl
  have hres:f'.res=f.res:=by have:=hr.1;simp only[iz,Fn.mk.injEq]at this;exact this.2.2.1
  have hb:=Hi (A:=A) (ex:=ex) fr he (i:=i) (i':=i') (fun g hg=>by rw[hi]at hg;cases hg;exact⟨f',hi',hres⟩) (fun h=>⟨(hex h).1,(hex h).2.1⟩) hr.1 hp hZ hx;have hd2:fs.drop (i+1)=r:=by rw[←List.tail_drop,hd];rfl
  have hd2':fs'.drop (i'+1)=r' ++tl:=by rw[←List.tail_drop,hd'];rfl
  rw[List.cons_append,bp];rw[bp]at h;cases hq:ff fs i f pts with
  |bad p e=>rw[hq]at h;cases h
  |out=>rw[hq]at h;cases h
  |ok a=>
   rw[hq]at h;rcases hb a hq with h1|⟨a',h1,ha⟩
   ·rw[h1];exact .inl rfl
   ·rw[h1]
    have:=nl fr he r r' (i+1) (i'+1) (rows ++[a.1]) (rows' ++[a'.1]) a.2 a'.2 hr.2 hd2 hd2' (fun h=>⟨(hex h).1,by rw[(hex h).2.1],by rw[(hex h).2.2,ha.vars h]⟩) ha.pts ha.pre ha.exa q h;rcases this with h2|⟨q',g1,g2,g3,g4⟩
    ·exact .inl h2
    ·refine .inr ⟨q',g1,g2, ?_, ?_⟩
     ·simp only[List.length_append,List.length_cons,List.length_nil]at g3;omega
     ·rw[show i'+(f::r).length=i'+1+r.length by simp only[List.length_cons];omega]
      exact g4
end
end Go.Avm
namespace Go.Avm
open Go.Proofs
theorem Cq{s:List UInt8}:∀(ts:List (Nat×jn))(a:Nat),JC s a ts→∀x∈ts,x.2.1≠0
 |[],_,_,x,hx=>by cases hx
 |y::ts,a,h,x,hx=>by
  obtain⟨_,_,_,h4,_,h6⟩:=h;rcases List.mem_cons.1 hx with rfl|hx
  ·exact h4
  ·exact Cq ts _ h6 x hx
theorem xf(P us us':List (Nat×jn))(n n':Nat)(h:us'.map (·.2)=us.map (·.2)):∀i,i≤us.length→yx ((ax (P ++us') n').getD (P.length+i) default)=yx ((ax us n).getD i default):=fun i hi=>by
 have hl:us'.length=us.length:=by simpa using congrArg List.length h
 simp only[ax,List.getD_eq_getElem?_getD,List.map_append,List.append_assoc];rw[List.getElem?_append_right (by simp),List.length_map,Nat.add_sub_cancel_left];rcases Nat.lt_or_eq_of_le hi with hi|hi
 ·rw[List.getElem?_append_left (by simp;omega),List.getElem?_append_left (by simp;omega),List.getElem?_map,List.getElem?_map]
  have hg:=congrArg (fun l:List jn=>l[i]?) h;simp only[List.getElem?_map]at hg;rw[List.getElem?_eq_getElem hi,List.getElem?_eq_getElem (show i<us'.length by omega)]at hg ⊢;simp only[Option.map_some,Option.some.injEq]at hg;simp only[Option.map_some,Option.getD_some,yx,SH,hg]
 ·subst hi
  rw[List.getElem?_append_right (by simp;omega),List.getElem?_append_right (by simp)];simp only[List.length_map,hl,Nat.sub_self];rfl
theorem Hj{us:List (Nat×jn)}{n:Nat}(h:∀x∈us,x.2.1≠0):∀i,i<us.length→((ax us n).getD i default).k≠0:=fun i hi=>by
 simp only[ax,List.getD_eq_getElem?_getD];rw[List.getElem?_append_left (by simpa using hi),List.getElem?_map,List.getElem?_eq_getElem hi];exact h _ (List.getElem_mem hi)
theorem xg(us:List (Nat×jn))(n:Nat):((ax us n).getD us.length default).k=0:=by
 simp only[ax,List.getD_eq_getElem?_getD];rw[List.getElem?_append_right (by simp)];simp
theorem KD{P us us':List (Nat×jn)}{n n':Nat}(e:Int)(h:us'.map (·.2)=us.map (·.2))(hz:∀x∈us,x.2.1≠0):Nm (ax us n) (ax (P ++us') n') ⟨P.length,e,us.length⟩:=
 ⟨fun i hi=> .inl (xf P us us' n n' h i hi),xg us n,Hj hz⟩
theorem M2{us vs:List (Nat×jn)}{v:Nat}{n n':Nat}(hz:∀x∈us,x.2.1≠0):Nm (ax us n) (ax (us ++((v,(2,HI,0))::vs)) n') ⟨0,0,us.length⟩:=by
 refine⟨fun i hi=> ?_,xg us n,Hj hz⟩;rcases Nat.lt_or_eq_of_le hi with l|l
 ·refine .inl ?_
  dsimp only at l;simp only[ax,List.getD_eq_getElem?_getD,Nat.zero_add];rw[List.getElem?_append_left (by simp;omega),List.getElem?_append_left (by simpa using l),List.map_append,List.getElem?_append_left (by simpa using l)]
 ·refine .inr ?_
  dsimp only at l ⊢;subst l;refine⟨xg us n, ?_⟩
  have:(ax (us ++((v,(2,HI,0))::vs)) n').getD (0+us.length) default=⟨2,(v:Int),HI,0⟩:=by
   simp only[ax,List.getD_eq_getElem?_getD,Nat.zero_add];rw[List.getElem?_append_left (by simp),List.map_append,List.getElem?_append_right (by simp),List.length_map,Nat.sub_self];rfl
  rw[this];exact⟨rfl,rfl⟩
theorem tW{L:List T}{n:Nat}{l:List Fn}{s:RS}(h:cT L n= .ok l s):fA L n (n+1) [] ⟨0,0,0⟩= .ok l s:=by
 rw[fA];cases hk:((bt L ⟨0,0,0⟩).k==0)with
 |false=>exact h
 |true=>
  exfalso
  have hi:isT L ⟨0,0,0⟩ [102,110]=false:=by
   unfold isT;rw[eq_of_beq hk];rfl
  unfold cT qg aE at h;rw[hi]at h;cases h
def HO:Fn:=⟨[122,122,57],[⟨[97],1,7⟩],1,[.mk 1 1 [98] 1 0 22 [.mk 3 0 [97] 0 35 []] [] [], .mk 6 2 [] 0 0 38 [.mk 3 0 [98] 0 45 []] [] []],0⟩
theorem KE(R:List (Nat×jn))(n m:Nat):qg (ax (dC 0 ++R) n) (m+60) ⟨0,0,0⟩= .ok HO ⟨21,0,2⟩:=by kernel_rfl
theorem P8:∀x∈dC 0,x.2.1≠0:=by unfold dC;simp
theorem Cr{L:List T}{N n:Nat}{r:List Fn}{s:RS}(h:(bt L s).k=0):fA L N (n+1) r s= .ok r s:=by rw[fA,h];rfl
theorem Ba{ts ts':List (Nat×jn)}(hz:∀x∈ts,x.2.1≠0)(ha:ts'.map (·.2)=ts.map (·.2)){n n':Nat}{l:List Fn}{s:RS}(h:cT (ax ts n) (fuel (ax ts n))= .ok l s):
    ∃z l' s',cT (ax (dC 0 ++ts') n') (fuel (ax (dC 0 ++ts') n'))= .ok (z::l') s'∧iz id z=iz id HO∧l'.map (iz id)=l.map (iz (gE 2)):=by
 have hl:ts'.length=ts.length:=by simpa using congrArg List.length ha
 have A:=KD (P:=dC 0) (n:=n) (n':=n') 2 ha hz
 have hF:fuel (ax (dC 0 ++ts') n')=fuel (ax ts n)+84:=by
  simp only[fuel,ax,List.length_append,List.length_map,hl,dC,List.length_cons,List.length_nil];omega
 have h60:fuel (ax ts n)+84=4*ts.length+29+60:=by
  simp only[fuel,ax,List.length_append,List.length_map,List.length_cons,List.length_nil];omega
 rw[hF];generalize hN:fuel (ax ts n)=N at*;obtain⟨g1,n2,r2,g2,g3,g4⟩:=Az A (N:=N) (N':=N+84) (by omega) [iz id HO] (N+1) (N+84) [] [HO] ⟨0,0,0⟩ (by omega) (Nat.zero_le _) rfl (tW h);have hs:Shf.s ⟨(dC 0).length,2,ts.length⟩ ⟨0,0,0⟩=⟨21,0,2⟩:=rfl;rw[hs]at g4
 have he:(bt (ax (dC 0 ++ts') n') (Shf.s ⟨(dC 0).length,2,ts.length⟩ s)).k=0:=by
  have:=qh (xf (dC 0) ts ts' n n' ha ts.length (Nat.le_refl _));rw[xg ts n]at this;unfold bt Shf.s;dsimp only at g1 ⊢;rw[g1];exact this
 obtain⟨n2,rfl⟩:∃x,n2=x+1:=⟨n2-1,by omega⟩
 rw[Cr he]at g4
 have e:cT (ax (dC 0 ++ts') n') (N+84)= .ok r2 (Shf.s ⟨(dC 0).length,2,ts.length⟩ s):=by
  unfold cT;have:=KE ts' n' (4*ts.length+29);rw[←h60]at this;rw[this];exact g4
 cases r2 with
 |nil=>cases g3
 |cons z l'=>
  simp only[List.map_cons,List.cons_append,List.nil_append,List.cons.injEq]at g3;exact⟨z,l',_,e,g3.1,g3.2⟩
theorem DG{ts:List (Nat×jn)}{a:Nat}(hz:∀x∈ts,x.2.1≠0){n n':Nat}{l:List Fn}{s:RS}(h:cT (ax ts n) (fuel (ax ts n))= .ok l s):
    ∃(z:Fn)(l':List Fn)(s':RS)(e:Int),cT (ax (ts ++dC a) n') (fuel (ax (ts ++dC a) n'))= .ok (l' ++[z]) s'∧iz id z=iz (fun x=>dD (x+e)) HO∧l'.map (iz id)=l.map (iz (gE 0)):=by
 have ha:(dC a).map (·.2)=(dC 0).map (·.2):=rfl
 have hF:fuel (ax (ts ++dC a) n')=fuel (ax ts n)+84:=by
  simp only[fuel,ax,List.length_append,List.length_map,dC,List.length_cons,List.length_nil];omega
 have h60:fuel (ax ts n)+84=4*ts.length+29+60:=by
  simp only[fuel,ax,List.length_append,List.length_map,List.length_cons,List.length_nil];omega
 have hop:=H7 (ax ts n) h;have A1:Nm (ax ts n) (ax (ts ++dC a) n') ⟨0,0,ts.length⟩:=M2 hz;have A2:=KD (P:=ts) (us:=dC 0) (us':=dC a) (n:=0) (n':=n') s.n ha P8;rw[hF];generalize hN:fuel (ax ts n)=N at*;obtain⟨g1,n2,r2,g2,g3,g4⟩:=Az A1 (N:=N) (N':=N+84) (by omega) [] (N+1) (N+84+1) [] [] ⟨0,0,0⟩ (by omega) (Nat.zero_le _) rfl (tW h);have hs0:Shf.s ⟨0,0,ts.length⟩ ⟨0,0,0⟩=⟨0,0,0⟩:=rfl;rw[hs0]at g4;have hz0:=KE [] 0 20;rw[List.append_nil]at hz0;obtain⟨g5,z,g6,g7⟩:=J0 A2 80 (N+84) (by omega) ⟨0,0,0⟩ (Nat.zero_le _) _ _ hz0
 have hs1:Shf.s ⟨0,0,ts.length⟩ s=Shf.s ⟨ts.length,s.n,(dC 0).length⟩ ⟨0,0,0⟩:=by
  unfold Shf.s;dsimp only at g1 ⊢;rw[g1,hop,Nat.zero_add,Int.add_zero,Int.zero_add];rfl
 obtain⟨n2,rfl⟩:∃x,n2=x+2:=⟨n2-2,by omega⟩
 have hk1:(bt (ax (ts ++dC a) n') (Shf.s ⟨0,0,ts.length⟩ s)).k=2:=by
  have:=qh (xf ts (dC 0) (dC a) 0 n' ha 0 (Nat.zero_le _));rw[hs1];exact this
 have hk2:(bt (ax (ts ++dC a) n') (Shf.s ⟨ts.length,s.n,(dC 0).length⟩ ⟨21,0,2⟩)).k=0:=by
  have:=qh (xf ts (dC 0) (dC a) 0 n' ha 21 (Nat.le_refl _));exact this
 have e:cT (ax (ts ++dC a) n') (N+84)= .ok (r2 ++[z]) (Shf.s ⟨ts.length,s.n,(dC 0).length⟩ ⟨21,0,2⟩):=by
  have e1:fA (ax (ts ++dC a) n') (N+84) (n2+2) r2 (Shf.s ⟨0,0,ts.length⟩ s)= .ok (r2 ++[z]) (Shf.s ⟨ts.length,s.n,(dC 0).length⟩ ⟨21,0,2⟩):=by
   rw[fA,hk1];have:((2:Int)==0)=false:=rfl;rw[this,cond_false,hs1,g6];exact Cr hk2
  rw[e1]at g4
  have hk0:((bt (ax (ts ++dC a) n') ⟨0,0,0⟩).k==0)=false:=by
   have hh:=tW h;cases hts:ts with
   |nil=>rfl
   |cons x r=>
    have:=hz x (by rw[hts];exact List.mem_cons_self);exact beq_eq_false_iff_ne.2 this
  rw[fA,hk0,cond_false]at g4;exact g4
 rw[List.nil_append]at g3;exact⟨z,r2,_,s.n,e,g7,g3⟩
theorem tX{s:List UInt8}{l:List Fn}(h:gV s= .ok l):s.length≤20000∧∃ts s',eE s= .ok ts∧(∀x∈ts,x.2.1≠0)∧cT (ax ts s.length) (fuel (ax ts s.length))= .ok l s':=by
 unfold gV at h;by_cases hl:20000<s.length
 ·rw[if_pos hl]at h;cases h
 ·rw[if_neg hl]at h
  refine⟨by omega, ?_⟩;cases hs:eE s with
  |error q=>rw[hs]at h;cases h
  |ok ts=>
   rw[hs]at h;dsimp only at h;cases hp:cT (ax ts s.length) (fuel (ax ts s.length))with
   |bad p e s'=>rw[hp]at h;cases h
   |out=>rw[hp]at h;cases h
   |ok l2 s'=>
    rw[hp]at h;cases h;exact⟨ts,s',rfl,Cq ts 0 (A6 hs),hp⟩
theorem Cs{s:List UInt8}{ts:List (Nat×jn)}{l:List Fn}{s':RS}(hl:s.length≤20000)(h:eE s= .ok ts)(hp:cT (ax ts s.length) (fuel (ax ts s.length))= .ok l s'):gV s= .ok l:=by
 unfold gV;rw[if_neg (by omega),h];dsimp only;rw[hp]
theorem Ct:kv.length=49:=rfl
theorem Bb{s:List UInt8}{l:List Fn}(hs:s.length≤3000)(h:gV s= .ok l):∃z l',gV (kv ++s)= .ok (z::l')∧iz id z=iz id HO∧l'.map (iz id)=l.map (iz (gE 2)):=by
 obtain⟨_,ts,s',h1,h2,h3⟩:=tX h;obtain⟨z,l',s2,g1,g2,g3⟩:=Ba (ts':=ts.map fun x=>(49+x.1,x.2)) (n':=(kv ++s).length) h2 (by rw[List.map_map];rfl) h3;exact⟨z,l',Cs (by rw[List.length_append,Ct];omega) (zq h1) g1,g2,g3⟩
theorem DH{s:List UInt8}{l:List Fn}(hs:s.length≤3000)(h:gV s= .ok l):∃z l' e,gV (s ++10::kv)= .ok (l' ++[z])∧iz id z=iz (fun x=>dD (x+e)) HO∧l'.map (iz id)=l.map (iz (gE 0)):=by
 obtain⟨_,ts,s',h1,h2,h3⟩:=tX h;obtain⟨z,l',s2,e,g1,g2,g3⟩:=DG (a:=s.length+1) (n':=(s ++10::kv).length) h2 h3;exact⟨z,l',e,Cs (by rw[List.length_append,List.length_cons,Ct];omega) (A7 h1) g1,g2,g3⟩
end Go.Avm
namespace Go.Avm
open Go.Proofs
def DS:List UInt8:=[122,122,57]
theorem fh{g:Int→Int}{f f':Fn}(h:iz id f'=iz g f):f'.nm=f.nm∧f'.ps.map (q7 false)=f.ps.map (q7 false)∧f'.res=f.res:=by
 simp only[iz,Fn.mk.injEq]at h;exact⟨h.1,h.2.1,h.2.2.1⟩
theorem KF{l l':List Pm}(h:l'.map (q7 false)=l.map (q7 false)):l'.map (·.ty)=l.map (·.ty):=by
 have:=congrArg (List.map (·.ty)) h;simpa [List.map_map,Function.comp_def,q7]using this
theorem lS{g:Int→Int}(x:List UInt8):∀(l l':List Fn)(i i':Nat),l'.map (iz id)=l.map (iz g)→match bw x l i with
    |none=>bw x l' i'=none
    |some q=>∃j' f',bw x l' i'=some (j',f')∧iz id f'=iz g q.2
 |[],[],_,_,_=>rfl
 |[],_::_,_,_,h=>by cases h
 |_::_,[],_,_,h=>by cases h
 |f::l,f'::l',i,i',h=>by
  simp only[List.map_cons,List.cons.injEq]at h;have hn:=(fh h.1).1;simp only[bw,hn];cases (x==f.nm)with
  |true=>exact⟨i',f',rfl,h.1⟩
  |false=>exact lS x l l' (i+1) (i'+1) h.2
theorem pL(x:List UInt8):∀(l m:List Fn)(i:Nat),bw x (l ++m) i=match bw x l i with
    |some q=>some q
    |none=>bw x m (i+l.length)
 |[],m,i=>rfl
 |f::l,m,i=>by
  simp only[List.cons_append,bw];cases (x==f.nm)with
  |true=>rfl
  |false=>
   simp only[cond_false];rw[pL x l m (i+1),show i+1+l.length=i+(f::l).length by simp only[List.length_cons];omega]
theorem pM{x:List UInt8}:∀{l:List Fn}{i j:Nat}{f:Fn},bw x l i=some (j,f)→f∈l∧f.nm=x
 |[],_,_,_,h=>by cases h
 |e::l,i,j,f,h=>by
  simp only[bw]at h;cases hx:(x==e.nm)with
  |true=>rw[hx]at h;cases h;exact⟨List.mem_cons_self,(eq_of_beq hx).symm⟩
  |false=>rw[hx]at h;have:=pM h;exact⟨List.mem_cons_of_mem _ this.1,this.2⟩
theorem Bc(x:List UInt8)(l:List Fn)(f:Fn)(i:Nat):(bw x (l ++[f]) i).isSome=((bw x l i).isSome||x==f.nm):=by
 rw[pL];cases bw x l i with
 |some q=>rfl
 |none=>
  simp only[bw];cases (x==f.nm)<;>rfl
theorem Hk{x:List UInt8}{l:List Fn}(h:∀f∈l,f.nm≠x)(i:Nat):bw x l i=none:=by
 cases hf:bw x l i with
 |none=>rfl
 |some q=>obtain⟨j,f⟩:=q;have:=pM hf;exact absurd this.2 (h f this.1)
theorem Hl{g:Int→Int}{l l':List Fn}(h:l'.map (iz id)=l.map (iz g)){x:List UInt8}(hx:∀f∈l,f.nm≠x):∀f∈l',f.nm≠x:=by
 have hn:l'.map (·.nm)=l.map (·.nm):=by
  have:=congrArg (List.map (·.nm)) h;simpa [List.map_map,Function.comp_def,iz]using this
 intro f hf he;have:x∈l.map (·.nm):=by rw[←hn];exact List.mem_map.2 ⟨f,hf,he⟩
 obtain⟨f2,h1,h2⟩:=List.mem_map.1 this;exact hx f2 h1 h2
theorem rx:∀(ps ps':List Pm)(k:Nat)(had:List (List UInt8))(u:Unit),ps'.map (q7 false)=ps.map (q7 false)→ja k had ps= .ok u→ja k had ps'= .ok u
 |[],[],_,_,_,_,h=>h
 |[],_::_,_,_,_,h,_=>by cases h
 |_::_,[],_,_,_,h,_=>by cases h
 |p::ps,p'::ps',k,had,u,h,h1=>by
  simp only[List.map_cons,List.cons.injEq]at h;have hn:p'.nm=p.nm:=by have:=congrArg (fun q:Pm=>q.nm) h.1;simpa [q7]using this
  simp only[ja]at h1 ⊢;rw[hn];cases h6:decide (6≤k)with
  |true=>rw[h6]at h1;cases h1
  |false=>
   rw[h6]at h1;cases hh:had.any (· ==p.nm)with
   |true=>rw[hh]at h1;cases h1
   |false=>rw[hh]at h1;exact rx ps ps' _ _ u h.2 h1
theorem pN{g:Int→Int}(tl:List Fn):∀(r r' pre pre':List Fn)(u:Unit),r'.map (iz id)=r.map (iz g)→(∀x,x≠DS→(bw x pre 0).isSome=false→(bw x pre' 0).isSome=false)→(∀f∈r,f.nm≠DS)→cq pre r= .ok u→cq pre' (r' ++tl)=cq (pre' ++r') tl
 |[],[],_,_,_,_,_,_,_=>by rw[List.append_nil];rfl
 |[],_::_,_,_,_,h,_,_,_=>by cases h
 |_::_,[],_,_,_,h,_,_,_=>by cases h
 |f::r,f'::r',pre,pre',u,h,hC,hz,ht=>by
  simp only[List.map_cons,List.cons.injEq]at h;obtain⟨hn,hps,_⟩:=fh h.1;have hfz:=hz f List.mem_cons_self;simp only[cq]at ht;rw[List.cons_append,cq,hn];cases hf:(bw f.nm pre 0).isSome with
  |true=>rw[hf]at ht;cases ht
  |false=>
   rw[hf]at ht;rw[hC _ hfz hf];simp only[cond_false]at ht ⊢;cases hp:ja 0 [] f.ps with
   |out=>rw[hp]at ht;cases ht
   |bad p e=>rw[hp]at ht;cases ht
   |ok v=>
    rw[hp]at ht;rw[rx _ _ _ _ v hps hp]
    have:=pN tl r r' (pre ++[f]) (pre' ++[f']) u h.2 (fun x hx h2=>by
     rw[Bc]at h2 ⊢;simp only[Bool.or_eq_false_iff]at h2 ⊢;rw[hn];exact⟨hC x hx h2.1,h2.2⟩) (fun f hf=>hz f (List.mem_cons_of_mem _ hf)) ht
    rw[List.append_assoc]at this;exact this
theorem lT{fs:List Fn}{u:Unit}(h:di fs= .ok u):∃v,cq [] fs= .ok v:=by
 unfold di at h;cases hn:cq [] fs with
 |ok v=>exact⟨v,rfl⟩
 |bad p e=>rw[hn]at h;cases h
 |out=>rw[hn]at h;cases h
theorem vF{fs fs':List Fn}{u v:Unit}(fr:KB fs fs')(hn:cq [] fs'= .ok v)(h:di fs= .ok u):di fs'= .ok ():=by
 obtain⟨w,hw⟩:=lT h;unfold di at h ⊢;rw[hw]at h;rw[hn];simp only[TR.bind]at h ⊢;cases hf:bw Fv fs 0 with
 |none=>rw[hf]at h;cases h
 |some q=>
  obtain⟨i,f⟩:=q;obtain⟨i',f',h1,h2,h3⟩:=fr _ _ _ hf;rw[hf]at h;rw[h1];dsimp only at h ⊢
  have he:f'.ps.isEmpty=f.ps.isEmpty:=by
   have:=congrArg List.isEmpty h2;simpa using this
  rw[he,h3];cases hb:(f.ps.isEmpty&&f.res==1)with
  |true=>rfl
  |false=>rw[hb]at h;cases h
theorem zr{l:List Ex}(h:b7 false l=[]):l=[]:=by cases l with
 |nil=>rfl
 |cons x r=>simp only[b7]at h;cases h
theorem lU{l:List bu}(h:dg id l=[]):l=[]:=by cases l with
 |nil=>rfl
 |cons x r=>simp only[dg]at h;cases h
theorem zt{l:List Ex}{k o n:Int}{nm:List UInt8}(h:b7 false l=[.mk k o nm n 0 []]):∃p,l=[.mk k o nm n p []]:=by
 cases l with
 |nil=>simp only[b7]at h;cases h
 |cons x r=>
  obtain⟨k',o',nm',n',p',xs⟩:=x;simp only[b7,List.cons.injEq,lE,Ex.mk.injEq]at h;obtain⟨⟨rfl,rfl,rfl,rfl,_,h1⟩,h2⟩:=h;exact⟨p',by rw[zr h1,zr h2]⟩
theorem Hm{z:Fn}{e:Int}(h:iz id z=iz (fun x=>dD (x+e)) HO):∃i1 i2 q p1 p2 p3 p4 p5,z=⟨[122,122,57],[⟨[97],1,q⟩],1,[.mk 1 i1 [98] 1 0 p1 [.mk 3 0 [97] 0 p2 []] [] [], .mk 6 i2 [] 0 0 p3 [.mk 3 0 [98] 0 p4 []] [] []],p5⟩:=by
 obtain⟨nm,ps,res,bd,p5⟩:=z;simp only[iz,HO,Fn.mk.injEq,List.map_cons,List.map_nil,q7,cond_false,dg,oE,b7,lE]at h;obtain⟨rfl,hps,rfl,hbd,_⟩:=h;cases ps with
 |nil=>simp at hps
 |cons q r=>cases r with
  |cons _ _=>simp at hps
  |nil=>
   obtain⟨qn,qt,qp⟩:=q;simp only[List.map_cons,List.map_nil,List.cons.injEq,q7,cond_false,Pm.mk.injEq,and_true]at hps;obtain⟨rfl,rfl⟩:=hps;cases bd with
   |nil=>simp[dg]at hbd
   |cons x r=>cases r with
    |nil=>simp[dg]at hbd
    |cons y r=>
     obtain⟨k1,i1,n1,t1,m1,p1,es1,b1,l1⟩:=x;obtain⟨k2,i2,n2,t2,m2,p3,es2,b2,l2⟩:=y;simp only[dg,oE,List.cons.injEq,bu.mk.injEq]at hbd;obtain⟨⟨rfl,_,rfl,rfl,rfl,_,he1,hb1,hl1⟩,⟨rfl,_,rfl,rfl,rfl,_,he2,hb2,hl2⟩,hr⟩:=hbd;obtain⟨p2,rfl⟩:=zt he1;obtain⟨p4,rfl⟩:=zt he2;rw[lU hb1,lU hl1,lU hb2,lU hl2,lU hr];exact⟨i1,i2,qp,p1,p2,p3,p4,p5,rfl⟩
theorem Cu{fs:List Fn}{n:Nat}{z:Fn}{e:Int}(hz:iz id z=iz (fun x=>dD (x+e)) HO)(hn:fs[n]? =some z)(pts:List Pt):ff fs n z pts= .out∨∃v a b,ff fs n z pts= .ok (v,pts ++[a,b])∧a.sure.length=1:=by
 obtain⟨i1,i2,q,p1,p2,p3,p4,p5,rfl⟩:=Hm hz;cases hb1:(i1==(pts.length:Int)&&decide (pts.length<900000000))with
 |false=>
  refine .inl ?_
  have e1:dz fs n 0 (.mk 1 i1 [98] 1 0 p1 [.mk 3 0 [97] 0 p2 []] [] []) ⟨[⟨[97],1,0,0⟩],[([97],0)],⟨[(0,0)],1⟩,pts⟩= .out:=by
   rw[dz,hb1];rfl
  unfold ff dQ;show TR.bind (TR.bind (aX fs n 0 false _ ⟨[⟨[97],1,0,0⟩],[([97],0)],⟨[(0,0)],1⟩,pts⟩) _) _=_;rw[aX,cond_false,e1];rfl
 |true=>
  let a:Pt:=⟨(n:Int),[0],[0]⟩
  cases hb2:(i2==((pts ++[a]).length:Int)&&decide ((pts ++[a]).length<900000000))with
  |false=>
   refine .inl ?_
   have e1:dz fs n 0 (.mk 1 i1 [98] 1 0 p1 [.mk 3 0 [97] 0 p2 []] [] []) ⟨[⟨[97],1,0,0⟩],[([97],0)],⟨[(0,0)],1⟩,pts⟩= .ok ⟨[⟨[97],1,0,0⟩,⟨[98],1,0,i1⟩],[([97],0),([98],1)],⟨[(0,0),(1,1)],2⟩,pts ++[a]⟩:=by
    rw[dz,hb1];rfl
   have e2:dz fs n 0 (.mk 6 i2 [] 0 0 p3 [.mk 3 0 [98] 0 p4 []] [] []) ⟨[⟨[97],1,0,0⟩,⟨[98],1,0,i1⟩],[([97],0),([98],1)],⟨[(0,0),(1,1)],2⟩,pts ++[a]⟩= .out:=by
    rw[dz,hb2];rfl
   unfold ff dQ;show TR.bind (TR.bind (aX fs n 0 false _ ⟨[⟨[97],1,0,0⟩],[([97],0)],⟨[(0,0)],1⟩,pts⟩) _) _=_;rw[aX,cond_false,e1];simp only[TR.bind];rw[aX];show TR.bind (TR.bind (TR.bind (dz fs n 0 _ _) _) _) _=_;rw[e2];rfl
  |true=>
   refine .inr ?_
   have e1:dz fs n 0 (.mk 1 i1 [98] 1 0 p1 [.mk 3 0 [97] 0 p2 []] [] []) ⟨[⟨[97],1,0,0⟩],[([97],0)],⟨[(0,0)],1⟩,pts⟩= .ok ⟨[⟨[97],1,0,0⟩,⟨[98],1,0,i1⟩],[([97],0),([98],1)],⟨[(0,0),(1,1)],2⟩,pts ++[a]⟩:=by
    rw[dz,hb1];rfl
   have e2:dz fs n 0 (.mk 6 i2 [] 0 0 p3 [.mk 3 0 [98] 0 p4 []] [] []) ⟨[⟨[97],1,0,0⟩,⟨[98],1,0,i1⟩],[([97],0),([98],1)],⟨[(0,0),(1,1)],2⟩,pts ++[a]⟩= .ok ⟨[⟨[97],1,0,0⟩,⟨[98],1,0,i1⟩],[([97],0),([98],1)],⟨[(0,0),(1,1)],2⟩,pts ++[a] ++[⟨(n:Int),[0,1],[0,1]⟩]⟩:=by
    rw[A9,hb2,cond_true];show gR fs n p3 [.mk 3 0 [98] 0 p4 []] ⟨[⟨[97],1,0,0⟩,⟨[98],1,0,i1⟩],[([97],0),([98],1)],⟨[(0,0),(1,1)],2⟩,pts ++[a] ++[⟨(n:Int),[0,1],[0,1]⟩]⟩=_;unfold gR;rw[hn];rfl
   refine⟨[⟨[97],1,0,0⟩,⟨[98],1,0,i1⟩],a,⟨(n:Int),[0,1],[0,1]⟩, ?_,rfl⟩;unfold ff dQ;show TR.bind (TR.bind (aX fs n 0 false _ ⟨[⟨[97],1,0,0⟩],[([97],0)],⟨[(0,0)],1⟩,pts⟩) _) _=_;rw[aX,cond_false,e1];simp only[TR.bind];rw[aX];show TR.bind (TR.bind (TR.bind (dz fs n 0 _ _) _) _) _=_;rw[e2];show TR.ok (_,pts ++[a] ++[_])=_;rw[List.append_assoc];rfl
section
variable{s:List UInt8}{l:List Fn}{rows:List (List Vr)}{pts:List Pt}
theorem Be(hs:s.length≤3000)(h:gV s= .ok l)(hc:bI l= .ok (rows,pts))(hz:∀f∈l,f.nm≠DS):
    ∃l' rows' pts',gV (kv ++s)= .ok l'∧bI l'= .ok (rows',pts')∧rows'.length=rows.length+1∧pts'.length=pts.length+2∧∃p,pts'[1]? =some p∧p.sure.length=1:=by
 obtain⟨z,l2,g1,g2,g3⟩:=Bb hs h
 have hno:bI (z::l2)≠ .out:=by
  have:=ru (kv ++s);rw[g1]at this;exact lR this.2
 have hzn:z.nm=DS:=(fh g2).1
 have fr:KB l (z::l2):=fun nm i f hf=>by
  have hm:=pM hf;have:=lS (g:=gE 2) nm l l2 0 1 g3;rw[hf]at this;obtain⟨j',f',h1,h2⟩:=this;have hne:(nm==z.nm)=false:=by rw[hzn];exact beq_eq_false_iff_ne.2 (by rw[←hm.2];exact hz f hm.1)
  exact⟨j',f',by rw[bw,hne];exact h1,KF (fh h2).2.1,(fh h2).2.2⟩
 have hH:∃u,di l= .ok u:=by
  unfold bI at hc;cases hh:di l with
  |ok u=>exact⟨u,rfl⟩
  |bad p e=>rw[hh]at hc;cases hc
  |out=>rw[hh]at hc;cases hc
 obtain⟨u,hu⟩:=hH;obtain⟨v,hv⟩:=lT hu;have hpm:ja 0 [] z.ps= .ok ():=rx _ _ _ _ () (fh g2).2.1 rfl
 have hnm:cq [] (z::l2)= .ok ():=by
  have:=pN (g:=gE 2) [] l l2 [] [z] v g3 (fun x hx _=>by
   have:(x==z.nm)=false:=by rw[hzn];exact beq_eq_false_iff_ne.2 hx
   simp only[bw,this,cond_false];rfl) hz hv
  rw[List.append_nil]at this;rw[cq];show TR.bind (ja 0 [] z.ps) _=_;rw[hpm];exact this
 have hh:=vF fr hnm hu
 have hb:bp l 0 l [] [dx]= .ok (rows,pts):=by
  unfold bI at hc;rw[hu]at hc;exact hc
 have e0:bI (z::l2)=(ff (z::l2) 0 z [dx]).bind fun q=>bp (z::l2) 1 l2 ([] ++[q.1]) q.2:=by
  unfold bI;rw[hh];rfl
 rcases Cu (e:=0) (fs:=z::l2) (n:=0) (by rw[g2];rfl) rfl [dx]with h1|⟨v,a,b,h1,ha⟩
 ·exact absurd (by rw[e0,h1];rfl) hno
 ·have e1:bI (z::l2)=bp (z::l2) 1 (l2 ++[]) [v] [dx,a,b]:=by rw[e0,h1,List.append_nil];rfl
  rcases nl (ex:=false) (A:=[dx,a,b]) (e:=2) (tl:=[]) fr (by omega) l l2 0 1 [] [v] [dx] [dx,a,b] g3 rfl (by rw[List.append_nil];rfl) (fun h=>by cases h) rfl ⟨[],rfl⟩ (fun h=>by cases h) _ hb with h2|⟨q',k1,_,k3,k4⟩
  ·exact absurd (by rw[e1,h2]) hno
  ·obtain⟨Z,hZ⟩:=k1.pre
   refine⟨z::l2,q'.1,q'.2,g1,by rw[e1,k4];rfl,by simpa using k3,k1.pts,a, ?_,ha⟩;dsimp only at hZ;rw[hZ];rfl
theorem DI(hs:s.length≤3000)(h:gV s= .ok l)(hc:bI l= .ok (rows,pts))(hz:∀f∈l,f.nm≠DS):
    ∃l' v a b,gV (s ++10::kv)= .ok l'∧bI l'= .ok (rows ++[v],pts ++[a,b]):=by
 obtain⟨z,l2,e,g1,g2,g3⟩:=DH hs h
 have hno:bI (l2 ++[z])≠ .out:=by
  have:=ru (s ++10::kv);rw[g1]at this;exact lR this.2
 have hzn:z.nm=DS:=(fh g2).1;have hl:l2.length=l.length:=by simpa using congrArg List.length g3
 have fr:KB l (l2 ++[z]):=fun nm i f hf=>by
  have:=lS (g:=gE 0) nm l l2 0 0 g3;rw[hf]at this;obtain⟨j',f',h1,h2⟩:=this;exact⟨j',f',by rw[pL,h1],KF (fh h2).2.1,(fh h2).2.2⟩
 have hH:∃u,di l= .ok u:=by
  unfold bI at hc;cases hh:di l with
  |ok u=>exact⟨u,rfl⟩
  |bad p e=>rw[hh]at hc;cases hc
  |out=>rw[hh]at hc;cases hc
 obtain⟨u,hu⟩:=hH;obtain⟨v,hv⟩:=lT hu;have hpm:ja 0 [] z.ps= .ok ():=rx _ _ _ _ () (fh g2).2.1 rfl
 have hnm:cq [] (l2 ++[z])= .ok ():=by
  have:=pN (g:=gE 0) [z] l l2 [] [] v g3 (fun x _ h=>h) hz hv;rw[this,List.nil_append,cq,hzn,Hk (Hl g3 hz)];show TR.bind (ja 0 [] z.ps) _=_;rw[hpm];rfl
 have hh:=vF fr hnm hu
 have hb:bp l 0 l [] [dx]= .ok (rows,pts):=by
  unfold bI at hc;rw[hu]at hc;exact hc
 have e1:bI (l2 ++[z])=bp (l2 ++[z]) 0 (l2 ++[z]) [] [dx]:=by
  unfold bI;rw[hh];rfl
 rcases nl (ex:=true) (A:=[]) (e:=0) (tl:=[z]) fr (by omega) l l2 0 0 [] [] [dx] [dx] g3 rfl rfl (fun _=>⟨rfl,rfl,rfl⟩) rfl ⟨_,rfl⟩ (fun _=>rfl) _ hb with h2|⟨q',k1,k2,_,k4⟩
 ·exact absurd (by rw[e1,h2]) hno
 ·have k2:=k2 rfl
  have k1:=k1.exa rfl;dsimp only at k1 k2;rw[k1,k2,Nat.zero_add]at k4;have hn:(l2 ++[z])[l.length]? =some z:=by rw[←hl,List.getElem?_append_right (Nat.le_refl _),Nat.sub_self];rfl
  rcases Cu (fs:=l2 ++[z]) (n:=l.length) g2 hn pts with h1|⟨v,a,b,h1,_⟩
  ·refine absurd ?_ hno
   rw[e1,k4,bp,h1];rfl
  ·refine⟨l2 ++[z],v,a,b,g1, ?_⟩
   rw[e1,k4,bp,h1];rfl
end
end Go.Avm
namespace Go.Avm
open Go.Proofs
set_option maxRecDepth 100000 in
theorem SK:aK Pg 9 [.str [102,110,32,109,97,105,110,40,41,58,32,105,110,116,32,123,32,108,101,116,32,120,58,32,105,110,116,59,32,105,102,32,116,114,117,101,32,123,32,120,32,61,32,49,59,32,125,32,114,101,116,117,114,110,32,120,59,32,125]] [.agg [.ro [.agg [.str [109,97,105,110], .ro [], .int .u8 1, .ro [.agg [.int .u8 1, .int .i64 1, .str [120], .int .u8 1, .int .i64 0, .int .i64 17, .ro [], .ro [], .ro []], .agg [.int .u8 4, .int .i64 2, .str [], .int .u8 0, .int .i64 0, .int .i64 29, .ro [.agg [.int .u8 2, .int .u8 0, .str [], .int .i64 1, .int .i64 32, .ro []]], .ro [.agg [.int .u8 2, .int .i64 3, .str [120], .int .u8 0, .int .i64 0, .int .i64 39, .ro [.agg [.int .u8 1, .int .u8 0, .str [], .int .i64 1, .int .i64 43, .ro []]], .ro [], .ro []]], .ro []], .agg [.int .u8 6, .int .i64 4, .str [], .int .u8 0, .int .i64 0, .int .i64 48, .ro [.agg [.int .u8 3, .int .u8 0, .str [120], .int .i64 0, .int .i64 55, .ro []]], .ro [], .ro []]], .int .i64 0]]], .agg [.ro [], .ro []], .int .i64 55, .int .i64 10]:=by
 have h:=pJ [102,110,32,109,97,105,110,40,41,58,32,105,110,116,32,123,32,108,101,116,32,120,58,32,105,110,116,59,32,105,102,32,116,114,117,101,32,123,32,120,32,61,32,49,59,32,125,32,114,101,116,117,114,110,32,120,59,32,125];rw[show gW [102,110,32,109,97,105,110,40,41,58,32,105,110,116,32,123,32,108,101,116,32,120,58,32,105,110,116,59,32,105,102,32,116,114,117,101,32,123,32,120,32,61,32,49,59,32,125,32,114,101,116,117,114,110,32,120,59,32,125]=[.agg [.ro [.agg [.str [109,97,105,110], .ro [], .int .u8 1, .ro [.agg [.int .u8 1, .int .i64 1, .str [120], .int .u8 1, .int .i64 0, .int .i64 17, .ro [], .ro [], .ro []], .agg [.int .u8 4, .int .i64 2, .str [], .int .u8 0, .int .i64 0, .int .i64 29, .ro [.agg [.int .u8 2, .int .u8 0, .str [], .int .i64 1, .int .i64 32, .ro []]], .ro [.agg [.int .u8 2, .int .i64 3, .str [120], .int .u8 0, .int .i64 0, .int .i64 39, .ro [.agg [.int .u8 1, .int .u8 0, .str [], .int .i64 1, .int .i64 43, .ro []]], .ro [], .ro []]], .ro []], .agg [.int .u8 6, .int .i64 4, .str [], .int .u8 0, .int .i64 0, .int .i64 48, .ro [.agg [.int .u8 3, .int .u8 0, .str [120], .int .i64 0, .int .i64 55, .ro []]], .ro [], .ro []]], .int .i64 0]]], .agg [.ro [], .ro []], .int .i64 55, .int .i64 10] by kernel_rfl]at h;exact h
set_option maxRecDepth 100000 in
theorem SL:aK Pg 9 [.str [102,110,32,109,97,105,110,40,41,58,32,105,110,116,32,123,32,108,101,116,32,120,58,32,105,110,116,59,32,105,102,32,116,114,117,101,32,123,32,120,32,61,32,49,59,32,125,32,101,108,115,101,32,123,32,120,32,61,32,50,59,32,125,32,114,101,116,117,114,110,32,120,59,32,125]] [.agg [.ro [.agg [.str [109,97,105,110], .ro [], .int .u8 1, .ro [.agg [.int .u8 1, .int .i64 1, .str [120], .int .u8 1, .int .i64 0, .int .i64 17, .ro [], .ro [], .ro []], .agg [.int .u8 4, .int .i64 2, .str [], .int .u8 0, .int .i64 0, .int .i64 29, .ro [.agg [.int .u8 2, .int .u8 0, .str [], .int .i64 1, .int .i64 32, .ro []]], .ro [.agg [.int .u8 2, .int .i64 3, .str [120], .int .u8 0, .int .i64 0, .int .i64 39, .ro [.agg [.int .u8 1, .int .u8 0, .str [], .int .i64 1, .int .i64 43, .ro []]], .ro [], .ro []]], .ro [.agg [.int .u8 2, .int .i64 4, .str [120], .int .u8 0, .int .i64 0, .int .i64 55, .ro [.agg [.int .u8 1, .int .u8 0, .str [], .int .i64 2, .int .i64 59, .ro []]], .ro [], .ro []]]], .agg [.int .u8 6, .int .i64 5, .str [], .int .u8 0, .int .i64 0, .int .i64 64, .ro [.agg [.int .u8 3, .int .u8 0, .str [120], .int .i64 0, .int .i64 71, .ro []]], .ro [], .ro []]], .int .i64 0]]], .agg [.ro [.ro [.agg [.str [120], .int .u8 1, .int .i64 0, .int .i64 1]]], .ro [.agg [.int .i64 0, .ro [], .ro []], .agg [.int .i64 0, .ro [], .ro []], .agg [.int .i64 0, .ro [.int .i64 0], .ro []], .agg [.int .i64 0, .ro [.int .i64 0], .ro []], .agg [.int .i64 0, .ro [.int .i64 0], .ro []], .agg [.int .i64 0, .ro [.int .i64 0], .ro [.int .i64 0]]]], .int .i64 0, .int .i64 0]:=by
 have h:=pJ [102,110,32,109,97,105,110,40,41,58,32,105,110,116,32,123,32,108,101,116,32,120,58,32,105,110,116,59,32,105,102,32,116,114,117,101,32,123,32,120,32,61,32,49,59,32,125,32,101,108,115,101,32,123,32,120,32,61,32,50,59,32,125,32,114,101,116,117,114,110,32,120,59,32,125];rw[show gW [102,110,32,109,97,105,110,40,41,58,32,105,110,116,32,123,32,108,101,116,32,120,58,32,105,110,116,59,32,105,102,32,116,114,117,101,32,123,32,120,32,61,32,49,59,32,125,32,101,108,115,101,32,123,32,120,32,61,32,50,59,32,125,32,114,101,116,117,114,110,32,120,59,32,125]=[.agg [.ro [.agg [.str [109,97,105,110], .ro [], .int .u8 1, .ro [.agg [.int .u8 1, .int .i64 1, .str [120], .int .u8 1, .int .i64 0, .int .i64 17, .ro [], .ro [], .ro []], .agg [.int .u8 4, .int .i64 2, .str [], .int .u8 0, .int .i64 0, .int .i64 29, .ro [.agg [.int .u8 2, .int .u8 0, .str [], .int .i64 1, .int .i64 32, .ro []]], .ro [.agg [.int .u8 2, .int .i64 3, .str [120], .int .u8 0, .int .i64 0, .int .i64 39, .ro [.agg [.int .u8 1, .int .u8 0, .str [], .int .i64 1, .int .i64 43, .ro []]], .ro [], .ro []]], .ro [.agg [.int .u8 2, .int .i64 4, .str [120], .int .u8 0, .int .i64 0, .int .i64 55, .ro [.agg [.int .u8 1, .int .u8 0, .str [], .int .i64 2, .int .i64 59, .ro []]], .ro [], .ro []]]], .agg [.int .u8 6, .int .i64 5, .str [], .int .u8 0, .int .i64 0, .int .i64 64, .ro [.agg [.int .u8 3, .int .u8 0, .str [120], .int .i64 0, .int .i64 71, .ro []]], .ro [], .ro []]], .int .i64 0]]], .agg [.ro [.ro [.agg [.str [120], .int .u8 1, .int .i64 0, .int .i64 1]]], .ro [.agg [.int .i64 0, .ro [], .ro []], .agg [.int .i64 0, .ro [], .ro []], .agg [.int .i64 0, .ro [.int .i64 0], .ro []], .agg [.int .i64 0, .ro [.int .i64 0], .ro []], .agg [.int .i64 0, .ro [.int .i64 0], .ro []], .agg [.int .i64 0, .ro [.int .i64 0], .ro [.int .i64 0]]]], .int .i64 0, .int .i64 0] by kernel_rfl]at h;exact h
set_option maxRecDepth 100000 in
theorem SM:aK Pg 9 [.str [102,110,32,109,97,105,110,40,41,58,32,105,110,116,32,123,32,114,101,116,117,114,110,32,49,59,32,112,114,105,110,116,32,50,59,32,125]] [.agg [.ro [.agg [.str [109,97,105,110], .ro [], .int .u8 1, .ro [.agg [.int .u8 6, .int .i64 1, .str [], .int .u8 0, .int .i64 0, .int .i64 17, .ro [.agg [.int .u8 1, .int .u8 0, .str [], .int .i64 1, .int .i64 24, .ro []]], .ro [], .ro []], .agg [.int .u8 7, .int .i64 2, .str [], .int .u8 0, .int .i64 0, .int .i64 27, .ro [.agg [.int .u8 1, .int .u8 0, .str [], .int .i64 2, .int .i64 33, .ro []]], .ro [], .ro []]], .int .i64 0]]], .agg [.ro [], .ro []], .int .i64 27, .int .i64 11]:=by
 have h:=pJ [102,110,32,109,97,105,110,40,41,58,32,105,110,116,32,123,32,114,101,116,117,114,110,32,49,59,32,112,114,105,110,116,32,50,59,32,125];rw[show gW [102,110,32,109,97,105,110,40,41,58,32,105,110,116,32,123,32,114,101,116,117,114,110,32,49,59,32,112,114,105,110,116,32,50,59,32,125]=[.agg [.ro [.agg [.str [109,97,105,110], .ro [], .int .u8 1, .ro [.agg [.int .u8 6, .int .i64 1, .str [], .int .u8 0, .int .i64 0, .int .i64 17, .ro [.agg [.int .u8 1, .int .u8 0, .str [], .int .i64 1, .int .i64 24, .ro []]], .ro [], .ro []], .agg [.int .u8 7, .int .i64 2, .str [], .int .u8 0, .int .i64 0, .int .i64 27, .ro [.agg [.int .u8 1, .int .u8 0, .str [], .int .i64 2, .int .i64 33, .ro []]], .ro [], .ro []]], .int .i64 0]]], .agg [.ro [], .ro []], .int .i64 27, .int .i64 11] by kernel_rfl]at h;exact h
set_option maxRecDepth 100000 in
theorem ry:aK Pg 8 [] [.bool true]:=
 bq aD named {hint:=qT 8 [(14, .call 9 _ _ SK),(20, .call 9 _ _ SL),(26, .call 9 _ _ SM)]} 2000 (by kernel_rfl)
end Go.Avm
namespace Go.Avm
open Go.Proofs
abbrev P9(l:List Nat)(i:Nat):List (Nat×AV):=[(0, .d (.ro (bW l))),(1, .d (.ro (bW l))),(12,dN (bW l).length),(13,dN i)]
section
variable(l:List Nat)(i:Nat)
theorem M3(h:decide (i<(bW l).length)=false):RE 26 (lO 15 4) (P9 l i) ([]) (.exit 0) [] ([]):=
 qE {hint:=qT 15 [(14,jO Pg i (bW l).length false h)]} 15 600000
theorem SN(h:decide (i<(bW l).length)=true)(v:Nat)(hv:(bW l)[((i:Nat):Int).toNat]? =some (.int .i64 (v:Int)))(hi:i<1000000):RE 26 (lO 15 4) (P9 l i) ([]) .normal (P9 l (i+1)) ([]):=
 qE {hint:=qT 15 [(14,jO Pg i (bW l).length true h),(18, .idx (bW l) ((i:Nat):Int) _ (by omega) hv),(22, .idx (bW l) ((i:Nat):Int) _ (by omega) hv),(24,hB Pg ((v:Int) !=(v:Int)) false (by simp)),(25,dk Pg i (by omega))]} 15 600000
end
theorem Hn(l:List Nat)(hl:l.length<1000000):∀m i:Nat,i+m=l.length→RL 26 (lO 15 4) (P9 l i) ([]) (.exit 0) [] ([])
 |0,i,h=>fun rest X hP hN=>aY (M3 l i (by simp only[bW,List.length_map,decide_eq_false_iff_not];omega) rest X hP hN) (by simp)
 |m+1,i,h=>fun rest X hP hN=>ba (SN l i (by simp only[bW,List.length_map,decide_eq_true_eq];omega) (l[i]'(by omega)) (by rw[Int.toNat_natCast];simp[bW,List.getElem?_eq_getElem (show i<l.length by omega)]) (by omega) rest X hP hN) (Hn l hl m (i+1) (by omega) rest X hP hN)
noncomputable def SO(l:List Nat)(hl:l.length<1000000):d7 Pg:=
 ⟨26,bO Pg 15 4,P9 l 0,fun _=>[], .exit 0,[],fun _=>[],fun rest X hP hN=>(Hn l hl l.length 0 (by omega) rest X hP hN).aw⟩
theorem Ho(l:List Nat)(hl:l.length<1000000):aK Pg 15 [.ro (bW l), .ro (bW l)] [.bool true]:=
 qV {loops:=fun g q=>if g=15 then (if q=4 then some (SO l hl)else none)else none,hint:=qT 15 [(10,hB Pg (((bW l).length:Int) !=((bW l).length:Int)) false (by simp))]} 709297
abbrev fV(a b:List D):List (Nat×aN):=[(600156,⟨1,some (.arr 1 [.d (.ro a), .d (.ro b)])⟩),(600268,⟨1,some (.arr 1 [.d (.ro a), .d (.ro b)])⟩)]
abbrev uw(n i:Nat):List (Nat×AV):=[(2, .ptr 600156 1 0 0 1),(3, .ptr 600268 1 0 0 1),(28,dN n),(29,dN i)]
abbrev DJ(n i m k:Nat):List (Nat×AV):=[(2, .ptr 600156 1 0 0 1),(3, .ptr 600268 1 0 0 1),(5,dN i),(28,dN n),(29,dN i),(50,dN m),(51,dN k)]
section
variable(a b:List D)
theorem Hq(n i m k:Nat)(h:decide (k<m)=false):RE 111 (lO 11 9) (DJ n i m k) (fV a b) (.exit 2) (uw n i) (fV a b):=
 qE {hint:=qT 11 [(52,jO Pg k m false h)]} 11 600000
theorem M4(n i m k:Nat)(r:List D)(h:decide (k<m)=true)(hr:a[((i:Nat):Int).toNat]? =some (.ro r))(x0:List UInt8)(x1 x2 x3:Int)(hx:r[((k:Nat):Int).toNat]? =some (.agg [.str x0, .int .u8 x1, .int .i64 x2, .int .i64 x3]))(hk:k<1000000):RE 111 (lO 11 9) (DJ n i m k) (fV a b) .normal (DJ n i m (k+1)) (fV a b):=
 qE {hint:=qT 11 [(52,jO Pg k m true h),(57, .idx a ((i:Nat):Int) _ (by omega) hr),(60, .idx r ((k:Nat):Int) _ (by omega) hx),(65, .idx a ((i:Nat):Int) _ (by omega) hr),(68, .idx r ((k:Nat):Int) _ (by omega) hx),(70,hB Pg (!(x0==x0&&(x1==x1&&(x2==x2&&(x3==x3&&true))))) false (by simp)),(71,dk Pg k (by omega))]} 11 600000
theorem Hr(n i:Nat)(h:decide (i<n)=false):RE 111 (lO 11 4) (uw n i) (fV a b) (.exit 0) [(2, .ptr 600156 1 0 0 1),(3, .ptr 600268 1 0 0 1)] (fV a b):=
 qE {hint:=qT 11 [(30,jO Pg i n false h)]} 11 600000
theorem M5(n i:Nat)(r:List D)(h:decide (i<n)=true)(hr:a[((i:Nat):Int).toNat]? =some (.ro r))(hi:i<1000000)(hc:RL 111 (lO 11 9) (DJ n i r.length 0) (fV a b) (.exit 2) (uw n i) (fV a b)):RE 111 (lO 11 4) (uw n i) (fV a b) .normal (uw n (i+1)) (fV a b):=
 qE {loops:=fun g q=>if g=11 then (if q=9 then some ⟨111,bO Pg 11 9,DJ n i r.length 0,fun _=>fV a b, .exit 2,uw n i,fun _=>fV a b,fun rest X hP hN=>(hc rest X hP hN).aw⟩else none)else none,hint:=qT 11 [(30,jO Pg i n true h),(35, .idx a ((i:Nat):Int) _ (by omega) hr),(41, .idx a ((i:Nat):Int) _ (by omega) hr),(44,hB Pg ((r.length:Int) !=(r.length:Int)) false (by simp)),(48, .idx a ((i:Nat):Int) _ (by omega) hr),(72,dk Pg i (by omega))]} 11 600000
abbrev vG(n i:Nat):List (Nat×AV):=[(2, .ptr 600156 1 0 0 1),(3, .ptr 600268 1 0 0 1),(75,dN n),(76,dN i)]
theorem Hs(n i:Nat)(h:decide (i<n)=false):RE 111 (lO 11 16) (vG n i) (fV a b) (.exit 4) [] (fV a b):=
 qE {hint:=qT 11 [(77,jO Pg i n false h)]} 11 600000
theorem M6(n i:Nat)(fn:Int)(S U:List Nat)(h:decide (i<n)=true)(hr:b[((i:Nat):Int).toNat]? =some (.agg [.int .i64 fn, .ro (bW S), .ro (bW U)]))(hi:i<1000000000)(hS:aK Pg 15 [.ro (bW S), .ro (bW S)] [.bool true])(hU:aK Pg 15 [.ro (bW U), .ro (bW U)] [.bool true]):RE 111 (lO 11 16) (vG n i) (fV a b) .normal (vG n (i+1)) (fV a b):=
 qE {hint:=qT 11 [(77,jO Pg i n true h),(82, .idx b ((i:Nat):Int) _ (by omega) hr),(87, .idx b ((i:Nat):Int) _ (by omega) hr),(93,hB Pg (fn !=fn) false (by simp)),(99, .call 15 _ _ hS),(107, .call 15 _ _ hU),(110,dk Pg i (by omega))]} 11 600000
theorem SP(h1:RL 111 (lO 11 4) (uw a.length 0) (fV a b) (.exit 0) [(2, .ptr 600156 1 0 0 1),(3, .ptr 600268 1 0 0 1)] (fV a b))
    (h2:RL 111 (lO 11 16) (vG b.length 0) (fV a b) (.exit 4) [] (fV a b)):aK Pg 11 [.agg [.ro a, .ro b], .agg [.ro a, .ro b]] [.bool true]:=
 qV {loops:=fun g q=>if g=11 then (if q=4 then some ⟨111,bO Pg 11 4,uw a.length 0,fun _=>fV a b, .exit 0,[(2, .ptr 600156 1 0 0 1),(3, .ptr 600268 1 0 0 1)],fun _=>fV a b,fun rest X hP hN=>(h1 rest X hP hN).aw⟩else if q=16 then some ⟨111,bO Pg 11 16,vG b.length 0,fun _=>fV a b, .exit 4,[],fun _=>fV a b,fun rest X hP hN=>(h2 rest X hP hN).aw⟩else none)else none,hint:=qT 11 [(16,hB Pg ((a.length:Int) !=(a.length:Int)) false (by simp)),(24,hB Pg ((b.length:Int) !=(b.length:Int)) false (by simp))]} 600154
end
end Go.Avm
namespace Go.Avm
open Go.Proofs
theorem TR.bind_ok{α β:Type}{r:TR α}{f:α→TR β}{b:β}(h:r.bind f= .ok b):∃a,r= .ok a∧f a= .ok b:=by
 cases r with
 |ok a=>exact⟨a,rfl,h⟩
 |bad p e=>cases h
 |out=>cases h
theorem d6{α:Type}{b:Bool}{x y:TR α}{a:α}(h:(bif b then x else y)= .ok a):(b=true∧x= .ok a)∨(b=false∧y= .ok a):=by
 cases b
 ·exact .inr ⟨rfl,h⟩
 ·exact .inl ⟨rfl,h⟩
structure PtOk(vs:List Vr)(fn id:Nat)(p:Pt):Prop where
 fn:p.fn=(fn:Int)
 inc:p.seen.Pairwise (· < ·)
 sn:∀v∈p.seen,∃x,vs[v]? =some x∧x.st<(id:Int)
 sure:∃P:Nat→Bool,p.sure=p.seen.filter P
theorem PtOk.mono{vs ws:List Vr}{fn id:Nat}{p:Pt}(h:PtOk vs fn id p)(hv:vs<+:ws):PtOk ws fn id p where
 fn:=h.fn
 inc:=h.inc
 sn:=fun v hm=>by
  obtain⟨x,h1,h2⟩:=h.sn v hm;obtain⟨t,rfl⟩:=hv;exact⟨x,by rw[List.getElem?_append_left (List.getElem?_eq_some_iff.1 h1).1];exact h1,h2⟩
 sure:=h.sure
structure PI(c:CS):Prop where
 nv:c.vars.length≤255
 inc:(c.seen.map (·.2)).Pairwise (· < ·)
 sn:∀p∈c.seen,p.2<c.vars.length
 st:∀v∈c.vars,v.st<(c.pts.length:Int)
structure RR(fn:Nat)(c c':CS):Prop where
 vp:c.vars<+:c'.vars
 pp:∃new,c'.pts=c.pts ++new∧∀i p,new[i]? =some p→PtOk c'.vars fn (c.pts.length+i) p
theorem RR.refl{fn:Nat}{c c':CS}(hv:c.vars<+:c'.vars)(hp:c'.pts=c.pts):RR fn c c':=⟨hv,[],by rw[hp,List.append_nil],fun i p h=>by simp at h⟩
theorem RR.trans{fn:Nat}{a b c:CS}(h1:RR fn a b)(h2:RR fn b c):RR fn a c:=by
 obtain⟨v1,n1,p1,q1⟩:=h1;obtain⟨v2,n2,p2,q2⟩:=h2;refine⟨v1.trans v2,n1 ++n2,by rw[p2,p1,List.append_assoc],fun i p h=> ?_⟩;by_cases hi:i<n1.length
 ·rw[List.getElem?_append_left hi]at h
  exact(q1 i p h).mono v2
 ·rw[List.getElem?_append_right (by omega)]at h
  have:=q2 _ p h;rw[p1,List.length_append]at this;rw[show a.pts.length+i=a.pts.length+n1.length+(i-n1.length) by omega];exact this
theorem PI.back{c a:CS}(hc:PI c)(ha:PI a){fn:Nat}(r:RR fn c a)(q:SureL):PI {a with seen:=c.seen,sure:=q} where
 nv:=ha.nv
 inc:=hc.inc
 sn:=fun p hp=>Nat.lt_of_lt_of_le (hc.sn p hp) r.vp.length_le
 st:=ha.st
theorem M7{fs:List Fn}{fn:Nat}{deep:Int}{nm:List UInt8}{id ty n p:Int}{es:List Ex}{c c':CS}(hc:PI c)(hid:id<(c.pts.length:Int))(h:oB fs deep nm id ty n p es c= .ok c'):PI c'∧RR fn c c':=by
 unfold oB at h;rcases d6 h with ⟨_,h⟩|⟨_,h⟩
 ·cases h
 obtain⟨_,_,h⟩:=TR.bind_ok h;rcases d6 h with ⟨_,h⟩|⟨_,h⟩
 ·cases h
 rcases d6 h with ⟨_,h⟩|⟨_,h⟩
 ·cases h
 rcases d6 h with ⟨_,h⟩|⟨_,h⟩
 ·cases h
 rcases d6 h with ⟨_,h⟩|⟨_,h⟩
 ·cases h
 rcases d6 h with ⟨_,h⟩|⟨hl,h⟩
 ·cases h
 have hl:=of_decide_eq_false hl
 have key:PI (c.add ⟨nm,ty,n,id⟩):=by
  refine⟨?_, ?_, ?_, ?_⟩
  ·simp only[CS.add,List.length_append,List.length_singleton];omega
  ·simp only[CS.add,List.map_append,List.map_cons,List.map_nil]
   rw[List.pairwise_append];refine⟨hc.inc,List.pairwise_singleton _ _,fun a ha b hb=> ?_⟩;rw[List.mem_singleton.1 hb];obtain⟨p,hp,rfl⟩:=List.mem_map.1 ha;exact hc.sn p hp
  ·intro p hp
   simp only[CS.add,List.length_append,List.length_singleton];rcases List.mem_append.1 hp with hp|hp
   ·have:=hc.sn p hp;omega
   ·rw[List.mem_singleton.1 hp];exact Nat.lt_succ_self _
  ·intro v hv
   rcases List.mem_append.1 hv with hv|hv
   ·exact hc.st v hv
   ·rw[List.mem_singleton.1 hv];exact hid
 have hr:c.vars<+:(c.add ⟨nm,ty,n,id⟩).vars:=List.prefix_append _ _;injection h with h
 subst h;cases (ty==3|| !es.isEmpty)with
 |true=>exact⟨⟨key.nv,key.inc,key.sn,key.st⟩,RR.refl hr rfl⟩
 |false=>exact⟨key,RR.refl hr rfl⟩
theorem JG{fs:List Fn}{fn:Nat}{p:Int}{es:List Ex}{c c':CS}(h:gR fs fn p es c= .ok c'):c'=c:=by
 unfold gR at h;split at h
 ·cases h
 ·rcases d6 h with ⟨_,h⟩|⟨_,h⟩
  ·split at h
   ·cases h;rfl
   ·obtain⟨_,_,h⟩:=TR.bind_ok h;cases h
  ·split at h
   ·cases h
   ·obtain⟨_,_,h⟩:=TR.bind_ok h;cases h;rfl
mutual
theorem JH(fs:List Fn)(fn:Nat):∀(x:bu)(deep:Int)(c c':CS),PI c→dz fs fn deep x c= .ok c'→PI c'∧RR fn c c'
 | .mk k id nm ty n p es bd el,deep,c0,c',hc0,h=>by
  unfold dz at h;rcases d6 h with ⟨hg,h⟩|⟨_,h⟩
  case inr=>cases h
  simp only[Bool.and_eq_true,beq_iff_eq]at hg;obtain⟨hid,_⟩:=hg
  have hc:PI {c0 with pts:=c0.pts ++[c0.pt fn]}:=⟨hc0.nv,hc0.inc,hc0.sn,fun v hv=>by
   have:=hc0.st v hv;show v.st<((c0.pts ++[c0.pt fn]).length:Int);simp only[List.length_append,List.length_singleton];omega⟩
  have hr:RR fn c0 {c0 with pts:=c0.pts ++[c0.pt fn]}:=by
   refine⟨List.prefix_refl _,[c0.pt fn],rfl,fun i p hi=> ?_⟩;cases i with
   |succ i=>simp at hi
   |zero=>
    simp only[List.getElem?_cons_zero,Option.some.injEq]at hi;subst hi;refine⟨rfl,hc0.inc,fun v hv=> ?_,c0.sure.has,rfl⟩;obtain⟨q,hq,rfl⟩:=List.mem_map.1 hv;have h1:=hc0.sn q hq;exact⟨_,List.getElem?_eq_getElem h1,hc0.st _ (List.getElem_mem h1)⟩
  have done:∀{c1:CS},PI c1∧RR fn {c0 with pts:=c0.pts ++[c0.pt fn]} c1→PI c1∧RR fn c0 c1:=fun ⟨a,b⟩=>⟨a,hr.trans b⟩
  have same:∀q:SureL,PI {c0 with pts:=c0.pts ++[c0.pt fn],sure:=q}∧RR fn {c0 with pts:=c0.pts ++[c0.pt fn]} {c0 with pts:=c0.pts ++[c0.pt fn],sure:=q}:=fun q=>⟨⟨hc.nv,hc.inc,hc.sn,hc.st⟩,RR.refl (List.prefix_refl _) rfl⟩
  apply done;rcases d6 h with ⟨_,h⟩|⟨_,h⟩
  ·exact M7 hc (by show id<((c0.pts ++[c0.pt fn]).length:Int);simp only[List.length_append,List.length_singleton];omega) h
  rcases d6 h with ⟨_,h⟩|⟨_,h⟩
  ·obtain⟨_,_,h⟩:=TR.bind_ok h
   rcases d6 h with ⟨_,h⟩|⟨_,h⟩
   ·cases h
   obtain⟨_,_,h⟩:=TR.bind_ok h;cases h;exact same _
  rcases d6 h with ⟨_,h⟩|⟨_,h⟩
  ·obtain⟨_,_,h⟩:=TR.bind_ok h
   obtain⟨_,_,h⟩:=TR.bind_ok h;cases h;exact same _
  rcases d6 h with ⟨_,h⟩|⟨_,h⟩
  ·obtain⟨_,_,h⟩:=TR.bind_ok h
   obtain⟨a,ha,h⟩:=TR.bind_ok h;obtain⟨b,hb,h⟩:=TR.bind_ok h;obtain⟨ia,ra⟩:=lV fs fn bd _ _ _ _ hc ha;obtain⟨ib,rb⟩:=lV fs fn el _ _ _ _ (hc.back ia ra c0.sure) hb;have ra2:RR fn {c0 with pts:=c0.pts ++[c0.pt fn]} {a with seen:=c0.seen,sure:=c0.sure}:=⟨ra.vp,ra.pp⟩
   have r2:=ra2.trans rb;cases h;exact⟨hc.back ib r2 _,⟨r2.vp,r2.pp⟩⟩
  rcases d6 h with ⟨_,h⟩|⟨_,h⟩
  ·obtain⟨_,_,h⟩:=TR.bind_ok h
   obtain⟨a,ha,h⟩:=TR.bind_ok h;obtain⟨ia,ra⟩:=lV fs fn bd _ _ _ _ hc ha;cases h;exact⟨hc.back ia ra _,⟨ra.vp,ra.pp⟩⟩
  rcases d6 h with ⟨_,h⟩|⟨_,h⟩
  ·rw[JG h]
   exact same _
  rcases d6 h with ⟨_,h⟩|⟨_,h⟩
  ·obtain⟨_,_,h⟩:=TR.bind_ok h
   cases h;exact same _
  rcases d6 h with ⟨_,h⟩|⟨_,h⟩
  ·split at h
   ·cases h
   ·obtain⟨_,_,h⟩:=TR.bind_ok h
    cases h;exact same _
  ·cases h
   exact same _
theorem lV(fs:List Fn)(fn:Nat):∀(l:List bu)(deep:Int)(prev:Bool)(c c':CS),PI c→aX fs fn deep prev l c= .ok c'→PI c'∧RR fn c c'
 |[],deep,prev,c,c',hc,h=>by
  unfold aX at h;cases h;exact⟨hc,RR.refl (List.prefix_refl _) rfl⟩
 |x::r,deep,prev,c,c',hc,h=>by
  unfold aX at h;rcases d6 h with ⟨_,h⟩|⟨_,h⟩
  ·cases h
  obtain⟨a,ha,h⟩:=TR.bind_ok h;obtain⟨ia,ra⟩:=JH fs fn x _ _ _ hc ha;obtain⟨ib,rb⟩:=lV fs fn r _ _ _ _ ia h;exact⟨ib,ra.trans rb⟩
end
theorem M8{c:CS}{p:Pm}(hc:PI c)(hl:c.vars.length<255)(hp:1≤c.pts.length):PI (c.par p):=by
 refine⟨?_, ?_, ?_, ?_⟩
 ·simp only[CS.par,CS.add,List.length_append,List.length_singleton];omega
 ·simp only[CS.par,CS.add,List.map_append,List.map_cons,List.map_nil]
  rw[List.pairwise_append];refine⟨hc.inc,List.pairwise_singleton _ _,fun a ha b hb=> ?_⟩;rw[List.mem_singleton.1 hb];obtain⟨p,hp,rfl⟩:=List.mem_map.1 ha;exact hc.sn p hp
 ·intro p hp
  simp only[CS.par,CS.add,List.length_append,List.length_singleton];rcases List.mem_append.1 hp with hp|hp
  ·have:=hc.sn p hp;omega
  ·rw[List.mem_singleton.1 hp];exact Nat.lt_succ_self _
 ·intro v hv
  rcases List.mem_append.1 hv with hv|hv
  ·exact hc.st v hv
  ·rw[List.mem_singleton.1 hv]
   show(0:Int)<(c.pts.length:Int);omega
theorem Cv:∀(ps:List Pm)(c:CS),PI c→c.vars.length+ps.length≤255→1≤c.pts.length→PI (ps.foldl CS.par c)
 |[],_,h,_,_=>h
 |p::r,c,h,hl,hp=>by
  simp only[List.length_cons]at hl;exact Cv r (c.par p) (M8 h (by omega) hp) (by simp only[CS.par,CS.add,List.length_append,List.length_singleton];omega) hp
def M9(rows:List (List Vr))(id:Nat)(p:Pt):Prop:=∃(fn:Nat)(vs:List Vr),rows[fn]? =some vs∧vs.length≤255∧PtOk vs fn id p
theorem JI{fs:List Fn}{i:Nat}{f:Fn}{pts:List Pt}{q:List Vr×List Pt}(hl:f.ps.length≤6)(hp:1≤pts.length)(h:ff fs i f pts= .ok q):q.1.length≤255∧∃new,q.2=pts ++new∧∀j p,new[j]? =some p→PtOk q.1 i (pts.length+j) p:=by
 unfold ff at h;obtain⟨c,hc,h⟩:=TR.bind_ok h;obtain⟨a,ha,hc⟩:=TR.bind_ok hc;have h0:PI (f.ps.foldl CS.par ⟨[],[],⟨[],0⟩,pts⟩):=Cv _ _ ⟨by simp,List.Pairwise.nil,fun _ h=>by simp at h,fun _ h=>by simp at h⟩ (by show 0+f.ps.length≤255;omega) hp;obtain⟨ia,ra⟩:=lV fs i f.bd _ _ _ _ h0 ha;cases hc;rcases d6 h with ⟨_,h⟩|⟨_,h⟩
 case inr=>cases h
 cases h;refine⟨ia.nv, ?_⟩;have:=ra.pp;rw[w8]at this;exact this
theorem pO{fs:List Fn}:∀(mt:List Fn)(i:Nat)(rows:List (List Vr))(pts:List Pt)(q:List (List Vr)×List Pt),(∀f∈mt,f.ps.length≤6)→rows.length=i→1≤pts.length→(∀vs∈rows,vs.length≤255)→(∀id p,pts[id]? =some p→(id=0∧p=dx)∨M9 rows id p)→bp fs i mt rows pts= .ok q→q.1.length=i+mt.length∧(∀vs∈q.1,vs.length≤255)∧∀id p,q.2[id]? =some p→(id=0∧p=dx)∨M9 q.1 id p
 |[],i,rows,pts,q,_,hr,_,hv,hq,h=>by
  unfold bp at h;cases h;exact⟨hr,hv,hq⟩
 |f::r,i,rows,pts,q,hf,hr,hp,hv,hq,h=>by
  unfold bp at h;obtain⟨a,ha,h⟩:=TR.bind_ok h;obtain⟨h1,new,h2,h3⟩:=JI (hf f (List.mem_cons_self ..)) hp ha
  have:=pO r (i+1) (rows ++[a.1]) a.2 q (fun g hg=>hf g (List.mem_cons_of_mem _ hg)) (by simp[hr]) (by rw[h2,List.length_append];omega) (fun vs hm=>by
   rcases List.mem_append.1 hm with hm|hm
   ·exact hv vs hm
   ·rw[List.mem_singleton.1 hm];exact h1) ?_ h
  ·exact⟨by simp only[List.length_cons];omega,this.2⟩
  intro id p hip;rw[h2]at hip;by_cases hi:id<pts.length
  ·rw[List.getElem?_append_left hi]at hip
   rcases hq id p hip with hz|⟨fn,vs,g1,g2,g3⟩
   ·exact .inl hz
   ·refine .inr ⟨fn,vs, ?_,g2,g3⟩
    rw[List.getElem?_append_left (List.getElem?_eq_some_iff.1 g1).1];exact g1
  ·rw[List.getElem?_append_right (by omega)]at hip
   have:=h3 _ p hip;rw[show pts.length+(id-pts.length)=id by omega]at this;exact .inr ⟨i,a.1,by rw[List.getElem?_append_right (by omega),hr];simp,h1,this⟩
theorem Ht{fs:List Fn}{q:List (List Vr)×List Pt}(h:bI fs= .ok q):∀id p,q.2[id]? =some p→M9 q.1 id p:=by
 unfold bI at h;obtain⟨u,hu,h⟩:=TR.bind_ok h
 obtain⟨h1,hv,h2⟩:=pO fs 0 [] [dx] q (fun f hf=>(mg hu f hf).1) rfl (by simp) (fun _ h=>by simp at h) (fun id p hi=>by
  cases id with
  |zero=>simp only[List.getElem?_cons_zero,Option.some.injEq]at hi;exact .inl ⟨rfl,hi.symm⟩
  |succ id=>simp at hi) h
 intro id p hi;rcases h2 id p hi with ⟨rfl,rfl⟩|h3
 ·cases fs with
  |nil=>cases hu
  |cons f r=>
   have hl:0<q.1.length:=by rw[h1];simp
   exact⟨0,_,List.getElem?_eq_getElem hl,hv _ (List.getElem_mem hl),rfl,List.Pairwise.nil,fun _ h=>by simp[dx]at h,fun _=>true,rfl⟩
 ·exact h3
theorem Cw:∀(S:List Nat)(lo n:Nat),S.Pairwise (· < ·)→(∀v∈S,lo≤v∧v<n)→S.length≤n-lo
 |[],_,_,_,_=>Nat.zero_le _
 |v::r,lo,n,hp,hb=>by
  rw[List.pairwise_cons]at hp;have h1:=hb v (List.mem_cons_self ..);have:=Cw r (v+1) n hp.2 fun w hw=>⟨hp.1 w hw,(hb w (List.mem_cons_of_mem _ hw)).2⟩
  simp only[List.length_cons];omega
theorem PtOk.len{vs:List Vr}{fn id:Nat}{p:Pt}(h:PtOk vs fn id p):p.seen.length≤vs.length:=by
 have:=Cw p.seen 0 vs.length h.inc fun v hv=>by
  obtain⟨x,h1,_⟩:=h.sn v hv;exact⟨Nat.zero_le _,(List.getElem?_eq_some_iff.1 h1).1⟩
 omega
end Go.Avm
namespace Go.Avm
open Go.Proofs
def NZ{α:Type}(r:TR α):Prop:=∀p e,r= .bad p e→e≠0
theorem NZ.bind{α β:Type}{r:TR α}{f:α→TR β}(h:NZ r)(hf:∀a,NZ (f a)):NZ (r.bind f):=fun p e he=>by
 cases r with
 |ok a=>exact hf a p e he
 |bad p' e'=>cases he;exact h _ _ rfl
 |out=>cases he
theorem NZ.bif{α:Type}{b:Bool}{x y:TR α}(hx:NZ x)(hy:NZ y):NZ (bif b then x else y):=by cases b<;>assumption
theorem NZ.ok{α:Type}{a:α}:NZ (TR.ok a):=fun _ _ h=>by cases h
theorem NZ.out{α:Type}:NZ (TR.out:TR α):=fun _ _ h=>by cases h
theorem NZ.bad{α:Type}{p e:Int}(h:e≠0):NZ (TR.bad p e:TR α):=fun _ _ q=>by cases q;exact h
theorem xh(E:TE)(nm:List UInt8)(p:Int):NZ (kf E nm p):=by
 unfold kf;split
 ·exact NZ.ok
 ·exact NZ.bad (by decide)
theorem xj(E:TE)(nm:List UInt8)(p:Int):NZ (nc E nm p):=NZ.bind (xh _ _ _) fun _=>NZ.bif NZ.ok (NZ.bad (by decide))
mutual
theorem Cx(E:TE):∀x:Ex,NZ (dy E x)
 | .mk k o nm n p xs=>by
  have hN:=fun ts eq=>gX E xs ts eq
  unfold dy;refine NZ.bif NZ.ok (NZ.bif (NZ.bind (xh _ _ _) fun _=>NZ.bif NZ.ok (NZ.bad (by decide))) ?_);refine NZ.bif (NZ.bind (xj _ _ _) fun _=>NZ.bind (hN _ _) fun _=>NZ.ok) ?_;refine NZ.bif (NZ.bind (xj _ _ _) fun _=>NZ.ok) (NZ.bif ?_ ?_)
  ·split
   ·exact NZ.bad (by decide)
   ·exact NZ.bif (NZ.bind (hN _ _) fun _=>NZ.ok) (NZ.bad (by decide))
  ·refine NZ.bif (NZ.bif (NZ.bind (hN _ _) fun _=>NZ.ok) (NZ.bind (hN _ _) fun _=>NZ.ok)) (NZ.bif (NZ.bif NZ.out ?_) NZ.ok)
   exact NZ.bif (NZ.bind (hN _ _) fun _=>NZ.ok) (NZ.bif (NZ.bind (hN _ _) fun _=>NZ.ok) (NZ.bind (hN _ _) fun _=>NZ.ok))
theorem gX(E:TE):∀(xs:List Ex)(ts:List (List Int))(eq:Bool),NZ (aB E xs ts eq)
 |[],[],_=>by unfold aB;exact NZ.ok
 |_::_,[],_=>by unfold aB;exact NZ.ok
 |[],_::_,_=>by unfold aB;exact NZ.out
 |x::xs,ts::r,eq=>by
  unfold aB;exact NZ.bind (Cx E x) fun t=>NZ.bif (gX E xs _ false) (NZ.bad (by decide))
end
theorem Na(fs:List Fn)(deep:Int)(nm:List UInt8)(id ty n p:Int)(es:List Ex)(c:CS):NZ (oB fs deep nm id ty n p es c):=by
 unfold oB;exact NZ.bif NZ.out (NZ.bind (gX _ _ _ _) fun _=>NZ.bif NZ.out (NZ.bif (NZ.bad (by decide)) (NZ.bif (NZ.bad (by decide)) (NZ.bif (NZ.bad (by decide)) (NZ.bif (NZ.bad (by decide)) NZ.ok)))))
theorem JJ(fs:List Fn)(fn:Nat)(p:Int)(es:List Ex)(c:CS):NZ (gR fs fn p es c):=by
 unfold gR;split
 ·exact NZ.out
 ·refine NZ.bif ?_ ?_
  ·split
   ·exact NZ.ok
   ·exact NZ.bind (Cx _ _) fun _=>NZ.bad (by decide)
  ·split
   ·exact NZ.bad (by decide)
   ·exact NZ.bind (NZ.bind (Cx _ _) fun _=>NZ.bif NZ.ok (NZ.bad (by decide))) fun _=>NZ.ok
mutual
theorem JK(fs:List Fn)(fn:Nat):∀(x:bu)(deep:Int)(c:CS),NZ (dz fs fn deep x c)
 | .mk k id nm ty n p es bd el,deep,c=>by
  have hb:=fun deep prev c=>oV fs fn bd deep prev c
  have he:=fun deep prev c=>oV fs fn el deep prev c
  unfold dz;refine NZ.bif ?_ NZ.out;dsimp only;refine NZ.bif (Na _ _ _ _ _ _ _ _ _) (NZ.bif (NZ.bind (xh _ _ _) fun _=>NZ.bif (NZ.bad (by decide)) (NZ.bind (gX _ _ _ _) fun _=>NZ.ok)) ?_);refine NZ.bif (NZ.bind (xj _ _ _) fun _=>NZ.bind (gX _ _ _ _) fun _=>NZ.ok) ?_;refine NZ.bif (NZ.bind (gX _ _ _ _) fun _=>NZ.bind (hb _ _ _) fun _=>NZ.bind (he _ _ _) fun _=>NZ.ok) ?_;refine NZ.bif (NZ.bind (gX _ _ _ _) fun _=>NZ.bind (hb _ _ _) fun _=>NZ.ok) ?_;refine NZ.bif (JJ _ _ _ _ _) (NZ.bif (NZ.bind (gX _ _ _ _) fun _=>NZ.ok) (NZ.bif ?_ NZ.ok));split
  ·exact NZ.out
  ·exact NZ.bind (Cx _ _) fun _=>NZ.ok
theorem oV(fs:List Fn)(fn:Nat):∀(l:List bu)(deep:Int)(prev:Bool)(c:CS),NZ (aX fs fn deep prev l c)
 |[],deep,prev,c=>by unfold aX;exact NZ.ok
 |x::r,deep,prev,c=>by
  unfold aX;exact NZ.bif (NZ.bad (by decide)) (NZ.bind (JK fs fn x _ _) fun _=>oV fs fn r _ _ _)
end
theorem Cy:∀(ps:List Pm)(k:Nat)(had:List (List UInt8)),NZ (ja k had ps)
 |[],_,_=>NZ.ok
 |p::r,k,had=>by
  simp only[ja];exact NZ.bif (NZ.bad (by decide)) (NZ.bif (NZ.bad (by decide)) (Cy r _ _))
theorem vH:∀(fs pre:List Fn),NZ (cq pre fs)
 |[],_=>NZ.ok
 |f::r,pre=>by
  simp only[cq];exact NZ.bif (NZ.bad (by decide)) (NZ.bind (Cy _ _ _) fun _=>vH r _)
theorem DK(fs:List Fn):NZ (di fs):=by
 unfold di;refine NZ.bind (vH _ _) fun _=> ?_
 split
 ·exact NZ.bad (by decide)
 ·exact NZ.bif NZ.ok (NZ.bad (by decide))
theorem vJ(fs:List Fn):∀(mt:List Fn)(i:Nat)(rows:List (List Vr))(pts:List Pt),NZ (bp fs i mt rows pts)
 |[],_,_,_=>NZ.ok
 |f::r,i,rows,pts=>by
  simp only[bp];refine NZ.bind ?_ fun _=>vJ fs r _ _ _
  unfold ff dQ;exact NZ.bind (NZ.bind (oV _ _ _ _ _ _) fun _=>NZ.ok) fun _=>NZ.bif NZ.ok (NZ.bad (by decide))
theorem Hu(fs:List Fn):NZ (bI fs):=NZ.bind (DK fs) fun _=>vJ fs fs _ _ _
theorem tY{fs:List Fn}:∀(mt:List Fn)(i:Nat)(rows:List (List Vr))(pts:List Pt)(n a:Int)(q:List (List Vr)×List Pt),i+mt.length≤fs.length→(∀f∈mt,nj f)→uv mt n a→n=(pts.length:Int)→pts.length+gU mt<900000000→bp fs i mt rows pts= .ok q→q.2.length≤pts.length+gU mt
 |[],_,_,_,_,_,q,_,_,_,_,_,h=>by
  unfold bp at h;cases h;exact Nat.le_add_right _ _
 |f::r,i,rows,pts,n,a,q,hi,hg,hN,hn,hb,h=>by
  simp only[List.length_cons]at hi;simp only[gU,Ju]at hb ⊢;cases hN with
  | @cons nm ps k bd p _ _ _ n1 a1 lb hNb hNr=>
  have hb:pts.length+(1+ps.length+cD bd+gU r)<900000000:=hb;obtain⟨g1,g2⟩:=Cn (fs:=fs) (i:=i) (by omega) (f:=⟨nm,ps,k,bd,p⟩) (hg _ (List.mem_cons_self ..)).bd hn hNb (by show pts.length+cD bd<_;omega);unfold bp at h;obtain⟨b,hb2,h⟩:=TR.bind_ok h;obtain⟨g3,g4⟩:=g2 b hb2;have g4:b.2.length≤pts.length+cD bd:=g4;have:=tY r (i+1) _ b.2 n1 a1 q (by omega) (fun f hf=>hg f (List.mem_cons_of_mem _ hf)) hNr g3.symm (by omega) h;show q.2.length≤pts.length+(1+ps.length+cD bd+gU r);omega
theorem vL{fs:List Fn}(h:PG fs){q:List (List Vr)×List Pt}(hq:bI fs= .ok q):q.2.length≤1000001:=by
 unfold bI at hq;obtain⟨_,_,hq⟩:=TR.bind_ok hq;have:=tY fs 0 [] [dx] 1 (-1) q (by omega) h.g h.num rfl (by have:=h.z;simp only[List.length_cons,List.length_nil];omega) hq;have:=h.z;simp only[List.length_cons,List.length_nil]at*;omega
end Go.Avm
namespace Go.Avm
open Go.Proofs
theorem tZ{fs:List Fn}{q:List (List Vr)×List Pt}(h:bI fs= .ok q):q.1.length=fs.length∧∀vs∈q.1,vs.length≤255:=by
 unfold bI at h;obtain⟨u,hu,h⟩:=TR.bind_ok h
 obtain⟨h1,hv,h2⟩:=pO fs 0 [] [dx] q (fun f hf=>(mg hu f hf).1) rfl (by simp) (fun _ h=>by simp at h) (fun id p hi=>by
  cases id with
  |zero=>simp only[List.getElem?_cons_zero,Option.some.injEq]at hi;exact .inl ⟨rfl,hi.symm⟩
  |succ id=>simp at hi) h
 exact⟨by simpa using h1,hv⟩
section
variable{a b:List D}
theorem Hv{n i:Nat}{vs:List Vr}(hr:a[((i:Nat):Int).toNat]? =some (.ro (vs.map q5)))(hl:vs.length≤255):∀d k:Nat,k+d=vs.length→RL 111 (lO 11 9) (DJ n i (vs.map q5).length k) (fV a b) (.exit 2) (uw n i) (fV a b)
 |0,k,h,rest,X,hP,hN=>aY (Hq a b n i _ k (by simp only[List.length_map,decide_eq_false_iff_not];omega) rest X hP hN) (by simp)
 |d+1,k,h,rest,X,hP,hN=>by
  have hk:k<vs.length:=by omega
  have hx:(vs.map q5)[((k:Nat):Int).toNat]? =some (q5 vs[k]):=by rw[Int.toNat_natCast,List.getElem?_map,List.getElem?_eq_getElem hk];rfl
  exact ba (M4 a b n i _ k _ (by simp only[List.length_map,decide_eq_true_eq];omega) hr _ _ _ _ hx (by omega) rest X hP hN) (Hv hr hl d (k+1) (by omega) rest X hP hN)
end
theorem Hw{rows:List (List Vr)}{b:List D}(hl:rows.length<1000000)(hv:∀vs∈rows,vs.length≤255):∀d i:Nat,i+d=rows.length→RL 111 (lO 11 4) (uw (cf rows).length i) (fV (cf rows) b) (.exit 0) [(2, .ptr 600156 1 0 0 1),(3, .ptr 600268 1 0 0 1)] (fV (cf rows) b)
 |0,i,h,rest,X,hP,hN=>aY (Hr (cf rows) b _ i (by simp only[cf,List.length_map,decide_eq_false_iff_not];omega) rest X hP hN) (by simp)
 |d+1,i,h,rest,X,hP,hN=>by
  have hi:i<rows.length:=by omega
  have hr:(cf rows)[((i:Nat):Int).toNat]? =some (.ro ((rows[i]).map q5)):=by rw[Int.toNat_natCast,cf,List.getElem?_map,List.getElem?_eq_getElem hi];rfl
  have hle:=hv rows[i] (List.getElem_mem hi);exact ba (M5 (cf rows) b _ i _ (by simp only[cf,List.length_map,decide_eq_true_eq];omega) hr (by omega) (fun rest X hP hN=>Hv hr hle _ 0 (Nat.zero_add _) rest X hP hN) rest X hP hN) (Hw hl hv d (i+1) (by omega) rest X hP hN)
theorem Hx{a:List D}{pts:List Pt}(hl:pts.length<1000000000)(hv:∀p∈pts,p.seen.length≤255∧p.sure.length≤255):∀d i:Nat,i+d=pts.length→RL 111 (lO 11 16) (vG (iU pts).length i) (fV a (iU pts)) (.exit 4) [] (fV a (iU pts))
 |0,i,h,rest,X,hP,hN=>aY (Hs a (iU pts) _ i (by simp only[iU,List.length_map,decide_eq_false_iff_not];omega) rest X hP hN) (by simp)
 |d+1,i,h,rest,X,hP,hN=>by
  have hi:i<pts.length:=by omega
  have hr:(iU pts)[((i:Nat):Int).toNat]? =some (ED pts[i]):=by rw[Int.toNat_natCast,iU,List.getElem?_map,List.getElem?_eq_getElem hi];rfl
  have hle:=hv pts[i] (List.getElem_mem hi);exact ba (M6 a (iU pts) _ i _ _ _ (by simp only[iU,List.length_map,decide_eq_true_eq];omega) hr (by omega) (Ho _ (by omega)) (Ho _ (by omega)) rest X hP hN) (Hx hl hv d (i+1) (by omega) rest X hP hN)
theorem DM{fs:List Fn}(g:PG fs){q:List (List Vr)×List Pt}(h:bI fs= .ok q):aK Pg 11 [yS q.1 q.2,yS q.1 q.2] [.bool true]:=by
 obtain⟨h1,h2⟩:=tZ h;have hz:=g.z;have hfl:=lM fs;have h3:=vL g h;refine SP _ _ (fun rest X hP hN=>Hw (by omega) h2 _ 0 (Nat.zero_add _) rest X hP hN) (fun rest X hP hN=>Hx (by omega) (fun p hp=> ?_) _ 0 (Nat.zero_add _) rest X hP hN);obtain⟨i,hi⟩:=List.getElem?_of_mem hp;obtain⟨fn,vs,g1,g2,g3⟩:=Ht h i p hi;have hsl:=g3.len;obtain⟨_,_,_,P,f3⟩:=g3;have:=List.length_filter_le P p.seen;rw[←f3]at this;omega
end Go.Avm
namespace Go.Avm
open Go.Proofs
noncomputable def Cz(s:List UInt8):bZ Pg:= .val (dI (if false=true then (if (s.length:Int)<3000 then 3000 else (s.length:Int))else if (3000:Int)<(s.length:Int)then 3000 else (s.length:Int))) (dN (min s.length 3000)) (by
 congr 2;rw[if_neg (by decide)];split<;>omega)
abbrev iX(s:List UInt8):List UInt8:=s.take (min s.length 3000)
theorem CA{s:List UInt8}{f:Bool}{P:D}{q e:Int}(hp:aK Pg 9 [.str (iX s)] [.agg [P], .agg [.ro [], .ro []], .int .i64 q, .int .i64 e])(he:(e !=0)=true):aK Pg 7 [.str s, .bool f] [.bool true]:=
 qV {hint:=qT 7 [(20, .call 8 _ _ ry),(25,Cz s),(26, .sub s 0 (min s.length 3000) (by omega)),(29, .call 9 _ _ hp),(35,qB he)]} 709297
abbrev rz(a b:List D):List (Nat×aN):=[(711358,⟨1,some (.arr 1 [.d (.ro a), .d (.ro b)])⟩)]
abbrev DN(s:List UInt8)(f:Bool)(fs:List D)(i:Nat):List (Nat×AV):=[(0, .d (.str s)),(1, .d (.bool f)),(6, .ptr 711358 1 0 0 1),(37, .d (.ro fs)),(38,dN fs.length),(39,dN i)]
abbrev Ns(s:List UInt8)(f:Bool):List (Nat×AV):=[(0, .d (.str s)),(1, .d (.bool f)),(6, .ptr 711358 1 0 0 1)]
section
variable(a b:List D)(s:List UInt8)(f:Bool)(fs:List D)(i:Nat)
theorem Nb(h:decide (i<fs.length)=false):RE 137 (lO 7 8) (DN s f fs i) (rz a b) (.exit 0) (Ns s f) (rz a b):=
 qE {hint:=qT 7 [(40,jO Pg i fs.length false h)]} 7 600000
section
variable(h:decide (i<fs.length)=true)(nm:List UInt8)(x1 x3:List D)(x2 x4:Int)(hr:fs[((i:Nat):Int).toNat]? =some (.agg [.str nm, .ro x1, .int .u8 x2, .ro x3, .int .i64 x4]))(hi:i<1000000)
include h hr hi
theorem Qa(hn:(nm==[122,122,57])=false):RE 137 (lO 7 8) (DN s f fs i) (rz a b) .normal (DN s f fs (i+1)) (rz a b):=
 qE {hint:=qT 7 [(40,jO Pg i fs.length true h),(41, .idx fs ((i:Nat):Int) _ (by omega) hr),(45,qB hn),(46,dk Pg i (by omega))]} 7 600000
theorem Qb(hn:(nm==[122,122,57])=true):RE 137 (lO 7 8) (DN s f fs i) (rz a b) .ret [(4, .d (.bool true))] (rz a b):=
 qE {hint:=qT 7 [(40,jO Pg i fs.length true h),(41, .idx fs ((i:Nat):Int) _ (by omega) hr),(45,qB hn)]} 7 600000
end
end
noncomputable def Qc{a b:List D}{s:List UInt8}{f:Bool}{fs:List D}(h:RL 137 (lO 7 8) (DN s f fs 0) (rz a b) (.exit 0) (Ns s f) (rz a b)):d7 Pg:=
 ⟨137,bO Pg 7 8,DN s f fs 0,fun _=>rz a b, .exit 0,Ns s f,fun _=>rz a b,fun rest X hP hN=>(h rest X hP hN).aw⟩
noncomputable def Qd{a b:List D}{s:List UInt8}{f:Bool}{fs:List D}(h:RL 137 (lO 7 8) (DN s f fs 0) (rz a b) .ret [(4, .d (.bool true))] (rz a b)):d7 Pg:=
 ⟨137,bO Pg 7 8,DN s f fs 0,fun _=>rz a b, .ret,[(4, .d (.bool true))],fun _=>rz a b,fun rest X hP hN=>(h rest X hP hN).aw⟩
theorem JL{s:List UInt8}{f:Bool}{fs a b:List D}(hp:aK Pg 9 [.str (iX s)] [.agg [.ro fs], .agg [.ro a, .ro b], .int .i64 0, .int .i64 0])(h:RL 137 (lO 7 8) (DN (iX s) f fs 0) (rz a b) .ret [(4, .d (.bool true))] (rz a b)):aK Pg 7 [.str s, .bool f] [.bool true]:=
 qV {loops:=fun g q=>if g=7 then (if q=8 then some (Qd h)else none)else none,hint:=qT 7 [(20, .call 8 _ _ ry),(25,Cz s),(26, .sub s 0 (min s.length 3000) (by omega)),(29, .call 9 _ _ hp)]} 709297
theorem Qe{s:List UInt8}{fs a b a2 b2:List D}{P:D}(hp:aK Pg 9 [.str (iX s)] [.agg [.ro fs], .agg [.ro a, .ro b], .int .i64 0, .int .i64 0])(ha:a.length<1000000)(hb:b.length<1000000000)(h:RL 137 (lO 7 8) (DN (iX s) true fs 0) (rz a b) (.exit 0) (Ns (iX s) true) (rz a b))
    (h2:aK Pg 9 [.str (kv ++iX s)] [.agg [P], .agg [.ro a2, .ro b2], .int .i64 0, .int .i64 0]) (hl:a2.length=a.length+1) (hl2:b2.length=b.length+2) (fn:Int) (S U:List D) (h1:b2[1]? =some (.agg [.int .i64 fn, .ro S, .ro U])) (hU:U.length=1):aK Pg 7 [.str s, .bool true] [.bool true]:=
 qV {loops:=fun g q=>if g=7 then (if q=8 then some (Qc h)else none)else none,hint:=qT 7 [(20, .call 8 _ _ ry),(25,Cz s),(26, .sub s 0 (min s.length 3000) (by omega)),(29, .call 9 _ _ hp),(51, .cat kv (iX s) (by simp only[kv,List.length_take,List.length_cons,List.length_nil];omega)),(52, .call 9 _ _ h2),(66, .val (dI (IntKind.i64.wrap ((a.length:Int)+1))) (dN (a.length+1)) (by rw[IntWalk.i64_in _ (by omega)];rfl)),(67,hB Pg ((a2.length:Int)==((a.length+1:Nat):Int)) true (by simp[hl])),(76, .val (dI (IntKind.i64.wrap ((b.length:Int)+2))) (dN (b.length+2)) (by rw[IntWalk.i64_in _ (by omega)];rfl)),(77,hB Pg ((b2.length:Int)==((b.length+2:Nat):Int)) true (by simp[hl2])),(82, .idx b2 1 _ (by decide) h1),(86,hB Pg ((U.length:Int)==1) true (by simp[hU]))]} 709297
theorem Qf{s:List UInt8}{fs a b:List D}{P:D}(hp:aK Pg 9 [.str (iX s)] [.agg [.ro fs], .agg [.ro a, .ro b], .int .i64 0, .int .i64 0])(ha:a.length<1000000)(hb:b.length<1000000000)(h:RL 137 (lO 7 8) (DN (iX s) false fs 0) (rz a b) (.exit 0) (Ns (iX s) false) (rz a b))
    (v p1 p2:D) (h2:aK Pg 9 [.str (iX s ++[10] ++kv)] [.agg [P], .agg [.ro (a ++[v]), .ro (b ++[p1,p2])], .int .i64 0, .int .i64 0]) (h3:aK Pg 11 [.agg [.ro a, .ro b], .agg [.ro ((a ++[v]).take a.length), .ro ((b ++[p1,p2]).take b.length)]] [.bool true]):aK Pg 7 [.str s, .bool false] [.bool true]:=
 qV {loops:=fun g q=>if g=7 then (if q=8 then some (Qc h)else none)else none,hint:=qT 7 [(20, .call 8 _ _ ry),(25,Cz s),(26, .sub s 0 (min s.length 3000) (by omega)),(29, .call 9 _ _ hp),(90, .cat (iX s) [10] (by simp only[List.length_take,List.length_cons,List.length_nil];omega)),(92, .cat (iX s ++[10]) kv (by simp only[kv,List.length_take,List.length_append,List.length_cons,List.length_nil];omega)),(93, .call 9 _ _ h2),(107, .val (dI (IntKind.i64.wrap ((a.length:Int)+1))) (dN (a.length+1)) (by rw[IntWalk.i64_in _ (by omega)];rfl)),(108,hB Pg (((a ++[v]).length:Int) !=((a.length+1:Nat):Int)) false (by simp)),(117, .val (dI (IntKind.i64.wrap ((b.length:Int)+2))) (dN (b.length+2)) (by rw[IntWalk.i64_in _ (by omega)];rfl)),(118,hB Pg (((b ++[p1,p2]).length:Int) !=((b.length+2:Nat):Int)) false (by simp)),(125, .cutl (a ++[v]) a.length (by simp)),(131, .cutl (b ++[p1,p2]) b.length (by simp)),(136, .call 11 _ _ h3)]} 709297
end Go.Avm
namespace Go.Avm
open Go.Proofs
section
variable{a b:List D}{s:List UInt8}{f:Bool}{l:List Fn}(hl:l.length<1000000)
include hl
theorem Hy(hz:∀g∈l,g.nm≠DS):∀d i:Nat,i+d=l.length→RL 137 (lO 7 8) (DN s f (l.map cW) i) (rz a b) (.exit 0) (Ns s f) (rz a b)
 |0,i,h,rest,X,hP,hN=>aY (Nb a b s f _ i (by simp only[List.length_map,decide_eq_false_iff_not];omega) rest X hP hN) (by simp)
 |d+1,i,h,rest,X,hP,hN=>by
  have hi:i<l.length:=by omega
  have hr:(l.map cW)[((i:Nat):Int).toNat]? =some (cW l[i]):=by rw[Int.toNat_natCast,List.getElem?_map,List.getElem?_eq_getElem hi];rfl
  have hn:=hz l[i] (List.getElem_mem hi);exact ba (Qa a b s f _ i (by simp only[List.length_map,decide_eq_true_eq];omega) _ _ _ _ _ hr (by omega) (beq_eq_false_iff_ne.2 hn) rest X hP hN) (Hy hz d (i+1) (by omega) rest X hP hN)
theorem Hz:∀d i:Nat,i+d=l.length→(l.drop i).any (·.nm==DS)=true→RL 137 (lO 7 8) (DN s f (l.map cW) i) (rz a b) .ret [(4, .d (.bool true))] (rz a b)
 |0,i,h,hz,rest,X,hP,hN=>by
  rw[List.drop_eq_nil_iff.2 (by omega)]at hz;cases hz
 |d+1,i,h,hz,rest,X,hP,hN=>by
  have hi:i<l.length:=by omega
  have hr:(l.map cW)[((i:Nat):Int).toNat]? =some (cW l[i]):=by rw[Int.toNat_natCast,List.getElem?_map,List.getElem?_eq_getElem hi];rfl
  have hlt:decide (i<(l.map cW).length)=true:=by simp only[List.length_map,decide_eq_true_eq];omega
  rw[List.drop_eq_getElem_cons hi,List.any_cons]at hz;cases hn:(l[i].nm==DS)with
  |true=>exact aY (Qb a b s f _ i hlt _ _ _ _ _ hr (by omega) hn rest X hP hN) (by simp)
  |false=>
   rw[hn,Bool.false_or]at hz;exact ba (Qa a b s f _ i hlt _ _ _ _ _ hr (by omega) hn rest X hP hN) (Hz d (i+1) (by omega) hz rest X hP hN)
end
theorem HA(s:List UInt8)(f:Bool):aK Pg 7 [.str s, .bool f] [.bool true]:=by
 have hp:=pJ (iX s);have hr:=ru (iX s);unfold gW at hp;cases h:gV (iX s)with
 |error x=>
  obtain⟨q,e⟩:=x;rw[h]at hp hr;exact CA hp (by simpa using hr.2)
 |ok l=>
  rw[h]at hp hr;have g:PG l:=hr.2;have hno:=lR g;have hnz:=Hu l;dsimp only at hp;cases hc:bI l with
  |out=>exact absurd hc hno
  |bad p e=>
   rw[hc]at hp hnz;exact CA hp (bne_iff_ne.2 (hnz _ _ rfl))
  |ok q=>
   obtain⟨rows,pts⟩:=q;rw[hc]at hp;have hlen:l.length<1000000:=Nat.lt_of_le_of_lt (lM l) g.z;have hrl:=(tZ hc).1;have hpl:=vL g hc;dsimp only at hrl hpl;have ha:(cf rows).length<1000000:=by simp only[cf,List.length_map];omega
   have hb:(iU pts).length<1000000000:=by simp only[iU,List.length_map];omega
   have ht:(iX s).length≤3000:=by simp only[iX,List.length_take];omega
   cases hz:l.any (·.nm==DS)with
   |true=>exact JL hp fun rest X hP hN=>Hz hlen _ 0 (Nat.zero_add _) hz rest X hP hN
   |false=>
    have hz:∀g∈l,g.nm≠DS:=fun g hg he=>by
     have:l.any (·.nm==DS)=true:=List.any_eq_true.2 ⟨g,hg,by rw[he];exact beq_self_eq_true _⟩;rw[hz]at this;cases this
    cases f with
    |true=>
     obtain⟨l',rows',pts',h1,h2,h3,h4,p,h5,h6⟩:=Be ht h hc hz;have hq:=pJ (kv ++iX s);unfold gW at hq;rw[h1]at hq;dsimp only at hq;rw[h2]at hq;exact Qe hp ha hb (fun rest X hP hN=>Hy hlen hz _ 0 (Nat.zero_add _) rest X hP hN) hq (by simp only[cf,List.length_map,h3]) (by simp only[iU,List.length_map,h4]) _ _ _ (by rw[iU,List.getElem?_map,h5];rfl) (by simp only[bW,List.length_map,h6])
    |false=>
     obtain⟨l',v,x,y,h1,h2⟩:=DI ht h hc hz;have hq:=pJ (iX s ++[10] ++kv);have e:iX s ++[10] ++kv=iX s ++10::kv:=by rw[List.append_assoc];rfl
     unfold gW at hq;rw[e,h1,←e]at hq;dsimp only at hq;rw[h2]at hq;simp only[B0,yS,cf,iU,List.map_append]at hq;have hs:=DM g hc;refine Qf hp ha hb (fun rest X hP hN=>Hy hlen hz _ 0 (Nat.zero_add _) rest X hP hN) (.ro (v.map q5)) (ED x) (ED y) hq ?_;rw[List.take_left,List.take_left];exact hs
end Go.Avm
namespace Go.Avm
open Go.ChangeShapes Go.WideShapes Go.ChangeAt Go.RowKit Go.ChangeMaps Go.Proofs Go.Proofs.YtcjiafanhlhdlaaGreatDoor
def zs:List Int:=(List.range 256).map fun n=>if n=9∨n=10∨n=11∨n=12∨n=13∨n=32 then 1 else 0
theorem Nc:jN=zs.map fun z=> .int .u8 z:=by
 unfold jN zs;rw[List.map_map];rfl
theorem Nd:Pg.globalNamed "strings.asciiSpace"=some 1:=by kernel_rfl
theorem HB:(Pg.globals[1]?).map (·.type)=some 208:=by kernel_rfl
theorem Tn:Pg.globalNamed "strconv.ErrRange"=some 5:=by kernel_rfl
theorem JM:(Pg.globals[5]?).map (·.type)=some 105:=by kernel_rfl
theorem HD:Pg.cellsOf 272=1:=by kernel_rfl
theorem Nf:Pg.cellsOf 9=1:=by kernel_rfl
theorem Qg: "*" ++ "errors.errorString"= "*errors.errorString":=by decide
theorem Ng(u:TypeId)(h:Pg.typeName? 3 u=some "*errors.errorString"):u=270:=
 typeName_ptr_named (nm:= "errors.errorString") (by rw[Qg];kernel_rfl) (by kernel_rfl) (by decide) u (by rw[Qg];exact h)
theorem JN:Pg.cellsOf 208=256:=by kernel_rfl
theorem Nh:Pg.cellsOf 5=1:=by kernel_rfl
abbrev xl:List (String×DataW Unit):=Rows.typesPointsRow.laid
theorem only:(xl.filter fun x=>x.1== "strings.asciiSpace")=[("strings.asciiSpace",Lib.tabData .u8 zs)]:=by kernel_rfl
theorem Qh:(xl.filter fun x=>x.1== "strconv.ErrRange")=[("strconv.ErrRange", .iface "*errors.errorString" (.ptr (.agg [.lit (.string [118,97,108,117,101,32,111,117,116,32,111,102,32,114,97,110,103,101])])))]:=by kernel_rfl
structure xm(W:World):Prop where
 tab:Lib.TabIs Pg W "strings.asciiSpace" .u8 zs
 err:∃t v,W.cell? ⟨5,0,none⟩=some (.iface t v)
theorem Ni{W:World}(h:laidMetH Pg xl W):xm W:=by
 constructor
 ·have h1:=h.filter fun x=>x.1== "strings.asciiSpace"
  rw[only,MakeChecks.laidMetH_plain _ _ _ (by kernel_rfl)]at h1;exact Lib.tabIs_of_head Nd HB Tryz.underlying208 Tryz.underlying5 Nh JN h1
 ·have h1:=h.filter fun x=>x.1== "strconv.ErrRange"
  rw[Qh,MakeChecks.laidMetH_plain _ _ _ (by kernel_rfl)]at h1;obtain⟨a0,s0,hv0,-,-,-⟩:=laid_sentinel h1 Tn JM Tryz.underlying105 Ng Tryz.underlying270 Tryz.underlying272 rfl rfl Tryz.underlying9 HD Nf;exact⟨_,_,by have h0:=World.var?_cell Tn hv0 0;simpa using h0⟩
def Bf(b o:Nat):Prop:=(b=1∧o<256)∨(b=5∧o=0)
theorem HE{W:World}(h:xm W):Globs Bf W:=fun g cs hg=>by
 have hg':(if g=1 then some jN else if g=5 then some [.ifc]else none)=some cs:=hg;split at hg'
 case isTrue hg0=>
  subst hg0;cases hg';have hlen:zs.length=256:=by simp[zs]
  have hget:∀(t:Nat)(c:D),jN[t]? =some c→t<256∧c= .int .u8 (zs.getD t 0):=fun t c hc=>by
   rw[Nc,List.getElem?_map,Option.map_eq_some_iff]at hc;obtain⟨z,hz,rfl⟩:=hc;refine⟨by rw[←hlen];exact(List.getElem?_eq_some_iff.1 hz).1, ?_⟩;rw[List.getD,hz];rfl
  refine .rp jN 1 0 (fun t=> .int .u8 (zs.getD t 0)) (fun e he=> ?_) (fun t c hc=> .inl ⟨rfl,by rw[Nat.zero_add];exact(hget t c hc).1⟩) (fun t c hc=> ?_) (fun t c hc=> ?_)
  ·obtain⟨t,ht⟩:=List.getElem?_of_mem he
   rw[(hget t e ht).2];rfl
  ·rw[Nat.zero_add]
   exact h.tab.cell Nd t (by rw[hlen];exact(hget t c hc).1)
  ·rw[(hget t c hc).2]
   exact .int _ _
 case isFalse hg0=>
  split at hg';case isFalse=>cases hg'
  rename_i hg3;subst hg3;cases hg';obtain⟨ty,v,hc⟩:=h.err
  have hget:∀(t:Nat)(c:D),[D.ifc][t]? =some c→t=0∧c= .ifc:=fun t c hc=>by
   cases t with
   |zero=>simp at hc;exact⟨rfl,hc.symm⟩
   |succ t=>simp at hc
  refine .rp [.ifc] 5 0 (fun _=> .iface ty v) (fun e he=> ?_) (fun t c hc'=> .inr ⟨rfl,by rw[Nat.zero_add];exact(hget t c hc').1⟩) (fun t c hc'=> ?_) (fun t c hc'=> ?_)
  ·simp at he;subst he;rfl
  ·rw[Nat.zero_add,(hget t c hc').1]
   exact hc
  ·rw[(hget t c hc').2]
   exact .ifc _ _
theorem Nj{W:World}(h:xm W):∀b o,Bf b o→b<W.heap.size:=fun b o hbo=>by
 rcases hbo with ⟨rfl,ho⟩|⟨rfl,rfl⟩
 ·have hc:=h.tab.cell Nd 0 (by simp[zs])
  unfold World.cell? at hc;cases hh:W.heap[1]? with
  |none=>rw[hh]at hc;cases hc
  |some o=>exact(Array.getElem?_eq_some_iff.1 hh).1
 ·obtain⟨ty,v,hc⟩:=h.err
  unfold World.cell? at hc;cases hh:W.heap[5]? with
  |none=>rw[hh]at hc;cases hc
  |some o=>exact(Array.getElem?_eq_some_iff.1 hh).1
end Go.Avm
