/-
  Types: a let, whatever it says.
-/
import Derived.Test.YtcjiafanhlhdlaaGreatDoorG09
import Derived.Test.YtcjiafanhlhdlaaGreatDoorG07
set_option linter.unusedVariables false
set_option linter.unusedSimpArgs false
set_option linter.unusedSectionVars false
namespace Go.Avm
open Go.Proofs
theorem rV{x:List UInt8}:∀{l:eL}{j:Nat},(∀p∈l,p.1≠x)→ct x l j=none
 |[],_,_=>rfl
 |e::r,j,h=>by
  have a:(x==e.1)=false:=beq_eq_false_iff_ne.2 (Ne.symm (h e (by simp)));simp only[ct,a,xP];exact rV fun p hp=>h p (by simp[hp])
theorem j0{x:Nat}:∀{l:List (Nat×Nat)}{j:Nat},(∀p∈l,p.1≠x)→bQ x l j=none
 |[],_,_=>rfl
 |e::r,j,h=>by
  have a:(x==e.1)=false:=beq_eq_false_iff_ne.2 (Ne.symm (h e (by simp)));simp only[bQ,a,xP];exact j0 fun p hp=>h p (by simp[hp])
theorem zv{S:CK}(h:CKok S){nm:List UInt8}(a:(S.c.vars.any fun v=>v.nm==nm)=false):ct nm S.c.seen 0=none:=rV fun p hp e=>by
 have:=h.had p hp;rw[e,a]at this;cases this
theorem BU{S:CK}(h:CKok S){v:Vr}(i:v.nm.length≤1000000)(g:(S.c.vars.any fun w=>w.nm==v.nm)=false)(j:S.c.vars.length<255):CKok (S.add v) where
 fn:=h.fn
 W:=h.W
 dat:=h.dat
 len:=h.len
 par:=h.par
 vars:=by simp only[CK.add,CS.add,xK,xG,xS];omega
 seen:=fun p hp=>by
  simp only[CK.add,CS.add,xK,xG,xS,xU,xM]at hp ⊢;rcases hp with hp|rfl
  ·have:=h.seen p hp;omega
  ·simp
 inc:=by
  simp only[CK.add,CS.add,xF,xH,xY];rw[List.pairwise_append];refine⟨h.inc,by simp,fun a f b d=> ?_⟩;obtain⟨p,hp,rfl⟩:=x9.1 f;simp only[xM]at d;subst d;exact h.seen p hp
 nms:=by
  simp only[CK.add,CS.add,xF,xH,xY];rw[zF];refine⟨h.nms,by simp,fun a f b d=> ?_⟩;obtain⟨p,hp,rfl⟩:=x9.1 f;simp only[xM]at d;subst d;intro e;have:=h.had p hp;rw[e,g]at this;cases this
 nml:=fun p hp=>by
  simp only[CK.add,CS.add,xU,xM]at hp;rcases hp with hp|rfl
  ·exact h.nml p hp
  ·exact i
 had:=fun p hp=>by
  simp only[CK.add,CS.add,xU,xM,List.any_append,yQ]at hp ⊢;rcases hp with hp|rfl
  ·exact .inl (h.had p hp)
  ·exact .inr (by simp)
 sk:=h.sk
 sb:=h.sb
 sc:=h.sc
 sv:=fun p hp=>by
  have:=h.sv p hp;simp only[CK.add,CS.add,xK,xG,xS];omega
 pts:=h.pts
theorem rX{x:Nat}:∀{l:List (Nat×Nat)}{j:Nat},(∃p∈l,p.1=x)→(bQ x l j).isSome=true
 |[],_,h=>by simp at h
 |e::r,j,h=>by
  cases a:(x==e.1)with
  |true=>simp only[bQ,a,xW];rfl
  |false=>
   simp only[bQ,a,xP];refine rX ?_;obtain⟨p,hp,b⟩:=h;rcases x0.1 hp with rfl|hp
   ·rw[b]at a;simp at a
   ·exact⟨p,hp,b⟩
theorem vu{S:CK}(h:CKok S)(i:Nat)(k:i<S.c.vars.length):CKok (S.put i):=by
 cases f:S.c.sure.has i with
 |true=>
  have e:S.put i=S:=by simp only[CK.put,SureL.put,f,xW]
  rw[e];exact h
 |false=>
  have e:S.c.sure.put i=⟨S.c.sure.l ++[(i,S.c.sure.c)],S.c.sure.c+1⟩:=by simp only[SureL.put,f,xP]
  have n:∀p∈S.c.sure.l,p.1≠i:=fun p hp m=>by
   have:=rX (x:=i) (j:=0) ⟨p,hp,m⟩;unfold SureL.has at f;rw[f]at this;cases this
  exact{h with
   sk:=by
    simp only[CK.put,e,xF,xH,xY];rw[zF];refine⟨h.sk,by simp,fun a g b d=> ?_⟩;obtain⟨p,hp,rfl⟩:=x9.1 g;simp only[xM]at d;subst d;exact n p hp
   sb:=by
    simp only[CK.put,e,xF,xH,xY];rw[zF];refine⟨h.sb,by simp,fun a g b d=> ?_⟩;obtain⟨p,hp,rfl⟩:=x9.1 g;simp only[xM]at d;subst d;have:=h.sc p hp;omega
   sc:=fun p hp=>by
    simp only[CK.put,e,xU,xM]at hp ⊢;rcases hp with hp|rfl
    ·have:=h.sc p hp;omega
    ·simp
   sv:=fun p hp=>by
    simp only[CK.put,e,xU,xM]at hp;rcases hp with hp|rfl
    ·exact h.sv p hp
    ·exact k}
end Go.Avm
namespace Go.Avm
open Go.Proofs
structure Gv where
 vh:Nat
 vs:Nat
 vq:Nat
 vv:Nat
 vp:Nat
abbrev cv(g:Gv):List (Nat×aE):=[(500000,⟨1,none⟩),(499904,⟨1,none⟩),(500002,⟨g.vh,none⟩),(500003,⟨g.vs,none⟩),(500004,⟨g.vq,none⟩),(500005,⟨g.vv,none⟩),(500382,⟨g.vp,none⟩),(500191,⟨1,none⟩)]
def CK.gv(S:CK):Gv:=⟨S.vh,S.vs,S.vq,S.vv,S.vp⟩
theorem Er{P:Program}{g:Nat}{args:List AV}{x:AV}{h c h2:aa}(d:iH P g args h x c)(o:∀k,(h2 k).ver=(c k).ver∧((h2 k).ob=none∨(h2 k).ob=(c k).ob)):iH P g args h x h2:=
 ⟨d.1,fun G B w0 I0 w b f l a=>(d.2 G B w0 I0 w b f l a).mono fun _ _ ⟨v,j,n,i,e,m⟩=>⟨v,j,n,i,e.forget o,m⟩⟩
theorem zw(a:aa):∀(l:List (Nat×aE))(k:Nat),(ae (l.map fun p=>(p.1,(⟨p.2.ver,none⟩:aE))) a k).ver=(ae l a k).ver∧((ae (l.map fun p=>(p.1,(⟨p.2.ver,none⟩:aE))) a k).ob=none∨(ae (l.map fun p=>(p.1,(⟨p.2.ver,none⟩:aE))) a k).ob=(ae l a k).ob)
 |[],_=>⟨rfl, .inr rfl⟩
 |(b,e)::r,k=>by
  simp only[xH,ae,aG];split
  ·exact⟨rfl, .inl rfl⟩
  ·exact zw a r k
abbrev Nv(S:CK)(f:Nat)(args:List AV)(p e:Int):Prop:=∃g,HX f args (ck S) (aD p e) (cv g)
theorem hQ{S S':CK}{f:Nat}{args:List AV}{p e:Int}(h:HX f args (ck S) (aD p e) (ck S')):Nv S f args p e:=
 ⟨S'.gv,fun a=>Er (h a) (zw a (ck S'))⟩
structure Nx(S S':CK)(c:CS):Prop where
 ok:CKok S'
 c:S'.c=c
 fs:S'.fs=S.fs
 fn:S'.fn=S.fn
 deep:S'.deep=S.deep
 W:S'.W=S.W
 vars:S.c.vars<+:S'.c.vars
def TC(S:CK)(f:Nat)(args:List AV):TR CS→Prop
 | .ok c=>∃S',Nx S S' c∧HC f args (ck S) [] (ck S')
 | .bad p e=>Nv S f args p e
 | .out=>True
theorem CKok.nx{S:CK}(h:CKok S):Nx S S S.c:=⟨h,rfl,rfl,rfl,rfl,rfl,yp _⟩
theorem Uq{S:CK}(h:CKok S)(k id:Int)(nm:List UInt8)(ty n p:Int)(es:List Ex)(bd a:List aP):TC S 104 [aI,eG k id nm ty n p es bd a] (tf S.fs S.deep nm id ty n p es S.c):=by
 unfold tf;cases y:decide (1000000≤es.length)with
 |true=>exact trivial
 |false=>
  have x:=ya y;have c:=LG h k id nm ty n p es bd a (by omega) _ 0 rfl (xz _);rw[xn]at c;simp only[xP];revert c;cases ay (S.c.te S.fs) es (es.map fun _=>[ty]) false with
  |out=>exact fun _=>trivial
  |bad u r=>exact fun c=>hQ (S':=S) (QR h k id nm ty n p es bd a u r c)
  |ok _=>
   intro c;have c:Nn S k id nm ty n p es bd a:=c;simp only[TR.bind];cases o:decide (1000000<nm.length)with
   |true=>exact trivial
   |false=>
   have w:=ya o;simp only[xP];cases b:S.c.vars.any fun v=>v.nm==nm with
   |true=>
    obtain⟨q,f⟩:=tV nm S.c.vars 0 0 b;exact hQ (Gf h k id nm ty n p es bd a c q f)
   |false=>
   have t:=zv h b;simp only[xP];cases d:(ty==3)with
   |true=>
    simp only[Bool.true_and,Bool.true_or];cases j:(S.deep==0)with
    |false=>exact hQ (JI h k id nm ty n p es bd a c b d j)
    |true=>
    simp only[Bool.not_true,xP];cases m:decide (1≤n)with
    |false=>exact hQ (No h k id nm ty n p es bd a c b d j m)
    |true=>
    cases h2:decide (n≤256)with
    |false=>exact hQ (JJ h k id nm ty n p es bd a c b d j m h2)
    |true=>
    simp only[Bool.and_self,Bool.not_true,xP];cases g:decide (255≤S.c.vars.length)with
    |true=>exact hQ (Gg h k id nm ty n p es bd a c b d j m h2 (by have:=xe g;simp;omega))
    |false=>
    have s:=ya g;have h':=BU h (v:=⟨nm,ty,n,id⟩) (by simp only;omega) b (by omega);have f:bQ S.c.vars.length S.c.sure.l 0=none:=j0 fun p hp e=>by have:=h.sv p hp;omega
    refine⟨(S.add ⟨nm,ty,n,id⟩).put S.c.vars.length,⟨vu h' _ (by simp[CK.add,CS.add]),rfl,rfl,rfl,rfl,rfl,zO _ _⟩, ?_⟩;rw[←vr (S:=S.add ⟨nm,ty,n,id⟩) (i:=S.c.vars.length) f];exact Nr h k id nm ty n p es bd a c b t h' (by simp;omega) d j m h2 f
   |false=>
    simp only[Bool.false_and,xP,Bool.false_or];cases g:decide (255≤S.c.vars.length)with
    |true=>exact hQ (Gi h k id nm ty n p es bd a c b d (by have:=xe g;simp;omega))
    |false=>
    have s:=ya g;have h':=BU h (v:=⟨nm,ty,n,id⟩) (by simp only;omega) b (by omega);have f:bQ S.c.vars.length S.c.sure.l 0=none:=j0 fun p hp e=>by have:=h.sv p hp;omega
    cases es with
    |nil=>exact⟨S.add ⟨nm,ty,n,id⟩,⟨h',rfl,rfl,rfl,rfl,rfl,zO _ _⟩,Np h k id nm ty n p [] bd a c b t h' (by simp;omega) d rfl⟩
    |cons e r=>
     refine⟨(S.add ⟨nm,ty,n,id⟩).put S.c.vars.length,⟨vu h' _ (by simp[CK.add,CS.add]),rfl,rfl,rfl,rfl,rfl,zO _ _⟩, ?_⟩;rw[←vr (S:=S.add ⟨nm,ty,n,id⟩) (i:=S.c.vars.length) f];exact Nq h k id nm ty n p (e::r) bd a c b t h' (by simp;omega) d (nO _ _) f
end Go.Avm
namespace Go.Avm
open Go.Proofs
theorem BV:da Pg 74:=⟨_,Tryz.func74,rfl,by decide⟩
theorem BW:da Pg 109:=⟨_,Tryz.func109,rfl,by decide⟩
theorem Gj(v:Nat)(es:List (D×D×Nat))(c:Nat):∀a:aa,am Pg 74 [.mp 500003 v] (ae [(500003,⟨v,some (.map es c)⟩),(500013,⟨0,none⟩)] a) [.mp 500013 1] (ae [(500003,⟨v,some (.map es c)⟩),(500013,⟨1,some (.map es c)⟩)] a):=fun a=>by
 have h:=pw BV (fun b es c w f=>AnyW.maps_Clone Tryz.lclonea b es c w f) (h:=ae [(500003,⟨v,some (.map es c)⟩),(500013,⟨0,none⟩)] a) (k:=500003) (v:=v) 500013 (es:=es) (c:=c) rfl
 have e:aG (ae [(500003,⟨v,some (.map es c)⟩),(500013,⟨0,none⟩)] a) 500013 ⟨1,some (.map es c)⟩=ae [(500003,⟨v,some (.map es c)⟩),(500013,⟨1,some (.map es c)⟩)] a:=by
  funext k;simp only[ae,aG];by_cases d:k=500013
  ·subst d;rfl
  ·simp only[d,yi]
 rw[←e];exact h
theorem mP(v:Nat)(es:List (D×D×Nat))(c:Nat):∀a:aa,am Pg 109 [.mp 500004 v] (ae [(500004,⟨v,some (.map es c)⟩),(500014,⟨0,none⟩)] a) [.mp 500014 1] (ae [(500004,⟨v,some (.map es c)⟩),(500014,⟨1,some (.map es c)⟩)] a):=fun a=>by
 have h:=pw BW (fun b es c w f=>AnyW.maps_Clone Tryz.lcloneb b es c w f) (h:=ae [(500004,⟨v,some (.map es c)⟩),(500014,⟨0,none⟩)] a) (k:=500004) (v:=v) 500014 (es:=es) (c:=c) rfl
 have e:aG (ae [(500004,⟨v,some (.map es c)⟩),(500014,⟨0,none⟩)] a) 500014 ⟨1,some (.map es c)⟩=ae [(500004,⟨v,some (.map es c)⟩),(500014,⟨1,some (.map es c)⟩)] a:=by
  funext k;simp only[ae,aG];by_cases d:k=500014
  ·subst d;rfl
  ·simp only[d,yi]
 rw[←e];exact h
theorem j4{S:CK}(h:CKok S){g:Gv}{ar:List AV}(a:bk (dm ((ck S).map (·.1)) 1000000) ar=ar):Cln ((ck S).map (·.1)) 1000000 ar (ck S) (cv g):=
 ⟨rfl,rfl,rfl,a,fW h rfl,rfl⟩
theorem lk{S:CK}(h:CKok S){g:Gv}{a b:List (Nat×aE)}{ar:List AV}(e:(((ck S ++a).map (·.1)).all fun k=>Nat.blt k 1000000)=true)(d:b.map (·.1)=a.map (·.1))(j:([499904,500002,500003,500004,500005,500382,500191].map (dm ((ck S ++a).map (·.1)) 1000000))=[499904,500002,500003,500004,500005,500382,500191])
    (l:bk (dm ((ck S ++a).map (·.1)) 1000000) ar=ar) (i:(a.map fun p:Nat×aE=>aY (dm ((ck S ++a).map (·.1)) 1000000) p.2)=a.map (·.2)) (c:(b.map fun p:Nat×aE=>aY (dm ((ck S ++a).map (·.1)) 1000000) p.2)=b.map (·.2)):
    Cln ((ck S ++a).map (·.1)) 1000000 ar (ck S ++a) (cv g ++b):=
 ⟨e,rfl,by rw[xF,xF,d];rfl,l,by
  have m:=fW h j;rw[xF,xF (f:=fun p:Nat×aE=>p.2),m,i],by
  rw[xF,xF (f:=fun p:Nat×aE=>p.2),c];rfl⟩
abbrev zx(es:List (D×D×Nat))(n:Nat):List (Nat×aE):=[(500013,⟨1,some (.map es n)⟩)]
abbrev C2(l:List aP)(i:Nat):List (Nat×AV):=[(0,aI),(1, .d (.ro (cg l))),(4, .mp 500013 1),(12, .d (.ro (cg l))),(13,dN (cg l).length),(14,dN i)]
abbrev Ur:List (Nat×AV):=[(0,aI),(4, .mp 500013 1)]
abbrev Xf(S S':CK)(x:aP):Prop:=HC 76 [aI, .d (mn x)] (ck S) [] (ck S')
abbrev QV(S:CK)(x:aP)(g:Gv)(p e:Int):Prop:=HX 76 [aI, .d (mn x)] (ck S) (aD p e) (cv g)
def Gk(P:Program)(j:Nat)(h:j+1<1000000):bX P:= .val (dI (IntKind.i64.wrap (((j+1:Nat):Int)-1))) (dN j) (by
 congr 2;rw[IntWalk.i64_in _ (by omega)];omega)
def zy(P:Program)(l:List aP)(i:Nat)(x:aP)(a:l[i]? =some x):bX P:= .idx (cg l) ((i:Nat):Int) (mn x) (by omega) (by rw[xb,jW,xN,a];rfl)
section
variable{S S':CK}(h:CKok S)(h':CKok S')(es:List (D×D×Nat))(n:Nat)(l:List aP)(i:Nat)
include h
theorem QW(a:decide (i<(cg l).length)=false):RE 41 (lO 49 2) (C2 l i) (ck S ++zx es n) (.exit 0) Ur (ck S ++zx es n):=
 qE {hint:=qT 49 [(15,dk Pg i (cg l).length false a)]} 49 2000 (gG h h rfl rfl rfl rfl rfl rfl)
section
variable(k id:Int)(nm:List UInt8)(ty b p:Int)(xs:List Ex)(bd a:List aP)
include k id nm ty b p xs bd a
theorem Nw(e:l[0]? =some (.mk k id nm ty b p xs bd a))(d:decide (0<(cg l).length)=true)(g:Gv)(u r:Int)(c:QV S (.mk k id nm ty b p xs bd a) g u r):RE 41 (lO 49 2) (C2 l 0) (ck S ++zx es n) (.panic (aD u r)) [] (cv g ++[(500013,⟨1,none⟩)]):=
 qE {hint:=qT 49 [(15,dk Pg 0 (cg l).length true d),(17,zy Pg l 0 _ e)],calls:=tC [(49,32,2533,be rfl (aU p 11))],pans:=an Pg [(49,5,2533,⟨2,some (bg c),[]⟩)]} 49 2000 (lk h rfl rfl rfl rfl rfl rfl)
theorem Ny(j:Nat)(y:l[j+1]? =some (.mk k id nm ty b p xs bd a))(t q:Int)(e:List UInt8)(f v s:Int)(bl:List Ex)(o m:List aP)(z:l[j]? =some (.mk t q e f v s bl o m))(hm:j+1<1000000)(w:HC 75 [.d (mn (.mk t q e f v s bl o m))] [] [.bool false] [])(x:decide (j+1<(cg l).length)=true)(g:Gv)(u r:Int)(c:QV S (.mk k id nm ty b p xs bd a) g u r):RE 41 (lO 49 2) (C2 l (j+1)) (ck S ++zx es n) (.panic (aD u r)) [] (cv g ++[(500013,⟨1,none⟩)]):=
 qE {hint:=qT 49 [(15,dk Pg (j+1) (cg l).length true x),(17,zy Pg l (j+1) _ y),(24,Gk Pg j hm),(25,zy Pg l j _ z)],calls:=tC [(49,27,2615,be rfl w),(49,32,2779,be rfl (aU p 11))],pans:=an Pg [(49,5,2779,⟨2,some (bg c),[]⟩)]} 49 2000 (lk h rfl rfl rfl rfl rfl rfl)
theorem JL(j:Nat)(u:l[j+1]? =some (.mk k id nm ty b p xs bd a))(q m:Int)(c:List UInt8)(e r o:Int)(bl:List Ex)(g f:List aP)(v:l[j]? =some (.mk q m c e r o bl g f))(hm:j+1<1000000)(s:HC 75 [.d (mn (.mk q m c e r o bl g f))] [] [.bool true] [])(t:decide (j+1<(cg l).length)=true):RE 41 (lO 49 2) (C2 l (j+1)) (ck S ++zx es n) (.panic (aD p 11)) [] (cv S.gv ++[(500013,⟨1,none⟩)]):=
 qE {hint:=qT 49 [(15,dk Pg (j+1) (cg l).length true t),(17,zy Pg l (j+1) _ u),(24,Gk Pg j hm),(25,zy Pg l j _ v)],calls:=tC [(49,27,2615,be rfl s)],pans:=an Pg [(49,4,2287,⟨13,some (bg (cd p 11)),[]⟩)]} 49 2000 (lk h rfl rfl rfl rfl rfl rfl)
end
include h'
theorem LH(k id:Int)(nm:List UInt8)(ty d p:Int)(xs:List Ex)(bd b:List aP)(f:l[0]? =some (.mk k id nm ty d p xs bd b))(e:decide (0<(cg l).length)=true)(c:Xf S S' (.mk k id nm ty d p xs bd b)):∀(a:aa)(X:b4),X.P=Pg→X.N=41→AW X (lO 49 2) ⟨ah (C2 l 0),ae (ck S ++zx es n) a⟩ fun g j=>g= .normal∧j=⟨ah (C2 l 1),ae (ck S' ++zx es n) a⟩:=
 qE {hint:=qT 49 [(15,dk Pg 0 (cg l).length true e),(17,zy Pg l 0 _ f)],calls:=tC [(49,32,2533,be rfl (aU p 11)),(49,35,2615,ad c)]} 49 2000 (gG h h' rfl rfl rfl rfl rfl rfl)
theorem LI(k id:Int)(nm:List UInt8)(ty q p:Int)(xs:List Ex)(bd o:List aP)(j:Nat)(w:l[j+1]? =some (.mk k id nm ty q p xs bd o))(s m:Int)(b:List UInt8)(e t r:Int)(bl:List Ex)(g f:List aP)(z:l[j]? =some (.mk s m b e t r bl g f))(hm:j+1<1000000)(u:HC 75 [.d (mn (.mk s m b e t r bl g f))] [] [.bool false] [])(v:decide (j+1<(cg l).length)=true)(c:Xf S S' (.mk k id nm ty q p xs bd o)):∀(a:aa)(X:b4),X.P=Pg→X.N=41→AW X (lO 49 2) ⟨ah (C2 l (j+1)),ae (ck S ++zx es n) a⟩ fun x y=>x= .normal∧y=⟨ah (C2 l (j+1+1)),ae (ck S' ++zx es n) a⟩:=
 qE {hint:=qT 49 [(15,dk Pg (j+1) (cg l).length true v),(17,zy Pg l (j+1) _ w),(24,Gk Pg j hm),(25,zy Pg l j _ z),(36,bj Pg (j+1) (by omega))],calls:=tC [(49,27,2615,be rfl u),(49,32,2779,be rfl (aU p 11)),(49,35,2861,ad c)]} 49 2000 (gG h h' rfl rfl rfl rfl rfl rfl)
end
end Go.Avm
namespace Go.Avm
open Go.Proofs
def QX(S:CK)(l:List aP)(i:Nat):TR CS→Prop
 | .ok c=>∃S',Nx S S' c∧∀(es:List (D×D×Nat))(n:Nat)(a:aa)(X:b4),X.P=Pg→X.N=41→LW X (lO 49 2) ⟨ah (C2 l i),ae (ck S ++zx es n) a⟩ fun b d=>b= .exit 0∧d=⟨ah Ur,ae (ck S' ++zx es n) a⟩
 | .bad p e=>∃g,∀(es:List (D×D×Nat))(n:Nat)(a:aa)(X:b4),X.P=Pg→X.N=41→LW X (lO 49 2) ⟨ah (C2 l i),ae (ck S ++zx es n) a⟩ fun b d=>b= .panic (aD p e)∧d=⟨ah [],ae (cv g ++[(500013,⟨1,none⟩)]) a⟩
 | .out=>True
structure Pl where
 fs:List Fn
 fn:Nat
 deep:Int
structure At(P:Pl)(S:CK):Prop where
 ok:CKok S
 fs:S.fs=P.fs
 fn:S.fn=P.fn
 deep:S.deep=P.deep
theorem At.nx{P:Pl}{S S':CK}{c:CS}(a:At P S)(n:Nx S S' c):At P S':=⟨n.ok,n.fs.trans a.fs,n.fn.trans a.fn,n.deep.trans a.deep⟩
theorem Nx.trans{S S1 e:CK}{c1 d:CS}(a:Nx S S1 c1)(b:Nx S1 e d):Nx S e d:=⟨b.ok,b.c,b.fs.trans a.fs,b.fn.trans a.fn,b.deep.trans a.deep,b.W.trans a.W,a.vars.trans b.vars⟩
abbrev QY(P:Pl)(x:aP):Prop:=∀S:CK,At P S→TC S 76 [aI, .d (mn x)] (jn P.fs P.fn P.deep x S.c)
theorem Gl{P:Pl}{l:List aP}(R:l.length<1000000)(L:∀x∈l,QY P x)(O:∀x∈l,mr x):
    ∀(m i:Nat)(S:CK)(f:Bool),At P S→l.length-i=m→i≤l.length→(f=match i with|0=>false|j+1=>match l[j]? with|some y=>eQ y|none=>false)→QX S l i (bu P.fs P.fn P.deep f (l.drop i) S.c)
 |0,i,S,f,a,hm,U,hp=>by
  have M:i=l.length:=by omega
  subst M;rw[zK];simp only[bu];exact⟨S,a.ok.nx,fun es n b X d e=>aA (QW a.ok es n l l.length (by simp[fT]) b X d e) (by simp)⟩
 |m+1,i,S,f,a,hm,U,hp=>by
  have o:i<l.length:=by omega
  have D:l[i]? =some l[i]:=xD o;have I:l[i]∈l:=yO o;rw[xZ o];generalize l[i]=x at D I;have T:=L x I S a;have h:decide (i<(cg l).length)=true:=by simpa [fT]using o
  obtain⟨k,id,nm,ty,t,p,xs,bd,s⟩:=x;simp only[bu];cases i with
  |zero=>
   have hp:f=false:=hp;subst hp;simp only[xP];revert T;cases jn P.fs P.fn P.deep (.mk k id nm ty t p xs bd s) S.c with
   |out=>exact fun _=>trivial
   |bad u r=>exact fun ⟨g,c⟩=>⟨g,fun es n b X d e=>aA (Nw a.ok es n l k id nm ty t p xs bd s D h g u r c b X d e) (by simp)⟩
   |ok c'=>
    rintro⟨S',v,c⟩;have q:=Gl R L O m 1 S' (eQ (.mk k id nm ty t p xs bd s)) (a.nx v) (by omega) o (by simp only[D]);rw[v.c]at q;simp only[TR.bind];revert q;cases bu P.fs P.fn P.deep (eQ (.mk k id nm ty t p xs bd s)) (l.drop (0+1)) c' with
    |out=>exact fun _=>trivial
    |bad u r=>exact fun ⟨g,q⟩=>⟨g,fun es n b X d e=>au (LH a.ok v.ok es n l k id nm ty t p xs bd s D h c b X d e) (q es n b X d e)⟩
    |ok V=>exact fun ⟨Q,N,q⟩=>⟨Q,v.trans N,fun es n b X d e=>au (LH a.ok v.ok es n l k id nm ty t p xs bd s D h c b X d e) (q es n b X d e)⟩
  |succ j=>
   have F:l[j]? =some l[j]:=xD (by omega);have J:l[j]∈l:=yO (by omega);simp only[F]at hp;generalize l[j]=y at F J hp;have E:=O y J;obtain⟨G,C,B,z,K,H,bl,A,w⟩:=y;subst hp;unfold mr at E;revert E;cases eQ (.mk G C B z K H bl A w)with
   |true=>exact fun E=>⟨S.gv,fun es n b X d e=>aA (JL a.ok es n l k id nm ty t p xs bd s j D G C B z K H bl A w F (by omega) E h b X d e) (by simp)⟩
   |false=>
    intro E;simp only[xP];revert T;cases jn P.fs P.fn P.deep (.mk k id nm ty t p xs bd s) S.c with
    |out=>exact fun _=>trivial
    |bad u r=>exact fun ⟨g,c⟩=>⟨g,fun es n b X d e=>aA (Ny a.ok es n l k id nm ty t p xs bd s j D G C B z K H bl A w F (by omega) E h g u r c b X d e) (by simp)⟩
    |ok c'=>
     rintro⟨S',v,c⟩;have q:=Gl R L O m (j+1+1) S' (eQ (.mk k id nm ty t p xs bd s)) (a.nx v) (by omega) o (by simp only[D]);rw[v.c]at q;simp only[TR.bind];revert q;cases bu P.fs P.fn P.deep (eQ (.mk k id nm ty t p xs bd s)) (l.drop (j+1+1)) c' with
     |out=>exact fun _=>trivial
     |bad u r=>exact fun ⟨g,q⟩=>⟨g,fun es n b X d e=>au (LI a.ok v.ok es n l k id nm ty t p xs bd s j D G C B z K H bl A w F (by omega) E h c b X d e) (q es n b X d e)⟩
     |ok V=>exact fun ⟨Q,N,q⟩=>⟨Q,v.trans N,fun es n b X d e=>au (LI a.ok v.ok es n l k id nm ty t p xs bd s j D G C B z K H bl A w F (by omega) E h c b X d e) (q es n b X d e)⟩
def CK.seenAs(S:CK)(l:eL)(v:Nat):CK:={S with c:={S.c with seen:=l},vs:=v}
def CK.sureAs(S:CK)(q:SureL)(v:Nat):CK:={S with c:={S.c with sure:=q},vq:=v}
theorem JM{a b:List Vr}(h:a<+:b){f:Vr→Bool}(e:a.any f=true):b.any f=true:=by
 obtain⟨t,rfl⟩:=h;rw[List.any_append,e];rfl
theorem JN{S S':CK}(h:CKok S)(h':CKok S')(a:S.c.vars<+:S'.c.vars)(v:Nat):CKok (S'.seenAs S.c.seen v) where
 fn:=h'.fn
 W:=h'.W
 dat:=h'.dat
 len:=h'.len
 par:=h'.par
 vars:=h'.vars
 seen:=fun p hp=>xy (h.seen p hp) a.length_le
 inc:=h.inc
 nms:=h.nms
 nml:=h.nml
 had:=fun p hp=>JM a (h.had p hp)
 sk:=h'.sk
 sb:=h'.sb
 sc:=h'.sc
 sv:=h'.sv
 pts:=h'.pts
structure QOk(q:SureL)(n:Nat):Prop where
 sk:(q.l.map (·.1)).Nodup
 sb:(q.l.map (·.2)).Nodup
 sc:∀p∈q.l,p.2<q.c
 sv:∀p∈q.l,p.1<n
theorem CKok.q{S:CK}(h:CKok S):QOk S.c.sure S.c.vars.length:=⟨h.sk,h.sb,h.sc,h.sv⟩
theorem QOk.mono{q:SureL}{n m:Nat}(h:QOk q n)(a:n≤m):QOk q m:=⟨h.sk,h.sb,h.sc,fun p hp=>xy (h.sv p hp) a⟩
theorem QOk.both{a b:SureL}{n:Nat}(h:QOk a n):QOk (a.both b) n where
 sk:=(List.Sublist.map _ List.filter_sublist).nodup h.sk
 sb:=(List.Sublist.map _ List.filter_sublist).nodup h.sb
 sc:=fun p hp=>h.sc p (ym.1 hp).1
 sv:=fun p hp=>h.sv p (ym.1 hp).1
theorem vw{S:CK}(h:CKok S){q:SureL}(a:QOk q S.c.vars.length)(v:Nat):CKok (S.sureAs q v) where
 fn:=h.fn
 W:=h.W
 dat:=h.dat
 len:=h.len
 par:=h.par
 vars:=h.vars
 seen:=h.seen
 inc:=h.inc
 nms:=h.nms
 nml:=h.nml
 had:=h.had
 sk:=a.sk
 sb:=a.sb
 sc:=a.sc
 sv:=a.sv
 pts:=h.pts
noncomputable def QZ{S:CK}{l:List aP}{es:List (D×D×Nat)}{n:Nat}{x:aB}{l':List (Nat×AV)}{b:List (Nat×aE)}(h:RL 41 (lO 49 2) (C2 l 0) (ck S ++zx es n) x l' b):dJ Pg:=
 ⟨41,aJ Pg 49 2,C2 l 0,fun _=>ck S ++zx es n,x,l',fun _=>b,fun a X c d=>(h a X c d).aw⟩
section
variable{S:CK}(h:CKok S)(l:List aP)
include h
theorem JO{S':CK}(h2:CKok (S'.seenAs S.c.seen (S'.vs+1)))(c:∀(a:aa)(X:b4),X.P=Pg→X.N=41→LW X (lO 49 2) ⟨ah (C2 l 0),ae (ck S ++zx (cA 0 S.c.seen) S.c.seen.length) a⟩ fun b e=>b= .exit 0∧e=⟨ah Ur,ae (ck S' ++zx (cA 0 S.c.seen) S.c.seen.length) a⟩):
    HC 49 [aI, .d (.ro (cg l))] (ck S) [] (ck (S'.seenAs S.c.seen (S'.vs+1))):=
 cq b9 named {loops:=fun f q=>if f=49 then (if q=2 then some (QZ c)else none)else none,calls:=tC [(49,11,2164,ad (Gj S.vs (cA 0 S.c.seen) S.c.seen.length))]} 2000 2000 _ 1000000 ([(500000,524291146758)]) (az h h2 rfl) (fun _=>by kernel_rfl)
theorem Gm(g:Gv)(p e:Int)(c:∀(a:aa)(X:b4),X.P=Pg→X.N=41→LW X (lO 49 2) ⟨ah (C2 l 0),ae (ck S ++zx (cA 0 S.c.seen) S.c.seen.length) a⟩ fun b i=>b= .panic (aD p e)∧i=⟨ah [],ae (cv g ++[(500013,⟨1,none⟩)]) a⟩):
    HX 49 [aI, .d (.ro (cg l))] (ck S) (aD p e) (cv g):=
 qX {loops:=fun f q=>if f=49 then (if q=2 then some (QZ c)else none)else none,calls:=tC [(49,11,2164,ad (Gj S.vs (cA 0 S.c.seen) S.c.seen.length))]} 2000 (j4 h rfl)
end
abbrev eM(P:Pl)(l:List aP)(c:CS):TR CS:=(bu P.fs P.fn P.deep false l c).bind fun c'=> .ok {c' with seen:=c.seen}
theorem Gn{P:Pl}{l:List aP}(h:l.length<1000000)(f:∀x∈l,QY P x)(i:∀x∈l,mr x)(S:CK)(a:At P S):TC S 49 [aI, .d (.ro (cg l))] (eM P l S.c):=by
 have k:=Gl h f i _ 0 S false a rfl (xz _) rfl;rw[xn]at k;unfold eM;revert k;cases bu P.fs P.fn P.deep false l S.c with
 |out=>exact fun _=>trivial
 |bad p e=>exact fun ⟨g,c⟩=>⟨g,Gm a.ok l g p e (c _ _)⟩
 |ok c'=>
  rintro⟨S',b,c⟩;have h2:=JN a.ok b.ok b.vars (S'.vs+1);refine⟨S'.seenAs S.c.seen (S'.vs+1),⟨h2, ?_,b.fs,b.fn,b.deep,b.W,b.vars⟩,JO a.ok l h2 (c _ _)⟩;rw[←b.c];rfl
theorem Es{d:Int}(h: -9223372036854775808≤d∧d<9223372036854775808):IntKind.i64.wrap (IntKind.i64.wrap (d+1)-1)=d:=by
 have e:∀x:Int,IntKind.i64.wrap x=if 9223372036854775808≤x % 18446744073709551616 then x % 18446744073709551616-18446744073709551616 else x % 18446744073709551616:=fun x=>by
  simp only[IntKind.wrap,IntKind.bits,IntKind.signed,Bool.true_and,ge_iff_le,xw];rfl
 rw[e (IntKind.i64.wrap (d+1)-1),e (d+1)];split<;>split<;>omega
def Q0(P:Program)(d a:Int)(e:a=IntKind.i64.wrap (d+1))(h: -9223372036854775808≤d∧d<9223372036854775808):bX P:= .val (dI (IntKind.i64.wrap (a-1))) (dI d) (by
 congr 2;rw[e];exact Es h)
def CK.at(S:CK)(d:Int):CK:={S with deep:=d}
theorem Gp{S:CK}(h:CKok S)(d:Int):CKok (S.at d) where
 fn:=h.fn
 W:=h.W
 dat:=h.dat
 len:=h.len
 par:=h.par
 vars:=h.vars
 seen:=h.seen
 inc:=h.inc
 nms:=h.nms
 nml:=h.nml
 had:=h.had
 sk:=h.sk
 sb:=h.sb
 sc:=h.sc
 sv:=h.sv
 pts:=h.pts
section
variable{S:CK}(h:CKok S)(l:List aP)(a: -9223372036854775808≤S.deep∧S.deep<9223372036854775808)
include h a
theorem JP{S':CK}(h':CKok S')(e:S'.deep=IntKind.i64.wrap (S.deep+1))(c:HC 49 [aI, .d (.ro (cg l))] (ck (S.at (IntKind.i64.wrap (S.deep+1)))) [] (ck S')):
    HC 110 [aI, .d (.ro (cg l))] (ck S) [] (ck (S'.at S.deep)):=
 qN {hint:=qT 110 [(18,Q0 Pg S.deep S'.deep e a)],calls:=tC [(110,13,2210,ad c)]} 2000 (az h (Gp h' S.deep) rfl)
theorem Gs(g:Gv)(p e:Int)(c:HX 49 [aI, .d (.ro (cg l))] (ck (S.at (IntKind.i64.wrap (S.deep+1)))) (aD p e) (cv g)):
    HX 110 [aI, .d (.ro (cg l))] (ck S) (aD p e) (cv g):=
 qX {pans:=an Pg [(110,1,2168,⟨2,some (bg c),[]⟩)]} 2000 (j4 h rfl)
end
def Pl.in(P:Pl):Pl:={P with deep:=fh (P.deep+1)}
theorem Gt{P:Pl}(h: -9223372036854775808≤P.deep∧P.deep<9223372036854775808){l:List aP}(m:l.length<1000000)(j:∀x∈l,QY P.in x)(i:∀x∈l,mr x)(S:CK)(a:At P S):TC S 110 [aI, .d (.ro (cg l))] (eM P.in l S.c):=by
 have k:=Gn m j i (S.at (fh (P.deep+1))) ⟨Gp a.ok _,a.fs,a.fn,rfl⟩;have f:=h;rw[←a.deep]at f;have n:fh (P.deep+1)=IntKind.i64.wrap (S.deep+1):=by rw[a.deep];rfl
 rw[n]at k;change TC _ _ _ (eM P.in l S.c)at k
 revert k;cases eM P.in l S.c with
 |out=>exact fun _=>trivial
 |bad p e=>exact fun ⟨g,c⟩=>⟨g,Gs a.ok l f g p e c⟩
 |ok c'=>
  rintro⟨S',b,c⟩;exact⟨S'.at S.deep,⟨Gp b.ok _,b.c,b.fs,b.fn,rfl,b.W,b.vars⟩,JP a.ok l f b.ok b.deep c⟩
end Go.Avm
namespace Go.Avm
open Go.Proofs Go.RowKit
theorem gN{X:b4}{S S1:St}{Q:aB→St→Prop}{id p:Nat}{d:Array Oper}{op:Oper}{cfg:ic}{ob:List Obl}{fts:List Foot}{Out:AV→aa→Prop}
    (hp:d[p]? =some op) (L:op.guard=none) (U:∀c,op.op≠ .defer c) (h:d7 X.P cfg X.N d (List.range' 0 p) S=some (S1,ob,fts)) (u:gy X.P ob)
    (A:∀(G:Gh)(w:World)(a:Act),HR G X.B X.w0 X.I0 S1.heap w→(∀x,Rep G w (opd S1.env x) (a.eval x))→∃v o s x h',(execOp a.eval op).run X.P w= .ok (.value v) o∧Ext G w s o∧HR s X.B X.w0 X.I0 h' o∧Rep s o x v∧Out x h')
    (g:∀x h',Out x h'→∃cfg env n ob fts,eO X.N S1.env op.dst x=some env∧d7 X.P cfg X.N d (List.range' (p+1) (d.size-p-1)) ⟨env,h'⟩=some (n,ob,fts)∧gy X.P ob∧∃C,Weak X n C∧Q .normal C):
    AW X (.region id d false) S Q:=jT fun G a w E=>E.2.elim fun M I=>by
 refine wpIn_region ?_;rw[pn (xR.1 hp).1];refine tR X.mixed.ext X.rnd 0 _ E.1 I.1 h u fun K O G1 J i f=> ?_
 rw[wpOpsIn_cons];unfold wpOpIn;simp only[hp];rw[xf (p3 f (b:=true) (by unfold ea;rw[L]))];obtain⟨v,Y,Z,x,h2,m,q,t,r,l⟩:=A G1 O K i (fun x=>f.opd i.maps.glob x);obtain⟨H,env,n,V,D,j,e,k,T⟩:=g x h2 l;refine q0 X.rnd 0 U m ?_;refine mE X.mixed.ext X.rnd 0 _ t ((f.mono q).put j r) e k fun W w3 R F y z=> ?_
 exact⟨.normal,n,R,trivial,T,(J.trans q).trans F,y,M,z,I.2.mono ((J.trans q).trans F)⟩
def Nz(r:Option (St×List Foot×Nat×List Nat×aq)):Option (aB×St×Nat×List Nat×aq):=match r with
 |some r=>some (.normal,r.1,r.2.2.1,r.2.2.2.1,r.2.2.2.2)
 |none=>none
theorem mQ{P:Program}(hm:jF P)(z:dX P)(m:Par P)(n i p e N:Nat)(c:Array Oper)(k:Nat){env:Nat→AV}{l':List (Nat×AV)}{hp d:List (Nat×aE)}{b:aa}
    (h:kn (Ec (Nz (zf P m (aZ P m n) i p N c (c.toList.drop k) k e ⟨env,ae hp b⟩)) (hp.map (·.1)) l' d)=ko .normal (Ec (Nz (zf P m (aZ P m n) i p N c (c.toList.drop k) k e ⟨env,ae hp b⟩)) (hp.map (·.1)) l' d)):
    ∃cfg l ob fts,d7 P cfg N c (List.range' k (c.size-k)) ⟨env,ae hp b⟩=some (l,ob,fts)∧gy P ob∧∀X:b4,Weak X l ⟨ah l',ae d b⟩:=by
 obtain⟨ps,g,w⟩:=e7 h;unfold Ec at g;split at g
 ·rename_i O S1 L y J o
  split at g
  ·rename_i q I
   split at g
   ·rename_i E
    simp only[xA,xE]at g;obtain⟨rfl,rfl⟩:=g;unfold Nz at o;split at o;case h_2=>cases o
    rename_i r s;simp only[xA,xE]at o;obtain⟨_,rfl,rfl,rfl,rfl⟩:=o;obtain⟨l,fts,K,y,G⟩:=r
    obtain⟨⟨T,F⟩,H⟩:=nu hm z (cJ hm z n) _ k e _ _ _ _ _ _ (fun j M=>by
     rw[xu,xi]) s w.left
    obtain⟨ob,A,B⟩:=F {ret:=fun j=>(T j).ret,hc:=fun j=>(T j).hc,base:=fun j=>(T j).base,obm:=fun j=>m.obm i (((c[j]?).bind (·.dst)).getD 0)} (fun _ _=>⟨rfl,rfl,rfl⟩) (fun _=>rfl);rw[yc,xh]at A;refine⟨_,l,ob,fts,A,B,fun X=> ?_⟩;have hw:=ns (X:=X) (S:=l) w.right.left I w.right.right
    have:ae d l.heap=ae d b:=by
     funext k;by_cases f:k∈d.map (·.1)
     ·exact fP _ _ _ f
     ·rw[b7 _ _ f,b7 _ _ f]
      have t:∀u,u∈y ++hp.map (·.1)→u≠k:=by
       rintro u v rfl;have:=xc.1 E u v;obtain⟨a,C,D⟩:=yP.1 this;have:=yF D;subst this;exact f C
      rw[H k (fun x=>t k (by simp[x]) rfl)];exact b7 _ _ (fun x=>t k (by simp only[xU];exact .inr x) rfl)
    rw[this]at hw;exact hw
   ·cases g
  ·cases g
 ·cases g
def JQ:Code→Code
 | .seq x _=>x
 |c=>c
def tY:Code→Code
 | .seq _ y=>y
 |c=>c
def TQ:Code→Code
 | .block _ x=>x
 |c=>c
def XG:Code→Code
 | .cond _ x _=>x
 |c=>c
def C4:Code→Array Oper
 | .region _ a _=>a
 |_=> #[]
noncomputable def Us:Code:=F3 Pg 159
noncomputable def NA:Code:=aJ Pg 159 1
noncomputable def P2:Array Oper:=C4 (JQ Us)
noncomputable def LJ:Array Oper:=C4 (JQ NA)
noncomputable def LK:Array Oper:=C4 (JQ (TQ (tY (tY NA))))
noncomputable def Xg:Code:=JQ (tY (TQ (tY (tY NA))))
noncomputable def P3:Array Oper:=C4 (XG (tY (tY (TQ (tY (tY NA))))))
theorem Et:Us= .seq (.region 0 P2 false) (.block 0 (.loop NA)):=by kernel_rfl
theorem oO:NA= .seq (.region 1 LJ false) (.seq (.cond (.tmp 9) .skip (.exit 0)) (.block 1 (.seq (.region 2 LK false) (.seq Xg (.cond (.tmp 16) (.region 4 P3 false) .skip))))):=by kernel_rfl
theorem Gu:(P2[1]?).isSome=true:=by kernel_rfl
noncomputable def TT:Oper:=(P2[1]?).get Gu
theorem Gw:(LJ[0]?).isSome=true:=by kernel_rfl
noncomputable def TU:Oper:=(LJ[0]?).get Gw
theorem Gx:(LK[0]?).isSome=true:=by kernel_rfl
noncomputable def TV:Oper:=(LK[0]?).get Gx
theorem Gy:(P3[2]?).isSome=true:=by kernel_rfl
noncomputable def P4:Oper:=(P3[2]?).get Gy
theorem NB:P2[1]? =some TT:=(Option.some_get _).symm
theorem NC:LJ[0]? =some TU:=(Option.some_get _).symm
theorem ND:LK[0]? =some TV:=(Option.some_get _).symm
theorem NE:P3[2]? =some P4:=(Option.some_get _).symm
theorem rY:TT.op= .range 90 (.tmp 6)∧TT.guard=none∧TT.dst=some 7∧P2.size=2:=⟨by kernel_rfl,by kernel_rfl,by kernel_rfl,by kernel_rfl⟩
theorem rZ:TU.op= .next (.tmp 7) false∧TU.guard=none∧TU.dst=some 8∧LJ.size=2:=⟨by kernel_rfl,by kernel_rfl,by kernel_rfl,by kernel_rfl⟩
theorem vy:TV.op= .entry (.tmp 7)∧TV.guard=none∧TV.dst=some 10∧LK.size=6:=⟨by kernel_rfl,by kernel_rfl,by kernel_rfl,by kernel_rfl⟩
def Gz:Op→Option Call
 | .call c=>some c
 |_=>none
theorem GB:(Gz P4.op).isSome=true:=by kernel_rfl
noncomputable def vz:Call:=(Gz P4.op).get GB
theorem r7:P4.op= .call vz∧P4.guard=none∧P4.dst=none∧P3.size=3:=⟨by kernel_rfl,by kernel_rfl,by kernel_rfl,by kernel_rfl⟩
theorem oP:vz.callee= .builtin .delete∧vz.args= #[.tmp 17, .tmp 18]∧vz.argTypes[0]? =some 90:=⟨by kernel_rfl,by kernel_rfl,by kernel_rfl⟩
noncomputable def Xh:TypeId:=match Pg.underlying 90 with
 |some (.map _ u)=>u
 |_=>0
theorem GC:Pg.underlying 90=some (.map 3 Xh):=by kernel_rfl
def nP(b:SureL)(a:List Nat)(l:List (Nat×Nat)):List (Nat×Nat):=l.filter fun e=> !(a.contains e.2)||b.has e.1
theorem r8{x:Nat}:∀{l:List (Nat×Nat)}{j i:Nat},(l.map (·.1)).Nodup→bQ x l j=some (j+i)→l.eraseIdx i=l.filter fun e=> !(e.1==x)
 |[],_,_,_,h=>by cases h
 |e::r,j,i,f,h=>by
  simp only[bQ]at h;rw[xH,yy]at f;cases b:(x==e.1)with
  |true=>
   rw[b]at h;simp only[xW,xA]at h;have o:i=0:=by omega
   subst o;rw[eq_of_beq b,List.eraseIdx_zero,List.tail_cons,List.filter_cons];simp only[BEq.rfl,Bool.not_true,yl,yi];refine(List.filter_eq_self.2 fun a q=> ?_).symm;rw[yN,y6];intro p;exact f.1 (x9.2 ⟨a,q,p⟩)
  |false=>
   rw[b]at h;simp only[xP]at h
   have m:∀{l:List (Nat×Nat)}{j k:Nat},bQ x l j=some k→j≤k:=fun {l}=>by
    induction l with
    |nil=>intro j k h;cases h
    |cons a r d=>
     intro j k h;simp only[bQ]at h;cases n:(x==a.1)with
     |true=>rw[n]at h;simp at h;omega
     |false=>rw[n]at h;have:=d h;omega
   have:=m h;obtain⟨g,rfl⟩:∃g,i=g+1:=⟨i-1,by omega⟩
   have d:=r8 (i:=g) f.2 (by rw[h];congr 1;omega);have c:(e.1==x)=false:=by rw[y6]at b ⊢;exact Ne.symm b
   rw[List.eraseIdx_cons_succ,List.filter_cons,c,d];rfl
theorem tZ{x:Nat}:∀{l:List (Nat×Nat)}{j:Nat},(∃p∈l,p.1=x)→∃i,bQ x l j=some (j+i)
 |[],_,h=>by simp at h
 |e::r,j,h=>by
  cases a:(x==e.1)with
  |true=>exact⟨0,by simp only[bQ,a,xW];rfl⟩
  |false=>
   simp only[bQ,a,xP];obtain⟨p,hp,b⟩:=h;rcases x0.1 hp with rfl|hp
   ·rw[b]at a;simp at a
   ·obtain⟨i,c⟩:=tZ (j:=j+1) ⟨p,hp,b⟩
    exact⟨i+1,by rw[c];congr 1;omega⟩
section
variable{b:SureL}{l:List (Nat×Nat)}(d:(l.map (·.1)).Nodup)(c:(l.map (·.2)).Nodup)
theorem qd{i k:Type}{f:i→k}:∀{l:List i},(l.map f).Nodup→∀{x y:i},x∈l→y∈l→f x=f y→x=y
 |a::r,h,x,y,j,m,e=>by
  rw[xH,yy]at h;rcases x0.1 j with g|g<;>rcases x0.1 m with h2|h2
  ·exact g.trans h2.symm
  ·exact absurd (x9.2 ⟨y,h2,by rw[←e,g]⟩) h.1
  ·exact absurd (x9.2 ⟨x,g,by rw[e,h2]⟩) h.1
  ·exact qd h.2 g h2 e
include c in
theorem JR{a:List Nat}{e:Nat×Nat}(h:e∈nP b a l)(k:b.has e.1=true):nP b (a ++[e.2]) l=nP b a l:=by
 refine List.filter_congr fun x i=> ?_
 cases f:b.has x.1 with
 |true=>simp
 |false=>
  have g:x.2≠e.2:=fun j=>by
   have:=qd c i (ym.1 h).1 j;rw[this,k]at f;cases f
  simp[g]
include d c in
theorem JS{a:List Nat}{e:Nat×Nat}(j:e∈nP b a l)(k:b.has e.1=false):nP b (a ++[e.2]) l=(nP b a l).filter fun x=> !(x.1==e.1):=by
 unfold nP;rw[List.filter_filter];refine List.filter_congr fun x i=> ?_
 have f:=(ym.1 j).1;by_cases h:x.1=e.1
 ·have:x=e:=qd d i f h
  subst this;simp[k]
 ·have g:x.2≠e.2:=fun m=>h (by rw[qd c i f m])
  simp[h,g]
theorem NF{a:List Nat}(h:∀e∈nP b a l,e.2∈a):nP b a l=l.filter fun e=>b.has e.1:=by
 refine List.filter_congr fun x i=> ?_
 cases f:b.has x.1 with
 |true=>simp
 |false=>
  cases g:a.contains x.2 with
  |true=>rfl
  |false=>
   have:=h x (ym.2 ⟨i,by simp only[g,f];rfl⟩);rw[←List.contains_iff_mem,g]at this;cases this
theorem NG:nP b [] l=l:=List.filter_eq_self.2 fun x _=>by simp
end
theorem pz:∀(i:Nat)(l:List (Nat×Nat)),(a6 l).eraseIdx i=a6 (l.eraseIdx i)
 |_,[]=>rfl
 |0,_::_=>rfl
 |i+1,e::r=>by
  show _::(a6 r).eraseIdx i=_::a6 (r.eraseIdx i);rw[pz i r]
theorem C5{P:Program}{cfg:ic}{N:Nat}{d:Array Oper}{l:List Nat}{S e:St}(h:(d7 P cfg N d l S).map (fun r=>(r.1,r.2.1))=some (e,[])):∃fts,d7 P cfg N d l S=some (e,[],fts):=by
 cases f:d7 P cfg N d l S with
 |none=>rw[f]at h;cases h
 |some r=>
  obtain⟨a,b,c⟩:=r;rw[f]at h;simp only[x5,xA,xE]at h;obtain⟨rfl,rfl⟩:=h;exact⟨c,rfl⟩
theorem js(P:Program):gy P []:=fun _ h=>by cases h
abbrev AN(va w:Nat):List (Nat×AV):=[(0, .mp 500004 va),(1, .fn 160 [.ptr 600005 1 0 0 1]),(7, .itr 600100 1)]
abbrev zz(va ca vb cb:Nat)(la lb:List (Nat×Nat))(seen:List Nat)(w:Nat):List (Nat×aE):=
 [(500004,⟨va,some (.map (a6 la) ca)⟩),(600005,⟨1,some (.arr 1 [.mp 500014 vb])⟩),(500014,⟨vb,some (.map (a6 lb) cb)⟩),(600100,⟨1,some (.itr 500004 va ca seen)⟩),(600205,⟨w,none⟩),(600461,⟨w,none⟩),(600591,⟨w,none⟩)]
abbrev Q1(va ca vb cb:Nat)(la lb:List (Nat×Nat))(seen:List Nat)(w:Nat):List (Nat×aE):=
 [(500004,⟨va,some (.map (a6 la) ca)⟩),(600005,⟨1,some (.arr 1 [.mp 500014 vb])⟩),(500014,⟨vb,some (.map (a6 lb) cb)⟩),(600100,⟨1,some (.itr 500004 va ca seen)⟩),(600205,⟨w+1,some (.arr 1 [])⟩),(600461,⟨w,none⟩),(600591,⟨w,none⟩)]
section
variable(va ca vb cb w:Nat)(la lb:List (Nat×Nat))(seen:List Nat)(x:Nat)
theorem LL(t:Bool)(l:List D)(a:aa):∃cfg b ob fts,d7 Pg cfg 19 LJ (List.range' 1 (LJ.size-1)) ⟨aG (ah (AN va w)) 8 (.tup (.d (.bool t)::l.map .d)),ae (zz va ca vb cb la lb seen w) a⟩=some (b,ob,fts)∧gy Pg ob∧∀X:b4,Weak X b ⟨ah (AN va w ++[(9,dB t)]),ae (zz va ca vb cb la lb seen w) a⟩:=
 mQ b9 named {} 2000 159 1 600300 19 LJ 1 (by kernel_rfl)
theorem Q2(a:aa):∃cfg b ob fts,d7 Pg cfg 19 LK (List.range' 1 (LK.size-1)) ⟨aG (ah (AN va w ++[(9,dB true)])) 10 (.tup [.d (.int .i64 (x:Int)), .d (.agg [])]),ae (zz va ca vb cb la lb seen w) a⟩=some (b,ob,fts)∧gy Pg ob∧∀X:b4,Weak X b ⟨ah (AN va w ++[(4,dN x),(5, .ptr 600205 (w+1) 0 0 1)]),ae (Q1 va ca vb cb la lb seen w) a⟩:=
 mQ b9 named {} 2000 159 2 600162 19 LK 1 (by kernel_rfl)
theorem LM(t:Bool)(r:Option Nat)(c:bQ x lb 0=r)(g:r.isSome= !t)(a:aa)(X:b4)(b:X.P=Pg)(d:X.N=19):
    AW X Xg ⟨ah (AN va w ++[(4,dN x),(5, .ptr 600205 (w+1) 0 0 1)]),ae (Q1 va ca vb cb la lb seen w) a⟩ fun f S'=>f= .normal∧Weak X S' ⟨ah (AN va w ++[(4,dN x),(16,dB t)]),ae (zz va ca vb cb la lb seen (w+1)) a⟩:=by
 cases r with
 |none=>
  have e:t=true:=by cases t<;>simp_all
  subst e;exact sG b9 named {hint:=qT 160 [(11,li Pg x lb none c)]} 2000 159 600400 19 (by kernel_rfl) X b d
 |some i=>
  have e:t=false:=by cases t<;>simp_all
  subst e;exact sG b9 named {hint:=qT 160 [(11,li Pg x lb (some i) c)]} 2000 159 600400 19 (by kernel_rfl) X b d
theorem Q3(t:Bool)(a:St)(b:a.env 0= .mp 500004 va)(c:a.env 4=dN x):∃fts,d7 Pg {} 19 P3 (List.range' 0 2) a=some (⟨aG (aG a.env 17 (.mp 500004 va)) 18 (dN x),a.heap⟩,[],fts):=by
 rw[←b,←c];exact C5 (by kernel_rfl)
end
theorem nQ{X:b4}{env:Nat→AV}{h h':aa}{l:List (Nat×AV)}(a:∀p∈l,p.2=env p.1)(b:h=h'):Weak X ⟨env,h⟩ ⟨ah l,h'⟩:=by
 subst b;exact mI a
section
variable{va ca vb cb:Nat}{la lb:List (Nat×Nat)}(g:(la.map (·.1)).Nodup)(f:(la.map (·.2)).Nodup)(n:∀p∈la,p.2<ca)
include g f n
theorem NH(c:List (Nat×Nat))(seen a:List Nat)(w:Nat)(b:aa):aG (ae (zz va ca vb cb c lb seen w) b) 600100 ⟨1,some (.itr 500004 va ca a)⟩=ae (zz va ca vb cb c lb a w) b:=by
 funext k;simp only[ae,aG];by_cases d:k=600100
 ·subst d;simp
 ·simp[d]
theorem NI(c b:List (Nat×Nat))(seen:List Nat)(w:Nat)(a:aa):aG (ae (zz va ca vb cb c lb seen w) a) 500004 ⟨va,some (.map (a6 b) ca)⟩=ae (zz va ca vb cb b lb seen w) a:=by
 funext k;simp only[ae,aG];by_cases d:k=500004
 ·subst d;simp
 ·simp[d]
set_option maxRecDepth 100000 in
theorem Q4(r:aa)(X:b4)(u:X.P=Pg)(A:X.N=19):∀(m:Nat)(o:List Nat),la.length-o.length=m→o.Nodup→(∀v∈o,v∈la.map (·.2))→
    LW X NA ⟨ah (AN va 0),ae (zz va ca vb cb (nP ⟨lb,cb⟩ o la) lb o o.length) r⟩ fun e' S'=>e'= .exit 0∧∃F,Weak X S' ⟨ah [(0, .mp 500004 va)],ae (zz va ca vb cb (la.filter fun e=>(⟨lb,cb⟩:SureL).has e.1) lb F la.length) r⟩:=fun m=>by
 induction m using Nat.strongRecOn with
 |ind m ih=>
  intro o hm hn hs
  have H:o.length≤la.length:=by
   have:=List.Nodup.length_le_of_subset hn hs;rwa [xO]at this
  have B:∀p∈nP ⟨lb,cb⟩ o la,p∈la:=fun p hp=>(ym.1 hp).1
  refine kY ?_;rw[oO]
  refine en (gN (cfg:={}) (ob:=[]) (fts:=[]) (p:=0) (S1:=⟨ah (AN va 0),ae (zz va ca vb cb (nP ⟨lb,cb⟩ o la) lb o o.length) r⟩) (Out:=CQ (ae (zz va ca vb cb (nP ⟨lb,cb⟩ o la) lb o o.length) r) 600100 1 500004 va ca (a6 (nP ⟨lb,cb⟩ o la)) o) NC rZ.2.1 (fun c=>by rw[rZ.1];intro h;cases h) rfl (js _)
   (fun G w a L s=>Jp L s rZ.1 rfl (by simp[ae,aG]) (by simp[ae,aG]) (fun e O=> ?_)) ?_)
  ·obtain⟨p,hp,rfl⟩:=x9.1 O
   exact n p (B p hp)
  ·rintro x h' (⟨rfl,rfl,J⟩|⟨e,O,M,rfl,rfl⟩)
   ·obtain⟨cfg,Y,ob,fts,h1,h2,Z⟩:=LL va ca vb cb o.length (nP ⟨lb,cb⟩ o la) lb o false [] r
    refine⟨cfg,_,Y,ob,fts,by rw[A,rZ.2.2.1];rfl,by rw[u,A];exact h1,by rw[u];exact h2,_,Z X, ?_⟩;have U:∀e∈nP ⟨lb,cb⟩ o la,e.2∈o:=fun e O=>J _ (x9.2 ⟨e,O,rfl⟩)
    have D:o.length=la.length:=by
     refine Nat.le_antisymm H ?_
     have:=List.Nodup.length_le_of_subset f (l₂:=o) (fun v hv=>by
      obtain⟨p,hp,rfl⟩:=x9.1 hv;cases C:o.contains p.2 with
      |true=>exact List.contains_iff_mem.1 C
      |false=>exact U p (ym.2 ⟨hp,by show(!(o.contains p.2)||_)=true;rw[C];rfl⟩))
     rwa [xO]at this
    have Q:=NF U;refine en (iS (b:=false) rfl (fun h=>by cases h) (fun _=>uN ⟨rfl,o,nQ (fun p hp=> ?_) (by rw[Q,D])⟩));rw[xM]at hp;subst hp;rfl
   ·obtain⟨p,hp,rfl⟩:=x9.1 O
    simp only at M ⊢;have W:=B p hp;rw[NH g f n];obtain⟨cfg,Y,ob,fts,h1,h2,Z⟩:=LL va ca vb cb o.length (nP ⟨lb,cb⟩ o la) lb (o ++[p.2]) true [.int .i64 (p.1:Int), .agg []] r;refine⟨cfg,_,Y,ob,fts,by rw[A,rZ.2.2.1];rfl,by rw[u,A];exact h1,by rw[u];exact h2,_,Z X, ?_⟩;refine en (iS (b:=true) rfl (fun _=>p4 ?_) (fun h=>by cases h))
    refine kX (en (gN (cfg:={}) (ob:=[]) (fts:=[]) (p:=0) (S1:=⟨ah (AN va 0 ++[(9,dB true)]),ae (zz va ca vb cb (nP ⟨lb,cb⟩ o la) lb (o ++[p.2]) o.length) r⟩) (Out:=fun R h'=>R= .tup [.d (.int .i64 (p.1:Int)), .d (.agg [])]∧h'=ae (zz va ca vb cb (nP ⟨lb,cb⟩ o la) lb (o ++[p.2]) o.length) r) ND vy.2.1 (fun c=>by rw[vy.1];intro h;cases h) rfl (js _)
     (fun G w a L s=>FZ L s vy.1 rfl (e:=(.int .i64 (p.1:Int), .agg [],p.2)) (seen:=o) (I:=600100) (vI:=1) (k:=500004) (v:=va) (c:=ca) (es:=a6 (nP ⟨lb,cb⟩ o la)) (by simp[ae,aG]) (by simp[ae,aG]) (x9.2 ⟨p,hp,rfl⟩) (by
      unfold a6;rw[yx];exact(List.Sublist.map _ List.filter_sublist).nodup f)) ?_))
    rintro R h' ⟨rfl,rfl⟩;obtain⟨K,S4,ob2,V,g1,g2,g3⟩:=Q2 va ca vb cb o.length (nP ⟨lb,cb⟩ o la) lb (o ++[p.2]) p.1 r;refine⟨K,_,S4,ob2,V,by rw[A,vy.2.2.1];rfl,by rw[u,A];exact g1,by rw[u];exact g2,_,g3 X, ?_⟩
    have T:(o ++[p.2]).Nodup:=by
     rw[zF];exact⟨hn,by simp,fun a ha b f=>by rw[xM]at f;subst f;exact fun e=>M (e▸ha)⟩
    have S:∀v∈o ++[p.2],v∈la.map (·.2):=fun v hv=>by
     rcases xU.1 hv with h|h
     ·exact hs v h
     ·rw[xM]at h
      subst h;exact x9.2 ⟨p,W,rfl⟩
    have hl2:o.length<la.length:=by
     have:=List.Nodup.length_le_of_subset T S;rw[xK,xt,xO]at this;omega
    have next:=ih (la.length-(o ++[p.2]).length) (by rw[xK,xt];omega) (o ++[p.2]) rfl T S
    rw[xK,xt]at next
    cases E:(⟨lb,cb⟩:SureL).has p.1 with
    |true=>
     rw[JR f hp E]at next
     refine en ((LM va ca vb cb o.length (nP ⟨lb,cb⟩ o la) lb (o ++[p.2]) p.1 false _ rfl (by unfold SureL.has at E;rw[E];rfl) r X u A).mono ?_);rintro e' S' ⟨rfl,hw⟩;refine AW.weak hw (iS (b:=false) rfl (fun h=>by cases h) (fun _=>p4 ?_));rw[←oO]
     exact LW.weak (nQ (l:=AN va 0) (fun q C=>by
      simp only[AN,x0,yU,zR]at C;rcases C with rfl|rfl|rfl<;>rfl) rfl) next
    |false=>
     rw[JS g f hp E]at next
     refine en ((LM va ca vb cb o.length (nP ⟨lb,cb⟩ o la) lb (o ++[p.2]) p.1 true _ rfl (by unfold SureL.has at E;rw[E];rfl) r X u A).mono ?_);rintro e' S' ⟨rfl,hw⟩;refine AW.weak hw (iS (b:=true) rfl (fun _=> ?_) (fun h=>by cases h));obtain⟨fts4,k1⟩:=Q3 va p.1 true ⟨ah (AN va 0 ++[(4,dN p.1),(16,dB true)]),ae (zz va ca vb cb (nP ⟨lb,cb⟩ o la) lb (o ++[p.2]) (o.length+1)) r⟩ rfl rfl;obtain⟨i,hi⟩:=tZ (j:=0) ⟨p,hp,rfl⟩;rw[x8]at hi;have z:=r8 (l:=nP ⟨lb,cb⟩ o la) (x:=p.1) (j:=0) (i:=i) ((List.Sublist.map _ List.filter_sublist).nodup g) (hi.trans (by rw[x8]));refine gN (cfg:={}) (p:=2) (Out:=fun R h'=>R= .tup []∧h'=aG (ae (zz va ca vb cb (nP ⟨lb,cb⟩ o la) lb (o ++[p.2]) (o.length+1)) r) 500004 ⟨va,some (.map ((a6 (nP ⟨lb,cb⟩ o la)).eraseIdx i) ca)⟩) NE r7.2.1 (fun c=>by rw[r7.1];intro h;cases h) (by rw[u,A];exact k1) (js _) (fun G w a L s=> ?_) ?_
     ·obtain⟨v',w',G',q1,q2,q3,q4⟩:=Ed (P:=X.P) L s (t:=90) (kt:=3) (et:=Xh) (m:= .tmp 17) (x:= .tmp 18) (k:=500004) (v:=va) (c:=ca) (es:=a6 (nP ⟨lb,cb⟩ o la)) (kd:= .int .i64 (p.1:Int)) (y:= .agg []) (i:=i) r7.1 oP.1 oP.2.1 oP.2.2 (by rw[u];exact GC) rfl rfl (by simp[ae,aG]) (by rw[u];kernel_rfl) (by rw[oJ,hi];rfl)
      exact⟨v',w',G',_,_,q1,q2,q3,q4,rfl,rfl⟩
     ·rintro R h' ⟨rfl,rfl⟩
      refine⟨{},_,_,[],[],by rw[r7.2.2.1];rfl,by rw[r7.2.2.2];rfl,js _,_,Weak.refl _, ?_⟩;rw[pz,z,NI g f n];rw[←oO]
      exact LW.weak (nQ (l:=AN va 0) (fun q C=>by
       simp only[AN,x0,yU,zR]at C;rcases C with rfl|rfl|rfl<;>rfl) rfl) next
abbrev TW(va ca vb cb:Nat)(la lb:List (Nat×Nat)):List (Nat×aE):=
 [(500004,⟨va,some (.map (a6 la) ca)⟩),(600005,⟨1,some (.arr 1 [.mp 500014 vb])⟩),(500014,⟨vb,some (.map (a6 lb) cb)⟩),(600100,⟨0,none⟩),(600205,⟨0,none⟩),(600461,⟨0,none⟩),(600591,⟨0,none⟩)]
abbrev Xi(va ca vb cb:Nat)(la lb:List (Nat×Nat))(w:Nat):List (Nat×aE):=
 [(500004,⟨va,some (.map (a6 la) ca)⟩),(600005,⟨1,some (.arr 1 [.mp 500014 vb])⟩),(500014,⟨vb,some (.map (a6 lb) cb)⟩),(600100,⟨1,none⟩),(600205,⟨w,none⟩),(600461,⟨w,none⟩),(600591,⟨w,none⟩)]
theorem Q5(a:St)(h:a.env 0= .mp 500004 va):∃fts,d7 Pg {} 19 P2 (List.range' 0 1) a=some (⟨aG a.env 6 (.mp 500004 va),a.heap⟩,[],fts):=by
 rw[←h];exact C5 (by kernel_rfl)
theorem Ut(b:aa):am Pg 159 [.mp 500004 va, .fn 160 [.ptr 600005 1 0 0 1]] (ae (TW va ca vb cb la lb) b) [] (ae (Xi va ca vb cb (la.filter fun e=>(⟨lb,cb⟩:SureL).has e.1) lb la.length) b):=by
 refine k0 b9 Tryz.func159 (c:=Us) (by kernel_rfl) (by kernel_rfl) (by rw[show Tryz.f159.ntmps=19 by kernel_rfl];exact Nat.le_of_ble_eq_true rfl) fun X j i=> ?_
 have i:X.N=19:=i.trans (by kernel_rfl);rw[Et];obtain⟨o,A⟩:=Q5 (va:=va) g f n ⟨fO [.mp 500004 va, .fn 160 [.ptr 600005 1 0 0 1]],ae (TW va ca vb cb la lb) b⟩ rfl;refine en (gN (cfg:={}) (ob:=[]) (p:=1) (Out:=fun x h'=>x= .itr 600100 1∧h'=aG (ae (TW va ca vb cb la lb) b) 600100 ⟨1,some (.itr 500004 va ca [])⟩) NB rY.2.1 (fun c=>by rw[rY.1];intro h;cases h) (by rw[j,i];exact A) (js _) (fun G w a z l=> ?_) ?_)
 ·obtain⟨v',y,B,d,h2,t,s⟩:=FY (P:=X.P) z l 600100 rY.1 (by rw[j];exact GC) (k:=500004) (v:=va) (es:=a6 la) (c:=ca) rfl (by simp[ae,aG])
  have e:(ae (TW va ca vb cb la lb) b 600100).ver=0:=by simp[ae,aG]
  simp only[e]at t s;exact⟨v',y,B,_,_,d,h2,t,s,rfl,rfl⟩
 ·rintro x h' ⟨rfl,rfl⟩
  refine⟨{},_,_,[],[],by rw[i,rY.2.2.1];rfl,by rw[rY.2.2.2];rfl,js _,⟨ah (AN va 0),ae (zz va ca vb cb la lb [] 0) b⟩,nQ (fun q r=> ?_) ?_, ?_⟩
  ·simp only[AN,x0,yU,zR]at r
   rcases r with rfl|rfl|rfl<;>rfl
  ·funext k
   simp only[ae,aG];by_cases d:k=600100
   ·subst d;simp
   ·simp[d]
  ·have lp:=Q4 (va:=va) (vb:=vb) (cb:=cb) (lb:=lb) g f n b X j i _ [] rfl yV (fun v u=>by cases u)
   rw[NG]at lp;refine kX (jT (lp.aw.mono ?_));rintro C S' ⟨rfl,m,hw⟩;refine⟨_,hw.trans (eD (h':=ae (Xi va ca vb cb (la.filter fun e=>(⟨lb,cb⟩:SureL).has e.1) lb la.length) b) fun k=> ?_), .inl rfl,by kernel_rfl,rfl⟩;simp only[ae,aG];by_cases d:k=600100
   ·subst d;simp
   ·simp[d]
end
section
variable(va ca vb cb:Nat)(la lb:List (Nat×Nat))
theorem Q6(y:Bool)(a:aa):am Pg 135 [.mp 500004 va, .mp 500014 vb,dB true,dB y] (ae [(600005,⟨0,none⟩)] a) [.mp 500014 vb] (ae [(600005,⟨1,none⟩)] a):=
 al b9 named {} 2000 600000 _ (by kernel_rfl)
theorem Q7(a:aa):am Pg 135 [.mp 500004 va, .mp 500014 vb,dB false,dB true] (ae [(600005,⟨0,none⟩)] a) [.mp 500004 va] (ae [(600005,⟨1,none⟩)] a):=
 al b9 named {} 2000 600000 _ (by kernel_rfl)
theorem Q8(c:(la.map (·.1)).Nodup)(b:(la.map (·.2)).Nodup)(d:∀p∈la,p.2<ca)(a:aa):am Pg 135 [.mp 500004 va, .mp 500014 vb,dB false,dB false] (ae [(500004,⟨va,some (.map (a6 la) ca)⟩),(500014,⟨vb,some (.map (a6 lb) cb)⟩),(600005,⟨0,none⟩),(600100,⟨0,none⟩),(600205,⟨0,none⟩),(600461,⟨0,none⟩),(600591,⟨0,none⟩)] a) [.mp 500004 va]
    (ae [(500004,⟨va,some (.map (a6 (la.filter fun e=>(⟨lb,cb⟩:SureL).has e.1)) ca)⟩),(500014,⟨vb,some (.map (a6 lb) cb)⟩),(600005,⟨1,none⟩),(600100,⟨1,none⟩),(600205,⟨la.length,none⟩),(600461,⟨la.length,none⟩),(600591,⟨la.length,none⟩)] a):=
 al b9 named ({calls:=fun f s _=>if f=135 then (if s=17 then some (ad (Ut (va:=va) (ca:=ca) (vb:=vb) (cb:=cb) (la:=la) (lb:=lb) c b d))else none)else none}) 2000 600000 _ (by kernel_rfl)
end
end Go.Avm
namespace Go.Avm
open Go.Proofs
def sw(k:Nat):Nat:=bif Nat.beq k 500004 then 500014 else bif Nat.beq k 500014 then 500004 else k
theorem GD{a b:Nat}(h:a≠b):Nat.beq a b=false:=by
 cases c:Nat.beq a b with
 |false=>rfl
 |true=>exact absurd (yF c) h
theorem t1(k:Nat):sw (sw k)=k:=by
 by_cases a:k=500004
 ·subst a;rfl
 ·by_cases h2:k=500014
  ·subst h2;rfl
  ·have e:sw k=k:=by
     unfold sw;rw[GD a,GD h2];rfl
   rw[e,e]
theorem zS:Names sw fun j=>some (sw j):=⟨fun k=>by simp only[t1],fun j k h=>by
 have:sw j=k:=Option.some.inj h;rw[←this,t1]⟩
theorem r9(a:aa):∀(l:List (Nat×aE))(j:Nat),aY sw (ae l a (sw j))=ae (l.map fun p=>(sw p.1,aY sw p.2)) (eP sw (fun j=>some (sw j)) a) j
 |[],j=>rfl
 |(k,e)::r,j=>by
  simp only[xH,ae,aG];by_cases h:sw j=k
  ·have h2:j=sw k:=by rw[←h,t1]
   rw[xf h,xf h2]
  ·have h2:¬j=sw k:=fun h2=>h (by rw[h2,t1])
   rw[xo h,xo h2];exact r9 a r j
abbrev JT(S:CK):List AV:=[.mp 499904 1, .d (.ro (S.fs.map bn)), .sl 500191 1 0 S.fs.length 1, .sl 500382 S.vp 0 S.c.pts.length 3,dN S.fn, .mp 500002 S.vh, .mp 500003 S.vs, .mp 500014 S.vq,dI S.deep]
abbrev Eu(S:CK):List (Nat×aE):=
 [(500000,⟨1,some (.arr 1 (JT S))⟩),(499904,⟨1,some (.map (kq 0 S.fs) S.fs.length)⟩),(500002,⟨S.vh,some (.map (gE 0 S.c.vars) S.c.vars.length)⟩),(500003,⟨S.vs,some (.map (cA 0 S.c.seen) S.c.seen.length)⟩),
  (500014,⟨S.vq,some (.map (a6 S.c.sure.l) S.c.sure.c)⟩),(500005,⟨S.vv,some (.arr 4 (S.c.vars.map oh))⟩),(500382,⟨S.vp,some (.arr 3 (S.c.pts.map bU))⟩),(500191,⟨1,some (.arr 1 (S.W.set S.fn (fF S.vv S.c.vars)))⟩)]
theorem BX{S:CK}(h:CKok S):((Eu S).map fun p=>(sw p.1,aY sw p.2))=ck S:=by
 have a:sw 500005=500005:=rfl;have g:sw 500000=500000:=rfl;have d:sw 499904=499904:=rfl;have b:sw 500002=500002:=rfl;have f:sw 500003=500003:=rfl;have e:sw 500014=500004:=rfl;have i:sw 500382=500382:=rfl;have c:sw 500191=500191:=rfl;simp only[ck,CX,Eu,JT,xH,xY,aY,x5,dx,nN,lj,LB h a,bk,aO,g,d,b,f,e,i,c,a]
abbrev C6(g:Gv):List (Nat×aE):=[(500000,⟨1,none⟩),(499904,⟨1,none⟩),(500002,⟨g.vh,none⟩),(500003,⟨g.vs,none⟩),(500014,⟨g.vq,none⟩),(500005,⟨g.vv,none⟩),(500382,⟨g.vp,none⟩),(500191,⟨1,none⟩)]
theorem GE(g:Gv):((C6 g).map fun p=>(sw p.1,aY sw p.2))=cv g:=by kernel_rfl
theorem Ev{S S':CK}(h:CKok S)(h':CKok S'){f:Nat}{d:D}(c:HC f [aI, .d d] (ck S) [] (ck S')):HC f [aI, .d d] (Eu S) [] (Eu S'):=fun a=>by
 have e:eP sw (fun j=>some (sw j)) (ae (Eu S) a)=ae (ck S) (eP sw (fun j=>some (sw j)) a):=by
  funext j;have:=r9 a (Eu S) j;rw[BX h]at this;exact this
 refine lM zS (h2:=ae (ck S') (eP sw (fun j=>some (sw j)) a)) ?_ fun k=> ?_
 ·rw[e]
  exact c _
 ·have:=r9 a (Eu S') (sw k)
  rw[BX h',t1]at this;exact this.symm
theorem GF{S:CK}(h:CKok S){g:Gv}{f:Nat}{d:D}{p e:Int}(c:HX f [aI, .d d] (ck S) (aD p e) (cv g)):HX f [aI, .d d] (Eu S) (aD p e) (C6 g):=fun a=>by
 have e:eP sw (fun j=>some (sw j)) (ae (Eu S) a)=ae (ck S) (eP sw (fun j=>some (sw j)) a):=by
  funext j;have:=r9 a (Eu S) j;rw[BX h]at this;exact this
 refine zj zS (h2:=ae (cv g) (eP sw (fun j=>some (sw j)) a)) ?_ fun k=> ?_
 ·rw[e]
  exact c _
 ·have:=r9 a (C6 g) (sw k)
  rw[GE,t1]at this;exact this.symm
end Go.Avm
namespace Go.Avm
open Go.Proofs
abbrev Uu(S S':CK)(l:List aP):Prop:=HC 110 [aI, .d (.ro (cg l))] (ck S) [] (ck S')
abbrev Q9(S S':CK)(l:List aP):Prop:=HC 110 [aI, .d (.ro (cg l))] (Eu S) [] (Eu S')
abbrev i6(l:List aP)(b:Bool):Prop:=HC 50 [.d (.ro (cg l))] [] [.bool b] []
theorem sd{P:Program}(hm:jF P){f:Nat}{args i:List AV}{h k h2:aa}(g:am P f args h i k)(hw:∀(X:b4)(env:Nat→AV),Weak X ⟨env,k⟩ ⟨env,h2⟩):am P f args h i h2:=by
 refine⟨g.1,fun G B w0 I0 w c q y a=>(g.2 G B w0 I0 w c q y a).mono ?_⟩;rintro e o ⟨v,s,rfl,z,r,n⟩
 let X:b4:={P:=P,B:=B,w0:=w0,I0:=I0,N:=0,mixed:=hm}
 obtain⟨m,j,u,_⟩:=hw X (fun _=> .junk) s {tmps:= #[],defers:=[]} o ⟨r,[],⟨rfl,rfl,fun t p=>absurd p (by simp[X]),fun _ _=>rfl⟩,⟨yV,fun b d=>by simp at d,fun b d=>by simp at d,fun l x=>by simp[X]at x,xz _⟩⟩;exact⟨v,m,rfl,z.trans j,u,n.mono j⟩
abbrev LN:List (Nat×aE):=[(500014,⟨0,none⟩)]
abbrev P5(S:CK)(a:Nat):List (Nat×aE):=
 [(500000,⟨1,some (.arr 1 (JT S))⟩),(499904,⟨1,some (.map (kq 0 S.fs) S.fs.length)⟩),(500002,⟨S.vh,some (.map (gE 0 S.c.vars) S.c.vars.length)⟩),(500003,⟨S.vs,some (.map (cA 0 S.c.seen) S.c.seen.length)⟩),
  (500004,⟨a,none⟩),(500005,⟨S.vv,some (.arr 4 (S.c.vars.map oh))⟩),(500382,⟨S.vp,some (.arr 3 (S.c.pts.map bU))⟩),(500191,⟨1,some (.arr 1 (S.W.set S.fn (fF S.vv S.c.vars)))⟩),(500014,⟨S.vq,some (.map (a6 S.c.sure.l) S.c.sure.c)⟩)]
theorem Ra{S S':CK}(h:CKok S)(h':CKok S'){k:Nat}{ar:List AV}(i:bk (dm ((ck S ++LN).map (·.1)) 1000000) ar=ar):Cln ((ck S ++LN).map (·.1)) 1000000 ar (ck S ++LN) (P5 S' k):=
 ⟨rfl,rfl,rfl,i,by
  have a:=fW h (ρ:=dm ((ck S ++LN).map (·.1)) 1000000) rfl;rw[xF,xF (f:=fun p:Nat×aE=>p.2),a];rfl,by
  have a:=fW h' (ρ:=dm ((ck S ++LN).map (·.1)) 1000000) rfl;simp only[ck,xH,xY,List.cons.injEq,zB]at a;obtain⟨m,c,b,e,g,d,j,l⟩:=a;simp only[P5,xH,xY,c,b,e,g,d,j,l,List.cons.injEq,zB];refine⟨?_,trivial,trivial,trivial,rfl⟩;simp only[aY,x5,dx,bk,aO];rfl⟩
section
variable{S:CK}(h:CKok S)(k id:Int)(nm:List UInt8)(ty n p:Int)(s m:Int)(b:List UInt8)(j o:Int)(f zs:List Ex)(bd i:List aP)
include h
theorem XH(q r:Int)(c:iI S (.mk s m b j o f) [2] q r):HX 108 [aI,eG k id nm ty n p (.mk s m b j o f::zs) bd i] (ck S) (aD q r) (ck S):=
 qX {pans:=an Pg [(108,1,2049,⟨6,some (bg (wP c 2305)),[]⟩)]} 2000 (az h h rfl)
section
variable{t:Int}(w:lW S (.mk s m b j o f) [2] t)
include w
theorem XI(g:Gv)(q r:Int)(c:HX 110 [aI, .d (.ro (cg bd))] (ck S) (aD q r) (cv g)):HX 108 [aI,eG k id nm ty n p (.mk s m b j o f::zs) bd i] (ck S) (aD q r) (cv g):=
 qX {calls:=tC [(108,12,2343,be rfl (wO w 2305)),(108,17,2539,ad (mP S.vq (a6 S.c.sure.l) S.c.sure.c))],pans:=an Pg [(108,3,2588,⟨3,some (bg c),[]⟩)]} 2000 (j4 h rfl)
variable{S1:CK}(u:CKok S1)(c1:Uu S S1 bd)
include u c1
theorem XJ(g:Gv)(q r:Int)(c:HX 110 [aI, .d (.ro (cg i))] (Eu (S1.sureAs S.c.sure 1)) (aD q r) (C6 g)):HX 108 [aI,eG k id nm ty n p (.mk s m b j o f::zs) bd i] (ck S) (aD q r) (cv {g with vq:=S1.vq}):=
 qX {calls:=tC [(108,12,2343,be rfl (wO w 2305)),(108,17,2539,ad (mP S.vq (a6 S.c.sure.l) S.c.sure.c)),(108,21,2735,ad c1)],pans:=an Pg [(108,6,3225,⟨3,some (bg c),[]⟩)]} 2000 (j4 h rfl)
variable{d:CK}(g:Q9 (S1.sureAs S.c.sure 1) d i)
include g
theorem Uv(y:Bool)(h':CKok d)(a:i6 bd true)(e:i6 i y):HC 108 [aI,eG k id nm ty n p (.mk s m b j o f::zs) bd i] (ck S ++LN) [] (P5 d S1.vq):=
 qN {calls:=tC [(108,12,2343,be rfl (wO w 2305)),(108,17,2539,ad (mP S.vq (a6 S.c.sure.l) S.c.sure.c)),(108,21,2735,ad c1),(108,33,3372,ad g),(108,42,3764,be rfl a),(108,45,3862,be rfl e),(108,46,3862,ad (Q6 S1.vq d.vq y))]} 2000 (Ra h h' rfl)
theorem XK(y:Bool)(I:CKok d)(h':CKok (d.sureAs d.c.sure (S1.vq+1)))(F:i6 bd true)(A:i6 i y):HC 108 [aI,eG k id nm ty n p (.mk s m b j o f::zs) bd i] (ck S) [] (ck (d.sureAs d.c.sure (S1.vq+1))):=fun q=>by
 refine k8 (M:=1000000) (az h h' rfl) (fun q=> ?_) q;have c:=Uv h k id nm ty n p s m b j o f zs bd i w u c1 g y I F A (dy 1000000 q)
 have e:ae (ck S ++LN) (dy 1000000 q)=ae (ck S) (dy 1000000 q):=by
  funext k;simp only[ck,LN,xk,yG,ae,aG];by_cases r:k=500014
  ·subst r;rfl
  ·rw[xo r]
 rw[e]at c;refine⟨_,sd b9 c fun X env=>nD (C:=500000) (a:=7) (T:=500014) (K:=500004) (v:=d.vq) (c:=d.c.sure.c) (ces:=JT d) (es:=a6 d.c.sure.l) (by decide) (by decide) (by decide) rfl rfl (by simp[P5,ae,aG]),fun k r=> ?_,fun k r=> ?_⟩
 ·simp only[xH,xY,x0,yU,zR]at r
  rcases r with rfl|rfl|rfl|rfl|rfl|rfl|rfl|rfl<;>simp[P5,ck,CX,CK.sureAs,ae,aG]
 ·have B:k≠500000:=by omega
  have j:k≠499904:=by omega
  have E:k≠500002:=by omega
  have G:k≠500003:=by omega
  have J:k≠500004:=by omega
  have H:k≠500005:=by omega
  have D:k≠500382:=by omega
  have z:k≠500191:=by omega
  have x:k≠500014:=by omega
  simp only[P5,ck,ae,aG,B,j,E,G,J,H,D,z,x,yi]
theorem XL(h':CKok (d.sureAs S1.c.sure S1.vq))(a:i6 bd false)(e:i6 i true):HC 108 [aI,eG k id nm ty n p (.mk s m b j o f::zs) bd i] (ck S) [] (ck (d.sureAs S1.c.sure S1.vq)):=
 qN {calls:=tC [(108,12,2343,be rfl (wO w 2305)),(108,17,2539,ad (mP S.vq (a6 S.c.sure.l) S.c.sure.c)),(108,21,2735,ad c1),(108,33,3372,ad g),(108,42,3764,be rfl a),(108,45,3862,be rfl e),(108,46,3862,ad (Q7 S1.vq d.vq))]} 2000 (az h h' rfl)
theorem XM(h':CKok (d.sureAs (S1.c.sure.both d.c.sure) S1.vq))(a:i6 bd false)(e:i6 i false):HC 108 [aI,eG k id nm ty n p (.mk s m b j o f::zs) bd i] (ck S) [] (ck (d.sureAs (S1.c.sure.both d.c.sure) S1.vq)):=
 qN {calls:=tC [(108,12,2343,be rfl (wO w 2305)),(108,17,2539,ad (mP S.vq (a6 S.c.sure.l) S.c.sure.c)),(108,21,2735,ad c1),(108,33,3372,ad g),(108,42,3764,be rfl a),(108,45,3862,be rfl e),(108,46,3862,ad (Q8 S1.vq S1.c.sure.c d.vq d.c.sure.c S1.c.sure.l d.c.sure.l u.sk u.sb u.sc))]} 2000 (az h h' rfl)
end
end
end Go.Avm
namespace Go.Avm
open Go.Proofs
abbrev se(P:Pl)(es:List Ex)(bd d:List aP)(c:CS):TR CS:=(ay (c.te P.fs) es [[2]] false).bind fun _=>(eM P.in bd c).bind fun a=>(eM P.in d {a with sure:=c.sure}).bind fun b=>
 .ok {b with sure:=bif bT bd then b.sure else bif bT d then a.sure else a.sure.both b.sure}
theorem JU{P:Pl}{S:CK}(a:At P S){q:SureL}(b:QOk q S.c.vars.length)(v:Nat):At P (S.sureAs q v):=⟨vw a.ok b v,a.fs,a.fn,a.deep⟩
theorem JV{P:Pl}{bd j:List aP}(L:∀S,At P S→TC S 110 [aI, .d (.ro (cg bd))] (eM P.in bd S.c))(H:∀S,At P S→TC S 110 [aI, .d (.ro (cg j))] (eM P.in j S.c))(M:ms bd)(K:ms j)
    (k id:Int) (nm:List UInt8) (ty n p:Int) (es:List Ex) (S:CK) (a:At P S):TC S 108 [aI,eG k id nm ty n p es bd j] (se P es bd j S.c):=by
 unfold se;match es with
 |[]=>simp only[ay];trivial
 | .mk u s h x o i::zs=>
  have c:=Ng a.ok (.mk u s h x o i) 2;unfold WX at c;rw[a.fs]at c;rw[bC];revert c;cases ch (S.c.te P.fs) (.mk u s h x o i) [2]with
  |out=>exact fun _=>trivial
  |bad q r=>exact fun c=>hQ (S':=S) (XH a.ok k id nm ty n p u s h x o i zs bd j q r c)
  |ok t=>
   intro w;have w:lW S (.mk u s h x o i) [2] t:=w;simp only[TR.bind,xP,er];have c1:=L S a;revert c1;cases Q:eM P.in bd S.c with
   |out=>exact fun _=>trivial
   |bad q r=>exact fun ⟨g,c⟩=>⟨g,XI a.ok k id nm ty n p u s h x o i zs bd j w g q r c⟩
   |ok B=>
    rintro⟨S1,b,c1⟩;have O:QOk S.c.sure S1.c.vars.length:=a.ok.q.mono b.vars.length_le;have z:=JU (a.nx b) O 1;have C:=H (S1.sureAs S.c.sure 1) z;have I:(S1.sureAs S.c.sure 1).c={B with sure:=S.c.sure}:=by rw[←b.c];rfl
    rw[I]at C;simp only;revert C;cases eM P.in j {B with sure:=S.c.sure}with
    |out=>exact fun _=>trivial
    |bad q r=>exact fun ⟨g,c⟩=>⟨_,XJ a.ok k id nm ty n p u s h x o i zs bd j w b.ok c1 g q r (GF z.ok c)⟩
    |ok F=>
     rintro⟨E,e,C⟩;have A:=Ev z.ok e.ok C;have D:S1.c.vars<+:E.c.vars:=e.vars;have y:∀(J:SureL)(v:Nat),QOk J E.c.vars.length→Nx S (E.sureAs J v) {F with sure:=J}:=fun J v N=>⟨vw e.ok N v,by rw[←e.c];rfl,e.fs.trans b.fs,e.fn.trans b.fn,e.deep.trans b.deep,e.W.trans b.W,b.vars.trans D⟩
     have l:=M;have m:=K;unfold ms at l m;simp only[TR.bind];cases G:bT bd with
     |true=>
      rw[G]at l;have f:=y F.sure (S1.vq+1) (by rw[←e.c];exact e.ok.q);rw[←e.c]at f ⊢;exact⟨_,f,XK a.ok k id nm ty n p u s h x o i zs bd j w b.ok c1 A (bT j) e.ok f.ok l m⟩
     |false=>
     rw[G]at l;cases h2:bT j with
     |true=>
      rw[h2]at m;have f:=y B.sure S1.vq (by rw[←b.c];exact b.ok.q.mono D.length_le);rw[←b.c]at f ⊢;exact⟨_,f,XL a.ok k id nm ty n p u s h x o i zs bd j w b.ok c1 A f.ok l m⟩
     |false=>
      rw[h2]at m;have f:=y (B.sure.both F.sure) S1.vq (by rw[←b.c];exact(b.ok.q.mono D.length_le).both);rw[←b.c,←e.c]at f ⊢;exact⟨_,f,XM a.ok k id nm ty n p u s h x o i zs bd j w b.ok c1 A f.ok l m⟩
end Go.Avm
namespace Go.Avm
open Go.Proofs
def lX:Nat→List (List UInt8)→List Pm→TR Unit
 |_,_,[]=> .ok ()
 |k,a,p::r=>bif decide (6≤k)then .bad p.p 9 else bif a.any (· ==p.nm)then .bad p.p 7 else lX (k+1) (a ++[p.nm]) r
def fi:List Fn→List Fn→TR Unit
 |_,[]=> .ok ()
 |a,f::r=>bif (bA f.nm a 0).isSome then .bad f.p 7 else (lX 0 [] f.ps).bind fun _=>fi (a ++[f]) r
def pA:List UInt8:=[109,97,105,110]
def f0(fs:List Fn):TR Unit:=(fi [] fs).bind fun _=>match bA pA fs 0 with
 |none=> .bad 0 13
 |some (_,f)=>bif f.ps.isEmpty&&f.res==1 then .ok ()else .bad f.p 13
def AO:Nat→List (List UInt8)→List (D×D×Nat)
 |_,[]=>[]
 |i,x::r=>(.str x, .agg [],i)::AO (i+1) r
theorem C7:∀(l:List (List UInt8))(i:Nat)(x:List UInt8),AO i (l ++[x])=AO i l ++[(.str x, .agg [],i+l.length)]
 |[],_,_=>rfl
 |a::r,i,x=>by
  simp only[xk,AO,C7 r (i+1) x,xG];rw[show i+1+r.length=i+(r.length+1) by omega]
theorem vB(x:List UInt8):∀(l:List (List UInt8))(i j:Nat),(l.any (· ==x))=false→cj (.str x) (AO i l) j=some none
 |[],_,_,_=>rfl
 |e::r,i,j,h=>by
  simp only[yn,Bool.or_eq_false_iff]at h
  have a:(x==e)=false:=by
   have:=h.1;rw[y6]at this ⊢;exact this.symm
  simp only[AO,cj,jg,a];exact vB x r (i+1) (j+1) h.2
theorem zT(x:List UInt8):∀(l:List (List UInt8))(i j:Nat),(l.any (· ==x))=true→∃q,cj (.str x) (AO i l) j=some (some (q, .agg []))
 |[],_,_,h=>by cases h
 |e::r,i,j,h=>by
  simp only[AO,cj,jg];cases a:(x==e)with
  |true=>exact⟨j,rfl⟩
  |false=>
   refine zT x r (i+1) (j+1) ?_;simp only[yn,yQ]at h;refine h.resolve_left fun h2=> ?_
   rw[eq_of_beq h2]at a;simp at a
theorem C8:∀(l:List Fn)(i:Nat)(f:Fn),kq i (l ++[f])=kq i l ++[(.str f.nm, .int .i64 ((i+l.length:Nat):Int),i+l.length)]
 |[],_,_=>rfl
 |a::r,i,f=>by
  simp only[xk,kq,C8 r (i+1) f,xG];rw[show i+1+r.length=i+(r.length+1) by omega]
abbrev fE(fs:List Fn)(es:List (D×D×Nat))(m:Nat)(nn:AV):List (Nat×aE):=
 [(500000,⟨1,some (.arr 1 [.mp 499904 1, .d (.ro (fs.map bn)), .sl 500191 1 0 fs.length 1, .sl 500382 1 0 1 3,dI 0,nn,nn,nn,dI 0])⟩),(499904,⟨1,some (.map es m)⟩),(500382,⟨1,some (.arr 3 [bU dz])⟩),(500191,⟨1,some (.arr 1 (List.replicate fs.length .nils))⟩)]
abbrev AP:List (Nat×aE):=[(500000,⟨1,none⟩),(499904,⟨1,none⟩),(500382,⟨1,none⟩),(500191,⟨1,none⟩)]
theorem oQ{fs:List Fn}{es:List (D×D×Nat)}{m:Nat}{nn:AV}(e:∀ρ,aO ρ nn=nn){ρ:Nat→Nat}(a:([499904,500382,500191].map ρ)=[499904,500382,500191]):((fE fs es m nn).map fun p=>aY ρ p.2)=(fE fs es m nn).map (·.2):=by
 simp only[xH,xY,List.cons.injEq,zB]at a;obtain⟨g,f,d⟩:=a
 have c:bk ρ (List.replicate fs.length AV.nils)=List.replicate fs.length AV.nils:=gT fun x b=>by
  rw[List.eq_of_mem_replicate b];rfl
 have hp:aO ρ (bU dz)=bU dz:=rfl;simp only[fE,xH,xY,aY,x5,dx,c,hp,bk,aO,g,f,d,e]
abbrev vC(l:List (List UInt8)):List (Nat×aE):=[(600047,⟨1,some (.map (AO 0 l) l.length)⟩)]
abbrev JW:List (Nat×aE):=[(600047,⟨1,none⟩)]
theorem GG{fs:List Fn}{es es':List (D×D×Nat)}{m c:Nat}{nn:AV}(a:∀ρ,aO ρ nn=nn){ar:List AV}(b:bk (dm ((fE fs es m nn).map (·.1)) 1000000) ar=ar):Cln ((fE fs es m nn).map (·.1)) 1000000 ar (fE fs es m nn) (fE fs es' c nn):=⟨rfl,rfl,rfl,b,oQ a rfl,oQ a rfl⟩
section
variable{fs:List Fn}{es:List (D×D×Nat)}{m:Nat}{nn:AV}(a:∀ρ,aO ρ nn=nn)
include fs es m nn a
theorem oR{ar:List AV}(b:bk (dm ((fE fs es m nn).map (·.1)) 1000000) ar=ar):Cln ((fE fs es m nn).map (·.1)) 1000000 ar (fE fs es m nn) AP:=⟨rfl,rfl,rfl,b,oQ a rfl,rfl⟩
theorem GH{l l':List (List UInt8)}{ar:List AV}(e:List (Nat×aE))(b:e.map (·.1)=[600047])(c:(e.map fun p:Nat×aE=>aY (dm ((fE fs es m nn ++vC l).map (·.1)) 1000000) p.2)=e.map (·.2))(d:bk (dm ((fE fs es m nn ++vC l).map (·.1)) 1000000) ar=ar):Cln ((fE fs es m nn ++vC l).map (·.1)) 1000000 ar (fE fs es m nn ++vC l) (fE fs es m nn ++e):=
 ⟨rfl,rfl,by rw[xF,xF,b];rfl,d,by
  rw[xF,xF (f:=fun p:Nat×aE=>p.2),oQ a rfl];rfl,by
  rw[xF,xF (f:=fun p:Nat×aE=>p.2),oQ a rfl,c]⟩
theorem C9{l:List (List UInt8)}{ar:List AV}(b:bk (dm ((fE fs es m nn ++vC l).map (·.1)) 1000000) ar=ar):Cln ((fE fs es m nn ++vC l).map (·.1)) 1000000 ar (fE fs es m nn ++vC l) (AP ++JW):=
 ⟨rfl,rfl,rfl,b,by
  rw[xF,xF (f:=fun p:Nat×aE=>p.2),oQ a rfl];rfl,rfl⟩
end
abbrev sf(fs:List Fn)(j:Nat)(ps:List Pm)(k:Nat):List (Nat×AV):=[(0,aI),(6, .mp 600047 1),(18, .d (.ro (fs.map bn))),(19,dN (fs.map bn).length),(20,dN j),(49, .d (.ro (ps.map cR))),(50,dN (ps.map cR).length),(51,dN k)]
abbrev Uw(fs:List Fn)(j:Nat):List (Nat×AV):=[(0,aI),(18, .d (.ro (fs.map bn))),(19,dN (fs.map bn).length),(20,dN j)]
def TY(P:Program)(ps:List Pm)(k:Nat)(x:Pm)(a:ps[k]? =some x):bX P:= .idx (ps.map cR) ((k:Nat):Int) (cR x) (by omega) (by rw[xb,xN,a];rfl)
def NJ(P:Program)(k:Nat)(t:Bool)(h:decide (6≤k)= !t):bX P:= .val (dB (decide ((k:Int)<6))) (dB t) (by
 congr 2;cases t
 ·have:=xe h
  rw[x6];omega
 ·have:=ya h
  rw[xw];omega)
section
variable{fs:List Fn}{es:List (D×D×Nat)}{m:Nat}{nn:AV}(a:∀ρ,aO ρ nn=nn)(j:Nat)(ps:List Pm)(k:Nat)(l:List (List UInt8))
include a
theorem Rb(b:decide (k<(ps.map cR).length)=false):RE 109 (lO 26 8) (sf fs j ps k) (fE fs es m nn ++vC l) (.exit 2) (Uw fs j) (fE fs es m nn ++JW):=
 qE {hint:=qT 26 [(52,dk Pg k (ps.map cR).length false b)]} 26 600000 (GH a (l':=l) JW rfl rfl rfl)
section
variable(b:decide (k<(ps.map cR).length)=true)(nm:List UInt8)(ty p:Int)(c:ps[k]? =some ⟨nm,ty,p⟩)
include b c
theorem NK(d:decide (6≤k)=true):RE 109 (lO 26 8) (sf fs j ps k) (fE fs es m nn ++vC l) (.panic (aD p 9)) [] (AP ++JW):=
 qE {hint:=qT 26 [(52,dk Pg k (ps.map cR).length true b),(54,TY Pg ps k _ c),(57,NJ Pg k false d)],pans:=an Pg [(26,10,600763,⟨4,some (bg (cd p 9)),[]⟩)]} 26 600000 (C9 a rfl)
theorem JX(d:decide (6≤k)=false)(q:Nat)(e:cj (.str nm) (AO 0 l) 0=some (some (q, .agg []))):RE 109 (lO 26 8) (sf fs j ps k) (fE fs es m nn ++vC l) (.panic (aD p 7)) [] (AP ++JW):=
 qE {hint:=qT 26 [(52,dk Pg k (ps.map cR).length true b),(54,TY Pg ps k _ c),(57,NJ Pg k true d),(65, .look (.str nm) (AO 0 l) (some (q, .agg [])) e)],calls:=tC [(26,60,601199,be rfl (aU p 9))],pans:=an Pg [(26,12,602289,⟨4,some (bg (cd p 7)),[]⟩)]} 26 600000 (C9 a rfl)
theorem Ux(d:decide (6≤k)=false)(e:(l.any (· ==nm))=false):RE 109 (lO 26 8) (sf fs j ps k) (fE fs es m nn ++vC l) .normal (sf fs j ps (k+1)) (fE fs es m nn ++[(600047,⟨1,some (.map (AO 0 l ++[(.str nm, .agg [],l.length)]) (l.length+1))⟩)]):=
 qE {hint:=qT 26 [(52,dk Pg k (ps.map cR).length true b),(54,TY Pg ps k _ c),(57,NJ Pg k true d),(65, .look (.str nm) (AO 0 l) none (vB nm l 0 0 e)),(113004, .look (.str nm) (AO 0 l) none (vB nm l 0 0 e)),(77,bj Pg k (by have:=ya d;omega))],calls:=tC [(26,60,601199,be rfl (aU p 9)),(26,72,602725,be rfl (aU p 7))]} 26 600000 (GH a (l':=l) [(600047,⟨1,some (.map (AO 0 l ++[(.str nm, .agg [],l.length)]) (l.length+1))⟩)] rfl rfl rfl)
end
end
def NL(fs:List Fn)(es:List (D×D×Nat))(m:Nat)(nn:AV)(j:Nat)(ps:List Pm)(k:Nat)(l:List (List UInt8)):TR Unit→Prop
 | .ok _=>RL 109 (lO 26 8) (sf fs j ps k) (fE fs es m nn ++vC l) (.exit 2) (Uw fs j) (fE fs es m nn ++JW)
 | .bad p e=>RL 109 (lO 26 8) (sf fs j ps k) (fE fs es m nn ++vC l) (.panic (aD p e)) [] (AP ++JW)
 | .out=>True
theorem LO{fs:List Fn}{es:List (D×D×Nat)}{m:Nat}{nn:AV}(i:∀ρ,aO ρ nn=nn)(j:Nat)(ps:List Pm):∀(d k:Nat)(l:List (List UInt8)),ps.length-k=d→k≤ps.length→NL fs es m nn j ps k l (lX k l (ps.drop k))
 |0,k,l,v,w=>by
  have:k=ps.length:=by omega
  subst this;rw[zK];exact fun a X b c=>aA (Rb i j ps ps.length l (by simp) a X b c) (by simp)
 |d+1,k,l,v,w=>by
  have f:k<ps.length:=by omega
  have n:ps[k]? =some ps[k]:=xD f;rw[xZ f];generalize ps[k]=x at n;obtain⟨nm,ty,p⟩:=x;have s:decide (k<(ps.map cR).length)=true:=by simpa using f
  simp only[lX];cases t:decide (6≤k)with
  |true=>exact fun a X b c=>aA (NK i j ps k l s nm ty p n t a X b c) (by simp)
  |false=>
  cases o:l.any (· ==nm)with
  |true=>
   obtain⟨q,o⟩:=zT nm l 0 0 o;exact fun a X b c=>aA (JX i j ps k l s nm ty p n t q o a X b c) (by simp)
  |false=>
   have g:=LO (fs:=fs) (es:=es) (m:=m) i j ps d (k+1) (l ++[nm]) (by omega) f;have h:=Ux (fs:=fs) (es:=es) (m:=m) i j ps k l s nm ty p n t o
   have e:vC (l ++[nm])=[(600047,⟨1,some (.map (AO 0 l ++[(.str nm, .agg [],l.length)]) (l.length+1))⟩)]:=by
    simp only[vC,C7,xK,xG,xS,x8]
   simp only[xP];revert g;cases lX (k+1) (l ++[nm]) (ps.drop (k+1))with
   |out=>exact fun _=>trivial
   |bad u r=>
    intro g;simp only[NL,e]at g;exact fun a X b c=>au (h a X b c) (g a X b c)
   |ok _=>
    intro g;simp only[NL,e]at g;exact fun a X b c=>au (h a X b c) (g a X b c)
end Go.Avm
namespace Go.Avm
open Go.Proofs
noncomputable def Rc{fs:List Fn}{es:List (D×D×Nat)}{m:Nat}{nn:AV}{j:Nat}{ps:List Pm}{x:aB}{l':List (Nat×AV)}{b:List (Nat×aE)}(h:RL 109 (lO 26 8) (sf fs j ps 0) (fE fs es m nn ++vC []) x l' b):dJ Pg:=
 ⟨109,aJ Pg 26 8,sf fs j ps 0,fun _=>fE fs es m nn ++vC [],x,l',fun _=>b,fun a X c d=>(h a X c d).aw⟩
abbrev GI(fs:List Fn)(j:Nat):List (Nat×AV):=[(0,aI),(18, .d (.ro (fs.map bn))),(19,dN (fs.map bn).length),(20,dN j)]
def BZ(P:Program)(fs:List Fn)(k:Nat)(x:Fn)(a:fs[k]? =some x):bX P:= .idx (fs.map bn) ((k:Nat):Int) (bn x) (by omega) (by rw[xb,xN,a];rfl)
section
variable{fs a:List Fn}{nn:AV}(b:∀ρ,aO ρ nn=nn)
include b
theorem NM(c:decide (a.length<(fs.map bn).length)=false):RE 109 (lO 26 1) (GI fs a.length) (fE fs (kq 0 a) a.length nn) (.exit 0) [(0,aI)] (fE fs (kq 0 a) a.length nn):=
 qE {hint:=qT 26 [(21,dk Pg a.length (fs.map bn).length false c)]} 26 596621 (GG b rfl)
variable(d:decide (a.length<(fs.map bn).length)=true)(nm:List UInt8)(ps:List Pm)(res:Int)(bd:List aP)(p:Int)(g:fs[a.length]? =some ⟨nm,ps,res,bd,p⟩)
include d g
theorem GJ(r:Nat×Fn)(c:bA nm a 0=some r):RE 109 (lO 26 1) (GI fs a.length) (fE fs (kq 0 a) a.length nn) (.panic (aD p 7)) [] AP:=
 qE {hint:=qT 26 [(21,dk Pg a.length (fs.map bn).length true d),(23,BZ Pg fs a.length _ g),(32,oL Pg nm a (some r) c)],pans:=an Pg [(26,4,598692,⟨4,some (bg (cd p 7)),[]⟩)]} 26 596621 (oR b rfl)
variable(h:bA nm a 0=none)
include h
theorem NN(q e:Int)(c:RL 109 (lO 26 8) (sf fs a.length ps 0) (fE fs (kq 0 a ++[(.str nm, .int .i64 (a.length:Int),a.length)]) (a.length+1) nn ++vC []) (.panic (aD q e)) [] (AP ++JW)):
    RE 109 (lO 26 1) (GI fs a.length) (fE fs (kq 0 a) a.length nn) (.panic (aD q e)) [] AP:=
 qE {loops:=fun f q=>if f=26 then (if q=8 then some (Rc c)else none)else none,hint:=qT 26 [(21,dk Pg a.length (fs.map bn).length true d),(23,BZ Pg fs a.length _ g),(32,oL Pg nm a none h),(105007,oL Pg nm a none h)],calls:=tC [(26,39,599128,be rfl (aU p 7))]} 26 596621 (oR b rfl)
theorem Rd(c:RL 109 (lO 26 8) (sf fs a.length ps 0) (fE fs (kq 0 a ++[(.str nm, .int .i64 (a.length:Int),a.length)]) (a.length+1) nn ++vC []) (.exit 2) (Uw fs a.length) (fE fs (kq 0 a ++[(.str nm, .int .i64 (a.length:Int),a.length)]) (a.length+1) nn ++JW))(e:fs.length<1000000):
    RE 109 (lO 26 1) (GI fs a.length) (fE fs (kq 0 a) a.length nn) .normal (GI fs (a.length+1)) (fE fs (kq 0 a ++[(.str nm, .int .i64 (a.length:Int),a.length)]) (a.length+1) nn):=
 qE {loops:=fun f q=>if f=26 then (if q=8 then some (Rc c)else none)else none,hint:=qT 26 [(21,dk Pg a.length (fs.map bn).length true d),(23,BZ Pg fs a.length _ g),(32,oL Pg nm a none h),(105007,oL Pg nm a none h),(78,bj Pg a.length (by have:=xe d;rw[xO]at this;omega))],calls:=tC [(26,39,599128,be rfl (aU p 7))]} 26 596621 (GG b rfl)
end
def NP(fs a:List Fn)(nn:AV):TR Unit→Prop
 | .ok _=>RL 109 (lO 26 1) (GI fs a.length) (fE fs (kq 0 a) a.length nn) (.exit 0) [(0,aI)] (fE fs (kq 0 fs) fs.length nn)
 | .bad p e=>RL 109 (lO 26 1) (GI fs a.length) (fE fs (kq 0 a) a.length nn) (.panic (aD p e)) [] AP
 | .out=>True
theorem LP{fs:List Fn}{nn:AV}(j:∀ρ,aO ρ nn=nn)(u:fs.length<1000000):∀(mQ a:List Fn),fs=a ++mQ→NP fs a nn (fi a mQ)
 |[],a,h=>by
  have:fs=a:=by rw[h,yC]
  subst this;exact fun b X d g=>aA (NM j (by simp) b X d g) (by simp)
 |f::mQ,a,h=>by
  have n:fs[a.length]? =some f:=by rw[h];simp
  have l:decide (a.length<(fs.map bn).length)=true:=by rw[h];simp
  have i:=LP (nn:=nn) j u mQ (a ++[f]) (by rw[h];simp);obtain⟨nm,ps,res,bd,p⟩:=f;simp only[fi];cases o:bA nm a 0 with
  |some r=>exact fun b X d g=>aA (GJ j l nm ps res bd p n r o b X d g) (by simp)
  |none=>
   have c:=LO (fs:=fs) (es:=kq 0 a ++[(.str nm, .int .i64 (a.length:Int),a.length)]) (m:=a.length+1) j a.length ps _ 0 [] rfl (xz _);rw[xn]at c;simp only[Option.isSome_none,xP]
   have e:fE fs (kq 0 (a ++[(⟨nm,ps,res,bd,p⟩:Fn)])) (a ++[(⟨nm,ps,res,bd,p⟩:Fn)]).length nn=fE fs (kq 0 a ++[(.str nm, .int .i64 (a.length:Int),a.length)]) (a.length+1) nn:=by
    simp only[fE,C8,xK,xG,xS,x8]
   have s:(a ++[(⟨nm,ps,res,bd,p⟩:Fn)]).length=a.length+1:=by simp
   revert c;cases lX 0 [] ps with
   |out=>exact fun _=>trivial
   |bad q t=>exact fun c b X d g=>aA (NN j l nm ps res bd p n o q t c b X d g) (by simp)
   |ok _=>
    intro c;have k:=Rd j l nm ps res bd p n o c u;simp only[TR.bind];revert i;cases fi (a ++[⟨nm,ps,res,bd,p⟩]) mQ with
    |out=>exact fun _=>trivial
    |bad q t=>
     intro i;simp only[NP,e]at i;simp only[s]at i;exact fun b X d g=>au (k b X d g) (i b X d g)
    |ok _=>
     intro i;simp only[NP,e]at i;simp only[s]at i;exact fun b X d g=>au (k b X d g) (i b X d g)
noncomputable def GK{fs:List Fn}{nn:AV}{x:aB}{l':List (Nat×AV)}{b:List (Nat×aE)}(h:RL 109 (lO 26 1) (GI fs 0) (fE fs [] 0 nn) x l' b):dJ Pg:=
 ⟨109,aJ Pg 26 1,GI fs 0,fun _=>fE fs [] 0 nn,x,l',fun _=>b,fun a X c d=>(h a X c d).aw⟩
section
variable{fs:List Fn}{nn:AV}(a:∀ρ,aO ρ nn=nn)
include a
theorem JY(q e:Int)(c:RL 109 (lO 26 1) (GI fs 0) (fE fs [] 0 nn) (.panic (aD q e)) [] AP):
    HX 26 [aI] (fE fs [] 0 nn) (aD q e) AP:=
 qX ({loops:=fun f q=>if f=26 then (if q=1 then some (GK c)else none)else none}) 600000 (oR a rfl)
variable(c:RL 109 (lO 26 1) (GI fs 0) (fE fs [] 0 nn) (.exit 0) [(0,aI)] (fE fs (kq 0 fs) fs.length nn))
include c
theorem Ew(b:bA [109,97,105,110] fs 0=none):HX 26 [aI] (fE fs [] 0 nn) (aD 0 13) AP:=
 qX {loops:=fun f q=>if f=26 then (if q=1 then some (GK c)else none)else none,hint:=qT 26 [(84,oL Pg [109,97,105,110] fs none b)],pans:=an Pg [(26,17,601853,⟨1,some (bg (cd 0 13)),[]⟩)]} 600000 (oR a rfl)
variable(i:Nat)(nm:List UInt8)(ps:List Pm)(res:Int)(bd:List aP)(p:Int)(d:bA [109,97,105,110] fs 0=some (i,⟨nm,ps,res,bd,p⟩))(b:fs[i]? =some ⟨nm,ps,res,bd,p⟩)
include d b
theorem JZ(e:(((ps.map cR).length:Int)==0)=false):HX 26 [aI] (fE fs [] 0 nn) (aD p 13) AP:=
 qX {loops:=fun f q=>if f=26 then (if q=1 then some (GK c)else none)else none,hint:=qT 26 [(84,oL Pg [109,97,105,110] fs (some (i,⟨nm,ps,res,bd,p⟩)) d),(95,BZ Pg fs i _ b),(100,qB e)],calls:=tC [(26,88,601962,be rfl (aU 0 13))],pans:=an Pg [(26,19,603052,⟨11,some (bg (cd p 13)),[]⟩)]} 600000 (oR a rfl)
theorem GL(e:(((ps.map cR).length:Int)==0)=true)(g:(res==1)=false):HX 26 [aI] (fE fs [] 0 nn) (aD p 13) AP:=
 qX {loops:=fun f q=>if f=26 then (if q=1 then some (GK c)else none)else none,hint:=qT 26 [(84,oL Pg [109,97,105,110] fs (some (i,⟨nm,ps,res,bd,p⟩)) d),(95,BZ Pg fs i _ b),(100,qB e),(104,qB g)],calls:=tC [(26,88,601962,be rfl (aU 0 13))],pans:=an Pg [(26,19,603052,⟨11,some (bg (cd p 13)),[]⟩)]} 600000 (oR a rfl)
theorem J0(e:(((ps.map cR).length:Int)==0)=true)(g:(res==1)=true):HC 26 [aI] (fE fs [] 0 nn) [] (fE fs (kq 0 fs) fs.length nn):=
 qN {loops:=fun f q=>if f=26 then (if q=1 then some (GK c)else none)else none,hint:=qT 26 [(84,oL Pg [109,97,105,110] fs (some (i,⟨nm,ps,res,bd,p⟩)) d),(95,BZ Pg fs i _ b),(100,qB e),(104,qB g)],calls:=tC [(26,88,601962,be rfl (aU 0 13)),(26,108,604251,be rfl (aU p 13))]} 600000 (GG a rfl)
end
def TZ(fs:List Fn)(nn:AV):TR Unit→Prop
 | .ok _=>HC 26 [aI] (fE fs [] 0 nn) [] (fE fs (kq 0 fs) fs.length nn)
 | .bad p e=>HX 26 [aI] (fE fs [] 0 nn) (aD p e) AP
 | .out=>True
theorem GM{fs:List Fn}{nn:AV}(b:∀ρ,aO ρ nn=nn)(j:fs.length<1000000):TZ fs nn (f0 fs):=by
 have c:=LP (nn:=nn) b j fs [] rfl;unfold f0;revert c;cases fi [] fs with
 |out=>exact fun _=>trivial
 |bad q t=>exact fun c=>JY b q t c
 |ok _=>
  intro c;simp only[TR.bind,pA];cases d:bA [109,97,105,110] fs 0 with
  |none=>exact Ew b c d
  |some r=>
   obtain⟨i,f⟩:=r;obtain⟨_,e⟩:=oM d;rw[Nat.sub_zero]at e;obtain⟨nm,ps,res,bd,p⟩:=f;simp only;cases hp:ps.isEmpty with
   |false=>
    have g:(((ps.map cR).length:Int)==0)=false:=by
     cases ps with
     |nil=>cases hp
     |cons a r=>simp;omega
    exact JZ b c i nm ps res bd p d e g
   |true=>
    have g:(((ps.map cR).length:Int)==0)=true:=by
     cases ps with
     |nil=>rfl
     |cons a r=>cases hp
    cases h:(res==1)with
    |false=>exact GL b c i nm ps res bd p d e g h
    |true=>exact J0 b c i nm ps res bd p d e g h
end Go.Avm
namespace Go.Avm
open Go.Proofs
theorem nR{M N:Nat}{c:Code}{l l':List (Nat×AV)}{a d:List (Nat×aE)}{e:aB}(j:Cln (a.map (·.1)) M (l.map (·.2)) a d)(m:bk (dm (a.map (·.1)) M) (l'.map (·.2))=l'.map (·.2))(p:FN (dm (a.map (·.1)) M) e=e)
    (h:∀(b:aa)(X:b4),X.P=Pg→X.N=N→AW X c ⟨ah l,ae a (dy M b)⟩ fun i S'=>i=e∧S'.env=ah l'∧(∀k,k∈a.map (·.1)→S'.heap k=ae d S'.heap k)∧∀k,M≤k→S'.heap k=ae a (dy M b) k)
    (b:aa) (X:b4) (o:X.P=Pg) (q:X.N=N):AW X c ⟨ah l,ae a b⟩ fun i S'=>i=e∧S'=⟨ah l',ae d b⟩:=by
 refine FO (k7 j.ltF) p ?_
 have g:(fun t=>aO (dm (a.map (·.1)) M) (ah l t))=ah l:=by
  funext t;rw[←eF,nE j.argsK]
 have f:∀t,aO (dm (a.map (·.1)) M) (ah l' t)=ah l' t:=fun t=>by
  rw[←eF,nE m]
 rw[g,j.heap b];refine(h (eP (dm (a.map (·.1)) M) (zk (a.map (·.1)) M) (ae a b)) X o q).mono ?_;rintro i S' ⟨rfl,n,r,h2⟩;refine⟨rfl,fun t=>by rw[n,f], ?_⟩;exact j.behind b r h2
abbrev fB(nm:List UInt8)(ps:List Pm)(res:Int)(bd:List aP)(p:Int):List (Nat×aE):=[(600003,⟨1,some (.arr 1 [.d (.str nm), .d (.ro (ps.map cR)),Ju res, .d (.ro (cg bd)),dI p])⟩)]
abbrev fG:List (Nat×aE):=[(600003,⟨1,none⟩)]
abbrev LQ(fs:List Fn)(i:Nat)(ps:List Pm)(k:Nat):List (Nat×AV):=[(0,aI),(3, .ptr 600003 1 0 0 1),(10, .d (.ro (fs.map bn))),(11,dN (fs.map bn).length),(12,dN i),(34, .d (.ro (ps.map cR))),(35,dN (ps.map cR).length),(36,dN k)]
abbrev GN(fs:List Fn)(i:Nat):List (Nat×AV):=[(0,aI),(3, .ptr 600003 1 0 0 1),(10, .d (.ro (fs.map bn))),(11,dN (fs.map bn).length),(12,dN i)]
theorem Re{S S':CK}(h:CKok S)(h':CKok S'){a:List (Nat×aE)}{ar:List AV}(s:List (D×D×Nat))(i:Nat)(g:(((ck S ++a).map (·.1)).all fun k=>Nat.blt k 1000000)=true)(d:([499904,500002,500003,500004,500005,500382,500191].map (dm ((ck S ++a).map (·.1)) 1000000))=[499904,500002,500003,500004,500005,500382,500191])
    (o:bk (dm ((ck S ++a).map (·.1)) 1000000) ar=ar) (c:(a.map fun p:Nat×aE=>aY (dm ((ck S ++a).map (·.1)) 1000000) p.2)=a.map (·.2)):Cln ((ck S ++a).map (·.1)) 1000000 ar (ck S ++a) (JH S' s i ++a):=
 ⟨g,rfl,by rw[xF,xF];rfl,o,by
  have b:=fW h d;rw[xF,xF (f:=fun p:Nat×aE=>p.2),b,c],by
  have b:=fW h' d;simp only[ck,xH,xY,List.cons.injEq,zB]at b;obtain⟨e,l,j,n,t,m,q,r⟩:=b;rw[xF,xF (f:=fun p:Nat×aE=>p.2),c];simp only[JH,xH,xY,e,l,j,n,m,q,r];rfl⟩
theorem lr(r h:aa):∀(a b:List (Nat×aE)),ae (a ++b) h=ae a (ae b h)
 |[],b=>rfl
 |(k,e)::a,b=>by
  show aG (ae (a ++b) h) k e=aG (ae a (ae b h)) k e;rw[lr r h a b]
theorem Ey{P:Program}{g:Nat}{args d:List AV}{A B b:List (Nat×aE)}(m:(A.all fun p=>p.2.ob.isSome)=true)(j:(A.all fun p=>b.all fun q=> !(Nat.beq p.1 q.1))=true)(h:∀a:aa,am P g args (ae (A ++B) a) d (ae (A ++b) a)):∀h:aa,lT h (A ++B)→am P g args h d (ae b h):=fun h' f=>by
 have c:=gM h h' f;rw[lr h']at c
 have h2:lT (ae b h') A:=fun p hp=>by
  have e:ae b h' p.1=h' p.1:=b7 b h' fun k=>by
   obtain⟨q,l,i⟩:=x9.1 k;have:=xc.1 (xc.1 j p hp) q l;rw[i]at this;simp at this
  rw[e];exact f p (by simp[hp])
 rw[rx h2 m]at c;exact c
abbrev J1(S:CK):List (Nat×aE):=[(500000,⟨1,some (.arr 1 (CX S))⟩),(499904,⟨1,some (.map (kq 0 S.fs) S.fs.length)⟩),(500004,⟨S.vq,some (.map (a6 S.c.sure.l) S.c.sure.c)⟩),(500382,⟨S.vp,some (.arr 3 (S.c.pts.map bU))⟩)]
abbrev GO(S:CK):List (Nat×aE):=[(500002,⟨S.vh,some (.map (gE 0 S.c.vars) S.c.vars.length)⟩),(500003,⟨S.vs,some (.map (cA 0 S.c.seen) S.c.seen.length)⟩),(500005,⟨S.vv,some (.arr 4 (S.c.vars.map oh))⟩),(500191,⟨1,some (.arr 1 (S.W.set S.fn (fF S.vv S.c.vars)))⟩)]
theorem Da(S:CK)(a:aa):ae (ck S) a=ae (J1 S ++GO S) a:=by
 funext k;simp only[ck,J1,GO,xk,yG,ae,aG];by_cases c:k=500000
 ·subst c;rfl
 by_cases h:k=499904
 ·subst h;rfl
 by_cases h2:k=500002
 ·subst h2;rfl
 by_cases g:k=500003
 ·subst g;rfl
 by_cases f:k=500004
 ·subst f;rfl
 by_cases b:k=500005
 ·subst b;rfl
 by_cases e:k=500382
 ·subst e;rfl
 by_cases d:k=500191
 ·subst d;rfl
 simp only[c,h,h2,g,f,b,e,d,yi]
noncomputable def addP{S:CK}{nm:List UInt8}{ty n b:Int}(c:HC 48 [aI, .d (.agg [.str nm, .int .u8 ty, .int .i64 n, .int .i64 b])] (ck S) [.int .i64 (S.c.vars.length:Int)] (ck (S.add ⟨nm,ty,n,b⟩))):eI Pg:=
 ⟨48,[aI, .d (.agg [.str nm, .int .u8 ty, .int .i64 n, .int .i64 b])],J1 S ++GO S,[.int .i64 (S.c.vars.length:Int)].map .d,GO (S.add ⟨nm,ty,n,b⟩),Ey (A:=J1 S) (B:=GO S) rfl rfl fun a=>by
  have:=c a;rw[Da,Da]at this;exact this⟩
section
variable{S:CK}(h:CKok S){fs:List Fn}(i:Nat)(a:List UInt8)(ps:List Pm)(res:Int)(bd:List aP)(fp:Int)(k:Nat)
include h
theorem Rf(b:decide (k<(ps.map cR).length)=false):RE 69 (lO 27 5) (LQ fs i ps k) (ck S ++fB a ps res bd fp) (.exit 2) (GN fs i) (ck S ++fB a ps res bd fp):=
 qE {hint:=qT 27 [(37,dk Pg k (ps.map cR).length false b)]} 27 2000 (gG h h rfl rfl rfl rfl rfl rfl)
theorem Uy(b:decide (k<(ps.map cR).length)=true)(nm:List UInt8)(ty p:Int)(d:ps[k]? =some ⟨nm,ty,p⟩)(j:k<1000000)(f:(S.c.vars.any fun v=>v.nm==nm)=false)(g:ct nm S.c.seen 0=none)(h':CKok (S.add ⟨nm,ty,0,0⟩))(e:bQ S.c.vars.length S.c.sure.l 0=none):
    RE 69 (lO 27 5) (LQ fs i ps k) (ck S ++fB a ps res bd fp) .normal (LQ fs i ps (k+1)) (JH (S.add ⟨nm,ty,0,0⟩) (a6 S.c.sure.l ++[(.int .i64 (S.c.vars.length:Int), .agg [],S.c.sure.c)]) (S.c.sure.c+1) ++fB a ps res bd fp):=
 qE {hint:=qT 27 [(37,dk Pg k (ps.map cR).length true b),(38,TY Pg ps k _ d),(107012,li Pg S.c.vars.length S.c.sure.l none e),(52,bj Pg k (by omega))],calls:=tC [(27,50,3035,addP (JG h nm ty 0 0 f g h'))]} 27 2000 (Re h h' _ _ rfl rfl rfl rfl)
end
def lP(p:Pm):Vr:=⟨p.nm,p.ty,0,0⟩
def CS.par(c:CS)(p:Pm):CS:={c.add (lP p)with sure:=c.sure.put c.vars.length}
theorem LR{fs:List Fn}(i:Nat)(f:List UInt8)(ps:List Pm)(res:Int)(bd:List aP)(fp:Int)(m:(ps.map (·.nm)).Nodup)(A:ps.length≤6)(n:∀p∈ps,p.nm.length≤1000000):
    ∀(d k:Nat)(S:CK),ps.length-k=d→k≤ps.length→CKok S→S.c.vars.map (·.nm)=(ps.take k).map (·.nm)→
    ∃S',Nx S S' ((ps.drop k).foldl CS.par S.c)∧∀(a:aa)(X:b4),X.P=Pg→X.N=69→LW X (lO 27 5) ⟨ah (LQ fs i ps k),ae (ck S ++fB f ps res bd fp) a⟩ fun D z=>D= .exit 2∧z=⟨ah (GN fs i),ae (ck S' ++fB f ps res bd fp) a⟩
 |0,k,S,C,y,h,q=>by
  have:k=ps.length:=by omega
  subst this;rw[zK];exact⟨S,h.nx,fun a X o r=>aA (Rf h i f ps res bd fp ps.length (by simp) a X o r) (by simp)⟩
 |d+1,k,S,C,y,h,q=>by
  have b:k<ps.length:=by omega
  have t:ps[k]? =some ps[k]:=xD b;have hm:ps[k]∈ps:=yO b;have j:ps.take (k+1)=ps.take k ++[ps[k]]:=by rw[List.take_add_one,t];rfl
  rw[xZ b];generalize ps[k]=x at t hm j
  have B:S.c.vars.length=k:=by
   have:=congrArg List.length q;rw[xO,xO,yb,Nat.min_eq_left (by omega)]at this;exact this
  have s:(S.c.vars.any fun v=>v.nm==x.nm)=false:=by
   rw[List.any_eq_false];intro v u e
   have E:x.nm∈(ps.take k).map (·.nm):=by
    rw[←q,←eq_of_beq e];exact x9.2 ⟨v,u,rfl⟩
   have h2:((ps.take (k+1)).map (·.nm)).Nodup:=(List.Sublist.map _ (List.take_sublist _ _)).nodup m;rw[j,xF,zF]at h2;exact h2.2.2 _ E _ (by simp) rfl
  obtain⟨nm,ty,p⟩:=x;have h':=BU h (v:=⟨nm,ty,0,0⟩) (n _ hm) s (by omega);have w:bQ S.c.vars.length S.c.sure.l 0=none:=j0 fun p hp e=>by have:=h.sv p hp;omega
  have h2:=vu h' S.c.vars.length (by simp[CK.add,CS.add])
  obtain⟨S',g,c⟩:=LR (fs:=fs) i f ps res bd fp m A n d (k+1) ((S.add ⟨nm,ty,0,0⟩).put S.c.vars.length) (by omega) b h2 (by
   rw[j];show(S.c.vars ++[_]).map _=_;rw[xF,xF,q];rfl)
  refine⟨S',⟨g.ok,g.c,g.fs,g.fn,g.deep,g.W,List.IsPrefix.trans (zO _ _) g.vars⟩,fun a X o r=>au (Uy h i f ps res bd fp k (by simpa using b) nm ty p t (by omega) s (zv h s) h' w a X o r) ?_⟩;have:=c a X o r;rw[←vr (S:=S.add ⟨nm,ty,0,0⟩) (i:=S.c.vars.length) w]at this;exact this
end Go.Avm
namespace Go.Avm
open Go.Proofs
def iA(P:Program)(n:Nat):bX P:= .val (dB (decide ((n:Int)≤(n:Int)))) (dB true) (by simp)
def iB(P:Program)(n:Nat):bX P:= .val (dB (decide (((n+1:Nat):Int)≤(n:Int)))) (dB false) (by
 congr 2;rw[x6];omega)
def eu(P:Program)(n:Nat):bX P:= .inb (n:Int) (n+1) (by omega) (by simp)
def ev(P:Program)(l:List AV)(x:AV)(n:Nat)(h:l.length=n):bX P:= .elt (l.take n ++[x]) (0+(n:Int).toNat) x (by
 rw[yB (by omega),x8,xb,xV (by omega)];simp[h])
def CK.ptd(S:CK)(x:Pt):CK:={S with c:={S.c with pts:=S.c.pts ++[x]},vp:=S.vp+1}
abbrev vD(S:CK)(b:List (D×D×Nat))(a:Nat)(l:List AV):List (Nat×aE):=
 [(500000,⟨1,some (.arr 1 [.mp 499904 1, .d (.ro (S.fs.map bn)), .sl 500191 1 0 S.fs.length 1, .sl 500382 (S.vp+1) 0 (S.c.pts.length+1) 3,dN S.fn, .mp 500002 S.vh, .mp 500003 S.vs, .mp 500004 S.vq,dI S.deep])⟩),(499904,⟨1,some (.map (kq 0 S.fs) S.fs.length)⟩),(500002,⟨S.vh,some (.map (gE 0 S.c.vars) S.c.vars.length)⟩),(500003,⟨S.vs,some (.map (cA 0 S.c.seen) S.c.seen.length)⟩),
  (500004,⟨S.vq,some (.map b a)⟩),(500005,⟨S.vv,some (.arr 4 (S.c.vars.map oh))⟩),(500382,⟨S.vp+1,some (.arr 3 l)⟩),(500191,⟨1,some (.arr 1 (S.W.set S.fn (fF S.vv S.c.vars)))⟩)]
theorem NQ(S:CK)(x:Pt):vD S (a6 S.c.sure.l) S.c.sure.c ((S.c.pts.map bU).take S.c.pts.length ++[bU x])=ck (S.ptd x):=by
 have a:(S.c.pts.map bU).take S.c.pts.length=S.c.pts.map bU:=yB (by simp);simp only[vD,ck,CX,CK.ptd,a,xK,xG,xS,xF,xH,xY,x8]
theorem bE{S:CK}(hm:CKok (S.ptd dz)):HC 103 [aI] (vD S (a6 S.c.sure.l) S.c.sure.c ((S.c.pts.map bU).take S.c.pts.length ++[bU dz])) [I3 (S.c.pt S.fn)] (vD S (a6 S.c.sure.l) S.c.sure.c ((S.c.pts.map bU).take S.c.pts.length ++[bU dz])):=by
 rw[NQ];exact Nk hm
abbrev GP(S:CK)(b:List (D×D×Nat))(a:Nat):List (Nat×aE):=vD S b a (((S.c.pts.map bU).take S.c.pts.length ++[bU dz]).set (0+(S.c.pts.length:Int).toNat) (.d (I3 (S.c.pt S.fn))))
abbrev hV(S:CK):List (Nat×aE):=GP S (a6 S.c.sure.l) S.c.sure.c
def CK.at1(S:CK):CK:=S.ptd (S.c.pt S.fn)
theorem zU(S:CK):((S.c.pts.map bU).take S.c.pts.length ++[bU dz]).set (0+(S.c.pts.length:Int).toNat) (.d (I3 (S.c.pt S.fn)))=(S.c.pts ++[S.c.pt S.fn]).map bU:=by
 have a:(S.c.pts.map bU).take S.c.pts.length=S.c.pts.map bU:=yB (by simp);rw[a,x8,xb,List.set_append_right _ _ (by simp)];simp[bU]
theorem cV(S:CK):hV S=ck S.at1:=by
 show vD S (a6 S.c.sure.l) S.c.sure.c (((S.c.pts.map bU).take S.c.pts.length ++[bU dz]).set (0+(S.c.pts.length:Int).toNat) (.d (I3 (S.c.pt S.fn))))=_;rw[zU];simp only[vD,ck,CX,CK.at1,CK.ptd,xK,xG,xS,x8]
theorem Db(S:CK){i:Nat}(a:bQ i S.c.sure.l 0=none):GP S (a6 S.c.sure.l ++[(.int .i64 (i:Int), .agg [],S.c.sure.c)]) (S.c.sure.c+1)=ck (S.at1.put i):=by
 have e:S.c.sure.put i=⟨S.c.sure.l ++[(i,S.c.sure.c)],S.c.sure.c+1⟩:=by
  unfold SureL.put SureL.has;rw[a];rfl
 show vD S _ _ (((S.c.pts.map bU).take S.c.pts.length ++[bU dz]).set (0+(S.c.pts.length:Int).toNat) (.d (I3 (S.c.pt S.fn))))=_;rw[zU];simp only[vD,ck,CX,CK.at1,CK.ptd,CK.put,e,a6,xF,xH,xY,xK,xG,xS,x8]
theorem zV{x:Nat}:∀{l:List (Nat×Nat)}{j i:Nat},bQ x l j=some (j+i)→ek (.int .i64 (x:Int)) (.agg []) i (a6 l)=a6 l
 |[],_,_,h=>by cases h
 |e::r,j,i,h=>by
  simp only[bQ]at h;cases c:(x==e.1)with
  |true=>
   rw[c]at h;simp only[xW,xA]at h;have g:i=0:=by omega
   subst g;rw[eq_of_beq c];rfl
  |false=>
   rw[c]at h;simp only[xP]at h
   have d:∀{l:List (Nat×Nat)}{j k:Nat},bQ x l j=some k→j≤k:=fun {l}=>by
    induction l with
    |nil=>intro j k h;cases h
    |cons a r m=>
     intro j k h;simp only[bQ]at h;cases f:(x==a.1)with
     |true=>rw[f]at h;simp at h;omega
     |false=>rw[f]at h;have:=m h;omega
   have:=d h;obtain⟨b,rfl⟩:∃b,i=b+1:=⟨i-1,by omega⟩
   show _::ek _ _ b (a6 r)=_::a6 r;rw[zV (i:=b) (j:=j+1) (by rw[h];congr 1;omega)]
theorem Dc(S:CK){i j:Nat}(a:bQ i S.c.sure.l 0=some j):GP S (ek (.int .i64 (i:Int)) (.agg []) j (a6 S.c.sure.l)) S.c.sure.c=ck (S.at1.put i):=by
 have e:S.c.sure.put i=S.c.sure:=by
  unfold SureL.put SureL.has;rw[a];rfl
 rw[zV (j:=0) (by rw[a,x8])]
 have b:S.at1.put i=S.at1:=by
  show({S.at1 with c:={S.at1.c with sure:=S.c.sure.put i}}:CK)=S.at1;rw[e];rfl
 rw[b];exact cV S
section
variable{S:CK}{f:Nat}{args a:List AV}
theorem zW(c:∀b:aa,am Pg f args (ae (ck S.at1) b) a (ae (ck S.at1) b)):∀b:aa,am Pg f args (ae (hV S) b) a (ae (hV S) b):=by
 rw[cV];exact c
theorem Uz{d:List (Nat×aE)}(c:∀b:aa,am Pg f args (ae (ck S.at1) b) a (ae d b)):∀b:aa,am Pg f args (ae (hV S) b) a (ae d b):=by
 rw[cV];exact c
theorem NR{x:AV}{b:List (Nat×aE)}(c:HX f args (ck S.at1) x b):HX f args (hV S) x b:=by
 rw[cV];exact c
theorem nS{p e:Int}(c:HX f args (ck S.at1) (aD p e) (ck S.at1)):HX f args (hV S) (aD p e) (hV S):=by
 rw[cV];exact c
end
section
variable{S:CK}(h:CKok S)(hm:CKok (S.ptd dz))(nm:List UInt8)(ty n p:Int)(es:List Ex)(s m:Int)(b:List UInt8)(u o:Int)(e:List Ex)(z B:Int)(x:List UInt8)(A y:Int)(bl zs:List Ex)(bd f:List aP)
include h hm
set_option maxRecDepth 100000 in
theorem UA(g:CKok S.at1)(k:Int)(r:(k==1)=false)(j:(k==2)=false)(a:(k==3)=false)(q:(k==4)=false)(l:(k==5)=false)(t:(k==6)=false)(i:(k==7)=false)(d:(k==8)=false):HC 76 [aI,eG k (S.c.pts.length:Int) nm ty n p es bd f] (ck S) [] (hV S):=
 qN {hintB:=bi Pg [(76,15,3332,iA Pg S.c.pts.length),(76,24,4664, .apps (S.c.pts.map bU) S.c.pts.length 1 ⟨by simp,by have:=h.pts;omega⟩),(76,15,6588,iB Pg S.c.pts.length),(76,37,7920,eu Pg S.c.pts.length),(76,103010,8068,ev Pg (S.c.pts.map bU) (bU dz) S.c.pts.length (by simp)),(76,41,8512,qB r),(76,46,8808,qB j),(76,78,9104,qB a),(76,100,9400,qB q),(76,105,9696,qB l),(76,127,9992,qB t),(76,132,10288,qB i),(76,141,10584,qB d)],calls:=tC [(76,36,7920,be rfl (bE hm))]} 2000 (cV S▸az h g rfl)
set_option maxRecDepth 100000 in
theorem Rg{S':CK}(h':CKok S')(c:HC 104 [aI,eG 1 (S.c.pts.length:Int) nm ty n p es bd f] (ck S.at1) [] (ck S')):HC 76 [aI,eG 1 (S.c.pts.length:Int) nm ty n p es bd f] (ck S) [] (ck S'):=
 qN {hintB:=bi Pg [(76,15,3332,iA Pg S.c.pts.length),(76,24,4664, .apps (S.c.pts.map bU) S.c.pts.length 1 ⟨by simp,by have:=h.pts;omega⟩),(76,15,6588,iB Pg S.c.pts.length),(76,37,7920,eu Pg S.c.pts.length),(76,103010,8068,ev Pg (S.c.pts.map bU) (bU dz) S.c.pts.length (by simp))],calls:=tC [(76,36,7920,be rfl (bE hm)),(76,44,9104,ad (Uz c))]} 2000 (az h h' rfl)
set_option maxRecDepth 100000 in
theorem NS(g:Gv)(q r:Int)(c:HX 104 [aI,eG 1 (S.c.pts.length:Int) nm ty n p es bd f] (ck S.at1) (aD q r) (cv g)):HX 76 [aI,eG 1 (S.c.pts.length:Int) nm ty n p es bd f] (ck S) (aD q r) (cv g):=
 qX {hintB:=bi Pg [(76,15,3332,iA Pg S.c.pts.length),(76,24,4664, .apps (S.c.pts.map bU) S.c.pts.length 1 ⟨by simp,by have:=h.pts;omega⟩),(76,15,6588,iB Pg S.c.pts.length),(76,37,7920,eu Pg S.c.pts.length),(76,103010,8068,ev Pg (S.c.pts.map bU) (bU dz) S.c.pts.length (by simp))],calls:=tC [(76,36,7920,be rfl (bE hm))],pans:=an Pg [(76,6,8808,⟨2,some (bg (NR c)),[]⟩)]} 2000 (j4 h rfl)
set_option maxRecDepth 100000 in
theorem Rh{S':CK}(h':CKok S')(c:HC 108 [aI,eG 4 (S.c.pts.length:Int) nm ty n p es bd f] (ck S.at1) [] (ck S')):HC 76 [aI,eG 4 (S.c.pts.length:Int) nm ty n p es bd f] (ck S) [] (ck S'):=
 qN {hintB:=bi Pg [(76,15,3332,iA Pg S.c.pts.length),(76,24,4664, .apps (S.c.pts.map bU) S.c.pts.length 1 ⟨by simp,by have:=h.pts;omega⟩),(76,15,6588,iB Pg S.c.pts.length),(76,37,7920,eu Pg S.c.pts.length),(76,103010,8068,ev Pg (S.c.pts.map bU) (bU dz) S.c.pts.length (by simp))],calls:=tC [(76,36,7920,be rfl (bE hm)),(76,103,9992,ad (Uz c))]} 2000 (az h h' rfl)
set_option maxRecDepth 100000 in
theorem NT(g:Gv)(q r:Int)(c:HX 108 [aI,eG 4 (S.c.pts.length:Int) nm ty n p es bd f] (ck S.at1) (aD q r) (cv g)):HX 76 [aI,eG 4 (S.c.pts.length:Int) nm ty n p es bd f] (ck S) (aD q r) (cv g):=
 qX {hintB:=bi Pg [(76,15,3332,iA Pg S.c.pts.length),(76,24,4664, .apps (S.c.pts.map bU) S.c.pts.length 1 ⟨by simp,by have:=h.pts;omega⟩),(76,15,6588,iB Pg S.c.pts.length),(76,37,7920,eu Pg S.c.pts.length),(76,103010,8068,ev Pg (S.c.pts.map bU) (bU dz) S.c.pts.length (by simp))],calls:=tC [(76,36,7920,be rfl (bE hm))],pans:=an Pg [(76,17,9696,⟨2,some (bg (NR c)),[]⟩)]} 2000 (j4 h rfl)
set_option maxRecDepth 100000 in
theorem Ri(a:CKok S.at1)(c:HC 111 [aI,eG 6 (S.c.pts.length:Int) nm ty n p es bd f] (ck S.at1) [] (ck S.at1)):HC 76 [aI,eG 6 (S.c.pts.length:Int) nm ty n p es bd f] (ck S) [] (hV S):=
 qN {hintB:=bi Pg [(76,15,3332,iA Pg S.c.pts.length),(76,24,4664, .apps (S.c.pts.map bU) S.c.pts.length 1 ⟨by simp,by have:=h.pts;omega⟩),(76,15,6588,iB Pg S.c.pts.length),(76,37,7920,eu Pg S.c.pts.length),(76,103010,8068,ev Pg (S.c.pts.map bU) (bU dz) S.c.pts.length (by simp))],calls:=tC [(76,36,7920,be rfl (bE hm)),(76,130,10584,be rfl (zW c))]} 2000 (cV S▸az h a rfl)
set_option maxRecDepth 100000 in
theorem NU(a:CKok S.at1)(q r:Int)(c:HX 111 [aI,eG 6 (S.c.pts.length:Int) nm ty n p es bd f] (ck S.at1) (aD q r) (ck S.at1)):HX 76 [aI,eG 6 (S.c.pts.length:Int) nm ty n p es bd f] (ck S) (aD q r) (hV S):=
 qX {hintB:=bi Pg [(76,15,3332,iA Pg S.c.pts.length),(76,24,4664, .apps (S.c.pts.map bU) S.c.pts.length 1 ⟨by simp,by have:=h.pts;omega⟩),(76,15,6588,iB Pg S.c.pts.length),(76,37,7920,eu Pg S.c.pts.length),(76,103010,8068,ev Pg (S.c.pts.map bU) (bU dz) S.c.pts.length (by simp))],calls:=tC [(76,36,7920,be rfl (bE hm))],pans:=an Pg [(76,24,10288,⟨2,some (bg (nS c)),[]⟩)]} 2000 (cV S▸az h a rfl)
set_option maxRecDepth 100000 in
theorem Rj(a:CKok S.at1)(t:Int)(w:lW S.at1 (.mk s m b u o e) [1,2] t):HC 76 [aI,eG 7 (S.c.pts.length:Int) nm ty n p (.mk s m b u o e::zs) bd f] (ck S) [] (hV S):=
 qN {hintB:=bi Pg [(76,15,3332,iA Pg S.c.pts.length),(76,24,4664, .apps (S.c.pts.map bU) S.c.pts.length 1 ⟨by simp,by have:=h.pts;omega⟩),(76,15,6588,iB Pg S.c.pts.length),(76,37,7920,eu Pg S.c.pts.length),(76,103010,8068,ev Pg (S.c.pts.map bU) (bU dz) S.c.pts.length (by simp))],calls:=tC [(76,36,7920,be rfl (bE hm)),(76,139,11472,be rfl (zW (wO w 11462)))]} 2000 (cV S▸az h a rfl)
set_option maxRecDepth 100000 in
theorem NV(a:CKok S.at1)(q r:Int)(w:iI S.at1 (.mk s m b u o e) [1,2] q r):HX 76 [aI,eG 7 (S.c.pts.length:Int) nm ty n p (.mk s m b u o e::zs) bd f] (ck S) (aD q r) (hV S):=
 qX {hintB:=bi Pg [(76,15,3332,iA Pg S.c.pts.length),(76,24,4664, .apps (S.c.pts.map bU) S.c.pts.length 1 ⟨by simp,by have:=h.pts;omega⟩),(76,15,6588,iB Pg S.c.pts.length),(76,37,7920,eu Pg S.c.pts.length),(76,103010,8068,ev Pg (S.c.pts.map bU) (bU dz) S.c.pts.length (by simp))],calls:=tC [(76,36,7920,be rfl (bE hm))],pans:=an Pg [(76,26,10584,⟨6,some (bg (nS (wP w 11462))),[]⟩)]} 2000 (cV S▸az h a rfl)
set_option maxRecDepth 100000 in
theorem Rk(a:CKok S.at1)(t:Int)(c:HC 112 [aI,hA s m b u o e] (ck S.at1) [gg t] (ck S.at1)):HC 76 [aI,eG 8 (S.c.pts.length:Int) nm ty n p (.mk s m b u o e::zs) bd f] (ck S) [] (hV S):=
 qN {hintB:=bi Pg [(76,15,3332,iA Pg S.c.pts.length),(76,24,4664, .apps (S.c.pts.map bU) S.c.pts.length 1 ⟨by simp,by have:=h.pts;omega⟩),(76,15,6588,iB Pg S.c.pts.length),(76,37,7920,eu Pg S.c.pts.length),(76,103010,8068,ev Pg (S.c.pts.map bU) (bU dz) S.c.pts.length (by simp))],calls:=tC [(76,36,7920,be rfl (bE hm)),(76,147,11620,be rfl (zW c))]} 2000 (cV S▸az h a rfl)
set_option maxRecDepth 100000 in
theorem NW(a:CKok S.at1)(q r:Int)(c:HX 112 [aI,hA s m b u o e] (ck S.at1) (aD q r) (ck S.at1)):HX 76 [aI,eG 8 (S.c.pts.length:Int) nm ty n p (.mk s m b u o e::zs) bd f] (ck S) (aD q r) (hV S):=
 qX {hintB:=bi Pg [(76,15,3332,iA Pg S.c.pts.length),(76,24,4664, .apps (S.c.pts.map bU) S.c.pts.length 1 ⟨by simp,by have:=h.pts;omega⟩),(76,15,6588,iB Pg S.c.pts.length),(76,37,7920,eu Pg S.c.pts.length),(76,103010,8068,ev Pg (S.c.pts.map bU) (bU dz) S.c.pts.length (by simp))],calls:=tC [(76,36,7920,be rfl (bE hm))],pans:=an Pg [(76,28,10880,⟨5,some (bg (nS c)),[]⟩)]} 2000 (cV S▸az h a rfl)
set_option maxRecDepth 100000 in
theorem UB(g:CKok S.at1)(q r:Int)(a:HX 107 [aI, .d (.str nm),dI p] (ck S.at1) (aD q r) (ck S.at1)):HX 76 [aI,eG 3 (S.c.pts.length:Int) nm ty n p es bd f] (ck S) (aD q r) (hV S):=
 qX {hintB:=bi Pg [(76,15,3332,iA Pg S.c.pts.length),(76,24,4664, .apps (S.c.pts.map bU) S.c.pts.length 1 ⟨by simp,by have:=h.pts;omega⟩),(76,15,6588,iB Pg S.c.pts.length),(76,37,7920,eu Pg S.c.pts.length),(76,103010,8068,ev Pg (S.c.pts.map bU) (bU dz) S.c.pts.length (by simp))],calls:=tC [(76,36,7920,be rfl (bE hm))],pans:=an Pg [(76,13,9400,⟨5,some (bg (nS a)),[]⟩)]} 2000 (cV S▸az h g rfl)
set_option maxRecDepth 100000 in
theorem UC(g:CKok S.at1)(a:HC 107 [aI, .d (.str nm),dI p] (ck S.at1) [] (ck S.at1))(q r:Int)(w:iI S.at1 (.mk s m b u o e) [1] q r):HX 76 [aI,eG 3 (S.c.pts.length:Int) nm ty n p (.mk s m b u o e::zs) bd f] (ck S) (aD q r) (hV S):=
 qX {hintB:=bi Pg [(76,15,3332,iA Pg S.c.pts.length),(76,24,4664, .apps (S.c.pts.map bU) S.c.pts.length 1 ⟨by simp,by have:=h.pts;omega⟩),(76,15,6588,iB Pg S.c.pts.length),(76,37,7920,eu Pg S.c.pts.length),(76,103010,8068,ev Pg (S.c.pts.map bU) (bU dz) S.c.pts.length (by simp))],calls:=tC [(76,36,7920,be rfl (bE hm)),(76,84,10140,be rfl (zW a))],pans:=an Pg [(76,14,10140,⟨6,some (bg (nS (wP w 10970))),[]⟩)]} 2000 (cV S▸az h g rfl)
set_option maxRecDepth 100000 in
theorem UD(i:CKok S.at1)(a:HC 107 [aI, .d (.str nm),dI p] (ck S.at1) [] (ck S.at1))(t:Int)(w:lW S.at1 (.mk s m b u o e) [1] t)(q r:Int)(g:iI S.at1 (.mk z B x A y bl) [1] q r):HX 76 [aI,eG 3 (S.c.pts.length:Int) nm ty n p (.mk s m b u o e:: .mk z B x A y bl::zs) bd f] (ck S) (aD q r) (hV S):=
 qX {hintB:=bi Pg [(76,15,3332,iA Pg S.c.pts.length),(76,24,4664, .apps (S.c.pts.map bU) S.c.pts.length 1 ⟨by simp,by have:=h.pts;omega⟩),(76,15,6588,iB Pg S.c.pts.length),(76,37,7920,eu Pg S.c.pts.length),(76,103010,8068,ev Pg (S.c.pts.map bU) (bU dz) S.c.pts.length (by simp))],calls:=tC [(76,36,7920,be rfl (bE hm)),(76,84,10140,be rfl (zW a)),(76,91,11028,be rfl (zW (wO w 10970)))],pans:=an Pg [(76,15,11028,⟨6,some (bg (nS (wP g 11865))),[]⟩)]} 2000 (cV S▸az h i rfl)
set_option maxRecDepth 100000 in
theorem Rm(j:CKok S.at1)(a:HC 107 [aI, .d (.str nm),dI p] (ck S.at1) [] (ck S.at1))(t:Int)(w:lW S.at1 (.mk s m b u o e) [1] t)(g:Int)(i:lW S.at1 (.mk z B x A y bl) [1] g):HC 76 [aI,eG 3 (S.c.pts.length:Int) nm ty n p (.mk s m b u o e:: .mk z B x A y bl::zs) bd f] (ck S) [] (hV S):=
 qN {hintB:=bi Pg [(76,15,3332,iA Pg S.c.pts.length),(76,24,4664, .apps (S.c.pts.map bU) S.c.pts.length 1 ⟨by simp,by have:=h.pts;omega⟩),(76,15,6588,iB Pg S.c.pts.length),(76,37,7920,eu Pg S.c.pts.length),(76,103010,8068,ev Pg (S.c.pts.map bU) (bU dz) S.c.pts.length (by simp))],calls:=tC [(76,36,7920,be rfl (bE hm)),(76,84,10140,be rfl (zW a)),(76,91,11028,be rfl (zW (wO w 10970))),(76,98,11916,be rfl (zW (wO i 11865)))]} 2000 (cV S▸az h j rfl)
set_option maxRecDepth 100000 in
theorem UE(g:CKok S.at1)(q r:Int)(a:HX 105 [aI, .d (.str nm),dI p] (ck S.at1) (aD q r) (ck S.at1)):HX 76 [aI,eG 2 (S.c.pts.length:Int) nm ty n p es bd f] (ck S) (aD q r) (hV S):=
 qX {hintB:=bi Pg [(76,15,3332,iA Pg S.c.pts.length),(76,24,4664, .apps (S.c.pts.map bU) S.c.pts.length 1 ⟨by simp,by have:=h.pts;omega⟩),(76,15,6588,iB Pg S.c.pts.length),(76,37,7920,eu Pg S.c.pts.length),(76,103010,8068,ev Pg (S.c.pts.map bU) (bU dz) S.c.pts.length (by simp))],calls:=tC [(76,36,7920,be rfl (bE hm))],pans:=an Pg [(76,8,9104,⟨5,some (bg (nS a)),[]⟩)]} 2000 (cV S▸az h g rfl)
set_option maxRecDepth 100000 in
theorem UF(j:CKok S.at1)(i:Nat)(v:Vr)(a:HC 105 [aI, .d (.str nm),dI p] (ck S.at1) [.int .i64 (i:Int),mX v] (ck S.at1))(g:(v.ty !=3)=false):HX 76 [aI,eG 2 (S.c.pts.length:Int) nm ty n p es bd f] (ck S) (aD p 8) (hV S):=
 qX {hintB:=bi Pg [(76,15,3332,iA Pg S.c.pts.length),(76,24,4664, .apps (S.c.pts.map bU) S.c.pts.length 1 ⟨by simp,by have:=h.pts;omega⟩),(76,15,6588,iB Pg S.c.pts.length),(76,37,7920,eu Pg S.c.pts.length),(76,103010,8068,ev Pg (S.c.pts.map bU) (bU dz) S.c.pts.length (by simp)),(76,58,11028,qB g)],calls:=tC [(76,36,7920,be rfl (bE hm)),(76,53,9844,be rfl (zW a))],pans:=an Pg [(76,9,10732,⟨5,some (bg (cd p 8)),[]⟩)]} 2000 (cV S▸az h j rfl)
set_option maxRecDepth 100000 in
theorem UG(j:CKok S.at1)(i:Nat)(v:Vr)(a:HC 105 [aI, .d (.str nm),dI p] (ck S.at1) [.int .i64 (i:Int),mX v] (ck S.at1))(g:(v.ty !=3)=true)(q r:Int)(w:iI S.at1 (.mk s m b u o e) [v.ty] q r):HX 76 [aI,eG 2 (S.c.pts.length:Int) nm ty n p (.mk s m b u o e::zs) bd f] (ck S) (aD q r) (hV S):=
 qX {hintB:=bi Pg [(76,15,3332,iA Pg S.c.pts.length),(76,24,4664, .apps (S.c.pts.map bU) S.c.pts.length 1 ⟨by simp,by have:=h.pts;omega⟩),(76,15,6588,iB Pg S.c.pts.length),(76,37,7920,eu Pg S.c.pts.length),(76,103010,8068,ev Pg (S.c.pts.map bU) (bU dz) S.c.pts.length (by simp)),(76,58,11028,qB g)],calls:=tC [(76,36,7920,be rfl (bE hm)),(76,53,9844,be rfl (zW a)),(76,61,11472,be rfl (aU p 8))],pans:=an Pg [(76,10,11472,⟨8,some (bg (nS (wP w 12577))),[]⟩)]} 2000 (cV S▸az h j rfl)
set_option maxRecDepth 100000 in
theorem NX(k:CKok S.at1)(i:Nat)(v:Vr)(a:HC 105 [aI, .d (.str nm),dI p] (ck S.at1) [.int .i64 (i:Int),mX v] (ck S.at1))(j:(v.ty !=3)=true)(t:Int)(w:lW S.at1 (.mk s m b u o e) [v.ty] t)(g:bQ i S.c.sure.l 0=none)(h2:CKok (S.at1.put i)):HC 76 [aI,eG 2 (S.c.pts.length:Int) nm ty n p (.mk s m b u o e::zs) bd f] (ck S) [] (GP S (a6 S.c.sure.l ++[(.int .i64 (i:Int), .agg [],S.c.sure.c)]) (S.c.sure.c+1)):=
 qN {hintB:=bi Pg [(76,15,3332,iA Pg S.c.pts.length),(76,24,4664, .apps (S.c.pts.map bU) S.c.pts.length 1 ⟨by simp,by have:=h.pts;omega⟩),(76,15,6588,iB Pg S.c.pts.length),(76,37,7920,eu Pg S.c.pts.length),(76,103010,8068,ev Pg (S.c.pts.map bU) (bU dz) S.c.pts.length (by simp)),(76,58,11028,qB j),(76,111006,13544,li Pg i S.c.sure.l (none) g)],calls:=tC [(76,36,7920,be rfl (bE hm)),(76,53,9844,be rfl (zW a)),(76,61,11472,be rfl (aU p 8)),(76,70,12656,be rfl (zW (wO w 12577)))]} 2000 (Db S g▸az h h2 rfl)
set_option maxRecDepth 100000 in
theorem NY(q:CKok S.at1)(i:Nat)(v:Vr)(a:HC 105 [aI, .d (.str nm),dI p] (ck S.at1) [.int .i64 (i:Int),mX v] (ck S.at1))(k:(v.ty !=3)=true)(t:Int)(w:lW S.at1 (.mk s m b u o e) [v.ty] t)(j:Nat)(g:bQ i S.c.sure.l 0=some j)(h2:CKok (S.at1.put i)):HC 76 [aI,eG 2 (S.c.pts.length:Int) nm ty n p (.mk s m b u o e::zs) bd f] (ck S) [] (GP S (ek (.int .i64 (i:Int)) (.agg []) j (a6 S.c.sure.l)) S.c.sure.c):=
 qN {hintB:=bi Pg [(76,15,3332,iA Pg S.c.pts.length),(76,24,4664, .apps (S.c.pts.map bU) S.c.pts.length 1 ⟨by simp,by have:=h.pts;omega⟩),(76,15,6588,iB Pg S.c.pts.length),(76,37,7920,eu Pg S.c.pts.length),(76,103010,8068,ev Pg (S.c.pts.map bU) (bU dz) S.c.pts.length (by simp)),(76,58,11028,qB k),(76,111006,13544,li Pg i S.c.sure.l (some j) g)],calls:=tC [(76,36,7920,be rfl (bE hm)),(76,53,9844,be rfl (zW a)),(76,61,11472,be rfl (aU p 8)),(76,70,12656,be rfl (zW (wO w 12577)))]} 2000 (Dc S g▸az h h2 rfl)
set_option maxRecDepth 100000 in
theorem UH(a:CKok S.at1)(q r:Int)(w:iI S.at1 (.mk s m b u o e) [2] q r):HX 76 [aI,eG 5 (S.c.pts.length:Int) nm ty n p (.mk s m b u o e::zs) bd f] (ck S) (aD q r) (hV S):=
 qX {hintB:=bi Pg [(76,15,3332,iA Pg S.c.pts.length),(76,24,4664, .apps (S.c.pts.map bU) S.c.pts.length 1 ⟨by simp,by have:=h.pts;omega⟩),(76,15,6588,iB Pg S.c.pts.length),(76,37,7920,eu Pg S.c.pts.length),(76,103010,8068,ev Pg (S.c.pts.map bU) (bU dz) S.c.pts.length (by simp))],calls:=tC [(76,36,7920,be rfl (bE hm))],pans:=an Pg [(76,19,9992,⟨6,some (bg (nS (wP w 10843))),[]⟩)]} 2000 (cV S▸az h a rfl)
set_option maxRecDepth 100000 in
theorem UI(t:Int)(w:lW S.at1 (.mk s m b u o e) [2] t)(g:Gv)(q r:Int)(c:HX 110 [aI, .d (.ro (cg bd))] (ck S.at1) (aD q r) (cv g)):HX 76 [aI,eG 5 (S.c.pts.length:Int) nm ty n p (.mk s m b u o e::zs) bd f] (ck S) (aD q r) (cv g):=
 qX {hintB:=bi Pg [(76,15,3332,iA Pg S.c.pts.length),(76,24,4664, .apps (S.c.pts.map bU) S.c.pts.length 1 ⟨by simp,by have:=h.pts;omega⟩),(76,15,6588,iB Pg S.c.pts.length),(76,37,7920,eu Pg S.c.pts.length),(76,103010,8068,ev Pg (S.c.pts.map bU) (bU dz) S.c.pts.length (by simp))],calls:=tC [(76,36,7920,be rfl (bE hm)),(76,112,10880,be rfl (zW (wO w 10843))),(76,117,11472,ad (mP S.vq (a6 S.c.sure.l) S.c.sure.c))],pans:=an Pg [(76,21,11620,⟨3,some (bg (NR c)),[]⟩)]} 2000 (j4 h rfl)
set_option maxRecDepth 100000 in
theorem Rn(t:Int)(w:lW S.at1 (.mk s m b u o e) [2] t){S':CK}(h2:CKok (S'.sureAs S.c.sure (S'.vq+1)))(c:HC 110 [aI, .d (.ro (cg bd))] (ck S.at1) [] (ck S')):HC 76 [aI,eG 5 (S.c.pts.length:Int) nm ty n p (.mk s m b u o e::zs) bd f] (ck S) [] (ck (S'.sureAs S.c.sure (S'.vq+1))):=
 cq b9 named {hintB:=bi Pg [(76,15,3332,iA Pg S.c.pts.length),(76,24,4664, .apps (S.c.pts.map bU) S.c.pts.length 1 ⟨by simp,by have:=h.pts;omega⟩),(76,15,6588,iB Pg S.c.pts.length),(76,37,7920,eu Pg S.c.pts.length),(76,103010,8068,ev Pg (S.c.pts.map bU) (bU dz) S.c.pts.length (by simp))],calls:=tC [(76,36,7920,be rfl (bE hm)),(76,112,10880,be rfl (zW (wO w 10843))),(76,117,11472,ad (mP S.vq (a6 S.c.sure.l) S.c.sure.c)),(76,121,12064,ad (Uz c))]} 2000 2000 _ 1000000 ([(500000,524292195335)]) (az h h2 rfl) (fun _=>by kernel_rfl)
end
end Go.Avm
