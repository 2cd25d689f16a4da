/-
  Types: a function, from its beginning to its end.
-/
import Derived.Test.YtcjiafanhlhdlaaGreatG11
import Derived.Test.YtcjiafanhlhdlaaGreatG08
import Derived.Test.YtcjiafanhlhdlaaGreatG06
set_option linter.unusedVariables false
set_option linter.unusedSimpArgs false
set_option linter.unusedSectionVars false
namespace Go.Avm
open Go.Proofs
def bS(fs:List Fn)(W:List AV)(a:List Pt)(g:Gv)(i:Nat):CK:=⟨fs,i,W,0,⟨[],[],⟨[],0⟩,a⟩,g.vh+1,g.vs+1,g.vq+1,g.vp,g.vv+1⟩
theorem Fr{X:bD}{env:Nat→AV}(fs:List Fn)(W:List AV)(c:List Pt)(g:Gv)(i:Nat)(d:aI)(r:W[i]? =some .nils)(b:aa):Weak X ⟨env,af (wI fs W c g i ++[(600003,d)]) b⟩ ⟨env,af (ck (bS fs W c g i) ++[(600003,d)]) b⟩:=by
 have w:=fF (X:=X) (env:=env) (h:=af (wI fs W c g i ++[(600003,d)]) b) (C:=500191) (K:=500005) (a:=i) (sz:=4) (ces:=W) (by decide) (by simp[af,aq]) r;refine w.trans (fj fun k=> ?_);have e:(af (wI fs W c g i ++[(600003,d)]) b 500005).ver=g.vv:=by simp[af,aq]
 have s:(af (wI fs W c g i ++[(600003,d)]) b 500191).ver=1:=by simp[af,aq]
 rw[e,s];simp only[wI,ck,rU,bS,gG,xg,xp,fQ,dJ,br,aF,yB,yg,af,aq];by_cases l:k=500000
 ·subst l;simp
 by_cases m:k=499904
 ·subst m;simp
 by_cases h2:k=500002
 ·subst h2;simp
 by_cases f:k=500003
 ·subst f;simp
 by_cases o:k=500004
 ·subst o;simp
 by_cases q:k=500005
 ·subst q;simp
 by_cases p:k=500382
 ·subst p;simp
 by_cases n:k=500191
 ·subst n;simp
 by_cases j:k=600003
 ·subst j;simp
 simp only[l,m,h2,f,o,q,p,n,j,ya];simp
theorem u9(n:Nat)(h:aa):∀r:List D,cN (view (n+1) h) (r.map .d)=some (r,[])
 |[]=>rfl
 |x::r=>by
  rw[xI,cN,u9 n h r];rfl
theorem mM{h:aa}{K v sz n:Nat}{ds:List D}(a:h K=⟨v,some (.arr sz (ds.map .d))⟩):view (n+2) h (.sl K v 0 ds.length sz)=some (.ro ds,[K]):=by
 unfold view;simp only[a,true_and,xV,xe,xO,xz,yX];rw[yR (by simp),u9];rfl
def ry(vs:List Vr):AV:= .d (.ro (vs.map oR))
theorem Fs{X:bD}{env:Nat→AV}(S:CK)(f:S.deep=0)(s:S.fn<S.W.length)(e:aI)(b:aa):Weak X ⟨env,af (ck S ++[(600003,e)]) b⟩ ⟨env,af (eI S.fs (S.W.set S.fn (ry S.c.vars)) S.c.pts ⟨S.vh,S.vs,S.vq,S.vv+1,S.vp⟩ S.fn (.mp 500002 S.vh) (.mp 500003 S.vs) (.mp 500004 S.vq) ++[(600003,e)]) b⟩:=by
 have r:S.c.vars.map qa=(S.c.vars.map oR).map .d:=by simp[qa]
 have q:S.c.vars.length=(S.c.vars.map oR).length:=by simp
 have w:=dT (X:=X) (env:=env) (h:=af (ck S ++[(600003,e)]) b) (C:=500191) (a:=S.fn) (n:=2) (ces:=S.W.set S.fn (gG S.vv S.c.vars)) (x:=gG S.vv S.c.vars) (d:= .ro (S.c.vars.map oR)) (ks:=[500005]) (by decide) (by simp[af,aq]) (by simp[s]) rfl (by
  unfold gG;rw[q];exact mM (n:=0) (by rw[←r];simp[af,aq]))
 refine w.trans (fj fun k=> ?_);have t:(af (ck S ++[(600003,e)]) b 500191).ver=1:=by simp[af,aq]
 rw[t,List.set_set]
 have u:∀k,aq (ae (af (ck S ++[(600003,e)]) b) (kill (af (ck S ++[(600003,e)]) b) [500005])) 500191 ⟨1,some (.arr 1 (S.W.set S.fn (.d (.ro (S.c.vars.map oR)))))⟩ k=if k=500191 then ⟨1,some (.arr 1 (S.W.set S.fn (.d (.ro (S.c.vars.map oR)))))⟩else if k=500005 then ⟨S.vv+1,none⟩else af (ck S ++[(600003,e)]) b k:=fun k=>by
  simp only[aq];split
  ·rfl
  ·rw[aN]
   simp only[xH];split
   ·rename_i g
    subst g;simp[af,aq]
   ·rfl
 rw[u];simp only[eI,ck,rU,f,ry,yB,yg,af,aq];by_cases f:k=500000
 ·subst f;simp
 by_cases l:k=499904
 ·subst l;simp
 by_cases h2:k=500002
 ·subst h2;simp
 by_cases i:k=500003
 ·subst i;simp
 by_cases o:k=500004
 ·subst o;simp
 by_cases g:k=500005
 ·subst g;simp
 by_cases p:k=500382
 ·subst p;simp
 by_cases m:k=500191
 ·subst m;simp
 by_cases j:k=600003
 ·subst j;simp
 simp only[f,l,h2,i,o,g,p,m,j,ya];simp
noncomputable def D6{S:CK}{fs:List Fn}{i:Nat}{f:List UInt8}{d:List Pm}{c:Int}{e:List cf}{p:Int}{x:au}{l':List (Nat×AV)}{a:List (Nat×aI)}(h:RL 69 (lO 51 5) (zj fs i d 0) (ck S ++fB f d c e p) x l' a):jo Pg:=
 ⟨69,e5 Pg 51 5,zj fs i d 0,fun _=>ck S ++fB f d c e p,x,l',fun _=>a,fun b X g j=>(h b X g j).aw⟩
abbrev D7(S S':CK)(l:List cf):Prop:=HC 68 [an, .d (.ro (cZ l))] (ck S) [] (ck S')
section
variable{S S':CK}(h:CKok S)(fs:List Fn)(i:Nat)(k:List UInt8)(j:List Pm)(a:Int)(b:List cf)(p:Int)
include h
theorem Ft(h':CKok S')(c:∀(d:aa)(X:bD),X.P=Pg→X.N=69→LW X (lO 51 5) ⟨ag (zj fs i j 0),af (ck S ++fB k j a b p) d⟩ fun g e=>g= .exit 2∧e=⟨ag (u5 fs i),af (ck S' ++fB k j a b p) d⟩):
    ∀(d:aa)(X:bD),X.P=Pg→X.N=69→AW X EX ⟨ag (k9 fs i ++[(3, .ptr 600003 1 0 0 1)]),af (ck S ++fB k j a b p) d⟩ fun g e=>g= .normal∧e=⟨ag (u5 fs i),af (ck S' ++fB k j a b p) d⟩:=
 qE ({loops:=fun f q=>if f=51 then (if q=5 then some (D6 c)else none)else none}) 51 599000 (dK h h' rfl rfl rfl rfl rfl rfl)
theorem D8(g:Gv)(q e:Int)(c:HX 68 [an, .d (.ro (cZ b))] (ck S) (am q e) (bo g)):
    ∀(f:aa)(X:bD),X.P=Pg→X.N=69→AW X A6 ⟨ag (u5 fs i),af (ck S ++fB k j a b p) f⟩ fun m l=>m= .panic (am q e)∧l=⟨ag [],af (bo g ++fG) f⟩:=
 qE {pans:=aU Pg [(51,9,599000,⟨3,some (cJ c),[]⟩)]} 51 599000 (gI h rfl rfl rfl rfl rfl rfl)
variable(h':CKok S')(c:D7 S S' b)
include h' c
theorem D9(g:(a==0)=true):∀(d:aa)(X:bD),X.P=Pg→X.N=69→AW X A6 ⟨ag (u5 fs i),af (ck S ++fB k j a b p) d⟩ fun f e=>f= .normal∧e=⟨ag (k9 fs i),af (ck S' ++fG) d⟩:=
 qE {hint:=qT 51 [(59,qB g)],calls:=tC [(51,56,599207,dh c),(51,67,599690,aL rfl (ay p 12))]} 51 599000 (dK h h' rfl rfl rfl rfl rfl rfl)
theorem Ea(f:(a==0)=false)(e:e7 b true):∀(d:aa)(X:bD),X.P=Pg→X.N=69→AW X A6 ⟨ag (u5 fs i),af (ck S ++fB k j a b p) d⟩ fun l g=>l= .normal∧g=⟨ag (k9 fs i),af (ck S' ++fG) d⟩:=
 qE {hint:=qT 51 [(59,qB f)],calls:=tC [(51,56,599207,dh c),(51,63,599621,aL rfl e),(51,67,599828,aL rfl (ay p 12))]} 51 599000 (dK h h' rfl rfl rfl rfl rfl rfl)
theorem Eb(f:(a==0)=false)(e:e7 b false):∀(d:aa)(X:bD),X.P=Pg→X.N=69→AW X A6 ⟨ag (u5 fs i),af (ck S ++fB k j a b p) d⟩ fun l g=>l= .panic (am p 12)∧g=⟨ag [],af (bo S'.gv ++fG) d⟩:=
 qE {hint:=qT 51 [(59,qB f)],calls:=tC [(51,56,599207,dh c),(51,63,599621,aL rfl e)],pans:=aU Pg [(51,10,599207,⟨10,some (cJ (a7 p 12)),[]⟩)]} 51 599000 (gI h rfl rfl rfl rfl rfl rfl)
end
theorem Ec{fs:List Fn}{W:List AV}{a:List Pt}{g:Gv}{e:Nat}{d c b:AV}(f:kY W)(k:XS d)(j:XS c)(h:XS b)(i:Nat)(l:i<1000000):RE 69 A7 (k9 fs i) (eI fs W a g e d c b ++fG) .normal (k9 fs (i+1)) (eI fs W a g e d c b ++fG):=
 qE {hint:=qT 51 [(68,jB Pg i (by omega))]} 51 599000 (sr rfl rfl rfl rfl rfl (cM f rfl k j h) (cM f rfl k j h) rfl rfl)
end Go.Avm
namespace Go.Avm
open Go.Proofs
structure vd(fs:List Fn)(m:Nat):Prop where
 len:fs.length<1000000
 par:∀f∈fs,f.ps.length≤6
 nod:∀f∈fs,(f.ps.map (·.nm)).Nodup
 nml:∀f∈fs,∀p∈f.ps,p.nm.length≤1000000
 sh:∀f∈fs,e6 m f.bd
 m:m<1000000
theorem ss:∀{m:Nat}{l:List cf},e6 m l→l.length<1000000∧∀x∈l,hZ x
 |0,_,h=>h.elim
 |_+1,_,h=>⟨h.1,fun x a=>by
  have h2:=h.2 x a;obtain⟨k,id,d,ty,n,p,es,b,c⟩:=x;exact yx h2.1 h2.2⟩
theorem zm{fs:List Fn}{m:Nat}(ok:vd fs m){W:List AV}{a:List Pt}{g:Gv}{i:Nat}(d:i<fs.length)(c:W.length=fs.length)(b:kY W)(hp:a.length<1000000000):CKok (bS fs W a g i) where
 fn:=d
 W:=c
 dat:=b
 len:=ok.len
 par:=ok.par
 vars:=yd _
 seen:=fun p hp=>by cases hp
 inc:=List.Pairwise.nil
 nms:=yE
 nml:=fun p hp=>by cases hp
 had:=fun p hp=>by cases hp
 sk:=yE
 sb:=yE
 sc:=fun p hp=>by cases hp
 sv:=fun p hp=>by cases hp
 pts:=hp
theorem oO{B a:List (Nat×aI)}(hB:B.map (·.1)=zl)(R:aa)(k:Nat)(c:k∈zl):af (B ++a) R k=af B (af (B ++a) R) k:=by
 have b:af (B ++a) R k=af B (af a R) k:=by rw[gJ R]
 rw[b];exact dF B _ _ (by rw[hB];exact c)
theorem ve{k:Nat}(a:1000000≤k):k∉zl:=fun h=>by
 simp only[zl,xR,yD,or_false]at h;omega
theorem lc{A B a:List (Nat×aI)}(d:A.map (·.1)=zl)(hB:B.map (·.1)=zl)(c:a.map (·.1)=[600003])(R:aa)(k:Nat)(b:1000000≤k):af (B ++a) R k=af A R k:=by
 rw[gJ R,bc B _ (by rw[hB];exact ve b),bc A _ (by rw[d];exact ve b),bc a _ (by rw[c,xH];omega)]
theorem dV(A:List (Nat×aI))(a:aa):af (A ++fZ) (cG 1000000 a)=af A (cG 1000000 a):=by
 rw[gJ a];congr 1;funext k;simp only[fZ,af,aq];by_cases h:k=600003
 ·subst h
  rfl
 ·rw[xi h]
def A8(fs:List Fn)(W:List AV)(b:List Pt)(g:Gv)(c:Nat)(h f d:AV)(i:Nat):TR (List Vr×List Pt)→Prop
 | .ok q=>q.2.length<1000000000∧∃a:Gv,RE 69 bB (k9 fs i) (eI fs W b g c h f d) .normal (k9 fs (i+1)) (eI fs (W.set i (ry q.1)) q.2 a i (.mp 500002 a.vh) (.mp 500003 a.vs) (.mp 500004 a.vq))
 | .bad p e=>∃a:Gv,RE 69 bB (k9 fs i) (eI fs W b g c h f d) (.panic (am p e)) [] (bo a)
 | .out=>True
theorem bO(v:Nat):XS (.mp 500002 v):=fun ρ h _ _=>by simp only[aH,h]
theorem Ed(v:Nat):XS (.mp 500003 v):=fun ρ _ h _=>by simp only[aH,h]
theorem Ee(v:Nat):XS (.mp 500004 v):=fun ρ _ _ h=>by simp only[aH,h]
theorem vg{W:List AV}(h:kY W)(i:Nat)(vs:List Vr):kY (W.set i (ry vs)):=fun x a=>by
 rcases xj a with a|rfl
 ·exact h x a
 ·exact .inr ⟨_,rfl⟩
section
variable{fs:List Fn}{m:Nat}(ok:vd fs m){W:List AV}(u:W.length=fs.length)(d:kY W){a:List Pt}(hp:a.length<1000000000)(g:Gv)(o:Nat){t s r:AV}(n:XS t)(l:XS s)(j:XS r){i:Nat}
include ok u d hp n l j
theorem A9{q:List UInt8}{f:List Pm}{c:Int}{k:List cf}{p:Int}(x:fs[i]? =some ⟨q,f,c,k,p⟩)(z:W[i]? =some .nils){S1:CK}(D:CKok S1)
    (C:∀(e:aa)(X:bD),X.P=Pg→X.N=69→LW X (lO 51 5) ⟨ag (zj fs i f 0),af (ck (bS fs W a g i) ++fB q f c k p) e⟩ fun B A=>B= .exit 2∧A=⟨ag (u5 fs i),af (ck S1 ++fB q f c k p) e⟩)
    (Q:au→St→Prop) (R:aa) (X:bD) (v:X.P=Pg) (w:X.N=69) (E:AW X A6 ⟨ag (u5 fs i),af (ck S1 ++fB q f c k p) R⟩ (lU 1 (tE (fun S'=>AW X A7 S' Q) Q))):
    AW X bB ⟨ag (k9 fs i),af (eI fs W a g o t s r ++fZ) R⟩ Q:=by
 have y:i<fs.length:=(xD.1 x).1;rw[p4];refine cd ((EY d n l j i true (by simpa using y) R X v w).mono ?_);rintro _ _ ⟨rfl,rfl⟩;refine cd (dM (b:=true) rfl (fun _=>je ?_) (fun h=>by cases h));refine cd (ey (cd ((Fp d n l j i q f c k p x R X v w).mono ?_)));rintro _ _ ⟨rfl,rfl⟩;refine cd ((Fq d n l j i q f c k p R X v w).mono ?_);rintro _ _ ⟨rfl,rfl⟩;refine AW.weak (Fr fs W a g i _ z R) (cd ((Ft (zm ok y u d hp) fs i q f c k p D C R X v w).mono ?_));rintro _ _ ⟨rfl,rfl⟩;exact E
theorem Ba{f:Fn}(L:fs[i]? =some f)(hn:W[i]? =some .nils):A8 fs W a g o t s r i (sp fs i f a):=by
 have S:i<fs.length:=(xD.1 L).1;have J:f∈fs:=xS L;have Y:=ok.nod f J;have T:=ok.par f J;have g3:=ok.nml f J;have I:=ok.sh f J;have hm:=ok.m;have h0:=zm ok (g:=g) S u d hp;obtain⟨G,F,x,z,p⟩:=f;simp only at Y T g3 I;obtain⟨S1,b,c5⟩:=zk (fs:=fs) i G F x z p Y T g3 _ 0 (bS fs W a g i) rfl (yd _) h0 rfl;rw[yX]at b;have a1:At ⟨fs,i,0⟩ S1:=⟨b.ok,b.fs,b.fn,b.deep⟩
 have cb:=uL (ss I).1 (rx m ⟨fs,i,0⟩ z I (by simp) (by simp only;omega)) (ss I).2 S1 a1;rw[b.c]at cb;have H:=mw m z I;have O:=fun Q R X B D hc=>A9 ok u d hp g o n l j (i:=i) L hn b.ok c5 Q R X B D hc
 unfold sp;show A8 _ _ _ _ _ _ _ _ _ ((de ⟨fs,i,0⟩ z (F.foldl CS.par ⟨[],[],⟨[],0⟩,a⟩)).bind fun c=>bif x==0||cT z then .ok (c.vars,c.pts)else .bad p 12);have ec:(bS fs W a g i).c=⟨[],[],⟨[],0⟩,a⟩:=rfl;rw[ec]at cb;revert cb;cases de ⟨fs,i,0⟩ z (F.foldl CS.par ⟨[],[],⟨[],0⟩,a⟩)with
 |out=>exact fun _=>trivial
 |bad q e=>
  rintro⟨Z,c⟩;refine⟨Z,jH (M:=1000000) (N:=69) (l':=[]) ⟨rfl,rfl,rfl,rfl,cM d rfl n l j,rfl⟩ rfl rfl fun h X B D=> ?_⟩;rw[←dV];refine O _ _ X B D ((D8 b.ok fs i G F x z p Z q e c _ X B D).mono ?_);rintro _ _ ⟨rfl,rfl⟩;exact⟨rfl,rfl,fun k C=>oO rfl _ k C,fun k C=>(lc (A:=eI fs W a g o t s r) rfl rfl rfl _ k C).trans (congrFun (dV _ h).symm k)⟩
 |ok c=>
  rintro⟨y,v,K⟩;have e1:y.fs=fs:=v.fs.trans b.fs;have e2:y.fn=i:=v.fn.trans b.fn;have e3:y.deep=0:=v.deep.trans b.deep;have V:y.W=W:=v.W.trans b.W;have U:y.c=c:=v.c
  have E:(RE 69 A6 (u5 fs i) (ck S1 ++fB G F x z p) .normal (k9 fs i) (ck y ++fG))→A8 fs W a g o t s r i (.ok (c.vars,c.pts)):=fun c9=>by
   refine⟨by rw[←U];exact v.ok.pts,⟨y.vh,y.vs,y.vq,y.vv+1,y.vp⟩,jH (M:=1000000) (N:=69) ⟨rfl,rfl,rfl,rfl,cM d rfl n l j,cM (vg d i _) rfl (bO _) (Ed _) (Ee _)⟩ rfl rfl fun h X B D=> ?_⟩;rw[←dV];refine O _ _ X B D ((c9 _ X B D).mono ?_);rintro _ _ ⟨rfl,rfl⟩;have w:=Fs (X:=X) (env:=ag (k9 fs i)) y e3 (by rw[e2,V,u];exact S) ⟨1,none⟩ (cG 1000000 h);rw[e1,e2,V,U]at w;refine AW.weak w ((Ec (vg d i _) (bO _) (Ed _) (Ee _) i (by have:=ok.len;omega) _ X B D).mono ?_);rintro _ _ ⟨rfl,rfl⟩;exact⟨rfl,rfl,fun k C=>oO rfl _ k C,fun k C=>(lc (A:=eI fs W a g o t s r) rfl rfl rfl _ k C).trans (congrFun (dV _ h).symm k)⟩
  simp only[TR.bind];cases P:(x==0)with
  |true=>exact E (D9 b.ok fs i G F x z p v.ok K P)
  |false=>
   unfold ic at H;revert H;cases cT z with
   |true=>exact fun H=>E (Ea b.ok fs i G F x z p v.ok K P H)
   |false=>
    intro H;simp only[Bool.or_self,x9];refine⟨y.gv,jH (M:=1000000) (N:=69) (l':=[]) ⟨rfl,rfl,rfl,rfl,cM d rfl n l j,rfl⟩ rfl rfl fun h X B D=> ?_⟩;rw[←dV];refine O _ _ X B D ((Eb b.ok fs i G F x z p v.ok K P H _ X B D).mono ?_);rintro _ _ ⟨rfl,rfl⟩;exact⟨rfl,rfl,fun k C=>oO rfl _ k C,fun k C=>(lc (A:=eI fs W a g o t s r) rfl rfl rfl _ k C).trans (congrFun (dV _ h).symm k)⟩
end
def dx(a:List (List Vr))(n:Nat):List AV:=a.map ry ++List.replicate (n-a.length) .nils
theorem tf{a:List (List Vr)}{n:Nat}(h:a.length≤n):(dx a n).length=n:=by
 simp only[dx,xZ,xV,List.length_replicate];omega
theorem fm(a:List (List Vr))(n:Nat):kY (dx a n):=fun x b=>by
 rcases xJ.1 b with b|b
 ·obtain⟨r,_,rfl⟩:=xf.1 b
  exact .inr ⟨_,rfl⟩
 ·exact .inl (List.eq_of_mem_replicate b)
theorem tg{a:List (List Vr)}{n:Nat}(h:a.length<n):(dx a n)[a.length]? =some .nils:=by
 unfold dx;rw[xN (by simp),xV,Nat.sub_self,List.getElem?_replicate,xW (by omega)]
theorem th{a:List (List Vr)}{n:Nat}(h:a.length<n)(r:List Vr):(dx a n).set a.length (ry r)=dx (a ++[r]) n:=by
 unfold dx;rw[List.set_append_right _ _ (by simp),xV,Nat.sub_self,xM,x8];congr 1;obtain⟨k,b⟩:∃k,n-a.length=k+1:=⟨n-a.length-1,by omega⟩
 rw[b,List.replicate_succ,List.set_cons_zero,xZ,List.length_singleton,show n-(a.length+1)=k by omega];rfl
def CF(fs:List Fn)(W:List AV)(a:List Pt)(g:Gv)(c:Nat)(l k h:AV)(i:Nat):TR (List (List Vr)×List Pt)→Prop
 | .ok q=>q.2.length<1000000000∧q.1.length=fs.length∧∃(b:Gv)(m:Nat)(f d j:AV),XS f∧XS d∧XS j∧RL 69 bB (k9 fs i) (eI fs W a g c l k h) (.exit 0) [(0,an)] (eI fs (dx q.1 fs.length) q.2 b m f d j)
 | .bad p e=>∃b:Gv,RL 69 bB (k9 fs i) (eI fs W a g c l k h) (.panic (am p e)) [] (bo b)
 | .out=>True
theorem CG{fs:List Fn}{W:List AV}{c:List Pt}{g:Gv}{i:Nat}{f d e:AV}(j:kY W)(r:XS f)(n:XS d)(m:XS e)(a:aa)(X:bD)(o:X.P=Pg)(p:X.N=69):AW X bB ⟨ag (k9 fs fs.length),af (eI fs W c g i f d e) a⟩ fun t S'=>t= .exit 0∧S'=⟨ag [(0,an)],af (eI fs W c g i f d e) a⟩:=by
 refine jH (M:=1000000) (N:=69) ⟨rfl,rfl,rfl,rfl,cM j rfl r n m,cM j rfl r n m⟩ rfl rfl (fun a X o p=> ?_) a X o p;rw[←dV,p4];refine cd ((EY j r n m fs.length false (by simp) _ X o p).mono ?_);rintro _ _ ⟨rfl,rfl⟩;refine cd (dM (b:=false) rfl (fun h=>by cases h) (fun _=>jn (k4 ⟨⟨ag [(0,an)],af (eI fs W c g i f d e ++fZ) (cG 1000000 a)⟩, ?_,rfl,rfl,fun k l=>oO rfl _ k l,fun k l=>(lc (A:=eI fs W c g i f d e) rfl rfl rfl _ k l).trans (congrFun (dV _ a).symm k)⟩)))
 exact jG (fun q s=>by
  rw[xH]at s;subst s;rfl) rfl
theorem zn{fs:List Fn}{m:Nat}(ok:vd fs m):∀(r8 a:List Fn)(b:List (List Vr))(i:List Pt)(g:Gv)(s:Nat)(u o t:AV),fs=a ++r8→b.length=a.length→i.length<1000000000→XS u→XS o→XS t→
    CF fs (dx b fs.length) i g s u o t a.length (eU fs a.length r8 b i)
 |[],a,b,i,g,s,u,o,t,h,v,hp,y,x,w=>by
  have:fs=a:=by rw[h,yY]
  subst this;exact⟨hp,v,g,s,u,o,t,y,x,w,fun d X j k=>bA (CG (fm _ _) y x w d X j k) (by simp)⟩
 |f::r8,a,b,i,g,s,u,o,t,h,v,hp,y,x,w=>by
  have A:a.length<fs.length:=by rw[h];simp
  have D:fs[a.length]? =some f:=by rw[h];simp
  have c:=Ba ok (tf (by omega)) (fm b fs.length) hp g s y x w D (by rw[←v];exact tg (by omega));simp only[eU];revert c;cases sp fs a.length f i with
  |out=>exact fun _=>trivial
  |bad p e=>exact fun ⟨n,c⟩=>⟨n,fun d X j k=>bA (c d X j k) (by simp)⟩
  |ok q=>
   rintro⟨I,n,c⟩
   have F:(dx b fs.length).set a.length (ry q.1)=dx (b ++[q.1]) fs.length:=by
    rw[←v];exact th (by omega) q.1
   rw[F]at c;have l:=zn ok r8 (a ++[f]) (b ++[q.1]) q.2 n a.length (.mp 500002 n.vh) (.mp 500003 n.vs) (.mp 500004 n.vq) (by rw[h];simp) (by simp[v]) I (bO _) (Ed _) (Ee _);have N:(a ++[f]).length=a.length+1:=by simp
   rw[N]at l;simp only[TR.bind];revert l;cases eU fs (a.length+1) r8 (b ++[q.1]) q.2 with
   |out=>exact fun _=>trivial
   |bad p e=>exact fun ⟨z,l⟩=>⟨z,fun d X j k=>bM (c d X j k) (l d X j k)⟩
   |ok r=>exact fun ⟨L,E,z,C,K,J,G,H,B,M,l⟩=>⟨L,E,z,C,K,J,G,H,B,M,fun d X j k=>bM (c d X j k) (l d X j k)⟩
end Go.Avm
namespace Go.Avm
open Go.Proofs
noncomputable def CH{fs:List Fn}{W:List AV}{a:List Pt}{g:Gv}{d:Nat}{i e f:AV}{x:au}{l':List (Nat×AV)}{b:List (Nat×aI)}(h:RL 69 bB (k9 fs 0) (eI fs W a g d i e f) x l' b):jo Pg:=
 ⟨69,bB,k9 fs 0,fun _=>eI fs W a g d i e f,x,l',fun _=>b,fun c X j k=>(h c X j k).aw⟩
section
variable{fs:List Fn}{W v:List AV}(n:kY W)(h:kY v){a b:List Pt}{g l:Gv}{k x:Nat}{j d i r o m:AV}(u:XS j)(t:XS d)(s:XS i)(y:XS r)(w:XS o)(z:XS m)
include n u t s
theorem ti(p e:Int)(c:RL 69 bB (k9 fs 0) (eI fs W a g k j d i) (.panic (am p e)) [] (bo l)):HX 51 [an] (eI fs W a g k j d i) (am p e) (bo l):=
 qX ({loops:=fun f q=>if f=51 then (if q=1 then some (CH c)else none)else none}) 2000 (⟨rfl,rfl,rfl,rfl,cM n rfl u t s,rfl⟩)
include h y w z
theorem vk(c:RL 69 bB (k9 fs 0) (eI fs W a g k j d i) (.exit 0) [(0,an)] (eI fs v b l x r o m)):HC 51 [an] (eI fs W a g k j d i) [] (eI fs v b l x r o m):=
 qN ({loops:=fun f q=>if f=51 then (if q=1 then some (CH c)else none)else none}) 2000 (⟨rfl,rfl,rfl,rfl,cM n rfl u t s,cM h rfl y w z⟩)
end
def cv(a:List (List Vr)):List D:=a.map fun vs=> .ro (vs.map oR)
def oP(a:List Pt):List D:=a.map w7
abbrev Ef(fs:List Fn)(a:List (List Vr))(b:List Pt)(g:Gv)(c:Nat)(h f e:AV):List (Nat×aI):=
 [(500000,⟨1,some (.arr 1 [.mp 499904 1, .d (.ro (fs.map cR)), .d (.ro (cv a)), .d (.ro (oP b)),dN c,h,f,e,dI 0])⟩),(499904,⟨1,none⟩),(500002,⟨g.vh,none⟩),(500003,⟨g.vs,none⟩),(500004,⟨g.vq,none⟩),(500005,⟨g.vv,none⟩),(500382,⟨g.vp+1,none⟩),(500191,⟨2,none⟩)]
theorem vo{X:bD}{env:Nat→AV}(fs:List Fn)(b:List (List Vr))(s:b.length=fs.length)(c:List Pt)(g:Gv)(i:Nat)(l f j:AV)(e:aa):Weak X ⟨env,af (eI fs (dx b fs.length) c g i l f j) e⟩ ⟨env,af (Ef fs b c g i l f j) e⟩:=by
 have z:dx b fs.length=(cv b).map .d:=by
  unfold dx cv;rw[s,Nat.sub_self,List.replicate_zero,yY,List.map_map];rfl
 have B:fs.length=(cv b).length:=by rw[←s];simp[cv]
 have D:c.length=(oP c).length:=by simp[oP]
 have w:c.map bn=(oP c).map .d:=by simp[oP,bn]
 rw[z]
 have A:=dT (X:=X) (env:=env) (h:=af (eI fs ((cv b).map .d) c g i l f j) e) (C:=500000) (a:=2) (n:=2) (ces:=[.mp 499904 1, .d (.ro (fs.map cR)), .sl 500191 1 0 fs.length 1, .sl 500382 g.vp 0 c.length 3,dN i,l,f,j,dI 0]) (x:= .sl 500191 1 0 fs.length 1) (d:= .ro (cv b)) (ks:=[500191]) (by decide) (by simp[af,aq]) rfl rfl (by
  rw[B];exact mM (n:=0) (by simp[af,aq]))
 refine A.trans ?_
 have h2:∀k,aq (ae (af (eI fs ((cv b).map .d) c g i l f j) e) (kill (af (eI fs ((cv b).map .d) c g i l f j) e) [500191])) 500000 ⟨(af (eI fs ((cv b).map .d) c g i l f j) e 500000).ver,some (.arr 1 (List.set [.mp 499904 1, .d (.ro (fs.map cR)), .sl 500191 1 0 fs.length 1, .sl 500382 g.vp 0 c.length 3,dN i,l,f,j,dI 0] 2 (.d (.ro (cv b)))))⟩ k=if k=500000 then ⟨1,some (.arr 1 [.mp 499904 1, .d (.ro (fs.map cR)), .d (.ro (cv b)), .sl 500382 g.vp 0 c.length 3,dN i,l,f,j,dI 0])⟩else if k=500191 then ⟨2,none⟩else af (eI fs ((cv b).map .d) c g i l f j) e k:=fun k=>by
  simp only[aq];split
  ·simp[af,aq]
  ·rw[aN]
   simp only[xH];split
   ·rename_i m
    subst m;simp[af,aq]
   ·rfl
 rw[show(aq (ae (af (eI fs ((cv b).map .d) c g i l f j) e) (kill (af (eI fs ((cv b).map .d) c g i l f j) e) [500191])) 500000 ⟨(af (eI fs ((cv b).map .d) c g i l f j) e 500000).ver,some (.arr 1 (List.set [.mp 499904 1, .d (.ro (fs.map cR)), .sl 500191 1 0 fs.length 1, .sl 500382 g.vp 0 c.length 3,dN i,l,f,j,dI 0] 2 (.d (.ro (cv b)))))⟩)=_ from funext h2];generalize o:(fun k=>if k=500000 then (⟨1,some (.arr 1 [.mp 499904 1, .d (.ro (fs.map cR)), .d (.ro (cv b)), .sl 500382 g.vp 0 c.length 3,dN i,l,f,j,dI 0])⟩:aI)else if k=500191 then ⟨2,none⟩else af (eI fs ((cv b).map .d) c g i l f j) e k)=H
 have y:=dT (X:=X) (env:=env) (h:=H) (C:=500000) (a:=3) (n:=2) (ces:=[.mp 499904 1, .d (.ro (fs.map cR)), .d (.ro (cv b)), .sl 500382 g.vp 0 c.length 3,dN i,l,f,j,dI 0]) (x:= .sl 500382 g.vp 0 c.length 3) (d:= .ro (oP c)) (ks:=[500382]) (by decide) (by rw[←o];simp) rfl rfl (by
  rw[D];exact mM (n:=0) (by rw[←o];simp[af,aq,w]))
 refine y.trans (fj fun k=> ?_)
 have p:aq (ae H (kill H [500382])) 500000 ⟨(H 500000).ver,some (.arr 1 (List.set [.mp 499904 1, .d (.ro (fs.map cR)), .d (.ro (cv b)), .sl 500382 g.vp 0 c.length 3,dN i,l,f,j,dI 0] 3 (.d (.ro (oP c)))))⟩ k=if k=500000 then ⟨1,some (.arr 1 [.mp 499904 1, .d (.ro (fs.map cR)), .d (.ro (cv b)), .d (.ro (oP c)),dN i,l,f,j,dI 0])⟩else if k=500382 then ⟨g.vp+1,none⟩else H k:=by
  simp only[aq];split
  ·rw[←o];simp
  ·rw[aN]
   simp only[xH];split
   ·rename_i m
    subst m;rw[←o];simp[af,aq]
   ·rfl
 rw[p,←o];simp only[Ef,eI,af,aq];by_cases q:k=500000
 ·subst q;simp
 by_cases v:k=499904
 ·subst v;simp
 by_cases h2:k=500002
 ·subst h2;simp
 by_cases p:k=500003
 ·subst p;simp
 by_cases r:k=500004
 ·subst r;simp
 by_cases m:k=500005
 ·subst m;simp
 by_cases u:k=500382
 ·subst u;simp
 by_cases t:k=500191
 ·subst t;simp
 simp only[q,v,h2,p,r,m,u,t,ya];simp
theorem wL{G:Gh}{B:Nat}{w0 w:World}{I0:Nat→Nat→Prop}{h:aa}(b:HR G B w0 I0 h w){K:Nat}{x:D}(m:(h K).ob=some (.arr 3 [.agg [.d x, .nils, .nils]])):HR G B w0 I0 (aq h K ⟨(h K).ver,some (.arr 3 [.d (.agg [x, .ro [], .ro []])])⟩) w:=by
 refine b.reob ?_ rfl;rcases b.objs K _ m with ⟨l,_⟩|⟨L,p,k,o,n,q,r,f⟩
 ·cases l
 refine .inr ⟨L,p,k,o,n,fun e j=>by rw[xH]at j;subst j;rfl,(fun h=>absurd h (by decide)),fun t c a=> ?_⟩;match t,a with
 |0,a=>
  cases a;exact f 0 (.d x) rfl
 |1,a=>
  cases a;obtain⟨u,i,g,b⟩:=f 1 .nils rfl;refine⟨u,i,g, ?_⟩;cases b;exact .d (.roNil _ _)
 |2,a=>
  cases a;obtain⟨u,i,g,b⟩:=f 2 .nils rfl;refine⟨u,i,g, ?_⟩;cases b;exact .d (.roNil _ _)
theorem tj{X:bD}{env:Nat→AV}{h:aa}{K:Nat}{x:D}(a:(h K).ob=some (.arr 3 [.agg [.d x, .nils, .nils]])):Weak X ⟨env,h⟩ ⟨env,aq h K ⟨(h K).ver,some (.arr 3 [.d (.agg [x, .ro [], .ro []])])⟩⟩:=fun G ac w ⟨b,c,e,f⟩=>⟨G,Ext.refl G w,wL b a,c,e,f⟩
theorem vu{P:Program}(hm:d4 P){h c:aa}(j:∀(X:bD)(env:Nat→AV),Weak X ⟨env,h⟩ ⟨env,c⟩){G:Gh}{B:Nat}{w0 w:World}{I0:Nat→Nat→Prop}(i:HR G B w0 I0 h w):∃d,Ext G w d w∧HR d B w0 I0 c w:=by
 let X:bD:={P:=P,B:=B,w0:=w0,I0:=I0,N:=0,mixed:=hm}
 obtain⟨k,f,e,_⟩:=j X (fun _=> .junk) G {tmps:= #[],defers:=[]} w ⟨i,[],⟨rfl,rfl,fun t m=>absurd m (by simp[X]),fun _ _=>rfl⟩,⟨yE,fun b a=>by simp at a,fun b a=>by simp at a,fun l g=>by simp[X]at g,yd _⟩⟩;exact⟨k,f,e⟩
theorem tl{P:Program}(hm:d4 P){f:Nat}{a j:List AV}{h g h2:aa}(e:az P f a g j h2)(s:∀(X:bD)(env:Nat→AV),Weak X ⟨env,h⟩ ⟨env,g⟩):az P f a h j h2:=
 ⟨e.1,fun G B w0 I0 w b r p c=>by
  obtain⟨z,d,l⟩:=vu hm s r;exact(e.2 z B w0 I0 w b l p (fun i x u n t=>(c i x u n t).mono d)).mono fun _ _ ⟨v,o,y,k,m,q⟩=>⟨v,o,y,d.trans k,m,q⟩⟩
theorem vw{P:Program}(hm:d4 P){f:Nat}{a:List AV}{x:AV}{h e h2:aa}(g:eY P f a e x h2)(p:∀(X:bD)(env:Nat→AV),Weak X ⟨env,h⟩ ⟨env,e⟩):eY P f a h x h2:=
 ⟨g.1,fun G B w0 I0 w c o t b=>by
  obtain⟨s,d,k⟩:=vu hm p o;exact(g.2 s B w0 I0 w c k t (fun i x u m r=>(b i x u m r).mono d)).mono fun _ _ ⟨v,q,n,y,l,j⟩=>⟨v,q,n,d.trans y,l,j⟩⟩
abbrev zo(fs:List Fn):List (Nat×aI):=
 [(500000,⟨1,some (.arr 1 [.mp 499904 1, .d (.ro (fs.map cR)), .sl 500191 1 0 (fs.map cR).length 1, .sl 500382 1 0 1 3,dI 0, .junk, .junk, .junk,dI 0])⟩),(499904,⟨1,some (.map [] 0)⟩),(500382,⟨1,some (.arr 3 [.agg [dI 0, .nils, .nils]])⟩),(500191,⟨1,some (.arr 1 (List.replicate (fs.map cR).length .nils))⟩)]
theorem p5(fs:List Fn)(a:aa)(X:bD)(env:Nat→AV):Weak X ⟨env,af (zo fs) a⟩ ⟨env,af (df fs [] 0 .junk) a⟩:=by
 have w:=tj (X:=X) (env:=env) (h:=af (zo fs) a) (K:=500382) (x:= .int .i64 0) (by simp[af,aq])
 have e:aq (af (zo fs) a) 500382 ⟨(af (zo fs) a 500382).ver,some (.arr 3 [.d (.agg [.int .i64 0, .ro [], .ro []])])⟩=af (df fs [] 0 .junk) a:=by
  funext k;have c:(af (zo fs) a 500382).ver=1:=by simp[af,aq]
  rw[c];simp only[zo,df,xV,af,aq];by_cases b:k=500382
  ·subst b;rfl
  ·simp only[b,ya]
 rw[e]at w;exact w
abbrev p6(a:List (List Vr))(b:List Pt):D:= .agg [.ro (cv a), .ro (oP b)]
def Eg(P:Program)(fs:List Fn)(h:fs.length<1000000):bj P:= .mk ((fs.map cR).length:Int) (by omega) (by rw[xV];omega)
section
variable{fs:List Fn}(a:fs.length<1000000)
include a
theorem Fu(p e:Int)(c:HX 50 [an] (zo fs) (am p e) qd):dt Pg 32 [.agg [.ro (fs.map cR)]] [.agg [.ro [], .ro []], .int .i64 p, .int .i64 e]:=
 qV {hint:=qT 32 [(14,Eg Pg fs a)],pans:=aU Pg [(32,5,500518,⟨1,some (cJ c),[]⟩)]} 499774
variable(c:HC 50 [an] (zo fs) [] (df fs (fQ 0 fs) fs.length .junk))
include c
theorem Fv(p e:Int)(g:Gv)(b:HX 51 [an] (eI fs (dx [] fs.length) [cS] ⟨0,0,0,0,1⟩ 0 .junk .junk .junk) (am p e) (bo g)):dt Pg 32 [.agg [.ro (fs.map cR)]] [.agg [.ro [], .ro []], .int .i64 p, .int .i64 e]:=
 qV {hint:=qT 32 [(14,Eg Pg fs a)],calls:=tC [(32,24,500549,dh c)],pans:=aU Pg [(32,6,500549,⟨1,some (cJ b),[]⟩)]} 499774
theorem Fw(b:List (List Vr))(d:List Pt)(g:Gv)(e:Nat)(j i h:AV)(f:HC 51 [an] (eI fs (dx [] fs.length) [cS] ⟨0,0,0,0,1⟩ 0 .junk .junk .junk) [] (Ef fs b d g e j i h)):dt Pg 32 [.agg [.ro (fs.map cR)]] [p6 b d, .int .i64 0, .int .i64 0]:=
 qV {hint:=qT 32 [(14,Eg Pg fs a)],calls:=tC [(32,24,500549,dh c),(32,26,500580,dh f)]} 499774
end
def CI:TR (List (List Vr)×List Pt)→List D
 | .ok q=>[p6 q.1 q.2, .int .i64 0, .int .i64 0]
 | .bad p e=>[.agg [.ro [], .ro []], .int .i64 p, .int .i64 e]
 | .out=>[]
theorem wM:XS .junk:=fun _ _ _ _=>rfl
theorem Bb{fs:List Fn}{m:Nat}(ok:vd fs m)(c:oN fs≠ .out):dt Pg 32 [.agg [.ro (fs.map cR)]] (CI (oN fs)):=by
 have b:=AU (fs:=fs) (nn:= .junk) (fun _=>rfl) ok.len;unfold oN at c ⊢;revert b c;cases oJ fs with
 |out=>exact fun c _=>absurd rfl c
 |bad p e=>
  intro _ b;simp only[DS]at b;exact Fu ok.len p e fun a=>vw ed (b a) (p5 fs a)
 |ok _=>
  intro c b;simp only[DS]at b;have b:=fun a=>tl ed (b a) (p5 fs a)
  have cb:=zn ok fs [] [] [cS] ⟨0,0,0,0,1⟩ 0 .junk .junk .junk rfl rfl (by simp) wM wM wM;simp only[TR.bind]at c ⊢;revert cb c;show eU fs 0 fs [] [cS]≠ .out→CF fs (dx [] fs.length) [cS] ⟨0,0,0,0,1⟩ 0 .junk .junk .junk 0 (eU fs 0 fs [] [cS])→_;cases eU fs 0 fs [] [cS]with
  |out=>exact fun c _=>absurd rfl c
  |bad p e=>exact fun _ ⟨g,d⟩=>Fv ok.len b p e g (ti (fm _ _) wM wM wM p e d)
  |ok q=>
   rintro _ ⟨hp,n,g,j,h,f,i,k,r,o,d⟩;have l:=vk (fm _ _) (fm _ _) wM wM wM k r o d;exact Fw ok.len b q.1 q.2 g j h f i fun a=>mJ ed (l a) fun X env=>vo fs q.1 n q.2 g j h f i a
end Go.Avm
namespace Go.Avm
open Go.Proofs
def Dp:List UInt8:=[102,110,32,109,97,105,110,40,41,58,32,105,110,116,32,123,32,108,101,116,32,115,58,32,105,110,116,32,61,32,48,59,32,108,101,116,32,105,58,32,105,110,116,32,61,32,49,59,32,119,104,105,108,101,32,105,32,60,61,32,51,32,123,32,115,32,61,32,115,32,43,32,105,59,32,105,32,61,32,105,32,43,32,49,59,32,125,32,112,114,105,110,116,32,115,59,32,114,101,116,117,114,110,32,115,59,32,125]
def zp:List Fn:=[⟨[109,97,105,110],[],1,[.mk 1 1 [115] 1 0 17 [.mk 1 0 [] 0 30 []] [] [], .mk 1 2 [105] 1 0 33 [.mk 1 0 [] 1 46 []] [] [], .mk 5 3 [] 0 0 49 [.mk 9 12 [] 0 57 [.mk 3 0 [105] 0 55 [], .mk 1 0 [] 3 60 []]] [.mk 2 4 [115] 0 0 64 [.mk 9 1 [] 0 70 [.mk 3 0 [115] 0 68 [], .mk 3 0 [105] 0 72 []]] [] [], .mk 2 5 [105] 0 0 75 [.mk 9 1 [] 0 81 [.mk 3 0 [105] 0 79 [], .mk 1 0 [] 1 83 []]] [] []] [], .mk 7 6 [] 0 0 88 [.mk 3 0 [115] 0 94 []] [] [], .mk 6 7 [] 0 0 97 [.mk 3 0 [115] 0 104 []] [] []],0⟩]
def Bc:List (List Vr)×List Pt:=([[⟨[115],1,0,1⟩,⟨[105],1,0,2⟩]],[⟨0,[],[]⟩,⟨0,[],[]⟩,⟨0,[0],[0]⟩,⟨0,[0,1],[0,1]⟩,⟨0,[0,1],[0,1]⟩,⟨0,[0,1],[0,1]⟩,⟨0,[0,1],[0,1]⟩,⟨0,[0,1],[0,1]⟩])
theorem Eh:vd zp 10 where
 len:=by decide
 par:=fun f a=>by
  rw[show f=zp[0]from xH.1 a];decide
 nod:=fun f a=>by
  rw[show f=zp[0]from xH.1 a];exact yE
 nml:=fun f a p hp=>by
  rw[show f=zp[0]from xH.1 a]at hp;cases hp
 sh:=fun f a=>by
  rw[show f=zp[0]from xH.1 a];simp[zp,e6]
 m:=by decide
set_option maxRecDepth 100000 in
theorem EZ:oN zp= .ok Bc:=by kernel_rfl
abbrev Bd:D:= .agg [.ro (zp.map cR)]
theorem Ei:dt Pg 32 [Bd] [p6 Bc.1 Bc.2, .int .i64 0, .int .i64 0]:=by
 have:=Bb Eh (by rw[EZ];simp);rw[EZ]at this;exact this
mutual
def vy:D→D→Bool
 | .bool a, .bool b=>a==b
 | .int k n, .int j m=>decide (k=j)&&decide (n=m)
 | .str a, .str b=>a==b
 | .agg a, .agg b=>m5 a b
 | .ro a, .ro b=>m5 a b
 | .rp a, .rp b=>m5 a b
 | .nilp, .nilp=>true
 | .nili, .nili=>true
 | .ifc, .ifc=>true
 |_,_=>false
def m5:List D→List D→Bool
 |[],[]=>true
 |x::l,y::r=>vy x y&&m5 l r
 |_,_=>false
end
mutual
theorem Be:∀(x y:D),vy x y=true→x=y
 | .bool a,y,h=>by cases y<;>simp[vy]at h;rw[h]
 | .int k n,y,h=>by cases y<;>simp[vy]at h;rw[h.1,h.2]
 | .str a,y,h=>by cases y<;>simp[vy]at h;rw[h]
 | .agg a,y,h=>by cases y<;>simp[vy]at h;rw[jJ a _ h]
 | .ro a,y,h=>by cases y<;>simp[vy]at h;rw[jJ a _ h]
 | .rp a,y,h=>by cases y<;>simp[vy]at h;rw[jJ a _ h]
 | .nilp,y,h=>by cases y<;>simp[vy]at h;rfl
 | .nili,y,h=>by cases y<;>simp[vy]at h;rfl
 | .ifc,y,h=>by cases y<;>simp[vy]at h;rfl
theorem jJ:∀(l r:List D),m5 l r=true→l=r
 |[],[],_=>rfl
 |[],_::_,h=>by simp[m5]at h
 |_::_,[],h=>by simp[m5]at h
 |x::l,y::r,h=>by
  simp only[m5,xU]at h;rw[Be x y h.1,jJ l r h.2]
end
def CJ{P:Program}(e:Nat)(a b:List D)(h:dt P e a b):Memo P:=⟨fun g ds=>bif Nat.beq g e&&m5 ds a then some b else none,fun g ds f d=>by
 cases c:(Nat.beq g e&&m5 ds a)with
 |false=>rw[c]at d;cases d
 |true=>
  rw[c]at d;rw[xU]at c;cases d;rw[xn c.1,jJ _ _ c.2];exact h⟩
noncomputable def E0:Memo Pg:=CJ 32 [Bd] [p6 Bc.1 Bc.2, .int .i64 0, .int .i64 0] Ei
end Go.Avm
namespace Go.Avm
open Go.Proofs
set_option maxRecDepth 100000 in
theorem CL:dt Pg 10 [Bd, .ro [], .int .i64 100] [.agg [.int .u8 1, .int .i64 6, .ro [.int .i64 6], .int .i64 14, .int .i64 0, .int .i64 1, .int .i64 0], .int .i64 0]:=
 dP ed named (fun f _=>f==34) (fun g=>g==20) E0 3000 (by kernel_rfl)
set_option maxRecDepth 100000 in
theorem wN:dt Pg 16 [Bd, .ro [], .int .i64 4] [.ro [.agg [.int .i64 0, .int .i64 4, .ro [.agg [.int .i64 0, .bool true, .int .i64 0, .ro []], .agg [.int .i64 1, .bool true, .int .i64 1, .ro []]]]], .int .i64 0, .int .i64 0]:=
 dP ed named (fun f _=>f==34) (fun g=>g==20) E0 3000 (by kernel_rfl)
end Go.Avm
namespace Go.Avm
open Go.Proofs
theorem Bf:dt Pg 18 [Bd] [p6 Bc.1 Bc.2, .int .i64 0, .int .i64 0]:=
 qV ({obm:=fun f s=> !(f==48&&(s==49||s==60)),nils2:=fun g r=>if g=18 then (if r=34 then [{k:=0,i:=16,K:=600005,sz:=4,slot:=true,obj:=true}]else [])else []}) 709297
end Go.Avm
namespace Go.Avm
open Go.Proofs
def E1:List D:=[.agg [.int .u8 2, .int .i64 0, .str [102,110], .int .i64 0], .agg [.int .u8 1, .int .i64 3, .str [109,97,105,110], .int .i64 0], .agg [.int .u8 4, .int .i64 7, .str [40], .int .i64 0], .agg [.int .u8 4, .int .i64 8, .str [41], .int .i64 0], .agg [.int .u8 4, .int .i64 9, .str [58], .int .i64 0], .agg [.int .u8 2, .int .i64 11, .str [105,110,116], .int .i64 0], .agg [.int .u8 4, .int .i64 15, .str [123], .int .i64 0], .agg [.int .u8 2, .int .i64 17, .str [108,101,116], .int .i64 0], .agg [.int .u8 1, .int .i64 21, .str [115], .int .i64 0], .agg [.int .u8 4, .int .i64 22, .str [58], .int .i64 0], .agg [.int .u8 2, .int .i64 24, .str [105,110,116], .int .i64 0], .agg [.int .u8 4, .int .i64 28, .str [61], .int .i64 0], .agg [.int .u8 3, .int .i64 30, .str [48], .int .i64 0], .agg [.int .u8 4, .int .i64 31, .str [59], .int .i64 0], .agg [.int .u8 2, .int .i64 33, .str [108,101,116], .int .i64 0], .agg [.int .u8 1, .int .i64 37, .str [105], .int .i64 0], .agg [.int .u8 4, .int .i64 38, .str [58], .int .i64 0], .agg [.int .u8 2, .int .i64 40, .str [105,110,116], .int .i64 0], .agg [.int .u8 4, .int .i64 44, .str [61], .int .i64 0], .agg [.int .u8 3, .int .i64 46, .str [49], .int .i64 1], .agg [.int .u8 4, .int .i64 47, .str [59], .int .i64 0], .agg [.int .u8 2, .int .i64 49, .str [119,104,105,108,101], .int .i64 0], .agg [.int .u8 1, .int .i64 55, .str [105], .int .i64 0], .agg [.int .u8 4, .int .i64 57, .str [60,61], .int .i64 0], .agg [.int .u8 3, .int .i64 60, .str [51], .int .i64 3], .agg [.int .u8 4, .int .i64 62, .str [123], .int .i64 0], .agg [.int .u8 1, .int .i64 64, .str [115], .int .i64 0], .agg [.int .u8 4, .int .i64 66, .str [61], .int .i64 0], .agg [.int .u8 1, .int .i64 68, .str [115], .int .i64 0], .agg [.int .u8 4, .int .i64 70, .str [43], .int .i64 0], .agg [.int .u8 1, .int .i64 72, .str [105], .int .i64 0], .agg [.int .u8 4, .int .i64 73, .str [59], .int .i64 0], .agg [.int .u8 1, .int .i64 75, .str [105], .int .i64 0], .agg [.int .u8 4, .int .i64 77, .str [61], .int .i64 0], .agg [.int .u8 1, .int .i64 79, .str [105], .int .i64 0], .agg [.int .u8 4, .int .i64 81, .str [43], .int .i64 0], .agg [.int .u8 3, .int .i64 83, .str [49], .int .i64 1], .agg [.int .u8 4, .int .i64 84, .str [59], .int .i64 0], .agg [.int .u8 4, .int .i64 86, .str [125], .int .i64 0], .agg [.int .u8 2, .int .i64 88, .str [112,114,105,110,116], .int .i64 0], .agg [.int .u8 1, .int .i64 94, .str [115], .int .i64 0], .agg [.int .u8 4, .int .i64 95, .str [59], .int .i64 0], .agg [.int .u8 2, .int .i64 97, .str [114,101,116,117,114,110], .int .i64 0], .agg [.int .u8 1, .int .i64 104, .str [115], .int .i64 0], .agg [.int .u8 4, .int .i64 105, .str [59], .int .i64 0], .agg [.int .u8 4, .int .i64 107, .str [125], .int .i64 0], .agg [.int .u8 0, .int .i64 108, .str [], .int .i64 0]]
abbrev bv(i o n:Int):List (Nat×aI):=[(500000,⟨1,some (.arr 1 [.d (.ro E1),dI i,dI o,dI n,dI 0,dI 0])⟩)]
abbrev eh:AV:= .ptr 500000 1 0 0 1
set_option maxRecDepth 100000 in
theorem Ej:HC 77 [eh,dI 1] (bv 12 1 1) [e8 (.mk 1 0 [] 0 30 [])] (bv 13 1 1):=
 ak ed named {} 2000 600000 _ 100000000 ⟨rfl,rfl,rfl,by kernel_rfl,by kernel_rfl,by kernel_rfl⟩ (fun _=>by kernel_rfl)
set_option maxRecDepth 100000 in
theorem Ek:HC 77 [eh,dI 1] (bv 19 1 2) [e8 (.mk 1 0 [] 1 46 [])] (bv 20 1 2):=
 ak ed named {} 2000 600000 _ 100000000 ⟨rfl,rfl,rfl,by kernel_rfl,by kernel_rfl,by kernel_rfl⟩ (fun _=>by kernel_rfl)
set_option maxRecDepth 100000 in
theorem El:HC 77 [eh,dI 1] (bv 22 1 3) [e8 (.mk 9 12 [] 0 57 [.mk 3 0 [105] 0 55 [], .mk 1 0 [] 3 60 []])] (bv 25 1 3):=
 ak ed named {} 2000 600000 _ 100000000 ⟨rfl,rfl,rfl,by kernel_rfl,by kernel_rfl,by kernel_rfl⟩ (fun _=>by kernel_rfl)
set_option maxRecDepth 100000 in
theorem Em:HC 77 [eh,dI 1] (bv 28 2 4) [e8 (.mk 9 1 [] 0 70 [.mk 3 0 [115] 0 68 [], .mk 3 0 [105] 0 72 []])] (bv 31 2 4):=
 ak ed named {} 2000 600000 _ 100000000 ⟨rfl,rfl,rfl,by kernel_rfl,by kernel_rfl,by kernel_rfl⟩ (fun _=>by kernel_rfl)
set_option maxRecDepth 100000 in
theorem En:HC 77 [eh,dI 1] (bv 34 2 5) [e8 (.mk 9 1 [] 0 81 [.mk 3 0 [105] 0 79 [], .mk 1 0 [] 1 83 []])] (bv 37 2 5):=
 ak ed named {} 2000 600000 _ 100000000 ⟨rfl,rfl,rfl,by kernel_rfl,by kernel_rfl,by kernel_rfl⟩ (fun _=>by kernel_rfl)
set_option maxRecDepth 100000 in
theorem Eo:HC 77 [eh,dI 1] (bv 40 1 6) [e8 (.mk 3 0 [115] 0 94 [])] (bv 41 1 6):=
 ak ed named {} 2000 600000 _ 100000000 ⟨rfl,rfl,rfl,by kernel_rfl,by kernel_rfl,by kernel_rfl⟩ (fun _=>by kernel_rfl)
set_option maxRecDepth 100000 in
theorem Ep:HC 77 [eh,dI 1] (bv 43 1 7) [e8 (.mk 3 0 [115] 0 104 [])] (bv 44 1 7):=
 ak ed named {} 2000 600000 _ 100000000 ⟨rfl,rfl,rfl,by kernel_rfl,by kernel_rfl,by kernel_rfl⟩ (fun _=>by kernel_rfl)
end Go.Avm
namespace Go.Avm
open Go.Proofs
theorem CM:HC 26 [eh] (bv 7 1 1) [.agg [.int .u8 2, .int .i64 17, .str [108,101,116], .int .i64 0]] (bv 7 1 1):=
 ak ed named {} 2000 600000 _ 100000000 ⟨rfl,rfl,rfl,by kernel_rfl,by kernel_rfl,by kernel_rfl⟩ (fun _=>by kernel_rfl)
set_option maxRecDepth 100000 in
theorem Er:HC 59 [eh] (bv 7 1 0) [oy (.mk 1 1 [115] 1 0 17 [.mk 1 0 [] 0 30 []] [] [])] (bv 14 1 1):=
 ak ed named {calls:=fun f s _=>if f=59 then (if s=115 then some (dh Ej)else if s=19 then some (aL rfl CM)else none)else none} 2000 600000 _ 100000000 ⟨rfl,rfl,rfl,by kernel_rfl,by kernel_rfl,by kernel_rfl⟩ (fun _=>by kernel_rfl)
theorem CN:HC 26 [eh] (bv 14 1 2) [.agg [.int .u8 2, .int .i64 33, .str [108,101,116], .int .i64 0]] (bv 14 1 2):=
 ak ed named {} 2000 600000 _ 100000000 ⟨rfl,rfl,rfl,by kernel_rfl,by kernel_rfl,by kernel_rfl⟩ (fun _=>by kernel_rfl)
set_option maxRecDepth 100000 in
theorem Es:HC 59 [eh] (bv 14 1 1) [oy (.mk 1 2 [105] 1 0 33 [.mk 1 0 [] 1 46 []] [] [])] (bv 21 1 2):=
 ak ed named {calls:=fun f s _=>if f=59 then (if s=115 then some (dh Ek)else if s=19 then some (aL rfl CN)else none)else none} 2000 600000 _ 100000000 ⟨rfl,rfl,rfl,by kernel_rfl,by kernel_rfl,by kernel_rfl⟩ (fun _=>by kernel_rfl)
theorem CO:HC 26 [eh] (bv 26 2 4) [.agg [.int .u8 1, .int .i64 64, .str [115], .int .i64 0]] (bv 26 2 4):=
 ak ed named {} 2000 600000 _ 100000000 ⟨rfl,rfl,rfl,by kernel_rfl,by kernel_rfl,by kernel_rfl⟩ (fun _=>by kernel_rfl)
set_option maxRecDepth 100000 in
theorem Et:HC 59 [eh] (bv 26 2 3) [oy (.mk 2 4 [115] 0 0 64 [.mk 9 1 [] 0 70 [.mk 3 0 [115] 0 68 [], .mk 3 0 [105] 0 72 []]] [] [])] (bv 32 2 4):=
 ak ed named {calls:=fun f s _=>if f=59 then (if s=32 then some (dh Em)else if s=19 then some (aL rfl CO)else none)else none} 2000 600000 _ 100000000 ⟨rfl,rfl,rfl,by kernel_rfl,by kernel_rfl,by kernel_rfl⟩ (fun _=>by kernel_rfl)
theorem CP:HC 26 [eh] (bv 32 2 5) [.agg [.int .u8 1, .int .i64 75, .str [105], .int .i64 0]] (bv 32 2 5):=
 ak ed named {} 2000 600000 _ 100000000 ⟨rfl,rfl,rfl,by kernel_rfl,by kernel_rfl,by kernel_rfl⟩ (fun _=>by kernel_rfl)
set_option maxRecDepth 100000 in
theorem Eu:HC 59 [eh] (bv 32 2 4) [oy (.mk 2 5 [105] 0 0 75 [.mk 9 1 [] 0 81 [.mk 3 0 [105] 0 79 [], .mk 1 0 [] 1 83 []]] [] [])] (bv 38 2 5):=
 ak ed named {calls:=fun f s _=>if f=59 then (if s=32 then some (dh En)else if s=19 then some (aL rfl CP)else none)else none} 2000 600000 _ 100000000 ⟨rfl,rfl,rfl,by kernel_rfl,by kernel_rfl,by kernel_rfl⟩ (fun _=>by kernel_rfl)
theorem CQ:HC 26 [eh] (bv 39 1 6) [.agg [.int .u8 2, .int .i64 88, .str [112,114,105,110,116], .int .i64 0]] (bv 39 1 6):=
 ak ed named {} 2000 600000 _ 100000000 ⟨rfl,rfl,rfl,by kernel_rfl,by kernel_rfl,by kernel_rfl⟩ (fun _=>by kernel_rfl)
set_option maxRecDepth 100000 in
theorem Ev:HC 59 [eh] (bv 39 1 5) [oy (.mk 7 6 [] 0 0 88 [.mk 3 0 [115] 0 94 []] [] [])] (bv 42 1 6):=
 ak ed named {calls:=fun f s _=>if f=59 then (if s=177 then some (dh Eo)else if s=19 then some (aL rfl CQ)else none)else none} 2000 600000 _ 100000000 ⟨rfl,rfl,rfl,by kernel_rfl,by kernel_rfl,by kernel_rfl⟩ (fun _=>by kernel_rfl)
theorem CR:HC 26 [eh] (bv 42 1 7) [.agg [.int .u8 2, .int .i64 97, .str [114,101,116,117,114,110], .int .i64 0]] (bv 42 1 7):=
 ak ed named {} 2000 600000 _ 100000000 ⟨rfl,rfl,rfl,by kernel_rfl,by kernel_rfl,by kernel_rfl⟩ (fun _=>by kernel_rfl)
set_option maxRecDepth 100000 in
theorem Ew:HC 59 [eh] (bv 42 1 6) [oy (.mk 6 7 [] 0 0 97 [.mk 3 0 [115] 0 104 []] [] [])] (bv 45 1 7):=
 ak ed named {calls:=fun f s _=>if f=59 then (if s=164 then some (dh Ep)else if s=19 then some (aL rfl CR)else none)else none} 2000 600000 _ 100000000 ⟨rfl,rfl,rfl,by kernel_rfl,by kernel_rfl,by kernel_rfl⟩ (fun _=>by kernel_rfl)
end Go.Avm
namespace Go.Avm
open Go.Proofs
set_option maxRecDepth 100000 in
theorem Bg:dt Pg 25 [.str Dp] [.ro E1, .int .i64 0, .int .i64 0]:=
 dP ed named (fun _ _=>false) (fun _=>false) .none 3000 (by kernel_rfl)
theorem CT:HC 26 [eh] (bv 21 1 3) [.agg [.int .u8 2, .int .i64 49, .str [119,104,105,108,101], .int .i64 0]] (bv 21 1 3):=
 ak ed named {} 2000 600000 _ 100000000 ⟨rfl,rfl,rfl,by kernel_rfl,by kernel_rfl,by kernel_rfl⟩ (fun _=>by kernel_rfl)
theorem Ey:HC 46 [eh] (bv 25 1 3) [.ro (cZ [.mk 2 4 [115] 0 0 64 [.mk 9 1 [] 0 70 [.mk 3 0 [115] 0 68 [], .mk 3 0 [105] 0 72 []]] [] [], .mk 2 5 [105] 0 0 75 [.mk 9 1 [] 0 81 [.mk 3 0 [105] 0 79 [], .mk 1 0 [] 1 83 []]] [] []])] (bv 39 1 5):=
 ak ed named {calls:=tC [(46,18,604282,dh Et),(46,18,605271,dh Eu)]} 2000 600000 _ 100000000 ⟨rfl,rfl,rfl,by kernel_rfl,by kernel_rfl,by kernel_rfl⟩ (fun _=>by kernel_rfl)
theorem Ez:HC 59 [eh] (bv 21 1 2) [oy (.mk 5 3 [] 0 0 49 [.mk 9 12 [] 0 57 [.mk 3 0 [105] 0 55 [], .mk 1 0 [] 3 60 []]] [.mk 2 4 [115] 0 0 64 [.mk 9 1 [] 0 70 [.mk 3 0 [115] 0 68 [], .mk 3 0 [105] 0 72 []]] [] [], .mk 2 5 [105] 0 0 75 [.mk 9 1 [] 0 81 [.mk 3 0 [105] 0 79 [], .mk 1 0 [] 1 83 []]] [] []] [])] (bv 39 1 5):=
 ak ed named {calls:=tC [(59,19,602576,aL rfl CT),(59,147,610208,dh El),(59,152,611128,dh Ey)]} 2000 600000 _ 100000000 ⟨rfl,rfl,rfl,by kernel_rfl,by kernel_rfl,by kernel_rfl⟩ (fun _=>by kernel_rfl)
theorem EA:HC 46 [eh] (bv 6 0 0) [.ro (cZ [.mk 1 1 [115] 1 0 17 [.mk 1 0 [] 0 30 []] [] [], .mk 1 2 [105] 1 0 33 [.mk 1 0 [] 1 46 []] [] [], .mk 5 3 [] 0 0 49 [.mk 9 12 [] 0 57 [.mk 3 0 [105] 0 55 [], .mk 1 0 [] 3 60 []]] [.mk 2 4 [115] 0 0 64 [.mk 9 1 [] 0 70 [.mk 3 0 [115] 0 68 [], .mk 3 0 [105] 0 72 []]] [] [], .mk 2 5 [105] 0 0 75 [.mk 9 1 [] 0 81 [.mk 3 0 [105] 0 79 [], .mk 1 0 [] 1 83 []]] [] []] [], .mk 7 6 [] 0 0 88 [.mk 3 0 [115] 0 94 []] [] [], .mk 6 7 [] 0 0 97 [.mk 3 0 [115] 0 104 []] [] []])] (bv 46 0 7):=
 ak ed named {calls:=tC [(46,18,604304,dh Er),(46,18,605315,dh Es),(46,18,606326,dh Ez),(46,18,607337,dh Ev),(46,18,608348,dh Ew)]} 2000 600000 _ 100000000 ⟨rfl,rfl,rfl,by kernel_rfl,by kernel_rfl,by kernel_rfl⟩ (fun _=>by kernel_rfl)
theorem EB:HC 27 [eh] (bv 0 0 0) [.agg [.str [109,97,105,110], .ro [], .int .u8 1, .ro (cZ [.mk 1 1 [115] 1 0 17 [.mk 1 0 [] 0 30 []] [] [], .mk 1 2 [105] 1 0 33 [.mk 1 0 [] 1 46 []] [] [], .mk 5 3 [] 0 0 49 [.mk 9 12 [] 0 57 [.mk 3 0 [105] 0 55 [], .mk 1 0 [] 3 60 []]] [.mk 2 4 [115] 0 0 64 [.mk 9 1 [] 0 70 [.mk 3 0 [115] 0 68 [], .mk 3 0 [105] 0 72 []]] [] [], .mk 2 5 [105] 0 0 75 [.mk 9 1 [] 0 81 [.mk 3 0 [105] 0 79 [], .mk 1 0 [] 1 83 []]] [] []] [], .mk 7 6 [] 0 0 88 [.mk 3 0 [115] 0 94 []] [] [], .mk 6 7 [] 0 0 97 [.mk 3 0 [115] 0 104 []] [] []]), .int .i64 0]] (bv 46 0 7):=
 ak ed named {calls:=tC [(27,56,618581,dh EA)]} 2000 600000 _ 100000000 ⟨rfl,rfl,rfl,by kernel_rfl,by kernel_rfl,by kernel_rfl⟩ (fun _=>by kernel_rfl)
theorem wR:dt Pg 17 [.str Dp] [Bd, .int .i64 0, .int .i64 0]:=
 qV {hint:=qT 17 [(13, .call 25 _ _ Bg)],calls:=tC [(17,42,501013,dh EB)]} 499061
end Go.Avm
namespace Go.Avm
open Go.Proofs
set_option maxRecDepth 100000 in
theorem wS:dt Pg 19 [.str Dp, .int .i64 2000] [.bool false]:=
 dP ed named (fun _ _=>false) (fun _=>false) .none 3000 (by kernel_rfl)
theorem Bh:dt Pg 9 [.str Dp] [Bd, .bool true]:=
 qV {hint:=qT 9 [(16, .call 17 _ _ wR),(25, .call 18 _ _ Bf),(38, .call 19 _ _ wS)]} 709297
theorem aG:dt Pg 8 [] [.bool true]:=
 qV {hint:=qT 8 [(9, .call 9 _ _ Bh),(14, .call 10 _ _ CL),(19, .call 16 _ _ wN)]} 709297
end Go.Avm
namespace Go.Avm
open Go.Proofs
theorem Bi(a:Int):IntKind.i64.wrap (((BitVec.ofInt 64 (-1)^^^BitVec.ofInt 64 a).toNat:Nat):Int)=IntKind.i64.wrap (-1-a):=by
 have h:(BitVec.ofInt 64 (-1)^^^BitVec.ofInt 64 a).toNat=18446744073709551615-(a % 18446744073709551616).toNat:=by
  rw[show BitVec.ofInt 64 (-1)=BitVec.allOnes 64 from by decide,BitVec.allOnes_xor,BitVec.toNat_not,BitVec.toNat_ofInt];rfl
 rw[h,IntKind.wrap_i64,IntKind.wrap_i64];omega
theorem vz{a b:Int}(g: -9223372036854775808≤b∧b≤9223372036854775807)(f:b≠0):a.tmod b=IntKind.i64.wrap (a-IntKind.i64.wrap (IntKind.i64.wrap (a.tdiv b)*b)):=by
 have e:(a.tmod b).natAbs<b.natAbs:=by
  rw[Int.natAbs_tmod];exact Nat.mod_lt _ (by omega)
 have h2:a.tmod b=a-a.tdiv b*b:=by rw[Int.tmod_def,Int.mul_comm]
 generalize d:a.tdiv b=q at h2 ⊢;have c:IntKind.i64.wrap q=q-18446744073709551616*((q+9223372036854775808)/18446744073709551616):=by rw[IntKind.wrap_i64];omega
 rw[c,Int.sub_mul];generalize (q+9223372036854775808)/18446744073709551616=k;rw[show 18446744073709551616*k*b=18446744073709551616*(k*b)from Int.mul_assoc ..];generalize k*b=t at*;generalize q*b=p at*;rw[IntKind.wrap_i64,IntKind.wrap_i64];omega
theorem p7(b:Int):IntKind.i64.wrap (((BitVec.ofInt 64 b&&&BitVec.ofInt 64 63).toNat:Nat):Int)=(((b % 64).toNat:Nat):Int):=by
 have h:(BitVec.ofInt 64 b&&&BitVec.ofInt 64 63).toNat=(b % 64).toNat:=by
  rw[BitVec.toNat_and,BitVec.toNat_ofInt,show(BitVec.ofInt 64 63).toNat=2^6-1 from by decide,Nat.and_two_pow_sub_one_eq_mod];omega
 rw[h,IntKind.wrap_i64];omega
theorem p8(b:Int):Int.tmod (IntKind.u64.wrap b) 64=(((b % 64).toNat:Nat):Int):=by
 have h:IntKind.u64.wrap b=b % 18446744073709551616:=by simp[IntKind.wrap,IntKind.bits,IntKind.signed]
 rw[h,Int.tmod_eq_emod_of_nonneg (by omega)];omega
theorem vB(b:Int):IntKind.u64.wrap (((b % 64).toNat:Nat):Int)=(((b % 64).toNat:Nat):Int):=by
 simp only[IntKind.wrap,IntKind.bits,IntKind.signed];simp;omega
abbrev fJ(op:Int)(a b:Int):Prop:=dt Pg 4 [.int .u8 op, .int .i64 a, .int .i64 b] [.bool true]
def fN(P:Program)(x:Int):bj P:=hB P (x==x) true (by simp)
section
variable(a b:Int)
theorem CU:fJ 1 a b:=
 qV {hint:=qT 4 [(25, .call 8 _ _ aG),(29,fN Pg (IntKind.i64.wrap (a+b)))]} 709297
theorem CV:fJ 2 a b:=
 qV {hint:=qT 4 [(25, .call 8 _ _ aG),(29,fN Pg (IntKind.i64.wrap (a-b)))]} 709297
theorem CW:fJ 3 a b:=
 qV {hint:=qT 4 [(25, .call 8 _ _ aG),(29,fN Pg (IntKind.i64.wrap (a*b)))]} 709297
theorem CX:fJ 6 a b:=
 qV {hint:=qT 4 [(25, .call 8 _ _ aG),(29,fN Pg (IntKind.i64.wrap (((BitVec.ofInt IntKind.i64.bits a&&&BitVec.ofInt IntKind.i64.bits b).toNat:Nat))))]} 709297
theorem EC:fJ 7 a b:=
 qV {hint:=qT 4 [(25, .call 8 _ _ aG),(29,fN Pg (IntKind.i64.wrap (((BitVec.ofInt IntKind.i64.bits a|||BitVec.ofInt IntKind.i64.bits b).toNat:Nat))))]} 709297
theorem CY:fJ 8 a b:=
 qV {hint:=qT 4 [(25, .call 8 _ _ aG),(29,fN Pg (IntKind.i64.wrap (((BitVec.ofInt IntKind.i64.bits a^^^BitVec.ofInt IntKind.i64.bits b).toNat:Nat))))]} 709297
theorem CZ(h:decide (a<b)=true):fJ 11 a b:=
 qV {hint:=tH [(14,66,qB h),(15,90,qB h),(4,25, .call 8 _ _ aG)]} 709297
theorem C0(h:decide (a<b)=false):fJ 11 a b:=
 qV {hint:=tH [(14,66,qB h),(15,90,qB h),(4,25, .call 8 _ _ aG)]} 709297
theorem C1(h:decide (a≤b)=true):fJ 12 a b:=
 qV {hint:=tH [(14,72,qB h),(15,95,qB h),(4,25, .call 8 _ _ aG)]} 709297
theorem C2(h:decide (a≤b)=false):fJ 12 a b:=
 qV {hint:=tH [(14,72,qB h),(15,95,qB h),(4,25, .call 8 _ _ aG)]} 709297
theorem C3(h:decide (a>b)=true):fJ 13 a b:=
 qV {hint:=tH [(14,78,qB h),(15,100,qB h),(4,25, .call 8 _ _ aG)]} 709297
theorem C4(h:decide (a>b)=false):fJ 13 a b:=
 qV {hint:=tH [(14,78,qB h),(15,100,qB h),(4,25, .call 8 _ _ aG)]} 709297
theorem C5(h:decide (a≥b)=true):fJ 14 a b:=
 qV {hint:=tH [(14,84,qB h),(15,105,qB h),(4,25, .call 8 _ _ aG)]} 709297
theorem C6(h:decide (a≥b)=false):fJ 14 a b:=
 qV {hint:=tH [(14,84,qB h),(15,105,qB h),(4,25, .call 8 _ _ aG)]} 709297
theorem C7(h:(a==b)=true):fJ 15 a b:=
 qV {hint:=tH [(14,90,qB h),(15,110,qB h),(4,25, .call 8 _ _ aG)]} 709297
theorem C8(h:(a==b)=false):fJ 15 a b:=
 qV {hint:=tH [(14,90,qB h),(15,110,qB h),(4,25, .call 8 _ _ aG)]} 709297
theorem C9(h:(a !=b)=true):fJ 16 a b:=
 qV {hint:=tH [(14,96,qB h),(15,115,qB h),(4,25, .call 8 _ _ aG)]} 709297
theorem Da(h:(a !=b)=false):fJ 16 a b:=
 qV {hint:=tH [(14,96,qB h),(15,115,qB h),(4,25, .call 8 _ _ aG)]} 709297
theorem wT(h:(a==0)=true):fJ 21 a b:=
 qV {hint:=tH [(14,109,qB h),(15,119,qB h),(4,25, .call 8 _ _ aG)]} 709297
theorem wU(h:(a==0)=false):fJ 21 a b:=
 qV {hint:=tH [(14,109,qB h),(15,119,qB h),(4,25, .call 8 _ _ aG)]} 709297
theorem Db:fJ 19 a b:=
 qV {hint:=qT 4 [(25, .call 8 _ _ aG),(29,fN Pg (IntKind.i64.wrap (0-a)))]} 709297
theorem Dc:fJ 20 a b:=
 qV {hint:=qT 4 [(25, .call 8 _ _ aG),(29,hB Pg (IntKind.i64.wrap (((BitVec.ofInt 64 (-1)^^^BitVec.ofInt 64 a).toNat:Nat))==IntKind.i64.wrap (-1-a)) true (by rw[Bi];simp))]} 709297
theorem Bj:fJ 4 a 0:=
 qV {hint:=qT 4 [(25, .call 8 _ _ aG)]} 709297
theorem Bk:fJ 5 a 0:=
 qV {hint:=qT 4 [(25, .call 8 _ _ aG)]} 709297
theorem Bl:fJ 4 a (-1):=
 qV {hint:=qT 4 [(25, .call 8 _ _ aG),(29,fN Pg (IntKind.i64.wrap (0-a)))]} 709297
theorem Bn:fJ 5 a (-1):=
 qV {hint:=qT 4 [(25, .call 8 _ _ aG)]} 709297
theorem Bo(n:Nat):fJ 4 a ((n+1:Nat):Int):=
 qV {hint:=qT 4 [(25, .call 8 _ _ aG),(29,fN Pg (IntKind.i64.wrap (a.tdiv ((n+1:Nat):Int))))]} 709297
theorem Bp(n:Nat)(c: -9223372036854775808≤((n+1:Nat):Int)∧((n+1:Nat):Int)≤9223372036854775807):fJ 5 a ((n+1:Nat):Int):=
 qV {hint:=qT 4 [(25, .call 8 _ _ aG),(29,hB Pg (a.tmod ((n+1:Nat):Int)==IntKind.i64.wrap (a-IntKind.i64.wrap (IntKind.i64.wrap (a.tdiv ((n+1:Nat):Int))*((n+1:Nat):Int)))) true (by rw[←vz c (by omega)];simp))]} 709297
theorem Bq(n:Nat):fJ 4 a (Int.negSucc (n+1)):=
 qV {hint:=qT 4 [(25, .call 8 _ _ aG),(29,fN Pg (IntKind.i64.wrap (a.tdiv (Int.negSucc (n+1)))))]} 709297
theorem Br(n:Nat)(c: -9223372036854775808≤(Int.negSucc (n+1))∧(Int.negSucc (n+1))≤9223372036854775807):fJ 5 a (Int.negSucc (n+1)):=
 qV {hint:=qT 4 [(25, .call 8 _ _ aG),(29,hB Pg (a.tmod (Int.negSucc (n+1))==IntKind.i64.wrap (a-IntKind.i64.wrap (IntKind.i64.wrap (a.tdiv (Int.negSucc (n+1)))*(Int.negSucc (n+1))))) true (by rw[←vz c (by simp)];simp))]} 709297
theorem Dd:fJ 9 a b:=
 qV {hint:=tH [(14,53, .val (.d (.int .u64 (Int.tmod (IntKind.u64.wrap b) 64))) (.d (.int .u64 (((b % 64).toNat:Nat):Int))) (by rw[p8])),(15,68, .val (.d (.int .i64 (IntKind.i64.wrap (((BitVec.ofInt 64 b&&&BitVec.ofInt 64 63).toNat:Nat))))) (.d (.int .i64 (((b % 64).toNat:Nat):Int))) (by rw[p7])),(15,69, .val (.d (.int .u64 (IntKind.u64.wrap (((b % 64).toNat:Nat):Int)))) (.d (.int .u64 (((b % 64).toNat:Nat):Int))) (by rw[vB])),(4,25, .call 8 _ _ aG),(4,29,fN Pg (IntKind.i64.wrap (a*2^(min (b % 64).toNat 64))))]} 709297
theorem De:fJ 10 a b:=
 qV {hint:=tH [(14,60, .val (.d (.int .u64 (Int.tmod (IntKind.u64.wrap b) 64))) (.d (.int .u64 (((b % 64).toNat:Nat):Int))) (by rw[p8])),(15,75, .val (.d (.int .i64 (IntKind.i64.wrap (((BitVec.ofInt 64 b&&&BitVec.ofInt 64 63).toNat:Nat))))) (.d (.int .i64 (((b % 64).toNat:Nat):Int))) (by rw[p7])),(15,76, .val (.d (.int .u64 (IntKind.u64.wrap (((b % 64).toNat:Nat):Int)))) (.d (.int .u64 (((b % 64).toNat:Nat):Int))) (by rw[vB])),(4,25, .call 8 _ _ aG),(4,29,fN Pg (a.fdiv (2^(min (b % 64).toNat 64))))]} 709297
variable(op:Int)
theorem Df(o:(op==1)=false)(h2:(op==2)=false)(m:(op==3)=false)(q:(op==4)=false)(t:(op==5)=false)(r:(op==6)=false)(p:(op==7)=false)(n:(op==8)=false)(s:(op==9)=false)(g:(op==10)=false)(i:(op==11)=false)(l:(op==12)=false)(h:(op==13)=false)(k:(op==14)=false)(j:(op==15)=false)(f:(op==16)=false)(e:(op==19)=false)(d:(op==20)=false)(c:(op==21)=false):fJ op a b:=
 qV {hint:=tH [(14,10,qB o),(14,15,qB h2),(14,20,qB m),(14,25,qB q),(14,26,qB t),(14,34,qB r),(14,39,qB p),(14,44,qB n),(14,49,qB s),(14,56,qB g),(14,63,qB i),(14,69,qB l),(14,75,qB h),(14,81,qB k),(14,87,qB j),(14,93,qB f),(14,99,qB e),(14,103,qB d),(14,107,qB c),(15,11,qB o),(15,16,qB h2),(15,21,qB m),(15,26,qB q),(15,37,qB t),(15,50,qB r),(15,55,qB p),(15,60,qB n),(15,65,qB s),(15,72,qB g),(15,79,qB e),(15,83,qB d),(15,87,qB i),(15,92,qB l),(15,97,qB h),(15,102,qB k),(15,107,qB j),(15,112,qB f),(15,117,qB c),(4,25, .call 8 _ _ aG)]} 709297
end
end Go.Avm
namespace Go.Avm
open Go.Proofs
theorem ED(a:Int):∀b:Int,fJ 4 a b
 | .ofNat 0=>Bj a
 | .ofNat (n+1)=>Bo a n
 | .negSucc 0=>Bl a
 | .negSucc (n+1)=>Bq a n
theorem EE(a b:Int)(c: -9223372036854775808≤b∧b≤9223372036854775807):fJ 5 a b:=by
 by_cases e:b=0
 ·subst e;exact Bk a
 by_cases d:b= -1
 ·subst d;exact Bn a
 by_cases h2:0<b
 ·obtain⟨n,rfl⟩:∃n:Nat,b=((n+1:Nat):Int):=⟨(b-1).toNat,by omega⟩
  exact Bp a n c
 ·obtain⟨n,rfl⟩:∃n:Nat,b=Int.negSucc (n+1):=⟨(-b-2).toNat,by rw[Int.negSucc_eq];omega⟩
  exact Br a n c
theorem rz(op a b:Int)(y: -9223372036854775808≤b∧b≤9223372036854775807):fJ op a b:=by
 have d:∀{c:Bool}{k:Int},(c=true→fJ k a b)→(c=false→fJ k a b)→fJ k a b:=fun {c} {k} q h2=>by
  cases h:c with
  |true=>exact q h
  |false=>exact h2 h
 by_cases q:op=1
 ·subst q;exact CU a b
 by_cases h2:op=2
 ·subst h2;exact CV a b
 by_cases r:op=3
 ·subst r;exact CW a b
 by_cases s:op=4
 ·subst s
  exact ED a b
 by_cases x:op=5
 ·subst x
  exact EE a b y
 by_cases w:op=6
 ·subst w;exact CX a b
 by_cases v:op=7
 ·subst v;exact EC a b
 by_cases u:op=8
 ·subst u;exact CY a b
 by_cases t:op=9
 ·subst t;exact Dd a b
 by_cases o:op=10
 ·subst o;exact De a b
 by_cases g:op=11
 ·subst g;exact d (CZ a b) (C0 a b)
 by_cases m:op=12
 ·subst m;exact d (C1 a b) (C2 a b)
 by_cases l:op=13
 ·subst l;exact d (C3 a b) (C4 a b)
 by_cases i:op=14
 ·subst i;exact d (C5 a b) (C6 a b)
 by_cases p:op=15
 ·subst p;exact d (C7 a b) (C8 a b)
 by_cases n:op=16
 ·subst n;exact d (C9 a b) (Da a b)
 by_cases j:op=19
 ·subst j;exact Db a b
 by_cases f:op=20
 ·subst f;exact Dc a b
 by_cases e:op=21
 ·subst e;exact d (wT a b) (wU a b)
 exact Df a b op (beq_eq_false_iff_ne.2 q) (beq_eq_false_iff_ne.2 h2) (beq_eq_false_iff_ne.2 r) (beq_eq_false_iff_ne.2 s) (beq_eq_false_iff_ne.2 x) (beq_eq_false_iff_ne.2 w) (beq_eq_false_iff_ne.2 v) (beq_eq_false_iff_ne.2 u) (beq_eq_false_iff_ne.2 t) (beq_eq_false_iff_ne.2 o) (beq_eq_false_iff_ne.2 g) (beq_eq_false_iff_ne.2 m) (beq_eq_false_iff_ne.2 l) (beq_eq_false_iff_ne.2 i) (beq_eq_false_iff_ne.2 p) (beq_eq_false_iff_ne.2 n) (beq_eq_false_iff_ne.2 j) (beq_eq_false_iff_ne.2 f) (beq_eq_false_iff_ne.2 e)
end Go.Avm
