/-
  Types: a statement, whatever it says; all statements.
-/
import Derived.Test.YtcjiafanhlhdlaaGreatDoorG10
import Derived.Test.YtcjiafanhlhdlaaGreatDoorG09
import Derived.Test.YtcjiafanhlhdlaaGreatDoorG07
set_option linter.unusedVariables false
set_option linter.unusedSimpArgs false
set_option linter.unusedSectionVars false
namespace Go.Avm
open Go.Proofs
theorem cF{S:CK}(h:CKok S)(x:Pt)(hp:S.c.pts.length<900000000):CKok (S.ptd x) where
 fn:=h.fn
 W:=h.W
 dat:=h.dat
 len:=h.len
 par:=h.par
 vars:=h.vars
 seen:=h.seen
 inc:=h.inc
 nms:=h.nms
 nml:=h.nml
 had:=h.had
 sk:=h.sk
 sb:=h.sb
 sc:=h.sc
 sv:=h.sv
 pts:=by simp only[CK.ptd,xK,xG,xS];omega
theorem g0{S:CK}(h:CKok S)(hp:S.c.pts.length<900000000):Nx S S.at1 {S.c with pts:=S.c.pts ++[S.c.pt S.fn]}:=⟨cF h _ hp,rfl,rfl,rfl,rfl,rfl,yp _⟩
structure UJ(P:Pl)(bd el:List aP):Prop where
 ib:∀S,At P S→TC S 110 [aI, .d (.ro (cg bd))] (eM P.in bd S.c)
 ie:∀S,At P S→TC S 110 [aI, .d (.ro (cg el))] (eM P.in el S.c)
 eb:ms bd
 ee:ms el
theorem TC.from{S S1:CK}{c1:CS}{f b:Nat}{args a:List AV}{r:TR CS}(i:Nx S S1 c1)(t:TC S1 f args r)(ok:∀S',CKok S'→(HC f args (ck S1) [] (ck S'))→HC b a (ck S) [] (ck S'))
    (bad:∀g p e,(HX f args (ck S1) (aD p e) (cv g))→HX b a (ck S) (aD p e) (cv g)):TC S b a r:=by
 cases r with
 |out=>trivial
 |bad p e=>
  obtain⟨g,c⟩:=t;exact⟨g,bad g p e c⟩
 |ok c=>
  obtain⟨S',d,h⟩:=t;exact⟨S',i.trans d,ok S' d.ok h⟩
section
variable{P:Pl}{S:CK}(a:At P S)(hp:S.c.pts.length<900000000)(nm:List UInt8)(ty n p:Int)(es:List Ex)(bd d:List aP)
include a hp
theorem mt{f:Nat}{args:List AV}{p e:Int}(h:HX f args (ck S) (aD p e) (hV S)):Nv S f args p e:=by
 rw[cV]at h;exact hQ h
theorem zX{f:Nat}{args:List AV}(h:HC f args (ck S) [] (hV S)):TC S f args (.ok {S.c with pts:=S.c.pts ++[S.c.pt S.fn]}):=by
 rw[cV]at h;exact⟨S.at1,g0 a.ok hp,h⟩
abbrev c1(S:CK):CS:={S.c with pts:=S.c.pts ++[S.c.pt S.fn]}
theorem XN:TC S 76 [aI,eG 1 (S.c.pts.length:Int) nm ty n p es bd d] (tf P.fs P.deep nm (S.c.pts.length:Int) ty n p es (c1 S)):=by
 have t:=Uq (g0 a.ok hp).ok 1 (S.c.pts.length:Int) nm ty n p es bd d;have e:S.at1.fs=P.fs:=a.fs;have b:S.at1.deep=P.deep:=a.deep;rw[e,b]at t;exact TC.from (g0 a.ok hp) t (fun S' h' c=>Rg a.ok (cF a.ok dz hp) nm ty n p es bd d h' c) (fun g q r c=>NS a.ok (cF a.ok dz hp) nm ty n p es bd d g q r c)
theorem XO(x:UJ P bd d):TC S 76 [aI,eG 4 (S.c.pts.length:Int) nm ty n p es bd d] (se P es bd d (c1 S)):=by
 have t:=JV x.ib x.ie x.eb x.ee 4 (S.c.pts.length:Int) nm ty n p es S.at1 (a.nx (g0 a.ok hp));exact TC.from (g0 a.ok hp) t (fun S' h' c=>Rh a.ok (cF a.ok dz hp) nm ty n p es bd d h' c) (fun g q r c=>NT a.ok (cF a.ok dz hp) nm ty n p es bd d g q r c)
theorem XP:TC S 76 [aI,eG 6 (S.c.pts.length:Int) nm ty n p es bd d] (mo P.fs P.fn p es (c1 S)):=by
 have b:=g0 a.ok hp;have t:=QU b.ok 6 (S.c.pts.length:Int) nm ty n p es bd d;have f:S.at1.fs=P.fs:=a.fs;have e:S.at1.fn=P.fn:=a.fn;rw[f,e]at t;have g:S.at1.c=c1 S:=rfl;rw[g]at t;revert t;cases mo P.fs P.fn p es (c1 S)with
 |out=>exact fun _=>trivial
 |bad q r=>exact fun t=>mt a hp (NU a.ok (cF a.ok dz hp) nm ty n p es bd d b.ok q r t)
 |ok c=>
  rintro⟨rfl,t⟩;exact zX a hp (Ri a.ok (cF a.ok dz hp) nm ty n p es bd d b.ok t)
theorem XQ:TC S 76 [aI,eG 7 (S.c.pts.length:Int) nm ty n p es bd d] ((ay ((c1 S).te P.fs) es [[1,2]] false).bind fun _=> .ok (c1 S)):=by
 have j:=g0 a.ok hp;match es with
 |[]=>simp only[ay];trivial
 | .mk h g b f i e::zs=>
  have t:=XE j.ok (.mk h g b f i e) 1 2;unfold WX at t;have k:S.at1.c.te S.at1.fs=(c1 S).te P.fs:=by rw[show S.at1.fs=P.fs from a.fs];rfl
  rw[k]at t;rw[bC];revert t;cases ch ((c1 S).te P.fs) (.mk h g b f i e) [1,2]with
  |out=>exact fun _=>trivial
  |bad q r=>exact fun t=>mt a hp (NV a.ok (cF a.ok dz hp) nm ty n p h g b f i e zs bd d j.ok q r t)
  |ok u=>
   intro t;simp only[TR.bind,xP,er];exact zX a hp (Rj a.ok (cF a.ok dz hp) nm ty n p h g b f i e zs bd d j.ok u t)
theorem XT:TC S 76 [aI,eG 8 (S.c.pts.length:Int) nm ty n p es bd d] (match es with|[]=> .out|x::_=>(dc ((c1 S).te P.fs) x).bind fun _=> .ok (c1 S)):=by
 have j:=g0 a.ok hp;match es with
 |[]=>trivial
 | .mk h g b f i e::zs=>
  have t:=TP j.ok (.mk h g b f i e);have k:S.at1.c.te S.at1.fs=(c1 S).te P.fs:=by rw[show S.at1.fs=P.fs from a.fs];rfl
  rw[k]at t;simp only;revert t;cases dc ((c1 S).te P.fs) (.mk h g b f i e)with
  |out=>exact fun _=>trivial
  |bad q r=>exact fun t=>mt a hp (NW a.ok (cF a.ok dz hp) nm ty n p h g b f i e zs bd d j.ok q r t)
  |ok u=>
   intro t;exact zX a hp (Rk a.ok (cF a.ok dz hp) nm ty n p h g b f i e zs bd d j.ok u t)
theorem XU:TC S 76 [aI,eG 3 (S.c.pts.length:Int) nm ty n p es bd d] ((nG ((c1 S).te P.fs) nm p).bind fun _=>(ay ((c1 S).te P.fs) es [[1],[1]] false).bind fun _=> .ok (c1 S)):=by
 have j:=g0 a.ok hp;have x:S.at1.c.te S.at1.fs=(c1 S).te P.fs:=by rw[show S.at1.fs=P.fs from a.fs];rfl
 have h:=MW j.ok nm p;rw[x]at h;revert h;cases nG ((c1 S).te P.fs) nm p with
 |out=>exact fun _=>trivial
 |bad q r=>exact fun h=>mt a hp (UB a.ok (cF a.ok dz hp) nm ty n p es bd d j.ok q r h)
 |ok _=>
  intro h;simp only[TR.bind];match es with
  |[]=>simp only[ay];trivial
  | .mk m k b f l e::zs=>
   have t:=Ng j.ok (.mk m k b f l e) 1;unfold WX at t;rw[x]at t;rw[bC];revert t;cases ch ((c1 S).te P.fs) (.mk m k b f l e) [1]with
   |out=>exact fun _=>trivial
   |bad q r=>exact fun t=>mt a hp (UC a.ok (cF a.ok dz hp) nm ty n p m k b f l e zs bd d j.ok h q r t)
   |ok u=>
    intro t;simp only[TR.bind,xP];match zs with
    |[]=>simp only[ay];trivial
    | .mk s w g v o bl::zs=>
     have i:=Ng j.ok (.mk s w g v o bl) 1;unfold WX at i;rw[x]at i;rw[bC];revert i;cases ch ((c1 S).te P.fs) (.mk s w g v o bl) [1]with
     |out=>exact fun _=>trivial
     |bad q r=>exact fun i=>mt a hp (UD a.ok (cF a.ok dz hp) nm ty n p m k b f l e s w g v o bl zs bd d j.ok h u t q r i)
     |ok y=>
      intro i;simp only[TR.bind,xP,er];exact zX a hp (Rm a.ok (cF a.ok dz hp) nm ty n p m k b f l e s w g v o bl zs bd d j.ok h u t y i)
theorem XV:TC S 76 [aI,eG 2 (S.c.pts.length:Int) nm ty n p es bd d] ((lV ((c1 S).te P.fs) nm p).bind fun r=>bif r.2.ty==3 then .bad p 8 else (ay ((c1 S).te P.fs) es [[r.2.ty]] false).bind fun _=> .ok {c1 S with sure:=(c1 S).sure.put r.1}):=by
 have m:=g0 a.ok hp;have B:S.at1.c.te S.at1.fs=(c1 S).te P.fs:=by rw[show S.at1.fs=P.fs from a.fs];rfl
 have k:=MU m.ok nm p;rw[B]at k
 have e:∀r,lV ((c1 S).te P.fs) nm p= .ok r→r.1<S.c.vars.length:=fun r x=>by
  unfold lV at x;cases z:ct nm ((c1 S).te P.fs).seen 0 with
  |none=>rw[z]at x;cases x
  |some q=>
   rw[z]at x;cases x;exact a.ok.seen _ (oK z)
 revert k e;cases lV ((c1 S).te P.fs) nm p with
 |out=>exact fun _ _=>trivial
 |bad q r=>exact fun k _=>mt a hp (UE a.ok (cF a.ok dz hp) nm ty n p es bd d m.ok q r k)
 |ok C=>
  obtain⟨i,v⟩:=C;intro k e;have e:=e _ rfl;simp only[TR.bind];cases A:(v.ty==3)with
  |true=>
   have f:(v.ty !=3)=false:=by simp[bne,A]
   exact mt a hp (UF a.ok (cF a.ok dz hp) nm ty n p es bd d m.ok i v k f)
  |false=>
   have f:(v.ty !=3)=true:=by simp[bne,A]
   simp only[xP];match es with
   |[]=>simp only[ay];trivial
   | .mk s o b h w g::zs=>
    have t:=Ng m.ok (.mk s o b h w g) v.ty;unfold WX at t;rw[B]at t;rw[bC];revert t;cases ch ((c1 S).te P.fs) (.mk s o b h w g) [v.ty]with
    |out=>exact fun _=>trivial
    |bad q r=>exact fun t=>mt a hp (UG a.ok (cF a.ok dz hp) nm ty n p s o b h w g zs bd d m.ok i v k f q r t)
    |ok u=>
     intro t;simp only[TR.bind,xP,er];have h2:=vu m.ok i e;refine⟨S.at1.put i,⟨h2,rfl,rfl,rfl,rfl,rfl,yp _⟩, ?_⟩;cases y:bQ i S.c.sure.l 0 with
     |none=>
      rw[←Db S y];exact NX a.ok (cF a.ok dz hp) nm ty n p s o b h w g zs bd d m.ok i v k f u t y h2
     |some j=>
      rw[←Dc S y];exact NY a.ok (cF a.ok dz hp) nm ty n p s o b h w g zs bd d m.ok i v k f u t j y h2
theorem XW(x:UJ P bd d):TC S 76 [aI,eG 5 (S.c.pts.length:Int) nm ty n p es bd d] ((ay ((c1 S).te P.fs) es [[2]] false).bind fun _=>(eM P.in bd (c1 S)).bind fun b=> .ok {b with sure:=(c1 S).sure}):=by
 have l:=g0 a.ok hp;have s:S.at1.c.te S.at1.fs=(c1 S).te P.fs:=by rw[show S.at1.fs=P.fs from a.fs];rfl
 match es with
 |[]=>simp only[ay];trivial
 | .mk k i e h j f::zs=>
  have t:=Ng l.ok (.mk k i e h j f) 2;unfold WX at t;rw[s]at t;rw[bC];revert t;cases ch ((c1 S).te P.fs) (.mk k i e h j f) [2]with
  |out=>exact fun _=>trivial
  |bad q r=>exact fun t=>mt a hp (UH a.ok (cF a.ok dz hp) nm ty n p k i e h j f zs bd d l.ok q r t)
  |ok u=>
   intro t;simp only[TR.bind,xP,er];have tb:=x.ib S.at1 (a.nx l);have o:S.at1.c=c1 S:=rfl;rw[o]at tb;revert tb;cases eM P.in bd (c1 S)with
   |out=>exact fun _=>trivial
   |bad q r=>exact fun ⟨g,c⟩=>⟨g,UI a.ok (cF a.ok dz hp) nm ty n p k i e h j f zs bd d u t g q r c⟩
   |ok b=>
    rintro⟨S',m,c⟩;have h2:=vw m.ok (q:=S.c.sure) (a.ok.q.mono m.vars.length_le) (S'.vq+1);have nn:=l.trans m;refine⟨S'.sureAs S.c.sure (S'.vq+1),⟨h2,by rw[←m.c];rfl,nn.fs,nn.fn,nn.deep,nn.W,nn.vars⟩,Rn a.ok (cF a.ok dz hp) nm ty n p k i e h j f zs bd d u t h2 c⟩
theorem XX(k:Int)(j:(k==1)=false)(g:(k==2)=false)(b:(k==3)=false)(i:(k==4)=false)(h:(k==5)=false)(l:(k==6)=false)(f:(k==7)=false)(e:(k==8)=false):TC S 76 [aI,eG k (S.c.pts.length:Int) nm ty n p es bd d] (.ok (c1 S)):=
 zX a hp (UA a.ok (cF a.ok dz hp) nm ty n p es bd d (g0 a.ok hp).ok k j g b i h l f e)
end
theorem Ro(P:Pl)(es:List Ex)(bd d:List aP)(c:CS):((ay (c.te P.fs) es [[2]] false).bind fun _=>
        (bu P.fs P.fn (fh (P.deep+1)) false bd c).bind fun a=>
        (bu P.fs P.fn (fh (P.deep+1)) false d {a with seen:=c.seen,sure:=c.sure}).bind fun b=>
        .ok {b with seen:=c.seen,sure:=bif bT bd then b.sure else bif bT d then a.sure else a.sure.both b.sure})=se P es bd d c:=by
 unfold se eM;simp only[Pl.in];cases ay (c.te P.fs) es [[2]] false with
 |out=>rfl
 |bad _ _=>rfl
 |ok _=>
  simp only[TR.bind];cases bu P.fs P.fn (fh (P.deep+1)) false bd c with
  |out=>rfl
  |bad _ _=>rfl
  |ok a=>
   simp only;cases bu P.fs P.fn (fh (P.deep+1)) false d ⟨a.vars,c.seen,c.sure,a.pts⟩with
   |out=>rfl
   |bad _ _=>rfl
   |ok b=>rfl
theorem Rp{P:Pl}{k id:Int}{nm:List UInt8}{ty n p:Int}{es:List Ex}{bd b:List aP}(x:UJ P bd b):QY P (.mk k id nm ty n p es bd b):=fun S a=>by
 unfold jn;cases d:(id==(S.c.pts.length:Int)&&decide (S.c.pts.length<900000000))with
 |false=>exact trivial
 |true=>
  rw[xJ]at d;have o:=eq_of_beq d.1;subst o;have hp:=xe d.2;simp only[xW];have q:({S.c with pts:=S.c.pts ++[S.c.pt P.fn]}:CS)=c1 S:=by rw[←a.fn]
  rw[q];cases m:(k==1)with
  |true=>rw[eq_of_beq m];exact XN a hp nm ty n p es bd b
  |false=>
  cases h:(k==2)with
  |true=>
   have:=XV a hp nm ty n p es bd b;rw[eq_of_beq h];rw[←a.fn];exact this
  |false=>
  cases e:(k==3)with
  |true=>rw[eq_of_beq e];exact XU a hp nm ty n p es bd b
  |false=>
  cases l:(k==4)with
  |true=>
   have:=XO a hp nm ty n p es bd b x;rw[←Ro]at this;rw[eq_of_beq l];exact this
  |false=>
  cases i:(k==5)with
  |true=>
   have:=XW a hp nm ty n p es bd b x;rw[eq_of_beq i];refine(congrArg (TC S _ _) ?_).mp this;unfold eM;simp only[Pl.in];cases ay ((c1 S).te P.fs) es [[2]] false with
   |out=>rfl
   |bad _ _=>rfl
   |ok _=>
    simp only[TR.bind];cases bu P.fs P.fn (fh (P.deep+1)) false bd (c1 S)<;>rfl
  |false=>
  cases j:(k==6)with
  |true=>rw[eq_of_beq j];exact XP a hp nm ty n p es bd b
  |false=>
  cases g:(k==7)with
  |true=>rw[eq_of_beq g];exact XQ a hp nm ty n p es bd b
  |false=>
  cases f:(k==8)with
  |true=>
   rw[eq_of_beq f];have:=XT a hp nm ty n p es bd b;refine(congrArg (TC S _ _) ?_).mp this;cases es<;>rfl
  |false=>exact XX a hp nm ty n p es bd b k m h e l i j g f
theorem B0:∀(m:Nat)(P:Pl)(l:List aP),iZ m l→0≤P.deep→P.deep+m<9223372036854775807→∀x∈l,QY P x
 |0,_,_,h,_,_=>h.elim
 |m+1,P,l,h,r,q=>fun x f=>by
  have b:=h.2 x f;obtain⟨k,id,nm,ty,n,p,es,bd,c⟩:=x;simp only at b
  have e:P.in.deep=P.deep+1:=by
   show fh (P.deep+1)=_;unfold fh;exact IntWalk.i64_in _ (by omega)
  have o:=B0 m P.in bd b.1 (by rw[e];omega) (by rw[e];omega);have j:=B0 m P.in c b.2 (by rw[e];omega) (by rw[e];omega)
  have d:∀(l:List aP),iZ m l→l.length<1000000∧∀x∈l,mr x:=fun l g=>by
   cases m with
   |zero=>exact g.elim
   |succ m=>
    refine⟨g.1,fun x f=> ?_⟩;have h2:=g.2 x f;obtain⟨k,id,nm,ty,n,p,es,bd,c⟩:=x;exact LF h2.1 h2.2
  have i: -9223372036854775808≤P.deep∧P.deep<9223372036854775808:=by omega
  exact Rp ⟨fun S a=>Gt i (d bd b.1).1 o (d bd b.1).2 S a,fun S a=>Gt i (d c b.2).1 j (d c b.2).2 S a,rQ m bd b.1,rQ m c b.2⟩
end Go.Avm
namespace Go.Avm
open Go.Proofs
def jt(fs:List Fn)(i:Nat)(f:Fn)(pts:List Pt):TR (List Vr×List Pt):=(eM ⟨fs,i,0⟩ f.bd (f.ps.foldl CS.par ⟨[],[],⟨[],0⟩,pts⟩)).bind fun c=>bif f.res==0||bT f.bd then .ok (c.vars,c.pts)else .bad f.p 12
def cn(fs:List Fn):Nat→List Fn→List (List Vr)→List Pt→TR (List (List Vr)×List Pt)
 |_,[],a,pts=> .ok (a,pts)
 |i,f::r,a,pts=>(jt fs i f pts).bind fun q=>cn fs (i+1) r (a ++[q.1]) q.2
def du(fs:List Fn):TR (List (List Vr)×List Pt):=(f0 fs).bind fun _=>cn fs 0 fs [] [dz]
def XS(x:AV):Prop:=∀ρ:Nat→Nat,ρ 500002=500002→ρ 500003=500003→ρ 500004=500004→aO ρ x=x
abbrev iC(fs:List Fn)(W:List AV)(pts:List Pt)(g:Gv)(c:Nat)(e b a:AV):List (Nat×aE):=
 [(500000,⟨1,some (.arr 1 [.mp 499904 1, .d (.ro (fs.map bn)), .sl 500191 1 0 fs.length 1, .sl 500382 g.vp 0 pts.length 3,dN c,e,b,a,dI 0])⟩),(499904,⟨1,some (.map (kq 0 fs) fs.length)⟩),(500002,⟨g.vh,none⟩),(500003,⟨g.vs,none⟩),(500004,⟨g.vq,none⟩),(500005,⟨g.vv,none⟩),(500382,⟨g.vp,some (.arr 3 (pts.map bU))⟩),(500191,⟨1,some (.arr 1 W)⟩)]
abbrev J2(fs:List Fn)(W:List AV)(pts:List Pt)(g:Gv)(i:Nat):List (Nat×aE):=
 [(500000,⟨1,some (.arr 1 [.mp 499904 1, .d (.ro (fs.map bn)), .sl 500191 1 0 fs.length 1, .sl 500382 g.vp 0 pts.length 3,dN i, .mp 500002 (g.vh+1), .mp 500003 (g.vs+1), .mp 500004 (g.vq+1),dI 0])⟩),(499904,⟨1,some (.map (kq 0 fs) fs.length)⟩),(500002,⟨g.vh+1,some (.map [] 0)⟩),(500003,⟨g.vs+1,some (.map [] 0)⟩),(500004,⟨g.vq+1,some (.map [] 0)⟩),(500005,⟨g.vv,none⟩),(500382,⟨g.vp,some (.arr 3 (pts.map bU))⟩),(500191,⟨1,some (.arr 1 W)⟩)]
abbrev fZ:List (Nat×aE):=[(600003,⟨0,none⟩)]
def iJ(W:List AV):Prop:=∀x∈W,x= .nils∨∃d,x= .d d
theorem vE{W:List AV}(h:iJ W)(ρ:Nat→Nat):bk ρ W=W:=gT fun x a=>by
 rcases h x a with rfl|⟨d,rfl⟩<;>rfl
abbrev LT:List Nat:=[500000,499904,500002,500003,500004,500005,500382,500191]
section
variable{fs:List Fn}{W:List AV}{pts:List Pt}{g:Gv}{f:Nat}{b c d:AV}(e:iJ W)(h:XS b)(k:XS c)(j:XS d){ρ:Nat→Nat}(a:([499904,500002,500003,500004,500382,500191].map ρ)=[499904,500002,500003,500004,500382,500191])
include e a
theorem eS(h:XS b)(k:XS c)(j:XS d):((iC fs W pts g f b c d).map fun p=>aY ρ p.2)=(iC fs W pts g f b c d).map (·.2):=by
 simp only[xH,xY,List.cons.injEq,zB]at a;obtain⟨o,l,i,m,q,n⟩:=a;simp only[iC,xH,xY,aY,x5,yz,dx,nN,vE e,bk,aO,o,q,n,h ρ l i m,k ρ l i m,j ρ l i m]
theorem J3{i:Nat}:((J2 fs W pts g i).map fun p=>aY ρ p.2)=(J2 fs W pts g i).map (·.2):=by
 simp only[xH,xY,List.cons.injEq,zB]at a;obtain⟨q,n,l,o,r,m⟩:=a;simp only[J2,xH,xY,aY,x5,yz,dx,nN,vE e,bk,aO,q,n,l,o,r,m]
end
abbrev Ez:List Nat:=[500000,499904,500002,500003,500004,500005,500382,500191,600003]
theorem Dd{A B b a:List (Nat×aE)}{ar:List AV}(k:A.map (·.1)=LT)(hB:B.map (·.1)=LT)(g:b.map (·.1)=[600003])(d:a.map (·.1)=[600003])(i:bk (dm Ez 1000000) ar=ar)
    (h:(A.map fun p=>aY (dm Ez 1000000) p.2)=A.map (·.2)) (j:(B.map fun p=>aY (dm Ez 1000000) p.2)=B.map (·.2)) (f:(b.map fun p=>aY (dm Ez 1000000) p.2)=b.map (·.2)) (c:(a.map fun p=>aY (dm Ez 1000000) p.2)=a.map (·.2)):
    Cln ((A ++b).map (·.1)) 1000000 ar (A ++b) (B ++a):=by
 have e:(A ++b).map (·.1)=Ez:=by rw[xF,k,g];rfl
 rw[e];exact⟨rfl,e,by rw[xF,hB,d];rfl,i,by rw[xF,xF,h,f],by rw[xF,xF,j,c]⟩
noncomputable def bB:Code:=aJ Pg 27 1
noncomputable def Xj:Code:=JQ bB
noncomputable def J4:Code:=TQ (JQ (tY (tY bB)))
noncomputable def Xk:Code:=JQ J4
noncomputable def Xl:Code:=JQ (tY J4)
noncomputable def Xm:Code:=JQ (tY (tY J4))
noncomputable def N0:Code:=tY (tY (tY J4))
noncomputable def N3:Code:=tY (tY (tY bB))
theorem zY:bB= .seq Xj (.seq (.cond (.tmp 13) .skip (.exit 0)) (.seq (.block 1 (.seq Xk (.seq Xl (.seq Xm N0)))) N3)):=by kernel_rfl
abbrev qf(fs:List Fn)(i:Nat):List (Nat×AV):=[(0,aI),(10, .d (.ro (fs.map bn))),(11,dN (fs.map bn).length),(12,dN i)]
section
variable{fs:List Fn}{W:List AV}{pts:List Pt}{g:Gv}{j:Nat}{b c e:AV}(a:iJ W)(d:XS b)(h:XS c)(f:XS e)(i:Nat)
include a d h f
theorem Xn(t:Bool)(k:decide (i<(fs.map bn).length)=t):RE 69 Xj (qf fs i) (iC fs W pts g j b c e ++fZ) .normal (qf fs i ++[(13,dB t)]) (iC fs W pts g j b c e ++fZ):=
 qE {hint:=qT 27 [(13,dk Pg i (fs.map bn).length t k)]} 27 599000 (Dd rfl rfl rfl rfl rfl (eS a rfl d h f) (eS a rfl d h f) rfl rfl)
variable(nm:List UInt8)(ps:List Pm)(res:Int)(bd:List aP)(p:Int)(k:fs[i]? =some ⟨nm,ps,res,bd,p⟩)
include k
theorem XY:RE 69 Xk (qf fs i ++[(13,dB true)]) (iC fs W pts g j b c e ++fZ) .normal (qf fs i ++[(2,dN i),(3, .ptr 600003 1 0 0 1)]) (iC fs W pts g j b c e ++fB nm ps res bd p):=
 qE {hint:=qT 27 [(15,BZ Pg fs i _ k)]} 27 599793 (Dd rfl rfl rfl rfl rfl (eS a rfl d h f) (eS a rfl d h f) rfl rfl)
omit k in
theorem XZ:RE 69 Xl (qf fs i ++[(2,dN i),(3, .ptr 600003 1 0 0 1)]) (iC fs W pts g j b c e ++fB nm ps res bd p) .normal (qf fs i ++[(3, .ptr 600003 1 0 0 1)]) (J2 fs W pts g i ++fB nm ps res bd p):=
 MJ b9 named {} 2000 27 599000 69 1000000 ([(500000,524290098181),(500000,524291146758),(500000,524292195335)]) (Dd rfl rfl rfl rfl rfl (eS a rfl d h f) (J3 a rfl) rfl rfl) (by kernel_rfl) (by kernel_rfl) (fun _=>by kernel_rfl)
end
end Go.Avm
namespace Go.Avm
open Go.Proofs
def bS(fs:List Fn)(W:List AV)(pts:List Pt)(g:Gv)(i:Nat):CK:=⟨fs,i,W,0,⟨[],[],⟨[],0⟩,pts⟩,g.vh+1,g.vs+1,g.vq+1,g.vp,g.vv+1⟩
theorem X0{X:b4}{env:Nat→AV}(fs:List Fn)(W:List AV)(pts:List Pt)(g:Gv)(i:Nat)(c:aE)(q:W[i]? =some .nils)(b:aa):Weak X ⟨env,ae (J2 fs W pts g i ++[(600003,c)]) b⟩ ⟨env,ae (ck (bS fs W pts g i) ++[(600003,c)]) b⟩:=by
 have w:=jU (X:=X) (env:=env) (h:=ae (J2 fs W pts g i ++[(600003,c)]) b) (C:=500191) (K:=500005) (a:=i) (sz:=4) (ces:=W) (by decide) (by simp[ae,aG]) q;refine w.trans (eD fun k=> ?_);have e:(ae (J2 fs W pts g i ++[(600003,c)]) b 500005).ver=g.vv:=by simp[ae,aG]
 have r:(ae (J2 fs W pts g i ++[(600003,c)]) b 500191).ver=1:=by simp[ae,aG]
 rw[e,r];simp only[J2,ck,CX,bS,fF,xY,xS,kq,gE,cA,a6,xk,yG,ae,aG];by_cases j:k=500000
 ·subst j;simp
 by_cases p:k=499904
 ·subst p;simp
 by_cases h2:k=500002
 ·subst h2;simp
 by_cases o:k=500003
 ·subst o;simp
 by_cases n:k=500004
 ·subst n;simp
 by_cases f:k=500005
 ·subst f;simp
 by_cases m:k=500382
 ·subst m;simp
 by_cases l:k=500191
 ·subst l;simp
 by_cases d:k=600003
 ·subst d;simp
 simp only[j,p,h2,o,n,f,m,l,d,yi];simp
theorem GQ(n:Nat)(h:aa):∀r:List D,ej (view (n+1) h) (r.map .d)=some (r,[])
 |[]=>rfl
 |x::r=>by
  rw[xH,ej,GQ n h r];rfl
theorem lu{h:aa}{K v sz n:Nat}{ds:List D}(a:h K=⟨v,some (.arr sz (ds.map .d))⟩):view (n+2) h (.sl K v 0 ds.length sz)=some (.ro ds,[K]):=by
 unfold view;simp only[a,zQ,xO,x8,xL,yS,xn];rw[yB (by simp),GQ];rfl
def ku(vs:List Vr):AV:= .d (.ro (vs.map mX))
theorem X1{X:b4}{env:Nat→AV}(S:CK)(g:S.deep=0)(q:S.fn<S.W.length)(e:aE)(b:aa):Weak X ⟨env,ae (ck S ++[(600003,e)]) b⟩ ⟨env,ae (iC S.fs (S.W.set S.fn (ku S.c.vars)) S.c.pts ⟨S.vh,S.vs,S.vq,S.vv+1,S.vp⟩ S.fn (.mp 500002 S.vh) (.mp 500003 S.vs) (.mp 500004 S.vq) ++[(600003,e)]) b⟩:=by
 have s:S.c.vars.map oh=(S.c.vars.map mX).map .d:=by simp[oh]
 have u:S.c.vars.length=(S.c.vars.map mX).length:=by simp
 have w:=eo (X:=X) (env:=env) (h:=ae (ck S ++[(600003,e)]) b) (C:=500191) (a:=S.fn) (n:=2) (ces:=S.W.set S.fn (fF S.vv S.c.vars)) (x:=fF S.vv S.c.vars) (d:= .ro (S.c.vars.map mX)) (ks:=[500005]) (by decide) (by simp[ae,aG]) (by simp[q]) rfl (by
  unfold fF;rw[u];exact lu (n:=0) (by rw[←s];simp[ae,aG]))
 refine w.trans (eD fun k=> ?_);have t:(ae (ck S ++[(600003,e)]) b 500191).ver=1:=by simp[ae,aG]
 rw[t,List.set_set]
 have r:∀k,aG (ap (ae (ck S ++[(600003,e)]) b) (kill (ae (ck S ++[(600003,e)]) b) [500005])) 500191 ⟨1,some (.arr 1 (S.W.set S.fn (.d (.ro (S.c.vars.map mX)))))⟩ k=if k=500191 then ⟨1,some (.arr 1 (S.W.set S.fn (.d (.ro (S.c.vars.map mX)))))⟩else if k=500005 then ⟨S.vv+1,none⟩else ae (ck S ++[(600003,e)]) b k:=fun k=>by
  simp only[aG];split
  ·rfl
  ·rw[bo]
   simp only[xM];split
   ·rename_i f
    subst f;simp[ae,aG]
   ·rfl
 rw[r];simp only[iC,ck,CX,g,ku,xk,yG,ae,aG];by_cases g:k=500000
 ·subst g;simp
 by_cases p:k=499904
 ·subst p;simp
 by_cases h2:k=500002
 ·subst h2;simp
 by_cases o:k=500003
 ·subst o;simp
 by_cases m:k=500004
 ·subst m;simp
 by_cases f:k=500005
 ·subst f;simp
 by_cases l:k=500382
 ·subst l;simp
 by_cases j:k=500191
 ·subst j;simp
 by_cases i:k=600003
 ·subst i;simp
 simp only[g,p,h2,o,m,f,l,j,i,yi];simp
noncomputable def UK{S:CK}{fs:List Fn}{i:Nat}{nm:List UInt8}{ps:List Pm}{res:Int}{bd:List aP}{p:Int}{x:aB}{l':List (Nat×AV)}{b:List (Nat×aE)}(h:RL 69 (lO 27 5) (LQ fs i ps 0) (ck S ++fB nm ps res bd p) x l' b):dJ Pg:=
 ⟨69,aJ Pg 27 5,LQ fs i ps 0,fun _=>ck S ++fB nm ps res bd p,x,l',fun _=>b,fun a X c d=>(h a X c d).aw⟩
abbrev UL(S S':CK)(l:List aP):Prop:=HC 49 [aI, .d (.ro (cg l))] (ck S) [] (ck S')
section
variable{S S':CK}(h:CKok S)(fs:List Fn)(i:Nat)(nm:List UInt8)(ps:List Pm)(res:Int)(bd:List aP)(p:Int)
include h
theorem X3(h':CKok S')(c:∀(a:aa)(X:b4),X.P=Pg→X.N=69→LW X (lO 27 5) ⟨ah (LQ fs i ps 0),ae (ck S ++fB nm ps res bd p) a⟩ fun b d=>b= .exit 2∧d=⟨ah (GN fs i),ae (ck S' ++fB nm ps res bd p) a⟩):
    ∀(a:aa)(X:b4),X.P=Pg→X.N=69→AW X Xm ⟨ah (qf fs i ++[(3, .ptr 600003 1 0 0 1)]),ae (ck S ++fB nm ps res bd p) a⟩ fun b d=>b= .normal∧d=⟨ah (GN fs i),ae (ck S' ++fB nm ps res bd p) a⟩:=
 qE ({loops:=fun f q=>if f=27 then (if q=5 then some (UK c)else none)else none}) 27 599000 (gG h h' rfl rfl rfl rfl rfl rfl)
theorem UM(g:Gv)(q e:Int)(c:HX 49 [aI, .d (.ro (cg bd))] (ck S) (aD q e) (cv g)):
    ∀(a:aa)(X:b4),X.P=Pg→X.N=69→AW X N0 ⟨ah (GN fs i),ae (ck S ++fB nm ps res bd p) a⟩ fun b f=>b= .panic (aD q e)∧f=⟨ah [],ae (cv g ++fG) a⟩:=
 qE {pans:=an Pg [(27,9,599000,⟨3,some (bg c),[]⟩)]} 27 599000 (lk h rfl rfl rfl rfl rfl rfl)
variable(h':CKok S')(c:UL S S' bd)
include h' c
theorem UN(b:(res==0)=true):∀(a:aa)(X:b4),X.P=Pg→X.N=69→AW X N0 ⟨ah (GN fs i),ae (ck S ++fB nm ps res bd p) a⟩ fun d e=>d= .normal∧e=⟨ah (qf fs i),ae (ck S' ++fG) a⟩:=
 qE {hint:=qT 27 [(59,qB b)],calls:=tC [(27,56,599207,ad c),(27,67,599690,be rfl (aU p 12))]} 27 599000 (gG h h' rfl rfl rfl rfl rfl rfl)
theorem UO(e:(res==0)=false)(b:i6 bd true):∀(a:aa)(X:b4),X.P=Pg→X.N=69→AW X N0 ⟨ah (GN fs i),ae (ck S ++fB nm ps res bd p) a⟩ fun d f=>d= .normal∧f=⟨ah (qf fs i),ae (ck S' ++fG) a⟩:=
 qE {hint:=qT 27 [(59,qB e)],calls:=tC [(27,56,599207,ad c),(27,63,599621,be rfl b),(27,67,599828,be rfl (aU p 12))]} 27 599000 (gG h h' rfl rfl rfl rfl rfl rfl)
theorem UP(e:(res==0)=false)(b:i6 bd false):∀(a:aa)(X:b4),X.P=Pg→X.N=69→AW X N0 ⟨ah (GN fs i),ae (ck S ++fB nm ps res bd p) a⟩ fun d f=>d= .panic (aD p 12)∧f=⟨ah [],ae (cv S'.gv ++fG) a⟩:=
 qE {hint:=qT 27 [(59,qB e)],calls:=tC [(27,56,599207,ad c),(27,63,599621,be rfl b)],pans:=an Pg [(27,10,599207,⟨10,some (bg (cd p 12)),[]⟩)]} 27 599000 (lk h rfl rfl rfl rfl rfl rfl)
end
theorem UQ{fs:List Fn}{W:List AV}{pts:List Pt}{g:Gv}{e:Nat}{a b c:AV}(f:iJ W)(d:XS a)(j:XS b)(h:XS c)(i:Nat)(k:i<1000000):RE 69 N3 (qf fs i) (iC fs W pts g e a b c ++fG) .normal (qf fs (i+1)) (iC fs W pts g e a b c ++fG):=
 qE {hint:=qT 27 [(68,bj Pg i (by omega))]} 27 599000 (Dd rfl rfl rfl rfl rfl (eS f rfl d j h) (eS f rfl d j h) rfl rfl)
end Go.Avm
namespace Go.Avm
open Go.Proofs
structure GR(fs:List Fn)(m:Nat):Prop where
 len:fs.length<1000000
 par:∀f∈fs,f.ps.length≤6
 nod:∀f∈fs,(f.ps.map (·.nm)).Nodup
 nml:∀f∈fs,∀p∈f.ps,p.nm.length≤1000000
 sh:∀f∈fs,iZ m f.bd
 m:m<1000000
theorem De:∀{m:Nat}{l:List aP},iZ m l→l.length<1000000∧∀x∈l,mr x
 |0,_,h=>h.elim
 |_+1,_,h=>⟨h.1,fun x a=>by
  have h2:=h.2 x a;obtain⟨k,id,nm,ty,n,p,es,bd,b⟩:=x;exact LF h2.1 h2.2⟩
theorem LU{fs:List Fn}{m:Nat}(ok:GR fs m){W:List AV}{pts:List Pt}{g:Gv}{i:Nat}(b:i<fs.length)(c:W.length=fs.length)(a:iJ W)(hp:pts.length<1000000000):CKok (bS fs W pts g i) where
 fn:=b
 W:=c
 dat:=a
 len:=ok.len
 par:=ok.par
 vars:=xz _
 seen:=fun p hp=>by cases hp
 inc:=List.Pairwise.nil
 nms:=yV
 nml:=fun p hp=>by cases hp
 had:=fun p hp=>by cases hp
 sk:=yV
 sb:=yV
 sc:=fun p hp=>by cases hp
 sv:=fun p hp=>by cases hp
 pts:=hp
theorem vF{B a:List (Nat×aE)}(hB:B.map (·.1)=LT)(R:aa)(k:Nat)(b:k∈LT):ae (B ++a) R k=ae B (ae (B ++a) R) k:=by
 have c:ae (B ++a) R k=ae B (ae a R) k:=by rw[lr R]
 rw[c];exact fP B _ _ (by rw[hB];exact b)
theorem GS{k:Nat}(a:1000000≤k):k∉LT:=fun h=>by
 simp only[LT,x0,yU,zR]at h;omega
theorem qg{A B a:List (Nat×aE)}(d:A.map (·.1)=LT)(hB:B.map (·.1)=LT)(c:a.map (·.1)=[600003])(R:aa)(k:Nat)(b:1000000≤k):ae (B ++a) R k=ae A R k:=by
 rw[lr R,b7 B _ (by rw[hB];exact GS b),b7 A _ (by rw[d];exact GS b),b7 a _ (by rw[c,xM];omega)]
theorem gU(A:List (Nat×aE))(a:aa):ae (A ++fZ) (dy 1000000 a)=ae A (dy 1000000 a):=by
 rw[lr a];congr 1;funext k;simp only[fZ,ae,aG];by_cases h:k=600003
 ·subst h
  rfl
 ·rw[xo h]
def N4(fs:List Fn)(W:List AV)(pts:List Pt)(g:Gv)(d:Nat)(b c f:AV)(i:Nat):TR (List Vr×List Pt)→Prop
 | .ok q=>q.2.length<1000000000∧∃a:Gv,RE 69 bB (qf fs i) (iC fs W pts g d b c f) .normal (qf fs (i+1)) (iC fs (W.set i (ku q.1)) q.2 a i (.mp 500002 a.vh) (.mp 500003 a.vs) (.mp 500004 a.vq))
 | .bad p e=>∃a:Gv,RE 69 bB (qf fs i) (iC fs W pts g d b c f) (.panic (aD p e)) [] (cv a)
 | .out=>True
theorem bl(v:Nat):XS (.mp 500002 v):=fun ρ h _ _=>by simp only[aO,h]
theorem US(v:Nat):XS (.mp 500003 v):=fun ρ _ h _=>by simp only[aO,h]
theorem UT(v:Nat):XS (.mp 500004 v):=fun ρ _ _ h=>by simp only[aO,h]
theorem GT{W:List AV}(h:iJ W)(i:Nat)(vs:List Vr):iJ (W.set i (ku vs)):=fun x a=>by
 rcases xl a with a|rfl
 ·exact h x a
 ·exact .inr ⟨_,rfl⟩
section
variable{fs:List Fn}{m:Nat}(ok:GR fs m){W:List AV}(t:W.length=fs.length)(a:iJ W){pts:List Pt}(hp:pts.length<1000000000)(g:Gv)(r:Nat){n o s:AV}(d:XS n)(l:XS o)(j:XS s){i:Nat}
include ok t a hp d l j
theorem N5{nm:List UInt8}{ps:List Pm}{res:Int}{bd:List aP}{p:Int}(q:fs[i]? =some ⟨nm,ps,res,bd,p⟩)(z:W[i]? =some .nils){S1:CK}(u:CKok S1)
    (v:∀(c:aa)(X:b4),X.P=Pg→X.N=69→LW X (lO 27 5) ⟨ah (LQ fs i ps 0),ae (ck (bS fs W pts g i) ++fB nm ps res bd p) c⟩ fun x y=>x= .exit 2∧y=⟨ah (GN fs i),ae (ck S1 ++fB nm ps res bd p) c⟩)
    (Q:aB→St→Prop) (R:aa) (X:b4) (e:X.P=Pg) (f:X.N=69) (w:AW X N0 ⟨ah (GN fs i),ae (ck S1 ++fB nm ps res bd p) R⟩ (uM 1 (Cz (fun S'=>AW X N3 S' Q) Q))):
    AW X bB ⟨ah (qf fs i),ae (iC fs W pts g r n o s ++fZ) R⟩ Q:=by
 have k:i<fs.length:=(xC.1 q).1;rw[zY];refine en ((Xn a d l j i true (by simpa using k) R X e f).mono ?_);rintro _ _ ⟨rfl,rfl⟩;refine en (iS (b:=true) rfl (fun _=>p4 ?_) (fun h=>by cases h));refine en (kX (en ((XY a d l j i nm ps res bd p q R X e f).mono ?_)));rintro _ _ ⟨rfl,rfl⟩;refine en ((XZ a d l j i nm ps res bd p R X e f).mono ?_);rintro _ _ ⟨rfl,rfl⟩;refine AW.weak (X0 fs W pts g i _ z R) (en ((X3 (LU ok k t a hp) fs i nm ps res bd p u v R X e f).mono ?_));rintro _ _ ⟨rfl,rfl⟩;exact w
theorem N6{f:Fn}(F:fs[i]? =some f)(Z:W[i]? =some .nils):N4 fs W pts g r n o s i (jt fs i f pts):=by
 have P:i<fs.length:=(xC.1 F).1;have E:f∈fs:=xX F;have K:=ok.nod f E;have L:=ok.par f E;have S:=ok.nml f E;have D:=ok.sh f E;have hm:=ok.m;have h0:=LU ok (g:=g) P t a hp;obtain⟨nm,ps,res,bd,p⟩:=f;simp only at K L S D;obtain⟨S1,b,V⟩:=LR (fs:=fs) i nm ps res bd p K L S _ 0 (bS fs W pts g i) rfl (xz _) h0 rfl;rw[xn]at b;have a1:At ⟨fs,i,0⟩ S1:=⟨b.ok,b.fs,b.fn,b.deep⟩
 have cb:=Gn (De D).1 (B0 m ⟨fs,i,0⟩ bd D (by simp) (by simp only;omega)) (De D).2 S1 a1;rw[b.c]at cb;have C:=rQ m bd D;have I:=fun Q R X y z Y=>N5 ok t a hp g r d l j (i:=i) F Z b.ok V Q R X y z Y
 unfold jt;show N4 _ _ _ _ _ _ _ _ _ ((eM ⟨fs,i,0⟩ bd (ps.foldl CS.par ⟨[],[],⟨[],0⟩,pts⟩)).bind fun c=>bif res==0||bT bd then .ok (c.vars,c.pts)else .bad p 12);have ec:(bS fs W pts g i).c=⟨[],[],⟨[],0⟩,pts⟩:=rfl;rw[ec]at cb;revert cb;cases eM ⟨fs,i,0⟩ bd (ps.foldl CS.par ⟨[],[],⟨[],0⟩,pts⟩)with
 |out=>exact fun _=>trivial
 |bad q e=>
  rintro⟨U,c⟩;refine⟨U,nR (M:=1000000) (N:=69) (l':=[]) ⟨rfl,rfl,rfl,rfl,eS a rfl d l j,rfl⟩ rfl rfl fun h X y z=> ?_⟩;rw[←gU];refine I _ _ X y z ((UM b.ok fs i nm ps res bd p U q e c _ X y z).mono ?_);rintro _ _ ⟨rfl,rfl⟩;exact⟨rfl,rfl,fun k x=>vF rfl _ k x,fun k x=>(qg (A:=iC fs W pts g r n o s) rfl rfl rfl _ k x).trans (congrFun (gU _ h).symm k)⟩
 |ok c=>
  rintro⟨v,u,H⟩;have e1:v.fs=fs:=u.fs.trans b.fs;have J:v.fn=i:=u.fn.trans b.fn;have e3:v.deep=0:=u.deep.trans b.deep;have O:v.W=W:=u.W.trans b.W;have T:v.c=c:=u.c
  have B:(RE 69 N0 (GN fs i) (ck S1 ++fB nm ps res bd p) .normal (qf fs i) (ck v ++fG))→N4 fs W pts g r n o s i (.ok (c.vars,c.pts)):=fun c9=>by
   refine⟨by rw[←T];exact u.ok.pts,⟨v.vh,v.vs,v.vq,v.vv+1,v.vp⟩,nR (M:=1000000) (N:=69) ⟨rfl,rfl,rfl,rfl,eS a rfl d l j,eS (GT a i _) rfl (bl _) (US _) (UT _)⟩ rfl rfl fun h X y z=> ?_⟩;rw[←gU];refine I _ _ X y z ((c9 _ X y z).mono ?_);rintro _ _ ⟨rfl,rfl⟩;have w:=X1 (X:=X) (env:=ah (qf fs i)) v e3 (by rw[J,O,t];exact P) ⟨1,none⟩ (dy 1000000 h);rw[e1,J,O,T]at w;refine AW.weak w ((UQ (GT a i _) (bl _) (US _) (UT _) i (by have:=ok.len;omega) _ X y z).mono ?_);rintro _ _ ⟨rfl,rfl⟩;exact⟨rfl,rfl,fun k x=>vF rfl _ k x,fun k x=>(qg (A:=iC fs W pts g r n o s) rfl rfl rfl _ k x).trans (congrFun (gU _ h).symm k)⟩
  simp only[TR.bind];cases G:(res==0)with
  |true=>exact B (UN b.ok fs i nm ps res bd p u.ok H G)
  |false=>
   unfold ms at C;revert C;cases bT bd with
   |true=>exact fun C=>B (UO b.ok fs i nm ps res bd p u.ok H G C)
   |false=>
    intro C;simp only[Bool.or_self,xP];refine⟨v.gv,nR (M:=1000000) (N:=69) (l':=[]) ⟨rfl,rfl,rfl,rfl,eS a rfl d l j,rfl⟩ rfl rfl fun h X y z=> ?_⟩;rw[←gU];refine I _ _ X y z ((UP b.ok fs i nm ps res bd p u.ok H G C _ X y z).mono ?_);rintro _ _ ⟨rfl,rfl⟩;exact⟨rfl,rfl,fun k x=>vF rfl _ k x,fun k x=>(qg (A:=iC fs W pts g r n o s) rfl rfl rfl _ k x).trans (congrFun (gU _ h).symm k)⟩
end
def gn(a:List (List Vr))(n:Nat):List AV:=a.map ku ++List.replicate (n-a.length) .nils
theorem EA{a:List (List Vr)}{n:Nat}(h:a.length≤n):(gn a n).length=n:=by
 simp only[gn,xK,xO,List.length_replicate];omega
theorem ju(b:List (List Vr))(n:Nat):iJ (gn b n):=fun x a=>by
 rcases xU.1 a with a|a
 ·obtain⟨r,_,rfl⟩:=x9.1 a
  exact .inr ⟨_,rfl⟩
 ·exact .inl (List.eq_of_mem_replicate a)
theorem EB{a:List (List Vr)}{n:Nat}(h:a.length<n):(gn a n)[a.length]? =some .nils:=by
 unfold gn;rw[xV (by simp),xO,zM,List.getElem?_replicate,xf (by omega)]
theorem EC{a:List (List Vr)}{n:Nat}(h:a.length<n)(r:List Vr):(gn a n).set a.length (ku r)=gn (a ++[r]) n:=by
 unfold gn;rw[List.set_append_right _ _ (by simp),xO,zM,xF,xa];congr 1;obtain⟨k,b⟩:∃k,n-a.length=k+1:=⟨n-a.length-1,by omega⟩
 rw[b,List.replicate_succ,List.set_cons_zero,xK,xt,show n-(a.length+1)=k by omega];rfl
def Rq(fs:List Fn)(W:List AV)(pts:List Pt)(g:Gv)(f:Nat)(c d k:AV)(i:Nat):TR (List (List Vr)×List Pt)→Prop
 | .ok q=>q.2.length<1000000000∧q.1.length=fs.length∧∃(a:Gv)(l:Nat)(j h b:AV),XS j∧XS h∧XS b∧RL 69 bB (qf fs i) (iC fs W pts g f c d k) (.exit 0) [(0,aI)] (iC fs (gn q.1 fs.length) q.2 a l j h b)
 | .bad p e=>∃a:Gv,RL 69 bB (qf fs i) (iC fs W pts g f c d k) (.panic (aD p e)) [] (cv a)
 | .out=>True
theorem Rr{fs:List Fn}{W:List AV}{pts:List Pt}{g:Gv}{f:Nat}{c d e:AV}(l:iJ W)(j:XS c)(p:XS d)(m:XS e)(a:aa)(X:b4)(i:X.P=Pg)(n:X.N=69):AW X bB ⟨ah (qf fs fs.length),ae (iC fs W pts g f c d e) a⟩ fun s S'=>s= .exit 0∧S'=⟨ah [(0,aI)],ae (iC fs W pts g f c d e) a⟩:=by
 refine nR (M:=1000000) (N:=69) ⟨rfl,rfl,rfl,rfl,eS l rfl j p m,eS l rfl j p m⟩ rfl rfl (fun a X i n=> ?_) a X i n;rw[←gU,zY];refine en ((Xn l j p m fs.length false (by simp) _ X i n).mono ?_);rintro _ _ ⟨rfl,rfl⟩;refine en (iS (b:=false) rfl (fun h=>by cases h) (fun _=>jT (uN ⟨⟨ah [(0,aI)],ae (iC fs W pts g f c d e ++fZ) (dy 1000000 a)⟩, ?_,rfl,rfl,fun k o=>vF rfl _ k o,fun k o=>(qg (A:=iC fs W pts g f c d e) rfl rfl rfl _ k o).trans (congrFun (gU _ a).symm k)⟩)))
 exact nQ (fun q r=>by
  rw[xM]at r;subst r;rfl) rfl
theorem LV{fs:List Fn}{m:Nat}(ok:GR fs m):∀(mQ a:List Fn)(b:List (List Vr))(pts:List Pt)(g:Gv)(n:Nat)(u o t:AV),fs=a ++mQ→b.length=a.length→pts.length<1000000000→XS u→XS o→XS t→
    Rq fs (gn b fs.length) pts g n u o t a.length (cn fs a.length mQ b pts)
 |[],a,b,pts,g,n,u,o,t,h,s,hp,x,w,v=>by
  have:fs=a:=by rw[h,yC]
  subst this;exact⟨hp,s,g,n,u,o,t,x,w,v,fun d X i j=>aA (Rr (ju _ _) x w v d X i j) (by simp)⟩
 |f::mQ,a,b,pts,g,n,u,o,t,h,s,hp,x,w,v=>by
  have B:a.length<fs.length:=by rw[h];simp
  have E:fs[a.length]? =some f:=by rw[h];simp
  have c:=N6 ok (EA (by omega)) (ju b fs.length) hp g n x w v E (by rw[←s];exact EB (by omega));simp only[cn];revert c;cases jt fs a.length f pts with
  |out=>exact fun _=>trivial
  |bad p e=>exact fun ⟨l,c⟩=>⟨l,fun d X i j=>aA (c d X i j) (by simp)⟩
  |ok q=>
   rintro⟨K,l,c⟩
   have M:(gn b fs.length).set a.length (ku q.1)=gn (b ++[q.1]) fs.length:=by
    rw[←s];exact EC (by omega) q.1
   rw[M]at c;have k:=LV ok mQ (a ++[f]) (b ++[q.1]) q.2 l a.length (.mp 500002 l.vh) (.mp 500003 l.vs) (.mp 500004 l.vq) (by rw[h];simp) (by simp[s]) K (bl _) (US _) (UT _);have C:(a ++[f]).length=a.length+1:=by simp
   rw[C]at k;simp only[TR.bind];revert k;cases cn fs (a.length+1) mQ (b ++[q.1]) q.2 with
   |out=>exact fun _=>trivial
   |bad p e=>exact fun ⟨y,k⟩=>⟨y,fun d X i j=>au (c d X i j) (k d X i j)⟩
   |ok r=>exact fun ⟨H,z,y,J,G,F,D,A,L,I,k⟩=>⟨H,z,y,J,G,F,D,A,L,I,fun d X i j=>au (c d X i j) (k d X i j)⟩
end Go.Avm
namespace Go.Avm
open Go.Proofs
noncomputable def Rs{fs:List Fn}{W:List AV}{pts:List Pt}{g:Gv}{e:Nat}{c d f:AV}{x:aB}{l':List (Nat×AV)}{b:List (Nat×aE)}(h:RL 69 bB (qf fs 0) (iC fs W pts g e c d f) x l' b):dJ Pg:=
 ⟨69,bB,qf fs 0,fun _=>iC fs W pts g e c d f,x,l',fun _=>b,fun a X i j=>(h a X i j).aw⟩
section
variable{fs:List Fn}{W t:List AV}(l:iJ W)(h:iJ t){pts a:List Pt}{g k:Gv}{j x:Nat}{i b d o n m:AV}(u:XS i)(s:XS b)(r:XS d)(v:XS o)(y:XS n)(w:XS m)
include l u s r
theorem ED(p e:Int)(c:RL 69 bB (qf fs 0) (iC fs W pts g j i b d) (.panic (aD p e)) [] (cv k)):HX 27 [aI] (iC fs W pts g j i b d) (aD p e) (cv k):=
 qX ({loops:=fun f q=>if f=27 then (if q=1 then some (Rs c)else none)else none}) 2000 (⟨rfl,rfl,rfl,rfl,eS l rfl u s r,rfl⟩)
include h v y w
theorem GU(c:RL 69 bB (qf fs 0) (iC fs W pts g j i b d) (.exit 0) [(0,aI)] (iC fs t a k x o n m)):HC 27 [aI] (iC fs W pts g j i b d) [] (iC fs t a k x o n m):=
 qN ({loops:=fun f q=>if f=27 then (if q=1 then some (Rs c)else none)else none}) 2000 (⟨rfl,rfl,rfl,rfl,eS l rfl u s r,eS h rfl v y w⟩)
end
def bJ(a:List (List Vr)):List D:=a.map fun vs=> .ro (vs.map mX)
def fj(pts:List Pt):List D:=pts.map I3
abbrev UU(fs:List Fn)(a:List (List Vr))(pts:List Pt)(g:Gv)(e:Nat)(b c f:AV):List (Nat×aE):=
 [(500000,⟨1,some (.arr 1 [.mp 499904 1, .d (.ro (fs.map bn)), .d (.ro (bJ a)), .d (.ro (fj pts)),dN e,b,c,f,dI 0])⟩),(499904,⟨1,none⟩),(500002,⟨g.vh,none⟩),(500003,⟨g.vs,none⟩),(500004,⟨g.vq,none⟩),(500005,⟨g.vv,none⟩),(500382,⟨g.vp+1,none⟩),(500191,⟨2,none⟩)]
theorem GV{X:b4}{env:Nat→AV}(fs:List Fn)(b:List (List Vr))(q:b.length=fs.length)(pts:List Pt)(g:Gv)(e:Nat)(j f i:AV)(c:aa):Weak X ⟨env,ae (iC fs (gn b fs.length) pts g e j f i) c⟩ ⟨env,ae (UU fs b pts g e j f i) c⟩:=by
 have B:gn b fs.length=(bJ b).map .d:=by
  unfold gn bJ;rw[q,zM,List.replicate_zero,yC,yx];rfl
 have w:fs.length=(bJ b).length:=by rw[←q];simp[bJ]
 have y:pts.length=(fj pts).length:=by simp[fj]
 have v:pts.map bU=(fj pts).map .d:=by simp[fj,bU]
 rw[B]
 have z:=eo (X:=X) (env:=env) (h:=ae (iC fs ((bJ b).map .d) pts g e j f i) c) (C:=500000) (a:=2) (n:=2) (ces:=[.mp 499904 1, .d (.ro (fs.map bn)), .sl 500191 1 0 fs.length 1, .sl 500382 g.vp 0 pts.length 3,dN e,j,f,i,dI 0]) (x:= .sl 500191 1 0 fs.length 1) (d:= .ro (bJ b)) (ks:=[500191]) (by decide) (by simp[ae,aG]) rfl rfl (by
  rw[w];exact lu (n:=0) (by simp[ae,aG]))
 refine z.trans ?_
 have h2:∀k,aG (ap (ae (iC fs ((bJ b).map .d) pts g e j f i) c) (kill (ae (iC fs ((bJ b).map .d) pts g e j f i) c) [500191])) 500000 ⟨(ae (iC fs ((bJ b).map .d) pts g e j f i) c 500000).ver,some (.arr 1 (List.set [.mp 499904 1, .d (.ro (fs.map bn)), .sl 500191 1 0 fs.length 1, .sl 500382 g.vp 0 pts.length 3,dN e,j,f,i,dI 0] 2 (.d (.ro (bJ b)))))⟩ k=if k=500000 then ⟨1,some (.arr 1 [.mp 499904 1, .d (.ro (fs.map bn)), .d (.ro (bJ b)), .sl 500382 g.vp 0 pts.length 3,dN e,j,f,i,dI 0])⟩else if k=500191 then ⟨2,none⟩else ae (iC fs ((bJ b).map .d) pts g e j f i) c k:=fun k=>by
  simp only[aG];split
  ·simp[ae,aG]
  ·rw[bo]
   simp only[xM];split
   ·rename_i l
    subst l;simp[ae,aG]
   ·rfl
 rw[show(aG (ap (ae (iC fs ((bJ b).map .d) pts g e j f i) c) (kill (ae (iC fs ((bJ b).map .d) pts g e j f i) c) [500191])) 500000 ⟨(ae (iC fs ((bJ b).map .d) pts g e j f i) c 500000).ver,some (.arr 1 (List.set [.mp 499904 1, .d (.ro (fs.map bn)), .sl 500191 1 0 fs.length 1, .sl 500382 g.vp 0 pts.length 3,dN e,j,f,i,dI 0] 2 (.d (.ro (bJ b)))))⟩)=_ from funext h2];generalize m:(fun k=>if k=500000 then (⟨1,some (.arr 1 [.mp 499904 1, .d (.ro (fs.map bn)), .d (.ro (bJ b)), .sl 500382 g.vp 0 pts.length 3,dN e,j,f,i,dI 0])⟩:aE)else if k=500191 then ⟨2,none⟩else ae (iC fs ((bJ b).map .d) pts g e j f i) c k)=H
 have A:=eo (X:=X) (env:=env) (h:=H) (C:=500000) (a:=3) (n:=2) (ces:=[.mp 499904 1, .d (.ro (fs.map bn)), .d (.ro (bJ b)), .sl 500382 g.vp 0 pts.length 3,dN e,j,f,i,dI 0]) (x:= .sl 500382 g.vp 0 pts.length 3) (d:= .ro (fj pts)) (ks:=[500382]) (by decide) (by rw[←m];simp) rfl rfl (by
  rw[y];exact lu (n:=0) (by rw[←m];simp[ae,aG,v]))
 refine A.trans (eD fun k=> ?_)
 have o:aG (ap H (kill H [500382])) 500000 ⟨(H 500000).ver,some (.arr 1 (List.set [.mp 499904 1, .d (.ro (fs.map bn)), .d (.ro (bJ b)), .sl 500382 g.vp 0 pts.length 3,dN e,j,f,i,dI 0] 3 (.d (.ro (fj pts)))))⟩ k=if k=500000 then ⟨1,some (.arr 1 [.mp 499904 1, .d (.ro (fs.map bn)), .d (.ro (bJ b)), .d (.ro (fj pts)),dN e,j,f,i,dI 0])⟩else if k=500382 then ⟨g.vp+1,none⟩else H k:=by
  simp only[aG];split
  ·rw[←m];simp
  ·rw[bo]
   simp only[xM];split
   ·rename_i l
    subst l;rw[←m];simp[ae,aG]
   ·rfl
 rw[o,←m];simp only[UU,iC,ae,aG];by_cases t:k=500000
 ·subst t;simp
 by_cases u:k=499904
 ·subst u;simp
 by_cases h2:k=500002
 ·subst h2;simp
 by_cases o:k=500003
 ·subst o;simp
 by_cases p:k=500004
 ·subst p;simp
 by_cases l:k=500005
 ·subst l;simp
 by_cases s:k=500382
 ·subst s;simp
 by_cases r:k=500191
 ·subst r;simp
 simp only[t,u,h2,o,p,l,s,r,yi];simp
theorem J5{G:Gh}{B:Nat}{w0 w:World}{I0:Nat→Nat→Prop}{h:aa}(b:HR G B w0 I0 h w){K:Nat}{x:D}(k:(h K).ob=some (.arr 3 [.agg [.d x, .nils, .nils]])):HR G B w0 I0 (aG h K ⟨(h K).ver,some (.arr 3 [.d (.agg [x, .ro [], .ro []])])⟩) w:=by
 refine b.reob ?_ rfl;rcases b.objs K _ k with ⟨n,_⟩|⟨L,l,m,p,o,q,r,f⟩
 ·cases n
 refine .inr ⟨L,l,m,p,o,fun e j=>by rw[xM]at j;subst j;rfl,(fun h=>absurd h (by decide)),fun t c a=> ?_⟩;match t,a with
 |0,a=>
  cases a;exact f 0 (.d x) rfl
 |1,a=>
  cases a;obtain⟨u,g,i,b⟩:=f 1 .nils rfl;refine⟨u,g,i, ?_⟩;cases b;exact .d (.roNil _ _)
 |2,a=>
  cases a;obtain⟨u,g,i,b⟩:=f 2 .nils rfl;refine⟨u,g,i, ?_⟩;cases b;exact .d (.roNil _ _)
theorem t6{X:b4}{env:Nat→AV}{h:aa}{K:Nat}{x:D}(a:(h K).ob=some (.arr 3 [.agg [.d x, .nils, .nils]])):Weak X ⟨env,h⟩ ⟨env,aG h K ⟨(h K).ver,some (.arr 3 [.d (.agg [x, .ro [], .ro []])])⟩⟩:=fun G ac w ⟨c,b,f,e⟩=>⟨G,Ext.refl G w,J5 c a,b,f,e⟩
theorem GW{P:Program}(hm:jF P){h d:aa}(hw:∀(X:b4)(env:Nat→AV),Weak X ⟨env,h⟩ ⟨env,d⟩){G:Gh}{B:Nat}{w0 w:World}{I0:Nat→Nat→Prop}(g:HR G B w0 I0 h w):∃c,Ext G w c w∧HR c B w0 I0 d w:=by
 let X:b4:={P:=P,B:=B,w0:=w0,I0:=I0,N:=0,mixed:=hm}
 obtain⟨e,k,i,_⟩:=hw X (fun _=> .junk) G {tmps:= #[],defers:=[]} w ⟨g,[],⟨rfl,rfl,fun t f=>absurd f (by simp[X]),fun _ _=>rfl⟩,⟨yV,fun b a=>by simp at a,fun b a=>by simp at a,fun l j=>by simp[X]at j,xz _⟩⟩;exact⟨e,k,i⟩
theorem EE{P:Program}(hm:jF P){f:Nat}{args d:List AV}{h g h2:aa}(c:am P f args g d h2)(hw:∀(X:b4)(env:Nat→AV),Weak X ⟨env,h⟩ ⟨env,g⟩):am P f args h d h2:=
 ⟨c.1,fun G B w0 I0 w b q t a=>by
  obtain⟨k,e,s⟩:=GW hm hw q;exact(c.2 k B w0 I0 w b s t (fun i x u o n=>(a i x u o n).mono e)).mono fun _ _ ⟨v,r,j,m,l,p⟩=>⟨v,r,j,e.trans m,l,p⟩⟩
theorem zZ{P:Program}(hm:jF P){f:Nat}{args:List AV}{x:AV}{h e h2:aa}(c:iH P f args e x h2)(hw:∀(X:b4)(env:Nat→AV),Weak X ⟨env,h⟩ ⟨env,e⟩):iH P f args h x h2:=
 ⟨c.1,fun G B w0 I0 w b p s a=>by
  obtain⟨j,d,r⟩:=GW hm hw p;exact(c.2 j B w0 I0 w b r s (fun i x u n m=>(a i x u n m).mono d)).mono fun _ _ ⟨v,q,g,l,k,o⟩=>⟨v,q,g,d.trans l,k,o⟩⟩
abbrev LX(fs:List Fn):List (Nat×aE):=
 [(500000,⟨1,some (.arr 1 [.mp 499904 1, .d (.ro (fs.map bn)), .sl 500191 1 0 (fs.map bn).length 1, .sl 500382 1 0 1 3,dI 0, .junk, .junk, .junk,dI 0])⟩),(499904,⟨1,some (.map [] 0)⟩),(500382,⟨1,some (.arr 3 [.agg [dI 0, .nils, .nils]])⟩),(500191,⟨1,some (.arr 1 (List.replicate (fs.map bn).length .nils))⟩)]
theorem sg(fs:List Fn)(a:aa)(X:b4)(env:Nat→AV):Weak X ⟨env,ae (LX fs) a⟩ ⟨env,ae (fE fs [] 0 .junk) a⟩:=by
 have w:=t6 (X:=X) (env:=env) (h:=ae (LX fs) a) (K:=500382) (x:= .int .i64 0) (by simp[ae,aG])
 have e:aG (ae (LX fs) a) 500382 ⟨(ae (LX fs) a 500382).ver,some (.arr 3 [.d (.agg [.int .i64 0, .ro [], .ro []])])⟩=ae (fE fs [] 0 .junk) a:=by
  funext k;have c:(ae (LX fs) a 500382).ver=1:=by simp[ae,aG]
  rw[c];simp only[LX,fE,xO,ae,aG];by_cases b:k=500382
  ·subst b;rfl
  ·simp only[b,yi]
 rw[e]at w;exact w
abbrev t7(a:List (List Vr))(pts:List Pt):D:= .agg [.ro (bJ a), .ro (fj pts)]
def UV(P:Program)(fs:List Fn)(h:fs.length<1000000):bX P:= .mk ((fs.map bn).length:Int) (by omega) (by rw[xO];omega)
section
variable{fs:List Fn}(a:fs.length<1000000)
include a
theorem Xo(p e:Int)(c:HX 26 [aI] (LX fs) (aD p e) AP):aF Pg 13 [.agg [.ro (fs.map bn)]] [.agg [.ro [], .ro []], .int .i64 p, .int .i64 e]:=
 qV {hint:=qT 13 [(14,UV Pg fs a)],pans:=an Pg [(13,5,500518,⟨1,some (bg c),[]⟩)]} 499774
variable(c:HC 26 [aI] (LX fs) [] (fE fs (kq 0 fs) fs.length .junk))
include c
theorem X4(p e:Int)(g:Gv)(b:HX 27 [aI] (iC fs (gn [] fs.length) [dz] ⟨0,0,0,0,1⟩ 0 .junk .junk .junk) (aD p e) (cv g)):aF Pg 13 [.agg [.ro (fs.map bn)]] [.agg [.ro [], .ro []], .int .i64 p, .int .i64 e]:=
 qV {hint:=qT 13 [(14,UV Pg fs a)],calls:=tC [(13,24,500549,ad c)],pans:=an Pg [(13,6,500549,⟨1,some (bg b),[]⟩)]} 499774
theorem X5(b:List (List Vr))(pts:List Pt)(g:Gv)(h:Nat)(e f i:AV)(d:HC 27 [aI] (iC fs (gn [] fs.length) [dz] ⟨0,0,0,0,1⟩ 0 .junk .junk .junk) [] (UU fs b pts g h e f i)):aF Pg 13 [.agg [.ro (fs.map bn)]] [t7 b pts, .int .i64 0, .int .i64 0]:=
 qV {hint:=qT 13 [(14,UV Pg fs a)],calls:=tC [(13,24,500549,ad c),(13,26,500580,ad d)]} 499774
end
def nT:TR (List (List Vr)×List Pt)→List D
 | .ok q=>[t7 q.1 q.2, .int .i64 0, .int .i64 0]
 | .bad p e=>[.agg [.ro [], .ro []], .int .i64 p, .int .i64 e]
 | .out=>[]
theorem J6:XS .junk:=fun _ _ _ _=>rfl
theorem N7{fs:List Fn}{m:Nat}(ok:GR fs m)(c:du fs≠ .out):aF Pg 13 [.agg [.ro (fs.map bn)]] (nT (du fs)):=by
 have b:=GM (fs:=fs) (nn:= .junk) (fun _=>rfl) ok.len;unfold du at c ⊢;revert b c;cases f0 fs with
 |out=>exact fun c _=>absurd rfl c
 |bad p e=>
  intro _ b;simp only[TZ]at b;exact Xo ok.len p e fun a=>zZ b9 (b a) (sg fs a)
 |ok _=>
  intro c b;simp only[TZ]at b;have b:=fun a=>EE b9 (b a) (sg fs a)
  have cb:=LV ok fs [] [] [dz] ⟨0,0,0,0,1⟩ 0 .junk .junk .junk rfl rfl (by simp) J6 J6 J6;simp only[TR.bind]at c ⊢;revert cb c;show cn fs 0 fs [] [dz]≠ .out→Rq fs (gn [] fs.length) [dz] ⟨0,0,0,0,1⟩ 0 .junk .junk .junk 0 (cn fs 0 fs [] [dz])→_;cases cn fs 0 fs [] [dz]with
  |out=>exact fun c _=>absurd rfl c
  |bad p e=>exact fun _ ⟨g,d⟩=>X4 ok.len b p e g (ED (ju _ _) J6 J6 J6 p e d)
  |ok q=>
   rintro _ ⟨hp,l,g,j,i,h,f,n,k,r,d⟩;have o:=GU (ju _ _) (ju _ _) J6 J6 J6 n k r d;exact X5 ok.len b q.1 q.2 g j i h f fun a=>sd b9 (o a) fun X env=>GV fs q.1 l q.2 g j i h f a
end Go.Avm
namespace Go.Avm
open Go.Proofs
section
variable{L:List T}{s:RS}(a:s.i<L.length)
include a
theorem bq:HC 24 [rP] (rd L s) [tD (bZ L s)] (rd L s):=
 qN {hint:=qT 24 [(11,Uc Pg a)]} 1000
theorem J7:HX 71 [rP] (rd L s) (dA (bZ L s).p 4) (rd L s):=
 qX {calls:=tC [(71,3,1007,ad (bq a))],pans:=an Pg [(71,0,1000,⟨5,none,[]⟩)]} 1000
theorem X6(x:List UInt8)(b:((bZ L s).k==2)=true):HC 70 [rP, .d (.str x)] (rd L s) [.bool ((bZ L s).t==x)] (rd L s):=
 qN {hint:=qT 70 [(10,qB b)],calls:=tC [(70,7,1044,ad (bq a))]} 1000
theorem X7(x:List UInt8)(b:((bZ L s).k==2)=false)(h2:((bZ L s).k==4)=true):HC 70 [rP, .d (.str x)] (rd L s) [.bool ((bZ L s).t==x)] (rd L s):=
 qN {hint:=qT 70 [(10,qB b),(14,qB h2)],calls:=tC [(70,7,1044,ad (bq a))]} 1000
theorem X8(x:List UInt8)(b:((bZ L s).k==2)=false)(h2:((bZ L s).k==4)=false):HC 70 [rP, .d (.str x)] (rd L s) [.bool false] (rd L s):=
 qN {hint:=qT 70 [(10,qB b),(14,qB h2)],calls:=tC [(70,7,1044,ad (bq a))]} 1000
theorem B1(x:List UInt8):HC 70 [rP, .d (.str x)] (rd L s) [.bool (bV L s x)] (rd L s):=by
 unfold bV;cases b:((bZ L s).k==2)with
 |true=>exact X6 a x b
 |false=>cases h2:((bZ L s).k==4)with
  |true=>exact X7 a x b h2
  |false=>exact X8 a x b h2
theorem Rt(b:dC L)(k:Int)(h:(bZ L s).k=k):HC 41 [rP, .d (.int .u8 k)] (rd L s) [tD (bZ L s)] (rd L s.nx):=
 qN {hint:=qT 41 [(11,hB Pg ((bZ L s).k !=k) false (by simp[h])),(18,bj Pg s.i (by have:=b.len;omega))],calls:=tC [(41,7,1044,ad (bq a))]} 1000
theorem Ru(k:Int)(h:(bZ L s).k≠k):HX 41 [rP, .d (.int .u8 k)] (rd L s) (dA (bZ L s).p 4) (rd L s):=
 qX {hint:=qT 41 [(11,hB Pg ((bZ L s).k !=k) true (by simpa using h))],calls:=tC [(41,7,1044,ad (bq a))],pans:=an Pg [(41,3,1176,⟨1,some (bg (J7 a)),[]⟩)]} 1000
theorem pB(b:dC L)(k:Int)(c:k≠0):RC L 41 [rP, .d (.int .u8 k)] (fun t=>[tD t]) s (eJ L k s):=by
 unfold eJ;cases h:((bZ L s).k==k)with
 |true=>
  have h:=eq_of_beq h;exact⟨CV b a (by rw[h];exact c),Rt a b k h⟩
 |false=>
  exact Ru a k (by simpa using h)
theorem Rv(x:List UInt8)(h:bV L s x=false):HX 40 [rP, .d (.str x)] (rd L s) (dA (bZ L s).p 4) (rd L s):=
 qX {hint:=qT 40 [(9,hB Pg (!bV L s x) true (by simp[h]))],calls:=tC [(40,8,1162,ad (B1 a x))],pans:=an Pg [(40,2,1216,⟨1,some (bg (J7 a)),[]⟩)]} 1000
theorem GX(b:dC L)(x:List UInt8)(h:bV L s x=true)(j:(x==[40])=false)(h2:(x==[91])=false)(g:(x==[123])=false)(f:(x==[41])=false)(c:(x==[93])=false)(e:(x==[125])=false):
    HC 40 [rP, .d (.str x)] (rd L s) [tD (bZ L s)] (rd L s.nx):=
 qN {hint:=qT 40 [(9,hB Pg (!bV L s x) false (by simp[h])),(16,qB j),(17,qB h2),(18,qB g),(36,qB f),(37,qB c),(38,qB e),(50,bj Pg s.i (by have:=b.len;omega))],calls:=tC [(40,8,1162,ad (B1 a x)),(40,13,1270,ad (bq a))]} 1000
theorem J8(c:dC L)(h:bV L s [40]=true)(b:decide (200<fh (s.op+1))=false):
    HC 40 [rP, .d (.str [40])] (rd L s) [tD (bZ L s)] (rd L ⟨s.i+1,fh (s.op+1),s.n⟩):=
 qN {hint:=qT 40 [(9,hB Pg (!bV L s [40]) false (by simp[h])),(30,qB b),(50,bj Pg s.i (by have:=c.len;omega))],calls:=tC [(40,8,1162,ad (B1 a [40])),(40,13,1270,ad (bq a))]} 1000
theorem J9(h:bV L s [40]=true)(b:decide (200<fh (s.op+1))=true):
    HX 40 [rP, .d (.str [40])] (rd L s) (dA (bZ L s).p 5) (rd L {s with op:=fh (s.op+1)}):=
 qX {hint:=qT 40 [(9,hB Pg (!bV L s [40]) false (by simp[h])),(30,qB b)],calls:=tC [(40,8,1162,ad (B1 a [40])),(40,13,1270,ad (bq a))],pans:=an Pg [(40,10,2242,⟨4,none,[]⟩)]} 1000
theorem Ka(c:dC L)(h:bV L s [91]=true)(b:decide (200<fh (s.op+1))=false):
    HC 40 [rP, .d (.str [91])] (rd L s) [tD (bZ L s)] (rd L ⟨s.i+1,fh (s.op+1),s.n⟩):=
 qN {hint:=qT 40 [(9,hB Pg (!bV L s [91]) false (by simp[h])),(30,qB b),(50,bj Pg s.i (by have:=c.len;omega))],calls:=tC [(40,8,1162,ad (B1 a [91])),(40,13,1270,ad (bq a))]} 1000
theorem Kb(h:bV L s [91]=true)(b:decide (200<fh (s.op+1))=true):
    HX 40 [rP, .d (.str [91])] (rd L s) (dA (bZ L s).p 5) (rd L {s with op:=fh (s.op+1)}):=
 qX {hint:=qT 40 [(9,hB Pg (!bV L s [91]) false (by simp[h])),(30,qB b)],calls:=tC [(40,8,1162,ad (B1 a [91])),(40,13,1270,ad (bq a))],pans:=an Pg [(40,10,2350,⟨4,none,[]⟩)]} 1000
theorem GY(c:dC L)(h:bV L s [123]=true)(b:decide (200<fh (s.op+1))=false):
    HC 40 [rP, .d (.str [123])] (rd L s) [tD (bZ L s)] (rd L ⟨s.i+1,fh (s.op+1),s.n⟩):=
 qN {hint:=qT 40 [(9,hB Pg (!bV L s [123]) false (by simp[h])),(30,qB b),(50,bj Pg s.i (by have:=c.len;omega))],calls:=tC [(40,8,1162,ad (B1 a [123])),(40,13,1270,ad (bq a))]} 1000
theorem GZ(h:bV L s [123]=true)(b:decide (200<fh (s.op+1))=true):
    HX 40 [rP, .d (.str [123])] (rd L s) (dA (bZ L s).p 5) (rd L {s with op:=fh (s.op+1)}):=
 qX {hint:=qT 40 [(9,hB Pg (!bV L s [123]) false (by simp[h])),(30,qB b)],calls:=tC [(40,8,1162,ad (B1 a [123])),(40,13,1270,ad (bq a))],pans:=an Pg [(40,10,2458,⟨4,none,[]⟩)]} 1000
theorem Kc(b:dC L)(h:bV L s [41]=true):
    HC 40 [rP, .d (.str [41])] (rd L s) [tD (bZ L s)] (rd L ⟨s.i+1,fh (s.op-1),s.n⟩):=
 qN {hint:=qT 40 [(9,hB Pg (!bV L s [41]) false (by simp[h])),(50,bj Pg s.i (by have:=b.len;omega))],calls:=tC [(40,8,1162,ad (B1 a [41])),(40,13,1270,ad (bq a))]} 1000
theorem Kd(b:dC L)(h:bV L s [93]=true):
    HC 40 [rP, .d (.str [93])] (rd L s) [tD (bZ L s)] (rd L ⟨s.i+1,fh (s.op-1),s.n⟩):=
 qN {hint:=qT 40 [(9,hB Pg (!bV L s [93]) false (by simp[h])),(50,bj Pg s.i (by have:=b.len;omega))],calls:=tC [(40,8,1162,ad (B1 a [93])),(40,13,1270,ad (bq a))]} 1000
theorem G4(b:dC L)(h:bV L s [125]=true):
    HC 40 [rP, .d (.str [125])] (rd L s) [tD (bZ L s)] (rd L ⟨s.i+1,fh (s.op-1),s.n⟩):=
 qN {hint:=qT 40 [(9,hB Pg (!bV L s [125]) false (by simp[h])),(50,bj Pg s.i (by have:=b.len;omega))],calls:=tC [(40,8,1162,ad (B1 a [125])),(40,13,1270,ad (bq a))]} 1000
theorem cw(c:dC L)(x:List UInt8):RC L 40 [rP, .d (.str x)] (fun t=>[tD t]) s (aL L x s):=by
 unfold aL;cases h:bV L s x with
 |false=>exact Rv a x h
 |true=>
  have e:=vk c a h;simp only[xW];cases k:(x==[40])with
  |true=>
   obtain rfl:x=[40]:=eq_of_beq k;simp only[Bool.true_or,xW];cases b:decide (200<fh (s.op+1))with
   |true=>exact J9 a h b
   |false=>exact⟨e,J8 a c h b⟩
  |false=>cases h2:(x==[91])with
  |true=>
   obtain rfl:x=[91]:=eq_of_beq h2;simp only[Bool.true_or,Bool.or_true,xW];cases b:decide (200<fh (s.op+1))with
   |true=>exact Kb a h b
   |false=>exact⟨e,Ka a c h b⟩
  |false=>cases j:(x==[123])with
  |true=>
   obtain rfl:x=[123]:=eq_of_beq j;simp only[Bool.true_or,Bool.or_true,xW];cases b:decide (200<fh (s.op+1))with
   |true=>exact GZ a h b
   |false=>exact⟨e,GY a c h b⟩
  |false=>cases i:(x==[41])with
  |true=>
   obtain rfl:x=[41]:=eq_of_beq i;exact⟨e,Kc a c h⟩
  |false=>cases f:(x==[93])with
  |true=>
   obtain rfl:x=[93]:=eq_of_beq f;exact⟨e,Kd a c h⟩
  |false=>cases g:(x==[125])with
  |true=>
   obtain rfl:x=[125]:=eq_of_beq g;exact⟨e,G4 a c h⟩
  |false=>exact⟨e,GX a c x h k h2 j i f g⟩
theorem ak(x:List UInt8)(h:bV L s x=false):HC 45 [rP, .d (.str x)] (rd L s) [.bool false] (rd L s):=
 qN {hint:=qT 45 [(8,hB Pg (!bV L s x) true (by simp[h]))],calls:=tC [(45,7,1036,ad (B1 a x))]} 1000
theorem mayT(x:List UInt8)(h:bV L s x=true)(t:T)(b:RS)(hw:HC 40 [rP, .d (.str x)] (rd L s) [tD t] (rd L b)):HC 45 [rP, .d (.str x)] (rd L s) [.bool true] (rd L b):=
 qN {hint:=qT 45 [(8,hB Pg (!bV L s x) false (by simp[h]))],calls:=tC [(45,7,1036,ad (B1 a x)),(45,11,1072,ad hw)]} 1000
theorem UW(x:List UInt8)(h:bV L s x=true)(p e:Int)(b:RS)(hw:HX 40 [rP, .d (.str x)] (rd L s) (dA p e) (rd L b)):HX 45 [rP, .d (.str x)] (rd L s) (dA p e) (rd L b):=
 qX {hint:=qT 45 [(8,hB Pg (!bV L s x) false (by simp[h]))],calls:=tC [(45,7,1036,ad (B1 a x))],pans:=an Pg [(45,3,1048,⟨2,some (bg hw),[]⟩)]} 1000
theorem Rx(f:dC L)(x:List UInt8):RC L 45 [rP, .d (.str x)] (fun b=>[.bool b]) s (cD L x s):=by
 unfold cD;cases h:bV L s x with
 |false=>exact⟨a,ak a x h⟩
 |true=>
  simp only[xW];have hw:=cw a f x;revert hw;cases aL L x s with
  |ok t c=>exact fun hw=>⟨hw.1,mayT a x h t c hw.2⟩
  |bad p e c=>exact fun hw=>UW a x h p e c hw
  |out=>exact fun _=>trivial
theorem aW(x:List UInt8){b:Bool}(h:bV L s x=b):HC 70 [rP, .d (.str x)] (rd L s) [.bool b] (rd L s):=h▸B1 a x
end
section
variable{L:List T}{F:Nat}{args:List AV}{s0:RS}{f j:Type}{g:f→List D}
theorem RC.bind{d:Nat}{b:List AV}{l:j→List D}{s:RS}{r:Res j}{k:j→RS→Res f}(h:RC L d b l s r)
    (m:∀p e c,(HX d b (rd L s) (dA p e) (rd L c))→HX F args (rd L s0) (dA p e) (rd L c))
    (n:∀a c,c.i<L.length→(HC d b (rd L s) (l a) (rd L c))→RC L F args g s0 (k a c)):RC L F args g s0 (r.bind k):=by
 cases r with
 |ok a c=>exact n a c h.1 h.2
 |bad p e c=>exact m p e c h
 |out=>trivial
theorem RC.may{s:RS}(k:s.i<L.length)(l:dC L)(x:List UInt8){X Y:RS→Res f}
    (o:∀p e a,(HX 45 [rP, .d (.str x)] (rd L s) (dA p e) (rd L a))→HX F args (rd L s0) (dA p e) (rd L a))
    (q:∀a,a.i<L.length→(HC 45 [rP, .d (.str x)] (rd L s) [.bool true] (rd L a))→RC L F args g s0 (X a))
    (n:bV L s x=false→RC L F args g s0 (Y s)):RC L F args g s0 ((cD L x s).bind fun b c=>bif b then X c else Y c):=by
 have h:=Rx k l x;revert h;unfold cD;cases m:bV L s x with
 |false=>exact fun _=>n m
 |true=>
  simp only[xW];cases aL L x s with
  |ok t a=>exact fun h=>q a h.1 h.2
  |bad p e a=>exact fun h=>o p e a h
  |out=>exact fun _=>trivial
theorem RC.ite{c:Bool}{X Y:Res f}(a:c=true→RC L F args g s0 X)(b:c=false→RC L F args g s0 Y):RC L F args g s0 (bif c then X else Y):=by
 cases h:c with
 |true=>exact a h
 |false=>exact b h
end
end Go.Avm
namespace Go.Avm
open Go.Proofs
theorem N8:aF Tryz.prog 89 [.int .u8 1] [.str [43], .int .i64 9]:=aK b9 named {} 1000 709297 (by kernel_rfl)
theorem N9:aF Tryz.prog 89 [.int .u8 2] [.str [45], .int .i64 9]:=aK b9 named {} 1000 709297 (by kernel_rfl)
theorem Oa:aF Tryz.prog 89 [.int .u8 3] [.str [42], .int .i64 10]:=aK b9 named {} 1000 709297 (by kernel_rfl)
theorem Oc:aF Tryz.prog 89 [.int .u8 4] [.str [47], .int .i64 10]:=aK b9 named {} 1000 709297 (by kernel_rfl)
theorem Od:aF Tryz.prog 89 [.int .u8 5] [.str [37], .int .i64 10]:=aK b9 named {} 1000 709297 (by kernel_rfl)
theorem Oe:aF Tryz.prog 89 [.int .u8 6] [.str [38], .int .i64 7]:=aK b9 named {} 1000 709297 (by kernel_rfl)
theorem Of:aF Tryz.prog 89 [.int .u8 7] [.str [124], .int .i64 5]:=aK b9 named {} 1000 709297 (by kernel_rfl)
theorem Og:aF Tryz.prog 89 [.int .u8 8] [.str [94], .int .i64 6]:=aK b9 named {} 1000 709297 (by kernel_rfl)
theorem Oh:aF Tryz.prog 89 [.int .u8 9] [.str [60,60], .int .i64 8]:=aK b9 named {} 1000 709297 (by kernel_rfl)
theorem G5:aF Tryz.prog 89 [.int .u8 10] [.str [62,62], .int .i64 8]:=aK b9 named {} 1000 709297 (by kernel_rfl)
theorem G6:aF Tryz.prog 89 [.int .u8 11] [.str [60], .int .i64 4]:=aK b9 named {} 1000 709297 (by kernel_rfl)
theorem G7:aF Tryz.prog 89 [.int .u8 12] [.str [60,61], .int .i64 4]:=aK b9 named {} 1000 709297 (by kernel_rfl)
theorem G8:aF Tryz.prog 89 [.int .u8 13] [.str [62], .int .i64 4]:=aK b9 named {} 1000 709297 (by kernel_rfl)
theorem G9:aF Tryz.prog 89 [.int .u8 14] [.str [62,61], .int .i64 4]:=aK b9 named {} 1000 709297 (by kernel_rfl)
theorem Ha:aF Tryz.prog 89 [.int .u8 15] [.str [61,61], .int .i64 3]:=aK b9 named {} 1000 709297 (by kernel_rfl)
theorem Hb:aF Tryz.prog 89 [.int .u8 16] [.str [33,61], .int .i64 3]:=aK b9 named {} 1000 709297 (by kernel_rfl)
theorem Hc:aF Tryz.prog 89 [.int .u8 17] [.str [38,38], .int .i64 2]:=aK b9 named {} 1000 709297 (by kernel_rfl)
theorem Hd:aF Tryz.prog 89 [.int .u8 18] [.str [124,124], .int .i64 1]:=aK b9 named {} 1000 709297 (by kernel_rfl)
theorem cB:aF Tryz.prog 89 [.int .u8 19] [.str [45], .int .i64 11]:=aK b9 named {} 1000 709297 (by kernel_rfl)
theorem cU:aF Tryz.prog 89 [.int .u8 20] [.str [126], .int .i64 11]:=aK b9 named {} 1000 709297 (by kernel_rfl)
theorem dw:aF Tryz.prog 89 [.int .u8 21] [.str [33], .int .i64 11]:=aK b9 named {} 1000 709297 (by kernel_rfl)
end Go.Avm
namespace Go.Avm
open Go.Proofs
section
variable{L:List T}(a:dC L)
include a
theorem Ke(n:Nat)(R:∀s:RS,s.i<L.length→RC L 128 [rP] (fun e=>[fd e]) s (gQ L n s))(T:∀(k:Int)(s:RS),s.i<L.length→RC L 100 [rP,dI k] (fun e=>[fd e]) s (bH L n k s))(ihP:∀s:RS,s.i<L.length→RC L 131 [rP] (fun e=>[fd e]) s (d8 L n s))
    (Z:∀(nm:List UInt8)(p:Int)(s:RS),s.i<L.length→RC L 130 [rP, .d (.str nm),dI p] (fun e=>[fd e]) s (gk L n nm p s)) (s:RS) (l:s.i<L.length):RC L 128 [rP] (fun e=>[fd e]) s (gQ L (n+1) s):=by
 simp only[gQ];refine RC.may l a [45] ?_ ?_ ?_
 ·exact fun _ _ _ c=>qX {hint:=qT 128 [(21, .call 89 _ _ cB)],calls:=tC [(128,12,1244,ad (bq l))],pans:=an Pg [(128,6,3074,⟨2,some (bg c),[]⟩)]} 1000
 ·intro s1 l1 c1
  refine RC.bind (R _ l1) ?_ ?_
  ·exact fun _ _ _ c=>qX {hint:=qT 128 [(21, .call 89 _ _ cB)],calls:=tC [(128,12,1244,ad (bq l)),(128,26,3318,ad c1)],pans:=an Pg [(128,7,3318,⟨4,some (bg c),[]⟩)]} 1000
  ·intro x s2 X M
   obtain⟨K,F,w,H,G,v⟩:=x;exact⟨X,qN {hint:=qT 128 [(21, .call 89 _ _ cB)],calls:=tC [(128,12,1244,ad (bq l)),(128,26,3318,ad c1),(128,31,3806,ad M)]} 1000⟩
 ·intro f
  refine RC.may l a [126] ?_ ?_ ?_
  ·exact fun _ _ _ c=>qX {hintB:=bi Pg [(128,21,2464, .call 89 _ _ cB),(128,21,4172, .call 89 _ _ cU)],calls:=tC [(128,12,1244,ad (bq l)),(128,26,3318,ad (ak l [45] f))],pans:=an Pg [(128,6,4782,⟨2,some (bg c),[]⟩)]} 1000
  ·intro s2 X M
   refine RC.bind (R _ X) ?_ ?_
   ·exact fun _ _ _ c=>qX {hintB:=bi Pg [(128,21,2464, .call 89 _ _ cB),(128,21,4172, .call 89 _ _ cU)],calls:=tC [(128,12,1244,ad (bq l)),(128,26,3318,ad (ak l [45] f)),(128,26,5026,ad M)],pans:=an Pg [(128,7,5026,⟨4,some (bg c),[]⟩)]} 1000
   ·intro x s3 Y N
    obtain⟨K,F,w,H,G,v⟩:=x;exact⟨Y,qN {hintB:=bi Pg [(128,21,2464, .call 89 _ _ cB),(128,21,4172, .call 89 _ _ cU)],calls:=tC [(128,12,1244,ad (bq l)),(128,26,3318,ad (ak l [45] f)),(128,26,5026,ad M),(128,31,5514,ad N)]} 1000⟩
  ·intro h2
   refine RC.may l a [33] ?_ ?_ ?_
   ·exact fun _ _ _ c=>qX {hintB:=bi Pg [(128,21,2464, .call 89 _ _ cB),(128,21,4172, .call 89 _ _ cU),(128,21,5880, .call 89 _ _ dw)],calls:=tC [(128,12,1244,ad (bq l)),(128,26,3318,ad (ak l [45] f)),(128,26,5026,ad (ak l [126] h2))],pans:=an Pg [(128,6,6490,⟨2,some (bg c),[]⟩)]} 1000
   ·intro s3 Y N
    refine RC.bind (R _ Y) ?_ ?_
    ·exact fun _ _ _ c=>qX {hintB:=bi Pg [(128,21,2464, .call 89 _ _ cB),(128,21,4172, .call 89 _ _ cU),(128,21,5880, .call 89 _ _ dw)],calls:=tC [(128,12,1244,ad (bq l)),(128,26,3318,ad (ak l [45] f)),(128,26,5026,ad (ak l [126] h2)),(128,26,6734,ad N)],pans:=an Pg [(128,7,6734,⟨4,some (bg c),[]⟩)]} 1000
    ·intro x s4 l4 c4
     obtain⟨K,F,w,H,G,v⟩:=x;exact⟨l4,qN {hintB:=bi Pg [(128,21,2464, .call 89 _ _ cB),(128,21,4172, .call 89 _ _ cU),(128,21,5880, .call 89 _ _ dw)],calls:=tC [(128,12,1244,ad (bq l)),(128,26,3318,ad (ak l [45] f)),(128,26,5026,ad (ak l [126] h2)),(128,26,6734,ad N),(128,31,7222,ad c4)]} 1000⟩
   ·intro j
    refine RC.ite (fun g=> ?_) (fun g=> ?_)
    ·
     have O:s.nx.i<L.length:=CV a l (by rw[eq_of_beq g];decide);exact⟨O,qN {hintB:=bi Pg [(128,21,2464, .call 89 _ _ cB),(128,21,4172, .call 89 _ _ cU),(128,21,5880, .call 89 _ _ dw),(128,38,7344,qB g),(128,43,8076,bj Pg s.i (by have:=a.len;omega))],calls:=tC [(128,12,1244,ad (bq l)),(128,26,3318,ad (ak l [45] f)),(128,26,5026,ad (ak l [126] h2)),(128,26,6734,ad (ak l [33] j))]} 1000⟩
    ·
     refine RC.may l a [116,114,117,101] ?_ ?_ ?_
     ·exact fun _ _ _ c=>qX {hintB:=bi Pg [(128,21,2464, .call 89 _ _ cB),(128,21,4172, .call 89 _ _ cU),(128,21,5880, .call 89 _ _ dw),(128,38,7344,qB g)],calls:=tC [(128,12,1244,ad (bq l)),(128,26,3318,ad (ak l [45] f)),(128,26,5026,ad (ak l [126] h2)),(128,26,6734,ad (ak l [33] j))],pans:=an Pg [(128,12,7588,⟨1,some (bg c),[]⟩)]} 1000
     ·intro s5 O c5
      exact⟨O,qN {hintB:=bi Pg [(128,21,2464, .call 89 _ _ cB),(128,21,4172, .call 89 _ _ cU),(128,21,5880, .call 89 _ _ dw),(128,38,7344,qB g)],calls:=tC [(128,12,1244,ad (bq l)),(128,26,3318,ad (ak l [45] f)),(128,26,5026,ad (ak l [126] h2)),(128,26,6734,ad (ak l [33] j)),(128,53,7710,ad c5)]} 1000⟩
     ·intro m
      refine RC.may l a [102,97,108,115,101] ?_ ?_ ?_
      ·exact fun _ _ _ c=>qX {hintB:=bi Pg [(128,21,2464, .call 89 _ _ cB),(128,21,4172, .call 89 _ _ cU),(128,21,5880, .call 89 _ _ dw),(128,38,7344,qB g)],calls:=tC [(128,12,1244,ad (bq l)),(128,26,3318,ad (ak l [45] f)),(128,26,5026,ad (ak l [126] h2)),(128,26,6734,ad (ak l [33] j)),(128,53,7710,ad (ak l [116,114,117,101] m))],pans:=an Pg [(128,14,7832,⟨1,some (bg c),[]⟩)]} 1000
      ·intro s6 l6 c6
       exact⟨l6,qN {hintB:=bi Pg [(128,21,2464, .call 89 _ _ cB),(128,21,4172, .call 89 _ _ cU),(128,21,5880, .call 89 _ _ dw),(128,38,7344,qB g)],calls:=tC [(128,12,1244,ad (bq l)),(128,26,3318,ad (ak l [45] f)),(128,26,5026,ad (ak l [126] h2)),(128,26,6734,ad (ak l [33] j)),(128,53,7710,ad (ak l [116,114,117,101] m)),(128,59,7954,ad c6)]} 1000⟩
      ·intro o
       refine RC.may l a [114,101,97,100] ?_ ?_ ?_
       ·exact fun _ _ _ c=>qX {hintB:=bi Pg [(128,21,2464, .call 89 _ _ cB),(128,21,4172, .call 89 _ _ cU),(128,21,5880, .call 89 _ _ dw),(128,38,7344,qB g)],calls:=tC [(128,12,1244,ad (bq l)),(128,26,3318,ad (ak l [45] f)),(128,26,5026,ad (ak l [126] h2)),(128,26,6734,ad (ak l [33] j)),(128,53,7710,ad (ak l [116,114,117,101] m)),(128,59,7954,ad (ak l [102,97,108,115,101] o))],pans:=an Pg [(128,16,8076,⟨1,some (bg c),[]⟩)]} 1000
       ·intro s7 l7 V
        refine RC.bind (cw l7 a [40]) ?_ ?_
        ·exact fun _ _ _ c=>qX {hintB:=bi Pg [(128,21,2464, .call 89 _ _ cB),(128,21,4172, .call 89 _ _ cU),(128,21,5880, .call 89 _ _ dw),(128,38,7344,qB g)],calls:=tC [(128,12,1244,ad (bq l)),(128,26,3318,ad (ak l [45] f)),(128,26,5026,ad (ak l [126] h2)),(128,26,6734,ad (ak l [33] j)),(128,53,7710,ad (ak l [116,114,117,101] m)),(128,59,7954,ad (ak l [102,97,108,115,101] o)),(128,65,8198,ad V)],pans:=an Pg [(128,17,8320,⟨1,some (bg c),[]⟩)]} 1000
        ·intro _ s8 l8 C
         refine RC.bind (cw l8 a [41]) ?_ ?_
         ·exact fun _ _ _ c=>qX {hintB:=bi Pg [(128,21,2464, .call 89 _ _ cB),(128,21,4172, .call 89 _ _ cU),(128,21,5880, .call 89 _ _ dw),(128,38,7344,qB g)],calls:=tC [(128,12,1244,ad (bq l)),(128,26,3318,ad (ak l [45] f)),(128,26,5026,ad (ak l [126] h2)),(128,26,6734,ad (ak l [33] j)),(128,53,7710,ad (ak l [116,114,117,101] m)),(128,59,7954,ad (ak l [102,97,108,115,101] o)),(128,65,8198,ad V),(128,67,8442,ad C)],pans:=an Pg [(128,18,8442,⟨1,some (bg c),[]⟩)]} 1000
         ·intro _ s9 U I
          exact⟨U,qN {hintB:=bi Pg [(128,21,2464, .call 89 _ _ cB),(128,21,4172, .call 89 _ _ cU),(128,21,5880, .call 89 _ _ dw),(128,38,7344,qB g)],calls:=tC [(128,12,1244,ad (bq l)),(128,26,3318,ad (ak l [45] f)),(128,26,5026,ad (ak l [126] h2)),(128,26,6734,ad (ak l [33] j)),(128,53,7710,ad (ak l [116,114,117,101] m)),(128,59,7954,ad (ak l [102,97,108,115,101] o)),(128,65,8198,ad V),(128,67,8442,ad C),(128,69,8564,ad I)]} 1000⟩
       ·intro q
        refine RC.may l a [108,101,110] ?_ ?_ ?_
        ·exact fun _ _ _ c=>qX {hintB:=bi Pg [(128,21,2464, .call 89 _ _ cB),(128,21,4172, .call 89 _ _ cU),(128,21,5880, .call 89 _ _ dw),(128,38,7344,qB g)],calls:=tC [(128,12,1244,ad (bq l)),(128,26,3318,ad (ak l [45] f)),(128,26,5026,ad (ak l [126] h2)),(128,26,6734,ad (ak l [33] j)),(128,53,7710,ad (ak l [116,114,117,101] m)),(128,59,7954,ad (ak l [102,97,108,115,101] o)),(128,65,8198,ad (ak l [114,101,97,100] q))],pans:=an Pg [(128,20,8320,⟨1,some (bg c),[]⟩)]} 1000
        ·intro s8 l8 C
         refine RC.bind (cw l8 a [40]) ?_ ?_
         ·exact fun _ _ _ c=>qX {hintB:=bi Pg [(128,21,2464, .call 89 _ _ cB),(128,21,4172, .call 89 _ _ cU),(128,21,5880, .call 89 _ _ dw),(128,38,7344,qB g)],calls:=tC [(128,12,1244,ad (bq l)),(128,26,3318,ad (ak l [45] f)),(128,26,5026,ad (ak l [126] h2)),(128,26,6734,ad (ak l [33] j)),(128,53,7710,ad (ak l [116,114,117,101] m)),(128,59,7954,ad (ak l [102,97,108,115,101] o)),(128,65,8198,ad (ak l [114,101,97,100] q)),(128,75,8442,ad C)],pans:=an Pg [(128,21,8564,⟨1,some (bg c),[]⟩)]} 1000
         ·intro _ s9 U I
          refine RC.bind (pB U a 1 (by decide)) ?_ ?_
          ·exact fun _ _ _ c=>qX {hintB:=bi Pg [(128,21,2464, .call 89 _ _ cB),(128,21,4172, .call 89 _ _ cU),(128,21,5880, .call 89 _ _ dw),(128,38,7344,qB g)],calls:=tC [(128,12,1244,ad (bq l)),(128,26,3318,ad (ak l [45] f)),(128,26,5026,ad (ak l [126] h2)),(128,26,6734,ad (ak l [33] j)),(128,53,7710,ad (ak l [116,114,117,101] m)),(128,59,7954,ad (ak l [102,97,108,115,101] o)),(128,65,8198,ad (ak l [114,101,97,100] q)),(128,75,8442,ad C),(128,77,8686,ad I)],pans:=an Pg [(128,22,8686,⟨1,some (bg c),[]⟩)]} 1000
          ·intro t J b h
           refine RC.bind (cw b a [41]) ?_ ?_
           ·exact fun _ _ _ c=>qX {hintB:=bi Pg [(128,21,2464, .call 89 _ _ cB),(128,21,4172, .call 89 _ _ cU),(128,21,5880, .call 89 _ _ dw),(128,38,7344,qB g)],calls:=tC [(128,12,1244,ad (bq l)),(128,26,3318,ad (ak l [45] f)),(128,26,5026,ad (ak l [126] h2)),(128,26,6734,ad (ak l [33] j)),(128,53,7710,ad (ak l [116,114,117,101] m)),(128,59,7954,ad (ak l [102,97,108,115,101] o)),(128,65,8198,ad (ak l [114,101,97,100] q)),(128,75,8442,ad C),(128,77,8686,ad I),(128,79,8808,ad h)],pans:=an Pg [(128,23,9052,⟨1,some (bg c),[]⟩)]} 1000
           ·intro _ P B z
            exact⟨B,qN {hintB:=bi Pg [(128,21,2464, .call 89 _ _ cB),(128,21,4172, .call 89 _ _ cU),(128,21,5880, .call 89 _ _ dw),(128,38,7344,qB g)],calls:=tC [(128,12,1244,ad (bq l)),(128,26,3318,ad (ak l [45] f)),(128,26,5026,ad (ak l [126] h2)),(128,26,6734,ad (ak l [33] j)),(128,53,7710,ad (ak l [116,114,117,101] m)),(128,59,7954,ad (ak l [102,97,108,115,101] o)),(128,65,8198,ad (ak l [114,101,97,100] q)),(128,75,8442,ad C),(128,77,8686,ad I),(128,79,8808,ad h),(128,82,9174,ad z)]} 1000⟩
        ·intro y
         refine RC.ite (fun u=> ?_) (fun u=> ?_)
         ·
          refine RC.bind (cw l a [40]) ?_ ?_
          ·exact fun _ _ _ c=>qX {hintB:=bi Pg [(128,21,2464, .call 89 _ _ cB),(128,21,4172, .call 89 _ _ cU),(128,21,5880, .call 89 _ _ dw),(128,38,7344,qB g)],calls:=tC [(128,12,1244,ad (bq l)),(128,26,3318,ad (ak l [45] f)),(128,26,5026,ad (ak l [126] h2)),(128,26,6734,ad (ak l [33] j)),(128,53,7710,ad (ak l [116,114,117,101] m)),(128,59,7954,ad (ak l [102,97,108,115,101] o)),(128,65,8198,ad (ak l [114,101,97,100] q)),(128,75,8442,ad (ak l [108,101,110] y)),(128,89,8686,ad (aW l [40] u))],pans:=an Pg [(128,26,8808,⟨1,some (bg c),[]⟩)]} 1000
          ·intro _ J b h
           refine RC.bind (T 1 _ b) ?_ ?_
           ·exact fun _ _ _ c=>qX {hintB:=bi Pg [(128,21,2464, .call 89 _ _ cB),(128,21,4172, .call 89 _ _ cU),(128,21,5880, .call 89 _ _ dw),(128,38,7344,qB g)],calls:=tC [(128,12,1244,ad (bq l)),(128,26,3318,ad (ak l [45] f)),(128,26,5026,ad (ak l [126] h2)),(128,26,6734,ad (ak l [33] j)),(128,53,7710,ad (ak l [116,114,117,101] m)),(128,59,7954,ad (ak l [102,97,108,115,101] o)),(128,65,8198,ad (ak l [114,101,97,100] q)),(128,75,8442,ad (ak l [108,101,110] y)),(128,89,8686,ad (aW l [40] u)),(128,91,8930,ad h)],pans:=an Pg [(128,27,8930,⟨1,some (bg c),[]⟩)]} 1000
           ·intro x P B z
            obtain⟨K,F,w,H,G,v⟩:=x;refine RC.bind (cw B a [41]) ?_ ?_
            ·exact fun _ _ _ c=>qX {hintB:=bi Pg [(128,21,2464, .call 89 _ _ cB),(128,21,4172, .call 89 _ _ cU),(128,21,5880, .call 89 _ _ dw),(128,38,7344,qB g)],calls:=tC [(128,12,1244,ad (bq l)),(128,26,3318,ad (ak l [45] f)),(128,26,5026,ad (ak l [126] h2)),(128,26,6734,ad (ak l [33] j)),(128,53,7710,ad (ak l [116,114,117,101] m)),(128,59,7954,ad (ak l [102,97,108,115,101] o)),(128,65,8198,ad (ak l [114,101,97,100] q)),(128,75,8442,ad (ak l [108,101,110] y)),(128,89,8686,ad (aW l [40] u)),(128,91,8930,ad h),(128,93,9052,ad z)],pans:=an Pg [(128,28,9296,⟨1,some (bg c),[]⟩)]} 1000
            ·intro _ Q E D
             exact⟨E,qN {hintB:=bi Pg [(128,21,2464, .call 89 _ _ cB),(128,21,4172, .call 89 _ _ cU),(128,21,5880, .call 89 _ _ dw),(128,38,7344,qB g)],calls:=tC [(128,12,1244,ad (bq l)),(128,26,3318,ad (ak l [45] f)),(128,26,5026,ad (ak l [126] h2)),(128,26,6734,ad (ak l [33] j)),(128,53,7710,ad (ak l [116,114,117,101] m)),(128,59,7954,ad (ak l [102,97,108,115,101] o)),(128,65,8198,ad (ak l [114,101,97,100] q)),(128,75,8442,ad (ak l [108,101,110] y)),(128,89,8686,ad (aW l [40] u)),(128,91,8930,ad h),(128,93,9052,ad z),(128,95,9418,ad D)]} 1000⟩
         ·
          refine RC.bind (pB l a 1 (by decide)) ?_ ?_
          ·exact fun _ _ _ c=>qX {hintB:=bi Pg [(128,21,2464, .call 89 _ _ cB),(128,21,4172, .call 89 _ _ cU),(128,21,5880, .call 89 _ _ dw),(128,38,7344,qB g)],calls:=tC [(128,12,1244,ad (bq l)),(128,26,3318,ad (ak l [45] f)),(128,26,5026,ad (ak l [126] h2)),(128,26,6734,ad (ak l [33] j)),(128,53,7710,ad (ak l [116,114,117,101] m)),(128,59,7954,ad (ak l [102,97,108,115,101] o)),(128,65,8198,ad (ak l [114,101,97,100] q)),(128,75,8442,ad (ak l [108,101,110] y)),(128,89,8686,ad (aW l [40] u))],pans:=an Pg [(128,30,8808,⟨1,some (bg c),[]⟩)]} 1000
          ·intro t J b h
           refine RC.ite (fun r=> ?_) (fun r=> ?_)
           ·
            refine RC.bind (ihP _ b) ?_ ?_
            ·exact fun _ _ _ c=>qX {hintB:=bi Pg [(128,21,2464, .call 89 _ _ cB),(128,21,4172, .call 89 _ _ cU),(128,21,5880, .call 89 _ _ dw),(128,38,7344,qB g)],calls:=tC [(128,12,1244,ad (bq l)),(128,26,3318,ad (ak l [45] f)),(128,26,5026,ad (ak l [126] h2)),(128,26,6734,ad (ak l [33] j)),(128,53,7710,ad (ak l [116,114,117,101] m)),(128,59,7954,ad (ak l [102,97,108,115,101] o)),(128,65,8198,ad (ak l [114,101,97,100] q)),(128,75,8442,ad (ak l [108,101,110] y)),(128,89,8686,ad (aW l [40] u)),(128,98,8930,ad h),(128,102,9296,ad (aW b [91] r))],pans:=an Pg [(128,32,9418,⟨4,some (bg c),[]⟩)]} 1000
            ·intro x Q E D
             obtain⟨K,F,w,H,G,v⟩:=x;exact⟨E,qN {hintB:=bi Pg [(128,21,2464, .call 89 _ _ cB),(128,21,4172, .call 89 _ _ cU),(128,21,5880, .call 89 _ _ dw),(128,38,7344,qB g)],calls:=tC [(128,12,1244,ad (bq l)),(128,26,3318,ad (ak l [45] f)),(128,26,5026,ad (ak l [126] h2)),(128,26,6734,ad (ak l [33] j)),(128,53,7710,ad (ak l [116,114,117,101] m)),(128,59,7954,ad (ak l [102,97,108,115,101] o)),(128,65,8198,ad (ak l [114,101,97,100] q)),(128,75,8442,ad (ak l [108,101,110] y)),(128,89,8686,ad (aW l [40] u)),(128,98,8930,ad h),(128,102,9296,ad (aW b [91] r)),(128,107,9906,ad D)]} 1000⟩
           ·
            refine RC.ite (fun A=> ?_) (fun A=> ?_)
            ·
             refine RC.bind (Z t.t (bZ L s).p _ b) ?_ ?_
             ·exact fun _ _ _ c=>qX {hintB:=bi Pg [(128,21,2464, .call 89 _ _ cB),(128,21,4172, .call 89 _ _ cU),(128,21,5880, .call 89 _ _ dw),(128,38,7344,qB g)],calls:=tC [(128,12,1244,ad (bq l)),(128,26,3318,ad (ak l [45] f)),(128,26,5026,ad (ak l [126] h2)),(128,26,6734,ad (ak l [33] j)),(128,53,7710,ad (ak l [116,114,117,101] m)),(128,59,7954,ad (ak l [102,97,108,115,101] o)),(128,65,8198,ad (ak l [114,101,97,100] q)),(128,75,8442,ad (ak l [108,101,110] y)),(128,89,8686,ad (aW l [40] u)),(128,98,8930,ad h),(128,102,9296,ad (aW b [91] r)),(128,112,9540,ad (aW b [40] A))],pans:=an Pg [(128,34,9662,⟨4,some (bg c),[]⟩)]} 1000
             ·intro x s13 S W
              obtain⟨K,F,w,H,G,v⟩:=x;exact⟨S,qN {hintB:=bi Pg [(128,21,2464, .call 89 _ _ cB),(128,21,4172, .call 89 _ _ cU),(128,21,5880, .call 89 _ _ dw),(128,38,7344,qB g)],calls:=tC [(128,12,1244,ad (bq l)),(128,26,3318,ad (ak l [45] f)),(128,26,5026,ad (ak l [126] h2)),(128,26,6734,ad (ak l [33] j)),(128,53,7710,ad (ak l [116,114,117,101] m)),(128,59,7954,ad (ak l [102,97,108,115,101] o)),(128,65,8198,ad (ak l [114,101,97,100] q)),(128,75,8442,ad (ak l [108,101,110] y)),(128,89,8686,ad (aW l [40] u)),(128,98,8930,ad h),(128,102,9296,ad (aW b [91] r)),(128,112,9540,ad (aW b [40] A)),(128,117,10150,ad W)]} 1000⟩
            ·
             exact⟨b,qN {hintB:=bi Pg [(128,21,2464, .call 89 _ _ cB),(128,21,4172, .call 89 _ _ cU),(128,21,5880, .call 89 _ _ dw),(128,38,7344,qB g)],calls:=tC [(128,12,1244,ad (bq l)),(128,26,3318,ad (ak l [45] f)),(128,26,5026,ad (ak l [126] h2)),(128,26,6734,ad (ak l [33] j)),(128,53,7710,ad (ak l [116,114,117,101] m)),(128,59,7954,ad (ak l [102,97,108,115,101] o)),(128,65,8198,ad (ak l [114,101,97,100] q)),(128,75,8442,ad (ak l [108,101,110] y)),(128,89,8686,ad (aW l [40] u)),(128,98,8930,ad h),(128,102,9296,ad (aW b [91] r)),(128,112,9540,ad (aW b [40] A))]} 1000⟩
theorem EF(n:Nat)(b:∀(k:Int)(s:RS),s.i<L.length→RC L 100 [rP,dI k] (fun e=>[fd e]) s (bH L n k s))(s:RS)(l:s.i<L.length):RC L 131 [rP] (fun e=>[fd e]) s (d8 L (n+1) s):=by
 simp only[d8];refine RC.bind (cw l a [91]) ?_ ?_
 ·exact fun _ _ _ c=>qX {pans:=an Pg [(131,1,1011,⟨1,some (bg c),[]⟩)]} 1000
 ·intro _ u o c1
  refine RC.bind (b 1 _ o) ?_ ?_
  ·exact fun _ _ _ c=>qX {calls:=tC [(131,5,1022,ad c1)],pans:=an Pg [(131,2,1022,⟨1,some (bg c),[]⟩)]} 1000
  ·intro x p m d
   obtain⟨r,v,h,t,w,g⟩:=x;refine RC.bind (cw m a [93]) ?_ ?_
   ·exact fun _ _ _ c=>qX {calls:=tC [(131,5,1022,ad c1),(131,7,1033,ad d)],pans:=an Pg [(131,3,1055,⟨1,some (bg c),[]⟩)]} 1000
   ·intro _ q f j
    exact⟨f,qN {calls:=tC [(131,5,1022,ad c1),(131,7,1033,ad d),(131,9,1066,ad j)]} 1000⟩
end
end Go.Avm
namespace Go.Avm
open Go.Proofs
def u8(n:Int):AV:= .d (.int .u8 n)
def t8(r:Int×Int):aB×List (Nat×AV):=bif r.1==0 then (.exit 0,[])else (.ret,[(4,u8 r.1),(5,dI r.2)])
def z6(ab o:Int):List (Nat×AV):=[(0,rP),(1,dI ab),(6,u8 o)]
def T0(L:List T)(s:RS)(ab o:Int)(e:aB)(l':List (Nat×AV)):Prop:=RE 28 (lO 129 2) (z6 ab o) (rd L s) e l' (rd L s)
def He(L:List T)(s:RS)(ab:Int)(o:Int)(r:Int×Int):Prop:=RL 28 (lO 129 2) (z6 ab o) (rd L s) ((t8 r).1) ((t8 r).2) (rd L s)
theorem cT{L:List T}{s:RS}{ab o e k:Int}{x:List UInt8}{R:List (Int×List UInt8×Int)}(h:(o==0)=false)(i:decide (k≥ab)=false→T0 L s ab o .normal (z6 ab e))
    (hB:decide (k≥ab)=true→bV L s x=false→T0 L s ab o .normal (z6 ab e)) (g:decide (k≥ab)=true→bV L s x=true→T0 L s ab o .ret [(4,u8 o),(5,dI k)])
    (f:He L s ab e (iu L s ab R)):He L s ab o (iu L s ab ((o,x,k)::R)):=fun a X b c=>by
 simp only[iu];cases d:decide (k≥ab)with
 |false=>exact au (i d a X b c) (f a X b c)
 |true=>cases h2:bV L s x with
  |false=>exact au (hB d h2 a X b c) (f a X b c)
  |true=>
   have:t8 (o,k)=(.ret,[(4,u8 o),(5,dI k)]):=by simp only[t8,h,xP]
   simp only[Bool.and_true,xW,this];exact aA (g d h2 a X b c) (by simp)
section
variable{L:List T}{s:RS}(a:s.i<L.length)(ab:Int)
include a
theorem Ry:T0 L s ab 19 (.exit 0) []:=
 fun b X c d=>(qE {} 129 1000:RE 28 (lO 129 2) [(0,rP),(1,dI ab),(6,u8 19)] (rd L s) (.exit 0) [] (rd L s)) b X c d
theorem UX:He L s ab 19 (0,0):=fun b X c d=>aA (Ry a ab b X c d) (by simp[t8])
theorem UY(h:decide ((9:Int)≥ab)=false):RE 28 (lO 129 2) [(0,rP),(1,dI ab),(6,u8 1)] (rd L s) .normal [(0,rP),(1,dI ab),(6,u8 2)] (rd L s):=
 qE {hint:=qT 129 [(15, .call 89 _ _ N8),(20,qB h)]} 129 1000
theorem UZ(h:decide ((9:Int)≥ab)=true)(h2:bV L s [43]=false):RE 28 (lO 129 2) [(0,rP),(1,dI ab),(6,u8 1)] (rd L s) .normal [(0,rP),(1,dI ab),(6,u8 2)] (rd L s):=
 qE {hint:=qT 129 [(15, .call 89 _ _ N8),(20,qB h)],calls:=tC [(129,24,1392,ad (aW a [43] h2))]} 129 1000
theorem U0(h:decide ((9:Int)≥ab)=true)(h2:bV L s [43]=true):RE 28 (lO 129 2) [(0,rP),(1,dI ab),(6,u8 1)] (rd L s) .ret [(4,u8 1),(5,dI 9)] (rd L s):=
 qE {hint:=qT 129 [(15, .call 89 _ _ N8),(20,qB h)],calls:=tC [(129,24,1392,ad (aW a [43] h2))]} 129 1000
theorem U1(h:decide ((9:Int)≥ab)=false):RE 28 (lO 129 2) [(0,rP),(1,dI ab),(6,u8 2)] (rd L s) .normal [(0,rP),(1,dI ab),(6,u8 3)] (rd L s):=
 qE {hint:=qT 129 [(15, .call 89 _ _ N9),(20,qB h)]} 129 1000
theorem U2(h:decide ((9:Int)≥ab)=true)(h2:bV L s [45]=false):RE 28 (lO 129 2) [(0,rP),(1,dI ab),(6,u8 2)] (rd L s) .normal [(0,rP),(1,dI ab),(6,u8 3)] (rd L s):=
 qE {hint:=qT 129 [(15, .call 89 _ _ N9),(20,qB h)],calls:=tC [(129,24,1392,ad (aW a [45] h2))]} 129 1000
theorem U3(h:decide ((9:Int)≥ab)=true)(h2:bV L s [45]=true):RE 28 (lO 129 2) [(0,rP),(1,dI ab),(6,u8 2)] (rd L s) .ret [(4,u8 2),(5,dI 9)] (rd L s):=
 qE {hint:=qT 129 [(15, .call 89 _ _ N9),(20,qB h)],calls:=tC [(129,24,1392,ad (aW a [45] h2))]} 129 1000
theorem U4(h:decide ((10:Int)≥ab)=false):RE 28 (lO 129 2) [(0,rP),(1,dI ab),(6,u8 3)] (rd L s) .normal [(0,rP),(1,dI ab),(6,u8 4)] (rd L s):=
 qE {hint:=qT 129 [(15, .call 89 _ _ Oa),(20,qB h)]} 129 1000
theorem U5(h:decide ((10:Int)≥ab)=true)(h2:bV L s [42]=false):RE 28 (lO 129 2) [(0,rP),(1,dI ab),(6,u8 3)] (rd L s) .normal [(0,rP),(1,dI ab),(6,u8 4)] (rd L s):=
 qE {hint:=qT 129 [(15, .call 89 _ _ Oa),(20,qB h)],calls:=tC [(129,24,1392,ad (aW a [42] h2))]} 129 1000
theorem U6(h:decide ((10:Int)≥ab)=true)(h2:bV L s [42]=true):RE 28 (lO 129 2) [(0,rP),(1,dI ab),(6,u8 3)] (rd L s) .ret [(4,u8 3),(5,dI 10)] (rd L s):=
 qE {hint:=qT 129 [(15, .call 89 _ _ Oa),(20,qB h)],calls:=tC [(129,24,1392,ad (aW a [42] h2))]} 129 1000
theorem U7(h:decide ((10:Int)≥ab)=false):RE 28 (lO 129 2) [(0,rP),(1,dI ab),(6,u8 4)] (rd L s) .normal [(0,rP),(1,dI ab),(6,u8 5)] (rd L s):=
 qE {hint:=qT 129 [(15, .call 89 _ _ Oc),(20,qB h)]} 129 1000
theorem U8(h:decide ((10:Int)≥ab)=true)(h2:bV L s [47]=false):RE 28 (lO 129 2) [(0,rP),(1,dI ab),(6,u8 4)] (rd L s) .normal [(0,rP),(1,dI ab),(6,u8 5)] (rd L s):=
 qE {hint:=qT 129 [(15, .call 89 _ _ Oc),(20,qB h)],calls:=tC [(129,24,1392,ad (aW a [47] h2))]} 129 1000
theorem U9(h:decide ((10:Int)≥ab)=true)(h2:bV L s [47]=true):RE 28 (lO 129 2) [(0,rP),(1,dI ab),(6,u8 4)] (rd L s) .ret [(4,u8 4),(5,dI 10)] (rd L s):=
 qE {hint:=qT 129 [(15, .call 89 _ _ Oc),(20,qB h)],calls:=tC [(129,24,1392,ad (aW a [47] h2))]} 129 1000
theorem Va(h:decide ((10:Int)≥ab)=false):RE 28 (lO 129 2) [(0,rP),(1,dI ab),(6,u8 5)] (rd L s) .normal [(0,rP),(1,dI ab),(6,u8 6)] (rd L s):=
 qE {hint:=qT 129 [(15, .call 89 _ _ Od),(20,qB h)]} 129 1000
theorem Vb(h:decide ((10:Int)≥ab)=true)(h2:bV L s [37]=false):RE 28 (lO 129 2) [(0,rP),(1,dI ab),(6,u8 5)] (rd L s) .normal [(0,rP),(1,dI ab),(6,u8 6)] (rd L s):=
 qE {hint:=qT 129 [(15, .call 89 _ _ Od),(20,qB h)],calls:=tC [(129,24,1392,ad (aW a [37] h2))]} 129 1000
theorem Vc(h:decide ((10:Int)≥ab)=true)(h2:bV L s [37]=true):RE 28 (lO 129 2) [(0,rP),(1,dI ab),(6,u8 5)] (rd L s) .ret [(4,u8 5),(5,dI 10)] (rd L s):=
 qE {hint:=qT 129 [(15, .call 89 _ _ Od),(20,qB h)],calls:=tC [(129,24,1392,ad (aW a [37] h2))]} 129 1000
theorem Vd(h:decide ((7:Int)≥ab)=false):RE 28 (lO 129 2) [(0,rP),(1,dI ab),(6,u8 6)] (rd L s) .normal [(0,rP),(1,dI ab),(6,u8 7)] (rd L s):=
 qE {hint:=qT 129 [(15, .call 89 _ _ Oe),(20,qB h)]} 129 1000
theorem Ve(h:decide ((7:Int)≥ab)=true)(h2:bV L s [38]=false):RE 28 (lO 129 2) [(0,rP),(1,dI ab),(6,u8 6)] (rd L s) .normal [(0,rP),(1,dI ab),(6,u8 7)] (rd L s):=
 qE {hint:=qT 129 [(15, .call 89 _ _ Oe),(20,qB h)],calls:=tC [(129,24,1392,ad (aW a [38] h2))]} 129 1000
theorem Vf(h:decide ((7:Int)≥ab)=true)(h2:bV L s [38]=true):RE 28 (lO 129 2) [(0,rP),(1,dI ab),(6,u8 6)] (rd L s) .ret [(4,u8 6),(5,dI 7)] (rd L s):=
 qE {hint:=qT 129 [(15, .call 89 _ _ Oe),(20,qB h)],calls:=tC [(129,24,1392,ad (aW a [38] h2))]} 129 1000
theorem Vg(h:decide ((5:Int)≥ab)=false):RE 28 (lO 129 2) [(0,rP),(1,dI ab),(6,u8 7)] (rd L s) .normal [(0,rP),(1,dI ab),(6,u8 8)] (rd L s):=
 qE {hint:=qT 129 [(15, .call 89 _ _ Of),(20,qB h)]} 129 1000
theorem Vh(h:decide ((5:Int)≥ab)=true)(h2:bV L s [124]=false):RE 28 (lO 129 2) [(0,rP),(1,dI ab),(6,u8 7)] (rd L s) .normal [(0,rP),(1,dI ab),(6,u8 8)] (rd L s):=
 qE {hint:=qT 129 [(15, .call 89 _ _ Of),(20,qB h)],calls:=tC [(129,24,1392,ad (aW a [124] h2))]} 129 1000
theorem Vi(h:decide ((5:Int)≥ab)=true)(h2:bV L s [124]=true):RE 28 (lO 129 2) [(0,rP),(1,dI ab),(6,u8 7)] (rd L s) .ret [(4,u8 7),(5,dI 5)] (rd L s):=
 qE {hint:=qT 129 [(15, .call 89 _ _ Of),(20,qB h)],calls:=tC [(129,24,1392,ad (aW a [124] h2))]} 129 1000
theorem Vj(h:decide ((6:Int)≥ab)=false):RE 28 (lO 129 2) [(0,rP),(1,dI ab),(6,u8 8)] (rd L s) .normal [(0,rP),(1,dI ab),(6,u8 9)] (rd L s):=
 qE {hint:=qT 129 [(15, .call 89 _ _ Og),(20,qB h)]} 129 1000
theorem Vk(h:decide ((6:Int)≥ab)=true)(h2:bV L s [94]=false):RE 28 (lO 129 2) [(0,rP),(1,dI ab),(6,u8 8)] (rd L s) .normal [(0,rP),(1,dI ab),(6,u8 9)] (rd L s):=
 qE {hint:=qT 129 [(15, .call 89 _ _ Og),(20,qB h)],calls:=tC [(129,24,1392,ad (aW a [94] h2))]} 129 1000
theorem Vl(h:decide ((6:Int)≥ab)=true)(h2:bV L s [94]=true):RE 28 (lO 129 2) [(0,rP),(1,dI ab),(6,u8 8)] (rd L s) .ret [(4,u8 8),(5,dI 6)] (rd L s):=
 qE {hint:=qT 129 [(15, .call 89 _ _ Og),(20,qB h)],calls:=tC [(129,24,1392,ad (aW a [94] h2))]} 129 1000
theorem Vm(h:decide ((8:Int)≥ab)=false):RE 28 (lO 129 2) [(0,rP),(1,dI ab),(6,u8 9)] (rd L s) .normal [(0,rP),(1,dI ab),(6,u8 10)] (rd L s):=
 qE {hint:=qT 129 [(15, .call 89 _ _ Oh),(20,qB h)]} 129 1000
theorem Vn(h:decide ((8:Int)≥ab)=true)(h2:bV L s [60,60]=false):RE 28 (lO 129 2) [(0,rP),(1,dI ab),(6,u8 9)] (rd L s) .normal [(0,rP),(1,dI ab),(6,u8 10)] (rd L s):=
 qE {hint:=qT 129 [(15, .call 89 _ _ Oh),(20,qB h)],calls:=tC [(129,24,1392,ad (aW a [60,60] h2))]} 129 1000
theorem Vo(h:decide ((8:Int)≥ab)=true)(h2:bV L s [60,60]=true):RE 28 (lO 129 2) [(0,rP),(1,dI ab),(6,u8 9)] (rd L s) .ret [(4,u8 9),(5,dI 8)] (rd L s):=
 qE {hint:=qT 129 [(15, .call 89 _ _ Oh),(20,qB h)],calls:=tC [(129,24,1392,ad (aW a [60,60] h2))]} 129 1000
theorem Rz(h:decide ((8:Int)≥ab)=false):RE 28 (lO 129 2) [(0,rP),(1,dI ab),(6,u8 10)] (rd L s) .normal [(0,rP),(1,dI ab),(6,u8 11)] (rd L s):=
 qE {hint:=qT 129 [(15, .call 89 _ _ G5),(20,qB h)]} 129 1000
theorem RA(h:decide ((8:Int)≥ab)=true)(h2:bV L s [62,62]=false):RE 28 (lO 129 2) [(0,rP),(1,dI ab),(6,u8 10)] (rd L s) .normal [(0,rP),(1,dI ab),(6,u8 11)] (rd L s):=
 qE {hint:=qT 129 [(15, .call 89 _ _ G5),(20,qB h)],calls:=tC [(129,24,1392,ad (aW a [62,62] h2))]} 129 1000
theorem RB(h:decide ((8:Int)≥ab)=true)(h2:bV L s [62,62]=true):RE 28 (lO 129 2) [(0,rP),(1,dI ab),(6,u8 10)] (rd L s) .ret [(4,u8 10),(5,dI 8)] (rd L s):=
 qE {hint:=qT 129 [(15, .call 89 _ _ G5),(20,qB h)],calls:=tC [(129,24,1392,ad (aW a [62,62] h2))]} 129 1000
theorem RD(h:decide ((4:Int)≥ab)=false):RE 28 (lO 129 2) [(0,rP),(1,dI ab),(6,u8 11)] (rd L s) .normal [(0,rP),(1,dI ab),(6,u8 12)] (rd L s):=
 qE {hint:=qT 129 [(15, .call 89 _ _ G6),(20,qB h)]} 129 1000
theorem RF(h:decide ((4:Int)≥ab)=true)(h2:bV L s [60]=false):RE 28 (lO 129 2) [(0,rP),(1,dI ab),(6,u8 11)] (rd L s) .normal [(0,rP),(1,dI ab),(6,u8 12)] (rd L s):=
 qE {hint:=qT 129 [(15, .call 89 _ _ G6),(20,qB h)],calls:=tC [(129,24,1392,ad (aW a [60] h2))]} 129 1000
theorem RG(h:decide ((4:Int)≥ab)=true)(h2:bV L s [60]=true):RE 28 (lO 129 2) [(0,rP),(1,dI ab),(6,u8 11)] (rd L s) .ret [(4,u8 11),(5,dI 4)] (rd L s):=
 qE {hint:=qT 129 [(15, .call 89 _ _ G6),(20,qB h)],calls:=tC [(129,24,1392,ad (aW a [60] h2))]} 129 1000
theorem RH(h:decide ((4:Int)≥ab)=false):RE 28 (lO 129 2) [(0,rP),(1,dI ab),(6,u8 12)] (rd L s) .normal [(0,rP),(1,dI ab),(6,u8 13)] (rd L s):=
 qE {hint:=qT 129 [(15, .call 89 _ _ G7),(20,qB h)]} 129 1000
theorem RI(h:decide ((4:Int)≥ab)=true)(h2:bV L s [60,61]=false):RE 28 (lO 129 2) [(0,rP),(1,dI ab),(6,u8 12)] (rd L s) .normal [(0,rP),(1,dI ab),(6,u8 13)] (rd L s):=
 qE {hint:=qT 129 [(15, .call 89 _ _ G7),(20,qB h)],calls:=tC [(129,24,1392,ad (aW a [60,61] h2))]} 129 1000
theorem RJ(h:decide ((4:Int)≥ab)=true)(h2:bV L s [60,61]=true):RE 28 (lO 129 2) [(0,rP),(1,dI ab),(6,u8 12)] (rd L s) .ret [(4,u8 12),(5,dI 4)] (rd L s):=
 qE {hint:=qT 129 [(15, .call 89 _ _ G7),(20,qB h)],calls:=tC [(129,24,1392,ad (aW a [60,61] h2))]} 129 1000
theorem RK(h:decide ((4:Int)≥ab)=false):RE 28 (lO 129 2) [(0,rP),(1,dI ab),(6,u8 13)] (rd L s) .normal [(0,rP),(1,dI ab),(6,u8 14)] (rd L s):=
 qE {hint:=qT 129 [(15, .call 89 _ _ G8),(20,qB h)]} 129 1000
theorem RM(h:decide ((4:Int)≥ab)=true)(h2:bV L s [62]=false):RE 28 (lO 129 2) [(0,rP),(1,dI ab),(6,u8 13)] (rd L s) .normal [(0,rP),(1,dI ab),(6,u8 14)] (rd L s):=
 qE {hint:=qT 129 [(15, .call 89 _ _ G8),(20,qB h)],calls:=tC [(129,24,1392,ad (aW a [62] h2))]} 129 1000
theorem RN(h:decide ((4:Int)≥ab)=true)(h2:bV L s [62]=true):RE 28 (lO 129 2) [(0,rP),(1,dI ab),(6,u8 13)] (rd L s) .ret [(4,u8 13),(5,dI 4)] (rd L s):=
 qE {hint:=qT 129 [(15, .call 89 _ _ G8),(20,qB h)],calls:=tC [(129,24,1392,ad (aW a [62] h2))]} 129 1000
theorem RO(h:decide ((4:Int)≥ab)=false):RE 28 (lO 129 2) [(0,rP),(1,dI ab),(6,u8 14)] (rd L s) .normal [(0,rP),(1,dI ab),(6,u8 15)] (rd L s):=
 qE {hint:=qT 129 [(15, .call 89 _ _ G9),(20,qB h)]} 129 1000
theorem RP(h:decide ((4:Int)≥ab)=true)(h2:bV L s [62,61]=false):RE 28 (lO 129 2) [(0,rP),(1,dI ab),(6,u8 14)] (rd L s) .normal [(0,rP),(1,dI ab),(6,u8 15)] (rd L s):=
 qE {hint:=qT 129 [(15, .call 89 _ _ G9),(20,qB h)],calls:=tC [(129,24,1392,ad (aW a [62,61] h2))]} 129 1000
theorem RQ(h:decide ((4:Int)≥ab)=true)(h2:bV L s [62,61]=true):RE 28 (lO 129 2) [(0,rP),(1,dI ab),(6,u8 14)] (rd L s) .ret [(4,u8 14),(5,dI 4)] (rd L s):=
 qE {hint:=qT 129 [(15, .call 89 _ _ G9),(20,qB h)],calls:=tC [(129,24,1392,ad (aW a [62,61] h2))]} 129 1000
theorem RT(h:decide ((3:Int)≥ab)=false):RE 28 (lO 129 2) [(0,rP),(1,dI ab),(6,u8 15)] (rd L s) .normal [(0,rP),(1,dI ab),(6,u8 16)] (rd L s):=
 qE {hint:=qT 129 [(15, .call 89 _ _ Ha),(20,qB h)]} 129 1000
theorem RU(h:decide ((3:Int)≥ab)=true)(h2:bV L s [61,61]=false):RE 28 (lO 129 2) [(0,rP),(1,dI ab),(6,u8 15)] (rd L s) .normal [(0,rP),(1,dI ab),(6,u8 16)] (rd L s):=
 qE {hint:=qT 129 [(15, .call 89 _ _ Ha),(20,qB h)],calls:=tC [(129,24,1392,ad (aW a [61,61] h2))]} 129 1000
theorem RV(h:decide ((3:Int)≥ab)=true)(h2:bV L s [61,61]=true):RE 28 (lO 129 2) [(0,rP),(1,dI ab),(6,u8 15)] (rd L s) .ret [(4,u8 15),(5,dI 3)] (rd L s):=
 qE {hint:=qT 129 [(15, .call 89 _ _ Ha),(20,qB h)],calls:=tC [(129,24,1392,ad (aW a [61,61] h2))]} 129 1000
theorem RX(h:decide ((3:Int)≥ab)=false):RE 28 (lO 129 2) [(0,rP),(1,dI ab),(6,u8 16)] (rd L s) .normal [(0,rP),(1,dI ab),(6,u8 17)] (rd L s):=
 qE {hint:=qT 129 [(15, .call 89 _ _ Hb),(20,qB h)]} 129 1000
theorem RY(h:decide ((3:Int)≥ab)=true)(h2:bV L s [33,61]=false):RE 28 (lO 129 2) [(0,rP),(1,dI ab),(6,u8 16)] (rd L s) .normal [(0,rP),(1,dI ab),(6,u8 17)] (rd L s):=
 qE {hint:=qT 129 [(15, .call 89 _ _ Hb),(20,qB h)],calls:=tC [(129,24,1392,ad (aW a [33,61] h2))]} 129 1000
theorem R0(h:decide ((3:Int)≥ab)=true)(h2:bV L s [33,61]=true):RE 28 (lO 129 2) [(0,rP),(1,dI ab),(6,u8 16)] (rd L s) .ret [(4,u8 16),(5,dI 3)] (rd L s):=
 qE {hint:=qT 129 [(15, .call 89 _ _ Hb),(20,qB h)],calls:=tC [(129,24,1392,ad (aW a [33,61] h2))]} 129 1000
theorem R1(h:decide ((2:Int)≥ab)=false):RE 28 (lO 129 2) [(0,rP),(1,dI ab),(6,u8 17)] (rd L s) .normal [(0,rP),(1,dI ab),(6,u8 18)] (rd L s):=
 qE {hint:=qT 129 [(15, .call 89 _ _ Hc),(20,qB h)]} 129 1000
theorem R2(h:decide ((2:Int)≥ab)=true)(h2:bV L s [38,38]=false):RE 28 (lO 129 2) [(0,rP),(1,dI ab),(6,u8 17)] (rd L s) .normal [(0,rP),(1,dI ab),(6,u8 18)] (rd L s):=
 qE {hint:=qT 129 [(15, .call 89 _ _ Hc),(20,qB h)],calls:=tC [(129,24,1392,ad (aW a [38,38] h2))]} 129 1000
theorem R3(h:decide ((2:Int)≥ab)=true)(h2:bV L s [38,38]=true):RE 28 (lO 129 2) [(0,rP),(1,dI ab),(6,u8 17)] (rd L s) .ret [(4,u8 17),(5,dI 2)] (rd L s):=
 qE {hint:=qT 129 [(15, .call 89 _ _ Hc),(20,qB h)],calls:=tC [(129,24,1392,ad (aW a [38,38] h2))]} 129 1000
theorem R4(h:decide ((1:Int)≥ab)=false):RE 28 (lO 129 2) [(0,rP),(1,dI ab),(6,u8 18)] (rd L s) .normal [(0,rP),(1,dI ab),(6,u8 19)] (rd L s):=
 qE {hint:=qT 129 [(15, .call 89 _ _ Hd),(20,qB h)]} 129 1000
theorem R5(h:decide ((1:Int)≥ab)=true)(h2:bV L s [124,124]=false):RE 28 (lO 129 2) [(0,rP),(1,dI ab),(6,u8 18)] (rd L s) .normal [(0,rP),(1,dI ab),(6,u8 19)] (rd L s):=
 qE {hint:=qT 129 [(15, .call 89 _ _ Hd),(20,qB h)],calls:=tC [(129,24,1392,ad (aW a [124,124] h2))]} 129 1000
theorem R6(h:decide ((1:Int)≥ab)=true)(h2:bV L s [124,124]=true):RE 28 (lO 129 2) [(0,rP),(1,dI ab),(6,u8 18)] (rd L s) .ret [(4,u8 18),(5,dI 1)] (rd L s):=
 qE {hint:=qT 129 [(15, .call 89 _ _ Hd),(20,qB h)],calls:=tC [(129,24,1392,ad (aW a [124,124] h2))]} 129 1000
theorem Vp:He L s ab 1 (dY L ab s):=
 cT (by decide) (UY a ab) (UZ a ab) (U0 a ab) (cT (by decide) (U1 a ab) (U2 a ab) (U3 a ab) (cT (by decide) (U4 a ab) (U5 a ab) (U6 a ab) (cT (by decide) (U7 a ab) (U8 a ab) (U9 a ab) (cT (by decide) (Va a ab) (Vb a ab) (Vc a ab) (cT (by decide) (Vd a ab) (Ve a ab) (Vf a ab) (cT (by decide) (Vg a ab) (Vh a ab) (Vi a ab) (cT (by decide) (Vj a ab) (Vk a ab) (Vl a ab) (cT (by decide) (Vm a ab) (Vn a ab) (Vo a ab) (cT (by decide) (Rz a ab) (RA a ab) (RB a ab) (cT (by decide) (RD a ab) (RF a ab) (RG a ab) (cT (by decide) (RH a ab) (RI a ab) (RJ a ab) (cT (by decide) (RK a ab) (RM a ab) (RN a ab) (cT (by decide) (RO a ab) (RP a ab) (RQ a ab) (cT (by decide) (RT a ab) (RU a ab) (RV a ab) (cT (by decide) (RX a ab) (RY a ab) (R0 a ab) (cT (by decide) (R1 a ab) (R2 a ab) (R3 a ab) (cT (by decide) (R4 a ab) (R5 a ab) (R6 a ab) (UX a ab))))))))))))))))))
noncomputable def R7{e:aB}{l':List (Nat×AV)}(h:RL 28 (lO 129 2) (z6 ab 1) (rd L s) e l' (rd L s)):dJ Pg:=
 ⟨28,aJ Pg 129 2,z6 ab 1,fun _=>rd L s,e,l',fun _=>rd L s,fun b X c d=>(h b X c d).aw⟩
theorem R8(h:RL 28 (lO 129 2) (z6 ab 1) (rd L s) (.exit 0) [] (rd L s)):HC 129 [rP,dI ab] (rd L s) [.int .u8 0, .int .i64 0] (rd L s):=
 qN ({loops:=fun f q=>if f=129 then (if q=2 then some (R7 ab h)else none)else none}) 1000
theorem R9(o k:Int)(h:RL 28 (lO 129 2) (z6 ab 1) (rd L s) .ret [(4,u8 o),(5,dI k)] (rd L s)):HC 129 [rP,dI ab] (rd L s) [.int .u8 o, .int .i64 k] (rd L s):=
 qN ({loops:=fun f q=>if f=129 then (if q=2 then some (R7 ab h)else none)else none}) 1000
theorem pD:∀l:List (Int×List UInt8×Int),(iu L s ab l).1=0→(∀p∈l,p.1≠0)→iu L s ab l=(0,0)
 |[],_,_=>rfl
 |(o,x,k)::r,h,b=>by
  simp only[iu]at h ⊢;cases c:(decide (ab≤k)&&bV L s x)with
  |true=>rw[c]at h;exact absurd h (b (o,x,k) (by simp))
  |false=>rw[c]at h;exact pD r h fun p hp=>b p (by simp[hp])
theorem Hf:HC 129 [rP,dI ab] (rd L s) [.int .u8 (dY L ab s).1, .int .i64 (dY L ab s).2] (rd L s):=by
 have h:=Vp a ab;unfold He t8 at h;cases b:((dY L ab s).1==0)with
 |true=>
  rw[b]at h;have c:dY L ab s=(0,0):=pD a ab CL (eq_of_beq b) (by decide);rw[c];exact R8 a ab h
 |false=>
  rw[b]at h;exact R9 a ab _ _ h
theorem oS(b:dC L):∀l:List (Int×List UInt8×Int),(iu L s ab l).1≠0→s.i+1<L.length
 |[],h=>by simp[iu]at h
 |(o,x,k)::r,h=>by
  simp only[iu]at h;cases c:(decide (ab≤k)&&bV L s x)with
  |true=>exact vk b a (xJ .. ▸c).2
  |false=>rw[c]at h;exact oS b r h
end
end Go.Avm
namespace Go.Avm
open Go.Proofs
def X9:Ex→List AV
 | .mk k o nm n p xs=>[u8 k,u8 o, .d (.str nm),dI n,dI p, .d (.ro (fJ xs))]
def Xp(K:Nat)(e:Ex):Nat×aE:=(K,⟨1,some (.arr 1 (X9 e))⟩)
def Ya(K:Nat):Nat×aE:=(K,⟨1,some (.arr 1 [u8 0,u8 0, .d (.str []),dI 0,dI 0, .nils])⟩)
def pC(K:Nat):AV:= .ptr K 1 0 0 1
def I7(ab:Int):List (Nat×AV):=[(0,rP),(1,dI ab),(4,pC 1004),(5,pC 1083)]
def I8(L:List T)(s:RS)(e:Ex):List (Nat×aE):=rd L s ++[Ya 1004,Xp 1083 e]
def Vq(L:List T)(s:RS)(e:Ex):List (Nat×aE):=rd L s ++[Xp 1004 e,(1083,⟨1,none⟩)]
def Vs(L:List T)(s:RS):List (Nat×aE):=rd L s ++[(1004,⟨1,none⟩),(1083,⟨1,none⟩)]
def Kf(L:List T)(ab:Int)(s:RS)(e:Ex):Res Ex→Prop
 | .ok a b=>b.i<L.length∧RL 39 (lO 100 2) (I7 ab) (I8 L s e) .ret [(4,pC 1004)] (Vq L b a)
 | .bad p q b=>RL 39 (lO 100 2) (I7 ab) (I8 L s e) (.panic (dA p q)) [] (Vs L b)
 | .out=>True
section
variable{L:List T}(a:dC L){s:RS}(l:s.i<L.length)(ab:Int)(k o:Int)(nm:List UInt8)(n p:Int)(xs:List Ex)
include l a
theorem Oi(h:((dY L ab s).1==0)=true):RE 39 (lO 100 2) (I7 ab) (I8 L s (.mk k o nm n p xs)) .ret [(4,pC 1004)] (Vq L s (.mk k o nm n p xs)):=
 qE {hint:=qT 100 [(18,qB h)],calls:=tC [(100,14,2078,ad (Hf l ab))]} 100 2000
theorem Sa(h:((dY L ab s).1==0)=false)(q r:Int)(b:RS)(c:HX 100 [rP,dI (fh ((dY L ab s).2+1))] (rd L s.nx) (dA q r) (rd L b)):
    RE 39 (lO 100 2) (I7 ab) (I8 L s (.mk k o nm n p xs)) (.panic (dA q r)) [] (Vs L b):=
 qE {hint:=qT 100 [(18,qB h),(27,bj Pg s.i (by have:=a.len;omega))],calls:=tC [(100,14,2078,ad (Hf l ab)),(100,21,2390,ad (bq l))],pans:=an Pg [(100,7,2780,⟨6,some (bg c),[]⟩)]} 100 2000
theorem Sb(h:((dY L ab s).1==0)=false)(f j:Int)(b:List UInt8)(g e:Int)(bl:List Ex)(d:RS)(c:HC 100 [rP,dI (fh ((dY L ab s).2+1))] (rd L s.nx) [fd (.mk f j b g e bl)] (rd L d)):
    RE 39 (lO 100 2) (I7 ab) (I8 L s (.mk k o nm n p xs)) .normal (I7 ab) (I8 L d (.mk 9 (dY L ab s).1 [] 0 (bZ L s).p [.mk k o nm n p xs, .mk f j b g e bl])):=
 MJ b9 named {hint:=qT 100 [(18,qB h),(27,bj Pg s.i (by have:=a.len;omega))],calls:=tC [(100,14,2078,ad (Hf l ab)),(100,21,2390,ad (bq l)),(100,36,3014,ad c)]} 2000 100 2000 39 1000000 ([(1083,5)]) ⟨rfl,rfl,rfl,by kernel_rfl,by kernel_rfl,by kernel_rfl⟩ (by kernel_rfl) (by kernel_rfl) (fun _=>by kernel_rfl)
end
noncomputable def Sc{L:List T}{ab:Int}{s:RS}{e:Ex}{b:List (Nat×aE)}{x:aB}{l':List (Nat×AV)}(h:RL 39 (lO 100 2) (I7 ab) (I8 L s e) x l' b):dJ Pg:=
 ⟨39,aJ Pg 100 2,I7 ab,fun _=>I8 L s e,x,l',fun _=>b,fun a X c d=>(h a X c d).aw⟩
theorem Oj{L:List T}{ab:Int}{s i b:RS}{k o:Int}{nm:List UInt8}{n p:Int}{xs:List Ex}{e j:Int}{a:List UInt8}{g d:Int}{bl:List Ex}
    (c:HC 128 [rP] (rd L s) [fd (.mk k o nm n p xs)] (rd L i))
    (h:RL 39 (lO 100 2) (I7 ab) (I8 L i (.mk k o nm n p xs)) .ret [(4,pC 1004)] (Vq L b (.mk e j a g d bl))):
    HC 100 [rP,dI ab] (rd L s) [fd (.mk e j a g d bl)] (rd L b):=
 qN {loops:=fun f q=>if f=100 then (if q=2 then some (Sc h)else none)else none,calls:=tC [(100,10,1078,ad c)]} 1000
theorem Kg{L:List T}{ab:Int}{s b a:RS}{k o:Int}{nm:List UInt8}{n p:Int}{xs:List Ex}{q r:Int}
    (c:HC 128 [rP] (rd L s) [fd (.mk k o nm n p xs)] (rd L b))
    (h:RL 39 (lO 100 2) (I7 ab) (I8 L b (.mk k o nm n p xs)) (.panic (dA q r)) [] (Vs L a)):
    HX 100 [rP,dI ab] (rd L s) (dA q r) (rd L a):=
 qX {loops:=fun f q=>if f=100 then (if q=2 then some (Sc h)else none)else none,calls:=tC [(100,10,1078,ad c)]} 1000
theorem Kh{L:List T}{ab:Int}{s a:RS}{q r:Int}(c:HX 128 [rP] (rd L s) (dA q r) (rd L a)):
    HX 100 [rP,dI ab] (rd L s) (dA q r) (rd L a):=
 qX {pans:=an Pg [(100,1,1039,⟨1,some (bg c),[]⟩)]} 1000
section
variable{L:List T}(b:dC L)
include b
theorem Hg(n:Nat)(A:∀(k:Int)(s:RS),s.i<L.length→RC L 100 [rP,dI k] (fun e=>[fd e]) s (bH L n k s))(z:∀(k:Int)(e:Ex)(s:RS),s.i<L.length→Kf L k s e (eK L n k e s))
    (ab:Int) (e:Ex) (s:RS) (l:s.i<L.length):Kf L ab s e (eK L (n+1) ab e s):=by
 obtain⟨k,o,nm,m,p,xs⟩:=e;simp only[eK];cases h:((dY L ab s).1==0)with
 |true=>exact⟨l,fun d X g j=>aA (Oi b l ab k o nm m p xs h d X g j) (by simp)⟩
 |false=>
  have C:s.nx.i<L.length:=oS l ab b CL (by simpa [dY]using h);have c:=A (fh ((dY L ab s).2+1)) s.nx C;simp only[xP];revert c;cases bH L n (fh ((dY L ab s).2+1)) s.nx with
  |out=>exact fun _=>trivial
  |bad q r t=>exact fun c d X g j=>aA (Sa b l ab k o nm m p xs h q r t c d X g j) (by simp)
  |ok D t=>
   obtain⟨w,y,f,x,v,bl⟩:=D;intro c;have u:=z ab (.mk 9 (dY L ab s).1 [] 0 (bZ L s).p [.mk k o nm m p xs, .mk w y f x v bl]) t c.1;simp only[Res.bind];revert u;cases eK L n ab (.mk 9 (dY L ab s).1 [] 0 (bZ L s).p [.mk k o nm m p xs, .mk w y f x v bl]) t with
   |out=>exact fun _=>trivial
   |bad q r B=>exact fun u d X g j=>au (Sb b l ab k o nm m p xs h w y f x v bl t c.2 d X g j) (u d X g j)
   |ok a B=>exact fun u=>⟨u.1,fun d X g j=>au (Sb b l ab k o nm m p xs h w y f x v bl t c.2 d X g j) (u.2 d X g j)⟩
theorem Hh(n:Nat)(f:∀s:RS,s.i<L.length→RC L 128 [rP] (fun e=>[fd e]) s (gQ L n s))(g:∀(k:Int)(e:Ex)(s:RS),s.i<L.length→Kf L k s e (eK L n k e s))
    (ab:Int) (s:RS) (l:s.i<L.length):RC L 100 [rP,dI ab] (fun e=>[fd e]) s (bH L (n+1) ab s):=by
 simp only[bH];refine RC.bind (f s l) (fun q r h c=>Kh c) (fun e h u c=> ?_);have d:=g ab e h u;obtain⟨k,o,nm,m,p,xs⟩:=e;revert d;cases eK L n ab (.mk k o nm m p xs) h with
 |out=>exact fun _=>trivial
 |bad q r t=>exact fun d=>Kg c d
 |ok a t=>
  obtain⟨w,y,j,x,v,bl⟩:=a;exact fun d=>⟨d.1,Oj c d.2⟩
end
end Go.Avm
namespace Go.Avm
open Go.Proofs
def kv:Nat×aE:=(1003,⟨1,some (.arr 1 [rP])⟩)
def ua(l:List Ex):List AV:=l.map fun e=> .d (fd e)
def wm(nm:List UInt8)(p:Int)(a:AV):Nat×aE:=(1082,⟨1,some (.arr 1 [u8 5,u8 0, .d (.str nm),dI 0,dI p,a])⟩)
def EG:AV:= .fn 154 [pC 1082,pC 1003]
theorem cN(ρ:Nat→Nat):∀{l:List AV},(∀x∈l,∃d,x= .d d)→bk ρ l=l
 |[],_=>rfl
 |x::l,h=>by
  obtain⟨d,rfl⟩:=h x (by simp);have b:=cN ρ (l:=l) fun y a=>h y (by simp[a])
  simp only[bk,aO,b]
theorem d4(r:List Ex):∀x∈ua r,∃d,x= .d d:=fun x a=>by
 obtain⟨e,_,rfl⟩:=x9.1 a;exact⟨_,rfl⟩
def zD:D:= .agg [.int .u8 0, .int .u8 0, .str [], .int .i64 0, .int .i64 0, .ro []]
section
variable{L:List T}(a:dC L){s:RS}(l:s.i<L.length)(nm:List UInt8)(p:Int)
theorem Vt(g i:Int)(b:List UInt8)(h e:Int)(bl:List Ex)(d:RS)(c:HC 100 [rP,dI 1] (rd L s) [fd (.mk g i b h e bl)] (rd L d)):
    HC 154 [pC 1082,pC 1003] (rd L s ++[wm nm p .nils,kv,(400000,⟨0,none⟩)]) [] (rd L d ++[wm nm p (.sl 400000 2 0 1 6),kv,(400000,⟨2,some (.arr 6 (ua [.mk g i b h e bl]))⟩)]):=
 qN {nils:=fun f r=>if f=154 then (if r=0 then some ⟨1082,5,400000,6,false,true⟩else none)else none,calls:=tC [(154,5,2033,ad c)]} 2000
theorem Ki(c:List Ex)(n:Nat)(e:D):∀x∈((ua c).take c.length ++[AV.d zD]).set n (AV.d e),∃d,x= .d d:=fun x b=>by
 rcases xl b with b|rfl
 ·rcases xU.1 b with b|b
  ·exact d4 c x (yL b)
  ·simp only[xM]at b;exact⟨_,b⟩
 ·exact⟨_,rfl⟩
theorem Vu(v:Nat)(b:List Ex)(k:b.length<1000000)(h j:Int)(e:List UInt8)(i g:Int)(bl:List Ex)(f:RS)(c:HC 100 [rP,dI 1] (rd L s) [fd (.mk h j e i g bl)] (rd L f)):
    HC 154 [pC 1082,pC 1003] (rd L s ++[wm nm p (.sl 400000 v 0 b.length 6),kv,(400000,⟨v,some (.arr 6 (ua b))⟩)]) [] (rd L f ++[wm nm p (.sl 400000 (v+1) 0 (b.length+1) 6),kv,(400000,⟨v+1,some (.arr 6 (((ua b).take b.length ++[AV.d zD]).set (0+b.length) (AV.d (fd (.mk h j e i g bl)))))⟩)]):=
 qN {hint:=qT 154 [(8, .apps (ua b) b.length 1 ⟨by simp[ua],by omega⟩),(9, .inb (b.length:Int) (b.length+1) (by omega) (by simp)),(100008, .elt ((ua b).take b.length ++[AV.d zD]) (0+b.length) (AV.d zD) (by simp[ua]))],calls:=tC [(154,5,2033,ad c)]} 2000 ⟨rfl,rfl,rfl,by kernel_rfl,by simp[aY,dx,bk,aO,dm,wm,kv,pC,rd,rP,Ej,u8,cN _ (d4 b)],by simp[aY,dx,bk,aO,dm,wm,kv,pC,rd,rP,Ej,u8,cN _ (Ki b _ _)]⟩
end
def fk(nm:List UInt8)(p:Int):List (Nat×aE):=[wm nm p .nils,kv,(400000,⟨0,none⟩)]
def dE(nm:List UInt8)(p:Int)(r:List Ex):List (Nat×aE):=[wm nm p (.sl 400000 (r.length+1) 0 r.length 6),kv,(400000,⟨r.length+1,some (.arr 6 (ua r))⟩)]
def j5(v:Nat):List (Nat×aE):=[(1082,⟨1,none⟩),(1003,⟨1,none⟩),(400000,⟨v,none⟩)]
def Sd(nm:List UInt8)(p:Int):List Ex→List (Nat×aE)
 |[]=>fk nm p
 |r=>dE nm p r
section
variable{L:List T}(a:dC L){s:RS}(l:s.i<L.length)(nm:List UInt8)(p:Int)
theorem Vv(e:Ex)(d:RS)(c:HC 100 [rP,dI 1] (rd L s) [fd e] (rd L d)):
    HC 154 [pC 1082,pC 1003] (rd L s ++fk nm p) [] (rd L d ++dE nm p [e]):=by
 obtain⟨g,i,b,h,f,bl⟩:=e;exact Vt nm p g i b h f bl d c
theorem Vw(r:List Ex)(m:r.length<1000000)(e:Ex)(k:RS)(c:HC 100 [rP,dI 1] (rd L s) [fd e] (rd L k)):
    HC 154 [pC 1082,pC 1003] (rd L s ++dE nm p r) [] (rd L k ++dE nm p (r ++[e])):=by
 obtain⟨i,g,b,j,f,bl⟩:=e;have h:=Vu nm p (r.length+1) r m i g b j f bl k c
 have q:((ua r).take r.length ++[AV.d zD]).set (0+r.length) (AV.d (fd (.mk i g b j f bl)))=ua (r ++[.mk i g b j f bl]):=by
  have o:r.length=(ua r).length:=by simp[ua]
  rw[x8,o,List.take_length];simp[ua]
 rw[q]at h;have n:r.length+1=(r ++[Ex.mk i g b j f bl]).length:=by simp
 simp only[dE,←n];exact h
theorem Se(q t:Int)(b:RS)(c:HX 100 [rP,dI 1] (rd L s) (dA q t) (rd L b)):
    HX 154 [pC 1082,pC 1003] (rd L s ++fk nm p) (dA q t) (rd L b ++j5 0):=
 qX {pans:=an Pg [(154,0,2000,⟨3,some (bg c),[4,5]⟩)]} 2000
theorem Sf(r:List Ex)(q t:Int)(b:RS)(c:HX 100 [rP,dI 1] (rd L s) (dA q t) (rd L b)):
    HX 154 [pC 1082,pC 1003] (rd L s ++dE nm p r) (dA q t) (rd L b ++j5 (r.length+1)):=
 qX {pans:=an Pg [(154,0,2000,⟨3,some (bg c),[4,5]⟩)]} 2000 ⟨rfl,rfl,rfl,by kernel_rfl,by simp[aY,dx,bk,aO,dm,fk,dE,wm,kv,pC,rd,rP,Ej,u8,cN _ (d4 _)],by simp[aY,dx,bk,aO,dm,fk,dE,j5,wm,kv,pC,rd,rP,Ej,u8,cN _ (d4 _)]⟩
def Hi:List (Nat×AV):=[(0,rP),(1,EG)]
include l
theorem Ok(r:List Ex)(h:bV L s [44]=false):RE 17 (lO 42 3) Hi (rd L s ++dE nm p r) (.exit 0) [(0,rP)] (rd L s ++dE nm p r):=
 qE {calls:=tC [(42,12,3017,ad (ak l [44] h))]} 42 3000 ⟨rfl,rfl,rfl,by kernel_rfl,by simp[aY,dx,bk,aO,dm,fk,dE,wm,kv,pC,rd,rP,Ej,u8,cN _ (d4 _)],by simp[aY,dx,bk,aO,dm,fk,dE,j5,wm,kv,pC,rd,rP,Ej,u8,cN _ (d4 _)]⟩
theorem Ol(r:List Ex)(e:RS)(c1:HC 45 [rP, .d (.str [44])] (rd L s) [.bool true] (rd L e))(q t:Int)(b:RS)
    (c:HX 154 [pC 1082,pC 1003] (rd L e ++dE nm p r) (dA q t) (rd L b ++j5 (r.length+1))):RE 17 (lO 42 3) Hi (rd L s ++dE nm p r) (.panic (dA q t)) [] (rd L b ++j5 (r.length+1)):=
 qE {calls:=tC [(42,12,3017,ad c1)],pans:=an Pg [(42,4,3017,⟨1,some (bg c),[]⟩)]} 42 3000 ⟨rfl,rfl,rfl,by kernel_rfl,by simp[aY,dx,bk,aO,dm,fk,dE,wm,kv,pC,rd,rP,Ej,u8,cN _ (d4 _)],by simp[aY,dx,bk,aO,dm,fk,dE,j5,wm,kv,pC,rd,rP,Ej,u8,cN _ (d4 _)]⟩
theorem Vx(r:List Ex)(f:RS)(c1:HC 45 [rP, .d (.str [44])] (rd L s) [.bool true] (rd L f))(e:Ex)(b:RS)
    (c:HC 154 [pC 1082,pC 1003] (rd L f ++dE nm p r) [] (rd L b ++dE nm p (r ++[e]))):RE 17 (lO 42 3) Hi (rd L s ++dE nm p r) .normal Hi (rd L b ++dE nm p (r ++[e])):=
 qE {calls:=tC [(42,12,3017,ad c1),(42,14,3034,ad c)]} 42 3000 ⟨rfl,rfl,rfl,by kernel_rfl,by simp[aY,dx,bk,aO,dm,fk,dE,wm,kv,pC,rd,rP,Ej,u8,cN _ (d4 _)],by simp[aY,dx,bk,aO,dm,fk,dE,j5,wm,kv,pC,rd,rP,Ej,u8,cN _ (d4 _)]⟩
end
def Om(L:List T)(nm:List UInt8)(p:Int)(s:RS)(r:List Ex):Res (List Ex)→Prop
 | .ok b a=>a.i<L.length∧b≠[]∧RL 17 (lO 42 3) Hi (rd L s ++dE nm p r) (.exit 0) [(0,rP)] (rd L a ++dE nm p b)
 | .bad q t a=>∃v,RL 17 (lO 42 3) Hi (rd L s ++dE nm p r) (.panic (dA q t)) [] (rd L a ++j5 v)
 | .out=>True
noncomputable def Oo{L:List T}{nm:List UInt8}{p:Int}{s:RS}{r:List Ex}{b:List (Nat×aE)}{x:aB}{l':List (Nat×AV)}(h:RL 17 (lO 42 3) Hi (rd L s ++dE nm p r) x l' b):dJ Pg:=
 ⟨17,aJ Pg 42 3,Hi,fun _=>rd L s ++dE nm p r,x,l',fun _=>b,fun a X c d=>(h a X c d).aw⟩
section
variable{L:List T}(b:dC L)(nm:List UInt8)(p:Int)
include b
theorem Hj(n:Nat)(z:∀(k:Int)(s:RS),s.i<L.length→RC L 100 [rP,dI k] (fun e=>[fd e]) s (bH L n k s))(A:∀(r:List Ex)(s:RS),s.i<L.length→r.length≤s.i→r≠[]→Om L nm p s r (fD L n r s))
    (r:List Ex) (s:RS) (l:s.i<L.length) (D:r.length≤s.i) (y:r≠[]):Om L nm p s r (fD L (n+1) r s):=by
 have u:r.length<1000000:=by have:=b.len;omega
 simp only[fD,cD];cases h:bV L s [44]with
 |false=>exact⟨l,y,fun d X g j=>aA (Ok l nm p r h d X g j) (by simp)⟩
 |true=>
  have hw:aL L [44] s= .ok (bZ L s) s.nx:=by simp only[aL,h];rfl
  have C:=vk b l h;have c1:=mayT l [44] h (bZ L s) s.nx (GX l b [44] h rfl rfl rfl rfl rfl rfl);simp only[xW,hw,Res.bind];have c:=z 1 s.nx C;revert c;have x:∀a f,bH L n 1 s.nx= .ok a f→s.nx.i<f.i:=fun a f w=>tQ L n 1 s.nx a f w
  cases w:bH L n 1 s.nx with
  |out=>exact fun _=>trivial
  |bad q t f=>exact fun c=>⟨_,fun d X g j=>aA (Ol l nm p r s.nx c1 q t f (Sf nm p r q t f c) d X g j) (by simp)⟩
  |ok e f=>
   intro c;have E:=x e f w;have m:=A (r ++[e]) f c.1 (by simp only[xK,xG,xS,RS.nx]at*;omega) (by simp);have o:=Vx l nm p r s.nx c1 e f (Vw nm p r u e f c.2);simp only;revert m;cases fD L n (r ++[e]) f with
   |out=>exact fun _=>trivial
   |bad q t B=>exact fun ⟨v,m⟩=>⟨v,fun d X g j=>au (o d X g j) (m d X g j)⟩
   |ok a B=>exact fun m=>⟨m.1,m.2.1,fun d X g j=>au (o d X g j) (m.2.2 d X g j)⟩
end
section
variable{L:List T}(nm:List UInt8)(p:Int){s a b g j:RS}{l k:T}{q t:Int}
theorem Vy(c:HX 40 [rP, .d (.str [40])] (rd L s) (dA q t) (rd L a)):
    HX 42 [rP,EG] (rd L s ++fk nm p) (dA q t) (rd L a ++j5 0):=
 qX {pans:=an Pg [(42,0,1000,⟨1,some (bg c),[]⟩)]} 1000
section
variable(c:a.i<L.length)(c1:HC 40 [rP, .d (.str [40])] (rd L s) [tD l] (rd L a))
include c c1
theorem Vz(h:bV L a [41]=true)(e:HC 40 [rP, .d (.str [41])] (rd L a) [tD k] (rd L b)):
    HC 42 [rP,EG] (rd L s ++fk nm p) [] (rd L b ++fk nm p):=
 qN {calls:=tC [(42,5,1017,ad c1),(42,7,1034,ad (aW c [41] h)),(42,16,1068,ad e)]} 1000
theorem VA(h:bV L a [41]=true)(e:HX 40 [rP, .d (.str [41])] (rd L a) (dA q t) (rd L b)):
    HX 42 [rP,EG] (rd L s ++fk nm p) (dA q t) (rd L b ++j5 0):=
 qX {calls:=tC [(42,5,1017,ad c1),(42,7,1034,ad (aW c [41] h))],pans:=an Pg [(42,5,1051,⟨1,some (bg e),[]⟩)]} 1000
theorem VC(h:bV L a [41]=false)(d:HX 154 [pC 1082,pC 1003] (rd L a ++fk nm p) (dA q t) (rd L b ++j5 0)):
    HX 42 [rP,EG] (rd L s ++fk nm p) (dA q t) (rd L b ++j5 0):=
 qX {calls:=tC [(42,5,1017,ad c1),(42,7,1034,ad (aW c [41] h))],pans:=an Pg [(42,2,1051,⟨1,some (bg d),[]⟩)]} 1000
theorem VD(d:bV L a [41]=false)(e:Ex)(i:HC 154 [pC 1082,pC 1003] (rd L a ++fk nm p) [] (rd L b ++dE nm p [e]))(v:Nat)(h:RL 17 (lO 42 3) Hi (rd L b ++dE nm p [e]) (.panic (dA q t)) [] (rd L g ++j5 v)):
    HX 42 [rP,EG] (rd L s ++fk nm p) (dA q t) (rd L g ++j5 v):=
 qX {loops:=fun f q=>if f=42 then (if q=3 then some (Oo h)else none)else none,calls:=tC [(42,5,1017,ad c1),(42,7,1034,ad (aW c [41] d)),(42,10,1068,ad i)]} 1000
theorem VE(i:bV L a [41]=false)(e:Ex)(n:HC 154 [pC 1082,pC 1003] (rd L a ++fk nm p) [] (rd L b ++dE nm p [e]))(r:List Ex)(h:RL 17 (lO 42 3) Hi (rd L b ++dE nm p [e]) (.exit 0) [(0,rP)] (rd L g ++dE nm p r))(m:HX 40 [rP, .d (.str [41])] (rd L g) (dA q t) (rd L j)):
    HX 42 [rP,EG] (rd L s ++fk nm p) (dA q t) (rd L j ++j5 (r.length+1)):=
 qX {loops:=fun f q=>if f=42 then (if q=3 then some (Oo h)else none)else none,calls:=tC [(42,5,1017,ad c1),(42,7,1034,ad (aW c [41] i)),(42,10,1068,ad n)],pans:=an Pg [(42,5,1068,⟨1,some (bg m),[]⟩)]} 1000
theorem VF(i:bV L a [41]=false)(e:Ex)(n:HC 154 [pC 1082,pC 1003] (rd L a ++fk nm p) [] (rd L b ++dE nm p [e]))(r:List Ex)(h:RL 17 (lO 42 3) Hi (rd L b ++dE nm p [e]) (.exit 0) [(0,rP)] (rd L g ++dE nm p r))(m:HC 40 [rP, .d (.str [41])] (rd L g) [tD k] (rd L j)):
    HC 42 [rP,EG] (rd L s ++fk nm p) [] (rd L j ++dE nm p r):=
 qN {loops:=fun f q=>if f=42 then (if q=3 then some (Oo h)else none)else none,calls:=tC [(42,5,1017,ad c1),(42,7,1034,ad (aW c [41] i)),(42,10,1068,ad n),(42,16,1085,ad m)]} 1000 ⟨rfl,rfl,rfl,by kernel_rfl,by simp[aY,dx,bk,aO,dm,fk,dE,wm,kv,pC,rd,rP,Ej,u8,cN _ (d4 _)],by simp[aY,dx,bk,aO,dm,fk,dE,j5,wm,kv,pC,rd,rP,Ej,u8,cN _ (d4 _)]⟩
end
theorem Sg(c:HC 42 [rP,EG] (rd L s ++fk nm p) [] (rd L a ++fk nm p)):
    HC 130 [rP, .d (.str nm),dI p] (rd L s) [fd (.mk 5 0 nm 0 p [])] (rd L a):=
 qN {calls:=tC [(130,13,1135,ad c)]} 1000
theorem z7(h:aa):∀r:List Ex,ej (view 3 h) (ua r)=some (fJ r,[])
 |[]=>rfl
 |x::r=>by
  have c:=z7 h r;simp only[ua]at c;simp only[ua,xH,ej,c,fJ];rfl
def Yb(r:List Ex):tG:=⟨1082,5,400000,r.length,ua r,fJ r,by simp[ua],fun h=>z7 h r⟩
theorem Sh(r:List Ex)(c:HC 42 [rP,EG] (rd L s ++fk nm p) [] (rd L a ++dE nm p r)):
    HC 130 [rP, .d (.str nm),dI p] (rd L s) [fd (.mk 5 0 nm 0 p r)] (rd L a):=
 qN {frz:=fun f q=>if f=130 then (if q=3 then some (Yb r)else none)else none,calls:=tC [(130,13,1135,ad c)]} 1000
theorem Si(v:Nat)(c:HX 42 [rP,EG] (rd L s ++fk nm p) (dA q t) (rd L a ++j5 v)):
    HX 130 [rP, .d (.str nm),dI p] (rd L s) (dA q t) (rd L a):=
 qX {pans:=an Pg [(130,2,1105,⟨2,some (bg c),[]⟩)]} 1000
end
end Go.Avm
namespace Go.Avm
open Go.Proofs
def Xq(L:List T)(nm:List UInt8)(p:Int)(s:RS):Res (List Ex)→Prop
 | .ok r a=>a.i<L.length∧HC 42 [rP,EG] (rd L s ++fk nm p) [] (rd L a ++Sd nm p r)
 | .bad q t a=>∃v,HX 42 [rP,EG] (rd L s ++fk nm p) (dA q t) (rd L a ++j5 v)
 | .out=>True
abbrev eR:Ex→List D:=fun e=>[fd e]
structure Hk(L:List T)(n:Nat):Prop where
 one:∀s:RS,s.i<L.length→RC L 128 [rP] eR s (gQ L n s)
 place:∀s:RS,s.i<L.length→RC L 131 [rP] eR s (d8 L n s)
 call:∀(nm:List UInt8)(p:Int)(s:RS),s.i<L.length→RC L 130 [rP, .d (.str nm),dI p] eR s (gk L n nm p s)
 expr:∀(k:Int)(s:RS),s.i<L.length→RC L 100 [rP,dI k] eR s (bH L n k s)
 tail:∀(k:Int)(e:Ex)(s:RS),s.i<L.length→Kf L k s e (eK L n k e s)
 args:∀(nm:List UInt8)(p:Int)(s:RS),s.i<L.length→Xq L nm p s (gR L n s)
 more:∀(nm:List UInt8)(p:Int)(r:List Ex)(s:RS),s.i<L.length→r.length≤s.i→r≠[]→Om L nm p s r (fD L n r s)
theorem Hl{L:List T}(y:dC L){n:Nat}(h:Hk L n)(nm:List UInt8)(p:Int)(s:RS)(l:s.i<L.length):Xq L nm p s (gR L (n+1) s):=by
 simp only[gR];have c1:=cw l y [40];have u:=aQ L [40] s;revert c1 u;cases aL L [40] s with
 |out=>exact fun _ _=>trivial
 |bad q t j=>exact fun c1 _=>⟨0,Vy nm p c1⟩
 |ok A j=>
  intro c1 u;have u:=u A j rfl;have f:=c1.1;simp only[Res.bind];cases c:bV L j [41]with
  |true=>
   have d:=cw f y [41];simp only[xW];revert d;cases aL L [41] j with
   |out=>exact fun _=>trivial
   |bad q t g=>exact fun d=>⟨0,VA nm p f c1.2 c d⟩
   |ok F g=>exact fun d=>⟨d.1,Vz nm p f c1.2 c d.2⟩
  |false=>
   have d:=h.expr 1 j f;have o:=tQ L n 1 j;simp only[xP];revert d o;cases bH L n 1 j with
   |out=>exact fun _ _=>trivial
   |bad q t g=>exact fun d _=>⟨0,VC nm p f c1.2 c (Se nm p q t g d)⟩
   |ok e g=>
    intro d o;have o:=o e g rfl;have w:=Vv nm p e g d.2;have m:=h.more nm p [e] g d.1 (by simp only[xG,xS];omega) (by simp);simp only;revert m;cases fD L n [e] g with
    |out=>exact fun _=>trivial
    |bad q t z=>exact fun ⟨v,m⟩=>⟨v,VD nm p f c1.2 c e w v m⟩
    |ok r z=>
     rintro⟨C,x,m⟩;have k:=cw C y [41];simp only;revert k;cases aL L [41] z with
     |out=>exact fun _=>trivial
     |bad q t D=>exact fun k=>⟨_,VE nm p f c1.2 c e w r m k⟩
     |ok E D=>
      intro k
      have B:Sd nm p r=dE nm p r:=by
       cases r with
       |nil=>exact absurd rfl x
       |cons a b=>rfl
      refine⟨k.1, ?_⟩;rw[B];exact VF nm p f c1.2 c e w r m k.2
theorem Hm{L:List T}{n:Nat}(h:Hk L n)(nm:List UInt8)(p:Int)(s:RS)(l:s.i<L.length):RC L 130 [rP, .d (.str nm),dI p] eR s (gk L (n+1) nm p s):=by
 simp only[gk];have c:=h.args nm p s l;revert c;cases gR L n s with
 |out=>exact fun _=>trivial
 |bad q t e=>exact fun ⟨v,c⟩=>Si nm p v c
 |ok r e=>
  intro c;refine⟨c.1, ?_⟩;cases r with
  |nil=>exact Sg nm p c.2
  |cons a b=>exact Sh nm p (a::b) c.2
theorem lw{L:List T}(a:dC L):∀n,Hk L n
 |0=>⟨fun _ _=>trivial,fun _ _=>trivial,fun _ _ _ _=>trivial,fun _ _ _=>trivial,fun _ _ _ _=>trivial,fun _ _ _ _=>trivial,fun _ _ _ _ _ _ _=>trivial⟩
 |n+1=>by
  have h:=lw a n;exact⟨Ke a n h.one h.expr h.place h.call,EF a n h.expr,Hm h,Hh a n h.one h.tail,Hg a n h.expr h.tail,Hl a h,fun nm p=>Hj a nm p n h.expr (h.more nm p)⟩
end Go.Avm
