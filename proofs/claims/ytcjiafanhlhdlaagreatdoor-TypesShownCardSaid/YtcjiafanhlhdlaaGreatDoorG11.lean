/-
  Types: a function: its parameters, its block.
-/
import Derived.Test.YtcjiafanhlhdlaaGreatDoorG10
import Derived.Test.YtcjiafanhlhdlaaGreatDoorG09
import Derived.Test.YtcjiafanhlhdlaaGreatDoorG08
set_option linter.unusedVariables false
set_option linter.unusedSimpArgs false
set_option linter.unusedSectionVars false
namespace Go.Avm
open Go.Proofs
def iJ(fs:List Fn)(i:Nat)(f:Fn)(a:List Pt):TR (List Vr×List Pt):=(e5 ⟨fs,i,0⟩ f.bd (f.ps.foldl CS.par ⟨[],[],⟨[],0⟩,a⟩)).bind fun c=>bif f.res==0||dV f.bd then .ok (c.vars,c.pts)else .bad f.p 12
def cF(fs:List Fn):Nat→List Fn→List (List Vr)→List Pt→TR (List (List Vr)×List Pt)
 |_,[],a,b=> .ok (a,b)
 |i,f::r,a,b=>(iJ fs i f b).bind fun q=>cF fs (i+1) r (a ++[q.1]) q.2
def cT(fs:List Fn):TR (List (List Vr)×List Pt):=(gI fs).bind fun _=>cF fs 0 fs [] [ey]
def XS(x:AV):Prop:=∀ρ:Nat→Nat,ρ 500002=500002→ρ 500003=500003→ρ 500004=500004→aX ρ x=x
abbrev iK(fs:List Fn)(W:List AV)(a:List Pt)(g:Gv)(e:Nat)(b f c:AV):List (Nat×aK):=
 [(500000,⟨1,some (.arr 1 [.mp 499904 1, .d (.ro (fs.map c2)), .sl 500191 1 0 fs.length 1, .sl 500382 g.vp 0 a.length 3,dN e,b,f,c,dI 0])⟩),(499904,⟨1,some (.map (kp 0 fs) fs.length)⟩),(500002,⟨g.vh,none⟩),(500003,⟨g.vs,none⟩),(500004,⟨g.vq,none⟩),(500005,⟨g.vv,none⟩),(500382,⟨g.vp,some (.arr 3 (a.map cO))⟩),(500191,⟨1,some (.arr 1 W)⟩)]
abbrev K7(fs:List Fn)(W:List AV)(a:List Pt)(g:Gv)(i:Nat):List (Nat×aK):=
 [(500000,⟨1,some (.arr 1 [.mp 499904 1, .d (.ro (fs.map c2)), .sl 500191 1 0 fs.length 1, .sl 500382 g.vp 0 a.length 3,dN i, .mp 500002 (g.vh+1), .mp 500003 (g.vs+1), .mp 500004 (g.vq+1),dI 0])⟩),(499904,⟨1,some (.map (kp 0 fs) fs.length)⟩),(500002,⟨g.vh+1,some (.map [] 0)⟩),(500003,⟨g.vs+1,some (.map [] 0)⟩),(500004,⟨g.vq+1,some (.map [] 0)⟩),(500005,⟨g.vv,none⟩),(500382,⟨g.vp,some (.arr 3 (a.map cO))⟩),(500191,⟨1,some (.arr 1 W)⟩)]
abbrev fZ:List (Nat×aK):=[(600003,⟨0,none⟩)]
def p0(W:List AV):Prop:=∀x∈W,x= .nils∨∃d,x= .d d
theorem Ds{W:List AV}(h:p0 W)(ρ:Nat→Nat):bX ρ W=W:=nO fun x a=>by
 rcases h x a with rfl|⟨d,rfl⟩<;>rfl
abbrev Ni:List Nat:=[500000,499904,500002,500003,500004,500005,500382,500191]
section
variable{fs:List Fn}{W:List AV}{b:List Pt}{g:Gv}{j:Nat}{c e d:AV}(f:p0 W)(l:XS c)(k:XS e)(h:XS d){ρ:Nat→Nat}(a:([499904,500002,500003,500004,500382,500191].map ρ)=[499904,500002,500003,500004,500382,500191])
include f a
theorem e7(l:XS c)(k:XS e)(h:XS d):((iK fs W b g j c e d).map fun p=>cD ρ p.2)=(iK fs W b g j c e d).map (·.2):=by
 simp only[xN,xk,List.cons.injEq,yr]at a;obtain⟨r,n,i,m,q,o⟩:=a;simp only[iK,xN,xk,cD,xc,Option.map_none,gh,nN,Ds f,bX,aX,r,q,o,l ρ n i m,k ρ n i m,h ρ n i m]
theorem K8{i:Nat}:((K7 fs W b g i).map fun p=>cD ρ p.2)=(K7 fs W b g i).map (·.2):=by
 simp only[xN,xk,List.cons.injEq,yr]at a;obtain⟨s,r,m,q,o,n⟩:=a;simp only[K7,xN,xk,cD,xc,Option.map_none,gh,nN,Ds f,bX,aX,s,r,m,q,o,n]
end
abbrev Ff:List Nat:=[500000,499904,500002,500003,500004,500005,500382,500191,600003]
theorem Dt{A B b a:List (Nat×aK)}{ar:List AV}(h:A.map (·.1)=Ni)(hB:B.map (·.1)=Ni)(k:b.map (·.1)=[600003])(c:a.map (·.1)=[600003])(f:bX (d7 Ff 1000000) ar=ar)
    (i:(A.map fun p=>cD (d7 Ff 1000000) p.2)=A.map (·.2)) (j:(B.map fun p=>cD (d7 Ff 1000000) p.2)=B.map (·.2)) (g:(b.map fun p=>cD (d7 Ff 1000000) p.2)=b.map (·.2)) (d:(a.map fun p=>cD (d7 Ff 1000000) p.2)=a.map (·.2)):
    Cln ((A ++b).map (·.1)) 1000000 ar (A ++b) (B ++a):=by
 have e:(A ++b).map (·.1)=Ff:=by rw[xY,h,k];rfl
 rw[e];exact⟨rfl,e,by rw[xY,hB,c];rfl,f,by rw[xY,xY,i,g],by rw[xY,xY,j,d]⟩
noncomputable def bB:Code:=bG Pg 27 1
noncomputable def XW:Code:=KV bB
noncomputable def K9:Code:=UN (KV (tZ (tZ bB)))
noncomputable def XX:Code:=KV K9
noncomputable def XY:Code:=KV (tZ K9)
noncomputable def XZ:Code:=KV (tZ (tZ K9))
noncomputable def PC:Code:=tZ (tZ (tZ K9))
noncomputable def PD:Code:=tZ (tZ (tZ bB))
theorem z8:bB= .seq XW (.seq (.cond (.tmp 13) .skip (.exit 0)) (.seq (.block 1 (.seq XX (.seq XY (.seq XZ PC)))) PD)):=by kernel_rfl
abbrev qd(fs:List Fn)(i:Nat):List (Nat×AV):=[(0,aE),(10, .d (.ro (fs.map c2))),(11,dN (fs.map c2).length),(12,dN i)]
section
variable{fs:List Fn}{W:List AV}{a:List Pt}{g:Gv}{k:Nat}{c f e:AV}(b:p0 W)(j:XS c)(h:XS f)(d:XS e)(i:Nat)
include b j h d
theorem X0(t:Bool)(l:decide (i<(fs.map c2).length)=t):RE 69 XW (qd fs i) (iK fs W a g k c f e ++fZ) .normal (qd fs i ++[(13,dB t)]) (iK fs W a g k c f e ++fZ):=
 qE {hint:=qT 27 [(13,gn Pg i (fs.map c2).length t l)]} 27 599000 (Dt rfl rfl rfl rfl rfl (e7 b rfl j h d) (e7 b rfl j h d) rfl rfl)
variable(nm:List UInt8)(ps:List Pm)(l:Int)(m:List aP)(p:Int)(n:fs[i]? =some ⟨nm,ps,l,m,p⟩)
include n
theorem YC:RE 69 XX (qd fs i ++[(13,dB true)]) (iK fs W a g k c f e ++fZ) .normal (qd fs i ++[(2,dN i),(3, .ptr 600003 1 0 0 1)]) (iK fs W a g k c f e ++fB nm ps l m p):=
 qE {hint:=qT 27 [(15,Cc Pg fs i _ n)]} 27 599793 (Dt rfl rfl rfl rfl rfl (e7 b rfl j h d) (e7 b rfl j h d) rfl rfl)
omit n in
theorem YD:RE 69 XY (qd fs i ++[(2,dN i),(3, .ptr 600003 1 0 0 1)]) (iK fs W a g k c f e ++fB nm ps l m p) .normal (qd fs i ++[(3, .ptr 600003 1 0 0 1)]) (K7 fs W a g i ++fB nm ps l m p):=
 lY bv named {} 2000 27 599000 69 1000000 ([(500000,524290098181),(500000,524291146758),(500000,524292195335)]) (Dt rfl rfl rfl rfl rfl (e7 b rfl j h d) (K8 b rfl) rfl rfl) (by kernel_rfl) (by kernel_rfl) (fun _=>by kernel_rfl)
end
end Go.Avm
namespace Go.Avm
mutual
def t6:Ex→Ex
 | .mk k o nm n _ xs=> .mk k o nm n 0 (dh xs)
def dh:List Ex→List Ex
 |[]=>[]
 |x::l=>t6 x::dh l
end
mutual
def m3:aP→aP
 | .mk k id nm ty n _ es a b=> .mk k id nm ty n 0 (dh es) (lk a) (lk b)
def lk:List aP→List aP
 |[]=>[]
 |x::l=>m3 x::lk l
end
def FS(x:Pm):Pm:=⟨x.nm,x.ty,0⟩
def lr(f:Fn):Fn:=⟨f.nm,f.ps.map FS,f.res,lk f.bd,0⟩
theorem r8:∀l,(dh l).length=l.length
 |[]=>rfl
 |x::l=>by simp only[dh,xD,r8 l]
theorem z9{a:Type}(c:a):∀l,((dh l).map fun _=>c)=l.map fun _=>c
 |[]=>rfl
 |x::l=>by simp only[dh,xN,z9 c l]
theorem Ce:∀l,(dh l).isEmpty=l.isEmpty
 |[]=>rfl
 |_::_=>rfl
mutual
theorem HL:∀x,lc (m3 x)=lc x
 | .mk k id nm ty n p es a b=>by simp only[m3,lc,r9 a,r9 b]
theorem r9:∀l,dV (lk l)=dV l
 |[]=>rfl
 |[x]=>by simp only[lk,dV,HL x]
 |x::y::l=>by
  have:=r9 (y::l);simp only[lk,dV]at this ⊢;exact this
end
def TRq{c:Type}:TR c→TR c→Prop
 | .ok a, .ok b=>a=b
 | .bad _ e, .bad _ d=>e=d
 | .out, .out=>True
 |_,_=>False
theorem TRq.refl{a:Type}(r:TR a):TRq r r:=by cases r<;>simp[TRq]
theorem TRq.bad{a:Type}{p b e:Int}:TRq (TR.bad p e:TR a) (.bad b e):=rfl
theorem TRq.bind{c d:Type}{r b:TR c}{f f':c→TR d}(h:TRq r b)(e:∀a,TRq (f a) (f' a)):TRq (r.bind f) (b.bind f'):=by
 cases r<;>cases b<;>simp only[TRq]at h
 ·subst h;exact e _
 ·exact h
 ·trivial
theorem TRq.bif{d:Type}{b:Bool}{x a y c:TR d}(f:TRq x a)(e:TRq y c):TRq (bif b then x else y) (bif b then a else c):=by
 cases b
 ·exact e
 ·exact f
theorem qe(nm:List UInt8):∀(fs:List Fn)(i:Nat),cv nm (fs.map lr) i=(cv nm fs i).map fun q=>(q.1,lr q.2)
 |[],_=>rfl
 |f::r,i=>by
  simp only[xN,cv];show(bif nm==f.nm then _ else _)=_;cases (nm==f.nm)with
  |true=>rfl
  |false=>exact qe nm r (i+1)
def TE.q(E:TE):TE:={E with fs:=E.fs.map lr}
theorem HM(E:TE)(nm:List UInt8)(p a:Int):TRq (lZ E nm p) (lZ E.q nm a):=by
 unfold lZ TE.q;simp only;split
 ·rfl
 ·rfl
theorem HN(E:TE)(nm:List UInt8)(p a:Int):TRq (pX E nm p) (pX E.q nm a):=(HM E nm p a).bind fun _=>TRq.bif (TRq.refl _) TRq.bad
mutual
theorem vL(E:TE):∀x:Ex,TRq (ev E x) (ev E.q (t6 x))
 | .mk k o nm n p xs=>by
  have a:=fun ts b=>qf E xs ts b
  simp only[t6,ev,r8];refine TRq.bif (TRq.refl _) ?_;refine TRq.bif ((HM E nm p 0).bind fun r=>TRq.bif (TRq.refl _) TRq.bad) ?_;refine TRq.bif ((HN E nm p 0).bind fun _=>(a _ _).bind fun _=>TRq.refl _) ?_;refine TRq.bif ((HN E nm p 0).bind fun _=>TRq.refl _) ?_;refine TRq.bif ?_ ?_
  rotate_left
  ·refine TRq.bif (TRq.bif ((a _ _).bind fun _=>TRq.refl _) ((a _ _).bind fun _=>TRq.refl _)) ?_
   refine TRq.bif (TRq.bif (TRq.refl _) ?_) (TRq.refl _);exact TRq.bif ((a _ _).bind fun _=>TRq.refl _) (TRq.bif ((a _ _).bind fun _=>TRq.refl _) ((a _ _).bind fun _=>TRq.refl _))
  show TRq _ (match cv nm (E.fs.map lr) 0 with|none=>_|some (_,f)=>_);rw[qe];cases cv nm E.fs 0 with
  |none=>exact TRq.bad
  |some q=>
   obtain⟨j,f⟩:=q;simp only[xc,lr,xO,yq];exact TRq.bif ((a _ _).bind fun _=>TRq.refl _) TRq.bad
theorem qf(E:TE):∀(xs:List Ex)(ts:List (List Int))(a:Bool),TRq (aF E xs ts a) (aF E.q (dh xs) ts a)
 |[],[],_=>by simp only[dh,aF];rfl
 |_::_,[],_=>by simp only[dh,aF];rfl
 |[],_::_,_=>by simp only[dh,aF];trivial
 |x::xs,ts::r,a=>by
  simp only[dh,aF];exact(vL E x).bind fun t=>TRq.bif (qf E xs _ _) TRq.bad
end
theorem Sw(fs:List Fn)(a:Int)(nm:List UInt8)(id ty n p b:Int)(es:List Ex)(c:CS):TRq (rD fs a nm id ty n p es c) (rD (fs.map lr) a nm id ty n b (dh es) c):=by
 unfold rD;rw[r8,z9,Ce];refine TRq.bif (TRq.refl _) ((qf (c.te fs) es _ _).bind fun _=> ?_);exact TRq.bif (TRq.refl _) (TRq.bif TRq.bad (TRq.bif TRq.bad (TRq.bif TRq.bad (TRq.bif TRq.bad (TRq.refl _)))))
theorem PE(fs:List Fn)(fn:Nat)(p a:Int)(es:List Ex)(c:CS):TRq (kj fs fn p es c) (kj (fs.map lr) fn a (dh es) c):=by
 unfold kj;rw[xP];cases fs[fn]? with
 |none=>trivial
 |some f=>
  simp only[xc,lr];cases es with
  |nil=>exact TRq.bif (TRq.refl _) TRq.bad
  |cons x r=>exact TRq.bif ((vL (c.te fs) x).bind fun _=>TRq.bad) (((vL (c.te fs) x).bind fun t=>TRq.bif (TRq.refl _) TRq.bad).bind fun _=>TRq.refl _)
mutual
theorem PF(fs:List Fn)(fn:Nat):∀(x:aP)(d:Int)(c:CS),TRq (jv fs fn d x c) (jv (fs.map lr) fn d (m3 x) c)
 | .mk k id nm ty n p es g h,d,i=>by
  have e:∀(c:CS) ts f,TRq (aF (c.te fs) es ts f) (aF (c.te (fs.map lr)) (dh es) ts f):=fun c ts f=>qf (c.te fs) es ts f
  simp only[m3,jv,r9];refine TRq.bif ?_ (TRq.refl _);refine TRq.bif (Sw _ _ _ _ _ _ _ _ _ _) ?_;refine TRq.bif ((HM (CS.te fs _) nm p 0).bind fun r=>TRq.bif TRq.bad ((e _ _ _).bind fun _=>TRq.refl _)) ?_;refine TRq.bif ((HN (CS.te fs _) nm p 0).bind fun _=>(e _ _ _).bind fun _=>TRq.refl _) ?_;refine TRq.bif ((e _ _ _).bind fun _=>(nU fs fn g _ _ _).bind fun a=>(nU fs fn h _ _ _).bind fun b=>TRq.refl _) ?_;refine TRq.bif ((e _ _ _).bind fun _=>(nU fs fn g _ _ _).bind fun a=>TRq.refl _) ?_;refine TRq.bif (PE _ _ _ _ _ _) ?_;refine TRq.bif ((e _ _ _).bind fun _=>TRq.refl _) ?_;refine TRq.bif ?_ (TRq.refl _);cases es with
  |nil=>trivial
  |cons x r=>exact(vL (CS.te fs _) x).bind fun _=>TRq.refl _
theorem nU(fs:List Fn)(fn:Nat):∀(l:List aP)(a:Int)(b:Bool)(c:CS),TRq (bQ fs fn a b l c) (bQ (fs.map lr) fn a b (lk l) c)
 |[],_,_,_=>by simp only[lk,bQ];rfl
 |x::l,a,b,c=>by
  simp only[lk,bQ,HL];exact TRq.bif TRq.bad ((PF fs fn x a c).bind fun c'=>nU fs fn l a _ c')
end
theorem Sx(ps:List Pm):∀c:CS,(ps.map FS).foldl CS.par c=ps.foldl CS.par c:=by
 induction ps with
 |nil=>exact fun _=>rfl
 |cons x r a=>exact fun c=>a (c.par x)
theorem PH(fs:List Fn)(i:Nat)(f:Fn)(a:List Pt):TRq (iJ fs i f a) (iJ (fs.map lr) i (lr f) a):=by
 obtain⟨nm,ps,b,d,p⟩:=f;show TRq (iJ fs i ⟨nm,ps,b,d,p⟩ a) (iJ (fs.map lr) i ⟨nm,ps.map FS,b,lk d,0⟩ a);unfold iJ e5;simp only[Sx,r9];exact((nU fs i d 0 false _).bind fun c=>TRq.refl _).bind fun c=>TRq.bif (TRq.refl _) TRq.bad
theorem Aa(fs:List Fn):∀(r:List Fn)(i:Nat)(a:List (List Vr))(b:List Pt),TRq (cF fs i r a b) (cF (fs.map lr) i (r.map lr) a b)
 |[],_,_,_=>by simp only[xk,cF];rfl
 |f::r,i,a,b=>by
  simp only[xN,cF];exact(PH fs i f b).bind fun q=>Aa fs r _ _ _
theorem Nj:∀(ps:List Pm)(k:Nat)(a:List (List UInt8)),TRq (mS k a ps) (mS k a (ps.map FS))
 |[],_,_=>rfl
 |x::r,k,a=>by
  simp only[xN,mS,FS];exact TRq.bif TRq.bad (TRq.bif TRq.bad (Nj r _ _))
theorem Du:∀(r a:List Fn),TRq (fo a r) (fo (a.map lr) (r.map lr))
 |[],_=>rfl
 |f::r,a=>by
  simp only[xN,fo]
  have h:(cv (lr f).nm (a.map lr) 0).isSome=(cv f.nm a 0).isSome:=by
   rw[qe];show Option.isSome (Option.map _ (cv f.nm a 0))=_;cases cv f.nm a 0<;>rfl
  rw[h];refine TRq.bif TRq.bad ((Nj f.ps 0 []).bind fun _=> ?_);have:=Du r (a ++[f]);rw[xY]at this;exact this
theorem La(fs:List Fn):TRq (gI fs) (gI (fs.map lr)):=by
 unfold gI;refine(Du fs []).bind fun _=> ?_
 rw[qe];cases cv Hz fs 0 with
 |none=>rfl
 |some q=>
  obtain⟨j,f⟩:=q;simp only[xc,lr];rw[show(f.ps.map FS).isEmpty=f.ps.isEmpty by cases f.ps<;>rfl];exact TRq.bif (TRq.refl _) TRq.bad
theorem Dv(fs:List Fn):TRq (cT fs) (cT (fs.map lr)):=by
 unfold cT;exact(La fs).bind fun _=>Aa fs fs 0 [] [ey]
end Go.Avm
namespace Go.Avm
open Go.Proofs
structure Tk where
 k:Int
 t:List UInt8
 n:Int
abbrev Tk.sg(t:List UInt8):Tk:=⟨4,t,0⟩
abbrev Tk.kw(t:List UInt8):Tk:=⟨2,t,0⟩
abbrev Tk.nm(t:List UInt8):Tk:=⟨1,t,0⟩
def jA(u:Nat):List UInt8:=if h:u<10 then [UInt8.ofNat (48+u)]else jA (u/10) ++[UInt8.ofNat (48+u % 10)]
termination_by u
decreasing_by omega
def l8(n:Int):List UInt8:=jA n.toNat
abbrev Tk.num(n:Int):Tk:=⟨3,l8 n,n⟩
def dE:Int→List (Int×List UInt8×Int)→List UInt8×Int
 |_,[]=>([],0)
 |o,(o',x,k)::r=>bif o==o' then (x,k)else dE o r
def cn:Ex→Int
 | .mk k o _ _ _ _=>bif k==9 then (dE o au).2 else 11
def A6(o:Int):List UInt8:=bif o==19 then [45]else bif o==20 then [126]else [33]
mutual
def bL:Ex→List Tk
 | .mk k o nm n _ xs=>
  bif k==1 then [.num n]
  else bif k==2 then [.kw (bif n==0 then [102,97,108,115,101]else [116,114,117,101])]
  else bif k==3 then [.nm nm]
  else bif k==4 then .nm nm:: .sg [91]::(kq xs ++[.sg [93]])
  else bif k==5 then .nm nm:: .sg [40]::(kq xs ++[.sg [41]])
  else bif k==6 then [.kw [114,101,97,100], .sg [40], .sg [41]]
  else bif k==7 then [.kw [108,101,110], .sg [40], .nm nm, .sg [41]]
  else bif k==8 then .sg (A6 o)::Sy xs
  else Sz (dE o au).1 (dE o au).2 xs
def kq:List Ex→List Tk
 |[]=>[]
 |x::l=>match l with
  |[]=>bL x
  |_::_=>bL x ++ .sg [44]::kq l
def Sy:List Ex→List Tk
 |[]=>[]
 |x::_=>bif decide (cn x<11)then .sg [40]::(bL x ++[.sg [41]])else bL x
def Sz(t:List UInt8)(k:Int):List Ex→List Tk
 |[]=>[]
 |x::l=>(bif decide (cn x<k)then .sg [40]::(bL x ++[.sg [41]])else bL x) ++ .sg t::VH k l
def VH(k:Int):List Ex→List Tk
 |[]=>[]
 |y::_=>bif decide (cn y<k+1)then .sg [40]::(bL y ++[.sg [41]])else bL y
end
def bZ(L:List T)(i:Nat):List Tk→Prop
 |[]=>True
 |x::r=>((L.getD i default).k=x.k∧(L.getD i default).t=x.t∧(L.getD i default).n=x.n)∧bZ L (i+1) r
theorem cX{L:List T}:∀(a b:List Tk)(i:Nat),bZ L i (a ++b)↔bZ L i a∧bZ L (i+a.length) b
 |[],b,i=>by simp[bZ]
 |x::a,b,i=>by
  simp only[x8,bZ,cX a b (i+1),xD,and_assoc];rw[show i+1+a.length=i+(a.length+1) by omega]
section
variable{L:List T}{s:RS}
include L s
theorem bt{x:Tk}{r:List Tk}(h:bZ L s.i (x::r))(t:List UInt8):isT L s t=((x.k==2||x.k==4)&&x.t==t):=by
 unfold isT aD;rw[h.1.1,h.1.2.1]
theorem a9{t:List UInt8}(h:isT L s t=false):aM L t s= .ok false s:=by
 unfold aM;rw[h];rfl
theorem ea{x:Tk}{r:List Tk}(h:bZ L s.i (x::r))(a:(x.k==2||x.k==4)=true)(c:(x.t==[40]||x.t==[91]||x.t==[123])=false)(h2:(x.t==[41]||x.t==[93]||x.t==[125])=false):ah L x.t s= .ok (aD L s) s.nx:=by
 have b:isT L s x.t=true:=by rw[bt h,a];simp
 unfold ah;rw[b,c,h2];rfl
theorem fM{x:Tk}{r:List Tk}(h:bZ L s.i (x::r))(a:(x.k==2||x.k==4)=true)(c:(x.t==[40]||x.t==[91]||x.t==[123])=true)(e:0≤s.op)(h2:s.op<200):ah L x.t s= .ok (aD L s) ⟨s.i+1,s.op+1,s.n⟩:=by
 have b:isT L s x.t=true:=by rw[bt h,a];simp
 have d:b5 (s.op+1)=s.op+1:=by unfold b5;exact IntWalk.i64_in _ (by omega)
 unfold ah;rw[b,c,d,decide_eq_false (show ¬200<s.op+1 by omega)];rfl
theorem ek{x:Tk}{r:List Tk}(h:bZ L s.i (x::r))(a:(x.k==2||x.k==4)=true)(c:(x.t==[40]||x.t==[91]||x.t==[123])=false)(h2:(x.t==[41]||x.t==[93]||x.t==[125])=true)(e:0≤s.op)(f:s.op≤200):ah L x.t s= .ok (aD L s) ⟨s.i+1,s.op-1,s.n⟩:=by
 have b:isT L s x.t=true:=by rw[bt h,a];simp
 have d:b5 (s.op-1)=s.op-1:=by unfold b5;exact IntWalk.i64_in _ (by omega)
 unfold ah;rw[b,c,h2,d];rfl
theorem gP{x:Tk}{r:List Tk}(h:bZ L s.i (x::r)):b0 L x.k s= .ok (aD L s) s.nx:=by
 have a:(aD L s).k=x.k:=h.1.1;unfold b0;rw[a];simp
end
end Go.Avm
namespace Go.Avm
open Go.Proofs
mutual
def hG:Ex→Bool
 | .mk k o nm n _ xs=>
  bif k==1 then o==0&&(nm==[]&&(decide (0≤n)&&xs.isEmpty))
  else bif k==2 then o==0&&(nm==[]&&((n==0||n==1)&&xs.isEmpty))
  else bif k==3 then o==0&&(n==0&&xs.isEmpty)
  else bif k==4 then o==0&&(n==0&&(decide (xs.length=1)&&gk xs))
  else bif k==5 then o==0&&(n==0&&gk xs)
  else bif k==6 then o==0&&(nm==[]&&(n==0&&xs.isEmpty))
  else bif k==7 then o==0&&(n==0&&xs.isEmpty)
  else bif k==8 then (o==19||o==20||o==21)&&(nm==[]&&(n==0&&(decide (xs.length=1)&&gk xs)))
  else k==9&&(decide (1≤o)&&(decide (o≤18)&&(nm==[]&&(n==0&&(decide (xs.length=2)&&gk xs)))))
def gk:List Ex→Bool
 |[]=>true
 |x::l=>hG x&&gk l
end
mutual
def fN:Ex→Int
 | .mk k o _ _ _ xs=>
  bif k==4||k==5 then 1+g8 xs
  else bif k==6||k==7 then 1
  else bif k==8 then J6 11 xs
  else bif k==9 then PJ (dE o au).2 xs
  else 0
def g8:List Ex→Int
 |[]=>0
 |x::l=>max (fN x) (g8 l)
def J6(k:Int):List Ex→Int
 |[]=>0
 |x::_=>bif decide (cn x<k)then 1+fN x else fN x
def PJ(k:Int):List Ex→Int
 |[]=>0
 |x::l=>max (bif decide (cn x<k)then 1+fN x else fN x) (J6 (k+1) l)
end
mutual
theorem jZ:∀x,0≤fN x
 | .mk k o nm n p xs=>by
  have a:=oQ xs;have h2:=HO 11 xs;have b:=PK (dE o au).2 xs;simp only[fN];cases (k==4||k==5)<;>cases (k==6||k==7)<;>cases (k==8)<;>cases (k==9)<;>simp only[xR,xI]<;>omega
theorem oQ:∀l,0≤g8 l
 |[]=>xx _
 |x::l=>by
  have a:=jZ x;simp only[g8];omega
theorem HO(k:Int):∀l,0≤J6 k l
 |[]=>xx _
 |x::l=>by
  have a:=jZ x;simp only[J6];cases decide (cn x<k)<;>simp only[xR,xI]<;>omega
theorem PK(k:Int):∀l,0≤PJ k l
 |[]=>xx _
 |x::l=>by
  have a:=jZ x;have h2:=HO (k+1) l;simp only[PJ];omega
end
def NoSg(L:List T)(s:RS)(k:Int):Prop:=∀e∈au,k≤e.2.2→isT L s e.2.1=false
theorem NoSg.mono{L:List T}{s:RS}{k a:Int}(h:NoSg L s k)(c:k≤a):NoSg L s a:=fun e b d=>h e b (by omega)
theorem vM{L:List T}{s:RS}{k:Int}:∀{l:List (Int×List UInt8×Int)},(∀e∈l,k≤e.2.2→isT L s e.2.1=false)→d9 L s k l=(0,0)
 |[],_=>rfl
 |(o,x,j)::r,h=>by
  have c:=h (o,x,j) (x0 ..);simp only[d9];cases b:decide (k≤j)with
  |false=>exact vM fun e a=>h e (xW _ a)
  |true=>
   rw[c (yC b)];exact vM fun e a=>h e (xW _ a)
theorem Lb{L:List T}{s:RS}{k:Int}(h:NoSg L s k)(n:Nat)(e:Ex):c3 L (n+1) k e s= .ok e s:=by
 simp only[c3,ce,vM h];rfl
def UV(L:List T)(s:RS):Prop:=isT L s [91]=false∧isT L s [40]=false
theorem SA{L:List T}{s:RS}{o:Int}(f:1≤o)(h2:o≤18){r:List Tk}(h:bZ L s.i (.sg (dE o au).1::r)):
    (∀k:Int,k≤(dE o au).2→ce L k s=(o,(dE o au).2))∧NoSg L s ((dE o au).2+1)∧UV L s∧1≤(dE o au).2∧(dE o au).2≤10:=by
 have b:=bt h;have a:o=1∨o=2∨o=3∨o=4∨o=5∨o=6∨o=7∨o=8∨o=9∨o=10∨o=11∨o=12∨o=13∨o=14∨o=15∨o=16∨o=17∨o=18:=by omega
 clear h f h2;refine⟨fun k c=> ?_,fun e d g=> ?_,⟨?_, ?_⟩, ?_, ?_⟩
 ·rcases a with rfl|rfl|rfl|rfl|rfl|rfl|rfl|rfl|rfl|rfl|rfl|rfl|rfl|rfl|rfl|rfl|rfl|rfl<;>
    (simp only[ce,au,d9,b,dE]at c ⊢;simp at c ⊢;simp[c])
 ·rw[b]
  simp only[au,xX,yD,zG]at d
  rcases a with rfl|rfl|rfl|rfl|rfl|rfl|rfl|rfl|rfl|rfl|rfl|rfl|rfl|rfl|rfl|rfl|rfl|rfl<;>
   rcases d with rfl|rfl|rfl|rfl|rfl|rfl|rfl|rfl|rfl|rfl|rfl|rfl|rfl|rfl|rfl|rfl|rfl|rfl<;>
   first|rfl|(simp[dE,au]at g)
 ·rw[b]
  rcases a with rfl|rfl|rfl|rfl|rfl|rfl|rfl|rfl|rfl|rfl|rfl|rfl|rfl|rfl|rfl|rfl|rfl|rfl<;>rfl
 ·rw[b]
  rcases a with rfl|rfl|rfl|rfl|rfl|rfl|rfl|rfl|rfl|rfl|rfl|rfl|rfl|rfl|rfl|rfl|rfl|rfl<;>rfl
 ·rcases a with rfl|rfl|rfl|rfl|rfl|rfl|rfl|rfl|rfl|rfl|rfl|rfl|rfl|rfl|rfl|rfl|rfl|rfl<;>decide
 ·rcases a with rfl|rfl|rfl|rfl|rfl|rfl|rfl|rfl|rfl|rfl|rfl|rfl|rfl|rfl|rfl|rfl|rfl|rfl<;>decide
end Go.Avm
namespace Go.Avm
open Go.Proofs
def bI(s:RS)(l:List Tk):RS:=⟨s.i+l.length,s.op,s.n⟩
structure VI(L:List T)(s:RS)(l:List Tk)(d:Int):Prop where
 at_:bZ L s.i l
 fol:UV L (bI s l)
 op0:0≤s.op
 op:s.op+d≤200
def OneOk(x:Ex)(l:List Tk)(d:Int)(f:Nat):Prop:=∀(L:List T)(s:RS),VI L s l d→∃a,t6 a=t6 x∧∀m,f≤m→dC L m s= .ok a (bI s l)
def ExpOk(x:Ex)(l:List Tk)(d:Int)(f:Nat)(b:Int):Prop:=∀(L:List T)(s:RS)(least:Int),1≤least→least≤b→VI L s l d→NoSg L (bI s l) (b+1)→
 ∃a c,t6 a=t6 x∧1≤c∧c≤f∧∀m,f≤m+c→aQ L (m+c) least s=c3 L m least a (bI s l)
theorem OneOk.exp{x:Ex}{l:List Tk}{d:Int}{f:Nat}(h:OneOk x l d f)(b:Int):ExpOk x l d (f+1) b:=fun L s least _ _ hp _=>by
 obtain⟨a,e,k⟩:=h L s hp;refine⟨a,1,e,xS _,by omega,fun m hm=> ?_⟩;simp only[aQ,k m (by omega),Res.bind]
theorem OneOk.mono{x:Ex}{l:List Tk}{d a:Int}{f f':Nat}(h:OneOk x l d f)(g:d≤a)(c:f≤f'):OneOk x l a f':=fun L s hp=>by
 obtain⟨b,e,k⟩:=h L s ⟨hp.at_,hp.fol,hp.op0,by have:=hp.op;omega⟩;exact⟨b,e,fun m hm=>k m (by omega)⟩
theorem ExpOk.mono{x:Ex}{l:List Tk}{d a:Int}{f f':Nat}{b:Int}(h:ExpOk x l d f b)(o:d≤a)(p:f≤f'):ExpOk x l a f' b:=fun L s least g h2 hp j=>by
 obtain⟨i,c,e,c1,n,k⟩:=h L s least g h2 ⟨hp.at_,hp.fol,hp.op0,by have:=hp.op;omega⟩ j;exact⟨i,c,e,c1,by omega,fun m hm=>k m (by omega)⟩
theorem ExpOk.full{x:Ex}{l:List Tk}{d:Int}{f:Nat}{g:Int}(h:ExpOk x l d f g){L:List T}{s:RS}{least:Int}(i:1≤least)(h2:least≤g)(hp:VI L s l d)(b:NoSg L (bI s l) least):∃a,t6 a=t6 x∧∀M,f+1≤M→aQ L M least s= .ok a (bI s l):=by
 obtain⟨a,c,e,c1,n,k⟩:=h L s least i h2 hp (b.mono (by omega));refine⟨a,e,fun M j=> ?_⟩;obtain⟨m,rfl⟩:∃m,M=(m+1)+c:=⟨M-c-1,by omega⟩
 rw[k (m+1) (by omega),Lb b]
theorem nV{L:List T}{s:RS}{t:List UInt8}{r:List Tk}(h:bZ L s.i (.sg t::r))(a:t=[41]∨t=[93]∨t=[44]∨t=[59]∨t=[123]∨t=[61]):(∀k,NoSg L s k)∧UV L s:=by
 have b:=bt h;refine⟨fun k e c _=> ?_, ?_, ?_⟩
 ·rw[b]
  simp only[au,xX,yD,zG]at c
  rcases a with rfl|rfl|rfl|rfl|rfl|rfl<;>
   rcases c with rfl|rfl|rfl|rfl|rfl|rfl|rfl|rfl|rfl|rfl|rfl|rfl|rfl|rfl|rfl|rfl|rfl|rfl<;>rfl
 ·rw[b]
  rcases a with rfl|rfl|rfl|rfl|rfl|rfl<;>rfl
 ·rw[b]
  rcases a with rfl|rfl|rfl|rfl|rfl|rfl<;>rfl
theorem iL{L:List T}{s:RS}(n:Nat)(g:isT L s [45]=false)(h2:isT L s [126]=false)(h:isT L s [33]=false):dC L (n+1) s=
    (bif (aD L s).k==3 then .ok (.mk 1 0 [] (aD L s).n (aD L s).p []) s.nx else
    (aM L [116,114,117,101] s).bind fun b a=>bif b then .ok (.mk 2 0 [] 1 (aD L s).p []) a else
    (aM L [102,97,108,115,101] a).bind fun b a=>bif b then .ok (.mk 2 0 [] 0 (aD L s).p []) a else
    (aM L [114,101,97,100] a).bind fun b a=>bif b then (ah L [40] a).bind fun _ c=>(ah L [41] c).bind fun _ d=> .ok (.mk 6 0 [] 0 (aD L s).p []) d else
    (aM L [108,101,110] a).bind fun b a=>bif b then (ah L [40] a).bind fun _ c=>(b0 L 1 c).bind fun t d=>(ah L [41] d).bind fun _ f=> .ok (.mk 7 0 t.t 0 (aD L s).p []) f else
    bif isT L a [40]then (ah L [40] a).bind fun _ c=>(aQ L n 1 c).bind fun e d=>(ah L [41] d).bind fun _ f=> .ok e f else
    (b0 L 1 a).bind fun t c=>bif isT L c [91]then (ch L n c).bind fun e d=> .ok (.mk 4 0 t.t 0 (aD L s).p [e]) d else
    bif isT L c [40]then (dz L n t.t (aD L s).p c).bind fun e d=> .ok e d else .ok (.mk 3 0 t.t 0 (aD L s).p []) c):=by
 simp only[dC,a9 g,a9 h2,a9 h,Res.bind,xI]
theorem co{L:List T}{s:RS}{x:Tk}{r:List Tk}(h:bZ L s.i (x::r))(a:(x.k==2||x.k==4)=true)(c:(x.t==[40]||x.t==[91]||x.t==[123])=false)(h2:(x.t==[41]||x.t==[93]||x.t==[125])=false):aM L x.t s= .ok true s.nx:=by
 have b:isT L s x.t=true:=by rw[bt h,a];simp
 unfold aM;rw[b,ea h a c h2];rfl
theorem az{L:List T}{i:Nat}{x:Tk}{r:List Tk}(h:bZ L i (x::r)):bZ L (i+1) r:=h.2
theorem PL(n p:Int):OneOk (.mk 1 0 [] n p []) [.num n] 0 1:=fun L s hp=>by
 have a:=bt hp.at_;have b:(aD L s).k=3:=hp.at_.1.1;have c:(aD L s).n=n:=hp.at_.1.2.2;refine⟨.mk 1 0 [] (aD L s).n (aD L s).p [],by rw[c];rfl,fun m hm=> ?_⟩;obtain⟨m,rfl⟩:∃k,m=k+1:=⟨m-1,by omega⟩
 rw[iL m (by rw[a];rfl) (by rw[a];rfl) (by rw[a];rfl),b];rfl
theorem Lc(n p:Int)(h:n=0∨n=1):OneOk (.mk 2 0 [] n p []) [.kw (bif n==0 then [102,97,108,115,101]else [116,114,117,101])] 0 1:=fun L s hp=>by
 have a:=bt hp.at_;have b:(aD L s).k=2:=hp.at_.1.1;rcases h with rfl|rfl
 ·refine⟨.mk 2 0 [] 0 (aD L s).p [],rfl,fun m hm=> ?_⟩
  obtain⟨m,rfl⟩:∃k,m=k+1:=⟨m-1,by omega⟩
  rw[iL m (by rw[a];rfl) (by rw[a];rfl) (by rw[a];rfl),b,a9 (by rw[a];rfl)];have:=co hp.at_ rfl rfl rfl;simp only[Res.bind];show(bif (2:Int)==3 then _ else (bif false then _ else _))=_;simp only[xI];show(Res.bind (aM L [102,97,108,115,101] s) _)=_;rw[show aM L [102,97,108,115,101] s= .ok true s.nx from this];rfl
 ·refine⟨.mk 2 0 [] 1 (aD L s).p [],rfl,fun m hm=> ?_⟩
  obtain⟨m,rfl⟩:∃k,m=k+1:=⟨m-1,by omega⟩
  rw[iL m (by rw[a];rfl) (by rw[a];rfl) (by rw[a];rfl),b,show aM L [116,114,117,101] s= .ok true s.nx from co hp.at_ rfl rfl rfl];rfl
end Go.Avm
namespace Go.Avm
open Go.Proofs
theorem ir(s:RS)(x:Tk)(l:List Tk):bI s.nx l=bI s (x::l):=by
 simp only[bI,RS.nx,xD,RS.mk.injEq,and_self,yr];omega
theorem Ab(s:RS)(a b:List Tk):bI (bI s a) b=bI s (a ++b):=by
 simp only[bI,xC,RS.mk.injEq,and_self,yr];omega
theorem oR{L:List T}{s:RS}{nm:List UInt8}{r:List Tk}(h:bZ L s.i (.nm nm::r))(m:Nat):dC L (m+1) s=
    (bif isT L s.nx [91]then (ch L m s.nx).bind fun e b=> .ok (.mk 4 0 nm 0 (aD L s).p [e]) b else
    bif isT L s.nx [40]then (dz L m nm (aD L s).p s.nx).bind fun e b=> .ok e b else .ok (.mk 3 0 nm 0 (aD L s).p []) s.nx):=by
 have a:=bt h;have d:(aD L s).k=1:=h.1.1;have c:(aD L s).t=nm:=h.1.2.1;rw[iL m (by rw[a];rfl) (by rw[a];rfl) (by rw[a];rfl),d,a9 (by rw[a];rfl)];simp only[Res.bind];show(bif (1:Int)==3 then _ else (bif false then _ else (Res.bind (aM L [102,97,108,115,101] s) _)))=_;rw[a9 (by rw[a];rfl)];show Res.bind (aM L [114,101,97,100] s) _=_;rw[a9 (by rw[a];rfl)];show Res.bind (aM L [108,101,110] s) _=_;rw[a9 (by rw[a];rfl)];show(bif isT L s [40]then _ else _)=_;rw[show isT L s [40]=false by rw[a];rfl];show Res.bind (b0 L 1 s) _=_;rw[show b0 L 1 s= .ok (aD L s) s.nx from gP h];simp only[Res.bind,c]
theorem PM(nm:List UInt8)(p:Int):OneOk (.mk 3 0 nm 0 p []) [.nm nm] 0 1:=fun L s hp=>by
 refine⟨.mk 3 0 nm 0 (aD L s).p [],rfl,fun m hm=> ?_⟩;obtain⟨m,rfl⟩:∃k,m=k+1:=⟨m-1,by omega⟩
 have a:isT L s.nx [91]=false:=hp.fol.1;have h2:isT L s.nx [40]=false:=hp.fol.2;rw[oR hp.at_,a,h2];rfl
section
variable{x:Ex}{l:List Tk}{d:Int}{f:Nat}{g:Int}(h:ExpOk x l d f g)(c:1≤g)
include x l d f g h c
theorem HP{a b:List UInt8}(v:(a==[40]||a==[91]||a==[123])=true)(p:b=[41]∨b=[93]){L:List T}{s:RS}(j:bZ L s.i (.sg a::(l ++[.sg b])))(A:0≤s.op)(F:0≤d)(G:s.op+(1+d)≤200):
    ∃o t u B z,t6 o=t6 x∧ah L a s= .ok B t∧(∀M,f+1≤M→aQ L M 1 t= .ok o u)∧ah L b u= .ok z (bI s (.sg a::(l ++[.sg b]))):=by
 have w:=fM j rfl v A (by omega);have r:=az j;rw[cX]at r;obtain⟨E,q⟩:=r;have m:bZ L (bI ⟨s.i+1,s.op+1,s.n⟩ l).i [.sg b]:=q;obtain⟨C,D⟩:=nV m (by rcases p with rfl|rfl;exact .inl rfl;exact .inr (.inl rfl));obtain⟨o,e,k⟩:=h.full (L:=L) (s:=⟨s.i+1,s.op+1,s.n⟩) (xx 1) c ⟨E,D,by show 0≤s.op+1;omega,by show s.op+1+d≤200;omega⟩ (C 1);have y:=ek (s:=bI ⟨s.i+1,s.op+1,s.n⟩ l) m rfl (by rcases p with rfl|rfl<;>rfl) (by rcases p with rfl|rfl<;>rfl) (by show 0≤s.op+1;omega) (by show s.op+1≤200;omega);refine⟨o,_,_,_,aD L (bI ⟨s.i+1,s.op+1,s.n⟩ l),e,w,k, ?_⟩;refine(show ah L b _=_ from y).trans ?_;congr 1;simp only[bI,xD,xC,xF,RS.mk.injEq,yr];omega
theorem HQ(q:0≤d):OneOk x (.sg [40]::(l ++[.sg [41]])) (1+d) (f+2):=fun L s hp=>by
 obtain⟨n,p,t,v,u,e,o,k,r⟩:=HP h c (a:=[40]) (b:=[41]) rfl (.inl rfl) hp.at_ hp.op0 q hp.op;have i:=bt hp.at_;have j:(aD L s).k=4:=hp.at_.1.1;refine⟨n,e,fun m hm=> ?_⟩;obtain⟨m,rfl⟩:∃k,m=k+1:=⟨m-1,by omega⟩
 rw[iL m (by rw[i];rfl) (by rw[i];rfl) (by rw[i];rfl),j,a9 (by rw[i];rfl)];simp only[Res.bind];show(bif (4:Int)==3 then _ else (bif false then _ else (Res.bind (aM L [102,97,108,115,101] s) _)))=_;rw[a9 (by rw[i];rfl)];show Res.bind (aM L [114,101,97,100] s) _=_;rw[a9 (by rw[i];rfl)];show Res.bind (aM L [108,101,110] s) _=_;rw[a9 (by rw[i];rfl)];show(bif isT L s [40]then Res.bind (ah L [40] s) _ else _)=_;rw[show isT L s [40]=true by rw[i];rfl,o];show Res.bind (aQ L m 1 p) _=_;rw[k m (by omega)];show Res.bind (ah L [41] t) _=_;rw[r];rfl
theorem Ld(r:0≤d)(nm:List UInt8)(p:Int):OneOk (.mk 4 0 nm 0 p [x]) (.nm nm:: .sg [91]::(l ++[.sg [93]])) (1+d) (f+3):=fun L s hp=>by
 have j:bZ L s.nx.i (.sg [91]::(l ++[.sg [93]])):=az hp.at_;obtain⟨o,w,y,v,u,e,q,k,t⟩:=HP h c (a:=[91]) (b:=[93]) rfl (.inr rfl) (s:=s.nx) j hp.op0 r hp.op;have n:=bt j;refine⟨.mk 4 0 nm 0 (aD L s).p [o],by simp only[t6,dh,e],fun m hm=> ?_⟩;obtain⟨m,rfl⟩:∃k,m=k+2:=⟨m-2,by omega⟩
 rw[oR hp.at_,show isT L s.nx [91]=true by rw[n];rfl];simp only[xR,ch,q,Res.bind];rw[k m (by omega)];simp only;rw[t,ir]
end
theorem SB{x:Ex}{l:List Tk}{d:Int}{f:Nat}(h:OneOk x l d f)(o:Int)(g:o=19∨o=20∨o=21)(p:Int):OneOk (.mk 8 o [] 0 p [x]) (.sg (A6 o)::l) d (f+1):=fun L s hp=>by
 obtain⟨c,e,k⟩:=h L s.nx ⟨az hp.at_,by rw[ir s (.sg (A6 o))];exact hp.fol,hp.op0,hp.op⟩;have b:=bt hp.at_;have i:(aD L s).k=4:=hp.at_.1.1;refine⟨.mk 8 o [] 0 (aD L s).p [c],by simp only[t6,dh,e],fun m hm=> ?_⟩;obtain⟨m,rfl⟩:∃k,m=k+1:=⟨m-1,by omega⟩
 have a:=k m (by omega);rw[ir s (.sg (A6 o))]at a;rcases g with rfl|rfl|rfl
 ·rw[dC,show aM L [45] s= .ok true s.nx from co hp.at_ rfl rfl rfl]
  simp only[Res.bind,xR,a]
 ·rw[dC,a9 (by rw[b];rfl)]
  simp only[Res.bind,xI];rw[show aM L [126] s= .ok true s.nx from co hp.at_ rfl rfl rfl];simp only[xR,a]
 ·rw[dC,a9 (by rw[b];rfl)]
  simp only[Res.bind,xI];rw[a9 (by rw[b];rfl)];simp only[xI];rw[show aM L [33] s= .ok true s.nx from co hp.at_ rfl rfl rfl];simp only[xR,a]
theorem PN{a b:Ex}{la lb:List Tk}{l g:Int}{k j:Nat}{n h:Int}{o:Int}(B:1≤o)(h2:o≤18)(u:ExpOk a la l k n)(w:ExpOk b lb g j h)(M:(dE o au).2≤n)(r:(dE o au).2+1≤h)(p:Int):
    ExpOk (.mk 9 o [] 0 p [a,b]) (la ++ .sg (dE o au).1::lb) (max l g) (k+j+2) (dE o au).2:=fun L s least D q hp E=>by
 have e:=hp.at_;rw[cX]at e;obtain⟨f,d⟩:=e;have d:bZ L (bI s la).i (.sg (dE o au).1::lb):=d;obtain⟨x,y,t,K,J⟩:=SA B h2 d;have F:=hp.op;obtain⟨H,ca,G,c1,I,A⟩:=u L s least D (by omega) ⟨f,t,hp.op0,by omega⟩ (y.mono (by omega));have c:bI (bI s la).nx lb=bI s (la ++ .sg (dE o au).1::lb):=by rw[ir _ (.sg (dE o au).1),Ab]
 obtain⟨C,z,kb⟩:=w.full (L:=L) (s:=(bI s la).nx) (least:=(dE o au).2+1) (by omega) r ⟨az d,by rw[c];exact hp.fol,hp.op0,by show s.op+g≤200;omega⟩ (by rw[c];exact E);refine⟨.mk 9 o [] 0 (aD L (bI s la)).p [H,C],ca+1,by simp only[t6,dh,G,z],by omega,by omega,fun m hm=> ?_⟩;have v:b5 ((dE o au).2+1)=(dE o au).2+1:=by unfold b5;exact IntWalk.i64_in _ (by omega)
 rw[show m+(ca+1)=(m+1)+ca by omega,A (m+1) (by omega),c3,x least q];simp only;rw[show(o==0)=false by simp;omega,v,kb m (by omega),c];rfl
end Go.Avm
namespace Go.Avm
open Go.Proofs
theorem HS(p:Int):OneOk (.mk 6 0 [] 0 p []) [.kw [114,101,97,100], .sg [40], .sg [41]] 1 1:=fun L s hp=>by
 have a:=bt hp.at_;have c:(aD L s).k=2:=hp.at_.1.1;have f:=hp.op0;have d:=hp.op;have b:bZ L s.nx.i [.sg [40], .sg [41]]:=az hp.at_;have e:ah L [40] s.nx=_:=fM b rfl rfl f (by show s.op<200;omega);have g:ah L [41] ⟨s.nx.i+1,s.nx.op+1,s.nx.n⟩=_:=ek (s:=⟨s.nx.i+1,s.nx.op+1,s.nx.n⟩) (az b) rfl rfl rfl (by show 0≤s.op+1;omega) (by show s.op+1≤200;omega);refine⟨.mk 6 0 [] 0 (aD L s).p [],rfl,fun m hm=> ?_⟩;obtain⟨m,rfl⟩:∃k,m=k+1:=⟨m-1,by omega⟩
 rw[iL m (by rw[a];rfl) (by rw[a];rfl) (by rw[a];rfl),c,a9 (by rw[a];rfl)];simp only[Res.bind];show(bif (2:Int)==3 then _ else (bif false then _ else (Res.bind (aM L [102,97,108,115,101] s) _)))=_;rw[a9 (by rw[a];rfl)];show Res.bind (aM L [114,101,97,100] s) _=_;rw[show aM L [114,101,97,100] s= .ok true s.nx from co hp.at_ rfl rfl rfl];show Res.bind (ah L [40] s.nx) _=_;rw[e];show Res.bind (ah L [41] _) _=_;rw[g];simp only[Res.bind,bI,RS.nx,xD,xF,zA]
theorem Le(nm:List UInt8)(p:Int):OneOk (.mk 7 0 nm 0 p []) [.kw [108,101,110], .sg [40], .nm nm, .sg [41]] 1 1:=fun L s hp=>by
 have a:=bt hp.at_;have d:(aD L s).k=2:=hp.at_.1.1;have g:=hp.op0;have e:=hp.op;have c:bZ L s.nx.i [.sg [40], .nm nm, .sg [41]]:=az hp.at_;have f:ah L [40] s.nx=_:=fM c rfl rfl g (by show s.op<200;omega);have b:bZ L (⟨s.nx.i+1,s.nx.op+1,s.nx.n⟩:RS).i [.nm nm, .sg [41]]:=az c;have j:b0 L 1 ⟨s.nx.i+1,s.nx.op+1,s.nx.n⟩=_:=gP b;have h:(aD L ⟨s.nx.i+1,s.nx.op+1,s.nx.n⟩).t=nm:=b.1.2.1;have l:ah L [41] (⟨s.nx.i+1,s.nx.op+1,s.nx.n⟩:RS).nx=_:=ek (s:=(⟨s.nx.i+1,s.nx.op+1,s.nx.n⟩:RS).nx) (az b) rfl rfl rfl (by show 0≤s.op+1;omega) (by show s.op+1≤200;omega);refine⟨.mk 7 0 nm 0 (aD L s).p [],rfl,fun m hm=> ?_⟩;obtain⟨m,rfl⟩:∃k,m=k+1:=⟨m-1,by omega⟩
 rw[iL m (by rw[a];rfl) (by rw[a];rfl) (by rw[a];rfl),d,a9 (by rw[a];rfl)];simp only[Res.bind];show(bif (2:Int)==3 then _ else (bif false then _ else (Res.bind (aM L [102,97,108,115,101] s) _)))=_;rw[a9 (by rw[a];rfl)];show Res.bind (aM L [114,101,97,100] s) _=_;rw[a9 (by rw[a];rfl)];show Res.bind (aM L [108,101,110] s) _=_;rw[show aM L [108,101,110] s= .ok true s.nx from co hp.at_ rfl rfl rfl];show Res.bind (ah L [40] s.nx) _=_;rw[f];show Res.bind (b0 L 1 _) _=_;rw[j];show Res.bind (ah L [41] _) _=_;rw[l];simp only[Res.bind];rw[h];simp only[bI,RS.nx,xD,xF,zA]
def t7:List Ex→List Tk
 |[]=>[]
 |y::r=> .sg [44]::kq (y::r)
theorem gU(x:Ex)(l:List Ex):kq (x::l)=bL x ++t7 l:=by
 cases l with
 |nil=>simp[kq,t7]
 |cons y r=>simp only[kq,t7]
mutual
def fE:Ex→Nat
 | .mk _ _ _ _ _ xs=>fA xs+6
def fA:List Ex→Nat
 |[]=>0
 |x::l=>fE x+6+fA l
end
abbrev Ok(x:Ex):Prop:=ExpOk x (bL x) (fN x) (fE x) (cn x)∧1≤cn x
theorem Dw{L:List T}{s:RS}:∀{l:List Ex},bZ L s.i (t7 l ++[.sg [41]])→(∀k,NoSg L s k)∧UV L s
 |[],h=>nV (t:=[41]) h (.inl rfl)
 |_::_,h=>nV (t:=[44]) h (.inr (.inr (.inl rfl)))
theorem Dx:∀(l:List Ex),(∀x∈l,Ok x)→∀(a:List Ex)(L:List T)(s:RS),bZ L s.i (t7 l ++[.sg [41]])→0≤s.op→s.op+g8 l≤200→∃l',dh l'=dh l∧∀m,fA l+1≤m→du L m a s= .ok (a ++l') (bI s (t7 l))
 |[],_,a,L,s,b,e,c=>⟨[],rfl,fun m hm=>by
  obtain⟨m,rfl⟩:∃k,m=k+1:=⟨m-1,by omega⟩
  have o:=bt (show bZ L s.i [.sg [41]]from b);rw[du,a9 (by rw[o];rfl)];show Res.ok a s=_;rw[yF];rfl⟩
 |y::r,f,a,L,s,b,e,c=>by
  have b:bZ L s.i (.sg [44]::(kq (y::r) ++[.sg [41]])):=b;have h:=az b;rw[gU,xM,cX]at h;obtain⟨v,d⟩:=h;have d:bZ L (bI s.nx (bL y)).i (t7 r ++[.sg [41]]):=d;obtain⟨t,z⟩:=Dw d;have c:s.op+max (fN y) (g8 r)≤200:=by rw[g8]at c;exact c
  obtain⟨p,A⟩:=f y (x0 ..);obtain⟨g,u,k⟩:=p.full (L:=L) (s:=s.nx) (xx 1) A ⟨v,z,e,by show s.op+fN y≤200;omega⟩ (t 1);obtain⟨q,j,w⟩:=Dx r (fun x n=>f x (xW _ n)) (a ++[g]) L (bI s.nx (bL y)) d e (by show s.op+g8 r≤200;omega);refine⟨g::q,by simp only[dh,u,j],fun m hm=> ?_⟩;have hm:fE y+6+fA r+1≤m:=by rw[fA]at hm;exact hm
  obtain⟨m,rfl⟩:∃k,m=k+1:=⟨m-1,by omega⟩
  rw[du,show aM L [44] s= .ok true s.nx from co b rfl rfl rfl];simp only[Res.bind,xR];rw[k m (by omega)];simp only;rw[w m (by omega),Ab,ir s (.sg [44]),xM,show t7 (y::r)= .sg [44]::(bL y ++t7 r)from by rw[t7,gU]];rfl
end Go.Avm
namespace Go.Avm
open Go.Proofs
def HT(x:Ex):Prop:=∃t r,bL x=t::r∧((t.k==2||t.k==4)&&(t.t==[41]||t.t==[59]))=false
theorem Dy(l:List Ex)(h:∀x∈l,Ok x∧HT x){L:List T}{s:RS}(d:bZ L s.i (.sg [40]::(kq l ++[.sg [41]])))(q:0≤s.op)(f:s.op+(1+g8 l)≤200):∃l',dh l'=dh l∧∀m,fA l+3≤m→dU L m s= .ok l' (bI s (.sg [40]::(kq l ++[.sg [41]]))):=by
 have I:=oQ l;have o:ah L [40] s=_:=fM d rfl rfl q (by omega);have a:=az d;cases l with
 |nil=>
  have a:bZ L (⟨s.i+1,s.op+1,s.n⟩:RS).i [.sg [41]]:=a;have u:ah L [41] ⟨s.i+1,s.op+1,s.n⟩=_:=ek (s:=⟨s.i+1,s.op+1,s.n⟩) a rfl rfl rfl (by show 0≤s.op+1;omega) (by show s.op+1≤200;omega);refine⟨[],rfl,fun m hm=> ?_⟩;obtain⟨m,rfl⟩:∃k,m=k+1:=⟨m-1,by omega⟩
  have v:=bt a;rw[dU,o];simp only[Res.bind];rw[show isT L ⟨s.i+1,s.op+1,s.n⟩ [41]=true by rw[v];rfl,u];show Res.ok [] (⟨s.i+1+1,s.op+1-1,s.n⟩:RS)=_;rw[zA];rfl
 |cons x r=>
  rw[gU,xM,cX]at a;obtain⟨g,b⟩:=a;obtain⟨⟨w,H⟩,t,J,D,et⟩:=h x (x0 ..);have b:bZ L (bI ⟨s.i+1,s.op+1,s.n⟩ (bL x)).i (t7 r ++[.sg [41]]):=b;obtain⟨B,G⟩:=Dw b;have f:s.op+(1+max (fN x) (g8 r))≤200:=by rw[g8]at f;exact f
  obtain⟨e,A,k⟩:=w.full (L:=L) (s:=⟨s.i+1,s.op+1,s.n⟩) (xx 1) H ⟨g,G,by show 0≤s.op+1;omega,by show s.op+1+fN x≤200;omega⟩ (B 1);obtain⟨j,p,F⟩:=Dx r (fun y C=>(h y (xW _ C)).1) [e] L (bI ⟨s.i+1,s.op+1,s.n⟩ (bL x)) b (by show 0≤s.op+1;omega) (by show s.op+1+g8 r≤200;omega);have c:bZ L (bI (bI ⟨s.i+1,s.op+1,s.n⟩ (bL x)) (t7 r)).i [.sg [41]]:=((cX _ _ _).1 b).2;have E:ah L [41] (bI (bI ⟨s.i+1,s.op+1,s.n⟩ (bL x)) (t7 r))=_:=ek c rfl rfl rfl (by show 0≤s.op+1;omega) (by show s.op+1≤200;omega);refine⟨e::j,by simp only[dh,A,p],fun m hm=> ?_⟩;have hm:fE x+6+fA r+3≤m:=by rw[fA]at hm;exact hm
  obtain⟨m,rfl⟩:∃k,m=k+1:=⟨m-1,by omega⟩
  have z:isT L ⟨s.i+1,s.op+1,s.n⟩ [41]=false:=by
   rw[D]at g;rw[bt (s:=⟨s.i+1,s.op+1,s.n⟩) g];revert et;cases (t.k==2||t.k==4)<;>cases (t.t==[41])<;>simp
  rw[dU,o];simp only[Res.bind];rw[z,k m (by omega)];simp only[xI];rw[F m (by omega)];simp only;rw[E];show Res.ok ([e] ++j) (⟨s.i+1+(bL x).length+(t7 r).length+1,s.op+1-1,s.n⟩:RS)=_;rw[zA,gU];simp only[bI,xD,xC,xF,x8,xn];rw[show s.i+1+(bL x).length+(t7 r).length+1=s.i+((bL x).length+(t7 r).length+(0+1)+1) by omega]
theorem Lf(l:List Ex)(c:∀x∈l,Ok x∧HT x)(nm:List UInt8)(p:Int):OneOk (.mk 5 0 nm 0 p l) (.nm nm:: .sg [40]::(kq l ++[.sg [41]])) (1+g8 l) (fA l+5):=fun L s hp=>by
 have a:bZ L s.nx.i (.sg [40]::(kq l ++[.sg [41]])):=az hp.at_;obtain⟨l',e,k⟩:=Dy l c (s:=s.nx) a hp.op0 hp.op;have b:=bt a;refine⟨.mk 5 0 nm 0 (aD L s).p l',by simp only[t6,e],fun m hm=> ?_⟩;obtain⟨m,rfl⟩:∃k,m=k+2:=⟨m-2,by omega⟩
 rw[oR hp.at_,show isT L s.nx [91]=false by rw[b];rfl,show isT L s.nx [40]=true by rw[b];rfl];simp only[xR,xI,dz,k m (by omega),Res.bind];rw[ir]
theorem SC{o:Int}(b:1≤o)(h2:o≤18):1≤(dE o au).2∧(dE o au).2≤10:=by
 have a:o=1∨o=2∨o=3∨o=4∨o=5∨o=6∨o=7∨o=8∨o=9∨o=10∨o=11∨o=12∨o=13∨o=14∨o=15∨o=16∨o=17∨o=18:=by omega
 rcases a with rfl|rfl|rfl|rfl|rfl|rfl|rfl|rfl|rfl|rfl|rfl|rfl|rfl|rfl|rfl|rfl|rfl|rfl<;>decide
def wp(k:Int)(x:Ex):List Tk:=bif decide (cn x<k)then .sg [40]::(bL x ++[.sg [41]])else bL x
def dW(k:Int)(x:Ex):Int:=bif decide (cn x<k)then 1+fN x else fN x
theorem Nk{x:Ex}(h:Ok x)(k:Int):∃a,k≤a∧ExpOk x (wp k x) (dW k x) (fE x+4) a:=by
 unfold wp dW;cases b:decide (cn x<k)with
 |false=>exact⟨cn x,by have:=yQ b;omega,h.1.mono (xx _) (by omega)⟩
 |true=>exact⟨k,xx _,((HQ h.1 h.2 (jZ x)).exp k).mono (xx _) (by omega)⟩
theorem SD{x:Ex}(h:Ok x)(a:cn x=11→OneOk x (bL x) (fN x) (fE x))(c:cn x≤11):OneOk x (wp 11 x) (dW 11 x) (fE x+4):=by
 unfold wp dW;cases b:decide (cn x<11)with
 |false=>exact(a (by have:=yQ b;omega)).mono (xx _) (by omega)
 |true=>exact(HQ h.1 h.2 (jZ x)).mono (xx _) (by omega)
end Go.Avm
namespace Go.Avm
open Go.Proofs
structure Lg(x:Ex):Prop where
 ok:Ok x
 one:cn x=11→OneOk x (bL x) (fN x) (fE x)
 hd:HT x
 le:cn x≤11
theorem pA{x:Ex}{l:List Tk}{d:Int}{f:Nat}(h:OneOk x l d f)(es:bL x=l)(b:d≤fN x)(e:f+1≤fE x)(a:cn x=11)(c:∃t r,l=t::r∧((t.k==2||t.k==4)&&(t.t==[41]||t.t==[59]))=false):Lg x where
 ok:=⟨by rw[es,a];exact(h.exp 11).mono b e,by rw[a];decide⟩
 one:=fun _=>by rw[es];exact h.mono b (by omega)
 hd:=by unfold HT;rw[es];exact c
 le:=by rw[a];exact xx _
theorem vN{c:Type}:∀{l:List c},l.length=2→∃a b,l=[a,b]
 |[a,b],_=>⟨a,b,rfl⟩
 |[],h=>by cases h
 |[_],h=>by cases h
 |_::_::_::_,h=>by simp at h
mutual
theorem HU:∀x:Ex,hG x=true→Lg x
 | .mk k o nm n p xs,h=>by
  have d:gk xs=true→∀x∈xs,Lg x:=fun c=>Cf xs c
  rw[hG]at h;cases v:(k==1)with
  |true=>
   rw[v]at h;simp only[xR,xL,xm,zB,x6]at h;obtain⟨rfl,rfl,_,rfl⟩:=h;obtain rfl:=eq_of_beq v;exact pA (PL n p) (by rw[bL];rfl) (by rw[fN];exact xx _) (by rw[fE];decide) (by rw[cn];rfl) ⟨_,_,rfl,rfl⟩
  |false=>
  rw[v,xI]at h;cases h2:(k==2)with
  |true=>
   rw[h2]at h;simp only[xR,xL,xy,xm,zB]at h;obtain⟨rfl,rfl,E,rfl⟩:=h;obtain rfl:=eq_of_beq h2;exact pA (Lc n p E) (by rw[bL];rfl) (by rw[fN];exact xx _) (by rw[fE];decide) (by rw[cn];rfl) ⟨_,_,rfl,by rcases E with rfl|rfl<;>rfl⟩
  |false=>
  rw[h2,xI]at h;cases z:(k==3)with
  |true=>
   rw[z]at h;simp only[xR,xL,xm,zB]at h;obtain⟨rfl,rfl,rfl⟩:=h;obtain rfl:=eq_of_beq z;exact pA (PM nm p) (by rw[bL];rfl) (by rw[fN];exact xx _) (by rw[fE];decide) (by rw[cn];rfl) ⟨_,_,rfl,rfl⟩
  |false=>
  rw[z,xI]at h;cases l:(k==4)with
  |true=>
   rw[l]at h;simp only[xR,xL,xm,x6]at h;obtain⟨rfl,rfl,j,c⟩:=h;obtain rfl:=eq_of_beq l;obtain⟨i,rfl⟩:=yE.1 j;have D:=d c i (xK.2 rfl);exact pA (Ld D.ok.1 D.ok.2 (jZ i) nm p) (by rw[bL,gU];simp[t7]) (by rw[fN];show 1+fN i≤1+g8 [i];rw[g8];omega) (by rw[fE,fA];omega) (by rw[cn];rfl) ⟨_,_,rfl,rfl⟩
  |false=>
  rw[l,xI]at h;cases B:(k==5)with
  |true=>
   rw[B]at h;simp only[xR,xL,xm]at h;obtain⟨rfl,rfl,c⟩:=h;obtain rfl:=eq_of_beq B;exact pA (Lf xs (fun x hm=>⟨(d c x hm).ok,(d c x hm).hd⟩) nm p) (by rw[bL];rfl) (by rw[fN];exact xx _) (by rw[fE];omega) (by rw[cn];rfl) ⟨_,_,rfl,rfl⟩
  |false=>
  rw[B,xI]at h;cases m:(k==6)with
  |true=>
   rw[m]at h;simp only[xR,xL,xm,zB]at h;obtain⟨rfl,rfl,rfl,rfl⟩:=h;obtain rfl:=eq_of_beq m;exact pA (HS p) (by rw[bL];rfl) (by rw[fN];exact xx _) (by rw[fE];decide) (by rw[cn];rfl) ⟨_,_,rfl,rfl⟩
  |false=>
  rw[m,xI]at h;cases w:(k==7)with
  |true=>
   rw[w]at h;simp only[xR,xL,xm,zB]at h;obtain⟨rfl,rfl,rfl⟩:=h;obtain rfl:=eq_of_beq w;exact pA (Le nm p) (by rw[bL];rfl) (by rw[fN];exact xx _) (by rw[fE];decide) (by rw[cn];rfl) ⟨_,_,rfl,rfl⟩
  |false=>
  rw[w,xI]at h;cases s:(k==8)with
  |true=>
   rw[s]at h;simp only[xR,xL,xy,xm,x6]at h;obtain⟨u,rfl,rfl,j,c⟩:=h;obtain rfl:=eq_of_beq s;obtain⟨y,rfl⟩:=yE.1 j;have A:=d c y (xK.2 rfl);have u:o=19∨o=20∨o=21:=by omega
   exact pA (SB (SD A.ok A.one A.le) o u p) (by rw[bL];show Tk.sg (A6 o)::Sy [y]=_;rw[Sy,wp]) (by rw[fN];show _≤J6 11 [y];rw[J6,dW];exact xx _) (by rw[fE,fA];omega) (by rw[cn];rfl) ⟨_,_,rfl,by rcases u with rfl|rfl|rfl<;>rfl⟩
  |false=>
  rw[s,xI]at h;simp only[xL,xm,x6]at h;obtain⟨rfl,g,f,rfl,rfl,j,c⟩:=h;obtain⟨a,b,rfl⟩:=vN j;have C:=d c a (x0 ..);have H:=d c b (xW _ (xK.2 rfl));obtain⟨I,O⟩:=SC g f;obtain⟨P,M,J⟩:=Nk C.ok (dE o au).2;obtain⟨N,K,L⟩:=Nk H.ok ((dE o au).2+1);have es:cn (.mk 9 o [] 0 p [a,b])=(dE o au).2:=by rw[cn];rfl
  have F:bL (.mk 9 o [] 0 p [a,b])=wp (dE o au).2 a ++ .sg (dE o au).1::wp ((dE o au).2+1) b:=by
   rw[bL];show Sz (dE o au).1 (dE o au).2 [a,b]=_;rw[Sz,VH,wp,wp]
  have G:fN (.mk 9 o [] 0 p [a,b])=max (dW (dE o au).2 a) (dW ((dE o au).2+1) b):=by
   rw[fN];show PJ (dE o au).2 [a,b]=_;rw[PJ,J6,dW,dW]
  refine⟨⟨?_,by rw[es];exact I⟩,fun h=>by rw[es]at h;omega, ?_,by rw[es];omega⟩
  ·rw[es,F,G]
   exact(PN g f J L M K p).mono (xx _) (by rw[fE,fA,fA,fA];omega)
  ·unfold HT
   rw[F];unfold wp;cases decide (cn a<(dE o au).2)with
   |true=>exact⟨_,_,rfl,rfl⟩
   |false=>
    obtain⟨t,r,e,q⟩:=C.hd;simp only[xI,e];exact⟨t,_,rfl,q⟩
theorem Cf:∀l:List Ex,gk l=true→∀x∈l,Lg x
 |[],_,_,hm=>by cases hm
 |y::r,h,x,hm=>by
  rw[gk,xL]at h;rcases xX.1 hm with e|hm
  ·rw[e];exact HU y h.1
  ·exact Cf r h.2 x hm
end
end Go.Avm
namespace Go.Avm
open Go.Proofs
section
variable{L:List T}{s:RS}(a:s.i<L.length)
include a
theorem br:HC 24 [rP] (rd L s) [tD (aD L s)] (rd L s):=
 qN {hint:=qT 24 [(11,U6 Pg a)]} 1000
theorem Lh:HX 71 [rP] (rd L s) (dL (aD L s).p 4) (rd L s):=
 qX {calls:=tC [(71,3,1007,ab (br a))],pans:=an Pg [(71,0,1000,⟨5,none,[]⟩)]} 1000
theorem YE(x:List UInt8)(b:((aD L s).k==2)=true):HC 70 [rP, .d (.str x)] (rd L s) [.bool ((aD L s).t==x)] (rd L s):=
 qN {hint:=qT 70 [(10,qB b)],calls:=tC [(70,7,1044,ab (br a))]} 1000
theorem YF(x:List UInt8)(b:((aD L s).k==2)=false)(h2:((aD L s).k==4)=true):HC 70 [rP, .d (.str x)] (rd L s) [.bool ((aD L s).t==x)] (rd L s):=
 qN {hint:=qT 70 [(10,qB b),(14,qB h2)],calls:=tC [(70,7,1044,ab (br a))]} 1000
theorem YG(x:List UInt8)(b:((aD L s).k==2)=false)(h2:((aD L s).k==4)=false):HC 70 [rP, .d (.str x)] (rd L s) [.bool false] (rd L s):=
 qN {hint:=qT 70 [(10,qB b),(14,qB h2)],calls:=tC [(70,7,1044,ab (br a))]} 1000
theorem Cg(x:List UInt8):HC 70 [rP, .d (.str x)] (rd L s) [.bool (isT L s x)] (rd L s):=by
 unfold isT;cases b:((aD L s).k==2)with
 |true=>exact YE a x b
 |false=>cases h2:((aD L s).k==4)with
  |true=>exact YF a x b h2
  |false=>exact YG a x b h2
theorem SE(b:dM L)(k:Int)(h:(aD L s).k=k):HC 41 [rP, .d (.int .u8 k)] (rd L s) [tD (aD L s)] (rd L s.nx):=
 qN {hint:=qT 41 [(11,hB Pg ((aD L s).k !=k) false (by simp[h])),(18,cy Pg s.i (by have:=b.len;omega))],calls:=tC [(41,7,1044,ab (br a))]} 1000
theorem SF(k:Int)(h:(aD L s).k≠k):HX 41 [rP, .d (.int .u8 k)] (rd L s) (dL (aD L s).p 4) (rd L s):=
 qX {hint:=qT 41 [(11,hB Pg ((aD L s).k !=k) true (by simpa using h))],calls:=tC [(41,7,1044,ab (br a))],pans:=an Pg [(41,3,1176,⟨1,some (bh (Lh a)),[]⟩)]} 1000
theorem pB(b:dM L)(k:Int)(c:k≠0):RC L 41 [rP, .d (.int .u8 k)] (fun t=>[tD t]) s (b0 L k s):=by
 unfold b0;cases h:((aD L s).k==k)with
 |true=>
  have h:=eq_of_beq h;exact⟨Da b a (by rw[h];exact c),SE a b k h⟩
 |false=>
  exact SF a k (by simpa using h)
theorem SG(x:List UInt8)(h:isT L s x=false):HX 40 [rP, .d (.str x)] (rd L s) (dL (aD L s).p 4) (rd L s):=
 qX {hint:=qT 40 [(9,hB Pg (!isT L s x) true (by simp[h]))],calls:=tC [(40,8,1162,ab (Cg a x))],pans:=an Pg [(40,2,1216,⟨1,some (bh (Lh a)),[]⟩)]} 1000
theorem HV(b:dM L)(x:List UInt8)(h:isT L s x=true)(e:(x==[40])=false)(h2:(x==[91])=false)(f:(x==[123])=false)(c:(x==[41])=false)(j:(x==[93])=false)(g:(x==[125])=false):
    HC 40 [rP, .d (.str x)] (rd L s) [tD (aD L s)] (rd L s.nx):=
 qN {hint:=qT 40 [(9,hB Pg (!isT L s x) false (by simp[h])),(16,qB e),(17,qB h2),(18,qB f),(36,qB c),(37,qB j),(38,qB g),(50,cy Pg s.i (by have:=b.len;omega))],calls:=tC [(40,8,1162,ab (Cg a x)),(40,13,1270,ab (br a))]} 1000
theorem Li(b:dM L)(h:isT L s [40]=true)(c:decide (200<b5 (s.op+1))=false):
    HC 40 [rP, .d (.str [40])] (rd L s) [tD (aD L s)] (rd L ⟨s.i+1,b5 (s.op+1),s.n⟩):=
 qN {hint:=qT 40 [(9,hB Pg (!isT L s [40]) false (by simp[h])),(30,qB c),(50,cy Pg s.i (by have:=b.len;omega))],calls:=tC [(40,8,1162,ab (Cg a [40])),(40,13,1270,ab (br a))]} 1000
theorem Lj(h:isT L s [40]=true)(b:decide (200<b5 (s.op+1))=true):
    HX 40 [rP, .d (.str [40])] (rd L s) (dL (aD L s).p 5) (rd L {s with op:=b5 (s.op+1)}):=
 qX {hint:=qT 40 [(9,hB Pg (!isT L s [40]) false (by simp[h])),(30,qB b)],calls:=tC [(40,8,1162,ab (Cg a [40])),(40,13,1270,ab (br a))],pans:=an Pg [(40,10,2242,⟨4,none,[]⟩)]} 1000
theorem Lk(b:dM L)(h:isT L s [91]=true)(c:decide (200<b5 (s.op+1))=false):
    HC 40 [rP, .d (.str [91])] (rd L s) [tD (aD L s)] (rd L ⟨s.i+1,b5 (s.op+1),s.n⟩):=
 qN {hint:=qT 40 [(9,hB Pg (!isT L s [91]) false (by simp[h])),(30,qB c),(50,cy Pg s.i (by have:=b.len;omega))],calls:=tC [(40,8,1162,ab (Cg a [91])),(40,13,1270,ab (br a))]} 1000
theorem Ll(h:isT L s [91]=true)(b:decide (200<b5 (s.op+1))=true):
    HX 40 [rP, .d (.str [91])] (rd L s) (dL (aD L s).p 5) (rd L {s with op:=b5 (s.op+1)}):=
 qX {hint:=qT 40 [(9,hB Pg (!isT L s [91]) false (by simp[h])),(30,qB b)],calls:=tC [(40,8,1162,ab (Cg a [91])),(40,13,1270,ab (br a))],pans:=an Pg [(40,10,2350,⟨4,none,[]⟩)]} 1000
theorem HW(b:dM L)(h:isT L s [123]=true)(c:decide (200<b5 (s.op+1))=false):
    HC 40 [rP, .d (.str [123])] (rd L s) [tD (aD L s)] (rd L ⟨s.i+1,b5 (s.op+1),s.n⟩):=
 qN {hint:=qT 40 [(9,hB Pg (!isT L s [123]) false (by simp[h])),(30,qB c),(50,cy Pg s.i (by have:=b.len;omega))],calls:=tC [(40,8,1162,ab (Cg a [123])),(40,13,1270,ab (br a))]} 1000
theorem HY(h:isT L s [123]=true)(b:decide (200<b5 (s.op+1))=true):
    HX 40 [rP, .d (.str [123])] (rd L s) (dL (aD L s).p 5) (rd L {s with op:=b5 (s.op+1)}):=
 qX {hint:=qT 40 [(9,hB Pg (!isT L s [123]) false (by simp[h])),(30,qB b)],calls:=tC [(40,8,1162,ab (Cg a [123])),(40,13,1270,ab (br a))],pans:=an Pg [(40,10,2458,⟨4,none,[]⟩)]} 1000
theorem Lm(b:dM L)(h:isT L s [41]=true):
    HC 40 [rP, .d (.str [41])] (rd L s) [tD (aD L s)] (rd L ⟨s.i+1,b5 (s.op-1),s.n⟩):=
 qN {hint:=qT 40 [(9,hB Pg (!isT L s [41]) false (by simp[h])),(50,cy Pg s.i (by have:=b.len;omega))],calls:=tC [(40,8,1162,ab (Cg a [41])),(40,13,1270,ab (br a))]} 1000
theorem Ln(b:dM L)(h:isT L s [93]=true):
    HC 40 [rP, .d (.str [93])] (rd L s) [tD (aD L s)] (rd L ⟨s.i+1,b5 (s.op-1),s.n⟩):=
 qN {hint:=qT 40 [(9,hB Pg (!isT L s [93]) false (by simp[h])),(50,cy Pg s.i (by have:=b.len;omega))],calls:=tC [(40,8,1162,ab (Cg a [93])),(40,13,1270,ab (br a))]} 1000
theorem HZ(b:dM L)(h:isT L s [125]=true):
    HC 40 [rP, .d (.str [125])] (rd L s) [tD (aD L s)] (rd L ⟨s.i+1,b5 (s.op-1),s.n⟩):=
 qN {hint:=qT 40 [(9,hB Pg (!isT L s [125]) false (by simp[h])),(50,cy Pg s.i (by have:=b.len;omega))],calls:=tC [(40,8,1162,ab (Cg a [125])),(40,13,1270,ab (br a))]} 1000
theorem cQ(b:dM L)(x:List UInt8):RC L 40 [rP, .d (.str x)] (fun t=>[tD t]) s (ah L x s):=by
 unfold ah;cases h:isT L s x with
 |false=>exact SG a x h
 |true=>
  have e:=vy b a h;simp only[xR];cases g:(x==[40])with
  |true=>
   obtain rfl:x=[40]:=eq_of_beq g;simp only[Bool.true_or,xR];cases c:decide (200<b5 (s.op+1))with
   |true=>exact Lj a h c
   |false=>exact⟨e,Li a b h c⟩
  |false=>cases h2:(x==[91])with
  |true=>
   obtain rfl:x=[91]:=eq_of_beq h2;simp only[Bool.true_or,Bool.or_true,xR];cases c:decide (200<b5 (s.op+1))with
   |true=>exact Ll a h c
   |false=>exact⟨e,Lk a b h c⟩
  |false=>cases i:(x==[123])with
  |true=>
   obtain rfl:x=[123]:=eq_of_beq i;simp only[Bool.true_or,Bool.or_true,xR];cases c:decide (200<b5 (s.op+1))with
   |true=>exact HY a h c
   |false=>exact⟨e,HW a b h c⟩
  |false=>cases f:(x==[41])with
  |true=>
   obtain rfl:x=[41]:=eq_of_beq f;exact⟨e,Lm a b h⟩
  |false=>cases k:(x==[93])with
  |true=>
   obtain rfl:x=[93]:=eq_of_beq k;exact⟨e,Ln a b h⟩
  |false=>cases j:(x==[125])with
  |true=>
   obtain rfl:x=[125]:=eq_of_beq j;exact⟨e,HZ a b h⟩
  |false=>exact⟨e,HV a b x h g h2 i f k j⟩
theorem af(x:List UInt8)(h:isT L s x=false):HC 45 [rP, .d (.str x)] (rd L s) [.bool false] (rd L s):=
 qN {hint:=qT 45 [(8,hB Pg (!isT L s x) true (by simp[h]))],calls:=tC [(45,7,1036,ab (Cg a x))]} 1000
theorem mayT(x:List UInt8)(h:isT L s x=true)(t:T)(b:RS)(c:HC 40 [rP, .d (.str x)] (rd L s) [tD t] (rd L b)):HC 45 [rP, .d (.str x)] (rd L s) [.bool true] (rd L b):=
 qN {hint:=qT 45 [(8,hB Pg (!isT L s x) false (by simp[h]))],calls:=tC [(45,7,1036,ab (Cg a x)),(45,11,1072,ab c)]} 1000
theorem VJ(x:List UInt8)(h:isT L s x=true)(p e:Int)(b:RS)(c:HX 40 [rP, .d (.str x)] (rd L s) (dL p e) (rd L b)):HX 45 [rP, .d (.str x)] (rd L s) (dL p e) (rd L b):=
 qX {hint:=qT 45 [(8,hB Pg (!isT L s x) false (by simp[h]))],calls:=tC [(45,7,1036,ab (Cg a x))],pans:=an Pg [(45,3,1048,⟨2,some (bh c),[]⟩)]} 1000
theorem SH(g:dM L)(x:List UInt8):RC L 45 [rP, .d (.str x)] (fun b=>[.bool b]) s (aM L x s):=by
 unfold aM;cases h:isT L s x with
 |false=>exact⟨a,af a x h⟩
 |true=>
  simp only[xR];have c:=cQ a g x;revert c;cases ah L x s with
  |ok t f=>exact fun c=>⟨c.1,mayT a x h t f c.2⟩
  |bad p e f=>exact fun c=>VJ a x h p e f c
  |out=>exact fun _=>trivial
theorem aZ(x:List UInt8){b:Bool}(h:isT L s x=b):HC 70 [rP, .d (.str x)] (rd L s) [.bool b] (rd L s):=h▸Cg a x
end
section
variable{L:List T}{F:Nat}{args:List AV}{s0:RS}{f j:Type}{g:f→List D}
theorem RC.bind{f':Nat}{b:List AV}{d:j→List D}{s:RS}{r:Res j}{k:j→RS→Res f}(h:RC L f' b d s r)
    (m:∀p e c,(HX f' b (rd L s) (dL p e) (rd L c))→HX F args (rd L s0) (dL p e) (rd L c))
    (l:∀a c,c.i<L.length→(HC f' b (rd L s) (d a) (rd L c))→RC L F args g s0 (k a c)):RC L F args g s0 (r.bind k):=by
 cases r with
 |ok a c=>exact l a c h.1 h.2
 |bad p e c=>exact m p e c h
 |out=>trivial
theorem RC.may{s:RS}(l:s.i<L.length)(k:dM L)(x:List UInt8){X Y:RS→Res f}
    (n:∀p e a,(HX 45 [rP, .d (.str x)] (rd L s) (dL p e) (rd L a))→HX F args (rd L s0) (dL p e) (rd L a))
    (m:∀a,a.i<L.length→(HC 45 [rP, .d (.str x)] (rd L s) [.bool true] (rd L a))→RC L F args g s0 (X a))
    (o:isT L s x=false→RC L F args g s0 (Y s)):RC L F args g s0 ((aM L x s).bind fun b c=>bif b then X c else Y c):=by
 have h:=SH l k x;revert h;unfold aM;cases q:isT L s x with
 |false=>exact fun _=>o q
 |true=>
  simp only[xR];cases ah L x s with
  |ok t a=>exact fun h=>m a h.1 h.2
  |bad p e a=>exact fun h=>n p e a h
  |out=>exact fun _=>trivial
theorem RC.ite{c:Bool}{X Y:Res f}(a:c=true→RC L F args g s0 X)(b:c=false→RC L F args g s0 Y):RC L F args g s0 (bif c then X else Y):=by
 cases h:c with
 |true=>exact a h
 |false=>exact b h
end
end Go.Avm
namespace Go.Avm
open Go.Proofs
theorem Lo:al Tryz.prog 89 [.int .u8 1] [.str [43], .int .i64 9]:=aI bv named {} 1000 709297 (by kernel_rfl)
theorem Lp:al Tryz.prog 89 [.int .u8 2] [.str [45], .int .i64 9]:=aI bv named {} 1000 709297 (by kernel_rfl)
theorem Lq:al Tryz.prog 89 [.int .u8 3] [.str [42], .int .i64 10]:=aI bv named {} 1000 709297 (by kernel_rfl)
theorem Lr:al Tryz.prog 89 [.int .u8 4] [.str [47], .int .i64 10]:=aI bv named {} 1000 709297 (by kernel_rfl)
theorem Ls:al Tryz.prog 89 [.int .u8 5] [.str [37], .int .i64 10]:=aI bv named {} 1000 709297 (by kernel_rfl)
theorem Lt:al Tryz.prog 89 [.int .u8 6] [.str [38], .int .i64 7]:=aI bv named {} 1000 709297 (by kernel_rfl)
theorem Lu:al Tryz.prog 89 [.int .u8 7] [.str [124], .int .i64 5]:=aI bv named {} 1000 709297 (by kernel_rfl)
theorem Lv:al Tryz.prog 89 [.int .u8 8] [.str [94], .int .i64 6]:=aI bv named {} 1000 709297 (by kernel_rfl)
theorem Lw:al Tryz.prog 89 [.int .u8 9] [.str [60,60], .int .i64 8]:=aI bv named {} 1000 709297 (by kernel_rfl)
theorem Dz:al Tryz.prog 89 [.int .u8 10] [.str [62,62], .int .i64 8]:=aI bv named {} 1000 709297 (by kernel_rfl)
theorem DA:al Tryz.prog 89 [.int .u8 11] [.str [60], .int .i64 4]:=aI bv named {} 1000 709297 (by kernel_rfl)
theorem DB:al Tryz.prog 89 [.int .u8 12] [.str [60,61], .int .i64 4]:=aI bv named {} 1000 709297 (by kernel_rfl)
theorem DC:al Tryz.prog 89 [.int .u8 13] [.str [62], .int .i64 4]:=aI bv named {} 1000 709297 (by kernel_rfl)
theorem DD:al Tryz.prog 89 [.int .u8 14] [.str [62,61], .int .i64 4]:=aI bv named {} 1000 709297 (by kernel_rfl)
theorem DE:al Tryz.prog 89 [.int .u8 15] [.str [61,61], .int .i64 3]:=aI bv named {} 1000 709297 (by kernel_rfl)
theorem DF:al Tryz.prog 89 [.int .u8 16] [.str [33,61], .int .i64 3]:=aI bv named {} 1000 709297 (by kernel_rfl)
theorem DG:al Tryz.prog 89 [.int .u8 17] [.str [38,38], .int .i64 2]:=aI bv named {} 1000 709297 (by kernel_rfl)
theorem DH:al Tryz.prog 89 [.int .u8 18] [.str [124,124], .int .i64 1]:=aI bv named {} 1000 709297 (by kernel_rfl)
theorem cV:al Tryz.prog 89 [.int .u8 19] [.str [45], .int .i64 11]:=aI bv named {} 1000 709297 (by kernel_rfl)
theorem df:al Tryz.prog 89 [.int .u8 20] [.str [126], .int .i64 11]:=aI bv named {} 1000 709297 (by kernel_rfl)
theorem dJ:al Tryz.prog 89 [.int .u8 21] [.str [33], .int .i64 11]:=aI bv named {} 1000 709297 (by kernel_rfl)
end Go.Avm
namespace Go.Avm
open Go.Proofs
section
variable{L:List T}(a:dM L)
include a
theorem Ly(n:Nat)(V:∀s:RS,s.i<L.length→RC L 128 [rP] (fun e=>[ez e]) s (dC L n s))(ihE:∀(k:Int)(s:RS),s.i<L.length→RC L 100 [rP,dI k] (fun e=>[ez e]) s (aQ L n k s))(U:∀s:RS,s.i<L.length→RC L 131 [rP] (fun e=>[ez e]) s (ch L n s))
    (Z:∀(nm:List UInt8)(p:Int)(s:RS),s.i<L.length→RC L 130 [rP, .d (.str nm),dI p] (fun e=>[ez e]) s (dz L n nm p s)) (s:RS) (l:s.i<L.length):RC L 128 [rP] (fun e=>[ez e]) s (dC L (n+1) s):=by
 simp only[dC];refine RC.may l a [45] ?_ ?_ ?_
 ·exact fun _ _ _ c=>qX {hint:=qT 128 [(21, .call 89 _ _ cV)],calls:=tC [(128,12,1244,ab (br l))],pans:=an Pg [(128,6,3074,⟨2,some (bh c),[]⟩)]} 1000
 ·intro s1 l1 c1
  refine RC.bind (V _ l1) ?_ ?_
  ·exact fun _ _ _ c=>qX {hint:=qT 128 [(21, .call 89 _ _ cV)],calls:=tC [(128,12,1244,ab (br l)),(128,26,3318,ab c1)],pans:=an Pg [(128,7,3318,⟨4,some (bh c),[]⟩)]} 1000
  ·intro x s2 Q M
   obtain⟨J,F,w,I,K,u⟩:=x;exact⟨Q,qN {hint:=qT 128 [(21, .call 89 _ _ cV)],calls:=tC [(128,12,1244,ab (br l)),(128,26,3318,ab c1),(128,31,3806,ab M)]} 1000⟩
 ·intro f
  refine RC.may l a [126] ?_ ?_ ?_
  ·exact fun _ _ _ c=>qX {hintB:=bk Pg [(128,21,2464, .call 89 _ _ cV),(128,21,4172, .call 89 _ _ df)],calls:=tC [(128,12,1244,ab (br l)),(128,26,3318,ab (af l [45] f))],pans:=an Pg [(128,6,4782,⟨2,some (bh c),[]⟩)]} 1000
  ·intro s2 Q M
   refine RC.bind (V _ Q) ?_ ?_
   ·exact fun _ _ _ c=>qX {hintB:=bk Pg [(128,21,2464, .call 89 _ _ cV),(128,21,4172, .call 89 _ _ df)],calls:=tC [(128,12,1244,ab (br l)),(128,26,3318,ab (af l [45] f)),(128,26,5026,ab M)],pans:=an Pg [(128,7,5026,⟨4,some (bh c),[]⟩)]} 1000
   ·intro x s3 T N
    obtain⟨J,F,w,I,K,u⟩:=x;exact⟨T,qN {hintB:=bk Pg [(128,21,2464, .call 89 _ _ cV),(128,21,4172, .call 89 _ _ df)],calls:=tC [(128,12,1244,ab (br l)),(128,26,3318,ab (af l [45] f)),(128,26,5026,ab M),(128,31,5514,ab N)]} 1000⟩
  ·intro h2
   refine RC.may l a [33] ?_ ?_ ?_
   ·exact fun _ _ _ c=>qX {hintB:=bk Pg [(128,21,2464, .call 89 _ _ cV),(128,21,4172, .call 89 _ _ df),(128,21,5880, .call 89 _ _ dJ)],calls:=tC [(128,12,1244,ab (br l)),(128,26,3318,ab (af l [45] f)),(128,26,5026,ab (af l [126] h2))],pans:=an Pg [(128,6,6490,⟨2,some (bh c),[]⟩)]} 1000
   ·intro s3 T N
    refine RC.bind (V _ T) ?_ ?_
    ·exact fun _ _ _ c=>qX {hintB:=bk Pg [(128,21,2464, .call 89 _ _ cV),(128,21,4172, .call 89 _ _ df),(128,21,5880, .call 89 _ _ dJ)],calls:=tC [(128,12,1244,ab (br l)),(128,26,3318,ab (af l [45] f)),(128,26,5026,ab (af l [126] h2)),(128,26,6734,ab N)],pans:=an Pg [(128,7,6734,⟨4,some (bh c),[]⟩)]} 1000
    ·intro x s4 l4 c4
     obtain⟨J,F,w,I,K,u⟩:=x;exact⟨l4,qN {hintB:=bk Pg [(128,21,2464, .call 89 _ _ cV),(128,21,4172, .call 89 _ _ df),(128,21,5880, .call 89 _ _ dJ)],calls:=tC [(128,12,1244,ab (br l)),(128,26,3318,ab (af l [45] f)),(128,26,5026,ab (af l [126] h2)),(128,26,6734,ab N),(128,31,7222,ab c4)]} 1000⟩
   ·intro j
    refine RC.ite (fun g=> ?_) (fun g=> ?_)
    ·
     have O:s.nx.i<L.length:=Da a l (by rw[eq_of_beq g];decide);exact⟨O,qN {hintB:=bk Pg [(128,21,2464, .call 89 _ _ cV),(128,21,4172, .call 89 _ _ df),(128,21,5880, .call 89 _ _ dJ),(128,38,7344,qB g),(128,43,8076,cy Pg s.i (by have:=a.len;omega))],calls:=tC [(128,12,1244,ab (br l)),(128,26,3318,ab (af l [45] f)),(128,26,5026,ab (af l [126] h2)),(128,26,6734,ab (af l [33] j))]} 1000⟩
    ·
     refine RC.may l a [116,114,117,101] ?_ ?_ ?_
     ·exact fun _ _ _ c=>qX {hintB:=bk Pg [(128,21,2464, .call 89 _ _ cV),(128,21,4172, .call 89 _ _ df),(128,21,5880, .call 89 _ _ dJ),(128,38,7344,qB g)],calls:=tC [(128,12,1244,ab (br l)),(128,26,3318,ab (af l [45] f)),(128,26,5026,ab (af l [126] h2)),(128,26,6734,ab (af l [33] j))],pans:=an Pg [(128,12,7588,⟨1,some (bh c),[]⟩)]} 1000
     ·intro s5 O c5
      exact⟨O,qN {hintB:=bk Pg [(128,21,2464, .call 89 _ _ cV),(128,21,4172, .call 89 _ _ df),(128,21,5880, .call 89 _ _ dJ),(128,38,7344,qB g)],calls:=tC [(128,12,1244,ab (br l)),(128,26,3318,ab (af l [45] f)),(128,26,5026,ab (af l [126] h2)),(128,26,6734,ab (af l [33] j)),(128,53,7710,ab c5)]} 1000⟩
     ·intro m
      refine RC.may l a [102,97,108,115,101] ?_ ?_ ?_
      ·exact fun _ _ _ c=>qX {hintB:=bk Pg [(128,21,2464, .call 89 _ _ cV),(128,21,4172, .call 89 _ _ df),(128,21,5880, .call 89 _ _ dJ),(128,38,7344,qB g)],calls:=tC [(128,12,1244,ab (br l)),(128,26,3318,ab (af l [45] f)),(128,26,5026,ab (af l [126] h2)),(128,26,6734,ab (af l [33] j)),(128,53,7710,ab (af l [116,114,117,101] m))],pans:=an Pg [(128,14,7832,⟨1,some (bh c),[]⟩)]} 1000
      ·intro s6 l6 c6
       exact⟨l6,qN {hintB:=bk Pg [(128,21,2464, .call 89 _ _ cV),(128,21,4172, .call 89 _ _ df),(128,21,5880, .call 89 _ _ dJ),(128,38,7344,qB g)],calls:=tC [(128,12,1244,ab (br l)),(128,26,3318,ab (af l [45] f)),(128,26,5026,ab (af l [126] h2)),(128,26,6734,ab (af l [33] j)),(128,53,7710,ab (af l [116,114,117,101] m)),(128,59,7954,ab c6)]} 1000⟩
      ·intro o
       refine RC.may l a [114,101,97,100] ?_ ?_ ?_
       ·exact fun _ _ _ c=>qX {hintB:=bk Pg [(128,21,2464, .call 89 _ _ cV),(128,21,4172, .call 89 _ _ df),(128,21,5880, .call 89 _ _ dJ),(128,38,7344,qB g)],calls:=tC [(128,12,1244,ab (br l)),(128,26,3318,ab (af l [45] f)),(128,26,5026,ab (af l [126] h2)),(128,26,6734,ab (af l [33] j)),(128,53,7710,ab (af l [116,114,117,101] m)),(128,59,7954,ab (af l [102,97,108,115,101] o))],pans:=an Pg [(128,16,8076,⟨1,some (bh c),[]⟩)]} 1000
       ·intro s7 l7 S
        refine RC.bind (cQ l7 a [40]) ?_ ?_
        ·exact fun _ _ _ c=>qX {hintB:=bk Pg [(128,21,2464, .call 89 _ _ cV),(128,21,4172, .call 89 _ _ df),(128,21,5880, .call 89 _ _ dJ),(128,38,7344,qB g)],calls:=tC [(128,12,1244,ab (br l)),(128,26,3318,ab (af l [45] f)),(128,26,5026,ab (af l [126] h2)),(128,26,6734,ab (af l [33] j)),(128,53,7710,ab (af l [116,114,117,101] m)),(128,59,7954,ab (af l [102,97,108,115,101] o)),(128,65,8198,ab S)],pans:=an Pg [(128,17,8320,⟨1,some (bh c),[]⟩)]} 1000
        ·intro _ s8 W E
         refine RC.bind (cQ W a [41]) ?_ ?_
         ·exact fun _ _ _ c=>qX {hintB:=bk Pg [(128,21,2464, .call 89 _ _ cV),(128,21,4172, .call 89 _ _ df),(128,21,5880, .call 89 _ _ dJ),(128,38,7344,qB g)],calls:=tC [(128,12,1244,ab (br l)),(128,26,3318,ab (af l [45] f)),(128,26,5026,ab (af l [126] h2)),(128,26,6734,ab (af l [33] j)),(128,53,7710,ab (af l [116,114,117,101] m)),(128,59,7954,ab (af l [102,97,108,115,101] o)),(128,65,8198,ab S),(128,67,8442,ab E)],pans:=an Pg [(128,18,8442,⟨1,some (bh c),[]⟩)]} 1000
         ·intro _ s9 X G
          exact⟨X,qN {hintB:=bk Pg [(128,21,2464, .call 89 _ _ cV),(128,21,4172, .call 89 _ _ df),(128,21,5880, .call 89 _ _ dJ),(128,38,7344,qB g)],calls:=tC [(128,12,1244,ab (br l)),(128,26,3318,ab (af l [45] f)),(128,26,5026,ab (af l [126] h2)),(128,26,6734,ab (af l [33] j)),(128,53,7710,ab (af l [116,114,117,101] m)),(128,59,7954,ab (af l [102,97,108,115,101] o)),(128,65,8198,ab S),(128,67,8442,ab E),(128,69,8564,ab G)]} 1000⟩
       ·intro q
        refine RC.may l a [108,101,110] ?_ ?_ ?_
        ·exact fun _ _ _ c=>qX {hintB:=bk Pg [(128,21,2464, .call 89 _ _ cV),(128,21,4172, .call 89 _ _ df),(128,21,5880, .call 89 _ _ dJ),(128,38,7344,qB g)],calls:=tC [(128,12,1244,ab (br l)),(128,26,3318,ab (af l [45] f)),(128,26,5026,ab (af l [126] h2)),(128,26,6734,ab (af l [33] j)),(128,53,7710,ab (af l [116,114,117,101] m)),(128,59,7954,ab (af l [102,97,108,115,101] o)),(128,65,8198,ab (af l [114,101,97,100] q))],pans:=an Pg [(128,20,8320,⟨1,some (bh c),[]⟩)]} 1000
        ·intro s8 W E
         refine RC.bind (cQ W a [40]) ?_ ?_
         ·exact fun _ _ _ c=>qX {hintB:=bk Pg [(128,21,2464, .call 89 _ _ cV),(128,21,4172, .call 89 _ _ df),(128,21,5880, .call 89 _ _ dJ),(128,38,7344,qB g)],calls:=tC [(128,12,1244,ab (br l)),(128,26,3318,ab (af l [45] f)),(128,26,5026,ab (af l [126] h2)),(128,26,6734,ab (af l [33] j)),(128,53,7710,ab (af l [116,114,117,101] m)),(128,59,7954,ab (af l [102,97,108,115,101] o)),(128,65,8198,ab (af l [114,101,97,100] q)),(128,75,8442,ab E)],pans:=an Pg [(128,21,8564,⟨1,some (bh c),[]⟩)]} 1000
         ·intro _ s9 X G
          refine RC.bind (pB X a 1 (by decide)) ?_ ?_
          ·exact fun _ _ _ c=>qX {hintB:=bk Pg [(128,21,2464, .call 89 _ _ cV),(128,21,4172, .call 89 _ _ df),(128,21,5880, .call 89 _ _ dJ),(128,38,7344,qB g)],calls:=tC [(128,12,1244,ab (br l)),(128,26,3318,ab (af l [45] f)),(128,26,5026,ab (af l [126] h2)),(128,26,6734,ab (af l [33] j)),(128,53,7710,ab (af l [116,114,117,101] m)),(128,59,7954,ab (af l [102,97,108,115,101] o)),(128,65,8198,ab (af l [114,101,97,100] q)),(128,75,8442,ab E),(128,77,8686,ab G)],pans:=an Pg [(128,22,8686,⟨1,some (bh c),[]⟩)]} 1000
          ·intro t H b h
           refine RC.bind (cQ b a [41]) ?_ ?_
           ·exact fun _ _ _ c=>qX {hintB:=bk Pg [(128,21,2464, .call 89 _ _ cV),(128,21,4172, .call 89 _ _ df),(128,21,5880, .call 89 _ _ dJ),(128,38,7344,qB g)],calls:=tC [(128,12,1244,ab (br l)),(128,26,3318,ab (af l [45] f)),(128,26,5026,ab (af l [126] h2)),(128,26,6734,ab (af l [33] j)),(128,53,7710,ab (af l [116,114,117,101] m)),(128,59,7954,ab (af l [102,97,108,115,101] o)),(128,65,8198,ab (af l [114,101,97,100] q)),(128,75,8442,ab E),(128,77,8686,ab G),(128,79,8808,ab h)],pans:=an Pg [(128,23,9052,⟨1,some (bh c),[]⟩)]} 1000
           ·intro _ Y C A
            exact⟨C,qN {hintB:=bk Pg [(128,21,2464, .call 89 _ _ cV),(128,21,4172, .call 89 _ _ df),(128,21,5880, .call 89 _ _ dJ),(128,38,7344,qB g)],calls:=tC [(128,12,1244,ab (br l)),(128,26,3318,ab (af l [45] f)),(128,26,5026,ab (af l [126] h2)),(128,26,6734,ab (af l [33] j)),(128,53,7710,ab (af l [116,114,117,101] m)),(128,59,7954,ab (af l [102,97,108,115,101] o)),(128,65,8198,ab (af l [114,101,97,100] q)),(128,75,8442,ab E),(128,77,8686,ab G),(128,79,8808,ab h),(128,82,9174,ab A)]} 1000⟩
        ·intro y
         refine RC.ite (fun v=> ?_) (fun v=> ?_)
         ·
          refine RC.bind (cQ l a [40]) ?_ ?_
          ·exact fun _ _ _ c=>qX {hintB:=bk Pg [(128,21,2464, .call 89 _ _ cV),(128,21,4172, .call 89 _ _ df),(128,21,5880, .call 89 _ _ dJ),(128,38,7344,qB g)],calls:=tC [(128,12,1244,ab (br l)),(128,26,3318,ab (af l [45] f)),(128,26,5026,ab (af l [126] h2)),(128,26,6734,ab (af l [33] j)),(128,53,7710,ab (af l [116,114,117,101] m)),(128,59,7954,ab (af l [102,97,108,115,101] o)),(128,65,8198,ab (af l [114,101,97,100] q)),(128,75,8442,ab (af l [108,101,110] y)),(128,89,8686,ab (aZ l [40] v))],pans:=an Pg [(128,26,8808,⟨1,some (bh c),[]⟩)]} 1000
          ·intro _ H b h
           refine RC.bind (ihE 1 _ b) ?_ ?_
           ·exact fun _ _ _ c=>qX {hintB:=bk Pg [(128,21,2464, .call 89 _ _ cV),(128,21,4172, .call 89 _ _ df),(128,21,5880, .call 89 _ _ dJ),(128,38,7344,qB g)],calls:=tC [(128,12,1244,ab (br l)),(128,26,3318,ab (af l [45] f)),(128,26,5026,ab (af l [126] h2)),(128,26,6734,ab (af l [33] j)),(128,53,7710,ab (af l [116,114,117,101] m)),(128,59,7954,ab (af l [102,97,108,115,101] o)),(128,65,8198,ab (af l [114,101,97,100] q)),(128,75,8442,ab (af l [108,101,110] y)),(128,89,8686,ab (aZ l [40] v)),(128,91,8930,ab h)],pans:=an Pg [(128,27,8930,⟨1,some (bh c),[]⟩)]} 1000
           ·intro x Y C A
            obtain⟨J,F,w,I,K,u⟩:=x;refine RC.bind (cQ C a [41]) ?_ ?_
            ·exact fun _ _ _ c=>qX {hintB:=bk Pg [(128,21,2464, .call 89 _ _ cV),(128,21,4172, .call 89 _ _ df),(128,21,5880, .call 89 _ _ dJ),(128,38,7344,qB g)],calls:=tC [(128,12,1244,ab (br l)),(128,26,3318,ab (af l [45] f)),(128,26,5026,ab (af l [126] h2)),(128,26,6734,ab (af l [33] j)),(128,53,7710,ab (af l [116,114,117,101] m)),(128,59,7954,ab (af l [102,97,108,115,101] o)),(128,65,8198,ab (af l [114,101,97,100] q)),(128,75,8442,ab (af l [108,101,110] y)),(128,89,8686,ab (aZ l [40] v)),(128,91,8930,ab h),(128,93,9052,ab A)],pans:=an Pg [(128,28,9296,⟨1,some (bh c),[]⟩)]} 1000
            ·intro _ R B D
             exact⟨B,qN {hintB:=bk Pg [(128,21,2464, .call 89 _ _ cV),(128,21,4172, .call 89 _ _ df),(128,21,5880, .call 89 _ _ dJ),(128,38,7344,qB g)],calls:=tC [(128,12,1244,ab (br l)),(128,26,3318,ab (af l [45] f)),(128,26,5026,ab (af l [126] h2)),(128,26,6734,ab (af l [33] j)),(128,53,7710,ab (af l [116,114,117,101] m)),(128,59,7954,ab (af l [102,97,108,115,101] o)),(128,65,8198,ab (af l [114,101,97,100] q)),(128,75,8442,ab (af l [108,101,110] y)),(128,89,8686,ab (aZ l [40] v)),(128,91,8930,ab h),(128,93,9052,ab A),(128,95,9418,ab D)]} 1000⟩
         ·
          refine RC.bind (pB l a 1 (by decide)) ?_ ?_
          ·exact fun _ _ _ c=>qX {hintB:=bk Pg [(128,21,2464, .call 89 _ _ cV),(128,21,4172, .call 89 _ _ df),(128,21,5880, .call 89 _ _ dJ),(128,38,7344,qB g)],calls:=tC [(128,12,1244,ab (br l)),(128,26,3318,ab (af l [45] f)),(128,26,5026,ab (af l [126] h2)),(128,26,6734,ab (af l [33] j)),(128,53,7710,ab (af l [116,114,117,101] m)),(128,59,7954,ab (af l [102,97,108,115,101] o)),(128,65,8198,ab (af l [114,101,97,100] q)),(128,75,8442,ab (af l [108,101,110] y)),(128,89,8686,ab (aZ l [40] v))],pans:=an Pg [(128,30,8808,⟨1,some (bh c),[]⟩)]} 1000
          ·intro t H b h
           refine RC.ite (fun r=> ?_) (fun r=> ?_)
           ·
            refine RC.bind (U _ b) ?_ ?_
            ·exact fun _ _ _ c=>qX {hintB:=bk Pg [(128,21,2464, .call 89 _ _ cV),(128,21,4172, .call 89 _ _ df),(128,21,5880, .call 89 _ _ dJ),(128,38,7344,qB g)],calls:=tC [(128,12,1244,ab (br l)),(128,26,3318,ab (af l [45] f)),(128,26,5026,ab (af l [126] h2)),(128,26,6734,ab (af l [33] j)),(128,53,7710,ab (af l [116,114,117,101] m)),(128,59,7954,ab (af l [102,97,108,115,101] o)),(128,65,8198,ab (af l [114,101,97,100] q)),(128,75,8442,ab (af l [108,101,110] y)),(128,89,8686,ab (aZ l [40] v)),(128,98,8930,ab h),(128,102,9296,ab (aZ b [91] r))],pans:=an Pg [(128,32,9418,⟨4,some (bh c),[]⟩)]} 1000
            ·intro x R B D
             obtain⟨J,F,w,I,K,u⟩:=x;exact⟨B,qN {hintB:=bk Pg [(128,21,2464, .call 89 _ _ cV),(128,21,4172, .call 89 _ _ df),(128,21,5880, .call 89 _ _ dJ),(128,38,7344,qB g)],calls:=tC [(128,12,1244,ab (br l)),(128,26,3318,ab (af l [45] f)),(128,26,5026,ab (af l [126] h2)),(128,26,6734,ab (af l [33] j)),(128,53,7710,ab (af l [116,114,117,101] m)),(128,59,7954,ab (af l [102,97,108,115,101] o)),(128,65,8198,ab (af l [114,101,97,100] q)),(128,75,8442,ab (af l [108,101,110] y)),(128,89,8686,ab (aZ l [40] v)),(128,98,8930,ab h),(128,102,9296,ab (aZ b [91] r)),(128,107,9906,ab D)]} 1000⟩
           ·
            refine RC.ite (fun z=> ?_) (fun z=> ?_)
            ·
             refine RC.bind (Z t.t (aD L s).p _ b) ?_ ?_
             ·exact fun _ _ _ c=>qX {hintB:=bk Pg [(128,21,2464, .call 89 _ _ cV),(128,21,4172, .call 89 _ _ df),(128,21,5880, .call 89 _ _ dJ),(128,38,7344,qB g)],calls:=tC [(128,12,1244,ab (br l)),(128,26,3318,ab (af l [45] f)),(128,26,5026,ab (af l [126] h2)),(128,26,6734,ab (af l [33] j)),(128,53,7710,ab (af l [116,114,117,101] m)),(128,59,7954,ab (af l [102,97,108,115,101] o)),(128,65,8198,ab (af l [114,101,97,100] q)),(128,75,8442,ab (af l [108,101,110] y)),(128,89,8686,ab (aZ l [40] v)),(128,98,8930,ab h),(128,102,9296,ab (aZ b [91] r)),(128,112,9540,ab (aZ b [40] z))],pans:=an Pg [(128,34,9662,⟨4,some (bh c),[]⟩)]} 1000
             ·intro x s13 P c13
              obtain⟨J,F,w,I,K,u⟩:=x;exact⟨P,qN {hintB:=bk Pg [(128,21,2464, .call 89 _ _ cV),(128,21,4172, .call 89 _ _ df),(128,21,5880, .call 89 _ _ dJ),(128,38,7344,qB g)],calls:=tC [(128,12,1244,ab (br l)),(128,26,3318,ab (af l [45] f)),(128,26,5026,ab (af l [126] h2)),(128,26,6734,ab (af l [33] j)),(128,53,7710,ab (af l [116,114,117,101] m)),(128,59,7954,ab (af l [102,97,108,115,101] o)),(128,65,8198,ab (af l [114,101,97,100] q)),(128,75,8442,ab (af l [108,101,110] y)),(128,89,8686,ab (aZ l [40] v)),(128,98,8930,ab h),(128,102,9296,ab (aZ b [91] r)),(128,112,9540,ab (aZ b [40] z)),(128,117,10150,ab c13)]} 1000⟩
            ·
             exact⟨b,qN {hintB:=bk Pg [(128,21,2464, .call 89 _ _ cV),(128,21,4172, .call 89 _ _ df),(128,21,5880, .call 89 _ _ dJ),(128,38,7344,qB g)],calls:=tC [(128,12,1244,ab (br l)),(128,26,3318,ab (af l [45] f)),(128,26,5026,ab (af l [126] h2)),(128,26,6734,ab (af l [33] j)),(128,53,7710,ab (af l [116,114,117,101] m)),(128,59,7954,ab (af l [102,97,108,115,101] o)),(128,65,8198,ab (af l [114,101,97,100] q)),(128,75,8442,ab (af l [108,101,110] y)),(128,89,8686,ab (aZ l [40] v)),(128,98,8930,ab h),(128,102,9296,ab (aZ b [91] r)),(128,112,9540,ab (aZ b [40] z))]} 1000⟩
theorem Fg(n:Nat)(b:∀(k:Int)(s:RS),s.i<L.length→RC L 100 [rP,dI k] (fun e=>[ez e]) s (aQ L n k s))(s:RS)(l:s.i<L.length):RC L 131 [rP] (fun e=>[ez e]) s (ch L (n+1) s):=by
 simp only[ch];refine RC.bind (cQ l a [91]) ?_ ?_
 ·exact fun _ _ _ c=>qX {pans:=an Pg [(131,1,1011,⟨1,some (bh c),[]⟩)]} 1000
 ·intro _ q h c1
  refine RC.bind (b 1 _ h) ?_ ?_
  ·exact fun _ _ _ c=>qX {calls:=tC [(131,5,1022,ab c1)],pans:=an Pg [(131,2,1022,⟨1,some (bh c),[]⟩)]} 1000
  ·intro x t g d
   obtain⟨p,r,o,w,v,f⟩:=x;refine RC.bind (cQ g a [93]) ?_ ?_
   ·exact fun _ _ _ c=>qX {calls:=tC [(131,5,1022,ab c1),(131,7,1033,ab d)],pans:=an Pg [(131,3,1055,⟨1,some (bh c),[]⟩)]} 1000
   ·intro _ u m j
    exact⟨m,qN {calls:=tC [(131,5,1022,ab c1),(131,7,1033,ab d),(131,9,1066,ab j)]} 1000⟩
end
end Go.Avm
namespace Go.Avm
open Go.Proofs
def u8(n:Int):AV:= .d (.int .u8 n)
def t8(r:Int×Int):aA×List (Nat×AV):=bif r.1==0 then (.exit 0,[])else (.ret,[(4,u8 r.1),(5,dI r.2)])
def Ad(least o:Int):List (Nat×AV):=[(0,rP),(1,dI least),(6,u8 o)]
def UW(L:List T)(s:RS)(least o:Int)(e:aA)(l':List (Nat×AV)):Prop:=RE 28 (lO 129 2) (Ad least o) (rd L s) e l' (rd L s)
def H0(L:List T)(s:RS)(least:Int)(o:Int)(r:Int×Int):Prop:=RL 28 (lO 129 2) (Ad least o) (rd L s) ((t8 r).1) ((t8 r).2) (rd L s)
theorem de{L:List T}{s:RS}{least o e k:Int}{x:List UInt8}{R:List (Int×List UInt8×Int)}(h:(o==0)=false)(g:decide (k≥least)=false→UW L s least o .normal (Ad least e))
    (hB:decide (k≥least)=true→isT L s x=false→UW L s least o .normal (Ad least e)) (i:decide (k≥least)=true→isT L s x=true→UW L s least o .ret [(4,u8 o),(5,dI k)])
    (f:H0 L s least e (d9 L s least R)):H0 L s least o (d9 L s least ((o,x,k)::R)):=fun a X c b=>by
 simp only[d9];cases d:decide (k≥least)with
 |false=>exact aR (g d a X c b) (f a X c b)
 |true=>cases h2:isT L s x with
  |false=>exact aR (hB d h2 a X c b) (f a X c b)
  |true=>
   have:t8 (o,k)=(.ret,[(4,u8 o),(5,dI k)]):=by simp only[t8,h,xI]
   simp only[Bool.and_true,xR,this];exact aU (i d h2 a X c b) (by simp)
section
variable{L:List T}{s:RS}(a:s.i<L.length)(least:Int)
include a
theorem SI:UW L s least 19 (.exit 0) []:=
 fun b X c d=>(qE {} 129 1000:RE 28 (lO 129 2) [(0,rP),(1,dI least),(6,u8 19)] (rd L s) (.exit 0) [] (rd L s)) b X c d
theorem VK:H0 L s least 19 (0,0):=fun b X c d=>aU (SI a least b X c d) (by simp[t8])
theorem VL(h:decide ((9:Int)≥least)=false):RE 28 (lO 129 2) [(0,rP),(1,dI least),(6,u8 1)] (rd L s) .normal [(0,rP),(1,dI least),(6,u8 2)] (rd L s):=
 qE {hint:=qT 129 [(15, .call 89 _ _ Lo),(20,qB h)]} 129 1000
theorem VM(h:decide ((9:Int)≥least)=true)(h2:isT L s [43]=false):RE 28 (lO 129 2) [(0,rP),(1,dI least),(6,u8 1)] (rd L s) .normal [(0,rP),(1,dI least),(6,u8 2)] (rd L s):=
 qE {hint:=qT 129 [(15, .call 89 _ _ Lo),(20,qB h)],calls:=tC [(129,24,1392,ab (aZ a [43] h2))]} 129 1000
theorem VN(h:decide ((9:Int)≥least)=true)(h2:isT L s [43]=true):RE 28 (lO 129 2) [(0,rP),(1,dI least),(6,u8 1)] (rd L s) .ret [(4,u8 1),(5,dI 9)] (rd L s):=
 qE {hint:=qT 129 [(15, .call 89 _ _ Lo),(20,qB h)],calls:=tC [(129,24,1392,ab (aZ a [43] h2))]} 129 1000
theorem VO(h:decide ((9:Int)≥least)=false):RE 28 (lO 129 2) [(0,rP),(1,dI least),(6,u8 2)] (rd L s) .normal [(0,rP),(1,dI least),(6,u8 3)] (rd L s):=
 qE {hint:=qT 129 [(15, .call 89 _ _ Lp),(20,qB h)]} 129 1000
theorem VP(h:decide ((9:Int)≥least)=true)(h2:isT L s [45]=false):RE 28 (lO 129 2) [(0,rP),(1,dI least),(6,u8 2)] (rd L s) .normal [(0,rP),(1,dI least),(6,u8 3)] (rd L s):=
 qE {hint:=qT 129 [(15, .call 89 _ _ Lp),(20,qB h)],calls:=tC [(129,24,1392,ab (aZ a [45] h2))]} 129 1000
theorem VQ(h:decide ((9:Int)≥least)=true)(h2:isT L s [45]=true):RE 28 (lO 129 2) [(0,rP),(1,dI least),(6,u8 2)] (rd L s) .ret [(4,u8 2),(5,dI 9)] (rd L s):=
 qE {hint:=qT 129 [(15, .call 89 _ _ Lp),(20,qB h)],calls:=tC [(129,24,1392,ab (aZ a [45] h2))]} 129 1000
theorem VR(h:decide ((10:Int)≥least)=false):RE 28 (lO 129 2) [(0,rP),(1,dI least),(6,u8 3)] (rd L s) .normal [(0,rP),(1,dI least),(6,u8 4)] (rd L s):=
 qE {hint:=qT 129 [(15, .call 89 _ _ Lq),(20,qB h)]} 129 1000
theorem VS(h:decide ((10:Int)≥least)=true)(h2:isT L s [42]=false):RE 28 (lO 129 2) [(0,rP),(1,dI least),(6,u8 3)] (rd L s) .normal [(0,rP),(1,dI least),(6,u8 4)] (rd L s):=
 qE {hint:=qT 129 [(15, .call 89 _ _ Lq),(20,qB h)],calls:=tC [(129,24,1392,ab (aZ a [42] h2))]} 129 1000
theorem VT(h:decide ((10:Int)≥least)=true)(h2:isT L s [42]=true):RE 28 (lO 129 2) [(0,rP),(1,dI least),(6,u8 3)] (rd L s) .ret [(4,u8 3),(5,dI 10)] (rd L s):=
 qE {hint:=qT 129 [(15, .call 89 _ _ Lq),(20,qB h)],calls:=tC [(129,24,1392,ab (aZ a [42] h2))]} 129 1000
theorem VU(h:decide ((10:Int)≥least)=false):RE 28 (lO 129 2) [(0,rP),(1,dI least),(6,u8 4)] (rd L s) .normal [(0,rP),(1,dI least),(6,u8 5)] (rd L s):=
 qE {hint:=qT 129 [(15, .call 89 _ _ Lr),(20,qB h)]} 129 1000
theorem VV(h:decide ((10:Int)≥least)=true)(h2:isT L s [47]=false):RE 28 (lO 129 2) [(0,rP),(1,dI least),(6,u8 4)] (rd L s) .normal [(0,rP),(1,dI least),(6,u8 5)] (rd L s):=
 qE {hint:=qT 129 [(15, .call 89 _ _ Lr),(20,qB h)],calls:=tC [(129,24,1392,ab (aZ a [47] h2))]} 129 1000
theorem VW(h:decide ((10:Int)≥least)=true)(h2:isT L s [47]=true):RE 28 (lO 129 2) [(0,rP),(1,dI least),(6,u8 4)] (rd L s) .ret [(4,u8 4),(5,dI 10)] (rd L s):=
 qE {hint:=qT 129 [(15, .call 89 _ _ Lr),(20,qB h)],calls:=tC [(129,24,1392,ab (aZ a [47] h2))]} 129 1000
theorem VX(h:decide ((10:Int)≥least)=false):RE 28 (lO 129 2) [(0,rP),(1,dI least),(6,u8 5)] (rd L s) .normal [(0,rP),(1,dI least),(6,u8 6)] (rd L s):=
 qE {hint:=qT 129 [(15, .call 89 _ _ Ls),(20,qB h)]} 129 1000
theorem VY(h:decide ((10:Int)≥least)=true)(h2:isT L s [37]=false):RE 28 (lO 129 2) [(0,rP),(1,dI least),(6,u8 5)] (rd L s) .normal [(0,rP),(1,dI least),(6,u8 6)] (rd L s):=
 qE {hint:=qT 129 [(15, .call 89 _ _ Ls),(20,qB h)],calls:=tC [(129,24,1392,ab (aZ a [37] h2))]} 129 1000
theorem VZ(h:decide ((10:Int)≥least)=true)(h2:isT L s [37]=true):RE 28 (lO 129 2) [(0,rP),(1,dI least),(6,u8 5)] (rd L s) .ret [(4,u8 5),(5,dI 10)] (rd L s):=
 qE {hint:=qT 129 [(15, .call 89 _ _ Ls),(20,qB h)],calls:=tC [(129,24,1392,ab (aZ a [37] h2))]} 129 1000
theorem V0(h:decide ((7:Int)≥least)=false):RE 28 (lO 129 2) [(0,rP),(1,dI least),(6,u8 6)] (rd L s) .normal [(0,rP),(1,dI least),(6,u8 7)] (rd L s):=
 qE {hint:=qT 129 [(15, .call 89 _ _ Lt),(20,qB h)]} 129 1000
theorem V1(h:decide ((7:Int)≥least)=true)(h2:isT L s [38]=false):RE 28 (lO 129 2) [(0,rP),(1,dI least),(6,u8 6)] (rd L s) .normal [(0,rP),(1,dI least),(6,u8 7)] (rd L s):=
 qE {hint:=qT 129 [(15, .call 89 _ _ Lt),(20,qB h)],calls:=tC [(129,24,1392,ab (aZ a [38] h2))]} 129 1000
theorem V2(h:decide ((7:Int)≥least)=true)(h2:isT L s [38]=true):RE 28 (lO 129 2) [(0,rP),(1,dI least),(6,u8 6)] (rd L s) .ret [(4,u8 6),(5,dI 7)] (rd L s):=
 qE {hint:=qT 129 [(15, .call 89 _ _ Lt),(20,qB h)],calls:=tC [(129,24,1392,ab (aZ a [38] h2))]} 129 1000
theorem V3(h:decide ((5:Int)≥least)=false):RE 28 (lO 129 2) [(0,rP),(1,dI least),(6,u8 7)] (rd L s) .normal [(0,rP),(1,dI least),(6,u8 8)] (rd L s):=
 qE {hint:=qT 129 [(15, .call 89 _ _ Lu),(20,qB h)]} 129 1000
theorem V4(h:decide ((5:Int)≥least)=true)(h2:isT L s [124]=false):RE 28 (lO 129 2) [(0,rP),(1,dI least),(6,u8 7)] (rd L s) .normal [(0,rP),(1,dI least),(6,u8 8)] (rd L s):=
 qE {hint:=qT 129 [(15, .call 89 _ _ Lu),(20,qB h)],calls:=tC [(129,24,1392,ab (aZ a [124] h2))]} 129 1000
theorem V5(h:decide ((5:Int)≥least)=true)(h2:isT L s [124]=true):RE 28 (lO 129 2) [(0,rP),(1,dI least),(6,u8 7)] (rd L s) .ret [(4,u8 7),(5,dI 5)] (rd L s):=
 qE {hint:=qT 129 [(15, .call 89 _ _ Lu),(20,qB h)],calls:=tC [(129,24,1392,ab (aZ a [124] h2))]} 129 1000
theorem V6(h:decide ((6:Int)≥least)=false):RE 28 (lO 129 2) [(0,rP),(1,dI least),(6,u8 8)] (rd L s) .normal [(0,rP),(1,dI least),(6,u8 9)] (rd L s):=
 qE {hint:=qT 129 [(15, .call 89 _ _ Lv),(20,qB h)]} 129 1000
theorem V7(h:decide ((6:Int)≥least)=true)(h2:isT L s [94]=false):RE 28 (lO 129 2) [(0,rP),(1,dI least),(6,u8 8)] (rd L s) .normal [(0,rP),(1,dI least),(6,u8 9)] (rd L s):=
 qE {hint:=qT 129 [(15, .call 89 _ _ Lv),(20,qB h)],calls:=tC [(129,24,1392,ab (aZ a [94] h2))]} 129 1000
theorem V8(h:decide ((6:Int)≥least)=true)(h2:isT L s [94]=true):RE 28 (lO 129 2) [(0,rP),(1,dI least),(6,u8 8)] (rd L s) .ret [(4,u8 8),(5,dI 6)] (rd L s):=
 qE {hint:=qT 129 [(15, .call 89 _ _ Lv),(20,qB h)],calls:=tC [(129,24,1392,ab (aZ a [94] h2))]} 129 1000
theorem V9(h:decide ((8:Int)≥least)=false):RE 28 (lO 129 2) [(0,rP),(1,dI least),(6,u8 9)] (rd L s) .normal [(0,rP),(1,dI least),(6,u8 10)] (rd L s):=
 qE {hint:=qT 129 [(15, .call 89 _ _ Lw),(20,qB h)]} 129 1000
theorem Wa(h:decide ((8:Int)≥least)=true)(h2:isT L s [60,60]=false):RE 28 (lO 129 2) [(0,rP),(1,dI least),(6,u8 9)] (rd L s) .normal [(0,rP),(1,dI least),(6,u8 10)] (rd L s):=
 qE {hint:=qT 129 [(15, .call 89 _ _ Lw),(20,qB h)],calls:=tC [(129,24,1392,ab (aZ a [60,60] h2))]} 129 1000
theorem Wb(h:decide ((8:Int)≥least)=true)(h2:isT L s [60,60]=true):RE 28 (lO 129 2) [(0,rP),(1,dI least),(6,u8 9)] (rd L s) .ret [(4,u8 9),(5,dI 8)] (rd L s):=
 qE {hint:=qT 129 [(15, .call 89 _ _ Lw),(20,qB h)],calls:=tC [(129,24,1392,ab (aZ a [60,60] h2))]} 129 1000
theorem SJ(h:decide ((8:Int)≥least)=false):RE 28 (lO 129 2) [(0,rP),(1,dI least),(6,u8 10)] (rd L s) .normal [(0,rP),(1,dI least),(6,u8 11)] (rd L s):=
 qE {hint:=qT 129 [(15, .call 89 _ _ Dz),(20,qB h)]} 129 1000
theorem SK(h:decide ((8:Int)≥least)=true)(h2:isT L s [62,62]=false):RE 28 (lO 129 2) [(0,rP),(1,dI least),(6,u8 10)] (rd L s) .normal [(0,rP),(1,dI least),(6,u8 11)] (rd L s):=
 qE {hint:=qT 129 [(15, .call 89 _ _ Dz),(20,qB h)],calls:=tC [(129,24,1392,ab (aZ a [62,62] h2))]} 129 1000
theorem SL(h:decide ((8:Int)≥least)=true)(h2:isT L s [62,62]=true):RE 28 (lO 129 2) [(0,rP),(1,dI least),(6,u8 10)] (rd L s) .ret [(4,u8 10),(5,dI 8)] (rd L s):=
 qE {hint:=qT 129 [(15, .call 89 _ _ Dz),(20,qB h)],calls:=tC [(129,24,1392,ab (aZ a [62,62] h2))]} 129 1000
theorem SM(h:decide ((4:Int)≥least)=false):RE 28 (lO 129 2) [(0,rP),(1,dI least),(6,u8 11)] (rd L s) .normal [(0,rP),(1,dI least),(6,u8 12)] (rd L s):=
 qE {hint:=qT 129 [(15, .call 89 _ _ DA),(20,qB h)]} 129 1000
theorem SN(h:decide ((4:Int)≥least)=true)(h2:isT L s [60]=false):RE 28 (lO 129 2) [(0,rP),(1,dI least),(6,u8 11)] (rd L s) .normal [(0,rP),(1,dI least),(6,u8 12)] (rd L s):=
 qE {hint:=qT 129 [(15, .call 89 _ _ DA),(20,qB h)],calls:=tC [(129,24,1392,ab (aZ a [60] h2))]} 129 1000
theorem SO(h:decide ((4:Int)≥least)=true)(h2:isT L s [60]=true):RE 28 (lO 129 2) [(0,rP),(1,dI least),(6,u8 11)] (rd L s) .ret [(4,u8 11),(5,dI 4)] (rd L s):=
 qE {hint:=qT 129 [(15, .call 89 _ _ DA),(20,qB h)],calls:=tC [(129,24,1392,ab (aZ a [60] h2))]} 129 1000
theorem SP(h:decide ((4:Int)≥least)=false):RE 28 (lO 129 2) [(0,rP),(1,dI least),(6,u8 12)] (rd L s) .normal [(0,rP),(1,dI least),(6,u8 13)] (rd L s):=
 qE {hint:=qT 129 [(15, .call 89 _ _ DB),(20,qB h)]} 129 1000
theorem SQ(h:decide ((4:Int)≥least)=true)(h2:isT L s [60,61]=false):RE 28 (lO 129 2) [(0,rP),(1,dI least),(6,u8 12)] (rd L s) .normal [(0,rP),(1,dI least),(6,u8 13)] (rd L s):=
 qE {hint:=qT 129 [(15, .call 89 _ _ DB),(20,qB h)],calls:=tC [(129,24,1392,ab (aZ a [60,61] h2))]} 129 1000
theorem SR(h:decide ((4:Int)≥least)=true)(h2:isT L s [60,61]=true):RE 28 (lO 129 2) [(0,rP),(1,dI least),(6,u8 12)] (rd L s) .ret [(4,u8 12),(5,dI 4)] (rd L s):=
 qE {hint:=qT 129 [(15, .call 89 _ _ DB),(20,qB h)],calls:=tC [(129,24,1392,ab (aZ a [60,61] h2))]} 129 1000
theorem SS(h:decide ((4:Int)≥least)=false):RE 28 (lO 129 2) [(0,rP),(1,dI least),(6,u8 13)] (rd L s) .normal [(0,rP),(1,dI least),(6,u8 14)] (rd L s):=
 qE {hint:=qT 129 [(15, .call 89 _ _ DC),(20,qB h)]} 129 1000
theorem ST(h:decide ((4:Int)≥least)=true)(h2:isT L s [62]=false):RE 28 (lO 129 2) [(0,rP),(1,dI least),(6,u8 13)] (rd L s) .normal [(0,rP),(1,dI least),(6,u8 14)] (rd L s):=
 qE {hint:=qT 129 [(15, .call 89 _ _ DC),(20,qB h)],calls:=tC [(129,24,1392,ab (aZ a [62] h2))]} 129 1000
theorem SU(h:decide ((4:Int)≥least)=true)(h2:isT L s [62]=true):RE 28 (lO 129 2) [(0,rP),(1,dI least),(6,u8 13)] (rd L s) .ret [(4,u8 13),(5,dI 4)] (rd L s):=
 qE {hint:=qT 129 [(15, .call 89 _ _ DC),(20,qB h)],calls:=tC [(129,24,1392,ab (aZ a [62] h2))]} 129 1000
theorem SV(h:decide ((4:Int)≥least)=false):RE 28 (lO 129 2) [(0,rP),(1,dI least),(6,u8 14)] (rd L s) .normal [(0,rP),(1,dI least),(6,u8 15)] (rd L s):=
 qE {hint:=qT 129 [(15, .call 89 _ _ DD),(20,qB h)]} 129 1000
theorem SW(h:decide ((4:Int)≥least)=true)(h2:isT L s [62,61]=false):RE 28 (lO 129 2) [(0,rP),(1,dI least),(6,u8 14)] (rd L s) .normal [(0,rP),(1,dI least),(6,u8 15)] (rd L s):=
 qE {hint:=qT 129 [(15, .call 89 _ _ DD),(20,qB h)],calls:=tC [(129,24,1392,ab (aZ a [62,61] h2))]} 129 1000
theorem SX(h:decide ((4:Int)≥least)=true)(h2:isT L s [62,61]=true):RE 28 (lO 129 2) [(0,rP),(1,dI least),(6,u8 14)] (rd L s) .ret [(4,u8 14),(5,dI 4)] (rd L s):=
 qE {hint:=qT 129 [(15, .call 89 _ _ DD),(20,qB h)],calls:=tC [(129,24,1392,ab (aZ a [62,61] h2))]} 129 1000
theorem SY(h:decide ((3:Int)≥least)=false):RE 28 (lO 129 2) [(0,rP),(1,dI least),(6,u8 15)] (rd L s) .normal [(0,rP),(1,dI least),(6,u8 16)] (rd L s):=
 qE {hint:=qT 129 [(15, .call 89 _ _ DE),(20,qB h)]} 129 1000
theorem SZ(h:decide ((3:Int)≥least)=true)(h2:isT L s [61,61]=false):RE 28 (lO 129 2) [(0,rP),(1,dI least),(6,u8 15)] (rd L s) .normal [(0,rP),(1,dI least),(6,u8 16)] (rd L s):=
 qE {hint:=qT 129 [(15, .call 89 _ _ DE),(20,qB h)],calls:=tC [(129,24,1392,ab (aZ a [61,61] h2))]} 129 1000
theorem S0(h:decide ((3:Int)≥least)=true)(h2:isT L s [61,61]=true):RE 28 (lO 129 2) [(0,rP),(1,dI least),(6,u8 15)] (rd L s) .ret [(4,u8 15),(5,dI 3)] (rd L s):=
 qE {hint:=qT 129 [(15, .call 89 _ _ DE),(20,qB h)],calls:=tC [(129,24,1392,ab (aZ a [61,61] h2))]} 129 1000
theorem S5(h:decide ((3:Int)≥least)=false):RE 28 (lO 129 2) [(0,rP),(1,dI least),(6,u8 16)] (rd L s) .normal [(0,rP),(1,dI least),(6,u8 17)] (rd L s):=
 qE {hint:=qT 129 [(15, .call 89 _ _ DF),(20,qB h)]} 129 1000
theorem S6(h:decide ((3:Int)≥least)=true)(h2:isT L s [33,61]=false):RE 28 (lO 129 2) [(0,rP),(1,dI least),(6,u8 16)] (rd L s) .normal [(0,rP),(1,dI least),(6,u8 17)] (rd L s):=
 qE {hint:=qT 129 [(15, .call 89 _ _ DF),(20,qB h)],calls:=tC [(129,24,1392,ab (aZ a [33,61] h2))]} 129 1000
theorem S7(h:decide ((3:Int)≥least)=true)(h2:isT L s [33,61]=true):RE 28 (lO 129 2) [(0,rP),(1,dI least),(6,u8 16)] (rd L s) .ret [(4,u8 16),(5,dI 3)] (rd L s):=
 qE {hint:=qT 129 [(15, .call 89 _ _ DF),(20,qB h)],calls:=tC [(129,24,1392,ab (aZ a [33,61] h2))]} 129 1000
theorem S8(h:decide ((2:Int)≥least)=false):RE 28 (lO 129 2) [(0,rP),(1,dI least),(6,u8 17)] (rd L s) .normal [(0,rP),(1,dI least),(6,u8 18)] (rd L s):=
 qE {hint:=qT 129 [(15, .call 89 _ _ DG),(20,qB h)]} 129 1000
theorem S9(h:decide ((2:Int)≥least)=true)(h2:isT L s [38,38]=false):RE 28 (lO 129 2) [(0,rP),(1,dI least),(6,u8 17)] (rd L s) .normal [(0,rP),(1,dI least),(6,u8 18)] (rd L s):=
 qE {hint:=qT 129 [(15, .call 89 _ _ DG),(20,qB h)],calls:=tC [(129,24,1392,ab (aZ a [38,38] h2))]} 129 1000
theorem Ta(h:decide ((2:Int)≥least)=true)(h2:isT L s [38,38]=true):RE 28 (lO 129 2) [(0,rP),(1,dI least),(6,u8 17)] (rd L s) .ret [(4,u8 17),(5,dI 2)] (rd L s):=
 qE {hint:=qT 129 [(15, .call 89 _ _ DG),(20,qB h)],calls:=tC [(129,24,1392,ab (aZ a [38,38] h2))]} 129 1000
theorem Tb(h:decide ((1:Int)≥least)=false):RE 28 (lO 129 2) [(0,rP),(1,dI least),(6,u8 18)] (rd L s) .normal [(0,rP),(1,dI least),(6,u8 19)] (rd L s):=
 qE {hint:=qT 129 [(15, .call 89 _ _ DH),(20,qB h)]} 129 1000
theorem Tc(h:decide ((1:Int)≥least)=true)(h2:isT L s [124,124]=false):RE 28 (lO 129 2) [(0,rP),(1,dI least),(6,u8 18)] (rd L s) .normal [(0,rP),(1,dI least),(6,u8 19)] (rd L s):=
 qE {hint:=qT 129 [(15, .call 89 _ _ DH),(20,qB h)],calls:=tC [(129,24,1392,ab (aZ a [124,124] h2))]} 129 1000
theorem Td(h:decide ((1:Int)≥least)=true)(h2:isT L s [124,124]=true):RE 28 (lO 129 2) [(0,rP),(1,dI least),(6,u8 18)] (rd L s) .ret [(4,u8 18),(5,dI 1)] (rd L s):=
 qE {hint:=qT 129 [(15, .call 89 _ _ DH),(20,qB h)],calls:=tC [(129,24,1392,ab (aZ a [124,124] h2))]} 129 1000
theorem Wc:H0 L s least 1 (ce L least s):=
 de (by decide) (VL a least) (VM a least) (VN a least) (de (by decide) (VO a least) (VP a least) (VQ a least) (de (by decide) (VR a least) (VS a least) (VT a least) (de (by decide) (VU a least) (VV a least) (VW a least) (de (by decide) (VX a least) (VY a least) (VZ a least) (de (by decide) (V0 a least) (V1 a least) (V2 a least) (de (by decide) (V3 a least) (V4 a least) (V5 a least) (de (by decide) (V6 a least) (V7 a least) (V8 a least) (de (by decide) (V9 a least) (Wa a least) (Wb a least) (de (by decide) (SJ a least) (SK a least) (SL a least) (de (by decide) (SM a least) (SN a least) (SO a least) (de (by decide) (SP a least) (SQ a least) (SR a least) (de (by decide) (SS a least) (ST a least) (SU a least) (de (by decide) (SV a least) (SW a least) (SX a least) (de (by decide) (SY a least) (SZ a least) (S0 a least) (de (by decide) (S5 a least) (S6 a least) (S7 a least) (de (by decide) (S8 a least) (S9 a least) (Ta a least) (de (by decide) (Tb a least) (Tc a least) (Td a least) (VK a least))))))))))))))))))
noncomputable def Te{e:aA}{l':List (Nat×AV)}(h:RL 28 (lO 129 2) (Ad least 1) (rd L s) e l' (rd L s)):dy Pg:=
 ⟨28,bG Pg 129 2,Ad least 1,fun _=>rd L s,e,l',fun _=>rd L s,fun b X c d=>(h b X c d).aw⟩
theorem Tf(h:RL 28 (lO 129 2) (Ad least 1) (rd L s) (.exit 0) [] (rd L s)):HC 129 [rP,dI least] (rd L s) [.int .u8 0, .int .i64 0] (rd L s):=
 qN ({loops:=fun f q=>if f=129 then (if q=2 then some (Te least h)else none)else none}) 1000
theorem Tg(o k:Int)(h:RL 28 (lO 129 2) (Ad least 1) (rd L s) .ret [(4,u8 o),(5,dI k)] (rd L s)):HC 129 [rP,dI least] (rd L s) [.int .u8 o, .int .i64 k] (rd L s):=
 qN ({loops:=fun f q=>if f=129 then (if q=2 then some (Te least h)else none)else none}) 1000
theorem pD:∀l:List (Int×List UInt8×Int),(d9 L s least l).1=0→(∀p∈l,p.1≠0)→d9 L s least l=(0,0)
 |[],_,_=>rfl
 |(o,x,k)::r,h,b=>by
  simp only[d9]at h ⊢;cases c:(decide (least≤k)&&isT L s x)with
  |true=>rw[c]at h;exact absurd h (b (o,x,k) (by simp))
  |false=>rw[c]at h;exact pD r h fun p hp=>b p (by simp[hp])
theorem H1:HC 129 [rP,dI least] (rd L s) [.int .u8 (ce L least s).1, .int .i64 (ce L least s).2] (rd L s):=by
 have h:=Wc a least;unfold H0 t8 at h;cases b:((ce L least s).1==0)with
 |true=>
  rw[b]at h;have c:ce L least s=(0,0):=pD a least au (eq_of_beq b) (by decide);rw[c];exact Tf a least h
 |false=>
  rw[b]at h;exact Tg a least _ _ h
theorem oS(b:dM L):∀l:List (Int×List UInt8×Int),(d9 L s least l).1≠0→s.i+1<L.length
 |[],h=>by simp[d9]at h
 |(o,x,k)::r,h=>by
  simp only[d9]at h;cases c:(decide (least≤k)&&isT L s x)with
  |true=>exact vy b a (xL .. ▸c).2
  |false=>rw[c]at h;exact oS b r h
end
end Go.Avm
namespace Go.Avm
open Go.Proofs
def YH:Ex→List AV
 | .mk k o nm n p xs=>[u8 k,u8 o, .d (.str nm),dI n,dI p, .d (.ro (gZ xs))]
def X1(K:Nat)(e:Ex):Nat×aK:=(K,⟨1,some (.arr 1 (YH e))⟩)
def YI(K:Nat):Nat×aK:=(K,⟨1,some (.arr 1 [u8 0,u8 0, .d (.str []),dI 0,dI 0, .nils])⟩)
def pC(K:Nat):AV:= .ptr K 1 0 0 1
def J7(least:Int):List (Nat×AV):=[(0,rP),(1,dI least),(4,pC 1004),(5,pC 1083)]
def J8(L:List T)(s:RS)(e:Ex):List (Nat×aK):=rd L s ++[YI 1004,X1 1083 e]
def Wd(L:List T)(s:RS)(e:Ex):List (Nat×aK):=rd L s ++[X1 1004 e,(1083,⟨1,none⟩)]
def We(L:List T)(s:RS):List (Nat×aK):=rd L s ++[(1004,⟨1,none⟩),(1083,⟨1,none⟩)]
def Lz(L:List T)(least:Int)(s:RS)(e:Ex):Res Ex→Prop
 | .ok a b=>b.i<L.length∧RL 39 (lO 100 2) (J7 least) (J8 L s e) .ret [(4,pC 1004)] (Wd L b a)
 | .bad p q b=>RL 39 (lO 100 2) (J7 least) (J8 L s e) (.panic (dL p q)) [] (We L b)
 | .out=>True
section
variable{L:List T}(a:dM L){s:RS}(l:s.i<L.length)(least:Int)(k o:Int)(nm:List UInt8)(n p:Int)(xs:List Ex)
include l a
theorem PO(h:((ce L least s).1==0)=true):RE 39 (lO 100 2) (J7 least) (J8 L s (.mk k o nm n p xs)) .ret [(4,pC 1004)] (Wd L s (.mk k o nm n p xs)):=
 qE {hint:=qT 100 [(18,qB h)],calls:=tC [(100,14,2078,ab (H1 l least))]} 100 2000
theorem Th(h:((ce L least s).1==0)=false)(q r:Int)(b:RS)(c:HX 100 [rP,dI (b5 ((ce L least s).2+1))] (rd L s.nx) (dL q r) (rd L b)):
    RE 39 (lO 100 2) (J7 least) (J8 L s (.mk k o nm n p xs)) (.panic (dL q r)) [] (We L b):=
 qE {hint:=qT 100 [(18,qB h),(27,cy Pg s.i (by have:=a.len;omega))],calls:=tC [(100,14,2078,ab (H1 l least)),(100,21,2390,ab (br l))],pans:=an Pg [(100,7,2780,⟨6,some (bh c),[]⟩)]} 100 2000
theorem Ti(h:((ce L least s).1==0)=false)(g d:Int)(b:List UInt8)(j e:Int)(cz:List Ex)(f:RS)(c:HC 100 [rP,dI (b5 ((ce L least s).2+1))] (rd L s.nx) [ez (.mk g d b j e cz)] (rd L f)):
    RE 39 (lO 100 2) (J7 least) (J8 L s (.mk k o nm n p xs)) .normal (J7 least) (J8 L f (.mk 9 (ce L least s).1 [] 0 (aD L s).p [.mk k o nm n p xs, .mk g d b j e cz])):=
 lY bv named {hint:=qT 100 [(18,qB h),(27,cy Pg s.i (by have:=a.len;omega))],calls:=tC [(100,14,2078,ab (H1 l least)),(100,21,2390,ab (br l)),(100,36,3014,ab c)]} 2000 100 2000 39 1000000 ([(1083,5)]) ⟨rfl,rfl,rfl,by kernel_rfl,by kernel_rfl,by kernel_rfl⟩ (by kernel_rfl) (by kernel_rfl) (fun _=>by kernel_rfl)
end
noncomputable def Tj{L:List T}{least:Int}{s:RS}{e:Ex}{b:List (Nat×aK)}{x:aA}{l':List (Nat×AV)}(h:RL 39 (lO 100 2) (J7 least) (J8 L s e) x l' b):dy Pg:=
 ⟨39,bG Pg 100 2,J7 least,fun _=>J8 L s e,x,l',fun _=>b,fun a X c d=>(h a X c d).aw⟩
theorem PQ{L:List T}{least:Int}{s e i:RS}{k o:Int}{nm:List UInt8}{n p:Int}{xs:List Ex}{j d:Int}{a:List UInt8}{b g:Int}{cz:List Ex}
    (c:HC 128 [rP] (rd L s) [ez (.mk k o nm n p xs)] (rd L e))
    (h:RL 39 (lO 100 2) (J7 least) (J8 L e (.mk k o nm n p xs)) .ret [(4,pC 1004)] (Wd L i (.mk j d a b g cz))):
    HC 100 [rP,dI least] (rd L s) [ez (.mk j d a b g cz)] (rd L i):=
 qN {loops:=fun f q=>if f=100 then (if q=2 then some (Tj h)else none)else none,calls:=tC [(100,10,1078,ab c)]} 1000
theorem LA{L:List T}{least:Int}{s b a:RS}{k o:Int}{nm:List UInt8}{n p:Int}{xs:List Ex}{q r:Int}
    (c:HC 128 [rP] (rd L s) [ez (.mk k o nm n p xs)] (rd L b))
    (h:RL 39 (lO 100 2) (J7 least) (J8 L b (.mk k o nm n p xs)) (.panic (dL q r)) [] (We L a)):
    HX 100 [rP,dI least] (rd L s) (dL q r) (rd L a):=
 qX {loops:=fun f q=>if f=100 then (if q=2 then some (Tj h)else none)else none,calls:=tC [(100,10,1078,ab c)]} 1000
theorem LB{L:List T}{least:Int}{s a:RS}{q r:Int}(c:HX 128 [rP] (rd L s) (dL q r) (rd L a)):
    HX 100 [rP,dI least] (rd L s) (dL q r) (rd L a):=
 qX {pans:=an Pg [(100,1,1039,⟨1,some (bh c),[]⟩)]} 1000
section
variable{L:List T}(b:dM L)
include b
theorem H3(n:Nat)(z:∀(k:Int)(s:RS),s.i<L.length→RC L 100 [rP,dI k] (fun e=>[ez e]) s (aQ L n k s))(A:∀(k:Int)(e:Ex)(s:RS),s.i<L.length→Lz L k s e (c3 L n k e s))
    (least:Int) (e:Ex) (s:RS) (l:s.i<L.length):Lz L least s e (c3 L (n+1) least e s):=by
 obtain⟨k,o,nm,m,p,xs⟩:=e;simp only[c3];cases h:((ce L least s).1==0)with
 |true=>exact⟨l,fun d X j f=>aU (PO b l least k o nm m p xs h d X j f) (by simp)⟩
 |false=>
  have ln:s.nx.i<L.length:=oS l least b au (by simpa [ce]using h);have c:=z (b5 ((ce L least s).2+1)) s.nx ln;simp only[xI];revert c;cases aQ L n (b5 ((ce L least s).2+1)) s.nx with
  |out=>exact fun _=>trivial
  |bad q r u=>exact fun c d X j f=>aU (Th b l least k o nm m p xs h q r u c d X j f) (by simp)
  |ok B u=>
   obtain⟨y,w,g,v,x,cz⟩:=B;intro c;have t:=A least (.mk 9 (ce L least s).1 [] 0 (aD L s).p [.mk k o nm m p xs, .mk y w g v x cz]) u c.1;simp only[Res.bind];revert t;cases c3 L n least (.mk 9 (ce L least s).1 [] 0 (aD L s).p [.mk k o nm m p xs, .mk y w g v x cz]) u with
   |out=>exact fun _=>trivial
   |bad q r C=>exact fun t d X j f=>aR (Ti b l least k o nm m p xs h y w g v x cz u c.2 d X j f) (t d X j f)
   |ok a C=>exact fun t=>⟨t.1,fun d X j f=>aR (Ti b l least k o nm m p xs h y w g v x cz u c.2 d X j f) (t.2 d X j f)⟩
theorem H4(n:Nat)(f:∀s:RS,s.i<L.length→RC L 128 [rP] (fun e=>[ez e]) s (dC L n s))(h:∀(k:Int)(e:Ex)(s:RS),s.i<L.length→Lz L k s e (c3 L n k e s))
    (least:Int) (s:RS) (l:s.i<L.length):RC L 100 [rP,dI least] (fun e=>[ez e]) s (aQ L (n+1) least s):=by
 simp only[aQ];refine RC.bind (f s l) (fun q r g c=>LB c) (fun e g j c=> ?_);have d:=h least e g j;obtain⟨k,o,nm,m,p,xs⟩:=e;revert d;cases c3 L n least (.mk k o nm m p xs) g with
 |out=>exact fun _=>trivial
 |bad q r u=>exact fun d=>LA c d
 |ok a u=>
  obtain⟨y,w,t,v,x,cz⟩:=a;exact fun d=>⟨d.1,PQ c d.2⟩
end
end Go.Avm
namespace Go.Avm
open Go.Proofs
def kr:Nat×aK:=(1003,⟨1,some (.arr 1 [rP])⟩)
def t9(l:List Ex):List AV:=l.map fun e=> .d (ez e)
def wq(nm:List UInt8)(p:Int)(a:AV):Nat×aK:=(1082,⟨1,some (.arr 1 [u8 5,u8 0, .d (.str nm),dI 0,dI p,a])⟩)
def Fh:AV:= .fn 154 [pC 1082,pC 1003]
theorem c8(ρ:Nat→Nat):∀{l:List AV},(∀x∈l,∃d,x= .d d)→bX ρ l=l
 |[],_=>rfl
 |x::l,h=>by
  obtain⟨d,rfl⟩:=h x (by simp);have b:=c8 ρ (l:=l) fun y a=>h y (by simp[a])
  simp only[bX,aX,b]
theorem eh(r:List Ex):∀x∈t9 r,∃d,x= .d d:=fun x a=>by
 obtain⟨e,_,rfl⟩:=xi.1 a;exact⟨_,rfl⟩
def zD:D:= .agg [.int .u8 0, .int .u8 0, .str [], .int .i64 0, .int .i64 0, .ro []]
section
variable{L:List T}(a:dM L){s:RS}(l:s.i<L.length)(nm:List UInt8)(p:Int)
theorem Wf(h d:Int)(b:List UInt8)(i e:Int)(cz:List Ex)(g:RS)(c:HC 100 [rP,dI 1] (rd L s) [ez (.mk h d b i e cz)] (rd L g)):
    HC 154 [pC 1082,pC 1003] (rd L s ++[wq nm p .nils,kr,(400000,⟨0,none⟩)]) [] (rd L g ++[wq nm p (.sl 400000 2 0 1 6),kr,(400000,⟨2,some (.arr 6 (t9 [.mk h d b i e cz]))⟩)]):=
 qN {nils:=fun f r=>if f=154 then (if r=0 then some ⟨1082,5,400000,6,false,true⟩else none)else none,calls:=tC [(154,5,2033,ab c)]} 2000
theorem LC(c:List Ex)(n:Nat)(e:D):∀x∈((t9 c).take c.length ++[AV.d zD]).set n (AV.d e),∃d,x= .d d:=fun x b=>by
 rcases xu b with b|rfl
 ·rcases xZ.1 b with b|b
  ·exact eh c x (yR b)
  ·simp only[xK]at b;exact⟨_,b⟩
 ·exact⟨_,rfl⟩
theorem Wg(v:Nat)(b:List Ex)(k:b.length<1000000)(i f:Int)(e:List UInt8)(j g:Int)(cz:List Ex)(h:RS)(c:HC 100 [rP,dI 1] (rd L s) [ez (.mk i f e j g cz)] (rd L h)):
    HC 154 [pC 1082,pC 1003] (rd L s ++[wq nm p (.sl 400000 v 0 b.length 6),kr,(400000,⟨v,some (.arr 6 (t9 b))⟩)]) [] (rd L h ++[wq nm p (.sl 400000 (v+1) 0 (b.length+1) 6),kr,(400000,⟨v+1,some (.arr 6 (((t9 b).take b.length ++[AV.d zD]).set (0+b.length) (AV.d (ez (.mk i f e j g cz)))))⟩)]):=
 qN {hint:=qT 154 [(8, .apps (t9 b) b.length 1 ⟨by simp[t9],by omega⟩),(9, .inb (b.length:Int) (b.length+1) (by omega) (by simp)),(100008, .elt ((t9 b).take b.length ++[AV.d zD]) (0+b.length) (AV.d zD) (by simp[t9]))],calls:=tC [(154,5,2033,ab c)]} 2000 ⟨rfl,rfl,rfl,by kernel_rfl,by simp[cD,gh,bX,aX,d7,wq,kr,pC,rd,rP,E1,u8,c8 _ (eh b)],by simp[cD,gh,bX,aX,d7,wq,kr,pC,rd,rP,E1,u8,c8 _ (LC b _ _)]⟩
end
def fp(nm:List UInt8)(p:Int):List (Nat×aK):=[wq nm p .nils,kr,(400000,⟨0,none⟩)]
def dP(nm:List UInt8)(p:Int)(r:List Ex):List (Nat×aK):=[wq nm p (.sl 400000 (r.length+1) 0 r.length 6),kr,(400000,⟨r.length+1,some (.arr 6 (t9 r))⟩)]
def j0(v:Nat):List (Nat×aK):=[(1082,⟨1,none⟩),(1003,⟨1,none⟩),(400000,⟨v,none⟩)]
def Tl(nm:List UInt8)(p:Int):List Ex→List (Nat×aK)
 |[]=>fp nm p
 |r=>dP nm p r
section
variable{L:List T}(a:dM L){s:RS}(l:s.i<L.length)(nm:List UInt8)(p:Int)
theorem Wh(e:Ex)(d:RS)(c:HC 100 [rP,dI 1] (rd L s) [ez e] (rd L d)):
    HC 154 [pC 1082,pC 1003] (rd L s ++fp nm p) [] (rd L d ++dP nm p [e]):=by
 obtain⟨h,f,b,i,g,cz⟩:=e;exact Wf nm p h f b i g cz d c
theorem Wi(r:List Ex)(m:r.length<1000000)(e:Ex)(k:RS)(c:HC 100 [rP,dI 1] (rd L s) [ez e] (rd L k)):
    HC 154 [pC 1082,pC 1003] (rd L s ++dP nm p r) [] (rd L k ++dP nm p (r ++[e])):=by
 obtain⟨i,f,b,j,g,cz⟩:=e;have h:=Wg nm p (r.length+1) r m i f b j g cz k c
 have o:((t9 r).take r.length ++[AV.d zD]).set (0+r.length) (AV.d (ez (.mk i f b j g cz)))=t9 (r ++[.mk i f b j g cz]):=by
  have q:r.length=(t9 r).length:=by simp[t9]
  rw[xb,q,List.take_length];simp[t9]
 rw[o]at h;have n:r.length+1=(r ++[Ex.mk i f b j g cz]).length:=by simp
 simp only[dP,←n];exact h
theorem Tm(q t:Int)(b:RS)(c:HX 100 [rP,dI 1] (rd L s) (dL q t) (rd L b)):
    HX 154 [pC 1082,pC 1003] (rd L s ++fp nm p) (dL q t) (rd L b ++j0 0):=
 qX {pans:=an Pg [(154,0,2000,⟨3,some (bh c),[4,5]⟩)]} 2000
theorem Tn(r:List Ex)(q t:Int)(b:RS)(c:HX 100 [rP,dI 1] (rd L s) (dL q t) (rd L b)):
    HX 154 [pC 1082,pC 1003] (rd L s ++dP nm p r) (dL q t) (rd L b ++j0 (r.length+1)):=
 qX {pans:=an Pg [(154,0,2000,⟨3,some (bh c),[4,5]⟩)]} 2000 ⟨rfl,rfl,rfl,by kernel_rfl,by simp[cD,gh,bX,aX,d7,fp,dP,wq,kr,pC,rd,rP,E1,u8,c8 _ (eh _)],by simp[cD,gh,bX,aX,d7,fp,dP,j0,wq,kr,pC,rd,rP,E1,u8,c8 _ (eh _)]⟩
def H5:List (Nat×AV):=[(0,rP),(1,Fh)]
include l
theorem PR(r:List Ex)(h:isT L s [44]=false):RE 17 (lO 42 3) H5 (rd L s ++dP nm p r) (.exit 0) [(0,rP)] (rd L s ++dP nm p r):=
 qE {calls:=tC [(42,12,3017,ab (af l [44] h))]} 42 3000 ⟨rfl,rfl,rfl,by kernel_rfl,by simp[cD,gh,bX,aX,d7,fp,dP,wq,kr,pC,rd,rP,E1,u8,c8 _ (eh _)],by simp[cD,gh,bX,aX,d7,fp,dP,j0,wq,kr,pC,rd,rP,E1,u8,c8 _ (eh _)]⟩
theorem PS(r:List Ex)(e:RS)(c1:HC 45 [rP, .d (.str [44])] (rd L s) [.bool true] (rd L e))(q t:Int)(b:RS)
    (c:HX 154 [pC 1082,pC 1003] (rd L e ++dP nm p r) (dL q t) (rd L b ++j0 (r.length+1))):RE 17 (lO 42 3) H5 (rd L s ++dP nm p r) (.panic (dL q t)) [] (rd L b ++j0 (r.length+1)):=
 qE {calls:=tC [(42,12,3017,ab c1)],pans:=an Pg [(42,4,3017,⟨1,some (bh c),[]⟩)]} 42 3000 ⟨rfl,rfl,rfl,by kernel_rfl,by simp[cD,gh,bX,aX,d7,fp,dP,wq,kr,pC,rd,rP,E1,u8,c8 _ (eh _)],by simp[cD,gh,bX,aX,d7,fp,dP,j0,wq,kr,pC,rd,rP,E1,u8,c8 _ (eh _)]⟩
theorem Wj(r:List Ex)(f:RS)(c1:HC 45 [rP, .d (.str [44])] (rd L s) [.bool true] (rd L f))(e:Ex)(b:RS)
    (c:HC 154 [pC 1082,pC 1003] (rd L f ++dP nm p r) [] (rd L b ++dP nm p (r ++[e]))):RE 17 (lO 42 3) H5 (rd L s ++dP nm p r) .normal H5 (rd L b ++dP nm p (r ++[e])):=
 qE {calls:=tC [(42,12,3017,ab c1),(42,14,3034,ab c)]} 42 3000 ⟨rfl,rfl,rfl,by kernel_rfl,by simp[cD,gh,bX,aX,d7,fp,dP,wq,kr,pC,rd,rP,E1,u8,c8 _ (eh _)],by simp[cD,gh,bX,aX,d7,fp,dP,j0,wq,kr,pC,rd,rP,E1,u8,c8 _ (eh _)]⟩
end
def PT(L:List T)(nm:List UInt8)(p:Int)(s:RS)(r:List Ex):Res (List Ex)→Prop
 | .ok b a=>a.i<L.length∧b≠[]∧RL 17 (lO 42 3) H5 (rd L s ++dP nm p r) (.exit 0) [(0,rP)] (rd L a ++dP nm p b)
 | .bad q t a=>∃v,RL 17 (lO 42 3) H5 (rd L s ++dP nm p r) (.panic (dL q t)) [] (rd L a ++j0 v)
 | .out=>True
noncomputable def PU{L:List T}{nm:List UInt8}{p:Int}{s:RS}{r:List Ex}{b:List (Nat×aK)}{x:aA}{l':List (Nat×AV)}(h:RL 17 (lO 42 3) H5 (rd L s ++dP nm p r) x l' b):dy Pg:=
 ⟨17,bG Pg 42 3,H5,fun _=>rd L s ++dP nm p r,x,l',fun _=>b,fun a X c d=>(h a X c d).aw⟩
section
variable{L:List T}(b:dM L)(nm:List UInt8)(p:Int)
include b
theorem H6(n:Nat)(z:∀(k:Int)(s:RS),s.i<L.length→RC L 100 [rP,dI k] (fun e=>[ez e]) s (aQ L n k s))(w:∀(r:List Ex)(s:RS),s.i<L.length→r.length≤s.i→r≠[]→PT L nm p s r (du L n r s))
    (r:List Ex) (s:RS) (l:s.i<L.length) (E:r.length≤s.i) (x:r≠[]):PT L nm p s r (du L (n+1) r s):=by
 have o:r.length<1000000:=by have:=b.len;omega
 simp only[du,aM];cases h:isT L s [44]with
 |false=>exact⟨l,x,fun d X j g=>aU (PR l nm p r h d X j g) (by simp)⟩
 |true=>
  have B:ah L [44] s= .ok (aD L s) s.nx:=by simp only[ah,h];rfl
  have C:=vy b l h;have c1:=mayT l [44] h (aD L s) s.nx (HV l b [44] h rfl rfl rfl rfl rfl rfl);simp only[xR,B,Res.bind];have c:=z 1 s.nx C;revert c;have A:∀a f,aQ L n 1 s.nx= .ok a f→s.nx.i<f.i:=fun a f y=>tT L n 1 s.nx a f y
  cases y:aQ L n 1 s.nx with
  |out=>exact fun _=>trivial
  |bad q t f=>exact fun c=>⟨_,fun d X j g=>aU (PS l nm p r s.nx c1 q t f (Tn nm p r q t f c) d X j g) (by simp)⟩
  |ok e f=>
   intro c;have F:=A e f y;have m:=w (r ++[e]) f c.1 (by simp only[xC,xD,xF,RS.nx]at*;omega) (by simp);have u:=Wj l nm p r s.nx c1 e f (Wi nm p r o e f c.2);simp only;revert m;cases du L n (r ++[e]) f with
   |out=>exact fun _=>trivial
   |bad q t D=>exact fun ⟨v,m⟩=>⟨v,fun d X j g=>aR (u d X j g) (m d X j g)⟩
   |ok a D=>exact fun m=>⟨m.1,m.2.1,fun d X j g=>aR (u d X j g) (m.2.2 d X j g)⟩
end
section
variable{L:List T}(nm:List UInt8)(p:Int){s a b g j:RS}{l k:T}{q t:Int}
theorem Wk(c:HX 40 [rP, .d (.str [40])] (rd L s) (dL q t) (rd L a)):
    HX 42 [rP,Fh] (rd L s ++fp nm p) (dL q t) (rd L a ++j0 0):=
 qX {pans:=an Pg [(42,0,1000,⟨1,some (bh c),[]⟩)]} 1000
section
variable(c:a.i<L.length)(c1:HC 40 [rP, .d (.str [40])] (rd L s) [tD l] (rd L a))
include c c1
theorem Wl(h:isT L a [41]=true)(e:HC 40 [rP, .d (.str [41])] (rd L a) [tD k] (rd L b)):
    HC 42 [rP,Fh] (rd L s ++fp nm p) [] (rd L b ++fp nm p):=
 qN {calls:=tC [(42,5,1017,ab c1),(42,7,1034,ab (aZ c [41] h)),(42,16,1068,ab e)]} 1000
theorem Wm(h:isT L a [41]=true)(e:HX 40 [rP, .d (.str [41])] (rd L a) (dL q t) (rd L b)):
    HX 42 [rP,Fh] (rd L s ++fp nm p) (dL q t) (rd L b ++j0 0):=
 qX {calls:=tC [(42,5,1017,ab c1),(42,7,1034,ab (aZ c [41] h))],pans:=an Pg [(42,5,1051,⟨1,some (bh e),[]⟩)]} 1000
theorem Wn(h:isT L a [41]=false)(d:HX 154 [pC 1082,pC 1003] (rd L a ++fp nm p) (dL q t) (rd L b ++j0 0)):
    HX 42 [rP,Fh] (rd L s ++fp nm p) (dL q t) (rd L b ++j0 0):=
 qX {calls:=tC [(42,5,1017,ab c1),(42,7,1034,ab (aZ c [41] h))],pans:=an Pg [(42,2,1051,⟨1,some (bh d),[]⟩)]} 1000
theorem Wo(d:isT L a [41]=false)(e:Ex)(i:HC 154 [pC 1082,pC 1003] (rd L a ++fp nm p) [] (rd L b ++dP nm p [e]))(v:Nat)(h:RL 17 (lO 42 3) H5 (rd L b ++dP nm p [e]) (.panic (dL q t)) [] (rd L g ++j0 v)):
    HX 42 [rP,Fh] (rd L s ++fp nm p) (dL q t) (rd L g ++j0 v):=
 qX {loops:=fun f q=>if f=42 then (if q=3 then some (PU h)else none)else none,calls:=tC [(42,5,1017,ab c1),(42,7,1034,ab (aZ c [41] d)),(42,10,1068,ab i)]} 1000
theorem Wp(i:isT L a [41]=false)(e:Ex)(m:HC 154 [pC 1082,pC 1003] (rd L a ++fp nm p) [] (rd L b ++dP nm p [e]))(r:List Ex)(h:RL 17 (lO 42 3) H5 (rd L b ++dP nm p [e]) (.exit 0) [(0,rP)] (rd L g ++dP nm p r))(n:HX 40 [rP, .d (.str [41])] (rd L g) (dL q t) (rd L j)):
    HX 42 [rP,Fh] (rd L s ++fp nm p) (dL q t) (rd L j ++j0 (r.length+1)):=
 qX {loops:=fun f q=>if f=42 then (if q=3 then some (PU h)else none)else none,calls:=tC [(42,5,1017,ab c1),(42,7,1034,ab (aZ c [41] i)),(42,10,1068,ab m)],pans:=an Pg [(42,5,1068,⟨1,some (bh n),[]⟩)]} 1000
theorem Wq(i:isT L a [41]=false)(e:Ex)(m:HC 154 [pC 1082,pC 1003] (rd L a ++fp nm p) [] (rd L b ++dP nm p [e]))(r:List Ex)(h:RL 17 (lO 42 3) H5 (rd L b ++dP nm p [e]) (.exit 0) [(0,rP)] (rd L g ++dP nm p r))(n:HC 40 [rP, .d (.str [41])] (rd L g) [tD k] (rd L j)):
    HC 42 [rP,Fh] (rd L s ++fp nm p) [] (rd L j ++dP nm p r):=
 qN {loops:=fun f q=>if f=42 then (if q=3 then some (PU h)else none)else none,calls:=tC [(42,5,1017,ab c1),(42,7,1034,ab (aZ c [41] i)),(42,10,1068,ab m),(42,16,1085,ab n)]} 1000 ⟨rfl,rfl,rfl,by kernel_rfl,by simp[cD,gh,bX,aX,d7,fp,dP,wq,kr,pC,rd,rP,E1,u8,c8 _ (eh _)],by simp[cD,gh,bX,aX,d7,fp,dP,j0,wq,kr,pC,rd,rP,E1,u8,c8 _ (eh _)]⟩
end
theorem To(c:HC 42 [rP,Fh] (rd L s ++fp nm p) [] (rd L a ++fp nm p)):
    HC 130 [rP, .d (.str nm),dI p] (rd L s) [ez (.mk 5 0 nm 0 p [])] (rd L a):=
 qN {calls:=tC [(130,13,1135,ab c)]} 1000
theorem Ae(h:aa):∀r:List Ex,eD (view 3 h) (t9 r)=some (gZ r,[])
 |[]=>rfl
 |x::r=>by
  have c:=Ae h r;simp only[t9]at c;simp only[t9,xN,eD,c,gZ];rfl
def YJ(r:List Ex):tJ:=⟨1082,5,400000,r.length,t9 r,gZ r,by simp[t9],fun h=>Ae h r⟩
theorem Tp(r:List Ex)(c:HC 42 [rP,Fh] (rd L s ++fp nm p) [] (rd L a ++dP nm p r)):
    HC 130 [rP, .d (.str nm),dI p] (rd L s) [ez (.mk 5 0 nm 0 p r)] (rd L a):=
 qN {frz:=fun f q=>if f=130 then (if q=3 then some (YJ r)else none)else none,calls:=tC [(130,13,1135,ab c)]} 1000
theorem Tq(v:Nat)(c:HX 42 [rP,Fh] (rd L s ++fp nm p) (dL q t) (rd L a ++j0 v)):
    HX 130 [rP, .d (.str nm),dI p] (rd L s) (dL q t) (rd L a):=
 qX {pans:=an Pg [(130,2,1105,⟨2,some (bh c),[]⟩)]} 1000
end
end Go.Avm
namespace Go.Avm
open Go.Proofs
def X3(L:List T)(nm:List UInt8)(p:Int)(s:RS):Res (List Ex)→Prop
 | .ok r a=>a.i<L.length∧HC 42 [rP,Fh] (rd L s ++fp nm p) [] (rd L a ++Tl nm p r)
 | .bad q t a=>∃v,HX 42 [rP,Fh] (rd L s ++fp nm p) (dL q t) (rd L a ++j0 v)
 | .out=>True
abbrev eR:Ex→List D:=fun e=>[ez e]
structure H7(L:List T)(n:Nat):Prop where
 one:∀s:RS,s.i<L.length→RC L 128 [rP] eR s (dC L n s)
 place:∀s:RS,s.i<L.length→RC L 131 [rP] eR s (ch L n s)
 call:∀(nm:List UInt8)(p:Int)(s:RS),s.i<L.length→RC L 130 [rP, .d (.str nm),dI p] eR s (dz L n nm p s)
 expr:∀(k:Int)(s:RS),s.i<L.length→RC L 100 [rP,dI k] eR s (aQ L n k s)
 tail:∀(k:Int)(e:Ex)(s:RS),s.i<L.length→Lz L k s e (c3 L n k e s)
 args:∀(nm:List UInt8)(p:Int)(s:RS),s.i<L.length→X3 L nm p s (dU L n s)
 more:∀(nm:List UInt8)(p:Int)(r:List Ex)(s:RS),s.i<L.length→r.length≤s.i→r≠[]→PT L nm p s r (du L n r s)
theorem H8{L:List T}(w:dM L){n:Nat}(h:H7 L n)(nm:List UInt8)(p:Int)(s:RS)(l:s.i<L.length):X3 L nm p s (dU L (n+1) s):=by
 simp only[dU];have c1:=cQ l w [40];have o:=aO L [40] s;revert c1 o;cases ah L [40] s with
 |out=>exact fun _ _=>trivial
 |bad q t j=>exact fun c1 _=>⟨0,Wk nm p c1⟩
 |ok B j=>
  intro c1 o;have o:=o B j rfl;have g:=c1.1;simp only[Res.bind];cases d:isT L j [41]with
  |true=>
   have c:=cQ g w [41];simp only[xR];revert c;cases ah L [41] j with
   |out=>exact fun _=>trivial
   |bad q t f=>exact fun c=>⟨0,Wm nm p g c1.2 d c⟩
   |ok E f=>exact fun c=>⟨c.1,Wl nm p g c1.2 d c.2⟩
  |false=>
   have c:=h.expr 1 j g;have u:=tT L n 1 j;simp only[xI];revert c u;cases aQ L n 1 j with
   |out=>exact fun _ _=>trivial
   |bad q t f=>exact fun c _=>⟨0,Wn nm p g c1.2 d (Tm nm p q t f c)⟩
   |ok e f=>
    intro c u;have u:=u e f rfl;have y:=Wh nm p e f c.2;have k:=h.more nm p [e] f c.1 (by simp only[xD,xF];omega) (by simp);simp only;revert k;cases du L n [e] f with
    |out=>exact fun _=>trivial
    |bad q t z=>exact fun ⟨v,k⟩=>⟨v,Wo nm p g c1.2 d e y v k⟩
    |ok r z=>
     rintro⟨C,x,k⟩;have m:=cQ C w [41];simp only;revert m;cases ah L [41] z with
     |out=>exact fun _=>trivial
     |bad q t A=>exact fun m=>⟨_,Wp nm p g c1.2 d e y r k m⟩
     |ok F A=>
      intro m
      have D:Tl nm p r=dP nm p r:=by
       cases r with
       |nil=>exact absurd rfl x
       |cons a b=>rfl
      refine⟨m.1, ?_⟩;rw[D];exact Wq nm p g c1.2 d e y r k m.2
theorem H9{L:List T}{n:Nat}(h:H7 L n)(nm:List UInt8)(p:Int)(s:RS)(l:s.i<L.length):RC L 130 [rP, .d (.str nm),dI p] eR s (dz L (n+1) nm p s):=by
 simp only[dz];have c:=h.args nm p s l;revert c;cases dU L n s with
 |out=>exact fun _=>trivial
 |bad q t e=>exact fun ⟨v,c⟩=>Tq nm p v c
 |ok r e=>
  intro c;refine⟨c.1, ?_⟩;cases r with
  |nil=>exact To nm p c.2
  |cons a b=>exact Tp nm p (a::b) c.2
theorem lu{L:List T}(a:dM L):∀n,H7 L n
 |0=>⟨fun _ _=>trivial,fun _ _=>trivial,fun _ _ _ _=>trivial,fun _ _ _=>trivial,fun _ _ _ _=>trivial,fun _ _ _ _=>trivial,fun _ _ _ _ _ _ _=>trivial⟩
 |n+1=>by
  have h:=lu a n;exact⟨Ly a n h.one h.expr h.place h.call,Fg a n h.expr,H9 h,H4 a n h.one h.tail,H3 a n h.expr h.tail,H8 a h,fun nm p=>H6 a nm p n h.expr (h.more nm p)⟩
end Go.Avm
