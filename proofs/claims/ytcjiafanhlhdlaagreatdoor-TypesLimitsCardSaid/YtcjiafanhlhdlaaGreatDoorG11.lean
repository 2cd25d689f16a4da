/-
  Types: a statement, whatever it says; all statements.
-/
import Derived.Test.YtcjiafanhlhdlaaGreatDoorG10
import Derived.Test.YtcjiafanhlhdlaaGreatDoorG09
import Derived.Test.YtcjiafanhlhdlaaGreatDoorG07
set_option linter.unusedVariables false
set_option linter.unusedSimpArgs false
set_option linter.unusedSectionVars false
namespace Go.Avm
open Go.Proofs
theorem cC{S:CK}(h:CKok S)(x:Pt)(hp:S.c.pts.length<900000000):CKok (S.ptd x) where
 fn:=h.fn
 W:=h.W
 dat:=h.dat
 len:=h.len
 par:=h.par
 vars:=h.vars
 seen:=h.seen
 inc:=h.inc
 nms:=h.nms
 nml:=h.nml
 had:=h.had
 sk:=h.sk
 sb:=h.sb
 sc:=h.sc
 sv:=h.sv
 pts:=by simp only[CK.ptd,List.length_append,List.length_cons,List.length_nil];omega
theorem gX{S:CK}(h:CKok S)(hp:S.c.pts.length<900000000):Nx S S.at1 {S.c with pts:=S.c.pts ++[S.c.pt S.fn]}:=⟨cC h _ hp,rfl,rfl,rfl,rfl,rfl,List.prefix_refl _⟩
structure O5(P:Pl)(bd el:List bt):Prop where
 ib:∀S,At P S→TC S 110 [aF, .d (.ro (dY bd))] (eO P.in bd S.c)
 ie:∀S,At P S→TC S 110 [aF, .d (.ro (dY el))] (eO P.in el S.c)
 eb:mz bd
 ee:mz el
theorem TC.from{S S1:CK}{c1:CS}{f f2:Nat}{args args2:List AV}{r:TR CS}(n1:Nx S S1 c1)(t:TC S1 f args r)(ok:∀S',CKok S'→(HC f args (ck S1) [] (ck S'))→HC f2 args2 (ck S) [] (ck S'))
    (bad:∀g p e,(HX f args (ck S1) (aE p e) (ct g))→HX f2 args2 (ck S) (aE p e) (ct g)):TC S f2 args2 r:=by
 cases r with
 |out=>trivial
 |bad p e=>
  obtain⟨g,c⟩:=t;exact⟨g,bad g p e c⟩
 |ok c=>
  obtain⟨S',nx,h⟩:=t;exact⟨S',n1.trans nx,ok S' nx.ok h⟩
section
variable{P:Pl}{S:CK}(a:At P S)(hp:S.c.pts.length<900000000)(nm:List UInt8)(ty n p:Int)(es:List Ex)(bd el:List bt)
include a hp
theorem mA{f:Nat}{args:List AV}{p e:Int}(h:HX f args (ck S) (aE p e) (ip S)):JM S f args p e:=by
 rw[cQ]at h;exact io h
theorem x8{f:Nat}{args:List AV}(h:HC f args (ck S) [] (ip S)):TC S f args (.ok {S.c with pts:=S.c.pts ++[S.c.pt S.fn]}):=by
 rw[cQ]at h;exact⟨S.at1,gX a.ok hp,h⟩
abbrev c1(S:CK):CS:={S.c with pts:=S.c.pts ++[S.c.pt S.fn]}
theorem Rx:TC S 76 [aF,eA 1 (S.c.pts.length:Int) nm ty n p es bd el] (zI P.fs P.deep nm (S.c.pts.length:Int) ty n p es (c1 S)):=by
 have t:=OL (gX a.ok hp).ok 1 (S.c.pts.length:Int) nm ty n p es bd el;have e1:S.at1.fs=P.fs:=a.fs;have e2:S.at1.deep=P.deep:=a.deep;rw[e1,e2]at t;exact TC.from (gX a.ok hp) t (fun S' h' c=>My a.ok (cC a.ok eC hp) nm ty n p es bd el h' c) (fun g q r c=>J7 a.ok (cC a.ok eC hp) nm ty n p es bd el g q r c)
theorem Ry(x:O5 P bd el):TC S 76 [aF,eA 4 (S.c.pts.length:Int) nm ty n p es bd el] (sJ P es bd el (c1 S)):=by
 have t:=GP x.ib x.ie x.eb x.ee 4 (S.c.pts.length:Int) nm ty n p es S.at1 (a.nx (gX a.ok hp));exact TC.from (gX a.ok hp) t (fun S' h' c=>Mz a.ok (cC a.ok eC hp) nm ty n p es bd el h' c) (fun g q r c=>J8 a.ok (cC a.ok eC hp) nm ty n p es bd el g q r c)
theorem Rz:TC S 76 [aF,eA 6 (S.c.pts.length:Int) nm ty n p es bd el] (sg P.fs P.fn p es (c1 S)):=by
 have n1:=gX a.ok hp;have t:=Mc n1.ok 6 (S.c.pts.length:Int) nm ty n p es bd el;have e1:S.at1.fs=P.fs:=a.fs;have e2:S.at1.fn=P.fn:=a.fn;rw[e1,e2]at t;have e3:S.at1.c=c1 S:=rfl;rw[e3]at t;revert t;cases sg P.fs P.fn p es (c1 S)with
 |out=>exact fun _=>trivial
 |bad q r=>exact fun t=>mA a hp (J9 a.ok (cC a.ok eC hp) nm ty n p es bd el n1.ok q r t)
 |ok c=>
  rintro⟨rfl,t⟩;exact x8 a hp (MA a.ok (cC a.ok eC hp) nm ty n p es bd el n1.ok t)
theorem RA:TC S 76 [aF,eA 7 (S.c.pts.length:Int) nm ty n p es bd el] ((aM ((c1 S).te P.fs) es [[1,2]] false).bind fun _=> .ok (c1 S)):=by
 have n1:=gX a.ok hp;match es with
 |[]=>simp only[aM];trivial
 | .mk k1 o1 nm1 n1' p1 xs1::zs=>
  have t:=Rm n1.ok (.mk k1 o1 nm1 n1' p1 xs1) 1 2;unfold WX at t;have e1:S.at1.c.te S.at1.fs=(c1 S).te P.fs:=by rw[show S.at1.fs=P.fs from a.fs];rfl
  rw[e1]at t;rw[bx];revert t;cases cg ((c1 S).te P.fs) (.mk k1 o1 nm1 n1' p1 xs1) [1,2]with
  |out=>exact fun _=>trivial
  |bad q r=>exact fun t=>mA a hp (Ka a.ok (cC a.ok eC hp) nm ty n p k1 o1 nm1 n1' p1 xs1 zs bd el n1.ok q r t)
  |ok u=>
   intro t;simp only[TR.bind,cond_false,ed];exact x8 a hp (MB a.ok (cC a.ok eC hp) nm ty n p k1 o1 nm1 n1' p1 xs1 zs bd el n1.ok u t)
theorem RB:TC S 76 [aF,eA 8 (S.c.pts.length:Int) nm ty n p es bd el] (match es with|[]=> .out|x::_=>(eM ((c1 S).te P.fs) x).bind fun _=> .ok (c1 S)):=by
 have n1:=gX a.ok hp;match es with
 |[]=>trivial
 | .mk k1 o1 nm1 n1' p1 xs1::zs=>
  have t:=Oa n1.ok (.mk k1 o1 nm1 n1' p1 xs1);have e1:S.at1.c.te S.at1.fs=(c1 S).te P.fs:=by rw[show S.at1.fs=P.fs from a.fs];rfl
  rw[e1]at t;simp only;revert t;cases eM ((c1 S).te P.fs) (.mk k1 o1 nm1 n1' p1 xs1)with
  |out=>exact fun _=>trivial
  |bad q r=>exact fun t=>mA a hp (Kb a.ok (cC a.ok eC hp) nm ty n p k1 o1 nm1 n1' p1 xs1 zs bd el n1.ok q r t)
  |ok u=>
   intro t;exact x8 a hp (MC a.ok (cC a.ok eC hp) nm ty n p k1 o1 nm1 n1' p1 xs1 zs bd el n1.ok u t)
theorem RD:TC S 76 [aF,eA 3 (S.c.pts.length:Int) nm ty n p es bd el] ((tK ((c1 S).te P.fs) nm p).bind fun _=>(aM ((c1 S).te P.fs) es [[1],[1]] false).bind fun _=> .ok (c1 S)):=by
 have n1:=gX a.ok hp;have e1:S.at1.c.te S.at1.fs=(c1 S).te P.fs:=by rw[show S.at1.fs=P.fs from a.fs];rfl
 have ta:=Je n1.ok nm p;rw[e1]at ta;revert ta;cases tK ((c1 S).te P.fs) nm p with
 |out=>exact fun _=>trivial
 |bad q r=>exact fun ta=>mA a hp (OX a.ok (cC a.ok eC hp) nm ty n p es bd el n1.ok q r ta)
 |ok _=>
  intro ta;simp only[TR.bind];match es with
  |[]=>simp only[aM];trivial
  | .mk k1 o1 nm1 n1' p1 xs1::zs=>
   have t:=Jx n1.ok (.mk k1 o1 nm1 n1' p1 xs1) 1;unfold WX at t;rw[e1]at t;rw[bx];revert t;cases cg ((c1 S).te P.fs) (.mk k1 o1 nm1 n1' p1 xs1) [1]with
   |out=>exact fun _=>trivial
   |bad q r=>exact fun t=>mA a hp (OY a.ok (cC a.ok eC hp) nm ty n p k1 o1 nm1 n1' p1 xs1 zs bd el n1.ok ta q r t)
   |ok u=>
    intro t;simp only[TR.bind,cond_false];match zs with
    |[]=>simp only[aM];trivial
    | .mk k2 o2 nm2 n2 p2 cd::zs=>
     have t2:=Jx n1.ok (.mk k2 o2 nm2 n2 p2 cd) 1;unfold WX at t2;rw[e1]at t2;rw[bx];revert t2;cases cg ((c1 S).te P.fs) (.mk k2 o2 nm2 n2 p2 cd) [1]with
     |out=>exact fun _=>trivial
     |bad q r=>exact fun t2=>mA a hp (OZ a.ok (cC a.ok eC hp) nm ty n p k1 o1 nm1 n1' p1 xs1 k2 o2 nm2 n2 p2 cd zs bd el n1.ok ta u t q r t2)
     |ok u2=>
      intro t2;simp only[TR.bind,cond_false,ed];exact x8 a hp (MD a.ok (cC a.ok eC hp) nm ty n p k1 o1 nm1 n1' p1 xs1 k2 o2 nm2 n2 p2 cd zs bd el n1.ok ta u t u2 t2)
theorem RF:TC S 76 [aF,eA 2 (S.c.pts.length:Int) nm ty n p es bd el] ((oV ((c1 S).te P.fs) nm p).bind fun r=>bif r.2.ty==3 then .bad p 8 else (aM ((c1 S).te P.fs) es [[r.2.ty]] false).bind fun _=> .ok {c1 S with sure:=(c1 S).sure.put r.1}):=by
 have n1:=gX a.ok hp;have e1:S.at1.c.te S.at1.fs=(c1 S).te P.fs:=by rw[show S.at1.fs=P.fs from a.fs];rfl
 have ta:=Jc n1.ok nm p;rw[e1]at ta
 have hlt:∀r,oV ((c1 S).te P.fs) nm p= .ok r→r.1<S.c.vars.length:=fun r hr=>by
  unfold oV at hr;cases hf:eD nm ((c1 S).te P.fs).seen 0 with
  |none=>rw[hf]at hr;cases hr
  |some q=>
   rw[hf]at hr;cases hr;exact a.ok.seen _ (oY hf)
 revert ta hlt;cases oV ((c1 S).te P.fs) nm p with
 |out=>exact fun _ _=>trivial
 |bad q r=>exact fun ta _=>mA a hp (O0 a.ok (cC a.ok eC hp) nm ty n p es bd el n1.ok q r ta)
 |ok rv=>
  obtain⟨i,v⟩:=rv;intro ta hlt;have hlt:=hlt _ rfl;simp only[TR.bind];cases hv:(v.ty==3)with
  |true=>
   have hv':(v.ty !=3)=false:=by simp[bne,hv]
   exact mA a hp (O1 a.ok (cC a.ok eC hp) nm ty n p es bd el n1.ok i v ta hv')
  |false=>
   have hv':(v.ty !=3)=true:=by simp[bne,hv]
   simp only[cond_false];match es with
   |[]=>simp only[aM];trivial
   | .mk k1 o1 nm1 n1' p1 xs1::zs=>
    have t:=Jx n1.ok (.mk k1 o1 nm1 n1' p1 xs1) v.ty;unfold WX at t;rw[e1]at t;rw[bx];revert t;cases cg ((c1 S).te P.fs) (.mk k1 o1 nm1 n1' p1 xs1) [v.ty]with
    |out=>exact fun _=>trivial
    |bad q r=>exact fun t=>mA a hp (O2 a.ok (cC a.ok eC hp) nm ty n p k1 o1 nm1 n1' p1 xs1 zs bd el n1.ok i v ta hv' q r t)
    |ok u=>
     intro t;simp only[TR.bind,cond_false,ed];have h2:=vX n1.ok i hlt;refine⟨S.at1.put i,⟨h2,rfl,rfl,rfl,rfl,rfl,List.prefix_refl _⟩, ?_⟩;cases hi:bP i S.c.sure.l 0 with
     |none=>
      rw[←A2 S hi];exact Kc a.ok (cC a.ok eC hp) nm ty n p k1 o1 nm1 n1' p1 xs1 zs bd el n1.ok i v ta hv' u t hi h2
     |some j=>
      rw[←A3 S hi];exact Kd a.ok (cC a.ok eC hp) nm ty n p k1 o1 nm1 n1' p1 xs1 zs bd el n1.ok i v ta hv' u t j hi h2
theorem RG(x:O5 P bd el):TC S 76 [aF,eA 5 (S.c.pts.length:Int) nm ty n p es bd el] ((aM ((c1 S).te P.fs) es [[2]] false).bind fun _=>(eO P.in bd (c1 S)).bind fun b=> .ok {b with sure:=(c1 S).sure}):=by
 have n1:=gX a.ok hp;have e1:S.at1.c.te S.at1.fs=(c1 S).te P.fs:=by rw[show S.at1.fs=P.fs from a.fs];rfl
 match es with
 |[]=>simp only[aM];trivial
 | .mk k1 o1 nm1 n1' p1 xs1::zs=>
  have t:=Jx n1.ok (.mk k1 o1 nm1 n1' p1 xs1) 2;unfold WX at t;rw[e1]at t;rw[bx];revert t;cases cg ((c1 S).te P.fs) (.mk k1 o1 nm1 n1' p1 xs1) [2]with
  |out=>exact fun _=>trivial
  |bad q r=>exact fun t=>mA a hp (O3 a.ok (cC a.ok eC hp) nm ty n p k1 o1 nm1 n1' p1 xs1 zs bd el n1.ok q r t)
  |ok u=>
   intro t;simp only[TR.bind,cond_false,ed];have tb:=x.ib S.at1 (a.nx n1);have e3:S.at1.c=c1 S:=rfl;rw[e3]at tb;revert tb;cases eO P.in bd (c1 S)with
   |out=>exact fun _=>trivial
   |bad q r=>exact fun ⟨g,c⟩=>⟨g,O4 a.ok (cC a.ok eC hp) nm ty n p k1 o1 nm1 n1' p1 xs1 zs bd el u t g q r c⟩
   |ok b=>
    rintro⟨S',nx,c⟩;have h2:=vY nx.ok (q:=S.c.sure) (a.ok.q.mono nx.vars.length_le) (S'.vq+1);have nn:=n1.trans nx;refine⟨S'.sureAs S.c.sure (S'.vq+1),⟨h2,by rw[←nx.c];rfl,nn.fs,nn.fn,nn.deep,nn.W,nn.vars⟩,ME a.ok (cC a.ok eC hp) nm ty n p k1 o1 nm1 n1' p1 xs1 zs bd el u t h2 c⟩
theorem RH(k:Int)(e1:(k==1)=false)(e2:(k==2)=false)(e3:(k==3)=false)(e4:(k==4)=false)(e5:(k==5)=false)(e6:(k==6)=false)(e7:(k==7)=false)(e8:(k==8)=false):TC S 76 [aF,eA k (S.c.pts.length:Int) nm ty n p es bd el] (.ok (c1 S)):=
 x8 a hp (OW a.ok (cC a.ok eC hp) nm ty n p es bd el (gX a.ok hp).ok k e1 e2 e3 e4 e5 e6 e7 e8)
end
theorem MF(P:Pl)(es:List Ex)(bd el:List bt)(c:CS):((aM (c.te P.fs) es [[2]] false).bind fun _=>
        (bE P.fs P.fn (fJ (P.deep+1)) false bd c).bind fun a=>
        (bE P.fs P.fn (fJ (P.deep+1)) false el {a with seen:=c.seen,sure:=c.sure}).bind fun b=>
        .ok {b with seen:=c.seen,sure:=bif du bd then b.sure else bif du el then a.sure else a.sure.both b.sure})=sJ P es bd el c:=by
 unfold sJ eO;simp only[Pl.in];cases aM (c.te P.fs) es [[2]] false with
 |out=>rfl
 |bad _ _=>rfl
 |ok _=>
  simp only[TR.bind];cases bE P.fs P.fn (fJ (P.deep+1)) false bd c with
  |out=>rfl
  |bad _ _=>rfl
  |ok a=>
   simp only;cases bE P.fs P.fn (fJ (P.deep+1)) false el ⟨a.vars,c.seen,c.sure,a.pts⟩with
   |out=>rfl
   |bad _ _=>rfl
   |ok b=>rfl
theorem MG{P:Pl}{k id:Int}{nm:List UInt8}{ty n p:Int}{es:List Ex}{bd el:List bt}(x:O5 P bd el):Mg P (.mk k id nm ty n p es bd el):=fun S a=>by
 unfold jh;cases hid:(id==(S.c.pts.length:Int)&&decide (S.c.pts.length<900000000))with
 |false=>exact trivial
 |true=>
  rw[Bool.and_eq_true]at hid;have h1:=eq_of_beq hid.1;subst h1;have hp:=of_decide_eq_true hid.2;simp only[cond_true];have ec:({S.c with pts:=S.c.pts ++[S.c.pt P.fn]}:CS)=c1 S:=by rw[←a.fn]
  rw[ec];cases e1:(k==1)with
  |true=>rw[eq_of_beq e1];exact Rx a hp nm ty n p es bd el
  |false=>
  cases e2:(k==2)with
  |true=>
   have:=RF a hp nm ty n p es bd el;rw[eq_of_beq e2];rw[←a.fn];exact this
  |false=>
  cases e3:(k==3)with
  |true=>rw[eq_of_beq e3];exact RD a hp nm ty n p es bd el
  |false=>
  cases e4:(k==4)with
  |true=>
   have:=Ry a hp nm ty n p es bd el x;rw[←MF]at this;rw[eq_of_beq e4];exact this
  |false=>
  cases e5:(k==5)with
  |true=>
   have:=RG a hp nm ty n p es bd el x;rw[eq_of_beq e5];refine(congrArg (TC S _ _) ?_).mp this;unfold eO;simp only[Pl.in];cases aM ((c1 S).te P.fs) es [[2]] false with
   |out=>rfl
   |bad _ _=>rfl
   |ok _=>
    simp only[TR.bind];cases bE P.fs P.fn (fJ (P.deep+1)) false bd (c1 S)<;>rfl
  |false=>
  cases e6:(k==6)with
  |true=>rw[eq_of_beq e6];exact Rz a hp nm ty n p es bd el
  |false=>
  cases e7:(k==7)with
  |true=>rw[eq_of_beq e7];exact RA a hp nm ty n p es bd el
  |false=>
  cases e8:(k==8)with
  |true=>
   rw[eq_of_beq e8];have:=RB a hp nm ty n p es bd el;refine(congrArg (TC S _ _) ?_).mp this;cases es<;>rfl
  |false=>exact RH a hp nm ty n p es bd el k e1 e2 e3 e4 e5 e6 e7 e8
theorem zS:∀(m:Nat)(P:Pl)(l:List bt),jn m l→0≤P.deep→P.deep+m<9223372036854775807→∀x∈l,Mg P x
 |0,_,_,h,_,_=>h.elim
 |m+1,P,l,h,h0,hd=>fun x hx=>by
  have hs:=h.2 x hx;obtain⟨k,id,nm,ty,n,p,es,bd,el⟩:=x;simp only at hs
  have ew:P.in.deep=P.deep+1:=by
   show fJ (P.deep+1)=_;unfold fJ;exact IntWalk.i64_in _ (by omega)
  have ib:=zS m P.in bd hs.1 (by rw[ew];omega) (by rw[ew];omega);have ie:=zS m P.in el hs.2 (by rw[ew];omega) (by rw[ew];omega)
  have rb:∀(l:List bt),jn m l→l.length<1000000∧∀x∈l,my x:=fun l hl=>by
   cases m with
   |zero=>exact hl.elim
   |succ m=>
    refine⟨hl.1,fun x hx=> ?_⟩;have h2:=hl.2 x hx;obtain⟨k,id,nm,ty,n,p,es,bd,el⟩:=x;exact Ig h2.1 h2.2
  have dd: -9223372036854775808≤P.deep∧P.deep<9223372036854775808:=by omega
  exact MG ⟨fun S a=>DU dd (rb bd hs.1).1 ib (rb bd hs.1).2 S a,fun S a=>DU dd (rb el hs.2).1 ie (rb el hs.2).2 S a,sr m bd hs.1,sr m el hs.2⟩
end Go.Avm
namespace Go.Avm
open Go.Proofs
def pR(fs:List Fn)(i:Nat)(f:Fn)(pts:List Pt):TR (List Vr×List Pt):=(eO ⟨fs,i,0⟩ f.bd (f.ps.foldl CS.par ⟨[],[],⟨[],0⟩,pts⟩)).bind fun c=>bif f.res==0||du f.bd then .ok (c.vars,c.pts)else .bad f.p 12
def f3(fs:List Fn):Nat→List Fn→List (List Vr)→List Pt→TR (List (List Vr)×List Pt)
 |_,[],rows,pts=> .ok (rows,pts)
 |i,f::r,rows,pts=>(pR fs i f pts).bind fun q=>f3 fs (i+1) r (rows ++[q.1]) q.2
def eZ(fs:List Fn):TR (List (List Vr)×List Pt):=(iL fs).bind fun _=>f3 fs 0 fs [] [eC]
def XS(x:AV):Prop:=∀ρ:Nat→Nat,ρ 500002=500002→ρ 500003=500003→ρ 500004=500004→aQ ρ x=x
abbrev iP(fs:List Fn)(W:List AV)(pts:List Pt)(g:Gv)(x4:Nat)(x5 x6 x7:AV):List (Nat×aL):=
 [(500000,⟨1,some (.arr 1 [.mp 499904 1, .d (.ro (fs.map de)), .sl 500191 1 0 fs.length 1, .sl 500382 g.vp 0 pts.length 3,dN x4,x5,x6,x7,dI 0])⟩),(499904,⟨1,some (.map (kz 0 fs) fs.length)⟩),(500002,⟨g.vh,none⟩),(500003,⟨g.vs,none⟩),(500004,⟨g.vq,none⟩),(500005,⟨g.vv,none⟩),(500382,⟨g.vp,some (.arr 3 (pts.map cr))⟩),(500191,⟨1,some (.arr 1 W)⟩)]
abbrev GW(fs:List Fn)(W:List AV)(pts:List Pt)(g:Gv)(i:Nat):List (Nat×aL):=
 [(500000,⟨1,some (.arr 1 [.mp 499904 1, .d (.ro (fs.map de)), .sl 500191 1 0 fs.length 1, .sl 500382 g.vp 0 pts.length 3,dN i, .mp 500002 (g.vh+1), .mp 500003 (g.vs+1), .mp 500004 (g.vq+1),dI 0])⟩),(499904,⟨1,some (.map (kz 0 fs) fs.length)⟩),(500002,⟨g.vh+1,some (.map [] 0)⟩),(500003,⟨g.vs+1,some (.map [] 0)⟩),(500004,⟨g.vq+1,some (.map [] 0)⟩),(500005,⟨g.vv,none⟩),(500382,⟨g.vp,some (.arr 3 (pts.map cr))⟩),(500191,⟨1,some (.arr 1 W)⟩)]
abbrev fZ:List (Nat×aL):=[(600003,⟨0,none⟩)]
def qj(W:List AV):Prop:=∀x∈W,x= .nils∨∃d,x= .d d
theorem A4{W:List AV}(h:qj W)(ρ:Nat→Nat):bQ ρ W=W:=oc fun x hx=>by
 rcases h x hx with rfl|⟨d,rfl⟩<;>rfl
abbrev Iv:List Nat:=[500000,499904,500002,500003,500004,500005,500382,500191]
section
variable{fs:List Fn}{W:List AV}{pts:List Pt}{g:Gv}{x4:Nat}{x5 x6 x7:AV}(hW:qj W)(h5:XS x5)(h6:XS x6)(h7:XS x7){ρ:Nat→Nat}(hρ:([499904,500002,500003,500004,500382,500191].map ρ)=[499904,500002,500003,500004,500382,500191])
include hW hρ
theorem eG(h5:XS x5)(h6:XS x6)(h7:XS x7):((iP fs W pts g x4 x5 x6 x7).map fun p=>ci ρ p.2)=(iP fs W pts g x4 x5 x6 x7).map (·.2):=by
 simp only[List.map_cons,List.map_nil,List.cons.injEq,and_true]at hρ;obtain⟨e1,e2,e3,e4,e6,e7⟩:=hρ;simp only[iP,List.map_cons,List.map_nil,ci,Option.map_some,Option.map_none,f9,oa,A4 hW,bQ,aQ,e1,e6,e7,h5 ρ e2 e3 e4,h6 ρ e2 e3 e4,h7 ρ e2 e3 e4]
theorem GX{i:Nat}:((GW fs W pts g i).map fun p=>ci ρ p.2)=(GW fs W pts g i).map (·.2):=by
 simp only[List.map_cons,List.map_nil,List.cons.injEq,and_true]at hρ;obtain⟨e1,e2,e3,e4,e6,e7⟩:=hρ;simp only[GW,List.map_cons,List.map_nil,ci,Option.map_some,Option.map_none,f9,oa,A4 hW,bQ,aQ,e1,e2,e3,e4,e6,e7]
end
abbrev B9:List Nat:=[500000,499904,500002,500003,500004,500005,500382,500191,600003]
theorem A5{A B ex ex':List (Nat×aL)}{ar:List AV}(hA:A.map (·.1)=Iv)(hB:B.map (·.1)=Iv)(hx:ex.map (·.1)=[600003])(hx':ex'.map (·.1)=[600003])(ha:bQ (dC B9 1000000) ar=ar)
    (rA:(A.map fun p=>ci (dC B9 1000000) p.2)=A.map (·.2)) (rB:(B.map fun p=>ci (dC B9 1000000) p.2)=B.map (·.2)) (re:(ex.map fun p=>ci (dC B9 1000000) p.2)=ex.map (·.2)) (re':(ex'.map fun p=>ci (dC B9 1000000) p.2)=ex'.map (·.2)):
    Cln ((A ++ex).map (·.1)) 1000000 ar (A ++ex) (B ++ex'):=by
 have e:(A ++ex).map (·.1)=B9:=by rw[List.map_append,hA,hx];rfl
 rw[e];exact⟨rfl,e,by rw[List.map_append,hB,hx'];rfl,ha,by rw[List.map_append,List.map_append,rA,re],by rw[List.map_append,List.map_append,rB,re']⟩
noncomputable def bB:Code:=b6 Pg 27 1
noncomputable def Q2:Code:=GK bB
noncomputable def GY:Code:=Oc (GK (uq (uq bB)))
noncomputable def Q3:Code:=GK GY
noncomputable def Q4:Code:=GK (uq GY)
noncomputable def Q5:Code:=GK (uq (uq GY))
noncomputable def Ke:Code:=uq (uq (uq GY))
noncomputable def Kf:Code:=uq (uq (uq bB))
theorem x9:bB= .seq Q2 (.seq (.cond (.tmp 13) .skip (.exit 0)) (.seq (.block 1 (.seq Q3 (.seq Q4 (.seq Q5 Ke)))) Kf)):=by kernel_rfl
abbrev qx(fs:List Fn)(i:Nat):List (Nat×AV):=[(0,aF),(10, .d (.ro (fs.map de))),(11,dN (fs.map de).length),(12,dN i)]
section
variable{fs:List Fn}{W:List AV}{pts:List Pt}{g:Gv}{x4:Nat}{x5 x6 x7:AV}(hW:qj W)(h5:XS x5)(h6:XS x6)(h7:XS x7)(i:Nat)
include hW h5 h6 h7
theorem Q6(t:Bool)(hi:decide (i<(fs.map de).length)=t):RE 69 Q2 (qx fs i) (iP fs W pts g x4 x5 x6 x7 ++fZ) .normal (qx fs i ++[(13,dB t)]) (iP fs W pts g x4 x5 x6 x7 ++fZ):=
 dD aB named {hint:=qT 27 [(13,mU Pg i (fs.map de).length t hi)]} 2000 27 599000 69 1000000 ([]) (A5 rfl rfl rfl rfl rfl (eG hW rfl h5 h6 h7) (eG hW rfl h5 h6 h7) rfl rfl) (by kernel_rfl) (by kernel_rfl) (fun _=>by kernel_rfl)
variable(nm:List UInt8)(ps:List Pm)(res:Int)(bd:List bt)(p:Int)(hx:fs[i]? =some ⟨nm,ps,res,bd,p⟩)
include hx
theorem RI:RE 69 Q3 (qx fs i ++[(13,dB true)]) (iP fs W pts g x4 x5 x6 x7 ++fZ) .normal (qx fs i ++[(2,dN i),(3, .ptr 600003 1 0 0 1)]) (iP fs W pts g x4 x5 x6 x7 ++fB nm ps res bd p):=
 dD aB named {hint:=qT 27 [(15,zR Pg fs i _ hx)]} 2000 27 599793 69 1000000 ([]) (A5 rfl rfl rfl rfl rfl (eG hW rfl h5 h6 h7) (eG hW rfl h5 h6 h7) rfl rfl) (by kernel_rfl) (by kernel_rfl) (fun _=>by kernel_rfl)
omit hx in
theorem RJ:RE 69 Q4 (qx fs i ++[(2,dN i),(3, .ptr 600003 1 0 0 1)]) (iP fs W pts g x4 x5 x6 x7 ++fB nm ps res bd p) .normal (qx fs i ++[(3, .ptr 600003 1 0 0 1)]) (GW fs W pts g i ++fB nm ps res bd p):=
 dD aB named {} 2000 27 599000 69 1000000 ([(500000,524290098181),(500000,524291146758),(500000,524292195335)]) (A5 rfl rfl rfl rfl rfl (eG hW rfl h5 h6 h7) (GX hW rfl) rfl rfl) (by kernel_rfl) (by kernel_rfl) (fun _=>by kernel_rfl)
end
end Go.Avm
namespace Go.Avm
open Go.Proofs
def bS(fs:List Fn)(W:List AV)(pts:List Pt)(g:Gv)(i:Nat):CK:=⟨fs,i,W,0,⟨[],[],⟨[],0⟩,pts⟩,g.vh+1,g.vs+1,g.vq+1,g.vp,g.vv+1⟩
theorem RK{X:cf}{env:Nat→AV}(fs:List Fn)(W:List AV)(pts:List Pt)(g:Gv)(i:Nat)(ee:aL)(hi:W[i]? =some .nils)(rest:ab):Weak X ⟨env,al (GW fs W pts g i ++[(600003,ee)]) rest⟩ ⟨env,al (ck (bS fs W pts g i) ++[(600003,ee)]) rest⟩:=by
 have w:=kc (X:=X) (env:=env) (h:=al (GW fs W pts g i ++[(600003,ee)]) rest) (C:=500191) (K:=500005) (a:=i) (sz:=4) (ces:=W) (by decide) (by simp[al,aK]) hi;refine w.trans (jG fun k=> ?_);have e:(al (GW fs W pts g i ++[(600003,ee)]) rest 500005).ver=g.vv:=by simp[al,aK]
 have e2:(al (GW fs W pts g i ++[(600003,ee)]) rest 500191).ver=1:=by simp[al,aK]
 rw[e,e2];simp only[GW,ck,AL,bS,lB,List.map_nil,List.length_nil,kz,gC,cz,aZ,List.cons_append,List.nil_append,al,aK];by_cases h0:k=500000
 ·subst h0;simp
 by_cases h1:k=499904
 ·subst h1;simp
 by_cases h2:k=500002
 ·subst h2;simp
 by_cases h3:k=500003
 ·subst h3;simp
 by_cases h4:k=500004
 ·subst h4;simp
 by_cases h5:k=500005
 ·subst h5;simp
 by_cases h6:k=500382
 ·subst h6;simp
 by_cases h7:k=500191
 ·subst h7;simp
 by_cases h8:k=600003
 ·subst h8;simp
 simp only[h0,h1,h2,h3,h4,h5,h6,h7,h8,if_false];simp
theorem Eg(n:Nat)(h:ab):∀r:List D,fh (view (n+1) h) (r.map .d)=some (r,[])
 |[]=>rfl
 |x::r=>by
  rw[List.map_cons,fh,Eg n h r];rfl
theorem sL{h:ab}{K v sz n:Nat}{ds:List D}(hk:h K=⟨v,some (.arr sz (ds.map .d))⟩):view (n+2) h (.sl K v 0 ds.length sz)=some (.ro ds,[K]):=by
 unfold view;simp only[hk,true_and,List.length_map,Nat.zero_add,Nat.le_refl,if_true,List.drop_zero];rw[List.take_of_length_le (by simp),Eg];rfl
def zT(vs:List Vr):AV:= .d (.ro (vs.map wC))
theorem RM{X:cf}{env:Nat→AV}(S:CK)(h0:S.deep=0)(hi:S.fn<S.W.length)(ee:aL)(rest:ab):Weak X ⟨env,al (ck S ++[(600003,ee)]) rest⟩ ⟨env,al (iP S.fs (S.W.set S.fn (zT S.c.vars)) S.c.pts ⟨S.vh,S.vs,S.vq,S.vv+1,S.vp⟩ S.fn (.mp 500002 S.vh) (.mp 500003 S.vs) (.mp 500004 S.vq) ++[(600003,ee)]) rest⟩:=by
 have ev:S.c.vars.map yI=(S.c.vars.map wC).map .d:=by simp[yI]
 have hl:S.c.vars.length=(S.c.vars.map wC).length:=by simp
 have w:=gM (X:=X) (env:=env) (h:=al (ck S ++[(600003,ee)]) rest) (C:=500191) (a:=S.fn) (n:=2) (ces:=S.W.set S.fn (lB S.vv S.c.vars)) (x:=lB S.vv S.c.vars) (d:= .ro (S.c.vars.map wC)) (ks:=[500005]) (by decide) (by simp[al,aK]) (by simp[hi]) rfl (by
  unfold lB;rw[hl];exact sL (n:=0) (by rw[←ev];simp[al,aK]))
 refine w.trans (jG fun k=> ?_);have e2:(al (ck S ++[(600003,ee)]) rest 500191).ver=1:=by simp[al,aK]
 rw[e2,List.set_set]
 have e3:∀k,aK (aq (al (ck S ++[(600003,ee)]) rest) (kill (al (ck S ++[(600003,ee)]) rest) [500005])) 500191 ⟨1,some (.arr 1 (S.W.set S.fn (.d (.ro (S.c.vars.map wC)))))⟩ k=if k=500191 then ⟨1,some (.arr 1 (S.W.set S.fn (.d (.ro (S.c.vars.map wC)))))⟩else if k=500005 then ⟨S.vv+1,none⟩else al (ck S ++[(600003,ee)]) rest k:=fun k=>by
  simp only[aK];split
  ·rfl
  ·rw[bu]
   simp only[List.mem_singleton];split
   ·rename_i h5
    subst h5;simp[al,aK]
   ·rfl
 rw[e3];simp only[iP,ck,AL,h0,zT,List.cons_append,List.nil_append,al,aK];by_cases h0:k=500000
 ·subst h0;simp
 by_cases h1:k=499904
 ·subst h1;simp
 by_cases h2:k=500002
 ·subst h2;simp
 by_cases h3:k=500003
 ·subst h3;simp
 by_cases h4:k=500004
 ·subst h4;simp
 by_cases h5:k=500005
 ·subst h5;simp
 by_cases h6:k=500382
 ·subst h6;simp
 by_cases h7:k=500191
 ·subst h7;simp
 by_cases h8:k=600003
 ·subst h8;simp
 simp only[h0,h1,h2,h3,h4,h5,h6,h7,h8,if_false];simp
noncomputable def O6{S:CK}{fs:List Fn}{i:Nat}{nm:List UInt8}{ps:List Pm}{res:Int}{bd:List bt}{p:Int}{x:aD}{l':List (Nat×AV)}{hp':List (Nat×aL)}(h:RL 69 (lO 27 5) (It fs i ps 0) (ck S ++fB nm ps res bd p) x l' hp'):dJ Pg:=
 ⟨69,b6 Pg 27 5,It fs i ps 0,fun _=>ck S ++fB nm ps res bd p,x,l',fun _=>hp',fun rest X hP hN=>(h rest X hP hN).aw⟩
abbrev O7(S S':CK)(l:List bt):Prop:=HC 49 [aF, .d (.ro (dY l))] (ck S) [] (ck S')
section
variable{S S':CK}(h:CKok S)(fs:List Fn)(i:Nat)(nm:List UInt8)(ps:List Pm)(res:Int)(bd:List bt)(p:Int)
include h
theorem RN(h':CKok S')(c:∀(rest:ab)(X:cf),X.P=Pg→X.N=69→LW X (lO 27 5) ⟨an (It fs i ps 0),al (ck S ++fB nm ps res bd p) rest⟩ fun e' S2=>e'= .exit 2∧S2=⟨an (Ed fs i),al (ck S' ++fB nm ps res bd p) rest⟩):
    ∀(rest:ab)(X:cf),X.P=Pg→X.N=69→AW X Q5 ⟨an (qx fs i ++[(3, .ptr 600003 1 0 0 1)]),al (ck S ++fB nm ps res bd p) rest⟩ fun e' S2=>e'= .normal∧S2=⟨an (Ed fs i),al (ck S' ++fB nm ps res bd p) rest⟩:=
 dD aB named ({loops:=fun f q=>if f=27 then (if q=5 then some (O6 c)else none)else none}) 2000 27 599000 69 1000000 ([]) (gD h h' rfl rfl rfl rfl rfl rfl) (by kernel_rfl) (by kernel_rfl) (fun _=>by kernel_rfl)
theorem O8(g:Gv)(q e:Int)(c:HX 49 [aF, .d (.ro (dY bd))] (ck S) (aE q e) (ct g)):
    ∀(rest:ab)(X:cf),X.P=Pg→X.N=69→AW X Ke ⟨an (Ed fs i),al (ck S ++fB nm ps res bd p) rest⟩ fun e' S2=>e'= .panic (aE q e)∧S2=⟨an [],al (ct g ++fG) rest⟩:=
 dD aB named {pans:=au Pg [(27,9,599000,⟨3,some (be c),[]⟩)]} 2000 27 599000 69 1000000 ([]) (lD h rfl rfl rfl rfl rfl rfl) (by kernel_rfl) (by kernel_rfl) (fun _=>by kernel_rfl)
variable(h':CKok S')(c:O7 S S' bd)
include h' c
theorem O9(h0:(res==0)=true):∀(rest:ab)(X:cf),X.P=Pg→X.N=69→AW X Ke ⟨an (Ed fs i),al (ck S ++fB nm ps res bd p) rest⟩ fun e' S2=>e'= .normal∧S2=⟨an (qx fs i),al (ck S' ++fG) rest⟩:=
 dD aB named {hint:=qT 27 [(59,qB h0)],calls:=tC [(27,56,599207,af c),(27,67,599690,bc rfl (aO p 12))]} 2000 27 599000 69 1000000 ([]) (gD h h' rfl rfl rfl rfl rfl rfl) (by kernel_rfl) (by kernel_rfl) (fun _=>by kernel_rfl)
theorem Pa(h0:(res==0)=false)(ee:jo bd true):∀(rest:ab)(X:cf),X.P=Pg→X.N=69→AW X Ke ⟨an (Ed fs i),al (ck S ++fB nm ps res bd p) rest⟩ fun e' S2=>e'= .normal∧S2=⟨an (qx fs i),al (ck S' ++fG) rest⟩:=
 dD aB named {hint:=qT 27 [(59,qB h0)],calls:=tC [(27,56,599207,af c),(27,63,599621,bc rfl ee),(27,67,599828,bc rfl (aO p 12))]} 2000 27 599000 69 1000000 ([]) (gD h h' rfl rfl rfl rfl rfl rfl) (by kernel_rfl) (by kernel_rfl) (fun _=>by kernel_rfl)
theorem Pb(h0:(res==0)=false)(ee:jo bd false):∀(rest:ab)(X:cf),X.P=Pg→X.N=69→AW X Ke ⟨an (Ed fs i),al (ck S ++fB nm ps res bd p) rest⟩ fun e' S2=>e'= .panic (aE p 12)∧S2=⟨an [],al (ct S'.gv ++fG) rest⟩:=
 dD aB named {hint:=qT 27 [(59,qB h0)],calls:=tC [(27,56,599207,af c),(27,63,599621,bc rfl ee)],pans:=au Pg [(27,10,599207,⟨10,some (be (bU p 12)),[]⟩)]} 2000 27 599000 69 1000000 ([]) (lD h rfl rfl rfl rfl rfl rfl) (by kernel_rfl) (by kernel_rfl) (fun _=>by kernel_rfl)
end
theorem Pc{fs:List Fn}{W:List AV}{pts:List Pt}{g:Gv}{x4:Nat}{x5 x6 x7:AV}(hW:qj W)(h5:XS x5)(h6:XS x6)(h7:XS x7)(i:Nat)(hi:i<1000000):RE 69 Kf (qx fs i) (iP fs W pts g x4 x5 x6 x7 ++fG) .normal (qx fs (i+1)) (iP fs W pts g x4 x5 x6 x7 ++fG):=
 dD aB named {hint:=qT 27 [(68,dL Pg i (by omega))]} 2000 27 599000 69 1000000 ([]) (A5 rfl rfl rfl rfl rfl (eG hW rfl h5 h6 h7) (eG hW rfl h5 h6 h7) rfl rfl) (by kernel_rfl) (by kernel_rfl) (fun _=>by kernel_rfl)
end Go.Avm
namespace Go.Avm
open Go.Proofs
structure Eh(fs:List Fn)(m:Nat):Prop where
 len:fs.length<1000000
 par:∀f∈fs,f.ps.length≤6
 nod:∀f∈fs,(f.ps.map (·.nm)).Nodup
 nml:∀f∈fs,∀p∈f.ps,p.nm.length≤1000000
 sh:∀f∈fs,jn m f.bd
 m:m<1000000
theorem A6:∀{m:Nat}{l:List bt},jn m l→l.length<1000000∧∀x∈l,my x
 |0,_,h=>h.elim
 |_+1,_,h=>⟨h.1,fun x hx=>by
  have h2:=h.2 x hx;obtain⟨k,id,nm,ty,n,p,es,bd,el⟩:=x;exact Ig h2.1 h2.2⟩
theorem Iw{fs:List Fn}{m:Nat}(ok:Eh fs m){W:List AV}{pts:List Pt}{g:Gv}{i:Nat}(hi:i<fs.length)(hl:W.length=fs.length)(hW:qj W)(hp:pts.length<1000000000):CKok (bS fs W pts g i) where
 fn:=hi
 W:=hl
 dat:=hW
 len:=ok.len
 par:=ok.par
 vars:=Nat.zero_le _
 seen:=fun p hp=>by cases hp
 inc:=List.Pairwise.nil
 nms:=List.nodup_nil
 nml:=fun p hp=>by cases hp
 had:=fun p hp=>by cases hp
 sk:=List.nodup_nil
 sb:=List.nodup_nil
 sc:=fun p hp=>by cases hp
 sv:=fun p hp=>by cases hp
 pts:=hp
theorem we{B ex:List (Nat×aL)}(hB:B.map (·.1)=Iv)(R:ab)(k:Nat)(hk:k∈Iv):al (B ++ex) R k=al B (al (B ++ex) R) k:=by
 have h1:al (B ++ex) R k=al B (al ex R) k:=by rw[lE R]
 rw[h1];exact gu B _ _ (by rw[hB];exact hk)
theorem Ei{k:Nat}(hk:1000000≤k):k∉Iv:=fun h=>by
 simp only[Iv,List.mem_cons,List.not_mem_nil,or_false]at h;omega
theorem qy{A B ex:List (Nat×aL)}(hA:A.map (·.1)=Iv)(hB:B.map (·.1)=Iv)(hx:ex.map (·.1)=[600003])(R:ab)(k:Nat)(hk:1000000≤k):al (B ++ex) R k=al A R k:=by
 rw[lE R,bZ B _ (by rw[hB];exact Ei hk),bZ A _ (by rw[hA];exact Ei hk),bZ ex _ (by rw[hx,List.mem_singleton];omega)]
theorem gO(A:List (Nat×aL))(rest:ab):al (A ++fZ) (ey 1000000 rest)=al A (ey 1000000 rest):=by
 rw[lE rest];congr 1;funext k;simp only[fZ,al,aK];by_cases h:k=600003
 ·subst h
  rfl
 ·rw[if_neg h]
def Kg(fs:List Fn)(W:List AV)(pts:List Pt)(g:Gv)(x4:Nat)(x5 x6 x7:AV)(i:Nat):TR (List Vr×List Pt)→Prop
 | .ok q=>q.2.length<1000000000∧∃g':Gv,RE 69 bB (qx fs i) (iP fs W pts g x4 x5 x6 x7) .normal (qx fs (i+1)) (iP fs (W.set i (zT q.1)) q.2 g' i (.mp 500002 g'.vh) (.mp 500003 g'.vs) (.mp 500004 g'.vq))
 | .bad p e=>∃g':Gv,RE 69 bB (qx fs i) (iP fs W pts g x4 x5 x6 x7) (.panic (aE p e)) [] (ct g')
 | .out=>True
theorem cd(v:Nat):XS (.mp 500002 v):=fun ρ h _ _=>by simp only[aQ,h]
theorem Pd(v:Nat):XS (.mp 500003 v):=fun ρ _ h _=>by simp only[aQ,h]
theorem Pe(v:Nat):XS (.mp 500004 v):=fun ρ _ _ h=>by simp only[aQ,h]
theorem Ej{W:List AV}(h:qj W)(i:Nat)(vs:List Vr):qj (W.set i (zT vs)):=fun x hx=>by
 rcases List.mem_or_eq_of_mem_set hx with hx|rfl
 ·exact h x hx
 ·exact .inr ⟨_,rfl⟩
section
variable{fs:List Fn}{m:Nat}(ok:Eh fs m){W:List AV}(hl:W.length=fs.length)(hW:qj W){pts:List Pt}(hp:pts.length<1000000000)(g:Gv)(x4:Nat){x5 x6 x7:AV}(h5:XS x5)(h6:XS x6)(h7:XS x7){i:Nat}
include ok hl hW hp h5 h6 h7
theorem Kh{nm:List UInt8}{ps:List Pm}{res:Int}{bd:List bt}{p:Int}(hx:fs[i]? =some ⟨nm,ps,res,bd,p⟩)(hn:W[i]? =some .nils){S1:CK}(k1:CKok S1)
    (c5:∀(rest:ab)(X:cf),X.P=Pg→X.N=69→LW X (lO 27 5) ⟨an (It fs i ps 0),al (ck (bS fs W pts g i) ++fB nm ps res bd p) rest⟩ fun e' S2=>e'= .exit 2∧S2=⟨an (Ed fs i),al (ck S1 ++fB nm ps res bd p) rest⟩)
    (Q:aD→St→Prop) (R:ab) (X:cf) (hP:X.P=Pg) (hN:X.N=69) (hc:AW X Ke ⟨an (Ed fs i),al (ck S1 ++fB nm ps res bd p) R⟩ (rG 1 (Aw (fun S'=>AW X Kf S' Q) Q))):
    AW X bB ⟨an (qx fs i),al (iP fs W pts g x4 x5 x6 x7 ++fZ) R⟩ Q:=by
 have hi:i<fs.length:=(List.getElem?_eq_some_iff.1 hx).1;rw[x9];refine dz ((Q6 hW h5 h6 h7 i true (by simpa using hi) R X hP hN).mono ?_);rintro _ _ ⟨rfl,rfl⟩;refine dz (gG (b:=true) rfl (fun _=>nE ?_) (fun h=>by cases h));refine dz (iE (dz ((RI hW h5 h6 h7 i nm ps res bd p hx R X hP hN).mono ?_)));rintro _ _ ⟨rfl,rfl⟩;refine dz ((RJ hW h5 h6 h7 i nm ps res bd p R X hP hN).mono ?_);rintro _ _ ⟨rfl,rfl⟩;refine AW.weak (RK fs W pts g i _ hn R) (dz ((RN (Iw ok hi hl hW hp) fs i nm ps res bd p k1 c5 R X hP hN).mono ?_));rintro _ _ ⟨rfl,rfl⟩;exact hc
theorem Ki{f:Fn}(hx:fs[i]? =some f)(hn:W[i]? =some .nils):Kg fs W pts g x4 x5 x6 x7 i (pR fs i f pts):=by
 have hi:i<fs.length:=(List.getElem?_eq_some_iff.1 hx).1;have hf:f∈fs:=List.mem_of_getElem? hx;have g1:=ok.nod f hf;have g2:=ok.par f hf;have g3:=ok.nml f hf;have g4:=ok.sh f hf;have hm:=ok.m;have h0:=Iw ok (g:=g) hi hl hW hp;obtain⟨nm,ps,res,bd,p⟩:=f;simp only at g1 g2 g3 g4;obtain⟨S1,nx1,c5⟩:=Iu (fs:=fs) i nm ps res bd p g1 g2 g3 _ 0 (bS fs W pts g i) rfl (Nat.zero_le _) h0 rfl;rw[List.drop_zero]at nx1;have a1:At ⟨fs,i,0⟩ S1:=⟨nx1.ok,nx1.fs,nx1.fn,nx1.deep⟩
 have cb:=DR (A6 g4).1 (zS m ⟨fs,i,0⟩ bd g4 (by simp) (by simp only;omega)) (A6 g4).2 S1 a1;rw[nx1.c]at cb;have ee:=sr m bd g4;have ch:=fun Q R X hP hN hc=>Kh ok hl hW hp g x4 h5 h6 h7 (i:=i) hx hn nx1.ok c5 Q R X hP hN hc
 unfold pR;show Kg _ _ _ _ _ _ _ _ _ ((eO ⟨fs,i,0⟩ bd (ps.foldl CS.par ⟨[],[],⟨[],0⟩,pts⟩)).bind fun c=>bif res==0||du bd then .ok (c.vars,c.pts)else .bad p 12);have ec:(bS fs W pts g i).c=⟨[],[],⟨[],0⟩,pts⟩:=rfl;rw[ec]at cb;revert cb;cases eO ⟨fs,i,0⟩ bd (ps.foldl CS.par ⟨[],[],⟨[],0⟩,pts⟩)with
 |out=>exact fun _=>trivial
 |bad q e=>
  rintro⟨g',c⟩;refine⟨g',oh (M:=1000000) (N:=69) (l':=[]) ⟨rfl,rfl,rfl,rfl,eG hW rfl h5 h6 h7,rfl⟩ rfl rfl fun rest X hP hN=> ?_⟩;rw[←gO];refine ch _ _ X hP hN ((O8 nx1.ok fs i nm ps res bd p g' q e c _ X hP hN).mono ?_);rintro _ _ ⟨rfl,rfl⟩;exact⟨rfl,rfl,fun k hk=>we rfl _ k hk,fun k hk=>(qy (A:=iP fs W pts g x4 x5 x6 x7) rfl rfl rfl _ k hk).trans (congrFun (gO _ rest).symm k)⟩
 |ok c=>
  rintro⟨S2,nx2,c2⟩;have e1:S2.fs=fs:=nx2.fs.trans nx1.fs;have e2:S2.fn=i:=nx2.fn.trans nx1.fn;have e3:S2.deep=0:=nx2.deep.trans nx1.deep;have e4:S2.W=W:=nx2.W.trans nx1.W;have e5:S2.c=c:=nx2.c
  have good:(RE 69 Ke (Ed fs i) (ck S1 ++fB nm ps res bd p) .normal (qx fs i) (ck S2 ++fG))→Kg fs W pts g x4 x5 x6 x7 i (.ok (c.vars,c.pts)):=fun c9=>by
   refine⟨by rw[←e5];exact nx2.ok.pts,⟨S2.vh,S2.vs,S2.vq,S2.vv+1,S2.vp⟩,oh (M:=1000000) (N:=69) ⟨rfl,rfl,rfl,rfl,eG hW rfl h5 h6 h7,eG (Ej hW i _) rfl (cd _) (Pd _) (Pe _)⟩ rfl rfl fun rest X hP hN=> ?_⟩;rw[←gO];refine ch _ _ X hP hN ((c9 _ X hP hN).mono ?_);rintro _ _ ⟨rfl,rfl⟩;have w:=RM (X:=X) (env:=an (qx fs i)) S2 e3 (by rw[e2,e4,hl];exact hi) ⟨1,none⟩ (ey 1000000 rest);rw[e1,e2,e4,e5]at w;refine AW.weak w ((Pc (Ej hW i _) (cd _) (Pd _) (Pe _) i (by have:=ok.len;omega) _ X hP hN).mono ?_);rintro _ _ ⟨rfl,rfl⟩;exact⟨rfl,rfl,fun k hk=>we rfl _ k hk,fun k hk=>(qy (A:=iP fs W pts g x4 x5 x6 x7) rfl rfl rfl _ k hk).trans (congrFun (gO _ rest).symm k)⟩
  simp only[TR.bind];cases hr:(res==0)with
  |true=>exact good (O9 nx1.ok fs i nm ps res bd p nx2.ok c2 hr)
  |false=>
   unfold mz at ee;revert ee;cases du bd with
   |true=>exact fun ee=>good (Pa nx1.ok fs i nm ps res bd p nx2.ok c2 hr ee)
   |false=>
    intro ee;simp only[Bool.or_self,cond_false];refine⟨S2.gv,oh (M:=1000000) (N:=69) (l':=[]) ⟨rfl,rfl,rfl,rfl,eG hW rfl h5 h6 h7,rfl⟩ rfl rfl fun rest X hP hN=> ?_⟩;rw[←gO];refine ch _ _ X hP hN ((Pb nx1.ok fs i nm ps res bd p nx2.ok c2 hr ee _ X hP hN).mono ?_);rintro _ _ ⟨rfl,rfl⟩;exact⟨rfl,rfl,fun k hk=>we rfl _ k hk,fun k hk=>(qy (A:=iP fs W pts g x4 x5 x6 x7) rfl rfl rfl _ k hk).trans (congrFun (gO _ rest).symm k)⟩
end
def gi(rows:List (List Vr))(n:Nat):List AV:=rows.map zT ++List.replicate (n-rows.length) .nils
theorem Ca{rows:List (List Vr)}{n:Nat}(h:rows.length≤n):(gi rows n).length=n:=by
 simp only[gi,List.length_append,List.length_map,List.length_replicate];omega
theorem jN(rows:List (List Vr))(n:Nat):qj (gi rows n):=fun x hx=>by
 rcases List.mem_append.1 hx with hx|hx
 ·obtain⟨r,_,rfl⟩:=List.mem_map.1 hx
  exact .inr ⟨_,rfl⟩
 ·exact .inl (List.eq_of_mem_replicate hx)
theorem Cb{rows:List (List Vr)}{n:Nat}(h:rows.length<n):(gi rows n)[rows.length]? =some .nils:=by
 unfold gi;rw[List.getElem?_append_right (by simp),List.length_map,Nat.sub_self,List.getElem?_replicate,if_pos (by omega)]
theorem Cc{rows:List (List Vr)}{n:Nat}(h:rows.length<n)(r:List Vr):(gi rows n).set rows.length (zT r)=gi (rows ++[r]) n:=by
 unfold gi;rw[List.set_append_right _ _ (by simp),List.length_map,Nat.sub_self,List.map_append,List.append_assoc];congr 1;obtain⟨k,hk⟩:∃k,n-rows.length=k+1:=⟨n-rows.length-1,by omega⟩
 rw[hk,List.replicate_succ,List.set_cons_zero,List.length_append,List.length_singleton,show n-(rows.length+1)=k by omega];rfl
def MH(fs:List Fn)(W:List AV)(pts:List Pt)(g:Gv)(x4:Nat)(x5 x6 x7:AV)(i:Nat):TR (List (List Vr)×List Pt)→Prop
 | .ok q=>q.2.length<1000000000∧q.1.length=fs.length∧∃(g':Gv)(y4:Nat)(y5 y6 y7:AV),XS y5∧XS y6∧XS y7∧RL 69 bB (qx fs i) (iP fs W pts g x4 x5 x6 x7) (.exit 0) [(0,aF)] (iP fs (gi q.1 fs.length) q.2 g' y4 y5 y6 y7)
 | .bad p e=>∃g':Gv,RL 69 bB (qx fs i) (iP fs W pts g x4 x5 x6 x7) (.panic (aE p e)) [] (ct g')
 | .out=>True
theorem MI{fs:List Fn}{W:List AV}{pts:List Pt}{g:Gv}{x4:Nat}{x5 x6 x7:AV}(hW:qj W)(h5:XS x5)(h6:XS x6)(h7:XS x7)(rest:ab)(X:cf)(hP:X.P=Pg)(hN:X.N=69):AW X bB ⟨an (qx fs fs.length),al (iP fs W pts g x4 x5 x6 x7) rest⟩ fun e' S'=>e'= .exit 0∧S'=⟨an [(0,aF)],al (iP fs W pts g x4 x5 x6 x7) rest⟩:=by
 refine oh (M:=1000000) (N:=69) ⟨rfl,rfl,rfl,rfl,eG hW rfl h5 h6 h7,eG hW rfl h5 h6 h7⟩ rfl rfl (fun rest X hP hN=> ?_) rest X hP hN;rw[←gO,x9];refine dz ((Q6 hW h5 h6 h7 fs.length false (by simp) _ X hP hN).mono ?_);rintro _ _ ⟨rfl,rfl⟩;refine dz (gG (b:=false) rfl (fun h=>by cases h) (fun _=>lQ (qp ⟨⟨an [(0,aF)],al (iP fs W pts g x4 x5 x6 x7 ++fZ) (ey 1000000 rest)⟩, ?_,rfl,rfl,fun k hk=>we rfl _ k hk,fun k hk=>(qy (A:=iP fs W pts g x4 x5 x6 x7) rfl rfl rfl _ k hk).trans (congrFun (gO _ rest).symm k)⟩)))
 exact og (fun q hq=>by
  rw[List.mem_singleton]at hq;subst hq;rfl) rfl
theorem Ix{fs:List Fn}{m:Nat}(ok:Eh fs m):∀(uo pre:List Fn)(rows:List (List Vr))(pts:List Pt)(g:Gv)(x4:Nat)(x5 x6 x7:AV),fs=pre ++uo→rows.length=pre.length→pts.length<1000000000→XS x5→XS x6→XS x7→
    MH fs (gi rows fs.length) pts g x4 x5 x6 x7 pre.length (f3 fs pre.length uo rows pts)
 |[],pre,rows,pts,g,x4,x5,x6,x7,h,hr,hp,h5,h6,h7=>by
  have:fs=pre:=by rw[h,List.append_nil]
  subst this;exact⟨hp,hr,g,x4,x5,x6,x7,h5,h6,h7,fun rest X hP hN=>aY (MI (jN _ _) h5 h6 h7 rest X hP hN) (by simp)⟩
 |f::uo,pre,rows,pts,g,x4,x5,x6,x7,h,hr,hp,h5,h6,h7=>by
  have hlt:pre.length<fs.length:=by rw[h];simp
  have hx:fs[pre.length]? =some f:=by rw[h];simp
  have c:=Ki ok (Ca (by omega)) (jN rows fs.length) hp g x4 h5 h6 h7 hx (by rw[←hr];exact Cb (by omega));simp only[f3];revert c;cases pR fs pre.length f pts with
  |out=>exact fun _=>trivial
  |bad p e=>exact fun ⟨g',c⟩=>⟨g',fun rest X hP hN=>aY (c rest X hP hN) (by simp)⟩
  |ok q=>
   rintro⟨hq,g',c⟩
   have e1:(gi rows fs.length).set pre.length (zT q.1)=gi (rows ++[q.1]) fs.length:=by
    rw[←hr];exact Cc (by omega) q.1
   rw[e1]at c;have ih:=Ix ok uo (pre ++[f]) (rows ++[q.1]) q.2 g' pre.length (.mp 500002 g'.vh) (.mp 500003 g'.vs) (.mp 500004 g'.vq) (by rw[h];simp) (by simp[hr]) hq (cd _) (Pd _) (Pe _);have e2:(pre ++[f]).length=pre.length+1:=by simp
   rw[e2]at ih;simp only[TR.bind];revert ih;cases f3 fs (pre.length+1) uo (rows ++[q.1]) q.2 with
   |out=>exact fun _=>trivial
   |bad p e=>exact fun ⟨g2,ih⟩=>⟨g2,fun rest X hP hN=>aX (c rest X hP hN) (ih rest X hP hN)⟩
   |ok r=>exact fun ⟨i1,i2,g2,y4,y5,y6,y7,z5,z6,z7,ih⟩=>⟨i1,i2,g2,y4,y5,y6,y7,z5,z6,z7,fun rest X hP hN=>aX (c rest X hP hN) (ih rest X hP hN)⟩
end Go.Avm
namespace Go.Avm
open Go.Proofs
noncomputable def MJ{fs:List Fn}{W:List AV}{pts:List Pt}{g:Gv}{x4:Nat}{x5 x6 x7:AV}{x:aD}{l':List (Nat×AV)}{hp':List (Nat×aL)}(h:RL 69 bB (qx fs 0) (iP fs W pts g x4 x5 x6 x7) x l' hp'):dJ Pg:=
 ⟨69,bB,qx fs 0,fun _=>iP fs W pts g x4 x5 x6 x7,x,l',fun _=>hp',fun rest X hP hN=>(h rest X hP hN).aw⟩
section
variable{fs:List Fn}{W W':List AV}(hW:qj W)(hW':qj W'){pts pts':List Pt}{g g':Gv}{x4 y4:Nat}{x5 x6 x7 y5 y6 y7:AV}(h5:XS x5)(h6:XS x6)(h7:XS x7)(z5:XS y5)(z6:XS y6)(z7:XS y7)
include hW h5 h6 h7
theorem Cd(p e:Int)(c:RL 69 bB (qx fs 0) (iP fs W pts g x4 x5 x6 x7) (.panic (aE p e)) [] (ct g')):HX 27 [aF] (iP fs W pts g x4 x5 x6 x7) (aE p e) (ct g'):=
 ae aB named ({loops:=fun f q=>if f=27 then (if q=1 then some (MJ c)else none)else none}) 2000 2000 _ 1000000 (⟨rfl,rfl,rfl,rfl,eG hW rfl h5 h6 h7,rfl⟩) (by kernel_rfl) (fun _=>by kernel_rfl)
include hW' z5 z6 z7
theorem Ek(c:RL 69 bB (qx fs 0) (iP fs W pts g x4 x5 x6 x7) (.exit 0) [(0,aF)] (iP fs W' pts' g' y4 y5 y6 y7)):HC 27 [aF] (iP fs W pts g x4 x5 x6 x7) [] (iP fs W' pts' g' y4 y5 y6 y7):=
 ag aB named ({loops:=fun f q=>if f=27 then (if q=1 then some (MJ c)else none)else none}) 2000 2000 _ 1000000 (⟨rfl,rfl,rfl,rfl,eG hW rfl h5 h6 h7,eG hW' rfl z5 z6 z7⟩) (fun _=>by kernel_rfl)
end
def eh(rows:List (List Vr)):List D:=rows.map fun vs=> .ro (vs.map wC)
def wg(pts:List Pt):List D:=pts.map H6
abbrev Pf(fs:List Fn)(rows:List (List Vr))(pts:List Pt)(g:Gv)(x4:Nat)(x5 x6 x7:AV):List (Nat×aL):=
 [(500000,⟨1,some (.arr 1 [.mp 499904 1, .d (.ro (fs.map de)), .d (.ro (eh rows)), .d (.ro (wg pts)),dN x4,x5,x6,x7,dI 0])⟩),(499904,⟨1,none⟩),(500002,⟨g.vh,none⟩),(500003,⟨g.vs,none⟩),(500004,⟨g.vq,none⟩),(500005,⟨g.vv,none⟩),(500382,⟨g.vp+1,none⟩),(500191,⟨2,none⟩)]
theorem El{X:cf}{env:Nat→AV}(fs:List Fn)(rows:List (List Vr))(hr:rows.length=fs.length)(pts:List Pt)(g:Gv)(x4:Nat)(x5 x6 x7:AV)(rest:ab):Weak X ⟨env,al (iP fs (gi rows fs.length) pts g x4 x5 x6 x7) rest⟩ ⟨env,al (Pf fs rows pts g x4 x5 x6 x7) rest⟩:=by
 have e1:gi rows fs.length=(eh rows).map .d:=by
  unfold gi eh;rw[hr,Nat.sub_self,List.replicate_zero,List.append_nil,List.map_map];rfl
 have l1:fs.length=(eh rows).length:=by rw[←hr];simp[eh]
 have l2:pts.length=(wg pts).length:=by simp[wg]
 have e2:pts.map cr=(wg pts).map .d:=by simp[wg,cr]
 rw[e1]
 have w1:=gM (X:=X) (env:=env) (h:=al (iP fs ((eh rows).map .d) pts g x4 x5 x6 x7) rest) (C:=500000) (a:=2) (n:=2) (ces:=[.mp 499904 1, .d (.ro (fs.map de)), .sl 500191 1 0 fs.length 1, .sl 500382 g.vp 0 pts.length 3,dN x4,x5,x6,x7,dI 0]) (x:= .sl 500191 1 0 fs.length 1) (d:= .ro (eh rows)) (ks:=[500191]) (by decide) (by simp[al,aK]) rfl rfl (by
  rw[l1];exact sL (n:=0) (by simp[al,aK]))
 refine w1.trans ?_
 have h2:∀k,aK (aq (al (iP fs ((eh rows).map .d) pts g x4 x5 x6 x7) rest) (kill (al (iP fs ((eh rows).map .d) pts g x4 x5 x6 x7) rest) [500191])) 500000 ⟨(al (iP fs ((eh rows).map .d) pts g x4 x5 x6 x7) rest 500000).ver,some (.arr 1 (List.set [.mp 499904 1, .d (.ro (fs.map de)), .sl 500191 1 0 fs.length 1, .sl 500382 g.vp 0 pts.length 3,dN x4,x5,x6,x7,dI 0] 2 (.d (.ro (eh rows)))))⟩ k=if k=500000 then ⟨1,some (.arr 1 [.mp 499904 1, .d (.ro (fs.map de)), .d (.ro (eh rows)), .sl 500382 g.vp 0 pts.length 3,dN x4,x5,x6,x7,dI 0])⟩else if k=500191 then ⟨2,none⟩else al (iP fs ((eh rows).map .d) pts g x4 x5 x6 x7) rest k:=fun k=>by
  simp only[aK];split
  ·simp[al,aK]
  ·rw[bu]
   simp only[List.mem_singleton];split
   ·rename_i h5
    subst h5;simp[al,aK]
   ·rfl
 rw[show(aK (aq (al (iP fs ((eh rows).map .d) pts g x4 x5 x6 x7) rest) (kill (al (iP fs ((eh rows).map .d) pts g x4 x5 x6 x7) rest) [500191])) 500000 ⟨(al (iP fs ((eh rows).map .d) pts g x4 x5 x6 x7) rest 500000).ver,some (.arr 1 (List.set [.mp 499904 1, .d (.ro (fs.map de)), .sl 500191 1 0 fs.length 1, .sl 500382 g.vp 0 pts.length 3,dN x4,x5,x6,x7,dI 0] 2 (.d (.ro (eh rows)))))⟩)=_ from funext h2];generalize hh:(fun k=>if k=500000 then (⟨1,some (.arr 1 [.mp 499904 1, .d (.ro (fs.map de)), .d (.ro (eh rows)), .sl 500382 g.vp 0 pts.length 3,dN x4,x5,x6,x7,dI 0])⟩:aL)else if k=500191 then ⟨2,none⟩else al (iP fs ((eh rows).map .d) pts g x4 x5 x6 x7) rest k)=H
 have w2:=gM (X:=X) (env:=env) (h:=H) (C:=500000) (a:=3) (n:=2) (ces:=[.mp 499904 1, .d (.ro (fs.map de)), .d (.ro (eh rows)), .sl 500382 g.vp 0 pts.length 3,dN x4,x5,x6,x7,dI 0]) (x:= .sl 500382 g.vp 0 pts.length 3) (d:= .ro (wg pts)) (ks:=[500382]) (by decide) (by rw[←hh];simp) rfl rfl (by
  rw[l2];exact sL (n:=0) (by rw[←hh];simp[al,aK,e2]))
 refine w2.trans (jG fun k=> ?_)
 have h3:aK (aq H (kill H [500382])) 500000 ⟨(H 500000).ver,some (.arr 1 (List.set [.mp 499904 1, .d (.ro (fs.map de)), .d (.ro (eh rows)), .sl 500382 g.vp 0 pts.length 3,dN x4,x5,x6,x7,dI 0] 3 (.d (.ro (wg pts)))))⟩ k=if k=500000 then ⟨1,some (.arr 1 [.mp 499904 1, .d (.ro (fs.map de)), .d (.ro (eh rows)), .d (.ro (wg pts)),dN x4,x5,x6,x7,dI 0])⟩else if k=500382 then ⟨g.vp+1,none⟩else H k:=by
  simp only[aK];split
  ·rw[←hh];simp
  ·rw[bu]
   simp only[List.mem_singleton];split
   ·rename_i h5
    subst h5;rw[←hh];simp[al,aK]
   ·rfl
 rw[h3,←hh];simp only[Pf,iP,al,aK];by_cases h0:k=500000
 ·subst h0;simp
 by_cases h1:k=499904
 ·subst h1;simp
 by_cases h2:k=500002
 ·subst h2;simp
 by_cases h3:k=500003
 ·subst h3;simp
 by_cases h4:k=500004
 ·subst h4;simp
 by_cases h5:k=500005
 ·subst h5;simp
 by_cases h6:k=500382
 ·subst h6;simp
 by_cases h7:k=500191
 ·subst h7;simp
 simp only[h0,h1,h2,h3,h4,h5,h6,h7,if_false];simp
theorem GZ{G:Gh}{B:Nat}{w0 w:World}{I0:Nat→Nat→Prop}{h:ab}(hr:HR G B w0 I0 h w){K:Nat}{x:D}(hK:(h K).ob=some (.arr 3 [.agg [.d x, .nils, .nils]])):HR G B w0 I0 (aK h K ⟨(h K).ver,some (.arr 3 [.d (.agg [x, .ro [], .ro []])])⟩) w:=by
 refine hr.reob ?_ rfl;rcases hr.objs K _ hK with ⟨h0,_⟩|⟨L,hL,g1,g2,g3,g4,g6,g5⟩
 ·cases h0
 refine .inr ⟨L,hL,g1,g2,g3,fun e he=>by rw[List.mem_singleton]at he;subst he;rfl,(fun h=>absurd h (by decide)),fun t c ht=> ?_⟩;match t,ht with
 |0,ht=>
  cases ht;exact g5 0 (.d x) rfl
 |1,ht=>
  cases ht;obtain⟨u,hu,h1,hr⟩:=g5 1 .nils rfl;refine⟨u,hu,h1, ?_⟩;cases hr;exact .d (.roNil _ _)
 |2,ht=>
  cases ht;obtain⟨u,hu,h1,hr⟩:=g5 2 .nils rfl;refine⟨u,hu,h1, ?_⟩;cases hr;exact .d (.roNil _ _)
theorem Ce{X:cf}{env:Nat→AV}{h:ab}{K:Nat}{x:D}(hK:(h K).ob=some (.arr 3 [.agg [.d x, .nils, .nils]])):Weak X ⟨env,h⟩ ⟨env,aK h K ⟨(h K).ver,some (.arr 3 [.d (.agg [x, .ro [], .ro []])])⟩⟩:=fun G ac w ⟨hr,bs,hf,hs⟩=>⟨G,Ext.refl G w,GZ hr hK,bs,hf,hs⟩
theorem Em{P:Program}(hm:gU P){h h1:ab}(hw:∀(X:cf)(env:Nat→AV),Weak X ⟨env,h⟩ ⟨env,h1⟩){G:Gh}{B:Nat}{w0 w:World}{I0:Nat→Nat→Prop}(hr:HR G B w0 I0 h w):∃G',Ext G w G' w∧HR G' B w0 I0 h1 w:=by
 let X:cf:={P:=P,B:=B,w0:=w0,I0:=I0,N:=0,mixed:=hm}
 obtain⟨G2,e4,e5,_⟩:=hw X (fun _=> .junk) G {tmps:= #[],defers:=[]} w ⟨hr,[],⟨rfl,rfl,fun t ht=>absurd ht (by simp[X]),fun _ _=>rfl⟩,⟨List.nodup_nil,fun b hb=>by simp at hb,fun b hb=>by simp at hb,fun l hl=>by simp[X]at hl,Nat.zero_le _⟩⟩;exact⟨G2,e4,e5⟩
theorem Cf{P:Program}(hm:gU P){f:Nat}{args rs:List AV}{h h1 h2:ab}(hc:ay P f args h1 rs h2)(hw:∀(X:cf)(env:Nat→AV),Weak X ⟨env,h⟩ ⟨env,h1⟩):ay P f args h rs h2:=
 ⟨hc.1,fun G B w0 I0 w cargs hr hs hargs=>by
  obtain⟨G2,e4,e5⟩:=Em hm hw hr;exact(hc.2 G2 B w0 I0 w cargs e5 hs (fun i x u hx hu=>(hargs i x u hx hu).mono e4)).mono fun _ _ ⟨v,G',a1,a2,a3,a4⟩=>⟨v,G',a1,e4.trans a2,a3,a4⟩⟩
theorem ya{P:Program}(hm:gU P){f:Nat}{args:List AV}{x:AV}{h h1 h2:ab}(hc:iV P f args h1 x h2)(hw:∀(X:cf)(env:Nat→AV),Weak X ⟨env,h⟩ ⟨env,h1⟩):iV P f args h x h2:=
 ⟨hc.1,fun G B w0 I0 w cargs hr hs hargs=>by
  obtain⟨G2,e4,e5⟩:=Em hm hw hr;exact(hc.2 G2 B w0 I0 w cargs e5 hs (fun i x u hx hu=>(hargs i x u hx hu).mono e4)).mono fun _ _ ⟨v,G',a1,a2,a3,a4⟩=>⟨v,G',a1,e4.trans a2,a3,a4⟩⟩
abbrev Iy(fs:List Fn):List (Nat×aL):=
 [(500000,⟨1,some (.arr 1 [.mp 499904 1, .d (.ro (fs.map de)), .sl 500191 1 0 (fs.map de).length 1, .sl 500382 1 0 1 3,dI 0, .junk, .junk, .junk,dI 0])⟩),(499904,⟨1,some (.map [] 0)⟩),(500382,⟨1,some (.arr 3 [.agg [dI 0, .nils, .nils]])⟩),(500191,⟨1,some (.arr 1 (List.replicate (fs.map de).length .nils))⟩)]
theorem sM(fs:List Fn)(rest:ab)(X:cf)(env:Nat→AV):Weak X ⟨env,al (Iy fs) rest⟩ ⟨env,al (fF fs [] 0 .junk) rest⟩:=by
 have w:=Ce (X:=X) (env:=env) (h:=al (Iy fs) rest) (K:=500382) (x:= .int .i64 0) (by simp[al,aK])
 have e:aK (al (Iy fs) rest) 500382 ⟨(al (Iy fs) rest 500382).ver,some (.arr 3 [.d (.agg [.int .i64 0, .ro [], .ro []])])⟩=al (fF fs [] 0 .junk) rest:=by
  funext k;have e2:(al (Iy fs) rest 500382).ver=1:=by simp[al,aK]
  rw[e2];simp only[Iy,fF,List.length_map,al,aK];by_cases h0:k=500382
  ·subst h0;rfl
  ·simp only[h0,if_false]
 rw[e]at w;exact w
abbrev Iz(rows:List (List Vr))(pts:List Pt):D:= .agg [.ro (eh rows), .ro (wg pts)]
def Ph(P:Program)(fs:List Fn)(h:fs.length<1000000):bX P:= .mk ((fs.map de).length:Int) (by omega) (by rw[List.length_map];omega)
section
variable{fs:List Fn}(hl:fs.length<1000000)
include hl
theorem Q7(p e:Int)(c:HX 26 [aF] (Iy fs) (aE p e) yL):ax Pg 13 [.agg [.ro (fs.map de)]] [.agg [.ro [], .ro []], .int .i64 p, .int .i64 e]:=
 qV {hint:=qT 13 [(14,Ph Pg fs hl)],pans:=au Pg [(13,5,500518,⟨1,some (be c),[]⟩)]} 499774
variable(c:HC 26 [aF] (Iy fs) [] (fF fs (kz 0 fs) fs.length .junk))
include c
theorem RO(p e:Int)(g:Gv)(c2:HX 27 [aF] (iP fs (gi [] fs.length) [eC] ⟨0,0,0,0,1⟩ 0 .junk .junk .junk) (aE p e) (ct g)):ax Pg 13 [.agg [.ro (fs.map de)]] [.agg [.ro [], .ro []], .int .i64 p, .int .i64 e]:=
 qV {hint:=qT 13 [(14,Ph Pg fs hl)],calls:=tC [(13,24,500549,af c)],pans:=au Pg [(13,6,500549,⟨1,some (be c2),[]⟩)]} 499774
theorem RP(rows:List (List Vr))(pts:List Pt)(g:Gv)(x4:Nat)(x5 x6 x7:AV)(c2:HC 27 [aF] (iP fs (gi [] fs.length) [eC] ⟨0,0,0,0,1⟩ 0 .junk .junk .junk) [] (Pf fs rows pts g x4 x5 x6 x7)):ax Pg 13 [.agg [.ro (fs.map de)]] [Iz rows pts, .int .i64 0, .int .i64 0]:=
 qV {hint:=qT 13 [(14,Ph Pg fs hl)],calls:=tC [(13,24,500549,af c),(13,26,500580,af c2)]} 499774
end
def En:TR (List (List Vr)×List Pt)→List D
 | .ok q=>[Iz q.1 q.2, .int .i64 0, .int .i64 0]
 | .bad p e=>[.agg [.ro [], .ro []], .int .i64 p, .int .i64 e]
 | .out=>[]
theorem G4:XS .junk:=fun _ _ _ _=>rfl
theorem Kj{fs:List Fn}{m:Nat}(ok:Eh fs m)(hn:eZ fs≠ .out):ax Pg 13 [.agg [.ro (fs.map de)]] (En (eZ fs)):=by
 have ch:=Ec (fs:=fs) (nn:= .junk) (fun _=>rfl) ok.len;unfold eZ at hn ⊢;revert ch hn;cases iL fs with
 |out=>exact fun hn _=>absurd rfl hn
 |bad p e=>
  intro _ ch;simp only[Oi]at ch;exact Q7 ok.len p e fun rest=>ya aB (ch rest) (sM fs rest)
 |ok _=>
  intro hn ch;simp only[Oi]at ch;have ch:=fun rest=>Cf aB (ch rest) (sM fs rest)
  have cb:=Ix ok fs [] [] [eC] ⟨0,0,0,0,1⟩ 0 .junk .junk .junk rfl rfl (by simp) G4 G4 G4;simp only[TR.bind]at hn ⊢;revert cb hn;show f3 fs 0 fs [] [eC]≠ .out→MH fs (gi [] fs.length) [eC] ⟨0,0,0,0,1⟩ 0 .junk .junk .junk 0 (f3 fs 0 fs [] [eC])→_;cases f3 fs 0 fs [] [eC]with
  |out=>exact fun hn _=>absurd rfl hn
  |bad p e=>exact fun _ ⟨g,c2⟩=>RO ok.len ch p e g (Cd (jN _ _) G4 G4 G4 p e c2)
  |ok q=>
   rintro _ ⟨hp,hr,g,y4,y5,y6,y7,z5,z6,z7,c2⟩;have c3:=Ek (jN _ _) (jN _ _) G4 G4 G4 z5 z6 z7 c2;exact RP ok.len ch q.1 q.2 g y4 y5 y6 y7 fun rest=>sI aB (c3 rest) fun X env=>El fs q.1 hr q.2 g y4 y5 y6 y7 rest
end Go.Avm
namespace Go.Avm
open Go.Proofs
section
variable{L:List T}{s:RS}(hi:s.i<L.length)
include hi
theorem bp:HC 24 [rP] (rd L s) [tD (bA L s)] (rd L s):=
 qN {hint:=qT 24 [(11,Ow Pg hi)]} 1000
theorem G5:HX 71 [rP] (rd L s) (dk (bA L s).p 4) (rd L s):=
 qX {calls:=tC [(71,3,1007,af (bp hi))],pans:=au Pg [(71,0,1000,⟨5,none,[]⟩)]} 1000
theorem RQ(x:List UInt8)(h1:((bA L s).k==2)=true):HC 70 [rP, .d (.str x)] (rd L s) [.bool ((bA L s).t==x)] (rd L s):=
 qN {hint:=qT 70 [(10,qB h1)],calls:=tC [(70,7,1044,af (bp hi))]} 1000
theorem RR(x:List UInt8)(h1:((bA L s).k==2)=false)(h2:((bA L s).k==4)=true):HC 70 [rP, .d (.str x)] (rd L s) [.bool ((bA L s).t==x)] (rd L s):=
 qN {hint:=qT 70 [(10,qB h1),(14,qB h2)],calls:=tC [(70,7,1044,af (bp hi))]} 1000
theorem RT(x:List UInt8)(h1:((bA L s).k==2)=false)(h2:((bA L s).k==4)=false):HC 70 [rP, .d (.str x)] (rd L s) [.bool false] (rd L s):=
 qN {hint:=qT 70 [(10,qB h1),(14,qB h2)],calls:=tC [(70,7,1044,af (bp hi))]} 1000
theorem zU(x:List UInt8):HC 70 [rP, .d (.str x)] (rd L s) [.bool (br L s x)] (rd L s):=by
 unfold br;cases h1:((bA L s).k==2)with
 |true=>exact RQ hi x h1
 |false=>cases h2:((bA L s).k==4)with
  |true=>exact RR hi x h1 h2
  |false=>exact RT hi x h1 h2
theorem MK(hL:dm L)(k:Int)(h:(bA L s).k=k):HC 41 [rP, .d (.int .u8 k)] (rd L s) [tD (bA L s)] (rd L s.nx):=
 qN {hint:=qT 41 [(11,hB Pg ((bA L s).k !=k) false (by simp[h])),(18,dL Pg s.i (by have:=hL.len;omega))],calls:=tC [(41,7,1044,af (bp hi))]} 1000
theorem ML(k:Int)(h:(bA L s).k≠k):HX 41 [rP, .d (.int .u8 k)] (rd L s) (dk (bA L s).p 4) (rd L s):=
 qX {hint:=qT 41 [(11,hB Pg ((bA L s).k !=k) true (by simpa using h))],calls:=tC [(41,7,1044,af (bp hi))],pans:=au Pg [(41,3,1176,⟨1,some (be (G5 hi)),[]⟩)]} 1000
theorem pS(hL:dm L)(k:Int)(hk:k≠0):RC L 41 [rP, .d (.int .u8 k)] (fun t=>[tD t]) s (dT L k s):=by
 unfold dT;cases h:((bA L s).k==k)with
 |true=>
  have h:=eq_of_beq h;exact⟨AJ hL hi (by rw[h];exact hk),MK hi hL k h⟩
 |false=>
  exact ML hi k (by simpa using h)
theorem MM(x:List UInt8)(h:br L s x=false):HX 40 [rP, .d (.str x)] (rd L s) (dk (bA L s).p 4) (rd L s):=
 qX {hint:=qT 40 [(9,hB Pg (!br L s x) true (by simp[h]))],calls:=tC [(40,8,1162,af (zU hi x))],pans:=au Pg [(40,2,1216,⟨1,some (be (G5 hi)),[]⟩)]} 1000
theorem Eo(hL:dm L)(x:List UInt8)(h:br L s x=true)(h1:(x==[40])=false)(h2:(x==[91])=false)(h3:(x==[123])=false)(h4:(x==[41])=false)(h5:(x==[93])=false)(h6:(x==[125])=false):
    HC 40 [rP, .d (.str x)] (rd L s) [tD (bA L s)] (rd L s.nx):=
 qN {hint:=qT 40 [(9,hB Pg (!br L s x) false (by simp[h])),(16,qB h1),(17,qB h2),(18,qB h3),(36,qB h4),(37,qB h5),(38,qB h6),(50,dL Pg s.i (by have:=hL.len;omega))],calls:=tC [(40,8,1162,af (zU hi x)),(40,13,1270,af (bp hi))]} 1000
theorem G6(hL:dm L)(h:br L s [40]=true)(hd:decide (200<fJ (s.op+1))=false):
    HC 40 [rP, .d (.str [40])] (rd L s) [tD (bA L s)] (rd L ⟨s.i+1,fJ (s.op+1),s.n⟩):=
 qN {hint:=qT 40 [(9,hB Pg (!br L s [40]) false (by simp[h])),(30,qB hd),(50,dL Pg s.i (by have:=hL.len;omega))],calls:=tC [(40,8,1162,af (zU hi [40])),(40,13,1270,af (bp hi))]} 1000
theorem G7(h:br L s [40]=true)(hd:decide (200<fJ (s.op+1))=true):
    HX 40 [rP, .d (.str [40])] (rd L s) (dk (bA L s).p 5) (rd L {s with op:=fJ (s.op+1)}):=
 qX {hint:=qT 40 [(9,hB Pg (!br L s [40]) false (by simp[h])),(30,qB hd)],calls:=tC [(40,8,1162,af (zU hi [40])),(40,13,1270,af (bp hi))],pans:=au Pg [(40,10,2242,⟨4,none,[]⟩)]} 1000
theorem G8(hL:dm L)(h:br L s [91]=true)(hd:decide (200<fJ (s.op+1))=false):
    HC 40 [rP, .d (.str [91])] (rd L s) [tD (bA L s)] (rd L ⟨s.i+1,fJ (s.op+1),s.n⟩):=
 qN {hint:=qT 40 [(9,hB Pg (!br L s [91]) false (by simp[h])),(30,qB hd),(50,dL Pg s.i (by have:=hL.len;omega))],calls:=tC [(40,8,1162,af (zU hi [91])),(40,13,1270,af (bp hi))]} 1000
theorem G9(h:br L s [91]=true)(hd:decide (200<fJ (s.op+1))=true):
    HX 40 [rP, .d (.str [91])] (rd L s) (dk (bA L s).p 5) (rd L {s with op:=fJ (s.op+1)}):=
 qX {hint:=qT 40 [(9,hB Pg (!br L s [91]) false (by simp[h])),(30,qB hd)],calls:=tC [(40,8,1162,af (zU hi [91])),(40,13,1270,af (bp hi))],pans:=au Pg [(40,10,2350,⟨4,none,[]⟩)]} 1000
theorem Ep(hL:dm L)(h:br L s [123]=true)(hd:decide (200<fJ (s.op+1))=false):
    HC 40 [rP, .d (.str [123])] (rd L s) [tD (bA L s)] (rd L ⟨s.i+1,fJ (s.op+1),s.n⟩):=
 qN {hint:=qT 40 [(9,hB Pg (!br L s [123]) false (by simp[h])),(30,qB hd),(50,dL Pg s.i (by have:=hL.len;omega))],calls:=tC [(40,8,1162,af (zU hi [123])),(40,13,1270,af (bp hi))]} 1000
theorem Er(h:br L s [123]=true)(hd:decide (200<fJ (s.op+1))=true):
    HX 40 [rP, .d (.str [123])] (rd L s) (dk (bA L s).p 5) (rd L {s with op:=fJ (s.op+1)}):=
 qX {hint:=qT 40 [(9,hB Pg (!br L s [123]) false (by simp[h])),(30,qB hd)],calls:=tC [(40,8,1162,af (zU hi [123])),(40,13,1270,af (bp hi))],pans:=au Pg [(40,10,2458,⟨4,none,[]⟩)]} 1000
theorem Ha(hL:dm L)(h:br L s [41]=true):
    HC 40 [rP, .d (.str [41])] (rd L s) [tD (bA L s)] (rd L ⟨s.i+1,fJ (s.op-1),s.n⟩):=
 qN {hint:=qT 40 [(9,hB Pg (!br L s [41]) false (by simp[h])),(50,dL Pg s.i (by have:=hL.len;omega))],calls:=tC [(40,8,1162,af (zU hi [41])),(40,13,1270,af (bp hi))]} 1000
theorem Hb(hL:dm L)(h:br L s [93]=true):
    HC 40 [rP, .d (.str [93])] (rd L s) [tD (bA L s)] (rd L ⟨s.i+1,fJ (s.op-1),s.n⟩):=
 qN {hint:=qT 40 [(9,hB Pg (!br L s [93]) false (by simp[h])),(50,dL Pg s.i (by have:=hL.len;omega))],calls:=tC [(40,8,1162,af (zU hi [93])),(40,13,1270,af (bp hi))]} 1000
theorem Es(hL:dm L)(h:br L s [125]=true):
    HC 40 [rP, .d (.str [125])] (rd L s) [tD (bA L s)] (rd L ⟨s.i+1,fJ (s.op-1),s.n⟩):=
 qN {hint:=qT 40 [(9,hB Pg (!br L s [125]) false (by simp[h])),(50,dL Pg s.i (by have:=hL.len;omega))],calls:=tC [(40,8,1162,af (zU hi [125])),(40,13,1270,af (bp hi))]} 1000
theorem cv(hL:dm L)(x:List UInt8):RC L 40 [rP, .d (.str x)] (fun t=>[tD t]) s (aG L x s):=by
 unfold aG;cases h:br L s x with
 |false=>exact MM hi x h
 |true=>
  have hn:=vU hL hi h;simp only[cond_true];cases h1:(x==[40])with
  |true=>
   obtain rfl:x=[40]:=eq_of_beq h1;simp only[Bool.true_or,cond_true];cases hd:decide (200<fJ (s.op+1))with
   |true=>exact G7 hi h hd
   |false=>exact⟨hn,G6 hi hL h hd⟩
  |false=>cases h2:(x==[91])with
  |true=>
   obtain rfl:x=[91]:=eq_of_beq h2;simp only[Bool.true_or,Bool.or_true,cond_true];cases hd:decide (200<fJ (s.op+1))with
   |true=>exact G9 hi h hd
   |false=>exact⟨hn,G8 hi hL h hd⟩
  |false=>cases h3:(x==[123])with
  |true=>
   obtain rfl:x=[123]:=eq_of_beq h3;simp only[Bool.true_or,Bool.or_true,cond_true];cases hd:decide (200<fJ (s.op+1))with
   |true=>exact Er hi h hd
   |false=>exact⟨hn,Ep hi hL h hd⟩
  |false=>cases h4:(x==[41])with
  |true=>
   obtain rfl:x=[41]:=eq_of_beq h4;exact⟨hn,Ha hi hL h⟩
  |false=>cases h5:(x==[93])with
  |true=>
   obtain rfl:x=[93]:=eq_of_beq h5;exact⟨hn,Hb hi hL h⟩
  |false=>cases h6:(x==[125])with
  |true=>
   obtain rfl:x=[125]:=eq_of_beq h6;exact⟨hn,Es hi hL h⟩
  |false=>exact⟨hn,Eo hi hL x h h1 h2 h3 h4 h5 h6⟩
theorem ah(x:List UInt8)(h:br L s x=false):HC 45 [rP, .d (.str x)] (rd L s) [.bool false] (rd L s):=
 qN {hint:=qT 45 [(8,hB Pg (!br L s x) true (by simp[h]))],calls:=tC [(45,7,1036,af (zU hi x))]} 1000
theorem mayT(x:List UInt8)(h:br L s x=true)(t:T)(s':RS)(hw:HC 40 [rP, .d (.str x)] (rd L s) [tD t] (rd L s')):HC 45 [rP, .d (.str x)] (rd L s) [.bool true] (rd L s'):=
 qN {hint:=qT 45 [(8,hB Pg (!br L s x) false (by simp[h]))],calls:=tC [(45,7,1036,af (zU hi x)),(45,11,1072,af hw)]} 1000
theorem Pi(x:List UInt8)(h:br L s x=true)(p e:Int)(s':RS)(hw:HX 40 [rP, .d (.str x)] (rd L s) (dk p e) (rd L s')):HX 45 [rP, .d (.str x)] (rd L s) (dk p e) (rd L s'):=
 qX {hint:=qT 45 [(8,hB Pg (!br L s x) false (by simp[h]))],calls:=tC [(45,7,1036,af (zU hi x))],pans:=au Pg [(45,3,1048,⟨2,some (be hw),[]⟩)]} 1000
theorem MN(hL:dm L)(x:List UInt8):RC L 45 [rP, .d (.str x)] (fun b=>[.bool b]) s (b8 L x s):=by
 unfold b8;cases h:br L s x with
 |false=>exact⟨hi,ah hi x h⟩
 |true=>
  simp only[cond_true];have hw:=cv hi hL x;revert hw;cases aG L x s with
  |ok t s'=>exact fun hw=>⟨hw.1,mayT hi x h t s' hw.2⟩
  |bad p e s'=>exact fun hw=>Pi hi x h p e s' hw
  |out=>exact fun _=>trivial
theorem aV(x:List UInt8){b:Bool}(h:br L s x=b):HC 70 [rP, .d (.str x)] (rd L s) [.bool b] (rd L s):=h▸zU hi x
end
section
variable{L:List T}{F:Nat}{args:List AV}{s0:RS}{α β:Type}{g:α→List D}
theorem RC.bind{f':Nat}{args':List AV}{g':β→List D}{s:RS}{r:Res β}{k:β→RS→Res α}(h:RC L f' args' g' s r)
    (hb:∀p e s',(HX f' args' (rd L s) (dk p e) (rd L s'))→HX F args (rd L s0) (dk p e) (rd L s'))
    (hk:∀a s',s'.i<L.length→(HC f' args' (rd L s) (g' a) (rd L s'))→RC L F args g s0 (k a s')):RC L F args g s0 (r.bind k):=by
 cases r with
 |ok a s'=>exact hk a s' h.1 h.2
 |bad p e s'=>exact hb p e s' h
 |out=>trivial
theorem RC.may{s:RS}(hi:s.i<L.length)(hL:dm L)(x:List UInt8){X Y:RS→Res α}
    (hb:∀p e s',(HX 45 [rP, .d (.str x)] (rd L s) (dk p e) (rd L s'))→HX F args (rd L s0) (dk p e) (rd L s'))
    (hT:∀s',s'.i<L.length→(HC 45 [rP, .d (.str x)] (rd L s) [.bool true] (rd L s'))→RC L F args g s0 (X s'))
    (hF:br L s x=false→RC L F args g s0 (Y s)):RC L F args g s0 ((b8 L x s).bind fun b s1=>bif b then X s1 else Y s1):=by
 have h:=MN hi hL x;revert h;unfold b8;cases hx:br L s x with
 |false=>exact fun _=>hF hx
 |true=>
  simp only[cond_true];cases aG L x s with
  |ok t s'=>exact fun h=>hT s' h.1 h.2
  |bad p e s'=>exact fun h=>hb p e s' h
  |out=>exact fun _=>trivial
theorem RC.ite{c:Bool}{X Y:Res α}(hT:c=true→RC L F args g s0 X)(hF:c=false→RC L F args g s0 Y):RC L F args g s0 (bif c then X else Y):=by
 cases h:c with
 |true=>exact hT h
 |false=>exact hF h
end
end Go.Avm
namespace Go.Avm
open Go.Proofs
theorem Kk:ax Tryz.prog 89 [.int .u8 1] [.str [43], .int .i64 9]:=aI aB named (fun _ _=>false) (fun _=>false) 1000 (by kernel_rfl)
theorem Kl:ax Tryz.prog 89 [.int .u8 2] [.str [45], .int .i64 9]:=aI aB named (fun _ _=>false) (fun _=>false) 1000 (by kernel_rfl)
theorem Km:ax Tryz.prog 89 [.int .u8 3] [.str [42], .int .i64 10]:=aI aB named (fun _ _=>false) (fun _=>false) 1000 (by kernel_rfl)
theorem Ko:ax Tryz.prog 89 [.int .u8 4] [.str [47], .int .i64 10]:=aI aB named (fun _ _=>false) (fun _=>false) 1000 (by kernel_rfl)
theorem Kp:ax Tryz.prog 89 [.int .u8 5] [.str [37], .int .i64 10]:=aI aB named (fun _ _=>false) (fun _=>false) 1000 (by kernel_rfl)
theorem Kq:ax Tryz.prog 89 [.int .u8 6] [.str [38], .int .i64 7]:=aI aB named (fun _ _=>false) (fun _=>false) 1000 (by kernel_rfl)
theorem Kr:ax Tryz.prog 89 [.int .u8 7] [.str [124], .int .i64 5]:=aI aB named (fun _ _=>false) (fun _=>false) 1000 (by kernel_rfl)
theorem Ks:ax Tryz.prog 89 [.int .u8 8] [.str [94], .int .i64 6]:=aI aB named (fun _ _=>false) (fun _=>false) 1000 (by kernel_rfl)
theorem Kt:ax Tryz.prog 89 [.int .u8 9] [.str [60,60], .int .i64 8]:=aI aB named (fun _ _=>false) (fun _=>false) 1000 (by kernel_rfl)
theorem Et:ax Tryz.prog 89 [.int .u8 10] [.str [62,62], .int .i64 8]:=aI aB named (fun _ _=>false) (fun _=>false) 1000 (by kernel_rfl)
theorem Eu:ax Tryz.prog 89 [.int .u8 11] [.str [60], .int .i64 4]:=aI aB named (fun _ _=>false) (fun _=>false) 1000 (by kernel_rfl)
theorem Ev:ax Tryz.prog 89 [.int .u8 12] [.str [60,61], .int .i64 4]:=aI aB named (fun _ _=>false) (fun _=>false) 1000 (by kernel_rfl)
theorem Ew:ax Tryz.prog 89 [.int .u8 13] [.str [62], .int .i64 4]:=aI aB named (fun _ _=>false) (fun _=>false) 1000 (by kernel_rfl)
theorem Ey:ax Tryz.prog 89 [.int .u8 14] [.str [62,61], .int .i64 4]:=aI aB named (fun _ _=>false) (fun _=>false) 1000 (by kernel_rfl)
theorem Ez:ax Tryz.prog 89 [.int .u8 15] [.str [61,61], .int .i64 3]:=aI aB named (fun _ _=>false) (fun _=>false) 1000 (by kernel_rfl)
theorem EA:ax Tryz.prog 89 [.int .u8 16] [.str [33,61], .int .i64 3]:=aI aB named (fun _ _=>false) (fun _=>false) 1000 (by kernel_rfl)
theorem EB:ax Tryz.prog 89 [.int .u8 17] [.str [38,38], .int .i64 2]:=aI aB named (fun _ _=>false) (fun _=>false) 1000 (by kernel_rfl)
theorem EC:ax Tryz.prog 89 [.int .u8 18] [.str [124,124], .int .i64 1]:=aI aB named (fun _ _=>false) (fun _=>false) 1000 (by kernel_rfl)
theorem cA:ax Tryz.prog 89 [.int .u8 19] [.str [45], .int .i64 11]:=aI aB named (fun _ _=>false) (fun _=>false) 1000 (by kernel_rfl)
theorem cP:ax Tryz.prog 89 [.int .u8 20] [.str [126], .int .i64 11]:=aI aB named (fun _ _=>false) (fun _=>false) 1000 (by kernel_rfl)
theorem dj:ax Tryz.prog 89 [.int .u8 21] [.str [33], .int .i64 11]:=aI aB named (fun _ _=>false) (fun _=>false) 1000 (by kernel_rfl)
end Go.Avm
namespace Go.Avm
open Go.Proofs
section
variable{L:List T}(hL:dm L)
include hL
theorem Hc(n:Nat)(ih:∀s:RS,s.i<L.length→RC L 128 [rP] (fun e=>[fM e]) s (gA L n s))(ihE:∀(k:Int)(s:RS),s.i<L.length→RC L 100 [rP,dI k] (fun e=>[fM e]) s (bw L n k s))(ihP:∀s:RS,s.i<L.length→RC L 131 [rP] (fun e=>[fM e]) s (dQ L n s))
    (ihC:∀(nm:List UInt8)(p:Int)(s:RS),s.i<L.length→RC L 130 [rP, .d (.str nm),dI p] (fun e=>[fM e]) s (gh L n nm p s)) (s:RS) (l:s.i<L.length):RC L 128 [rP] (fun e=>[fM e]) s (gA L (n+1) s):=by
 simp only[gA];refine RC.may l hL [45] ?_ ?_ ?_
 ·exact fun _ _ _ c=>qX {hint:=qT 128 [(21, .call 89 _ _ cA)],calls:=tC [(128,12,1244,af (bp l))],pans:=au Pg [(128,6,3074,⟨2,some (be c),[]⟩)]} 1000
 ·intro s1 l1 c1
  refine RC.bind (ih _ l1) ?_ ?_
  ·exact fun _ _ _ c=>qX {hint:=qT 128 [(21, .call 89 _ _ cA)],calls:=tC [(128,12,1244,af (bp l)),(128,26,3318,af c1)],pans:=au Pg [(128,7,3318,⟨4,some (be c),[]⟩)]} 1000
  ·intro x s2 l2 c2
   obtain⟨k0,o0,nm0,n0,p0,as0⟩:=x;exact⟨l2,qN {hint:=qT 128 [(21, .call 89 _ _ cA)],calls:=tC [(128,12,1244,af (bp l)),(128,26,3318,af c1),(128,31,3806,af c2)]} 1000⟩
 ·intro h1
  refine RC.may l hL [126] ?_ ?_ ?_
  ·exact fun _ _ _ c=>qX {hintB:=bj Pg [(128,21,2464, .call 89 _ _ cA),(128,21,4172, .call 89 _ _ cP)],calls:=tC [(128,12,1244,af (bp l)),(128,26,3318,af (ah l [45] h1))],pans:=au Pg [(128,6,4782,⟨2,some (be c),[]⟩)]} 1000
  ·intro s2 l2 c2
   refine RC.bind (ih _ l2) ?_ ?_
   ·exact fun _ _ _ c=>qX {hintB:=bj Pg [(128,21,2464, .call 89 _ _ cA),(128,21,4172, .call 89 _ _ cP)],calls:=tC [(128,12,1244,af (bp l)),(128,26,3318,af (ah l [45] h1)),(128,26,5026,af c2)],pans:=au Pg [(128,7,5026,⟨4,some (be c),[]⟩)]} 1000
   ·intro x s3 l3 c3
    obtain⟨k0,o0,nm0,n0,p0,as0⟩:=x;exact⟨l3,qN {hintB:=bj Pg [(128,21,2464, .call 89 _ _ cA),(128,21,4172, .call 89 _ _ cP)],calls:=tC [(128,12,1244,af (bp l)),(128,26,3318,af (ah l [45] h1)),(128,26,5026,af c2),(128,31,5514,af c3)]} 1000⟩
  ·intro h2
   refine RC.may l hL [33] ?_ ?_ ?_
   ·exact fun _ _ _ c=>qX {hintB:=bj Pg [(128,21,2464, .call 89 _ _ cA),(128,21,4172, .call 89 _ _ cP),(128,21,5880, .call 89 _ _ dj)],calls:=tC [(128,12,1244,af (bp l)),(128,26,3318,af (ah l [45] h1)),(128,26,5026,af (ah l [126] h2))],pans:=au Pg [(128,6,6490,⟨2,some (be c),[]⟩)]} 1000
   ·intro s3 l3 c3
    refine RC.bind (ih _ l3) ?_ ?_
    ·exact fun _ _ _ c=>qX {hintB:=bj Pg [(128,21,2464, .call 89 _ _ cA),(128,21,4172, .call 89 _ _ cP),(128,21,5880, .call 89 _ _ dj)],calls:=tC [(128,12,1244,af (bp l)),(128,26,3318,af (ah l [45] h1)),(128,26,5026,af (ah l [126] h2)),(128,26,6734,af c3)],pans:=au Pg [(128,7,6734,⟨4,some (be c),[]⟩)]} 1000
    ·intro x s4 l4 c4
     obtain⟨k0,o0,nm0,n0,p0,as0⟩:=x;exact⟨l4,qN {hintB:=bj Pg [(128,21,2464, .call 89 _ _ cA),(128,21,4172, .call 89 _ _ cP),(128,21,5880, .call 89 _ _ dj)],calls:=tC [(128,12,1244,af (bp l)),(128,26,3318,af (ah l [45] h1)),(128,26,5026,af (ah l [126] h2)),(128,26,6734,af c3),(128,31,7222,af c4)]} 1000⟩
   ·intro h3
    refine RC.ite (fun h4=> ?_) (fun h4=> ?_)
    ·
     have l5:s.nx.i<L.length:=AJ hL l (by rw[eq_of_beq h4];decide);exact⟨l5,qN {hintB:=bj Pg [(128,21,2464, .call 89 _ _ cA),(128,21,4172, .call 89 _ _ cP),(128,21,5880, .call 89 _ _ dj),(128,38,7344,qB h4),(128,43,8076,dL Pg s.i (by have:=hL.len;omega))],calls:=tC [(128,12,1244,af (bp l)),(128,26,3318,af (ah l [45] h1)),(128,26,5026,af (ah l [126] h2)),(128,26,6734,af (ah l [33] h3))]} 1000⟩
    ·
     refine RC.may l hL [116,114,117,101] ?_ ?_ ?_
     ·exact fun _ _ _ c=>qX {hintB:=bj Pg [(128,21,2464, .call 89 _ _ cA),(128,21,4172, .call 89 _ _ cP),(128,21,5880, .call 89 _ _ dj),(128,38,7344,qB h4)],calls:=tC [(128,12,1244,af (bp l)),(128,26,3318,af (ah l [45] h1)),(128,26,5026,af (ah l [126] h2)),(128,26,6734,af (ah l [33] h3))],pans:=au Pg [(128,12,7588,⟨1,some (be c),[]⟩)]} 1000
     ·intro s5 l5 c5
      exact⟨l5,qN {hintB:=bj Pg [(128,21,2464, .call 89 _ _ cA),(128,21,4172, .call 89 _ _ cP),(128,21,5880, .call 89 _ _ dj),(128,38,7344,qB h4)],calls:=tC [(128,12,1244,af (bp l)),(128,26,3318,af (ah l [45] h1)),(128,26,5026,af (ah l [126] h2)),(128,26,6734,af (ah l [33] h3)),(128,53,7710,af c5)]} 1000⟩
     ·intro h5
      refine RC.may l hL [102,97,108,115,101] ?_ ?_ ?_
      ·exact fun _ _ _ c=>qX {hintB:=bj Pg [(128,21,2464, .call 89 _ _ cA),(128,21,4172, .call 89 _ _ cP),(128,21,5880, .call 89 _ _ dj),(128,38,7344,qB h4)],calls:=tC [(128,12,1244,af (bp l)),(128,26,3318,af (ah l [45] h1)),(128,26,5026,af (ah l [126] h2)),(128,26,6734,af (ah l [33] h3)),(128,53,7710,af (ah l [116,114,117,101] h5))],pans:=au Pg [(128,14,7832,⟨1,some (be c),[]⟩)]} 1000
      ·intro s6 l6 c6
       exact⟨l6,qN {hintB:=bj Pg [(128,21,2464, .call 89 _ _ cA),(128,21,4172, .call 89 _ _ cP),(128,21,5880, .call 89 _ _ dj),(128,38,7344,qB h4)],calls:=tC [(128,12,1244,af (bp l)),(128,26,3318,af (ah l [45] h1)),(128,26,5026,af (ah l [126] h2)),(128,26,6734,af (ah l [33] h3)),(128,53,7710,af (ah l [116,114,117,101] h5)),(128,59,7954,af c6)]} 1000⟩
      ·intro h6
       refine RC.may l hL [114,101,97,100] ?_ ?_ ?_
       ·exact fun _ _ _ c=>qX {hintB:=bj Pg [(128,21,2464, .call 89 _ _ cA),(128,21,4172, .call 89 _ _ cP),(128,21,5880, .call 89 _ _ dj),(128,38,7344,qB h4)],calls:=tC [(128,12,1244,af (bp l)),(128,26,3318,af (ah l [45] h1)),(128,26,5026,af (ah l [126] h2)),(128,26,6734,af (ah l [33] h3)),(128,53,7710,af (ah l [116,114,117,101] h5)),(128,59,7954,af (ah l [102,97,108,115,101] h6))],pans:=au Pg [(128,16,8076,⟨1,some (be c),[]⟩)]} 1000
       ·intro s7 l7 c7
        refine RC.bind (cv l7 hL [40]) ?_ ?_
        ·exact fun _ _ _ c=>qX {hintB:=bj Pg [(128,21,2464, .call 89 _ _ cA),(128,21,4172, .call 89 _ _ cP),(128,21,5880, .call 89 _ _ dj),(128,38,7344,qB h4)],calls:=tC [(128,12,1244,af (bp l)),(128,26,3318,af (ah l [45] h1)),(128,26,5026,af (ah l [126] h2)),(128,26,6734,af (ah l [33] h3)),(128,53,7710,af (ah l [116,114,117,101] h5)),(128,59,7954,af (ah l [102,97,108,115,101] h6)),(128,65,8198,af c7)],pans:=au Pg [(128,17,8320,⟨1,some (be c),[]⟩)]} 1000
        ·intro _ s8 l8 c8
         refine RC.bind (cv l8 hL [41]) ?_ ?_
         ·exact fun _ _ _ c=>qX {hintB:=bj Pg [(128,21,2464, .call 89 _ _ cA),(128,21,4172, .call 89 _ _ cP),(128,21,5880, .call 89 _ _ dj),(128,38,7344,qB h4)],calls:=tC [(128,12,1244,af (bp l)),(128,26,3318,af (ah l [45] h1)),(128,26,5026,af (ah l [126] h2)),(128,26,6734,af (ah l [33] h3)),(128,53,7710,af (ah l [116,114,117,101] h5)),(128,59,7954,af (ah l [102,97,108,115,101] h6)),(128,65,8198,af c7),(128,67,8442,af c8)],pans:=au Pg [(128,18,8442,⟨1,some (be c),[]⟩)]} 1000
         ·intro _ s9 l9 c9
          exact⟨l9,qN {hintB:=bj Pg [(128,21,2464, .call 89 _ _ cA),(128,21,4172, .call 89 _ _ cP),(128,21,5880, .call 89 _ _ dj),(128,38,7344,qB h4)],calls:=tC [(128,12,1244,af (bp l)),(128,26,3318,af (ah l [45] h1)),(128,26,5026,af (ah l [126] h2)),(128,26,6734,af (ah l [33] h3)),(128,53,7710,af (ah l [116,114,117,101] h5)),(128,59,7954,af (ah l [102,97,108,115,101] h6)),(128,65,8198,af c7),(128,67,8442,af c8),(128,69,8564,af c9)]} 1000⟩
       ·intro h7
        refine RC.may l hL [108,101,110] ?_ ?_ ?_
        ·exact fun _ _ _ c=>qX {hintB:=bj Pg [(128,21,2464, .call 89 _ _ cA),(128,21,4172, .call 89 _ _ cP),(128,21,5880, .call 89 _ _ dj),(128,38,7344,qB h4)],calls:=tC [(128,12,1244,af (bp l)),(128,26,3318,af (ah l [45] h1)),(128,26,5026,af (ah l [126] h2)),(128,26,6734,af (ah l [33] h3)),(128,53,7710,af (ah l [116,114,117,101] h5)),(128,59,7954,af (ah l [102,97,108,115,101] h6)),(128,65,8198,af (ah l [114,101,97,100] h7))],pans:=au Pg [(128,20,8320,⟨1,some (be c),[]⟩)]} 1000
        ·intro s8 l8 c8
         refine RC.bind (cv l8 hL [40]) ?_ ?_
         ·exact fun _ _ _ c=>qX {hintB:=bj Pg [(128,21,2464, .call 89 _ _ cA),(128,21,4172, .call 89 _ _ cP),(128,21,5880, .call 89 _ _ dj),(128,38,7344,qB h4)],calls:=tC [(128,12,1244,af (bp l)),(128,26,3318,af (ah l [45] h1)),(128,26,5026,af (ah l [126] h2)),(128,26,6734,af (ah l [33] h3)),(128,53,7710,af (ah l [116,114,117,101] h5)),(128,59,7954,af (ah l [102,97,108,115,101] h6)),(128,65,8198,af (ah l [114,101,97,100] h7)),(128,75,8442,af c8)],pans:=au Pg [(128,21,8564,⟨1,some (be c),[]⟩)]} 1000
         ·intro _ s9 l9 c9
          refine RC.bind (pS l9 hL 1 (by decide)) ?_ ?_
          ·exact fun _ _ _ c=>qX {hintB:=bj Pg [(128,21,2464, .call 89 _ _ cA),(128,21,4172, .call 89 _ _ cP),(128,21,5880, .call 89 _ _ dj),(128,38,7344,qB h4)],calls:=tC [(128,12,1244,af (bp l)),(128,26,3318,af (ah l [45] h1)),(128,26,5026,af (ah l [126] h2)),(128,26,6734,af (ah l [33] h3)),(128,53,7710,af (ah l [116,114,117,101] h5)),(128,59,7954,af (ah l [102,97,108,115,101] h6)),(128,65,8198,af (ah l [114,101,97,100] h7)),(128,75,8442,af c8),(128,77,8686,af c9)],pans:=au Pg [(128,22,8686,⟨1,some (be c),[]⟩)]} 1000
          ·intro t s10 l10 c10
           refine RC.bind (cv l10 hL [41]) ?_ ?_
           ·exact fun _ _ _ c=>qX {hintB:=bj Pg [(128,21,2464, .call 89 _ _ cA),(128,21,4172, .call 89 _ _ cP),(128,21,5880, .call 89 _ _ dj),(128,38,7344,qB h4)],calls:=tC [(128,12,1244,af (bp l)),(128,26,3318,af (ah l [45] h1)),(128,26,5026,af (ah l [126] h2)),(128,26,6734,af (ah l [33] h3)),(128,53,7710,af (ah l [116,114,117,101] h5)),(128,59,7954,af (ah l [102,97,108,115,101] h6)),(128,65,8198,af (ah l [114,101,97,100] h7)),(128,75,8442,af c8),(128,77,8686,af c9),(128,79,8808,af c10)],pans:=au Pg [(128,23,9052,⟨1,some (be c),[]⟩)]} 1000
           ·intro _ s11 l11 c11
            exact⟨l11,qN {hintB:=bj Pg [(128,21,2464, .call 89 _ _ cA),(128,21,4172, .call 89 _ _ cP),(128,21,5880, .call 89 _ _ dj),(128,38,7344,qB h4)],calls:=tC [(128,12,1244,af (bp l)),(128,26,3318,af (ah l [45] h1)),(128,26,5026,af (ah l [126] h2)),(128,26,6734,af (ah l [33] h3)),(128,53,7710,af (ah l [116,114,117,101] h5)),(128,59,7954,af (ah l [102,97,108,115,101] h6)),(128,65,8198,af (ah l [114,101,97,100] h7)),(128,75,8442,af c8),(128,77,8686,af c9),(128,79,8808,af c10),(128,82,9174,af c11)]} 1000⟩
        ·intro h8
         refine RC.ite (fun h9=> ?_) (fun h9=> ?_)
         ·
          refine RC.bind (cv l hL [40]) ?_ ?_
          ·exact fun _ _ _ c=>qX {hintB:=bj Pg [(128,21,2464, .call 89 _ _ cA),(128,21,4172, .call 89 _ _ cP),(128,21,5880, .call 89 _ _ dj),(128,38,7344,qB h4)],calls:=tC [(128,12,1244,af (bp l)),(128,26,3318,af (ah l [45] h1)),(128,26,5026,af (ah l [126] h2)),(128,26,6734,af (ah l [33] h3)),(128,53,7710,af (ah l [116,114,117,101] h5)),(128,59,7954,af (ah l [102,97,108,115,101] h6)),(128,65,8198,af (ah l [114,101,97,100] h7)),(128,75,8442,af (ah l [108,101,110] h8)),(128,89,8686,af (aV l [40] h9))],pans:=au Pg [(128,26,8808,⟨1,some (be c),[]⟩)]} 1000
          ·intro _ s10 l10 c10
           refine RC.bind (ihE 1 _ l10) ?_ ?_
           ·exact fun _ _ _ c=>qX {hintB:=bj Pg [(128,21,2464, .call 89 _ _ cA),(128,21,4172, .call 89 _ _ cP),(128,21,5880, .call 89 _ _ dj),(128,38,7344,qB h4)],calls:=tC [(128,12,1244,af (bp l)),(128,26,3318,af (ah l [45] h1)),(128,26,5026,af (ah l [126] h2)),(128,26,6734,af (ah l [33] h3)),(128,53,7710,af (ah l [116,114,117,101] h5)),(128,59,7954,af (ah l [102,97,108,115,101] h6)),(128,65,8198,af (ah l [114,101,97,100] h7)),(128,75,8442,af (ah l [108,101,110] h8)),(128,89,8686,af (aV l [40] h9)),(128,91,8930,af c10)],pans:=au Pg [(128,27,8930,⟨1,some (be c),[]⟩)]} 1000
           ·intro x s11 l11 c11
            obtain⟨k0,o0,nm0,n0,p0,as0⟩:=x;refine RC.bind (cv l11 hL [41]) ?_ ?_
            ·exact fun _ _ _ c=>qX {hintB:=bj Pg [(128,21,2464, .call 89 _ _ cA),(128,21,4172, .call 89 _ _ cP),(128,21,5880, .call 89 _ _ dj),(128,38,7344,qB h4)],calls:=tC [(128,12,1244,af (bp l)),(128,26,3318,af (ah l [45] h1)),(128,26,5026,af (ah l [126] h2)),(128,26,6734,af (ah l [33] h3)),(128,53,7710,af (ah l [116,114,117,101] h5)),(128,59,7954,af (ah l [102,97,108,115,101] h6)),(128,65,8198,af (ah l [114,101,97,100] h7)),(128,75,8442,af (ah l [108,101,110] h8)),(128,89,8686,af (aV l [40] h9)),(128,91,8930,af c10),(128,93,9052,af c11)],pans:=au Pg [(128,28,9296,⟨1,some (be c),[]⟩)]} 1000
            ·intro _ s12 l12 c12
             exact⟨l12,qN {hintB:=bj Pg [(128,21,2464, .call 89 _ _ cA),(128,21,4172, .call 89 _ _ cP),(128,21,5880, .call 89 _ _ dj),(128,38,7344,qB h4)],calls:=tC [(128,12,1244,af (bp l)),(128,26,3318,af (ah l [45] h1)),(128,26,5026,af (ah l [126] h2)),(128,26,6734,af (ah l [33] h3)),(128,53,7710,af (ah l [116,114,117,101] h5)),(128,59,7954,af (ah l [102,97,108,115,101] h6)),(128,65,8198,af (ah l [114,101,97,100] h7)),(128,75,8442,af (ah l [108,101,110] h8)),(128,89,8686,af (aV l [40] h9)),(128,91,8930,af c10),(128,93,9052,af c11),(128,95,9418,af c12)]} 1000⟩
         ·
          refine RC.bind (pS l hL 1 (by decide)) ?_ ?_
          ·exact fun _ _ _ c=>qX {hintB:=bj Pg [(128,21,2464, .call 89 _ _ cA),(128,21,4172, .call 89 _ _ cP),(128,21,5880, .call 89 _ _ dj),(128,38,7344,qB h4)],calls:=tC [(128,12,1244,af (bp l)),(128,26,3318,af (ah l [45] h1)),(128,26,5026,af (ah l [126] h2)),(128,26,6734,af (ah l [33] h3)),(128,53,7710,af (ah l [116,114,117,101] h5)),(128,59,7954,af (ah l [102,97,108,115,101] h6)),(128,65,8198,af (ah l [114,101,97,100] h7)),(128,75,8442,af (ah l [108,101,110] h8)),(128,89,8686,af (aV l [40] h9))],pans:=au Pg [(128,30,8808,⟨1,some (be c),[]⟩)]} 1000
          ·intro t s10 l10 c10
           refine RC.ite (fun h11=> ?_) (fun h11=> ?_)
           ·
            refine RC.bind (ihP _ l10) ?_ ?_
            ·exact fun _ _ _ c=>qX {hintB:=bj Pg [(128,21,2464, .call 89 _ _ cA),(128,21,4172, .call 89 _ _ cP),(128,21,5880, .call 89 _ _ dj),(128,38,7344,qB h4)],calls:=tC [(128,12,1244,af (bp l)),(128,26,3318,af (ah l [45] h1)),(128,26,5026,af (ah l [126] h2)),(128,26,6734,af (ah l [33] h3)),(128,53,7710,af (ah l [116,114,117,101] h5)),(128,59,7954,af (ah l [102,97,108,115,101] h6)),(128,65,8198,af (ah l [114,101,97,100] h7)),(128,75,8442,af (ah l [108,101,110] h8)),(128,89,8686,af (aV l [40] h9)),(128,98,8930,af c10),(128,102,9296,af (aV l10 [91] h11))],pans:=au Pg [(128,32,9418,⟨4,some (be c),[]⟩)]} 1000
            ·intro x s12 l12 c12
             obtain⟨k0,o0,nm0,n0,p0,as0⟩:=x;exact⟨l12,qN {hintB:=bj Pg [(128,21,2464, .call 89 _ _ cA),(128,21,4172, .call 89 _ _ cP),(128,21,5880, .call 89 _ _ dj),(128,38,7344,qB h4)],calls:=tC [(128,12,1244,af (bp l)),(128,26,3318,af (ah l [45] h1)),(128,26,5026,af (ah l [126] h2)),(128,26,6734,af (ah l [33] h3)),(128,53,7710,af (ah l [116,114,117,101] h5)),(128,59,7954,af (ah l [102,97,108,115,101] h6)),(128,65,8198,af (ah l [114,101,97,100] h7)),(128,75,8442,af (ah l [108,101,110] h8)),(128,89,8686,af (aV l [40] h9)),(128,98,8930,af c10),(128,102,9296,af (aV l10 [91] h11)),(128,107,9906,af c12)]} 1000⟩
           ·
            refine RC.ite (fun h12=> ?_) (fun h12=> ?_)
            ·
             refine RC.bind (ihC t.t (bA L s).p _ l10) ?_ ?_
             ·exact fun _ _ _ c=>qX {hintB:=bj Pg [(128,21,2464, .call 89 _ _ cA),(128,21,4172, .call 89 _ _ cP),(128,21,5880, .call 89 _ _ dj),(128,38,7344,qB h4)],calls:=tC [(128,12,1244,af (bp l)),(128,26,3318,af (ah l [45] h1)),(128,26,5026,af (ah l [126] h2)),(128,26,6734,af (ah l [33] h3)),(128,53,7710,af (ah l [116,114,117,101] h5)),(128,59,7954,af (ah l [102,97,108,115,101] h6)),(128,65,8198,af (ah l [114,101,97,100] h7)),(128,75,8442,af (ah l [108,101,110] h8)),(128,89,8686,af (aV l [40] h9)),(128,98,8930,af c10),(128,102,9296,af (aV l10 [91] h11)),(128,112,9540,af (aV l10 [40] h12))],pans:=au Pg [(128,34,9662,⟨4,some (be c),[]⟩)]} 1000
             ·intro x s13 l13 c13
              obtain⟨k0,o0,nm0,n0,p0,as0⟩:=x;exact⟨l13,qN {hintB:=bj Pg [(128,21,2464, .call 89 _ _ cA),(128,21,4172, .call 89 _ _ cP),(128,21,5880, .call 89 _ _ dj),(128,38,7344,qB h4)],calls:=tC [(128,12,1244,af (bp l)),(128,26,3318,af (ah l [45] h1)),(128,26,5026,af (ah l [126] h2)),(128,26,6734,af (ah l [33] h3)),(128,53,7710,af (ah l [116,114,117,101] h5)),(128,59,7954,af (ah l [102,97,108,115,101] h6)),(128,65,8198,af (ah l [114,101,97,100] h7)),(128,75,8442,af (ah l [108,101,110] h8)),(128,89,8686,af (aV l [40] h9)),(128,98,8930,af c10),(128,102,9296,af (aV l10 [91] h11)),(128,112,9540,af (aV l10 [40] h12)),(128,117,10150,af c13)]} 1000⟩
            ·
             exact⟨l10,qN {hintB:=bj Pg [(128,21,2464, .call 89 _ _ cA),(128,21,4172, .call 89 _ _ cP),(128,21,5880, .call 89 _ _ dj),(128,38,7344,qB h4)],calls:=tC [(128,12,1244,af (bp l)),(128,26,3318,af (ah l [45] h1)),(128,26,5026,af (ah l [126] h2)),(128,26,6734,af (ah l [33] h3)),(128,53,7710,af (ah l [116,114,117,101] h5)),(128,59,7954,af (ah l [102,97,108,115,101] h6)),(128,65,8198,af (ah l [114,101,97,100] h7)),(128,75,8442,af (ah l [108,101,110] h8)),(128,89,8686,af (aV l [40] h9)),(128,98,8930,af c10),(128,102,9296,af (aV l10 [91] h11)),(128,112,9540,af (aV l10 [40] h12))]} 1000⟩
theorem Cg(n:Nat)(ihE:∀(k:Int)(s:RS),s.i<L.length→RC L 100 [rP,dI k] (fun e=>[fM e]) s (bw L n k s))(s:RS)(l:s.i<L.length):RC L 131 [rP] (fun e=>[fM e]) s (dQ L (n+1) s):=by
 simp only[dQ];refine RC.bind (cv l hL [91]) ?_ ?_
 ·exact fun _ _ _ c=>qX {pans:=au Pg [(131,1,1011,⟨1,some (be c),[]⟩)]} 1000
 ·intro _ s1 l1 c1
  refine RC.bind (ihE 1 _ l1) ?_ ?_
  ·exact fun _ _ _ c=>qX {calls:=tC [(131,5,1022,af c1)],pans:=au Pg [(131,2,1022,⟨1,some (be c),[]⟩)]} 1000
  ·intro x s2 l2 c2
   obtain⟨k0,o0,nm0,n0,p0,as0⟩:=x;refine RC.bind (cv l2 hL [93]) ?_ ?_
   ·exact fun _ _ _ c=>qX {calls:=tC [(131,5,1022,af c1),(131,7,1033,af c2)],pans:=au Pg [(131,3,1055,⟨1,some (be c),[]⟩)]} 1000
   ·intro _ s3 l3 c3
    exact⟨l3,qN {calls:=tC [(131,5,1022,af c1),(131,7,1033,af c2),(131,9,1066,af c3)]} 1000⟩
end
end Go.Avm
namespace Go.Avm
open Go.Proofs
def u8(n:Int):AV:= .d (.int .u8 n)
def uv(r:Int×Int):aD×List (Nat×AV):=bif r.1==0 then (.exit 0,[])else (.ret,[(4,u8 r.1),(5,dI r.2)])
def yb(aa o:Int):List (Nat×AV):=[(0,rP),(1,dI aa),(6,u8 o)]
def Oj(L:List T)(s:RS)(aa o:Int)(e:aD)(l':List (Nat×AV)):Prop:=RE 28 (lO 129 2) (yb aa o) (rd L s) e l' (rd L s)
def ED(L:List T)(s:RS)(aa:Int)(o:Int)(r:Int×Int):Prop:=RL 28 (lO 129 2) (yb aa o) (rd L s) ((uv r).1) ((uv r).2) (rd L s)
theorem cN{L:List T}{s:RS}{aa o o2 k:Int}{x:List UInt8}{R:List (Int×List UInt8×Int)}(ho:(o==0)=false)(hA:decide (k≥aa)=false→Oj L s aa o .normal (yb aa o2))
    (hB:decide (k≥aa)=true→br L s x=false→Oj L s aa o .normal (yb aa o2)) (hC:decide (k≥aa)=true→br L s x=true→Oj L s aa o .ret [(4,u8 o),(5,dI k)])
    (hn:ED L s aa o2 (gV L s aa R)):ED L s aa o (gV L s aa ((o,x,k)::R)):=fun rest X hP hN=>by
 simp only[gV];cases h1:decide (k≥aa)with
 |false=>exact aX (hA h1 rest X hP hN) (hn rest X hP hN)
 |true=>cases h2:br L s x with
  |false=>exact aX (hB h1 h2 rest X hP hN) (hn rest X hP hN)
  |true=>
   have:uv (o,k)=(.ret,[(4,u8 o),(5,dI k)]):=by simp only[uv,ho,cond_false]
   simp only[Bool.and_true,cond_true,this];exact aY (hC h1 h2 rest X hP hN) (by simp)
section
variable{L:List T}{s:RS}(hi:s.i<L.length)(aa:Int)
include hi
theorem MO:Oj L s aa 19 (.exit 0) []:=
 fun rest X hP hN=>(qE {} 129 1000:RE 28 (lO 129 2) [(0,rP),(1,dI aa),(6,u8 19)] (rd L s) (.exit 0) [] (rd L s)) rest X hP hN
theorem Pj:ED L s aa 19 (0,0):=fun rest X hP hN=>aY (MO hi aa rest X hP hN) (by simp[uv])
theorem Pk(h:decide ((9:Int)≥aa)=false):RE 28 (lO 129 2) [(0,rP),(1,dI aa),(6,u8 1)] (rd L s) .normal [(0,rP),(1,dI aa),(6,u8 2)] (rd L s):=
 qE {hint:=qT 129 [(15, .call 89 _ _ Kk),(20,qB h)]} 129 1000
theorem Pn(h:decide ((9:Int)≥aa)=true)(h2:br L s [43]=false):RE 28 (lO 129 2) [(0,rP),(1,dI aa),(6,u8 1)] (rd L s) .normal [(0,rP),(1,dI aa),(6,u8 2)] (rd L s):=
 qE {hint:=qT 129 [(15, .call 89 _ _ Kk),(20,qB h)],calls:=tC [(129,24,1392,af (aV hi [43] h2))]} 129 1000
theorem Po(h:decide ((9:Int)≥aa)=true)(h2:br L s [43]=true):RE 28 (lO 129 2) [(0,rP),(1,dI aa),(6,u8 1)] (rd L s) .ret [(4,u8 1),(5,dI 9)] (rd L s):=
 qE {hint:=qT 129 [(15, .call 89 _ _ Kk),(20,qB h)],calls:=tC [(129,24,1392,af (aV hi [43] h2))]} 129 1000
theorem Pq(h:decide ((9:Int)≥aa)=false):RE 28 (lO 129 2) [(0,rP),(1,dI aa),(6,u8 2)] (rd L s) .normal [(0,rP),(1,dI aa),(6,u8 3)] (rd L s):=
 qE {hint:=qT 129 [(15, .call 89 _ _ Kl),(20,qB h)]} 129 1000
theorem Pr(h:decide ((9:Int)≥aa)=true)(h2:br L s [45]=false):RE 28 (lO 129 2) [(0,rP),(1,dI aa),(6,u8 2)] (rd L s) .normal [(0,rP),(1,dI aa),(6,u8 3)] (rd L s):=
 qE {hint:=qT 129 [(15, .call 89 _ _ Kl),(20,qB h)],calls:=tC [(129,24,1392,af (aV hi [45] h2))]} 129 1000
theorem Pu(h:decide ((9:Int)≥aa)=true)(h2:br L s [45]=true):RE 28 (lO 129 2) [(0,rP),(1,dI aa),(6,u8 2)] (rd L s) .ret [(4,u8 2),(5,dI 9)] (rd L s):=
 qE {hint:=qT 129 [(15, .call 89 _ _ Kl),(20,qB h)],calls:=tC [(129,24,1392,af (aV hi [45] h2))]} 129 1000
theorem Pv(h:decide ((10:Int)≥aa)=false):RE 28 (lO 129 2) [(0,rP),(1,dI aa),(6,u8 3)] (rd L s) .normal [(0,rP),(1,dI aa),(6,u8 4)] (rd L s):=
 qE {hint:=qT 129 [(15, .call 89 _ _ Km),(20,qB h)]} 129 1000
theorem Pw(h:decide ((10:Int)≥aa)=true)(h2:br L s [42]=false):RE 28 (lO 129 2) [(0,rP),(1,dI aa),(6,u8 3)] (rd L s) .normal [(0,rP),(1,dI aa),(6,u8 4)] (rd L s):=
 qE {hint:=qT 129 [(15, .call 89 _ _ Km),(20,qB h)],calls:=tC [(129,24,1392,af (aV hi [42] h2))]} 129 1000
theorem Px(h:decide ((10:Int)≥aa)=true)(h2:br L s [42]=true):RE 28 (lO 129 2) [(0,rP),(1,dI aa),(6,u8 3)] (rd L s) .ret [(4,u8 3),(5,dI 10)] (rd L s):=
 qE {hint:=qT 129 [(15, .call 89 _ _ Km),(20,qB h)],calls:=tC [(129,24,1392,af (aV hi [42] h2))]} 129 1000
theorem Py(h:decide ((10:Int)≥aa)=false):RE 28 (lO 129 2) [(0,rP),(1,dI aa),(6,u8 4)] (rd L s) .normal [(0,rP),(1,dI aa),(6,u8 5)] (rd L s):=
 qE {hint:=qT 129 [(15, .call 89 _ _ Ko),(20,qB h)]} 129 1000
theorem Pz(h:decide ((10:Int)≥aa)=true)(h2:br L s [47]=false):RE 28 (lO 129 2) [(0,rP),(1,dI aa),(6,u8 4)] (rd L s) .normal [(0,rP),(1,dI aa),(6,u8 5)] (rd L s):=
 qE {hint:=qT 129 [(15, .call 89 _ _ Ko),(20,qB h)],calls:=tC [(129,24,1392,af (aV hi [47] h2))]} 129 1000
theorem PA(h:decide ((10:Int)≥aa)=true)(h2:br L s [47]=true):RE 28 (lO 129 2) [(0,rP),(1,dI aa),(6,u8 4)] (rd L s) .ret [(4,u8 4),(5,dI 10)] (rd L s):=
 qE {hint:=qT 129 [(15, .call 89 _ _ Ko),(20,qB h)],calls:=tC [(129,24,1392,af (aV hi [47] h2))]} 129 1000
theorem PB(h:decide ((10:Int)≥aa)=false):RE 28 (lO 129 2) [(0,rP),(1,dI aa),(6,u8 5)] (rd L s) .normal [(0,rP),(1,dI aa),(6,u8 6)] (rd L s):=
 qE {hint:=qT 129 [(15, .call 89 _ _ Kp),(20,qB h)]} 129 1000
theorem PC(h:decide ((10:Int)≥aa)=true)(h2:br L s [37]=false):RE 28 (lO 129 2) [(0,rP),(1,dI aa),(6,u8 5)] (rd L s) .normal [(0,rP),(1,dI aa),(6,u8 6)] (rd L s):=
 qE {hint:=qT 129 [(15, .call 89 _ _ Kp),(20,qB h)],calls:=tC [(129,24,1392,af (aV hi [37] h2))]} 129 1000
theorem PD(h:decide ((10:Int)≥aa)=true)(h2:br L s [37]=true):RE 28 (lO 129 2) [(0,rP),(1,dI aa),(6,u8 5)] (rd L s) .ret [(4,u8 5),(5,dI 10)] (rd L s):=
 qE {hint:=qT 129 [(15, .call 89 _ _ Kp),(20,qB h)],calls:=tC [(129,24,1392,af (aV hi [37] h2))]} 129 1000
theorem PE(h:decide ((7:Int)≥aa)=false):RE 28 (lO 129 2) [(0,rP),(1,dI aa),(6,u8 6)] (rd L s) .normal [(0,rP),(1,dI aa),(6,u8 7)] (rd L s):=
 qE {hint:=qT 129 [(15, .call 89 _ _ Kq),(20,qB h)]} 129 1000
theorem PF(h:decide ((7:Int)≥aa)=true)(h2:br L s [38]=false):RE 28 (lO 129 2) [(0,rP),(1,dI aa),(6,u8 6)] (rd L s) .normal [(0,rP),(1,dI aa),(6,u8 7)] (rd L s):=
 qE {hint:=qT 129 [(15, .call 89 _ _ Kq),(20,qB h)],calls:=tC [(129,24,1392,af (aV hi [38] h2))]} 129 1000
theorem PH(h:decide ((7:Int)≥aa)=true)(h2:br L s [38]=true):RE 28 (lO 129 2) [(0,rP),(1,dI aa),(6,u8 6)] (rd L s) .ret [(4,u8 6),(5,dI 7)] (rd L s):=
 qE {hint:=qT 129 [(15, .call 89 _ _ Kq),(20,qB h)],calls:=tC [(129,24,1392,af (aV hi [38] h2))]} 129 1000
theorem PI(h:decide ((5:Int)≥aa)=false):RE 28 (lO 129 2) [(0,rP),(1,dI aa),(6,u8 7)] (rd L s) .normal [(0,rP),(1,dI aa),(6,u8 8)] (rd L s):=
 qE {hint:=qT 129 [(15, .call 89 _ _ Kr),(20,qB h)]} 129 1000
theorem PJ(h:decide ((5:Int)≥aa)=true)(h2:br L s [124]=false):RE 28 (lO 129 2) [(0,rP),(1,dI aa),(6,u8 7)] (rd L s) .normal [(0,rP),(1,dI aa),(6,u8 8)] (rd L s):=
 qE {hint:=qT 129 [(15, .call 89 _ _ Kr),(20,qB h)],calls:=tC [(129,24,1392,af (aV hi [124] h2))]} 129 1000
theorem PK(h:decide ((5:Int)≥aa)=true)(h2:br L s [124]=true):RE 28 (lO 129 2) [(0,rP),(1,dI aa),(6,u8 7)] (rd L s) .ret [(4,u8 7),(5,dI 5)] (rd L s):=
 qE {hint:=qT 129 [(15, .call 89 _ _ Kr),(20,qB h)],calls:=tC [(129,24,1392,af (aV hi [124] h2))]} 129 1000
theorem PL(h:decide ((6:Int)≥aa)=false):RE 28 (lO 129 2) [(0,rP),(1,dI aa),(6,u8 8)] (rd L s) .normal [(0,rP),(1,dI aa),(6,u8 9)] (rd L s):=
 qE {hint:=qT 129 [(15, .call 89 _ _ Ks),(20,qB h)]} 129 1000
theorem PM(h:decide ((6:Int)≥aa)=true)(h2:br L s [94]=false):RE 28 (lO 129 2) [(0,rP),(1,dI aa),(6,u8 8)] (rd L s) .normal [(0,rP),(1,dI aa),(6,u8 9)] (rd L s):=
 qE {hint:=qT 129 [(15, .call 89 _ _ Ks),(20,qB h)],calls:=tC [(129,24,1392,af (aV hi [94] h2))]} 129 1000
theorem PN(h:decide ((6:Int)≥aa)=true)(h2:br L s [94]=true):RE 28 (lO 129 2) [(0,rP),(1,dI aa),(6,u8 8)] (rd L s) .ret [(4,u8 8),(5,dI 6)] (rd L s):=
 qE {hint:=qT 129 [(15, .call 89 _ _ Ks),(20,qB h)],calls:=tC [(129,24,1392,af (aV hi [94] h2))]} 129 1000
theorem PO(h:decide ((8:Int)≥aa)=false):RE 28 (lO 129 2) [(0,rP),(1,dI aa),(6,u8 9)] (rd L s) .normal [(0,rP),(1,dI aa),(6,u8 10)] (rd L s):=
 qE {hint:=qT 129 [(15, .call 89 _ _ Kt),(20,qB h)]} 129 1000
theorem PQ(h:decide ((8:Int)≥aa)=true)(h2:br L s [60,60]=false):RE 28 (lO 129 2) [(0,rP),(1,dI aa),(6,u8 9)] (rd L s) .normal [(0,rP),(1,dI aa),(6,u8 10)] (rd L s):=
 qE {hint:=qT 129 [(15, .call 89 _ _ Kt),(20,qB h)],calls:=tC [(129,24,1392,af (aV hi [60,60] h2))]} 129 1000
theorem PR(h:decide ((8:Int)≥aa)=true)(h2:br L s [60,60]=true):RE 28 (lO 129 2) [(0,rP),(1,dI aa),(6,u8 9)] (rd L s) .ret [(4,u8 9),(5,dI 8)] (rd L s):=
 qE {hint:=qT 129 [(15, .call 89 _ _ Kt),(20,qB h)],calls:=tC [(129,24,1392,af (aV hi [60,60] h2))]} 129 1000
theorem MP(h:decide ((8:Int)≥aa)=false):RE 28 (lO 129 2) [(0,rP),(1,dI aa),(6,u8 10)] (rd L s) .normal [(0,rP),(1,dI aa),(6,u8 11)] (rd L s):=
 qE {hint:=qT 129 [(15, .call 89 _ _ Et),(20,qB h)]} 129 1000
theorem MQ(h:decide ((8:Int)≥aa)=true)(h2:br L s [62,62]=false):RE 28 (lO 129 2) [(0,rP),(1,dI aa),(6,u8 10)] (rd L s) .normal [(0,rP),(1,dI aa),(6,u8 11)] (rd L s):=
 qE {hint:=qT 129 [(15, .call 89 _ _ Et),(20,qB h)],calls:=tC [(129,24,1392,af (aV hi [62,62] h2))]} 129 1000
theorem MS(h:decide ((8:Int)≥aa)=true)(h2:br L s [62,62]=true):RE 28 (lO 129 2) [(0,rP),(1,dI aa),(6,u8 10)] (rd L s) .ret [(4,u8 10),(5,dI 8)] (rd L s):=
 qE {hint:=qT 129 [(15, .call 89 _ _ Et),(20,qB h)],calls:=tC [(129,24,1392,af (aV hi [62,62] h2))]} 129 1000
theorem MT(h:decide ((4:Int)≥aa)=false):RE 28 (lO 129 2) [(0,rP),(1,dI aa),(6,u8 11)] (rd L s) .normal [(0,rP),(1,dI aa),(6,u8 12)] (rd L s):=
 qE {hint:=qT 129 [(15, .call 89 _ _ Eu),(20,qB h)]} 129 1000
theorem MU(h:decide ((4:Int)≥aa)=true)(h2:br L s [60]=false):RE 28 (lO 129 2) [(0,rP),(1,dI aa),(6,u8 11)] (rd L s) .normal [(0,rP),(1,dI aa),(6,u8 12)] (rd L s):=
 qE {hint:=qT 129 [(15, .call 89 _ _ Eu),(20,qB h)],calls:=tC [(129,24,1392,af (aV hi [60] h2))]} 129 1000
theorem MV(h:decide ((4:Int)≥aa)=true)(h2:br L s [60]=true):RE 28 (lO 129 2) [(0,rP),(1,dI aa),(6,u8 11)] (rd L s) .ret [(4,u8 11),(5,dI 4)] (rd L s):=
 qE {hint:=qT 129 [(15, .call 89 _ _ Eu),(20,qB h)],calls:=tC [(129,24,1392,af (aV hi [60] h2))]} 129 1000
theorem MW(h:decide ((4:Int)≥aa)=false):RE 28 (lO 129 2) [(0,rP),(1,dI aa),(6,u8 12)] (rd L s) .normal [(0,rP),(1,dI aa),(6,u8 13)] (rd L s):=
 qE {hint:=qT 129 [(15, .call 89 _ _ Ev),(20,qB h)]} 129 1000
theorem MX(h:decide ((4:Int)≥aa)=true)(h2:br L s [60,61]=false):RE 28 (lO 129 2) [(0,rP),(1,dI aa),(6,u8 12)] (rd L s) .normal [(0,rP),(1,dI aa),(6,u8 13)] (rd L s):=
 qE {hint:=qT 129 [(15, .call 89 _ _ Ev),(20,qB h)],calls:=tC [(129,24,1392,af (aV hi [60,61] h2))]} 129 1000
theorem MY(h:decide ((4:Int)≥aa)=true)(h2:br L s [60,61]=true):RE 28 (lO 129 2) [(0,rP),(1,dI aa),(6,u8 12)] (rd L s) .ret [(4,u8 12),(5,dI 4)] (rd L s):=
 qE {hint:=qT 129 [(15, .call 89 _ _ Ev),(20,qB h)],calls:=tC [(129,24,1392,af (aV hi [60,61] h2))]} 129 1000
theorem MZ(h:decide ((4:Int)≥aa)=false):RE 28 (lO 129 2) [(0,rP),(1,dI aa),(6,u8 13)] (rd L s) .normal [(0,rP),(1,dI aa),(6,u8 14)] (rd L s):=
 qE {hint:=qT 129 [(15, .call 89 _ _ Ew),(20,qB h)]} 129 1000
theorem M0(h:decide ((4:Int)≥aa)=true)(h2:br L s [62]=false):RE 28 (lO 129 2) [(0,rP),(1,dI aa),(6,u8 13)] (rd L s) .normal [(0,rP),(1,dI aa),(6,u8 14)] (rd L s):=
 qE {hint:=qT 129 [(15, .call 89 _ _ Ew),(20,qB h)],calls:=tC [(129,24,1392,af (aV hi [62] h2))]} 129 1000
theorem M1(h:decide ((4:Int)≥aa)=true)(h2:br L s [62]=true):RE 28 (lO 129 2) [(0,rP),(1,dI aa),(6,u8 13)] (rd L s) .ret [(4,u8 13),(5,dI 4)] (rd L s):=
 qE {hint:=qT 129 [(15, .call 89 _ _ Ew),(20,qB h)],calls:=tC [(129,24,1392,af (aV hi [62] h2))]} 129 1000
theorem M2(h:decide ((4:Int)≥aa)=false):RE 28 (lO 129 2) [(0,rP),(1,dI aa),(6,u8 14)] (rd L s) .normal [(0,rP),(1,dI aa),(6,u8 15)] (rd L s):=
 qE {hint:=qT 129 [(15, .call 89 _ _ Ey),(20,qB h)]} 129 1000
theorem M3(h:decide ((4:Int)≥aa)=true)(h2:br L s [62,61]=false):RE 28 (lO 129 2) [(0,rP),(1,dI aa),(6,u8 14)] (rd L s) .normal [(0,rP),(1,dI aa),(6,u8 15)] (rd L s):=
 qE {hint:=qT 129 [(15, .call 89 _ _ Ey),(20,qB h)],calls:=tC [(129,24,1392,af (aV hi [62,61] h2))]} 129 1000
theorem M4(h:decide ((4:Int)≥aa)=true)(h2:br L s [62,61]=true):RE 28 (lO 129 2) [(0,rP),(1,dI aa),(6,u8 14)] (rd L s) .ret [(4,u8 14),(5,dI 4)] (rd L s):=
 qE {hint:=qT 129 [(15, .call 89 _ _ Ey),(20,qB h)],calls:=tC [(129,24,1392,af (aV hi [62,61] h2))]} 129 1000
theorem M5(h:decide ((3:Int)≥aa)=false):RE 28 (lO 129 2) [(0,rP),(1,dI aa),(6,u8 15)] (rd L s) .normal [(0,rP),(1,dI aa),(6,u8 16)] (rd L s):=
 qE {hint:=qT 129 [(15, .call 89 _ _ Ez),(20,qB h)]} 129 1000
theorem M6(h:decide ((3:Int)≥aa)=true)(h2:br L s [61,61]=false):RE 28 (lO 129 2) [(0,rP),(1,dI aa),(6,u8 15)] (rd L s) .normal [(0,rP),(1,dI aa),(6,u8 16)] (rd L s):=
 qE {hint:=qT 129 [(15, .call 89 _ _ Ez),(20,qB h)],calls:=tC [(129,24,1392,af (aV hi [61,61] h2))]} 129 1000
theorem M7(h:decide ((3:Int)≥aa)=true)(h2:br L s [61,61]=true):RE 28 (lO 129 2) [(0,rP),(1,dI aa),(6,u8 15)] (rd L s) .ret [(4,u8 15),(5,dI 3)] (rd L s):=
 qE {hint:=qT 129 [(15, .call 89 _ _ Ez),(20,qB h)],calls:=tC [(129,24,1392,af (aV hi [61,61] h2))]} 129 1000
theorem M8(h:decide ((3:Int)≥aa)=false):RE 28 (lO 129 2) [(0,rP),(1,dI aa),(6,u8 16)] (rd L s) .normal [(0,rP),(1,dI aa),(6,u8 17)] (rd L s):=
 qE {hint:=qT 129 [(15, .call 89 _ _ EA),(20,qB h)]} 129 1000
theorem M9(h:decide ((3:Int)≥aa)=true)(h2:br L s [33,61]=false):RE 28 (lO 129 2) [(0,rP),(1,dI aa),(6,u8 16)] (rd L s) .normal [(0,rP),(1,dI aa),(6,u8 17)] (rd L s):=
 qE {hint:=qT 129 [(15, .call 89 _ _ EA),(20,qB h)],calls:=tC [(129,24,1392,af (aV hi [33,61] h2))]} 129 1000
theorem Na(h:decide ((3:Int)≥aa)=true)(h2:br L s [33,61]=true):RE 28 (lO 129 2) [(0,rP),(1,dI aa),(6,u8 16)] (rd L s) .ret [(4,u8 16),(5,dI 3)] (rd L s):=
 qE {hint:=qT 129 [(15, .call 89 _ _ EA),(20,qB h)],calls:=tC [(129,24,1392,af (aV hi [33,61] h2))]} 129 1000
theorem Nb(h:decide ((2:Int)≥aa)=false):RE 28 (lO 129 2) [(0,rP),(1,dI aa),(6,u8 17)] (rd L s) .normal [(0,rP),(1,dI aa),(6,u8 18)] (rd L s):=
 qE {hint:=qT 129 [(15, .call 89 _ _ EB),(20,qB h)]} 129 1000
theorem Nc(h:decide ((2:Int)≥aa)=true)(h2:br L s [38,38]=false):RE 28 (lO 129 2) [(0,rP),(1,dI aa),(6,u8 17)] (rd L s) .normal [(0,rP),(1,dI aa),(6,u8 18)] (rd L s):=
 qE {hint:=qT 129 [(15, .call 89 _ _ EB),(20,qB h)],calls:=tC [(129,24,1392,af (aV hi [38,38] h2))]} 129 1000
theorem Nd(h:decide ((2:Int)≥aa)=true)(h2:br L s [38,38]=true):RE 28 (lO 129 2) [(0,rP),(1,dI aa),(6,u8 17)] (rd L s) .ret [(4,u8 17),(5,dI 2)] (rd L s):=
 qE {hint:=qT 129 [(15, .call 89 _ _ EB),(20,qB h)],calls:=tC [(129,24,1392,af (aV hi [38,38] h2))]} 129 1000
theorem Nf(h:decide ((1:Int)≥aa)=false):RE 28 (lO 129 2) [(0,rP),(1,dI aa),(6,u8 18)] (rd L s) .normal [(0,rP),(1,dI aa),(6,u8 19)] (rd L s):=
 qE {hint:=qT 129 [(15, .call 89 _ _ EC),(20,qB h)]} 129 1000
theorem Ng(h:decide ((1:Int)≥aa)=true)(h2:br L s [124,124]=false):RE 28 (lO 129 2) [(0,rP),(1,dI aa),(6,u8 18)] (rd L s) .normal [(0,rP),(1,dI aa),(6,u8 19)] (rd L s):=
 qE {hint:=qT 129 [(15, .call 89 _ _ EC),(20,qB h)],calls:=tC [(129,24,1392,af (aV hi [124,124] h2))]} 129 1000
theorem Nh(h:decide ((1:Int)≥aa)=true)(h2:br L s [124,124]=true):RE 28 (lO 129 2) [(0,rP),(1,dI aa),(6,u8 18)] (rd L s) .ret [(4,u8 18),(5,dI 1)] (rd L s):=
 qE {hint:=qT 129 [(15, .call 89 _ _ EC),(20,qB h)],calls:=tC [(129,24,1392,af (aV hi [124,124] h2))]} 129 1000
theorem PS:ED L s aa 1 (di L aa s):=
 cN (by decide) (Pk hi aa) (Pn hi aa) (Po hi aa) (cN (by decide) (Pq hi aa) (Pr hi aa) (Pu hi aa) (cN (by decide) (Pv hi aa) (Pw hi aa) (Px hi aa) (cN (by decide) (Py hi aa) (Pz hi aa) (PA hi aa) (cN (by decide) (PB hi aa) (PC hi aa) (PD hi aa) (cN (by decide) (PE hi aa) (PF hi aa) (PH hi aa) (cN (by decide) (PI hi aa) (PJ hi aa) (PK hi aa) (cN (by decide) (PL hi aa) (PM hi aa) (PN hi aa) (cN (by decide) (PO hi aa) (PQ hi aa) (PR hi aa) (cN (by decide) (MP hi aa) (MQ hi aa) (MS hi aa) (cN (by decide) (MT hi aa) (MU hi aa) (MV hi aa) (cN (by decide) (MW hi aa) (MX hi aa) (MY hi aa) (cN (by decide) (MZ hi aa) (M0 hi aa) (M1 hi aa) (cN (by decide) (M2 hi aa) (M3 hi aa) (M4 hi aa) (cN (by decide) (M5 hi aa) (M6 hi aa) (M7 hi aa) (cN (by decide) (M8 hi aa) (M9 hi aa) (Na hi aa) (cN (by decide) (Nb hi aa) (Nc hi aa) (Nd hi aa) (cN (by decide) (Nf hi aa) (Ng hi aa) (Nh hi aa) (Pj hi aa))))))))))))))))))
noncomputable def Ni{e:aD}{l':List (Nat×AV)}(h:RL 28 (lO 129 2) (yb aa 1) (rd L s) e l' (rd L s)):dJ Pg:=
 ⟨28,b6 Pg 129 2,yb aa 1,fun _=>rd L s,e,l',fun _=>rd L s,fun rest X hP hN=>(h rest X hP hN).aw⟩
theorem Nj(h:RL 28 (lO 129 2) (yb aa 1) (rd L s) (.exit 0) [] (rd L s)):HC 129 [rP,dI aa] (rd L s) [.int .u8 0, .int .i64 0] (rd L s):=
 qN ({loops:=fun f q=>if f=129 then (if q=2 then some (Ni aa h)else none)else none}) 1000
theorem Nk(o k:Int)(h:RL 28 (lO 129 2) (yb aa 1) (rd L s) .ret [(4,u8 o),(5,dI k)] (rd L s)):HC 129 [rP,dI aa] (rd L s) [.int .u8 o, .int .i64 k] (rd L s):=
 qN ({loops:=fun f q=>if f=129 then (if q=2 then some (Ni aa h)else none)else none}) 1000
theorem pT:∀l:List (Int×List UInt8×Int),(gV L s aa l).1=0→(∀p∈l,p.1≠0)→gV L s aa l=(0,0)
 |[],_,_=>rfl
 |(o,x,k)::r,h,hl=>by
  simp only[gV]at h ⊢;cases hc:(decide (aa≤k)&&br L s x)with
  |true=>rw[hc]at h;exact absurd h (hl (o,x,k) (by simp))
  |false=>rw[hc]at h;exact pT r h fun p hp=>hl p (by simp[hp])
theorem EE:HC 129 [rP,dI aa] (rd L s) [.int .u8 (di L aa s).1, .int .i64 (di L aa s).2] (rd L s):=by
 have h:=PS hi aa;unfold ED uv at h;cases h0:((di L aa s).1==0)with
 |true=>
  rw[h0]at h;have hz:di L aa s=(0,0):=pT hi aa xI (eq_of_beq h0) (by decide);rw[hz];exact Nj hi aa h
 |false=>
  rw[h0]at h;exact Nk hi aa _ _ h
theorem pb(hL:dm L):∀l:List (Int×List UInt8×Int),(gV L s aa l).1≠0→s.i+1<L.length
 |[],h=>by simp[gV]at h
 |(o,x,k)::r,h=>by
  simp only[gV]at h;cases hc:(decide (aa≤k)&&br L s x)with
  |true=>exact vU hL hi (Bool.and_eq_true .. ▸hc).2
  |false=>rw[hc]at h;exact pb hL r h
end
end Go.Avm
namespace Go.Avm
open Go.Proofs
def RU:Ex→List AV
 | .mk k o nm n p xs=>[u8 k,u8 o, .d (.str nm),dI n,dI p, .d (.ro (iY xs))]
def Q8(K:Nat)(e:Ex):Nat×aL:=(K,⟨1,some (.arr 1 (RU e))⟩)
def RV(K:Nat):Nat×aL:=(K,⟨1,some (.arr 1 [u8 0,u8 0, .d (.str []),dI 0,dI 0, .nils])⟩)
def pC(K:Nat):AV:= .ptr K 1 0 0 1
def FY(aa:Int):List (Nat×AV):=[(0,rP),(1,dI aa),(4,pC 1004),(5,pC 1083)]
def FZ(L:List T)(s:RS)(e:Ex):List (Nat×aL):=rd L s ++[RV 1004,Q8 1083 e]
def PT(L:List T)(s:RS)(e:Ex):List (Nat×aL):=rd L s ++[Q8 1004 e,(1083,⟨1,none⟩)]
def PU(L:List T)(s:RS):List (Nat×aL):=rd L s ++[(1004,⟨1,none⟩),(1083,⟨1,none⟩)]
def Hd(L:List T)(aa:Int)(s:RS)(e:Ex):Res Ex→Prop
 | .ok a s'=>s'.i<L.length∧RL 39 (lO 100 2) (FY aa) (FZ L s e) .ret [(4,pC 1004)] (PT L s' a)
 | .bad p q s'=>RL 39 (lO 100 2) (FY aa) (FZ L s e) (.panic (dk p q)) [] (PU L s')
 | .out=>True
section
variable{L:List T}(hL:dm L){s:RS}(l:s.i<L.length)(aa:Int)(k o:Int)(nm:List UInt8)(n p:Int)(xs:List Ex)
include l hL
theorem Ku(h:((di L aa s).1==0)=true):RE 39 (lO 100 2) (FY aa) (FZ L s (.mk k o nm n p xs)) .ret [(4,pC 1004)] (PT L s (.mk k o nm n p xs)):=
 qE {hint:=qT 100 [(18,qB h)],calls:=tC [(100,14,2078,af (EE l aa))]} 100 2000
theorem Nl(h:((di L aa s).1==0)=false)(q r:Int)(s2:RS)(c:HX 100 [rP,dI (fJ ((di L aa s).2+1))] (rd L s.nx) (dk q r) (rd L s2)):
    RE 39 (lO 100 2) (FY aa) (FZ L s (.mk k o nm n p xs)) (.panic (dk q r)) [] (PU L s2):=
 qE {hint:=qT 100 [(18,qB h),(27,dL Pg s.i (by have:=hL.len;omega))],calls:=tC [(100,14,2078,af (EE l aa)),(100,21,2390,af (bp l))],pans:=au Pg [(100,7,2780,⟨6,some (be c),[]⟩)]} 100 2000
theorem Nm(h:((di L aa s).1==0)=false)(k2 o2:Int)(nm2:List UInt8)(n2 p2:Int)(cd:List Ex)(s2:RS)(c:HC 100 [rP,dI (fJ ((di L aa s).2+1))] (rd L s.nx) [fM (.mk k2 o2 nm2 n2 p2 cd)] (rd L s2)):
    RE 39 (lO 100 2) (FY aa) (FZ L s (.mk k o nm n p xs)) .normal (FY aa) (FZ L s2 (.mk 9 (di L aa s).1 [] 0 (bA L s).p [.mk k o nm n p xs, .mk k2 o2 nm2 n2 p2 cd])):=
 dD aB named {hint:=qT 100 [(18,qB h),(27,dL Pg s.i (by have:=hL.len;omega))],calls:=tC [(100,14,2078,af (EE l aa)),(100,21,2390,af (bp l)),(100,36,3014,af c)]} 2000 100 2000 39 1000000 ([(1083,5)]) ⟨rfl,rfl,rfl,by kernel_rfl,by kernel_rfl,by kernel_rfl⟩ (by kernel_rfl) (by kernel_rfl) (fun _=>by kernel_rfl)
end
noncomputable def Nn{L:List T}{aa:Int}{s:RS}{e:Ex}{hp':List (Nat×aL)}{x:aD}{l':List (Nat×AV)}(h:RL 39 (lO 100 2) (FY aa) (FZ L s e) x l' hp'):dJ Pg:=
 ⟨39,b6 Pg 100 2,FY aa,fun _=>FZ L s e,x,l',fun _=>hp',fun rest X hP hN=>(h rest X hP hN).aw⟩
theorem Kv{L:List T}{aa:Int}{s s1 s2:RS}{k o:Int}{nm:List UInt8}{n p:Int}{xs:List Ex}{k2 o2:Int}{nm2:List UInt8}{n2 p2:Int}{cd:List Ex}
    (c:HC 128 [rP] (rd L s) [fM (.mk k o nm n p xs)] (rd L s1))
    (h:RL 39 (lO 100 2) (FY aa) (FZ L s1 (.mk k o nm n p xs)) .ret [(4,pC 1004)] (PT L s2 (.mk k2 o2 nm2 n2 p2 cd))):
    HC 100 [rP,dI aa] (rd L s) [fM (.mk k2 o2 nm2 n2 p2 cd)] (rd L s2):=
 qN {loops:=fun f q=>if f=100 then (if q=2 then some (Nn h)else none)else none,calls:=tC [(100,10,1078,af c)]} 1000
theorem He{L:List T}{aa:Int}{s s1 s2:RS}{k o:Int}{nm:List UInt8}{n p:Int}{xs:List Ex}{q r:Int}
    (c:HC 128 [rP] (rd L s) [fM (.mk k o nm n p xs)] (rd L s1))
    (h:RL 39 (lO 100 2) (FY aa) (FZ L s1 (.mk k o nm n p xs)) (.panic (dk q r)) [] (PU L s2)):
    HX 100 [rP,dI aa] (rd L s) (dk q r) (rd L s2):=
 qX {loops:=fun f q=>if f=100 then (if q=2 then some (Nn h)else none)else none,calls:=tC [(100,10,1078,af c)]} 1000
theorem Hf{L:List T}{aa:Int}{s s1:RS}{q r:Int}(c:HX 128 [rP] (rd L s) (dk q r) (rd L s1)):
    HX 100 [rP,dI aa] (rd L s) (dk q r) (rd L s1):=
 qX {pans:=au Pg [(100,1,1039,⟨1,some (be c),[]⟩)]} 1000
section
variable{L:List T}(hL:dm L)
include hL
theorem EF(n:Nat)(ihE:∀(k:Int)(s:RS),s.i<L.length→RC L 100 [rP,dI k] (fun e=>[fM e]) s (bw L n k s))(ihT:∀(k:Int)(e:Ex)(s:RS),s.i<L.length→Hd L k s e (d9 L n k e s))
    (aa:Int) (e:Ex) (s:RS) (l:s.i<L.length):Hd L aa s e (d9 L (n+1) aa e s):=by
 obtain⟨k,o,nm,m,p,xs⟩:=e;simp only[d9];cases h:((di L aa s).1==0)with
 |true=>exact⟨l,fun rest X hP hN=>aY (Ku hL l aa k o nm m p xs h rest X hP hN) (by simp)⟩
 |false=>
  have ln:s.nx.i<L.length:=pb l aa hL xI (by simpa [di]using h);have c:=ihE (fJ ((di L aa s).2+1)) s.nx ln;simp only[cond_false];revert c;cases bw L n (fJ ((di L aa s).2+1)) s.nx with
  |out=>exact fun _=>trivial
  |bad q r s2=>exact fun c rest X hP hN=>aY (Nl hL l aa k o nm m p xs h q r s2 c rest X hP hN) (by simp)
  |ok e2 s2=>
   obtain⟨k2,o2,nm2,n2,p2,cd⟩:=e2;intro c;have c2:=ihT aa (.mk 9 (di L aa s).1 [] 0 (bA L s).p [.mk k o nm m p xs, .mk k2 o2 nm2 n2 p2 cd]) s2 c.1;simp only[Res.bind];revert c2;cases d9 L n aa (.mk 9 (di L aa s).1 [] 0 (bA L s).p [.mk k o nm m p xs, .mk k2 o2 nm2 n2 p2 cd]) s2 with
   |out=>exact fun _=>trivial
   |bad q r s3=>exact fun c2 rest X hP hN=>aX (Nm hL l aa k o nm m p xs h k2 o2 nm2 n2 p2 cd s2 c.2 rest X hP hN) (c2 rest X hP hN)
   |ok a s3=>exact fun c2=>⟨c2.1,fun rest X hP hN=>aX (Nm hL l aa k o nm m p xs h k2 o2 nm2 n2 p2 cd s2 c.2 rest X hP hN) (c2.2 rest X hP hN)⟩
theorem EG(n:Nat)(ih1:∀s:RS,s.i<L.length→RC L 128 [rP] (fun e=>[fM e]) s (gA L n s))(ihT:∀(k:Int)(e:Ex)(s:RS),s.i<L.length→Hd L k s e (d9 L n k e s))
    (aa:Int) (s:RS) (l:s.i<L.length):RC L 100 [rP,dI aa] (fun e=>[fM e]) s (bw L (n+1) aa s):=by
 simp only[bw];refine RC.bind (ih1 s l) (fun q r s1 c=>Hf c) (fun e s1 l1 c=> ?_);have c2:=ihT aa e s1 l1;obtain⟨k,o,nm,m,p,xs⟩:=e;revert c2;cases d9 L n aa (.mk k o nm m p xs) s1 with
 |out=>exact fun _=>trivial
 |bad q r s3=>exact fun c2=>He c c2
 |ok a s3=>
  obtain⟨k2,o2,nm2,n2,p2,cd⟩:=a;exact fun c2=>⟨c2.1,Kv c c2.2⟩
end
end Go.Avm
namespace Go.Avm
open Go.Proofs
def kA:Nat×aL:=(1003,⟨1,some (.arr 1 [rP])⟩)
def uw(l:List Ex):List AV:=l.map fun e=> .d (fM e)
def wD(nm:List UInt8)(p:Int)(a:AV):Nat×aL:=(1082,⟨1,some (.arr 1 [u8 5,u8 0, .d (.str nm),dI 0,dI p,a])⟩)
def Ch:AV:= .fn 154 [pC 1082,pC 1003]
theorem cI(ρ:Nat→Nat):∀{l:List AV},(∀x∈l,∃d,x= .d d)→bQ ρ l=l
 |[],_=>rfl
 |x::l,h=>by
  obtain⟨d,rfl⟩:=h x (by simp);have ih:=cI ρ (l:=l) fun y hy=>h y (by simp[hy])
  simp only[bQ,aQ,ih]
theorem dM(r:List Ex):∀x∈uw r,∃d,x= .d d:=fun x hx=>by
 obtain⟨e,_,rfl⟩:=List.mem_map.1 hx;exact⟨_,rfl⟩
def zD:D:= .agg [.int .u8 0, .int .u8 0, .str [], .int .i64 0, .int .i64 0, .ro []]
section
variable{L:List T}(hL:dm L){s:RS}(l:s.i<L.length)(nm:List UInt8)(p:Int)
theorem PV(k2 o2:Int)(nm2:List UInt8)(n2 p2:Int)(cd:List Ex)(s2:RS)(c:HC 100 [rP,dI 1] (rd L s) [fM (.mk k2 o2 nm2 n2 p2 cd)] (rd L s2)):
    HC 154 [pC 1082,pC 1003] (rd L s ++[wD nm p .nils,kA,(400000,⟨0,none⟩)]) [] (rd L s2 ++[wD nm p (.sl 400000 2 0 1 6),kA,(400000,⟨2,some (.arr 6 (uw [.mk k2 o2 nm2 n2 p2 cd]))⟩)]):=
 qN {nils:=fun f r=>if f=154 then (if r=0 then some ⟨1082,5,400000,6,false,true⟩else none)else none,calls:=tC [(154,5,2033,af c)]} 2000
theorem Hg(r0:List Ex)(n:Nat)(e:D):∀x∈((uw r0).take r0.length ++[AV.d zD]).set n (AV.d e),∃d,x= .d d:=fun x hx=>by
 rcases List.mem_or_eq_of_mem_set hx with hx|rfl
 ·rcases List.mem_append.1 hx with hx|hx
  ·exact dM r0 x (List.mem_of_mem_take hx)
  ·simp only[List.mem_singleton]at hx;exact⟨_,hx⟩
 ·exact⟨_,rfl⟩
theorem PW(v:Nat)(r0:List Ex)(hr:r0.length<1000000)(k2 o2:Int)(nm2:List UInt8)(n2 p2:Int)(cd:List Ex)(s2:RS)(c:HC 100 [rP,dI 1] (rd L s) [fM (.mk k2 o2 nm2 n2 p2 cd)] (rd L s2)):
    HC 154 [pC 1082,pC 1003] (rd L s ++[wD nm p (.sl 400000 v 0 r0.length 6),kA,(400000,⟨v,some (.arr 6 (uw r0))⟩)]) [] (rd L s2 ++[wD nm p (.sl 400000 (v+1) 0 (r0.length+1) 6),kA,(400000,⟨v+1,some (.arr 6 (((uw r0).take r0.length ++[AV.d zD]).set (0+r0.length) (AV.d (fM (.mk k2 o2 nm2 n2 p2 cd)))))⟩)]):=
 ag aB named {hint:=qT 154 [(8, .apps (uw r0) r0.length 1 ⟨by simp[uw],by omega⟩),(9, .inb (r0.length:Int) (r0.length+1) (by omega) (by simp)),(100008, .elt ((uw r0).take r0.length ++[AV.d zD]) (0+r0.length) (AV.d zD) (by simp[uw]))],calls:=tC [(154,5,2033,af c)]} 2000 2000 _ 1000000 ⟨rfl,rfl,rfl,by kernel_rfl,by simp[ci,f9,bQ,aQ,dC,wD,kA,pC,rd,rP,BU,u8,cI _ (dM r0)],by simp[ci,f9,bQ,aQ,dC,wD,kA,pC,rd,rP,BU,u8,cI _ (Hg r0 _ _)]⟩ (fun _=>by kernel_rfl)
end
def fb(nm:List UInt8)(p:Int):List (Nat×aL):=[wD nm p .nils,kA,(400000,⟨0,none⟩)]
def dn(nm:List UInt8)(p:Int)(r:List Ex):List (Nat×aL):=[wD nm p (.sl 400000 (r.length+1) 0 r.length 6),kA,(400000,⟨r.length+1,some (.arr 6 (uw r))⟩)]
def kg(v:Nat):List (Nat×aL):=[(1082,⟨1,none⟩),(1003,⟨1,none⟩),(400000,⟨v,none⟩)]
def No(nm:List UInt8)(p:Int):List Ex→List (Nat×aL)
 |[]=>fb nm p
 |r=>dn nm p r
section
variable{L:List T}(hL:dm L){s:RS}(l:s.i<L.length)(nm:List UInt8)(p:Int)
theorem PX(e:Ex)(s2:RS)(c:HC 100 [rP,dI 1] (rd L s) [fM e] (rd L s2)):
    HC 154 [pC 1082,pC 1003] (rd L s ++fb nm p) [] (rd L s2 ++dn nm p [e]):=by
 obtain⟨k2,o2,nm2,n2,p2,cd⟩:=e;exact PV nm p k2 o2 nm2 n2 p2 cd s2 c
theorem PY(r:List Ex)(hr:r.length<1000000)(e:Ex)(s2:RS)(c:HC 100 [rP,dI 1] (rd L s) [fM e] (rd L s2)):
    HC 154 [pC 1082,pC 1003] (rd L s ++dn nm p r) [] (rd L s2 ++dn nm p (r ++[e])):=by
 obtain⟨k2,o2,nm2,n2,p2,cd⟩:=e;have h:=PW nm p (r.length+1) r hr k2 o2 nm2 n2 p2 cd s2 c
 have e1:((uw r).take r.length ++[AV.d zD]).set (0+r.length) (AV.d (fM (.mk k2 o2 nm2 n2 p2 cd)))=uw (r ++[.mk k2 o2 nm2 n2 p2 cd]):=by
  have hl:r.length=(uw r).length:=by simp[uw]
  rw[Nat.zero_add,hl,List.take_length];simp[uw]
 rw[e1]at h;have e2:r.length+1=(r ++[Ex.mk k2 o2 nm2 n2 p2 cd]).length:=by simp
 simp only[dn,←e2];exact h
theorem Np(q t:Int)(s2:RS)(c:HX 100 [rP,dI 1] (rd L s) (dk q t) (rd L s2)):
    HX 154 [pC 1082,pC 1003] (rd L s ++fb nm p) (dk q t) (rd L s2 ++kg 0):=
 qX {pans:=au Pg [(154,0,2000,⟨3,some (be c),[4,5]⟩)]} 2000
theorem Nq(r:List Ex)(q t:Int)(s2:RS)(c:HX 100 [rP,dI 1] (rd L s) (dk q t) (rd L s2)):
    HX 154 [pC 1082,pC 1003] (rd L s ++dn nm p r) (dk q t) (rd L s2 ++kg (r.length+1)):=
 ae aB named {pans:=au Pg [(154,0,2000,⟨3,some (be c),[4,5]⟩)]} 2000 2000 _ 1000000 ⟨rfl,rfl,rfl,by kernel_rfl,by simp[ci,f9,bQ,aQ,dC,fb,dn,wD,kA,pC,rd,rP,BU,u8,cI _ (dM _)],by simp[ci,f9,bQ,aQ,dC,fb,dn,kg,wD,kA,pC,rd,rP,BU,u8,cI _ (dM _)]⟩ (by kernel_rfl) (fun _=>by kernel_rfl)
def EH:List (Nat×AV):=[(0,rP),(1,Ch)]
include l
theorem Kw(r:List Ex)(h:br L s [44]=false):RE 17 (lO 42 3) EH (rd L s ++dn nm p r) (.exit 0) [(0,rP)] (rd L s ++dn nm p r):=
 dD aB named {calls:=tC [(42,12,3017,af (ah l [44] h))]} 2000 42 3000 17 1000000 ([]) ⟨rfl,rfl,rfl,by kernel_rfl,by simp[ci,f9,bQ,aQ,dC,fb,dn,wD,kA,pC,rd,rP,BU,u8,cI _ (dM _)],by simp[ci,f9,bQ,aQ,dC,fb,dn,kg,wD,kA,pC,rd,rP,BU,u8,cI _ (dM _)]⟩ (by kernel_rfl) (by kernel_rfl) (fun _=>by kernel_rfl)
theorem Kx(r:List Ex)(s1:RS)(c1:HC 45 [rP, .d (.str [44])] (rd L s) [.bool true] (rd L s1))(q t:Int)(s2:RS)
    (c:HX 154 [pC 1082,pC 1003] (rd L s1 ++dn nm p r) (dk q t) (rd L s2 ++kg (r.length+1))):RE 17 (lO 42 3) EH (rd L s ++dn nm p r) (.panic (dk q t)) [] (rd L s2 ++kg (r.length+1)):=
 dD aB named {calls:=tC [(42,12,3017,af c1)],pans:=au Pg [(42,4,3017,⟨1,some (be c),[]⟩)]} 2000 42 3000 17 1000000 ([]) ⟨rfl,rfl,rfl,by kernel_rfl,by simp[ci,f9,bQ,aQ,dC,fb,dn,wD,kA,pC,rd,rP,BU,u8,cI _ (dM _)],by simp[ci,f9,bQ,aQ,dC,fb,dn,kg,wD,kA,pC,rd,rP,BU,u8,cI _ (dM _)]⟩ (by kernel_rfl) (by kernel_rfl) (fun _=>by kernel_rfl)
theorem PZ(r:List Ex)(s1:RS)(c1:HC 45 [rP, .d (.str [44])] (rd L s) [.bool true] (rd L s1))(e:Ex)(s2:RS)
    (c:HC 154 [pC 1082,pC 1003] (rd L s1 ++dn nm p r) [] (rd L s2 ++dn nm p (r ++[e]))):RE 17 (lO 42 3) EH (rd L s ++dn nm p r) .normal EH (rd L s2 ++dn nm p (r ++[e])):=
 dD aB named {calls:=tC [(42,12,3017,af c1),(42,14,3034,af c)]} 2000 42 3000 17 1000000 ([]) ⟨rfl,rfl,rfl,by kernel_rfl,by simp[ci,f9,bQ,aQ,dC,fb,dn,wD,kA,pC,rd,rP,BU,u8,cI _ (dM _)],by simp[ci,f9,bQ,aQ,dC,fb,dn,kg,wD,kA,pC,rd,rP,BU,u8,cI _ (dM _)]⟩ (by kernel_rfl) (by kernel_rfl) (fun _=>by kernel_rfl)
end
def Ky(L:List T)(nm:List UInt8)(p:Int)(s:RS)(r:List Ex):Res (List Ex)→Prop
 | .ok r2 s'=>s'.i<L.length∧r2≠[]∧RL 17 (lO 42 3) EH (rd L s ++dn nm p r) (.exit 0) [(0,rP)] (rd L s' ++dn nm p r2)
 | .bad q t s'=>∃v,RL 17 (lO 42 3) EH (rd L s ++dn nm p r) (.panic (dk q t)) [] (rd L s' ++kg v)
 | .out=>True
noncomputable def Kz{L:List T}{nm:List UInt8}{p:Int}{s:RS}{r:List Ex}{hp':List (Nat×aL)}{x:aD}{l':List (Nat×AV)}(h:RL 17 (lO 42 3) EH (rd L s ++dn nm p r) x l' hp'):dJ Pg:=
 ⟨17,b6 Pg 42 3,EH,fun _=>rd L s ++dn nm p r,x,l',fun _=>hp',fun rest X hP hN=>(h rest X hP hN).aw⟩
section
variable{L:List T}(hL:dm L)(nm:List UInt8)(p:Int)
include hL
theorem EI(n:Nat)(ihE:∀(k:Int)(s:RS),s.i<L.length→RC L 100 [rP,dI k] (fun e=>[fM e]) s (bw L n k s))(ihM:∀(r:List Ex)(s:RS),s.i<L.length→r.length≤s.i→r≠[]→Ky L nm p s r (fE L n r s))
    (r:List Ex) (s:RS) (l:s.i<L.length) (hr:r.length≤s.i) (hne:r≠[]):Ky L nm p s r (fE L (n+1) r s):=by
 have hlen:r.length<1000000:=by have:=hL.len;omega
 simp only[fE,b8];cases h:br L s [44]with
 |false=>exact⟨l,hne,fun rest X hP hN=>aY (Kw l nm p r h rest X hP hN) (by simp)⟩
 |true=>
  have hw:aG L [44] s= .ok (bA L s) s.nx:=by simp only[aG,h];rfl
  have hn:=vU hL l h;have c1:=mayT l [44] h (bA L s) s.nx (Eo l hL [44] h rfl rfl rfl rfl rfl rfl);simp only[cond_true,hw,Res.bind];have c:=ihE 1 s.nx hn;revert c;have hi2:∀a s2,bw L n 1 s.nx= .ok a s2→s.nx.i<s2.i:=fun a s2 he=>uh L n 1 s.nx a s2 he
  cases he:bw L n 1 s.nx with
  |out=>exact fun _=>trivial
  |bad q t s2=>exact fun c=>⟨_,fun rest X hP hN=>aY (Kx l nm p r s.nx c1 q t s2 (Nq nm p r q t s2 c) rest X hP hN) (by simp)⟩
  |ok e s2=>
   intro c;have h3:=hi2 e s2 he;have c2:=ihM (r ++[e]) s2 c.1 (by simp only[List.length_append,List.length_cons,List.length_nil,RS.nx]at*;omega) (by simp);have hgo:=PZ l nm p r s.nx c1 e s2 (PY nm p r hlen e s2 c.2);simp only;revert c2;cases fE L n (r ++[e]) s2 with
   |out=>exact fun _=>trivial
   |bad q t s3=>exact fun ⟨v,c2⟩=>⟨v,fun rest X hP hN=>aX (hgo rest X hP hN) (c2 rest X hP hN)⟩
   |ok a s3=>exact fun c2=>⟨c2.1,c2.2.1,fun rest X hP hN=>aX (hgo rest X hP hN) (c2.2.2 rest X hP hN)⟩
end
section
variable{L:List T}(nm:List UInt8)(p:Int){s s1 s2 s3 s4:RS}{t1 t2:T}{q t:Int}
theorem P0(c:HX 40 [rP, .d (.str [40])] (rd L s) (dk q t) (rd L s1)):
    HX 42 [rP,Ch] (rd L s ++fb nm p) (dk q t) (rd L s1 ++kg 0):=
 qX {pans:=au Pg [(42,0,1000,⟨1,some (be c),[]⟩)]} 1000
section
variable(l1:s1.i<L.length)(c1:HC 40 [rP, .d (.str [40])] (rd L s) [tD t1] (rd L s1))
include l1 c1
theorem P4(h:br L s1 [41]=true)(c2:HC 40 [rP, .d (.str [41])] (rd L s1) [tD t2] (rd L s2)):
    HC 42 [rP,Ch] (rd L s ++fb nm p) [] (rd L s2 ++fb nm p):=
 qN {calls:=tC [(42,5,1017,af c1),(42,7,1034,af (aV l1 [41] h)),(42,16,1068,af c2)]} 1000
theorem P5(h:br L s1 [41]=true)(c2:HX 40 [rP, .d (.str [41])] (rd L s1) (dk q t) (rd L s2)):
    HX 42 [rP,Ch] (rd L s ++fb nm p) (dk q t) (rd L s2 ++kg 0):=
 qX {calls:=tC [(42,5,1017,af c1),(42,7,1034,af (aV l1 [41] h))],pans:=au Pg [(42,5,1051,⟨1,some (be c2),[]⟩)]} 1000
theorem P6(h:br L s1 [41]=false)(c2:HX 154 [pC 1082,pC 1003] (rd L s1 ++fb nm p) (dk q t) (rd L s2 ++kg 0)):
    HX 42 [rP,Ch] (rd L s ++fb nm p) (dk q t) (rd L s2 ++kg 0):=
 qX {calls:=tC [(42,5,1017,af c1),(42,7,1034,af (aV l1 [41] h))],pans:=au Pg [(42,2,1051,⟨1,some (be c2),[]⟩)]} 1000
theorem P7(h0:br L s1 [41]=false)(e:Ex)(c2:HC 154 [pC 1082,pC 1003] (rd L s1 ++fb nm p) [] (rd L s2 ++dn nm p [e]))(v:Nat)(h:RL 17 (lO 42 3) EH (rd L s2 ++dn nm p [e]) (.panic (dk q t)) [] (rd L s3 ++kg v)):
    HX 42 [rP,Ch] (rd L s ++fb nm p) (dk q t) (rd L s3 ++kg v):=
 qX {loops:=fun f q=>if f=42 then (if q=3 then some (Kz h)else none)else none,calls:=tC [(42,5,1017,af c1),(42,7,1034,af (aV l1 [41] h0)),(42,10,1068,af c2)]} 1000
theorem P8(h0:br L s1 [41]=false)(e:Ex)(c2:HC 154 [pC 1082,pC 1003] (rd L s1 ++fb nm p) [] (rd L s2 ++dn nm p [e]))(r:List Ex)(h:RL 17 (lO 42 3) EH (rd L s2 ++dn nm p [e]) (.exit 0) [(0,rP)] (rd L s3 ++dn nm p r))(c3:HX 40 [rP, .d (.str [41])] (rd L s3) (dk q t) (rd L s4)):
    HX 42 [rP,Ch] (rd L s ++fb nm p) (dk q t) (rd L s4 ++kg (r.length+1)):=
 qX {loops:=fun f q=>if f=42 then (if q=3 then some (Kz h)else none)else none,calls:=tC [(42,5,1017,af c1),(42,7,1034,af (aV l1 [41] h0)),(42,10,1068,af c2)],pans:=au Pg [(42,5,1068,⟨1,some (be c3),[]⟩)]} 1000
theorem P9(h0:br L s1 [41]=false)(e:Ex)(c2:HC 154 [pC 1082,pC 1003] (rd L s1 ++fb nm p) [] (rd L s2 ++dn nm p [e]))(r:List Ex)(h:RL 17 (lO 42 3) EH (rd L s2 ++dn nm p [e]) (.exit 0) [(0,rP)] (rd L s3 ++dn nm p r))(c3:HC 40 [rP, .d (.str [41])] (rd L s3) [tD t2] (rd L s4)):
    HC 42 [rP,Ch] (rd L s ++fb nm p) [] (rd L s4 ++dn nm p r):=
 ag aB named {loops:=fun f q=>if f=42 then (if q=3 then some (Kz h)else none)else none,calls:=tC [(42,5,1017,af c1),(42,7,1034,af (aV l1 [41] h0)),(42,10,1068,af c2),(42,16,1085,af c3)]} 2000 1000 _ 1000000 ⟨rfl,rfl,rfl,by kernel_rfl,by simp[ci,f9,bQ,aQ,dC,fb,dn,wD,kA,pC,rd,rP,BU,u8,cI _ (dM _)],by simp[ci,f9,bQ,aQ,dC,fb,dn,kg,wD,kA,pC,rd,rP,BU,u8,cI _ (dM _)]⟩ (fun _=>by kernel_rfl)
end
theorem Nr(c:HC 42 [rP,Ch] (rd L s ++fb nm p) [] (rd L s1 ++fb nm p)):
    HC 130 [rP, .d (.str nm),dI p] (rd L s) [fM (.mk 5 0 nm 0 p [])] (rd L s1):=
 qN {calls:=tC [(130,13,1135,af c)]} 1000
theorem yc(h:ab):∀r:List Ex,fh (view 3 h) (uw r)=some (iY r,[])
 |[]=>rfl
 |x::r=>by
  have ih:=yc h r;simp only[uw]at ih;simp only[uw,List.map_cons,fh,ih,iY];rfl
def RX(r:List Ex):t6:=⟨1082,5,400000,r.length,uw r,iY r,by simp[uw],fun h=>yc h r⟩
theorem Ns(r:List Ex)(c:HC 42 [rP,Ch] (rd L s ++fb nm p) [] (rd L s1 ++dn nm p r)):
    HC 130 [rP, .d (.str nm),dI p] (rd L s) [fM (.mk 5 0 nm 0 p r)] (rd L s1):=
 qN {frz:=fun f q=>if f=130 then (if q=3 then some (RX r)else none)else none,calls:=tC [(130,13,1135,af c)]} 1000
theorem Nt(v:Nat)(c:HX 42 [rP,Ch] (rd L s ++fb nm p) (dk q t) (rd L s1 ++kg v)):
    HX 130 [rP, .d (.str nm),dI p] (rd L s) (dk q t) (rd L s1):=
 qX {pans:=au Pg [(130,2,1105,⟨2,some (be c),[]⟩)]} 1000
end
end Go.Avm
