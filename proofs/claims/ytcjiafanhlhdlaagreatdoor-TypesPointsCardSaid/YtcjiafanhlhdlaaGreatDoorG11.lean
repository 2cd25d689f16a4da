/-
  Types: a statement, whatever it says; all statements.
-/
import Derived.Test.YtcjiafanhlhdlaaGreatDoorG10
import Derived.Test.YtcjiafanhlhdlaaGreatDoorG09
import Derived.Test.YtcjiafanhlhdlaaGreatDoorG07
set_option linter.unusedVariables false
set_option linter.unusedSimpArgs false
set_option linter.unusedSectionVars false
namespace Go.Avm
open Go.Proofs
theorem ct{S:CK}(h:CKok S)(x:Pt)(hp:S.c.pts.length<900000000):CKok (S.ptd x) where
 fn:=h.fn
 W:=h.W
 dat:=h.dat
 len:=h.len
 par:=h.par
 vars:=h.vars
 seen:=h.seen
 inc:=h.inc
 nms:=h.nms
 nml:=h.nml
 had:=h.had
 sk:=h.sk
 sb:=h.sb
 sc:=h.sc
 sv:=h.sv
 pts:=by simp only[CK.ptd,List.length_append,List.length_cons,List.length_nil];omega
theorem gD{S:CK}(h:CKok S)(hp:S.c.pts.length<900000000):Nx S S.at1 {S.c with pts:=S.c.pts ++[S.c.pt S.fn]}:=⟨ct h _ hp,rfl,rfl,rfl,rfl,rfl,List.prefix_refl _⟩
structure NP(P:Pl)(bd el:List bt):Prop where
 ib:∀S,At P S→TC S 110 [aE, .d (.ro (dP bd))] (en P.in bd S.c)
 ie:∀S,At P S→TC S 110 [aE, .d (.ro (dP el))] (en P.in el S.c)
 eb:lU bd
 ee:lU el
theorem TC.from{S S1:CK}{c1:CS}{f f2:Nat}{args args2:List AV}{r:TR CS}(n1:Nx S S1 c1)(t:TC S1 f args r)(ok:∀S',CKok S'→(HC f args (ck S1) [] (ck S'))→HC f2 args2 (ck S) [] (ck S'))
    (bad:∀g p e,(HX f args (ck S1) (aD p e) (ci g))→HX f2 args2 (ck S) (aD p e) (ci g)):TC S f2 args2 r:=by
 cases r with
 |out=>trivial
 |bad p e=>
  obtain⟨g,c⟩:=t;exact⟨g,bad g p e c⟩
 |ok c=>
  obtain⟨S',nx,h⟩:=t;exact⟨S',n1.trans nx,ok S' nx.ok h⟩
section
variable{P:Pl}{S:CK}(a:At P S)(hp:S.c.pts.length<900000000)(nm:List UInt8)(ty n p:Int)(es:List Ex)(bd el:List bt)
include a hp
theorem lV{f:Nat}{args:List AV}{p e:Int}(h:HX f args (ck S) (aD p e) (gR S)):IQ S f args p e:=by
 rw[cI]at h;exact gQ h
theorem w7{f:Nat}{args:List AV}(h:HC f args (ck S) [] (gR S)):TC S f args (.ok {S.c with pts:=S.c.pts ++[S.c.pt S.fn]}):=by
 rw[cI]at h;exact⟨S.at1,gD a.ok hp,h⟩
abbrev c1(S:CK):CS:={S.c with pts:=S.c.pts ++[S.c.pt S.fn]}
theorem Qh:TC S 76 [aE,eh 1 (S.c.pts.length:Int) nm ty n p es bd el] (sL P.fs P.deep nm (S.c.pts.length:Int) ty n p es (c1 S)):=by
 have t:=Nt (gD a.ok hp).ok 1 (S.c.pts.length:Int) nm ty n p es bd el;have e1:S.at1.fs=P.fs:=a.fs;have e2:S.at1.deep=P.deep:=a.deep;rw[e1,e2]at t;exact TC.from (gD a.ok hp) t (fun S' h' c=>Lj a.ok (ct a.ok dU hp) nm ty n p es bd el h' c) (fun g q r c=>Jd a.ok (ct a.ok dU hp) nm ty n p es bd el g q r c)
theorem Qi(x:NP P bd el):TC S 76 [aE,eh 4 (S.c.pts.length:Int) nm ty n p es bd el] (rQ P es bd el (c1 S)):=by
 have t:=FP x.ib x.ie x.eb x.ee 4 (S.c.pts.length:Int) nm ty n p es S.at1 (a.nx (gD a.ok hp));exact TC.from (gD a.ok hp) t (fun S' h' c=>Lk a.ok (ct a.ok dU hp) nm ty n p es bd el h' c) (fun g q r c=>Je a.ok (ct a.ok dU hp) nm ty n p es bd el g q r c)
theorem Qj:TC S 76 [aE,eh 6 (S.c.pts.length:Int) nm ty n p es bd el] (kM P.fs P.fn p es (c1 S)):=by
 have n1:=gD a.ok hp;have t:=KX n1.ok 6 (S.c.pts.length:Int) nm ty n p es bd el;have e1:S.at1.fs=P.fs:=a.fs;have e2:S.at1.fn=P.fn:=a.fn;rw[e1,e2]at t;have e3:S.at1.c=c1 S:=rfl;rw[e3]at t;revert t;cases kM P.fs P.fn p es (c1 S)with
 |out=>exact fun _=>trivial
 |bad q r=>exact fun t=>lV a hp (Jf a.ok (ct a.ok dU hp) nm ty n p es bd el n1.ok q r t)
 |ok c=>
  rintro⟨rfl,t⟩;exact w7 a hp (Ll a.ok (ct a.ok dU hp) nm ty n p es bd el n1.ok t)
theorem Qk:TC S 76 [aE,eh 7 (S.c.pts.length:Int) nm ty n p es bd el] ((aG ((c1 S).te P.fs) es [[1,2]] false).bind fun _=> .ok (c1 S)):=by
 have n1:=gD a.ok hp;match es with
 |[]=>simp only[aG];trivial
 | .mk k1 o1 nm1 n1' p1 xs1::zs=>
  have t:=P7 n1.ok (.mk k1 o1 nm1 n1' p1 xs1) 1 2;unfold WX at t;have e1:S.at1.c.te S.at1.fs=(c1 S).te P.fs:=by rw[show S.at1.fs=P.fs from a.fs];rfl
  rw[e1]at t;rw[bp];revert t;cases bZ ((c1 S).te P.fs) (.mk k1 o1 nm1 n1' p1 xs1) [1,2]with
  |out=>exact fun _=>trivial
  |bad q r=>exact fun t=>lV a hp (Jg a.ok (ct a.ok dU hp) nm ty n p k1 o1 nm1 n1' p1 xs1 zs bd el n1.ok q r t)
  |ok u=>
   intro t;simp only[TR.bind,cond_false,dW];exact w7 a hp (Lm a.ok (ct a.ok dU hp) nm ty n p k1 o1 nm1 n1' p1 xs1 zs bd el n1.ok u t)
theorem Ql:TC S 76 [aE,eh 8 (S.c.pts.length:Int) nm ty n p es bd el] (match es with|[]=> .out|x::_=>(dV ((c1 S).te P.fs) x).bind fun _=> .ok (c1 S)):=by
 have n1:=gD a.ok hp;match es with
 |[]=>trivial
 | .mk k1 o1 nm1 n1' p1 xs1::zs=>
  have t:=MW n1.ok (.mk k1 o1 nm1 n1' p1 xs1);have e1:S.at1.c.te S.at1.fs=(c1 S).te P.fs:=by rw[show S.at1.fs=P.fs from a.fs];rfl
  rw[e1]at t;simp only;revert t;cases dV ((c1 S).te P.fs) (.mk k1 o1 nm1 n1' p1 xs1)with
  |out=>exact fun _=>trivial
  |bad q r=>exact fun t=>lV a hp (Jh a.ok (ct a.ok dU hp) nm ty n p k1 o1 nm1 n1' p1 xs1 zs bd el n1.ok q r t)
  |ok u=>
   intro t;exact w7 a hp (Ln a.ok (ct a.ok dU hp) nm ty n p k1 o1 nm1 n1' p1 xs1 zs bd el n1.ok u t)
theorem Qm:TC S 76 [aE,eh 3 (S.c.pts.length:Int) nm ty n p es bd el] ((rn ((c1 S).te P.fs) nm p).bind fun _=>(aG ((c1 S).te P.fs) es [[1],[1]] false).bind fun _=> .ok (c1 S)):=by
 have n1:=gD a.ok hp;have e1:S.at1.c.te S.at1.fs=(c1 S).te P.fs:=by rw[show S.at1.fs=P.fs from a.fs];rfl
 have ta:=Ie n1.ok nm p;rw[e1]at ta;revert ta;cases rn ((c1 S).te P.fs) nm p with
 |out=>exact fun _=>trivial
 |bad q r=>exact fun ta=>lV a hp (NG a.ok (ct a.ok dU hp) nm ty n p es bd el n1.ok q r ta)
 |ok _=>
  intro ta;simp only[TR.bind];match es with
  |[]=>simp only[aG];trivial
  | .mk k1 o1 nm1 n1' p1 xs1::zs=>
   have t:=Iz n1.ok (.mk k1 o1 nm1 n1' p1 xs1) 1;unfold WX at t;rw[e1]at t;rw[bp];revert t;cases bZ ((c1 S).te P.fs) (.mk k1 o1 nm1 n1' p1 xs1) [1]with
   |out=>exact fun _=>trivial
   |bad q r=>exact fun t=>lV a hp (NH a.ok (ct a.ok dU hp) nm ty n p k1 o1 nm1 n1' p1 xs1 zs bd el n1.ok ta q r t)
   |ok u=>
    intro t;simp only[TR.bind,cond_false];match zs with
    |[]=>simp only[aG];trivial
    | .mk k2 o2 nm2 n2 p2 bW::zs=>
     have t2:=Iz n1.ok (.mk k2 o2 nm2 n2 p2 bW) 1;unfold WX at t2;rw[e1]at t2;rw[bp];revert t2;cases bZ ((c1 S).te P.fs) (.mk k2 o2 nm2 n2 p2 bW) [1]with
     |out=>exact fun _=>trivial
     |bad q r=>exact fun t2=>lV a hp (NI a.ok (ct a.ok dU hp) nm ty n p k1 o1 nm1 n1' p1 xs1 k2 o2 nm2 n2 p2 bW zs bd el n1.ok ta u t q r t2)
     |ok u2=>
      intro t2;simp only[TR.bind,cond_false,dW];exact w7 a hp (Lo a.ok (ct a.ok dU hp) nm ty n p k1 o1 nm1 n1' p1 xs1 k2 o2 nm2 n2 p2 bW zs bd el n1.ok ta u t u2 t2)
theorem Qn:TC S 76 [aE,eh 2 (S.c.pts.length:Int) nm ty n p es bd el] ((mt ((c1 S).te P.fs) nm p).bind fun r=>bif r.2.ty==3 then .bad p 8 else (aG ((c1 S).te P.fs) es [[r.2.ty]] false).bind fun _=> .ok {c1 S with sure:=(c1 S).sure.put r.1}):=by
 have n1:=gD a.ok hp;have e1:S.at1.c.te S.at1.fs=(c1 S).te P.fs:=by rw[show S.at1.fs=P.fs from a.fs];rfl
 have ta:=Ic n1.ok nm p;rw[e1]at ta
 have hlt:∀r,mt ((c1 S).te P.fs) nm p= .ok r→r.1<S.c.vars.length:=fun r hr=>by
  unfold mt at hr;cases hf:ek nm ((c1 S).te P.fs).seen 0 with
  |none=>rw[hf]at hr;cases hr
  |some q=>
   rw[hf]at hr;cases hr;exact a.ok.seen _ (ow hf)
 revert ta hlt;cases mt ((c1 S).te P.fs) nm p with
 |out=>exact fun _ _=>trivial
 |bad q r=>exact fun ta _=>lV a hp (NJ a.ok (ct a.ok dU hp) nm ty n p es bd el n1.ok q r ta)
 |ok rv=>
  obtain⟨i,v⟩:=rv;intro ta hlt;have hlt:=hlt _ rfl;simp only[TR.bind];cases hv:(v.ty==3)with
  |true=>
   have hv':(v.ty !=3)=false:=by simp[bne,hv]
   exact lV a hp (NK a.ok (ct a.ok dU hp) nm ty n p es bd el n1.ok i v ta hv')
  |false=>
   have hv':(v.ty !=3)=true:=by simp[bne,hv]
   simp only[cond_false];match es with
   |[]=>simp only[aG];trivial
   | .mk k1 o1 nm1 n1' p1 xs1::zs=>
    have t:=Iz n1.ok (.mk k1 o1 nm1 n1' p1 xs1) v.ty;unfold WX at t;rw[e1]at t;rw[bp];revert t;cases bZ ((c1 S).te P.fs) (.mk k1 o1 nm1 n1' p1 xs1) [v.ty]with
    |out=>exact fun _=>trivial
    |bad q r=>exact fun t=>lV a hp (NL a.ok (ct a.ok dU hp) nm ty n p k1 o1 nm1 n1' p1 xs1 zs bd el n1.ok i v ta hv' q r t)
    |ok u=>
     intro t;simp only[TR.bind,cond_false,dW];have h2:=uW n1.ok i hlt;refine⟨S.at1.put i,⟨h2,rfl,rfl,rfl,rfl,rfl,List.prefix_refl _⟩, ?_⟩;cases hi:bI i S.c.sure.l 0 with
     |none=>
      rw[←zU S hi];exact Ji a.ok (ct a.ok dU hp) nm ty n p k1 o1 nm1 n1' p1 xs1 zs bd el n1.ok i v ta hv' u t hi h2
     |some j=>
      rw[←zV S hi];exact Jj a.ok (ct a.ok dU hp) nm ty n p k1 o1 nm1 n1' p1 xs1 zs bd el n1.ok i v ta hv' u t j hi h2
theorem Qo(x:NP P bd el):TC S 76 [aE,eh 5 (S.c.pts.length:Int) nm ty n p es bd el] ((aG ((c1 S).te P.fs) es [[2]] false).bind fun _=>(en P.in bd (c1 S)).bind fun b=> .ok {b with sure:=(c1 S).sure}):=by
 have n1:=gD a.ok hp;have e1:S.at1.c.te S.at1.fs=(c1 S).te P.fs:=by rw[show S.at1.fs=P.fs from a.fs];rfl
 match es with
 |[]=>simp only[aG];trivial
 | .mk k1 o1 nm1 n1' p1 xs1::zs=>
  have t:=Iz n1.ok (.mk k1 o1 nm1 n1' p1 xs1) 2;unfold WX at t;rw[e1]at t;rw[bp];revert t;cases bZ ((c1 S).te P.fs) (.mk k1 o1 nm1 n1' p1 xs1) [2]with
  |out=>exact fun _=>trivial
  |bad q r=>exact fun t=>lV a hp (NM a.ok (ct a.ok dU hp) nm ty n p k1 o1 nm1 n1' p1 xs1 zs bd el n1.ok q r t)
  |ok u=>
   intro t;simp only[TR.bind,cond_false,dW];have tb:=x.ib S.at1 (a.nx n1);have e3:S.at1.c=c1 S:=rfl;rw[e3]at tb;revert tb;cases en P.in bd (c1 S)with
   |out=>exact fun _=>trivial
   |bad q r=>exact fun ⟨g,c⟩=>⟨g,NN a.ok (ct a.ok dU hp) nm ty n p k1 o1 nm1 n1' p1 xs1 zs bd el u t g q r c⟩
   |ok b=>
    rintro⟨S',nx,c⟩;have h2:=uX nx.ok (q:=S.c.sure) (a.ok.q.mono nx.vars.length_le) (S'.vq+1);have nn:=n1.trans nx;refine⟨S'.sureAs S.c.sure (S'.vq+1),⟨h2,by rw[←nx.c];rfl,nn.fs,nn.fn,nn.deep,nn.W,nn.vars⟩,Lp a.ok (ct a.ok dU hp) nm ty n p k1 o1 nm1 n1' p1 xs1 zs bd el u t h2 c⟩
theorem Qp(k:Int)(e1:(k==1)=false)(e2:(k==2)=false)(e3:(k==3)=false)(e4:(k==4)=false)(e5:(k==5)=false)(e6:(k==6)=false)(e7:(k==7)=false)(e8:(k==8)=false):TC S 76 [aE,eh k (S.c.pts.length:Int) nm ty n p es bd el] (.ok (c1 S)):=
 w7 a hp (NF a.ok (ct a.ok dU hp) nm ty n p es bd el (gD a.ok hp).ok k e1 e2 e3 e4 e5 e6 e7 e8)
end
theorem Lq(P:Pl)(es:List Ex)(bd el:List bt)(c:CS):((aG (c.te P.fs) es [[2]] false).bind fun _=>
        (bF P.fs P.fn (fg (P.deep+1)) false bd c).bind fun a=>
        (bF P.fs P.fn (fg (P.deep+1)) false el {a with seen:=c.seen,sure:=c.sure}).bind fun b=>
        .ok {b with seen:=c.seen,sure:=bif em bd then b.sure else bif em el then a.sure else a.sure.both b.sure})=rQ P es bd el c:=by
 unfold rQ en;simp only[Pl.in];cases aG (c.te P.fs) es [[2]] false with
 |out=>rfl
 |bad _ _=>rfl
 |ok _=>
  simp only[TR.bind];cases bF P.fs P.fn (fg (P.deep+1)) false bd c with
  |out=>rfl
  |bad _ _=>rfl
  |ok a=>
   simp only;cases bF P.fs P.fn (fg (P.deep+1)) false el ⟨a.vars,c.seen,c.sure,a.pts⟩with
   |out=>rfl
   |bad _ _=>rfl
   |ok b=>rfl
theorem Lr{P:Pl}{k id:Int}{nm:List UInt8}{ty n p:Int}{es:List Ex}{bd el:List bt}(x:NP P bd el):K1 P (.mk k id nm ty n p es bd el):=fun S a=>by
 unfold jQ;cases hid:(id==(S.c.pts.length:Int)&&decide (S.c.pts.length<900000000))with
 |false=>exact trivial
 |true=>
  rw[Bool.and_eq_true]at hid;have h1:=eq_of_beq hid.1;subst h1;have hp:=of_decide_eq_true hid.2;simp only[cond_true];have ec:({S.c with pts:=S.c.pts ++[S.c.pt P.fn]}:CS)=c1 S:=by rw[←a.fn]
  rw[ec];cases e1:(k==1)with
  |true=>rw[eq_of_beq e1];exact Qh a hp nm ty n p es bd el
  |false=>
  cases e2:(k==2)with
  |true=>
   have:=Qn a hp nm ty n p es bd el;rw[eq_of_beq e2];rw[←a.fn];exact this
  |false=>
  cases e3:(k==3)with
  |true=>rw[eq_of_beq e3];exact Qm a hp nm ty n p es bd el
  |false=>
  cases e4:(k==4)with
  |true=>
   have:=Qi a hp nm ty n p es bd el x;rw[←Lq]at this;rw[eq_of_beq e4];exact this
  |false=>
  cases e5:(k==5)with
  |true=>
   have:=Qo a hp nm ty n p es bd el x;rw[eq_of_beq e5];refine(congrArg (TC S _ _) ?_).mp this;unfold en;simp only[Pl.in];cases aG ((c1 S).te P.fs) es [[2]] false with
   |out=>rfl
   |bad _ _=>rfl
   |ok _=>
    simp only[TR.bind];cases bF P.fs P.fn (fg (P.deep+1)) false bd (c1 S)<;>rfl
  |false=>
  cases e6:(k==6)with
  |true=>rw[eq_of_beq e6];exact Qj a hp nm ty n p es bd el
  |false=>
  cases e7:(k==7)with
  |true=>rw[eq_of_beq e7];exact Qk a hp nm ty n p es bd el
  |false=>
  cases e8:(k==8)with
  |true=>
   rw[eq_of_beq e8];have:=Ql a hp nm ty n p es bd el;refine(congrArg (TC S _ _) ?_).mp this;cases es<;>rfl
  |false=>exact Qp a hp nm ty n p es bd el k e1 e2 e3 e4 e5 e6 e7 e8
theorem yU:∀(m:Nat)(P:Pl)(l:List bt),iO m l→0≤P.deep→P.deep+m<9223372036854775807→∀x∈l,K1 P x
 |0,_,_,h,_,_=>h.elim
 |m+1,P,l,h,h0,hd=>fun x hx=>by
  have hs:=h.2 x hx;obtain⟨k,id,nm,ty,n,p,es,bd,el⟩:=x;simp only at hs
  have ew:P.in.deep=P.deep+1:=by
   show fg (P.deep+1)=_;unfold fg;exact IntWalk.i64_in _ (by omega)
  have ib:=yU m P.in bd hs.1 (by rw[ew];omega) (by rw[ew];omega);have ie:=yU m P.in el hs.2 (by rw[ew];omega) (by rw[ew];omega)
  have rb:∀(l:List bt),iO m l→l.length<1000000∧∀x∈l,lT x:=fun l hl=>by
   cases m with
   |zero=>exact hl.elim
   |succ m=>
    refine⟨hl.1,fun x hx=> ?_⟩;have h2:=hl.2 x hx;obtain⟨k,id,nm,ty,n,p,es,bd,el⟩:=x;exact Hh h2.1 h2.2
  have dd: -9223372036854775808≤P.deep∧P.deep<9223372036854775808:=by omega
  exact Lr ⟨fun S a=>C3 dd (rb bd hs.1).1 ib (rb bd hs.1).2 S a,fun S a=>C3 dd (rb el hs.2).1 ie (rb el hs.2).2 S a,rC m bd hs.1,rC m el hs.2⟩
end Go.Avm
namespace Go.Avm
open Go.Proofs
def kU(fs:List Fn)(i:Nat)(f:Fn)(pts:List Pt):TR (List Vr×List Pt):=(en ⟨fs,i,0⟩ f.bd (f.ps.foldl CS.par ⟨[],[],⟨[],0⟩,pts⟩)).bind fun c=>bif f.res==0||em f.bd then .ok (c.vars,c.pts)else .bad f.p 12
def cv(fs:List Fn):Nat→List Fn→List (List Vr)→List Pt→TR (List (List Vr)×List Pt)
 |_,[],rows,pts=> .ok (rows,pts)
 |i,f::r,rows,pts=>(kU fs i f pts).bind fun q=>cv fs (i+1) r (rows ++[q.1]) q.2
def eK(fs:List Fn):TR (List (List Vr)×List Pt):=(gC fs).bind fun _=>cv fs 0 fs [] [dU]
def XS(x:AV):Prop:=∀ρ:Nat→Nat,ρ 500002=500002→ρ 500003=500003→ρ 500004=500004→aP ρ x=x
abbrev io(fs:List Fn)(W:List AV)(pts:List Pt)(g:Gv)(x4:Nat)(x5 x6 x7:AV):List (Nat×aK):=
 [(500000,⟨1,some (.arr 1 [.mp 499904 1, .d (.ro (fs.map cW)), .sl 500191 1 0 fs.length 1, .sl 500382 g.vp 0 pts.length 3,dN x4,x5,x6,x7,dI 0])⟩),(499904,⟨1,some (.map (jV 0 fs) fs.length)⟩),(500002,⟨g.vh,none⟩),(500003,⟨g.vs,none⟩),(500004,⟨g.vq,none⟩),(500005,⟨g.vv,none⟩),(500382,⟨g.vp,some (.arr 3 (pts.map cg))⟩),(500191,⟨1,some (.arr 1 W)⟩)]
abbrev FX(fs:List Fn)(W:List AV)(pts:List Pt)(g:Gv)(i:Nat):List (Nat×aK):=
 [(500000,⟨1,some (.arr 1 [.mp 499904 1, .d (.ro (fs.map cW)), .sl 500191 1 0 fs.length 1, .sl 500382 g.vp 0 pts.length 3,dN i, .mp 500002 (g.vh+1), .mp 500003 (g.vs+1), .mp 500004 (g.vq+1),dI 0])⟩),(499904,⟨1,some (.map (jV 0 fs) fs.length)⟩),(500002,⟨g.vh+1,some (.map [] 0)⟩),(500003,⟨g.vs+1,some (.map [] 0)⟩),(500004,⟨g.vq+1,some (.map [] 0)⟩),(500005,⟨g.vv,none⟩),(500382,⟨g.vp,some (.arr 3 (pts.map cg))⟩),(500191,⟨1,some (.arr 1 W)⟩)]
abbrev fZ:List (Nat×aK):=[(600003,⟨0,none⟩)]
def pE(W:List AV):Prop:=∀x∈W,x= .nils∨∃d,x= .d d
theorem zW{W:List AV}(h:pE W)(ρ:Nat→Nat):bK ρ W=W:=nF fun x hx=>by
 rcases h x hx with rfl|⟨d,rfl⟩<;>rfl
abbrev Hw:List Nat:=[500000,499904,500002,500003,500004,500005,500382,500191]
section
variable{fs:List Fn}{W:List AV}{pts:List Pt}{g:Gv}{x4:Nat}{x5 x6 x7:AV}(hW:pE W)(h5:XS x5)(h6:XS x6)(h7:XS x7){ρ:Nat→Nat}(hρ:([499904,500002,500003,500004,500382,500191].map ρ)=[499904,500002,500003,500004,500382,500191])
include hW hρ
theorem er(h5:XS x5)(h6:XS x6)(h7:XS x7):((io fs W pts g x4 x5 x6 x7).map fun p=>b6 ρ p.2)=(io fs W pts g x4 x5 x6 x7).map (·.2):=by
 simp only[List.map_cons,List.map_nil,List.cons.injEq,and_true]at hρ;obtain⟨e1,e2,e3,e4,e6,e7⟩:=hρ;simp only[io,List.map_cons,List.map_nil,b6,Option.map_some,Option.map_none,fJ,nE,zW hW,bK,aP,e1,e6,e7,h5 ρ e2 e3 e4,h6 ρ e2 e3 e4,h7 ρ e2 e3 e4]
theorem FY{i:Nat}:((FX fs W pts g i).map fun p=>b6 ρ p.2)=(FX fs W pts g i).map (·.2):=by
 simp only[List.map_cons,List.map_nil,List.cons.injEq,and_true]at hρ;obtain⟨e1,e2,e3,e4,e6,e7⟩:=hρ;simp only[FX,List.map_cons,List.map_nil,b6,Option.map_some,Option.map_none,fJ,nE,zW hW,bK,aP,e1,e2,e3,e4,e6,e7]
end
abbrev Bj:List Nat:=[500000,499904,500002,500003,500004,500005,500382,500191,600003]
theorem zX{A B ex ex':List (Nat×aK)}{ar:List AV}(hA:A.map (·.1)=Hw)(hB:B.map (·.1)=Hw)(hx:ex.map (·.1)=[600003])(hx':ex'.map (·.1)=[600003])(ha:bK (dq Bj 1000000) ar=ar)
    (rA:(A.map fun p=>b6 (dq Bj 1000000) p.2)=A.map (·.2)) (rB:(B.map fun p=>b6 (dq Bj 1000000) p.2)=B.map (·.2)) (re:(ex.map fun p=>b6 (dq Bj 1000000) p.2)=ex.map (·.2)) (re':(ex'.map fun p=>b6 (dq Bj 1000000) p.2)=ex'.map (·.2)):
    Cln ((A ++ex).map (·.1)) 1000000 ar (A ++ex) (B ++ex'):=by
 have e:(A ++ex).map (·.1)=Bj:=by rw[List.map_append,hA,hx];rfl
 rw[e];exact⟨rfl,e,by rw[List.map_append,hB,hx'];rfl,ha,by rw[List.map_append,List.map_append,rA,re],by rw[List.map_append,List.map_append,rB,re']⟩
noncomputable def bB:Code:=bV Pg 27 1
noncomputable def PO:Code:=FK bB
noncomputable def FZ:Code:=MX (FK (tG (tG bB)))
noncomputable def PQ:Code:=FK FZ
noncomputable def PR:Code:=FK (tG FZ)
noncomputable def PS:Code:=FK (tG (tG FZ))
noncomputable def Jk:Code:=tG (tG (tG FZ))
noncomputable def Jl:Code:=tG (tG (tG bB))
theorem w8:bB= .seq PO (.seq (.cond (.tmp 13) .skip (.exit 0)) (.seq (.block 1 (.seq PQ (.seq PR (.seq PS Jk)))) Jl)):=by kernel_rfl
abbrev pQ(fs:List Fn)(i:Nat):List (Nat×AV):=[(0,aE),(10, .d (.ro (fs.map cW))),(11,dN (fs.map cW).length),(12,dN i)]
section
variable{fs:List Fn}{W:List AV}{pts:List Pt}{g:Gv}{x4:Nat}{x5 x6 x7:AV}(hW:pE W)(h5:XS x5)(h6:XS x6)(h7:XS x7)(i:Nat)
include hW h5 h6 h7
theorem PT(t:Bool)(hi:decide (i<(fs.map cW).length)=t):RE 69 PO (pQ fs i) (io fs W pts g x4 x5 x6 x7 ++fZ) .normal (pQ fs i ++[(13,dB t)]) (io fs W pts g x4 x5 x6 x7 ++fZ):=
 dr aA named {hint:=qT 27 [(13,jE Pg i (fs.map cW).length t hi)]} 2000 27 599000 69 1000000 ([]) (zX rfl rfl rfl rfl rfl (er hW rfl h5 h6 h7) (er hW rfl h5 h6 h7) rfl rfl) (by kernel_rfl) (by kernel_rfl) (fun _=>by kernel_rfl)
variable(nm:List UInt8)(ps:List Pm)(res:Int)(bd:List bt)(p:Int)(hx:fs[i]? =some ⟨nm,ps,res,bd,p⟩)
include hx
theorem Qq:RE 69 PQ (pQ fs i ++[(13,dB true)]) (io fs W pts g x4 x5 x6 x7 ++fZ) .normal (pQ fs i ++[(2,dN i),(3, .ptr 600003 1 0 0 1)]) (io fs W pts g x4 x5 x6 x7 ++fB nm ps res bd p):=
 dr aA named {hint:=qT 27 [(15,yT Pg fs i _ hx)]} 2000 27 599793 69 1000000 ([]) (zX rfl rfl rfl rfl rfl (er hW rfl h5 h6 h7) (er hW rfl h5 h6 h7) rfl rfl) (by kernel_rfl) (by kernel_rfl) (fun _=>by kernel_rfl)
omit hx in
theorem Qr:RE 69 PR (pQ fs i ++[(2,dN i),(3, .ptr 600003 1 0 0 1)]) (io fs W pts g x4 x5 x6 x7 ++fB nm ps res bd p) .normal (pQ fs i ++[(3, .ptr 600003 1 0 0 1)]) (FX fs W pts g i ++fB nm ps res bd p):=
 dr aA named {} 2000 27 599000 69 1000000 ([(500000,524290098181),(500000,524291146758),(500000,524292195335)]) (zX rfl rfl rfl rfl rfl (er hW rfl h5 h6 h7) (FY hW rfl) rfl rfl) (by kernel_rfl) (by kernel_rfl) (fun _=>by kernel_rfl)
end
end Go.Avm
namespace Go.Avm
open Go.Proofs
def bS(fs:List Fn)(W:List AV)(pts:List Pt)(g:Gv)(i:Nat):CK:=⟨fs,i,W,0,⟨[],[],⟨[],0⟩,pts⟩,g.vh+1,g.vs+1,g.vq+1,g.vp,g.vv+1⟩
theorem Qs{X:bX}{env:Nat→AV}(fs:List Fn)(W:List AV)(pts:List Pt)(g:Gv)(i:Nat)(ee:aK)(hi:W[i]? =some .nils)(rest:ab):Weak X ⟨env,al (FX fs W pts g i ++[(600003,ee)]) rest⟩ ⟨env,al (ck (bS fs W pts g i) ++[(600003,ee)]) rest⟩:=by
 have w:=jC (X:=X) (env:=env) (h:=al (FX fs W pts g i ++[(600003,ee)]) rest) (C:=500191) (K:=500005) (a:=i) (sz:=4) (ces:=W) (by decide) (by simp[al,aJ]) hi;refine w.trans (jc fun k=> ?_);have e:(al (FX fs W pts g i ++[(600003,ee)]) rest 500005).ver=g.vv:=by simp[al,aJ]
 have e2:(al (FX fs W pts g i ++[(600003,ee)]) rest 500191).ver=1:=by simp[al,aJ]
 rw[e,e2];simp only[FX,ck,zH,bS,kP,List.map_nil,List.length_nil,jV,f9,co,aW,List.cons_append,List.nil_append,al,aJ];by_cases h0:k=500000
 ·subst h0;simp
 by_cases h1:k=499904
 ·subst h1;simp
 by_cases h2:k=500002
 ·subst h2;simp
 by_cases h3:k=500003
 ·subst h3;simp
 by_cases h4:k=500004
 ·subst h4;simp
 by_cases h5:k=500005
 ·subst h5;simp
 by_cases h6:k=500382
 ·subst h6;simp
 by_cases h7:k=500191
 ·subst h7;simp
 by_cases h8:k=600003
 ·subst h8;simp
 simp only[h0,h1,h2,h3,h4,h5,h6,h7,h8,if_false];simp
theorem Dp(n:Nat)(h:ab):∀r:List D,eO (view (n+1) h) (r.map .d)=some (r,[])
 |[]=>rfl
 |x::r=>by
  rw[List.map_cons,eO,Dp n h r];rfl
theorem rS{h:ab}{K v sz n:Nat}{ds:List D}(hk:h K=⟨v,some (.arr sz (ds.map .d))⟩):view (n+2) h (.sl K v 0 ds.length sz)=some (.ro ds,[K]):=by
 unfold view;simp only[hk,true_and,List.length_map,Nat.zero_add,Nat.le_refl,if_true,List.drop_zero];rw[List.take_of_length_le (by simp),Dp];rfl
def yV(vs:List Vr):AV:= .d (.ro (vs.map sK))
theorem Qt{X:bX}{env:Nat→AV}(S:CK)(h0:S.deep=0)(hi:S.fn<S.W.length)(ee:aK)(rest:ab):Weak X ⟨env,al (ck S ++[(600003,ee)]) rest⟩ ⟨env,al (io S.fs (S.W.set S.fn (yV S.c.vars)) S.c.pts ⟨S.vh,S.vs,S.vq,S.vv+1,S.vp⟩ S.fn (.mp 500002 S.vh) (.mp 500003 S.vs) (.mp 500004 S.vq) ++[(600003,ee)]) rest⟩:=by
 have ev:S.c.vars.map xJ=(S.c.vars.map sK).map .d:=by simp[xJ]
 have hl:S.c.vars.length=(S.c.vars.map sK).length:=by simp
 have w:=gm (X:=X) (env:=env) (h:=al (ck S ++[(600003,ee)]) rest) (C:=500191) (a:=S.fn) (n:=2) (ces:=S.W.set S.fn (kP S.vv S.c.vars)) (x:=kP S.vv S.c.vars) (d:= .ro (S.c.vars.map sK)) (ks:=[500005]) (by decide) (by simp[al,aJ]) (by simp[hi]) rfl (by
  unfold kP;rw[hl];exact rS (n:=0) (by rw[←ev];simp[al,aJ]))
 refine w.trans (jc fun k=> ?_);have e2:(al (ck S ++[(600003,ee)]) rest 500191).ver=1:=by simp[al,aJ]
 rw[e2,List.set_set]
 have e3:∀k,aJ (aq (al (ck S ++[(600003,ee)]) rest) (kill (al (ck S ++[(600003,ee)]) rest) [500005])) 500191 ⟨1,some (.arr 1 (S.W.set S.fn (.d (.ro (S.c.vars.map sK)))))⟩ k=if k=500191 then ⟨1,some (.arr 1 (S.W.set S.fn (.d (.ro (S.c.vars.map sK)))))⟩else if k=500005 then ⟨S.vv+1,none⟩else al (ck S ++[(600003,ee)]) rest k:=fun k=>by
  simp only[aJ];split
  ·rfl
  ·rw[bk]
   simp only[List.mem_singleton];split
   ·rename_i h5
    subst h5;simp[al,aJ]
   ·rfl
 rw[e3];simp only[io,ck,zH,h0,yV,List.cons_append,List.nil_append,al,aJ];by_cases h0:k=500000
 ·subst h0;simp
 by_cases h1:k=499904
 ·subst h1;simp
 by_cases h2:k=500002
 ·subst h2;simp
 by_cases h3:k=500003
 ·subst h3;simp
 by_cases h4:k=500004
 ·subst h4;simp
 by_cases h5:k=500005
 ·subst h5;simp
 by_cases h6:k=500382
 ·subst h6;simp
 by_cases h7:k=500191
 ·subst h7;simp
 by_cases h8:k=600003
 ·subst h8;simp
 simp only[h0,h1,h2,h3,h4,h5,h6,h7,h8,if_false];simp
noncomputable def NQ{S:CK}{fs:List Fn}{i:Nat}{nm:List UInt8}{ps:List Pm}{res:Int}{bd:List bt}{p:Int}{x:aB}{l':List (Nat×AV)}{hp':List (Nat×aK)}(h:RL 69 (lO 27 5) (Hu fs i ps 0) (ck S ++fB nm ps res bd p) x l' hp'):dJ Pg:=
 ⟨69,bV Pg 27 5,Hu fs i ps 0,fun _=>ck S ++fB nm ps res bd p,x,l',fun _=>hp',fun rest X hP hN=>(h rest X hP hN).aw⟩
abbrev NR(S S':CK)(l:List bt):Prop:=HC 49 [aE, .d (.ro (dP l))] (ck S) [] (ck S')
section
variable{S S':CK}(h:CKok S)(fs:List Fn)(i:Nat)(nm:List UInt8)(ps:List Pm)(res:Int)(bd:List bt)(p:Int)
include h
theorem Qu(h':CKok S')(c:∀(rest:ab)(X:bX),X.P=Pg→X.N=69→LW X (lO 27 5) ⟨an (Hu fs i ps 0),al (ck S ++fB nm ps res bd p) rest⟩ fun e' S2=>e'= .exit 2∧S2=⟨an (Dl fs i),al (ck S' ++fB nm ps res bd p) rest⟩):
    ∀(rest:ab)(X:bX),X.P=Pg→X.N=69→AW X PS ⟨an (pQ fs i ++[(3, .ptr 600003 1 0 0 1)]),al (ck S ++fB nm ps res bd p) rest⟩ fun e' S2=>e'= .normal∧S2=⟨an (Dl fs i),al (ck S' ++fB nm ps res bd p) rest⟩:=
 dr aA named ({loops:=fun f q=>if f=27 then (if q=5 then some (NQ c)else none)else none}) 2000 27 599000 69 1000000 ([]) (ga h h' rfl rfl rfl rfl rfl rfl) (by kernel_rfl) (by kernel_rfl) (fun _=>by kernel_rfl)
theorem NS(g:Gv)(q e:Int)(c:HX 49 [aE, .d (.ro (dP bd))] (ck S) (aD q e) (ci g)):
    ∀(rest:ab)(X:bX),X.P=Pg→X.N=69→AW X Jk ⟨an (Dl fs i),al (ck S ++fB nm ps res bd p) rest⟩ fun e' S2=>e'= .panic (aD q e)∧S2=⟨an [],al (ci g ++fG) rest⟩:=
 dr aA named {pans:=au Pg [(27,9,599000,⟨3,some (aZ c),[]⟩)]} 2000 27 599000 69 1000000 ([]) (kR h rfl rfl rfl rfl rfl rfl) (by kernel_rfl) (by kernel_rfl) (fun _=>by kernel_rfl)
variable(h':CKok S')(c:NR S S' bd)
include h' c
theorem NT(h0:(res==0)=true):∀(rest:ab)(X:bX),X.P=Pg→X.N=69→AW X Jk ⟨an (Dl fs i),al (ck S ++fB nm ps res bd p) rest⟩ fun e' S2=>e'= .normal∧S2=⟨an (pQ fs i),al (ck S' ++fG) rest⟩:=
 dr aA named {hint:=qT 27 [(59,qB h0)],calls:=tC [(27,56,599207,af c),(27,67,599690,aY rfl (aN p 12))]} 2000 27 599000 69 1000000 ([]) (ga h h' rfl rfl rfl rfl rfl rfl) (by kernel_rfl) (by kernel_rfl) (fun _=>by kernel_rfl)
theorem NU(h0:(res==0)=false)(ee:iP bd true):∀(rest:ab)(X:bX),X.P=Pg→X.N=69→AW X Jk ⟨an (Dl fs i),al (ck S ++fB nm ps res bd p) rest⟩ fun e' S2=>e'= .normal∧S2=⟨an (pQ fs i),al (ck S' ++fG) rest⟩:=
 dr aA named {hint:=qT 27 [(59,qB h0)],calls:=tC [(27,56,599207,af c),(27,63,599621,aY rfl ee),(27,67,599828,aY rfl (aN p 12))]} 2000 27 599000 69 1000000 ([]) (ga h h' rfl rfl rfl rfl rfl rfl) (by kernel_rfl) (by kernel_rfl) (fun _=>by kernel_rfl)
theorem NV(h0:(res==0)=false)(ee:iP bd false):∀(rest:ab)(X:bX),X.P=Pg→X.N=69→AW X Jk ⟨an (Dl fs i),al (ck S ++fB nm ps res bd p) rest⟩ fun e' S2=>e'= .panic (aD p 12)∧S2=⟨an [],al (ci S'.gv ++fG) rest⟩:=
 dr aA named {hint:=qT 27 [(59,qB h0)],calls:=tC [(27,56,599207,af c),(27,63,599621,aY rfl ee)],pans:=au Pg [(27,10,599207,⟨10,some (aZ (bM p 12)),[]⟩)]} 2000 27 599000 69 1000000 ([]) (kR h rfl rfl rfl rfl rfl rfl) (by kernel_rfl) (by kernel_rfl) (fun _=>by kernel_rfl)
end
theorem NW{fs:List Fn}{W:List AV}{pts:List Pt}{g:Gv}{x4:Nat}{x5 x6 x7:AV}(hW:pE W)(h5:XS x5)(h6:XS x6)(h7:XS x7)(i:Nat)(hi:i<1000000):RE 69 Jl (pQ fs i) (io fs W pts g x4 x5 x6 x7 ++fG) .normal (pQ fs (i+1)) (io fs W pts g x4 x5 x6 x7 ++fG):=
 dr aA named {hint:=qT 27 [(68,cT Pg i (by omega))]} 2000 27 599000 69 1000000 ([]) (zX rfl rfl rfl rfl rfl (er hW rfl h5 h6 h7) (er hW rfl h5 h6 h7) rfl rfl) (by kernel_rfl) (by kernel_rfl) (fun _=>by kernel_rfl)
end Go.Avm
namespace Go.Avm
open Go.Proofs
structure Dq(fs:List Fn)(m:Nat):Prop where
 len:fs.length<1000000
 par:∀f∈fs,f.ps.length≤6
 nod:∀f∈fs,(f.ps.map (·.nm)).Nodup
 nml:∀f∈fs,∀p∈f.ps,p.nm.length≤1000000
 sh:∀f∈fs,iO m f.bd
 m:m<1000000
theorem zY:∀{m:Nat}{l:List bt},iO m l→l.length<1000000∧∀x∈l,lT x
 |0,_,h=>h.elim
 |_+1,_,h=>⟨h.1,fun x hx=>by
  have h2:=h.2 x hx;obtain⟨k,id,nm,ty,n,p,es,bd,el⟩:=x;exact Hh h2.1 h2.2⟩
theorem Hx{fs:List Fn}{m:Nat}(ok:Dq fs m){W:List AV}{pts:List Pt}{g:Gv}{i:Nat}(hi:i<fs.length)(hl:W.length=fs.length)(hW:pE W)(hp:pts.length<1000000000):CKok (bS fs W pts g i) where
 fn:=hi
 W:=hl
 dat:=hW
 len:=ok.len
 par:=ok.par
 vars:=Nat.zero_le _
 seen:=fun p hp=>by cases hp
 inc:=List.Pairwise.nil
 nms:=List.nodup_nil
 nml:=fun p hp=>by cases hp
 had:=fun p hp=>by cases hp
 sk:=List.nodup_nil
 sb:=List.nodup_nil
 sc:=fun p hp=>by cases hp
 sv:=fun p hp=>by cases hp
 pts:=hp
theorem u4{B ex:List (Nat×aK)}(hB:B.map (·.1)=Hw)(R:ab)(k:Nat)(hk:k∈Hw):al (B ++ex) R k=al B (al (B ++ex) R) k:=by
 have h1:al (B ++ex) R k=al B (al ex R) k:=by rw[kS R]
 rw[h1];exact fW B _ _ (by rw[hB];exact hk)
theorem Dr{k:Nat}(hk:1000000≤k):k∉Hw:=fun h=>by
 simp only[Hw,List.mem_cons,List.not_mem_nil,or_false]at h;omega
theorem pR{A B ex:List (Nat×aK)}(hA:A.map (·.1)=Hw)(hB:B.map (·.1)=Hw)(hx:ex.map (·.1)=[600003])(R:ab)(k:Nat)(hk:1000000≤k):al (B ++ex) R k=al A R k:=by
 rw[kS R,bP B _ (by rw[hB];exact Dr hk),bP A _ (by rw[hA];exact Dr hk),bP ex _ (by rw[hx,List.mem_singleton];omega)]
theorem gq(A:List (Nat×aK))(rest:ab):al (A ++fZ) (eg 1000000 rest)=al A (eg 1000000 rest):=by
 rw[kS rest];congr 1;funext k;simp only[fZ,al,aJ];by_cases h:k=600003
 ·subst h
  rfl
 ·rw[if_neg h]
def Jm(fs:List Fn)(W:List AV)(pts:List Pt)(g:Gv)(x4:Nat)(x5 x6 x7:AV)(i:Nat):TR (List Vr×List Pt)→Prop
 | .ok q=>q.2.length<1000000000∧∃g':Gv,RE 69 bB (pQ fs i) (io fs W pts g x4 x5 x6 x7) .normal (pQ fs (i+1)) (io fs (W.set i (yV q.1)) q.2 g' i (.mp 500002 g'.vh) (.mp 500003 g'.vs) (.mp 500004 g'.vq))
 | .bad p e=>∃g':Gv,RE 69 bB (pQ fs i) (io fs W pts g x4 x5 x6 x7) (.panic (aD p e)) [] (ci g')
 | .out=>True
theorem bW(v:Nat):XS (.mp 500002 v):=fun ρ h _ _=>by simp only[aP,h]
theorem NX(v:Nat):XS (.mp 500003 v):=fun ρ _ h _=>by simp only[aP,h]
theorem NY(v:Nat):XS (.mp 500004 v):=fun ρ _ _ h=>by simp only[aP,h]
theorem Ds{W:List AV}(h:pE W)(i:Nat)(vs:List Vr):pE (W.set i (yV vs)):=fun x hx=>by
 rcases List.mem_or_eq_of_mem_set hx with hx|rfl
 ·exact h x hx
 ·exact .inr ⟨_,rfl⟩
section
variable{fs:List Fn}{m:Nat}(ok:Dq fs m){W:List AV}(hl:W.length=fs.length)(hW:pE W){pts:List Pt}(hp:pts.length<1000000000)(g:Gv)(x4:Nat){x5 x6 x7:AV}(h5:XS x5)(h6:XS x6)(h7:XS x7){i:Nat}
include ok hl hW hp h5 h6 h7
theorem Jn{nm:List UInt8}{ps:List Pm}{res:Int}{bd:List bt}{p:Int}(hx:fs[i]? =some ⟨nm,ps,res,bd,p⟩)(hn:W[i]? =some .nils){S1:CK}(k1:CKok S1)
    (c5:∀(rest:ab)(X:bX),X.P=Pg→X.N=69→LW X (lO 27 5) ⟨an (Hu fs i ps 0),al (ck (bS fs W pts g i) ++fB nm ps res bd p) rest⟩ fun e' S2=>e'= .exit 2∧S2=⟨an (Dl fs i),al (ck S1 ++fB nm ps res bd p) rest⟩)
    (Q:aB→St→Prop) (R:ab) (X:bX) (hP:X.P=Pg) (hN:X.N=69) (hc:AW X Jk ⟨an (Dl fs i),al (ck S1 ++fB nm ps res bd p) R⟩ (qH 1 (zp (fun S'=>AW X Jl S' Q) Q))):
    AW X bB ⟨an (pQ fs i),al (io fs W pts g x4 x5 x6 x7 ++fZ) R⟩ Q:=by
 have hi:i<fs.length:=(List.getElem?_eq_some_iff.1 hx).1;rw[w8];refine dn ((PT hW h5 h6 h7 i true (by simpa using hi) R X hP hN).mono ?_);rintro _ _ ⟨rfl,rfl⟩;refine dn (gh (b:=true) rfl (fun _=>m5 ?_) (fun h=>by cases h));refine dn (hQ (dn ((Qq hW h5 h6 h7 i nm ps res bd p hx R X hP hN).mono ?_)));rintro _ _ ⟨rfl,rfl⟩;refine dn ((Qr hW h5 h6 h7 i nm ps res bd p R X hP hN).mono ?_);rintro _ _ ⟨rfl,rfl⟩;refine AW.weak (Qs fs W pts g i _ hn R) (dn ((Qu (Hx ok hi hl hW hp) fs i nm ps res bd p k1 c5 R X hP hN).mono ?_));rintro _ _ ⟨rfl,rfl⟩;exact hc
theorem Jo{f:Fn}(hx:fs[i]? =some f)(hn:W[i]? =some .nils):Jm fs W pts g x4 x5 x6 x7 i (kU fs i f pts):=by
 have hi:i<fs.length:=(List.getElem?_eq_some_iff.1 hx).1;have hf:f∈fs:=List.mem_of_getElem? hx;have g1:=ok.nod f hf;have g2:=ok.par f hf;have g3:=ok.nml f hf;have g4:=ok.sh f hf;have hm:=ok.m;have h0:=Hx ok (g:=g) hi hl hW hp;obtain⟨nm,ps,res,bd,p⟩:=f;simp only at g1 g2 g3 g4;obtain⟨S1,nx1,c5⟩:=Hv (fs:=fs) i nm ps res bd p g1 g2 g3 _ 0 (bS fs W pts g i) rfl (Nat.zero_le _) h0 rfl;rw[List.drop_zero]at nx1;have a1:At ⟨fs,i,0⟩ S1:=⟨nx1.ok,nx1.fs,nx1.fn,nx1.deep⟩
 have cb:=C0 (zY g4).1 (yU m ⟨fs,i,0⟩ bd g4 (by simp) (by simp only;omega)) (zY g4).2 S1 a1;rw[nx1.c]at cb;have ee:=rC m bd g4;have ch:=fun Q R X hP hN hc=>Jn ok hl hW hp g x4 h5 h6 h7 (i:=i) hx hn nx1.ok c5 Q R X hP hN hc
 unfold kU;show Jm _ _ _ _ _ _ _ _ _ ((en ⟨fs,i,0⟩ bd (ps.foldl CS.par ⟨[],[],⟨[],0⟩,pts⟩)).bind fun c=>bif res==0||em bd then .ok (c.vars,c.pts)else .bad p 12);have ec:(bS fs W pts g i).c=⟨[],[],⟨[],0⟩,pts⟩:=rfl;rw[ec]at cb;revert cb;cases en ⟨fs,i,0⟩ bd (ps.foldl CS.par ⟨[],[],⟨[],0⟩,pts⟩)with
 |out=>exact fun _=>trivial
 |bad q e=>
  rintro⟨g',c⟩;refine⟨g',nK (M:=1000000) (N:=69) (l':=[]) ⟨rfl,rfl,rfl,rfl,er hW rfl h5 h6 h7,rfl⟩ rfl rfl fun rest X hP hN=> ?_⟩;rw[←gq];refine ch _ _ X hP hN ((NS nx1.ok fs i nm ps res bd p g' q e c _ X hP hN).mono ?_);rintro _ _ ⟨rfl,rfl⟩;exact⟨rfl,rfl,fun k hk=>u4 rfl _ k hk,fun k hk=>(pR (A:=io fs W pts g x4 x5 x6 x7) rfl rfl rfl _ k hk).trans (congrFun (gq _ rest).symm k)⟩
 |ok c=>
  rintro⟨S2,nx2,c2⟩;have e1:S2.fs=fs:=nx2.fs.trans nx1.fs;have e2:S2.fn=i:=nx2.fn.trans nx1.fn;have e3:S2.deep=0:=nx2.deep.trans nx1.deep;have e4:S2.W=W:=nx2.W.trans nx1.W;have e5:S2.c=c:=nx2.c
  have good:(RE 69 Jk (Dl fs i) (ck S1 ++fB nm ps res bd p) .normal (pQ fs i) (ck S2 ++fG))→Jm fs W pts g x4 x5 x6 x7 i (.ok (c.vars,c.pts)):=fun c9=>by
   refine⟨by rw[←e5];exact nx2.ok.pts,⟨S2.vh,S2.vs,S2.vq,S2.vv+1,S2.vp⟩,nK (M:=1000000) (N:=69) ⟨rfl,rfl,rfl,rfl,er hW rfl h5 h6 h7,er (Ds hW i _) rfl (bW _) (NX _) (NY _)⟩ rfl rfl fun rest X hP hN=> ?_⟩;rw[←gq];refine ch _ _ X hP hN ((c9 _ X hP hN).mono ?_);rintro _ _ ⟨rfl,rfl⟩;have w:=Qt (X:=X) (env:=an (pQ fs i)) S2 e3 (by rw[e2,e4,hl];exact hi) ⟨1,none⟩ (eg 1000000 rest);rw[e1,e2,e4,e5]at w;refine AW.weak w ((NW (Ds hW i _) (bW _) (NX _) (NY _) i (by have:=ok.len;omega) _ X hP hN).mono ?_);rintro _ _ ⟨rfl,rfl⟩;exact⟨rfl,rfl,fun k hk=>u4 rfl _ k hk,fun k hk=>(pR (A:=io fs W pts g x4 x5 x6 x7) rfl rfl rfl _ k hk).trans (congrFun (gq _ rest).symm k)⟩
  simp only[TR.bind];cases hr:(res==0)with
  |true=>exact good (NT nx1.ok fs i nm ps res bd p nx2.ok c2 hr)
  |false=>
   unfold lU at ee;revert ee;cases em bd with
   |true=>exact fun ee=>good (NU nx1.ok fs i nm ps res bd p nx2.ok c2 hr ee)
   |false=>
    intro ee;simp only[Bool.or_self,cond_false];refine⟨S2.gv,nK (M:=1000000) (N:=69) (l':=[]) ⟨rfl,rfl,rfl,rfl,er hW rfl h5 h6 h7,rfl⟩ rfl rfl fun rest X hP hN=> ?_⟩;rw[←gq];refine ch _ _ X hP hN ((NV nx1.ok fs i nm ps res bd p nx2.ok c2 hr ee _ X hP hN).mono ?_);rintro _ _ ⟨rfl,rfl⟩;exact⟨rfl,rfl,fun k hk=>u4 rfl _ k hk,fun k hk=>(pR (A:=io fs W pts g x4 x5 x6 x7) rfl rfl rfl _ k hk).trans (congrFun (gq _ rest).symm k)⟩
end
def fP(rows:List (List Vr))(n:Nat):List AV:=rows.map yV ++List.replicate (n-rows.length) .nils
theorem Bk{rows:List (List Vr)}{n:Nat}(h:rows.length≤n):(fP rows n).length=n:=by
 simp only[fP,List.length_append,List.length_map,List.length_replicate];omega
theorem ji(rows:List (List Vr))(n:Nat):pE (fP rows n):=fun x hx=>by
 rcases List.mem_append.1 hx with hx|hx
 ·obtain⟨r,_,rfl⟩:=List.mem_map.1 hx
  exact .inr ⟨_,rfl⟩
 ·exact .inl (List.eq_of_mem_replicate hx)
theorem Bl{rows:List (List Vr)}{n:Nat}(h:rows.length<n):(fP rows n)[rows.length]? =some .nils:=by
 unfold fP;rw[List.getElem?_append_right (by simp),List.length_map,Nat.sub_self,List.getElem?_replicate,if_pos (by omega)]
theorem Bn{rows:List (List Vr)}{n:Nat}(h:rows.length<n)(r:List Vr):(fP rows n).set rows.length (yV r)=fP (rows ++[r]) n:=by
 unfold fP;rw[List.set_append_right _ _ (by simp),List.length_map,Nat.sub_self,List.map_append,List.append_assoc];congr 1;obtain⟨k,hk⟩:∃k,n-rows.length=k+1:=⟨n-rows.length-1,by omega⟩
 rw[hk,List.replicate_succ,List.set_cons_zero,List.length_append,List.length_singleton,show n-(rows.length+1)=k by omega];rfl
def Ls(fs:List Fn)(W:List AV)(pts:List Pt)(g:Gv)(x4:Nat)(x5 x6 x7:AV)(i:Nat):TR (List (List Vr)×List Pt)→Prop
 | .ok q=>q.2.length<1000000000∧q.1.length=fs.length∧∃(g':Gv)(y4:Nat)(y5 y6 y7:AV),XS y5∧XS y6∧XS y7∧RL 69 bB (pQ fs i) (io fs W pts g x4 x5 x6 x7) (.exit 0) [(0,aE)] (io fs (fP q.1 fs.length) q.2 g' y4 y5 y6 y7)
 | .bad p e=>∃g':Gv,RL 69 bB (pQ fs i) (io fs W pts g x4 x5 x6 x7) (.panic (aD p e)) [] (ci g')
 | .out=>True
theorem Lt{fs:List Fn}{W:List AV}{pts:List Pt}{g:Gv}{x4:Nat}{x5 x6 x7:AV}(hW:pE W)(h5:XS x5)(h6:XS x6)(h7:XS x7)(rest:ab)(X:bX)(hP:X.P=Pg)(hN:X.N=69):AW X bB ⟨an (pQ fs fs.length),al (io fs W pts g x4 x5 x6 x7) rest⟩ fun e' S'=>e'= .exit 0∧S'=⟨an [(0,aE)],al (io fs W pts g x4 x5 x6 x7) rest⟩:=by
 refine nK (M:=1000000) (N:=69) ⟨rfl,rfl,rfl,rfl,er hW rfl h5 h6 h7,er hW rfl h5 h6 h7⟩ rfl rfl (fun rest X hP hN=> ?_) rest X hP hN;rw[←gq,w8];refine dn ((PT hW h5 h6 h7 fs.length false (by simp) _ X hP hN).mono ?_);rintro _ _ ⟨rfl,rfl⟩;refine dn (gh (b:=false) rfl (fun h=>by cases h) (fun _=>lh (pJ ⟨⟨an [(0,aE)],al (io fs W pts g x4 x5 x6 x7 ++fZ) (eg 1000000 rest)⟩, ?_,rfl,rfl,fun k hk=>u4 rfl _ k hk,fun k hk=>(pR (A:=io fs W pts g x4 x5 x6 x7) rfl rfl rfl _ k hk).trans (congrFun (gq _ rest).symm k)⟩)))
 exact nI (fun q hq=>by
  rw[List.mem_singleton]at hq;subst hq;rfl) rfl
theorem Hy{fs:List Fn}{m:Nat}(ok:Dq fs m):∀(lB pre:List Fn)(rows:List (List Vr))(pts:List Pt)(g:Gv)(x4:Nat)(x5 x6 x7:AV),fs=pre ++lB→rows.length=pre.length→pts.length<1000000000→XS x5→XS x6→XS x7→
    Ls fs (fP rows fs.length) pts g x4 x5 x6 x7 pre.length (cv fs pre.length lB rows pts)
 |[],pre,rows,pts,g,x4,x5,x6,x7,h,hr,hp,h5,h6,h7=>by
  have:fs=pre:=by rw[h,List.append_nil]
  subst this;exact⟨hp,hr,g,x4,x5,x6,x7,h5,h6,h7,fun rest X hP hN=>bh (Lt (ji _ _) h5 h6 h7 rest X hP hN) (by simp)⟩
 |f::lB,pre,rows,pts,g,x4,x5,x6,x7,h,hr,hp,h5,h6,h7=>by
  have hlt:pre.length<fs.length:=by rw[h];simp
  have hx:fs[pre.length]? =some f:=by rw[h];simp
  have c:=Jo ok (Bk (by omega)) (ji rows fs.length) hp g x4 h5 h6 h7 hx (by rw[←hr];exact Bl (by omega));simp only[cv];revert c;cases kU fs pre.length f pts with
  |out=>exact fun _=>trivial
  |bad p e=>exact fun ⟨g',c⟩=>⟨g',fun rest X hP hN=>bh (c rest X hP hN) (by simp)⟩
  |ok q=>
   rintro⟨hq,g',c⟩
   have e1:(fP rows fs.length).set pre.length (yV q.1)=fP (rows ++[q.1]) fs.length:=by
    rw[←hr];exact Bn (by omega) q.1
   rw[e1]at c;have ih:=Hy ok lB (pre ++[f]) (rows ++[q.1]) q.2 g' pre.length (.mp 500002 g'.vh) (.mp 500003 g'.vs) (.mp 500004 g'.vq) (by rw[h];simp) (by simp[hr]) hq (bW _) (NX _) (NY _);have e2:(pre ++[f]).length=pre.length+1:=by simp
   rw[e2]at ih;simp only[TR.bind];revert ih;cases cv fs (pre.length+1) lB (rows ++[q.1]) q.2 with
   |out=>exact fun _=>trivial
   |bad p e=>exact fun ⟨g2,ih⟩=>⟨g2,fun rest X hP hN=>bc (c rest X hP hN) (ih rest X hP hN)⟩
   |ok r=>exact fun ⟨i1,i2,g2,y4,y5,y6,y7,z5,z6,z7,ih⟩=>⟨i1,i2,g2,y4,y5,y6,y7,z5,z6,z7,fun rest X hP hN=>bc (c rest X hP hN) (ih rest X hP hN)⟩
end Go.Avm
namespace Go.Avm
open Go.Proofs
noncomputable def Lu{fs:List Fn}{W:List AV}{pts:List Pt}{g:Gv}{x4:Nat}{x5 x6 x7:AV}{x:aB}{l':List (Nat×AV)}{hp':List (Nat×aK)}(h:RL 69 bB (pQ fs 0) (io fs W pts g x4 x5 x6 x7) x l' hp'):dJ Pg:=
 ⟨69,bB,pQ fs 0,fun _=>io fs W pts g x4 x5 x6 x7,x,l',fun _=>hp',fun rest X hP hN=>(h rest X hP hN).aw⟩
section
variable{fs:List Fn}{W W':List AV}(hW:pE W)(hW':pE W'){pts pts':List Pt}{g g':Gv}{x4 y4:Nat}{x5 x6 x7 y5 y6 y7:AV}(h5:XS x5)(h6:XS x6)(h7:XS x7)(z5:XS y5)(z6:XS y6)(z7:XS y7)
include hW h5 h6 h7
theorem Bo(p e:Int)(c:RL 69 bB (pQ fs 0) (io fs W pts g x4 x5 x6 x7) (.panic (aD p e)) [] (ci g')):HX 27 [aE] (io fs W pts g x4 x5 x6 x7) (aD p e) (ci g'):=
 ae aA named ({loops:=fun f q=>if f=27 then (if q=1 then some (Lu c)else none)else none}) 2000 2000 _ 1000000 (⟨rfl,rfl,rfl,rfl,er hW rfl h5 h6 h7,rfl⟩) (by kernel_rfl) (fun _=>by kernel_rfl)
include hW' z5 z6 z7
theorem Dt(c:RL 69 bB (pQ fs 0) (io fs W pts g x4 x5 x6 x7) (.exit 0) [(0,aE)] (io fs W' pts' g' y4 y5 y6 y7)):HC 27 [aE] (io fs W pts g x4 x5 x6 x7) [] (io fs W' pts' g' y4 y5 y6 y7):=
 ag aA named ({loops:=fun f q=>if f=27 then (if q=1 then some (Lu c)else none)else none}) 2000 2000 _ 1000000 (⟨rfl,rfl,rfl,rfl,er hW rfl h5 h6 h7,er hW' rfl z5 z6 z7⟩) (fun _=>by kernel_rfl)
end
def ce(rows:List (List Vr)):List D:=rows.map fun vs=> .ro (vs.map sK)
def jH(pts:List Pt):List D:=pts.map Ff
abbrev N0(fs:List Fn)(rows:List (List Vr))(pts:List Pt)(g:Gv)(x4:Nat)(x5 x6 x7:AV):List (Nat×aK):=
 [(500000,⟨1,some (.arr 1 [.mp 499904 1, .d (.ro (fs.map cW)), .d (.ro (ce rows)), .d (.ro (jH pts)),dN x4,x5,x6,x7,dI 0])⟩),(499904,⟨1,none⟩),(500002,⟨g.vh,none⟩),(500003,⟨g.vs,none⟩),(500004,⟨g.vq,none⟩),(500005,⟨g.vv,none⟩),(500382,⟨g.vp+1,none⟩),(500191,⟨2,none⟩)]
theorem Du{X:bX}{env:Nat→AV}(fs:List Fn)(rows:List (List Vr))(hr:rows.length=fs.length)(pts:List Pt)(g:Gv)(x4:Nat)(x5 x6 x7:AV)(rest:ab):Weak X ⟨env,al (io fs (fP rows fs.length) pts g x4 x5 x6 x7) rest⟩ ⟨env,al (N0 fs rows pts g x4 x5 x6 x7) rest⟩:=by
 have e1:fP rows fs.length=(ce rows).map .d:=by
  unfold fP ce;rw[hr,Nat.sub_self,List.replicate_zero,List.append_nil,List.map_map];rfl
 have l1:fs.length=(ce rows).length:=by rw[←hr];simp[ce]
 have l2:pts.length=(jH pts).length:=by simp[jH]
 have e2:pts.map cg=(jH pts).map .d:=by simp[jH,cg]
 rw[e1]
 have w1:=gm (X:=X) (env:=env) (h:=al (io fs ((ce rows).map .d) pts g x4 x5 x6 x7) rest) (C:=500000) (a:=2) (n:=2) (ces:=[.mp 499904 1, .d (.ro (fs.map cW)), .sl 500191 1 0 fs.length 1, .sl 500382 g.vp 0 pts.length 3,dN x4,x5,x6,x7,dI 0]) (x:= .sl 500191 1 0 fs.length 1) (d:= .ro (ce rows)) (ks:=[500191]) (by decide) (by simp[al,aJ]) rfl rfl (by
  rw[l1];exact rS (n:=0) (by simp[al,aJ]))
 refine w1.trans ?_
 have h2:∀k,aJ (aq (al (io fs ((ce rows).map .d) pts g x4 x5 x6 x7) rest) (kill (al (io fs ((ce rows).map .d) pts g x4 x5 x6 x7) rest) [500191])) 500000 ⟨(al (io fs ((ce rows).map .d) pts g x4 x5 x6 x7) rest 500000).ver,some (.arr 1 (List.set [.mp 499904 1, .d (.ro (fs.map cW)), .sl 500191 1 0 fs.length 1, .sl 500382 g.vp 0 pts.length 3,dN x4,x5,x6,x7,dI 0] 2 (.d (.ro (ce rows)))))⟩ k=if k=500000 then ⟨1,some (.arr 1 [.mp 499904 1, .d (.ro (fs.map cW)), .d (.ro (ce rows)), .sl 500382 g.vp 0 pts.length 3,dN x4,x5,x6,x7,dI 0])⟩else if k=500191 then ⟨2,none⟩else al (io fs ((ce rows).map .d) pts g x4 x5 x6 x7) rest k:=fun k=>by
  simp only[aJ];split
  ·simp[al,aJ]
  ·rw[bk]
   simp only[List.mem_singleton];split
   ·rename_i h5
    subst h5;simp[al,aJ]
   ·rfl
 rw[show(aJ (aq (al (io fs ((ce rows).map .d) pts g x4 x5 x6 x7) rest) (kill (al (io fs ((ce rows).map .d) pts g x4 x5 x6 x7) rest) [500191])) 500000 ⟨(al (io fs ((ce rows).map .d) pts g x4 x5 x6 x7) rest 500000).ver,some (.arr 1 (List.set [.mp 499904 1, .d (.ro (fs.map cW)), .sl 500191 1 0 fs.length 1, .sl 500382 g.vp 0 pts.length 3,dN x4,x5,x6,x7,dI 0] 2 (.d (.ro (ce rows)))))⟩)=_ from funext h2];generalize hh:(fun k=>if k=500000 then (⟨1,some (.arr 1 [.mp 499904 1, .d (.ro (fs.map cW)), .d (.ro (ce rows)), .sl 500382 g.vp 0 pts.length 3,dN x4,x5,x6,x7,dI 0])⟩:aK)else if k=500191 then ⟨2,none⟩else al (io fs ((ce rows).map .d) pts g x4 x5 x6 x7) rest k)=H
 have w2:=gm (X:=X) (env:=env) (h:=H) (C:=500000) (a:=3) (n:=2) (ces:=[.mp 499904 1, .d (.ro (fs.map cW)), .d (.ro (ce rows)), .sl 500382 g.vp 0 pts.length 3,dN x4,x5,x6,x7,dI 0]) (x:= .sl 500382 g.vp 0 pts.length 3) (d:= .ro (jH pts)) (ks:=[500382]) (by decide) (by rw[←hh];simp) rfl rfl (by
  rw[l2];exact rS (n:=0) (by rw[←hh];simp[al,aJ,e2]))
 refine w2.trans (jc fun k=> ?_)
 have h3:aJ (aq H (kill H [500382])) 500000 ⟨(H 500000).ver,some (.arr 1 (List.set [.mp 499904 1, .d (.ro (fs.map cW)), .d (.ro (ce rows)), .sl 500382 g.vp 0 pts.length 3,dN x4,x5,x6,x7,dI 0] 3 (.d (.ro (jH pts)))))⟩ k=if k=500000 then ⟨1,some (.arr 1 [.mp 499904 1, .d (.ro (fs.map cW)), .d (.ro (ce rows)), .d (.ro (jH pts)),dN x4,x5,x6,x7,dI 0])⟩else if k=500382 then ⟨g.vp+1,none⟩else H k:=by
  simp only[aJ];split
  ·rw[←hh];simp
  ·rw[bk]
   simp only[List.mem_singleton];split
   ·rename_i h5
    subst h5;rw[←hh];simp[al,aJ]
   ·rfl
 rw[h3,←hh];simp only[N0,io,al,aJ];by_cases h0:k=500000
 ·subst h0;simp
 by_cases h1:k=499904
 ·subst h1;simp
 by_cases h2:k=500002
 ·subst h2;simp
 by_cases h3:k=500003
 ·subst h3;simp
 by_cases h4:k=500004
 ·subst h4;simp
 by_cases h5:k=500005
 ·subst h5;simp
 by_cases h6:k=500382
 ·subst h6;simp
 by_cases h7:k=500191
 ·subst h7;simp
 simp only[h0,h1,h2,h3,h4,h5,h6,h7,if_false];simp
theorem F0{G:Gh}{B:Nat}{w0 w:World}{I0:Nat→Nat→Prop}{h:ab}(hr:HR G B w0 I0 h w){K:Nat}{x:D}(hK:(h K).ob=some (.arr 3 [.agg [.d x, .nils, .nils]])):HR G B w0 I0 (aJ h K ⟨(h K).ver,some (.arr 3 [.d (.agg [x, .ro [], .ro []])])⟩) w:=by
 refine hr.reob ?_ rfl;rcases hr.objs K _ hK with ⟨h0,_⟩|⟨L,hL,g1,g2,g3,g4,g6,g5⟩
 ·cases h0
 refine .inr ⟨L,hL,g1,g2,g3,fun e he=>by rw[List.mem_singleton]at he;subst he;rfl,(fun h=>absurd h (by decide)),fun t c ht=> ?_⟩;match t,ht with
 |0,ht=>
  cases ht;exact g5 0 (.d x) rfl
 |1,ht=>
  cases ht;obtain⟨u,hu,h1,hr⟩:=g5 1 .nils rfl;refine⟨u,hu,h1, ?_⟩;cases hr;exact .d (.roNil _ _)
 |2,ht=>
  cases ht;obtain⟨u,hu,h1,hr⟩:=g5 2 .nils rfl;refine⟨u,hu,h1, ?_⟩;cases hr;exact .d (.roNil _ _)
theorem Bp{X:bX}{env:Nat→AV}{h:ab}{K:Nat}{x:D}(hK:(h K).ob=some (.arr 3 [.agg [.d x, .nils, .nils]])):Weak X ⟨env,h⟩ ⟨env,aJ h K ⟨(h K).ver,some (.arr 3 [.d (.agg [x, .ro [], .ro []])])⟩⟩:=fun G ac w ⟨hr,bs,hf,hs⟩=>⟨G,Ext.refl G w,F0 hr hK,bs,hf,hs⟩
theorem Dv{P:Program}(hm:gB P){h h1:ab}(hw:∀(X:bX)(env:Nat→AV),Weak X ⟨env,h⟩ ⟨env,h1⟩){G:Gh}{B:Nat}{w0 w:World}{I0:Nat→Nat→Prop}(hr:HR G B w0 I0 h w):∃G',Ext G w G' w∧HR G' B w0 I0 h1 w:=by
 let X:bX:={P:=P,B:=B,w0:=w0,I0:=I0,N:=0,mixed:=hm}
 obtain⟨G2,e4,e5,_⟩:=hw X (fun _=> .junk) G {tmps:= #[],defers:=[]} w ⟨hr,[],⟨rfl,rfl,fun t ht=>absurd ht (by simp[X]),fun _ _=>rfl⟩,⟨List.nodup_nil,fun b hb=>by simp at hb,fun b hb=>by simp at hb,fun l hl=>by simp[X]at hl,Nat.zero_le _⟩⟩;exact⟨G2,e4,e5⟩
theorem Bq{P:Program}(hm:gB P){f:Nat}{args rs:List AV}{h h1 h2:ab}(hc:ax P f args h1 rs h2)(hw:∀(X:bX)(env:Nat→AV),Weak X ⟨env,h⟩ ⟨env,h1⟩):ax P f args h rs h2:=
 ⟨hc.1,fun G B w0 I0 w cargs hr hs hargs=>by
  obtain⟨G2,e4,e5⟩:=Dv hm hw hr;exact(hc.2 G2 B w0 I0 w cargs e5 hs (fun i x u hx hu=>(hargs i x u hx hu).mono e4)).mono fun _ _ ⟨v,G',a1,a2,a3,a4⟩=>⟨v,G',a1,e4.trans a2,a3,a4⟩⟩
theorem w9{P:Program}(hm:gB P){f:Nat}{args:List AV}{x:AV}{h h1 h2:ab}(hc:ir P f args h1 x h2)(hw:∀(X:bX)(env:Nat→AV),Weak X ⟨env,h⟩ ⟨env,h1⟩):ir P f args h x h2:=
 ⟨hc.1,fun G B w0 I0 w cargs hr hs hargs=>by
  obtain⟨G2,e4,e5⟩:=Dv hm hw hr;exact(hc.2 G2 B w0 I0 w cargs e5 hs (fun i x u hx hu=>(hargs i x u hx hu).mono e4)).mono fun _ _ ⟨v,G',a1,a2,a3,a4⟩=>⟨v,G',a1,e4.trans a2,a3,a4⟩⟩
abbrev Hz(fs:List Fn):List (Nat×aK):=
 [(500000,⟨1,some (.arr 1 [.mp 499904 1, .d (.ro (fs.map cW)), .sl 500191 1 0 (fs.map cW).length 1, .sl 500382 1 0 1 3,dI 0, .junk, .junk, .junk,dI 0])⟩),(499904,⟨1,some (.map [] 0)⟩),(500382,⟨1,some (.arr 3 [.agg [dI 0, .nils, .nils]])⟩),(500191,⟨1,some (.arr 1 (List.replicate (fs.map cW).length .nils))⟩)]
theorem rT(fs:List Fn)(rest:ab)(X:bX)(env:Nat→AV):Weak X ⟨env,al (Hz fs) rest⟩ ⟨env,al (fb fs [] 0 .junk) rest⟩:=by
 have w:=Bp (X:=X) (env:=env) (h:=al (Hz fs) rest) (K:=500382) (x:= .int .i64 0) (by simp[al,aJ])
 have e:aJ (al (Hz fs) rest) 500382 ⟨(al (Hz fs) rest 500382).ver,some (.arr 3 [.d (.agg [.int .i64 0, .ro [], .ro []])])⟩=al (fb fs [] 0 .junk) rest:=by
  funext k;have e2:(al (Hz fs) rest 500382).ver=1:=by simp[al,aJ]
  rw[e2];simp only[Hz,fb,List.length_map,al,aJ];by_cases h0:k=500382
  ·subst h0;rfl
  ·simp only[h0,if_false]
 rw[e]at w;exact w
abbrev HA(rows:List (List Vr))(pts:List Pt):D:= .agg [.ro (ce rows), .ro (jH pts)]
def N3(P:Program)(fs:List Fn)(h:fs.length<1000000):bT P:= .mk ((fs.map cW).length:Int) (by omega) (by rw[List.length_map];omega)
section
variable{fs:List Fn}(hl:fs.length<1000000)
include hl
theorem PU(p e:Int)(c:HX 26 [aE] (Hz fs) (aD p e) xM):aM Pg 13 [.agg [.ro (fs.map cW)]] [.agg [.ro [], .ro []], .int .i64 p, .int .i64 e]:=
 qV {hint:=qT 13 [(14,N3 Pg fs hl)],pans:=au Pg [(13,5,500518,⟨1,some (aZ c),[]⟩)]} 499774
variable(c:HC 26 [aE] (Hz fs) [] (fb fs (jV 0 fs) fs.length .junk))
include c
theorem Qv(p e:Int)(g:Gv)(c2:HX 27 [aE] (io fs (fP [] fs.length) [dU] ⟨0,0,0,0,1⟩ 0 .junk .junk .junk) (aD p e) (ci g)):aM Pg 13 [.agg [.ro (fs.map cW)]] [.agg [.ro [], .ro []], .int .i64 p, .int .i64 e]:=
 qV {hint:=qT 13 [(14,N3 Pg fs hl)],calls:=tC [(13,24,500549,af c)],pans:=au Pg [(13,6,500549,⟨1,some (aZ c2),[]⟩)]} 499774
theorem Qw(rows:List (List Vr))(pts:List Pt)(g:Gv)(x4:Nat)(x5 x6 x7:AV)(c2:HC 27 [aE] (io fs (fP [] fs.length) [dU] ⟨0,0,0,0,1⟩ 0 .junk .junk .junk) [] (N0 fs rows pts g x4 x5 x6 x7)):aM Pg 13 [.agg [.ro (fs.map cW)]] [HA rows pts, .int .i64 0, .int .i64 0]:=
 qV {hint:=qT 13 [(14,N3 Pg fs hl)],calls:=tC [(13,24,500549,af c),(13,26,500580,af c2)]} 499774
end
def Dw:TR (List (List Vr)×List Pt)→List D
 | .ok q=>[HA q.1 q.2, .int .i64 0, .int .i64 0]
 | .bad p e=>[.agg [.ro [], .ro []], .int .i64 p, .int .i64 e]
 | .out=>[]
theorem F1:XS .junk:=fun _ _ _ _=>rfl
theorem Jp{fs:List Fn}{m:Nat}(ok:Dq fs m)(hn:eK fs≠ .out):aM Pg 13 [.agg [.ro (fs.map cW)]] (Dw (eK fs)):=by
 have ch:=Dk (fs:=fs) (nn:= .junk) (fun _=>rfl) ok.len;unfold eK at hn ⊢;revert ch hn;cases gC fs with
 |out=>exact fun hn _=>absurd rfl hn
 |bad p e=>
  intro _ ch;simp only[M3]at ch;exact PU ok.len p e fun rest=>w9 aA (ch rest) (rT fs rest)
 |ok _=>
  intro hn ch;simp only[M3]at ch;have ch:=fun rest=>Bq aA (ch rest) (rT fs rest)
  have cb:=Hy ok fs [] [] [dU] ⟨0,0,0,0,1⟩ 0 .junk .junk .junk rfl rfl (by simp) F1 F1 F1;simp only[TR.bind]at hn ⊢;revert cb hn;show cv fs 0 fs [] [dU]≠ .out→Ls fs (fP [] fs.length) [dU] ⟨0,0,0,0,1⟩ 0 .junk .junk .junk 0 (cv fs 0 fs [] [dU])→_;cases cv fs 0 fs [] [dU]with
  |out=>exact fun hn _=>absurd rfl hn
  |bad p e=>exact fun _ ⟨g,c2⟩=>Qv ok.len ch p e g (Bo (ji _ _) F1 F1 F1 p e c2)
  |ok q=>
   rintro _ ⟨hp,hr,g,y4,y5,y6,y7,z5,z6,z7,c2⟩;have c3:=Dt (ji _ _) (ji _ _) F1 F1 F1 z5 z6 z7 c2;exact Qw ok.len ch q.1 q.2 g y4 y5 y6 y7 fun rest=>rO aA (c3 rest) fun X env=>Du fs q.1 hr q.2 g y4 y5 y6 y7 rest
end Go.Avm
namespace Go.Avm
open Go.Proofs
section
variable{L:List T}{s:RS}(hi:s.i<L.length)
include hi
theorem bj:HC 24 [rP] (rd L s) [tD (bH L s)] (rd L s):=
 qN {hint:=qT 24 [(11,Nd Pg hi)]} 1000
theorem F2:HX 71 [rP] (rd L s) (db (bH L s).p 4) (rd L s):=
 qX {calls:=tC [(71,3,1007,af (bj hi))],pans:=au Pg [(71,0,1000,⟨5,none,[]⟩)]} 1000
theorem Qx(x:List UInt8)(h1:((bH L s).k==2)=true):HC 70 [rP, .d (.str x)] (rd L s) [.bool ((bH L s).t==x)] (rd L s):=
 qN {hint:=qT 70 [(10,qB h1)],calls:=tC [(70,7,1044,af (bj hi))]} 1000
theorem Qy(x:List UInt8)(h1:((bH L s).k==2)=false)(h2:((bH L s).k==4)=true):HC 70 [rP, .d (.str x)] (rd L s) [.bool ((bH L s).t==x)] (rd L s):=
 qN {hint:=qT 70 [(10,qB h1),(14,qB h2)],calls:=tC [(70,7,1044,af (bj hi))]} 1000
theorem Qz(x:List UInt8)(h1:((bH L s).k==2)=false)(h2:((bH L s).k==4)=false):HC 70 [rP, .d (.str x)] (rd L s) [.bool false] (rd L s):=
 qN {hint:=qT 70 [(10,qB h1),(14,qB h2)],calls:=tC [(70,7,1044,af (bj hi))]} 1000
theorem yW(x:List UInt8):HC 70 [rP, .d (.str x)] (rd L s) [.bool (bC L s x)] (rd L s):=by
 unfold bC;cases h1:((bH L s).k==2)with
 |true=>exact Qx hi x h1
 |false=>cases h2:((bH L s).k==4)with
  |true=>exact Qy hi x h1 h2
  |false=>exact Qz hi x h1 h2
theorem Lv(hL:dc L)(k:Int)(h:(bH L s).k=k):HC 41 [rP, .d (.int .u8 k)] (rd L s) [tD (bH L s)] (rd L s.nx):=
 qN {hint:=qT 41 [(11,hB Pg ((bH L s).k !=k) false (by simp[h])),(18,cT Pg s.i (by have:=hL.len;omega))],calls:=tC [(41,7,1044,af (bj hi))]} 1000
theorem Lw(k:Int)(h:(bH L s).k≠k):HX 41 [rP, .d (.int .u8 k)] (rd L s) (db (bH L s).p 4) (rd L s):=
 qX {hint:=qT 41 [(11,hB Pg ((bH L s).k !=k) true (by simpa using h))],calls:=tC [(41,7,1044,af (bj hi))],pans:=au Pg [(41,3,1176,⟨1,some (aZ (F2 hi)),[]⟩)]} 1000
theorem pf(hL:dc L)(k:Int)(hk:k≠0):RC L 41 [rP, .d (.int .u8 k)] (fun t=>[tD t]) s (ei L k s):=by
 unfold ei;cases h:((bH L s).k==k)with
 |true=>
  have h:=eq_of_beq h;exact⟨zF hL hi (by rw[h];exact hk),Lv hi hL k h⟩
 |false=>
  exact Lw hi k (by simpa using h)
theorem Lx(x:List UInt8)(h:bC L s x=false):HX 40 [rP, .d (.str x)] (rd L s) (db (bH L s).p 4) (rd L s):=
 qX {hint:=qT 40 [(9,hB Pg (!bC L s x) true (by simp[h]))],calls:=tC [(40,8,1162,af (yW hi x))],pans:=au Pg [(40,2,1216,⟨1,some (aZ (F2 hi)),[]⟩)]} 1000
theorem Dx(hL:dc L)(x:List UInt8)(h:bC L s x=true)(h1:(x==[40])=false)(h2:(x==[91])=false)(h3:(x==[123])=false)(h4:(x==[41])=false)(h5:(x==[93])=false)(h6:(x==[125])=false):
    HC 40 [rP, .d (.str x)] (rd L s) [tD (bH L s)] (rd L s.nx):=
 qN {hint:=qT 40 [(9,hB Pg (!bC L s x) false (by simp[h])),(16,qB h1),(17,qB h2),(18,qB h3),(36,qB h4),(37,qB h5),(38,qB h6),(50,cT Pg s.i (by have:=hL.len;omega))],calls:=tC [(40,8,1162,af (yW hi x)),(40,13,1270,af (bj hi))]} 1000
theorem F3(hL:dc L)(h:bC L s [40]=true)(hd:decide (200<fg (s.op+1))=false):
    HC 40 [rP, .d (.str [40])] (rd L s) [tD (bH L s)] (rd L ⟨s.i+1,fg (s.op+1),s.n⟩):=
 qN {hint:=qT 40 [(9,hB Pg (!bC L s [40]) false (by simp[h])),(30,qB hd),(50,cT Pg s.i (by have:=hL.len;omega))],calls:=tC [(40,8,1162,af (yW hi [40])),(40,13,1270,af (bj hi))]} 1000
theorem F4(h:bC L s [40]=true)(hd:decide (200<fg (s.op+1))=true):
    HX 40 [rP, .d (.str [40])] (rd L s) (db (bH L s).p 5) (rd L {s with op:=fg (s.op+1)}):=
 qX {hint:=qT 40 [(9,hB Pg (!bC L s [40]) false (by simp[h])),(30,qB hd)],calls:=tC [(40,8,1162,af (yW hi [40])),(40,13,1270,af (bj hi))],pans:=au Pg [(40,10,2242,⟨4,none,[]⟩)]} 1000
theorem F5(hL:dc L)(h:bC L s [91]=true)(hd:decide (200<fg (s.op+1))=false):
    HC 40 [rP, .d (.str [91])] (rd L s) [tD (bH L s)] (rd L ⟨s.i+1,fg (s.op+1),s.n⟩):=
 qN {hint:=qT 40 [(9,hB Pg (!bC L s [91]) false (by simp[h])),(30,qB hd),(50,cT Pg s.i (by have:=hL.len;omega))],calls:=tC [(40,8,1162,af (yW hi [91])),(40,13,1270,af (bj hi))]} 1000
theorem F6(h:bC L s [91]=true)(hd:decide (200<fg (s.op+1))=true):
    HX 40 [rP, .d (.str [91])] (rd L s) (db (bH L s).p 5) (rd L {s with op:=fg (s.op+1)}):=
 qX {hint:=qT 40 [(9,hB Pg (!bC L s [91]) false (by simp[h])),(30,qB hd)],calls:=tC [(40,8,1162,af (yW hi [91])),(40,13,1270,af (bj hi))],pans:=au Pg [(40,10,2350,⟨4,none,[]⟩)]} 1000
theorem Dy(hL:dc L)(h:bC L s [123]=true)(hd:decide (200<fg (s.op+1))=false):
    HC 40 [rP, .d (.str [123])] (rd L s) [tD (bH L s)] (rd L ⟨s.i+1,fg (s.op+1),s.n⟩):=
 qN {hint:=qT 40 [(9,hB Pg (!bC L s [123]) false (by simp[h])),(30,qB hd),(50,cT Pg s.i (by have:=hL.len;omega))],calls:=tC [(40,8,1162,af (yW hi [123])),(40,13,1270,af (bj hi))]} 1000
theorem Dz(h:bC L s [123]=true)(hd:decide (200<fg (s.op+1))=true):
    HX 40 [rP, .d (.str [123])] (rd L s) (db (bH L s).p 5) (rd L {s with op:=fg (s.op+1)}):=
 qX {hint:=qT 40 [(9,hB Pg (!bC L s [123]) false (by simp[h])),(30,qB hd)],calls:=tC [(40,8,1162,af (yW hi [123])),(40,13,1270,af (bj hi))],pans:=au Pg [(40,10,2458,⟨4,none,[]⟩)]} 1000
theorem F7(hL:dc L)(h:bC L s [41]=true):
    HC 40 [rP, .d (.str [41])] (rd L s) [tD (bH L s)] (rd L ⟨s.i+1,fg (s.op-1),s.n⟩):=
 qN {hint:=qT 40 [(9,hB Pg (!bC L s [41]) false (by simp[h])),(50,cT Pg s.i (by have:=hL.len;omega))],calls:=tC [(40,8,1162,af (yW hi [41])),(40,13,1270,af (bj hi))]} 1000
theorem F8(hL:dc L)(h:bC L s [93]=true):
    HC 40 [rP, .d (.str [93])] (rd L s) [tD (bH L s)] (rd L ⟨s.i+1,fg (s.op-1),s.n⟩):=
 qN {hint:=qT 40 [(9,hB Pg (!bC L s [93]) false (by simp[h])),(50,cT Pg s.i (by have:=hL.len;omega))],calls:=tC [(40,8,1162,af (yW hi [93])),(40,13,1270,af (bj hi))]} 1000
theorem DA(hL:dc L)(h:bC L s [125]=true):
    HC 40 [rP, .d (.str [125])] (rd L s) [tD (bH L s)] (rd L ⟨s.i+1,fg (s.op-1),s.n⟩):=
 qN {hint:=qT 40 [(9,hB Pg (!bC L s [125]) false (by simp[h])),(50,cT Pg s.i (by have:=hL.len;omega))],calls:=tC [(40,8,1162,af (yW hi [125])),(40,13,1270,af (bj hi))]} 1000
theorem cj(hL:dc L)(x:List UInt8):RC L 40 [rP, .d (.str x)] (fun t=>[tD t]) s (aI L x s):=by
 unfold aI;cases h:bC L s x with
 |false=>exact Lx hi x h
 |true=>
  have hn:=uT hL hi h;simp only[cond_true];cases h1:(x==[40])with
  |true=>
   obtain rfl:x=[40]:=eq_of_beq h1;simp only[Bool.true_or,cond_true];cases hd:decide (200<fg (s.op+1))with
   |true=>exact F4 hi h hd
   |false=>exact⟨hn,F3 hi hL h hd⟩
  |false=>cases h2:(x==[91])with
  |true=>
   obtain rfl:x=[91]:=eq_of_beq h2;simp only[Bool.true_or,Bool.or_true,cond_true];cases hd:decide (200<fg (s.op+1))with
   |true=>exact F6 hi h hd
   |false=>exact⟨hn,F5 hi hL h hd⟩
  |false=>cases h3:(x==[123])with
  |true=>
   obtain rfl:x=[123]:=eq_of_beq h3;simp only[Bool.true_or,Bool.or_true,cond_true];cases hd:decide (200<fg (s.op+1))with
   |true=>exact Dz hi h hd
   |false=>exact⟨hn,Dy hi hL h hd⟩
  |false=>cases h4:(x==[41])with
  |true=>
   obtain rfl:x=[41]:=eq_of_beq h4;exact⟨hn,F7 hi hL h⟩
  |false=>cases h5:(x==[93])with
  |true=>
   obtain rfl:x=[93]:=eq_of_beq h5;exact⟨hn,F8 hi hL h⟩
  |false=>cases h6:(x==[125])with
  |true=>
   obtain rfl:x=[125]:=eq_of_beq h6;exact⟨hn,DA hi hL h⟩
  |false=>exact⟨hn,Dx hi hL x h h1 h2 h3 h4 h5 h6⟩
theorem ah(x:List UInt8)(h:bC L s x=false):HC 45 [rP, .d (.str x)] (rd L s) [.bool false] (rd L s):=
 qN {hint:=qT 45 [(8,hB Pg (!bC L s x) true (by simp[h]))],calls:=tC [(45,7,1036,af (yW hi x))]} 1000
theorem mayT(x:List UInt8)(h:bC L s x=true)(t:T)(s':RS)(hw:HC 40 [rP, .d (.str x)] (rd L s) [tD t] (rd L s')):HC 45 [rP, .d (.str x)] (rd L s) [.bool true] (rd L s'):=
 qN {hint:=qT 45 [(8,hB Pg (!bC L s x) false (by simp[h]))],calls:=tC [(45,7,1036,af (yW hi x)),(45,11,1072,af hw)]} 1000
theorem N4(x:List UInt8)(h:bC L s x=true)(p e:Int)(s':RS)(hw:HX 40 [rP, .d (.str x)] (rd L s) (db p e) (rd L s')):HX 45 [rP, .d (.str x)] (rd L s) (db p e) (rd L s'):=
 qX {hint:=qT 45 [(8,hB Pg (!bC L s x) false (by simp[h]))],calls:=tC [(45,7,1036,af (yW hi x))],pans:=au Pg [(45,3,1048,⟨2,some (aZ hw),[]⟩)]} 1000
theorem Ly(hL:dc L)(x:List UInt8):RC L 45 [rP, .d (.str x)] (fun b=>[.bool b]) s (cr L x s):=by
 unfold cr;cases h:bC L s x with
 |false=>exact⟨hi,ah hi x h⟩
 |true=>
  simp only[cond_true];have hw:=cj hi hL x;revert hw;cases aI L x s with
  |ok t s'=>exact fun hw=>⟨hw.1,mayT hi x h t s' hw.2⟩
  |bad p e s'=>exact fun hw=>N4 hi x h p e s' hw
  |out=>exact fun _=>trivial
theorem aU(x:List UInt8){b:Bool}(h:bC L s x=b):HC 70 [rP, .d (.str x)] (rd L s) [.bool b] (rd L s):=h▸yW hi x
end
section
variable{L:List T}{F:Nat}{args:List AV}{s0:RS}{α β:Type}{g:α→List D}
theorem RC.bind{f':Nat}{args':List AV}{g':β→List D}{s:RS}{r:Res β}{k:β→RS→Res α}(h:RC L f' args' g' s r)
    (hb:∀p e s',(HX f' args' (rd L s) (db p e) (rd L s'))→HX F args (rd L s0) (db p e) (rd L s'))
    (hk:∀a s',s'.i<L.length→(HC f' args' (rd L s) (g' a) (rd L s'))→RC L F args g s0 (k a s')):RC L F args g s0 (r.bind k):=by
 cases r with
 |ok a s'=>exact hk a s' h.1 h.2
 |bad p e s'=>exact hb p e s' h
 |out=>trivial
theorem RC.may{s:RS}(hi:s.i<L.length)(hL:dc L)(x:List UInt8){X Y:RS→Res α}
    (hb:∀p e s',(HX 45 [rP, .d (.str x)] (rd L s) (db p e) (rd L s'))→HX F args (rd L s0) (db p e) (rd L s'))
    (hT:∀s',s'.i<L.length→(HC 45 [rP, .d (.str x)] (rd L s) [.bool true] (rd L s'))→RC L F args g s0 (X s'))
    (hF:bC L s x=false→RC L F args g s0 (Y s)):RC L F args g s0 ((cr L x s).bind fun b s1=>bif b then X s1 else Y s1):=by
 have h:=Ly hi hL x;revert h;unfold cr;cases hx:bC L s x with
 |false=>exact fun _=>hF hx
 |true=>
  simp only[cond_true];cases aI L x s with
  |ok t s'=>exact fun h=>hT s' h.1 h.2
  |bad p e s'=>exact fun h=>hb p e s' h
  |out=>exact fun _=>trivial
theorem RC.ite{c:Bool}{X Y:Res α}(hT:c=true→RC L F args g s0 X)(hF:c=false→RC L F args g s0 Y):RC L F args g s0 (bif c then X else Y):=by
 cases h:c with
 |true=>exact hT h
 |false=>exact hF h
end
end Go.Avm
namespace Go.Avm
open Go.Proofs
theorem Jq:aM Tryz.prog 89 [.int .u8 1] [.str [43], .int .i64 9]:=aH aA named (fun _ _=>false) (fun _=>false) 1000 (by kernel_rfl)
theorem Jr:aM Tryz.prog 89 [.int .u8 2] [.str [45], .int .i64 9]:=aH aA named (fun _ _=>false) (fun _=>false) 1000 (by kernel_rfl)
theorem Js:aM Tryz.prog 89 [.int .u8 3] [.str [42], .int .i64 10]:=aH aA named (fun _ _=>false) (fun _=>false) 1000 (by kernel_rfl)
theorem Jt:aM Tryz.prog 89 [.int .u8 4] [.str [47], .int .i64 10]:=aH aA named (fun _ _=>false) (fun _=>false) 1000 (by kernel_rfl)
theorem Ju:aM Tryz.prog 89 [.int .u8 5] [.str [37], .int .i64 10]:=aH aA named (fun _ _=>false) (fun _=>false) 1000 (by kernel_rfl)
theorem Jv:aM Tryz.prog 89 [.int .u8 6] [.str [38], .int .i64 7]:=aH aA named (fun _ _=>false) (fun _=>false) 1000 (by kernel_rfl)
theorem Jw:aM Tryz.prog 89 [.int .u8 7] [.str [124], .int .i64 5]:=aH aA named (fun _ _=>false) (fun _=>false) 1000 (by kernel_rfl)
theorem Jx:aM Tryz.prog 89 [.int .u8 8] [.str [94], .int .i64 6]:=aH aA named (fun _ _=>false) (fun _=>false) 1000 (by kernel_rfl)
theorem Jy:aM Tryz.prog 89 [.int .u8 9] [.str [60,60], .int .i64 8]:=aH aA named (fun _ _=>false) (fun _=>false) 1000 (by kernel_rfl)
theorem DB:aM Tryz.prog 89 [.int .u8 10] [.str [62,62], .int .i64 8]:=aH aA named (fun _ _=>false) (fun _=>false) 1000 (by kernel_rfl)
theorem DC:aM Tryz.prog 89 [.int .u8 11] [.str [60], .int .i64 4]:=aH aA named (fun _ _=>false) (fun _=>false) 1000 (by kernel_rfl)
theorem DD:aM Tryz.prog 89 [.int .u8 12] [.str [60,61], .int .i64 4]:=aH aA named (fun _ _=>false) (fun _=>false) 1000 (by kernel_rfl)
theorem DE:aM Tryz.prog 89 [.int .u8 13] [.str [62], .int .i64 4]:=aH aA named (fun _ _=>false) (fun _=>false) 1000 (by kernel_rfl)
theorem DF:aM Tryz.prog 89 [.int .u8 14] [.str [62,61], .int .i64 4]:=aH aA named (fun _ _=>false) (fun _=>false) 1000 (by kernel_rfl)
theorem DG:aM Tryz.prog 89 [.int .u8 15] [.str [61,61], .int .i64 3]:=aH aA named (fun _ _=>false) (fun _=>false) 1000 (by kernel_rfl)
theorem DH:aM Tryz.prog 89 [.int .u8 16] [.str [33,61], .int .i64 3]:=aH aA named (fun _ _=>false) (fun _=>false) 1000 (by kernel_rfl)
theorem DI:aM Tryz.prog 89 [.int .u8 17] [.str [38,38], .int .i64 2]:=aH aA named (fun _ _=>false) (fun _=>false) 1000 (by kernel_rfl)
theorem DJ:aM Tryz.prog 89 [.int .u8 18] [.str [124,124], .int .i64 1]:=aH aA named (fun _ _=>false) (fun _=>false) 1000 (by kernel_rfl)
theorem cp:aM Tryz.prog 89 [.int .u8 19] [.str [45], .int .i64 11]:=aH aA named (fun _ _=>false) (fun _=>false) 1000 (by kernel_rfl)
theorem cH:aM Tryz.prog 89 [.int .u8 20] [.str [126], .int .i64 11]:=aH aA named (fun _ _=>false) (fun _=>false) 1000 (by kernel_rfl)
theorem da:aM Tryz.prog 89 [.int .u8 21] [.str [33], .int .i64 11]:=aH aA named (fun _ _=>false) (fun _=>false) 1000 (by kernel_rfl)
end Go.Avm
namespace Go.Avm
open Go.Proofs
section
variable{L:List T}(hL:dc L)
include hL
theorem F9(n:Nat)(ih:∀s:RS,s.i<L.length→RC L 128 [rP] (fun e=>[ff e]) s (gn L n s))(ihE:∀(k:Int)(s:RS),s.i<L.length→RC L 100 [rP,dI k] (fun e=>[ff e]) s (bu L n k s))(ihP:∀s:RS,s.i<L.length→RC L 131 [rP] (fun e=>[ff e]) s (dF L n s))
    (ihC:∀(nm:List UInt8)(p:Int)(s:RS),s.i<L.length→RC L 130 [rP, .d (.str nm),dI p] (fun e=>[ff e]) s (fO L n nm p s)) (s:RS) (l:s.i<L.length):RC L 128 [rP] (fun e=>[ff e]) s (gn L (n+1) s):=by
 simp only[gn];refine RC.may l hL [45] ?_ ?_ ?_
 ·exact fun _ _ _ c=>qX {hint:=qT 128 [(21, .call 89 _ _ cp)],calls:=tC [(128,12,1244,af (bj l))],pans:=au Pg [(128,6,3074,⟨2,some (aZ c),[]⟩)]} 1000
 ·intro s1 l1 c1
  refine RC.bind (ih _ l1) ?_ ?_
  ·exact fun _ _ _ c=>qX {hint:=qT 128 [(21, .call 89 _ _ cp)],calls:=tC [(128,12,1244,af (bj l)),(128,26,3318,af c1)],pans:=au Pg [(128,7,3318,⟨4,some (aZ c),[]⟩)]} 1000
  ·intro x s2 l2 c2
   obtain⟨k0,o0,nm0,n0,p0,as0⟩:=x;exact⟨l2,qN {hint:=qT 128 [(21, .call 89 _ _ cp)],calls:=tC [(128,12,1244,af (bj l)),(128,26,3318,af c1),(128,31,3806,af c2)]} 1000⟩
 ·intro h1
  refine RC.may l hL [126] ?_ ?_ ?_
  ·exact fun _ _ _ c=>qX {hintB:=bg Pg [(128,21,2464, .call 89 _ _ cp),(128,21,4172, .call 89 _ _ cH)],calls:=tC [(128,12,1244,af (bj l)),(128,26,3318,af (ah l [45] h1))],pans:=au Pg [(128,6,4782,⟨2,some (aZ c),[]⟩)]} 1000
  ·intro s2 l2 c2
   refine RC.bind (ih _ l2) ?_ ?_
   ·exact fun _ _ _ c=>qX {hintB:=bg Pg [(128,21,2464, .call 89 _ _ cp),(128,21,4172, .call 89 _ _ cH)],calls:=tC [(128,12,1244,af (bj l)),(128,26,3318,af (ah l [45] h1)),(128,26,5026,af c2)],pans:=au Pg [(128,7,5026,⟨4,some (aZ c),[]⟩)]} 1000
   ·intro x s3 l3 c3
    obtain⟨k0,o0,nm0,n0,p0,as0⟩:=x;exact⟨l3,qN {hintB:=bg Pg [(128,21,2464, .call 89 _ _ cp),(128,21,4172, .call 89 _ _ cH)],calls:=tC [(128,12,1244,af (bj l)),(128,26,3318,af (ah l [45] h1)),(128,26,5026,af c2),(128,31,5514,af c3)]} 1000⟩
  ·intro h2
   refine RC.may l hL [33] ?_ ?_ ?_
   ·exact fun _ _ _ c=>qX {hintB:=bg Pg [(128,21,2464, .call 89 _ _ cp),(128,21,4172, .call 89 _ _ cH),(128,21,5880, .call 89 _ _ da)],calls:=tC [(128,12,1244,af (bj l)),(128,26,3318,af (ah l [45] h1)),(128,26,5026,af (ah l [126] h2))],pans:=au Pg [(128,6,6490,⟨2,some (aZ c),[]⟩)]} 1000
   ·intro s3 l3 c3
    refine RC.bind (ih _ l3) ?_ ?_
    ·exact fun _ _ _ c=>qX {hintB:=bg Pg [(128,21,2464, .call 89 _ _ cp),(128,21,4172, .call 89 _ _ cH),(128,21,5880, .call 89 _ _ da)],calls:=tC [(128,12,1244,af (bj l)),(128,26,3318,af (ah l [45] h1)),(128,26,5026,af (ah l [126] h2)),(128,26,6734,af c3)],pans:=au Pg [(128,7,6734,⟨4,some (aZ c),[]⟩)]} 1000
    ·intro x s4 l4 c4
     obtain⟨k0,o0,nm0,n0,p0,as0⟩:=x;exact⟨l4,qN {hintB:=bg Pg [(128,21,2464, .call 89 _ _ cp),(128,21,4172, .call 89 _ _ cH),(128,21,5880, .call 89 _ _ da)],calls:=tC [(128,12,1244,af (bj l)),(128,26,3318,af (ah l [45] h1)),(128,26,5026,af (ah l [126] h2)),(128,26,6734,af c3),(128,31,7222,af c4)]} 1000⟩
   ·intro h3
    refine RC.ite (fun h4=> ?_) (fun h4=> ?_)
    ·
     have l5:s.nx.i<L.length:=zF hL l (by rw[eq_of_beq h4];decide);exact⟨l5,qN {hintB:=bg Pg [(128,21,2464, .call 89 _ _ cp),(128,21,4172, .call 89 _ _ cH),(128,21,5880, .call 89 _ _ da),(128,38,7344,qB h4),(128,43,8076,cT Pg s.i (by have:=hL.len;omega))],calls:=tC [(128,12,1244,af (bj l)),(128,26,3318,af (ah l [45] h1)),(128,26,5026,af (ah l [126] h2)),(128,26,6734,af (ah l [33] h3))]} 1000⟩
    ·
     refine RC.may l hL [116,114,117,101] ?_ ?_ ?_
     ·exact fun _ _ _ c=>qX {hintB:=bg Pg [(128,21,2464, .call 89 _ _ cp),(128,21,4172, .call 89 _ _ cH),(128,21,5880, .call 89 _ _ da),(128,38,7344,qB h4)],calls:=tC [(128,12,1244,af (bj l)),(128,26,3318,af (ah l [45] h1)),(128,26,5026,af (ah l [126] h2)),(128,26,6734,af (ah l [33] h3))],pans:=au Pg [(128,12,7588,⟨1,some (aZ c),[]⟩)]} 1000
     ·intro s5 l5 c5
      exact⟨l5,qN {hintB:=bg Pg [(128,21,2464, .call 89 _ _ cp),(128,21,4172, .call 89 _ _ cH),(128,21,5880, .call 89 _ _ da),(128,38,7344,qB h4)],calls:=tC [(128,12,1244,af (bj l)),(128,26,3318,af (ah l [45] h1)),(128,26,5026,af (ah l [126] h2)),(128,26,6734,af (ah l [33] h3)),(128,53,7710,af c5)]} 1000⟩
     ·intro h5
      refine RC.may l hL [102,97,108,115,101] ?_ ?_ ?_
      ·exact fun _ _ _ c=>qX {hintB:=bg Pg [(128,21,2464, .call 89 _ _ cp),(128,21,4172, .call 89 _ _ cH),(128,21,5880, .call 89 _ _ da),(128,38,7344,qB h4)],calls:=tC [(128,12,1244,af (bj l)),(128,26,3318,af (ah l [45] h1)),(128,26,5026,af (ah l [126] h2)),(128,26,6734,af (ah l [33] h3)),(128,53,7710,af (ah l [116,114,117,101] h5))],pans:=au Pg [(128,14,7832,⟨1,some (aZ c),[]⟩)]} 1000
      ·intro s6 l6 c6
       exact⟨l6,qN {hintB:=bg Pg [(128,21,2464, .call 89 _ _ cp),(128,21,4172, .call 89 _ _ cH),(128,21,5880, .call 89 _ _ da),(128,38,7344,qB h4)],calls:=tC [(128,12,1244,af (bj l)),(128,26,3318,af (ah l [45] h1)),(128,26,5026,af (ah l [126] h2)),(128,26,6734,af (ah l [33] h3)),(128,53,7710,af (ah l [116,114,117,101] h5)),(128,59,7954,af c6)]} 1000⟩
      ·intro h6
       refine RC.may l hL [114,101,97,100] ?_ ?_ ?_
       ·exact fun _ _ _ c=>qX {hintB:=bg Pg [(128,21,2464, .call 89 _ _ cp),(128,21,4172, .call 89 _ _ cH),(128,21,5880, .call 89 _ _ da),(128,38,7344,qB h4)],calls:=tC [(128,12,1244,af (bj l)),(128,26,3318,af (ah l [45] h1)),(128,26,5026,af (ah l [126] h2)),(128,26,6734,af (ah l [33] h3)),(128,53,7710,af (ah l [116,114,117,101] h5)),(128,59,7954,af (ah l [102,97,108,115,101] h6))],pans:=au Pg [(128,16,8076,⟨1,some (aZ c),[]⟩)]} 1000
       ·intro s7 l7 c7
        refine RC.bind (cj l7 hL [40]) ?_ ?_
        ·exact fun _ _ _ c=>qX {hintB:=bg Pg [(128,21,2464, .call 89 _ _ cp),(128,21,4172, .call 89 _ _ cH),(128,21,5880, .call 89 _ _ da),(128,38,7344,qB h4)],calls:=tC [(128,12,1244,af (bj l)),(128,26,3318,af (ah l [45] h1)),(128,26,5026,af (ah l [126] h2)),(128,26,6734,af (ah l [33] h3)),(128,53,7710,af (ah l [116,114,117,101] h5)),(128,59,7954,af (ah l [102,97,108,115,101] h6)),(128,65,8198,af c7)],pans:=au Pg [(128,17,8320,⟨1,some (aZ c),[]⟩)]} 1000
        ·intro _ s8 l8 c8
         refine RC.bind (cj l8 hL [41]) ?_ ?_
         ·exact fun _ _ _ c=>qX {hintB:=bg Pg [(128,21,2464, .call 89 _ _ cp),(128,21,4172, .call 89 _ _ cH),(128,21,5880, .call 89 _ _ da),(128,38,7344,qB h4)],calls:=tC [(128,12,1244,af (bj l)),(128,26,3318,af (ah l [45] h1)),(128,26,5026,af (ah l [126] h2)),(128,26,6734,af (ah l [33] h3)),(128,53,7710,af (ah l [116,114,117,101] h5)),(128,59,7954,af (ah l [102,97,108,115,101] h6)),(128,65,8198,af c7),(128,67,8442,af c8)],pans:=au Pg [(128,18,8442,⟨1,some (aZ c),[]⟩)]} 1000
         ·intro _ s9 l9 c9
          exact⟨l9,qN {hintB:=bg Pg [(128,21,2464, .call 89 _ _ cp),(128,21,4172, .call 89 _ _ cH),(128,21,5880, .call 89 _ _ da),(128,38,7344,qB h4)],calls:=tC [(128,12,1244,af (bj l)),(128,26,3318,af (ah l [45] h1)),(128,26,5026,af (ah l [126] h2)),(128,26,6734,af (ah l [33] h3)),(128,53,7710,af (ah l [116,114,117,101] h5)),(128,59,7954,af (ah l [102,97,108,115,101] h6)),(128,65,8198,af c7),(128,67,8442,af c8),(128,69,8564,af c9)]} 1000⟩
       ·intro h7
        refine RC.may l hL [108,101,110] ?_ ?_ ?_
        ·exact fun _ _ _ c=>qX {hintB:=bg Pg [(128,21,2464, .call 89 _ _ cp),(128,21,4172, .call 89 _ _ cH),(128,21,5880, .call 89 _ _ da),(128,38,7344,qB h4)],calls:=tC [(128,12,1244,af (bj l)),(128,26,3318,af (ah l [45] h1)),(128,26,5026,af (ah l [126] h2)),(128,26,6734,af (ah l [33] h3)),(128,53,7710,af (ah l [116,114,117,101] h5)),(128,59,7954,af (ah l [102,97,108,115,101] h6)),(128,65,8198,af (ah l [114,101,97,100] h7))],pans:=au Pg [(128,20,8320,⟨1,some (aZ c),[]⟩)]} 1000
        ·intro s8 l8 c8
         refine RC.bind (cj l8 hL [40]) ?_ ?_
         ·exact fun _ _ _ c=>qX {hintB:=bg Pg [(128,21,2464, .call 89 _ _ cp),(128,21,4172, .call 89 _ _ cH),(128,21,5880, .call 89 _ _ da),(128,38,7344,qB h4)],calls:=tC [(128,12,1244,af (bj l)),(128,26,3318,af (ah l [45] h1)),(128,26,5026,af (ah l [126] h2)),(128,26,6734,af (ah l [33] h3)),(128,53,7710,af (ah l [116,114,117,101] h5)),(128,59,7954,af (ah l [102,97,108,115,101] h6)),(128,65,8198,af (ah l [114,101,97,100] h7)),(128,75,8442,af c8)],pans:=au Pg [(128,21,8564,⟨1,some (aZ c),[]⟩)]} 1000
         ·intro _ s9 l9 c9
          refine RC.bind (pf l9 hL 1 (by decide)) ?_ ?_
          ·exact fun _ _ _ c=>qX {hintB:=bg Pg [(128,21,2464, .call 89 _ _ cp),(128,21,4172, .call 89 _ _ cH),(128,21,5880, .call 89 _ _ da),(128,38,7344,qB h4)],calls:=tC [(128,12,1244,af (bj l)),(128,26,3318,af (ah l [45] h1)),(128,26,5026,af (ah l [126] h2)),(128,26,6734,af (ah l [33] h3)),(128,53,7710,af (ah l [116,114,117,101] h5)),(128,59,7954,af (ah l [102,97,108,115,101] h6)),(128,65,8198,af (ah l [114,101,97,100] h7)),(128,75,8442,af c8),(128,77,8686,af c9)],pans:=au Pg [(128,22,8686,⟨1,some (aZ c),[]⟩)]} 1000
          ·intro t s10 l10 c10
           refine RC.bind (cj l10 hL [41]) ?_ ?_
           ·exact fun _ _ _ c=>qX {hintB:=bg Pg [(128,21,2464, .call 89 _ _ cp),(128,21,4172, .call 89 _ _ cH),(128,21,5880, .call 89 _ _ da),(128,38,7344,qB h4)],calls:=tC [(128,12,1244,af (bj l)),(128,26,3318,af (ah l [45] h1)),(128,26,5026,af (ah l [126] h2)),(128,26,6734,af (ah l [33] h3)),(128,53,7710,af (ah l [116,114,117,101] h5)),(128,59,7954,af (ah l [102,97,108,115,101] h6)),(128,65,8198,af (ah l [114,101,97,100] h7)),(128,75,8442,af c8),(128,77,8686,af c9),(128,79,8808,af c10)],pans:=au Pg [(128,23,9052,⟨1,some (aZ c),[]⟩)]} 1000
           ·intro _ s11 l11 c11
            exact⟨l11,qN {hintB:=bg Pg [(128,21,2464, .call 89 _ _ cp),(128,21,4172, .call 89 _ _ cH),(128,21,5880, .call 89 _ _ da),(128,38,7344,qB h4)],calls:=tC [(128,12,1244,af (bj l)),(128,26,3318,af (ah l [45] h1)),(128,26,5026,af (ah l [126] h2)),(128,26,6734,af (ah l [33] h3)),(128,53,7710,af (ah l [116,114,117,101] h5)),(128,59,7954,af (ah l [102,97,108,115,101] h6)),(128,65,8198,af (ah l [114,101,97,100] h7)),(128,75,8442,af c8),(128,77,8686,af c9),(128,79,8808,af c10),(128,82,9174,af c11)]} 1000⟩
        ·intro h8
         refine RC.ite (fun h9=> ?_) (fun h9=> ?_)
         ·
          refine RC.bind (cj l hL [40]) ?_ ?_
          ·exact fun _ _ _ c=>qX {hintB:=bg Pg [(128,21,2464, .call 89 _ _ cp),(128,21,4172, .call 89 _ _ cH),(128,21,5880, .call 89 _ _ da),(128,38,7344,qB h4)],calls:=tC [(128,12,1244,af (bj l)),(128,26,3318,af (ah l [45] h1)),(128,26,5026,af (ah l [126] h2)),(128,26,6734,af (ah l [33] h3)),(128,53,7710,af (ah l [116,114,117,101] h5)),(128,59,7954,af (ah l [102,97,108,115,101] h6)),(128,65,8198,af (ah l [114,101,97,100] h7)),(128,75,8442,af (ah l [108,101,110] h8)),(128,89,8686,af (aU l [40] h9))],pans:=au Pg [(128,26,8808,⟨1,some (aZ c),[]⟩)]} 1000
          ·intro _ s10 l10 c10
           refine RC.bind (ihE 1 _ l10) ?_ ?_
           ·exact fun _ _ _ c=>qX {hintB:=bg Pg [(128,21,2464, .call 89 _ _ cp),(128,21,4172, .call 89 _ _ cH),(128,21,5880, .call 89 _ _ da),(128,38,7344,qB h4)],calls:=tC [(128,12,1244,af (bj l)),(128,26,3318,af (ah l [45] h1)),(128,26,5026,af (ah l [126] h2)),(128,26,6734,af (ah l [33] h3)),(128,53,7710,af (ah l [116,114,117,101] h5)),(128,59,7954,af (ah l [102,97,108,115,101] h6)),(128,65,8198,af (ah l [114,101,97,100] h7)),(128,75,8442,af (ah l [108,101,110] h8)),(128,89,8686,af (aU l [40] h9)),(128,91,8930,af c10)],pans:=au Pg [(128,27,8930,⟨1,some (aZ c),[]⟩)]} 1000
           ·intro x s11 l11 c11
            obtain⟨k0,o0,nm0,n0,p0,as0⟩:=x;refine RC.bind (cj l11 hL [41]) ?_ ?_
            ·exact fun _ _ _ c=>qX {hintB:=bg Pg [(128,21,2464, .call 89 _ _ cp),(128,21,4172, .call 89 _ _ cH),(128,21,5880, .call 89 _ _ da),(128,38,7344,qB h4)],calls:=tC [(128,12,1244,af (bj l)),(128,26,3318,af (ah l [45] h1)),(128,26,5026,af (ah l [126] h2)),(128,26,6734,af (ah l [33] h3)),(128,53,7710,af (ah l [116,114,117,101] h5)),(128,59,7954,af (ah l [102,97,108,115,101] h6)),(128,65,8198,af (ah l [114,101,97,100] h7)),(128,75,8442,af (ah l [108,101,110] h8)),(128,89,8686,af (aU l [40] h9)),(128,91,8930,af c10),(128,93,9052,af c11)],pans:=au Pg [(128,28,9296,⟨1,some (aZ c),[]⟩)]} 1000
            ·intro _ s12 l12 c12
             exact⟨l12,qN {hintB:=bg Pg [(128,21,2464, .call 89 _ _ cp),(128,21,4172, .call 89 _ _ cH),(128,21,5880, .call 89 _ _ da),(128,38,7344,qB h4)],calls:=tC [(128,12,1244,af (bj l)),(128,26,3318,af (ah l [45] h1)),(128,26,5026,af (ah l [126] h2)),(128,26,6734,af (ah l [33] h3)),(128,53,7710,af (ah l [116,114,117,101] h5)),(128,59,7954,af (ah l [102,97,108,115,101] h6)),(128,65,8198,af (ah l [114,101,97,100] h7)),(128,75,8442,af (ah l [108,101,110] h8)),(128,89,8686,af (aU l [40] h9)),(128,91,8930,af c10),(128,93,9052,af c11),(128,95,9418,af c12)]} 1000⟩
         ·
          refine RC.bind (pf l hL 1 (by decide)) ?_ ?_
          ·exact fun _ _ _ c=>qX {hintB:=bg Pg [(128,21,2464, .call 89 _ _ cp),(128,21,4172, .call 89 _ _ cH),(128,21,5880, .call 89 _ _ da),(128,38,7344,qB h4)],calls:=tC [(128,12,1244,af (bj l)),(128,26,3318,af (ah l [45] h1)),(128,26,5026,af (ah l [126] h2)),(128,26,6734,af (ah l [33] h3)),(128,53,7710,af (ah l [116,114,117,101] h5)),(128,59,7954,af (ah l [102,97,108,115,101] h6)),(128,65,8198,af (ah l [114,101,97,100] h7)),(128,75,8442,af (ah l [108,101,110] h8)),(128,89,8686,af (aU l [40] h9))],pans:=au Pg [(128,30,8808,⟨1,some (aZ c),[]⟩)]} 1000
          ·intro t s10 l10 c10
           refine RC.ite (fun h11=> ?_) (fun h11=> ?_)
           ·
            refine RC.bind (ihP _ l10) ?_ ?_
            ·exact fun _ _ _ c=>qX {hintB:=bg Pg [(128,21,2464, .call 89 _ _ cp),(128,21,4172, .call 89 _ _ cH),(128,21,5880, .call 89 _ _ da),(128,38,7344,qB h4)],calls:=tC [(128,12,1244,af (bj l)),(128,26,3318,af (ah l [45] h1)),(128,26,5026,af (ah l [126] h2)),(128,26,6734,af (ah l [33] h3)),(128,53,7710,af (ah l [116,114,117,101] h5)),(128,59,7954,af (ah l [102,97,108,115,101] h6)),(128,65,8198,af (ah l [114,101,97,100] h7)),(128,75,8442,af (ah l [108,101,110] h8)),(128,89,8686,af (aU l [40] h9)),(128,98,8930,af c10),(128,102,9296,af (aU l10 [91] h11))],pans:=au Pg [(128,32,9418,⟨4,some (aZ c),[]⟩)]} 1000
            ·intro x s12 l12 c12
             obtain⟨k0,o0,nm0,n0,p0,as0⟩:=x;exact⟨l12,qN {hintB:=bg Pg [(128,21,2464, .call 89 _ _ cp),(128,21,4172, .call 89 _ _ cH),(128,21,5880, .call 89 _ _ da),(128,38,7344,qB h4)],calls:=tC [(128,12,1244,af (bj l)),(128,26,3318,af (ah l [45] h1)),(128,26,5026,af (ah l [126] h2)),(128,26,6734,af (ah l [33] h3)),(128,53,7710,af (ah l [116,114,117,101] h5)),(128,59,7954,af (ah l [102,97,108,115,101] h6)),(128,65,8198,af (ah l [114,101,97,100] h7)),(128,75,8442,af (ah l [108,101,110] h8)),(128,89,8686,af (aU l [40] h9)),(128,98,8930,af c10),(128,102,9296,af (aU l10 [91] h11)),(128,107,9906,af c12)]} 1000⟩
           ·
            refine RC.ite (fun h12=> ?_) (fun h12=> ?_)
            ·
             refine RC.bind (ihC t.t (bH L s).p _ l10) ?_ ?_
             ·exact fun _ _ _ c=>qX {hintB:=bg Pg [(128,21,2464, .call 89 _ _ cp),(128,21,4172, .call 89 _ _ cH),(128,21,5880, .call 89 _ _ da),(128,38,7344,qB h4)],calls:=tC [(128,12,1244,af (bj l)),(128,26,3318,af (ah l [45] h1)),(128,26,5026,af (ah l [126] h2)),(128,26,6734,af (ah l [33] h3)),(128,53,7710,af (ah l [116,114,117,101] h5)),(128,59,7954,af (ah l [102,97,108,115,101] h6)),(128,65,8198,af (ah l [114,101,97,100] h7)),(128,75,8442,af (ah l [108,101,110] h8)),(128,89,8686,af (aU l [40] h9)),(128,98,8930,af c10),(128,102,9296,af (aU l10 [91] h11)),(128,112,9540,af (aU l10 [40] h12))],pans:=au Pg [(128,34,9662,⟨4,some (aZ c),[]⟩)]} 1000
             ·intro x s13 l13 c13
              obtain⟨k0,o0,nm0,n0,p0,as0⟩:=x;exact⟨l13,qN {hintB:=bg Pg [(128,21,2464, .call 89 _ _ cp),(128,21,4172, .call 89 _ _ cH),(128,21,5880, .call 89 _ _ da),(128,38,7344,qB h4)],calls:=tC [(128,12,1244,af (bj l)),(128,26,3318,af (ah l [45] h1)),(128,26,5026,af (ah l [126] h2)),(128,26,6734,af (ah l [33] h3)),(128,53,7710,af (ah l [116,114,117,101] h5)),(128,59,7954,af (ah l [102,97,108,115,101] h6)),(128,65,8198,af (ah l [114,101,97,100] h7)),(128,75,8442,af (ah l [108,101,110] h8)),(128,89,8686,af (aU l [40] h9)),(128,98,8930,af c10),(128,102,9296,af (aU l10 [91] h11)),(128,112,9540,af (aU l10 [40] h12)),(128,117,10150,af c13)]} 1000⟩
            ·
             exact⟨l10,qN {hintB:=bg Pg [(128,21,2464, .call 89 _ _ cp),(128,21,4172, .call 89 _ _ cH),(128,21,5880, .call 89 _ _ da),(128,38,7344,qB h4)],calls:=tC [(128,12,1244,af (bj l)),(128,26,3318,af (ah l [45] h1)),(128,26,5026,af (ah l [126] h2)),(128,26,6734,af (ah l [33] h3)),(128,53,7710,af (ah l [116,114,117,101] h5)),(128,59,7954,af (ah l [102,97,108,115,101] h6)),(128,65,8198,af (ah l [114,101,97,100] h7)),(128,75,8442,af (ah l [108,101,110] h8)),(128,89,8686,af (aU l [40] h9)),(128,98,8930,af c10),(128,102,9296,af (aU l10 [91] h11)),(128,112,9540,af (aU l10 [40] h12))]} 1000⟩
theorem Br(n:Nat)(ihE:∀(k:Int)(s:RS),s.i<L.length→RC L 100 [rP,dI k] (fun e=>[ff e]) s (bu L n k s))(s:RS)(l:s.i<L.length):RC L 131 [rP] (fun e=>[ff e]) s (dF L (n+1) s):=by
 simp only[dF];refine RC.bind (cj l hL [91]) ?_ ?_
 ·exact fun _ _ _ c=>qX {pans:=au Pg [(131,1,1011,⟨1,some (aZ c),[]⟩)]} 1000
 ·intro _ s1 l1 c1
  refine RC.bind (ihE 1 _ l1) ?_ ?_
  ·exact fun _ _ _ c=>qX {calls:=tC [(131,5,1022,af c1)],pans:=au Pg [(131,2,1022,⟨1,some (aZ c),[]⟩)]} 1000
  ·intro x s2 l2 c2
   obtain⟨k0,o0,nm0,n0,p0,as0⟩:=x;refine RC.bind (cj l2 hL [93]) ?_ ?_
   ·exact fun _ _ _ c=>qX {calls:=tC [(131,5,1022,af c1),(131,7,1033,af c2)],pans:=au Pg [(131,3,1055,⟨1,some (aZ c),[]⟩)]} 1000
   ·intro _ s3 l3 c3
    exact⟨l3,qN {calls:=tC [(131,5,1022,af c1),(131,7,1033,af c2),(131,9,1066,af c3)]} 1000⟩
end
end Go.Avm
namespace Go.Avm
open Go.Proofs
def u8(n:Int):AV:= .d (.int .u8 n)
def tK(r:Int×Int):aB×List (Nat×AV):=bif r.1==0 then (.exit 0,[])else (.ret,[(4,u8 r.1),(5,dI r.2)])
def xa(aa o:Int):List (Nat×AV):=[(0,rP),(1,dI aa),(6,u8 o)]
def M4(L:List T)(s:RS)(aa o:Int)(e:aB)(l':List (Nat×AV)):Prop:=RE 28 (lO 129 2) (xa aa o) (rd L s) e l' (rd L s)
def DK(L:List T)(s:RS)(aa:Int)(o:Int)(r:Int×Int):Prop:=RL 28 (lO 129 2) (xa aa o) (rd L s) ((tK r).1) ((tK r).2) (rd L s)
theorem cG{L:List T}{s:RS}{aa o o2 k:Int}{x:List UInt8}{R:List (Int×List UInt8×Int)}(ho:(o==0)=false)(hA:decide (k≥aa)=false→M4 L s aa o .normal (xa aa o2))
    (hB:decide (k≥aa)=true→bC L s x=false→M4 L s aa o .normal (xa aa o2)) (hC:decide (k≥aa)=true→bC L s x=true→M4 L s aa o .ret [(4,u8 o),(5,dI k)])
    (hn:DK L s aa o2 (ii L s aa R)):DK L s aa o (ii L s aa ((o,x,k)::R)):=fun rest X hP hN=>by
 simp only[ii];cases h1:decide (k≥aa)with
 |false=>exact bc (hA h1 rest X hP hN) (hn rest X hP hN)
 |true=>cases h2:bC L s x with
  |false=>exact bc (hB h1 h2 rest X hP hN) (hn rest X hP hN)
  |true=>
   have:tK (o,k)=(.ret,[(4,u8 o),(5,dI k)]):=by simp only[tK,ho,cond_false]
   simp only[Bool.and_true,cond_true,this];exact bh (hC h1 h2 rest X hP hN) (by simp)
section
variable{L:List T}{s:RS}(hi:s.i<L.length)(aa:Int)
include hi
theorem Lz:M4 L s aa 19 (.exit 0) []:=
 fun rest X hP hN=>(qE {} 129 1000:RE 28 (lO 129 2) [(0,rP),(1,dI aa),(6,u8 19)] (rd L s) (.exit 0) [] (rd L s)) rest X hP hN
theorem N5:DK L s aa 19 (0,0):=fun rest X hP hN=>bh (Lz hi aa rest X hP hN) (by simp[tK])
theorem N6(h:decide ((9:Int)≥aa)=false):RE 28 (lO 129 2) [(0,rP),(1,dI aa),(6,u8 1)] (rd L s) .normal [(0,rP),(1,dI aa),(6,u8 2)] (rd L s):=
 qE {hint:=qT 129 [(15, .call 89 _ _ Jq),(20,qB h)]} 129 1000
theorem N7(h:decide ((9:Int)≥aa)=true)(h2:bC L s [43]=false):RE 28 (lO 129 2) [(0,rP),(1,dI aa),(6,u8 1)] (rd L s) .normal [(0,rP),(1,dI aa),(6,u8 2)] (rd L s):=
 qE {hint:=qT 129 [(15, .call 89 _ _ Jq),(20,qB h)],calls:=tC [(129,24,1392,af (aU hi [43] h2))]} 129 1000
theorem N8(h:decide ((9:Int)≥aa)=true)(h2:bC L s [43]=true):RE 28 (lO 129 2) [(0,rP),(1,dI aa),(6,u8 1)] (rd L s) .ret [(4,u8 1),(5,dI 9)] (rd L s):=
 qE {hint:=qT 129 [(15, .call 89 _ _ Jq),(20,qB h)],calls:=tC [(129,24,1392,af (aU hi [43] h2))]} 129 1000
theorem N9(h:decide ((9:Int)≥aa)=false):RE 28 (lO 129 2) [(0,rP),(1,dI aa),(6,u8 2)] (rd L s) .normal [(0,rP),(1,dI aa),(6,u8 3)] (rd L s):=
 qE {hint:=qT 129 [(15, .call 89 _ _ Jr),(20,qB h)]} 129 1000
theorem Oa(h:decide ((9:Int)≥aa)=true)(h2:bC L s [45]=false):RE 28 (lO 129 2) [(0,rP),(1,dI aa),(6,u8 2)] (rd L s) .normal [(0,rP),(1,dI aa),(6,u8 3)] (rd L s):=
 qE {hint:=qT 129 [(15, .call 89 _ _ Jr),(20,qB h)],calls:=tC [(129,24,1392,af (aU hi [45] h2))]} 129 1000
theorem Oc(h:decide ((9:Int)≥aa)=true)(h2:bC L s [45]=true):RE 28 (lO 129 2) [(0,rP),(1,dI aa),(6,u8 2)] (rd L s) .ret [(4,u8 2),(5,dI 9)] (rd L s):=
 qE {hint:=qT 129 [(15, .call 89 _ _ Jr),(20,qB h)],calls:=tC [(129,24,1392,af (aU hi [45] h2))]} 129 1000
theorem Od(h:decide ((10:Int)≥aa)=false):RE 28 (lO 129 2) [(0,rP),(1,dI aa),(6,u8 3)] (rd L s) .normal [(0,rP),(1,dI aa),(6,u8 4)] (rd L s):=
 qE {hint:=qT 129 [(15, .call 89 _ _ Js),(20,qB h)]} 129 1000
theorem Oe(h:decide ((10:Int)≥aa)=true)(h2:bC L s [42]=false):RE 28 (lO 129 2) [(0,rP),(1,dI aa),(6,u8 3)] (rd L s) .normal [(0,rP),(1,dI aa),(6,u8 4)] (rd L s):=
 qE {hint:=qT 129 [(15, .call 89 _ _ Js),(20,qB h)],calls:=tC [(129,24,1392,af (aU hi [42] h2))]} 129 1000
theorem Of(h:decide ((10:Int)≥aa)=true)(h2:bC L s [42]=true):RE 28 (lO 129 2) [(0,rP),(1,dI aa),(6,u8 3)] (rd L s) .ret [(4,u8 3),(5,dI 10)] (rd L s):=
 qE {hint:=qT 129 [(15, .call 89 _ _ Js),(20,qB h)],calls:=tC [(129,24,1392,af (aU hi [42] h2))]} 129 1000
theorem Og(h:decide ((10:Int)≥aa)=false):RE 28 (lO 129 2) [(0,rP),(1,dI aa),(6,u8 4)] (rd L s) .normal [(0,rP),(1,dI aa),(6,u8 5)] (rd L s):=
 qE {hint:=qT 129 [(15, .call 89 _ _ Jt),(20,qB h)]} 129 1000
theorem Oh(h:decide ((10:Int)≥aa)=true)(h2:bC L s [47]=false):RE 28 (lO 129 2) [(0,rP),(1,dI aa),(6,u8 4)] (rd L s) .normal [(0,rP),(1,dI aa),(6,u8 5)] (rd L s):=
 qE {hint:=qT 129 [(15, .call 89 _ _ Jt),(20,qB h)],calls:=tC [(129,24,1392,af (aU hi [47] h2))]} 129 1000
theorem Oi(h:decide ((10:Int)≥aa)=true)(h2:bC L s [47]=true):RE 28 (lO 129 2) [(0,rP),(1,dI aa),(6,u8 4)] (rd L s) .ret [(4,u8 4),(5,dI 10)] (rd L s):=
 qE {hint:=qT 129 [(15, .call 89 _ _ Jt),(20,qB h)],calls:=tC [(129,24,1392,af (aU hi [47] h2))]} 129 1000
theorem Oj(h:decide ((10:Int)≥aa)=false):RE 28 (lO 129 2) [(0,rP),(1,dI aa),(6,u8 5)] (rd L s) .normal [(0,rP),(1,dI aa),(6,u8 6)] (rd L s):=
 qE {hint:=qT 129 [(15, .call 89 _ _ Ju),(20,qB h)]} 129 1000
theorem Ok(h:decide ((10:Int)≥aa)=true)(h2:bC L s [37]=false):RE 28 (lO 129 2) [(0,rP),(1,dI aa),(6,u8 5)] (rd L s) .normal [(0,rP),(1,dI aa),(6,u8 6)] (rd L s):=
 qE {hint:=qT 129 [(15, .call 89 _ _ Ju),(20,qB h)],calls:=tC [(129,24,1392,af (aU hi [37] h2))]} 129 1000
theorem Ol(h:decide ((10:Int)≥aa)=true)(h2:bC L s [37]=true):RE 28 (lO 129 2) [(0,rP),(1,dI aa),(6,u8 5)] (rd L s) .ret [(4,u8 5),(5,dI 10)] (rd L s):=
 qE {hint:=qT 129 [(15, .call 89 _ _ Ju),(20,qB h)],calls:=tC [(129,24,1392,af (aU hi [37] h2))]} 129 1000
theorem Om(h:decide ((7:Int)≥aa)=false):RE 28 (lO 129 2) [(0,rP),(1,dI aa),(6,u8 6)] (rd L s) .normal [(0,rP),(1,dI aa),(6,u8 7)] (rd L s):=
 qE {hint:=qT 129 [(15, .call 89 _ _ Jv),(20,qB h)]} 129 1000
theorem Oo(h:decide ((7:Int)≥aa)=true)(h2:bC L s [38]=false):RE 28 (lO 129 2) [(0,rP),(1,dI aa),(6,u8 6)] (rd L s) .normal [(0,rP),(1,dI aa),(6,u8 7)] (rd L s):=
 qE {hint:=qT 129 [(15, .call 89 _ _ Jv),(20,qB h)],calls:=tC [(129,24,1392,af (aU hi [38] h2))]} 129 1000
theorem Oq(h:decide ((7:Int)≥aa)=true)(h2:bC L s [38]=true):RE 28 (lO 129 2) [(0,rP),(1,dI aa),(6,u8 6)] (rd L s) .ret [(4,u8 6),(5,dI 7)] (rd L s):=
 qE {hint:=qT 129 [(15, .call 89 _ _ Jv),(20,qB h)],calls:=tC [(129,24,1392,af (aU hi [38] h2))]} 129 1000
theorem Ot(h:decide ((5:Int)≥aa)=false):RE 28 (lO 129 2) [(0,rP),(1,dI aa),(6,u8 7)] (rd L s) .normal [(0,rP),(1,dI aa),(6,u8 8)] (rd L s):=
 qE {hint:=qT 129 [(15, .call 89 _ _ Jw),(20,qB h)]} 129 1000
theorem Ou(h:decide ((5:Int)≥aa)=true)(h2:bC L s [124]=false):RE 28 (lO 129 2) [(0,rP),(1,dI aa),(6,u8 7)] (rd L s) .normal [(0,rP),(1,dI aa),(6,u8 8)] (rd L s):=
 qE {hint:=qT 129 [(15, .call 89 _ _ Jw),(20,qB h)],calls:=tC [(129,24,1392,af (aU hi [124] h2))]} 129 1000
theorem Ov(h:decide ((5:Int)≥aa)=true)(h2:bC L s [124]=true):RE 28 (lO 129 2) [(0,rP),(1,dI aa),(6,u8 7)] (rd L s) .ret [(4,u8 7),(5,dI 5)] (rd L s):=
 qE {hint:=qT 129 [(15, .call 89 _ _ Jw),(20,qB h)],calls:=tC [(129,24,1392,af (aU hi [124] h2))]} 129 1000
theorem Ow(h:decide ((6:Int)≥aa)=false):RE 28 (lO 129 2) [(0,rP),(1,dI aa),(6,u8 8)] (rd L s) .normal [(0,rP),(1,dI aa),(6,u8 9)] (rd L s):=
 qE {hint:=qT 129 [(15, .call 89 _ _ Jx),(20,qB h)]} 129 1000
theorem Ox(h:decide ((6:Int)≥aa)=true)(h2:bC L s [94]=false):RE 28 (lO 129 2) [(0,rP),(1,dI aa),(6,u8 8)] (rd L s) .normal [(0,rP),(1,dI aa),(6,u8 9)] (rd L s):=
 qE {hint:=qT 129 [(15, .call 89 _ _ Jx),(20,qB h)],calls:=tC [(129,24,1392,af (aU hi [94] h2))]} 129 1000
theorem Oy(h:decide ((6:Int)≥aa)=true)(h2:bC L s [94]=true):RE 28 (lO 129 2) [(0,rP),(1,dI aa),(6,u8 8)] (rd L s) .ret [(4,u8 8),(5,dI 6)] (rd L s):=
 qE {hint:=qT 129 [(15, .call 89 _ _ Jx),(20,qB h)],calls:=tC [(129,24,1392,af (aU hi [94] h2))]} 129 1000
theorem Oz(h:decide ((8:Int)≥aa)=false):RE 28 (lO 129 2) [(0,rP),(1,dI aa),(6,u8 9)] (rd L s) .normal [(0,rP),(1,dI aa),(6,u8 10)] (rd L s):=
 qE {hint:=qT 129 [(15, .call 89 _ _ Jy),(20,qB h)]} 129 1000
theorem OA(h:decide ((8:Int)≥aa)=true)(h2:bC L s [60,60]=false):RE 28 (lO 129 2) [(0,rP),(1,dI aa),(6,u8 9)] (rd L s) .normal [(0,rP),(1,dI aa),(6,u8 10)] (rd L s):=
 qE {hint:=qT 129 [(15, .call 89 _ _ Jy),(20,qB h)],calls:=tC [(129,24,1392,af (aU hi [60,60] h2))]} 129 1000
theorem OB(h:decide ((8:Int)≥aa)=true)(h2:bC L s [60,60]=true):RE 28 (lO 129 2) [(0,rP),(1,dI aa),(6,u8 9)] (rd L s) .ret [(4,u8 9),(5,dI 8)] (rd L s):=
 qE {hint:=qT 129 [(15, .call 89 _ _ Jy),(20,qB h)],calls:=tC [(129,24,1392,af (aU hi [60,60] h2))]} 129 1000
theorem LA(h:decide ((8:Int)≥aa)=false):RE 28 (lO 129 2) [(0,rP),(1,dI aa),(6,u8 10)] (rd L s) .normal [(0,rP),(1,dI aa),(6,u8 11)] (rd L s):=
 qE {hint:=qT 129 [(15, .call 89 _ _ DB),(20,qB h)]} 129 1000
theorem LB(h:decide ((8:Int)≥aa)=true)(h2:bC L s [62,62]=false):RE 28 (lO 129 2) [(0,rP),(1,dI aa),(6,u8 10)] (rd L s) .normal [(0,rP),(1,dI aa),(6,u8 11)] (rd L s):=
 qE {hint:=qT 129 [(15, .call 89 _ _ DB),(20,qB h)],calls:=tC [(129,24,1392,af (aU hi [62,62] h2))]} 129 1000
theorem LC(h:decide ((8:Int)≥aa)=true)(h2:bC L s [62,62]=true):RE 28 (lO 129 2) [(0,rP),(1,dI aa),(6,u8 10)] (rd L s) .ret [(4,u8 10),(5,dI 8)] (rd L s):=
 qE {hint:=qT 129 [(15, .call 89 _ _ DB),(20,qB h)],calls:=tC [(129,24,1392,af (aU hi [62,62] h2))]} 129 1000
theorem LD(h:decide ((4:Int)≥aa)=false):RE 28 (lO 129 2) [(0,rP),(1,dI aa),(6,u8 11)] (rd L s) .normal [(0,rP),(1,dI aa),(6,u8 12)] (rd L s):=
 qE {hint:=qT 129 [(15, .call 89 _ _ DC),(20,qB h)]} 129 1000
theorem LE(h:decide ((4:Int)≥aa)=true)(h2:bC L s [60]=false):RE 28 (lO 129 2) [(0,rP),(1,dI aa),(6,u8 11)] (rd L s) .normal [(0,rP),(1,dI aa),(6,u8 12)] (rd L s):=
 qE {hint:=qT 129 [(15, .call 89 _ _ DC),(20,qB h)],calls:=tC [(129,24,1392,af (aU hi [60] h2))]} 129 1000
theorem LF(h:decide ((4:Int)≥aa)=true)(h2:bC L s [60]=true):RE 28 (lO 129 2) [(0,rP),(1,dI aa),(6,u8 11)] (rd L s) .ret [(4,u8 11),(5,dI 4)] (rd L s):=
 qE {hint:=qT 129 [(15, .call 89 _ _ DC),(20,qB h)],calls:=tC [(129,24,1392,af (aU hi [60] h2))]} 129 1000
theorem LG(h:decide ((4:Int)≥aa)=false):RE 28 (lO 129 2) [(0,rP),(1,dI aa),(6,u8 12)] (rd L s) .normal [(0,rP),(1,dI aa),(6,u8 13)] (rd L s):=
 qE {hint:=qT 129 [(15, .call 89 _ _ DD),(20,qB h)]} 129 1000
theorem LH(h:decide ((4:Int)≥aa)=true)(h2:bC L s [60,61]=false):RE 28 (lO 129 2) [(0,rP),(1,dI aa),(6,u8 12)] (rd L s) .normal [(0,rP),(1,dI aa),(6,u8 13)] (rd L s):=
 qE {hint:=qT 129 [(15, .call 89 _ _ DD),(20,qB h)],calls:=tC [(129,24,1392,af (aU hi [60,61] h2))]} 129 1000
theorem LI(h:decide ((4:Int)≥aa)=true)(h2:bC L s [60,61]=true):RE 28 (lO 129 2) [(0,rP),(1,dI aa),(6,u8 12)] (rd L s) .ret [(4,u8 12),(5,dI 4)] (rd L s):=
 qE {hint:=qT 129 [(15, .call 89 _ _ DD),(20,qB h)],calls:=tC [(129,24,1392,af (aU hi [60,61] h2))]} 129 1000
theorem LJ(h:decide ((4:Int)≥aa)=false):RE 28 (lO 129 2) [(0,rP),(1,dI aa),(6,u8 13)] (rd L s) .normal [(0,rP),(1,dI aa),(6,u8 14)] (rd L s):=
 qE {hint:=qT 129 [(15, .call 89 _ _ DE),(20,qB h)]} 129 1000
theorem LK(h:decide ((4:Int)≥aa)=true)(h2:bC L s [62]=false):RE 28 (lO 129 2) [(0,rP),(1,dI aa),(6,u8 13)] (rd L s) .normal [(0,rP),(1,dI aa),(6,u8 14)] (rd L s):=
 qE {hint:=qT 129 [(15, .call 89 _ _ DE),(20,qB h)],calls:=tC [(129,24,1392,af (aU hi [62] h2))]} 129 1000
theorem LL(h:decide ((4:Int)≥aa)=true)(h2:bC L s [62]=true):RE 28 (lO 129 2) [(0,rP),(1,dI aa),(6,u8 13)] (rd L s) .ret [(4,u8 13),(5,dI 4)] (rd L s):=
 qE {hint:=qT 129 [(15, .call 89 _ _ DE),(20,qB h)],calls:=tC [(129,24,1392,af (aU hi [62] h2))]} 129 1000
theorem LM(h:decide ((4:Int)≥aa)=false):RE 28 (lO 129 2) [(0,rP),(1,dI aa),(6,u8 14)] (rd L s) .normal [(0,rP),(1,dI aa),(6,u8 15)] (rd L s):=
 qE {hint:=qT 129 [(15, .call 89 _ _ DF),(20,qB h)]} 129 1000
theorem LN(h:decide ((4:Int)≥aa)=true)(h2:bC L s [62,61]=false):RE 28 (lO 129 2) [(0,rP),(1,dI aa),(6,u8 14)] (rd L s) .normal [(0,rP),(1,dI aa),(6,u8 15)] (rd L s):=
 qE {hint:=qT 129 [(15, .call 89 _ _ DF),(20,qB h)],calls:=tC [(129,24,1392,af (aU hi [62,61] h2))]} 129 1000
theorem LO(h:decide ((4:Int)≥aa)=true)(h2:bC L s [62,61]=true):RE 28 (lO 129 2) [(0,rP),(1,dI aa),(6,u8 14)] (rd L s) .ret [(4,u8 14),(5,dI 4)] (rd L s):=
 qE {hint:=qT 129 [(15, .call 89 _ _ DF),(20,qB h)],calls:=tC [(129,24,1392,af (aU hi [62,61] h2))]} 129 1000
theorem LP(h:decide ((3:Int)≥aa)=false):RE 28 (lO 129 2) [(0,rP),(1,dI aa),(6,u8 15)] (rd L s) .normal [(0,rP),(1,dI aa),(6,u8 16)] (rd L s):=
 qE {hint:=qT 129 [(15, .call 89 _ _ DG),(20,qB h)]} 129 1000
theorem LQ(h:decide ((3:Int)≥aa)=true)(h2:bC L s [61,61]=false):RE 28 (lO 129 2) [(0,rP),(1,dI aa),(6,u8 15)] (rd L s) .normal [(0,rP),(1,dI aa),(6,u8 16)] (rd L s):=
 qE {hint:=qT 129 [(15, .call 89 _ _ DG),(20,qB h)],calls:=tC [(129,24,1392,af (aU hi [61,61] h2))]} 129 1000
theorem LR(h:decide ((3:Int)≥aa)=true)(h2:bC L s [61,61]=true):RE 28 (lO 129 2) [(0,rP),(1,dI aa),(6,u8 15)] (rd L s) .ret [(4,u8 15),(5,dI 3)] (rd L s):=
 qE {hint:=qT 129 [(15, .call 89 _ _ DG),(20,qB h)],calls:=tC [(129,24,1392,af (aU hi [61,61] h2))]} 129 1000
theorem LT(h:decide ((3:Int)≥aa)=false):RE 28 (lO 129 2) [(0,rP),(1,dI aa),(6,u8 16)] (rd L s) .normal [(0,rP),(1,dI aa),(6,u8 17)] (rd L s):=
 qE {hint:=qT 129 [(15, .call 89 _ _ DH),(20,qB h)]} 129 1000
theorem LU(h:decide ((3:Int)≥aa)=true)(h2:bC L s [33,61]=false):RE 28 (lO 129 2) [(0,rP),(1,dI aa),(6,u8 16)] (rd L s) .normal [(0,rP),(1,dI aa),(6,u8 17)] (rd L s):=
 qE {hint:=qT 129 [(15, .call 89 _ _ DH),(20,qB h)],calls:=tC [(129,24,1392,af (aU hi [33,61] h2))]} 129 1000
theorem LV(h:decide ((3:Int)≥aa)=true)(h2:bC L s [33,61]=true):RE 28 (lO 129 2) [(0,rP),(1,dI aa),(6,u8 16)] (rd L s) .ret [(4,u8 16),(5,dI 3)] (rd L s):=
 qE {hint:=qT 129 [(15, .call 89 _ _ DH),(20,qB h)],calls:=tC [(129,24,1392,af (aU hi [33,61] h2))]} 129 1000
theorem LX(h:decide ((2:Int)≥aa)=false):RE 28 (lO 129 2) [(0,rP),(1,dI aa),(6,u8 17)] (rd L s) .normal [(0,rP),(1,dI aa),(6,u8 18)] (rd L s):=
 qE {hint:=qT 129 [(15, .call 89 _ _ DI),(20,qB h)]} 129 1000
theorem LY(h:decide ((2:Int)≥aa)=true)(h2:bC L s [38,38]=false):RE 28 (lO 129 2) [(0,rP),(1,dI aa),(6,u8 17)] (rd L s) .normal [(0,rP),(1,dI aa),(6,u8 18)] (rd L s):=
 qE {hint:=qT 129 [(15, .call 89 _ _ DI),(20,qB h)],calls:=tC [(129,24,1392,af (aU hi [38,38] h2))]} 129 1000
theorem LZ(h:decide ((2:Int)≥aa)=true)(h2:bC L s [38,38]=true):RE 28 (lO 129 2) [(0,rP),(1,dI aa),(6,u8 17)] (rd L s) .ret [(4,u8 17),(5,dI 2)] (rd L s):=
 qE {hint:=qT 129 [(15, .call 89 _ _ DI),(20,qB h)],calls:=tC [(129,24,1392,af (aU hi [38,38] h2))]} 129 1000
theorem L4(h:decide ((1:Int)≥aa)=false):RE 28 (lO 129 2) [(0,rP),(1,dI aa),(6,u8 18)] (rd L s) .normal [(0,rP),(1,dI aa),(6,u8 19)] (rd L s):=
 qE {hint:=qT 129 [(15, .call 89 _ _ DJ),(20,qB h)]} 129 1000
theorem L5(h:decide ((1:Int)≥aa)=true)(h2:bC L s [124,124]=false):RE 28 (lO 129 2) [(0,rP),(1,dI aa),(6,u8 18)] (rd L s) .normal [(0,rP),(1,dI aa),(6,u8 19)] (rd L s):=
 qE {hint:=qT 129 [(15, .call 89 _ _ DJ),(20,qB h)],calls:=tC [(129,24,1392,af (aU hi [124,124] h2))]} 129 1000
theorem L6(h:decide ((1:Int)≥aa)=true)(h2:bC L s [124,124]=true):RE 28 (lO 129 2) [(0,rP),(1,dI aa),(6,u8 18)] (rd L s) .ret [(4,u8 18),(5,dI 1)] (rd L s):=
 qE {hint:=qT 129 [(15, .call 89 _ _ DJ),(20,qB h)],calls:=tC [(129,24,1392,af (aU hi [124,124] h2))]} 129 1000
theorem OC:DK L s aa 1 (dA L aa s):=
 cG (by decide) (N6 hi aa) (N7 hi aa) (N8 hi aa) (cG (by decide) (N9 hi aa) (Oa hi aa) (Oc hi aa) (cG (by decide) (Od hi aa) (Oe hi aa) (Of hi aa) (cG (by decide) (Og hi aa) (Oh hi aa) (Oi hi aa) (cG (by decide) (Oj hi aa) (Ok hi aa) (Ol hi aa) (cG (by decide) (Om hi aa) (Oo hi aa) (Oq hi aa) (cG (by decide) (Ot hi aa) (Ou hi aa) (Ov hi aa) (cG (by decide) (Ow hi aa) (Ox hi aa) (Oy hi aa) (cG (by decide) (Oz hi aa) (OA hi aa) (OB hi aa) (cG (by decide) (LA hi aa) (LB hi aa) (LC hi aa) (cG (by decide) (LD hi aa) (LE hi aa) (LF hi aa) (cG (by decide) (LG hi aa) (LH hi aa) (LI hi aa) (cG (by decide) (LJ hi aa) (LK hi aa) (LL hi aa) (cG (by decide) (LM hi aa) (LN hi aa) (LO hi aa) (cG (by decide) (LP hi aa) (LQ hi aa) (LR hi aa) (cG (by decide) (LT hi aa) (LU hi aa) (LV hi aa) (cG (by decide) (LX hi aa) (LY hi aa) (LZ hi aa) (cG (by decide) (L4 hi aa) (L5 hi aa) (L6 hi aa) (N5 hi aa))))))))))))))))))
noncomputable def L7{e:aB}{l':List (Nat×AV)}(h:RL 28 (lO 129 2) (xa aa 1) (rd L s) e l' (rd L s)):dJ Pg:=
 ⟨28,bV Pg 129 2,xa aa 1,fun _=>rd L s,e,l',fun _=>rd L s,fun rest X hP hN=>(h rest X hP hN).aw⟩
theorem L8(h:RL 28 (lO 129 2) (xa aa 1) (rd L s) (.exit 0) [] (rd L s)):HC 129 [rP,dI aa] (rd L s) [.int .u8 0, .int .i64 0] (rd L s):=
 qN ({loops:=fun f q=>if f=129 then (if q=2 then some (L7 aa h)else none)else none}) 1000
theorem L9(o k:Int)(h:RL 28 (lO 129 2) (xa aa 1) (rd L s) .ret [(4,u8 o),(5,dI k)] (rd L s)):HC 129 [rP,dI aa] (rd L s) [.int .u8 o, .int .i64 k] (rd L s):=
 qN ({loops:=fun f q=>if f=129 then (if q=2 then some (L7 aa h)else none)else none}) 1000
theorem pg:∀l:List (Int×List UInt8×Int),(ii L s aa l).1=0→(∀p∈l,p.1≠0)→ii L s aa l=(0,0)
 |[],_,_=>rfl
 |(o,x,k)::r,h,hl=>by
  simp only[ii]at h ⊢;cases hc:(decide (aa≤k)&&bC L s x)with
  |true=>rw[hc]at h;exact absurd h (hl (o,x,k) (by simp))
  |false=>rw[hc]at h;exact pg r h fun p hp=>hl p (by simp[hp])
theorem DM:HC 129 [rP,dI aa] (rd L s) [.int .u8 (dA L aa s).1, .int .i64 (dA L aa s).2] (rd L s):=by
 have h:=OC hi aa;unfold DK tK at h;cases h0:((dA L aa s).1==0)with
 |true=>
  rw[h0]at h;have hz:dA L aa s=(0,0):=pg hi aa zx (eq_of_beq h0) (by decide);rw[hz];exact L8 hi aa h
 |false=>
  rw[h0]at h;exact L9 hi aa _ _ h
theorem oG(hL:dc L):∀l:List (Int×List UInt8×Int),(ii L s aa l).1≠0→s.i+1<L.length
 |[],h=>by simp[ii]at h
 |(o,x,k)::r,h=>by
  simp only[ii]at h;cases hc:(decide (aa≤k)&&bC L s x)with
  |true=>exact uT hL hi (Bool.and_eq_true .. ▸hc).2
  |false=>rw[hc]at h;exact oG hL r h
end
end Go.Avm
namespace Go.Avm
open Go.Proofs
def QA:Ex→List AV
 | .mk k o nm n p xs=>[u8 k,u8 o, .d (.str nm),dI n,dI p, .d (.ro (iy xs))]
def PV(K:Nat)(e:Ex):Nat×aK:=(K,⟨1,some (.arr 1 (QA e))⟩)
def QB(K:Nat):Nat×aK:=(K,⟨1,some (.arr 1 [u8 0,u8 0, .d (.str []),dI 0,dI 0, .nils])⟩)
def pC(K:Nat):AV:= .ptr K 1 0 0 1
def E1(aa:Int):List (Nat×AV):=[(0,rP),(1,dI aa),(4,pC 1004),(5,pC 1083)]
def E2(L:List T)(s:RS)(e:Ex):List (Nat×aK):=rd L s ++[QB 1004,PV 1083 e]
def OD(L:List T)(s:RS)(e:Ex):List (Nat×aK):=rd L s ++[PV 1004 e,(1083,⟨1,none⟩)]
def OE(L:List T)(s:RS):List (Nat×aK):=rd L s ++[(1004,⟨1,none⟩),(1083,⟨1,none⟩)]
def Ga(L:List T)(aa:Int)(s:RS)(e:Ex):Res Ex→Prop
 | .ok a s'=>s'.i<L.length∧RL 39 (lO 100 2) (E1 aa) (E2 L s e) .ret [(4,pC 1004)] (OD L s' a)
 | .bad p q s'=>RL 39 (lO 100 2) (E1 aa) (E2 L s e) (.panic (db p q)) [] (OE L s')
 | .out=>True
section
variable{L:List T}(hL:dc L){s:RS}(l:s.i<L.length)(aa:Int)(k o:Int)(nm:List UInt8)(n p:Int)(xs:List Ex)
include l hL
theorem Jz(h:((dA L aa s).1==0)=true):RE 39 (lO 100 2) (E1 aa) (E2 L s (.mk k o nm n p xs)) .ret [(4,pC 1004)] (OD L s (.mk k o nm n p xs)):=
 qE {hint:=qT 100 [(18,qB h)],calls:=tC [(100,14,2078,af (DM l aa))]} 100 2000
theorem Ma(h:((dA L aa s).1==0)=false)(q r:Int)(s2:RS)(c:HX 100 [rP,dI (fg ((dA L aa s).2+1))] (rd L s.nx) (db q r) (rd L s2)):
    RE 39 (lO 100 2) (E1 aa) (E2 L s (.mk k o nm n p xs)) (.panic (db q r)) [] (OE L s2):=
 qE {hint:=qT 100 [(18,qB h),(27,cT Pg s.i (by have:=hL.len;omega))],calls:=tC [(100,14,2078,af (DM l aa)),(100,21,2390,af (bj l))],pans:=au Pg [(100,7,2780,⟨6,some (aZ c),[]⟩)]} 100 2000
theorem Mb(h:((dA L aa s).1==0)=false)(k2 o2:Int)(nm2:List UInt8)(n2 p2:Int)(bW:List Ex)(s2:RS)(c:HC 100 [rP,dI (fg ((dA L aa s).2+1))] (rd L s.nx) [ff (.mk k2 o2 nm2 n2 p2 bW)] (rd L s2)):
    RE 39 (lO 100 2) (E1 aa) (E2 L s (.mk k o nm n p xs)) .normal (E1 aa) (E2 L s2 (.mk 9 (dA L aa s).1 [] 0 (bH L s).p [.mk k o nm n p xs, .mk k2 o2 nm2 n2 p2 bW])):=
 dr aA named {hint:=qT 100 [(18,qB h),(27,cT Pg s.i (by have:=hL.len;omega))],calls:=tC [(100,14,2078,af (DM l aa)),(100,21,2390,af (bj l)),(100,36,3014,af c)]} 2000 100 2000 39 1000000 ([(1083,5)]) ⟨rfl,rfl,rfl,by kernel_rfl,by kernel_rfl,by kernel_rfl⟩ (by kernel_rfl) (by kernel_rfl) (fun _=>by kernel_rfl)
end
noncomputable def Mc{L:List T}{aa:Int}{s:RS}{e:Ex}{hp':List (Nat×aK)}{x:aB}{l':List (Nat×AV)}(h:RL 39 (lO 100 2) (E1 aa) (E2 L s e) x l' hp'):dJ Pg:=
 ⟨39,bV Pg 100 2,E1 aa,fun _=>E2 L s e,x,l',fun _=>hp',fun rest X hP hN=>(h rest X hP hN).aw⟩
theorem JA{L:List T}{aa:Int}{s s1 s2:RS}{k o:Int}{nm:List UInt8}{n p:Int}{xs:List Ex}{k2 o2:Int}{nm2:List UInt8}{n2 p2:Int}{bW:List Ex}
    (c:HC 128 [rP] (rd L s) [ff (.mk k o nm n p xs)] (rd L s1))
    (h:RL 39 (lO 100 2) (E1 aa) (E2 L s1 (.mk k o nm n p xs)) .ret [(4,pC 1004)] (OD L s2 (.mk k2 o2 nm2 n2 p2 bW))):
    HC 100 [rP,dI aa] (rd L s) [ff (.mk k2 o2 nm2 n2 p2 bW)] (rd L s2):=
 qN {loops:=fun f q=>if f=100 then (if q=2 then some (Mc h)else none)else none,calls:=tC [(100,10,1078,af c)]} 1000
theorem Gb{L:List T}{aa:Int}{s s1 s2:RS}{k o:Int}{nm:List UInt8}{n p:Int}{xs:List Ex}{q r:Int}
    (c:HC 128 [rP] (rd L s) [ff (.mk k o nm n p xs)] (rd L s1))
    (h:RL 39 (lO 100 2) (E1 aa) (E2 L s1 (.mk k o nm n p xs)) (.panic (db q r)) [] (OE L s2)):
    HX 100 [rP,dI aa] (rd L s) (db q r) (rd L s2):=
 qX {loops:=fun f q=>if f=100 then (if q=2 then some (Mc h)else none)else none,calls:=tC [(100,10,1078,af c)]} 1000
theorem Gc{L:List T}{aa:Int}{s s1:RS}{q r:Int}(c:HX 128 [rP] (rd L s) (db q r) (rd L s1)):
    HX 100 [rP,dI aa] (rd L s) (db q r) (rd L s1):=
 qX {pans:=au Pg [(100,1,1039,⟨1,some (aZ c),[]⟩)]} 1000
section
variable{L:List T}(hL:dc L)
include hL
theorem DN(n:Nat)(ihE:∀(k:Int)(s:RS),s.i<L.length→RC L 100 [rP,dI k] (fun e=>[ff e]) s (bu L n k s))(ihT:∀(k:Int)(e:Ex)(s:RS),s.i<L.length→Ga L k s e (ej L n k e s))
    (aa:Int) (e:Ex) (s:RS) (l:s.i<L.length):Ga L aa s e (ej L (n+1) aa e s):=by
 obtain⟨k,o,nm,m,p,xs⟩:=e;simp only[ej];cases h:((dA L aa s).1==0)with
 |true=>exact⟨l,fun rest X hP hN=>bh (Jz hL l aa k o nm m p xs h rest X hP hN) (by simp)⟩
 |false=>
  have ln:s.nx.i<L.length:=oG l aa hL zx (by simpa [dA]using h);have c:=ihE (fg ((dA L aa s).2+1)) s.nx ln;simp only[cond_false];revert c;cases bu L n (fg ((dA L aa s).2+1)) s.nx with
  |out=>exact fun _=>trivial
  |bad q r s2=>exact fun c rest X hP hN=>bh (Ma hL l aa k o nm m p xs h q r s2 c rest X hP hN) (by simp)
  |ok e2 s2=>
   obtain⟨k2,o2,nm2,n2,p2,bW⟩:=e2;intro c;have c2:=ihT aa (.mk 9 (dA L aa s).1 [] 0 (bH L s).p [.mk k o nm m p xs, .mk k2 o2 nm2 n2 p2 bW]) s2 c.1;simp only[Res.bind];revert c2;cases ej L n aa (.mk 9 (dA L aa s).1 [] 0 (bH L s).p [.mk k o nm m p xs, .mk k2 o2 nm2 n2 p2 bW]) s2 with
   |out=>exact fun _=>trivial
   |bad q r s3=>exact fun c2 rest X hP hN=>bc (Mb hL l aa k o nm m p xs h k2 o2 nm2 n2 p2 bW s2 c.2 rest X hP hN) (c2 rest X hP hN)
   |ok a s3=>exact fun c2=>⟨c2.1,fun rest X hP hN=>bc (Mb hL l aa k o nm m p xs h k2 o2 nm2 n2 p2 bW s2 c.2 rest X hP hN) (c2.2 rest X hP hN)⟩
theorem DP(n:Nat)(ih1:∀s:RS,s.i<L.length→RC L 128 [rP] (fun e=>[ff e]) s (gn L n s))(ihT:∀(k:Int)(e:Ex)(s:RS),s.i<L.length→Ga L k s e (ej L n k e s))
    (aa:Int) (s:RS) (l:s.i<L.length):RC L 100 [rP,dI aa] (fun e=>[ff e]) s (bu L (n+1) aa s):=by
 simp only[bu];refine RC.bind (ih1 s l) (fun q r s1 c=>Gc c) (fun e s1 l1 c=> ?_);have c2:=ihT aa e s1 l1;obtain⟨k,o,nm,m,p,xs⟩:=e;revert c2;cases ej L n aa (.mk k o nm m p xs) s1 with
 |out=>exact fun _=>trivial
 |bad q r s3=>exact fun c2=>Gb c c2
 |ok a s3=>
  obtain⟨k2,o2,nm2,n2,p2,bW⟩:=a;exact fun c2=>⟨c2.1,JA c c2.2⟩
end
end Go.Avm
namespace Go.Avm
open Go.Proofs
def jW:Nat×aK:=(1003,⟨1,some (.arr 1 [rP])⟩)
def tL(l:List Ex):List AV:=l.map fun e=> .d (ff e)
def vF(nm:List UInt8)(p:Int)(a:AV):Nat×aK:=(1082,⟨1,some (.arr 1 [u8 5,u8 0, .d (.str nm),dI 0,dI p,a])⟩)
def Bs:AV:= .fn 154 [pC 1082,pC 1003]
theorem cC(ρ:Nat→Nat):∀{l:List AV},(∀x∈l,∃d,x= .d d)→bK ρ l=l
 |[],_=>rfl
 |x::l,h=>by
  obtain⟨d,rfl⟩:=h x (by simp);have ih:=cC ρ (l:=l) fun y hy=>h y (by simp[hy])
  simp only[bK,aP,ih]
theorem dD(r:List Ex):∀x∈tL r,∃d,x= .d d:=fun x hx=>by
 obtain⟨e,_,rfl⟩:=List.mem_map.1 hx;exact⟨_,rfl⟩
def zD:D:= .agg [.int .u8 0, .int .u8 0, .str [], .int .i64 0, .int .i64 0, .ro []]
section
variable{L:List T}(hL:dc L){s:RS}(l:s.i<L.length)(nm:List UInt8)(p:Int)
theorem OF(k2 o2:Int)(nm2:List UInt8)(n2 p2:Int)(bW:List Ex)(s2:RS)(c:HC 100 [rP,dI 1] (rd L s) [ff (.mk k2 o2 nm2 n2 p2 bW)] (rd L s2)):
    HC 154 [pC 1082,pC 1003] (rd L s ++[vF nm p .nils,jW,(400000,⟨0,none⟩)]) [] (rd L s2 ++[vF nm p (.sl 400000 2 0 1 6),jW,(400000,⟨2,some (.arr 6 (tL [.mk k2 o2 nm2 n2 p2 bW]))⟩)]):=
 qN {nils:=fun f r=>if f=154 then (if r=0 then some ⟨1082,5,400000,6,false,true⟩else none)else none,calls:=tC [(154,5,2033,af c)]} 2000
theorem Gd(r0:List Ex)(n:Nat)(e:D):∀x∈((tL r0).take r0.length ++[AV.d zD]).set n (AV.d e),∃d,x= .d d:=fun x hx=>by
 rcases List.mem_or_eq_of_mem_set hx with hx|rfl
 ·rcases List.mem_append.1 hx with hx|hx
  ·exact dD r0 x (List.mem_of_mem_take hx)
  ·simp only[List.mem_singleton]at hx;exact⟨_,hx⟩
 ·exact⟨_,rfl⟩
theorem OG(v:Nat)(r0:List Ex)(hr:r0.length<1000000)(k2 o2:Int)(nm2:List UInt8)(n2 p2:Int)(bW:List Ex)(s2:RS)(c:HC 100 [rP,dI 1] (rd L s) [ff (.mk k2 o2 nm2 n2 p2 bW)] (rd L s2)):
    HC 154 [pC 1082,pC 1003] (rd L s ++[vF nm p (.sl 400000 v 0 r0.length 6),jW,(400000,⟨v,some (.arr 6 (tL r0))⟩)]) [] (rd L s2 ++[vF nm p (.sl 400000 (v+1) 0 (r0.length+1) 6),jW,(400000,⟨v+1,some (.arr 6 (((tL r0).take r0.length ++[AV.d zD]).set (0+r0.length) (AV.d (ff (.mk k2 o2 nm2 n2 p2 bW)))))⟩)]):=
 ag aA named {hint:=qT 154 [(8, .apps (tL r0) r0.length 1 ⟨by simp[tL],by omega⟩),(9, .inb (r0.length:Int) (r0.length+1) (by omega) (by simp)),(100008, .elt ((tL r0).take r0.length ++[AV.d zD]) (0+r0.length) (AV.d zD) (by simp[tL]))],calls:=tC [(154,5,2033,af c)]} 2000 2000 _ 1000000 ⟨rfl,rfl,rfl,by kernel_rfl,by simp[b6,fJ,bK,aP,dq,vF,jW,pC,rd,rP,A4,u8,cC _ (dD r0)],by simp[b6,fJ,bK,aP,dq,vF,jW,pC,rd,rP,A4,u8,cC _ (Gd r0 _ _)]⟩ (fun _=>by kernel_rfl)
end
def eL(nm:List UInt8)(p:Int):List (Nat×aK):=[vF nm p .nils,jW,(400000,⟨0,none⟩)]
def de(nm:List UInt8)(p:Int)(r:List Ex):List (Nat×aK):=[vF nm p (.sl 400000 (r.length+1) 0 r.length 6),jW,(400000,⟨r.length+1,some (.arr 6 (tL r))⟩)]
def jI(v:Nat):List (Nat×aK):=[(1082,⟨1,none⟩),(1003,⟨1,none⟩),(400000,⟨v,none⟩)]
def Md(nm:List UInt8)(p:Int):List Ex→List (Nat×aK)
 |[]=>eL nm p
 |r=>de nm p r
section
variable{L:List T}(hL:dc L){s:RS}(l:s.i<L.length)(nm:List UInt8)(p:Int)
theorem OH(e:Ex)(s2:RS)(c:HC 100 [rP,dI 1] (rd L s) [ff e] (rd L s2)):
    HC 154 [pC 1082,pC 1003] (rd L s ++eL nm p) [] (rd L s2 ++de nm p [e]):=by
 obtain⟨k2,o2,nm2,n2,p2,bW⟩:=e;exact OF nm p k2 o2 nm2 n2 p2 bW s2 c
theorem OI(r:List Ex)(hr:r.length<1000000)(e:Ex)(s2:RS)(c:HC 100 [rP,dI 1] (rd L s) [ff e] (rd L s2)):
    HC 154 [pC 1082,pC 1003] (rd L s ++de nm p r) [] (rd L s2 ++de nm p (r ++[e])):=by
 obtain⟨k2,o2,nm2,n2,p2,bW⟩:=e;have h:=OG nm p (r.length+1) r hr k2 o2 nm2 n2 p2 bW s2 c
 have e1:((tL r).take r.length ++[AV.d zD]).set (0+r.length) (AV.d (ff (.mk k2 o2 nm2 n2 p2 bW)))=tL (r ++[.mk k2 o2 nm2 n2 p2 bW]):=by
  have hl:r.length=(tL r).length:=by simp[tL]
  rw[Nat.zero_add,hl,List.take_length];simp[tL]
 rw[e1]at h;have e2:r.length+1=(r ++[Ex.mk k2 o2 nm2 n2 p2 bW]).length:=by simp
 simp only[de,←e2];exact h
theorem Me(q t:Int)(s2:RS)(c:HX 100 [rP,dI 1] (rd L s) (db q t) (rd L s2)):
    HX 154 [pC 1082,pC 1003] (rd L s ++eL nm p) (db q t) (rd L s2 ++jI 0):=
 qX {pans:=au Pg [(154,0,2000,⟨3,some (aZ c),[4,5]⟩)]} 2000
theorem Mf(r:List Ex)(q t:Int)(s2:RS)(c:HX 100 [rP,dI 1] (rd L s) (db q t) (rd L s2)):
    HX 154 [pC 1082,pC 1003] (rd L s ++de nm p r) (db q t) (rd L s2 ++jI (r.length+1)):=
 ae aA named {pans:=au Pg [(154,0,2000,⟨3,some (aZ c),[4,5]⟩)]} 2000 2000 _ 1000000 ⟨rfl,rfl,rfl,by kernel_rfl,by simp[b6,fJ,bK,aP,dq,eL,de,vF,jW,pC,rd,rP,A4,u8,cC _ (dD _)],by simp[b6,fJ,bK,aP,dq,eL,de,jI,vF,jW,pC,rd,rP,A4,u8,cC _ (dD _)]⟩ (by kernel_rfl) (fun _=>by kernel_rfl)
def DQ:List (Nat×AV):=[(0,rP),(1,Bs)]
include l
theorem JB(r:List Ex)(h:bC L s [44]=false):RE 17 (lO 42 3) DQ (rd L s ++de nm p r) (.exit 0) [(0,rP)] (rd L s ++de nm p r):=
 dr aA named {calls:=tC [(42,12,3017,af (ah l [44] h))]} 2000 42 3000 17 1000000 ([]) ⟨rfl,rfl,rfl,by kernel_rfl,by simp[b6,fJ,bK,aP,dq,eL,de,vF,jW,pC,rd,rP,A4,u8,cC _ (dD _)],by simp[b6,fJ,bK,aP,dq,eL,de,jI,vF,jW,pC,rd,rP,A4,u8,cC _ (dD _)]⟩ (by kernel_rfl) (by kernel_rfl) (fun _=>by kernel_rfl)
theorem JC(r:List Ex)(s1:RS)(c1:HC 45 [rP, .d (.str [44])] (rd L s) [.bool true] (rd L s1))(q t:Int)(s2:RS)
    (c:HX 154 [pC 1082,pC 1003] (rd L s1 ++de nm p r) (db q t) (rd L s2 ++jI (r.length+1))):RE 17 (lO 42 3) DQ (rd L s ++de nm p r) (.panic (db q t)) [] (rd L s2 ++jI (r.length+1)):=
 dr aA named {calls:=tC [(42,12,3017,af c1)],pans:=au Pg [(42,4,3017,⟨1,some (aZ c),[]⟩)]} 2000 42 3000 17 1000000 ([]) ⟨rfl,rfl,rfl,by kernel_rfl,by simp[b6,fJ,bK,aP,dq,eL,de,vF,jW,pC,rd,rP,A4,u8,cC _ (dD _)],by simp[b6,fJ,bK,aP,dq,eL,de,jI,vF,jW,pC,rd,rP,A4,u8,cC _ (dD _)]⟩ (by kernel_rfl) (by kernel_rfl) (fun _=>by kernel_rfl)
theorem OJ(r:List Ex)(s1:RS)(c1:HC 45 [rP, .d (.str [44])] (rd L s) [.bool true] (rd L s1))(e:Ex)(s2:RS)
    (c:HC 154 [pC 1082,pC 1003] (rd L s1 ++de nm p r) [] (rd L s2 ++de nm p (r ++[e]))):RE 17 (lO 42 3) DQ (rd L s ++de nm p r) .normal DQ (rd L s2 ++de nm p (r ++[e])):=
 dr aA named {calls:=tC [(42,12,3017,af c1),(42,14,3034,af c)]} 2000 42 3000 17 1000000 ([]) ⟨rfl,rfl,rfl,by kernel_rfl,by simp[b6,fJ,bK,aP,dq,eL,de,vF,jW,pC,rd,rP,A4,u8,cC _ (dD _)],by simp[b6,fJ,bK,aP,dq,eL,de,jI,vF,jW,pC,rd,rP,A4,u8,cC _ (dD _)]⟩ (by kernel_rfl) (by kernel_rfl) (fun _=>by kernel_rfl)
end
def JD(L:List T)(nm:List UInt8)(p:Int)(s:RS)(r:List Ex):Res (List Ex)→Prop
 | .ok r2 s'=>s'.i<L.length∧r2≠[]∧RL 17 (lO 42 3) DQ (rd L s ++de nm p r) (.exit 0) [(0,rP)] (rd L s' ++de nm p r2)
 | .bad q t s'=>∃v,RL 17 (lO 42 3) DQ (rd L s ++de nm p r) (.panic (db q t)) [] (rd L s' ++jI v)
 | .out=>True
noncomputable def JE{L:List T}{nm:List UInt8}{p:Int}{s:RS}{r:List Ex}{hp':List (Nat×aK)}{x:aB}{l':List (Nat×AV)}(h:RL 17 (lO 42 3) DQ (rd L s ++de nm p r) x l' hp'):dJ Pg:=
 ⟨17,bV Pg 42 3,DQ,fun _=>rd L s ++de nm p r,x,l',fun _=>hp',fun rest X hP hN=>(h rest X hP hN).aw⟩
section
variable{L:List T}(hL:dc L)(nm:List UInt8)(p:Int)
include hL
theorem DR(n:Nat)(ihE:∀(k:Int)(s:RS),s.i<L.length→RC L 100 [rP,dI k] (fun e=>[ff e]) s (bu L n k s))(ihM:∀(r:List Ex)(s:RS),s.i<L.length→r.length≤s.i→r≠[]→JD L nm p s r (eZ L n r s))
    (r:List Ex) (s:RS) (l:s.i<L.length) (hr:r.length≤s.i) (hne:r≠[]):JD L nm p s r (eZ L (n+1) r s):=by
 have hlen:r.length<1000000:=by have:=hL.len;omega
 simp only[eZ,cr];cases h:bC L s [44]with
 |false=>exact⟨l,hne,fun rest X hP hN=>bh (JB l nm p r h rest X hP hN) (by simp)⟩
 |true=>
  have hw:aI L [44] s= .ok (bH L s) s.nx:=by simp only[aI,h];rfl
  have hn:=uT hL l h;have c1:=mayT l [44] h (bH L s) s.nx (Dx l hL [44] h rfl rfl rfl rfl rfl rfl);simp only[cond_true,hw,Res.bind];have c:=ihE 1 s.nx hn;revert c;have hi2:∀a s2,bu L n 1 s.nx= .ok a s2→s.nx.i<s2.i:=fun a s2 he=>tw L n 1 s.nx a s2 he
  cases he:bu L n 1 s.nx with
  |out=>exact fun _=>trivial
  |bad q t s2=>exact fun c=>⟨_,fun rest X hP hN=>bh (JC l nm p r s.nx c1 q t s2 (Mf nm p r q t s2 c) rest X hP hN) (by simp)⟩
  |ok e s2=>
   intro c;have h3:=hi2 e s2 he;have c2:=ihM (r ++[e]) s2 c.1 (by simp only[List.length_append,List.length_cons,List.length_nil,RS.nx]at*;omega) (by simp);have hgo:=OJ l nm p r s.nx c1 e s2 (OI nm p r hlen e s2 c.2);simp only;revert c2;cases eZ L n (r ++[e]) s2 with
   |out=>exact fun _=>trivial
   |bad q t s3=>exact fun ⟨v,c2⟩=>⟨v,fun rest X hP hN=>bc (hgo rest X hP hN) (c2 rest X hP hN)⟩
   |ok a s3=>exact fun c2=>⟨c2.1,c2.2.1,fun rest X hP hN=>bc (hgo rest X hP hN) (c2.2.2 rest X hP hN)⟩
end
section
variable{L:List T}(nm:List UInt8)(p:Int){s s1 s2 s3 s4:RS}{t1 t2:T}{q t:Int}
theorem OK(c:HX 40 [rP, .d (.str [40])] (rd L s) (db q t) (rd L s1)):
    HX 42 [rP,Bs] (rd L s ++eL nm p) (db q t) (rd L s1 ++jI 0):=
 qX {pans:=au Pg [(42,0,1000,⟨1,some (aZ c),[]⟩)]} 1000
section
variable(l1:s1.i<L.length)(c1:HC 40 [rP, .d (.str [40])] (rd L s) [tD t1] (rd L s1))
include l1 c1
theorem OL(h:bC L s1 [41]=true)(c2:HC 40 [rP, .d (.str [41])] (rd L s1) [tD t2] (rd L s2)):
    HC 42 [rP,Bs] (rd L s ++eL nm p) [] (rd L s2 ++eL nm p):=
 qN {calls:=tC [(42,5,1017,af c1),(42,7,1034,af (aU l1 [41] h)),(42,16,1068,af c2)]} 1000
theorem OM(h:bC L s1 [41]=true)(c2:HX 40 [rP, .d (.str [41])] (rd L s1) (db q t) (rd L s2)):
    HX 42 [rP,Bs] (rd L s ++eL nm p) (db q t) (rd L s2 ++jI 0):=
 qX {calls:=tC [(42,5,1017,af c1),(42,7,1034,af (aU l1 [41] h))],pans:=au Pg [(42,5,1051,⟨1,some (aZ c2),[]⟩)]} 1000
theorem ON(h:bC L s1 [41]=false)(c2:HX 154 [pC 1082,pC 1003] (rd L s1 ++eL nm p) (db q t) (rd L s2 ++jI 0)):
    HX 42 [rP,Bs] (rd L s ++eL nm p) (db q t) (rd L s2 ++jI 0):=
 qX {calls:=tC [(42,5,1017,af c1),(42,7,1034,af (aU l1 [41] h))],pans:=au Pg [(42,2,1051,⟨1,some (aZ c2),[]⟩)]} 1000
theorem OO(h0:bC L s1 [41]=false)(e:Ex)(c2:HC 154 [pC 1082,pC 1003] (rd L s1 ++eL nm p) [] (rd L s2 ++de nm p [e]))(v:Nat)(h:RL 17 (lO 42 3) DQ (rd L s2 ++de nm p [e]) (.panic (db q t)) [] (rd L s3 ++jI v)):
    HX 42 [rP,Bs] (rd L s ++eL nm p) (db q t) (rd L s3 ++jI v):=
 qX {loops:=fun f q=>if f=42 then (if q=3 then some (JE h)else none)else none,calls:=tC [(42,5,1017,af c1),(42,7,1034,af (aU l1 [41] h0)),(42,10,1068,af c2)]} 1000
theorem OP(h0:bC L s1 [41]=false)(e:Ex)(c2:HC 154 [pC 1082,pC 1003] (rd L s1 ++eL nm p) [] (rd L s2 ++de nm p [e]))(r:List Ex)(h:RL 17 (lO 42 3) DQ (rd L s2 ++de nm p [e]) (.exit 0) [(0,rP)] (rd L s3 ++de nm p r))(c3:HX 40 [rP, .d (.str [41])] (rd L s3) (db q t) (rd L s4)):
    HX 42 [rP,Bs] (rd L s ++eL nm p) (db q t) (rd L s4 ++jI (r.length+1)):=
 qX {loops:=fun f q=>if f=42 then (if q=3 then some (JE h)else none)else none,calls:=tC [(42,5,1017,af c1),(42,7,1034,af (aU l1 [41] h0)),(42,10,1068,af c2)],pans:=au Pg [(42,5,1068,⟨1,some (aZ c3),[]⟩)]} 1000
theorem OQ(h0:bC L s1 [41]=false)(e:Ex)(c2:HC 154 [pC 1082,pC 1003] (rd L s1 ++eL nm p) [] (rd L s2 ++de nm p [e]))(r:List Ex)(h:RL 17 (lO 42 3) DQ (rd L s2 ++de nm p [e]) (.exit 0) [(0,rP)] (rd L s3 ++de nm p r))(c3:HC 40 [rP, .d (.str [41])] (rd L s3) [tD t2] (rd L s4)):
    HC 42 [rP,Bs] (rd L s ++eL nm p) [] (rd L s4 ++de nm p r):=
 ag aA named {loops:=fun f q=>if f=42 then (if q=3 then some (JE h)else none)else none,calls:=tC [(42,5,1017,af c1),(42,7,1034,af (aU l1 [41] h0)),(42,10,1068,af c2),(42,16,1085,af c3)]} 2000 1000 _ 1000000 ⟨rfl,rfl,rfl,by kernel_rfl,by simp[b6,fJ,bK,aP,dq,eL,de,vF,jW,pC,rd,rP,A4,u8,cC _ (dD _)],by simp[b6,fJ,bK,aP,dq,eL,de,jI,vF,jW,pC,rd,rP,A4,u8,cC _ (dD _)]⟩ (fun _=>by kernel_rfl)
end
theorem Mg(c:HC 42 [rP,Bs] (rd L s ++eL nm p) [] (rd L s1 ++eL nm p)):
    HC 130 [rP, .d (.str nm),dI p] (rd L s) [ff (.mk 5 0 nm 0 p [])] (rd L s1):=
 qN {calls:=tC [(130,13,1135,af c)]} 1000
theorem xb(h:ab):∀r:List Ex,eO (view 3 h) (tL r)=some (iy r,[])
 |[]=>rfl
 |x::r=>by
  have ih:=xb h r;simp only[tL]at ih;simp only[tL,List.map_cons,eO,ih,iy];rfl
def QC(r:List Ex):tg:=⟨1082,5,400000,r.length,tL r,iy r,by simp[tL],fun h=>xb h r⟩
theorem Mh(r:List Ex)(c:HC 42 [rP,Bs] (rd L s ++eL nm p) [] (rd L s1 ++de nm p r)):
    HC 130 [rP, .d (.str nm),dI p] (rd L s) [ff (.mk 5 0 nm 0 p r)] (rd L s1):=
 qN {frz:=fun f q=>if f=130 then (if q=3 then some (QC r)else none)else none,calls:=tC [(130,13,1135,af c)]} 1000
theorem Mi(v:Nat)(c:HX 42 [rP,Bs] (rd L s ++eL nm p) (db q t) (rd L s1 ++jI v)):
    HX 130 [rP, .d (.str nm),dI p] (rd L s) (db q t) (rd L s1):=
 qX {pans:=au Pg [(130,2,1105,⟨2,some (aZ c),[]⟩)]} 1000
end
end Go.Avm
