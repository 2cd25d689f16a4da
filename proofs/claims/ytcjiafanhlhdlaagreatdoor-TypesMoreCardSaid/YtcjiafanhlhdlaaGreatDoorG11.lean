/-
  Types: a statement, whatever it says; all statements.
-/
import Derived.Test.YtcjiafanhlhdlaaGreatDoorG10
import Derived.Test.YtcjiafanhlhdlaaGreatDoorG09
import Derived.Test.YtcjiafanhlhdlaaGreatDoorG07
set_option linter.unusedVariables false
set_option linter.unusedSimpArgs false
set_option linter.unusedSectionVars false
namespace Go.Avm
open Go.Proofs
theorem cH{S:CK}(h:CKok S)(x:Pt)(hp:S.c.pts.length<900000000):CKok (S.ptd x) where
 fn:=h.fn
 W:=h.W
 dat:=h.dat
 len:=h.len
 par:=h.par
 vars:=h.vars
 seen:=h.seen
 inc:=h.inc
 nms:=h.nms
 nml:=h.nml
 had:=h.had
 sk:=h.sk
 sb:=h.sb
 sc:=h.sc
 sv:=h.sv
 pts:=by simp only[CK.ptd,List.length_append,List.length_cons,List.length_nil];omega
theorem hD{S:CK}(h:CKok S)(hp:S.c.pts.length<900000000):Nx S S.at1 {S.c with pts:=S.c.pts ++[S.c.pt S.fn]}:=⟨cH h _ hp,rfl,rfl,rfl,rfl,rfl,List.prefix_refl _⟩
structure Ra(P:Pl)(bd el:List bu):Prop where
 ib:∀S,At P S→TC S 110 [aI, .d (.ro (ep bd))] (dQ P.in bd S.c)
 ie:∀S,At P S→TC S 110 [aI, .d (.ro (ep el))] (dQ P.in el S.c)
 eb:mO bd
 ee:mO el
theorem TC.from{S S1:CK}{c1:CS}{f f2:Nat}{args args2:List AV}{r:TR CS}(n1:Nx S S1 c1)(t:TC S1 f args r)(ok:∀S',CKok S'→(HC f args (ck S1) [] (ck S'))→HC f2 args2 (ck S) [] (ck S'))
    (bad:∀g p e,(HX f args (ck S1) (aH p e) (cv g))→HX f2 args2 (ck S) (aH p e) (cv g)):TC S f2 args2 r:=by
 cases r with
 |out=>trivial
 |bad p e=>
  obtain⟨g,c⟩:=t;exact⟨g,bad g p e c⟩
 |ok c=>
  obtain⟨S',nx,h⟩:=t;exact⟨S',n1.trans nx,ok S' nx.ok h⟩
section
variable{P:Pl}{S:CK}(a:At P S)(hp:S.c.pts.length<900000000)(nm:List UInt8)(ty n p:Int)(es:List Ex)(bd el:List bu)
include a hp
theorem mP{f:Nat}{args:List AV}{p e:Int}(h:HX f args (ck S) (aH p e) (iu S)):LE S f args p e:=by
 rw[cX]at h;exact ir h
theorem yP{f:Nat}{args:List AV}(h:HC f args (ck S) [] (iu S)):TC S f args (.ok {S.c with pts:=S.c.pts ++[S.c.pt S.fn]}):=by
 rw[cX]at h;exact⟨S.at1,hD a.ok hp,h⟩
abbrev c1(S:CK):CS:={S.c with pts:=S.c.pts ++[S.c.pt S.fn]}
theorem TB:TC S 76 [aI,eQ 1 (S.c.pts.length:Int) nm ty n p es bd el] (oB P.fs P.deep nm (S.c.pts.length:Int) ty n p es (c1 S)):=by
 have t:=QP (hD a.ok hp).ok 1 (S.c.pts.length:Int) nm ty n p es bd el;have e1:S.at1.fs=P.fs:=a.fs;have e2:S.at1.deep=P.deep:=a.deep;rw[e1,e2]at t;exact TC.from (hD a.ok hp) t (fun S' h' c=>Oz a.ok (cH a.ok dx hp) nm ty n p es bd el h' c) (fun g q r c=>L5 a.ok (cH a.ok dx hp) nm ty n p es bd el g q r c)
theorem TD(x:Ra P bd el):TC S 76 [aI,eQ 4 (S.c.pts.length:Int) nm ty n p es bd el] (tz P es bd el (c1 S)):=by
 have t:=IG x.ib x.ie x.eb x.ee 4 (S.c.pts.length:Int) nm ty n p es S.at1 (a.nx (hD a.ok hp));exact TC.from (hD a.ok hp) t (fun S' h' c=>OA a.ok (cH a.ok dx hp) nm ty n p es bd el h' c) (fun g q r c=>L6 a.ok (cH a.ok dx hp) nm ty n p es bd el g q r c)
theorem TF:TC S 76 [aI,eQ 6 (S.c.pts.length:Int) nm ty n p es bd el] (gR P.fs P.fn p es (c1 S)):=by
 have n1:=hD a.ok hp;have t:=N8 n1.ok 6 (S.c.pts.length:Int) nm ty n p es bd el;have e1:S.at1.fs=P.fs:=a.fs;have e2:S.at1.fn=P.fn:=a.fn;rw[e1,e2]at t;have e3:S.at1.c=c1 S:=rfl;rw[e3]at t;revert t;cases gR P.fs P.fn p es (c1 S)with
 |out=>exact fun _=>trivial
 |bad q r=>exact fun t=>mP a hp (L7 a.ok (cH a.ok dx hp) nm ty n p es bd el n1.ok q r t)
 |ok c=>
  rintro⟨rfl,t⟩;exact yP a hp (OD a.ok (cH a.ok dx hp) nm ty n p es bd el n1.ok t)
theorem TG:TC S 76 [aI,eQ 7 (S.c.pts.length:Int) nm ty n p es bd el] ((aB ((c1 S).te P.fs) es [[1,2]] false).bind fun _=> .ok (c1 S)):=by
 have n1:=hD a.ok hp;match es with
 |[]=>simp only[aB];trivial
 | .mk k1 o1 nm1 n1' p1 xs1::zs=>
  have t:=Ts n1.ok (.mk k1 o1 nm1 n1' p1 xs1) 1 2;unfold WX at t;have e1:S.at1.c.te S.at1.fs=(c1 S).te P.fs:=by rw[show S.at1.fs=P.fs from a.fs];rfl
  rw[e1]at t;rw[bC];revert t;cases b9 ((c1 S).te P.fs) (.mk k1 o1 nm1 n1' p1 xs1) [1,2]with
  |out=>exact fun _=>trivial
  |bad q r=>exact fun t=>mP a hp (L8 a.ok (cH a.ok dx hp) nm ty n p k1 o1 nm1 n1' p1 xs1 zs bd el n1.ok q r t)
  |ok u=>
   intro t;simp only[TR.bind,cond_false,eB];exact yP a hp (OE a.ok (cH a.ok dx hp) nm ty n p k1 o1 nm1 n1' p1 xs1 zs bd el n1.ok u t)
theorem TH:TC S 76 [aI,eQ 8 (S.c.pts.length:Int) nm ty n p es bd el] (match es with|[]=> .out|x::_=>(dy ((c1 S).te P.fs) x).bind fun _=> .ok (c1 S)):=by
 have n1:=hD a.ok hp;match es with
 |[]=>trivial
 | .mk k1 o1 nm1 n1' p1 xs1::zs=>
  have t:=Qj n1.ok (.mk k1 o1 nm1 n1' p1 xs1);have e1:S.at1.c.te S.at1.fs=(c1 S).te P.fs:=by rw[show S.at1.fs=P.fs from a.fs];rfl
  rw[e1]at t;simp only;revert t;cases dy ((c1 S).te P.fs) (.mk k1 o1 nm1 n1' p1 xs1)with
  |out=>exact fun _=>trivial
  |bad q r=>exact fun t=>mP a hp (L9 a.ok (cH a.ok dx hp) nm ty n p k1 o1 nm1 n1' p1 xs1 zs bd el n1.ok q r t)
  |ok u=>
   intro t;exact yP a hp (OF a.ok (cH a.ok dx hp) nm ty n p k1 o1 nm1 n1' p1 xs1 zs bd el n1.ok u t)
theorem TI:TC S 76 [aI,eQ 3 (S.c.pts.length:Int) nm ty n p es bd el] ((nc ((c1 S).te P.fs) nm p).bind fun _=>(aB ((c1 S).te P.fs) es [[1],[1]] false).bind fun _=> .ok (c1 S)):=by
 have n1:=hD a.ok hp;have e1:S.at1.c.te S.at1.fs=(c1 S).te P.fs:=by rw[show S.at1.fs=P.fs from a.fs];rfl
 have ta:=K6 n1.ok nm p;rw[e1]at ta;revert ta;cases nc ((c1 S).te P.fs) nm p with
 |out=>exact fun _=>trivial
 |bad q r=>exact fun ta=>mP a hp (Q1 a.ok (cH a.ok dx hp) nm ty n p es bd el n1.ok q r ta)
 |ok _=>
  intro ta;simp only[TR.bind];match es with
  |[]=>simp only[aB];trivial
  | .mk k1 o1 nm1 n1' p1 xs1::zs=>
   have t:=Lp n1.ok (.mk k1 o1 nm1 n1' p1 xs1) 1;unfold WX at t;rw[e1]at t;rw[bC];revert t;cases b9 ((c1 S).te P.fs) (.mk k1 o1 nm1 n1' p1 xs1) [1]with
   |out=>exact fun _=>trivial
   |bad q r=>exact fun t=>mP a hp (Q3 a.ok (cH a.ok dx hp) nm ty n p k1 o1 nm1 n1' p1 xs1 zs bd el n1.ok ta q r t)
   |ok u=>
    intro t;simp only[TR.bind,cond_false];match zs with
    |[]=>simp only[aB];trivial
    | .mk k2 o2 nm2 n2 p2 cd::zs=>
     have t2:=Lp n1.ok (.mk k2 o2 nm2 n2 p2 cd) 1;unfold WX at t2;rw[e1]at t2;rw[bC];revert t2;cases b9 ((c1 S).te P.fs) (.mk k2 o2 nm2 n2 p2 cd) [1]with
     |out=>exact fun _=>trivial
     |bad q r=>exact fun t2=>mP a hp (Q4 a.ok (cH a.ok dx hp) nm ty n p k1 o1 nm1 n1' p1 xs1 k2 o2 nm2 n2 p2 cd zs bd el n1.ok ta u t q r t2)
     |ok u2=>
      intro t2;simp only[TR.bind,cond_false,eB];exact yP a hp (OG a.ok (cH a.ok dx hp) nm ty n p k1 o1 nm1 n1' p1 xs1 k2 o2 nm2 n2 p2 cd zs bd el n1.ok ta u t u2 t2)
theorem TJ:TC S 76 [aI,eQ 2 (S.c.pts.length:Int) nm ty n p es bd el] ((kf ((c1 S).te P.fs) nm p).bind fun r=>bif r.2.ty==3 then .bad p 8 else (aB ((c1 S).te P.fs) es [[r.2.ty]] false).bind fun _=> .ok {c1 S with sure:=(c1 S).sure.put r.1}):=by
 have n1:=hD a.ok hp;have e1:S.at1.c.te S.at1.fs=(c1 S).te P.fs:=by rw[show S.at1.fs=P.fs from a.fs];rfl
 have ta:=K4 n1.ok nm p;rw[e1]at ta
 have hlt:∀r,kf ((c1 S).te P.fs) nm p= .ok r→r.1<S.c.vars.length:=fun r hr=>by
  unfold kf at hr;cases hf:eA nm ((c1 S).te P.fs).seen 0 with
  |none=>rw[hf]at hr;cases hr
  |some q=>
   rw[hf]at hr;cases hr;exact a.ok.seen _ (pj hf)
 revert ta hlt;cases kf ((c1 S).te P.fs) nm p with
 |out=>exact fun _ _=>trivial
 |bad q r=>exact fun ta _=>mP a hp (Q5 a.ok (cH a.ok dx hp) nm ty n p es bd el n1.ok q r ta)
 |ok rv=>
  obtain⟨i,v⟩:=rv;intro ta hlt;have hlt:=hlt _ rfl;simp only[TR.bind];cases hv:(v.ty==3)with
  |true=>
   have hv':(v.ty !=3)=false:=by simp[bne,hv]
   exact mP a hp (Q6 a.ok (cH a.ok dx hp) nm ty n p es bd el n1.ok i v ta hv')
  |false=>
   have hv':(v.ty !=3)=true:=by simp[bne,hv]
   simp only[cond_false];match es with
   |[]=>simp only[aB];trivial
   | .mk k1 o1 nm1 n1' p1 xs1::zs=>
    have t:=Lp n1.ok (.mk k1 o1 nm1 n1' p1 xs1) v.ty;unfold WX at t;rw[e1]at t;rw[bC];revert t;cases b9 ((c1 S).te P.fs) (.mk k1 o1 nm1 n1' p1 xs1) [v.ty]with
    |out=>exact fun _=>trivial
    |bad q r=>exact fun t=>mP a hp (Q7 a.ok (cH a.ok dx hp) nm ty n p k1 o1 nm1 n1' p1 xs1 zs bd el n1.ok i v ta hv' q r t)
    |ok u=>
     intro t;simp only[TR.bind,cond_false,eB];have h2:=wL n1.ok i hlt;refine⟨S.at1.put i,⟨h2,rfl,rfl,rfl,rfl,rfl,List.prefix_refl _⟩, ?_⟩;cases hi:bQ i S.c.sure.l 0 with
     |none=>
      rw[←BU S hi];exact Ma a.ok (cH a.ok dx hp) nm ty n p k1 o1 nm1 n1' p1 xs1 zs bd el n1.ok i v ta hv' u t hi h2
     |some j=>
      rw[←BV S hi];exact Mb a.ok (cH a.ok dx hp) nm ty n p k1 o1 nm1 n1' p1 xs1 zs bd el n1.ok i v ta hv' u t j hi h2
theorem TK(x:Ra P bd el):TC S 76 [aI,eQ 5 (S.c.pts.length:Int) nm ty n p es bd el] ((aB ((c1 S).te P.fs) es [[2]] false).bind fun _=>(dQ P.in bd (c1 S)).bind fun b=> .ok {b with sure:=(c1 S).sure}):=by
 have n1:=hD a.ok hp;have e1:S.at1.c.te S.at1.fs=(c1 S).te P.fs:=by rw[show S.at1.fs=P.fs from a.fs];rfl
 match es with
 |[]=>simp only[aB];trivial
 | .mk k1 o1 nm1 n1' p1 xs1::zs=>
  have t:=Lp n1.ok (.mk k1 o1 nm1 n1' p1 xs1) 2;unfold WX at t;rw[e1]at t;rw[bC];revert t;cases b9 ((c1 S).te P.fs) (.mk k1 o1 nm1 n1' p1 xs1) [2]with
  |out=>exact fun _=>trivial
  |bad q r=>exact fun t=>mP a hp (Q8 a.ok (cH a.ok dx hp) nm ty n p k1 o1 nm1 n1' p1 xs1 zs bd el n1.ok q r t)
  |ok u=>
   intro t;simp only[TR.bind,cond_false,eB];have tb:=x.ib S.at1 (a.nx n1);have e3:S.at1.c=c1 S:=rfl;rw[e3]at tb;revert tb;cases dQ P.in bd (c1 S)with
   |out=>exact fun _=>trivial
   |bad q r=>exact fun ⟨g,c⟩=>⟨g,Q9 a.ok (cH a.ok dx hp) nm ty n p k1 o1 nm1 n1' p1 xs1 zs bd el u t g q r c⟩
   |ok b=>
    rintro⟨S',nx,c⟩;have h2:=wM nx.ok (q:=S.c.sure) (a.ok.q.mono nx.vars.length_le) (S'.vq+1);have nn:=n1.trans nx;refine⟨S'.sureAs S.c.sure (S'.vq+1),⟨h2,by rw[←nx.c];rfl,nn.fs,nn.fn,nn.deep,nn.W,nn.vars⟩,OH a.ok (cH a.ok dx hp) nm ty n p k1 o1 nm1 n1' p1 xs1 zs bd el u t h2 c⟩
theorem TL(k:Int)(e1:(k==1)=false)(e2:(k==2)=false)(e3:(k==3)=false)(e4:(k==4)=false)(e5:(k==5)=false)(e6:(k==6)=false)(e7:(k==7)=false)(e8:(k==8)=false):TC S 76 [aI,eQ k (S.c.pts.length:Int) nm ty n p es bd el] (.ok (c1 S)):=
 yP a hp (Q0 a.ok (cH a.ok dx hp) nm ty n p es bd el (hD a.ok hp).ok k e1 e2 e3 e4 e5 e6 e7 e8)
end
theorem OI(P:Pl)(es:List Ex)(bd el:List bu)(c:CS):((aB (c.te P.fs) es [[2]] false).bind fun _=>
        (aX P.fs P.fn (dD (P.deep+1)) false bd c).bind fun a=>
        (aX P.fs P.fn (dD (P.deep+1)) false el {a with seen:=c.seen,sure:=c.sure}).bind fun b=>
        .ok {b with seen:=c.seen,sure:=bif cU bd then b.sure else bif cU el then a.sure else a.sure.both b.sure})=tz P es bd el c:=by
 unfold tz dQ;simp only[Pl.in];cases aB (c.te P.fs) es [[2]] false with
 |out=>rfl
 |bad _ _=>rfl
 |ok _=>
  simp only[TR.bind];cases aX P.fs P.fn (dD (P.deep+1)) false bd c with
  |out=>rfl
  |bad _ _=>rfl
  |ok a=>
   simp only;cases aX P.fs P.fn (dD (P.deep+1)) false el ⟨a.vars,c.seen,c.sure,a.pts⟩with
   |out=>rfl
   |bad _ _=>rfl
   |ok b=>rfl
theorem OJ{P:Pl}{k id:Int}{nm:List UInt8}{ty n p:Int}{es:List Ex}{bd el:List bu}(x:Ra P bd el):Od P (.mk k id nm ty n p es bd el):=fun S a=>by
 unfold dz;cases hid:(id==(S.c.pts.length:Int)&&decide (S.c.pts.length<900000000))with
 |false=>exact trivial
 |true=>
  rw[Bool.and_eq_true]at hid;have h1:=eq_of_beq hid.1;subst h1;have hp:=of_decide_eq_true hid.2;simp only[cond_true];have ec:({S.c with pts:=S.c.pts ++[S.c.pt P.fn]}:CS)=c1 S:=by rw[←a.fn]
  rw[ec];cases e1:(k==1)with
  |true=>rw[eq_of_beq e1];exact TB a hp nm ty n p es bd el
  |false=>
  cases e2:(k==2)with
  |true=>
   have:=TJ a hp nm ty n p es bd el;rw[eq_of_beq e2];rw[←a.fn];exact this
  |false=>
  cases e3:(k==3)with
  |true=>rw[eq_of_beq e3];exact TI a hp nm ty n p es bd el
  |false=>
  cases e4:(k==4)with
  |true=>
   have:=TD a hp nm ty n p es bd el x;rw[←OI]at this;rw[eq_of_beq e4];exact this
  |false=>
  cases e5:(k==5)with
  |true=>
   have:=TK a hp nm ty n p es bd el x;rw[eq_of_beq e5];refine(congrArg (TC S _ _) ?_).mp this;unfold dQ;simp only[Pl.in];cases aB ((c1 S).te P.fs) es [[2]] false with
   |out=>rfl
   |bad _ _=>rfl
   |ok _=>
    simp only[TR.bind];cases aX P.fs P.fn (dD (P.deep+1)) false bd (c1 S)<;>rfl
  |false=>
  cases e6:(k==6)with
  |true=>rw[eq_of_beq e6];exact TF a hp nm ty n p es bd el
  |false=>
  cases e7:(k==7)with
  |true=>rw[eq_of_beq e7];exact TG a hp nm ty n p es bd el
  |false=>
  cases e8:(k==8)with
  |true=>
   rw[eq_of_beq e8];have:=TH a hp nm ty n p es bd el;refine(congrArg (TC S _ _) ?_).mp this;cases es<;>rfl
  |false=>exact TL a hp nm ty n p es bd el k e1 e2 e3 e4 e5 e6 e7 e8
theorem AK:∀(m:Nat)(P:Pl)(l:List bu),jr m l→0≤P.deep→P.deep+m<9223372036854775807→∀x∈l,Od P x
 |0,_,_,h,_,_=>h.elim
 |m+1,P,l,h,h0,hd=>fun x hx=>by
  have hs:=h.2 x hx;obtain⟨k,id,nm,ty,n,p,es,bd,el⟩:=x;simp only at hs
  have ew:P.in.deep=P.deep+1:=by
   show dD (P.deep+1)=_;unfold dD;exact IntWalk.i64_in _ (by omega)
  have ib:=AK m P.in bd hs.1 (by rw[ew];omega) (by rw[ew];omega);have ie:=AK m P.in el hs.2 (by rw[ew];omega) (by rw[ew];omega)
  have rb:∀(l:List bu),jr m l→l.length<1000000∧∀x∈l,mN x:=fun l hl=>by
   cases m with
   |zero=>exact hl.elim
   |succ m=>
    refine⟨hl.1,fun x hx=> ?_⟩;have h2:=hl.2 x hx;obtain⟨k,id,nm,ty,n,p,es,bd,el⟩:=x;exact J7 h2.1 h2.2
  have dd: -9223372036854775808≤P.deep∧P.deep<9223372036854775808:=by omega
  exact OJ ⟨fun S a=>Fj dd (rb bd hs.1).1 ib (rb bd hs.1).2 S a,fun S a=>Fj dd (rb el hs.2).1 ie (rb el hs.2).2 S a,tc m bd hs.1,tc m el hs.2⟩
end Go.Avm
namespace Go.Avm
open Go.Proofs
def ff(fs:List Fn)(i:Nat)(f:Fn)(pts:List Pt):TR (List Vr×List Pt):=(dQ ⟨fs,i,0⟩ f.bd (f.ps.foldl CS.par ⟨[],[],⟨[],0⟩,pts⟩)).bind fun c=>bif f.res==0||cU f.bd then .ok (c.vars,c.pts)else .bad f.p 12
def bp(fs:List Fn):Nat→List Fn→List (List Vr)→List Pt→TR (List (List Vr)×List Pt)
 |_,[],rows,pts=> .ok (rows,pts)
 |i,f::r,rows,pts=>(ff fs i f pts).bind fun q=>bp fs (i+1) r (rows ++[q.1]) q.2
def bI(fs:List Fn):TR (List (List Vr)×List Pt):=(di fs).bind fun _=>bp fs 0 fs [] [dx]
def XS(x:AV):Prop:=∀ρ:Nat→Nat,ρ 500002=500002→ρ 500003=500003→ρ 500004=500004→aR ρ x=x
abbrev iS(fs:List Fn)(W:List AV)(pts:List Pt)(g:Gv)(x4:Nat)(x5 x6 x7:AV):List (Nat×aN):=
 [(500000,⟨1,some (.arr 1 [.mp 499904 1, .d (.ro (fs.map cW)), .sl 500191 1 0 fs.length 1, .sl 500382 g.vp 0 pts.length 3,dN x4,x5,x6,x7,dI 0])⟩),(499904,⟨1,some (.map (kD 0 fs) fs.length)⟩),(500002,⟨g.vh,none⟩),(500003,⟨g.vs,none⟩),(500004,⟨g.vq,none⟩),(500005,⟨g.vv,none⟩),(500382,⟨g.vp,some (.arr 3 (pts.map ct))⟩),(500191,⟨1,some (.arr 1 W)⟩)]
abbrev IO(fs:List Fn)(W:List AV)(pts:List Pt)(g:Gv)(i:Nat):List (Nat×aN):=
 [(500000,⟨1,some (.arr 1 [.mp 499904 1, .d (.ro (fs.map cW)), .sl 500191 1 0 fs.length 1, .sl 500382 g.vp 0 pts.length 3,dN i, .mp 500002 (g.vh+1), .mp 500003 (g.vs+1), .mp 500004 (g.vq+1),dI 0])⟩),(499904,⟨1,some (.map (kD 0 fs) fs.length)⟩),(500002,⟨g.vh+1,some (.map [] 0)⟩),(500003,⟨g.vs+1,some (.map [] 0)⟩),(500004,⟨g.vq+1,some (.map [] 0)⟩),(500005,⟨g.vv,none⟩),(500382,⟨g.vp,some (.arr 3 (pts.map ct))⟩),(500191,⟨1,some (.arr 1 W)⟩)]
abbrev fZ:List (Nat×aN):=[(600003,⟨0,none⟩)]
def qP(W:List AV):Prop:=∀x∈W,x= .nils∨∃d,x= .d d
theorem BW{W:List AV}(h:qP W)(ρ:Nat→Nat):bT ρ W=W:=oG fun x hx=>by
 rcases h x hx with rfl|⟨d,rfl⟩<;>rfl
abbrev Kk:List Nat:=[500000,499904,500002,500003,500004,500005,500382,500191]
section
variable{fs:List Fn}{W:List AV}{pts:List Pt}{g:Gv}{x4:Nat}{x5 x6 x7:AV}(hW:qP W)(h5:XS x5)(h6:XS x6)(h7:XS x7){ρ:Nat→Nat}(hρ:([499904,500002,500003,500004,500382,500191].map ρ)=[499904,500002,500003,500004,500382,500191])
include hW hρ
theorem eX(h5:XS x5)(h6:XS x6)(h7:XS x7):((iS fs W pts g x4 x5 x6 x7).map fun p=>cg ρ p.2)=(iS fs W pts g x4 x5 x6 x7).map (·.2):=by
 simp only[List.map_cons,List.map_nil,List.cons.injEq,and_true]at hρ;obtain⟨e1,e2,e3,e4,e6,e7⟩:=hρ;simp only[iS,List.map_cons,List.map_nil,cg,Option.map_some,Option.map_none,gj,oF,BW hW,bT,aR,e1,e6,e7,h5 ρ e2 e3 e4,h6 ρ e2 e3 e4,h7 ρ e2 e3 e4]
theorem IP{i:Nat}:((IO fs W pts g i).map fun p=>cg ρ p.2)=(IO fs W pts g i).map (·.2):=by
 simp only[List.map_cons,List.map_nil,List.cons.injEq,and_true]at hρ;obtain⟨e1,e2,e3,e4,e6,e7⟩:=hρ;simp only[IO,List.map_cons,List.map_nil,cg,Option.map_some,Option.map_none,gj,oF,BW hW,bT,aR,e1,e2,e3,e4,e6,e7]
end
abbrev Dj:List Nat:=[500000,499904,500002,500003,500004,500005,500382,500191,600003]
theorem BX{A B ex ex':List (Nat×aN)}{ar:List AV}(hA:A.map (·.1)=Kk)(hB:B.map (·.1)=Kk)(hx:ex.map (·.1)=[600003])(hx':ex'.map (·.1)=[600003])(ha:bT (dW Dj 1000000) ar=ar)
    (rA:(A.map fun p=>cg (dW Dj 1000000) p.2)=A.map (·.2)) (rB:(B.map fun p=>cg (dW Dj 1000000) p.2)=B.map (·.2)) (re:(ex.map fun p=>cg (dW Dj 1000000) p.2)=ex.map (·.2)) (re':(ex'.map fun p=>cg (dW Dj 1000000) p.2)=ex'.map (·.2)):
    Cln ((A ++ex).map (·.1)) 1000000 ar (A ++ex) (B ++ex'):=by
 have e:(A ++ex).map (·.1)=Dj:=by rw[List.map_append,hA,hx];rfl
 rw[e];exact⟨rfl,e,by rw[List.map_append,hB,hx'];rfl,ha,by rw[List.map_append,List.map_append,rA,re],by rw[List.map_append,List.map_append,rB,re']⟩
noncomputable def bB:Code:=bO Pg 27 1
noncomputable def S9:Code:=IA bB
noncomputable def IQ:Code:=Qk (IA (uZ (uZ bB)))
noncomputable def Ta:Code:=IA IQ
noncomputable def Tb:Code:=IA (uZ IQ)
noncomputable def Tc:Code:=IA (uZ (uZ IQ))
noncomputable def Mc:Code:=uZ (uZ (uZ IQ))
noncomputable def Md:Code:=uZ (uZ (uZ bB))
theorem yQ:bB= .seq S9 (.seq (.cond (.tmp 13) .skip (.exit 0)) (.seq (.block 1 (.seq Ta (.seq Tb (.seq Tc Mc)))) Md)):=by kernel_rfl
abbrev rc(fs:List Fn)(i:Nat):List (Nat×AV):=[(0,aI),(10, .d (.ro (fs.map cW))),(11,dN (fs.map cW).length),(12,dN i)]
section
variable{fs:List Fn}{W:List AV}{pts:List Pt}{g:Gv}{x4:Nat}{x5 x6 x7:AV}(hW:qP W)(h5:XS x5)(h6:XS x6)(h7:XS x7)(i:Nat)
include hW h5 h6 h7
theorem Td(t:Bool)(hi:decide (i<(fs.map cW).length)=t):RE 69 S9 (rc fs i) (iS fs W pts g x4 x5 x6 x7 ++fZ) .normal (rc fs i ++[(13,dB t)]) (iS fs W pts g x4 x5 x6 x7 ++fZ):=
 dX aD named {hint:=qT 27 [(13,jO Pg i (fs.map cW).length t hi)]} 2000 27 599000 69 1000000 ([]) (BX rfl rfl rfl rfl rfl (eX hW rfl h5 h6 h7) (eX hW rfl h5 h6 h7) rfl rfl) (by kernel_rfl) (by kernel_rfl) (fun _=>by kernel_rfl)
variable(nm:List UInt8)(ps:List Pm)(res:Int)(bd:List bu)(p:Int)(hx:fs[i]? =some ⟨nm,ps,res,bd,p⟩)
include hx
theorem TM:RE 69 Ta (rc fs i ++[(13,dB true)]) (iS fs W pts g x4 x5 x6 x7 ++fZ) .normal (rc fs i ++[(2,dN i),(3, .ptr 600003 1 0 0 1)]) (iS fs W pts g x4 x5 x6 x7 ++fB nm ps res bd p):=
 dX aD named {hint:=qT 27 [(15,AJ Pg fs i _ hx)]} 2000 27 599793 69 1000000 ([]) (BX rfl rfl rfl rfl rfl (eX hW rfl h5 h6 h7) (eX hW rfl h5 h6 h7) rfl rfl) (by kernel_rfl) (by kernel_rfl) (fun _=>by kernel_rfl)
omit hx in
theorem TN:RE 69 Tb (rc fs i ++[(2,dN i),(3, .ptr 600003 1 0 0 1)]) (iS fs W pts g x4 x5 x6 x7 ++fB nm ps res bd p) .normal (rc fs i ++[(3, .ptr 600003 1 0 0 1)]) (IO fs W pts g i ++fB nm ps res bd p):=
 dX aD named {} 2000 27 599000 69 1000000 ([(500000,524290098181),(500000,524291146758),(500000,524292195335)]) (BX rfl rfl rfl rfl rfl (eX hW rfl h5 h6 h7) (IP hW rfl) rfl rfl) (by kernel_rfl) (by kernel_rfl) (fun _=>by kernel_rfl)
end
end Go.Avm
namespace Go.Avm
open Go.Proofs
def bS(fs:List Fn)(W:List AV)(pts:List Pt)(g:Gv)(i:Nat):CK:=⟨fs,i,W,0,⟨[],[],⟨[],0⟩,pts⟩,g.vh+1,g.vs+1,g.vq+1,g.vp,g.vv+1⟩
theorem TO{X:ce}{env:Nat→AV}(fs:List Fn)(W:List AV)(pts:List Pt)(g:Gv)(i:Nat)(ee:aN)(hi:W[i]? =some .nils)(rest:ab):Weak X ⟨env,al (IO fs W pts g i ++[(600003,ee)]) rest⟩ ⟨env,al (ck (bS fs W pts g i) ++[(600003,ee)]) rest⟩:=by
 have w:=ke (X:=X) (env:=env) (h:=al (IO fs W pts g i ++[(600003,ee)]) rest) (C:=500191) (K:=500005) (a:=i) (sz:=4) (ces:=W) (by decide) (by simp[al,aM]) hi;refine w.trans (jK fun k=> ?_);have e:(al (IO fs W pts g i ++[(600003,ee)]) rest 500005).ver=g.vv:=by simp[al,aM]
 have e2:(al (IO fs W pts g i ++[(600003,ee)]) rest 500191).ver=1:=by simp[al,aM]
 rw[e,e2];simp only[IO,ck,BG,bS,lG,List.map_nil,List.length_nil,kD,gF,cB,bc,List.cons_append,List.nil_append,al,aM];by_cases h0:k=500000
 ·subst h0;simp
 by_cases h1:k=499904
 ·subst h1;simp
 by_cases h2:k=500002
 ·subst h2;simp
 by_cases h3:k=500003
 ·subst h3;simp
 by_cases h4:k=500004
 ·subst h4;simp
 by_cases h5:k=500005
 ·subst h5;simp
 by_cases h6:k=500382
 ·subst h6;simp
 by_cases h7:k=500191
 ·subst h7;simp
 by_cases h8:k=600003
 ·subst h8;simp
 simp only[h0,h1,h2,h3,h4,h5,h6,h7,h8,if_false];simp
theorem FH(n:Nat)(h:ab):∀r:List D,fI (view (n+1) h) (r.map .d)=some (r,[])
 |[]=>rfl
 |x::r=>by
  rw[List.map_cons,fI,FH n h r];rfl
theorem tB{h:ab}{K v sz n:Nat}{ds:List D}(hk:h K=⟨v,some (.arr sz (ds.map .d))⟩):view (n+2) h (.sl K v 0 ds.length sz)=some (.ro ds,[K]):=by
 unfold view;simp only[hk,true_and,List.length_map,Nat.zero_add,Nat.le_refl,if_true,List.drop_zero];rw[List.take_of_length_le (by simp),FH];rfl
def AL(vs:List Vr):AV:= .d (.ro (vs.map q5))
theorem TP{X:ce}{env:Nat→AV}(S:CK)(h0:S.deep=0)(hi:S.fn<S.W.length)(ee:aN)(rest:ab):Weak X ⟨env,al (ck S ++[(600003,ee)]) rest⟩ ⟨env,al (iS S.fs (S.W.set S.fn (AL S.c.vars)) S.c.pts ⟨S.vh,S.vs,S.vq,S.vv+1,S.vp⟩ S.fn (.mp 500002 S.vh) (.mp 500003 S.vs) (.mp 500004 S.vq) ++[(600003,ee)]) rest⟩:=by
 have ev:S.c.vars.map zv=(S.c.vars.map q5).map .d:=by simp[zv]
 have hl:S.c.vars.length=(S.c.vars.map q5).length:=by simp
 have w:=gQ (X:=X) (env:=env) (h:=al (ck S ++[(600003,ee)]) rest) (C:=500191) (a:=S.fn) (n:=2) (ces:=S.W.set S.fn (lG S.vv S.c.vars)) (x:=lG S.vv S.c.vars) (d:= .ro (S.c.vars.map q5)) (ks:=[500005]) (by decide) (by simp[al,aM]) (by simp[hi]) rfl (by
  unfold lG;rw[hl];exact tB (n:=0) (by rw[←ev];simp[al,aM]))
 refine w.trans (jK fun k=> ?_);have e2:(al (ck S ++[(600003,ee)]) rest 500191).ver=1:=by simp[al,aM]
 rw[e2,List.set_set]
 have e3:∀k,aM (aq (al (ck S ++[(600003,ee)]) rest) (kill (al (ck S ++[(600003,ee)]) rest) [500005])) 500191 ⟨1,some (.arr 1 (S.W.set S.fn (.d (.ro (S.c.vars.map q5)))))⟩ k=if k=500191 then ⟨1,some (.arr 1 (S.W.set S.fn (.d (.ro (S.c.vars.map q5)))))⟩else if k=500005 then ⟨S.vv+1,none⟩else al (ck S ++[(600003,ee)]) rest k:=fun k=>by
  simp only[aM];split
  ·rfl
  ·rw[bz]
   simp only[List.mem_singleton];split
   ·rename_i h5
    subst h5;simp[al,aM]
   ·rfl
 rw[e3];simp only[iS,ck,BG,h0,AL,List.cons_append,List.nil_append,al,aM];by_cases h0:k=500000
 ·subst h0;simp
 by_cases h1:k=499904
 ·subst h1;simp
 by_cases h2:k=500002
 ·subst h2;simp
 by_cases h3:k=500003
 ·subst h3;simp
 by_cases h4:k=500004
 ·subst h4;simp
 by_cases h5:k=500005
 ·subst h5;simp
 by_cases h6:k=500382
 ·subst h6;simp
 by_cases h7:k=500191
 ·subst h7;simp
 by_cases h8:k=600003
 ·subst h8;simp
 simp only[h0,h1,h2,h3,h4,h5,h6,h7,h8,if_false];simp
noncomputable def Rb{S:CK}{fs:List Fn}{i:Nat}{nm:List UInt8}{ps:List Pm}{res:Int}{bd:List bu}{p:Int}{x:aG}{l':List (Nat×AV)}{hp':List (Nat×aN)}(h:RL 69 (lO 27 5) (Ki fs i ps 0) (ck S ++fB nm ps res bd p) x l' hp'):d7 Pg:=
 ⟨69,bO Pg 27 5,Ki fs i ps 0,fun _=>ck S ++fB nm ps res bd p,x,l',fun _=>hp',fun rest X hP hN=>(h rest X hP hN).aw⟩
abbrev Rd(S S':CK)(l:List bu):Prop:=HC 49 [aI, .d (.ro (ep l))] (ck S) [] (ck S')
section
variable{S S':CK}(h:CKok S)(fs:List Fn)(i:Nat)(nm:List UInt8)(ps:List Pm)(res:Int)(bd:List bu)(p:Int)
include h
theorem TT(h':CKok S')(c:∀(rest:ab)(X:ce),X.P=Pg→X.N=69→LW X (lO 27 5) ⟨an (Ki fs i ps 0),al (ck S ++fB nm ps res bd p) rest⟩ fun e' S2=>e'= .exit 2∧S2=⟨an (FD fs i),al (ck S' ++fB nm ps res bd p) rest⟩):
    ∀(rest:ab)(X:ce),X.P=Pg→X.N=69→AW X Tc ⟨an (rc fs i ++[(3, .ptr 600003 1 0 0 1)]),al (ck S ++fB nm ps res bd p) rest⟩ fun e' S2=>e'= .normal∧S2=⟨an (FD fs i),al (ck S' ++fB nm ps res bd p) rest⟩:=
 dX aD named ({loops:=fun f q=>if f=27 then (if q=5 then some (Rb c)else none)else none}) 2000 27 599000 69 1000000 ([]) (gG h h' rfl rfl rfl rfl rfl rfl) (by kernel_rfl) (by kernel_rfl) (fun _=>by kernel_rfl)
theorem Re(g:Gv)(q e:Int)(c:HX 49 [aI, .d (.ro (ep bd))] (ck S) (aH q e) (cv g)):
    ∀(rest:ab)(X:ce),X.P=Pg→X.N=69→AW X Mc ⟨an (FD fs i),al (ck S ++fB nm ps res bd p) rest⟩ fun e' S2=>e'= .panic (aH q e)∧S2=⟨an [],al (cv g ++fG) rest⟩:=
 dX aD named {pans:=au Pg [(27,9,599000,⟨3,some (bi c),[]⟩)]} 2000 27 599000 69 1000000 ([]) (lI h rfl rfl rfl rfl rfl rfl) (by kernel_rfl) (by kernel_rfl) (fun _=>by kernel_rfl)
variable(h':CKok S')(c:Rd S S' bd)
include h' c
theorem Rf(h0:(res==0)=true):∀(rest:ab)(X:ce),X.P=Pg→X.N=69→AW X Mc ⟨an (FD fs i),al (ck S ++fB nm ps res bd p) rest⟩ fun e' S2=>e'= .normal∧S2=⟨an (rc fs i),al (ck S' ++fG) rest⟩:=
 dX aD named {hint:=qT 27 [(59,qB h0)],calls:=tC [(27,56,599207,af c),(27,67,599690,bh rfl (aP p 12))]} 2000 27 599000 69 1000000 ([]) (gG h h' rfl rfl rfl rfl rfl rfl) (by kernel_rfl) (by kernel_rfl) (fun _=>by kernel_rfl)
theorem Rg(h0:(res==0)=false)(ee:js bd true):∀(rest:ab)(X:ce),X.P=Pg→X.N=69→AW X Mc ⟨an (FD fs i),al (ck S ++fB nm ps res bd p) rest⟩ fun e' S2=>e'= .normal∧S2=⟨an (rc fs i),al (ck S' ++fG) rest⟩:=
 dX aD named {hint:=qT 27 [(59,qB h0)],calls:=tC [(27,56,599207,af c),(27,63,599621,bh rfl ee),(27,67,599828,bh rfl (aP p 12))]} 2000 27 599000 69 1000000 ([]) (gG h h' rfl rfl rfl rfl rfl rfl) (by kernel_rfl) (by kernel_rfl) (fun _=>by kernel_rfl)
theorem Rh(h0:(res==0)=false)(ee:js bd false):∀(rest:ab)(X:ce),X.P=Pg→X.N=69→AW X Mc ⟨an (FD fs i),al (ck S ++fB nm ps res bd p) rest⟩ fun e' S2=>e'= .panic (aH p 12)∧S2=⟨an [],al (cv S'.gv ++fG) rest⟩:=
 dX aD named {hint:=qT 27 [(59,qB h0)],calls:=tC [(27,56,599207,af c),(27,63,599621,bh rfl ee)],pans:=au Pg [(27,10,599207,⟨10,some (bi (bU p 12)),[]⟩)]} 2000 27 599000 69 1000000 ([]) (lI h rfl rfl rfl rfl rfl rfl) (by kernel_rfl) (by kernel_rfl) (fun _=>by kernel_rfl)
end
theorem Ri{fs:List Fn}{W:List AV}{pts:List Pt}{g:Gv}{x4:Nat}{x5 x6 x7:AV}(hW:qP W)(h5:XS x5)(h6:XS x6)(h7:XS x7)(i:Nat)(hi:i<1000000):RE 69 Md (rc fs i) (iS fs W pts g x4 x5 x6 x7 ++fG) .normal (rc fs (i+1)) (iS fs W pts g x4 x5 x6 x7 ++fG):=
 dX aD named {hint:=qT 27 [(68,dk Pg i (by omega))]} 2000 27 599000 69 1000000 ([]) (BX rfl rfl rfl rfl rfl (eX hW rfl h5 h6 h7) (eX hW rfl h5 h6 h7) rfl rfl) (by kernel_rfl) (by kernel_rfl) (fun _=>by kernel_rfl)
end Go.Avm
namespace Go.Avm
open Go.Proofs
structure FI(fs:List Fn)(m:Nat):Prop where
 len:fs.length<1000000
 par:∀f∈fs,f.ps.length≤6
 nod:∀f∈fs,(f.ps.map (·.nm)).Nodup
 nml:∀f∈fs,∀p∈f.ps,p.nm.length≤1000000
 sh:∀f∈fs,jr m f.bd
 m:m<1000000
theorem BZ:∀{m:Nat}{l:List bu},jr m l→l.length<1000000∧∀x∈l,mN x
 |0,_,h=>h.elim
 |_+1,_,h=>⟨h.1,fun x hx=>by
  have h2:=h.2 x hx;obtain⟨k,id,nm,ty,n,p,es,bd,el⟩:=x;exact J7 h2.1 h2.2⟩
theorem Kl{fs:List Fn}{m:Nat}(ok:FI fs m){W:List AV}{pts:List Pt}{g:Gv}{i:Nat}(hi:i<fs.length)(hl:W.length=fs.length)(hW:qP W)(hp:pts.length<1000000000):CKok (bS fs W pts g i) where
 fn:=hi
 W:=hl
 dat:=hW
 len:=ok.len
 par:=ok.par
 vars:=Nat.zero_le _
 seen:=fun p hp=>by cases hp
 inc:=List.Pairwise.nil
 nms:=List.nodup_nil
 nml:=fun p hp=>by cases hp
 had:=fun p hp=>by cases hp
 sk:=List.nodup_nil
 sb:=List.nodup_nil
 sc:=fun p hp=>by cases hp
 sv:=fun p hp=>by cases hp
 pts:=hp
theorem wV{B ex:List (Nat×aN)}(hB:B.map (·.1)=Kk)(R:ab)(k:Nat)(hk:k∈Kk):al (B ++ex) R k=al B (al (B ++ex) R) k:=by
 have h1:al (B ++ex) R k=al B (al ex R) k:=by rw[lJ R]
 rw[h1];exact gB B _ _ (by rw[hB];exact hk)
theorem FJ{k:Nat}(hk:1000000≤k):k∉Kk:=fun h=>by
 simp only[Kk,List.mem_cons,List.not_mem_nil,or_false]at h;omega
theorem rh{A B ex:List (Nat×aN)}(hA:A.map (·.1)=Kk)(hB:B.map (·.1)=Kk)(hx:ex.map (·.1)=[600003])(R:ab)(k:Nat)(hk:1000000≤k):al (B ++ex) R k=al A R k:=by
 rw[lJ R,b6 B _ (by rw[hB];exact FJ hk),b6 A _ (by rw[hA];exact FJ hk),b6 ex _ (by rw[hx,List.mem_singleton];omega)]
theorem gT(A:List (Nat×aN))(rest:ab):al (A ++fZ) (eO 1000000 rest)=al A (eO 1000000 rest):=by
 rw[lJ rest];congr 1;funext k;simp only[fZ,al,aM];by_cases h:k=600003
 ·subst h
  rfl
 ·rw[if_neg h]
def Me(fs:List Fn)(W:List AV)(pts:List Pt)(g:Gv)(x4:Nat)(x5 x6 x7:AV)(i:Nat):TR (List Vr×List Pt)→Prop
 | .ok q=>q.2.length<1000000000∧∃g':Gv,RE 69 bB (rc fs i) (iS fs W pts g x4 x5 x6 x7) .normal (rc fs (i+1)) (iS fs (W.set i (AL q.1)) q.2 g' i (.mp 500002 g'.vh) (.mp 500003 g'.vs) (.mp 500004 g'.vq))
 | .bad p e=>∃g':Gv,RE 69 bB (rc fs i) (iS fs W pts g x4 x5 x6 x7) (.panic (aH p e)) [] (cv g')
 | .out=>True
theorem cd(v:Nat):XS (.mp 500002 v):=fun ρ h _ _=>by simp only[aR,h]
theorem Rj(v:Nat):XS (.mp 500003 v):=fun ρ _ h _=>by simp only[aR,h]
theorem Rk(v:Nat):XS (.mp 500004 v):=fun ρ _ _ h=>by simp only[aR,h]
theorem FK{W:List AV}(h:qP W)(i:Nat)(vs:List Vr):qP (W.set i (AL vs)):=fun x hx=>by
 rcases List.mem_or_eq_of_mem_set hx with hx|rfl
 ·exact h x hx
 ·exact .inr ⟨_,rfl⟩
section
variable{fs:List Fn}{m:Nat}(ok:FI fs m){W:List AV}(hl:W.length=fs.length)(hW:qP W){pts:List Pt}(hp:pts.length<1000000000)(g:Gv)(x4:Nat){x5 x6 x7:AV}(h5:XS x5)(h6:XS x6)(h7:XS x7){i:Nat}
include ok hl hW hp h5 h6 h7
theorem Mf{nm:List UInt8}{ps:List Pm}{res:Int}{bd:List bu}{p:Int}(hx:fs[i]? =some ⟨nm,ps,res,bd,p⟩)(hn:W[i]? =some .nils){S1:CK}(k1:CKok S1)
    (c5:∀(rest:ab)(X:ce),X.P=Pg→X.N=69→LW X (lO 27 5) ⟨an (Ki fs i ps 0),al (ck (bS fs W pts g i) ++fB nm ps res bd p) rest⟩ fun e' S2=>e'= .exit 2∧S2=⟨an (FD fs i),al (ck S1 ++fB nm ps res bd p) rest⟩)
    (Q:aG→St→Prop) (R:ab) (X:ce) (hP:X.P=Pg) (hN:X.N=69) (hc:AW X Mc ⟨an (FD fs i),al (ck S1 ++fB nm ps res bd p) R⟩ (sq 1 (Bl (fun S'=>AW X Md S' Q) Q))):
    AW X bB ⟨an (rc fs i),al (iS fs W pts g x4 x5 x6 x7 ++fZ) R⟩ Q:=by
 have hi:i<fs.length:=(List.getElem?_eq_some_iff.1 hx).1;rw[yQ];refine dU ((Td hW h5 h6 h7 i true (by simpa using hi) R X hP hN).mono ?_);rintro _ _ ⟨rfl,rfl⟩;refine dU (gJ (b:=true) rfl (fun _=>nU ?_) (fun h=>by cases h));refine dU (iJ (dU ((TM hW h5 h6 h7 i nm ps res bd p hx R X hP hN).mono ?_)));rintro _ _ ⟨rfl,rfl⟩;refine dU ((TN hW h5 h6 h7 i nm ps res bd p R X hP hN).mono ?_);rintro _ _ ⟨rfl,rfl⟩;refine AW.weak (TO fs W pts g i _ hn R) (dU ((TT (Kl ok hi hl hW hp) fs i nm ps res bd p k1 c5 R X hP hN).mono ?_));rintro _ _ ⟨rfl,rfl⟩;exact hc
theorem Mg{f:Fn}(hx:fs[i]? =some f)(hn:W[i]? =some .nils):Me fs W pts g x4 x5 x6 x7 i (ff fs i f pts):=by
 have hi:i<fs.length:=(List.getElem?_eq_some_iff.1 hx).1;have hf:f∈fs:=List.mem_of_getElem? hx;have g1:=ok.nod f hf;have g2:=ok.par f hf;have g3:=ok.nml f hf;have g4:=ok.sh f hf;have hm:=ok.m;have h0:=Kl ok (g:=g) hi hl hW hp;obtain⟨nm,ps,res,bd,p⟩:=f;simp only at g1 g2 g3 g4;obtain⟨S1,nx1,c5⟩:=Kj (fs:=fs) i nm ps res bd p g1 g2 g3 _ 0 (bS fs W pts g i) rfl (Nat.zero_le _) h0 rfl;rw[List.drop_zero]at nx1;have a1:At ⟨fs,i,0⟩ S1:=⟨nx1.ok,nx1.fs,nx1.fn,nx1.deep⟩
 have cb:=Fg (BZ g4).1 (AK m ⟨fs,i,0⟩ bd g4 (by simp) (by simp only;omega)) (BZ g4).2 S1 a1;rw[nx1.c]at cb;have ee:=tc m bd g4;have ch:=fun Q R X hP hN hc=>Mf ok hl hW hp g x4 h5 h6 h7 (i:=i) hx hn nx1.ok c5 Q R X hP hN hc
 unfold ff;show Me _ _ _ _ _ _ _ _ _ ((dQ ⟨fs,i,0⟩ bd (ps.foldl CS.par ⟨[],[],⟨[],0⟩,pts⟩)).bind fun c=>bif res==0||cU bd then .ok (c.vars,c.pts)else .bad p 12);have ec:(bS fs W pts g i).c=⟨[],[],⟨[],0⟩,pts⟩:=rfl;rw[ec]at cb;revert cb;cases dQ ⟨fs,i,0⟩ bd (ps.foldl CS.par ⟨[],[],⟨[],0⟩,pts⟩)with
 |out=>exact fun _=>trivial
 |bad q e=>
  rintro⟨g',c⟩;refine⟨g',oK (M:=1000000) (N:=69) (l':=[]) ⟨rfl,rfl,rfl,rfl,eX hW rfl h5 h6 h7,rfl⟩ rfl rfl fun rest X hP hN=> ?_⟩;rw[←gT];refine ch _ _ X hP hN ((Re nx1.ok fs i nm ps res bd p g' q e c _ X hP hN).mono ?_);rintro _ _ ⟨rfl,rfl⟩;exact⟨rfl,rfl,fun k hk=>wV rfl _ k hk,fun k hk=>(rh (A:=iS fs W pts g x4 x5 x6 x7) rfl rfl rfl _ k hk).trans (congrFun (gT _ rest).symm k)⟩
 |ok c=>
  rintro⟨S2,nx2,c2⟩;have e1:S2.fs=fs:=nx2.fs.trans nx1.fs;have e2:S2.fn=i:=nx2.fn.trans nx1.fn;have e3:S2.deep=0:=nx2.deep.trans nx1.deep;have e4:S2.W=W:=nx2.W.trans nx1.W;have e5:S2.c=c:=nx2.c
  have good:(RE 69 Mc (FD fs i) (ck S1 ++fB nm ps res bd p) .normal (rc fs i) (ck S2 ++fG))→Me fs W pts g x4 x5 x6 x7 i (.ok (c.vars,c.pts)):=fun c9=>by
   refine⟨by rw[←e5];exact nx2.ok.pts,⟨S2.vh,S2.vs,S2.vq,S2.vv+1,S2.vp⟩,oK (M:=1000000) (N:=69) ⟨rfl,rfl,rfl,rfl,eX hW rfl h5 h6 h7,eX (FK hW i _) rfl (cd _) (Rj _) (Rk _)⟩ rfl rfl fun rest X hP hN=> ?_⟩;rw[←gT];refine ch _ _ X hP hN ((c9 _ X hP hN).mono ?_);rintro _ _ ⟨rfl,rfl⟩;have w:=TP (X:=X) (env:=an (rc fs i)) S2 e3 (by rw[e2,e4,hl];exact hi) ⟨1,none⟩ (eO 1000000 rest);rw[e1,e2,e4,e5]at w;refine AW.weak w ((Ri (FK hW i _) (cd _) (Rj _) (Rk _) i (by have:=ok.len;omega) _ X hP hN).mono ?_);rintro _ _ ⟨rfl,rfl⟩;exact⟨rfl,rfl,fun k hk=>wV rfl _ k hk,fun k hk=>(rh (A:=iS fs W pts g x4 x5 x6 x7) rfl rfl rfl _ k hk).trans (congrFun (gT _ rest).symm k)⟩
  simp only[TR.bind];cases hr:(res==0)with
  |true=>exact good (Rf nx1.ok fs i nm ps res bd p nx2.ok c2 hr)
  |false=>
   unfold mO at ee;revert ee;cases cU bd with
   |true=>exact fun ee=>good (Rg nx1.ok fs i nm ps res bd p nx2.ok c2 hr ee)
   |false=>
    intro ee;simp only[Bool.or_self,cond_false];refine⟨S2.gv,oK (M:=1000000) (N:=69) (l':=[]) ⟨rfl,rfl,rfl,rfl,eX hW rfl h5 h6 h7,rfl⟩ rfl rfl fun rest X hP hN=> ?_⟩;rw[←gT];refine ch _ _ X hP hN ((Rh nx1.ok fs i nm ps res bd p nx2.ok c2 hr ee _ X hP hN).mono ?_);rintro _ _ ⟨rfl,rfl⟩;exact⟨rfl,rfl,fun k hk=>wV rfl _ k hk,fun k hk=>(rh (A:=iS fs W pts g x4 x5 x6 x7) rfl rfl rfl _ k hk).trans (congrFun (gT _ rest).symm k)⟩
end
def gp(rows:List (List Vr))(n:Nat):List AV:=rows.map AL ++List.replicate (n-rows.length) .nils
theorem Dk{rows:List (List Vr)}{n:Nat}(h:rows.length≤n):(gp rows n).length=n:=by
 simp only[gp,List.length_append,List.length_map,List.length_replicate];omega
theorem jQ(rows:List (List Vr))(n:Nat):qP (gp rows n):=fun x hx=>by
 rcases List.mem_append.1 hx with hx|hx
 ·obtain⟨r,_,rfl⟩:=List.mem_map.1 hx
  exact .inr ⟨_,rfl⟩
 ·exact .inl (List.eq_of_mem_replicate hx)
theorem Dl{rows:List (List Vr)}{n:Nat}(h:rows.length<n):(gp rows n)[rows.length]? =some .nils:=by
 unfold gp;rw[List.getElem?_append_right (by simp),List.length_map,Nat.sub_self,List.getElem?_replicate,if_pos (by omega)]
theorem Dm{rows:List (List Vr)}{n:Nat}(h:rows.length<n)(r:List Vr):(gp rows n).set rows.length (AL r)=gp (rows ++[r]) n:=by
 unfold gp;rw[List.set_append_right _ _ (by simp),List.length_map,Nat.sub_self,List.map_append,List.append_assoc];congr 1;obtain⟨k,hk⟩:∃k,n-rows.length=k+1:=⟨n-rows.length-1,by omega⟩
 rw[hk,List.replicate_succ,List.set_cons_zero,List.length_append,List.length_singleton,show n-(rows.length+1)=k by omega];rfl
def OK(fs:List Fn)(W:List AV)(pts:List Pt)(g:Gv)(x4:Nat)(x5 x6 x7:AV)(i:Nat):TR (List (List Vr)×List Pt)→Prop
 | .ok q=>q.2.length<1000000000∧q.1.length=fs.length∧∃(g':Gv)(y4:Nat)(y5 y6 y7:AV),XS y5∧XS y6∧XS y7∧RL 69 bB (rc fs i) (iS fs W pts g x4 x5 x6 x7) (.exit 0) [(0,aI)] (iS fs (gp q.1 fs.length) q.2 g' y4 y5 y6 y7)
 | .bad p e=>∃g':Gv,RL 69 bB (rc fs i) (iS fs W pts g x4 x5 x6 x7) (.panic (aH p e)) [] (cv g')
 | .out=>True
theorem OL{fs:List Fn}{W:List AV}{pts:List Pt}{g:Gv}{x4:Nat}{x5 x6 x7:AV}(hW:qP W)(h5:XS x5)(h6:XS x6)(h7:XS x7)(rest:ab)(X:ce)(hP:X.P=Pg)(hN:X.N=69):AW X bB ⟨an (rc fs fs.length),al (iS fs W pts g x4 x5 x6 x7) rest⟩ fun e' S'=>e'= .exit 0∧S'=⟨an [(0,aI)],al (iS fs W pts g x4 x5 x6 x7) rest⟩:=by
 refine oK (M:=1000000) (N:=69) ⟨rfl,rfl,rfl,rfl,eX hW rfl h5 h6 h7,eX hW rfl h5 h6 h7⟩ rfl rfl (fun rest X hP hN=> ?_) rest X hP hN;rw[←gT,yQ];refine dU ((Td hW h5 h6 h7 fs.length false (by simp) _ X hP hN).mono ?_);rintro _ _ ⟨rfl,rfl⟩;refine dU (gJ (b:=false) rfl (fun h=>by cases h) (fun _=>mb (qU ⟨⟨an [(0,aI)],al (iS fs W pts g x4 x5 x6 x7 ++fZ) (eO 1000000 rest)⟩, ?_,rfl,rfl,fun k hk=>wV rfl _ k hk,fun k hk=>(rh (A:=iS fs W pts g x4 x5 x6 x7) rfl rfl rfl _ k hk).trans (congrFun (gT _ rest).symm k)⟩)))
 exact oJ (fun q hq=>by
  rw[List.mem_singleton]at hq;subst hq;rfl) rfl
theorem Km{fs:List Fn}{m:Nat}(ok:FI fs m):∀(mt pre:List Fn)(rows:List (List Vr))(pts:List Pt)(g:Gv)(x4:Nat)(x5 x6 x7:AV),fs=pre ++mt→rows.length=pre.length→pts.length<1000000000→XS x5→XS x6→XS x7→
    OK fs (gp rows fs.length) pts g x4 x5 x6 x7 pre.length (bp fs pre.length mt rows pts)
 |[],pre,rows,pts,g,x4,x5,x6,x7,h,hr,hp,h5,h6,h7=>by
  have:fs=pre:=by rw[h,List.append_nil]
  subst this;exact⟨hp,hr,g,x4,x5,x6,x7,h5,h6,h7,fun rest X hP hN=>aY (OL (jQ _ _) h5 h6 h7 rest X hP hN) (by simp)⟩
 |f::mt,pre,rows,pts,g,x4,x5,x6,x7,h,hr,hp,h5,h6,h7=>by
  have hlt:pre.length<fs.length:=by rw[h];simp
  have hx:fs[pre.length]? =some f:=by rw[h];simp
  have c:=Mg ok (Dk (by omega)) (jQ rows fs.length) hp g x4 h5 h6 h7 hx (by rw[←hr];exact Dl (by omega));simp only[bp];revert c;cases ff fs pre.length f pts with
  |out=>exact fun _=>trivial
  |bad p e=>exact fun ⟨g',c⟩=>⟨g',fun rest X hP hN=>aY (c rest X hP hN) (by simp)⟩
  |ok q=>
   rintro⟨hq,g',c⟩
   have e1:(gp rows fs.length).set pre.length (AL q.1)=gp (rows ++[q.1]) fs.length:=by
    rw[←hr];exact Dm (by omega) q.1
   rw[e1]at c;have ih:=Km ok mt (pre ++[f]) (rows ++[q.1]) q.2 g' pre.length (.mp 500002 g'.vh) (.mp 500003 g'.vs) (.mp 500004 g'.vq) (by rw[h];simp) (by simp[hr]) hq (cd _) (Rj _) (Rk _);have e2:(pre ++[f]).length=pre.length+1:=by simp
   rw[e2]at ih;simp only[TR.bind];revert ih;cases bp fs (pre.length+1) mt (rows ++[q.1]) q.2 with
   |out=>exact fun _=>trivial
   |bad p e=>exact fun ⟨g2,ih⟩=>⟨g2,fun rest X hP hN=>ba (c rest X hP hN) (ih rest X hP hN)⟩
   |ok r=>exact fun ⟨i1,i2,g2,y4,y5,y6,y7,z5,z6,z7,ih⟩=>⟨i1,i2,g2,y4,y5,y6,y7,z5,z6,z7,fun rest X hP hN=>ba (c rest X hP hN) (ih rest X hP hN)⟩
end Go.Avm
namespace Go.Avm
open Go.Proofs
noncomputable def OM{fs:List Fn}{W:List AV}{pts:List Pt}{g:Gv}{x4:Nat}{x5 x6 x7:AV}{x:aG}{l':List (Nat×AV)}{hp':List (Nat×aN)}(h:RL 69 bB (rc fs 0) (iS fs W pts g x4 x5 x6 x7) x l' hp'):d7 Pg:=
 ⟨69,bB,rc fs 0,fun _=>iS fs W pts g x4 x5 x6 x7,x,l',fun _=>hp',fun rest X hP hN=>(h rest X hP hN).aw⟩
section
variable{fs:List Fn}{W W':List AV}(hW:qP W)(hW':qP W'){pts pts':List Pt}{g g':Gv}{x4 y4:Nat}{x5 x6 x7 y5 y6 y7:AV}(h5:XS x5)(h6:XS x6)(h7:XS x7)(z5:XS y5)(z6:XS y6)(z7:XS y7)
include hW h5 h6 h7
theorem Dn(p e:Int)(c:RL 69 bB (rc fs 0) (iS fs W pts g x4 x5 x6 x7) (.panic (aH p e)) [] (cv g')):HX 27 [aI] (iS fs W pts g x4 x5 x6 x7) (aH p e) (cv g'):=
 ae aD named ({loops:=fun f q=>if f=27 then (if q=1 then some (OM c)else none)else none}) 2000 2000 _ 1000000 (⟨rfl,rfl,rfl,rfl,eX hW rfl h5 h6 h7,rfl⟩) (by kernel_rfl) (fun _=>by kernel_rfl)
include hW' z5 z6 z7
theorem FL(c:RL 69 bB (rc fs 0) (iS fs W pts g x4 x5 x6 x7) (.exit 0) [(0,aI)] (iS fs W' pts' g' y4 y5 y6 y7)):HC 27 [aI] (iS fs W pts g x4 x5 x6 x7) [] (iS fs W' pts' g' y4 y5 y6 y7):=
 ag aD named ({loops:=fun f q=>if f=27 then (if q=1 then some (OM c)else none)else none}) 2000 2000 _ 1000000 (⟨rfl,rfl,rfl,rfl,eX hW rfl h5 h6 h7,eX hW' rfl z5 z6 z7⟩) (fun _=>by kernel_rfl)
end
def cf(rows:List (List Vr)):List D:=rows.map fun vs=> .ro (vs.map q5)
def iU(pts:List Pt):List D:=pts.map ED
abbrev Rm(fs:List Fn)(rows:List (List Vr))(pts:List Pt)(g:Gv)(x4:Nat)(x5 x6 x7:AV):List (Nat×aN):=
 [(500000,⟨1,some (.arr 1 [.mp 499904 1, .d (.ro (fs.map cW)), .d (.ro (cf rows)), .d (.ro (iU pts)),dN x4,x5,x6,x7,dI 0])⟩),(499904,⟨1,none⟩),(500002,⟨g.vh,none⟩),(500003,⟨g.vs,none⟩),(500004,⟨g.vq,none⟩),(500005,⟨g.vv,none⟩),(500382,⟨g.vp+1,none⟩),(500191,⟨2,none⟩)]
theorem FM{X:ce}{env:Nat→AV}(fs:List Fn)(rows:List (List Vr))(hr:rows.length=fs.length)(pts:List Pt)(g:Gv)(x4:Nat)(x5 x6 x7:AV)(rest:ab):Weak X ⟨env,al (iS fs (gp rows fs.length) pts g x4 x5 x6 x7) rest⟩ ⟨env,al (Rm fs rows pts g x4 x5 x6 x7) rest⟩:=by
 have e1:gp rows fs.length=(cf rows).map .d:=by
  unfold gp cf;rw[hr,Nat.sub_self,List.replicate_zero,List.append_nil,List.map_map];rfl
 have l1:fs.length=(cf rows).length:=by rw[←hr];simp[cf]
 have l2:pts.length=(iU pts).length:=by simp[iU]
 have e2:pts.map ct=(iU pts).map .d:=by simp[iU,ct]
 rw[e1]
 have w1:=gQ (X:=X) (env:=env) (h:=al (iS fs ((cf rows).map .d) pts g x4 x5 x6 x7) rest) (C:=500000) (a:=2) (n:=2) (ces:=[.mp 499904 1, .d (.ro (fs.map cW)), .sl 500191 1 0 fs.length 1, .sl 500382 g.vp 0 pts.length 3,dN x4,x5,x6,x7,dI 0]) (x:= .sl 500191 1 0 fs.length 1) (d:= .ro (cf rows)) (ks:=[500191]) (by decide) (by simp[al,aM]) rfl rfl (by
  rw[l1];exact tB (n:=0) (by simp[al,aM]))
 refine w1.trans ?_
 have h2:∀k,aM (aq (al (iS fs ((cf rows).map .d) pts g x4 x5 x6 x7) rest) (kill (al (iS fs ((cf rows).map .d) pts g x4 x5 x6 x7) rest) [500191])) 500000 ⟨(al (iS fs ((cf rows).map .d) pts g x4 x5 x6 x7) rest 500000).ver,some (.arr 1 (List.set [.mp 499904 1, .d (.ro (fs.map cW)), .sl 500191 1 0 fs.length 1, .sl 500382 g.vp 0 pts.length 3,dN x4,x5,x6,x7,dI 0] 2 (.d (.ro (cf rows)))))⟩ k=if k=500000 then ⟨1,some (.arr 1 [.mp 499904 1, .d (.ro (fs.map cW)), .d (.ro (cf rows)), .sl 500382 g.vp 0 pts.length 3,dN x4,x5,x6,x7,dI 0])⟩else if k=500191 then ⟨2,none⟩else al (iS fs ((cf rows).map .d) pts g x4 x5 x6 x7) rest k:=fun k=>by
  simp only[aM];split
  ·simp[al,aM]
  ·rw[bz]
   simp only[List.mem_singleton];split
   ·rename_i h5
    subst h5;simp[al,aM]
   ·rfl
 rw[show(aM (aq (al (iS fs ((cf rows).map .d) pts g x4 x5 x6 x7) rest) (kill (al (iS fs ((cf rows).map .d) pts g x4 x5 x6 x7) rest) [500191])) 500000 ⟨(al (iS fs ((cf rows).map .d) pts g x4 x5 x6 x7) rest 500000).ver,some (.arr 1 (List.set [.mp 499904 1, .d (.ro (fs.map cW)), .sl 500191 1 0 fs.length 1, .sl 500382 g.vp 0 pts.length 3,dN x4,x5,x6,x7,dI 0] 2 (.d (.ro (cf rows)))))⟩)=_ from funext h2];generalize hh:(fun k=>if k=500000 then (⟨1,some (.arr 1 [.mp 499904 1, .d (.ro (fs.map cW)), .d (.ro (cf rows)), .sl 500382 g.vp 0 pts.length 3,dN x4,x5,x6,x7,dI 0])⟩:aN)else if k=500191 then ⟨2,none⟩else al (iS fs ((cf rows).map .d) pts g x4 x5 x6 x7) rest k)=H
 have w2:=gQ (X:=X) (env:=env) (h:=H) (C:=500000) (a:=3) (n:=2) (ces:=[.mp 499904 1, .d (.ro (fs.map cW)), .d (.ro (cf rows)), .sl 500382 g.vp 0 pts.length 3,dN x4,x5,x6,x7,dI 0]) (x:= .sl 500382 g.vp 0 pts.length 3) (d:= .ro (iU pts)) (ks:=[500382]) (by decide) (by rw[←hh];simp) rfl rfl (by
  rw[l2];exact tB (n:=0) (by rw[←hh];simp[al,aM,e2]))
 refine w2.trans (jK fun k=> ?_)
 have h3:aM (aq H (kill H [500382])) 500000 ⟨(H 500000).ver,some (.arr 1 (List.set [.mp 499904 1, .d (.ro (fs.map cW)), .d (.ro (cf rows)), .sl 500382 g.vp 0 pts.length 3,dN x4,x5,x6,x7,dI 0] 3 (.d (.ro (iU pts)))))⟩ k=if k=500000 then ⟨1,some (.arr 1 [.mp 499904 1, .d (.ro (fs.map cW)), .d (.ro (cf rows)), .d (.ro (iU pts)),dN x4,x5,x6,x7,dI 0])⟩else if k=500382 then ⟨g.vp+1,none⟩else H k:=by
  simp only[aM];split
  ·rw[←hh];simp
  ·rw[bz]
   simp only[List.mem_singleton];split
   ·rename_i h5
    subst h5;rw[←hh];simp[al,aM]
   ·rfl
 rw[h3,←hh];simp only[Rm,iS,al,aM];by_cases h0:k=500000
 ·subst h0;simp
 by_cases h1:k=499904
 ·subst h1;simp
 by_cases h2:k=500002
 ·subst h2;simp
 by_cases h3:k=500003
 ·subst h3;simp
 by_cases h4:k=500004
 ·subst h4;simp
 by_cases h5:k=500005
 ·subst h5;simp
 by_cases h6:k=500382
 ·subst h6;simp
 by_cases h7:k=500191
 ·subst h7;simp
 simp only[h0,h1,h2,h3,h4,h5,h6,h7,if_false];simp
theorem IR{G:Gh}{B:Nat}{w0 w:World}{I0:Nat→Nat→Prop}{h:ab}(hr:HR G B w0 I0 h w){K:Nat}{x:D}(hK:(h K).ob=some (.arr 3 [.agg [.d x, .nils, .nils]])):HR G B w0 I0 (aM h K ⟨(h K).ver,some (.arr 3 [.d (.agg [x, .ro [], .ro []])])⟩) w:=by
 refine hr.reob ?_ rfl;rcases hr.objs K _ hK with ⟨h0,_⟩|⟨L,hL,g1,g2,g3,g4,g6,g5⟩
 ·cases h0
 refine .inr ⟨L,hL,g1,g2,g3,fun e he=>by rw[List.mem_singleton]at he;subst he;rfl,(fun h=>absurd h (by decide)),fun t c ht=> ?_⟩;match t,ht with
 |0,ht=>
  cases ht;exact g5 0 (.d x) rfl
 |1,ht=>
  cases ht;obtain⟨u,hu,h1,hr⟩:=g5 1 .nils rfl;refine⟨u,hu,h1, ?_⟩;cases hr;exact .d (.roNil _ _)
 |2,ht=>
  cases ht;obtain⟨u,hu,h1,hr⟩:=g5 2 .nils rfl;refine⟨u,hu,h1, ?_⟩;cases hr;exact .d (.roNil _ _)
theorem Dp{X:ce}{env:Nat→AV}{h:ab}{K:Nat}{x:D}(hK:(h K).ob=some (.arr 3 [.agg [.d x, .nils, .nils]])):Weak X ⟨env,h⟩ ⟨env,aM h K ⟨(h K).ver,some (.arr 3 [.d (.agg [x, .ro [], .ro []])])⟩⟩:=fun G ac w ⟨hr,bs,hf,hs⟩=>⟨G,Ext.refl G w,IR hr hK,bs,hf,hs⟩
theorem FN{P:Program}(hm:g0 P){h h1:ab}(hw:∀(X:ce)(env:Nat→AV),Weak X ⟨env,h⟩ ⟨env,h1⟩){G:Gh}{B:Nat}{w0 w:World}{I0:Nat→Nat→Prop}(hr:HR G B w0 I0 h w):∃G',Ext G w G' w∧HR G' B w0 I0 h1 w:=by
 let X:ce:={P:=P,B:=B,w0:=w0,I0:=I0,N:=0,mixed:=hm}
 obtain⟨G2,e4,e5,_⟩:=hw X (fun _=> .junk) G {tmps:= #[],defers:=[]} w ⟨hr,[],⟨rfl,rfl,fun t ht=>absurd ht (by simp[X]),fun _ _=>rfl⟩,⟨List.nodup_nil,fun b hb=>by simp at hb,fun b hb=>by simp at hb,fun l hl=>by simp[X]at hl,Nat.zero_le _⟩⟩;exact⟨G2,e4,e5⟩
theorem Dq{P:Program}(hm:g0 P){f:Nat}{args rs:List AV}{h h1 h2:ab}(hc:ay P f args h1 rs h2)(hw:∀(X:ce)(env:Nat→AV),Weak X ⟨env,h⟩ ⟨env,h1⟩):ay P f args h rs h2:=
 ⟨hc.1,fun G B w0 I0 w cargs hr hs hargs=>by
  obtain⟨G2,e4,e5⟩:=FN hm hw hr;exact(hc.2 G2 B w0 I0 w cargs e5 hs (fun i x u hx hu=>(hargs i x u hx hu).mono e4)).mono fun _ _ ⟨v,G',a1,a2,a3,a4⟩=>⟨v,G',a1,e4.trans a2,a3,a4⟩⟩
theorem yR{P:Program}(hm:g0 P){f:Nat}{args:List AV}{x:AV}{h h1 h2:ab}(hc:iY P f args h1 x h2)(hw:∀(X:ce)(env:Nat→AV),Weak X ⟨env,h⟩ ⟨env,h1⟩):iY P f args h x h2:=
 ⟨hc.1,fun G B w0 I0 w cargs hr hs hargs=>by
  obtain⟨G2,e4,e5⟩:=FN hm hw hr;exact(hc.2 G2 B w0 I0 w cargs e5 hs (fun i x u hx hu=>(hargs i x u hx hu).mono e4)).mono fun _ _ ⟨v,G',a1,a2,a3,a4⟩=>⟨v,G',a1,e4.trans a2,a3,a4⟩⟩
abbrev Ko(fs:List Fn):List (Nat×aN):=
 [(500000,⟨1,some (.arr 1 [.mp 499904 1, .d (.ro (fs.map cW)), .sl 500191 1 0 (fs.map cW).length 1, .sl 500382 1 0 1 3,dI 0, .junk, .junk, .junk,dI 0])⟩),(499904,⟨1,some (.map [] 0)⟩),(500382,⟨1,some (.arr 3 [.agg [dI 0, .nils, .nils]])⟩),(500191,⟨1,some (.arr 1 (List.replicate (fs.map cW).length .nils))⟩)]
theorem tE(fs:List Fn)(rest:ab)(X:ce)(env:Nat→AV):Weak X ⟨env,al (Ko fs) rest⟩ ⟨env,al (fS fs [] 0 .junk) rest⟩:=by
 have w:=Dp (X:=X) (env:=env) (h:=al (Ko fs) rest) (K:=500382) (x:= .int .i64 0) (by simp[al,aM])
 have e:aM (al (Ko fs) rest) 500382 ⟨(al (Ko fs) rest 500382).ver,some (.arr 3 [.d (.agg [.int .i64 0, .ro [], .ro []])])⟩=al (fS fs [] 0 .junk) rest:=by
  funext k;have e2:(al (Ko fs) rest 500382).ver=1:=by simp[al,aM]
  rw[e2];simp only[Ko,fS,List.length_map,al,aM];by_cases h0:k=500382
  ·subst h0;rfl
  ·simp only[h0,if_false]
 rw[e]at w;exact w
abbrev yS(rows:List (List Vr))(pts:List Pt):D:= .agg [.ro (cf rows), .ro (iU pts)]
def Rn(P:Program)(fs:List Fn)(h:fs.length<1000000):bZ P:= .mk ((fs.map cW).length:Int) (by omega) (by rw[List.length_map];omega)
section
variable{fs:List Fn}(hl:fs.length<1000000)
include hl
theorem Te(p e:Int)(c:HX 26 [aI] (Ko fs) (aH p e) zy):aK Pg 13 [.agg [.ro (fs.map cW)]] [.agg [.ro [], .ro []], .int .i64 p, .int .i64 e]:=
 qV {hint:=qT 13 [(14,Rn Pg fs hl)],pans:=au Pg [(13,5,500518,⟨1,some (bi c),[]⟩)]} 499774
variable(c:HC 26 [aI] (Ko fs) [] (fS fs (kD 0 fs) fs.length .junk))
include c
theorem TU(p e:Int)(g:Gv)(c2:HX 27 [aI] (iS fs (gp [] fs.length) [dx] ⟨0,0,0,0,1⟩ 0 .junk .junk .junk) (aH p e) (cv g)):aK Pg 13 [.agg [.ro (fs.map cW)]] [.agg [.ro [], .ro []], .int .i64 p, .int .i64 e]:=
 qV {hint:=qT 13 [(14,Rn Pg fs hl)],calls:=tC [(13,24,500549,af c)],pans:=au Pg [(13,6,500549,⟨1,some (bi c2),[]⟩)]} 499774
theorem TV(rows:List (List Vr))(pts:List Pt)(g:Gv)(x4:Nat)(x5 x6 x7:AV)(c2:HC 27 [aI] (iS fs (gp [] fs.length) [dx] ⟨0,0,0,0,1⟩ 0 .junk .junk .junk) [] (Rm fs rows pts g x4 x5 x6 x7)):aK Pg 13 [.agg [.ro (fs.map cW)]] [yS rows pts, .int .i64 0, .int .i64 0]:=
 qV {hint:=qT 13 [(14,Rn Pg fs hl)],calls:=tC [(13,24,500549,af c),(13,26,500580,af c2)]} 499774
end
def B0:TR (List (List Vr)×List Pt)→List D
 | .ok q=>[yS q.1 q.2, .int .i64 0, .int .i64 0]
 | .bad p e=>[.agg [.ro [], .ro []], .int .i64 p, .int .i64 e]
 | .out=>[]
theorem IS:XS .junk:=fun _ _ _ _=>rfl
theorem Mh{fs:List Fn}{m:Nat}(ok:FI fs m)(hn:bI fs≠ .out):aK Pg 13 [.agg [.ro (fs.map cW)]] (B0 (bI fs)):=by
 have ch:=FC (fs:=fs) (nn:= .junk) (fun _=>rfl) ok.len;unfold bI at hn ⊢;revert ch hn;cases di fs with
 |out=>exact fun hn _=>absurd rfl hn
 |bad p e=>
  intro _ ch;simp only[Qq]at ch;exact Te ok.len p e fun rest=>yR aD (ch rest) (tE fs rest)
 |ok _=>
  intro hn ch;simp only[Qq]at ch;have ch:=fun rest=>Dq aD (ch rest) (tE fs rest)
  have cb:=Km ok fs [] [] [dx] ⟨0,0,0,0,1⟩ 0 .junk .junk .junk rfl rfl (by simp) IS IS IS;simp only[TR.bind]at hn ⊢;revert cb hn;show bp fs 0 fs [] [dx]≠ .out→OK fs (gp [] fs.length) [dx] ⟨0,0,0,0,1⟩ 0 .junk .junk .junk 0 (bp fs 0 fs [] [dx])→_;cases bp fs 0 fs [] [dx]with
  |out=>exact fun hn _=>absurd rfl hn
  |bad p e=>exact fun _ ⟨g,c2⟩=>TU ok.len ch p e g (Dn (jQ _ _) IS IS IS p e c2)
  |ok q=>
   rintro _ ⟨hp,hr,g,y4,y5,y6,y7,z5,z6,z7,c2⟩;have c3:=FL (jQ _ _) (jQ _ _) IS IS IS z5 z6 z7 c2;exact TV ok.len ch q.1 q.2 g y4 y5 y6 y7 fun rest=>tw aD (c3 rest) fun X env=>FM fs q.1 hr q.2 g y4 y5 y6 y7 rest
end Go.Avm
namespace Go.Avm
open Go.Proofs
section
variable{L:List T}{s:RS}(hi:s.i<L.length)
include hi
theorem br:HC 24 [rP] (rd L s) [tD (bt L s)] (rd L s):=
 qN {hint:=qT 24 [(11,QA Pg hi)]} 1000
theorem IT:HX 71 [rP] (rd L s) (dE (bt L s).p 4) (rd L s):=
 qX {calls:=tC [(71,3,1007,af (br hi))],pans:=au Pg [(71,0,1000,⟨5,none,[]⟩)]} 1000
theorem TW(x:List UInt8)(h1:((bt L s).k==2)=true):HC 70 [rP, .d (.str x)] (rd L s) [.bool ((bt L s).t==x)] (rd L s):=
 qN {hint:=qT 70 [(10,qB h1)],calls:=tC [(70,7,1044,af (br hi))]} 1000
theorem TY(x:List UInt8)(h1:((bt L s).k==2)=false)(h2:((bt L s).k==4)=true):HC 70 [rP, .d (.str x)] (rd L s) [.bool ((bt L s).t==x)] (rd L s):=
 qN {hint:=qT 70 [(10,qB h1),(14,qB h2)],calls:=tC [(70,7,1044,af (br hi))]} 1000
theorem TZ(x:List UInt8)(h1:((bt L s).k==2)=false)(h2:((bt L s).k==4)=false):HC 70 [rP, .d (.str x)] (rd L s) [.bool false] (rd L s):=
 qN {hint:=qT 70 [(10,qB h1),(14,qB h2)],calls:=tC [(70,7,1044,af (br hi))]} 1000
theorem AM(x:List UInt8):HC 70 [rP, .d (.str x)] (rd L s) [.bool (isT L s x)] (rd L s):=by
 unfold isT;cases h1:((bt L s).k==2)with
 |true=>exact TW hi x h1
 |false=>cases h2:((bt L s).k==4)with
  |true=>exact TY hi x h1 h2
  |false=>exact TZ hi x h1 h2
theorem ON(hL:dF L)(k:Int)(h:(bt L s).k=k):HC 41 [rP, .d (.int .u8 k)] (rd L s) [tD (bt L s)] (rd L s.nx):=
 qN {hint:=qT 41 [(11,hB Pg ((bt L s).k !=k) false (by simp[h])),(18,dk Pg s.i (by have:=hL.len;omega))],calls:=tC [(41,7,1044,af (br hi))]} 1000
theorem OO(k:Int)(h:(bt L s).k≠k):HX 41 [rP, .d (.int .u8 k)] (rd L s) (dE (bt L s).p 4) (rd L s):=
 qX {hint:=qT 41 [(11,hB Pg ((bt L s).k !=k) true (by simpa using h))],calls:=tC [(41,7,1044,af (br hi))],pans:=au Pg [(41,3,1176,⟨1,some (bi (IT hi)),[]⟩)]} 1000
theorem ql(hL:dF L)(k:Int)(hk:k≠0):RC L 41 [rP, .d (.int .u8 k)] (fun t=>[tD t]) s (dt L k s):=by
 unfold dt;cases h:((bt L s).k==k)with
 |true=>
  have h:=eq_of_beq h;exact⟨BE hL hi (by rw[h];exact hk),ON hi hL k h⟩
 |false=>
  exact OO hi k (by simpa using h)
theorem OP(x:List UInt8)(h:isT L s x=false):HX 40 [rP, .d (.str x)] (rd L s) (dE (bt L s).p 4) (rd L s):=
 qX {hint:=qT 40 [(9,hB Pg (!isT L s x) true (by simp[h]))],calls:=tC [(40,8,1162,af (AM hi x))],pans:=au Pg [(40,2,1216,⟨1,some (bi (IT hi)),[]⟩)]} 1000
theorem FO(hL:dF L)(x:List UInt8)(h:isT L s x=true)(h1:(x==[40])=false)(h2:(x==[91])=false)(h3:(x==[123])=false)(h4:(x==[41])=false)(h5:(x==[93])=false)(h6:(x==[125])=false):
    HC 40 [rP, .d (.str x)] (rd L s) [tD (bt L s)] (rd L s.nx):=
 qN {hint:=qT 40 [(9,hB Pg (!isT L s x) false (by simp[h])),(16,qB h1),(17,qB h2),(18,qB h3),(36,qB h4),(37,qB h5),(38,qB h6),(50,dk Pg s.i (by have:=hL.len;omega))],calls:=tC [(40,8,1162,af (AM hi x)),(40,13,1270,af (br hi))]} 1000
theorem IU(hL:dF L)(h:isT L s [40]=true)(hd:decide (200<dD (s.op+1))=false):
    HC 40 [rP, .d (.str [40])] (rd L s) [tD (bt L s)] (rd L ⟨s.i+1,dD (s.op+1),s.n⟩):=
 qN {hint:=qT 40 [(9,hB Pg (!isT L s [40]) false (by simp[h])),(30,qB hd),(50,dk Pg s.i (by have:=hL.len;omega))],calls:=tC [(40,8,1162,af (AM hi [40])),(40,13,1270,af (br hi))]} 1000
theorem IV(h:isT L s [40]=true)(hd:decide (200<dD (s.op+1))=true):
    HX 40 [rP, .d (.str [40])] (rd L s) (dE (bt L s).p 5) (rd L {s with op:=dD (s.op+1)}):=
 qX {hint:=qT 40 [(9,hB Pg (!isT L s [40]) false (by simp[h])),(30,qB hd)],calls:=tC [(40,8,1162,af (AM hi [40])),(40,13,1270,af (br hi))],pans:=au Pg [(40,10,2242,⟨4,none,[]⟩)]} 1000
theorem IW(hL:dF L)(h:isT L s [91]=true)(hd:decide (200<dD (s.op+1))=false):
    HC 40 [rP, .d (.str [91])] (rd L s) [tD (bt L s)] (rd L ⟨s.i+1,dD (s.op+1),s.n⟩):=
 qN {hint:=qT 40 [(9,hB Pg (!isT L s [91]) false (by simp[h])),(30,qB hd),(50,dk Pg s.i (by have:=hL.len;omega))],calls:=tC [(40,8,1162,af (AM hi [91])),(40,13,1270,af (br hi))]} 1000
theorem IX(h:isT L s [91]=true)(hd:decide (200<dD (s.op+1))=true):
    HX 40 [rP, .d (.str [91])] (rd L s) (dE (bt L s).p 5) (rd L {s with op:=dD (s.op+1)}):=
 qX {hint:=qT 40 [(9,hB Pg (!isT L s [91]) false (by simp[h])),(30,qB hd)],calls:=tC [(40,8,1162,af (AM hi [91])),(40,13,1270,af (br hi))],pans:=au Pg [(40,10,2350,⟨4,none,[]⟩)]} 1000
theorem FP(hL:dF L)(h:isT L s [123]=true)(hd:decide (200<dD (s.op+1))=false):
    HC 40 [rP, .d (.str [123])] (rd L s) [tD (bt L s)] (rd L ⟨s.i+1,dD (s.op+1),s.n⟩):=
 qN {hint:=qT 40 [(9,hB Pg (!isT L s [123]) false (by simp[h])),(30,qB hd),(50,dk Pg s.i (by have:=hL.len;omega))],calls:=tC [(40,8,1162,af (AM hi [123])),(40,13,1270,af (br hi))]} 1000
theorem FQ(h:isT L s [123]=true)(hd:decide (200<dD (s.op+1))=true):
    HX 40 [rP, .d (.str [123])] (rd L s) (dE (bt L s).p 5) (rd L {s with op:=dD (s.op+1)}):=
 qX {hint:=qT 40 [(9,hB Pg (!isT L s [123]) false (by simp[h])),(30,qB hd)],calls:=tC [(40,8,1162,af (AM hi [123])),(40,13,1270,af (br hi))],pans:=au Pg [(40,10,2458,⟨4,none,[]⟩)]} 1000
theorem IY(hL:dF L)(h:isT L s [41]=true):
    HC 40 [rP, .d (.str [41])] (rd L s) [tD (bt L s)] (rd L ⟨s.i+1,dD (s.op-1),s.n⟩):=
 qN {hint:=qT 40 [(9,hB Pg (!isT L s [41]) false (by simp[h])),(50,dk Pg s.i (by have:=hL.len;omega))],calls:=tC [(40,8,1162,af (AM hi [41])),(40,13,1270,af (br hi))]} 1000
theorem IZ(hL:dF L)(h:isT L s [93]=true):
    HC 40 [rP, .d (.str [93])] (rd L s) [tD (bt L s)] (rd L ⟨s.i+1,dD (s.op-1),s.n⟩):=
 qN {hint:=qT 40 [(9,hB Pg (!isT L s [93]) false (by simp[h])),(50,dk Pg s.i (by have:=hL.len;omega))],calls:=tC [(40,8,1162,af (AM hi [93])),(40,13,1270,af (br hi))]} 1000
theorem FS(hL:dF L)(h:isT L s [125]=true):
    HC 40 [rP, .d (.str [125])] (rd L s) [tD (bt L s)] (rd L ⟨s.i+1,dD (s.op-1),s.n⟩):=
 qN {hint:=qT 40 [(9,hB Pg (!isT L s [125]) false (by simp[h])),(50,dk Pg s.i (by have:=hL.len;omega))],calls:=tC [(40,8,1162,af (AM hi [125])),(40,13,1270,af (br hi))]} 1000
theorem cw(hL:dF L)(x:List UInt8):RC L 40 [rP, .d (.str x)] (fun t=>[tD t]) s (aE L x s):=by
 unfold aE;cases h:isT L s x with
 |false=>exact OP hi x h
 |true=>
  have hn:=wI hL hi h;simp only[cond_true];cases h1:(x==[40])with
  |true=>
   obtain rfl:x=[40]:=eq_of_beq h1;simp only[Bool.true_or,cond_true];cases hd:decide (200<dD (s.op+1))with
   |true=>exact IV hi h hd
   |false=>exact⟨hn,IU hi hL h hd⟩
  |false=>cases h2:(x==[91])with
  |true=>
   obtain rfl:x=[91]:=eq_of_beq h2;simp only[Bool.true_or,Bool.or_true,cond_true];cases hd:decide (200<dD (s.op+1))with
   |true=>exact IX hi h hd
   |false=>exact⟨hn,IW hi hL h hd⟩
  |false=>cases h3:(x==[123])with
  |true=>
   obtain rfl:x=[123]:=eq_of_beq h3;simp only[Bool.true_or,Bool.or_true,cond_true];cases hd:decide (200<dD (s.op+1))with
   |true=>exact FQ hi h hd
   |false=>exact⟨hn,FP hi hL h hd⟩
  |false=>cases h4:(x==[41])with
  |true=>
   obtain rfl:x=[41]:=eq_of_beq h4;exact⟨hn,IY hi hL h⟩
  |false=>cases h5:(x==[93])with
  |true=>
   obtain rfl:x=[93]:=eq_of_beq h5;exact⟨hn,IZ hi hL h⟩
  |false=>cases h6:(x==[125])with
  |true=>
   obtain rfl:x=[125]:=eq_of_beq h6;exact⟨hn,FS hi hL h⟩
  |false=>exact⟨hn,FO hi hL x h h1 h2 h3 h4 h5 h6⟩
theorem ah(x:List UInt8)(h:isT L s x=false):HC 45 [rP, .d (.str x)] (rd L s) [.bool false] (rd L s):=
 qN {hint:=qT 45 [(8,hB Pg (!isT L s x) true (by simp[h]))],calls:=tC [(45,7,1036,af (AM hi x))]} 1000
theorem mayT(x:List UInt8)(h:isT L s x=true)(t:T)(s':RS)(hw:HC 40 [rP, .d (.str x)] (rd L s) [tD t] (rd L s')):HC 45 [rP, .d (.str x)] (rd L s) [.bool true] (rd L s'):=
 qN {hint:=qT 45 [(8,hB Pg (!isT L s x) false (by simp[h]))],calls:=tC [(45,7,1036,af (AM hi x)),(45,11,1072,af hw)]} 1000
theorem Ro(x:List UInt8)(h:isT L s x=true)(p e:Int)(s':RS)(hw:HX 40 [rP, .d (.str x)] (rd L s) (dE p e) (rd L s')):HX 45 [rP, .d (.str x)] (rd L s) (dE p e) (rd L s'):=
 qX {hint:=qT 45 [(8,hB Pg (!isT L s x) false (by simp[h]))],calls:=tC [(45,7,1036,af (AM hi x))],pans:=au Pg [(45,3,1048,⟨2,some (bi hw),[]⟩)]} 1000
theorem OQ(hL:dF L)(x:List UInt8):RC L 45 [rP, .d (.str x)] (fun b=>[.bool b]) s (ci L x s):=by
 unfold ci;cases h:isT L s x with
 |false=>exact⟨hi,ah hi x h⟩
 |true=>
  simp only[cond_true];have hw:=cw hi hL x;revert hw;cases aE L x s with
  |ok t s'=>exact fun hw=>⟨hw.1,mayT hi x h t s' hw.2⟩
  |bad p e s'=>exact fun hw=>Ro hi x h p e s' hw
  |out=>exact fun _=>trivial
theorem aW(x:List UInt8){b:Bool}(h:isT L s x=b):HC 70 [rP, .d (.str x)] (rd L s) [.bool b] (rd L s):=h▸AM hi x
end
section
variable{L:List T}{F:Nat}{args:List AV}{s0:RS}{α β:Type}{g:α→List D}
theorem RC.bind{f':Nat}{args':List AV}{g':β→List D}{s:RS}{r:Res β}{k:β→RS→Res α}(h:RC L f' args' g' s r)
    (hb:∀p e s',(HX f' args' (rd L s) (dE p e) (rd L s'))→HX F args (rd L s0) (dE p e) (rd L s'))
    (hk:∀a s',s'.i<L.length→(HC f' args' (rd L s) (g' a) (rd L s'))→RC L F args g s0 (k a s')):RC L F args g s0 (r.bind k):=by
 cases r with
 |ok a s'=>exact hk a s' h.1 h.2
 |bad p e s'=>exact hb p e s' h
 |out=>trivial
theorem RC.may{s:RS}(hi:s.i<L.length)(hL:dF L)(x:List UInt8){X Y:RS→Res α}
    (hb:∀p e s',(HX 45 [rP, .d (.str x)] (rd L s) (dE p e) (rd L s'))→HX F args (rd L s0) (dE p e) (rd L s'))
    (hT:∀s',s'.i<L.length→(HC 45 [rP, .d (.str x)] (rd L s) [.bool true] (rd L s'))→RC L F args g s0 (X s'))
    (hF:isT L s x=false→RC L F args g s0 (Y s)):RC L F args g s0 ((ci L x s).bind fun b s1=>bif b then X s1 else Y s1):=by
 have h:=OQ hi hL x;revert h;unfold ci;cases hx:isT L s x with
 |false=>exact fun _=>hF hx
 |true=>
  simp only[cond_true];cases aE L x s with
  |ok t s'=>exact fun h=>hT s' h.1 h.2
  |bad p e s'=>exact fun h=>hb p e s' h
  |out=>exact fun _=>trivial
theorem RC.ite{c:Bool}{X Y:Res α}(hT:c=true→RC L F args g s0 X)(hF:c=false→RC L F args g s0 Y):RC L F args g s0 (bif c then X else Y):=by
 cases h:c with
 |true=>exact hT h
 |false=>exact hF h
end
end Go.Avm
namespace Go.Avm
open Go.Proofs
theorem Mi:aK Tryz.prog 89 [.int .u8 1] [.str [43], .int .i64 9]:=aL aD named (fun _ _=>false) (fun _=>false) 1000 (by kernel_rfl)
theorem Mj:aK Tryz.prog 89 [.int .u8 2] [.str [45], .int .i64 9]:=aL aD named (fun _ _=>false) (fun _=>false) 1000 (by kernel_rfl)
theorem Mk:aK Tryz.prog 89 [.int .u8 3] [.str [42], .int .i64 10]:=aL aD named (fun _ _=>false) (fun _=>false) 1000 (by kernel_rfl)
theorem Ml:aK Tryz.prog 89 [.int .u8 4] [.str [47], .int .i64 10]:=aL aD named (fun _ _=>false) (fun _=>false) 1000 (by kernel_rfl)
theorem Mm:aK Tryz.prog 89 [.int .u8 5] [.str [37], .int .i64 10]:=aL aD named (fun _ _=>false) (fun _=>false) 1000 (by kernel_rfl)
theorem Mn:aK Tryz.prog 89 [.int .u8 6] [.str [38], .int .i64 7]:=aL aD named (fun _ _=>false) (fun _=>false) 1000 (by kernel_rfl)
theorem Mo:aK Tryz.prog 89 [.int .u8 7] [.str [124], .int .i64 5]:=aL aD named (fun _ _=>false) (fun _=>false) 1000 (by kernel_rfl)
theorem Mp:aK Tryz.prog 89 [.int .u8 8] [.str [94], .int .i64 6]:=aL aD named (fun _ _=>false) (fun _=>false) 1000 (by kernel_rfl)
theorem Mq:aK Tryz.prog 89 [.int .u8 9] [.str [60,60], .int .i64 8]:=aL aD named (fun _ _=>false) (fun _=>false) 1000 (by kernel_rfl)
theorem FT:aK Tryz.prog 89 [.int .u8 10] [.str [62,62], .int .i64 8]:=aL aD named (fun _ _=>false) (fun _=>false) 1000 (by kernel_rfl)
theorem FU:aK Tryz.prog 89 [.int .u8 11] [.str [60], .int .i64 4]:=aL aD named (fun _ _=>false) (fun _=>false) 1000 (by kernel_rfl)
theorem FV:aK Tryz.prog 89 [.int .u8 12] [.str [60,61], .int .i64 4]:=aL aD named (fun _ _=>false) (fun _=>false) 1000 (by kernel_rfl)
theorem FW:aK Tryz.prog 89 [.int .u8 13] [.str [62], .int .i64 4]:=aL aD named (fun _ _=>false) (fun _=>false) 1000 (by kernel_rfl)
theorem FX:aK Tryz.prog 89 [.int .u8 14] [.str [62,61], .int .i64 4]:=aL aD named (fun _ _=>false) (fun _=>false) 1000 (by kernel_rfl)
theorem FY:aK Tryz.prog 89 [.int .u8 15] [.str [61,61], .int .i64 3]:=aL aD named (fun _ _=>false) (fun _=>false) 1000 (by kernel_rfl)
theorem FZ:aK Tryz.prog 89 [.int .u8 16] [.str [33,61], .int .i64 3]:=aL aD named (fun _ _=>false) (fun _=>false) 1000 (by kernel_rfl)
theorem F0:aK Tryz.prog 89 [.int .u8 17] [.str [38,38], .int .i64 2]:=aL aD named (fun _ _=>false) (fun _=>false) 1000 (by kernel_rfl)
theorem F1:aK Tryz.prog 89 [.int .u8 18] [.str [124,124], .int .i64 1]:=aL aD named (fun _ _=>false) (fun _=>false) 1000 (by kernel_rfl)
theorem cC:aK Tryz.prog 89 [.int .u8 19] [.str [45], .int .i64 11]:=aL aD named (fun _ _=>false) (fun _=>false) 1000 (by kernel_rfl)
theorem cV:aK Tryz.prog 89 [.int .u8 20] [.str [126], .int .i64 11]:=aL aD named (fun _ _=>false) (fun _=>false) 1000 (by kernel_rfl)
theorem dA:aK Tryz.prog 89 [.int .u8 21] [.str [33], .int .i64 11]:=aL aD named (fun _ _=>false) (fun _=>false) 1000 (by kernel_rfl)
end Go.Avm
namespace Go.Avm
open Go.Proofs
section
variable{L:List T}(hL:dF L)
include hL
theorem I1(n:Nat)(ih:∀s:RS,s.i<L.length→RC L 128 [rP] (fun e=>[fW e]) s (eP L n s))(ihE:∀(k:Int)(s:RS),s.i<L.length→RC L 100 [rP,dI k] (fun e=>[fW e]) s (bv L n k s))(ihP:∀s:RS,s.i<L.length→RC L 131 [rP] (fun e=>[fW e]) s (cP L n s))
    (ihC:∀(nm:List UInt8)(p:Int)(s:RS),s.i<L.length→RC L 130 [rP, .d (.str nm),dI p] (fun e=>[fW e]) s (du L n nm p s)) (s:RS) (l:s.i<L.length):RC L 128 [rP] (fun e=>[fW e]) s (eP L (n+1) s):=by
 simp only[eP];refine RC.may l hL [45] ?_ ?_ ?_
 ·exact fun _ _ _ c=>qX {hint:=qT 128 [(21, .call 89 _ _ cC)],calls:=tC [(128,12,1244,af (br l))],pans:=au Pg [(128,6,3074,⟨2,some (bi c),[]⟩)]} 1000
 ·intro s1 l1 c1
  refine RC.bind (ih _ l1) ?_ ?_
  ·exact fun _ _ _ c=>qX {hint:=qT 128 [(21, .call 89 _ _ cC)],calls:=tC [(128,12,1244,af (br l)),(128,26,3318,af c1)],pans:=au Pg [(128,7,3318,⟨4,some (bi c),[]⟩)]} 1000
  ·intro x s2 l2 c2
   obtain⟨k0,o0,nm0,n0,p0,as0⟩:=x;exact⟨l2,qN {hint:=qT 128 [(21, .call 89 _ _ cC)],calls:=tC [(128,12,1244,af (br l)),(128,26,3318,af c1),(128,31,3806,af c2)]} 1000⟩
 ·intro h1
  refine RC.may l hL [126] ?_ ?_ ?_
  ·exact fun _ _ _ c=>qX {hintB:=bn Pg [(128,21,2464, .call 89 _ _ cC),(128,21,4172, .call 89 _ _ cV)],calls:=tC [(128,12,1244,af (br l)),(128,26,3318,af (ah l [45] h1))],pans:=au Pg [(128,6,4782,⟨2,some (bi c),[]⟩)]} 1000
  ·intro s2 l2 c2
   refine RC.bind (ih _ l2) ?_ ?_
   ·exact fun _ _ _ c=>qX {hintB:=bn Pg [(128,21,2464, .call 89 _ _ cC),(128,21,4172, .call 89 _ _ cV)],calls:=tC [(128,12,1244,af (br l)),(128,26,3318,af (ah l [45] h1)),(128,26,5026,af c2)],pans:=au Pg [(128,7,5026,⟨4,some (bi c),[]⟩)]} 1000
   ·intro x s3 l3 c3
    obtain⟨k0,o0,nm0,n0,p0,as0⟩:=x;exact⟨l3,qN {hintB:=bn Pg [(128,21,2464, .call 89 _ _ cC),(128,21,4172, .call 89 _ _ cV)],calls:=tC [(128,12,1244,af (br l)),(128,26,3318,af (ah l [45] h1)),(128,26,5026,af c2),(128,31,5514,af c3)]} 1000⟩
  ·intro h2
   refine RC.may l hL [33] ?_ ?_ ?_
   ·exact fun _ _ _ c=>qX {hintB:=bn Pg [(128,21,2464, .call 89 _ _ cC),(128,21,4172, .call 89 _ _ cV),(128,21,5880, .call 89 _ _ dA)],calls:=tC [(128,12,1244,af (br l)),(128,26,3318,af (ah l [45] h1)),(128,26,5026,af (ah l [126] h2))],pans:=au Pg [(128,6,6490,⟨2,some (bi c),[]⟩)]} 1000
   ·intro s3 l3 c3
    refine RC.bind (ih _ l3) ?_ ?_
    ·exact fun _ _ _ c=>qX {hintB:=bn Pg [(128,21,2464, .call 89 _ _ cC),(128,21,4172, .call 89 _ _ cV),(128,21,5880, .call 89 _ _ dA)],calls:=tC [(128,12,1244,af (br l)),(128,26,3318,af (ah l [45] h1)),(128,26,5026,af (ah l [126] h2)),(128,26,6734,af c3)],pans:=au Pg [(128,7,6734,⟨4,some (bi c),[]⟩)]} 1000
    ·intro x s4 l4 c4
     obtain⟨k0,o0,nm0,n0,p0,as0⟩:=x;exact⟨l4,qN {hintB:=bn Pg [(128,21,2464, .call 89 _ _ cC),(128,21,4172, .call 89 _ _ cV),(128,21,5880, .call 89 _ _ dA)],calls:=tC [(128,12,1244,af (br l)),(128,26,3318,af (ah l [45] h1)),(128,26,5026,af (ah l [126] h2)),(128,26,6734,af c3),(128,31,7222,af c4)]} 1000⟩
   ·intro h3
    refine RC.ite (fun h4=> ?_) (fun h4=> ?_)
    ·
     have l5:s.nx.i<L.length:=BE hL l (by rw[eq_of_beq h4];decide);exact⟨l5,qN {hintB:=bn Pg [(128,21,2464, .call 89 _ _ cC),(128,21,4172, .call 89 _ _ cV),(128,21,5880, .call 89 _ _ dA),(128,38,7344,qB h4),(128,43,8076,dk Pg s.i (by have:=hL.len;omega))],calls:=tC [(128,12,1244,af (br l)),(128,26,3318,af (ah l [45] h1)),(128,26,5026,af (ah l [126] h2)),(128,26,6734,af (ah l [33] h3))]} 1000⟩
    ·
     refine RC.may l hL [116,114,117,101] ?_ ?_ ?_
     ·exact fun _ _ _ c=>qX {hintB:=bn Pg [(128,21,2464, .call 89 _ _ cC),(128,21,4172, .call 89 _ _ cV),(128,21,5880, .call 89 _ _ dA),(128,38,7344,qB h4)],calls:=tC [(128,12,1244,af (br l)),(128,26,3318,af (ah l [45] h1)),(128,26,5026,af (ah l [126] h2)),(128,26,6734,af (ah l [33] h3))],pans:=au Pg [(128,12,7588,⟨1,some (bi c),[]⟩)]} 1000
     ·intro s5 l5 c5
      exact⟨l5,qN {hintB:=bn Pg [(128,21,2464, .call 89 _ _ cC),(128,21,4172, .call 89 _ _ cV),(128,21,5880, .call 89 _ _ dA),(128,38,7344,qB h4)],calls:=tC [(128,12,1244,af (br l)),(128,26,3318,af (ah l [45] h1)),(128,26,5026,af (ah l [126] h2)),(128,26,6734,af (ah l [33] h3)),(128,53,7710,af c5)]} 1000⟩
     ·intro h5
      refine RC.may l hL [102,97,108,115,101] ?_ ?_ ?_
      ·exact fun _ _ _ c=>qX {hintB:=bn Pg [(128,21,2464, .call 89 _ _ cC),(128,21,4172, .call 89 _ _ cV),(128,21,5880, .call 89 _ _ dA),(128,38,7344,qB h4)],calls:=tC [(128,12,1244,af (br l)),(128,26,3318,af (ah l [45] h1)),(128,26,5026,af (ah l [126] h2)),(128,26,6734,af (ah l [33] h3)),(128,53,7710,af (ah l [116,114,117,101] h5))],pans:=au Pg [(128,14,7832,⟨1,some (bi c),[]⟩)]} 1000
      ·intro s6 l6 c6
       exact⟨l6,qN {hintB:=bn Pg [(128,21,2464, .call 89 _ _ cC),(128,21,4172, .call 89 _ _ cV),(128,21,5880, .call 89 _ _ dA),(128,38,7344,qB h4)],calls:=tC [(128,12,1244,af (br l)),(128,26,3318,af (ah l [45] h1)),(128,26,5026,af (ah l [126] h2)),(128,26,6734,af (ah l [33] h3)),(128,53,7710,af (ah l [116,114,117,101] h5)),(128,59,7954,af c6)]} 1000⟩
      ·intro h6
       refine RC.may l hL [114,101,97,100] ?_ ?_ ?_
       ·exact fun _ _ _ c=>qX {hintB:=bn Pg [(128,21,2464, .call 89 _ _ cC),(128,21,4172, .call 89 _ _ cV),(128,21,5880, .call 89 _ _ dA),(128,38,7344,qB h4)],calls:=tC [(128,12,1244,af (br l)),(128,26,3318,af (ah l [45] h1)),(128,26,5026,af (ah l [126] h2)),(128,26,6734,af (ah l [33] h3)),(128,53,7710,af (ah l [116,114,117,101] h5)),(128,59,7954,af (ah l [102,97,108,115,101] h6))],pans:=au Pg [(128,16,8076,⟨1,some (bi c),[]⟩)]} 1000
       ·intro s7 l7 c7
        refine RC.bind (cw l7 hL [40]) ?_ ?_
        ·exact fun _ _ _ c=>qX {hintB:=bn Pg [(128,21,2464, .call 89 _ _ cC),(128,21,4172, .call 89 _ _ cV),(128,21,5880, .call 89 _ _ dA),(128,38,7344,qB h4)],calls:=tC [(128,12,1244,af (br l)),(128,26,3318,af (ah l [45] h1)),(128,26,5026,af (ah l [126] h2)),(128,26,6734,af (ah l [33] h3)),(128,53,7710,af (ah l [116,114,117,101] h5)),(128,59,7954,af (ah l [102,97,108,115,101] h6)),(128,65,8198,af c7)],pans:=au Pg [(128,17,8320,⟨1,some (bi c),[]⟩)]} 1000
        ·intro _ s8 l8 c8
         refine RC.bind (cw l8 hL [41]) ?_ ?_
         ·exact fun _ _ _ c=>qX {hintB:=bn Pg [(128,21,2464, .call 89 _ _ cC),(128,21,4172, .call 89 _ _ cV),(128,21,5880, .call 89 _ _ dA),(128,38,7344,qB h4)],calls:=tC [(128,12,1244,af (br l)),(128,26,3318,af (ah l [45] h1)),(128,26,5026,af (ah l [126] h2)),(128,26,6734,af (ah l [33] h3)),(128,53,7710,af (ah l [116,114,117,101] h5)),(128,59,7954,af (ah l [102,97,108,115,101] h6)),(128,65,8198,af c7),(128,67,8442,af c8)],pans:=au Pg [(128,18,8442,⟨1,some (bi c),[]⟩)]} 1000
         ·intro _ s9 l9 c9
          exact⟨l9,qN {hintB:=bn Pg [(128,21,2464, .call 89 _ _ cC),(128,21,4172, .call 89 _ _ cV),(128,21,5880, .call 89 _ _ dA),(128,38,7344,qB h4)],calls:=tC [(128,12,1244,af (br l)),(128,26,3318,af (ah l [45] h1)),(128,26,5026,af (ah l [126] h2)),(128,26,6734,af (ah l [33] h3)),(128,53,7710,af (ah l [116,114,117,101] h5)),(128,59,7954,af (ah l [102,97,108,115,101] h6)),(128,65,8198,af c7),(128,67,8442,af c8),(128,69,8564,af c9)]} 1000⟩
       ·intro h7
        refine RC.may l hL [108,101,110] ?_ ?_ ?_
        ·exact fun _ _ _ c=>qX {hintB:=bn Pg [(128,21,2464, .call 89 _ _ cC),(128,21,4172, .call 89 _ _ cV),(128,21,5880, .call 89 _ _ dA),(128,38,7344,qB h4)],calls:=tC [(128,12,1244,af (br l)),(128,26,3318,af (ah l [45] h1)),(128,26,5026,af (ah l [126] h2)),(128,26,6734,af (ah l [33] h3)),(128,53,7710,af (ah l [116,114,117,101] h5)),(128,59,7954,af (ah l [102,97,108,115,101] h6)),(128,65,8198,af (ah l [114,101,97,100] h7))],pans:=au Pg [(128,20,8320,⟨1,some (bi c),[]⟩)]} 1000
        ·intro s8 l8 c8
         refine RC.bind (cw l8 hL [40]) ?_ ?_
         ·exact fun _ _ _ c=>qX {hintB:=bn Pg [(128,21,2464, .call 89 _ _ cC),(128,21,4172, .call 89 _ _ cV),(128,21,5880, .call 89 _ _ dA),(128,38,7344,qB h4)],calls:=tC [(128,12,1244,af (br l)),(128,26,3318,af (ah l [45] h1)),(128,26,5026,af (ah l [126] h2)),(128,26,6734,af (ah l [33] h3)),(128,53,7710,af (ah l [116,114,117,101] h5)),(128,59,7954,af (ah l [102,97,108,115,101] h6)),(128,65,8198,af (ah l [114,101,97,100] h7)),(128,75,8442,af c8)],pans:=au Pg [(128,21,8564,⟨1,some (bi c),[]⟩)]} 1000
         ·intro _ s9 l9 c9
          refine RC.bind (ql l9 hL 1 (by decide)) ?_ ?_
          ·exact fun _ _ _ c=>qX {hintB:=bn Pg [(128,21,2464, .call 89 _ _ cC),(128,21,4172, .call 89 _ _ cV),(128,21,5880, .call 89 _ _ dA),(128,38,7344,qB h4)],calls:=tC [(128,12,1244,af (br l)),(128,26,3318,af (ah l [45] h1)),(128,26,5026,af (ah l [126] h2)),(128,26,6734,af (ah l [33] h3)),(128,53,7710,af (ah l [116,114,117,101] h5)),(128,59,7954,af (ah l [102,97,108,115,101] h6)),(128,65,8198,af (ah l [114,101,97,100] h7)),(128,75,8442,af c8),(128,77,8686,af c9)],pans:=au Pg [(128,22,8686,⟨1,some (bi c),[]⟩)]} 1000
          ·intro t s10 l10 c10
           refine RC.bind (cw l10 hL [41]) ?_ ?_
           ·exact fun _ _ _ c=>qX {hintB:=bn Pg [(128,21,2464, .call 89 _ _ cC),(128,21,4172, .call 89 _ _ cV),(128,21,5880, .call 89 _ _ dA),(128,38,7344,qB h4)],calls:=tC [(128,12,1244,af (br l)),(128,26,3318,af (ah l [45] h1)),(128,26,5026,af (ah l [126] h2)),(128,26,6734,af (ah l [33] h3)),(128,53,7710,af (ah l [116,114,117,101] h5)),(128,59,7954,af (ah l [102,97,108,115,101] h6)),(128,65,8198,af (ah l [114,101,97,100] h7)),(128,75,8442,af c8),(128,77,8686,af c9),(128,79,8808,af c10)],pans:=au Pg [(128,23,9052,⟨1,some (bi c),[]⟩)]} 1000
           ·intro _ s11 l11 c11
            exact⟨l11,qN {hintB:=bn Pg [(128,21,2464, .call 89 _ _ cC),(128,21,4172, .call 89 _ _ cV),(128,21,5880, .call 89 _ _ dA),(128,38,7344,qB h4)],calls:=tC [(128,12,1244,af (br l)),(128,26,3318,af (ah l [45] h1)),(128,26,5026,af (ah l [126] h2)),(128,26,6734,af (ah l [33] h3)),(128,53,7710,af (ah l [116,114,117,101] h5)),(128,59,7954,af (ah l [102,97,108,115,101] h6)),(128,65,8198,af (ah l [114,101,97,100] h7)),(128,75,8442,af c8),(128,77,8686,af c9),(128,79,8808,af c10),(128,82,9174,af c11)]} 1000⟩
        ·intro h8
         refine RC.ite (fun h9=> ?_) (fun h9=> ?_)
         ·
          refine RC.bind (cw l hL [40]) ?_ ?_
          ·exact fun _ _ _ c=>qX {hintB:=bn Pg [(128,21,2464, .call 89 _ _ cC),(128,21,4172, .call 89 _ _ cV),(128,21,5880, .call 89 _ _ dA),(128,38,7344,qB h4)],calls:=tC [(128,12,1244,af (br l)),(128,26,3318,af (ah l [45] h1)),(128,26,5026,af (ah l [126] h2)),(128,26,6734,af (ah l [33] h3)),(128,53,7710,af (ah l [116,114,117,101] h5)),(128,59,7954,af (ah l [102,97,108,115,101] h6)),(128,65,8198,af (ah l [114,101,97,100] h7)),(128,75,8442,af (ah l [108,101,110] h8)),(128,89,8686,af (aW l [40] h9))],pans:=au Pg [(128,26,8808,⟨1,some (bi c),[]⟩)]} 1000
          ·intro _ s10 l10 c10
           refine RC.bind (ihE 1 _ l10) ?_ ?_
           ·exact fun _ _ _ c=>qX {hintB:=bn Pg [(128,21,2464, .call 89 _ _ cC),(128,21,4172, .call 89 _ _ cV),(128,21,5880, .call 89 _ _ dA),(128,38,7344,qB h4)],calls:=tC [(128,12,1244,af (br l)),(128,26,3318,af (ah l [45] h1)),(128,26,5026,af (ah l [126] h2)),(128,26,6734,af (ah l [33] h3)),(128,53,7710,af (ah l [116,114,117,101] h5)),(128,59,7954,af (ah l [102,97,108,115,101] h6)),(128,65,8198,af (ah l [114,101,97,100] h7)),(128,75,8442,af (ah l [108,101,110] h8)),(128,89,8686,af (aW l [40] h9)),(128,91,8930,af c10)],pans:=au Pg [(128,27,8930,⟨1,some (bi c),[]⟩)]} 1000
           ·intro x s11 l11 c11
            obtain⟨k0,o0,nm0,n0,p0,as0⟩:=x;refine RC.bind (cw l11 hL [41]) ?_ ?_
            ·exact fun _ _ _ c=>qX {hintB:=bn Pg [(128,21,2464, .call 89 _ _ cC),(128,21,4172, .call 89 _ _ cV),(128,21,5880, .call 89 _ _ dA),(128,38,7344,qB h4)],calls:=tC [(128,12,1244,af (br l)),(128,26,3318,af (ah l [45] h1)),(128,26,5026,af (ah l [126] h2)),(128,26,6734,af (ah l [33] h3)),(128,53,7710,af (ah l [116,114,117,101] h5)),(128,59,7954,af (ah l [102,97,108,115,101] h6)),(128,65,8198,af (ah l [114,101,97,100] h7)),(128,75,8442,af (ah l [108,101,110] h8)),(128,89,8686,af (aW l [40] h9)),(128,91,8930,af c10),(128,93,9052,af c11)],pans:=au Pg [(128,28,9296,⟨1,some (bi c),[]⟩)]} 1000
            ·intro _ s12 l12 c12
             exact⟨l12,qN {hintB:=bn Pg [(128,21,2464, .call 89 _ _ cC),(128,21,4172, .call 89 _ _ cV),(128,21,5880, .call 89 _ _ dA),(128,38,7344,qB h4)],calls:=tC [(128,12,1244,af (br l)),(128,26,3318,af (ah l [45] h1)),(128,26,5026,af (ah l [126] h2)),(128,26,6734,af (ah l [33] h3)),(128,53,7710,af (ah l [116,114,117,101] h5)),(128,59,7954,af (ah l [102,97,108,115,101] h6)),(128,65,8198,af (ah l [114,101,97,100] h7)),(128,75,8442,af (ah l [108,101,110] h8)),(128,89,8686,af (aW l [40] h9)),(128,91,8930,af c10),(128,93,9052,af c11),(128,95,9418,af c12)]} 1000⟩
         ·
          refine RC.bind (ql l hL 1 (by decide)) ?_ ?_
          ·exact fun _ _ _ c=>qX {hintB:=bn Pg [(128,21,2464, .call 89 _ _ cC),(128,21,4172, .call 89 _ _ cV),(128,21,5880, .call 89 _ _ dA),(128,38,7344,qB h4)],calls:=tC [(128,12,1244,af (br l)),(128,26,3318,af (ah l [45] h1)),(128,26,5026,af (ah l [126] h2)),(128,26,6734,af (ah l [33] h3)),(128,53,7710,af (ah l [116,114,117,101] h5)),(128,59,7954,af (ah l [102,97,108,115,101] h6)),(128,65,8198,af (ah l [114,101,97,100] h7)),(128,75,8442,af (ah l [108,101,110] h8)),(128,89,8686,af (aW l [40] h9))],pans:=au Pg [(128,30,8808,⟨1,some (bi c),[]⟩)]} 1000
          ·intro t s10 l10 c10
           refine RC.ite (fun h11=> ?_) (fun h11=> ?_)
           ·
            refine RC.bind (ihP _ l10) ?_ ?_
            ·exact fun _ _ _ c=>qX {hintB:=bn Pg [(128,21,2464, .call 89 _ _ cC),(128,21,4172, .call 89 _ _ cV),(128,21,5880, .call 89 _ _ dA),(128,38,7344,qB h4)],calls:=tC [(128,12,1244,af (br l)),(128,26,3318,af (ah l [45] h1)),(128,26,5026,af (ah l [126] h2)),(128,26,6734,af (ah l [33] h3)),(128,53,7710,af (ah l [116,114,117,101] h5)),(128,59,7954,af (ah l [102,97,108,115,101] h6)),(128,65,8198,af (ah l [114,101,97,100] h7)),(128,75,8442,af (ah l [108,101,110] h8)),(128,89,8686,af (aW l [40] h9)),(128,98,8930,af c10),(128,102,9296,af (aW l10 [91] h11))],pans:=au Pg [(128,32,9418,⟨4,some (bi c),[]⟩)]} 1000
            ·intro x s12 l12 c12
             obtain⟨k0,o0,nm0,n0,p0,as0⟩:=x;exact⟨l12,qN {hintB:=bn Pg [(128,21,2464, .call 89 _ _ cC),(128,21,4172, .call 89 _ _ cV),(128,21,5880, .call 89 _ _ dA),(128,38,7344,qB h4)],calls:=tC [(128,12,1244,af (br l)),(128,26,3318,af (ah l [45] h1)),(128,26,5026,af (ah l [126] h2)),(128,26,6734,af (ah l [33] h3)),(128,53,7710,af (ah l [116,114,117,101] h5)),(128,59,7954,af (ah l [102,97,108,115,101] h6)),(128,65,8198,af (ah l [114,101,97,100] h7)),(128,75,8442,af (ah l [108,101,110] h8)),(128,89,8686,af (aW l [40] h9)),(128,98,8930,af c10),(128,102,9296,af (aW l10 [91] h11)),(128,107,9906,af c12)]} 1000⟩
           ·
            refine RC.ite (fun h12=> ?_) (fun h12=> ?_)
            ·
             refine RC.bind (ihC t.t (bt L s).p _ l10) ?_ ?_
             ·exact fun _ _ _ c=>qX {hintB:=bn Pg [(128,21,2464, .call 89 _ _ cC),(128,21,4172, .call 89 _ _ cV),(128,21,5880, .call 89 _ _ dA),(128,38,7344,qB h4)],calls:=tC [(128,12,1244,af (br l)),(128,26,3318,af (ah l [45] h1)),(128,26,5026,af (ah l [126] h2)),(128,26,6734,af (ah l [33] h3)),(128,53,7710,af (ah l [116,114,117,101] h5)),(128,59,7954,af (ah l [102,97,108,115,101] h6)),(128,65,8198,af (ah l [114,101,97,100] h7)),(128,75,8442,af (ah l [108,101,110] h8)),(128,89,8686,af (aW l [40] h9)),(128,98,8930,af c10),(128,102,9296,af (aW l10 [91] h11)),(128,112,9540,af (aW l10 [40] h12))],pans:=au Pg [(128,34,9662,⟨4,some (bi c),[]⟩)]} 1000
             ·intro x s13 l13 c13
              obtain⟨k0,o0,nm0,n0,p0,as0⟩:=x;exact⟨l13,qN {hintB:=bn Pg [(128,21,2464, .call 89 _ _ cC),(128,21,4172, .call 89 _ _ cV),(128,21,5880, .call 89 _ _ dA),(128,38,7344,qB h4)],calls:=tC [(128,12,1244,af (br l)),(128,26,3318,af (ah l [45] h1)),(128,26,5026,af (ah l [126] h2)),(128,26,6734,af (ah l [33] h3)),(128,53,7710,af (ah l [116,114,117,101] h5)),(128,59,7954,af (ah l [102,97,108,115,101] h6)),(128,65,8198,af (ah l [114,101,97,100] h7)),(128,75,8442,af (ah l [108,101,110] h8)),(128,89,8686,af (aW l [40] h9)),(128,98,8930,af c10),(128,102,9296,af (aW l10 [91] h11)),(128,112,9540,af (aW l10 [40] h12)),(128,117,10150,af c13)]} 1000⟩
            ·
             exact⟨l10,qN {hintB:=bn Pg [(128,21,2464, .call 89 _ _ cC),(128,21,4172, .call 89 _ _ cV),(128,21,5880, .call 89 _ _ dA),(128,38,7344,qB h4)],calls:=tC [(128,12,1244,af (br l)),(128,26,3318,af (ah l [45] h1)),(128,26,5026,af (ah l [126] h2)),(128,26,6734,af (ah l [33] h3)),(128,53,7710,af (ah l [116,114,117,101] h5)),(128,59,7954,af (ah l [102,97,108,115,101] h6)),(128,65,8198,af (ah l [114,101,97,100] h7)),(128,75,8442,af (ah l [108,101,110] h8)),(128,89,8686,af (aW l [40] h9)),(128,98,8930,af c10),(128,102,9296,af (aW l10 [91] h11)),(128,112,9540,af (aW l10 [40] h12))]} 1000⟩
theorem Dr(n:Nat)(ihE:∀(k:Int)(s:RS),s.i<L.length→RC L 100 [rP,dI k] (fun e=>[fW e]) s (bv L n k s))(s:RS)(l:s.i<L.length):RC L 131 [rP] (fun e=>[fW e]) s (cP L (n+1) s):=by
 simp only[cP];refine RC.bind (cw l hL [91]) ?_ ?_
 ·exact fun _ _ _ c=>qX {pans:=au Pg [(131,1,1011,⟨1,some (bi c),[]⟩)]} 1000
 ·intro _ s1 l1 c1
  refine RC.bind (ihE 1 _ l1) ?_ ?_
  ·exact fun _ _ _ c=>qX {calls:=tC [(131,5,1022,af c1)],pans:=au Pg [(131,2,1022,⟨1,some (bi c),[]⟩)]} 1000
  ·intro x s2 l2 c2
   obtain⟨k0,o0,nm0,n0,p0,as0⟩:=x;refine RC.bind (cw l2 hL [93]) ?_ ?_
   ·exact fun _ _ _ c=>qX {calls:=tC [(131,5,1022,af c1),(131,7,1033,af c2)],pans:=au Pg [(131,3,1055,⟨1,some (bi c),[]⟩)]} 1000
   ·intro _ s3 l3 c3
    exact⟨l3,qN {calls:=tC [(131,5,1022,af c1),(131,7,1033,af c2),(131,9,1066,af c3)]} 1000⟩
end
end Go.Avm
namespace Go.Avm
open Go.Proofs
def u8(n:Int):AV:= .d (.int .u8 n)
def u3(r:Int×Int):aG×List (Nat×AV):=bif r.1==0 then (.exit 0,[])else (.ret,[(4,u8 r.1),(5,dI r.2)])
def yT(aa o:Int):List (Nat×AV):=[(0,rP),(1,dI aa),(6,u8 o)]
def Qs(L:List T)(s:RS)(aa o:Int)(e:aG)(l':List (Nat×AV)):Prop:=RE 28 (lO 129 2) (yT aa o) (rd L s) e l' (rd L s)
def F2(L:List T)(s:RS)(aa:Int)(o:Int)(r:Int×Int):Prop:=RL 28 (lO 129 2) (yT aa o) (rd L s) ((u3 r).1) ((u3 r).2) (rd L s)
theorem cR{L:List T}{s:RS}{aa o o2 k:Int}{x:List UInt8}{R:List (Int×List UInt8×Int)}(ho:(o==0)=false)(hA:decide (k≥aa)=false→Qs L s aa o .normal (yT aa o2))
    (hB:decide (k≥aa)=true→isT L s x=false→Qs L s aa o .normal (yT aa o2)) (hC:decide (k≥aa)=true→isT L s x=true→Qs L s aa o .ret [(4,u8 o),(5,dI k)])
    (hn:F2 L s aa o2 (eV L s aa R)):F2 L s aa o (eV L s aa ((o,x,k)::R)):=fun rest X hP hN=>by
 simp only[eV];cases h1:decide (k≥aa)with
 |false=>exact ba (hA h1 rest X hP hN) (hn rest X hP hN)
 |true=>cases h2:isT L s x with
  |false=>exact ba (hB h1 h2 rest X hP hN) (hn rest X hP hN)
  |true=>
   have:u3 (o,k)=(.ret,[(4,u8 o),(5,dI k)]):=by simp only[u3,ho,cond_false]
   simp only[Bool.and_true,cond_true,this];exact aY (hC h1 h2 rest X hP hN) (by simp)
section
variable{L:List T}{s:RS}(hi:s.i<L.length)(aa:Int)
include hi
theorem OR:Qs L s aa 19 (.exit 0) []:=
 fun rest X hP hN=>(qE {} 129 1000:RE 28 (lO 129 2) [(0,rP),(1,dI aa),(6,u8 19)] (rd L s) (.exit 0) [] (rd L s)) rest X hP hN
theorem Rp:F2 L s aa 19 (0,0):=fun rest X hP hN=>aY (OR hi aa rest X hP hN) (by simp[u3])
theorem Rq(h:decide ((9:Int)≥aa)=false):RE 28 (lO 129 2) [(0,rP),(1,dI aa),(6,u8 1)] (rd L s) .normal [(0,rP),(1,dI aa),(6,u8 2)] (rd L s):=
 qE {hint:=qT 129 [(15, .call 89 _ _ Mi),(20,qB h)]} 129 1000
theorem Rr(h:decide ((9:Int)≥aa)=true)(h2:isT L s [43]=false):RE 28 (lO 129 2) [(0,rP),(1,dI aa),(6,u8 1)] (rd L s) .normal [(0,rP),(1,dI aa),(6,u8 2)] (rd L s):=
 qE {hint:=qT 129 [(15, .call 89 _ _ Mi),(20,qB h)],calls:=tC [(129,24,1392,af (aW hi [43] h2))]} 129 1000
theorem Rs(h:decide ((9:Int)≥aa)=true)(h2:isT L s [43]=true):RE 28 (lO 129 2) [(0,rP),(1,dI aa),(6,u8 1)] (rd L s) .ret [(4,u8 1),(5,dI 9)] (rd L s):=
 qE {hint:=qT 129 [(15, .call 89 _ _ Mi),(20,qB h)],calls:=tC [(129,24,1392,af (aW hi [43] h2))]} 129 1000
theorem Rt(h:decide ((9:Int)≥aa)=false):RE 28 (lO 129 2) [(0,rP),(1,dI aa),(6,u8 2)] (rd L s) .normal [(0,rP),(1,dI aa),(6,u8 3)] (rd L s):=
 qE {hint:=qT 129 [(15, .call 89 _ _ Mj),(20,qB h)]} 129 1000
theorem Ru(h:decide ((9:Int)≥aa)=true)(h2:isT L s [45]=false):RE 28 (lO 129 2) [(0,rP),(1,dI aa),(6,u8 2)] (rd L s) .normal [(0,rP),(1,dI aa),(6,u8 3)] (rd L s):=
 qE {hint:=qT 129 [(15, .call 89 _ _ Mj),(20,qB h)],calls:=tC [(129,24,1392,af (aW hi [45] h2))]} 129 1000
theorem Rv(h:decide ((9:Int)≥aa)=true)(h2:isT L s [45]=true):RE 28 (lO 129 2) [(0,rP),(1,dI aa),(6,u8 2)] (rd L s) .ret [(4,u8 2),(5,dI 9)] (rd L s):=
 qE {hint:=qT 129 [(15, .call 89 _ _ Mj),(20,qB h)],calls:=tC [(129,24,1392,af (aW hi [45] h2))]} 129 1000
theorem Rx(h:decide ((10:Int)≥aa)=false):RE 28 (lO 129 2) [(0,rP),(1,dI aa),(6,u8 3)] (rd L s) .normal [(0,rP),(1,dI aa),(6,u8 4)] (rd L s):=
 qE {hint:=qT 129 [(15, .call 89 _ _ Mk),(20,qB h)]} 129 1000
theorem Ry(h:decide ((10:Int)≥aa)=true)(h2:isT L s [42]=false):RE 28 (lO 129 2) [(0,rP),(1,dI aa),(6,u8 3)] (rd L s) .normal [(0,rP),(1,dI aa),(6,u8 4)] (rd L s):=
 qE {hint:=qT 129 [(15, .call 89 _ _ Mk),(20,qB h)],calls:=tC [(129,24,1392,af (aW hi [42] h2))]} 129 1000
theorem Rz(h:decide ((10:Int)≥aa)=true)(h2:isT L s [42]=true):RE 28 (lO 129 2) [(0,rP),(1,dI aa),(6,u8 3)] (rd L s) .ret [(4,u8 3),(5,dI 10)] (rd L s):=
 qE {hint:=qT 129 [(15, .call 89 _ _ Mk),(20,qB h)],calls:=tC [(129,24,1392,af (aW hi [42] h2))]} 129 1000
theorem RA(h:decide ((10:Int)≥aa)=false):RE 28 (lO 129 2) [(0,rP),(1,dI aa),(6,u8 4)] (rd L s) .normal [(0,rP),(1,dI aa),(6,u8 5)] (rd L s):=
 qE {hint:=qT 129 [(15, .call 89 _ _ Ml),(20,qB h)]} 129 1000
theorem RB(h:decide ((10:Int)≥aa)=true)(h2:isT L s [47]=false):RE 28 (lO 129 2) [(0,rP),(1,dI aa),(6,u8 4)] (rd L s) .normal [(0,rP),(1,dI aa),(6,u8 5)] (rd L s):=
 qE {hint:=qT 129 [(15, .call 89 _ _ Ml),(20,qB h)],calls:=tC [(129,24,1392,af (aW hi [47] h2))]} 129 1000
theorem RD(h:decide ((10:Int)≥aa)=true)(h2:isT L s [47]=true):RE 28 (lO 129 2) [(0,rP),(1,dI aa),(6,u8 4)] (rd L s) .ret [(4,u8 4),(5,dI 10)] (rd L s):=
 qE {hint:=qT 129 [(15, .call 89 _ _ Ml),(20,qB h)],calls:=tC [(129,24,1392,af (aW hi [47] h2))]} 129 1000
theorem RF(h:decide ((10:Int)≥aa)=false):RE 28 (lO 129 2) [(0,rP),(1,dI aa),(6,u8 5)] (rd L s) .normal [(0,rP),(1,dI aa),(6,u8 6)] (rd L s):=
 qE {hint:=qT 129 [(15, .call 89 _ _ Mm),(20,qB h)]} 129 1000
theorem RG(h:decide ((10:Int)≥aa)=true)(h2:isT L s [37]=false):RE 28 (lO 129 2) [(0,rP),(1,dI aa),(6,u8 5)] (rd L s) .normal [(0,rP),(1,dI aa),(6,u8 6)] (rd L s):=
 qE {hint:=qT 129 [(15, .call 89 _ _ Mm),(20,qB h)],calls:=tC [(129,24,1392,af (aW hi [37] h2))]} 129 1000
theorem RH(h:decide ((10:Int)≥aa)=true)(h2:isT L s [37]=true):RE 28 (lO 129 2) [(0,rP),(1,dI aa),(6,u8 5)] (rd L s) .ret [(4,u8 5),(5,dI 10)] (rd L s):=
 qE {hint:=qT 129 [(15, .call 89 _ _ Mm),(20,qB h)],calls:=tC [(129,24,1392,af (aW hi [37] h2))]} 129 1000
theorem RI(h:decide ((7:Int)≥aa)=false):RE 28 (lO 129 2) [(0,rP),(1,dI aa),(6,u8 6)] (rd L s) .normal [(0,rP),(1,dI aa),(6,u8 7)] (rd L s):=
 qE {hint:=qT 129 [(15, .call 89 _ _ Mn),(20,qB h)]} 129 1000
theorem RJ(h:decide ((7:Int)≥aa)=true)(h2:isT L s [38]=false):RE 28 (lO 129 2) [(0,rP),(1,dI aa),(6,u8 6)] (rd L s) .normal [(0,rP),(1,dI aa),(6,u8 7)] (rd L s):=
 qE {hint:=qT 129 [(15, .call 89 _ _ Mn),(20,qB h)],calls:=tC [(129,24,1392,af (aW hi [38] h2))]} 129 1000
theorem RK(h:decide ((7:Int)≥aa)=true)(h2:isT L s [38]=true):RE 28 (lO 129 2) [(0,rP),(1,dI aa),(6,u8 6)] (rd L s) .ret [(4,u8 6),(5,dI 7)] (rd L s):=
 qE {hint:=qT 129 [(15, .call 89 _ _ Mn),(20,qB h)],calls:=tC [(129,24,1392,af (aW hi [38] h2))]} 129 1000
theorem RM(h:decide ((5:Int)≥aa)=false):RE 28 (lO 129 2) [(0,rP),(1,dI aa),(6,u8 7)] (rd L s) .normal [(0,rP),(1,dI aa),(6,u8 8)] (rd L s):=
 qE {hint:=qT 129 [(15, .call 89 _ _ Mo),(20,qB h)]} 129 1000
theorem RN(h:decide ((5:Int)≥aa)=true)(h2:isT L s [124]=false):RE 28 (lO 129 2) [(0,rP),(1,dI aa),(6,u8 7)] (rd L s) .normal [(0,rP),(1,dI aa),(6,u8 8)] (rd L s):=
 qE {hint:=qT 129 [(15, .call 89 _ _ Mo),(20,qB h)],calls:=tC [(129,24,1392,af (aW hi [124] h2))]} 129 1000
theorem RO(h:decide ((5:Int)≥aa)=true)(h2:isT L s [124]=true):RE 28 (lO 129 2) [(0,rP),(1,dI aa),(6,u8 7)] (rd L s) .ret [(4,u8 7),(5,dI 5)] (rd L s):=
 qE {hint:=qT 129 [(15, .call 89 _ _ Mo),(20,qB h)],calls:=tC [(129,24,1392,af (aW hi [124] h2))]} 129 1000
theorem RP(h:decide ((6:Int)≥aa)=false):RE 28 (lO 129 2) [(0,rP),(1,dI aa),(6,u8 8)] (rd L s) .normal [(0,rP),(1,dI aa),(6,u8 9)] (rd L s):=
 qE {hint:=qT 129 [(15, .call 89 _ _ Mp),(20,qB h)]} 129 1000
theorem RQ(h:decide ((6:Int)≥aa)=true)(h2:isT L s [94]=false):RE 28 (lO 129 2) [(0,rP),(1,dI aa),(6,u8 8)] (rd L s) .normal [(0,rP),(1,dI aa),(6,u8 9)] (rd L s):=
 qE {hint:=qT 129 [(15, .call 89 _ _ Mp),(20,qB h)],calls:=tC [(129,24,1392,af (aW hi [94] h2))]} 129 1000
theorem RT(h:decide ((6:Int)≥aa)=true)(h2:isT L s [94]=true):RE 28 (lO 129 2) [(0,rP),(1,dI aa),(6,u8 8)] (rd L s) .ret [(4,u8 8),(5,dI 6)] (rd L s):=
 qE {hint:=qT 129 [(15, .call 89 _ _ Mp),(20,qB h)],calls:=tC [(129,24,1392,af (aW hi [94] h2))]} 129 1000
theorem RU(h:decide ((8:Int)≥aa)=false):RE 28 (lO 129 2) [(0,rP),(1,dI aa),(6,u8 9)] (rd L s) .normal [(0,rP),(1,dI aa),(6,u8 10)] (rd L s):=
 qE {hint:=qT 129 [(15, .call 89 _ _ Mq),(20,qB h)]} 129 1000
theorem RV(h:decide ((8:Int)≥aa)=true)(h2:isT L s [60,60]=false):RE 28 (lO 129 2) [(0,rP),(1,dI aa),(6,u8 9)] (rd L s) .normal [(0,rP),(1,dI aa),(6,u8 10)] (rd L s):=
 qE {hint:=qT 129 [(15, .call 89 _ _ Mq),(20,qB h)],calls:=tC [(129,24,1392,af (aW hi [60,60] h2))]} 129 1000
theorem RX(h:decide ((8:Int)≥aa)=true)(h2:isT L s [60,60]=true):RE 28 (lO 129 2) [(0,rP),(1,dI aa),(6,u8 9)] (rd L s) .ret [(4,u8 9),(5,dI 8)] (rd L s):=
 qE {hint:=qT 129 [(15, .call 89 _ _ Mq),(20,qB h)],calls:=tC [(129,24,1392,af (aW hi [60,60] h2))]} 129 1000
theorem OS(h:decide ((8:Int)≥aa)=false):RE 28 (lO 129 2) [(0,rP),(1,dI aa),(6,u8 10)] (rd L s) .normal [(0,rP),(1,dI aa),(6,u8 11)] (rd L s):=
 qE {hint:=qT 129 [(15, .call 89 _ _ FT),(20,qB h)]} 129 1000
theorem OT(h:decide ((8:Int)≥aa)=true)(h2:isT L s [62,62]=false):RE 28 (lO 129 2) [(0,rP),(1,dI aa),(6,u8 10)] (rd L s) .normal [(0,rP),(1,dI aa),(6,u8 11)] (rd L s):=
 qE {hint:=qT 129 [(15, .call 89 _ _ FT),(20,qB h)],calls:=tC [(129,24,1392,af (aW hi [62,62] h2))]} 129 1000
theorem OU(h:decide ((8:Int)≥aa)=true)(h2:isT L s [62,62]=true):RE 28 (lO 129 2) [(0,rP),(1,dI aa),(6,u8 10)] (rd L s) .ret [(4,u8 10),(5,dI 8)] (rd L s):=
 qE {hint:=qT 129 [(15, .call 89 _ _ FT),(20,qB h)],calls:=tC [(129,24,1392,af (aW hi [62,62] h2))]} 129 1000
theorem OV(h:decide ((4:Int)≥aa)=false):RE 28 (lO 129 2) [(0,rP),(1,dI aa),(6,u8 11)] (rd L s) .normal [(0,rP),(1,dI aa),(6,u8 12)] (rd L s):=
 qE {hint:=qT 129 [(15, .call 89 _ _ FU),(20,qB h)]} 129 1000
theorem OW(h:decide ((4:Int)≥aa)=true)(h2:isT L s [60]=false):RE 28 (lO 129 2) [(0,rP),(1,dI aa),(6,u8 11)] (rd L s) .normal [(0,rP),(1,dI aa),(6,u8 12)] (rd L s):=
 qE {hint:=qT 129 [(15, .call 89 _ _ FU),(20,qB h)],calls:=tC [(129,24,1392,af (aW hi [60] h2))]} 129 1000
theorem OX(h:decide ((4:Int)≥aa)=true)(h2:isT L s [60]=true):RE 28 (lO 129 2) [(0,rP),(1,dI aa),(6,u8 11)] (rd L s) .ret [(4,u8 11),(5,dI 4)] (rd L s):=
 qE {hint:=qT 129 [(15, .call 89 _ _ FU),(20,qB h)],calls:=tC [(129,24,1392,af (aW hi [60] h2))]} 129 1000
theorem OY(h:decide ((4:Int)≥aa)=false):RE 28 (lO 129 2) [(0,rP),(1,dI aa),(6,u8 12)] (rd L s) .normal [(0,rP),(1,dI aa),(6,u8 13)] (rd L s):=
 qE {hint:=qT 129 [(15, .call 89 _ _ FV),(20,qB h)]} 129 1000
theorem OZ(h:decide ((4:Int)≥aa)=true)(h2:isT L s [60,61]=false):RE 28 (lO 129 2) [(0,rP),(1,dI aa),(6,u8 12)] (rd L s) .normal [(0,rP),(1,dI aa),(6,u8 13)] (rd L s):=
 qE {hint:=qT 129 [(15, .call 89 _ _ FV),(20,qB h)],calls:=tC [(129,24,1392,af (aW hi [60,61] h2))]} 129 1000
theorem O0(h:decide ((4:Int)≥aa)=true)(h2:isT L s [60,61]=true):RE 28 (lO 129 2) [(0,rP),(1,dI aa),(6,u8 12)] (rd L s) .ret [(4,u8 12),(5,dI 4)] (rd L s):=
 qE {hint:=qT 129 [(15, .call 89 _ _ FV),(20,qB h)],calls:=tC [(129,24,1392,af (aW hi [60,61] h2))]} 129 1000
theorem O1(h:decide ((4:Int)≥aa)=false):RE 28 (lO 129 2) [(0,rP),(1,dI aa),(6,u8 13)] (rd L s) .normal [(0,rP),(1,dI aa),(6,u8 14)] (rd L s):=
 qE {hint:=qT 129 [(15, .call 89 _ _ FW),(20,qB h)]} 129 1000
theorem O2(h:decide ((4:Int)≥aa)=true)(h2:isT L s [62]=false):RE 28 (lO 129 2) [(0,rP),(1,dI aa),(6,u8 13)] (rd L s) .normal [(0,rP),(1,dI aa),(6,u8 14)] (rd L s):=
 qE {hint:=qT 129 [(15, .call 89 _ _ FW),(20,qB h)],calls:=tC [(129,24,1392,af (aW hi [62] h2))]} 129 1000
theorem O3(h:decide ((4:Int)≥aa)=true)(h2:isT L s [62]=true):RE 28 (lO 129 2) [(0,rP),(1,dI aa),(6,u8 13)] (rd L s) .ret [(4,u8 13),(5,dI 4)] (rd L s):=
 qE {hint:=qT 129 [(15, .call 89 _ _ FW),(20,qB h)],calls:=tC [(129,24,1392,af (aW hi [62] h2))]} 129 1000
theorem O4(h:decide ((4:Int)≥aa)=false):RE 28 (lO 129 2) [(0,rP),(1,dI aa),(6,u8 14)] (rd L s) .normal [(0,rP),(1,dI aa),(6,u8 15)] (rd L s):=
 qE {hint:=qT 129 [(15, .call 89 _ _ FX),(20,qB h)]} 129 1000
theorem O5(h:decide ((4:Int)≥aa)=true)(h2:isT L s [62,61]=false):RE 28 (lO 129 2) [(0,rP),(1,dI aa),(6,u8 14)] (rd L s) .normal [(0,rP),(1,dI aa),(6,u8 15)] (rd L s):=
 qE {hint:=qT 129 [(15, .call 89 _ _ FX),(20,qB h)],calls:=tC [(129,24,1392,af (aW hi [62,61] h2))]} 129 1000
theorem O6(h:decide ((4:Int)≥aa)=true)(h2:isT L s [62,61]=true):RE 28 (lO 129 2) [(0,rP),(1,dI aa),(6,u8 14)] (rd L s) .ret [(4,u8 14),(5,dI 4)] (rd L s):=
 qE {hint:=qT 129 [(15, .call 89 _ _ FX),(20,qB h)],calls:=tC [(129,24,1392,af (aW hi [62,61] h2))]} 129 1000
theorem O7(h:decide ((3:Int)≥aa)=false):RE 28 (lO 129 2) [(0,rP),(1,dI aa),(6,u8 15)] (rd L s) .normal [(0,rP),(1,dI aa),(6,u8 16)] (rd L s):=
 qE {hint:=qT 129 [(15, .call 89 _ _ FY),(20,qB h)]} 129 1000
theorem O8(h:decide ((3:Int)≥aa)=true)(h2:isT L s [61,61]=false):RE 28 (lO 129 2) [(0,rP),(1,dI aa),(6,u8 15)] (rd L s) .normal [(0,rP),(1,dI aa),(6,u8 16)] (rd L s):=
 qE {hint:=qT 129 [(15, .call 89 _ _ FY),(20,qB h)],calls:=tC [(129,24,1392,af (aW hi [61,61] h2))]} 129 1000
theorem O9(h:decide ((3:Int)≥aa)=true)(h2:isT L s [61,61]=true):RE 28 (lO 129 2) [(0,rP),(1,dI aa),(6,u8 15)] (rd L s) .ret [(4,u8 15),(5,dI 3)] (rd L s):=
 qE {hint:=qT 129 [(15, .call 89 _ _ FY),(20,qB h)],calls:=tC [(129,24,1392,af (aW hi [61,61] h2))]} 129 1000
theorem Pa(h:decide ((3:Int)≥aa)=false):RE 28 (lO 129 2) [(0,rP),(1,dI aa),(6,u8 16)] (rd L s) .normal [(0,rP),(1,dI aa),(6,u8 17)] (rd L s):=
 qE {hint:=qT 129 [(15, .call 89 _ _ FZ),(20,qB h)]} 129 1000
theorem Pb(h:decide ((3:Int)≥aa)=true)(h2:isT L s [33,61]=false):RE 28 (lO 129 2) [(0,rP),(1,dI aa),(6,u8 16)] (rd L s) .normal [(0,rP),(1,dI aa),(6,u8 17)] (rd L s):=
 qE {hint:=qT 129 [(15, .call 89 _ _ FZ),(20,qB h)],calls:=tC [(129,24,1392,af (aW hi [33,61] h2))]} 129 1000
theorem Pc(h:decide ((3:Int)≥aa)=true)(h2:isT L s [33,61]=true):RE 28 (lO 129 2) [(0,rP),(1,dI aa),(6,u8 16)] (rd L s) .ret [(4,u8 16),(5,dI 3)] (rd L s):=
 qE {hint:=qT 129 [(15, .call 89 _ _ FZ),(20,qB h)],calls:=tC [(129,24,1392,af (aW hi [33,61] h2))]} 129 1000
theorem Pd(h:decide ((2:Int)≥aa)=false):RE 28 (lO 129 2) [(0,rP),(1,dI aa),(6,u8 17)] (rd L s) .normal [(0,rP),(1,dI aa),(6,u8 18)] (rd L s):=
 qE {hint:=qT 129 [(15, .call 89 _ _ F0),(20,qB h)]} 129 1000
theorem Pe(h:decide ((2:Int)≥aa)=true)(h2:isT L s [38,38]=false):RE 28 (lO 129 2) [(0,rP),(1,dI aa),(6,u8 17)] (rd L s) .normal [(0,rP),(1,dI aa),(6,u8 18)] (rd L s):=
 qE {hint:=qT 129 [(15, .call 89 _ _ F0),(20,qB h)],calls:=tC [(129,24,1392,af (aW hi [38,38] h2))]} 129 1000
theorem Pf(h:decide ((2:Int)≥aa)=true)(h2:isT L s [38,38]=true):RE 28 (lO 129 2) [(0,rP),(1,dI aa),(6,u8 17)] (rd L s) .ret [(4,u8 17),(5,dI 2)] (rd L s):=
 qE {hint:=qT 129 [(15, .call 89 _ _ F0),(20,qB h)],calls:=tC [(129,24,1392,af (aW hi [38,38] h2))]} 129 1000
theorem Ph(h:decide ((1:Int)≥aa)=false):RE 28 (lO 129 2) [(0,rP),(1,dI aa),(6,u8 18)] (rd L s) .normal [(0,rP),(1,dI aa),(6,u8 19)] (rd L s):=
 qE {hint:=qT 129 [(15, .call 89 _ _ F1),(20,qB h)]} 129 1000
theorem Pi(h:decide ((1:Int)≥aa)=true)(h2:isT L s [124,124]=false):RE 28 (lO 129 2) [(0,rP),(1,dI aa),(6,u8 18)] (rd L s) .normal [(0,rP),(1,dI aa),(6,u8 19)] (rd L s):=
 qE {hint:=qT 129 [(15, .call 89 _ _ F1),(20,qB h)],calls:=tC [(129,24,1392,af (aW hi [124,124] h2))]} 129 1000
theorem Pj(h:decide ((1:Int)≥aa)=true)(h2:isT L s [124,124]=true):RE 28 (lO 129 2) [(0,rP),(1,dI aa),(6,u8 18)] (rd L s) .ret [(4,u8 18),(5,dI 1)] (rd L s):=
 qE {hint:=qT 129 [(15, .call 89 _ _ F1),(20,qB h)],calls:=tC [(129,24,1392,af (aW hi [124,124] h2))]} 129 1000
theorem RY:F2 L s aa 1 (dj L aa s):=
 cR (by decide) (Rq hi aa) (Rr hi aa) (Rs hi aa) (cR (by decide) (Rt hi aa) (Ru hi aa) (Rv hi aa) (cR (by decide) (Rx hi aa) (Ry hi aa) (Rz hi aa) (cR (by decide) (RA hi aa) (RB hi aa) (RD hi aa) (cR (by decide) (RF hi aa) (RG hi aa) (RH hi aa) (cR (by decide) (RI hi aa) (RJ hi aa) (RK hi aa) (cR (by decide) (RM hi aa) (RN hi aa) (RO hi aa) (cR (by decide) (RP hi aa) (RQ hi aa) (RT hi aa) (cR (by decide) (RU hi aa) (RV hi aa) (RX hi aa) (cR (by decide) (OS hi aa) (OT hi aa) (OU hi aa) (cR (by decide) (OV hi aa) (OW hi aa) (OX hi aa) (cR (by decide) (OY hi aa) (OZ hi aa) (O0 hi aa) (cR (by decide) (O1 hi aa) (O2 hi aa) (O3 hi aa) (cR (by decide) (O4 hi aa) (O5 hi aa) (O6 hi aa) (cR (by decide) (O7 hi aa) (O8 hi aa) (O9 hi aa) (cR (by decide) (Pa hi aa) (Pb hi aa) (Pc hi aa) (cR (by decide) (Pd hi aa) (Pe hi aa) (Pf hi aa) (cR (by decide) (Ph hi aa) (Pi hi aa) (Pj hi aa) (Rp hi aa))))))))))))))))))
noncomputable def Pk{e:aG}{l':List (Nat×AV)}(h:RL 28 (lO 129 2) (yT aa 1) (rd L s) e l' (rd L s)):d7 Pg:=
 ⟨28,bO Pg 129 2,yT aa 1,fun _=>rd L s,e,l',fun _=>rd L s,fun rest X hP hN=>(h rest X hP hN).aw⟩
theorem Pn(h:RL 28 (lO 129 2) (yT aa 1) (rd L s) (.exit 0) [] (rd L s)):HC 129 [rP,dI aa] (rd L s) [.int .u8 0, .int .i64 0] (rd L s):=
 qN ({loops:=fun f q=>if f=129 then (if q=2 then some (Pk aa h)else none)else none}) 1000
theorem Po(o k:Int)(h:RL 28 (lO 129 2) (yT aa 1) (rd L s) .ret [(4,u8 o),(5,dI k)] (rd L s)):HC 129 [rP,dI aa] (rd L s) [.int .u8 o, .int .i64 k] (rd L s):=
 qN ({loops:=fun f q=>if f=129 then (if q=2 then some (Pk aa h)else none)else none}) 1000
theorem qm:∀l:List (Int×List UInt8×Int),(eV L s aa l).1=0→(∀p∈l,p.1≠0)→eV L s aa l=(0,0)
 |[],_,_=>rfl
 |(o,x,k)::r,h,hl=>by
  simp only[eV]at h ⊢;cases hc:(decide (aa≤k)&&isT L s x)with
  |true=>rw[hc]at h;exact absurd h (hl (o,x,k) (by simp))
  |false=>rw[hc]at h;exact qm r h fun p hp=>hl p (by simp[hp])
theorem F3:HC 129 [rP,dI aa] (rd L s) [.int .u8 (dj L aa s).1, .int .i64 (dj L aa s).2] (rd L s):=by
 have h:=RY hi aa;unfold F2 u3 at h;cases h0:((dj L aa s).1==0)with
 |true=>
  rw[h0]at h;have hz:dj L aa s=(0,0):=qm hi aa uS (eq_of_beq h0) (by decide);rw[hz];exact Pn hi aa h
 |false=>
  rw[h0]at h;exact Po hi aa _ _ h
theorem pw(hL:dF L):∀l:List (Int×List UInt8×Int),(eV L s aa l).1≠0→s.i+1<L.length
 |[],h=>by simp[eV]at h
 |(o,x,k)::r,h=>by
  simp only[eV]at h;cases hc:(decide (aa≤k)&&isT L s x)with
  |true=>exact wI hL hi (Bool.and_eq_true .. ▸hc).2
  |false=>rw[hc]at h;exact pw hL r h
end
end Go.Avm
namespace Go.Avm
open Go.Proofs
def T0:Ex→List AV
 | .mk k o nm n p xs=>[u8 k,u8 o, .d (.str nm),dI n,dI p, .d (.ro (i7 xs))]
def Tf(K:Nat)(e:Ex):Nat×aN:=(K,⟨1,some (.arr 1 (T0 e))⟩)
def T1(K:Nat):Nat×aN:=(K,⟨1,some (.arr 1 [u8 0,u8 0, .d (.str []),dI 0,dI 0, .nils])⟩)
def pC(K:Nat):AV:= .ptr K 1 0 0 1
def HL(aa:Int):List (Nat×AV):=[(0,rP),(1,dI aa),(4,pC 1004),(5,pC 1083)]
def HM(L:List T)(s:RS)(e:Ex):List (Nat×aN):=rd L s ++[T1 1004,Tf 1083 e]
def R0(L:List T)(s:RS)(e:Ex):List (Nat×aN):=rd L s ++[Tf 1004 e,(1083,⟨1,none⟩)]
def R1(L:List T)(s:RS):List (Nat×aN):=rd L s ++[(1004,⟨1,none⟩),(1083,⟨1,none⟩)]
def I3(L:List T)(aa:Int)(s:RS)(e:Ex):Res Ex→Prop
 | .ok a s'=>s'.i<L.length∧RL 39 (lO 100 2) (HL aa) (HM L s e) .ret [(4,pC 1004)] (R0 L s' a)
 | .bad p q s'=>RL 39 (lO 100 2) (HL aa) (HM L s e) (.panic (dE p q)) [] (R1 L s')
 | .out=>True
section
variable{L:List T}(hL:dF L){s:RS}(l:s.i<L.length)(aa:Int)(k o:Int)(nm:List UInt8)(n p:Int)(xs:List Ex)
include l hL
theorem Mr(h:((dj L aa s).1==0)=true):RE 39 (lO 100 2) (HL aa) (HM L s (.mk k o nm n p xs)) .ret [(4,pC 1004)] (R0 L s (.mk k o nm n p xs)):=
 qE {hint:=qT 100 [(18,qB h)],calls:=tC [(100,14,2078,af (F3 l aa))]} 100 2000
theorem Pq(h:((dj L aa s).1==0)=false)(q r:Int)(s2:RS)(c:HX 100 [rP,dI (dD ((dj L aa s).2+1))] (rd L s.nx) (dE q r) (rd L s2)):
    RE 39 (lO 100 2) (HL aa) (HM L s (.mk k o nm n p xs)) (.panic (dE q r)) [] (R1 L s2):=
 qE {hint:=qT 100 [(18,qB h),(27,dk Pg s.i (by have:=hL.len;omega))],calls:=tC [(100,14,2078,af (F3 l aa)),(100,21,2390,af (br l))],pans:=au Pg [(100,7,2780,⟨6,some (bi c),[]⟩)]} 100 2000
theorem Pr(h:((dj L aa s).1==0)=false)(k2 o2:Int)(nm2:List UInt8)(n2 p2:Int)(cd:List Ex)(s2:RS)(c:HC 100 [rP,dI (dD ((dj L aa s).2+1))] (rd L s.nx) [fW (.mk k2 o2 nm2 n2 p2 cd)] (rd L s2)):
    RE 39 (lO 100 2) (HL aa) (HM L s (.mk k o nm n p xs)) .normal (HL aa) (HM L s2 (.mk 9 (dj L aa s).1 [] 0 (bt L s).p [.mk k o nm n p xs, .mk k2 o2 nm2 n2 p2 cd])):=
 dX aD named {hint:=qT 100 [(18,qB h),(27,dk Pg s.i (by have:=hL.len;omega))],calls:=tC [(100,14,2078,af (F3 l aa)),(100,21,2390,af (br l)),(100,36,3014,af c)]} 2000 100 2000 39 1000000 ([(1083,5)]) ⟨rfl,rfl,rfl,by kernel_rfl,by kernel_rfl,by kernel_rfl⟩ (by kernel_rfl) (by kernel_rfl) (fun _=>by kernel_rfl)
end
noncomputable def Pu{L:List T}{aa:Int}{s:RS}{e:Ex}{hp':List (Nat×aN)}{x:aG}{l':List (Nat×AV)}(h:RL 39 (lO 100 2) (HL aa) (HM L s e) x l' hp'):d7 Pg:=
 ⟨39,bO Pg 100 2,HL aa,fun _=>HM L s e,x,l',fun _=>hp',fun rest X hP hN=>(h rest X hP hN).aw⟩
theorem Ms{L:List T}{aa:Int}{s s1 s2:RS}{k o:Int}{nm:List UInt8}{n p:Int}{xs:List Ex}{k2 o2:Int}{nm2:List UInt8}{n2 p2:Int}{cd:List Ex}
    (c:HC 128 [rP] (rd L s) [fW (.mk k o nm n p xs)] (rd L s1))
    (h:RL 39 (lO 100 2) (HL aa) (HM L s1 (.mk k o nm n p xs)) .ret [(4,pC 1004)] (R0 L s2 (.mk k2 o2 nm2 n2 p2 cd))):
    HC 100 [rP,dI aa] (rd L s) [fW (.mk k2 o2 nm2 n2 p2 cd)] (rd L s2):=
 qN {loops:=fun f q=>if f=100 then (if q=2 then some (Pu h)else none)else none,calls:=tC [(100,10,1078,af c)]} 1000
theorem I4{L:List T}{aa:Int}{s s1 s2:RS}{k o:Int}{nm:List UInt8}{n p:Int}{xs:List Ex}{q r:Int}
    (c:HC 128 [rP] (rd L s) [fW (.mk k o nm n p xs)] (rd L s1))
    (h:RL 39 (lO 100 2) (HL aa) (HM L s1 (.mk k o nm n p xs)) (.panic (dE q r)) [] (R1 L s2)):
    HX 100 [rP,dI aa] (rd L s) (dE q r) (rd L s2):=
 qX {loops:=fun f q=>if f=100 then (if q=2 then some (Pu h)else none)else none,calls:=tC [(100,10,1078,af c)]} 1000
theorem I5{L:List T}{aa:Int}{s s1:RS}{q r:Int}(c:HX 128 [rP] (rd L s) (dE q r) (rd L s1)):
    HX 100 [rP,dI aa] (rd L s) (dE q r) (rd L s1):=
 qX {pans:=au Pg [(100,1,1039,⟨1,some (bi c),[]⟩)]} 1000
section
variable{L:List T}(hL:dF L)
include hL
theorem F4(n:Nat)(ihE:∀(k:Int)(s:RS),s.i<L.length→RC L 100 [rP,dI k] (fun e=>[fW e]) s (bv L n k s))(ihT:∀(k:Int)(e:Ex)(s:RS),s.i<L.length→I3 L k s e (dw L n k e s))
    (aa:Int) (e:Ex) (s:RS) (l:s.i<L.length):I3 L aa s e (dw L (n+1) aa e s):=by
 obtain⟨k,o,nm,m,p,xs⟩:=e;simp only[dw];cases h:((dj L aa s).1==0)with
 |true=>exact⟨l,fun rest X hP hN=>aY (Mr hL l aa k o nm m p xs h rest X hP hN) (by simp)⟩
 |false=>
  have ln:s.nx.i<L.length:=pw l aa hL uS (by simpa [dj]using h);have c:=ihE (dD ((dj L aa s).2+1)) s.nx ln;simp only[cond_false];revert c;cases bv L n (dD ((dj L aa s).2+1)) s.nx with
  |out=>exact fun _=>trivial
  |bad q r s2=>exact fun c rest X hP hN=>aY (Pq hL l aa k o nm m p xs h q r s2 c rest X hP hN) (by simp)
  |ok e2 s2=>
   obtain⟨k2,o2,nm2,n2,p2,cd⟩:=e2;intro c;have c2:=ihT aa (.mk 9 (dj L aa s).1 [] 0 (bt L s).p [.mk k o nm m p xs, .mk k2 o2 nm2 n2 p2 cd]) s2 c.1;simp only[Res.bind];revert c2;cases dw L n aa (.mk 9 (dj L aa s).1 [] 0 (bt L s).p [.mk k o nm m p xs, .mk k2 o2 nm2 n2 p2 cd]) s2 with
   |out=>exact fun _=>trivial
   |bad q r s3=>exact fun c2 rest X hP hN=>ba (Pr hL l aa k o nm m p xs h k2 o2 nm2 n2 p2 cd s2 c.2 rest X hP hN) (c2 rest X hP hN)
   |ok a s3=>exact fun c2=>⟨c2.1,fun rest X hP hN=>ba (Pr hL l aa k o nm m p xs h k2 o2 nm2 n2 p2 cd s2 c.2 rest X hP hN) (c2.2 rest X hP hN)⟩
theorem F5(n:Nat)(ih1:∀s:RS,s.i<L.length→RC L 128 [rP] (fun e=>[fW e]) s (eP L n s))(ihT:∀(k:Int)(e:Ex)(s:RS),s.i<L.length→I3 L k s e (dw L n k e s))
    (aa:Int) (s:RS) (l:s.i<L.length):RC L 100 [rP,dI aa] (fun e=>[fW e]) s (bv L (n+1) aa s):=by
 simp only[bv];refine RC.bind (ih1 s l) (fun q r s1 c=>I5 c) (fun e s1 l1 c=> ?_);have c2:=ihT aa e s1 l1;obtain⟨k,o,nm,m,p,xs⟩:=e;revert c2;cases dw L n aa (.mk k o nm m p xs) s1 with
 |out=>exact fun _=>trivial
 |bad q r s3=>exact fun c2=>I4 c c2
 |ok a s3=>
  obtain⟨k2,o2,nm2,n2,p2,cd⟩:=a;exact fun c2=>⟨c2.1,Ms c c2.2⟩
end
end Go.Avm
namespace Go.Avm
open Go.Proofs
def kF:Nat×aN:=(1003,⟨1,some (.arr 1 [rP])⟩)
def u4(l:List Ex):List AV:=l.map fun e=> .d (fW e)
def xq(nm:List UInt8)(p:Int)(a:AV):Nat×aN:=(1082,⟨1,some (.arr 1 [u8 5,u8 0, .d (.str nm),dI 0,dI p,a])⟩)
def Ds:AV:= .fn 154 [pC 1082,pC 1003]
theorem cL(ρ:Nat→Nat):∀{l:List AV},(∀x∈l,∃d,x= .d d)→bT ρ l=l
 |[],_=>rfl
 |x::l,h=>by
  obtain⟨d,rfl⟩:=h x (by simp);have ih:=cL ρ (l:=l) fun y hy=>h y (by simp[hy])
  simp only[bT,aR,ih]
theorem d9(r:List Ex):∀x∈u4 r,∃d,x= .d d:=fun x hx=>by
 obtain⟨e,_,rfl⟩:=List.mem_map.1 hx;exact⟨_,rfl⟩
def zD:D:= .agg [.int .u8 0, .int .u8 0, .str [], .int .i64 0, .int .i64 0, .ro []]
section
variable{L:List T}(hL:dF L){s:RS}(l:s.i<L.length)(nm:List UInt8)(p:Int)
theorem R2(k2 o2:Int)(nm2:List UInt8)(n2 p2:Int)(cd:List Ex)(s2:RS)(c:HC 100 [rP,dI 1] (rd L s) [fW (.mk k2 o2 nm2 n2 p2 cd)] (rd L s2)):
    HC 154 [pC 1082,pC 1003] (rd L s ++[xq nm p .nils,kF,(400000,⟨0,none⟩)]) [] (rd L s2 ++[xq nm p (.sl 400000 2 0 1 6),kF,(400000,⟨2,some (.arr 6 (u4 [.mk k2 o2 nm2 n2 p2 cd]))⟩)]):=
 qN {nils:=fun f r=>if f=154 then (if r=0 then some ⟨1082,5,400000,6,false,true⟩else none)else none,calls:=tC [(154,5,2033,af c)]} 2000
theorem I6(r0:List Ex)(n:Nat)(e:D):∀x∈((u4 r0).take r0.length ++[AV.d zD]).set n (AV.d e),∃d,x= .d d:=fun x hx=>by
 rcases List.mem_or_eq_of_mem_set hx with hx|rfl
 ·rcases List.mem_append.1 hx with hx|hx
  ·exact d9 r0 x (List.mem_of_mem_take hx)
  ·simp only[List.mem_singleton]at hx;exact⟨_,hx⟩
 ·exact⟨_,rfl⟩
theorem R3(v:Nat)(r0:List Ex)(hr:r0.length<1000000)(k2 o2:Int)(nm2:List UInt8)(n2 p2:Int)(cd:List Ex)(s2:RS)(c:HC 100 [rP,dI 1] (rd L s) [fW (.mk k2 o2 nm2 n2 p2 cd)] (rd L s2)):
    HC 154 [pC 1082,pC 1003] (rd L s ++[xq nm p (.sl 400000 v 0 r0.length 6),kF,(400000,⟨v,some (.arr 6 (u4 r0))⟩)]) [] (rd L s2 ++[xq nm p (.sl 400000 (v+1) 0 (r0.length+1) 6),kF,(400000,⟨v+1,some (.arr 6 (((u4 r0).take r0.length ++[AV.d zD]).set (0+r0.length) (AV.d (fW (.mk k2 o2 nm2 n2 p2 cd)))))⟩)]):=
 ag aD named {hint:=qT 154 [(8, .apps (u4 r0) r0.length 1 ⟨by simp[u4],by omega⟩),(9, .inb (r0.length:Int) (r0.length+1) (by omega) (by simp)),(100008, .elt ((u4 r0).take r0.length ++[AV.d zD]) (0+r0.length) (AV.d zD) (by simp[u4]))],calls:=tC [(154,5,2033,af c)]} 2000 2000 _ 1000000 ⟨rfl,rfl,rfl,by kernel_rfl,by simp[cg,gj,bT,aR,dW,xq,kF,pC,rd,rP,C5,u8,cL _ (d9 r0)],by simp[cg,gj,bT,aR,dW,xq,kF,pC,rd,rP,C5,u8,cL _ (I6 r0 _ _)]⟩ (fun _=>by kernel_rfl)
end
def fD(nm:List UInt8)(p:Int):List (Nat×aN):=[xq nm p .nils,kF,(400000,⟨0,none⟩)]
def dG(nm:List UInt8)(p:Int)(r:List Ex):List (Nat×aN):=[xq nm p (.sl 400000 (r.length+1) 0 r.length 6),kF,(400000,⟨r.length+1,some (.arr 6 (u4 r))⟩)]
def ko(v:Nat):List (Nat×aN):=[(1082,⟨1,none⟩),(1003,⟨1,none⟩),(400000,⟨v,none⟩)]
def Pv(nm:List UInt8)(p:Int):List Ex→List (Nat×aN)
 |[]=>fD nm p
 |r=>dG nm p r
section
variable{L:List T}(hL:dF L){s:RS}(l:s.i<L.length)(nm:List UInt8)(p:Int)
theorem R4(e:Ex)(s2:RS)(c:HC 100 [rP,dI 1] (rd L s) [fW e] (rd L s2)):
    HC 154 [pC 1082,pC 1003] (rd L s ++fD nm p) [] (rd L s2 ++dG nm p [e]):=by
 obtain⟨k2,o2,nm2,n2,p2,cd⟩:=e;exact R2 nm p k2 o2 nm2 n2 p2 cd s2 c
theorem R5(r:List Ex)(hr:r.length<1000000)(e:Ex)(s2:RS)(c:HC 100 [rP,dI 1] (rd L s) [fW e] (rd L s2)):
    HC 154 [pC 1082,pC 1003] (rd L s ++dG nm p r) [] (rd L s2 ++dG nm p (r ++[e])):=by
 obtain⟨k2,o2,nm2,n2,p2,cd⟩:=e;have h:=R3 nm p (r.length+1) r hr k2 o2 nm2 n2 p2 cd s2 c
 have e1:((u4 r).take r.length ++[AV.d zD]).set (0+r.length) (AV.d (fW (.mk k2 o2 nm2 n2 p2 cd)))=u4 (r ++[.mk k2 o2 nm2 n2 p2 cd]):=by
  have hl:r.length=(u4 r).length:=by simp[u4]
  rw[Nat.zero_add,hl,List.take_length];simp[u4]
 rw[e1]at h;have e2:r.length+1=(r ++[Ex.mk k2 o2 nm2 n2 p2 cd]).length:=by simp
 simp only[dG,←e2];exact h
theorem Pw(q t:Int)(s2:RS)(c:HX 100 [rP,dI 1] (rd L s) (dE q t) (rd L s2)):
    HX 154 [pC 1082,pC 1003] (rd L s ++fD nm p) (dE q t) (rd L s2 ++ko 0):=
 qX {pans:=au Pg [(154,0,2000,⟨3,some (bi c),[4,5]⟩)]} 2000
theorem Px(r:List Ex)(q t:Int)(s2:RS)(c:HX 100 [rP,dI 1] (rd L s) (dE q t) (rd L s2)):
    HX 154 [pC 1082,pC 1003] (rd L s ++dG nm p r) (dE q t) (rd L s2 ++ko (r.length+1)):=
 ae aD named {pans:=au Pg [(154,0,2000,⟨3,some (bi c),[4,5]⟩)]} 2000 2000 _ 1000000 ⟨rfl,rfl,rfl,by kernel_rfl,by simp[cg,gj,bT,aR,dW,fD,dG,xq,kF,pC,rd,rP,C5,u8,cL _ (d9 _)],by simp[cg,gj,bT,aR,dW,fD,dG,ko,xq,kF,pC,rd,rP,C5,u8,cL _ (d9 _)]⟩ (by kernel_rfl) (fun _=>by kernel_rfl)
def F6:List (Nat×AV):=[(0,rP),(1,Ds)]
include l
theorem Mt(r:List Ex)(h:isT L s [44]=false):RE 17 (lO 42 3) F6 (rd L s ++dG nm p r) (.exit 0) [(0,rP)] (rd L s ++dG nm p r):=
 dX aD named {calls:=tC [(42,12,3017,af (ah l [44] h))]} 2000 42 3000 17 1000000 ([]) ⟨rfl,rfl,rfl,by kernel_rfl,by simp[cg,gj,bT,aR,dW,fD,dG,xq,kF,pC,rd,rP,C5,u8,cL _ (d9 _)],by simp[cg,gj,bT,aR,dW,fD,dG,ko,xq,kF,pC,rd,rP,C5,u8,cL _ (d9 _)]⟩ (by kernel_rfl) (by kernel_rfl) (fun _=>by kernel_rfl)
theorem Mu(r:List Ex)(s1:RS)(c1:HC 45 [rP, .d (.str [44])] (rd L s) [.bool true] (rd L s1))(q t:Int)(s2:RS)
    (c:HX 154 [pC 1082,pC 1003] (rd L s1 ++dG nm p r) (dE q t) (rd L s2 ++ko (r.length+1))):RE 17 (lO 42 3) F6 (rd L s ++dG nm p r) (.panic (dE q t)) [] (rd L s2 ++ko (r.length+1)):=
 dX aD named {calls:=tC [(42,12,3017,af c1)],pans:=au Pg [(42,4,3017,⟨1,some (bi c),[]⟩)]} 2000 42 3000 17 1000000 ([]) ⟨rfl,rfl,rfl,by kernel_rfl,by simp[cg,gj,bT,aR,dW,fD,dG,xq,kF,pC,rd,rP,C5,u8,cL _ (d9 _)],by simp[cg,gj,bT,aR,dW,fD,dG,ko,xq,kF,pC,rd,rP,C5,u8,cL _ (d9 _)]⟩ (by kernel_rfl) (by kernel_rfl) (fun _=>by kernel_rfl)
theorem R6(r:List Ex)(s1:RS)(c1:HC 45 [rP, .d (.str [44])] (rd L s) [.bool true] (rd L s1))(e:Ex)(s2:RS)
    (c:HC 154 [pC 1082,pC 1003] (rd L s1 ++dG nm p r) [] (rd L s2 ++dG nm p (r ++[e]))):RE 17 (lO 42 3) F6 (rd L s ++dG nm p r) .normal F6 (rd L s2 ++dG nm p (r ++[e])):=
 dX aD named {calls:=tC [(42,12,3017,af c1),(42,14,3034,af c)]} 2000 42 3000 17 1000000 ([]) ⟨rfl,rfl,rfl,by kernel_rfl,by simp[cg,gj,bT,aR,dW,fD,dG,xq,kF,pC,rd,rP,C5,u8,cL _ (d9 _)],by simp[cg,gj,bT,aR,dW,fD,dG,ko,xq,kF,pC,rd,rP,C5,u8,cL _ (d9 _)]⟩ (by kernel_rfl) (by kernel_rfl) (fun _=>by kernel_rfl)
end
def Mv(L:List T)(nm:List UInt8)(p:Int)(s:RS)(r:List Ex):Res (List Ex)→Prop
 | .ok r2 s'=>s'.i<L.length∧r2≠[]∧RL 17 (lO 42 3) F6 (rd L s ++dG nm p r) (.exit 0) [(0,rP)] (rd L s' ++dG nm p r2)
 | .bad q t s'=>∃v,RL 17 (lO 42 3) F6 (rd L s ++dG nm p r) (.panic (dE q t)) [] (rd L s' ++ko v)
 | .out=>True
noncomputable def Mw{L:List T}{nm:List UInt8}{p:Int}{s:RS}{r:List Ex}{hp':List (Nat×aN)}{x:aG}{l':List (Nat×AV)}(h:RL 17 (lO 42 3) F6 (rd L s ++dG nm p r) x l' hp'):d7 Pg:=
 ⟨17,bO Pg 42 3,F6,fun _=>rd L s ++dG nm p r,x,l',fun _=>hp',fun rest X hP hN=>(h rest X hP hN).aw⟩
section
variable{L:List T}(hL:dF L)(nm:List UInt8)(p:Int)
include hL
theorem F7(n:Nat)(ihE:∀(k:Int)(s:RS),s.i<L.length→RC L 100 [rP,dI k] (fun e=>[fW e]) s (bv L n k s))(ihM:∀(r:List Ex)(s:RS),s.i<L.length→r.length≤s.i→r≠[]→Mv L nm p s r (d8 L n r s))
    (r:List Ex) (s:RS) (l:s.i<L.length) (hr:r.length≤s.i) (hne:r≠[]):Mv L nm p s r (d8 L (n+1) r s):=by
 have hlen:r.length<1000000:=by have:=hL.len;omega
 simp only[d8,ci];cases h:isT L s [44]with
 |false=>exact⟨l,hne,fun rest X hP hN=>aY (Mt l nm p r h rest X hP hN) (by simp)⟩
 |true=>
  have hw:aE L [44] s= .ok (bt L s) s.nx:=by simp only[aE,h];rfl
  have hn:=wI hL l h;have c1:=mayT l [44] h (bt L s) s.nx (FO l hL [44] h rfl rfl rfl rfl rfl rfl);simp only[cond_true,hw,Res.bind];have c:=ihE 1 s.nx hn;revert c;have hi2:∀a s2,bv L n 1 s.nx= .ok a s2→s.nx.i<s2.i:=fun a s2 he=>uT L n 1 s.nx a s2 he
  cases he:bv L n 1 s.nx with
  |out=>exact fun _=>trivial
  |bad q t s2=>exact fun c=>⟨_,fun rest X hP hN=>aY (Mu l nm p r s.nx c1 q t s2 (Px nm p r q t s2 c) rest X hP hN) (by simp)⟩
  |ok e s2=>
   intro c;have h3:=hi2 e s2 he;have c2:=ihM (r ++[e]) s2 c.1 (by simp only[List.length_append,List.length_cons,List.length_nil,RS.nx]at*;omega) (by simp);have hgo:=R6 l nm p r s.nx c1 e s2 (R5 nm p r hlen e s2 c.2);simp only;revert c2;cases d8 L n (r ++[e]) s2 with
   |out=>exact fun _=>trivial
   |bad q t s3=>exact fun ⟨v,c2⟩=>⟨v,fun rest X hP hN=>ba (hgo rest X hP hN) (c2 rest X hP hN)⟩
   |ok a s3=>exact fun c2=>⟨c2.1,c2.2.1,fun rest X hP hN=>ba (hgo rest X hP hN) (c2.2.2 rest X hP hN)⟩
end
section
variable{L:List T}(nm:List UInt8)(p:Int){s s1 s2 s3 s4:RS}{t1 t2:T}{q t:Int}
theorem R7(c:HX 40 [rP, .d (.str [40])] (rd L s) (dE q t) (rd L s1)):
    HX 42 [rP,Ds] (rd L s ++fD nm p) (dE q t) (rd L s1 ++ko 0):=
 qX {pans:=au Pg [(42,0,1000,⟨1,some (bi c),[]⟩)]} 1000
section
variable(l1:s1.i<L.length)(c1:HC 40 [rP, .d (.str [40])] (rd L s) [tD t1] (rd L s1))
include l1 c1
theorem R8(h:isT L s1 [41]=true)(c2:HC 40 [rP, .d (.str [41])] (rd L s1) [tD t2] (rd L s2)):
    HC 42 [rP,Ds] (rd L s ++fD nm p) [] (rd L s2 ++fD nm p):=
 qN {calls:=tC [(42,5,1017,af c1),(42,7,1034,af (aW l1 [41] h)),(42,16,1068,af c2)]} 1000
theorem R9(h:isT L s1 [41]=true)(c2:HX 40 [rP, .d (.str [41])] (rd L s1) (dE q t) (rd L s2)):
    HX 42 [rP,Ds] (rd L s ++fD nm p) (dE q t) (rd L s2 ++ko 0):=
 qX {calls:=tC [(42,5,1017,af c1),(42,7,1034,af (aW l1 [41] h))],pans:=au Pg [(42,5,1051,⟨1,some (bi c2),[]⟩)]} 1000
theorem Sa(h:isT L s1 [41]=false)(c2:HX 154 [pC 1082,pC 1003] (rd L s1 ++fD nm p) (dE q t) (rd L s2 ++ko 0)):
    HX 42 [rP,Ds] (rd L s ++fD nm p) (dE q t) (rd L s2 ++ko 0):=
 qX {calls:=tC [(42,5,1017,af c1),(42,7,1034,af (aW l1 [41] h))],pans:=au Pg [(42,2,1051,⟨1,some (bi c2),[]⟩)]} 1000
theorem Sb(h0:isT L s1 [41]=false)(e:Ex)(c2:HC 154 [pC 1082,pC 1003] (rd L s1 ++fD nm p) [] (rd L s2 ++dG nm p [e]))(v:Nat)(h:RL 17 (lO 42 3) F6 (rd L s2 ++dG nm p [e]) (.panic (dE q t)) [] (rd L s3 ++ko v)):
    HX 42 [rP,Ds] (rd L s ++fD nm p) (dE q t) (rd L s3 ++ko v):=
 qX {loops:=fun f q=>if f=42 then (if q=3 then some (Mw h)else none)else none,calls:=tC [(42,5,1017,af c1),(42,7,1034,af (aW l1 [41] h0)),(42,10,1068,af c2)]} 1000
theorem Sc(h0:isT L s1 [41]=false)(e:Ex)(c2:HC 154 [pC 1082,pC 1003] (rd L s1 ++fD nm p) [] (rd L s2 ++dG nm p [e]))(r:List Ex)(h:RL 17 (lO 42 3) F6 (rd L s2 ++dG nm p [e]) (.exit 0) [(0,rP)] (rd L s3 ++dG nm p r))(c3:HX 40 [rP, .d (.str [41])] (rd L s3) (dE q t) (rd L s4)):
    HX 42 [rP,Ds] (rd L s ++fD nm p) (dE q t) (rd L s4 ++ko (r.length+1)):=
 qX {loops:=fun f q=>if f=42 then (if q=3 then some (Mw h)else none)else none,calls:=tC [(42,5,1017,af c1),(42,7,1034,af (aW l1 [41] h0)),(42,10,1068,af c2)],pans:=au Pg [(42,5,1068,⟨1,some (bi c3),[]⟩)]} 1000
theorem Sd(h0:isT L s1 [41]=false)(e:Ex)(c2:HC 154 [pC 1082,pC 1003] (rd L s1 ++fD nm p) [] (rd L s2 ++dG nm p [e]))(r:List Ex)(h:RL 17 (lO 42 3) F6 (rd L s2 ++dG nm p [e]) (.exit 0) [(0,rP)] (rd L s3 ++dG nm p r))(c3:HC 40 [rP, .d (.str [41])] (rd L s3) [tD t2] (rd L s4)):
    HC 42 [rP,Ds] (rd L s ++fD nm p) [] (rd L s4 ++dG nm p r):=
 ag aD named {loops:=fun f q=>if f=42 then (if q=3 then some (Mw h)else none)else none,calls:=tC [(42,5,1017,af c1),(42,7,1034,af (aW l1 [41] h0)),(42,10,1068,af c2),(42,16,1085,af c3)]} 2000 1000 _ 1000000 ⟨rfl,rfl,rfl,by kernel_rfl,by simp[cg,gj,bT,aR,dW,fD,dG,xq,kF,pC,rd,rP,C5,u8,cL _ (d9 _)],by simp[cg,gj,bT,aR,dW,fD,dG,ko,xq,kF,pC,rd,rP,C5,u8,cL _ (d9 _)]⟩ (fun _=>by kernel_rfl)
end
theorem Py(c:HC 42 [rP,Ds] (rd L s ++fD nm p) [] (rd L s1 ++fD nm p)):
    HC 130 [rP, .d (.str nm),dI p] (rd L s) [fW (.mk 5 0 nm 0 p [])] (rd L s1):=
 qN {calls:=tC [(130,13,1135,af c)]} 1000
theorem yU(h:ab):∀r:List Ex,fI (view 3 h) (u4 r)=some (i7 r,[])
 |[]=>rfl
 |x::r=>by
  have ih:=yU h r;simp only[u4]at ih;simp only[u4,List.map_cons,fI,ih,i7];rfl
def T2(r:List Ex):uI:=⟨1082,5,400000,r.length,u4 r,i7 r,by simp[u4],fun h=>yU h r⟩
theorem Pz(r:List Ex)(c:HC 42 [rP,Ds] (rd L s ++fD nm p) [] (rd L s1 ++dG nm p r)):
    HC 130 [rP, .d (.str nm),dI p] (rd L s) [fW (.mk 5 0 nm 0 p r)] (rd L s1):=
 qN {frz:=fun f q=>if f=130 then (if q=3 then some (T2 r)else none)else none,calls:=tC [(130,13,1135,af c)]} 1000
theorem PA(v:Nat)(c:HX 42 [rP,Ds] (rd L s ++fD nm p) (dE q t) (rd L s1 ++ko v)):
    HX 130 [rP, .d (.str nm),dI p] (rd L s) (dE q t) (rd L s1):=
 qX {pans:=au Pg [(130,2,1105,⟨2,some (bi c),[]⟩)]} 1000
end
end Go.Avm
