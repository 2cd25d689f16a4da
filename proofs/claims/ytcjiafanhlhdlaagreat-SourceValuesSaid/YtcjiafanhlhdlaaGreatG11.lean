/-
  Types: blocks, whatever they hold; blocks within statements.
-/
import Derived.Test.YtcjiafanhlhdlaaGreatG10
import Derived.Test.YtcjiafanhlhdlaaGreatG09
set_option linter.unusedVariables false
set_option linter.unusedSimpArgs false
set_option linter.unusedSectionVars false
namespace Go.Avm
open Go.Proofs
def Cd(S:CK)(l:List cf)(i:Nat):TR CS→Prop
 | .ok c=>∃S',Nx S S' c∧∀(es:List (D×D×Nat))(n:Nat)(a:aa)(X:bD),X.P=Pg→X.N=41→LW X (lO 68 2) ⟨ag (r7 l i),af (ck S ++pS es n) a⟩ fun d b=>d= .exit 0∧b=⟨ag DK,af (ck S' ++pS es n) a⟩
 | .bad p e=>∃g,∀(es:List (D×D×Nat))(n:Nat)(a:aa)(X:bD),X.P=Pg→X.N=41→LW X (lO 68 2) ⟨ag (r7 l i),af (ck S ++pS es n) a⟩ fun d b=>d= .panic (am p e)∧b=⟨ag [],af (bo g ++[(500013,⟨1,none⟩)]) a⟩
 | .out=>True
structure Pl where
 fs:List Fn
 fn:Nat
 deep:Int
structure At(P:Pl)(S:CK):Prop where
 ok:CKok S
 fs:S.fs=P.fs
 fn:S.fn=P.fn
 deep:S.deep=P.deep
theorem At.nx{P:Pl}{S S':CK}{c:CS}(a:At P S)(n:Nx S S' c):At P S':=⟨n.ok,n.fs.trans a.fs,n.fn.trans a.fn,n.deep.trans a.deep⟩
theorem Nx.trans{S S1 d:CK}{c1 e:CS}(a:Nx S S1 c1)(b:Nx S1 d e):Nx S d e:=⟨b.ok,b.c,b.fs.trans a.fs,b.fn.trans a.fn,b.deep.trans a.deep,b.W.trans a.W,a.vars.trans b.vars⟩
abbrev Ce(P:Pl)(x:cf):Prop:=∀S:CK,At P S→TC S 83 [an, .d (oy x)] (pJ P.fs P.fn P.deep x S.c)
theorem uJ{P:Pl}{l:List cf}(U:l.length<1000000)(Q:∀x∈l,Ce P x)(R:∀x∈l,hZ x):
    ∀(m i:Nat)(S:CK)(f:Bool),At P S→l.length-i=m→i≤l.length→(f=match i with|0=>false|j+1=>match l[j]? with|some y=>kW y|none=>false)→Cd S l i (cL P.fs P.fn P.deep f (l.drop i) S.c)
 |0,i,S,f,a,hm,Y,hp=>by
  have N:i=l.length:=by omega
  subst N;rw[yl];simp only[cL];exact⟨S,a.ok.nx,fun es n b X d e=>bA (Cc a.ok es n l l.length (by simp[jz]) b X d e) (by simp)⟩
 |m+1,i,S,f,a,hm,Y,hp=>by
  have t:i<l.length:=by omega
  have F:l[i]? =some l[i]:=xE t;have I:l[i]∈l:=yc t;rw[xq t];generalize l[i]=x at F I;have V:=Q x I S a;have h:decide (i<(cZ l).length)=true:=by simpa [jz]using t
  obtain⟨k,id,s,ty,q,p,xs,w,v⟩:=x;simp only[cL];cases i with
  |zero=>
   have hp:f=false:=hp;subst hp;simp only[x9];revert V;cases pJ P.fs P.fn P.deep (.mk k id s ty q p xs w v) S.c with
   |out=>exact fun _=>trivial
   |bad u r=>exact fun ⟨g,c⟩=>⟨g,fun es n b X d e=>bA (Az a.ok es n l k id s ty q p xs w v F h g u r c b X d e) (by simp)⟩
   |ok c'=>
    rintro⟨S',A,c⟩;have o:=uJ U Q R m 1 S' (kW (.mk k id s ty q p xs w v)) (a.nx A) (by omega) t (by simp only[F]);rw[A.c]at o;simp only[TR.bind];revert o;cases cL P.fs P.fn P.deep (kW (.mk k id s ty q p xs w v)) (l.drop (0+1)) c' with
    |out=>exact fun _=>trivial
    |bad u r=>exact fun ⟨g,o⟩=>⟨g,fun es n b X d e=>bM (yz a.ok A.ok es n l k id s ty q p xs w v F h c b X d e) (o es n b X d e)⟩
    |ok W=>exact fun ⟨O,T,o⟩=>⟨O,A.trans T,fun es n b X d e=>bM (yz a.ok A.ok es n l k id s ty q p xs w v F h c b X d e) (o es n b X d e)⟩
  |succ j=>
   have H:l[j]? =some l[j]:=xE (by omega);have M:l[j]∈l:=yc (by omega);simp only[H]at hp;generalize l[j]=y at H M hp;have G:=R y M;obtain⟨K,z,E,D,L,J,bO,B,C⟩:=y;subst hp;unfold hZ at G;revert G;cases kW (.mk K z E D L J bO B C)with
   |true=>exact fun G=>⟨S.gv,fun es n b X d e=>bA (wq a.ok es n l k id s ty q p xs w v j F K z E D L J bO B C H (by omega) G h b X d e) (by simp)⟩
   |false=>
    intro G;simp only[x9];revert V;cases pJ P.fs P.fn P.deep (.mk k id s ty q p xs w v) S.c with
    |out=>exact fun _=>trivial
    |bad u r=>exact fun ⟨g,c⟩=>⟨g,fun es n b X d e=>bA (AA a.ok es n l k id s ty q p xs w v j F K z E D L J bO B C H (by omega) G h g u r c b X d e) (by simp)⟩
    |ok c'=>
     rintro⟨S',A,c⟩;have o:=uJ U Q R m (j+1+1) S' (kW (.mk k id s ty q p xs w v)) (a.nx A) (by omega) t (by simp only[F]);rw[A.c]at o;simp only[TR.bind];revert o;cases cL P.fs P.fn P.deep (kW (.mk k id s ty q p xs w v)) (l.drop (j+1+1)) c' with
     |out=>exact fun _=>trivial
     |bad u r=>exact fun ⟨g,o⟩=>⟨g,fun es n b X d e=>bM (za a.ok A.ok es n l k id s ty q p xs w v j F K z E D L J bO B C H (by omega) G h c b X d e) (o es n b X d e)⟩
     |ok W=>exact fun ⟨O,T,o⟩=>⟨O,A.trans T,fun es n b X d e=>bM (za a.ok A.ok es n l k id s ty q p xs w v j F K z E D L J bO B C H (by omega) G h c b X d e) (o es n b X d e)⟩
def CK.seenAs(S:CK)(l:eE)(v:Nat):CK:={S with c:={S.c with seen:=l},vs:=v}
def CK.sureAs(S:CK)(q:SureL)(v:Nat):CK:={S with c:={S.c with sure:=q},vq:=v}
theorem ws{a b:List Vr}(h:a<+:b){f:Vr→Bool}(e:a.any f=true):b.any f=true:=by
 obtain⟨t,rfl⟩:=h;rw[List.any_append,e];rfl
theorem wt{S S':CK}(h:CKok S)(h':CKok S')(a:S.c.vars<+:S'.c.vars)(v:Nat):CKok (S'.seenAs S.c.seen v) where
 fn:=h'.fn
 W:=h'.W
 dat:=h'.dat
 len:=h'.len
 par:=h'.par
 vars:=h'.vars
 seen:=fun p hp=>yP (h.seen p hp) a.length_le
 inc:=h.inc
 nms:=h.nms
 nml:=h.nml
 had:=fun p hp=>ws a (h.had p hp)
 sk:=h'.sk
 sb:=h'.sb
 sc:=h'.sc
 sv:=h'.sv
 pts:=h'.pts
structure QOk(q:SureL)(n:Nat):Prop where
 sk:(q.l.map (·.1)).Nodup
 sb:(q.l.map (·.2)).Nodup
 sc:∀p∈q.l,p.2<q.c
 sv:∀p∈q.l,p.1<n
theorem CKok.q{S:CK}(h:CKok S):QOk S.c.sure S.c.vars.length:=⟨h.sk,h.sb,h.sc,h.sv⟩
theorem QOk.mono{q:SureL}{n m:Nat}(h:QOk q n)(a:n≤m):QOk q m:=⟨h.sk,h.sb,h.sc,fun p hp=>yP (h.sv p hp) a⟩
theorem QOk.both{a b:SureL}{n:Nat}(h:QOk a n):QOk (a.both b) n where
 sk:=(List.Sublist.map _ List.filter_sublist).nodup h.sk
 sb:=(List.Sublist.map _ List.filter_sublist).nodup h.sb
 sc:=fun p hp=>h.sc p (yi.1 hp).1
 sv:=fun p hp=>h.sv p (yi.1 hp).1
theorem oG{S:CK}(h:CKok S){q:SureL}(a:QOk q S.c.vars.length)(v:Nat):CKok (S.sureAs q v) where
 fn:=h.fn
 W:=h.W
 dat:=h.dat
 len:=h.len
 par:=h.par
 vars:=h.vars
 seen:=h.seen
 inc:=h.inc
 nms:=h.nms
 nml:=h.nml
 had:=h.had
 sk:=a.sk
 sb:=a.sb
 sc:=a.sc
 sv:=a.sv
 pts:=h.pts
noncomputable def Cf{S:CK}{l:List cf}{es:List (D×D×Nat)}{n:Nat}{x:au}{l':List (Nat×AV)}{a:List (Nat×aI)}(h:RL 41 (lO 68 2) (r7 l 0) (ck S ++pS es n) x l' a):jo Pg:=
 ⟨41,e5 Pg 68 2,r7 l 0,fun _=>ck S ++pS es n,x,l',fun _=>a,fun b X c d=>(h b X c d).aw⟩
section
variable{S:CK}(h:CKok S)(l:List cf)
include h
theorem wu{S':CK}(h2:CKok (S'.seenAs S.c.seen (S'.vs+1)))(c:∀(a:aa)(X:bD),X.P=Pg→X.N=41→LW X (lO 68 2) ⟨ag (r7 l 0),af (ck S ++pS (br 0 S.c.seen) S.c.seen.length) a⟩ fun e b=>e= .exit 0∧b=⟨ag DK,af (ck S' ++pS (br 0 S.c.seen) S.c.seen.length) a⟩):
    HC 68 [an, .d (.ro (cZ l))] (ck S) [] (ck (S'.seenAs S.c.seen (S'.vs+1))):=
 gD ed named {loops:=fun f q=>if f=68 then (if q=2 then some (Cf c)else none)else none,calls:=tC [(68,11,2164,dh (uH S.vs (br 0 S.c.seen) S.c.seen.length))]} 2000 2000 _ 1000000 ([(500000,524291146758)]) (al h h2 rfl) (fun _=>by kernel_rfl)
theorem uK(g:Gv)(p e:Int)(c:∀(a:aa)(X:bD),X.P=Pg→X.N=41→LW X (lO 68 2) ⟨ag (r7 l 0),af (ck S ++pS (br 0 S.c.seen) S.c.seen.length) a⟩ fun i b=>i= .panic (am p e)∧b=⟨ag [],af (bo g ++[(500013,⟨1,none⟩)]) a⟩):
    HX 68 [an, .d (.ro (cZ l))] (ck S) (am p e) (bo g):=
 qX {loops:=fun f q=>if f=68 then (if q=2 then some (Cf c)else none)else none,calls:=tC [(68,11,2164,dh (uH S.vs (br 0 S.c.seen) S.c.seen.length))]} 2000 (fI h rfl)
end
abbrev de(P:Pl)(l:List cf)(c:CS):TR CS:=(cL P.fs P.fn P.deep false l c).bind fun c'=> .ok {c' with seen:=c.seen}
theorem uL{P:Pl}{l:List cf}(h:l.length<1000000)(i:∀x∈l,Ce P x)(f:∀x∈l,hZ x)(S:CK)(a:At P S):TC S 68 [an, .d (.ro (cZ l))] (de P l S.c):=by
 have k:=uJ h i f _ 0 S false a rfl (yd _) rfl;rw[yX]at k;unfold de;revert k;cases cL P.fs P.fn P.deep false l S.c with
 |out=>exact fun _=>trivial
 |bad p e=>exact fun ⟨g,c⟩=>⟨g,uK a.ok l g p e (c _ _)⟩
 |ok c'=>
  rintro⟨S',b,c⟩;have h2:=wt a.ok b.ok b.vars (S'.vs+1);refine⟨S'.seenAs S.c.seen (S'.vs+1),⟨h2, ?_,b.fs,b.fn,b.deep,b.W,b.vars⟩,wu a.ok l h2 (c _ _)⟩;rw[←b.c];rfl
theorem s5{d:Int}(h: -9223372036854775808≤d∧d<9223372036854775808):IntKind.i64.wrap (IntKind.i64.wrap (d+1)-1)=d:=by
 have e:∀x:Int,IntKind.i64.wrap x=if 9223372036854775808≤x % 18446744073709551616 then x % 18446744073709551616-18446744073709551616 else x % 18446744073709551616:=fun x=>by
  simp only[IntKind.wrap,IntKind.bits,IntKind.signed,Bool.true_and,ge_iff_le,y6];rfl
 rw[e (IntKind.i64.wrap (d+1)-1),e (d+1)];split<;>split<;>omega
def Cg(P:Program)(d a:Int)(e:a=IntKind.i64.wrap (d+1))(h: -9223372036854775808≤d∧d<9223372036854775808):bj P:= .val (dI (IntKind.i64.wrap (a-1))) (dI d) (by
 congr 2;rw[e];exact s5 h)
def CK.at(S:CK)(d:Int):CK:={S with deep:=d}
theorem uM{S:CK}(h:CKok S)(d:Int):CKok (S.at d) where
 fn:=h.fn
 W:=h.W
 dat:=h.dat
 len:=h.len
 par:=h.par
 vars:=h.vars
 seen:=h.seen
 inc:=h.inc
 nms:=h.nms
 nml:=h.nml
 had:=h.had
 sk:=h.sk
 sb:=h.sb
 sc:=h.sc
 sv:=h.sv
 pts:=h.pts
section
variable{S:CK}(h:CKok S)(l:List cf)(a: -9223372036854775808≤S.deep∧S.deep<9223372036854775808)
include h a
theorem wv{S':CK}(h':CKok S')(e:S'.deep=IntKind.i64.wrap (S.deep+1))(c:HC 68 [an, .d (.ro (cZ l))] (ck (S.at (IntKind.i64.wrap (S.deep+1)))) [] (ck S')):
    HC 96 [an, .d (.ro (cZ l))] (ck S) [] (ck (S'.at S.deep)):=
 qN {hint:=qT 96 [(18,Cg Pg S.deep S'.deep e a)],calls:=tC [(96,13,2210,dh c)]} 2000 (al h (uM h' S.deep) rfl)
theorem uN(g:Gv)(p e:Int)(c:HX 68 [an, .d (.ro (cZ l))] (ck (S.at (IntKind.i64.wrap (S.deep+1)))) (am p e) (bo g)):
    HX 96 [an, .d (.ro (cZ l))] (ck S) (am p e) (bo g):=
 qX {pans:=aU Pg [(96,1,2168,⟨2,some (cJ c),[]⟩)]} 2000 (fI h rfl)
end
def Pl.in(P:Pl):Pl:={P with deep:=rO (P.deep+1)}
theorem uO{P:Pl}(j: -9223372036854775808≤P.deep∧P.deep<9223372036854775808){l:List cf}(h:l.length<1000000)(n:∀x∈l,Ce P.in x)(i:∀x∈l,hZ x)(S:CK)(a:At P S):TC S 96 [an, .d (.ro (cZ l))] (de P.in l S.c):=by
 have k:=uL h n i (S.at (rO (P.deep+1))) ⟨uM a.ok _,a.fs,a.fn,rfl⟩;have f:=j;rw[←a.deep]at f;have m:rO (P.deep+1)=IntKind.i64.wrap (S.deep+1):=by rw[a.deep];rfl
 rw[m]at k;change TC _ _ _ (de P.in l S.c)at k
 revert k;cases de P.in l S.c with
 |out=>exact fun _=>trivial
 |bad p e=>exact fun ⟨g,c⟩=>⟨g,uN a.ok l f g p e c⟩
 |ok c'=>
  rintro⟨S',b,c⟩;exact⟨S'.at S.deep,⟨uM b.ok _,b.c,b.fs,b.fn,rfl,b.W,b.vars⟩,wv a.ok l f b.ok b.deep c⟩
end Go.Avm
namespace Go.Avm
open Go.Proofs Go.RowKit
theorem dQ{X:bD}{S S1:St}{Q:au→St→Prop}{id p:Nat}{d:Array Oper}{op:Oper}{cfg:d0}{ob:List Obl}{fts:List Foot}{Out:AV→aa→Prop}
    (hp:d[p]? =some op) (T:op.guard=none) (M:∀c,op.op≠ .defer c) (j:bP X.P cfg X.N d (List.range' 0 p) S=some (S1,ob,fts)) (r:dg X.P ob)
    (z:∀(G:Gh)(w:World)(a:Act),HR G X.B X.w0 X.I0 S1.heap w→(∀x,Rep G w (opd S1.env x) (a.eval x))→∃v n u x h',(execOp a.eval op).run X.P w= .ok (.value v) n∧Ext G w u n∧HR u X.B X.w0 X.I0 h' n∧Rep u n x v∧Out x h')
    (h:∀x h',Out x h'→∃cfg env o ob fts,bX X.N S1.env op.dst x=some env∧bP X.P cfg X.N d (List.range' (p+1) (d.size-p-1)) ⟨env,h'⟩=some (o,ob,fts)∧dg X.P ob∧∃C,Weak X o C∧Q .normal C):
    AW X (.region id d false) S Q:=jn fun G a w I=>I.2.elim fun R E=>by
 refine wpIn_region ?_;rw[ku (xG.1 hp).1];refine nv X.mixed.ext X.rnd 0 _ I.1 E.1 j r fun U V K H g e=> ?_
 rw[wpOpsIn_cons];unfold wpOpIn;simp only[hp];rw[xW (k3 e (b:=true) (by unfold bK;rw[T]))];obtain⟨v,Z,G2,x,h2,l,A,s,q,k⟩:=z K V U g (fun x=>e.opd g.maps.glob x);obtain⟨D,env,o,L,J,m,f,i,O⟩:=h x h2 k;refine lI X.rnd 0 M l ?_;refine iw X.mixed.ext X.rnd 0 _ s ((e.mono A).put m q) f i fun Y w3 W F y t=> ?_
 exact⟨.normal,o,W,trivial,O,(H.trans A).trans F,y,R,t,E.2.mono ((H.trans A).trans F)⟩
def AB(r:Option (St×List Foot×Nat×List Nat×ah)):Option (au×St×Nat×List Nat×ah):=match r with
 |some r=>some (.normal,r.1,r.2.2.1,r.2.2.2.1,r.2.2.2.2)
 |none=>none
theorem r8{P:Program}(hm:d4 P)(y:bl P)(m:Par P)(n i s e N:Nat)(c:Array Oper)(k:Nat){env:Nat→AV}{l':List (Nat×AV)}{hp d:List (Nat×aI)}{b:aa}
    (h:iH (sR (AB (pC P m (aJ P m n) i s N c (c.toList.drop k) k e ⟨env,af hp b⟩)) (hp.map (·.1)) l' d)=iI .normal (sR (AB (pC P m (aJ P m n) i s N c (c.toList.drop k) k e ⟨env,af hp b⟩)) (hp.map (·.1)) l' d)):
    ∃cfg l ob fts,bP P cfg N c (List.range' k (c.size-k)) ⟨env,af hp b⟩=some (l,ob,fts)∧dg P ob∧∀X:bD,Weak X l ⟨ag l',af d b⟩:=by
 obtain⟨Q,g,x⟩:=dU h;unfold sR at g;split at g
 ·rename_i L S1 M tk H o
  split at g
  ·rename_i q D
   split at g
   ·rename_i E
    simp only[xA,xC]at g;obtain⟨rfl,rfl⟩:=g;unfold AB at o;split at o;case h_2=>cases o
    rename_i r t;simp only[xA,xC]at o;obtain⟨_,rfl,rfl,rfl,rfl⟩:=o;obtain⟨l,fts,O,tk,I⟩:=r
    obtain⟨⟨T,G⟩,B⟩:=jp hm y (b6 hm y n) _ k e _ _ _ _ _ _ (fun j K=>by
     rw[xo,xX]) t x.left
    obtain⟨ob,z,C⟩:=G {ret:=fun j=>(T j).ret,hc:=fun j=>(T j).hc,base:=fun j=>(T j).base,obm:=fun j=>m.obm i (((c[j]?).bind (·.dst)).getD 0)} (fun _ _=>⟨rfl,rfl,rfl⟩) (fun _=>rfl);rw[List.length_drop,x5]at z;refine⟨_,l,ob,fts,z,C,fun X=> ?_⟩;have A:=jm (X:=X) (S:=l) x.right.left D x.right.right
    have:af d l.heap=af d b:=by
     funext k;by_cases f:k∈d.map (·.1)
     ·exact dF _ _ _ f
     ·rw[bc _ _ f,bc _ _ f]
      have p:∀u,u∈tk ++hp.map (·.1)→u≠k:=by
       rintro u v rfl;have:=xY.1 E u v;obtain⟨a,F,J⟩:=yT.1 this;have:=xn J;subst this;exact f F
      rw[B k (fun w=>p k (by simp[w]) rfl)];exact bc _ _ (fun w=>p k (by simp only[xJ];exact .inr w) rfl)
    rw[this]at A;exact A
   ·cases g
  ·cases g
 ·cases g
def ww:Code→Code
 | .seq x _=>x
 |c=>c
def nC:Code→Code
 | .seq _ y=>y
 |c=>c
def Di:Code→Code
 | .block _ x=>x
 |c=>c
def E7:Code→Code
 | .cond _ x _=>x
 |c=>c
def r9:Code→Array Oper
 | .region _ a _=>a
 |_=> #[]
noncomputable def DL:Code:=uq Pg 109
noncomputable def AD:Code:=e5 Pg 109 1
noncomputable def Bu:Array Oper:=r9 (ww DL)
noncomputable def zb:Array Oper:=r9 (ww AD)
noncomputable def zc:Array Oper:=r9 (ww (Di (nC (nC AD))))
noncomputable def ER:Code:=ww (nC (Di (nC (nC AD))))
noncomputable def Bv:Array Oper:=r9 (E7 (nC (nC (Di (nC (nC AD))))))
theorem s6:DL= .seq (.region 0 Bu false) (.block 0 (.loop AD)):=by kernel_rfl
theorem j9:AD= .seq (.region 1 zb false) (.seq (.cond (.tmp 9) .skip (.exit 0)) (.block 1 (.seq (.region 2 zc false) (.seq ER (.cond (.tmp 16) (.region 4 Bv false) .skip))))):=by kernel_rfl
theorem uP:(Bu[1]?).isSome=true:=by kernel_rfl
noncomputable def Dj:Oper:=(Bu[1]?).get uP
theorem uQ:(zb[0]?).isSome=true:=by kernel_rfl
noncomputable def Dk:Oper:=(zb[0]?).get uQ
theorem uR:(zc[0]?).isSome=true:=by kernel_rfl
noncomputable def Dl:Oper:=(zc[0]?).get uR
theorem uS:(Bv[2]?).isSome=true:=by kernel_rfl
noncomputable def Bw:Oper:=(Bv[2]?).get uS
theorem AE:Bu[1]? =some Dj:=(Option.some_get _).symm
theorem AF:zb[0]? =some Dk:=(Option.some_get _).symm
theorem AG:zc[0]? =some Dl:=(Option.some_get _).symm
theorem AH:Bv[2]? =some Bw:=(Option.some_get _).symm
theorem mE:Dj.op= .range 140 (.tmp 6)∧Dj.guard=none∧Dj.dst=some 7∧Bu.size=2:=⟨by kernel_rfl,by kernel_rfl,by kernel_rfl,by kernel_rfl⟩
theorem mF:Dk.op= .next (.tmp 7) false∧Dk.guard=none∧Dk.dst=some 8∧zb.size=2:=⟨by kernel_rfl,by kernel_rfl,by kernel_rfl,by kernel_rfl⟩
theorem oH:Dl.op= .entry (.tmp 7)∧Dl.guard=none∧Dl.dst=some 10∧zc.size=6:=⟨by kernel_rfl,by kernel_rfl,by kernel_rfl,by kernel_rfl⟩
def uT:Op→Option Call
 | .call c=>some c
 |_=>none
theorem uU:(uT Bw.op).isSome=true:=by kernel_rfl
noncomputable def oI:Call:=(uT Bw.op).get uU
theorem mG:Bw.op= .call oI∧Bw.guard=none∧Bw.dst=none∧Bv.size=3:=⟨by kernel_rfl,by kernel_rfl,by kernel_rfl,by kernel_rfl⟩
theorem kc:oI.callee= .builtin .delete∧oI.args= #[.tmp 17, .tmp 18]∧oI.argTypes[0]? =some 140:=⟨by kernel_rfl,by kernel_rfl,by kernel_rfl⟩
noncomputable def ES:TypeId:=match Pg.underlying 140 with
 |some (.map _ u)=>u
 |_=>0
theorem uV:Pg.underlying 140=some (.map 3 ES):=by kernel_rfl
def jF(b:SureL)(a:List Nat)(l:List (Nat×Nat)):List (Nat×Nat):=l.filter fun e=> !(a.contains e.2)||b.has e.1
theorem mH{x:Nat}:∀{l:List (Nat×Nat)}{j i:Nat},(l.map (·.1)).Nodup→a6 x l j=some (j+i)→l.eraseIdx i=l.filter fun e=> !(e.1==x)
 |[],_,_,_,h=>by cases h
 |e::r,j,i,c,h=>by
  simp only[a6]at h;rw[xI,yn]at c;cases b:(x==e.1)with
  |true=>
   rw[b]at h;simp only[yJ,xA]at h;have p:i=0:=by omega
   subst p;rw[eq_of_beq b,List.eraseIdx_zero,List.tail_cons,List.filter_cons];simp only[BEq.rfl,Bool.not_true,yQ,ya];refine(List.filter_eq_self.2 fun a o=> ?_).symm;rw[xu,yh];intro q;exact c.1 (xf.2 ⟨a,o,q⟩)
  |false=>
   rw[b]at h;simp only[x9]at h
   have f:∀{l:List (Nat×Nat)}{j k:Nat},a6 x l j=some k→j≤k:=fun {l}=>by
    induction l with
    |nil=>intro j k h;cases h
    |cons a r m=>
     intro j k h;simp only[a6]at h;cases n:(x==a.1)with
     |true=>rw[n]at h;simp at h;omega
     |false=>rw[n]at h;have:=m h;omega
   have:=f h;obtain⟨g,rfl⟩:∃g,i=g+1:=⟨i-1,by omega⟩
   have m:=mH (i:=g) c.2 (by rw[h];congr 1;omega);have d:(e.1==x)=false:=by rw[yh]at b ⊢;exact Ne.symm b
   rw[List.eraseIdx_cons_succ,List.filter_cons,d,m];rfl
theorem nD{x:Nat}:∀{l:List (Nat×Nat)}{j:Nat},(∃p∈l,p.1=x)→∃i,a6 x l j=some (j+i)
 |[],_,h=>by simp at h
 |e::r,j,h=>by
  cases a:(x==e.1)with
  |true=>exact⟨0,by simp only[a6,a,yJ];rfl⟩
  |false=>
   simp only[a6,a,x9];obtain⟨p,hp,b⟩:=h;rcases xR.1 hp with rfl|hp
   ·rw[b]at a;simp at a
   ·obtain⟨i,c⟩:=nD (j:=j+1) ⟨p,hp,b⟩
    exact⟨i+1,by rw[c];congr 1;omega⟩
section
variable{b:SureL}{l:List (Nat×Nat)}(d:(l.map (·.1)).Nodup)(c:(l.map (·.2)).Nodup)
theorem k8{i m:Type}{f:i→m}:∀{l:List i},(l.map f).Nodup→∀{x y:i},x∈l→y∈l→f x=f y→x=y
 |a::r,h,x,y,j,k,e=>by
  rw[xI,yn]at h;rcases xR.1 j with g|g<;>rcases xR.1 k with h2|h2
  ·exact g.trans h2.symm
  ·exact absurd (xf.2 ⟨y,h2,by rw[←e,g]⟩) h.1
  ·exact absurd (xf.2 ⟨x,g,by rw[e,h2]⟩) h.1
  ·exact k8 h.2 g h2 e
include c in
theorem wx{a:List Nat}{e:Nat×Nat}(j:e∈jF b a l)(i:b.has e.1=true):jF b (a ++[e.2]) l=jF b a l:=by
 refine List.filter_congr fun x h=> ?_
 cases f:b.has x.1 with
 |true=>simp
 |false=>
  have g:x.2≠e.2:=fun k=>by
   have:=k8 c h (yi.1 j).1 k;rw[this,i]at f;cases f
  simp[g]
include d c in
theorem wy{a:List Nat}{e:Nat×Nat}(m:e∈jF b a l)(j:b.has e.1=false):jF b (a ++[e.2]) l=(jF b a l).filter fun x=> !(x.1==e.1):=by
 unfold jF;rw[List.filter_filter];refine List.filter_congr fun x i=> ?_
 have f:=(yi.1 m).1;by_cases g:x.1=e.1
 ·have:x=e:=k8 d i f g
  subst this;simp[j]
 ·have h:x.2≠e.2:=fun k=>g (by rw[k8 c i f k])
  simp[g,h]
theorem AI{a:List Nat}(h:∀e∈jF b a l,e.2∈a):jF b a l=l.filter fun e=>b.has e.1:=by
 refine List.filter_congr fun x i=> ?_
 cases f:b.has x.1 with
 |true=>simp
 |false=>
  cases g:a.contains x.2 with
  |true=>rfl
  |false=>
   have:=h x (yi.2 ⟨i,by simp only[g,f];rfl⟩);rw[←List.contains_iff_mem,g]at this;cases this
theorem AJ:jF b [] l=l:=List.filter_eq_self.2 fun x _=>by simp
end
theorem kE:∀(i:Nat)(l:List (Nat×Nat)),(aF l).eraseIdx i=aF (l.eraseIdx i)
 |_,[]=>rfl
 |0,_::_=>rfl
 |i+1,e::r=>by
  show _::(aF r).eraseIdx i=_::aF (r.eraseIdx i);rw[kE i r]
theorem sd{P:Program}{cfg:d0}{N:Nat}{d:Array Oper}{l:List Nat}{S f:St}(h:(bP P cfg N d l S).map (fun r=>(r.1,r.2.1))=some (f,[])):∃fts,bP P cfg N d l S=some (f,[],fts):=by
 cases e:bP P cfg N d l S with
 |none=>rw[e]at h;cases h
 |some r=>
  obtain⟨a,b,c⟩:=r;rw[e]at h;simp only[xP,xA,xC]at h;obtain⟨rfl,rfl⟩:=h;exact⟨c,rfl⟩
theorem fl(P:Program):dg P []:=fun _ h=>by cases h
abbrev qb(va w:Nat):List (Nat×AV):=[(0, .mp 500004 va),(1, .fn 110 [.ptr 600005 1 0 0 1]),(7, .itr 600100 1)]
abbrev pU(va ca vb cb:Nat)(la lb:List (Nat×Nat))(seen:List Nat)(w:Nat):List (Nat×aI):=
 [(500004,⟨va,some (.map (aF la) ca)⟩),(600005,⟨1,some (.arr 1 [.mp 500014 vb])⟩),(500014,⟨vb,some (.map (aF lb) cb)⟩),(600100,⟨1,some (.itr 500004 va ca seen)⟩),(600205,⟨w,none⟩),(600461,⟨w,none⟩),(600591,⟨w,none⟩)]
abbrev Ch(va ca vb cb:Nat)(la lb:List (Nat×Nat))(seen:List Nat)(w:Nat):List (Nat×aI):=
 [(500004,⟨va,some (.map (aF la) ca)⟩),(600005,⟨1,some (.arr 1 [.mp 500014 vb])⟩),(500014,⟨vb,some (.map (aF lb) cb)⟩),(600100,⟨1,some (.itr 500004 va ca seen)⟩),(600205,⟨w+1,some (.arr 1 [])⟩),(600461,⟨w,none⟩),(600591,⟨w,none⟩)]
section
variable(va ca vb cb w:Nat)(la lb:List (Nat×Nat))(seen:List Nat)(x:Nat)
theorem zd(t:Bool)(l:List D)(a:aa):∃cfg b ob fts,bP Pg cfg 19 zb (List.range' 1 (zb.size-1)) ⟨aq (ag (qb va w)) 8 (.tup (.d (.bool t)::l.map .d)),af (pU va ca vb cb la lb seen w) a⟩=some (b,ob,fts)∧dg Pg ob∧∀X:bD,Weak X b ⟨ag (qb va w ++[(9,dB t)]),af (pU va ca vb cb la lb seen w) a⟩:=
 r8 ed named {} 2000 109 1 600300 19 zb 1 (by kernel_rfl)
theorem Ci(a:aa):∃cfg b ob fts,bP Pg cfg 19 zc (List.range' 1 (zc.size-1)) ⟨aq (ag (qb va w ++[(9,dB true)])) 10 (.tup [.d (.int .i64 (x:Int)), .d (.agg [])]),af (pU va ca vb cb la lb seen w) a⟩=some (b,ob,fts)∧dg Pg ob∧∀X:bD,Weak X b ⟨ag (qb va w ++[(4,dN x),(5, .ptr 600205 (w+1) 0 0 1)]),af (Ch va ca vb cb la lb seen w) a⟩:=
 r8 ed named {} 2000 109 2 600162 19 zc 1 (by kernel_rfl)
theorem ze(t:Bool)(r:Option Nat)(b:a6 x lb 0=r)(g:r.isSome= !t)(a:aa)(X:bD)(c:X.P=Pg)(d:X.N=19):
    AW X ER ⟨ag (qb va w ++[(4,dN x),(5, .ptr 600205 (w+1) 0 0 1)]),af (Ch va ca vb cb la lb seen w) a⟩ fun f S'=>f= .normal∧Weak X S' ⟨ag (qb va w ++[(4,dN x),(16,dB t)]),af (pU va ca vb cb la lb seen (w+1)) a⟩:=by
 cases r with
 |none=>
  have e:t=true:=by cases t<;>simp_all
  subst e;exact EJ ed named {hint:=qT 110 [(11,gH Pg x lb none b)]} 2000 109 600400 19 (by kernel_rfl) X c d
 |some i=>
  have e:t=false:=by cases t<;>simp_all
  subst e;exact EJ ed named {hint:=qT 110 [(11,gH Pg x lb (some i) b)]} 2000 109 600400 19 (by kernel_rfl) X c d
theorem Cj(t:Bool)(a:St)(c:a.env 0= .mp 500004 va)(b:a.env 4=dN x):∃fts,bP Pg {} 19 Bv (List.range' 0 2) a=some (⟨aq (aq a.env 17 (.mp 500004 va)) 18 (dN x),a.heap⟩,[],fts):=by
 rw[←c,←b];exact sd (by kernel_rfl)
end
theorem jG{X:bD}{env:Nat→AV}{h h':aa}{l:List (Nat×AV)}(b:∀p∈l,p.2=env p.1)(a:h=h'):Weak X ⟨env,h⟩ ⟨ag l,h'⟩:=by
 subst a;exact iB b
section
variable{va ca vb cb:Nat}{la lb:List (Nat×Nat)}(g:(la.map (·.1)).Nodup)(f:(la.map (·.2)).Nodup)(n:∀p∈la,p.2<ca)
include g f n
theorem AK(c:List (Nat×Nat))(seen a:List Nat)(w:Nat)(b:aa):aq (af (pU va ca vb cb c lb seen w) b) 600100 ⟨1,some (.itr 500004 va ca a)⟩=af (pU va ca vb cb c lb a w) b:=by
 funext k;simp only[af,aq];by_cases d:k=600100
 ·subst d;simp
 ·simp[d]
theorem AL(c b:List (Nat×Nat))(seen:List Nat)(w:Nat)(a:aa):aq (af (pU va ca vb cb c lb seen w) a) 500004 ⟨va,some (.map (aF b) ca)⟩=af (pU va ca vb cb b lb seen w) a:=by
 funext k;simp only[af,aq];by_cases d:k=500004
 ·subst d;simp
 ·simp[d]
set_option maxRecDepth 100000 in
theorem Ck(r:aa)(X:bD)(s:X.P=Pg)(A:X.N=19):∀(m:Nat)(o:List Nat),la.length-o.length=m→o.Nodup→(∀v∈o,v∈la.map (·.2))→
    LW X AD ⟨ag (qb va 0),af (pU va ca vb cb (jF ⟨lb,cb⟩ o la) lb o o.length) r⟩ fun e' S'=>e'= .exit 0∧∃L,Weak X S' ⟨ag [(0, .mp 500004 va)],af (pU va ca vb cb (la.filter fun e=>(⟨lb,cb⟩:SureL).has e.1) lb L la.length) r⟩:=fun m=>by
 induction m using Nat.strongRecOn with
 |ind m ih=>
  intro o hm hn hs
  have V:o.length≤la.length:=by
   have:=List.Nodup.length_le_of_subset hn hs;rwa [xV]at this
  have C:∀p∈jF ⟨lb,cb⟩ o la,p∈la:=fun p hp=>(yi.1 hp).1
  refine eB ?_;rw[j9]
  refine cd (dQ (cfg:={}) (ob:=[]) (fts:=[]) (p:=0) (S1:=⟨ag (qb va 0),af (pU va ca vb cb (jF ⟨lb,cb⟩ o la) lb o o.length) r⟩) (Out:=rS (af (pU va ca vb cb (jF ⟨lb,cb⟩ o la) lb o o.length) r) 600100 1 500004 va ca (aF (jF ⟨lb,cb⟩ o la)) o) AF mF.2.1 (fun c=>by rw[mF.1];intro h;cases h) rfl (fl _)
   (fun G w a S u=>vY S u mF.1 rfl (by simp[af,aq]) (by simp[af,aq]) (fun e K=> ?_)) ?_)
  ·obtain⟨p,hp,rfl⟩:=xf.1 K
   exact n p (C p hp)
  ·rintro x h' (⟨rfl,rfl,J⟩|⟨e,K,M,rfl,rfl⟩)
   ·obtain⟨cfg,S3,ob,fts,h1,h2,Z⟩:=zd va ca vb cb o.length (jF ⟨lb,cb⟩ o la) lb o false [] r
    refine⟨cfg,_,S3,ob,fts,by rw[A,mF.2.2.1];rfl,by rw[s,A];exact h1,by rw[s];exact h2,_,Z X, ?_⟩;have U:∀e∈jF ⟨lb,cb⟩ o la,e.2∈o:=fun e K=>J _ (xf.2 ⟨e,K,rfl⟩)
    have D:o.length=la.length:=by
     refine Nat.le_antisymm V ?_
     have:=List.Nodup.length_le_of_subset f (l₂:=o) (fun v hv=>by
      obtain⟨p,hp,rfl⟩:=xf.1 hv;cases B:o.contains p.2 with
      |true=>exact List.contains_iff_mem.1 B
      |false=>exact U p (yi.2 ⟨hp,by show(!(o.contains p.2)||_)=true;rw[B];rfl⟩))
     rwa [xV]at this
    have O:=AI U;refine cd (dM (b:=false) rfl (fun h=>by cases h) (fun _=>k4 ⟨rfl,o,jG (fun p hp=> ?_) (by rw[O,D])⟩));rw[xH]at hp;subst hp;rfl
   ·obtain⟨p,hp,rfl⟩:=xf.1 K
    simp only at M ⊢;have Y:=C p hp;rw[AK g f n];obtain⟨cfg,S3,ob,fts,h1,h2,Z⟩:=zd va ca vb cb o.length (jF ⟨lb,cb⟩ o la) lb (o ++[p.2]) true [.int .i64 (p.1:Int), .agg []] r;refine⟨cfg,_,S3,ob,fts,by rw[A,mF.2.2.1];rfl,by rw[s,A];exact h1,by rw[s];exact h2,_,Z X, ?_⟩;refine cd (dM (b:=true) rfl (fun _=>je ?_) (fun h=>by cases h))
    refine ey (cd (dQ (cfg:={}) (ob:=[]) (fts:=[]) (p:=0) (S1:=⟨ag (qb va 0 ++[(9,dB true)]),af (pU va ca vb cb (jF ⟨lb,cb⟩ o la) lb (o ++[p.2]) o.length) r⟩) (Out:=fun R h'=>R= .tup [.d (.int .i64 (p.1:Int)), .d (.agg [])]∧h'=af (pU va ca vb cb (jF ⟨lb,cb⟩ o la) lb (o ++[p.2]) o.length) r) AG oH.2.1 (fun c=>by rw[oH.1];intro h;cases h) rfl (fl _)
     (fun G w a S u=>un S u oH.1 rfl (e:=(.int .i64 (p.1:Int), .agg [],p.2)) (seen:=o) (I:=600100) (vI:=1) (k:=500004) (v:=va) (c:=ca) (es:=aF (jF ⟨lb,cb⟩ o la)) (by simp[af,aq]) (by simp[af,aq]) (xf.2 ⟨p,hp,rfl⟩) (by
      unfold aF;rw[List.map_map];exact(List.Sublist.map _ List.filter_sublist).nodup f)) ?_))
    rintro R h' ⟨rfl,rfl⟩;obtain⟨F,S4,ob2,T,g1,g2,g3⟩:=Ci va ca vb cb o.length (jF ⟨lb,cb⟩ o la) lb (o ++[p.2]) p.1 r;refine⟨F,_,S4,ob2,T,by rw[A,oH.2.2.1];rfl,by rw[s,A];exact g1,by rw[s];exact g2,_,g3 X, ?_⟩
    have H:(o ++[p.2]).Nodup:=by
     rw[List.nodup_append];exact⟨hn,by simp,fun a ha b f=>by rw[xH]at f;subst f;exact fun e=>M (e▸ha)⟩
    have Q:∀v∈o ++[p.2],v∈la.map (·.2):=fun v hv=>by
     rcases xJ.1 hv with h|h
     ·exact hs v h
     ·rw[xH]at h
      subst h;exact xf.2 ⟨p,Y,rfl⟩
    have hl2:o.length<la.length:=by
     have:=List.Nodup.length_le_of_subset H Q;rw[xZ,List.length_singleton,xV]at this;omega
    have next:=ih (la.length-(o ++[p.2]).length) (by rw[xZ,List.length_singleton];omega) (o ++[p.2]) rfl H Q
    rw[xZ,List.length_singleton]at next
    cases E:(⟨lb,cb⟩:SureL).has p.1 with
    |true=>
     rw[wx f hp E]at next
     refine cd ((ze va ca vb cb o.length (jF ⟨lb,cb⟩ o la) lb (o ++[p.2]) p.1 false _ rfl (by unfold SureL.has at E;rw[E];rfl) r X s A).mono ?_);rintro e' S' ⟨rfl,hw⟩;refine AW.weak hw (dM (b:=false) rfl (fun h=>by cases h) (fun _=>je ?_));rw[←j9]
     exact LW.weak (jG (l:=qb va 0) (fun q B=>by
      simp only[qb,xR,yD,or_false]at B;rcases B with rfl|rfl|rfl<;>rfl) rfl) next
    |false=>
     rw[wy g f hp E]at next
     refine cd ((ze va ca vb cb o.length (jF ⟨lb,cb⟩ o la) lb (o ++[p.2]) p.1 true _ rfl (by unfold SureL.has at E;rw[E];rfl) r X s A).mono ?_);rintro e' S' ⟨rfl,hw⟩;refine AW.weak hw (dM (b:=true) rfl (fun _=> ?_) (fun h=>by cases h));obtain⟨fts4,k1⟩:=Cj va p.1 true ⟨ag (qb va 0 ++[(4,dN p.1),(16,dB true)]),af (pU va ca vb cb (jF ⟨lb,cb⟩ o la) lb (o ++[p.2]) (o.length+1)) r⟩ rfl rfl;obtain⟨i,W⟩:=nD (j:=0) ⟨p,hp,rfl⟩;rw[xe]at W;have z:=mH (l:=jF ⟨lb,cb⟩ o la) (x:=p.1) (j:=0) (i:=i) ((List.Sublist.map _ List.filter_sublist).nodup g) (W.trans (by rw[xe]));refine dQ (cfg:={}) (p:=2) (Out:=fun R h'=>R= .tup []∧h'=aq (af (pU va ca vb cb (jF ⟨lb,cb⟩ o la) lb (o ++[p.2]) (o.length+1)) r) 500004 ⟨va,some (.map ((aF (jF ⟨lb,cb⟩ o la)).eraseIdx i) ca)⟩) AH mG.2.1 (fun c=>by rw[mG.1];intro h;cases h) (by rw[s,A];exact k1) (fl _) (fun G w a S u=> ?_) ?_
     ·obtain⟨v',w',G',q1,q2,q3,q4⟩:=sS (P:=X.P) S u (t:=140) (kt:=3) (et:=ES) (m:= .tmp 17) (x:= .tmp 18) (k:=500004) (v:=va) (c:=ca) (es:=aF (jF ⟨lb,cb⟩ o la)) (kd:= .int .i64 (p.1:Int)) (y:= .agg []) (i:=i) mG.1 kc.1 kc.2.1 kc.2.2 (by rw[s];exact uV) rfl rfl (by simp[af,aq]) (by rw[s];kernel_rfl) (by rw[j4,W];rfl)
      exact⟨v',w',G',_,_,q1,q2,q3,q4,rfl,rfl⟩
     ·rintro R h' ⟨rfl,rfl⟩
      refine⟨{},_,_,[],[],by rw[mG.2.2.1];rfl,by rw[mG.2.2.2];rfl,fl _,_,Weak.refl _, ?_⟩;rw[kE,z,AL g f n];rw[←j9]
      exact LW.weak (jG (l:=qb va 0) (fun q B=>by
       simp only[qb,xR,yD,or_false]at B;rcases B with rfl|rfl|rfl<;>rfl) rfl) next
abbrev Dm(va ca vb cb:Nat)(la lb:List (Nat×Nat)):List (Nat×aI):=
 [(500004,⟨va,some (.map (aF la) ca)⟩),(600005,⟨1,some (.arr 1 [.mp 500014 vb])⟩),(500014,⟨vb,some (.map (aF lb) cb)⟩),(600100,⟨0,none⟩),(600205,⟨0,none⟩),(600461,⟨0,none⟩),(600591,⟨0,none⟩)]
abbrev ET(va ca vb cb:Nat)(la lb:List (Nat×Nat))(w:Nat):List (Nat×aI):=
 [(500004,⟨va,some (.map (aF la) ca)⟩),(600005,⟨1,some (.arr 1 [.mp 500014 vb])⟩),(500014,⟨vb,some (.map (aF lb) cb)⟩),(600100,⟨1,none⟩),(600205,⟨w,none⟩),(600461,⟨w,none⟩),(600591,⟨w,none⟩)]
theorem Cl(a:St)(h:a.env 0= .mp 500004 va):∃fts,bP Pg {} 19 Bu (List.range' 0 1) a=some (⟨aq a.env 6 (.mp 500004 va),a.heap⟩,[],fts):=by
 rw[←h];exact sd (by kernel_rfl)
theorem DM(b:aa):az Pg 109 [.mp 500004 va, .fn 110 [.ptr 600005 1 0 0 1]] (af (Dm va ca vb cb la lb) b) [] (af (ET va ca vb cb (la.filter fun e=>(⟨lb,cb⟩:SureL).has e.1) lb la.length) b):=by
 refine gr ed Tryz.func109 (c:=DL) (by kernel_rfl) (by kernel_rfl) (by rw[show Tryz.f109.ntmps=19 by kernel_rfl];exact Nat.le_of_ble_eq_true rfl) fun X l i=> ?_
 have i:X.N=19:=i.trans (by kernel_rfl);rw[s6];obtain⟨r,y⟩:=Cl (va:=va) g f n ⟨dY [.mp 500004 va, .fn 110 [.ptr 600005 1 0 0 1]],af (Dm va ca vb cb la lb) b⟩ rfl;refine cd (dQ (cfg:={}) (ob:=[]) (p:=1) (Out:=fun x h'=>x= .itr 600100 1∧h'=aq (af (Dm va ca vb cb la lb) b) 600100 ⟨1,some (.itr 500004 va ca [])⟩) AE mE.2.1 (fun c=>by rw[mE.1];intro h;cases h) (by rw[l,i];exact y) (fl _) (fun G w a z j=> ?_) ?_)
 ·obtain⟨C,u,B,d,h2,m,s⟩:=um (P:=X.P) z j 600100 mE.1 (by rw[l];exact uV) (k:=500004) (v:=va) (es:=aF la) (c:=ca) rfl (by simp[af,aq])
  have e:(af (Dm va ca vb cb la lb) b 600100).ver=0:=by simp[af,aq]
  simp only[e]at m s;exact⟨C,u,B,_,_,d,h2,m,s,rfl,rfl⟩
 ·rintro x h' ⟨rfl,rfl⟩
  refine⟨{},_,_,[],[],by rw[i,mE.2.2.1];rfl,by rw[mE.2.2.2];rfl,fl _,⟨ag (qb va 0),af (pU va ca vb cb la lb [] 0) b⟩,jG (fun q o=> ?_) ?_, ?_⟩
  ·simp only[qb,xR,yD,or_false]at o
   rcases o with rfl|rfl|rfl<;>rfl
  ·funext k
   simp only[af,aq];by_cases d:k=600100
   ·subst d;simp
   ·simp[d]
  ·have lp:=Ck (va:=va) (vb:=vb) (cb:=cb) (lb:=lb) g f n b X l i _ [] rfl yE (fun v D=>by cases D)
   rw[AJ]at lp;refine ey (jn (lp.aw.mono ?_));rintro E S' ⟨rfl,t,A⟩;refine⟨_,A.trans (fj (h':=af (ET va ca vb cb (la.filter fun e=>(⟨lb,cb⟩:SureL).has e.1) lb la.length) b) fun k=> ?_), .inl rfl,by kernel_rfl,rfl⟩;simp only[af,aq];by_cases d:k=600100
   ·subst d;simp
   ·simp[d]
end
section
variable(va ca vb cb:Nat)(la lb:List (Nat×Nat))
theorem Cm(y:Bool)(a:aa):az Pg 102 [.mp 500004 va, .mp 500014 vb,dB true,dB y] (af [(600005,⟨0,none⟩)] a) [.mp 500014 vb] (af [(600005,⟨1,none⟩)] a):=
 dn ed named {} 2000 600000 _ (by kernel_rfl)
theorem Cn(a:aa):az Pg 102 [.mp 500004 va, .mp 500014 vb,dB false,dB true] (af [(600005,⟨0,none⟩)] a) [.mp 500004 va] (af [(600005,⟨1,none⟩)] a):=
 dn ed named {} 2000 600000 _ (by kernel_rfl)
theorem Co(d:(la.map (·.1)).Nodup)(c:(la.map (·.2)).Nodup)(b:∀p∈la,p.2<ca)(a:aa):az Pg 102 [.mp 500004 va, .mp 500014 vb,dB false,dB false] (af [(500004,⟨va,some (.map (aF la) ca)⟩),(500014,⟨vb,some (.map (aF lb) cb)⟩),(600005,⟨0,none⟩),(600100,⟨0,none⟩),(600205,⟨0,none⟩),(600461,⟨0,none⟩),(600591,⟨0,none⟩)] a) [.mp 500004 va]
    (af [(500004,⟨va,some (.map (aF (la.filter fun e=>(⟨lb,cb⟩:SureL).has e.1)) ca)⟩),(500014,⟨vb,some (.map (aF lb) cb)⟩),(600005,⟨1,none⟩),(600100,⟨1,none⟩),(600205,⟨la.length,none⟩),(600461,⟨la.length,none⟩),(600591,⟨la.length,none⟩)] a):=
 dn ed named ({calls:=fun f s _=>if f=102 then (if s=17 then some (dh (DM (va:=va) (ca:=ca) (vb:=vb) (cb:=cb) (la:=la) (lb:=lb) d c b))else none)else none}) 2000 600000 _ (by kernel_rfl)
end
end Go.Avm
namespace Go.Avm
open Go.Proofs
def sw(k:Nat):Nat:=bif Nat.beq k 500004 then 500014 else bif Nat.beq k 500014 then 500004 else k
theorem uW{a b:Nat}(h:a≠b):Nat.beq a b=false:=by
 cases c:Nat.beq a b with
 |false=>rfl
 |true=>exact absurd (xn c) h
theorem nE(k:Nat):sw (sw k)=k:=by
 by_cases a:k=500004
 ·subst a;rfl
 ·by_cases h2:k=500014
  ·subst h2;rfl
  ·have e:sw k=k:=by
     unfold sw;rw[uW a,uW h2];rfl
   rw[e,e]
theorem pV:Names sw fun j=>some (sw j):=⟨fun k=>by simp only[nE],fun j k h=>by
 have:sw j=k:=Option.some.inj h;rw[←this,nE]⟩
theorem mI(a:aa):∀(l:List (Nat×aI))(j:Nat),bQ sw (af l a (sw j))=af (l.map fun p=>(sw p.1,bQ sw p.2)) (du sw (fun j=>some (sw j)) a) j
 |[],j=>rfl
 |(k,e)::r,j=>by
  simp only[xI,af,aq];by_cases h:sw j=k
  ·have h2:j=sw k:=by rw[←h,nE]
   rw[xW h,xW h2]
  ·have h2:¬j=sw k:=fun h2=>h (by rw[h2,nE])
   rw[xi h,xi h2];exact mI a r j
abbrev wz(S:CK):List AV:=[.mp 499904 1, .d (.ro (S.fs.map cR)), .sl 500191 1 0 S.fs.length 1, .sl 500382 S.vp 0 S.c.pts.length 3,dN S.fn, .mp 500002 S.vh, .mp 500003 S.vs, .mp 500014 S.vq,dI S.deep]
abbrev s7(S:CK):List (Nat×aI):=
 [(500000,⟨1,some (.arr 1 (wz S))⟩),(499904,⟨1,some (.map (fQ 0 S.fs) S.fs.length)⟩),(500002,⟨S.vh,some (.map (dJ 0 S.c.vars) S.c.vars.length)⟩),(500003,⟨S.vs,some (.map (br 0 S.c.seen) S.c.seen.length)⟩),
  (500014,⟨S.vq,some (.map (aF S.c.sure.l) S.c.sure.c)⟩),(500005,⟨S.vv,some (.arr 4 (S.c.vars.map qa))⟩),(500382,⟨S.vp,some (.arr 3 (S.c.pts.map bn))⟩),(500191,⟨1,some (.arr 1 (S.W.set S.fn (gG S.vv S.c.vars)))⟩)]
theorem ru{S:CK}(h:CKok S):((s7 S).map fun p=>(sw p.1,bQ sw p.2))=ck S:=by
 have a:sw 500005=500005:=rfl;have f:sw 500000=500000:=rfl;have g:sw 499904=499904:=rfl;have i:sw 500002=500002:=rfl;have d:sw 500003=500003:=rfl;have c:sw 500014=500004:=rfl;have b:sw 500382=500382:=rfl;have e:sw 500191=500191:=rfl;simp only[ck,rU,s7,wz,xI,xg,bQ,xP,gT,jC,mt,yr h a,bz,aH,f,g,i,d,c,b,e,a]
abbrev se(g:Gv):List (Nat×aI):=[(500000,⟨1,none⟩),(499904,⟨1,none⟩),(500002,⟨g.vh,none⟩),(500003,⟨g.vs,none⟩),(500014,⟨g.vq,none⟩),(500005,⟨g.vv,none⟩),(500382,⟨g.vp,none⟩),(500191,⟨1,none⟩)]
theorem uX(g:Gv):((se g).map fun p=>(sw p.1,bQ sw p.2))=bo g:=by kernel_rfl
theorem s8{S S':CK}(h:CKok S)(h':CKok S'){f:Nat}{d:D}(c:HC f [an, .d d] (ck S) [] (ck S')):HC f [an, .d d] (s7 S) [] (s7 S'):=fun a=>by
 have e:du sw (fun j=>some (sw j)) (af (s7 S) a)=af (ck S) (du sw (fun j=>some (sw j)) a):=by
  funext j;have:=mI a (s7 S) j;rw[ru h]at this;exact this
 refine ns pV (h2:=af (ck S') (du sw (fun j=>some (sw j)) a)) ?_ fun k=> ?_
 ·rw[e]
  exact c _
 ·have:=mI a (s7 S') (sw k)
  rw[ru h',nE]at this;exact this.symm
theorem uY{S:CK}(h:CKok S){g:Gv}{f:Nat}{d:D}{p e:Int}(c:HX f [an, .d d] (ck S) (am p e) (bo g)):HX f [an, .d d] (s7 S) (am p e) (se g):=fun a=>by
 have e:du sw (fun j=>some (sw j)) (af (s7 S) a)=af (ck S) (du sw (fun j=>some (sw j)) a):=by
  funext j;have:=mI a (s7 S) j;rw[ru h]at this;exact this
 refine pG pV (h2:=af (bo g) (du sw (fun j=>some (sw j)) a)) ?_ fun k=> ?_
 ·rw[e]
  exact c _
 ·have:=mI a (se g) (sw k)
  rw[uX,nE]at this;exact this.symm
end Go.Avm
namespace Go.Avm
open Go.Proofs
abbrev DN(S S':CK)(l:List cf):Prop:=HC 96 [an, .d (.ro (cZ l))] (ck S) [] (ck S')
abbrev Cp(S S':CK)(l:List cf):Prop:=HC 96 [an, .d (.ro (cZ l))] (s7 S) [] (s7 S')
abbrev e7(l:List cf)(b:Bool):Prop:=HC 69 [.d (.ro (cZ l))] [] [.bool b] []
theorem mJ{P:Program}(hm:d4 P){f:Nat}{a m:List AV}{h k h2:aa}(j:az P f a h m k)(y:∀(X:bD)(env:Nat→AV),Weak X ⟨env,k⟩ ⟨env,h2⟩):az P f a h m h2:=by
 refine⟨j.1,fun G B w0 I0 w c x s d=>(j.2 G B w0 I0 w c x s d).mono ?_⟩;rintro e u ⟨v,q,rfl,r,C,o⟩
 let X:bD:={P:=P,B:=B,w0:=w0,I0:=I0,N:=0,mixed:=hm}
 obtain⟨A,i,p,_⟩:=y X (fun _=> .junk) q {tmps:= #[],defers:=[]} u ⟨C,[],⟨rfl,rfl,fun t z=>absurd z (by simp[X]),fun _ _=>rfl⟩,⟨yE,fun b g=>by simp at g,fun b g=>by simp at g,fun l n=>by simp[X]at n,yd _⟩⟩;exact⟨v,A,rfl,r.trans i,p,o.mono i⟩
abbrev zf:List (Nat×aI):=[(500014,⟨0,none⟩)]
abbrev Bx(S:CK)(a:Nat):List (Nat×aI):=
 [(500000,⟨1,some (.arr 1 (wz S))⟩),(499904,⟨1,some (.map (fQ 0 S.fs) S.fs.length)⟩),(500002,⟨S.vh,some (.map (dJ 0 S.c.vars) S.c.vars.length)⟩),(500003,⟨S.vs,some (.map (br 0 S.c.seen) S.c.seen.length)⟩),
  (500004,⟨a,none⟩),(500005,⟨S.vv,some (.arr 4 (S.c.vars.map qa))⟩),(500382,⟨S.vp,some (.arr 3 (S.c.pts.map bn))⟩),(500191,⟨1,some (.arr 1 (S.W.set S.fn (gG S.vv S.c.vars)))⟩),(500014,⟨S.vq,some (.map (aF S.c.sure.l) S.c.sure.c)⟩)]
theorem Cq{S S':CK}(h:CKok S)(h':CKok S'){g:Nat}{ar:List AV}(i:bz (cK ((ck S ++zf).map (·.1)) 1000000) ar=ar):Cln ((ck S ++zf).map (·.1)) 1000000 ar (ck S ++zf) (Bx S' g):=
 ⟨rfl,rfl,rfl,i,by
  have a:=dr h (ρ:=cK ((ck S ++zf).map (·.1)) 1000000) rfl;rw[xM,xM (f:=fun p:Nat×aI=>p.2),a];rfl,by
  have a:=dr h' (ρ:=cK ((ck S ++zf).map (·.1)) 1000000) rfl;simp only[ck,xI,xg,List.cons.injEq,yp]at a;obtain⟨m,l,e,b,k,c,d,j⟩:=a;simp only[Bx,xI,xg,l,e,b,k,c,d,j,List.cons.injEq,yp];refine⟨?_,trivial,trivial,trivial,rfl⟩;simp only[bQ,xP,gT,bz,aH];rfl⟩
section
variable{S:CK}(h:CKok S)(k id:Int)(x:List UInt8)(ty n p:Int)(u s:Int)(f:List UInt8)(m o:Int)(b z:List Ex)(i j:List cf)
include h
theorem E8(q r:Int)(c:eL S (.mk u s f m o b) [2] q r):HX 94 [an,cI k id x ty n p (.mk u s f m o b::z) i j] (ck S) (am q r) (ck S):=
 qX {pans:=aU Pg [(94,1,2049,⟨6,some (cJ (wP c 2305)),[]⟩)]} 2000 (al h h rfl)
section
variable{t:Int}(w:gV S (.mk u s f m o b) [2] t)
include w
theorem E9(g:Gv)(q r:Int)(c:HX 96 [an, .d (.ro (cZ i))] (ck S) (am q r) (bo g)):HX 94 [an,cI k id x ty n p (.mk u s f m o b::z) i j] (ck S) (am q r) (bo g):=
 qX {calls:=tC [(94,12,2343,aL rfl (wO w 2305)),(94,17,2539,dh (iL S.vq (aF S.c.sure.l) S.c.sure.c))],pans:=aU Pg [(94,3,2588,⟨3,some (cJ c),[]⟩)]} 2000 (fI h rfl)
variable{S1:CK}(A:CKok S1)(c1:DN S S1 i)
include A c1
theorem Fa(g:Gv)(q r:Int)(c:HX 96 [an, .d (.ro (cZ j))] (s7 (S1.sureAs S.c.sure 1)) (am q r) (se g)):HX 94 [an,cI k id x ty n p (.mk u s f m o b::z) i j] (ck S) (am q r) (bo {g with vq:=S1.vq}):=
 qX {calls:=tC [(94,12,2343,aL rfl (wO w 2305)),(94,17,2539,dh (iL S.vq (aF S.c.sure.l) S.c.sure.c)),(94,21,2735,dh c1)],pans:=aU Pg [(94,6,3225,⟨3,some (cJ c),[]⟩)]} 2000 (fI h rfl)
variable{d:CK}(g:Cp (S1.sureAs S.c.sure 1) d j)
include g
theorem DP(y:Bool)(h':CKok d)(e:e7 i true)(a:e7 j y):HC 94 [an,cI k id x ty n p (.mk u s f m o b::z) i j] (ck S ++zf) [] (Bx d S1.vq):=
 qN {calls:=tC [(94,12,2343,aL rfl (wO w 2305)),(94,17,2539,dh (iL S.vq (aF S.c.sure.l) S.c.sure.c)),(94,21,2735,dh c1),(94,33,3372,dh g),(94,42,3764,aL rfl e),(94,45,3862,aL rfl a),(94,46,3862,dh (Cm S1.vq d.vq y))]} 2000 (Cq h h' rfl)
theorem Fb(y:Bool)(B:CKok d)(h':CKok (d.sureAs d.c.sure (S1.vq+1)))(F:e7 i true)(D:e7 j y):HC 94 [an,cI k id x ty n p (.mk u s f m o b::z) i j] (ck S) [] (ck (d.sureAs d.c.sure (S1.vq+1))):=fun q=>by
 refine gA (M:=1000000) (al h h' rfl) (fun q=> ?_) q;have c:=DP h k id x ty n p u s f m o b z i j w A c1 g y B F D (cG 1000000 q)
 have e:af (ck S ++zf) (cG 1000000 q)=af (ck S) (cG 1000000 q):=by
  funext k;simp only[ck,zf,yB,yg,af,aq];by_cases r:k=500014
  ·subst r;rfl
  ·rw[xi r]
 rw[e]at c;refine⟨_,mJ ed c fun X env=>jv (C:=500000) (a:=7) (T:=500014) (K:=500004) (v:=d.vq) (c:=d.c.sure.c) (ces:=wz d) (es:=aF d.c.sure.l) (by decide) (by decide) (by decide) rfl rfl (by simp[Bx,af,aq]),fun k r=> ?_,fun k r=> ?_⟩
 ·simp only[xI,xg,xR,yD,or_false]at r
  rcases r with rfl|rfl|rfl|rfl|rfl|rfl|rfl|rfl<;>simp[Bx,ck,rU,CK.sureAs,af,aq]
 ·have N:k≠500000:=by omega
  have m:k≠499904:=by omega
  have J:k≠500002:=by omega
  have O:k≠500003:=by omega
  have E:k≠500004:=by omega
  have I:k≠500005:=by omega
  have H:k≠500382:=by omega
  have G:k≠500191:=by omega
  have L:k≠500014:=by omega
  simp only[Bx,ck,af,aq,N,m,J,O,E,I,H,G,L,ya]
theorem Fc(h':CKok (d.sureAs S1.c.sure S1.vq))(e:e7 i false)(a:e7 j true):HC 94 [an,cI k id x ty n p (.mk u s f m o b::z) i j] (ck S) [] (ck (d.sureAs S1.c.sure S1.vq)):=
 qN {calls:=tC [(94,12,2343,aL rfl (wO w 2305)),(94,17,2539,dh (iL S.vq (aF S.c.sure.l) S.c.sure.c)),(94,21,2735,dh c1),(94,33,3372,dh g),(94,42,3764,aL rfl e),(94,45,3862,aL rfl a),(94,46,3862,dh (Cn S1.vq d.vq))]} 2000 (al h h' rfl)
theorem Fd(h':CKok (d.sureAs (S1.c.sure.both d.c.sure) S1.vq))(e:e7 i false)(a:e7 j false):HC 94 [an,cI k id x ty n p (.mk u s f m o b::z) i j] (ck S) [] (ck (d.sureAs (S1.c.sure.both d.c.sure) S1.vq)):=
 qN {calls:=tC [(94,12,2343,aL rfl (wO w 2305)),(94,17,2539,dh (iL S.vq (aF S.c.sure.l) S.c.sure.c)),(94,21,2735,dh c1),(94,33,3372,dh g),(94,42,3764,aL rfl e),(94,45,3862,aL rfl a),(94,46,3862,dh (Co S1.vq S1.c.sure.c d.vq d.c.sure.c S1.c.sure.l d.c.sure.l A.sk A.sb A.sc))]} 2000 (al h h' rfl)
end
end
end Go.Avm
namespace Go.Avm
open Go.Proofs
abbrev mK(P:Pl)(es:List Ex)(d e:List cf)(c:CS):TR CS:=(aD (c.te P.fs) es [[2]] false).bind fun _=>(de P.in d c).bind fun a=>(de P.in e {a with sure:=c.sure}).bind fun b=>
 .ok {b with sure:=bif cT d then b.sure else bif cT e then a.sure else a.sure.both b.sure}
theorem wA{P:Pl}{S:CK}(a:At P S){q:SureL}(b:QOk q S.c.vars.length)(v:Nat):At P (S.sureAs q v):=⟨oG a.ok b v,a.fs,a.fn,a.deep⟩
theorem wB{P:Pl}{m j:List cf}(M:∀S,At P S→TC S 96 [an, .d (.ro (cZ m))] (de P.in m S.c))(R:∀S,At P S→TC S 96 [an, .d (.ro (cZ j))] (de P.in j S.c))(N:ic m)(Q:ic j)
    (k id:Int) (z:List UInt8) (ty n p:Int) (es:List Ex) (S:CK) (a:At P S):TC S 94 [an,cI k id z ty n p es m j] (mK P es m j S.c):=by
 unfold mK;match es with
 |[]=>simp only[aD];trivial
 | .mk u x h s y i::D=>
  have c:=Ah a.ok (.mk u x h s y i) 2;unfold WX at c;rw[a.fs]at c;rw[aQ];revert c;cases bf (S.c.te P.fs) (.mk u x h s y i) [2]with
  |out=>exact fun _=>trivial
  |bad q r=>exact fun c=>ef (S':=S) (E8 a.ok k id z ty n p u x h s y i D m j q r c)
  |ok t=>
   intro w;have w:gV S (.mk u x h s y i) [2] t:=w;simp only[TR.bind,x9,cq];have c1:=M S a;revert c1;cases U:de P.in m S.c with
   |out=>exact fun _=>trivial
   |bad q r=>exact fun ⟨g,c⟩=>⟨g,E9 a.ok k id z ty n p u x h s y i D m j w g q r c⟩
   |ok F=>
    rintro⟨S1,b,c1⟩;have L:QOk S.c.sure S1.c.vars.length:=a.ok.q.mono b.vars.length_le;have C:=wA (a.nx b) L 1;have E:=R (S1.sureAs S.c.sure 1) C;have T:(S1.sureAs S.c.sure 1).c={F with sure:=S.c.sure}:=by rw[←b.c];rfl
    rw[T]at E;simp only;revert E;cases de P.in j {F with sure:=S.c.sure}with
    |out=>exact fun _=>trivial
    |bad q r=>exact fun ⟨g,c⟩=>⟨_,Fa a.ok k id z ty n p u x h s y i D m j w b.ok c1 g q r (uY C.ok c)⟩
    |ok H=>
     rintro⟨I,e,E⟩;have B:=s8 C.ok e.ok E;have G:S1.c.vars<+:I.c.vars:=e.vars;have A:∀(J:SureL)(v:Nat),QOk J I.c.vars.length→Nx S (I.sureAs J v) {H with sure:=J}:=fun J v O=>⟨oG e.ok O v,by rw[←e.c];rfl,e.fs.trans b.fs,e.fn.trans b.fn,e.deep.trans b.deep,e.W.trans b.W,b.vars.trans G⟩
     have l:=N;have o:=Q;unfold ic at l o;simp only[TR.bind];cases K:cT m with
     |true=>
      rw[K]at l;have f:=A H.sure (S1.vq+1) (by rw[←e.c];exact e.ok.q);rw[←e.c]at f ⊢;exact⟨_,f,Fb a.ok k id z ty n p u x h s y i D m j w b.ok c1 B (cT j) e.ok f.ok l o⟩
     |false=>
     rw[K]at l;cases h2:cT j with
     |true=>
      rw[h2]at o;have f:=A F.sure S1.vq (by rw[←b.c];exact b.ok.q.mono G.length_le);rw[←b.c]at f ⊢;exact⟨_,f,Fc a.ok k id z ty n p u x h s y i D m j w b.ok c1 B f.ok l o⟩
     |false=>
      rw[h2]at o;have f:=A (F.sure.both H.sure) S1.vq (by rw[←b.c];exact(b.ok.q.mono G.length_le).both);rw[←b.c,←e.c]at f ⊢;exact⟨_,f,Fd a.ok k id z ty n p u x h s y i D m j w b.ok c1 B f.ok l o⟩
end Go.Avm
namespace Go.Avm
open Go.Proofs
def s9:Nat→List (List UInt8)→List Pm→TR Unit
 |_,_,[]=> .ok ()
 |k,a,p::r=>bif decide (6≤k)then .bad p.p 9 else bif a.any (· ==p.nm)then .bad p.p 7 else s9 (k+1) (a ++[p.nm]) r
def ke:List Fn→List Fn→TR Unit
 |_,[]=> .ok ()
 |a,f::r=>bif (cm f.nm a 0).isSome then .bad f.p 7 else (s9 0 [] f.ps).bind fun _=>ke (a ++[f]) r
def zg:List UInt8:=[109,97,105,110]
def oJ(fs:List Fn):TR Unit:=(ke [] fs).bind fun _=>match cm zg fs 0 with
 |none=> .bad 0 13
 |some (_,f)=>bif f.ps.isEmpty&&f.res==1 then .ok ()else .bad f.p 13
def qc:Nat→List (List UInt8)→List (D×D×Nat)
 |_,[]=>[]
 |i,x::r=>(.str x, .agg [],i)::qc (i+1) r
theorem sf:∀(l:List (List UInt8))(i:Nat)(x:List UInt8),qc i (l ++[x])=qc i l ++[(.str x, .agg [],i+l.length)]
 |[],_,_=>rfl
 |a::r,i,x=>by
  simp only[yB,qc,sf r (i+1) x,x6];rw[show i+1+r.length=i+(r.length+1) by omega]
theorem oK(x:List UInt8):∀(l:List (List UInt8))(i j:Nat),(l.any (· ==x))=false→bJ (.str x) (qc i l) j=some none
 |[],_,_,_=>rfl
 |e::r,i,j,h=>by
  simp only[List.any_cons,Bool.or_eq_false_iff]at h
  have a:(x==e)=false:=by
   have:=h.1;rw[yh]at this ⊢;exact this.symm
  simp only[qc,bJ,fK,a];exact oK x r (i+1) (j+1) h.2
theorem pW(x:List UInt8):∀(l:List (List UInt8))(i j:Nat),(l.any (· ==x))=true→∃q,bJ (.str x) (qc i l) j=some (some (q, .agg []))
 |[],_,_,h=>by cases h
 |e::r,i,j,h=>by
  simp only[qc,bJ,fK];cases a:(x==e)with
  |true=>exact⟨j,rfl⟩
  |false=>
   refine pW x r (i+1) (j+1) ?_;simp only[List.any_cons,yC]at h;refine h.resolve_left fun h2=> ?_
   rw[eq_of_beq h2]at a;simp at a
theorem sg:∀(l:List Fn)(i:Nat)(f:Fn),fQ i (l ++[f])=fQ i l ++[(.str f.nm, .int .i64 ((i+l.length:Nat):Int),i+l.length)]
 |[],_,_=>rfl
 |a::r,i,f=>by
  simp only[yB,fQ,sg r (i+1) f,x6];rw[show i+1+r.length=i+(r.length+1) by omega]
abbrev df(fs:List Fn)(es:List (D×D×Nat))(m:Nat)(nn:AV):List (Nat×aI):=
 [(500000,⟨1,some (.arr 1 [.mp 499904 1, .d (.ro (fs.map cR)), .sl 500191 1 0 fs.length 1, .sl 500382 1 0 1 3,dI 0,nn,nn,nn,dI 0])⟩),(499904,⟨1,some (.map es m)⟩),(500382,⟨1,some (.arr 3 [bn cS])⟩),(500191,⟨1,some (.arr 1 (List.replicate fs.length .nils))⟩)]
abbrev qd:List (Nat×aI):=[(500000,⟨1,none⟩),(499904,⟨1,none⟩),(500382,⟨1,none⟩),(500191,⟨1,none⟩)]
theorem kf{fs:List Fn}{es:List (D×D×Nat)}{m:Nat}{nn:AV}(b:∀ρ,aH ρ nn=nn){ρ:Nat→Nat}(a:([499904,500382,500191].map ρ)=[499904,500382,500191]):((df fs es m nn).map fun p=>bQ ρ p.2)=(df fs es m nn).map (·.2):=by
 simp only[xI,xg,List.cons.injEq,yp]at a;obtain⟨d,g,f⟩:=a
 have e:bz ρ (List.replicate fs.length AV.nils)=List.replicate fs.length AV.nils:=jD fun x c=>by
  rw[List.eq_of_mem_replicate c];rfl
 have hp:aH ρ (bn cS)=bn cS:=rfl;simp only[df,xI,xg,bQ,xP,gT,e,hp,bz,aH,d,g,f,b]
abbrev oL(l:List (List UInt8)):List (Nat×aI):=[(600047,⟨1,some (.map (qc 0 l) l.length)⟩)]
abbrev wC:List (Nat×aI):=[(600047,⟨1,none⟩)]
theorem uZ{fs:List Fn}{es es':List (D×D×Nat)}{m b:Nat}{nn:AV}(a:∀ρ,aH ρ nn=nn){ar:List AV}(c:bz (cK ((df fs es m nn).map (·.1)) 1000000) ar=ar):Cln ((df fs es m nn).map (·.1)) 1000000 ar (df fs es m nn) (df fs es' b nn):=⟨rfl,rfl,rfl,c,kf a rfl,kf a rfl⟩
section
variable{fs:List Fn}{es:List (D×D×Nat)}{m:Nat}{nn:AV}(a:∀ρ,aH ρ nn=nn)
include fs es m nn a
theorem kg{ar:List AV}(b:bz (cK ((df fs es m nn).map (·.1)) 1000000) ar=ar):Cln ((df fs es m nn).map (·.1)) 1000000 ar (df fs es m nn) qd:=⟨rfl,rfl,rfl,b,kf a rfl,rfl⟩
theorem u0{l l':List (List UInt8)}{ar:List AV}(e:List (Nat×aI))(c:e.map (·.1)=[600047])(b:(e.map fun p:Nat×aI=>bQ (cK ((df fs es m nn ++oL l).map (·.1)) 1000000) p.2)=e.map (·.2))(d:bz (cK ((df fs es m nn ++oL l).map (·.1)) 1000000) ar=ar):Cln ((df fs es m nn ++oL l).map (·.1)) 1000000 ar (df fs es m nn ++oL l) (df fs es m nn ++e):=
 ⟨rfl,rfl,by rw[xM,xM,c];rfl,d,by
  rw[xM,xM (f:=fun p:Nat×aI=>p.2),kf a rfl];rfl,by
  rw[xM,xM (f:=fun p:Nat×aI=>p.2),kf a rfl,b]⟩
theorem si{l:List (List UInt8)}{ar:List AV}(b:bz (cK ((df fs es m nn ++oL l).map (·.1)) 1000000) ar=ar):Cln ((df fs es m nn ++oL l).map (·.1)) 1000000 ar (df fs es m nn ++oL l) (qd ++wC):=
 ⟨rfl,rfl,rfl,b,by
  rw[xM,xM (f:=fun p:Nat×aI=>p.2),kf a rfl];rfl,rfl⟩
end
abbrev mL(fs:List Fn)(j:Nat)(a:List Pm)(k:Nat):List (Nat×AV):=[(0,an),(6, .mp 600047 1),(18, .d (.ro (fs.map cR))),(19,dN (fs.map cR).length),(20,dN j),(49, .d (.ro (a.map gU))),(50,dN (a.map gU).length),(51,dN k)]
abbrev DQ(fs:List Fn)(j:Nat):List (Nat×AV):=[(0,an),(18, .d (.ro (fs.map cR))),(19,dN (fs.map cR).length),(20,dN j)]
def Dn(P:Program)(a:List Pm)(k:Nat)(x:Pm)(b:a[k]? =some x):bj P:= .idx (a.map gU) ((k:Nat):Int) (gU x) (by omega) (by rw[yW,xK,b];rfl)
def AM(P:Program)(k:Nat)(t:Bool)(h:decide (6≤k)= !t):bj P:= .val (dB (decide ((k:Int)<6))) (dB t) (by
 congr 2;cases t
 ·have:=xw h
  rw[decide_eq_false_iff_not];omega
 ·have:=ym h
  rw[y6];omega)
section
variable{fs:List Fn}{es:List (D×D×Nat)}{m:Nat}{nn:AV}(b:∀ρ,aH ρ nn=nn)(j:Nat)(a:List Pm)(k:Nat)(l:List (List UInt8))
include b
theorem Cr(c:decide (k<(a.map gU).length)=false):RE 109 (lO 50 8) (mL fs j a k) (df fs es m nn ++oL l) (.exit 2) (DQ fs j) (df fs es m nn ++wC):=
 qE {hint:=qT 50 [(52,iM Pg k (a.map gU).length false c)]} 50 600000 (u0 b (l':=l) wC rfl rfl rfl)
section
variable(e:decide (k<(a.map gU).length)=true)(c:List UInt8)(ty p:Int)(d:a[k]? =some ⟨c,ty,p⟩)
include e d
theorem AN(f:decide (6≤k)=true):RE 109 (lO 50 8) (mL fs j a k) (df fs es m nn ++oL l) (.panic (am p 9)) [] (qd ++wC):=
 qE {hint:=qT 50 [(52,iM Pg k (a.map gU).length true e),(54,Dn Pg a k _ d),(57,AM Pg k false f)],pans:=aU Pg [(50,10,600763,⟨4,some (cJ (a7 p 9)),[]⟩)]} 50 600000 (si b rfl)
theorem wD(f:decide (6≤k)=false)(q:Nat)(g:bJ (.str c) (qc 0 l) 0=some (some (q, .agg []))):RE 109 (lO 50 8) (mL fs j a k) (df fs es m nn ++oL l) (.panic (am p 7)) [] (qd ++wC):=
 qE {hint:=qT 50 [(52,iM Pg k (a.map gU).length true e),(54,Dn Pg a k _ d),(57,AM Pg k true f),(65, .look (.str c) (qc 0 l) (some (q, .agg [])) g)],calls:=tC [(50,60,601199,aL rfl (ay p 9))],pans:=aU Pg [(50,12,602289,⟨4,some (cJ (a7 p 7)),[]⟩)]} 50 600000 (si b rfl)
theorem DR(f:decide (6≤k)=false)(g:(l.any (· ==c))=false):RE 109 (lO 50 8) (mL fs j a k) (df fs es m nn ++oL l) .normal (mL fs j a (k+1)) (df fs es m nn ++[(600047,⟨1,some (.map (qc 0 l ++[(.str c, .agg [],l.length)]) (l.length+1))⟩)]):=
 qE {hint:=qT 50 [(52,iM Pg k (a.map gU).length true e),(54,Dn Pg a k _ d),(57,AM Pg k true f),(65, .look (.str c) (qc 0 l) none (oK c l 0 0 g)),(113004, .look (.str c) (qc 0 l) none (oK c l 0 0 g)),(77,jB Pg k (by have:=ym f;omega))],calls:=tC [(50,60,601199,aL rfl (ay p 9)),(50,72,602725,aL rfl (ay p 7))]} 50 600000 (u0 b (l':=l) [(600047,⟨1,some (.map (qc 0 l ++[(.str c, .agg [],l.length)]) (l.length+1))⟩)] rfl rfl rfl)
end
end
def AO(fs:List Fn)(es:List (D×D×Nat))(m:Nat)(nn:AV)(j:Nat)(a:List Pm)(k:Nat)(l:List (List UInt8)):TR Unit→Prop
 | .ok _=>RL 109 (lO 50 8) (mL fs j a k) (df fs es m nn ++oL l) (.exit 2) (DQ fs j) (df fs es m nn ++wC)
 | .bad p e=>RL 109 (lO 50 8) (mL fs j a k) (df fs es m nn ++oL l) (.panic (am p e)) [] (qd ++wC)
 | .out=>True
theorem zh{fs:List Fn}{es:List (D×D×Nat)}{m:Nat}{nn:AV}(n:∀ρ,aH ρ nn=nn)(j:Nat)(b:List Pm):∀(d k:Nat)(l:List (List UInt8)),b.length-k=d→k≤b.length→AO fs es m nn j b k l (s9 k l (b.drop k))
 |0,k,l,z,y=>by
  have:k=b.length:=by omega
  subst this;rw[yl];exact fun a X c f=>bA (Cr n j b b.length l (by simp) a X c f) (by simp)
 |d+1,k,l,z,y=>by
  have h:k<b.length:=by omega
  have t:b[k]? =some b[k]:=xE h;rw[xq h];generalize b[k]=x at t;obtain⟨g,ty,p⟩:=x;have w:decide (k<(b.map gU).length)=true:=by simpa using h
  simp only[s9];cases v:decide (6≤k)with
  |true=>exact fun a X c f=>bA (AN n j b k l w g ty p t v a X c f) (by simp)
  |false=>
  cases s:l.any (· ==g)with
  |true=>
   obtain⟨q,s⟩:=pW g l 0 0 s;exact fun a X c f=>bA (wD n j b k l w g ty p t v q s a X c f) (by simp)
  |false=>
   have i:=zh (fs:=fs) (es:=es) (m:=m) n j b d (k+1) (l ++[g]) (by omega) h;have o:=DR (fs:=fs) (es:=es) (m:=m) n j b k l w g ty p t v s
   have e:oL (l ++[g])=[(600047,⟨1,some (.map (qc 0 l ++[(.str g, .agg [],l.length)]) (l.length+1))⟩)]:=by
    simp only[oL,sf,xZ,x6,xp,xe]
   simp only[x9];revert i;cases s9 (k+1) (l ++[g]) (b.drop (k+1))with
   |out=>exact fun _=>trivial
   |bad u r=>
    intro i;simp only[AO,e]at i;exact fun a X c f=>bM (o a X c f) (i a X c f)
   |ok _=>
    intro i;simp only[AO,e]at i;exact fun a X c f=>bM (o a X c f) (i a X c f)
end Go.Avm
namespace Go.Avm
open Go.Proofs
noncomputable def Cs{fs:List Fn}{es:List (D×D×Nat)}{m:Nat}{nn:AV}{j:Nat}{c:List Pm}{x:au}{l':List (Nat×AV)}{a:List (Nat×aI)}(h:RL 109 (lO 50 8) (mL fs j c 0) (df fs es m nn ++oL []) x l' a):jo Pg:=
 ⟨109,e5 Pg 50 8,mL fs j c 0,fun _=>df fs es m nn ++oL [],x,l',fun _=>a,fun b X d e=>(h b X d e).aw⟩
abbrev u1(fs:List Fn)(j:Nat):List (Nat×AV):=[(0,an),(18, .d (.ro (fs.map cR))),(19,dN (fs.map cR).length),(20,dN j)]
def rv(P:Program)(fs:List Fn)(k:Nat)(x:Fn)(a:fs[k]? =some x):bj P:= .idx (fs.map cR) ((k:Nat):Int) (cR x) (by omega) (by rw[yW,xK,a];rfl)
section
variable{fs a:List Fn}{nn:AV}(b:∀ρ,aH ρ nn=nn)
include b
theorem AP(c:decide (a.length<(fs.map cR).length)=false):RE 109 (lO 50 1) (u1 fs a.length) (df fs (fQ 0 a) a.length nn) (.exit 0) [(0,an)] (df fs (fQ 0 a) a.length nn):=
 qE {hint:=qT 50 [(21,iM Pg a.length (fs.map cR).length false c)]} 50 596621 (uZ b rfl)
variable(g:decide (a.length<(fs.map cR).length)=true)(d:List UInt8)(j:List Pm)(i:Int)(k:List cf)(p:Int)(h:fs[a.length]? =some ⟨d,j,i,k,p⟩)
include g h
theorem u2(r:Nat×Fn)(c:cm d a 0=some r):RE 109 (lO 50 1) (u1 fs a.length) (df fs (fQ 0 a) a.length nn) (.panic (am p 7)) [] qd:=
 qE {hint:=qT 50 [(21,iM Pg a.length (fs.map cR).length true g),(23,rv Pg fs a.length _ h),(32,j6 Pg d a (some r) c)],pans:=aU Pg [(50,4,598692,⟨4,some (cJ (a7 p 7)),[]⟩)]} 50 596621 (kg b rfl)
variable(l:cm d a 0=none)
include l
theorem AQ(q e:Int)(c:RL 109 (lO 50 8) (mL fs a.length j 0) (df fs (fQ 0 a ++[(.str d, .int .i64 (a.length:Int),a.length)]) (a.length+1) nn ++oL []) (.panic (am q e)) [] (qd ++wC)):
    RE 109 (lO 50 1) (u1 fs a.length) (df fs (fQ 0 a) a.length nn) (.panic (am q e)) [] qd:=
 qE {loops:=fun f q=>if f=50 then (if q=8 then some (Cs c)else none)else none,hint:=qT 50 [(21,iM Pg a.length (fs.map cR).length true g),(23,rv Pg fs a.length _ h),(32,j6 Pg d a none l),(105007,j6 Pg d a none l)],calls:=tC [(50,39,599128,aL rfl (ay p 7))]} 50 596621 (kg b rfl)
theorem Ct(c:RL 109 (lO 50 8) (mL fs a.length j 0) (df fs (fQ 0 a ++[(.str d, .int .i64 (a.length:Int),a.length)]) (a.length+1) nn ++oL []) (.exit 2) (DQ fs a.length) (df fs (fQ 0 a ++[(.str d, .int .i64 (a.length:Int),a.length)]) (a.length+1) nn ++wC))(e:fs.length<1000000):
    RE 109 (lO 50 1) (u1 fs a.length) (df fs (fQ 0 a) a.length nn) .normal (u1 fs (a.length+1)) (df fs (fQ 0 a ++[(.str d, .int .i64 (a.length:Int),a.length)]) (a.length+1) nn):=
 qE {loops:=fun f q=>if f=50 then (if q=8 then some (Cs c)else none)else none,hint:=qT 50 [(21,iM Pg a.length (fs.map cR).length true g),(23,rv Pg fs a.length _ h),(32,j6 Pg d a none l),(105007,j6 Pg d a none l),(78,jB Pg a.length (by have:=xw g;rw[xV]at this;omega))],calls:=tC [(50,39,599128,aL rfl (ay p 7))]} 50 596621 (uZ b rfl)
end
def AR(fs a:List Fn)(nn:AV):TR Unit→Prop
 | .ok _=>RL 109 (lO 50 1) (u1 fs a.length) (df fs (fQ 0 a) a.length nn) (.exit 0) [(0,an)] (df fs (fQ 0 fs) fs.length nn)
 | .bad p e=>RL 109 (lO 50 1) (u1 fs a.length) (df fs (fQ 0 a) a.length nn) (.panic (am p e)) [] qd
 | .out=>True
theorem zi{fs:List Fn}{nn:AV}(o:∀ρ,aH ρ nn=nn)(x:fs.length<1000000):∀(r8 a:List Fn),fs=a ++r8→AR fs a nn (ke a r8)
 |[],a,h=>by
  have:fs=a:=by rw[h,yY]
  subst this;exact fun b X g i=>bA (AP o (by simp) b X g i) (by simp)
 |f::r8,a,h=>by
  have u:fs[a.length]? =some f:=by rw[h];simp
  have w:decide (a.length<(fs.map cR).length)=true:=by rw[h];simp
  have k:=zi (nn:=nn) o x r8 (a ++[f]) (by rw[h];simp);obtain⟨j,l,d,n,p⟩:=f;simp only[ke];cases v:cm j a 0 with
  |some r=>exact fun b X g i=>bA (u2 o w j l d n p u r v b X g i) (by simp)
  |none=>
   have c:=zh (fs:=fs) (es:=fQ 0 a ++[(.str j, .int .i64 (a.length:Int),a.length)]) (m:=a.length+1) o a.length l _ 0 [] rfl (yd _);rw[yX]at c;simp only[Option.isSome_none,x9]
   have e:df fs (fQ 0 (a ++[(⟨j,l,d,n,p⟩:Fn)])) (a ++[(⟨j,l,d,n,p⟩:Fn)]).length nn=df fs (fQ 0 a ++[(.str j, .int .i64 (a.length:Int),a.length)]) (a.length+1) nn:=by
    simp only[df,sg,xZ,x6,xp,xe]
   have y:(a ++[(⟨j,l,d,n,p⟩:Fn)]).length=a.length+1:=by simp
   revert c;cases s9 0 [] l with
   |out=>exact fun _=>trivial
   |bad q t=>exact fun c b X g i=>bA (AQ o w j l d n p u v q t c b X g i) (by simp)
   |ok _=>
    intro c;have s:=Ct o w j l d n p u v c x;simp only[TR.bind];revert k;cases ke (a ++[⟨j,l,d,n,p⟩]) r8 with
    |out=>exact fun _=>trivial
    |bad q t=>
     intro k;simp only[AR,e]at k;simp only[y]at k;exact fun b X g i=>bM (s b X g i) (k b X g i)
    |ok _=>
     intro k;simp only[AR,e]at k;simp only[y]at k;exact fun b X g i=>bM (s b X g i) (k b X g i)
noncomputable def u3{fs:List Fn}{nn:AV}{x:au}{l':List (Nat×AV)}{a:List (Nat×aI)}(h:RL 109 (lO 50 1) (u1 fs 0) (df fs [] 0 nn) x l' a):jo Pg:=
 ⟨109,e5 Pg 50 1,u1 fs 0,fun _=>df fs [] 0 nn,x,l',fun _=>a,fun b X c d=>(h b X c d).aw⟩
section
variable{fs:List Fn}{nn:AV}(a:∀ρ,aH ρ nn=nn)
include a
theorem wE(q e:Int)(c:RL 109 (lO 50 1) (u1 fs 0) (df fs [] 0 nn) (.panic (am q e)) [] qd):
    HX 50 [an] (df fs [] 0 nn) (am q e) qd:=
 qX ({loops:=fun f q=>if f=50 then (if q=1 then some (u3 c)else none)else none}) 600000 (kg a rfl)
variable(c:RL 109 (lO 50 1) (u1 fs 0) (df fs [] 0 nn) (.exit 0) [(0,an)] (df fs (fQ 0 fs) fs.length nn))
include c
theorem ta(b:cm [109,97,105,110] fs 0=none):HX 50 [an] (df fs [] 0 nn) (am 0 13) qd:=
 qX {loops:=fun f q=>if f=50 then (if q=1 then some (u3 c)else none)else none,hint:=qT 50 [(84,j6 Pg [109,97,105,110] fs none b)],pans:=aU Pg [(50,17,601853,⟨1,some (cJ (a7 0 13)),[]⟩)]} 600000 (kg a rfl)
variable(i:Nat)(g:List UInt8)(d:List Pm)(b:Int)(e:List cf)(p:Int)(j:cm [109,97,105,110] fs 0=some (i,⟨g,d,b,e,p⟩))(h:fs[i]? =some ⟨g,d,b,e,p⟩)
include j h
theorem wF(k:(((d.map gU).length:Int)==0)=false):HX 50 [an] (df fs [] 0 nn) (am p 13) qd:=
 qX {loops:=fun f q=>if f=50 then (if q=1 then some (u3 c)else none)else none,hint:=qT 50 [(84,j6 Pg [109,97,105,110] fs (some (i,⟨g,d,b,e,p⟩)) j),(95,rv Pg fs i _ h),(100,qB k)],calls:=tC [(50,88,601962,aL rfl (ay 0 13))],pans:=aU Pg [(50,19,603052,⟨11,some (cJ (a7 p 13)),[]⟩)]} 600000 (kg a rfl)
theorem u4(l:(((d.map gU).length:Int)==0)=true)(k:(b==1)=false):HX 50 [an] (df fs [] 0 nn) (am p 13) qd:=
 qX {loops:=fun f q=>if f=50 then (if q=1 then some (u3 c)else none)else none,hint:=qT 50 [(84,j6 Pg [109,97,105,110] fs (some (i,⟨g,d,b,e,p⟩)) j),(95,rv Pg fs i _ h),(100,qB l),(104,qB k)],calls:=tC [(50,88,601962,aL rfl (ay 0 13))],pans:=aU Pg [(50,19,603052,⟨11,some (cJ (a7 p 13)),[]⟩)]} 600000 (kg a rfl)
theorem wG(l:(((d.map gU).length:Int)==0)=true)(k:(b==1)=true):HC 50 [an] (df fs [] 0 nn) [] (df fs (fQ 0 fs) fs.length nn):=
 qN {loops:=fun f q=>if f=50 then (if q=1 then some (u3 c)else none)else none,hint:=qT 50 [(84,j6 Pg [109,97,105,110] fs (some (i,⟨g,d,b,e,p⟩)) j),(95,rv Pg fs i _ h),(100,qB l),(104,qB k)],calls:=tC [(50,88,601962,aL rfl (ay 0 13)),(50,108,604251,aL rfl (ay p 13))]} 600000 (uZ a rfl)
end
def DS(fs:List Fn)(nn:AV):TR Unit→Prop
 | .ok _=>HC 50 [an] (df fs [] 0 nn) [] (df fs (fQ 0 fs) fs.length nn)
 | .bad p e=>HX 50 [an] (df fs [] 0 nn) (am p e) qd
 | .out=>True
theorem AU{fs:List Fn}{nn:AV}(e:∀ρ,aH ρ nn=nn)(n:fs.length<1000000):DS fs nn (oJ fs):=by
 have c:=zi (nn:=nn) e n fs [] rfl;unfold oJ;revert c;cases ke [] fs with
 |out=>exact fun _=>trivial
 |bad q t=>exact fun c=>wE e q t c
 |ok _=>
  intro c;simp only[TR.bind,zg];cases g:cm [109,97,105,110] fs 0 with
  |none=>exact ta e c g
  |some r=>
   obtain⟨i,f⟩:=r;obtain⟨_,h⟩:=j7 g;rw[Nat.sub_zero]at h;obtain⟨l,d,b,k,p⟩:=f;simp only;cases hp:d.isEmpty with
   |false=>
    have j:(((d.map gU).length:Int)==0)=false:=by
     cases d with
     |nil=>cases hp
     |cons a r=>simp;omega
    exact wF e c i l d b k p g h j
   |true=>
    have j:(((d.map gU).length:Int)==0)=true:=by
     cases d with
     |nil=>rfl
     |cons a r=>cases hp
    cases m:(b==1)with
    |false=>exact u4 e c i l d b k p g h j m
    |true=>exact wG e c i l d b k p g h j m
end Go.Avm
namespace Go.Avm
open Go.Proofs
theorem jH{M N:Nat}{c:Code}{l l':List (Nat×AV)}{a d:List (Nat×aI)}{e:au}(j:Cln (a.map (·.1)) M (l.map (·.2)) a d)(m:bz (cK (a.map (·.1)) M) (l'.map (·.2))=l'.map (·.2))(n:ud (cK (a.map (·.1)) M) e=e)
    (h:∀(b:aa)(X:bD),X.P=Pg→X.N=N→AW X c ⟨ag l,af a (cG M b)⟩ fun i S'=>i=e∧S'.env=ag l'∧(∀k,k∈a.map (·.1)→S'.heap k=af d S'.heap k)∧∀k,M≤k→S'.heap k=af a (cG M b) k)
    (b:aa) (X:bD) (p:X.P=Pg) (r:X.N=N):AW X c ⟨ag l,af a b⟩ fun i S'=>i=e∧S'=⟨ag l',af d b⟩:=by
 refine ue (ju j.ltF) n ?_
 have g:(fun t=>aH (cK (a.map (·.1)) M) (ag l t))=ag l:=by
  funext t;rw[←cF,jw j.argsK]
 have f:∀t,aH (cK (a.map (·.1)) M) (ag l' t)=ag l' t:=fun t=>by
  rw[←cF,jw m]
 rw[g,j.heap b];refine(h (du (cK (a.map (·.1)) M) (p9 (a.map (·.1)) M) (af a b)) X p r).mono ?_;rintro i S' ⟨rfl,q,o,h2⟩;refine⟨rfl,fun t=>by rw[q,f], ?_⟩;exact j.behind b o h2
abbrev fB(e:List UInt8)(c:List Pm)(a:Int)(b:List cf)(p:Int):List (Nat×aI):=[(600003,⟨1,some (.arr 1 [.d (.str e), .d (.ro (c.map gU)),Dg a, .d (.ro (cZ b)),dI p])⟩)]
abbrev fG:List (Nat×aI):=[(600003,⟨1,none⟩)]
abbrev zj(fs:List Fn)(i:Nat)(a:List Pm)(k:Nat):List (Nat×AV):=[(0,an),(3, .ptr 600003 1 0 0 1),(10, .d (.ro (fs.map cR))),(11,dN (fs.map cR).length),(12,dN i),(34, .d (.ro (a.map gU))),(35,dN (a.map gU).length),(36,dN k)]
abbrev u5(fs:List Fn)(i:Nat):List (Nat×AV):=[(0,an),(3, .ptr 600003 1 0 0 1),(10, .d (.ro (fs.map cR))),(11,dN (fs.map cR).length),(12,dN i)]
theorem Cu{S S':CK}(h:CKok S)(h':CKok S'){a:List (Nat×aI)}{ar:List AV}(r:List (D×D×Nat))(i:Nat)(n:(((ck S ++a).map (·.1)).all fun k=>Nat.blt k 1000000)=true)(c:([499904,500002,500003,500004,500005,500382,500191].map (cK ((ck S ++a).map (·.1)) 1000000))=[499904,500002,500003,500004,500005,500382,500191])
    (o:bz (cK ((ck S ++a).map (·.1)) 1000000) ar=ar) (d:(a.map fun p:Nat×aI=>bQ (cK ((ck S ++a).map (·.1)) 1000000) p.2)=a.map (·.2)):Cln ((ck S ++a).map (·.1)) 1000000 ar (ck S ++a) (wm S' r i ++a):=
 ⟨n,rfl,by rw[xM,xM];rfl,o,by
  have b:=dr h c;rw[xM,xM (f:=fun p:Nat×aI=>p.2),b,d],by
  have b:=dr h' c;simp only[ck,xI,xg,List.cons.injEq,yp]at b;obtain⟨m,s,j,e,t,l,g,q⟩:=b;rw[xM,xM (f:=fun p:Nat×aI=>p.2),d];simp only[wm,xI,xg,m,s,j,e,l,g,q];rfl⟩
theorem gJ(r h:aa):∀(a b:List (Nat×aI)),af (a ++b) h=af a (af b h)
 |[],b=>rfl
 |(k,e)::a,b=>by
  show aq (af (a ++b) h) k e=aq (af a (af b h)) k e;rw[gJ r h a b]
theorem tc{P:Program}{g:Nat}{b f:List AV}{A B c:List (Nat×aI)}(m:(A.all fun p=>p.2.ob.isSome)=true)(l:(A.all fun p=>c.all fun q=> !(Nat.beq p.1 q.1))=true)(h:∀a:aa,az P g b (af (A ++B) a) f (af (A ++c) a)):∀h:aa,gS h (A ++B)→az P g b h f (af c h):=fun h' i=>by
 have d:=rJ h h' i;rw[gJ h']at d
 have h2:gS (af c h') A:=fun p hp=>by
  have e:af c h' p.1=h' p.1:=bc c h' fun k=>by
   obtain⟨q,j,n⟩:=xf.1 k;have:=xY.1 (xY.1 l p hp) q j;rw[n]at this;simp at this
  rw[e];exact i p (by simp[hp])
 rw[md h2 m]at d;exact d
abbrev wH(S:CK):List (Nat×aI):=[(500000,⟨1,some (.arr 1 (rU S))⟩),(499904,⟨1,some (.map (fQ 0 S.fs) S.fs.length)⟩),(500004,⟨S.vq,some (.map (aF S.c.sure.l) S.c.sure.c)⟩),(500382,⟨S.vp,some (.arr 3 (S.c.pts.map bn))⟩)]
abbrev u6(S:CK):List (Nat×aI):=[(500002,⟨S.vh,some (.map (dJ 0 S.c.vars) S.c.vars.length)⟩),(500003,⟨S.vs,some (.map (br 0 S.c.seen) S.c.seen.length)⟩),(500005,⟨S.vv,some (.arr 4 (S.c.vars.map qa))⟩),(500191,⟨1,some (.arr 1 (S.W.set S.fn (gG S.vv S.c.vars)))⟩)]
theorem sj(S:CK)(a:aa):af (ck S) a=af (wH S ++u6 S) a:=by
 funext k;simp only[ck,wH,u6,yB,yg,af,aq];by_cases d:k=500000
 ·subst d;rfl
 by_cases c:k=499904
 ·subst c;rfl
 by_cases h2:k=500002
 ·subst h2;rfl
 by_cases b:k=500003
 ·subst b;rfl
 by_cases f:k=500004
 ·subst f;rfl
 by_cases h:k=500005
 ·subst h;rfl
 by_cases g:k=500382
 ·subst g;rfl
 by_cases e:k=500191
 ·subst e;rfl
 simp only[d,c,h2,b,f,h,g,e,ya]
noncomputable def DT{S:CK}{b:List UInt8}{ty n e:Int}(c:HC 67 [an, .d (.agg [.str b, .int .u8 ty, .int .i64 n, .int .i64 e])] (ck S) [.int .i64 (S.c.vars.length:Int)] (ck (S.add ⟨b,ty,n,e⟩))):hQ Pg:=
 ⟨67,[an, .d (.agg [.str b, .int .u8 ty, .int .i64 n, .int .i64 e])],wH S ++u6 S,[.int .i64 (S.c.vars.length:Int)].map .d,u6 (S.add ⟨b,ty,n,e⟩),tc (A:=wH S) (B:=u6 S) rfl rfl fun a=>by
  have:=c a;rw[sj,sj]at this;exact this⟩
section
variable{S:CK}(h:CKok S){fs:List Fn}(i:Nat)(b:List UInt8)(a:List Pm)(d:Int)(e:List cf)(f:Int)(k:Nat)
include h
theorem Cv(c:decide (k<(a.map gU).length)=false):RE 69 (lO 51 5) (zj fs i a k) (ck S ++fB b a d e f) (.exit 2) (u5 fs i) (ck S ++fB b a d e f):=
 qE {hint:=qT 51 [(37,iM Pg k (a.map gU).length false c)]} 51 2000 (dK h h rfl rfl rfl rfl rfl rfl)
theorem DU(o:decide (k<(a.map gU).length)=true)(g:List UInt8)(ty p:Int)(n:a[k]? =some ⟨g,ty,p⟩)(r:k<1000000)(j:(S.c.vars.any fun v=>v.nm==g)=false)(q:dd g S.c.seen 0=none)(h':CKok (S.add ⟨g,ty,0,0⟩))(m:a6 S.c.vars.length S.c.sure.l 0=none):
    RE 69 (lO 51 5) (zj fs i a k) (ck S ++fB b a d e f) .normal (zj fs i a (k+1)) (wm (S.add ⟨g,ty,0,0⟩) (aF S.c.sure.l ++[(.int .i64 (S.c.vars.length:Int), .agg [],S.c.sure.c)]) (S.c.sure.c+1) ++fB b a d e f):=
 qE {hint:=qT 51 [(37,iM Pg k (a.map gU).length true o),(38,Dn Pg a k _ n),(107012,gH Pg S.c.vars.length S.c.sure.l none m),(52,jB Pg k (by omega))],calls:=tC [(51,50,3035,DT (wl h g ty 0 0 j q h'))]} 51 2000 (Cu h h' _ _ rfl rfl rfl rfl)
end
def Fe(p:Pm):Vr:=⟨p.nm,p.ty,0,0⟩
def CS.par(c:CS)(p:Pm):CS:={c.add (Fe p)with sure:=c.sure.put c.vars.length}
theorem zk{fs:List Fn}(i:Nat)(g:List UInt8)(a:List Pm)(j:Int)(q:List cf)(o:Int)(s:(a.map (·.nm)).Nodup)(D:a.length≤6)(r:∀p∈a,p.nm.length≤1000000):
    ∀(d k:Nat)(S:CK),a.length-k=d→k≤a.length→CKok S→S.c.vars.map (·.nm)=(a.take k).map (·.nm)→
    ∃S',Nx S S' ((a.drop k).foldl CS.par S.c)∧∀(b:aa)(X:bD),X.P=Pg→X.N=69→LW X (lO 51 5) ⟨ag (zj fs i a k),af (ck S ++fB g a j q o) b⟩ fun I E=>I= .exit 2∧E=⟨ag (u5 fs i),af (ck S' ++fB g a j q o) b⟩
 |0,k,S,F,H,h,w=>by
  have:k=a.length:=by omega
  subst this;rw[yl];exact⟨S,h.nx,fun b X u y=>bA (Cv h i g a j q o a.length (by simp) b X u y) (by simp)⟩
 |d+1,k,S,F,H,h,w=>by
  have f:k<a.length:=by omega
  have A:a[k]? =some a[k]:=xE f;have hm:a[k]∈a:=yc f;have n:a.take (k+1)=a.take k ++[a[k]]:=by rw[List.take_add_one,A];rfl
  rw[xq f];generalize a[k]=x at A hm n
  have G:S.c.vars.length=k:=by
   have:=congrArg List.length w;rw[xV,xV,List.length_take,Nat.min_eq_left (by omega)]at this;exact this
  have z:(S.c.vars.any fun v=>v.nm==x.nm)=false:=by
   rw[List.any_eq_false];intro v B e
   have J:x.nm∈(a.take k).map (·.nm):=by
    rw[←w,←eq_of_beq e];exact xf.2 ⟨v,B,rfl⟩
   have h2:((a.take (k+1)).map (·.nm)).Nodup:=(List.Sublist.map _ (List.take_sublist _ _)).nodup s;rw[n,xM,List.nodup_append]at h2;exact h2.2.2 _ J _ (by simp) rfl
  obtain⟨t,ty,p⟩:=x;have h':=rn h (v:=⟨t,ty,0,0⟩) (r _ hm) z (by omega);have C:a6 S.c.vars.length S.c.sure.l 0=none:=fH fun p hp e=>by have:=h.sv p hp;omega
  have h2:=oF h' S.c.vars.length (by simp[CK.add,CS.add])
  obtain⟨S',m,c⟩:=zk (fs:=fs) i g a j q o s D r d (k+1) ((S.add ⟨t,ty,0,0⟩).put S.c.vars.length) (by omega) f h2 (by
   rw[n];show(S.c.vars ++[_]).map _=_;rw[xM,xM,w];rfl)
  refine⟨S',⟨m.ok,m.c,m.fs,m.fn,m.deep,m.W,List.IsPrefix.trans (List.prefix_append _ _) m.vars⟩,fun b X u y=>bM (DU h i g a j q o k (by simpa using f) t ty p A (by omega) z (pQ h z) h' C b X u y) ?_⟩;have:=c b X u y;rw[←oE (S:=S.add ⟨t,ty,0,0⟩) (i:=S.c.vars.length) C]at this;exact this
end Go.Avm
namespace Go.Avm
open Go.Proofs
def eG(P:Program)(n:Nat):bj P:= .val (dB (decide ((n:Int)≤(n:Int)))) (dB true) (by simp)
def eH(P:Program)(n:Nat):bj P:= .val (dB (decide (((n+1:Nat):Int)≤(n:Int)))) (dB false) (by
 congr 2;rw[decide_eq_false_iff_not];omega)
def cr(P:Program)(n:Nat):bj P:= .inb (n:Int) (n+1) (by omega) (by simp)
def ct(P:Program)(l:List AV)(x:AV)(n:Nat)(h:l.length=n):bj P:= .elt (l.take n ++[x]) (0+(n:Int).toNat) x (by
 rw[yR (by omega),xe,yW,xN (by omega)];simp[h])
def CK.ptd(S:CK)(x:Pt):CK:={S with c:={S.c with pts:=S.c.pts ++[x]},vp:=S.vp+1}
abbrev oM(S:CK)(b:List (D×D×Nat))(a:Nat)(l:List AV):List (Nat×aI):=
 [(500000,⟨1,some (.arr 1 [.mp 499904 1, .d (.ro (S.fs.map cR)), .sl 500191 1 0 S.fs.length 1, .sl 500382 (S.vp+1) 0 (S.c.pts.length+1) 3,dN S.fn, .mp 500002 S.vh, .mp 500003 S.vs, .mp 500004 S.vq,dI S.deep])⟩),(499904,⟨1,some (.map (fQ 0 S.fs) S.fs.length)⟩),(500002,⟨S.vh,some (.map (dJ 0 S.c.vars) S.c.vars.length)⟩),(500003,⟨S.vs,some (.map (br 0 S.c.seen) S.c.seen.length)⟩),
  (500004,⟨S.vq,some (.map b a)⟩),(500005,⟨S.vv,some (.arr 4 (S.c.vars.map qa))⟩),(500382,⟨S.vp+1,some (.arr 3 l)⟩),(500191,⟨1,some (.arr 1 (S.W.set S.fn (gG S.vv S.c.vars)))⟩)]
theorem AX(S:CK)(x:Pt):oM S (aF S.c.sure.l) S.c.sure.c ((S.c.pts.map bn).take S.c.pts.length ++[bn x])=ck (S.ptd x):=by
 have a:(S.c.pts.map bn).take S.c.pts.length=S.c.pts.map bn:=yR (by simp);simp only[oM,ck,rU,CK.ptd,a,xZ,x6,xp,xM,xI,xg,xe]
theorem aR{S:CK}(hm:CKok (S.ptd cS)):HC 89 [an] (oM S (aF S.c.sure.l) S.c.sure.c ((S.c.pts.map bn).take S.c.pts.length ++[bn cS])) [w7 (S.c.pt S.fn)] (oM S (aF S.c.sure.l) S.c.sure.c ((S.c.pts.map bn).take S.c.pts.length ++[bn cS])):=by
 rw[AX];exact Al hm
abbrev u7(S:CK)(b:List (D×D×Nat))(a:Nat):List (Nat×aI):=oM S b a (((S.c.pts.map bn).take S.c.pts.length ++[bn cS]).set (0+(S.c.pts.length:Int).toNat) (.d (w7 (S.c.pt S.fn))))
abbrev eg(S:CK):List (Nat×aI):=u7 S (aF S.c.sure.l) S.c.sure.c
def CK.at1(S:CK):CK:=S.ptd (S.c.pt S.fn)
theorem pX(S:CK):((S.c.pts.map bn).take S.c.pts.length ++[bn cS]).set (0+(S.c.pts.length:Int).toNat) (.d (w7 (S.c.pt S.fn)))=(S.c.pts ++[S.c.pt S.fn]).map bn:=by
 have a:(S.c.pts.map bn).take S.c.pts.length=S.c.pts.map bn:=yR (by simp);rw[a,xe,yW,List.set_append_right _ _ (by simp)];simp[bn]
theorem bE(S:CK):eg S=ck S.at1:=by
 show oM S (aF S.c.sure.l) S.c.sure.c (((S.c.pts.map bn).take S.c.pts.length ++[bn cS]).set (0+(S.c.pts.length:Int).toNat) (.d (w7 (S.c.pt S.fn))))=_;rw[pX];simp only[oM,ck,rU,CK.at1,CK.ptd,xZ,x6,xp,xe]
theorem sm(S:CK){i:Nat}(a:a6 i S.c.sure.l 0=none):u7 S (aF S.c.sure.l ++[(.int .i64 (i:Int), .agg [],S.c.sure.c)]) (S.c.sure.c+1)=ck (S.at1.put i):=by
 have e:S.c.sure.put i=⟨S.c.sure.l ++[(i,S.c.sure.c)],S.c.sure.c+1⟩:=by
  unfold SureL.put SureL.has;rw[a];rfl
 show oM S _ _ (((S.c.pts.map bn).take S.c.pts.length ++[bn cS]).set (0+(S.c.pts.length:Int).toNat) (.d (w7 (S.c.pt S.fn))))=_;rw[pX];simp only[oM,ck,rU,CK.at1,CK.ptd,CK.put,e,aF,xM,xI,xg,xZ,x6,xp,xe]
theorem pY{x:Nat}:∀{l:List (Nat×Nat)}{j i:Nat},a6 x l j=some (j+i)→co (.int .i64 (x:Int)) (.agg []) i (aF l)=aF l
 |[],_,_,h=>by cases h
 |e::r,j,i,h=>by
  simp only[a6]at h;cases d:(x==e.1)with
  |true=>
   rw[d]at h;simp only[yJ,xA]at h;have m:i=0:=by omega
   subst m;rw[eq_of_beq d];rfl
  |false=>
   rw[d]at h;simp only[x9]at h
   have c:∀{l:List (Nat×Nat)}{j k:Nat},a6 x l j=some k→j≤k:=fun {l}=>by
    induction l with
    |nil=>intro j k h;cases h
    |cons a r g=>
     intro j k h;simp only[a6]at h;cases f:(x==a.1)with
     |true=>rw[f]at h;simp at h;omega
     |false=>rw[f]at h;have:=g h;omega
   have:=c h;obtain⟨b,rfl⟩:∃b,i=b+1:=⟨i-1,by omega⟩
   show _::co _ _ b (aF r)=_::aF r;rw[pY (i:=b) (j:=j+1) (by rw[h];congr 1;omega)]
theorem so(S:CK){i j:Nat}(a:a6 i S.c.sure.l 0=some j):u7 S (co (.int .i64 (i:Int)) (.agg []) j (aF S.c.sure.l)) S.c.sure.c=ck (S.at1.put i):=by
 have e:S.c.sure.put i=S.c.sure:=by
  unfold SureL.put SureL.has;rw[a];rfl
 rw[pY (j:=0) (by rw[a,xe])]
 have b:S.at1.put i=S.at1:=by
  show({S.at1 with c:={S.at1.c with sure:=S.c.sure.put i}}:CK)=S.at1;rw[e];rfl
 rw[b];exact bE S
section
variable{S:CK}{f:Nat}{a b:List AV}
theorem pZ(c:∀d:aa,az Pg f a (af (ck S.at1) d) b (af (ck S.at1) d)):∀d:aa,az Pg f a (af (eg S) d) b (af (eg S) d):=by
 rw[bE];exact c
theorem DV{e:List (Nat×aI)}(c:∀d:aa,az Pg f a (af (ck S.at1) d) b (af e d)):∀d:aa,az Pg f a (af (eg S) d) b (af e d):=by
 rw[bE];exact c
theorem AY{x:AV}{d:List (Nat×aI)}(c:HX f a (ck S.at1) x d):HX f a (eg S) x d:=by
 rw[bE];exact c
theorem jI{p e:Int}(c:HX f a (ck S.at1) (am p e) (ck S.at1)):HX f a (eg S) (am p e) (eg S):=by
 rw[bE];exact c
end
section
variable{S:CK}(h:CKok S)(hm:CKok (S.ptd cS))(f:List UInt8)(ty n p:Int)(es:List Ex)(y x:Int)(e:List UInt8)(s u:Int)(b:List Ex)(E B:Int)(A:List UInt8)(C D:Int)(bO z:List Ex)(m o:List cf)
include h hm
set_option maxRecDepth 100000 in
theorem DW(i:CKok S.at1)(k:Int)(l:(k==1)=false)(r:(k==2)=false)(t:(k==3)=false)(g:(k==4)=false)(d:(k==5)=false)(a:(k==6)=false)(j:(k==7)=false)(q:(k==8)=false):HC 83 [an,cI k (S.c.pts.length:Int) f ty n p es m o] (ck S) [] (eg S):=
 qN {hintB:=ci Pg [(83,15,3332,eG Pg S.c.pts.length),(83,24,4664, .apps (S.c.pts.map bn) S.c.pts.length 1 ⟨by simp,by have:=h.pts;omega⟩),(83,15,6588,eH Pg S.c.pts.length),(83,37,7920,cr Pg S.c.pts.length),(83,103010,8068,ct Pg (S.c.pts.map bn) (bn cS) S.c.pts.length (by simp)),(83,41,8512,qB l),(83,46,8808,qB r),(83,78,9104,qB t),(83,100,9400,qB g),(83,105,9696,qB d),(83,127,9992,qB a),(83,132,10288,qB j),(83,141,10584,qB q)],calls:=tC [(83,36,7920,aL rfl (aR hm))]} 2000 (bE S▸al h i rfl)
set_option maxRecDepth 100000 in
theorem Cw{S':CK}(h':CKok S')(c:HC 90 [an,cI 1 (S.c.pts.length:Int) f ty n p es m o] (ck S.at1) [] (ck S')):HC 83 [an,cI 1 (S.c.pts.length:Int) f ty n p es m o] (ck S) [] (ck S'):=
 qN {hintB:=ci Pg [(83,15,3332,eG Pg S.c.pts.length),(83,24,4664, .apps (S.c.pts.map bn) S.c.pts.length 1 ⟨by simp,by have:=h.pts;omega⟩),(83,15,6588,eH Pg S.c.pts.length),(83,37,7920,cr Pg S.c.pts.length),(83,103010,8068,ct Pg (S.c.pts.map bn) (bn cS) S.c.pts.length (by simp))],calls:=tC [(83,36,7920,aL rfl (aR hm)),(83,44,9104,dh (DV c))]} 2000 (al h h' rfl)
set_option maxRecDepth 100000 in
theorem AZ(g:Gv)(q r:Int)(c:HX 90 [an,cI 1 (S.c.pts.length:Int) f ty n p es m o] (ck S.at1) (am q r) (bo g)):HX 83 [an,cI 1 (S.c.pts.length:Int) f ty n p es m o] (ck S) (am q r) (bo g):=
 qX {hintB:=ci Pg [(83,15,3332,eG Pg S.c.pts.length),(83,24,4664, .apps (S.c.pts.map bn) S.c.pts.length 1 ⟨by simp,by have:=h.pts;omega⟩),(83,15,6588,eH Pg S.c.pts.length),(83,37,7920,cr Pg S.c.pts.length),(83,103010,8068,ct Pg (S.c.pts.map bn) (bn cS) S.c.pts.length (by simp))],calls:=tC [(83,36,7920,aL rfl (aR hm))],pans:=aU Pg [(83,6,8808,⟨2,some (cJ (AY c)),[]⟩)]} 2000 (fI h rfl)
set_option maxRecDepth 100000 in
theorem Cx{S':CK}(h':CKok S')(c:HC 94 [an,cI 4 (S.c.pts.length:Int) f ty n p es m o] (ck S.at1) [] (ck S')):HC 83 [an,cI 4 (S.c.pts.length:Int) f ty n p es m o] (ck S) [] (ck S'):=
 qN {hintB:=ci Pg [(83,15,3332,eG Pg S.c.pts.length),(83,24,4664, .apps (S.c.pts.map bn) S.c.pts.length 1 ⟨by simp,by have:=h.pts;omega⟩),(83,15,6588,eH Pg S.c.pts.length),(83,37,7920,cr Pg S.c.pts.length),(83,103010,8068,ct Pg (S.c.pts.map bn) (bn cS) S.c.pts.length (by simp))],calls:=tC [(83,36,7920,aL rfl (aR hm)),(83,103,9992,dh (DV c))]} 2000 (al h h' rfl)
set_option maxRecDepth 100000 in
theorem A0(g:Gv)(q r:Int)(c:HX 94 [an,cI 4 (S.c.pts.length:Int) f ty n p es m o] (ck S.at1) (am q r) (bo g)):HX 83 [an,cI 4 (S.c.pts.length:Int) f ty n p es m o] (ck S) (am q r) (bo g):=
 qX {hintB:=ci Pg [(83,15,3332,eG Pg S.c.pts.length),(83,24,4664, .apps (S.c.pts.map bn) S.c.pts.length 1 ⟨by simp,by have:=h.pts;omega⟩),(83,15,6588,eH Pg S.c.pts.length),(83,37,7920,cr Pg S.c.pts.length),(83,103010,8068,ct Pg (S.c.pts.map bn) (bn cS) S.c.pts.length (by simp))],calls:=tC [(83,36,7920,aL rfl (aR hm))],pans:=aU Pg [(83,17,9696,⟨2,some (cJ (AY c)),[]⟩)]} 2000 (fI h rfl)
set_option maxRecDepth 100000 in
theorem Cy(a:CKok S.at1)(c:HC 97 [an,cI 6 (S.c.pts.length:Int) f ty n p es m o] (ck S.at1) [] (ck S.at1)):HC 83 [an,cI 6 (S.c.pts.length:Int) f ty n p es m o] (ck S) [] (eg S):=
 qN {hintB:=ci Pg [(83,15,3332,eG Pg S.c.pts.length),(83,24,4664, .apps (S.c.pts.map bn) S.c.pts.length 1 ⟨by simp,by have:=h.pts;omega⟩),(83,15,6588,eH Pg S.c.pts.length),(83,37,7920,cr Pg S.c.pts.length),(83,103010,8068,ct Pg (S.c.pts.map bn) (bn cS) S.c.pts.length (by simp))],calls:=tC [(83,36,7920,aL rfl (aR hm)),(83,130,10584,aL rfl (pZ c))]} 2000 (bE S▸al h a rfl)
set_option maxRecDepth 100000 in
theorem A1(a:CKok S.at1)(q r:Int)(c:HX 97 [an,cI 6 (S.c.pts.length:Int) f ty n p es m o] (ck S.at1) (am q r) (ck S.at1)):HX 83 [an,cI 6 (S.c.pts.length:Int) f ty n p es m o] (ck S) (am q r) (eg S):=
 qX {hintB:=ci Pg [(83,15,3332,eG Pg S.c.pts.length),(83,24,4664, .apps (S.c.pts.map bn) S.c.pts.length 1 ⟨by simp,by have:=h.pts;omega⟩),(83,15,6588,eH Pg S.c.pts.length),(83,37,7920,cr Pg S.c.pts.length),(83,103010,8068,ct Pg (S.c.pts.map bn) (bn cS) S.c.pts.length (by simp))],calls:=tC [(83,36,7920,aL rfl (aR hm))],pans:=aU Pg [(83,24,10288,⟨2,some (cJ (jI c)),[]⟩)]} 2000 (bE S▸al h a rfl)
set_option maxRecDepth 100000 in
theorem Cz(a:CKok S.at1)(t:Int)(w:gV S.at1 (.mk y x e s u b) [1,2] t):HC 83 [an,cI 7 (S.c.pts.length:Int) f ty n p (.mk y x e s u b::z) m o] (ck S) [] (eg S):=
 qN {hintB:=ci Pg [(83,15,3332,eG Pg S.c.pts.length),(83,24,4664, .apps (S.c.pts.map bn) S.c.pts.length 1 ⟨by simp,by have:=h.pts;omega⟩),(83,15,6588,eH Pg S.c.pts.length),(83,37,7920,cr Pg S.c.pts.length),(83,103010,8068,ct Pg (S.c.pts.map bn) (bn cS) S.c.pts.length (by simp))],calls:=tC [(83,36,7920,aL rfl (aR hm)),(83,139,11472,aL rfl (pZ (wO w 11462)))]} 2000 (bE S▸al h a rfl)
set_option maxRecDepth 100000 in
theorem A2(a:CKok S.at1)(q r:Int)(w:eL S.at1 (.mk y x e s u b) [1,2] q r):HX 83 [an,cI 7 (S.c.pts.length:Int) f ty n p (.mk y x e s u b::z) m o] (ck S) (am q r) (eg S):=
 qX {hintB:=ci Pg [(83,15,3332,eG Pg S.c.pts.length),(83,24,4664, .apps (S.c.pts.map bn) S.c.pts.length 1 ⟨by simp,by have:=h.pts;omega⟩),(83,15,6588,eH Pg S.c.pts.length),(83,37,7920,cr Pg S.c.pts.length),(83,103010,8068,ct Pg (S.c.pts.map bn) (bn cS) S.c.pts.length (by simp))],calls:=tC [(83,36,7920,aL rfl (aR hm))],pans:=aU Pg [(83,26,10584,⟨6,some (cJ (jI (wP w 11462))),[]⟩)]} 2000 (bE S▸al h a rfl)
set_option maxRecDepth 100000 in
theorem CA(a:CKok S.at1)(t:Int)(c:HC 98 [an,d6 y x e s u b] (ck S.at1) [dv t] (ck S.at1)):HC 83 [an,cI 8 (S.c.pts.length:Int) f ty n p (.mk y x e s u b::z) m o] (ck S) [] (eg S):=
 qN {hintB:=ci Pg [(83,15,3332,eG Pg S.c.pts.length),(83,24,4664, .apps (S.c.pts.map bn) S.c.pts.length 1 ⟨by simp,by have:=h.pts;omega⟩),(83,15,6588,eH Pg S.c.pts.length),(83,37,7920,cr Pg S.c.pts.length),(83,103010,8068,ct Pg (S.c.pts.map bn) (bn cS) S.c.pts.length (by simp))],calls:=tC [(83,36,7920,aL rfl (aR hm)),(83,147,11620,aL rfl (pZ c))]} 2000 (bE S▸al h a rfl)
set_option maxRecDepth 100000 in
theorem A3(a:CKok S.at1)(q r:Int)(c:HX 98 [an,d6 y x e s u b] (ck S.at1) (am q r) (ck S.at1)):HX 83 [an,cI 8 (S.c.pts.length:Int) f ty n p (.mk y x e s u b::z) m o] (ck S) (am q r) (eg S):=
 qX {hintB:=ci Pg [(83,15,3332,eG Pg S.c.pts.length),(83,24,4664, .apps (S.c.pts.map bn) S.c.pts.length 1 ⟨by simp,by have:=h.pts;omega⟩),(83,15,6588,eH Pg S.c.pts.length),(83,37,7920,cr Pg S.c.pts.length),(83,103010,8068,ct Pg (S.c.pts.map bn) (bn cS) S.c.pts.length (by simp))],calls:=tC [(83,36,7920,aL rfl (aR hm))],pans:=aU Pg [(83,28,10880,⟨5,some (cJ (jI c)),[]⟩)]} 2000 (bE S▸al h a rfl)
set_option maxRecDepth 100000 in
theorem DX(g:CKok S.at1)(q r:Int)(a:HX 93 [an, .d (.str f),dI p] (ck S.at1) (am q r) (ck S.at1)):HX 83 [an,cI 3 (S.c.pts.length:Int) f ty n p es m o] (ck S) (am q r) (eg S):=
 qX {hintB:=ci Pg [(83,15,3332,eG Pg S.c.pts.length),(83,24,4664, .apps (S.c.pts.map bn) S.c.pts.length 1 ⟨by simp,by have:=h.pts;omega⟩),(83,15,6588,eH Pg S.c.pts.length),(83,37,7920,cr Pg S.c.pts.length),(83,103010,8068,ct Pg (S.c.pts.map bn) (bn cS) S.c.pts.length (by simp))],calls:=tC [(83,36,7920,aL rfl (aR hm))],pans:=aU Pg [(83,13,9400,⟨5,some (cJ (jI a)),[]⟩)]} 2000 (bE S▸al h g rfl)
set_option maxRecDepth 100000 in
theorem DY(g:CKok S.at1)(a:HC 93 [an, .d (.str f),dI p] (ck S.at1) [] (ck S.at1))(q r:Int)(w:eL S.at1 (.mk y x e s u b) [1] q r):HX 83 [an,cI 3 (S.c.pts.length:Int) f ty n p (.mk y x e s u b::z) m o] (ck S) (am q r) (eg S):=
 qX {hintB:=ci Pg [(83,15,3332,eG Pg S.c.pts.length),(83,24,4664, .apps (S.c.pts.map bn) S.c.pts.length 1 ⟨by simp,by have:=h.pts;omega⟩),(83,15,6588,eH Pg S.c.pts.length),(83,37,7920,cr Pg S.c.pts.length),(83,103010,8068,ct Pg (S.c.pts.map bn) (bn cS) S.c.pts.length (by simp))],calls:=tC [(83,36,7920,aL rfl (aR hm)),(83,84,10140,aL rfl (pZ a))],pans:=aU Pg [(83,14,10140,⟨6,some (cJ (jI (wP w 10970))),[]⟩)]} 2000 (bE S▸al h g rfl)
set_option maxRecDepth 100000 in
theorem DZ(i:CKok S.at1)(a:HC 93 [an, .d (.str f),dI p] (ck S.at1) [] (ck S.at1))(t:Int)(w:gV S.at1 (.mk y x e s u b) [1] t)(q r:Int)(g:eL S.at1 (.mk E B A C D bO) [1] q r):HX 83 [an,cI 3 (S.c.pts.length:Int) f ty n p (.mk y x e s u b:: .mk E B A C D bO::z) m o] (ck S) (am q r) (eg S):=
 qX {hintB:=ci Pg [(83,15,3332,eG Pg S.c.pts.length),(83,24,4664, .apps (S.c.pts.map bn) S.c.pts.length 1 ⟨by simp,by have:=h.pts;omega⟩),(83,15,6588,eH Pg S.c.pts.length),(83,37,7920,cr Pg S.c.pts.length),(83,103010,8068,ct Pg (S.c.pts.map bn) (bn cS) S.c.pts.length (by simp))],calls:=tC [(83,36,7920,aL rfl (aR hm)),(83,84,10140,aL rfl (pZ a)),(83,91,11028,aL rfl (pZ (wO w 10970)))],pans:=aU Pg [(83,15,11028,⟨6,some (cJ (jI (wP g 11865))),[]⟩)]} 2000 (bE S▸al h i rfl)
set_option maxRecDepth 100000 in
theorem CB(j:CKok S.at1)(a:HC 93 [an, .d (.str f),dI p] (ck S.at1) [] (ck S.at1))(t:Int)(w:gV S.at1 (.mk y x e s u b) [1] t)(i:Int)(g:gV S.at1 (.mk E B A C D bO) [1] i):HC 83 [an,cI 3 (S.c.pts.length:Int) f ty n p (.mk y x e s u b:: .mk E B A C D bO::z) m o] (ck S) [] (eg S):=
 qN {hintB:=ci Pg [(83,15,3332,eG Pg S.c.pts.length),(83,24,4664, .apps (S.c.pts.map bn) S.c.pts.length 1 ⟨by simp,by have:=h.pts;omega⟩),(83,15,6588,eH Pg S.c.pts.length),(83,37,7920,cr Pg S.c.pts.length),(83,103010,8068,ct Pg (S.c.pts.map bn) (bn cS) S.c.pts.length (by simp))],calls:=tC [(83,36,7920,aL rfl (aR hm)),(83,84,10140,aL rfl (pZ a)),(83,91,11028,aL rfl (pZ (wO w 10970))),(83,98,11916,aL rfl (pZ (wO g 11865)))]} 2000 (bE S▸al h j rfl)
set_option maxRecDepth 100000 in
theorem D0(g:CKok S.at1)(q r:Int)(a:HX 91 [an, .d (.str f),dI p] (ck S.at1) (am q r) (ck S.at1)):HX 83 [an,cI 2 (S.c.pts.length:Int) f ty n p es m o] (ck S) (am q r) (eg S):=
 qX {hintB:=ci Pg [(83,15,3332,eG Pg S.c.pts.length),(83,24,4664, .apps (S.c.pts.map bn) S.c.pts.length 1 ⟨by simp,by have:=h.pts;omega⟩),(83,15,6588,eH Pg S.c.pts.length),(83,37,7920,cr Pg S.c.pts.length),(83,103010,8068,ct Pg (S.c.pts.map bn) (bn cS) S.c.pts.length (by simp))],calls:=tC [(83,36,7920,aL rfl (aR hm))],pans:=aU Pg [(83,8,9104,⟨5,some (cJ (jI a)),[]⟩)]} 2000 (bE S▸al h g rfl)
set_option maxRecDepth 100000 in
theorem D1(j:CKok S.at1)(i:Nat)(v:Vr)(a:HC 91 [an, .d (.str f),dI p] (ck S.at1) [.int .i64 (i:Int),oR v] (ck S.at1))(g:(v.ty !=3)=false):HX 83 [an,cI 2 (S.c.pts.length:Int) f ty n p es m o] (ck S) (am p 8) (eg S):=
 qX {hintB:=ci Pg [(83,15,3332,eG Pg S.c.pts.length),(83,24,4664, .apps (S.c.pts.map bn) S.c.pts.length 1 ⟨by simp,by have:=h.pts;omega⟩),(83,15,6588,eH Pg S.c.pts.length),(83,37,7920,cr Pg S.c.pts.length),(83,103010,8068,ct Pg (S.c.pts.map bn) (bn cS) S.c.pts.length (by simp)),(83,58,11028,qB g)],calls:=tC [(83,36,7920,aL rfl (aR hm)),(83,53,9844,aL rfl (pZ a))],pans:=aU Pg [(83,9,10732,⟨5,some (cJ (a7 p 8)),[]⟩)]} 2000 (bE S▸al h j rfl)
set_option maxRecDepth 100000 in
theorem D2(j:CKok S.at1)(i:Nat)(v:Vr)(a:HC 91 [an, .d (.str f),dI p] (ck S.at1) [.int .i64 (i:Int),oR v] (ck S.at1))(g:(v.ty !=3)=true)(q r:Int)(w:eL S.at1 (.mk y x e s u b) [v.ty] q r):HX 83 [an,cI 2 (S.c.pts.length:Int) f ty n p (.mk y x e s u b::z) m o] (ck S) (am q r) (eg S):=
 qX {hintB:=ci Pg [(83,15,3332,eG Pg S.c.pts.length),(83,24,4664, .apps (S.c.pts.map bn) S.c.pts.length 1 ⟨by simp,by have:=h.pts;omega⟩),(83,15,6588,eH Pg S.c.pts.length),(83,37,7920,cr Pg S.c.pts.length),(83,103010,8068,ct Pg (S.c.pts.map bn) (bn cS) S.c.pts.length (by simp)),(83,58,11028,qB g)],calls:=tC [(83,36,7920,aL rfl (aR hm)),(83,53,9844,aL rfl (pZ a)),(83,61,11472,aL rfl (ay p 8))],pans:=aU Pg [(83,10,11472,⟨8,some (cJ (jI (wP w 12577))),[]⟩)]} 2000 (bE S▸al h j rfl)
set_option maxRecDepth 100000 in
theorem A4(k:CKok S.at1)(i:Nat)(v:Vr)(a:HC 91 [an, .d (.str f),dI p] (ck S.at1) [.int .i64 (i:Int),oR v] (ck S.at1))(j:(v.ty !=3)=true)(t:Int)(w:gV S.at1 (.mk y x e s u b) [v.ty] t)(g:a6 i S.c.sure.l 0=none)(h2:CKok (S.at1.put i)):HC 83 [an,cI 2 (S.c.pts.length:Int) f ty n p (.mk y x e s u b::z) m o] (ck S) [] (u7 S (aF S.c.sure.l ++[(.int .i64 (i:Int), .agg [],S.c.sure.c)]) (S.c.sure.c+1)):=
 qN {hintB:=ci Pg [(83,15,3332,eG Pg S.c.pts.length),(83,24,4664, .apps (S.c.pts.map bn) S.c.pts.length 1 ⟨by simp,by have:=h.pts;omega⟩),(83,15,6588,eH Pg S.c.pts.length),(83,37,7920,cr Pg S.c.pts.length),(83,103010,8068,ct Pg (S.c.pts.map bn) (bn cS) S.c.pts.length (by simp)),(83,58,11028,qB j),(83,111006,13544,gH Pg i S.c.sure.l (none) g)],calls:=tC [(83,36,7920,aL rfl (aR hm)),(83,53,9844,aL rfl (pZ a)),(83,61,11472,aL rfl (ay p 8)),(83,70,12656,aL rfl (pZ (wO w 12577)))]} 2000 (sm S g▸al h h2 rfl)
set_option maxRecDepth 100000 in
theorem A5(q:CKok S.at1)(i:Nat)(v:Vr)(a:HC 91 [an, .d (.str f),dI p] (ck S.at1) [.int .i64 (i:Int),oR v] (ck S.at1))(k:(v.ty !=3)=true)(t:Int)(w:gV S.at1 (.mk y x e s u b) [v.ty] t)(j:Nat)(g:a6 i S.c.sure.l 0=some j)(h2:CKok (S.at1.put i)):HC 83 [an,cI 2 (S.c.pts.length:Int) f ty n p (.mk y x e s u b::z) m o] (ck S) [] (u7 S (co (.int .i64 (i:Int)) (.agg []) j (aF S.c.sure.l)) S.c.sure.c):=
 qN {hintB:=ci Pg [(83,15,3332,eG Pg S.c.pts.length),(83,24,4664, .apps (S.c.pts.map bn) S.c.pts.length 1 ⟨by simp,by have:=h.pts;omega⟩),(83,15,6588,eH Pg S.c.pts.length),(83,37,7920,cr Pg S.c.pts.length),(83,103010,8068,ct Pg (S.c.pts.map bn) (bn cS) S.c.pts.length (by simp)),(83,58,11028,qB k),(83,111006,13544,gH Pg i S.c.sure.l (some j) g)],calls:=tC [(83,36,7920,aL rfl (aR hm)),(83,53,9844,aL rfl (pZ a)),(83,61,11472,aL rfl (ay p 8)),(83,70,12656,aL rfl (pZ (wO w 12577)))]} 2000 (so S g▸al h h2 rfl)
set_option maxRecDepth 100000 in
theorem D3(a:CKok S.at1)(q r:Int)(w:eL S.at1 (.mk y x e s u b) [2] q r):HX 83 [an,cI 5 (S.c.pts.length:Int) f ty n p (.mk y x e s u b::z) m o] (ck S) (am q r) (eg S):=
 qX {hintB:=ci Pg [(83,15,3332,eG Pg S.c.pts.length),(83,24,4664, .apps (S.c.pts.map bn) S.c.pts.length 1 ⟨by simp,by have:=h.pts;omega⟩),(83,15,6588,eH Pg S.c.pts.length),(83,37,7920,cr Pg S.c.pts.length),(83,103010,8068,ct Pg (S.c.pts.map bn) (bn cS) S.c.pts.length (by simp))],calls:=tC [(83,36,7920,aL rfl (aR hm))],pans:=aU Pg [(83,19,9992,⟨6,some (cJ (jI (wP w 10843))),[]⟩)]} 2000 (bE S▸al h a rfl)
set_option maxRecDepth 100000 in
theorem D4(t:Int)(w:gV S.at1 (.mk y x e s u b) [2] t)(g:Gv)(q r:Int)(c:HX 96 [an, .d (.ro (cZ m))] (ck S.at1) (am q r) (bo g)):HX 83 [an,cI 5 (S.c.pts.length:Int) f ty n p (.mk y x e s u b::z) m o] (ck S) (am q r) (bo g):=
 qX {hintB:=ci Pg [(83,15,3332,eG Pg S.c.pts.length),(83,24,4664, .apps (S.c.pts.map bn) S.c.pts.length 1 ⟨by simp,by have:=h.pts;omega⟩),(83,15,6588,eH Pg S.c.pts.length),(83,37,7920,cr Pg S.c.pts.length),(83,103010,8068,ct Pg (S.c.pts.map bn) (bn cS) S.c.pts.length (by simp))],calls:=tC [(83,36,7920,aL rfl (aR hm)),(83,112,10880,aL rfl (pZ (wO w 10843))),(83,117,11472,dh (iL S.vq (aF S.c.sure.l) S.c.sure.c))],pans:=aU Pg [(83,21,11620,⟨3,some (cJ (AY c)),[]⟩)]} 2000 (fI h rfl)
set_option maxRecDepth 100000 in
theorem CC(t:Int)(w:gV S.at1 (.mk y x e s u b) [2] t){S':CK}(h2:CKok (S'.sureAs S.c.sure (S'.vq+1)))(c:HC 96 [an, .d (.ro (cZ m))] (ck S.at1) [] (ck S')):HC 83 [an,cI 5 (S.c.pts.length:Int) f ty n p (.mk y x e s u b::z) m o] (ck S) [] (ck (S'.sureAs S.c.sure (S'.vq+1))):=
 gD ed named {hintB:=ci Pg [(83,15,3332,eG Pg S.c.pts.length),(83,24,4664, .apps (S.c.pts.map bn) S.c.pts.length 1 ⟨by simp,by have:=h.pts;omega⟩),(83,15,6588,eH Pg S.c.pts.length),(83,37,7920,cr Pg S.c.pts.length),(83,103010,8068,ct Pg (S.c.pts.map bn) (bn cS) S.c.pts.length (by simp))],calls:=tC [(83,36,7920,aL rfl (aR hm)),(83,112,10880,aL rfl (pZ (wO w 10843))),(83,117,11472,dh (iL S.vq (aF S.c.sure.l) S.c.sure.c)),(83,121,12064,dh (DV c))]} 2000 2000 _ 1000000 ([(500000,524292195335)]) (al h h2 rfl) (fun _=>by kernel_rfl)
end
end Go.Avm
namespace Go.Avm
open Go.Proofs
theorem bt{S:CK}(h:CKok S)(x:Pt)(hp:S.c.pts.length<900000000):CKok (S.ptd x) where
 fn:=h.fn
 W:=h.W
 dat:=h.dat
 len:=h.len
 par:=h.par
 vars:=h.vars
 seen:=h.seen
 inc:=h.inc
 nms:=h.nms
 nml:=h.nml
 had:=h.had
 sk:=h.sk
 sb:=h.sb
 sc:=h.sc
 sv:=h.sv
 pts:=by simp only[CK.ptd,xZ,x6,xp];omega
theorem dZ{S:CK}(h:CKok S)(hp:S.c.pts.length<900000000):Nx S S.at1 {S.c with pts:=S.c.pts ++[S.c.pt S.fn]}:=⟨bt h _ hp,rfl,rfl,rfl,rfl,rfl,List.prefix_refl _⟩
structure D5(P:Pl)(bd el:List cf):Prop where
 ib:∀S,At P S→TC S 96 [an, .d (.ro (cZ bd))] (de P.in bd S.c)
 ie:∀S,At P S→TC S 96 [an, .d (.ro (cZ el))] (de P.in el S.c)
 eb:ic bd
 ee:ic el
theorem TC.from{S S1:CK}{c1:CS}{f d:Nat}{b a:List AV}{r:TR CS}(j:Nx S S1 c1)(t:TC S1 f b r)(ok:∀S',CKok S'→(HC f b (ck S1) [] (ck S'))→HC d a (ck S) [] (ck S'))
    (bad:∀g p e,(HX f b (ck S1) (am p e) (bo g))→HX d a (ck S) (am p e) (bo g)):TC S d a r:=by
 cases r with
 |out=>trivial
 |bad p e=>
  obtain⟨g,c⟩:=t;exact⟨g,bad g p e c⟩
 |ok c=>
  obtain⟨S',i,h⟩:=t;exact⟨S',j.trans i,ok S' i.ok h⟩
section
variable{P:Pl}{S:CK}(a:At P S)(hp:S.c.pts.length<900000000)(d:List UInt8)(ty n p:Int)(es:List Ex)(m o:List cf)
include a hp
theorem ig{f:Nat}{b:List AV}{p e:Int}(h:HX f b (ck S) (am p e) (eg S)):Ay S f b p e:=by
 rw[bE]at h;exact ef h
theorem p3{f:Nat}{b:List AV}(h:HC f b (ck S) [] (eg S)):TC S f b (.ok {S.c with pts:=S.c.pts ++[S.c.pt S.fn]}):=by
 rw[bE]at h;exact⟨S.at1,dZ a.ok hp,h⟩
abbrev c1(S:CK):CS:={S.c with pts:=S.c.pts ++[S.c.pt S.fn]}
theorem Ff:TC S 83 [an,cI 1 (S.c.pts.length:Int) d ty n p es m o] (vU P.fs P.deep d (S.c.pts.length:Int) ty n p es (c1 S)):=by
 have t:=DJ (dZ a.ok hp).ok 1 (S.c.pts.length:Int) d ty n p es m o;have e:S.at1.fs=P.fs:=a.fs;have b:S.at1.deep=P.deep:=a.deep;rw[e,b]at t;exact TC.from (dZ a.ok hp) t (fun S' h' c=>Cw a.ok (bt a.ok cS hp) d ty n p es m o h' c) (fun g q r c=>AZ a.ok (bt a.ok cS hp) d ty n p es m o g q r c)
theorem Fg(x:D5 P m o):TC S 83 [an,cI 4 (S.c.pts.length:Int) d ty n p es m o] (mK P es m o (c1 S)):=by
 have t:=wB x.ib x.ie x.eb x.ee 4 (S.c.pts.length:Int) d ty n p es S.at1 (a.nx (dZ a.ok hp));exact TC.from (dZ a.ok hp) t (fun S' h' c=>Cx a.ok (bt a.ok cS hp) d ty n p es m o h' c) (fun g q r c=>A0 a.ok (bt a.ok cS hp) d ty n p es m o g q r c)
theorem Fh:TC S 83 [an,cI 6 (S.c.pts.length:Int) d ty n p es m o] (pI P.fs P.fn p es (c1 S)):=by
 have b:=dZ a.ok hp;have t:=Ca b.ok 6 (S.c.pts.length:Int) d ty n p es m o;have g:S.at1.fs=P.fs:=a.fs;have f:S.at1.fn=P.fn:=a.fn;rw[g,f]at t;have e:S.at1.c=c1 S:=rfl;rw[e]at t;revert t;cases pI P.fs P.fn p es (c1 S)with
 |out=>exact fun _=>trivial
 |bad q r=>exact fun t=>ig a hp (A1 a.ok (bt a.ok cS hp) d ty n p es m o b.ok q r t)
 |ok c=>
  rintro⟨rfl,t⟩;exact p3 a hp (Cy a.ok (bt a.ok cS hp) d ty n p es m o b.ok t)
theorem Fi:TC S 83 [an,cI 7 (S.c.pts.length:Int) d ty n p es m o] ((aD ((c1 S).te P.fs) es [[1,2]] false).bind fun _=> .ok (c1 S)):=by
 have j:=dZ a.ok hp;match es with
 |[]=>simp only[aD];trivial
 | .mk i h e f g b::k=>
  have t:=E5 j.ok (.mk i h e f g b) 1 2;unfold WX at t;have l:S.at1.c.te S.at1.fs=(c1 S).te P.fs:=by rw[show S.at1.fs=P.fs from a.fs];rfl
  rw[l]at t;rw[aQ];revert t;cases bf ((c1 S).te P.fs) (.mk i h e f g b) [1,2]with
  |out=>exact fun _=>trivial
  |bad q r=>exact fun t=>ig a hp (A2 a.ok (bt a.ok cS hp) d ty n p i h e f g b k m o j.ok q r t)
  |ok u=>
   intro t;simp only[TR.bind,x9,cq];exact p3 a hp (Cz a.ok (bt a.ok cS hp) d ty n p i h e f g b k m o j.ok u t)
theorem Fj:TC S 83 [an,cI 8 (S.c.pts.length:Int) d ty n p es m o] (match es with|[]=> .out|x::_=>(dq ((c1 S).te P.fs) x).bind fun _=> .ok (c1 S)):=by
 have j:=dZ a.ok hp;match es with
 |[]=>trivial
 | .mk i h e f g b::k=>
  have t:=Dh j.ok (.mk i h e f g b);have l:S.at1.c.te S.at1.fs=(c1 S).te P.fs:=by rw[show S.at1.fs=P.fs from a.fs];rfl
  rw[l]at t;simp only;revert t;cases dq ((c1 S).te P.fs) (.mk i h e f g b)with
  |out=>exact fun _=>trivial
  |bad q r=>exact fun t=>ig a hp (A3 a.ok (bt a.ok cS hp) d ty n p i h e f g b k m o j.ok q r t)
  |ok u=>
   intro t;exact p3 a hp (CA a.ok (bt a.ok cS hp) d ty n p i h e f g b k m o j.ok u t)
theorem Fk:TC S 83 [an,cI 3 (S.c.pts.length:Int) d ty n p es m o] ((oz ((c1 S).te P.fs) d p).bind fun _=>(aD ((c1 S).te P.fs) es [[1],[1]] false).bind fun _=> .ok (c1 S)):=by
 have i:=dZ a.ok hp;have A:S.at1.c.te S.at1.fs=(c1 S).te P.fs:=by rw[show S.at1.fs=P.fs from a.fs];rfl
 have h:=zR i.ok d p;rw[A]at h;revert h;cases oz ((c1 S).te P.fs) d p with
 |out=>exact fun _=>trivial
 |bad q r=>exact fun h=>ig a hp (DX a.ok (bt a.ok cS hp) d ty n p es m o i.ok q r h)
 |ok _=>
  intro h;simp only[TR.bind];match es with
  |[]=>simp only[aD];trivial
  | .mk v s e f l b::k=>
   have t:=Ah i.ok (.mk v s e f l b) 1;unfold WX at t;rw[A]at t;rw[aQ];revert t;cases bf ((c1 S).te P.fs) (.mk v s e f l b) [1]with
   |out=>exact fun _=>trivial
   |bad q r=>exact fun t=>ig a hp (DY a.ok (bt a.ok cS hp) d ty n p v s e f l b k m o i.ok h q r t)
   |ok u=>
    intro t;simp only[TR.bind,x9];match k with
    |[]=>simp only[aD];trivial
    | .mk z w g x y bO::k=>
     have j:=Ah i.ok (.mk z w g x y bO) 1;unfold WX at j;rw[A]at j;rw[aQ];revert j;cases bf ((c1 S).te P.fs) (.mk z w g x y bO) [1]with
     |out=>exact fun _=>trivial
     |bad q r=>exact fun j=>ig a hp (DZ a.ok (bt a.ok cS hp) d ty n p v s e f l b z w g x y bO k m o i.ok h u t q r j)
     |ok B=>
      intro j;simp only[TR.bind,x9,cq];exact p3 a hp (CB a.ok (bt a.ok cS hp) d ty n p v s e f l b z w g x y bO k m o i.ok h u t B j)
theorem Fl:TC S 83 [an,cI 2 (S.c.pts.length:Int) d ty n p es m o] ((mq ((c1 S).te P.fs) d p).bind fun r=>bif r.2.ty==3 then .bad p 8 else (aD ((c1 S).te P.fs) es [[r.2.ty]] false).bind fun _=> .ok {c1 S with sure:=(c1 S).sure.put r.1}):=by
 have s:=dZ a.ok hp;have E:S.at1.c.te S.at1.fs=(c1 S).te P.fs:=by rw[show S.at1.fs=P.fs from a.fs];rfl
 have k:=zP s.ok d p;rw[E]at k
 have b:∀r,mq ((c1 S).te P.fs) d p= .ok r→r.1<S.c.vars.length:=fun r w=>by
  unfold mq at w;cases C:dd d ((c1 S).te P.fs).seen 0 with
  |none=>rw[C]at w;cases w
  |some q=>
   rw[C]at w;cases w;exact a.ok.seen _ (j5 C)
 revert k b;cases mq ((c1 S).te P.fs) d p with
 |out=>exact fun _ _=>trivial
 |bad q r=>exact fun k _=>ig a hp (D0 a.ok (bt a.ok cS hp) d ty n p es m o s.ok q r k)
 |ok F=>
  obtain⟨i,v⟩:=F;intro k b;have b:=b _ rfl;simp only[TR.bind];cases D:(v.ty==3)with
  |true=>
   have h:(v.ty !=3)=false:=by simp[bne,D]
   exact ig a hp (D1 a.ok (bt a.ok cS hp) d ty n p es m o s.ok i v k h)
  |false=>
   have h:(v.ty !=3)=true:=by simp[bne,D]
   simp only[x9];match es with
   |[]=>simp only[aD];trivial
   | .mk y x f g z e::B=>
    have t:=Ah s.ok (.mk y x f g z e) v.ty;unfold WX at t;rw[E]at t;rw[aQ];revert t;cases bf ((c1 S).te P.fs) (.mk y x f g z e) [v.ty]with
    |out=>exact fun _=>trivial
    |bad q r=>exact fun t=>ig a hp (D2 a.ok (bt a.ok cS hp) d ty n p y x f g z e B m o s.ok i v k h q r t)
    |ok u=>
     intro t;simp only[TR.bind,x9,cq];have h2:=oF s.ok i b;refine⟨S.at1.put i,⟨h2,rfl,rfl,rfl,rfl,rfl,List.prefix_refl _⟩, ?_⟩;cases A:a6 i S.c.sure.l 0 with
     |none=>
      rw[←sm S A];exact A4 a.ok (bt a.ok cS hp) d ty n p y x f g z e B m o s.ok i v k h u t A h2
     |some j=>
      rw[←so S A];exact A5 a.ok (bt a.ok cS hp) d ty n p y x f g z e B m o s.ok i v k h u t j A h2
theorem Fm(x:D5 P m o):TC S 83 [an,cI 5 (S.c.pts.length:Int) d ty n p es m o] ((aD ((c1 S).te P.fs) es [[2]] false).bind fun _=>(de P.in m (c1 S)).bind fun b=> .ok {b with sure:=(c1 S).sure}):=by
 have l:=dZ a.ok hp;have w:S.at1.c.te S.at1.fs=(c1 S).te P.fs:=by rw[show S.at1.fs=P.fs from a.fs];rfl
 match es with
 |[]=>simp only[aD];trivial
 | .mk k j f h i e::v=>
  have t:=Ah l.ok (.mk k j f h i e) 2;unfold WX at t;rw[w]at t;rw[aQ];revert t;cases bf ((c1 S).te P.fs) (.mk k j f h i e) [2]with
  |out=>exact fun _=>trivial
  |bad q r=>exact fun t=>ig a hp (D3 a.ok (bt a.ok cS hp) d ty n p k j f h i e v m o l.ok q r t)
  |ok u=>
   intro t;simp only[TR.bind,x9,cq];have tb:=x.ib S.at1 (a.nx l);have y:S.at1.c=c1 S:=rfl;rw[y]at tb;revert tb;cases de P.in m (c1 S)with
   |out=>exact fun _=>trivial
   |bad q r=>exact fun ⟨g,c⟩=>⟨g,D4 a.ok (bt a.ok cS hp) d ty n p k j f h i e v m o u t g q r c⟩
   |ok b=>
    rintro⟨S',s,c⟩;have h2:=oG s.ok (q:=S.c.sure) (a.ok.q.mono s.vars.length_le) (S'.vq+1);have nn:=l.trans s;refine⟨S'.sureAs S.c.sure (S'.vq+1),⟨h2,by rw[←s.c];rfl,nn.fs,nn.fn,nn.deep,nn.W,nn.vars⟩,CC a.ok (bt a.ok cS hp) d ty n p k j f h i e v m o u t h2 c⟩
theorem Fo(k:Int)(h:(k==1)=false)(j:(k==2)=false)(l:(k==3)=false)(f:(k==4)=false)(e:(k==5)=false)(b:(k==6)=false)(g:(k==7)=false)(i:(k==8)=false):TC S 83 [an,cI k (S.c.pts.length:Int) d ty n p es m o] (.ok (c1 S)):=
 p3 a hp (DW a.ok (bt a.ok cS hp) d ty n p es m o (dZ a.ok hp).ok k h j l f e b g i)
end
theorem CD(P:Pl)(es:List Ex)(d e:List cf)(c:CS):((aD (c.te P.fs) es [[2]] false).bind fun _=>
        (cL P.fs P.fn (rO (P.deep+1)) false d c).bind fun a=>
        (cL P.fs P.fn (rO (P.deep+1)) false e {a with seen:=c.seen,sure:=c.sure}).bind fun b=>
        .ok {b with seen:=c.seen,sure:=bif cT d then b.sure else bif cT e then a.sure else a.sure.both b.sure})=mK P es d e c:=by
 unfold mK de;simp only[Pl.in];cases aD (c.te P.fs) es [[2]] false with
 |out=>rfl
 |bad _ _=>rfl
 |ok _=>
  simp only[TR.bind];cases cL P.fs P.fn (rO (P.deep+1)) false d c with
  |out=>rfl
  |bad _ _=>rfl
  |ok a=>
   simp only;cases cL P.fs P.fn (rO (P.deep+1)) false e ⟨a.vars,c.seen,c.sure,a.pts⟩with
   |out=>rfl
   |bad _ _=>rfl
   |ok b=>rfl
theorem CE{P:Pl}{k id:Int}{e:List UInt8}{ty n p:Int}{es:List Ex}{b d:List cf}(x:D5 P b d):Ce P (.mk k id e ty n p es b d):=fun S a=>by
 unfold pJ;cases f:(id==(S.c.pts.length:Int)&&decide (S.c.pts.length<900000000))with
 |false=>exact trivial
 |true=>
  rw[xU]at f;have s:=eq_of_beq f.1;subst s;have hp:=xw f.2;simp only[yJ];have r:({S.c with pts:=S.c.pts ++[S.c.pt P.fn]}:CS)=c1 S:=by rw[←a.fn]
  rw[r];cases l:(k==1)with
  |true=>rw[eq_of_beq l];exact Ff a hp e ty n p es b d
  |false=>
  cases o:(k==2)with
  |true=>
   have:=Fl a hp e ty n p es b d;rw[eq_of_beq o];rw[←a.fn];exact this
  |false=>
  cases q:(k==3)with
  |true=>rw[eq_of_beq q];exact Fk a hp e ty n p es b d
  |false=>
  cases i:(k==4)with
  |true=>
   have:=Fg a hp e ty n p es b d x;rw[←CD]at this;rw[eq_of_beq i];exact this
  |false=>
  cases h:(k==5)with
  |true=>
   have:=Fm a hp e ty n p es b d x;rw[eq_of_beq h];refine(congrArg (TC S _ _) ?_).mp this;unfold de;simp only[Pl.in];cases aD ((c1 S).te P.fs) es [[2]] false with
   |out=>rfl
   |bad _ _=>rfl
   |ok _=>
    simp only[TR.bind];cases cL P.fs P.fn (rO (P.deep+1)) false b (c1 S)<;>rfl
  |false=>
  cases g:(k==6)with
  |true=>rw[eq_of_beq g];exact Fh a hp e ty n p es b d
  |false=>
  cases j:(k==7)with
  |true=>rw[eq_of_beq j];exact Fi a hp e ty n p es b d
  |false=>
  cases m:(k==8)with
  |true=>
   rw[eq_of_beq m];have:=Fj a hp e ty n p es b d;refine(congrArg (TC S _ _) ?_).mp this;cases es<;>rfl
  |false=>exact Fo a hp e ty n p es b d k l o q i h g j m
theorem rx:∀(m:Nat)(P:Pl)(l:List cf),e6 m l→0≤P.deep→P.deep+m<9223372036854775807→∀x∈l,Ce P x
 |0,_,_,h,_,_=>h.elim
 |m+1,P,l,h,s,t=>fun x g=>by
  have b:=h.2 x g;obtain⟨k,id,o,ty,n,p,es,c,d⟩:=x;simp only at b
  have f:P.in.deep=P.deep+1:=by
   show rO (P.deep+1)=_;unfold rO;exact IntWalk.i64_in _ (by omega)
  have r:=rx m P.in c b.1 (by rw[f];omega) (by rw[f];omega);have q:=rx m P.in d b.2 (by rw[f];omega) (by rw[f];omega)
  have e:∀(l:List cf),e6 m l→l.length<1000000∧∀x∈l,hZ x:=fun l i=>by
   cases m with
   |zero=>exact i.elim
   |succ m=>
    refine⟨i.1,fun x g=> ?_⟩;have h2:=i.2 x g;obtain⟨k,id,o,ty,n,p,es,c,d⟩:=x;exact yx h2.1 h2.2
  have j: -9223372036854775808≤P.deep∧P.deep<9223372036854775808:=by omega
  exact CE ⟨fun S a=>uO j (e c b.1).1 r (e c b.1).2 S a,fun S a=>uO j (e d b.2).1 q (e d b.2).2 S a,mw m c b.1,mw m d b.2⟩
end Go.Avm
namespace Go.Avm
open Go.Proofs
def sp(fs:List Fn)(i:Nat)(f:Fn)(a:List Pt):TR (List Vr×List Pt):=(de ⟨fs,i,0⟩ f.bd (f.ps.foldl CS.par ⟨[],[],⟨[],0⟩,a⟩)).bind fun c=>bif f.res==0||cT f.bd then .ok (c.vars,c.pts)else .bad f.p 12
def eU(fs:List Fn):Nat→List Fn→List (List Vr)→List Pt→TR (List (List Vr)×List Pt)
 |_,[],a,b=> .ok (a,b)
 |i,f::r,a,b=>(sp fs i f b).bind fun q=>eU fs (i+1) r (a ++[q.1]) q.2
def oN(fs:List Fn):TR (List (List Vr)×List Pt):=(oJ fs).bind fun _=>eU fs 0 fs [] [cS]
def XS(x:AV):Prop:=∀ρ:Nat→Nat,ρ 500002=500002→ρ 500003=500003→ρ 500004=500004→aH ρ x=x
abbrev eI(fs:List Fn)(W:List AV)(a:List Pt)(g:Gv)(b:Nat)(f e c:AV):List (Nat×aI):=
 [(500000,⟨1,some (.arr 1 [.mp 499904 1, .d (.ro (fs.map cR)), .sl 500191 1 0 fs.length 1, .sl 500382 g.vp 0 a.length 3,dN b,f,e,c,dI 0])⟩),(499904,⟨1,some (.map (fQ 0 fs) fs.length)⟩),(500002,⟨g.vh,none⟩),(500003,⟨g.vs,none⟩),(500004,⟨g.vq,none⟩),(500005,⟨g.vv,none⟩),(500382,⟨g.vp,some (.arr 3 (a.map bn))⟩),(500191,⟨1,some (.arr 1 W)⟩)]
abbrev wI(fs:List Fn)(W:List AV)(a:List Pt)(g:Gv)(i:Nat):List (Nat×aI):=
 [(500000,⟨1,some (.arr 1 [.mp 499904 1, .d (.ro (fs.map cR)), .sl 500191 1 0 fs.length 1, .sl 500382 g.vp 0 a.length 3,dN i, .mp 500002 (g.vh+1), .mp 500003 (g.vs+1), .mp 500004 (g.vq+1),dI 0])⟩),(499904,⟨1,some (.map (fQ 0 fs) fs.length)⟩),(500002,⟨g.vh+1,some (.map [] 0)⟩),(500003,⟨g.vs+1,some (.map [] 0)⟩),(500004,⟨g.vq+1,some (.map [] 0)⟩),(500005,⟨g.vv,none⟩),(500382,⟨g.vp,some (.arr 3 (a.map bn))⟩),(500191,⟨1,some (.arr 1 W)⟩)]
abbrev fZ:List (Nat×aI):=[(600003,⟨0,none⟩)]
def kY(W:List AV):Prop:=∀x∈W,x= .nils∨∃d,x= .d d
theorem sq{W:List AV}(h:kY W)(ρ:Nat→Nat):bz ρ W=W:=jD fun x a=>by
 rcases h x a with rfl|⟨d,rfl⟩<;>rfl
abbrev zl:List Nat:=[500000,499904,500002,500003,500004,500005,500382,500191]
section
variable{fs:List Fn}{W:List AV}{b:List Pt}{g:Gv}{h:Nat}{e d c:AV}(f:kY W)(l:XS e)(k:XS d)(j:XS c){ρ:Nat→Nat}(a:([499904,500002,500003,500004,500382,500191].map ρ)=[499904,500002,500003,500004,500382,500191])
include f a
theorem cM(l:XS e)(k:XS d)(j:XS c):((eI fs W b g h e d c).map fun p=>bQ ρ p.2)=(eI fs W b g h e d c).map (·.2):=by
 simp only[xI,xg,List.cons.injEq,yp]at a;obtain⟨r,m,n,i,o,q⟩:=a;simp only[eI,xI,xg,bQ,xP,Option.map_none,gT,jC,sq f,bz,aH,r,o,q,l ρ m n i,k ρ m n i,j ρ m n i]
theorem wJ{i:Nat}:((wI fs W b g i).map fun p=>bQ ρ p.2)=(wI fs W b g i).map (·.2):=by
 simp only[xI,xg,List.cons.injEq,yp]at a;obtain⟨q,r,s,n,m,o⟩:=a;simp only[wI,xI,xg,bQ,xP,Option.map_none,gT,jC,sq f,bz,aH,q,r,s,n,m,o]
end
abbrev td:List Nat:=[500000,499904,500002,500003,500004,500005,500382,500191,600003]
theorem sr{A B b a:List (Nat×aI)}{ar:List AV}(g:A.map (·.1)=zl)(hB:B.map (·.1)=zl)(f:b.map (·.1)=[600003])(c:a.map (·.1)=[600003])(j:bz (cK td 1000000) ar=ar)
    (i:(A.map fun p=>bQ (cK td 1000000) p.2)=A.map (·.2)) (k:(B.map fun p=>bQ (cK td 1000000) p.2)=B.map (·.2)) (h:(b.map fun p=>bQ (cK td 1000000) p.2)=b.map (·.2)) (d:(a.map fun p=>bQ (cK td 1000000) p.2)=a.map (·.2)):
    Cln ((A ++b).map (·.1)) 1000000 ar (A ++b) (B ++a):=by
 have e:(A ++b).map (·.1)=td:=by rw[xM,g,f];rfl
 rw[e];exact⟨rfl,e,by rw[xM,hB,c];rfl,j,by rw[xM,xM,i,h],by rw[xM,xM,k,d]⟩
noncomputable def bB:Code:=e5 Pg 51 1
noncomputable def EU:Code:=ww bB
noncomputable def wK:Code:=Di (ww (nC (nC bB)))
noncomputable def EV:Code:=ww wK
noncomputable def EW:Code:=ww (nC wK)
noncomputable def EX:Code:=ww (nC (nC wK))
noncomputable def A6:Code:=nC (nC (nC wK))
noncomputable def A7:Code:=nC (nC (nC bB))
theorem p4:bB= .seq EU (.seq (.cond (.tmp 13) .skip (.exit 0)) (.seq (.block 1 (.seq EV (.seq EW (.seq EX A6)))) A7)):=by kernel_rfl
abbrev k9(fs:List Fn)(i:Nat):List (Nat×AV):=[(0,an),(10, .d (.ro (fs.map cR))),(11,dN (fs.map cR).length),(12,dN i)]
section
variable{fs:List Fn}{W:List AV}{a:List Pt}{g:Gv}{k:Nat}{h f e:AV}(b:kY W)(j:XS h)(d:XS f)(c:XS e)(i:Nat)
include b j d c
theorem EY(t:Bool)(l:decide (i<(fs.map cR).length)=t):RE 69 EU (k9 fs i) (eI fs W a g k h f e ++fZ) .normal (k9 fs i ++[(13,dB t)]) (eI fs W a g k h f e ++fZ):=
 qE {hint:=qT 51 [(13,iM Pg i (fs.map cR).length t l)]} 51 599000 (sr rfl rfl rfl rfl rfl (cM b rfl j d c) (cM b rfl j d c) rfl rfl)
variable(n:List UInt8)(o:List Pm)(l:Int)(m:List cf)(p:Int)(q:fs[i]? =some ⟨n,o,l,m,p⟩)
include q
theorem Fp:RE 69 EV (k9 fs i ++[(13,dB true)]) (eI fs W a g k h f e ++fZ) .normal (k9 fs i ++[(2,dN i),(3, .ptr 600003 1 0 0 1)]) (eI fs W a g k h f e ++fB n o l m p):=
 qE {hint:=qT 51 [(15,rv Pg fs i _ q)]} 51 599793 (sr rfl rfl rfl rfl rfl (cM b rfl j d c) (cM b rfl j d c) rfl rfl)
omit q in
theorem Fq:RE 69 EW (k9 fs i ++[(2,dN i),(3, .ptr 600003 1 0 0 1)]) (eI fs W a g k h f e ++fB n o l m p) .normal (k9 fs i ++[(3, .ptr 600003 1 0 0 1)]) (wI fs W a g i ++fB n o l m p):=
 BH ed named {} 2000 51 599000 69 1000000 ([(500000,524290098181),(500000,524291146758),(500000,524292195335)]) (sr rfl rfl rfl rfl rfl (cM b rfl j d c) (wJ b rfl) rfl rfl) (by kernel_rfl) (by kernel_rfl) (fun _=>by kernel_rfl)
end
end Go.Avm
