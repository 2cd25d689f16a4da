/-
  Types: blocks: the copy of what is seen; the loop over statements.
-/
import Derived.Test.YtcjiafanhlhdlaaGreatDoorG09
import Derived.Test.YtcjiafanhlhdlaaGreatDoorG07
import Derived.Test.YtcjiafanhlhdlaaGreatDoorG08
set_option linter.unusedVariables false
set_option linter.unusedSimpArgs false
set_option linter.unusedSectionVars false
namespace Go.Avm
open Go.Proofs
theorem B9:ct Pg 74:=⟨_,Tryz.func74,rfl,by decide⟩
theorem Ca:ct Pg 109:=⟨_,Tryz.func109,rfl,by decide⟩
theorem Hh(v:Nat)(es:List (D×D×Nat))(c:Nat):∀a:aa,ax Pg 74 [.mp 500003 v] (ag [(500003,⟨v,some (.map es c)⟩),(500013,⟨0,none⟩)] a) [.mp 500013 1] (ag [(500003,⟨v,some (.map es c)⟩),(500013,⟨1,some (.map es c)⟩)] a):=fun a=>by
 have h:=px B9 (fun b es c w f=>AnyW.maps_Clone Tryz.lclonea b es c w f) (h:=ag [(500003,⟨v,some (.map es c)⟩),(500013,⟨0,none⟩)] a) (k:=500003) (v:=v) 500013 (es:=es) (c:=c) rfl
 have e:aJ (ag [(500003,⟨v,some (.map es c)⟩),(500013,⟨0,none⟩)] a) 500013 ⟨1,some (.map es c)⟩=ag [(500003,⟨v,some (.map es c)⟩),(500013,⟨1,some (.map es c)⟩)] a:=by
  funext k;simp only[ag,aJ];by_cases d:k=500013
  ·subst d;rfl
  ·simp only[d,zS]
 rw[←e];exact h
theorem mQ(v:Nat)(es:List (D×D×Nat))(c:Nat):∀a:aa,ax Pg 109 [.mp 500004 v] (ag [(500004,⟨v,some (.map es c)⟩),(500014,⟨0,none⟩)] a) [.mp 500014 1] (ag [(500004,⟨v,some (.map es c)⟩),(500014,⟨1,some (.map es c)⟩)] a):=fun a=>by
 have h:=px Ca (fun b es c w f=>AnyW.maps_Clone Tryz.lcloneb b es c w f) (h:=ag [(500004,⟨v,some (.map es c)⟩),(500014,⟨0,none⟩)] a) (k:=500004) (v:=v) 500014 (es:=es) (c:=c) rfl
 have e:aJ (ag [(500004,⟨v,some (.map es c)⟩),(500014,⟨0,none⟩)] a) 500014 ⟨1,some (.map es c)⟩=ag [(500004,⟨v,some (.map es c)⟩),(500014,⟨1,some (.map es c)⟩)] a:=by
  funext k;simp only[ag,aJ];by_cases d:k=500014
  ·subst d;rfl
  ·simp only[d,zS]
 rw[←e];exact h
theorem jY{S:CK}(h:CKok S){g:Gv}{ar:List AV}(a:bX (d7 ((ck S).map (·.1)) 1000000) ar=ar):Cln ((ck S).map (·.1)) 1000000 ar (ck S) (cP g):=
 ⟨rfl,rfl,rfl,a,f9 h rfl,rfl⟩
theorem li{S:CK}(h:CKok S){g:Gv}{a b:List (Nat×aK)}{ar:List AV}(m:(((ck S ++a).map (·.1)).all fun k=>Nat.blt k 1000000)=true)(e:b.map (·.1)=a.map (·.1))(j:([499904,500002,500003,500004,500005,500382,500191].map (d7 ((ck S ++a).map (·.1)) 1000000))=[499904,500002,500003,500004,500005,500382,500191])
    (d:bX (d7 ((ck S ++a).map (·.1)) 1000000) ar=ar) (l:(a.map fun p:Nat×aK=>cD (d7 ((ck S ++a).map (·.1)) 1000000) p.2)=a.map (·.2)) (c:(b.map fun p:Nat×aK=>cD (d7 ((ck S ++a).map (·.1)) 1000000) p.2)=b.map (·.2)):
    Cln ((ck S ++a).map (·.1)) 1000000 ar (ck S ++a) (cP g ++b):=
 ⟨m,rfl,by rw[xY,xY,e];rfl,d,by
  have i:=f9 h j;rw[xY,xY (f:=fun p:Nat×aK=>p.2),i,l],by
  rw[xY,xY (f:=fun p:Nat×aK=>p.2),c];rfl⟩
abbrev zV(es:List (D×D×Nat))(n:Nat):List (Nat×aK):=[(500013,⟨1,some (.map es n)⟩)]
abbrev Dh(l:List aP)(i:Nat):List (Nat×AV):=[(0,aE),(1, .d (.ro (dH l))),(4, .mp 500013 1),(12, .d (.ro (dH l))),(13,dN (dH l).length),(14,dN i)]
abbrev Vm:List (Nat×AV):=[(0,aE),(4, .mp 500013 1)]
abbrev XQ(S S':CK)(x:aP):Prop:=HC 76 [aE, .d (sP x)] (ck S) [] (ck S')
abbrev R1(S:CK)(x:aP)(g:Gv)(p e:Int):Prop:=HX 76 [aE, .d (sP x)] (ck S) (aB p e) (cP g)
def Hi(P:Program)(j:Nat)(h:j+1<1000000):cf P:= .val (dI (IntKind.i64.wrap (((j+1:Nat):Int)-1))) (dN j) (by
 congr 2;rw[IntWalk.i64_in _ (by omega)];omega)
def zW(P:Program)(l:List aP)(i:Nat)(x:aP)(a:l[i]? =some x):cf P:= .idx (dH l) ((i:Nat):Int) (sP x) (by omega) (by rw[xo,i9,xP,a];rfl)
section
variable{S S':CK}(h:CKok S)(h':CKok S')(es:List (D×D×Nat))(n:Nat)(l:List aP)(i:Nat)
include h
theorem R2(a:decide (i<(dH l).length)=false):RE 41 (lO 49 2) (Dh l i) (ck S ++zV es n) (.exit 0) Vm (ck S ++zV es n):=
 qE {hint:=qT 49 [(15,gn Pg i (dH l).length false a)]} 49 2000 (gH h h rfl rfl rfl rfl rfl rfl)
section
variable(k id:Int)(nm:List UInt8)(ty b p:Int)(xs:List Ex)(a e:List aP)
include k id nm ty b p xs a e
theorem O5(f:l[0]? =some (.mk k id nm ty b p xs a e))(d:decide (0<(dH l).length)=true)(g:Gv)(u r:Int)(c:R1 S (.mk k id nm ty b p xs a e) g u r):RE 41 (lO 49 2) (Dh l 0) (ck S ++zV es n) (.panic (aB u r)) [] (cP g ++[(500013,⟨1,none⟩)]):=
 qE {hint:=qT 49 [(15,gn Pg 0 (dH l).length true d),(17,zW Pg l 0 _ f)],calls:=tC [(49,32,2533,bc rfl (aV p 11))],pans:=an Pg [(49,5,2533,⟨2,some (bh c),[]⟩)]} 49 2000 (li h rfl rfl rfl rfl rfl rfl)
theorem O6(j:Nat)(A:l[j+1]? =some (.mk k id nm ty b p xs a e))(w o:Int)(s:List UInt8)(q t v:Int)(cz:List Ex)(m f:List aP)(y:l[j]? =some (.mk w o s q t v cz m f))(hm:j+1<1000000)(z:HC 75 [.d (sP (.mk w o s q t v cz m f))] [] [.bool false] [])(x:decide (j+1<(dH l).length)=true)(g:Gv)(u r:Int)(c:R1 S (.mk k id nm ty b p xs a e) g u r):RE 41 (lO 49 2) (Dh l (j+1)) (ck S ++zV es n) (.panic (aB u r)) [] (cP g ++[(500013,⟨1,none⟩)]):=
 qE {hint:=qT 49 [(15,gn Pg (j+1) (dH l).length true x),(17,zW Pg l (j+1) _ A),(24,Hi Pg j hm),(25,zW Pg l j _ y)],calls:=tC [(49,27,2615,bc rfl z),(49,32,2779,bc rfl (aV p 11))],pans:=an Pg [(49,5,2779,⟨2,some (bh c),[]⟩)]} 49 2000 (li h rfl rfl rfl rfl rfl rfl)
theorem KQ(j:Nat)(w:l[j+1]? =some (.mk k id nm ty b p xs a e))(r g:Int)(c:List UInt8)(o s q:Int)(cz:List Ex)(m f:List aP)(u:l[j]? =some (.mk r g c o s q cz m f))(hm:j+1<1000000)(v:HC 75 [.d (sP (.mk r g c o s q cz m f))] [] [.bool true] [])(t:decide (j+1<(dH l).length)=true):RE 41 (lO 49 2) (Dh l (j+1)) (ck S ++zV es n) (.panic (aB p 11)) [] (cP S.gv ++[(500013,⟨1,none⟩)]):=
 qE {hint:=qT 49 [(15,gn Pg (j+1) (dH l).length true t),(17,zW Pg l (j+1) _ w),(24,Hi Pg j hm),(25,zW Pg l j _ u)],calls:=tC [(49,27,2615,bc rfl v)],pans:=an Pg [(49,4,2287,⟨13,some (bh (b7 p 11)),[]⟩)]} 49 2000 (li h rfl rfl rfl rfl rfl rfl)
end
include h'
theorem M6(k id:Int)(nm:List UInt8)(ty d p:Int)(xs:List Ex)(b e:List aP)(m:l[0]? =some (.mk k id nm ty d p xs b e))(g:decide (0<(dH l).length)=true)(c:XQ S S' (.mk k id nm ty d p xs b e)):∀(a:aa)(X:cA),X.P=Pg→X.N=41→AW X (lO 49 2) ⟨ak (Dh l 0),ag (ck S ++zV es n) a⟩ fun f j=>f= .normal∧j=⟨ak (Dh l 1),ag (ck S' ++zV es n) a⟩:=
 qE {hint:=qT 49 [(15,gn Pg 0 (dH l).length true g),(17,zW Pg l 0 _ m)],calls:=tC [(49,32,2533,bc rfl (aV p 11)),(49,35,2615,ab c)]} 49 2000 (gH h h' rfl rfl rfl rfl rfl rfl)
theorem M7(k id:Int)(nm:List UInt8)(ty t p:Int)(xs:List Ex)(q u:List aP)(j:Nat)(A:l[j+1]? =some (.mk k id nm ty t p xs q u))(s f:Int)(m:List UInt8)(g o r:Int)(cz:List Ex)(e b:List aP)(x:l[j]? =some (.mk s f m g o r cz e b))(hm:j+1<1000000)(y:HC 75 [.d (sP (.mk s f m g o r cz e b))] [] [.bool false] [])(w:decide (j+1<(dH l).length)=true)(c:XQ S S' (.mk k id nm ty t p xs q u)):∀(a:aa)(X:cA),X.P=Pg→X.N=41→AW X (lO 49 2) ⟨ak (Dh l (j+1)),ag (ck S ++zV es n) a⟩ fun v z=>v= .normal∧z=⟨ak (Dh l (j+1+1)),ag (ck S' ++zV es n) a⟩:=
 qE {hint:=qT 49 [(15,gn Pg (j+1) (dH l).length true w),(17,zW Pg l (j+1) _ A),(24,Hi Pg j hm),(25,zW Pg l j _ x),(36,cy Pg (j+1) (by omega))],calls:=tC [(49,27,2615,bc rfl y),(49,32,2779,bc rfl (aV p 11)),(49,35,2861,ab c)]} 49 2000 (gH h h' rfl rfl rfl rfl rfl rfl)
end
end Go.Avm
namespace Go.Avm
open Go.Proofs
def R3(S:CK)(l:List aP)(i:Nat):TR CS→Prop
 | .ok c=>∃S',Nx S S' c∧∀(es:List (D×D×Nat))(n:Nat)(a:aa)(X:cA),X.P=Pg→X.N=41→LW X (lO 49 2) ⟨ak (Dh l i),ag (ck S ++zV es n) a⟩ fun b d=>b= .exit 0∧d=⟨ak Vm,ag (ck S' ++zV es n) a⟩
 | .bad p e=>∃g,∀(es:List (D×D×Nat))(n:Nat)(a:aa)(X:cA),X.P=Pg→X.N=41→LW X (lO 49 2) ⟨ak (Dh l i),ag (ck S ++zV es n) a⟩ fun b d=>b= .panic (aB p e)∧d=⟨ak [],ag (cP g ++[(500013,⟨1,none⟩)]) a⟩
 | .out=>True
structure Pl where
 fs:List Fn
 fn:Nat
 deep:Int
structure At(P:Pl)(S:CK):Prop where
 ok:CKok S
 fs:S.fs=P.fs
 fn:S.fn=P.fn
 deep:S.deep=P.deep
theorem At.nx{P:Pl}{S S':CK}{c:CS}(a:At P S)(n:Nx S S' c):At P S':=⟨n.ok,n.fs.trans a.fs,n.fn.trans a.fn,n.deep.trans a.deep⟩
theorem Nx.trans{S S1 d:CK}{c1 e:CS}(a:Nx S S1 c1)(b:Nx S1 d e):Nx S d e:=⟨b.ok,b.c,b.fs.trans a.fs,b.fn.trans a.fn,b.deep.trans a.deep,b.W.trans a.W,a.vars.trans b.vars⟩
abbrev R4(P:Pl)(x:aP):Prop:=∀S:CK,At P S→TC S 76 [aE, .d (sP x)] (jv P.fs P.fn P.deep x S.c)
theorem Hj{P:Pl}{l:List aP}(T:l.length<1000000)(O:∀x∈l,R4 P x)(Q:∀x∈l,mo x):
    ∀(m i:Nat)(S:CK)(f:Bool),At P S→l.length-i=m→i≤l.length→(f=match i with|0=>false|j+1=>match l[j]? with|some y=>lc y|none=>false)→R3 S l i (bQ P.fs P.fn P.deep f (l.drop i) S.c)
 |0,i,S,f,a,hm,W,hp=>by
  have M:i=l.length:=by omega
  subst M;rw[yi];simp only[bQ];exact⟨S,a.ok.nx,fun es n b X e d=>aU (R2 a.ok es n l l.length (by simp[jW]) b X e d) (by simp)⟩
 |m+1,i,S,f,a,hm,W,hp=>by
  have q:i<l.length:=by omega
  have E:l[i]? =some l[i]:=xH q;have I:l[i]∈l:=y7 q;rw[yL q];generalize l[i]=x at E I;have U:=O x I S a;have h:decide (i<(dH l).length)=true:=by simpa [jW]using q
  obtain⟨k,id,nm,ty,t,p,xs,o,v⟩:=x;simp only[bQ];cases i with
  |zero=>
   have hp:f=false:=hp;subst hp;simp only[xI];revert U;cases jv P.fs P.fn P.deep (.mk k id nm ty t p xs o v) S.c with
   |out=>exact fun _=>trivial
   |bad u r=>exact fun ⟨g,c⟩=>⟨g,fun es n b X e d=>aU (O5 a.ok es n l k id nm ty t p xs o v E h g u r c b X e d) (by simp)⟩
   |ok c'=>
    rintro⟨S',D,c⟩;have s:=Hj T O Q m 1 S' (lc (.mk k id nm ty t p xs o v)) (a.nx D) (by omega) q (by simp only[E]);rw[D.c]at s;simp only[TR.bind];revert s;cases bQ P.fs P.fn P.deep (lc (.mk k id nm ty t p xs o v)) (l.drop (0+1)) c' with
    |out=>exact fun _=>trivial
    |bad u r=>exact fun ⟨g,s⟩=>⟨g,fun es n b X e d=>aR (M6 a.ok D.ok es n l k id nm ty t p xs o v E h c b X e d) (s es n b X e d)⟩
    |ok V=>exact fun ⟨N,R,s⟩=>⟨N,D.trans R,fun es n b X e d=>aR (M6 a.ok D.ok es n l k id nm ty t p xs o v E h c b X e d) (s es n b X e d)⟩
  |succ j=>
   have G:l[j]? =some l[j]:=xH (by omega);have H:l[j]∈l:=y7 (by omega);simp only[G]at hp;generalize l[j]=y at G H hp;have F:=Q y H;obtain⟨K,C,A,w,L,J,cz,z,B⟩:=y;subst hp;unfold mo at F;revert F;cases lc (.mk K C A w L J cz z B)with
   |true=>exact fun F=>⟨S.gv,fun es n b X e d=>aU (KQ a.ok es n l k id nm ty t p xs o v j E K C A w L J cz z B G (by omega) F h b X e d) (by simp)⟩
   |false=>
    intro F;simp only[xI];revert U;cases jv P.fs P.fn P.deep (.mk k id nm ty t p xs o v) S.c with
    |out=>exact fun _=>trivial
    |bad u r=>exact fun ⟨g,c⟩=>⟨g,fun es n b X e d=>aU (O6 a.ok es n l k id nm ty t p xs o v j E K C A w L J cz z B G (by omega) F h g u r c b X e d) (by simp)⟩
    |ok c'=>
     rintro⟨S',D,c⟩;have s:=Hj T O Q m (j+1+1) S' (lc (.mk k id nm ty t p xs o v)) (a.nx D) (by omega) q (by simp only[E]);rw[D.c]at s;simp only[TR.bind];revert s;cases bQ P.fs P.fn P.deep (lc (.mk k id nm ty t p xs o v)) (l.drop (j+1+1)) c' with
     |out=>exact fun _=>trivial
     |bad u r=>exact fun ⟨g,s⟩=>⟨g,fun es n b X e d=>aR (M7 a.ok D.ok es n l k id nm ty t p xs o v j E K C A w L J cz z B G (by omega) F h c b X e d) (s es n b X e d)⟩
     |ok V=>exact fun ⟨N,R,s⟩=>⟨N,D.trans R,fun es n b X e d=>aR (M7 a.ok D.ok es n l k id nm ty t p xs o v j E K C A w L J cz z B G (by omega) F h c b X e d) (s es n b X e d)⟩
def CK.seenAs(S:CK)(l:hN)(v:Nat):CK:={S with c:={S.c with seen:=l},vs:=v}
def CK.sureAs(S:CK)(q:SureL)(v:Nat):CK:={S with c:={S.c with sure:=q},vq:=v}
theorem KR{a b:List Vr}(h:a<+:b){f:Vr→Bool}(e:a.any f=true):b.any f=true:=by
 obtain⟨t,rfl⟩:=h;rw[List.any_append,e];rfl
theorem KS{S S':CK}(h:CKok S)(h':CKok S')(a:S.c.vars<+:S'.c.vars)(v:Nat):CKok (S'.seenAs S.c.seen v) where
 fn:=h'.fn
 W:=h'.W
 dat:=h'.dat
 len:=h'.len
 par:=h'.par
 vars:=h'.vars
 seen:=fun p hp=>yK (h.seen p hp) a.length_le
 inc:=h.inc
 nms:=h.nms
 nml:=h.nml
 had:=fun p hp=>KR a (h.had p hp)
 sk:=h'.sk
 sb:=h'.sb
 sc:=h'.sc
 sv:=h'.sv
 pts:=h'.pts
structure QOk(q:SureL)(n:Nat):Prop where
 sk:(q.l.map (·.1)).Nodup
 sb:(q.l.map (·.2)).Nodup
 sc:∀p∈q.l,p.2<q.c
 sv:∀p∈q.l,p.1<n
theorem CKok.q{S:CK}(h:CKok S):QOk S.c.sure S.c.vars.length:=⟨h.sk,h.sb,h.sc,h.sv⟩
theorem QOk.mono{q:SureL}{n m:Nat}(h:QOk q n)(a:n≤m):QOk q m:=⟨h.sk,h.sb,h.sc,fun p hp=>yK (h.sv p hp) a⟩
theorem QOk.both{a b:SureL}{n:Nat}(h:QOk a n):QOk (a.both b) n where
 sk:=(List.Sublist.map _ List.filter_sublist).nodup h.sk
 sb:=(List.Sublist.map _ List.filter_sublist).nodup h.sb
 sc:=fun p hp=>h.sc p (zK.1 hp).1
 sv:=fun p hp=>h.sv p (zK.1 hp).1
theorem vD{S:CK}(h:CKok S){q:SureL}(a:QOk q S.c.vars.length)(v:Nat):CKok (S.sureAs q v) where
 fn:=h.fn
 W:=h.W
 dat:=h.dat
 len:=h.len
 par:=h.par
 vars:=h.vars
 seen:=h.seen
 inc:=h.inc
 nms:=h.nms
 nml:=h.nml
 had:=h.had
 sk:=a.sk
 sb:=a.sb
 sc:=a.sc
 sv:=a.sv
 pts:=h.pts
noncomputable def R5{S:CK}{l:List aP}{es:List (D×D×Nat)}{n:Nat}{x:aA}{l':List (Nat×AV)}{b:List (Nat×aK)}(h:RL 41 (lO 49 2) (Dh l 0) (ck S ++zV es n) x l' b):dy Pg:=
 ⟨41,bG Pg 49 2,Dh l 0,fun _=>ck S ++zV es n,x,l',fun _=>b,fun a X c d=>(h a X c d).aw⟩
section
variable{S:CK}(h:CKok S)(l:List aP)
include h
theorem KT{S':CK}(h2:CKok (S'.seenAs S.c.seen (S'.vs+1)))(c:∀(a:aa)(X:cA),X.P=Pg→X.N=41→LW X (lO 49 2) ⟨ak (Dh l 0),ag (ck S ++zV (cU 0 S.c.seen) S.c.seen.length) a⟩ fun b e=>b= .exit 0∧e=⟨ak Vm,ag (ck S' ++zV (cU 0 S.c.seen) S.c.seen.length) a⟩):
    HC 49 [aE, .d (.ro (dH l))] (ck S) [] (ck (S'.seenAs S.c.seen (S'.vs+1))):=
 cK bv named {loops:=fun f q=>if f=49 then (if q=2 then some (R5 c)else none)else none,calls:=tC [(49,11,2164,ab (Hh S.vs (cU 0 S.c.seen) S.c.seen.length))]} 2000 2000 _ 1000000 ([(500000,524291146758)]) (ay h h2 rfl) (fun _=>by kernel_rfl)
theorem Hk(g:Gv)(p e:Int)(c:∀(a:aa)(X:cA),X.P=Pg→X.N=41→LW X (lO 49 2) ⟨ak (Dh l 0),ag (ck S ++zV (cU 0 S.c.seen) S.c.seen.length) a⟩ fun b i=>b= .panic (aB p e)∧i=⟨ak [],ag (cP g ++[(500013,⟨1,none⟩)]) a⟩):
    HX 49 [aE, .d (.ro (dH l))] (ck S) (aB p e) (cP g):=
 qX {loops:=fun f q=>if f=49 then (if q=2 then some (R5 c)else none)else none,calls:=tC [(49,11,2164,ab (Hh S.vs (cU 0 S.c.seen) S.c.seen.length))]} 2000 (jY h rfl)
end
abbrev e5(P:Pl)(l:List aP)(c:CS):TR CS:=(bQ P.fs P.fn P.deep false l c).bind fun c'=> .ok {c' with seen:=c.seen}
theorem Hl{P:Pl}{l:List aP}(i:l.length<1000000)(f:∀x∈l,R4 P x)(h:∀x∈l,mo x)(S:CK)(a:At P S):TC S 49 [aE, .d (.ro (dH l))] (e5 P l S.c):=by
 have k:=Hj i f h _ 0 S false a rfl (xz _) rfl;rw[yM]at k;unfold e5;revert k;cases bQ P.fs P.fn P.deep false l S.c with
 |out=>exact fun _=>trivial
 |bad p e=>exact fun ⟨g,c⟩=>⟨g,Hk a.ok l g p e (c _ _)⟩
 |ok c'=>
  rintro⟨S',b,c⟩;have h2:=KS a.ok b.ok b.vars (S'.vs+1);refine⟨S'.seenAs S.c.seen (S'.vs+1),⟨h2, ?_,b.fs,b.fn,b.deep,b.W,b.vars⟩,KT a.ok l h2 (c _ _)⟩;rw[←b.c];rfl
theorem E9{d:Int}(h: -9223372036854775808≤d∧d<9223372036854775808):IntKind.i64.wrap (IntKind.i64.wrap (d+1)-1)=d:=by
 have e:∀x:Int,IntKind.i64.wrap x=if 9223372036854775808≤x % 18446744073709551616 then x % 18446744073709551616-18446744073709551616 else x % 18446744073709551616:=fun x=>by
  simp only[IntKind.wrap,IntKind.bits,IntKind.signed,Bool.true_and,ge_iff_le,x6];rfl
 rw[e (IntKind.i64.wrap (d+1)-1),e (d+1)];split<;>split<;>omega
def R6(P:Program)(d a:Int)(e:a=IntKind.i64.wrap (d+1))(h: -9223372036854775808≤d∧d<9223372036854775808):cf P:= .val (dI (IntKind.i64.wrap (a-1))) (dI d) (by
 congr 2;rw[e];exact E9 h)
def CK.at(S:CK)(d:Int):CK:={S with deep:=d}
theorem Hm{S:CK}(h:CKok S)(d:Int):CKok (S.at d) where
 fn:=h.fn
 W:=h.W
 dat:=h.dat
 len:=h.len
 par:=h.par
 vars:=h.vars
 seen:=h.seen
 inc:=h.inc
 nms:=h.nms
 nml:=h.nml
 had:=h.had
 sk:=h.sk
 sb:=h.sb
 sc:=h.sc
 sv:=h.sv
 pts:=h.pts
section
variable{S:CK}(h:CKok S)(l:List aP)(a: -9223372036854775808≤S.deep∧S.deep<9223372036854775808)
include h a
theorem KU{S':CK}(h':CKok S')(e:S'.deep=IntKind.i64.wrap (S.deep+1))(c:HC 49 [aE, .d (.ro (dH l))] (ck (S.at (IntKind.i64.wrap (S.deep+1)))) [] (ck S')):
    HC 110 [aE, .d (.ro (dH l))] (ck S) [] (ck (S'.at S.deep)):=
 qN {hint:=qT 110 [(18,R6 Pg S.deep S'.deep e a)],calls:=tC [(110,13,2210,ab c)]} 2000 (ay h (Hm h' S.deep) rfl)
theorem Hn(g:Gv)(p e:Int)(c:HX 49 [aE, .d (.ro (dH l))] (ck (S.at (IntKind.i64.wrap (S.deep+1)))) (aB p e) (cP g)):
    HX 110 [aE, .d (.ro (dH l))] (ck S) (aB p e) (cP g):=
 qX {pans:=an Pg [(110,1,2168,⟨2,some (bh c),[]⟩)]} 2000 (jY h rfl)
end
def Pl.in(P:Pl):Pl:={P with deep:=b5 (P.deep+1)}
theorem Ho{P:Pl}(i: -9223372036854775808≤P.deep∧P.deep<9223372036854775808){l:List aP}(n:l.length<1000000)(h:∀x∈l,R4 P.in x)(j:∀x∈l,mo x)(S:CK)(a:At P S):TC S 110 [aE, .d (.ro (dH l))] (e5 P.in l S.c):=by
 have k:=Hl n h j (S.at (b5 (P.deep+1))) ⟨Hm a.ok _,a.fs,a.fn,rfl⟩;have f:=i;rw[←a.deep]at f;have m:b5 (P.deep+1)=IntKind.i64.wrap (S.deep+1):=by rw[a.deep];rfl
 rw[m]at k;change TC _ _ _ (e5 P.in l S.c)at k
 revert k;cases e5 P.in l S.c with
 |out=>exact fun _=>trivial
 |bad p e=>exact fun ⟨g,c⟩=>⟨g,Hn a.ok l f g p e c⟩
 |ok c'=>
  rintro⟨S',b,c⟩;exact⟨S'.at S.deep,⟨Hm b.ok _,b.c,b.fs,b.fn,rfl,b.W,b.vars⟩,KU a.ok l f b.ok b.deep c⟩
end Go.Avm
namespace Go.Avm
open Go.Proofs Go.RowKit
theorem gO{X:cA}{S S1:St}{Q:aA→St→Prop}{id p:Nat}{d:Array Oper}{op:Oper}{cfg:hQ}{ob:List Obl}{fts:List Foot}{Out:AV→aa→Prop}
    (hp:d[p]? =some op) (K:op.guard=none) (M:∀c,op.op≠ .defer c) (j:em X.P cfg X.N d (List.range' 0 p) S=some (S1,ob,fts)) (q:gz X.P ob)
    (u:∀(G:Gh)(w:World)(a:Act),HR G X.B X.w0 X.I0 S1.heap w→(∀x,Rep G w (opd S1.env x) (a.eval x))→∃v n A x h',(execOp a.eval op).run X.P w= .ok (.value v) n∧Ext G w A n∧HR A X.B X.w0 X.I0 h' n∧Rep A n x v∧Out x h')
    (m:∀x h',Out x h'→∃cfg env o ob fts,eO X.N S1.env op.dst x=some env∧em X.P cfg X.N d (List.range' (p+1) (d.size-p-1)) ⟨env,h'⟩=some (o,ob,fts)∧gz X.P ob∧∃D,Weak X o D∧Q .normal D):
    AW X (.region id d false) S Q:=lK fun G a w C=>C.2.elim fun L F=>by
 refine wpIn_region ?_;rw[pm (xQ.1 hp).1];refine tU X.mixed.ext X.rnd 0 _ C.1 F.1 j q fun U V G1 E l f=> ?_
 rw[wpOpsIn_cons];unfold wpOpIn;simp only[hp];rw[x9 (p6 f (b:=true) (by unfold er;rw[K]))];obtain⟨v,Z,Y,x,h2,h,y,s,r,g⟩:=u G1 V U l (fun x=>f.opd l.maps.glob x);obtain⟨J,env,o,T,I,k,e,i,R⟩:=m x h2 g;refine qW X.rnd 0 M h ?_;refine mF X.mixed.ext X.rnd 0 _ s ((f.mono y).put k r) e i fun W w3 O H z t=> ?_
 exact⟨.normal,o,O,trivial,R,(E.trans y).trans H,z,L,t,F.2.mono ((E.trans y).trans H)⟩
def O7(r:Option (St×List Foot×Nat×List Nat×aq)):Option (aA×St×Nat×List Nat×aq):=match r with
 |some r=>some (.normal,r.1,r.2.2.1,r.2.2.2.1,r.2.2.2.2)
 |none=>none
theorem mR{P:Program}(hm:jP P)(A:eu P)(o:Par P)(n i t e N:Nat)(c:Array Oper)(k:Nat){env:Nat→AV}{l':List (Nat×AV)}{hp d:List (Nat×aK)}{b:aa}
    (h:lX (EU (O7 (zl P o (bi P o n) i t N c (c.toList.drop k) k e ⟨env,ag hp b⟩)) (hp.map (·.1)) l' d)=outR .normal (EU (O7 (zl P o (bi P o n) i t N c (c.toList.drop k) k e ⟨env,ag hp b⟩)) (hp.map (·.1)) l' d)):
    ∃cfg l ob fts,em P cfg N c (List.range' k (c.size-k)) ⟨env,ag hp b⟩=some (l,ob,fts)∧gz P ob∧∀X:cA,Weak X l ⟨ak l',ag d b⟩:=by
 obtain⟨ps,g,x⟩:=f7 h;unfold EU at g;split at g
 ·rename_i O S1 M tk I s
  split at g
  ·rename_i q F
   split at g
   ·rename_i E
    simp only[xA,xG]at g;obtain⟨rfl,rfl⟩:=g;unfold O7 at s;split at s;case h_2=>cases s
    rename_i r m;simp only[xA,xG]at s;obtain⟨_,rfl,rfl,rfl,rfl⟩:=s;obtain⟨l,fts,L,tk,J⟩:=r
    obtain⟨⟨T,G⟩,D⟩:=nB hm A (dt hm A n) _ k e _ _ _ _ _ _ (fun j K=>by
     rw[xw,xe]) m x.left
    obtain⟨ob,y,H⟩:=G {ret:=fun j=>(T j).ret,hc:=fun j=>(T j).hc,base:=fun j=>(T j).base,obm:=fun j=>o.obm i (((c[j]?).bind (·.dst)).getD 0)} (fun _ _=>⟨rfl,rfl,rfl⟩) (fun _=>rfl);rw[yW,xg]at y;refine⟨_,l,ob,fts,y,H,fun X=> ?_⟩;have z:=ny (X:=X) (S:=l) x.right.left F x.right.right
    have:ag d l.heap=ag d b:=by
     funext k;by_cases f:k∈d.map (·.1)
     ·exact gB _ _ _ f
     ·rw[cg _ _ f,cg _ _ f]
      have p:∀u,u∈tk ++hp.map (·.1)→u≠k:=by
       rintro u v rfl;have:=xa.1 E u v;obtain⟨a,B,C⟩:=yd.1 this;have:=yN C;subst this;exact f B
      rw[D k (fun w=>p k (by simp[w]) rfl)];exact cg _ _ (fun w=>p k (by simp only[xZ];exact .inr w) rfl)
    rw[this]at z;exact z
   ·cases g
  ·cases g
 ·cases g
def KV:Code→Code
 | .seq x _=>x
 |c=>c
def tZ:Code→Code
 | .seq _ y=>y
 |c=>c
def UN:Code→Code
 | .block _ x=>x
 |c=>c
def Yl:Code→Code
 | .cond _ x _=>x
 |c=>c
def Di:Code→Array Oper
 | .region _ a _=>a
 |_=> #[]
noncomputable def Vn:Code:=GY Pg 159
noncomputable def O8:Code:=bG Pg 159 1
noncomputable def Q8:Array Oper:=Di (KV Vn)
noncomputable def M8:Array Oper:=Di (KV O8)
noncomputable def M9:Array Oper:=Di (KV (UN (tZ (tZ O8))))
noncomputable def XT:Code:=KV (tZ (UN (tZ (tZ O8))))
noncomputable def Q9:Array Oper:=Di (Yl (tZ (tZ (UN (tZ (tZ O8))))))
theorem Fa:Vn= .seq (.region 0 Q8 false) (.block 0 (.loop O8)):=by kernel_rfl
theorem oM:O8= .seq (.region 1 M8 false) (.seq (.cond (.tmp 9) .skip (.exit 0)) (.block 1 (.seq (.region 2 M9 false) (.seq XT (.cond (.tmp 16) (.region 4 Q9 false) .skip))))):=by kernel_rfl
theorem Hp:(Q8[1]?).isSome=true:=by kernel_rfl
noncomputable def UO:Oper:=(Q8[1]?).get Hp
theorem Hq:(M8[0]?).isSome=true:=by kernel_rfl
noncomputable def UP:Oper:=(M8[0]?).get Hq
theorem Hr:(M9[0]?).isSome=true:=by kernel_rfl
noncomputable def UQ:Oper:=(M9[0]?).get Hr
theorem Hs:(Q9[2]?).isSome=true:=by kernel_rfl
noncomputable def Ra:Oper:=(Q9[2]?).get Hs
theorem O9:Q8[1]? =some UO:=(Option.some_get _).symm
theorem Pa:M8[0]? =some UP:=(Option.some_get _).symm
theorem Pb:M9[0]? =some UQ:=(Option.some_get _).symm
theorem Pc:Q9[2]? =some Ra:=(Option.some_get _).symm
theorem rS:UO.op= .range 90 (.tmp 6)∧UO.guard=none∧UO.dst=some 7∧Q8.size=2:=⟨by kernel_rfl,by kernel_rfl,by kernel_rfl,by kernel_rfl⟩
theorem rT:UP.op= .next (.tmp 7) false∧UP.guard=none∧UP.dst=some 8∧M8.size=2:=⟨by kernel_rfl,by kernel_rfl,by kernel_rfl,by kernel_rfl⟩
theorem vE:UQ.op= .entry (.tmp 7)∧UQ.guard=none∧UQ.dst=some 10∧M9.size=6:=⟨by kernel_rfl,by kernel_rfl,by kernel_rfl,by kernel_rfl⟩
def Ht:Op→Option Call
 | .call c=>some c
 |_=>none
theorem Hu:(Ht Ra.op).isSome=true:=by kernel_rfl
noncomputable def vF:Call:=(Ht Ra.op).get Hu
theorem rU:Ra.op= .call vF∧Ra.guard=none∧Ra.dst=none∧Q9.size=3:=⟨by kernel_rfl,by kernel_rfl,by kernel_rfl,by kernel_rfl⟩
theorem oN:vF.callee= .builtin .delete∧vF.args= #[.tmp 17, .tmp 18]∧vF.argTypes[0]? =some 90:=⟨by kernel_rfl,by kernel_rfl,by kernel_rfl⟩
noncomputable def XU:TypeId:=match Pg.underlying 90 with
 |some (.map _ u)=>u
 |_=>0
theorem Hv:Pg.underlying 90=some (.map 3 XU):=by kernel_rfl
def nQ(b:SureL)(a:List Nat)(l:List (Nat×Nat)):List (Nat×Nat):=l.filter fun e=> !(a.contains e.2)||b.has e.1
theorem rV{x:Nat}:∀{l:List (Nat×Nat)}{j i:Nat},(l.map (·.1)).Nodup→bW x l j=some (j+i)→l.eraseIdx i=l.filter fun e=> !(e.1==x)
 |[],_,_,_,h=>by cases h
 |e::r,j,i,f,h=>by
  simp only[bW]at h;rw[xN,zJ]at f;cases b:(x==e.1)with
  |true=>
   rw[b]at h;simp only[xR,xA]at h;have p:i=0:=by omega
   subst p;rw[eq_of_beq b,List.eraseIdx_zero,List.tail_cons,List.filter_cons];simp only[BEq.rfl,Bool.not_true,yz,zS];refine(List.filter_eq_self.2 fun a o=> ?_).symm;rw[yH,yZ];intro q;exact f.1 (xi.2 ⟨a,o,q⟩)
  |false=>
   rw[b]at h;simp only[xI]at h
   have g:∀{l:List (Nat×Nat)}{j k:Nat},bW x l j=some k→j≤k:=fun {l}=>by
    induction l with
    |nil=>intro j k h;cases h
    |cons a r d=>
     intro j k h;simp only[bW]at h;cases n:(x==a.1)with
     |true=>rw[n]at h;simp at h;omega
     |false=>rw[n]at h;have:=d h;omega
   have:=g h;obtain⟨m,rfl⟩:∃m,i=m+1:=⟨i-1,by omega⟩
   have d:=rV (i:=m) f.2 (by rw[h];congr 1;omega);have c:(e.1==x)=false:=by rw[yZ]at b ⊢;exact Ne.symm b
   rw[List.eraseIdx_cons_succ,List.filter_cons,c,d];rfl
theorem t0{x:Nat}:∀{l:List (Nat×Nat)}{j:Nat},(∃p∈l,p.1=x)→∃i,bW x l j=some (j+i)
 |[],_,h=>by simp at h
 |e::r,j,h=>by
  cases a:(x==e.1)with
  |true=>exact⟨0,by simp only[bW,a,xR];rfl⟩
  |false=>
   simp only[bW,a,xI];obtain⟨p,hp,b⟩:=h;rcases xX.1 hp with rfl|hp
   ·rw[b]at a;simp at a
   ·obtain⟨i,c⟩:=t0 (j:=j+1) ⟨p,hp,b⟩
    exact⟨i+1,by rw[c];congr 1;omega⟩
section
variable{b:SureL}{l:List (Nat×Nat)}(d:(l.map (·.1)).Nodup)(c:(l.map (·.2)).Nodup)
theorem qc{i j:Type}{f:i→j}:∀{l:List i},(l.map f).Nodup→∀{x y:i},x∈l→y∈l→f x=f y→x=y
 |a::r,h,x,y,m,k,e=>by
  rw[xN,zJ]at h;rcases xX.1 m with g|g<;>rcases xX.1 k with h2|h2
  ·exact g.trans h2.symm
  ·exact absurd (xi.2 ⟨y,h2,by rw[←e,g]⟩) h.1
  ·exact absurd (xi.2 ⟨x,g,by rw[e,h2]⟩) h.1
  ·exact qc h.2 g h2 e
include c in
theorem KW{a:List Nat}{e:Nat×Nat}(j:e∈nQ b a l)(h:b.has e.1=true):nQ b (a ++[e.2]) l=nQ b a l:=by
 refine List.filter_congr fun x k=> ?_
 cases f:b.has x.1 with
 |true=>simp
 |false=>
  have g:x.2≠e.2:=fun i=>by
   have:=qc c k (zK.1 j).1 i;rw[this,h]at f;cases f
  simp[g]
include d c in
theorem KX{a:List Nat}{e:Nat×Nat}(m:e∈nQ b a l)(j:b.has e.1=false):nQ b (a ++[e.2]) l=(nQ b a l).filter fun x=> !(x.1==e.1):=by
 unfold nQ;rw[List.filter_filter];refine List.filter_congr fun x i=> ?_
 have f:=(zK.1 m).1;by_cases h:x.1=e.1
 ·have:x=e:=qc d i f h
  subst this;simp[j]
 ·have g:x.2≠e.2:=fun k=>h (by rw[qc c i f k])
  simp[h,g]
theorem Pd{a:List Nat}(h:∀e∈nQ b a l,e.2∈a):nQ b a l=l.filter fun e=>b.has e.1:=by
 refine List.filter_congr fun x i=> ?_
 cases f:b.has x.1 with
 |true=>simp
 |false=>
  cases g:a.contains x.2 with
  |true=>rfl
  |false=>
   have:=h x (zK.2 ⟨i,by simp only[g,f];rfl⟩);rw[←List.contains_iff_mem,g]at this;cases this
theorem Pe:nQ b [] l=l:=List.filter_eq_self.2 fun x _=>by simp
end
theorem pz:∀(i:Nat)(l:List (Nat×Nat)),(a8 l).eraseIdx i=a8 (l.eraseIdx i)
 |_,[]=>rfl
 |0,_::_=>rfl
 |i+1,e::r=>by
  show _::(a8 r).eraseIdx i=_::a8 (r.eraseIdx i);rw[pz i r]
theorem Dj{P:Program}{cfg:hQ}{N:Nat}{d:Array Oper}{l:List Nat}{S e:St}(h:(em P cfg N d l S).map (fun r=>(r.1,r.2.1))=some (e,[])):∃fts,em P cfg N d l S=some (e,[],fts):=by
 cases f:em P cfg N d l S with
 |none=>rw[f]at h;cases h
 |some r=>
  obtain⟨a,b,c⟩:=r;rw[f]at h;simp only[xc,xA,xG]at h;obtain⟨rfl,rfl⟩:=h;exact⟨c,rfl⟩
theorem jz(P:Program):gz P []:=fun _ h=>by cases h
abbrev A3(va w:Nat):List (Nat×AV):=[(0, .mp 500004 va),(1, .fn 160 [.ptr 600005 1 0 0 1]),(7, .itr 600100 1)]
abbrev zX(va ca vb cb:Nat)(la lb:List (Nat×Nat))(seen:List Nat)(w:Nat):List (Nat×aK):=
 [(500004,⟨va,some (.map (a8 la) ca)⟩),(600005,⟨1,some (.arr 1 [.mp 500014 vb])⟩),(500014,⟨vb,some (.map (a8 lb) cb)⟩),(600100,⟨1,some (.itr 500004 va ca seen)⟩),(600205,⟨w,none⟩),(600461,⟨w,none⟩),(600591,⟨w,none⟩)]
abbrev R7(va ca vb cb:Nat)(la lb:List (Nat×Nat))(seen:List Nat)(w:Nat):List (Nat×aK):=
 [(500004,⟨va,some (.map (a8 la) ca)⟩),(600005,⟨1,some (.arr 1 [.mp 500014 vb])⟩),(500014,⟨vb,some (.map (a8 lb) cb)⟩),(600100,⟨1,some (.itr 500004 va ca seen)⟩),(600205,⟨w+1,some (.arr 1 [])⟩),(600461,⟨w,none⟩),(600591,⟨w,none⟩)]
section
variable(va ca vb cb w:Nat)(la lb:List (Nat×Nat))(seen:List Nat)(x:Nat)
theorem Na(t:Bool)(l:List D)(a:aa):∃cfg b ob fts,em Pg cfg 19 M8 (List.range' 1 (M8.size-1)) ⟨aJ (ak (A3 va w)) 8 (.tup (.d (.bool t)::l.map .d)),ag (zX va ca vb cb la lb seen w) a⟩=some (b,ob,fts)∧gz Pg ob∧∀X:cA,Weak X b ⟨ak (A3 va w ++[(9,dB t)]),ag (zX va ca vb cb la lb seen w) a⟩:=
 mR bv named {} 2000 159 1 600300 19 M8 1 (by kernel_rfl)
theorem R8(a:aa):∃cfg b ob fts,em Pg cfg 19 M9 (List.range' 1 (M9.size-1)) ⟨aJ (ak (A3 va w ++[(9,dB true)])) 10 (.tup [.d (.int .i64 (x:Int)), .d (.agg [])]),ag (zX va ca vb cb la lb seen w) a⟩=some (b,ob,fts)∧gz Pg ob∧∀X:cA,Weak X b ⟨ak (A3 va w ++[(4,dN x),(5, .ptr 600205 (w+1) 0 0 1)]),ag (R7 va ca vb cb la lb seen w) a⟩:=
 mR bv named {} 2000 159 2 600162 19 M9 1 (by kernel_rfl)
theorem Nb(t:Bool)(r:Option Nat)(c:bW x lb 0=r)(g:r.isSome= !t)(a:aa)(X:cA)(d:X.P=Pg)(b:X.N=19):
    AW X XT ⟨ak (A3 va w ++[(4,dN x),(5, .ptr 600205 (w+1) 0 0 1)]),ag (R7 va ca vb cb la lb seen w) a⟩ fun f S'=>f= .normal∧Weak X S' ⟨ak (A3 va w ++[(4,dN x),(16,dB t)]),ag (zX va ca vb cb la lb seen (w+1)) a⟩:=by
 cases r with
 |none=>
  have e:t=true:=by cases t<;>simp_all
  subst e;exact sO bv named {hint:=qT 160 [(11,lh Pg x lb none c)]} 2000 159 600400 19 (by kernel_rfl) X d b
 |some i=>
  have e:t=false:=by cases t<;>simp_all
  subst e;exact sO bv named {hint:=qT 160 [(11,lh Pg x lb (some i) c)]} 2000 159 600400 19 (by kernel_rfl) X d b
theorem R9(t:Bool)(a:St)(b:a.env 0= .mp 500004 va)(c:a.env 4=dN x):∃fts,em Pg {} 19 Q9 (List.range' 0 2) a=some (⟨aJ (aJ a.env 17 (.mp 500004 va)) 18 (dN x),a.heap⟩,[],fts):=by
 rw[←b,←c];exact Dj (by kernel_rfl)
end
theorem nR{X:cA}{env:Nat→AV}{h h':aa}{l:List (Nat×AV)}(a:∀p∈l,p.2=env p.1)(b:h=h'):Weak X ⟨env,h⟩ ⟨ak l,h'⟩:=by
 subst b;exact mJ a
section
variable{va ca vb cb:Nat}{la lb:List (Nat×Nat)}(g:(la.map (·.1)).Nodup)(f:(la.map (·.2)).Nodup)(n:∀p∈la,p.2<ca)
include g f n
theorem Pf(c:List (Nat×Nat))(seen a:List Nat)(w:Nat)(b:aa):aJ (ag (zX va ca vb cb c lb seen w) b) 600100 ⟨1,some (.itr 500004 va ca a)⟩=ag (zX va ca vb cb c lb a w) b:=by
 funext k;simp only[ag,aJ];by_cases d:k=600100
 ·subst d;simp
 ·simp[d]
theorem Ph(c a:List (Nat×Nat))(seen:List Nat)(w:Nat)(b:aa):aJ (ag (zX va ca vb cb c lb seen w) b) 500004 ⟨va,some (.map (a8 a) ca)⟩=ag (zX va ca vb cb a lb seen w) b:=by
 funext k;simp only[ag,aJ];by_cases d:k=500004
 ·subst d;simp
 ·simp[d]
set_option maxRecDepth 100000 in
theorem Sa(r:aa)(X:cA)(s:X.P=Pg)(z:X.N=19):∀(m:Nat)(o:List Nat),la.length-o.length=m→o.Nodup→(∀v∈o,v∈la.map (·.2))→
    LW X O8 ⟨ak (A3 va 0),ag (zX va ca vb cb (nQ ⟨lb,cb⟩ o la) lb o o.length) r⟩ fun W S'=>W= .exit 0∧∃V,Weak X S' ⟨ak [(0, .mp 500004 va)],ag (zX va ca vb cb (la.filter fun e=>(⟨lb,cb⟩:SureL).has e.1) lb V la.length) r⟩:=fun m=>by
 induction m using Nat.strongRecOn with
 |ind m ih=>
  intro o hm hn hs
  have S:o.length≤la.length:=by
   have:=List.Nodup.length_le_of_subset hn hs;rwa [xO]at this
  have B:∀p∈nQ ⟨lb,cb⟩ o la,p∈la:=fun p hp=>(zK.1 hp).1
  refine kY ?_;rw[oM]
  refine eG (gO (cfg:={}) (ob:=[]) (fts:=[]) (p:=0) (S1:=⟨ak (A3 va 0),ag (zX va ca vb cb (nQ ⟨lb,cb⟩ o la) lb o o.length) r⟩) (Out:=C8 (ag (zX va ca vb cb (nQ ⟨lb,cb⟩ o la) lb o o.length) r) 600100 1 500004 va ca (a8 (nQ ⟨lb,cb⟩ o la)) o) Pa rT.2.1 (fun c=>by rw[rT.1];intro h;cases h) rfl (jz _)
   (fun G w a R u=>Kt R u rT.1 rfl (by simp[ag,aJ]) (by simp[ag,aJ]) (fun e L=> ?_)) ?_)
  ·obtain⟨p,hp,rfl⟩:=xi.1 L
   exact n p (B p hp)
  ·rintro x h' (⟨rfl,rfl,T⟩|⟨e,L,Q,rfl,rfl⟩)
   ·obtain⟨cfg,S3,ob,fts,h1,h2,h3⟩:=Na va ca vb cb o.length (nQ ⟨lb,cb⟩ o la) lb o false [] r
    refine⟨cfg,_,S3,ob,fts,by rw[z,rT.2.2.1];rfl,by rw[s,z];exact h1,by rw[s];exact h2,_,h3 X, ?_⟩;have O:∀e∈nQ ⟨lb,cb⟩ o la,e.2∈o:=fun e L=>T _ (xi.2 ⟨e,L,rfl⟩)
    have D:o.length=la.length:=by
     refine Nat.le_antisymm S ?_
     have:=List.Nodup.length_le_of_subset f (l₂:=o) (fun v hv=>by
      obtain⟨p,hp,rfl⟩:=xi.1 hv;cases C:o.contains p.2 with
      |true=>exact List.contains_iff_mem.1 C
      |false=>exact O p (zK.2 ⟨hp,by show(!(o.contains p.2)||_)=true;rw[C];rfl⟩))
     rwa [xO]at this
    have J:=Pd O;refine eG (i8 (b:=false) rfl (fun h=>by cases h) (fun _=>uS ⟨rfl,o,nR (fun p hp=> ?_) (by rw[J,D])⟩));rw[xK]at hp;subst hp;rfl
   ·obtain⟨p,hp,rfl⟩:=xi.1 L
    simp only at Q ⊢;have hpl:=B p hp;rw[Pf g f n];obtain⟨cfg,S3,ob,fts,h1,h2,h3⟩:=Na va ca vb cb o.length (nQ ⟨lb,cb⟩ o la) lb (o ++[p.2]) true [.int .i64 (p.1:Int), .agg []] r;refine⟨cfg,_,S3,ob,fts,by rw[z,rT.2.2.1];rfl,by rw[s,z];exact h1,by rw[s];exact h2,_,h3 X, ?_⟩;refine eG (i8 (b:=true) rfl (fun _=>p7 ?_) (fun h=>by cases h))
    refine kX (eG (gO (cfg:={}) (ob:=[]) (fts:=[]) (p:=0) (S1:=⟨ak (A3 va 0 ++[(9,dB true)]),ag (zX va ca vb cb (nQ ⟨lb,cb⟩ o la) lb (o ++[p.2]) o.length) r⟩) (Out:=fun K h'=>K= .tup [.d (.int .i64 (p.1:Int)), .d (.agg [])]∧h'=ag (zX va ca vb cb (nQ ⟨lb,cb⟩ o la) lb (o ++[p.2]) o.length) r) Pb vE.2.1 (fun c=>by rw[vE.1];intro h;cases h) rfl (jz _)
     (fun G w a R u=>GS R u vE.1 rfl (e:=(.int .i64 (p.1:Int), .agg [],p.2)) (seen:=o) (I:=600100) (vI:=1) (k:=500004) (v:=va) (c:=ca) (es:=a8 (nQ ⟨lb,cb⟩ o la)) (by simp[ag,aJ]) (by simp[ag,aJ]) (xi.2 ⟨p,hp,rfl⟩) (by
      unfold a8;rw[yq];exact(List.Sublist.map _ List.filter_sublist).nodup f)) ?_))
    rintro K h' ⟨rfl,rfl⟩;obtain⟨U,S4,Y,M,g1,g2,g3⟩:=R8 va ca vb cb o.length (nQ ⟨lb,cb⟩ o la) lb (o ++[p.2]) p.1 r;refine⟨U,_,S4,Y,M,by rw[z,vE.2.2.1];rfl,by rw[s,z];exact g1,by rw[s];exact g2,_,g3 X, ?_⟩
    have F:(o ++[p.2]).Nodup:=by
     rw[List.nodup_append];exact⟨hn,by simp,fun a ha b f=>by rw[xK]at f;subst f;exact fun e=>Q (e▸ha)⟩
    have H:∀v∈o ++[p.2],v∈la.map (·.2):=fun v hv=>by
     rcases xZ.1 hv with h|h
     ·exact hs v h
     ·rw[xK]at h
      subst h;exact xi.2 ⟨p,hpl,rfl⟩
    have hl2:o.length<la.length:=by
     have:=List.Nodup.length_le_of_subset F H;rw[xC,xt,xO]at this;omega
    have next:=ih (la.length-(o ++[p.2]).length) (by rw[xC,xt];omega) (o ++[p.2]) rfl F H
    rw[xC,xt]at next
    cases E:(⟨lb,cb⟩:SureL).has p.1 with
    |true=>
     rw[KW f hp E]at next
     refine eG ((Nb va ca vb cb o.length (nQ ⟨lb,cb⟩ o la) lb (o ++[p.2]) p.1 false _ rfl (by unfold SureL.has at E;rw[E];rfl) r X s z).mono ?_);rintro W S' ⟨rfl,Z⟩;refine AW.weak Z (i8 (b:=false) rfl (fun h=>by cases h) (fun _=>p7 ?_));rw[←oM]
     exact LW.weak (nR (l:=A3 va 0) (fun q C=>by
      simp only[A3,xX,yD,zG]at C;rcases C with rfl|rfl|rfl<;>rfl) rfl) next
    |false=>
     rw[KX g f hp E]at next
     refine eG ((Nb va ca vb cb o.length (nQ ⟨lb,cb⟩ o la) lb (o ++[p.2]) p.1 true _ rfl (by unfold SureL.has at E;rw[E];rfl) r X s z).mono ?_);rintro W S' ⟨rfl,Z⟩;refine AW.weak Z (i8 (b:=true) rfl (fun _=> ?_) (fun h=>by cases h));obtain⟨fts4,k1⟩:=R9 va p.1 true ⟨ak (A3 va 0 ++[(4,dN p.1),(16,dB true)]),ag (zX va ca vb cb (nQ ⟨lb,cb⟩ o la) lb (o ++[p.2]) (o.length+1)) r⟩ rfl rfl;obtain⟨i,hi⟩:=t0 (j:=0) ⟨p,hp,rfl⟩;rw[xb]at hi;have A:=rV (l:=nQ ⟨lb,cb⟩ o la) (x:=p.1) (j:=0) (i:=i) ((List.Sublist.map _ List.filter_sublist).nodup g) (hi.trans (by rw[xb]));refine gO (cfg:={}) (p:=2) (Out:=fun K h'=>K= .tup []∧h'=aJ (ag (zX va ca vb cb (nQ ⟨lb,cb⟩ o la) lb (o ++[p.2]) (o.length+1)) r) 500004 ⟨va,some (.map ((a8 (nQ ⟨lb,cb⟩ o la)).eraseIdx i) ca)⟩) Pc rU.2.1 (fun c=>by rw[rU.1];intro h;cases h) (by rw[s,z];exact k1) (jz _) (fun G w a R u=> ?_) ?_
     ·obtain⟨v',w',G',q1,q2,q3,q4⟩:=EV (P:=X.P) R u (t:=90) (kt:=3) (et:=XU) (m:= .tmp 17) (x:= .tmp 18) (k:=500004) (v:=va) (c:=ca) (es:=a8 (nQ ⟨lb,cb⟩ o la)) (kd:= .int .i64 (p.1:Int)) (y:= .agg []) (i:=i) rU.1 oN.1 oN.2.1 oN.2.2 (by rw[s];exact Hv) rfl rfl (by simp[ag,aJ]) (by rw[s];kernel_rfl) (by rw[oH,hi];rfl)
      exact⟨v',w',G',_,_,q1,q2,q3,q4,rfl,rfl⟩
     ·rintro K h' ⟨rfl,rfl⟩
      refine⟨{},_,_,[],[],by rw[rU.2.2.1];rfl,by rw[rU.2.2.2];rfl,jz _,_,Weak.refl _, ?_⟩;rw[pz,A,Ph g f n];rw[←oM]
      exact LW.weak (nR (l:=A3 va 0) (fun q C=>by
       simp only[A3,xX,yD,zG]at C;rcases C with rfl|rfl|rfl<;>rfl) rfl) next
abbrev US(va ca vb cb:Nat)(la lb:List (Nat×Nat)):List (Nat×aK):=
 [(500004,⟨va,some (.map (a8 la) ca)⟩),(600005,⟨1,some (.arr 1 [.mp 500014 vb])⟩),(500014,⟨vb,some (.map (a8 lb) cb)⟩),(600100,⟨0,none⟩),(600205,⟨0,none⟩),(600461,⟨0,none⟩),(600591,⟨0,none⟩)]
abbrev XV(va ca vb cb:Nat)(la lb:List (Nat×Nat))(w:Nat):List (Nat×aK):=
 [(500004,⟨va,some (.map (a8 la) ca)⟩),(600005,⟨1,some (.arr 1 [.mp 500014 vb])⟩),(500014,⟨vb,some (.map (a8 lb) cb)⟩),(600100,⟨1,none⟩),(600205,⟨w,none⟩),(600461,⟨w,none⟩),(600591,⟨w,none⟩)]
theorem Sb(a:St)(h:a.env 0= .mp 500004 va):∃fts,em Pg {} 19 Q8 (List.range' 0 1) a=some (⟨aJ a.env 6 (.mp 500004 va),a.heap⟩,[],fts):=by
 rw[←h];exact Dj (by kernel_rfl)
theorem Vo(b:aa):ax Pg 159 [.mp 500004 va, .fn 160 [.ptr 600005 1 0 0 1]] (ag (US va ca vb cb la lb) b) [] (ag (XV va ca vb cb (la.filter fun e=>(⟨lb,cb⟩:SureL).has e.1) lb la.length) b):=by
 refine k0 bv Tryz.func159 (c:=Vn) (by kernel_rfl) (by kernel_rfl) (by rw[show Tryz.f159.ntmps=19 by kernel_rfl];exact Nat.le_of_ble_eq_true rfl) fun X l i=> ?_
 have i:X.N=19:=i.trans (by kernel_rfl);rw[Fa];obtain⟨r,C⟩:=Sb (va:=va) g f n ⟨hE [.mp 500004 va, .fn 160 [.ptr 600005 1 0 0 1]],ag (US va ca vb cb la lb) b⟩ rfl;refine eG (gO (cfg:={}) (ob:=[]) (p:=1) (Out:=fun x h'=>x= .itr 600100 1∧h'=aJ (ag (US va ca vb cb la lb) b) 600100 ⟨1,some (.itr 500004 va ca [])⟩) O9 rS.2.1 (fun c=>by rw[rS.1];intro h;cases h) (by rw[l,i];exact C) (jz _) (fun G w a B j=> ?_) ?_)
 ·obtain⟨y,u,D,d,h2,t,m⟩:=GR (P:=X.P) B j 600100 rS.1 (by rw[l];exact Hv) (k:=500004) (v:=va) (es:=a8 la) (c:=ca) rfl (by simp[ag,aJ])
  have e:(ag (US va ca vb cb la lb) b 600100).ver=0:=by simp[ag,aJ]
  simp only[e]at t m;exact⟨y,u,D,_,_,d,h2,t,m,rfl,rfl⟩
 ·rintro x h' ⟨rfl,rfl⟩
  refine⟨{},_,_,[],[],by rw[i,rS.2.2.1];rfl,by rw[rS.2.2.2];rfl,jz _,⟨ak (A3 va 0),ag (zX va ca vb cb la lb [] 0) b⟩,nR (fun q o=> ?_) ?_, ?_⟩
  ·simp only[A3,xX,yD,zG]at o
   rcases o with rfl|rfl|rfl<;>rfl
  ·funext k
   simp only[ag,aJ];by_cases d:k=600100
   ·subst d;simp
   ·simp[d]
  ·have lp:=Sa (va:=va) (vb:=vb) (cb:=cb) (lb:=lb) g f n b X l i _ [] rfl y8 (fun v A=>by cases A)
   rw[Pe]at lp;refine kX (lK (lp.aw.mono ?_));rintro E S' ⟨rfl,s,z⟩;refine⟨_,z.trans (ju (h':=ag (XV va ca vb cb (la.filter fun e=>(⟨lb,cb⟩:SureL).has e.1) lb la.length) b) fun k=> ?_), .inl rfl,by kernel_rfl,rfl⟩;simp only[ag,aJ];by_cases d:k=600100
   ·subst d;simp
   ·simp[d]
end
section
variable(va ca vb cb:Nat)(la lb:List (Nat×Nat))
theorem Sc(y:Bool)(a:aa):ax Pg 135 [.mp 500004 va, .mp 500014 vb,dB true,dB y] (ag [(600005,⟨0,none⟩)] a) [.mp 500014 vb] (ag [(600005,⟨1,none⟩)] a):=
 am bv named {} 2000 600000 _ (by kernel_rfl)
theorem Sd(a:aa):ax Pg 135 [.mp 500004 va, .mp 500014 vb,dB false,dB true] (ag [(600005,⟨0,none⟩)] a) [.mp 500004 va] (ag [(600005,⟨1,none⟩)] a):=
 am bv named {} 2000 600000 _ (by kernel_rfl)
theorem Se(b:(la.map (·.1)).Nodup)(c:(la.map (·.2)).Nodup)(d:∀p∈la,p.2<ca)(a:aa):ax Pg 135 [.mp 500004 va, .mp 500014 vb,dB false,dB false] (ag [(500004,⟨va,some (.map (a8 la) ca)⟩),(500014,⟨vb,some (.map (a8 lb) cb)⟩),(600005,⟨0,none⟩),(600100,⟨0,none⟩),(600205,⟨0,none⟩),(600461,⟨0,none⟩),(600591,⟨0,none⟩)] a) [.mp 500004 va]
    (ag [(500004,⟨va,some (.map (a8 (la.filter fun e=>(⟨lb,cb⟩:SureL).has e.1)) ca)⟩),(500014,⟨vb,some (.map (a8 lb) cb)⟩),(600005,⟨1,none⟩),(600100,⟨1,none⟩),(600205,⟨la.length,none⟩),(600461,⟨la.length,none⟩),(600591,⟨la.length,none⟩)] a):=
 am bv named ({calls:=fun f s _=>if f=135 then (if s=17 then some (ab (Vo (va:=va) (ca:=ca) (vb:=vb) (cb:=cb) (la:=la) (lb:=lb) b c d))else none)else none}) 2000 600000 _ (by kernel_rfl)
end
end Go.Avm
namespace Go.Avm
open Go.Proofs
def sw(k:Nat):Nat:=bif Nat.beq k 500004 then 500014 else bif Nat.beq k 500014 then 500004 else k
theorem Hw{a b:Nat}(h:a≠b):Nat.beq a b=false:=by
 cases c:Nat.beq a b with
 |false=>rfl
 |true=>exact absurd (yN c) h
theorem t4(k:Nat):sw (sw k)=k:=by
 by_cases a:k=500004
 ·subst a;rfl
 ·by_cases h2:k=500014
  ·subst h2;rfl
  ·have e:sw k=k:=by
     unfold sw;rw[Hw a,Hw h2];rfl
   rw[e,e]
theorem zY:Names sw fun j=>some (sw j):=⟨fun k=>by simp only[t4],fun j k h=>by
 have:sw j=k:=Option.some.inj h;rw[←this,t4]⟩
theorem rX(a:aa):∀(l:List (Nat×aK))(j:Nat),cD sw (ag l a (sw j))=ag (l.map fun p=>(sw p.1,cD sw p.2)) (gi sw (fun j=>some (sw j)) a) j
 |[],j=>rfl
 |(k,e)::r,j=>by
  simp only[xN,ag,aJ];by_cases h:sw j=k
  ·have h2:j=sw k:=by rw[←h,t4]
   rw[x9 h,x9 h2]
  ·have h2:¬j=sw k:=fun h2=>h (by rw[h2,t4])
   rw[xj h,xj h2];exact rX a r j
abbrev KY(S:CK):List AV:=[.mp 499904 1, .d (.ro (S.fs.map c2)), .sl 500191 1 0 S.fs.length 1, .sl 500382 S.vp 0 S.c.pts.length 3,dN S.fn, .mp 500002 S.vh, .mp 500003 S.vs, .mp 500014 S.vq,dI S.deep]
abbrev Fb(S:CK):List (Nat×aK):=
 [(500000,⟨1,some (.arr 1 (KY S))⟩),(499904,⟨1,some (.map (kp 0 S.fs) S.fs.length)⟩),(500002,⟨S.vh,some (.map (gG 0 S.c.vars) S.c.vars.length)⟩),(500003,⟨S.vs,some (.map (cU 0 S.c.seen) S.c.seen.length)⟩),
  (500014,⟨S.vq,some (.map (a8 S.c.sure.l) S.c.sure.c)⟩),(500005,⟨S.vv,some (.arr 4 (S.c.vars.map A2))⟩),(500382,⟨S.vp,some (.arr 3 (S.c.pts.map cO))⟩),(500191,⟨1,some (.arr 1 (S.W.set S.fn (lg S.vv S.c.vars)))⟩)]
theorem Cb{S:CK}(h:CKok S):((Fb S).map fun p=>(sw p.1,cD sw p.2))=ck S:=by
 have a:sw 500005=500005:=rfl;have i:sw 500000=500000:=rfl;have g:sw 499904=499904:=rfl;have b:sw 500002=500002:=rfl;have f:sw 500003=500003:=rfl;have c:sw 500014=500004:=rfl;have e:sw 500382=500382:=rfl;have d:sw 500191=500191:=rfl;simp only[ck,Dc,Fb,KY,xN,xk,cD,xc,gh,nN,rI,M1 h a,bX,aX,i,g,b,f,c,e,d,a]
abbrev Dk(g:Gv):List (Nat×aK):=[(500000,⟨1,none⟩),(499904,⟨1,none⟩),(500002,⟨g.vh,none⟩),(500003,⟨g.vs,none⟩),(500014,⟨g.vq,none⟩),(500005,⟨g.vv,none⟩),(500382,⟨g.vp,none⟩),(500191,⟨1,none⟩)]
theorem Hx(g:Gv):((Dk g).map fun p=>(sw p.1,cD sw p.2))=cP g:=by kernel_rfl
theorem Fc{S S':CK}(h:CKok S)(h':CKok S'){f:Nat}{d:D}(c:HC f [aE, .d d] (ck S) [] (ck S')):HC f [aE, .d d] (Fb S) [] (Fb S'):=fun a=>by
 have e:gi sw (fun j=>some (sw j)) (ag (Fb S) a)=ag (ck S) (gi sw (fun j=>some (sw j)) a):=by
  funext j;have:=rX a (Fb S) j;rw[Cb h]at this;exact this
 refine tQ zY (h2:=ag (ck S') (gi sw (fun j=>some (sw j)) a)) ?_ fun k=> ?_
 ·rw[e]
  exact c _
 ·have:=rX a (Fb S') (sw k)
  rw[Cb h',t4]at this;exact this.symm
theorem Hy{S:CK}(h:CKok S){g:Gv}{f:Nat}{d:D}{p e:Int}(c:HX f [aE, .d d] (ck S) (aB p e) (cP g)):HX f [aE, .d d] (Fb S) (aB p e) (Dk g):=fun a=>by
 have e:gi sw (fun j=>some (sw j)) (ag (Fb S) a)=ag (ck S) (gi sw (fun j=>some (sw j)) a):=by
  funext j;have:=rX a (Fb S) j;rw[Cb h]at this;exact this
 refine zp zY (h2:=ag (cP g) (gi sw (fun j=>some (sw j)) a)) ?_ fun k=> ?_
 ·rw[e]
  exact c _
 ·have:=rX a (Dk g) (sw k)
  rw[Hx,t4]at this;exact this.symm
end Go.Avm
namespace Go.Avm
open Go.Proofs
abbrev Vp(S S':CK)(l:List aP):Prop:=HC 110 [aE, .d (.ro (dH l))] (ck S) [] (ck S')
abbrev Sf(S S':CK)(l:List aP):Prop:=HC 110 [aE, .d (.ro (dH l))] (Fb S) [] (Fb S')
abbrev jg(l:List aP)(b:Bool):Prop:=HC 50 [.d (.ro (dH l))] [] [.bool b] []
theorem rY{P:Program}(hm:jP P){f:Nat}{args k:List AV}{h g h2:aa}(j:ax P f args h k g)(o:∀(X:cA)(env:Nat→AV),Weak X ⟨env,g⟩ ⟨env,h2⟩):ax P f args h k h2:=by
 refine⟨j.1,fun G B w0 I0 w a x s c=>(j.2 G B w0 I0 w a x s c).mono ?_⟩;rintro e n ⟨v,z,rfl,p,y,r⟩
 let X:cA:={P:=P,B:=B,w0:=w0,I0:=I0,N:=0,mixed:=hm}
 obtain⟨m,i,u,_⟩:=o X (fun _=> .junk) z {tmps:= #[],defers:=[]} n ⟨y,[],⟨rfl,rfl,fun t A=>absurd A (by simp[X]),fun _ _=>rfl⟩,⟨y8,fun b d=>by simp at d,fun b d=>by simp at d,fun l q=>by simp[X]at q,xz _⟩⟩;exact⟨v,m,rfl,p.trans i,u,r.mono i⟩
abbrev Nc:List (Nat×aK):=[(500014,⟨0,none⟩)]
abbrev Rb(S:CK)(a:Nat):List (Nat×aK):=
 [(500000,⟨1,some (.arr 1 (KY S))⟩),(499904,⟨1,some (.map (kp 0 S.fs) S.fs.length)⟩),(500002,⟨S.vh,some (.map (gG 0 S.c.vars) S.c.vars.length)⟩),(500003,⟨S.vs,some (.map (cU 0 S.c.seen) S.c.seen.length)⟩),
  (500004,⟨a,none⟩),(500005,⟨S.vv,some (.arr 4 (S.c.vars.map A2))⟩),(500382,⟨S.vp,some (.arr 3 (S.c.pts.map cO))⟩),(500191,⟨1,some (.arr 1 (S.W.set S.fn (lg S.vv S.c.vars)))⟩),(500014,⟨S.vq,some (.map (a8 S.c.sure.l) S.c.sure.c)⟩)]
theorem Sg{S S':CK}(h:CKok S)(h':CKok S'){g:Nat}{ar:List AV}(b:bX (d7 ((ck S ++Nc).map (·.1)) 1000000) ar=ar):Cln ((ck S ++Nc).map (·.1)) 1000000 ar (ck S ++Nc) (Rb S' g):=
 ⟨rfl,rfl,rfl,b,by
  have a:=f9 h (ρ:=d7 ((ck S ++Nc).map (·.1)) 1000000) rfl;rw[xY,xY (f:=fun p:Nat×aK=>p.2),a];rfl,by
  have a:=f9 h' (ρ:=d7 ((ck S ++Nc).map (·.1)) 1000000) rfl;simp only[ck,xN,xk,List.cons.injEq,yr]at a;obtain⟨m,j,d,c,k,i,e,l⟩:=a;simp only[Rb,xN,xk,j,d,c,k,i,e,l,List.cons.injEq,yr];refine⟨?_,trivial,trivial,trivial,rfl⟩;simp only[cD,xc,gh,bX,aX];rfl⟩
section
variable{S:CK}(h:CKok S)(k id:Int)(nm:List UInt8)(ty n p:Int)(u s:Int)(f:List UInt8)(m o:Int)(b zs:List Ex)(i j:List aP)
include h
theorem Ym(q r:Int)(c:iX S (.mk u s f m o b) [2] q r):HX 108 [aE,eW k id nm ty n p (.mk u s f m o b::zs) i j] (ck S) (aB q r) (ck S):=
 qX {pans:=an Pg [(108,1,2049,⟨6,some (bh (wP c 2305)),[]⟩)]} 2000 (ay h h rfl)
section
variable{t:Int}(w:l5 S (.mk u s f m o b) [2] t)
include w
theorem Yn(g:Gv)(q r:Int)(c:HX 110 [aE, .d (.ro (dH i))] (ck S) (aB q r) (cP g)):HX 108 [aE,eW k id nm ty n p (.mk u s f m o b::zs) i j] (ck S) (aB q r) (cP g):=
 qX {calls:=tC [(108,12,2343,bc rfl (wO w 2305)),(108,17,2539,ab (mQ S.vq (a8 S.c.sure.l) S.c.sure.c))],pans:=an Pg [(108,3,2588,⟨3,some (bh c),[]⟩)]} 2000 (jY h rfl)
variable{S1:CK}(x:CKok S1)(c1:Vp S S1 i)
include x c1
theorem Yo(g:Gv)(q r:Int)(c:HX 110 [aE, .d (.ro (dH j))] (Fb (S1.sureAs S.c.sure 1)) (aB q r) (Dk g)):HX 108 [aE,eW k id nm ty n p (.mk u s f m o b::zs) i j] (ck S) (aB q r) (cP {g with vq:=S1.vq}):=
 qX {calls:=tC [(108,12,2343,bc rfl (wO w 2305)),(108,17,2539,ab (mQ S.vq (a8 S.c.sure.l) S.c.sure.c)),(108,21,2735,ab c1)],pans:=an Pg [(108,6,3225,⟨3,some (bh c),[]⟩)]} 2000 (jY h rfl)
variable{d:CK}(g:Sf (S1.sureAs S.c.sure 1) d j)
include g
theorem Vq(y:Bool)(h':CKok d)(e:jg i true)(a:jg j y):HC 108 [aE,eW k id nm ty n p (.mk u s f m o b::zs) i j] (ck S ++Nc) [] (Rb d S1.vq):=
 qN {calls:=tC [(108,12,2343,bc rfl (wO w 2305)),(108,17,2539,ab (mQ S.vq (a8 S.c.sure.l) S.c.sure.c)),(108,21,2735,ab c1),(108,33,3372,ab g),(108,42,3764,bc rfl e),(108,45,3862,bc rfl a),(108,46,3862,ab (Sc S1.vq d.vq y))]} 2000 (Sg h h' rfl)
theorem Yp(y:Bool)(G:CKok d)(h':CKok (d.sureAs d.c.sure (S1.vq+1)))(L:jg i true)(F:jg j y):HC 108 [aE,eW k id nm ty n p (.mk u s f m o b::zs) i j] (ck S) [] (ck (d.sureAs d.c.sure (S1.vq+1))):=fun q=>by
 refine k7 (M:=1000000) (ay h h' rfl) (fun q=> ?_) q;have c:=Vq h k id nm ty n p u s f m o b zs i j w x c1 g y G L F (eV 1000000 q)
 have e:ag (ck S ++Nc) (eV 1000000 q)=ag (ck S) (eV 1000000 q):=by
  funext k;simp only[ck,Nc,x8,xn,ag,aJ];by_cases r:k=500014
  ·subst r;rfl
  ·rw[xj r]
 rw[e]at c;refine⟨_,rY bv c fun X env=>nI (C:=500000) (a:=7) (T:=500014) (K:=500004) (v:=d.vq) (c:=d.c.sure.c) (ces:=KY d) (es:=a8 d.c.sure.l) (by decide) (by decide) (by decide) rfl rfl (by simp[Rb,ag,aJ]),fun k r=> ?_,fun k r=> ?_⟩
 ·simp only[xN,xk,xX,yD,zG]at r
  rcases r with rfl|rfl|rfl|rfl|rfl|rfl|rfl|rfl<;>simp[Rb,ck,Dc,CK.sureAs,ag,aJ]
 ·have I:k≠500000:=by omega
  have m:k≠499904:=by omega
  have H:k≠500002:=by omega
  have z:k≠500003:=by omega
  have J:k≠500004:=by omega
  have E:k≠500005:=by omega
  have D:k≠500382:=by omega
  have B:k≠500191:=by omega
  have A:k≠500014:=by omega
  simp only[Rb,ck,ag,aJ,I,m,H,z,J,E,D,B,A,zS]
theorem Yq(h':CKok (d.sureAs S1.c.sure S1.vq))(e:jg i false)(a:jg j true):HC 108 [aE,eW k id nm ty n p (.mk u s f m o b::zs) i j] (ck S) [] (ck (d.sureAs S1.c.sure S1.vq)):=
 qN {calls:=tC [(108,12,2343,bc rfl (wO w 2305)),(108,17,2539,ab (mQ S.vq (a8 S.c.sure.l) S.c.sure.c)),(108,21,2735,ab c1),(108,33,3372,ab g),(108,42,3764,bc rfl e),(108,45,3862,bc rfl a),(108,46,3862,ab (Sd S1.vq d.vq))]} 2000 (ay h h' rfl)
theorem Yr(h':CKok (d.sureAs (S1.c.sure.both d.c.sure) S1.vq))(e:jg i false)(a:jg j false):HC 108 [aE,eW k id nm ty n p (.mk u s f m o b::zs) i j] (ck S) [] (ck (d.sureAs (S1.c.sure.both d.c.sure) S1.vq)):=
 qN {calls:=tC [(108,12,2343,bc rfl (wO w 2305)),(108,17,2539,ab (mQ S.vq (a8 S.c.sure.l) S.c.sure.c)),(108,21,2735,ab c1),(108,33,3372,ab g),(108,42,3764,bc rfl e),(108,45,3862,bc rfl a),(108,46,3862,ab (Se S1.vq S1.c.sure.c d.vq d.c.sure.c S1.c.sure.l d.c.sure.l x.sk x.sb x.sc))]} 2000 (ay h h' rfl)
end
end
end Go.Avm
namespace Go.Avm
open Go.Proofs
abbrev rZ(P:Pl)(es:List Ex)(d e:List aP)(c:CS):TR CS:=(aF (c.te P.fs) es [[2]] false).bind fun _=>(e5 P.in d c).bind fun a=>(e5 P.in e {a with sure:=c.sure}).bind fun b=>
 .ok {b with sure:=bif dV d then b.sure else bif dV e then a.sure else a.sure.both b.sure}
theorem KZ{P:Pl}{S:CK}(a:At P S){q:SureL}(b:QOk q S.c.vars.length)(v:Nat):At P (S.sureAs q v):=⟨vD a.ok b v,a.fs,a.fn,a.deep⟩
theorem K0{P:Pl}{l j:List aP}(Q:∀S,At P S→TC S 110 [aE, .d (.ro (dH l))] (e5 P.in l S.c))(N:∀S,At P S→TC S 110 [aE, .d (.ro (dH j))] (e5 P.in j S.c))(K:mq l)(O:mq j)
    (k id:Int) (nm:List UInt8) (ty n p:Int) (es:List Ex) (S:CK) (a:At P S):TC S 108 [aE,eW k id nm ty n p es l j] (rZ P es l j S.c):=by
 unfold rZ;match es with
 |[]=>simp only[aF];trivial
 | .mk x s h y u i::zs=>
  have c:=OP a.ok (.mk x s h y u i) 2;unfold WX at c;rw[a.fs]at c;rw[bE];revert c;cases cB (S.c.te P.fs) (.mk x s h y u i) [2]with
  |out=>exact fun _=>trivial
  |bad q r=>exact fun c=>ii (S':=S) (Ym a.ok k id nm ty n p x s h y u i zs l j q r c)
  |ok t=>
   intro w;have w:l5 S (.mk x s h y u i) [2] t:=w;simp only[TR.bind,xI,eI];have c1:=Q S a;revert c1;cases R:e5 P.in l S.c with
   |out=>exact fun _=>trivial
   |bad q r=>exact fun ⟨g,c⟩=>⟨g,Yn a.ok k id nm ty n p x s h y u i zs l j w g q r c⟩
   |ok D=>
    rintro⟨S1,b,c1⟩;have I:QOk S.c.sure S1.c.vars.length:=a.ok.q.mono b.vars.length_le;have B:=KZ (a.nx b) I 1;have C:=N (S1.sureAs S.c.sure 1) B;have L:(S1.sureAs S.c.sure 1).c={D with sure:=S.c.sure}:=by rw[←b.c];rfl
    rw[L]at C;simp only;revert C;cases e5 P.in j {D with sure:=S.c.sure}with
    |out=>exact fun _=>trivial
    |bad q r=>exact fun ⟨g,c⟩=>⟨_,Yo a.ok k id nm ty n p x s h y u i zs l j w b.ok c1 g q r (Hy B.ok c)⟩
    |ok F=>
     rintro⟨G,e,C⟩;have A:=Fc B.ok e.ok C;have E:S1.c.vars<+:G.c.vars:=e.vars;have z:∀(J:SureL)(v:Nat),QOk J G.c.vars.length→Nx S (G.sureAs J v) {F with sure:=J}:=fun J v M=>⟨vD e.ok M v,by rw[←e.c];rfl,e.fs.trans b.fs,e.fn.trans b.fn,e.deep.trans b.deep,e.W.trans b.W,b.vars.trans E⟩
     have o:=K;have m:=O;unfold mq at o m;simp only[TR.bind];cases H:dV l with
     |true=>
      rw[H]at o;have f:=z F.sure (S1.vq+1) (by rw[←e.c];exact e.ok.q);rw[←e.c]at f ⊢;exact⟨_,f,Yp a.ok k id nm ty n p x s h y u i zs l j w b.ok c1 A (dV j) e.ok f.ok o m⟩
     |false=>
     rw[H]at o;cases h2:dV j with
     |true=>
      rw[h2]at m;have f:=z D.sure S1.vq (by rw[←b.c];exact b.ok.q.mono E.length_le);rw[←b.c]at f ⊢;exact⟨_,f,Yq a.ok k id nm ty n p x s h y u i zs l j w b.ok c1 A f.ok o m⟩
     |false=>
      rw[h2]at m;have f:=z (D.sure.both F.sure) S1.vq (by rw[←b.c];exact(b.ok.q.mono E.length_le).both);rw[←b.c,←e.c]at f ⊢;exact⟨_,f,Yr a.ok k id nm ty n p x s h y u i zs l j w b.ok c1 A f.ok o m⟩
end Go.Avm
namespace Go.Avm
open Go.Proofs
def mS:Nat→List (List UInt8)→List Pm→TR Unit
 |_,_,[]=> .ok ()
 |k,a,p::r=>bif decide (6≤k)then .bad p.p 9 else bif a.any (· ==p.nm)then .bad p.p 7 else mS (k+1) (a ++[p.nm]) r
def fo:List Fn→List Fn→TR Unit
 |_,[]=> .ok ()
 |a,f::r=>bif (cv f.nm a 0).isSome then .bad f.p 7 else (mS 0 [] f.ps).bind fun _=>fo (a ++[f]) r
def Hz:List UInt8:=[109,97,105,110]
def gI(fs:List Fn):TR Unit:=(fo [] fs).bind fun _=>match cv Hz fs 0 with
 |none=> .bad 0 13
 |some (_,f)=>bif f.ps.isEmpty&&f.res==1 then .ok ()else .bad f.p 13
def A4:Nat→List (List UInt8)→List (D×D×Nat)
 |_,[]=>[]
 |i,x::r=>(.str x, .agg [],i)::A4 (i+1) r
theorem Dl:∀(l:List (List UInt8))(i:Nat)(x:List UInt8),A4 i (l ++[x])=A4 i l ++[(.str x, .agg [],i+l.length)]
 |[],_,_=>rfl
 |a::r,i,x=>by
  simp only[x8,A4,Dl r (i+1) x,xD];rw[show i+1+r.length=i+(r.length+1) by omega]
theorem vG(x:List UInt8):∀(l:List (List UInt8))(i j:Nat),(l.any (· ==x))=false→cq (.str x) (A4 i l) j=some none
 |[],_,_,_=>rfl
 |e::r,i,j,h=>by
  simp only[List.any_cons,zE]at h
  have a:(x==e)=false:=by
   have:=h.1;rw[yZ]at this ⊢;exact this.symm
  simp only[A4,cq,jo,a];exact vG x r (i+1) (j+1) h.2
theorem zZ(x:List UInt8):∀(l:List (List UInt8))(i j:Nat),(l.any (· ==x))=true→∃q,cq (.str x) (A4 i l) j=some (some (q, .agg []))
 |[],_,_,h=>by cases h
 |e::r,i,j,h=>by
  simp only[A4,cq,jo];cases a:(x==e)with
  |true=>exact⟨j,rfl⟩
  |false=>
   refine zZ x r (i+1) (j+1) ?_;simp only[List.any_cons,xy]at h;refine h.resolve_left fun h2=> ?_
   rw[eq_of_beq h2]at a;simp at a
theorem Dm:∀(l:List Fn)(i:Nat)(f:Fn),kp i (l ++[f])=kp i l ++[(.str f.nm, .int .i64 ((i+l.length:Nat):Int),i+l.length)]
 |[],_,_=>rfl
 |a::r,i,f=>by
  simp only[x8,kp,Dm r (i+1) f,xD];rw[show i+1+r.length=i+(r.length+1) by omega]
abbrev fL(fs:List Fn)(es:List (D×D×Nat))(m:Nat)(nn:AV):List (Nat×aK):=
 [(500000,⟨1,some (.arr 1 [.mp 499904 1, .d (.ro (fs.map c2)), .sl 500191 1 0 fs.length 1, .sl 500382 1 0 1 3,dI 0,nn,nn,nn,dI 0])⟩),(499904,⟨1,some (.map es m)⟩),(500382,⟨1,some (.arr 3 [cO ey])⟩),(500191,⟨1,some (.arr 1 (List.replicate fs.length .nils))⟩)]
abbrev A5:List (Nat×aK):=[(500000,⟨1,none⟩),(499904,⟨1,none⟩),(500382,⟨1,none⟩),(500191,⟨1,none⟩)]
theorem oO{fs:List Fn}{es:List (D×D×Nat)}{m:Nat}{nn:AV}(d:∀ρ,aX ρ nn=nn){ρ:Nat→Nat}(a:([499904,500382,500191].map ρ)=[499904,500382,500191]):((fL fs es m nn).map fun p=>cD ρ p.2)=(fL fs es m nn).map (·.2):=by
 simp only[xN,xk,List.cons.injEq,yr]at a;obtain⟨b,f,c⟩:=a
 have e:bX ρ (List.replicate fs.length AV.nils)=List.replicate fs.length AV.nils:=nO fun x g=>by
  rw[List.eq_of_mem_replicate g];rfl
 have hp:aX ρ (cO ey)=cO ey:=rfl;simp only[fL,xN,xk,cD,xc,gh,e,hp,bX,aX,b,f,c,d]
abbrev vH(l:List (List UInt8)):List (Nat×aK):=[(600047,⟨1,some (.map (A4 0 l) l.length)⟩)]
abbrev K1:List (Nat×aK):=[(600047,⟨1,none⟩)]
theorem HA{fs:List Fn}{es es':List (D×D×Nat)}{m b:Nat}{nn:AV}(a:∀ρ,aX ρ nn=nn){ar:List AV}(c:bX (d7 ((fL fs es m nn).map (·.1)) 1000000) ar=ar):Cln ((fL fs es m nn).map (·.1)) 1000000 ar (fL fs es m nn) (fL fs es' b nn):=⟨rfl,rfl,rfl,c,oO a rfl,oO a rfl⟩
section
variable{fs:List Fn}{es:List (D×D×Nat)}{m:Nat}{nn:AV}(a:∀ρ,aX ρ nn=nn)
include fs es m nn a
theorem oP{ar:List AV}(b:bX (d7 ((fL fs es m nn).map (·.1)) 1000000) ar=ar):Cln ((fL fs es m nn).map (·.1)) 1000000 ar (fL fs es m nn) A5:=⟨rfl,rfl,rfl,b,oO a rfl,rfl⟩
theorem HB{l l':List (List UInt8)}{ar:List AV}(e:List (Nat×aK))(c:e.map (·.1)=[600047])(d:(e.map fun p:Nat×aK=>cD (d7 ((fL fs es m nn ++vH l).map (·.1)) 1000000) p.2)=e.map (·.2))(b:bX (d7 ((fL fs es m nn ++vH l).map (·.1)) 1000000) ar=ar):Cln ((fL fs es m nn ++vH l).map (·.1)) 1000000 ar (fL fs es m nn ++vH l) (fL fs es m nn ++e):=
 ⟨rfl,rfl,by rw[xY,xY,c];rfl,b,by
  rw[xY,xY (f:=fun p:Nat×aK=>p.2),oO a rfl];rfl,by
  rw[xY,xY (f:=fun p:Nat×aK=>p.2),oO a rfl,d]⟩
theorem Dn{l:List (List UInt8)}{ar:List AV}(b:bX (d7 ((fL fs es m nn ++vH l).map (·.1)) 1000000) ar=ar):Cln ((fL fs es m nn ++vH l).map (·.1)) 1000000 ar (fL fs es m nn ++vH l) (A5 ++K1):=
 ⟨rfl,rfl,rfl,b,by
  rw[xY,xY (f:=fun p:Nat×aK=>p.2),oO a rfl];rfl,rfl⟩
end
abbrev r7(fs:List Fn)(j:Nat)(ps:List Pm)(k:Nat):List (Nat×AV):=[(0,aE),(6, .mp 600047 1),(18, .d (.ro (fs.map c2))),(19,dN (fs.map c2).length),(20,dN j),(49, .d (.ro (ps.map g0))),(50,dN (ps.map g0).length),(51,dN k)]
abbrev Vs(fs:List Fn)(j:Nat):List (Nat×AV):=[(0,aE),(18, .d (.ro (fs.map c2))),(19,dN (fs.map c2).length),(20,dN j)]
def UT(P:Program)(ps:List Pm)(k:Nat)(x:Pm)(a:ps[k]? =some x):cf P:= .idx (ps.map g0) ((k:Nat):Int) (g0 x) (by omega) (by rw[xo,xP,a];rfl)
def Pi(P:Program)(k:Nat)(t:Bool)(h:decide (6≤k)= !t):cf P:= .val (dB (decide ((k:Int)<6))) (dB t) (by
 congr 2;cases t
 ·have:=yC h
  rw[xh];omega
 ·have:=yQ h
  rw[x6];omega)
section
variable{fs:List Fn}{es:List (D×D×Nat)}{m:Nat}{nn:AV}(a:∀ρ,aX ρ nn=nn)(j:Nat)(ps:List Pm)(k:Nat)(l:List (List UInt8))
include a
theorem Sh(b:decide (k<(ps.map g0).length)=false):RE 109 (lO 26 8) (r7 fs j ps k) (fL fs es m nn ++vH l) (.exit 2) (Vs fs j) (fL fs es m nn ++K1):=
 qE {hint:=qT 26 [(52,gn Pg k (ps.map g0).length false b)]} 26 600000 (HB a (l':=l) K1 rfl rfl rfl)
section
variable(b:decide (k<(ps.map g0).length)=true)(nm:List UInt8)(ty p:Int)(c:ps[k]? =some ⟨nm,ty,p⟩)
include b c
theorem Pj(d:decide (6≤k)=true):RE 109 (lO 26 8) (r7 fs j ps k) (fL fs es m nn ++vH l) (.panic (aB p 9)) [] (A5 ++K1):=
 qE {hint:=qT 26 [(52,gn Pg k (ps.map g0).length true b),(54,UT Pg ps k _ c),(57,Pi Pg k false d)],pans:=an Pg [(26,10,600763,⟨4,some (bh (b7 p 9)),[]⟩)]} 26 600000 (Dn a rfl)
theorem K2(d:decide (6≤k)=false)(q:Nat)(e:cq (.str nm) (A4 0 l) 0=some (some (q, .agg []))):RE 109 (lO 26 8) (r7 fs j ps k) (fL fs es m nn ++vH l) (.panic (aB p 7)) [] (A5 ++K1):=
 qE {hint:=qT 26 [(52,gn Pg k (ps.map g0).length true b),(54,UT Pg ps k _ c),(57,Pi Pg k true d),(65, .look (.str nm) (A4 0 l) (some (q, .agg [])) e)],calls:=tC [(26,60,601199,bc rfl (aV p 9))],pans:=an Pg [(26,12,602289,⟨4,some (bh (b7 p 7)),[]⟩)]} 26 600000 (Dn a rfl)
theorem Vt(d:decide (6≤k)=false)(e:(l.any (· ==nm))=false):RE 109 (lO 26 8) (r7 fs j ps k) (fL fs es m nn ++vH l) .normal (r7 fs j ps (k+1)) (fL fs es m nn ++[(600047,⟨1,some (.map (A4 0 l ++[(.str nm, .agg [],l.length)]) (l.length+1))⟩)]):=
 qE {hint:=qT 26 [(52,gn Pg k (ps.map g0).length true b),(54,UT Pg ps k _ c),(57,Pi Pg k true d),(65, .look (.str nm) (A4 0 l) none (vG nm l 0 0 e)),(113004, .look (.str nm) (A4 0 l) none (vG nm l 0 0 e)),(77,cy Pg k (by have:=yQ d;omega))],calls:=tC [(26,60,601199,bc rfl (aV p 9)),(26,72,602725,bc rfl (aV p 7))]} 26 600000 (HB a (l':=l) [(600047,⟨1,some (.map (A4 0 l ++[(.str nm, .agg [],l.length)]) (l.length+1))⟩)] rfl rfl rfl)
end
end
def Pk(fs:List Fn)(es:List (D×D×Nat))(m:Nat)(nn:AV)(j:Nat)(ps:List Pm)(k:Nat)(l:List (List UInt8)):TR Unit→Prop
 | .ok _=>RL 109 (lO 26 8) (r7 fs j ps k) (fL fs es m nn ++vH l) (.exit 2) (Vs fs j) (fL fs es m nn ++K1)
 | .bad p e=>RL 109 (lO 26 8) (r7 fs j ps k) (fL fs es m nn ++vH l) (.panic (aB p e)) [] (A5 ++K1)
 | .out=>True
theorem Nd{fs:List Fn}{es:List (D×D×Nat)}{m:Nat}{nn:AV}(h:∀ρ,aX ρ nn=nn)(j:Nat)(ps:List Pm):∀(d k:Nat)(l:List (List UInt8)),ps.length-k=d→k≤ps.length→Pk fs es m nn j ps k l (mS k l (ps.drop k))
 |0,k,l,w,v=>by
  have:k=ps.length:=by omega
  subst this;rw[yi];exact fun a X c b=>aU (Sh h j ps ps.length l (by simp) a X c b) (by simp)
 |d+1,k,l,w,v=>by
  have f:k<ps.length:=by omega
  have o:ps[k]? =some ps[k]:=xH f;rw[yL f];generalize ps[k]=x at o;obtain⟨nm,ty,p⟩:=x;have s:decide (k<(ps.map g0).length)=true:=by simpa using f
  simp only[mS];cases t:decide (6≤k)with
  |true=>exact fun a X c b=>aU (Pj h j ps k l s nm ty p o t a X c b) (by simp)
  |false=>
  cases n:l.any (· ==nm)with
  |true=>
   obtain⟨q,n⟩:=zZ nm l 0 0 n;exact fun a X c b=>aU (K2 h j ps k l s nm ty p o t q n a X c b) (by simp)
  |false=>
   have g:=Nd (fs:=fs) (es:=es) (m:=m) h j ps d (k+1) (l ++[nm]) (by omega) f;have i:=Vt (fs:=fs) (es:=es) (m:=m) h j ps k l s nm ty p o t n
   have e:vH (l ++[nm])=[(600047,⟨1,some (.map (A4 0 l ++[(.str nm, .agg [],l.length)]) (l.length+1))⟩)]:=by
    simp only[vH,Dl,xC,xD,xF,xb]
   simp only[xI];revert g;cases mS (k+1) (l ++[nm]) (ps.drop (k+1))with
   |out=>exact fun _=>trivial
   |bad u r=>
    intro g;simp only[Pk,e]at g;exact fun a X c b=>aR (i a X c b) (g a X c b)
   |ok _=>
    intro g;simp only[Pk,e]at g;exact fun a X c b=>aR (i a X c b) (g a X c b)
end Go.Avm
namespace Go.Avm
open Go.Proofs
noncomputable def Si{fs:List Fn}{es:List (D×D×Nat)}{m:Nat}{nn:AV}{j:Nat}{ps:List Pm}{x:aA}{l':List (Nat×AV)}{b:List (Nat×aK)}(h:RL 109 (lO 26 8) (r7 fs j ps 0) (fL fs es m nn ++vH []) x l' b):dy Pg:=
 ⟨109,bG Pg 26 8,r7 fs j ps 0,fun _=>fL fs es m nn ++vH [],x,l',fun _=>b,fun a X c d=>(h a X c d).aw⟩
abbrev HD(fs:List Fn)(j:Nat):List (Nat×AV):=[(0,aE),(18, .d (.ro (fs.map c2))),(19,dN (fs.map c2).length),(20,dN j)]
def Cc(P:Program)(fs:List Fn)(k:Nat)(x:Fn)(a:fs[k]? =some x):cf P:= .idx (fs.map c2) ((k:Nat):Int) (c2 x) (by omega) (by rw[xo,xP,a];rfl)
section
variable{fs a:List Fn}{nn:AV}(b:∀ρ,aX ρ nn=nn)
include b
theorem Pn(c:decide (a.length<(fs.map c2).length)=false):RE 109 (lO 26 1) (HD fs a.length) (fL fs (kp 0 a) a.length nn) (.exit 0) [(0,aE)] (fL fs (kp 0 a) a.length nn):=
 qE {hint:=qT 26 [(21,gn Pg a.length (fs.map c2).length false c)]} 26 596621 (HA b rfl)
variable(d:decide (a.length<(fs.map c2).length)=true)(nm:List UInt8)(ps:List Pm)(h:Int)(i:List aP)(p:Int)(g:fs[a.length]? =some ⟨nm,ps,h,i,p⟩)
include d g
theorem HE(r:Nat×Fn)(c:cv nm a 0=some r):RE 109 (lO 26 1) (HD fs a.length) (fL fs (kp 0 a) a.length nn) (.panic (aB p 7)) [] A5:=
 qE {hint:=qT 26 [(21,gn Pg a.length (fs.map c2).length true d),(23,Cc Pg fs a.length _ g),(32,oJ Pg nm a (some r) c)],pans:=an Pg [(26,4,598692,⟨4,some (bh (b7 p 7)),[]⟩)]} 26 596621 (oP b rfl)
variable(j:cv nm a 0=none)
include j
theorem Po(q e:Int)(c:RL 109 (lO 26 8) (r7 fs a.length ps 0) (fL fs (kp 0 a ++[(.str nm, .int .i64 (a.length:Int),a.length)]) (a.length+1) nn ++vH []) (.panic (aB q e)) [] (A5 ++K1)):
    RE 109 (lO 26 1) (HD fs a.length) (fL fs (kp 0 a) a.length nn) (.panic (aB q e)) [] A5:=
 qE {loops:=fun f q=>if f=26 then (if q=8 then some (Si c)else none)else none,hint:=qT 26 [(21,gn Pg a.length (fs.map c2).length true d),(23,Cc Pg fs a.length _ g),(32,oJ Pg nm a none j),(105007,oJ Pg nm a none j)],calls:=tC [(26,39,599128,bc rfl (aV p 7))]} 26 596621 (oP b rfl)
theorem Sj(c:RL 109 (lO 26 8) (r7 fs a.length ps 0) (fL fs (kp 0 a ++[(.str nm, .int .i64 (a.length:Int),a.length)]) (a.length+1) nn ++vH []) (.exit 2) (Vs fs a.length) (fL fs (kp 0 a ++[(.str nm, .int .i64 (a.length:Int),a.length)]) (a.length+1) nn ++K1))(e:fs.length<1000000):
    RE 109 (lO 26 1) (HD fs a.length) (fL fs (kp 0 a) a.length nn) .normal (HD fs (a.length+1)) (fL fs (kp 0 a ++[(.str nm, .int .i64 (a.length:Int),a.length)]) (a.length+1) nn):=
 qE {loops:=fun f q=>if f=26 then (if q=8 then some (Si c)else none)else none,hint:=qT 26 [(21,gn Pg a.length (fs.map c2).length true d),(23,Cc Pg fs a.length _ g),(32,oJ Pg nm a none j),(105007,oJ Pg nm a none j),(78,cy Pg a.length (by have:=yC d;rw[xO]at this;omega))],calls:=tC [(26,39,599128,bc rfl (aV p 7))]} 26 596621 (HA b rfl)
end
def Pq(fs a:List Fn)(nn:AV):TR Unit→Prop
 | .ok _=>RL 109 (lO 26 1) (HD fs a.length) (fL fs (kp 0 a) a.length nn) (.exit 0) [(0,aE)] (fL fs (kp 0 fs) fs.length nn)
 | .bad p e=>RL 109 (lO 26 1) (HD fs a.length) (fL fs (kp 0 a) a.length nn) (.panic (aB p e)) [] A5
 | .out=>True
theorem Nf{fs:List Fn}{nn:AV}(l:∀ρ,aX ρ nn=nn)(w:fs.length<1000000):∀(mR a:List Fn),fs=a ++mR→Pq fs a nn (fo a mR)
 |[],a,h=>by
  have:fs=a:=by rw[h,yF]
  subst this;exact fun b X i g=>aU (Pn l (by simp) b X i g) (by simp)
 |f::mR,a,h=>by
  have u:fs[a.length]? =some f:=by rw[h];simp
  have o:decide (a.length<(fs.map c2).length)=true:=by rw[h];simp
  have j:=Nf (nn:=nn) l w mR (a ++[f]) (by rw[h];simp);obtain⟨nm,ps,d,k,p⟩:=f;simp only[fo];cases s:cv nm a 0 with
  |some r=>exact fun b X i g=>aU (HE l o nm ps d k p u r s b X i g) (by simp)
  |none=>
   have c:=Nd (fs:=fs) (es:=kp 0 a ++[(.str nm, .int .i64 (a.length:Int),a.length)]) (m:=a.length+1) l a.length ps _ 0 [] rfl (xz _);rw[yM]at c;simp only[Option.isSome_none,xI]
   have e:fL fs (kp 0 (a ++[(⟨nm,ps,d,k,p⟩:Fn)])) (a ++[(⟨nm,ps,d,k,p⟩:Fn)]).length nn=fL fs (kp 0 a ++[(.str nm, .int .i64 (a.length:Int),a.length)]) (a.length+1) nn:=by
    simp only[fL,Dm,xC,xD,xF,xb]
   have v:(a ++[(⟨nm,ps,d,k,p⟩:Fn)]).length=a.length+1:=by simp
   revert c;cases mS 0 [] ps with
   |out=>exact fun _=>trivial
   |bad q t=>exact fun c b X i g=>aU (Po l o nm ps d k p u s q t c b X i g) (by simp)
   |ok _=>
    intro c;have n:=Sj l o nm ps d k p u s c w;simp only[TR.bind];revert j;cases fo (a ++[⟨nm,ps,d,k,p⟩]) mR with
    |out=>exact fun _=>trivial
    |bad q t=>
     intro j;simp only[Pq,e]at j;simp only[v]at j;exact fun b X i g=>aR (n b X i g) (j b X i g)
    |ok _=>
     intro j;simp only[Pq,e]at j;simp only[v]at j;exact fun b X i g=>aR (n b X i g) (j b X i g)
noncomputable def HF{fs:List Fn}{nn:AV}{x:aA}{l':List (Nat×AV)}{b:List (Nat×aK)}(h:RL 109 (lO 26 1) (HD fs 0) (fL fs [] 0 nn) x l' b):dy Pg:=
 ⟨109,bG Pg 26 1,HD fs 0,fun _=>fL fs [] 0 nn,x,l',fun _=>b,fun a X c d=>(h a X c d).aw⟩
section
variable{fs:List Fn}{nn:AV}(a:∀ρ,aX ρ nn=nn)
include a
theorem K3(q e:Int)(c:RL 109 (lO 26 1) (HD fs 0) (fL fs [] 0 nn) (.panic (aB q e)) [] A5):
    HX 26 [aE] (fL fs [] 0 nn) (aB q e) A5:=
 qX ({loops:=fun f q=>if f=26 then (if q=1 then some (HF c)else none)else none}) 600000 (oP a rfl)
variable(c:RL 109 (lO 26 1) (HD fs 0) (fL fs [] 0 nn) (.exit 0) [(0,aE)] (fL fs (kp 0 fs) fs.length nn))
include c
theorem Fd(b:cv [109,97,105,110] fs 0=none):HX 26 [aE] (fL fs [] 0 nn) (aB 0 13) A5:=
 qX {loops:=fun f q=>if f=26 then (if q=1 then some (HF c)else none)else none,hint:=qT 26 [(84,oJ Pg [109,97,105,110] fs none b)],pans:=an Pg [(26,17,601853,⟨1,some (bh (b7 0 13)),[]⟩)]} 600000 (oP a rfl)
variable(i:Nat)(nm:List UInt8)(ps:List Pm)(b:Int)(d:List aP)(p:Int)(e:cv [109,97,105,110] fs 0=some (i,⟨nm,ps,b,d,p⟩))(g:fs[i]? =some ⟨nm,ps,b,d,p⟩)
include e g
theorem K4(h:(((ps.map g0).length:Int)==0)=false):HX 26 [aE] (fL fs [] 0 nn) (aB p 13) A5:=
 qX {loops:=fun f q=>if f=26 then (if q=1 then some (HF c)else none)else none,hint:=qT 26 [(84,oJ Pg [109,97,105,110] fs (some (i,⟨nm,ps,b,d,p⟩)) e),(95,Cc Pg fs i _ g),(100,qB h)],calls:=tC [(26,88,601962,bc rfl (aV 0 13))],pans:=an Pg [(26,19,603052,⟨11,some (bh (b7 p 13)),[]⟩)]} 600000 (oP a rfl)
theorem HG(h:(((ps.map g0).length:Int)==0)=true)(j:(b==1)=false):HX 26 [aE] (fL fs [] 0 nn) (aB p 13) A5:=
 qX {loops:=fun f q=>if f=26 then (if q=1 then some (HF c)else none)else none,hint:=qT 26 [(84,oJ Pg [109,97,105,110] fs (some (i,⟨nm,ps,b,d,p⟩)) e),(95,Cc Pg fs i _ g),(100,qB h),(104,qB j)],calls:=tC [(26,88,601962,bc rfl (aV 0 13))],pans:=an Pg [(26,19,603052,⟨11,some (bh (b7 p 13)),[]⟩)]} 600000 (oP a rfl)
theorem K5(h:(((ps.map g0).length:Int)==0)=true)(j:(b==1)=true):HC 26 [aE] (fL fs [] 0 nn) [] (fL fs (kp 0 fs) fs.length nn):=
 qN {loops:=fun f q=>if f=26 then (if q=1 then some (HF c)else none)else none,hint:=qT 26 [(84,oJ Pg [109,97,105,110] fs (some (i,⟨nm,ps,b,d,p⟩)) e),(95,Cc Pg fs i _ g),(100,qB h),(104,qB j)],calls:=tC [(26,88,601962,bc rfl (aV 0 13)),(26,108,604251,bc rfl (aV p 13))]} 600000 (HA a rfl)
end
def UU(fs:List Fn)(nn:AV):TR Unit→Prop
 | .ok _=>HC 26 [aE] (fL fs [] 0 nn) [] (fL fs (kp 0 fs) fs.length nn)
 | .bad p e=>HX 26 [aE] (fL fs [] 0 nn) (aB p e) A5
 | .out=>True
theorem HH{fs:List Fn}{nn:AV}(d:∀ρ,aX ρ nn=nn)(l:fs.length<1000000):UU fs nn (gI fs):=by
 have c:=Nf (nn:=nn) d l fs [] rfl;unfold gI;revert c;cases fo [] fs with
 |out=>exact fun _=>trivial
 |bad q t=>exact fun c=>K3 d q t c
 |ok _=>
  intro c;simp only[TR.bind,Hz];cases e:cv [109,97,105,110] fs 0 with
  |none=>exact Fd d c e
  |some r=>
   obtain⟨i,f⟩:=r;obtain⟨_,h⟩:=oK e;rw[Nat.sub_zero]at h;obtain⟨nm,ps,b,j,p⟩:=f;simp only;cases hp:ps.isEmpty with
   |false=>
    have g:(((ps.map g0).length:Int)==0)=false:=by
     cases ps with
     |nil=>cases hp
     |cons a r=>simp;omega
    exact K4 d c i nm ps b j p e h g
   |true=>
    have g:(((ps.map g0).length:Int)==0)=true:=by
     cases ps with
     |nil=>rfl
     |cons a r=>cases hp
    cases k:(b==1)with
    |false=>exact HG d c i nm ps b j p e h g k
    |true=>exact K5 d c i nm ps b j p e h g k
end Go.Avm
namespace Go.Avm
open Go.Proofs
theorem nS{M N:Nat}{c:Code}{l l':List (Nat×AV)}{a d:List (Nat×aK)}{e:aA}(j:Cln (a.map (·.1)) M (l.map (·.2)) a d)(m:bX (d7 (a.map (·.1)) M) (l'.map (·.2))=l'.map (·.2))(r:GH (d7 (a.map (·.1)) M) e=e)
    (h:∀(b:aa)(X:cA),X.P=Pg→X.N=N→AW X c ⟨ak l,ag a (eV M b)⟩ fun i S'=>i=e∧S'.env=ak l'∧(∀k,k∈a.map (·.1)→S'.heap k=ag d S'.heap k)∧∀k,M≤k→S'.heap k=ag a (eV M b) k)
    (b:aa) (X:cA) (q:X.P=Pg) (o:X.N=N):AW X c ⟨ak l,ag a b⟩ fun i S'=>i=e∧S'=⟨ak l',ag d b⟩:=by
 refine GI (nH j.ltF) r ?_
 have g:(fun t=>aX (d7 (a.map (·.1)) M) (ak l t))=ak l:=by
  funext t;rw[←eU,nJ j.argsK]
 have f:∀t,aX (d7 (a.map (·.1)) M) (ak l' t)=ak l' t:=fun t=>by
  rw[←eU,nJ m]
 rw[g,j.heap b];refine(h (gi (d7 (a.map (·.1)) M) (A1 (a.map (·.1)) M) (ag a b)) X q o).mono ?_;rintro i S' ⟨rfl,p,n,h2⟩;refine⟨rfl,fun t=>by rw[p,f], ?_⟩;exact j.behind b n h2
abbrev fB(nm:List UInt8)(ps:List Pm)(a:Int)(b:List aP)(p:Int):List (Nat×aK):=[(600003,⟨1,some (.arr 1 [.d (.str nm), .d (.ro (ps.map g0)),UL a, .d (.ro (dH b)),dI p])⟩)]
abbrev fG:List (Nat×aK):=[(600003,⟨1,none⟩)]
abbrev Ng(fs:List Fn)(i:Nat)(ps:List Pm)(k:Nat):List (Nat×AV):=[(0,aE),(3, .ptr 600003 1 0 0 1),(10, .d (.ro (fs.map c2))),(11,dN (fs.map c2).length),(12,dN i),(34, .d (.ro (ps.map g0))),(35,dN (ps.map g0).length),(36,dN k)]
abbrev HI(fs:List Fn)(i:Nat):List (Nat×AV):=[(0,aE),(3, .ptr 600003 1 0 0 1),(10, .d (.ro (fs.map c2))),(11,dN (fs.map c2).length),(12,dN i)]
theorem Sk{S S':CK}(h:CKok S)(h':CKok S'){a:List (Nat×aK)}{ar:List AV}(n:List (D×D×Nat))(e:Nat)(q:(((ck S ++a).map (·.1)).all fun k=>Nat.blt k 1000000)=true)(c:([499904,500002,500003,500004,500005,500382,500191].map (d7 ((ck S ++a).map (·.1)) 1000000))=[499904,500002,500003,500004,500005,500382,500191])
    (g:bX (d7 ((ck S ++a).map (·.1)) 1000000) ar=ar) (d:(a.map fun p:Nat×aK=>cD (d7 ((ck S ++a).map (·.1)) 1000000) p.2)=a.map (·.2)):Cln ((ck S ++a).map (·.1)) 1000000 ar (ck S ++a) (KM S' n e ++a):=
 ⟨q,rfl,by rw[xY,xY];rfl,g,by
  have b:=f9 h c;rw[xY,xY (f:=fun p:Nat×aK=>p.2),b,d],by
  have b:=f9 h' c;simp only[ck,xN,xk,List.cons.injEq,yr]at b;obtain⟨s,o,i,l,t,m,j,r⟩:=b;rw[xY,xY (f:=fun p:Nat×aK=>p.2),d];simp only[KM,xN,xk,s,o,i,l,m,j,r];rfl⟩
theorem lj(r h:aa):∀(a b:List (Nat×aK)),ag (a ++b) h=ag a (ag b h)
 |[],b=>rfl
 |(k,e)::a,b=>by
  show aJ (ag (a ++b) h) k e=aJ (ag a (ag b h)) k e;rw[lj r h a b]
theorem Fe{P:Program}{g:Nat}{args d:List AV}{A B b:List (Nat×aK)}(i:(A.all fun p=>p.2.ob.isSome)=true)(l:(A.all fun p=>b.all fun q=> !(Nat.beq p.1 q.1))=true)(h:∀a:aa,ax P g args (ag (A ++B) a) d (ag (A ++b) a)):∀h:aa,lV h (A ++B)→ax P g args h d (ag b h):=fun h' f=>by
 have c:=gM h h' f;rw[lj h']at c
 have h2:lV (ag b h') A:=fun p hp=>by
  have e:ag b h' p.1=h' p.1:=cg b h' fun m=>by
   obtain⟨q,j,k⟩:=xi.1 m;have:=xa.1 (xa.1 l p hp) q j;rw[k]at this;simp at this
  rw[e];exact f p (by simp[hp])
 rw[rn h2 i]at c;exact c
abbrev K6(S:CK):List (Nat×aK):=[(500000,⟨1,some (.arr 1 (Dc S))⟩),(499904,⟨1,some (.map (kp 0 S.fs) S.fs.length)⟩),(500004,⟨S.vq,some (.map (a8 S.c.sure.l) S.c.sure.c)⟩),(500382,⟨S.vp,some (.arr 3 (S.c.pts.map cO))⟩)]
abbrev HJ(S:CK):List (Nat×aK):=[(500002,⟨S.vh,some (.map (gG 0 S.c.vars) S.c.vars.length)⟩),(500003,⟨S.vs,some (.map (cU 0 S.c.seen) S.c.seen.length)⟩),(500005,⟨S.vv,some (.arr 4 (S.c.vars.map A2))⟩),(500191,⟨1,some (.arr 1 (S.W.set S.fn (lg S.vv S.c.vars)))⟩)]
theorem Dp(S:CK)(a:aa):ag (ck S) a=ag (K6 S ++HJ S) a:=by
 funext k;simp only[ck,K6,HJ,x8,xn,ag,aJ];by_cases e:k=500000
 ·subst e;rfl
 by_cases c:k=499904
 ·subst c;rfl
 by_cases h2:k=500002
 ·subst h2;rfl
 by_cases f:k=500003
 ·subst f;rfl
 by_cases b:k=500004
 ·subst b;rfl
 by_cases h:k=500005
 ·subst h;rfl
 by_cases g:k=500382
 ·subst g;rfl
 by_cases d:k=500191
 ·subst d;rfl
 simp only[e,c,h2,f,b,h,g,d,zS]
noncomputable def Vu{S:CK}{nm:List UInt8}{ty n b:Int}(c:HC 48 [aE, .d (.agg [.str nm, .int .u8 ty, .int .i64 n, .int .i64 b])] (ck S) [.int .i64 (S.c.vars.length:Int)] (ck (S.add ⟨nm,ty,n,b⟩))):fK Pg:=
 ⟨48,[aE, .d (.agg [.str nm, .int .u8 ty, .int .i64 n, .int .i64 b])],K6 S ++HJ S,[.int .i64 (S.c.vars.length:Int)].map .d,HJ (S.add ⟨nm,ty,n,b⟩),Fe (A:=K6 S) (B:=HJ S) rfl rfl fun a=>by
  have:=c a;rw[Dp,Dp]at this;exact this⟩
section
variable{S:CK}(h:CKok S){fs:List Fn}(i:Nat)(b:List UInt8)(ps:List Pm)(a:Int)(d:List aP)(e:Int)(k:Nat)
include h
theorem Sl(c:decide (k<(ps.map g0).length)=false):RE 69 (lO 27 5) (Ng fs i ps k) (ck S ++fB b ps a d e) (.exit 2) (HI fs i) (ck S ++fB b ps a d e):=
 qE {hint:=qT 27 [(37,gn Pg k (ps.map g0).length false c)]} 27 2000 (gH h h rfl rfl rfl rfl rfl rfl)
theorem Vv(f:decide (k<(ps.map g0).length)=true)(nm:List UInt8)(ty p:Int)(n:ps[k]? =some ⟨nm,ty,p⟩)(o:k<1000000)(j:(S.c.vars.any fun v=>v.nm==nm)=false)(g:eZ nm S.c.seen 0=none)(h':CKok (S.add ⟨nm,ty,0,0⟩))(m:bW S.c.vars.length S.c.sure.l 0=none):
    RE 69 (lO 27 5) (Ng fs i ps k) (ck S ++fB b ps a d e) .normal (Ng fs i ps (k+1)) (KM (S.add ⟨nm,ty,0,0⟩) (a8 S.c.sure.l ++[(.int .i64 (S.c.vars.length:Int), .agg [],S.c.sure.c)]) (S.c.sure.c+1) ++fB b ps a d e):=
 qE {hint:=qT 27 [(37,gn Pg k (ps.map g0).length true f),(38,UT Pg ps k _ n),(107012,lh Pg S.c.vars.length S.c.sure.l none m),(52,cy Pg k (by omega))],calls:=tC [(27,50,3035,Vu (KL h nm ty 0 0 j g h'))]} 27 2000 (Sk h h' _ _ rfl rfl rfl rfl)
end
def Ys(p:Pm):Vr:=⟨p.nm,p.ty,0,0⟩
def CS.par(c:CS)(p:Pm):CS:={c.add (Ys p)with sure:=c.sure.put c.vars.length}
theorem Nh{fs:List Fn}(i:Nat)(g:List UInt8)(ps:List Pm)(b:Int)(q:List aP)(o:Int)(n:(ps.map (·.nm)).Nodup)(F:ps.length≤6)(r:∀p∈ps,p.nm.length≤1000000):
    ∀(d k:Nat)(S:CK),ps.length-k=d→k≤ps.length→CKok S→S.c.vars.map (·.nm)=(ps.take k).map (·.nm)→
    ∃S',Nx S S' ((ps.drop k).foldl CS.par S.c)∧∀(a:aa)(X:cA),X.P=Pg→X.N=69→LW X (lO 27 5) ⟨ak (Ng fs i ps k),ag (ck S ++fB g ps b q o) a⟩ fun B D=>B= .exit 2∧D=⟨ak (HI fs i),ag (ck S' ++fB g ps b q o) a⟩
 |0,k,S,E,G,h,u=>by
  have:k=ps.length:=by omega
  subst this;rw[yi];exact⟨S,h.nx,fun a X t s=>aU (Sl h i g ps b q o ps.length (by simp) a X t s) (by simp)⟩
 |d+1,k,S,E,G,h,u=>by
  have f:k<ps.length:=by omega
  have y:ps[k]? =some ps[k]:=xH f;have hm:ps[k]∈ps:=y7 f;have j:ps.take (k+1)=ps.take k ++[ps[k]]:=by rw[List.take_add_one,y];rfl
  rw[yL f];generalize ps[k]=x at y hm j
  have C:S.c.vars.length=k:=by
   have:=congrArg List.length u;rw[xO,xO,zO,Nat.min_eq_left (by omega)]at this;exact this
  have z:(S.c.vars.any fun v=>v.nm==x.nm)=false:=by
   rw[List.any_eq_false];intro v w e
   have H:x.nm∈(ps.take k).map (·.nm):=by
    rw[←u,←eq_of_beq e];exact xi.2 ⟨v,w,rfl⟩
   have h2:((ps.take (k+1)).map (·.nm)).Nodup:=(List.Sublist.map _ (List.take_sublist _ _)).nodup n;rw[j,xY,List.nodup_append]at h2;exact h2.2.2 _ H _ (by simp) rfl
  obtain⟨nm,ty,p⟩:=x;have h':=B8 h (v:=⟨nm,ty,0,0⟩) (r _ hm) z (by omega);have A:bW S.c.vars.length S.c.sure.l 0=none:=jX fun p hp e=>by have:=h.sv p hp;omega
  have h2:=vC h' S.c.vars.length (by simp[CK.add,CS.add])
  obtain⟨S',m,c⟩:=Nh (fs:=fs) i g ps b q o n F r d (k+1) ((S.add ⟨nm,ty,0,0⟩).put S.c.vars.length) (by omega) f h2 (by
   rw[j];show(S.c.vars ++[_]).map _=_;rw[xY,xY,u];rfl)
  refine⟨S',⟨m.ok,m.c,m.fs,m.fn,m.deep,m.W,List.IsPrefix.trans (List.prefix_append _ _) m.vars⟩,fun a X t s=>aR (Vv h i g ps b q o k (by simpa using f) nm ty p y (by omega) z (zz h z) h' A a X t s) ?_⟩;have:=c a X t s;rw[←vB (S:=S.add ⟨nm,ty,0,0⟩) (i:=S.c.vars.length) A]at this;exact this
end Go.Avm
namespace Go.Avm
open Go.Proofs
def iH(P:Program)(n:Nat):cf P:= .val (dB (decide ((n:Int)≤(n:Int)))) (dB true) (by simp)
def iI(P:Program)(n:Nat):cf P:= .val (dB (decide (((n+1:Nat):Int)≤(n:Int)))) (dB false) (by
 congr 2;rw[xh];omega)
def eJ(P:Program)(n:Nat):cf P:= .inb (n:Int) (n+1) (by omega) (by simp)
def eK(P:Program)(l:List AV)(x:AV)(n:Nat)(h:l.length=n):cf P:= .elt (l.take n ++[x]) (0+(n:Int).toNat) x (by
 rw[yh (by omega),xb,xo,xV (by omega)];simp[h])
def CK.ptd(S:CK)(x:Pt):CK:={S with c:={S.c with pts:=S.c.pts ++[x]},vp:=S.vp+1}
abbrev vJ(S:CK)(b:List (D×D×Nat))(a:Nat)(l:List AV):List (Nat×aK):=
 [(500000,⟨1,some (.arr 1 [.mp 499904 1, .d (.ro (S.fs.map c2)), .sl 500191 1 0 S.fs.length 1, .sl 500382 (S.vp+1) 0 (S.c.pts.length+1) 3,dN S.fn, .mp 500002 S.vh, .mp 500003 S.vs, .mp 500004 S.vq,dI S.deep])⟩),(499904,⟨1,some (.map (kp 0 S.fs) S.fs.length)⟩),(500002,⟨S.vh,some (.map (gG 0 S.c.vars) S.c.vars.length)⟩),(500003,⟨S.vs,some (.map (cU 0 S.c.seen) S.c.seen.length)⟩),
  (500004,⟨S.vq,some (.map b a)⟩),(500005,⟨S.vv,some (.arr 4 (S.c.vars.map A2))⟩),(500382,⟨S.vp+1,some (.arr 3 l)⟩),(500191,⟨1,some (.arr 1 (S.W.set S.fn (lg S.vv S.c.vars)))⟩)]
theorem Pr(S:CK)(x:Pt):vJ S (a8 S.c.sure.l) S.c.sure.c ((S.c.pts.map cO).take S.c.pts.length ++[cO x])=ck (S.ptd x):=by
 have a:(S.c.pts.map cO).take S.c.pts.length=S.c.pts.map cO:=yh (by simp);simp only[vJ,ck,Dc,CK.ptd,a,xC,xD,xF,xY,xN,xk,xb]
theorem bF{S:CK}(hm:CKok (S.ptd ey)):HC 103 [aE] (vJ S (a8 S.c.sure.l) S.c.sure.c ((S.c.pts.map cO).take S.c.pts.length ++[cO ey])) [Kp (S.c.pt S.fn)] (vJ S (a8 S.c.sure.l) S.c.sure.c ((S.c.pts.map cO).take S.c.pts.length ++[cO ey])):=by
 rw[Pr];exact OT hm
abbrev HK(S:CK)(b:List (D×D×Nat))(a:Nat):List (Nat×aK):=vJ S b a (((S.c.pts.map cO).take S.c.pts.length ++[cO ey]).set (0+(S.c.pts.length:Int).toNat) (.d (Kp (S.c.pt S.fn))))
abbrev ij(S:CK):List (Nat×aK):=HK S (a8 S.c.sure.l) S.c.sure.c
def CK.at1(S:CK):CK:=S.ptd (S.c.pt S.fn)
theorem z3(S:CK):((S.c.pts.map cO).take S.c.pts.length ++[cO ey]).set (0+(S.c.pts.length:Int).toNat) (.d (Kp (S.c.pt S.fn)))=(S.c.pts ++[S.c.pt S.fn]).map cO:=by
 have a:(S.c.pts.map cO).take S.c.pts.length=S.c.pts.map cO:=yh (by simp);rw[a,xb,xo,List.set_append_right _ _ (by simp)];simp[cO]
theorem dg(S:CK):ij S=ck S.at1:=by
 show vJ S (a8 S.c.sure.l) S.c.sure.c (((S.c.pts.map cO).take S.c.pts.length ++[cO ey]).set (0+(S.c.pts.length:Int).toNat) (.d (Kp (S.c.pt S.fn))))=_;rw[z3];simp only[vJ,ck,Dc,CK.at1,CK.ptd,xC,xD,xF,xb]
theorem Dq(S:CK){i:Nat}(a:bW i S.c.sure.l 0=none):HK S (a8 S.c.sure.l ++[(.int .i64 (i:Int), .agg [],S.c.sure.c)]) (S.c.sure.c+1)=ck (S.at1.put i):=by
 have e:S.c.sure.put i=⟨S.c.sure.l ++[(i,S.c.sure.c)],S.c.sure.c+1⟩:=by
  unfold SureL.put SureL.has;rw[a];rfl
 show vJ S _ _ (((S.c.pts.map cO).take S.c.pts.length ++[cO ey]).set (0+(S.c.pts.length:Int).toNat) (.d (Kp (S.c.pt S.fn))))=_;rw[z3];simp only[vJ,ck,Dc,CK.at1,CK.ptd,CK.put,e,a8,xY,xN,xk,xC,xD,xF,xb]
theorem z4{x:Nat}:∀{l:List (Nat×Nat)}{j i:Nat},bW x l j=some (j+i)→eE (.int .i64 (x:Int)) (.agg []) i (a8 l)=a8 l
 |[],_,_,h=>by cases h
 |e::r,j,i,h=>by
  simp only[bW]at h;cases d:(x==e.1)with
  |true=>
   rw[d]at h;simp only[xR,xA]at h;have m:i=0:=by omega
   subst m;rw[eq_of_beq d];rfl
  |false=>
   rw[d]at h;simp only[xI]at h
   have c:∀{l:List (Nat×Nat)}{j k:Nat},bW x l j=some k→j≤k:=fun {l}=>by
    induction l with
    |nil=>intro j k h;cases h
    |cons a r g=>
     intro j k h;simp only[bW]at h;cases f:(x==a.1)with
     |true=>rw[f]at h;simp at h;omega
     |false=>rw[f]at h;have:=g h;omega
   have:=c h;obtain⟨b,rfl⟩:∃b,i=b+1:=⟨i-1,by omega⟩
   show _::eE _ _ b (a8 r)=_::a8 r;rw[z4 (i:=b) (j:=j+1) (by rw[h];congr 1;omega)]
theorem Dr(S:CK){i j:Nat}(a:bW i S.c.sure.l 0=some j):HK S (eE (.int .i64 (i:Int)) (.agg []) j (a8 S.c.sure.l)) S.c.sure.c=ck (S.at1.put i):=by
 have e:S.c.sure.put i=S.c.sure:=by
  unfold SureL.put SureL.has;rw[a];rfl
 rw[z4 (j:=0) (by rw[a,xb])]
 have b:S.at1.put i=S.at1:=by
  show({S.at1 with c:={S.at1.c with sure:=S.c.sure.put i}}:CK)=S.at1;rw[e];rfl
 rw[b];exact dg S
section
variable{S:CK}{f:Nat}{args a:List AV}
theorem z6(c:∀b:aa,ax Pg f args (ag (ck S.at1) b) a (ag (ck S.at1) b)):∀b:aa,ax Pg f args (ag (ij S) b) a (ag (ij S) b):=by
 rw[dg];exact c
theorem Vw{d:List (Nat×aK)}(c:∀b:aa,ax Pg f args (ag (ck S.at1) b) a (ag d b)):∀b:aa,ax Pg f args (ag (ij S) b) a (ag d b):=by
 rw[dg];exact c
theorem Pu{x:AV}{b:List (Nat×aK)}(c:HX f args (ck S.at1) x b):HX f args (ij S) x b:=by
 rw[dg];exact c
theorem nT{p e:Int}(c:HX f args (ck S.at1) (aB p e) (ck S.at1)):HX f args (ij S) (aB p e) (ij S):=by
 rw[dg];exact c
end
section
variable{S:CK}(h:CKok S)(hm:CKok (S.ptd ey))(nm:List UInt8)(ty n p:Int)(es:List Ex)(x s:Int)(e:List UInt8)(u o:Int)(b:List Ex)(C A:Int)(y:List UInt8)(z B:Int)(cz zs:List Ex)(f m:List aP)
include h hm
set_option maxRecDepth 100000 in
theorem Vx(d:CKok S.at1)(k:Int)(r:(k==1)=false)(q:(k==2)=false)(a:(k==3)=false)(l:(k==4)=false)(g:(k==5)=false)(j:(k==6)=false)(i:(k==7)=false)(t:(k==8)=false):HC 76 [aE,eW k (S.c.pts.length:Int) nm ty n p es f m] (ck S) [] (ij S):=
 qN {hintB:=bk Pg [(76,15,3332,iH Pg S.c.pts.length),(76,24,4664, .apps (S.c.pts.map cO) S.c.pts.length 1 ⟨by simp,by have:=h.pts;omega⟩),(76,15,6588,iI Pg S.c.pts.length),(76,37,7920,eJ Pg S.c.pts.length),(76,103010,8068,eK Pg (S.c.pts.map cO) (cO ey) S.c.pts.length (by simp)),(76,41,8512,qB r),(76,46,8808,qB q),(76,78,9104,qB a),(76,100,9400,qB l),(76,105,9696,qB g),(76,127,9992,qB j),(76,132,10288,qB i),(76,141,10584,qB t)],calls:=tC [(76,36,7920,bc rfl (bF hm))]} 2000 (dg S▸ay h d rfl)
set_option maxRecDepth 100000 in
theorem Sm{S':CK}(h':CKok S')(c:HC 104 [aE,eW 1 (S.c.pts.length:Int) nm ty n p es f m] (ck S.at1) [] (ck S')):HC 76 [aE,eW 1 (S.c.pts.length:Int) nm ty n p es f m] (ck S) [] (ck S'):=
 qN {hintB:=bk Pg [(76,15,3332,iH Pg S.c.pts.length),(76,24,4664, .apps (S.c.pts.map cO) S.c.pts.length 1 ⟨by simp,by have:=h.pts;omega⟩),(76,15,6588,iI Pg S.c.pts.length),(76,37,7920,eJ Pg S.c.pts.length),(76,103010,8068,eK Pg (S.c.pts.map cO) (cO ey) S.c.pts.length (by simp))],calls:=tC [(76,36,7920,bc rfl (bF hm)),(76,44,9104,ab (Vw c))]} 2000 (ay h h' rfl)
set_option maxRecDepth 100000 in
theorem Pv(g:Gv)(q r:Int)(c:HX 104 [aE,eW 1 (S.c.pts.length:Int) nm ty n p es f m] (ck S.at1) (aB q r) (cP g)):HX 76 [aE,eW 1 (S.c.pts.length:Int) nm ty n p es f m] (ck S) (aB q r) (cP g):=
 qX {hintB:=bk Pg [(76,15,3332,iH Pg S.c.pts.length),(76,24,4664, .apps (S.c.pts.map cO) S.c.pts.length 1 ⟨by simp,by have:=h.pts;omega⟩),(76,15,6588,iI Pg S.c.pts.length),(76,37,7920,eJ Pg S.c.pts.length),(76,103010,8068,eK Pg (S.c.pts.map cO) (cO ey) S.c.pts.length (by simp))],calls:=tC [(76,36,7920,bc rfl (bF hm))],pans:=an Pg [(76,6,8808,⟨2,some (bh (Pu c)),[]⟩)]} 2000 (jY h rfl)
set_option maxRecDepth 100000 in
theorem Sn{S':CK}(h':CKok S')(c:HC 108 [aE,eW 4 (S.c.pts.length:Int) nm ty n p es f m] (ck S.at1) [] (ck S')):HC 76 [aE,eW 4 (S.c.pts.length:Int) nm ty n p es f m] (ck S) [] (ck S'):=
 qN {hintB:=bk Pg [(76,15,3332,iH Pg S.c.pts.length),(76,24,4664, .apps (S.c.pts.map cO) S.c.pts.length 1 ⟨by simp,by have:=h.pts;omega⟩),(76,15,6588,iI Pg S.c.pts.length),(76,37,7920,eJ Pg S.c.pts.length),(76,103010,8068,eK Pg (S.c.pts.map cO) (cO ey) S.c.pts.length (by simp))],calls:=tC [(76,36,7920,bc rfl (bF hm)),(76,103,9992,ab (Vw c))]} 2000 (ay h h' rfl)
set_option maxRecDepth 100000 in
theorem Pw(g:Gv)(q r:Int)(c:HX 108 [aE,eW 4 (S.c.pts.length:Int) nm ty n p es f m] (ck S.at1) (aB q r) (cP g)):HX 76 [aE,eW 4 (S.c.pts.length:Int) nm ty n p es f m] (ck S) (aB q r) (cP g):=
 qX {hintB:=bk Pg [(76,15,3332,iH Pg S.c.pts.length),(76,24,4664, .apps (S.c.pts.map cO) S.c.pts.length 1 ⟨by simp,by have:=h.pts;omega⟩),(76,15,6588,iI Pg S.c.pts.length),(76,37,7920,eJ Pg S.c.pts.length),(76,103010,8068,eK Pg (S.c.pts.map cO) (cO ey) S.c.pts.length (by simp))],calls:=tC [(76,36,7920,bc rfl (bF hm))],pans:=an Pg [(76,17,9696,⟨2,some (bh (Pu c)),[]⟩)]} 2000 (jY h rfl)
set_option maxRecDepth 100000 in
theorem So(a:CKok S.at1)(c:HC 111 [aE,eW 6 (S.c.pts.length:Int) nm ty n p es f m] (ck S.at1) [] (ck S.at1)):HC 76 [aE,eW 6 (S.c.pts.length:Int) nm ty n p es f m] (ck S) [] (ij S):=
 qN {hintB:=bk Pg [(76,15,3332,iH Pg S.c.pts.length),(76,24,4664, .apps (S.c.pts.map cO) S.c.pts.length 1 ⟨by simp,by have:=h.pts;omega⟩),(76,15,6588,iI Pg S.c.pts.length),(76,37,7920,eJ Pg S.c.pts.length),(76,103010,8068,eK Pg (S.c.pts.map cO) (cO ey) S.c.pts.length (by simp))],calls:=tC [(76,36,7920,bc rfl (bF hm)),(76,130,10584,bc rfl (z6 c))]} 2000 (dg S▸ay h a rfl)
set_option maxRecDepth 100000 in
theorem Px(a:CKok S.at1)(q r:Int)(c:HX 111 [aE,eW 6 (S.c.pts.length:Int) nm ty n p es f m] (ck S.at1) (aB q r) (ck S.at1)):HX 76 [aE,eW 6 (S.c.pts.length:Int) nm ty n p es f m] (ck S) (aB q r) (ij S):=
 qX {hintB:=bk Pg [(76,15,3332,iH Pg S.c.pts.length),(76,24,4664, .apps (S.c.pts.map cO) S.c.pts.length 1 ⟨by simp,by have:=h.pts;omega⟩),(76,15,6588,iI Pg S.c.pts.length),(76,37,7920,eJ Pg S.c.pts.length),(76,103010,8068,eK Pg (S.c.pts.map cO) (cO ey) S.c.pts.length (by simp))],calls:=tC [(76,36,7920,bc rfl (bF hm))],pans:=an Pg [(76,24,10288,⟨2,some (bh (nT c)),[]⟩)]} 2000 (dg S▸ay h a rfl)
set_option maxRecDepth 100000 in
theorem Sp(a:CKok S.at1)(t:Int)(w:l5 S.at1 (.mk x s e u o b) [1,2] t):HC 76 [aE,eW 7 (S.c.pts.length:Int) nm ty n p (.mk x s e u o b::zs) f m] (ck S) [] (ij S):=
 qN {hintB:=bk Pg [(76,15,3332,iH Pg S.c.pts.length),(76,24,4664, .apps (S.c.pts.map cO) S.c.pts.length 1 ⟨by simp,by have:=h.pts;omega⟩),(76,15,6588,iI Pg S.c.pts.length),(76,37,7920,eJ Pg S.c.pts.length),(76,103010,8068,eK Pg (S.c.pts.map cO) (cO ey) S.c.pts.length (by simp))],calls:=tC [(76,36,7920,bc rfl (bF hm)),(76,139,11472,bc rfl (z6 (wO w 11462)))]} 2000 (dg S▸ay h a rfl)
set_option maxRecDepth 100000 in
theorem Py(a:CKok S.at1)(q r:Int)(w:iX S.at1 (.mk x s e u o b) [1,2] q r):HX 76 [aE,eW 7 (S.c.pts.length:Int) nm ty n p (.mk x s e u o b::zs) f m] (ck S) (aB q r) (ij S):=
 qX {hintB:=bk Pg [(76,15,3332,iH Pg S.c.pts.length),(76,24,4664, .apps (S.c.pts.map cO) S.c.pts.length 1 ⟨by simp,by have:=h.pts;omega⟩),(76,15,6588,iI Pg S.c.pts.length),(76,37,7920,eJ Pg S.c.pts.length),(76,103010,8068,eK Pg (S.c.pts.map cO) (cO ey) S.c.pts.length (by simp))],calls:=tC [(76,36,7920,bc rfl (bF hm))],pans:=an Pg [(76,26,10584,⟨6,some (bh (nT (wP w 11462))),[]⟩)]} 2000 (dg S▸ay h a rfl)
set_option maxRecDepth 100000 in
theorem Sq(a:CKok S.at1)(t:Int)(c:HC 112 [aE,hO x s e u o b] (ck S.at1) [gj t] (ck S.at1)):HC 76 [aE,eW 8 (S.c.pts.length:Int) nm ty n p (.mk x s e u o b::zs) f m] (ck S) [] (ij S):=
 qN {hintB:=bk Pg [(76,15,3332,iH Pg S.c.pts.length),(76,24,4664, .apps (S.c.pts.map cO) S.c.pts.length 1 ⟨by simp,by have:=h.pts;omega⟩),(76,15,6588,iI Pg S.c.pts.length),(76,37,7920,eJ Pg S.c.pts.length),(76,103010,8068,eK Pg (S.c.pts.map cO) (cO ey) S.c.pts.length (by simp))],calls:=tC [(76,36,7920,bc rfl (bF hm)),(76,147,11620,bc rfl (z6 c))]} 2000 (dg S▸ay h a rfl)
set_option maxRecDepth 100000 in
theorem Pz(a:CKok S.at1)(q r:Int)(c:HX 112 [aE,hO x s e u o b] (ck S.at1) (aB q r) (ck S.at1)):HX 76 [aE,eW 8 (S.c.pts.length:Int) nm ty n p (.mk x s e u o b::zs) f m] (ck S) (aB q r) (ij S):=
 qX {hintB:=bk Pg [(76,15,3332,iH Pg S.c.pts.length),(76,24,4664, .apps (S.c.pts.map cO) S.c.pts.length 1 ⟨by simp,by have:=h.pts;omega⟩),(76,15,6588,iI Pg S.c.pts.length),(76,37,7920,eJ Pg S.c.pts.length),(76,103010,8068,eK Pg (S.c.pts.map cO) (cO ey) S.c.pts.length (by simp))],calls:=tC [(76,36,7920,bc rfl (bF hm))],pans:=an Pg [(76,28,10880,⟨5,some (bh (nT c)),[]⟩)]} 2000 (dg S▸ay h a rfl)
set_option maxRecDepth 100000 in
theorem Vy(g:CKok S.at1)(q r:Int)(a:HX 107 [aE, .d (.str nm),dI p] (ck S.at1) (aB q r) (ck S.at1)):HX 76 [aE,eW 3 (S.c.pts.length:Int) nm ty n p es f m] (ck S) (aB q r) (ij S):=
 qX {hintB:=bk Pg [(76,15,3332,iH Pg S.c.pts.length),(76,24,4664, .apps (S.c.pts.map cO) S.c.pts.length 1 ⟨by simp,by have:=h.pts;omega⟩),(76,15,6588,iI Pg S.c.pts.length),(76,37,7920,eJ Pg S.c.pts.length),(76,103010,8068,eK Pg (S.c.pts.map cO) (cO ey) S.c.pts.length (by simp))],calls:=tC [(76,36,7920,bc rfl (bF hm))],pans:=an Pg [(76,13,9400,⟨5,some (bh (nT a)),[]⟩)]} 2000 (dg S▸ay h g rfl)
set_option maxRecDepth 100000 in
theorem Vz(g:CKok S.at1)(a:HC 107 [aE, .d (.str nm),dI p] (ck S.at1) [] (ck S.at1))(q r:Int)(w:iX S.at1 (.mk x s e u o b) [1] q r):HX 76 [aE,eW 3 (S.c.pts.length:Int) nm ty n p (.mk x s e u o b::zs) f m] (ck S) (aB q r) (ij S):=
 qX {hintB:=bk Pg [(76,15,3332,iH Pg S.c.pts.length),(76,24,4664, .apps (S.c.pts.map cO) S.c.pts.length 1 ⟨by simp,by have:=h.pts;omega⟩),(76,15,6588,iI Pg S.c.pts.length),(76,37,7920,eJ Pg S.c.pts.length),(76,103010,8068,eK Pg (S.c.pts.map cO) (cO ey) S.c.pts.length (by simp))],calls:=tC [(76,36,7920,bc rfl (bF hm)),(76,84,10140,bc rfl (z6 a))],pans:=an Pg [(76,14,10140,⟨6,some (bh (nT (wP w 10970))),[]⟩)]} 2000 (dg S▸ay h g rfl)
set_option maxRecDepth 100000 in
theorem VA(g:CKok S.at1)(a:HC 107 [aE, .d (.str nm),dI p] (ck S.at1) [] (ck S.at1))(t:Int)(w:l5 S.at1 (.mk x s e u o b) [1] t)(q r:Int)(i:iX S.at1 (.mk C A y z B cz) [1] q r):HX 76 [aE,eW 3 (S.c.pts.length:Int) nm ty n p (.mk x s e u o b:: .mk C A y z B cz::zs) f m] (ck S) (aB q r) (ij S):=
 qX {hintB:=bk Pg [(76,15,3332,iH Pg S.c.pts.length),(76,24,4664, .apps (S.c.pts.map cO) S.c.pts.length 1 ⟨by simp,by have:=h.pts;omega⟩),(76,15,6588,iI Pg S.c.pts.length),(76,37,7920,eJ Pg S.c.pts.length),(76,103010,8068,eK Pg (S.c.pts.map cO) (cO ey) S.c.pts.length (by simp))],calls:=tC [(76,36,7920,bc rfl (bF hm)),(76,84,10140,bc rfl (z6 a)),(76,91,11028,bc rfl (z6 (wO w 10970)))],pans:=an Pg [(76,15,11028,⟨6,some (bh (nT (wP i 11865))),[]⟩)]} 2000 (dg S▸ay h g rfl)
set_option maxRecDepth 100000 in
theorem Sr(g:CKok S.at1)(a:HC 107 [aE, .d (.str nm),dI p] (ck S.at1) [] (ck S.at1))(t:Int)(w:l5 S.at1 (.mk x s e u o b) [1] t)(j:Int)(i:l5 S.at1 (.mk C A y z B cz) [1] j):HC 76 [aE,eW 3 (S.c.pts.length:Int) nm ty n p (.mk x s e u o b:: .mk C A y z B cz::zs) f m] (ck S) [] (ij S):=
 qN {hintB:=bk Pg [(76,15,3332,iH Pg S.c.pts.length),(76,24,4664, .apps (S.c.pts.map cO) S.c.pts.length 1 ⟨by simp,by have:=h.pts;omega⟩),(76,15,6588,iI Pg S.c.pts.length),(76,37,7920,eJ Pg S.c.pts.length),(76,103010,8068,eK Pg (S.c.pts.map cO) (cO ey) S.c.pts.length (by simp))],calls:=tC [(76,36,7920,bc rfl (bF hm)),(76,84,10140,bc rfl (z6 a)),(76,91,11028,bc rfl (z6 (wO w 10970))),(76,98,11916,bc rfl (z6 (wO i 11865)))]} 2000 (dg S▸ay h g rfl)
set_option maxRecDepth 100000 in
theorem VB(g:CKok S.at1)(q r:Int)(a:HX 105 [aE, .d (.str nm),dI p] (ck S.at1) (aB q r) (ck S.at1)):HX 76 [aE,eW 2 (S.c.pts.length:Int) nm ty n p es f m] (ck S) (aB q r) (ij S):=
 qX {hintB:=bk Pg [(76,15,3332,iH Pg S.c.pts.length),(76,24,4664, .apps (S.c.pts.map cO) S.c.pts.length 1 ⟨by simp,by have:=h.pts;omega⟩),(76,15,6588,iI Pg S.c.pts.length),(76,37,7920,eJ Pg S.c.pts.length),(76,103010,8068,eK Pg (S.c.pts.map cO) (cO ey) S.c.pts.length (by simp))],calls:=tC [(76,36,7920,bc rfl (bF hm))],pans:=an Pg [(76,8,9104,⟨5,some (bh (nT a)),[]⟩)]} 2000 (dg S▸ay h g rfl)
set_option maxRecDepth 100000 in
theorem VC(j:CKok S.at1)(i:Nat)(v:Vr)(a:HC 105 [aE, .d (.str nm),dI p] (ck S.at1) [.int .i64 (i:Int),rC v] (ck S.at1))(g:(v.ty !=3)=false):HX 76 [aE,eW 2 (S.c.pts.length:Int) nm ty n p es f m] (ck S) (aB p 8) (ij S):=
 qX {hintB:=bk Pg [(76,15,3332,iH Pg S.c.pts.length),(76,24,4664, .apps (S.c.pts.map cO) S.c.pts.length 1 ⟨by simp,by have:=h.pts;omega⟩),(76,15,6588,iI Pg S.c.pts.length),(76,37,7920,eJ Pg S.c.pts.length),(76,103010,8068,eK Pg (S.c.pts.map cO) (cO ey) S.c.pts.length (by simp)),(76,58,11028,qB g)],calls:=tC [(76,36,7920,bc rfl (bF hm)),(76,53,9844,bc rfl (z6 a))],pans:=an Pg [(76,9,10732,⟨5,some (bh (b7 p 8)),[]⟩)]} 2000 (dg S▸ay h j rfl)
set_option maxRecDepth 100000 in
theorem VD(j:CKok S.at1)(i:Nat)(v:Vr)(a:HC 105 [aE, .d (.str nm),dI p] (ck S.at1) [.int .i64 (i:Int),rC v] (ck S.at1))(g:(v.ty !=3)=true)(q r:Int)(w:iX S.at1 (.mk x s e u o b) [v.ty] q r):HX 76 [aE,eW 2 (S.c.pts.length:Int) nm ty n p (.mk x s e u o b::zs) f m] (ck S) (aB q r) (ij S):=
 qX {hintB:=bk Pg [(76,15,3332,iH Pg S.c.pts.length),(76,24,4664, .apps (S.c.pts.map cO) S.c.pts.length 1 ⟨by simp,by have:=h.pts;omega⟩),(76,15,6588,iI Pg S.c.pts.length),(76,37,7920,eJ Pg S.c.pts.length),(76,103010,8068,eK Pg (S.c.pts.map cO) (cO ey) S.c.pts.length (by simp)),(76,58,11028,qB g)],calls:=tC [(76,36,7920,bc rfl (bF hm)),(76,53,9844,bc rfl (z6 a)),(76,61,11472,bc rfl (aV p 8))],pans:=an Pg [(76,10,11472,⟨8,some (bh (nT (wP w 12577))),[]⟩)]} 2000 (dg S▸ay h j rfl)
set_option maxRecDepth 100000 in
theorem PA(k:CKok S.at1)(i:Nat)(v:Vr)(a:HC 105 [aE, .d (.str nm),dI p] (ck S.at1) [.int .i64 (i:Int),rC v] (ck S.at1))(j:(v.ty !=3)=true)(t:Int)(w:l5 S.at1 (.mk x s e u o b) [v.ty] t)(g:bW i S.c.sure.l 0=none)(h2:CKok (S.at1.put i)):HC 76 [aE,eW 2 (S.c.pts.length:Int) nm ty n p (.mk x s e u o b::zs) f m] (ck S) [] (HK S (a8 S.c.sure.l ++[(.int .i64 (i:Int), .agg [],S.c.sure.c)]) (S.c.sure.c+1)):=
 qN {hintB:=bk Pg [(76,15,3332,iH Pg S.c.pts.length),(76,24,4664, .apps (S.c.pts.map cO) S.c.pts.length 1 ⟨by simp,by have:=h.pts;omega⟩),(76,15,6588,iI Pg S.c.pts.length),(76,37,7920,eJ Pg S.c.pts.length),(76,103010,8068,eK Pg (S.c.pts.map cO) (cO ey) S.c.pts.length (by simp)),(76,58,11028,qB j),(76,111006,13544,lh Pg i S.c.sure.l (none) g)],calls:=tC [(76,36,7920,bc rfl (bF hm)),(76,53,9844,bc rfl (z6 a)),(76,61,11472,bc rfl (aV p 8)),(76,70,12656,bc rfl (z6 (wO w 12577)))]} 2000 (Dq S g▸ay h h2 rfl)
set_option maxRecDepth 100000 in
theorem PB(q:CKok S.at1)(i:Nat)(v:Vr)(a:HC 105 [aE, .d (.str nm),dI p] (ck S.at1) [.int .i64 (i:Int),rC v] (ck S.at1))(k:(v.ty !=3)=true)(t:Int)(w:l5 S.at1 (.mk x s e u o b) [v.ty] t)(j:Nat)(g:bW i S.c.sure.l 0=some j)(h2:CKok (S.at1.put i)):HC 76 [aE,eW 2 (S.c.pts.length:Int) nm ty n p (.mk x s e u o b::zs) f m] (ck S) [] (HK S (eE (.int .i64 (i:Int)) (.agg []) j (a8 S.c.sure.l)) S.c.sure.c):=
 qN {hintB:=bk Pg [(76,15,3332,iH Pg S.c.pts.length),(76,24,4664, .apps (S.c.pts.map cO) S.c.pts.length 1 ⟨by simp,by have:=h.pts;omega⟩),(76,15,6588,iI Pg S.c.pts.length),(76,37,7920,eJ Pg S.c.pts.length),(76,103010,8068,eK Pg (S.c.pts.map cO) (cO ey) S.c.pts.length (by simp)),(76,58,11028,qB k),(76,111006,13544,lh Pg i S.c.sure.l (some j) g)],calls:=tC [(76,36,7920,bc rfl (bF hm)),(76,53,9844,bc rfl (z6 a)),(76,61,11472,bc rfl (aV p 8)),(76,70,12656,bc rfl (z6 (wO w 12577)))]} 2000 (Dr S g▸ay h h2 rfl)
set_option maxRecDepth 100000 in
theorem VE(a:CKok S.at1)(q r:Int)(w:iX S.at1 (.mk x s e u o b) [2] q r):HX 76 [aE,eW 5 (S.c.pts.length:Int) nm ty n p (.mk x s e u o b::zs) f m] (ck S) (aB q r) (ij S):=
 qX {hintB:=bk Pg [(76,15,3332,iH Pg S.c.pts.length),(76,24,4664, .apps (S.c.pts.map cO) S.c.pts.length 1 ⟨by simp,by have:=h.pts;omega⟩),(76,15,6588,iI Pg S.c.pts.length),(76,37,7920,eJ Pg S.c.pts.length),(76,103010,8068,eK Pg (S.c.pts.map cO) (cO ey) S.c.pts.length (by simp))],calls:=tC [(76,36,7920,bc rfl (bF hm))],pans:=an Pg [(76,19,9992,⟨6,some (bh (nT (wP w 10843))),[]⟩)]} 2000 (dg S▸ay h a rfl)
set_option maxRecDepth 100000 in
theorem VF(t:Int)(w:l5 S.at1 (.mk x s e u o b) [2] t)(g:Gv)(q r:Int)(c:HX 110 [aE, .d (.ro (dH f))] (ck S.at1) (aB q r) (cP g)):HX 76 [aE,eW 5 (S.c.pts.length:Int) nm ty n p (.mk x s e u o b::zs) f m] (ck S) (aB q r) (cP g):=
 qX {hintB:=bk Pg [(76,15,3332,iH Pg S.c.pts.length),(76,24,4664, .apps (S.c.pts.map cO) S.c.pts.length 1 ⟨by simp,by have:=h.pts;omega⟩),(76,15,6588,iI Pg S.c.pts.length),(76,37,7920,eJ Pg S.c.pts.length),(76,103010,8068,eK Pg (S.c.pts.map cO) (cO ey) S.c.pts.length (by simp))],calls:=tC [(76,36,7920,bc rfl (bF hm)),(76,112,10880,bc rfl (z6 (wO w 10843))),(76,117,11472,ab (mQ S.vq (a8 S.c.sure.l) S.c.sure.c))],pans:=an Pg [(76,21,11620,⟨3,some (bh (Pu c)),[]⟩)]} 2000 (jY h rfl)
set_option maxRecDepth 100000 in
theorem Ss(t:Int)(w:l5 S.at1 (.mk x s e u o b) [2] t){S':CK}(h2:CKok (S'.sureAs S.c.sure (S'.vq+1)))(c:HC 110 [aE, .d (.ro (dH f))] (ck S.at1) [] (ck S')):HC 76 [aE,eW 5 (S.c.pts.length:Int) nm ty n p (.mk x s e u o b::zs) f m] (ck S) [] (ck (S'.sureAs S.c.sure (S'.vq+1))):=
 cK bv named {hintB:=bk Pg [(76,15,3332,iH Pg S.c.pts.length),(76,24,4664, .apps (S.c.pts.map cO) S.c.pts.length 1 ⟨by simp,by have:=h.pts;omega⟩),(76,15,6588,iI Pg S.c.pts.length),(76,37,7920,eJ Pg S.c.pts.length),(76,103010,8068,eK Pg (S.c.pts.map cO) (cO ey) S.c.pts.length (by simp))],calls:=tC [(76,36,7920,bc rfl (bF hm)),(76,112,10880,bc rfl (z6 (wO w 10843))),(76,117,11472,ab (mQ S.vq (a8 S.c.sure.l) S.c.sure.c)),(76,121,12064,ab (Vw c))]} 2000 2000 _ 1000000 ([(500000,524292195335)]) (ay h h2 rfl) (fun _=>by kernel_rfl)
end
end Go.Avm
namespace Go.Avm
open Go.Proofs
theorem cW{S:CK}(h:CKok S)(x:Pt)(hp:S.c.pts.length<900000000):CKok (S.ptd x) where
 fn:=h.fn
 W:=h.W
 dat:=h.dat
 len:=h.len
 par:=h.par
 vars:=h.vars
 seen:=h.seen
 inc:=h.inc
 nms:=h.nms
 nml:=h.nml
 had:=h.had
 sk:=h.sk
 sb:=h.sb
 sc:=h.sc
 sv:=h.sv
 pts:=by simp only[CK.ptd,xC,xD,xF];omega
theorem hF{S:CK}(h:CKok S)(hp:S.c.pts.length<900000000):Nx S S.at1 {S.c with pts:=S.c.pts ++[S.c.pt S.fn]}:=⟨cW h _ hp,rfl,rfl,rfl,rfl,rfl,List.prefix_refl _⟩
structure VG(P:Pl)(bd el:List aP):Prop where
 ib:∀S,At P S→TC S 110 [aE, .d (.ro (dH bd))] (e5 P.in bd S.c)
 ie:∀S,At P S→TC S 110 [aE, .d (.ro (dH el))] (e5 P.in el S.c)
 eb:mq bd
 ee:mq el
theorem TC.from{S S1:CK}{c1:CS}{f a:Nat}{args pG:List AV}{r:TR CS}(d:Nx S S1 c1)(t:TC S1 f args r)(ok:∀S',CKok S'→(HC f args (ck S1) [] (ck S'))→HC a pG (ck S) [] (ck S'))
    (bad:∀g p e,(HX f args (ck S1) (aB p e) (cP g))→HX a pG (ck S) (aB p e) (cP g)):TC S a pG r:=by
 cases r with
 |out=>trivial
 |bad p e=>
  obtain⟨g,c⟩:=t;exact⟨g,bad g p e c⟩
 |ok c=>
  obtain⟨S',b,h⟩:=t;exact⟨S',d.trans b,ok S' b.ok h⟩
section
variable{P:Pl}{S:CK}(a:At P S)(hp:S.c.pts.length<900000000)(nm:List UInt8)(ty n p:Int)(es:List Ex)(d m:List aP)
include a hp
theorem mr{f:Nat}{args:List AV}{p e:Int}(h:HX f args (ck S) (aB p e) (ij S)):O4 S f args p e:=by
 rw[dg]at h;exact ii h
theorem z7{f:Nat}{args:List AV}(h:HC f args (ck S) [] (ij S)):TC S f args (.ok {S.c with pts:=S.c.pts ++[S.c.pt S.fn]}):=by
 rw[dg]at h;exact⟨S.at1,hF a.ok hp,h⟩
abbrev c1(S:CK):CS:={S.c with pts:=S.c.pts ++[S.c.pt S.fn]}
theorem Yt:TC S 76 [aE,eW 1 (S.c.pts.length:Int) nm ty n p es d m] (rD P.fs P.deep nm (S.c.pts.length:Int) ty n p es (c1 S)):=by
 have t:=Vl (hF a.ok hp).ok 1 (S.c.pts.length:Int) nm ty n p es d m;have e:S.at1.fs=P.fs:=a.fs;have b:S.at1.deep=P.deep:=a.deep;rw[e,b]at t;exact TC.from (hF a.ok hp) t (fun S' h' c=>Sm a.ok (cW a.ok ey hp) nm ty n p es d m h' c) (fun g q r c=>Pv a.ok (cW a.ok ey hp) nm ty n p es d m g q r c)
theorem Yu(x:VG P d m):TC S 76 [aE,eW 4 (S.c.pts.length:Int) nm ty n p es d m] (rZ P es d m (c1 S)):=by
 have t:=K0 x.ib x.ie x.eb x.ee 4 (S.c.pts.length:Int) nm ty n p es S.at1 (a.nx (hF a.ok hp));exact TC.from (hF a.ok hp) t (fun S' h' c=>Sn a.ok (cW a.ok ey hp) nm ty n p es d m h' c) (fun g q r c=>Pw a.ok (cW a.ok ey hp) nm ty n p es d m g q r c)
theorem Yv:TC S 76 [aE,eW 6 (S.c.pts.length:Int) nm ty n p es d m] (kj P.fs P.fn p es (c1 S)):=by
 have b:=hF a.ok hp;have t:=R0 b.ok 6 (S.c.pts.length:Int) nm ty n p es d m;have g:S.at1.fs=P.fs:=a.fs;have f:S.at1.fn=P.fn:=a.fn;rw[g,f]at t;have e:S.at1.c=c1 S:=rfl;rw[e]at t;revert t;cases kj P.fs P.fn p es (c1 S)with
 |out=>exact fun _=>trivial
 |bad q r=>exact fun t=>mr a hp (Px a.ok (cW a.ok ey hp) nm ty n p es d m b.ok q r t)
 |ok c=>
  rintro⟨rfl,t⟩;exact z7 a hp (So a.ok (cW a.ok ey hp) nm ty n p es d m b.ok t)
theorem Yw:TC S 76 [aE,eW 7 (S.c.pts.length:Int) nm ty n p es d m] ((aF ((c1 S).te P.fs) es [[1,2]] false).bind fun _=> .ok (c1 S)):=by
 have j:=hF a.ok hp;match es with
 |[]=>simp only[aF];trivial
 | .mk h i f b g e::zs=>
  have t:=Yj j.ok (.mk h i f b g e) 1 2;unfold WX at t;have k:S.at1.c.te S.at1.fs=(c1 S).te P.fs:=by rw[show S.at1.fs=P.fs from a.fs];rfl
  rw[k]at t;rw[bE];revert t;cases cB ((c1 S).te P.fs) (.mk h i f b g e) [1,2]with
  |out=>exact fun _=>trivial
  |bad q r=>exact fun t=>mr a hp (Py a.ok (cW a.ok ey hp) nm ty n p h i f b g e zs d m j.ok q r t)
  |ok u=>
   intro t;simp only[TR.bind,xI,eI];exact z7 a hp (Sp a.ok (cW a.ok ey hp) nm ty n p h i f b g e zs d m j.ok u t)
theorem Yx:TC S 76 [aE,eW 8 (S.c.pts.length:Int) nm ty n p es d m] (match es with|[]=> .out|x::_=>(ev ((c1 S).te P.fs) x).bind fun _=> .ok (c1 S)):=by
 have j:=hF a.ok hp;match es with
 |[]=>trivial
 | .mk h i f b g e::zs=>
  have t:=UM j.ok (.mk h i f b g e);have k:S.at1.c.te S.at1.fs=(c1 S).te P.fs:=by rw[show S.at1.fs=P.fs from a.fs];rfl
  rw[k]at t;simp only;revert t;cases ev ((c1 S).te P.fs) (.mk h i f b g e)with
  |out=>exact fun _=>trivial
  |bad q r=>exact fun t=>mr a hp (Pz a.ok (cW a.ok ey hp) nm ty n p h i f b g e zs d m j.ok q r t)
  |ok u=>
   intro t;exact z7 a hp (Sq a.ok (cW a.ok ey hp) nm ty n p h i f b g e zs d m j.ok u t)
theorem Yy:TC S 76 [aE,eW 3 (S.c.pts.length:Int) nm ty n p es d m] ((pX ((c1 S).te P.fs) nm p).bind fun _=>(aF ((c1 S).te P.fs) es [[1],[1]] false).bind fun _=> .ok (c1 S)):=by
 have j:=hF a.ok hp;have y:S.at1.c.te S.at1.fs=(c1 S).te P.fs:=by rw[show S.at1.fs=P.fs from a.fs];rfl
 have h:=Ou j.ok nm p;rw[y]at h;revert h;cases pX ((c1 S).te P.fs) nm p with
 |out=>exact fun _=>trivial
 |bad q r=>exact fun h=>mr a hp (Vy a.ok (cW a.ok ey hp) nm ty n p es d m j.ok q r h)
 |ok _=>
  intro h;simp only[TR.bind];match es with
  |[]=>simp only[aF];trivial
  | .mk o l f b k e::zs=>
   have t:=OP j.ok (.mk o l f b k e) 1;unfold WX at t;rw[y]at t;rw[bE];revert t;cases cB ((c1 S).te P.fs) (.mk o l f b k e) [1]with
   |out=>exact fun _=>trivial
   |bad q r=>exact fun t=>mr a hp (Vz a.ok (cW a.ok ey hp) nm ty n p o l f b k e zs d m j.ok h q r t)
   |ok u=>
    intro t;simp only[TR.bind,xI];match zs with
    |[]=>simp only[aF];trivial
    | .mk x v g s w cz::zs=>
     have i:=OP j.ok (.mk x v g s w cz) 1;unfold WX at i;rw[y]at i;rw[bE];revert i;cases cB ((c1 S).te P.fs) (.mk x v g s w cz) [1]with
     |out=>exact fun _=>trivial
     |bad q r=>exact fun i=>mr a hp (VA a.ok (cW a.ok ey hp) nm ty n p o l f b k e x v g s w cz zs d m j.ok h u t q r i)
     |ok z=>
      intro i;simp only[TR.bind,xI,eI];exact z7 a hp (Sr a.ok (cW a.ok ey hp) nm ty n p o l f b k e x v g s w cz zs d m j.ok h u t z i)
theorem Yz:TC S 76 [aE,eW 2 (S.c.pts.length:Int) nm ty n p es d m] ((lZ ((c1 S).te P.fs) nm p).bind fun r=>bif r.2.ty==3 then .bad p 8 else (aF ((c1 S).te P.fs) es [[r.2.ty]] false).bind fun _=> .ok {c1 S with sure:=(c1 S).sure.put r.1}):=by
 have o:=hF a.ok hp;have C:S.at1.c.te S.at1.fs=(c1 S).te P.fs:=by rw[show S.at1.fs=P.fs from a.fs];rfl
 have k:=Oq o.ok nm p;rw[C]at k
 have e:∀r,lZ ((c1 S).te P.fs) nm p= .ok r→r.1<S.c.vars.length:=fun r w=>by
  unfold lZ at w;cases A:eZ nm ((c1 S).te P.fs).seen 0 with
  |none=>rw[A]at w;cases w
  |some q=>
   rw[A]at w;cases w;exact a.ok.seen _ (oI A)
 revert k e;cases lZ ((c1 S).te P.fs) nm p with
 |out=>exact fun _ _=>trivial
 |bad q r=>exact fun k _=>mr a hp (VB a.ok (cW a.ok ey hp) nm ty n p es d m o.ok q r k)
 |ok D=>
  obtain⟨i,v⟩:=D;intro k e;have e:=e _ rfl;simp only[TR.bind];cases B:(v.ty==3)with
  |true=>
   have g:(v.ty !=3)=false:=by simp[bne,B]
   exact mr a hp (VC a.ok (cW a.ok ey hp) nm ty n p es d m o.ok i v k g)
  |false=>
   have g:(v.ty !=3)=true:=by simp[bne,B]
   simp only[xI];match es with
   |[]=>simp only[aF];trivial
   | .mk y x h b s f::zs=>
    have t:=OP o.ok (.mk y x h b s f) v.ty;unfold WX at t;rw[C]at t;rw[bE];revert t;cases cB ((c1 S).te P.fs) (.mk y x h b s f) [v.ty]with
    |out=>exact fun _=>trivial
    |bad q r=>exact fun t=>mr a hp (VD a.ok (cW a.ok ey hp) nm ty n p y x h b s f zs d m o.ok i v k g q r t)
    |ok u=>
     intro t;simp only[TR.bind,xI,eI];have h2:=vC o.ok i e;refine⟨S.at1.put i,⟨h2,rfl,rfl,rfl,rfl,rfl,List.prefix_refl _⟩, ?_⟩;cases z:bW i S.c.sure.l 0 with
     |none=>
      rw[←Dq S z];exact PA a.ok (cW a.ok ey hp) nm ty n p y x h b s f zs d m o.ok i v k g u t z h2
     |some j=>
      rw[←Dr S z];exact PB a.ok (cW a.ok ey hp) nm ty n p y x h b s f zs d m o.ok i v k g u t j z h2
theorem YA(x:VG P d m):TC S 76 [aE,eW 5 (S.c.pts.length:Int) nm ty n p es d m] ((aF ((c1 S).te P.fs) es [[2]] false).bind fun _=>(e5 P.in d (c1 S)).bind fun b=> .ok {b with sure:=(c1 S).sure}):=by
 have l:=hF a.ok hp;have v:S.at1.c.te S.at1.fs=(c1 S).te P.fs:=by rw[show S.at1.fs=P.fs from a.fs];rfl
 match es with
 |[]=>simp only[aF];trivial
 | .mk k j h e i f::zs=>
  have t:=OP l.ok (.mk k j h e i f) 2;unfold WX at t;rw[v]at t;rw[bE];revert t;cases cB ((c1 S).te P.fs) (.mk k j h e i f) [2]with
  |out=>exact fun _=>trivial
  |bad q r=>exact fun t=>mr a hp (VE a.ok (cW a.ok ey hp) nm ty n p k j h e i f zs d m l.ok q r t)
  |ok u=>
   intro t;simp only[TR.bind,xI,eI];have tb:=x.ib S.at1 (a.nx l);have s:S.at1.c=c1 S:=rfl;rw[s]at tb;revert tb;cases e5 P.in d (c1 S)with
   |out=>exact fun _=>trivial
   |bad q r=>exact fun ⟨g,c⟩=>⟨g,VF a.ok (cW a.ok ey hp) nm ty n p k j h e i f zs d m u t g q r c⟩
   |ok b=>
    rintro⟨S',o,c⟩;have h2:=vD o.ok (q:=S.c.sure) (a.ok.q.mono o.vars.length_le) (S'.vq+1);have nn:=l.trans o;refine⟨S'.sureAs S.c.sure (S'.vq+1),⟨h2,by rw[←o.c];rfl,nn.fs,nn.fn,nn.deep,nn.W,nn.vars⟩,Ss a.ok (cW a.ok ey hp) nm ty n p k j h e i f zs d m u t h2 c⟩
theorem YB(k:Int)(j:(k==1)=false)(i:(k==2)=false)(b:(k==3)=false)(h:(k==4)=false)(e:(k==5)=false)(g:(k==6)=false)(f:(k==7)=false)(l:(k==8)=false):TC S 76 [aE,eW k (S.c.pts.length:Int) nm ty n p es d m] (.ok (c1 S)):=
 z7 a hp (Vx a.ok (cW a.ok ey hp) nm ty n p es d m (hF a.ok hp).ok k j i b h e g f l)
end
theorem Su(P:Pl)(es:List Ex)(d e:List aP)(c:CS):((aF (c.te P.fs) es [[2]] false).bind fun _=>
        (bQ P.fs P.fn (b5 (P.deep+1)) false d c).bind fun a=>
        (bQ P.fs P.fn (b5 (P.deep+1)) false e {a with seen:=c.seen,sure:=c.sure}).bind fun b=>
        .ok {b with seen:=c.seen,sure:=bif dV d then b.sure else bif dV e then a.sure else a.sure.both b.sure})=rZ P es d e c:=by
 unfold rZ e5;simp only[Pl.in];cases aF (c.te P.fs) es [[2]] false with
 |out=>rfl
 |bad _ _=>rfl
 |ok _=>
  simp only[TR.bind];cases bQ P.fs P.fn (b5 (P.deep+1)) false d c with
  |out=>rfl
  |bad _ _=>rfl
  |ok a=>
   simp only;cases bQ P.fs P.fn (b5 (P.deep+1)) false e ⟨a.vars,c.seen,c.sure,a.pts⟩with
   |out=>rfl
   |bad _ _=>rfl
   |ok b=>rfl
theorem Sv{P:Pl}{k id:Int}{nm:List UInt8}{ty n p:Int}{es:List Ex}{b d:List aP}(x:VG P b d):R4 P (.mk k id nm ty n p es b d):=fun S a=>by
 unfold jv;cases e:(id==(S.c.pts.length:Int)&&decide (S.c.pts.length<900000000))with
 |false=>exact trivial
 |true=>
  rw[xL]at e;have q:=eq_of_beq e.1;subst q;have hp:=yC e.2;simp only[xR];have r:({S.c with pts:=S.c.pts ++[S.c.pt P.fn]}:CS)=c1 S:=by rw[←a.fn]
  rw[r];cases m:(k==1)with
  |true=>rw[eq_of_beq m];exact Yt a hp nm ty n p es b d
  |false=>
  cases l:(k==2)with
  |true=>
   have:=Yz a hp nm ty n p es b d;rw[eq_of_beq l];rw[←a.fn];exact this
  |false=>
  cases f:(k==3)with
  |true=>rw[eq_of_beq f];exact Yy a hp nm ty n p es b d
  |false=>
  cases j:(k==4)with
  |true=>
   have:=Yu a hp nm ty n p es b d x;rw[←Su]at this;rw[eq_of_beq j];exact this
  |false=>
  cases g:(k==5)with
  |true=>
   have:=YA a hp nm ty n p es b d x;rw[eq_of_beq g];refine(congrArg (TC S _ _) ?_).mp this;unfold e5;simp only[Pl.in];cases aF ((c1 S).te P.fs) es [[2]] false with
   |out=>rfl
   |bad _ _=>rfl
   |ok _=>
    simp only[TR.bind];cases bQ P.fs P.fn (b5 (P.deep+1)) false b (c1 S)<;>rfl
  |false=>
  cases h:(k==6)with
  |true=>rw[eq_of_beq h];exact Yv a hp nm ty n p es b d
  |false=>
  cases i:(k==7)with
  |true=>rw[eq_of_beq i];exact Yw a hp nm ty n p es b d
  |false=>
  cases o:(k==8)with
  |true=>
   rw[eq_of_beq o];have:=Yx a hp nm ty n p es b d;refine(congrArg (TC S _ _) ?_).mp this;cases es<;>rfl
  |false=>exact YB a hp nm ty n p es b d k m l f j g h i o
theorem Cd:∀(m:Nat)(P:Pl)(l:List aP),jf m l→0≤P.deep→P.deep+m<9223372036854775807→∀x∈l,R4 P x
 |0,_,_,h,_,_=>h.elim
 |m+1,P,l,h,r,s=>fun x i=>by
  have b:=h.2 x i;obtain⟨k,id,nm,ty,n,p,es,c,d⟩:=x;simp only at b
  have f:P.in.deep=P.deep+1:=by
   show b5 (P.deep+1)=_;unfold b5;exact IntWalk.i64_in _ (by omega)
  have q:=Cd m P.in c b.1 (by rw[f];omega) (by rw[f];omega);have o:=Cd m P.in d b.2 (by rw[f];omega) (by rw[f];omega)
  have e:∀(l:List aP),jf m l→l.length<1000000∧∀x∈l,mo x:=fun l g=>by
   cases m with
   |zero=>exact g.elim
   |succ m=>
    refine⟨g.1,fun x i=> ?_⟩;have h2:=g.2 x i;obtain⟨k,id,nm,ty,n,p,es,c,d⟩:=x;exact M4 h2.1 h2.2
  have j: -9223372036854775808≤P.deep∧P.deep<9223372036854775808:=by omega
  exact Sv ⟨fun S a=>Ho j (e c b.1).1 q (e c b.1).2 S a,fun S a=>Ho j (e d b.2).1 o (e d b.2).2 S a,rK m c b.1,rK m d b.2⟩
end Go.Avm
