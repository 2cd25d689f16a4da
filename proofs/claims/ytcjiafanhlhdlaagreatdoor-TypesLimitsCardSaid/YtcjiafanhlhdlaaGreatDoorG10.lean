/-
  Types: a let, whatever it says.
-/
import Derived.Test.YtcjiafanhlhdlaaGreatDoorG09
import Derived.Test.YtcjiafanhlhdlaaGreatDoorG07
import Derived.Test.YtcjiafanhlhdlaaGreatDoorG08
set_option linter.unusedVariables false
set_option linter.unusedSimpArgs false
set_option linter.unusedSectionVars false
namespace Go.Avm
open Go.Proofs
theorem sB{x:List UInt8}:∀{l:hQ}{j:Nat},(∀p∈l,p.1≠x)→eD x l j=none
 |[],_,_=>rfl
 |e::r,j,h=>by
  have h1:(x==e.1)=false:=beq_eq_false_iff_ne.2 (Ne.symm (h e (by simp)));simp only[eD,h1,cond_false];exact sB fun p hp=>h p (by simp[hp])
theorem ke{x:Nat}:∀{l:List (Nat×Nat)}{j:Nat},(∀p∈l,p.1≠x)→bP x l j=none
 |[],_,_=>rfl
 |e::r,j,h=>by
  have h1:(x==e.1)=false:=beq_eq_false_iff_ne.2 (Ne.symm (h e (by simp)));simp only[bP,h1,cond_false];exact ke fun p hp=>h p (by simp[hp])
theorem xP{S:CK}(h:CKok S){nm:List UInt8}(hn:(S.c.vars.any fun v=>v.nm==nm)=false):eD nm S.c.seen 0=none:=sB fun p hp e=>by
 have:=h.had p hp;rw[e,hn]at this;cases this
theorem zN{S:CK}(h:CKok S){v:Vr}(hl:v.nm.length≤1000000)(hn:(S.c.vars.any fun w=>w.nm==v.nm)=false)(hv:S.c.vars.length<255):CKok (S.add v) where
 fn:=h.fn
 W:=h.W
 dat:=h.dat
 len:=h.len
 par:=h.par
 vars:=by simp only[CK.add,CS.add,List.length_append,List.length_cons,List.length_nil];omega
 seen:=fun p hp=>by
  simp only[CK.add,CS.add,List.length_append,List.length_cons,List.length_nil,List.mem_append,List.mem_singleton]at hp ⊢;rcases hp with hp|rfl
  ·have:=h.seen p hp;omega
  ·simp
 inc:=by
  simp only[CK.add,CS.add,List.map_append,List.map_cons,List.map_nil];rw[List.pairwise_append];refine⟨h.inc,by simp,fun a ha b hb=> ?_⟩;obtain⟨p,hp,rfl⟩:=List.mem_map.1 ha;simp only[List.mem_singleton]at hb;subst hb;exact h.seen p hp
 nms:=by
  simp only[CK.add,CS.add,List.map_append,List.map_cons,List.map_nil];rw[List.nodup_append];refine⟨h.nms,by simp,fun a ha b hb=> ?_⟩;obtain⟨p,hp,rfl⟩:=List.mem_map.1 ha;simp only[List.mem_singleton]at hb;subst hb;intro e;have:=h.had p hp;rw[e,hn]at this;cases this
 nml:=fun p hp=>by
  simp only[CK.add,CS.add,List.mem_append,List.mem_singleton]at hp;rcases hp with hp|rfl
  ·exact h.nml p hp
  ·exact hl
 had:=fun p hp=>by
  simp only[CK.add,CS.add,List.mem_append,List.mem_singleton,List.any_append,Bool.or_eq_true]at hp ⊢;rcases hp with hp|rfl
  ·exact .inl (h.had p hp)
  ·exact .inr (by simp)
 sk:=h.sk
 sb:=h.sb
 sc:=h.sc
 sv:=fun p hp=>by
  have:=h.sv p hp;simp only[CK.add,CS.add,List.length_append,List.length_cons,List.length_nil];omega
 pts:=h.pts
theorem sC{x:Nat}:∀{l:List (Nat×Nat)}{j:Nat},(∃p∈l,p.1=x)→(bP x l j).isSome=true
 |[],_,h=>by simp at h
 |e::r,j,h=>by
  cases h1:(x==e.1)with
  |true=>simp only[bP,h1,cond_true];rfl
  |false=>
   simp only[bP,h1,cond_false];refine sC ?_;obtain⟨p,hp,he⟩:=h;rcases List.mem_cons.1 hp with rfl|hp
   ·rw[he]at h1;simp at h1
   ·exact⟨p,hp,he⟩
theorem vX{S:CK}(h:CKok S)(i:Nat)(hv:i<S.c.vars.length):CKok (S.put i):=by
 cases hh:S.c.sure.has i with
 |true=>
  have e:S.put i=S:=by simp only[CK.put,SureL.put,hh,cond_true]
  rw[e];exact h
 |false=>
  have e:S.c.sure.put i=⟨S.c.sure.l ++[(i,S.c.sure.c)],S.c.sure.c+1⟩:=by simp only[SureL.put,hh,cond_false]
  have hi:∀p∈S.c.sure.l,p.1≠i:=fun p hp he=>by
   have:=sC (x:=i) (j:=0) ⟨p,hp,he⟩;unfold SureL.has at hh;rw[hh]at this;cases this
  exact{h with
   sk:=by
    simp only[CK.put,e,List.map_append,List.map_cons,List.map_nil];rw[List.nodup_append];refine⟨h.sk,by simp,fun a ha b hb=> ?_⟩;obtain⟨p,hp,rfl⟩:=List.mem_map.1 ha;simp only[List.mem_singleton]at hb;subst hb;exact hi p hp
   sb:=by
    simp only[CK.put,e,List.map_append,List.map_cons,List.map_nil];rw[List.nodup_append];refine⟨h.sb,by simp,fun a ha b hb=> ?_⟩;obtain⟨p,hp,rfl⟩:=List.mem_map.1 ha;simp only[List.mem_singleton]at hb;subst hb;have:=h.sc p hp;omega
   sc:=fun p hp=>by
    simp only[CK.put,e,List.mem_append,List.mem_singleton]at hp ⊢;rcases hp with hp|rfl
    ·have:=h.sc p hp;omega
    ·simp
   sv:=fun p hp=>by
    simp only[CK.put,e,List.mem_append,List.mem_singleton]at hp;rcases hp with hp|rfl
    ·exact h.sv p hp
    ·exact hv}
end Go.Avm
namespace Go.Avm
open Go.Proofs
structure Gv where
 vh:Nat
 vs:Nat
 vq:Nat
 vv:Nat
 vp:Nat
abbrev ct(g:Gv):List (Nat×aL):=[(500000,⟨1,none⟩),(499904,⟨1,none⟩),(500002,⟨g.vh,none⟩),(500003,⟨g.vs,none⟩),(500004,⟨g.vq,none⟩),(500005,⟨g.vv,none⟩),(500382,⟨g.vp,none⟩),(500191,⟨1,none⟩)]
def CK.gv(S:CK):Gv:=⟨S.vh,S.vs,S.vq,S.vv,S.vp⟩
theorem B2{P:Program}{g:Nat}{args:List AV}{x:AV}{h h1 h2:ab}(hc:iV P g args h x h1)(hh:∀k,(h2 k).ver=(h1 k).ver∧((h2 k).ob=none∨(h2 k).ob=(h1 k).ob)):iV P g args h x h2:=
 ⟨hc.1,fun G B w0 I0 w cargs hr hs hargs=>(hc.2 G B w0 I0 w cargs hr hs hargs).mono fun _ _ ⟨v,G',e1,e2,e3,e4⟩=>⟨v,G',e1,e2,e3.forget hh,e4⟩⟩
theorem xQ(rest:ab):∀(l:List (Nat×aL))(k:Nat),(al (l.map fun p=>(p.1,(⟨p.2.ver,none⟩:aL))) rest k).ver=(al l rest k).ver∧((al (l.map fun p=>(p.1,(⟨p.2.ver,none⟩:aL))) rest k).ob=none∨(al (l.map fun p=>(p.1,(⟨p.2.ver,none⟩:aL))) rest k).ob=(al l rest k).ob)
 |[],_=>⟨rfl, .inr rfl⟩
 |(k',e)::r,k=>by
  simp only[List.map_cons,al,aK];split
  ·exact⟨rfl, .inl rfl⟩
  ·exact xQ rest r k
abbrev JM(S:CK)(f:Nat)(args:List AV)(p e:Int):Prop:=∃g,HX f args (ck S) (aE p e) (ct g)
theorem io{S S':CK}{f:Nat}{args:List AV}{p e:Int}(h:HX f args (ck S) (aE p e) (ck S')):JM S f args p e:=
 ⟨S'.gv,fun rest=>B2 (h rest) (xQ rest (ck S'))⟩
structure Nx(S S':CK)(c:CS):Prop where
 ok:CKok S'
 c:S'.c=c
 fs:S'.fs=S.fs
 fn:S'.fn=S.fn
 deep:S'.deep=S.deep
 W:S'.W=S.W
 vars:S.c.vars<+:S'.c.vars
def TC(S:CK)(f:Nat)(args:List AV):TR CS→Prop
 | .ok c=>∃S',Nx S S' c∧HC f args (ck S) [] (ck S')
 | .bad p e=>JM S f args p e
 | .out=>True
theorem CKok.nx{S:CK}(h:CKok S):Nx S S S.c:=⟨h,rfl,rfl,rfl,rfl,rfl,List.prefix_refl _⟩
theorem OL{S:CK}(h:CKok S)(k id:Int)(nm:List UInt8)(ty n p:Int)(es:List Ex)(bd el:List bt):TC S 104 [aF,eA k id nm ty n p es bd el] (zI S.fs S.deep nm id ty n p es S.c):=by
 unfold zI;cases hl:decide (1000000≤es.length)with
 |true=>exact trivial
 |false=>
  have hl':=of_decide_eq_false hl;have c:=Ih h k id nm ty n p es bd el (by omega) _ 0 rfl (Nat.zero_le _);rw[List.drop_zero]at c;simp only[cond_false];revert c;cases aM (S.c.te S.fs) es (es.map fun _=>[ty]) false with
  |out=>exact fun _=>trivial
  |bad u r=>exact fun c=>io (S':=S) (Ma h k id nm ty n p es bd el u r c)
  |ok _=>
   intro c;have c:JE S k id nm ty n p es bd el:=c;simp only[TR.bind];cases hnl:decide (1000000<nm.length)with
   |true=>exact trivial
   |false=>
   have hnl':=of_decide_eq_false hnl;simp only[cond_false];cases hn:S.c.vars.any fun v=>v.nm==nm with
   |true=>
    obtain⟨q,hq⟩:=uk nm S.c.vars 0 0 hn;exact io (DI h k id nm ty n p es bd el c q hq)
   |false=>
   have hs:=xP h hn;simp only[cond_false];cases h3:(ty==3)with
   |true=>
    simp only[Bool.true_and,Bool.true_or];cases hd:(S.deep==0)with
    |false=>exact io (GC h k id nm ty n p es bd el c hn h3 hd)
    |true=>
    simp only[Bool.not_true,cond_false];cases h1:decide (1≤n)with
    |false=>exact io (JF h k id nm ty n p es bd el c hn h3 hd h1)
    |true=>
    cases h2:decide (n≤256)with
    |false=>exact io (GD h k id nm ty n p es bd el c hn h3 hd h1 h2)
    |true=>
    simp only[Bool.and_self,Bool.not_true,cond_false];cases hv:decide (255≤S.c.vars.length)with
    |true=>exact io (DJ h k id nm ty n p es bd el c hn h3 hd h1 h2 (by have:=of_decide_eq_true hv;simp;omega))
    |false=>
    have hv':=of_decide_eq_false hv;have h':=zN h (v:=⟨nm,ty,n,id⟩) (by simp only;omega) hn (by omega);have hq:bP S.c.vars.length S.c.sure.l 0=none:=ke fun p hp e=>by have:=h.sv p hp;omega
    refine⟨(S.add ⟨nm,ty,n,id⟩).put S.c.vars.length,⟨vX h' _ (by simp[CK.add,CS.add]),rfl,rfl,rfl,rfl,rfl,List.prefix_append _ _⟩, ?_⟩;rw[←vW (S:=S.add ⟨nm,ty,n,id⟩) (i:=S.c.vars.length) hq];exact JI h k id nm ty n p es bd el c hn hs h' (by simp;omega) h3 hd h1 h2 hq
   |false=>
    simp only[Bool.false_and,cond_false,Bool.false_or];cases hv:decide (255≤S.c.vars.length)with
    |true=>exact io (DK h k id nm ty n p es bd el c hn h3 (by have:=of_decide_eq_true hv;simp;omega))
    |false=>
    have hv':=of_decide_eq_false hv;have h':=zN h (v:=⟨nm,ty,n,id⟩) (by simp only;omega) hn (by omega);have hq:bP S.c.vars.length S.c.sure.l 0=none:=ke fun p hp e=>by have:=h.sv p hp;omega
    cases es with
    |nil=>exact⟨S.add ⟨nm,ty,n,id⟩,⟨h',rfl,rfl,rfl,rfl,rfl,List.prefix_append _ _⟩,JG h k id nm ty n p [] bd el c hn hs h' (by simp;omega) h3 rfl⟩
    |cons e r=>
     refine⟨(S.add ⟨nm,ty,n,id⟩).put S.c.vars.length,⟨vX h' _ (by simp[CK.add,CS.add]),rfl,rfl,rfl,rfl,rfl,List.prefix_append _ _⟩, ?_⟩;rw[←vW (S:=S.add ⟨nm,ty,n,id⟩) (i:=S.c.vars.length) hq];exact JH h k id nm ty n p (e::r) bd el c hn hs h' (by simp;omega) h3 (od _ _) hq
end Go.Avm
namespace Go.Avm
open Go.Proofs
theorem zO:cW Pg 74:=⟨_,Tryz.func74,rfl,by decide⟩
theorem zP:cW Pg 109:=⟨_,Tryz.func109,rfl,by decide⟩
theorem DM(v:Nat)(es:List (D×D×Nat))(c:Nat):∀rest:ab,ay Pg 74 [.mp 500003 v] (al [(500003,⟨v,some (.map es c)⟩),(500013,⟨0,none⟩)] rest) [.mp 500013 1] (al [(500003,⟨v,some (.map es c)⟩),(500013,⟨1,some (.map es c)⟩)] rest):=fun rest=>by
 have h:=pN zO (fun b es c w hb=>AnyW.maps_Clone Tryz.lclonea b es c w hb) (h:=al [(500003,⟨v,some (.map es c)⟩),(500013,⟨0,none⟩)] rest) (k:=500003) (v:=v) 500013 (es:=es) (c:=c) rfl
 have e:aK (al [(500003,⟨v,some (.map es c)⟩),(500013,⟨0,none⟩)] rest) 500013 ⟨1,some (.map es c)⟩=al [(500003,⟨v,some (.map es c)⟩),(500013,⟨1,some (.map es c)⟩)] rest:=by
  funext k;simp only[al,aK];by_cases h1:k=500013
  ·subst h1;rfl
  ·simp only[h1,if_false]
 rw[←e];exact h
theorem mW(v:Nat)(es:List (D×D×Nat))(c:Nat):∀rest:ab,ay Pg 109 [.mp 500004 v] (al [(500004,⟨v,some (.map es c)⟩),(500014,⟨0,none⟩)] rest) [.mp 500014 1] (al [(500004,⟨v,some (.map es c)⟩),(500014,⟨1,some (.map es c)⟩)] rest):=fun rest=>by
 have h:=pN zP (fun b es c w hb=>AnyW.maps_Clone Tryz.lcloneb b es c w hb) (h:=al [(500004,⟨v,some (.map es c)⟩),(500014,⟨0,none⟩)] rest) (k:=500004) (v:=v) 500014 (es:=es) (c:=c) rfl
 have e:aK (al [(500004,⟨v,some (.map es c)⟩),(500014,⟨0,none⟩)] rest) 500014 ⟨1,some (.map es c)⟩=al [(500004,⟨v,some (.map es c)⟩),(500014,⟨1,some (.map es c)⟩)] rest:=by
  funext k;simp only[al,aK];by_cases h1:k=500014
  ·subst h1;rfl
  ·simp only[h1,if_false]
 rw[←e];exact h
theorem kf{S:CK}(h:CKok S){g:Gv}{ar:List AV}(ha:bQ (dC ((ck S).map (·.1)) 1000000) ar=ar):Cln ((ck S).map (·.1)) 1000000 ar (ck S) (ct g):=
 ⟨rfl,rfl,rfl,ha,fY h rfl,rfl⟩
theorem lD{S:CK}(h:CKok S){g:Gv}{ex ex':List (Nat×aL)}{ar:List AV}(lt:(((ck S ++ex).map (·.1)).all fun k=>Nat.blt k 1000000)=true)(hK:ex'.map (·.1)=ex.map (·.1))(hr:([499904,500002,500003,500004,500005,500382,500191].map (dC ((ck S ++ex).map (·.1)) 1000000))=[499904,500002,500003,500004,500005,500382,500191])
    (ha:bQ (dC ((ck S ++ex).map (·.1)) 1000000) ar=ar) (he:(ex.map fun p:Nat×aL=>ci (dC ((ck S ++ex).map (·.1)) 1000000) p.2)=ex.map (·.2)) (he':(ex'.map fun p:Nat×aL=>ci (dC ((ck S ++ex).map (·.1)) 1000000) p.2)=ex'.map (·.2)):
    Cln ((ck S ++ex).map (·.1)) 1000000 ar (ck S ++ex) (ct g ++ex'):=
 ⟨lt,rfl,by rw[List.map_append,List.map_append,hK];rfl,ha,by
  have h1:=fY h hr;rw[List.map_append,List.map_append (f:=fun p:Nat×aL=>p.2),h1,he],by
  rw[List.map_append,List.map_append (f:=fun p:Nat×aL=>p.2),he'];rfl⟩
abbrev xR(es:List (D×D×Nat))(n:Nat):List (Nat×aL):=[(500013,⟨1,some (.map es n)⟩)]
abbrev AQ(l:List bt)(i:Nat):List (Nat×AV):=[(0,aF),(1, .d (.ro (dY l))),(4, .mp 500013 1),(12, .d (.ro (dY l))),(13,dN (dY l).length),(14,dN i)]
abbrev OM:List (Nat×AV):=[(0,aF),(4, .mp 500013 1)]
abbrev QY(S S':CK)(x:bt):Prop:=HC 76 [aF, .d (xH x)] (ck S) [] (ck S')
abbrev Md(S:CK)(x:bt)(g:Gv)(p e:Int):Prop:=HX 76 [aF, .d (xH x)] (ck S) (aE p e) (ct g)
def DN(P:Program)(j:Nat)(h:j+1<1000000):bX P:= .val (dI (IntKind.i64.wrap (((j+1:Nat):Int)-1))) (dN j) (by
 congr 2;rw[IntWalk.i64_in _ (by omega)];omega)
def xS(P:Program)(l:List bt)(i:Nat)(x:bt)(hx:l[i]? =some x):bX P:= .idx (dY l) ((i:Nat):Int) (xH x) (by omega) (by rw[Int.toNat_natCast,nY,List.getElem?_map,hx];rfl)
section
variable{S S':CK}(h:CKok S)(h':CKok S')(es:List (D×D×Nat))(n:Nat)(l:List bt)(i:Nat)
include h
theorem Me(hi:decide (i<(dY l).length)=false):RE 41 (lO 49 2) (AQ l i) (ck S ++xR es n) (.exit 0) OM (ck S ++xR es n):=
 dD aB named {hint:=qT 49 [(15,mU Pg i (dY l).length false hi)]} 2000 49 2000 41 1000000 ([]) (gD h h rfl rfl rfl rfl rfl rfl) (by kernel_rfl) (by kernel_rfl) (fun _=>by kernel_rfl)
section
variable(k id:Int)(nm:List UInt8)(ty n1 p:Int)(xs:List Ex)(bd el:List bt)
include k id nm ty n1 p xs bd el
theorem JN(hx:l[0]? =some (.mk k id nm ty n1 p xs bd el))(hi:decide (0<(dY l).length)=true)(g:Gv)(u r:Int)(c:Md S (.mk k id nm ty n1 p xs bd el) g u r):RE 41 (lO 49 2) (AQ l 0) (ck S ++xR es n) (.panic (aE u r)) [] (ct g ++[(500013,⟨1,none⟩)]):=
 dD aB named {hint:=qT 49 [(15,mU Pg 0 (dY l).length true hi),(17,xS Pg l 0 _ hx)],calls:=tC [(49,32,2533,bc rfl (aO p 11))],pans:=au Pg [(49,5,2533,⟨2,some (be c),[]⟩)]} 2000 49 2000 41 1000000 ([]) (lD h rfl rfl rfl rfl rfl rfl) (by kernel_rfl) (by kernel_rfl) (fun _=>by kernel_rfl)
theorem JO(j:Nat)(hx:l[j+1]? =some (.mk k id nm ty n1 p xs bd el))(k2 id2:Int)(nm2:List UInt8)(ty2 n2 p2:Int)(cd:List Ex)(bd2 el2:List bt)(hy:l[j]? =some (.mk k2 id2 nm2 ty2 n2 p2 cd bd2 el2))(hm:j+1<1000000)(cy:HC 75 [.d (xH (.mk k2 id2 nm2 ty2 n2 p2 cd bd2 el2))] [] [.bool false] [])(hi:decide (j+1<(dY l).length)=true)(g:Gv)(u r:Int)(c:Md S (.mk k id nm ty n1 p xs bd el) g u r):RE 41 (lO 49 2) (AQ l (j+1)) (ck S ++xR es n) (.panic (aE u r)) [] (ct g ++[(500013,⟨1,none⟩)]):=
 dD aB named {hint:=qT 49 [(15,mU Pg (j+1) (dY l).length true hi),(17,xS Pg l (j+1) _ hx),(24,DN Pg j hm),(25,xS Pg l j _ hy)],calls:=tC [(49,27,2615,bc rfl cy),(49,32,2779,bc rfl (aO p 11))],pans:=au Pg [(49,5,2779,⟨2,some (be c),[]⟩)]} 2000 49 2000 41 1000000 ([]) (lD h rfl rfl rfl rfl rfl rfl) (by kernel_rfl) (by kernel_rfl) (fun _=>by kernel_rfl)
theorem GF(j:Nat)(hx:l[j+1]? =some (.mk k id nm ty n1 p xs bd el))(k2 id2:Int)(nm2:List UInt8)(ty2 n2 p2:Int)(cd:List Ex)(bd2 el2:List bt)(hy:l[j]? =some (.mk k2 id2 nm2 ty2 n2 p2 cd bd2 el2))(hm:j+1<1000000)(cy:HC 75 [.d (xH (.mk k2 id2 nm2 ty2 n2 p2 cd bd2 el2))] [] [.bool true] [])(hi:decide (j+1<(dY l).length)=true):RE 41 (lO 49 2) (AQ l (j+1)) (ck S ++xR es n) (.panic (aE p 11)) [] (ct S.gv ++[(500013,⟨1,none⟩)]):=
 dD aB named {hint:=qT 49 [(15,mU Pg (j+1) (dY l).length true hi),(17,xS Pg l (j+1) _ hx),(24,DN Pg j hm),(25,xS Pg l j _ hy)],calls:=tC [(49,27,2615,bc rfl cy)],pans:=au Pg [(49,4,2287,⟨13,some (be (bU p 11)),[]⟩)]} 2000 49 2000 41 1000000 ([]) (lD h rfl rfl rfl rfl rfl rfl) (by kernel_rfl) (by kernel_rfl) (fun _=>by kernel_rfl)
end
include h'
theorem Ii(k id:Int)(nm:List UInt8)(ty n1 p:Int)(xs:List Ex)(bd el:List bt)(hx:l[0]? =some (.mk k id nm ty n1 p xs bd el))(hi:decide (0<(dY l).length)=true)(c:QY S S' (.mk k id nm ty n1 p xs bd el)):∀(rest:ab)(X:cf),X.P=Pg→X.N=41→AW X (lO 49 2) ⟨an (AQ l 0),al (ck S ++xR es n) rest⟩ fun e' S2=>e'= .normal∧S2=⟨an (AQ l 1),al (ck S' ++xR es n) rest⟩:=
 dD aB named {hint:=qT 49 [(15,mU Pg 0 (dY l).length true hi),(17,xS Pg l 0 _ hx)],calls:=tC [(49,32,2533,bc rfl (aO p 11)),(49,35,2615,af c)]} 2000 49 2000 41 1000000 ([]) (gD h h' rfl rfl rfl rfl rfl rfl) (by kernel_rfl) (by kernel_rfl) (fun _=>by kernel_rfl)
theorem Ij(k id:Int)(nm:List UInt8)(ty n1 p:Int)(xs:List Ex)(bd el:List bt)(j:Nat)(hx:l[j+1]? =some (.mk k id nm ty n1 p xs bd el))(k2 id2:Int)(nm2:List UInt8)(ty2 n2 p2:Int)(cd:List Ex)(bd2 el2:List bt)(hy:l[j]? =some (.mk k2 id2 nm2 ty2 n2 p2 cd bd2 el2))(hm:j+1<1000000)(cy:HC 75 [.d (xH (.mk k2 id2 nm2 ty2 n2 p2 cd bd2 el2))] [] [.bool false] [])(hi:decide (j+1<(dY l).length)=true)(c:QY S S' (.mk k id nm ty n1 p xs bd el)):∀(rest:ab)(X:cf),X.P=Pg→X.N=41→AW X (lO 49 2) ⟨an (AQ l (j+1)),al (ck S ++xR es n) rest⟩ fun e' S2=>e'= .normal∧S2=⟨an (AQ l (j+1+1)),al (ck S' ++xR es n) rest⟩:=
 dD aB named {hint:=qT 49 [(15,mU Pg (j+1) (dY l).length true hi),(17,xS Pg l (j+1) _ hx),(24,DN Pg j hm),(25,xS Pg l j _ hy),(36,dL Pg (j+1) (by omega))],calls:=tC [(49,27,2615,bc rfl cy),(49,32,2779,bc rfl (aO p 11)),(49,35,2861,af c)]} 2000 49 2000 41 1000000 ([]) (gD h h' rfl rfl rfl rfl rfl rfl) (by kernel_rfl) (by kernel_rfl) (fun _=>by kernel_rfl)
end
end Go.Avm
namespace Go.Avm
open Go.Proofs
def Mf(S:CK)(l:List bt)(i:Nat):TR CS→Prop
 | .ok c=>∃S',Nx S S' c∧∀(es:List (D×D×Nat))(n:Nat)(rest:ab)(X:cf),X.P=Pg→X.N=41→LW X (lO 49 2) ⟨an (AQ l i),al (ck S ++xR es n) rest⟩ fun e' S2=>e'= .exit 0∧S2=⟨an OM,al (ck S' ++xR es n) rest⟩
 | .bad p e=>∃g,∀(es:List (D×D×Nat))(n:Nat)(rest:ab)(X:cf),X.P=Pg→X.N=41→LW X (lO 49 2) ⟨an (AQ l i),al (ck S ++xR es n) rest⟩ fun e' S2=>e'= .panic (aE p e)∧S2=⟨an [],al (ct g ++[(500013,⟨1,none⟩)]) rest⟩
 | .out=>True
structure Pl where
 fs:List Fn
 fn:Nat
 deep:Int
structure At(P:Pl)(S:CK):Prop where
 ok:CKok S
 fs:S.fs=P.fs
 fn:S.fn=P.fn
 deep:S.deep=P.deep
theorem At.nx{P:Pl}{S S':CK}{c:CS}(a:At P S)(n:Nx S S' c):At P S':=⟨n.ok,n.fs.trans a.fs,n.fn.trans a.fn,n.deep.trans a.deep⟩
theorem Nx.trans{S S1 S2:CK}{c1 c2:CS}(a:Nx S S1 c1)(b:Nx S1 S2 c2):Nx S S2 c2:=⟨b.ok,b.c,b.fs.trans a.fs,b.fn.trans a.fn,b.deep.trans a.deep,b.W.trans a.W,a.vars.trans b.vars⟩
abbrev Mg(P:Pl)(x:bt):Prop:=∀S:CK,At P S→TC S 76 [aF, .d (xH x)] (jh P.fs P.fn P.deep x S.c)
theorem DP{P:Pl}{l:List bt}(hl:l.length<1000000)(ih:∀x∈l,Mg P x)(hr:∀x∈l,my x):
    ∀(m i:Nat)(S:CK)(prev:Bool),At P S→l.length-i=m→i≤l.length→(prev=match i with|0=>false|j+1=>match l[j]? with|some y=>mT y|none=>false)→Mf S l i (bE P.fs P.fn P.deep prev (l.drop i) S.c)
 |0,i,S,prev,a,hm,hi,hp=>by
  have hi':i=l.length:=by omega
  subst hi';rw[List.drop_length];simp only[bE];exact⟨S,a.ok.nx,fun es n rest X hP hN=>aY (Me a.ok es n l l.length (by simp[lS]) rest X hP hN) (by simp)⟩
 |m+1,i,S,prev,a,hm,hi,hp=>by
  have hlt:i<l.length:=by omega
  have hx:l[i]? =some l[i]:=List.getElem?_eq_getElem hlt;have hix:l[i]∈l:=List.getElem_mem hlt;rw[List.drop_eq_getElem_cons hlt];generalize l[i]=x at hx hix;have cx:=ih x hix S a;have hin:decide (i<(dY l).length)=true:=by simpa [lS]using hlt
  obtain⟨k,id,nm,ty,n1,p,xs,bd,el⟩:=x;simp only[bE];cases i with
  |zero=>
   have hp:prev=false:=hp;subst hp;simp only[cond_false];revert cx;cases jh P.fs P.fn P.deep (.mk k id nm ty n1 p xs bd el) S.c with
   |out=>exact fun _=>trivial
   |bad u r=>exact fun ⟨g,c⟩=>⟨g,fun es n rest X hP hN=>aY (JN a.ok es n l k id nm ty n1 p xs bd el hx hin g u r c rest X hP hN) (by simp)⟩
   |ok c'=>
    rintro⟨S',nx,c⟩;have hn:=DP hl ih hr m 1 S' (mT (.mk k id nm ty n1 p xs bd el)) (a.nx nx) (by omega) hlt (by simp only[hx]);rw[nx.c]at hn;simp only[TR.bind];revert hn;cases bE P.fs P.fn P.deep (mT (.mk k id nm ty n1 p xs bd el)) (l.drop (0+1)) c' with
    |out=>exact fun _=>trivial
    |bad u r=>exact fun ⟨g,hn⟩=>⟨g,fun es n rest X hP hN=>aX (Ii a.ok nx.ok es n l k id nm ty n1 p xs bd el hx hin c rest X hP hN) (hn es n rest X hP hN)⟩
    |ok c2=>exact fun ⟨S2,nq,hn⟩=>⟨S2,nx.trans nq,fun es n rest X hP hN=>aX (Ii a.ok nx.ok es n l k id nm ty n1 p xs bd el hx hin c rest X hP hN) (hn es n rest X hP hN)⟩
  |succ j=>
   have hy:l[j]? =some l[j]:=List.getElem?_eq_getElem (by omega);have hiy:l[j]∈l:=List.getElem_mem (by omega);simp only[hy]at hp;generalize l[j]=y at hy hiy hp;have cy:=hr y hiy;obtain⟨k2,id2,nm2,ty2,n2,p2,cd,bd2,el2⟩:=y;subst hp;unfold my at cy;revert cy;cases mT (.mk k2 id2 nm2 ty2 n2 p2 cd bd2 el2)with
   |true=>exact fun cy=>⟨S.gv,fun es n rest X hP hN=>aY (GF a.ok es n l k id nm ty n1 p xs bd el j hx k2 id2 nm2 ty2 n2 p2 cd bd2 el2 hy (by omega) cy hin rest X hP hN) (by simp)⟩
   |false=>
    intro cy;simp only[cond_false];revert cx;cases jh P.fs P.fn P.deep (.mk k id nm ty n1 p xs bd el) S.c with
    |out=>exact fun _=>trivial
    |bad u r=>exact fun ⟨g,c⟩=>⟨g,fun es n rest X hP hN=>aY (JO a.ok es n l k id nm ty n1 p xs bd el j hx k2 id2 nm2 ty2 n2 p2 cd bd2 el2 hy (by omega) cy hin g u r c rest X hP hN) (by simp)⟩
    |ok c'=>
     rintro⟨S',nx,c⟩;have hn:=DP hl ih hr m (j+1+1) S' (mT (.mk k id nm ty n1 p xs bd el)) (a.nx nx) (by omega) hlt (by simp only[hx]);rw[nx.c]at hn;simp only[TR.bind];revert hn;cases bE P.fs P.fn P.deep (mT (.mk k id nm ty n1 p xs bd el)) (l.drop (j+1+1)) c' with
     |out=>exact fun _=>trivial
     |bad u r=>exact fun ⟨g,hn⟩=>⟨g,fun es n rest X hP hN=>aX (Ij a.ok nx.ok es n l k id nm ty n1 p xs bd el j hx k2 id2 nm2 ty2 n2 p2 cd bd2 el2 hy (by omega) cy hin c rest X hP hN) (hn es n rest X hP hN)⟩
     |ok c2=>exact fun ⟨S2,nq,hn⟩=>⟨S2,nx.trans nq,fun es n rest X hP hN=>aX (Ij a.ok nx.ok es n l k id nm ty n1 p xs bd el j hx k2 id2 nm2 ty2 n2 p2 cd bd2 el2 hy (by omega) cy hin c rest X hP hN) (hn es n rest X hP hN)⟩
def CK.seenAs(S:CK)(l:hQ)(v:Nat):CK:={S with c:={S.c with seen:=l},vs:=v}
def CK.sureAs(S:CK)(q:SureL)(v:Nat):CK:={S with c:={S.c with sure:=q},vq:=v}
theorem GG{a b:List Vr}(h:a<+:b){f:Vr→Bool}(e:a.any f=true):b.any f=true:=by
 obtain⟨t,rfl⟩:=h;rw[List.any_append,e];rfl
theorem GH{S S':CK}(h:CKok S)(h':CKok S')(hv:S.c.vars<+:S'.c.vars)(v:Nat):CKok (S'.seenAs S.c.seen v) where
 fn:=h'.fn
 W:=h'.W
 dat:=h'.dat
 len:=h'.len
 par:=h'.par
 vars:=h'.vars
 seen:=fun p hp=>Nat.lt_of_lt_of_le (h.seen p hp) hv.length_le
 inc:=h.inc
 nms:=h.nms
 nml:=h.nml
 had:=fun p hp=>GG hv (h.had p hp)
 sk:=h'.sk
 sb:=h'.sb
 sc:=h'.sc
 sv:=h'.sv
 pts:=h'.pts
structure QOk(q:SureL)(n:Nat):Prop where
 sk:(q.l.map (·.1)).Nodup
 sb:(q.l.map (·.2)).Nodup
 sc:∀p∈q.l,p.2<q.c
 sv:∀p∈q.l,p.1<n
theorem CKok.q{S:CK}(h:CKok S):QOk S.c.sure S.c.vars.length:=⟨h.sk,h.sb,h.sc,h.sv⟩
theorem QOk.mono{q:SureL}{n m:Nat}(h:QOk q n)(hn:n≤m):QOk q m:=⟨h.sk,h.sb,h.sc,fun p hp=>Nat.lt_of_lt_of_le (h.sv p hp) hn⟩
theorem QOk.both{a b:SureL}{n:Nat}(h:QOk a n):QOk (a.both b) n where
 sk:=(List.Sublist.map _ List.filter_sublist).nodup h.sk
 sb:=(List.Sublist.map _ List.filter_sublist).nodup h.sb
 sc:=fun p hp=>h.sc p (List.mem_filter.1 hp).1
 sv:=fun p hp=>h.sv p (List.mem_filter.1 hp).1
theorem vY{S:CK}(h:CKok S){q:SureL}(hq:QOk q S.c.vars.length)(v:Nat):CKok (S.sureAs q v) where
 fn:=h.fn
 W:=h.W
 dat:=h.dat
 len:=h.len
 par:=h.par
 vars:=h.vars
 seen:=h.seen
 inc:=h.inc
 nms:=h.nms
 nml:=h.nml
 had:=h.had
 sk:=hq.sk
 sb:=hq.sb
 sc:=hq.sc
 sv:=hq.sv
 pts:=h.pts
noncomputable def Mh{S:CK}{l:List bt}{es:List (D×D×Nat)}{n:Nat}{x:aD}{l':List (Nat×AV)}{hp':List (Nat×aL)}(h:RL 41 (lO 49 2) (AQ l 0) (ck S ++xR es n) x l' hp'):dJ Pg:=
 ⟨41,b6 Pg 49 2,AQ l 0,fun _=>ck S ++xR es n,x,l',fun _=>hp',fun rest X hP hN=>(h rest X hP hN).aw⟩
section
variable{S:CK}(h:CKok S)(l:List bt)
include h
theorem GI{S':CK}(h2:CKok (S'.seenAs S.c.seen (S'.vs+1)))(c:∀(rest:ab)(X:cf),X.P=Pg→X.N=41→LW X (lO 49 2) ⟨an (AQ l 0),al (ck S ++xR (cz 0 S.c.seen) S.c.seen.length) rest⟩ fun e' S2=>e'= .exit 0∧S2=⟨an OM,al (ck S' ++xR (cz 0 S.c.seen) S.c.seen.length) rest⟩):
    HC 49 [aF, .d (.ro (dY l))] (ck S) [] (ck (S'.seenAs S.c.seen (S'.vs+1))):=
 cp aB named {loops:=fun f q=>if f=49 then (if q=2 then some (Mh c)else none)else none,calls:=tC [(49,11,2164,af (DM S.vs (cz 0 S.c.seen) S.c.seen.length))]} 2000 2000 _ 1000000 ([(500000,524291146758)]) (aA h h2 rfl) (fun _=>by kernel_rfl)
theorem DQ(g:Gv)(p e:Int)(c:∀(rest:ab)(X:cf),X.P=Pg→X.N=41→LW X (lO 49 2) ⟨an (AQ l 0),al (ck S ++xR (cz 0 S.c.seen) S.c.seen.length) rest⟩ fun e' S2=>e'= .panic (aE p e)∧S2=⟨an [],al (ct g ++[(500013,⟨1,none⟩)]) rest⟩):
    HX 49 [aF, .d (.ro (dY l))] (ck S) (aE p e) (ct g):=
 ae aB named {loops:=fun f q=>if f=49 then (if q=2 then some (Mh c)else none)else none,calls:=tC [(49,11,2164,af (DM S.vs (cz 0 S.c.seen) S.c.seen.length))]} 2000 2000 _ 1000000 (kf h rfl) (by kernel_rfl) (fun _=>by kernel_rfl)
end
abbrev eO(P:Pl)(l:List bt)(c:CS):TR CS:=(bE P.fs P.fn P.deep false l c).bind fun c'=> .ok {c' with seen:=c.seen}
theorem DR{P:Pl}{l:List bt}(hl:l.length<1000000)(ih:∀x∈l,Mg P x)(hr:∀x∈l,my x)(S:CK)(a:At P S):TC S 49 [aF, .d (.ro (dY l))] (eO P l S.c):=by
 have k:=DP hl ih hr _ 0 S false a rfl (Nat.zero_le _) rfl;rw[List.drop_zero]at k;unfold eO;revert k;cases bE P.fs P.fn P.deep false l S.c with
 |out=>exact fun _=>trivial
 |bad p e=>exact fun ⟨g,c⟩=>⟨g,DQ a.ok l g p e (c _ _)⟩
 |ok c'=>
  rintro⟨S',nx,c⟩;have h2:=GH a.ok nx.ok nx.vars (S'.vs+1);refine⟨S'.seenAs S.c.seen (S'.vs+1),⟨h2, ?_,nx.fs,nx.fn,nx.deep,nx.W,nx.vars⟩,GI a.ok l h2 (c _ _)⟩;rw[←nx.c];rfl
theorem B3{d:Int}(h: -9223372036854775808≤d∧d<9223372036854775808):IntKind.i64.wrap (IntKind.i64.wrap (d+1)-1)=d:=by
 have e:∀x:Int,IntKind.i64.wrap x=if 9223372036854775808≤x % 18446744073709551616 then x % 18446744073709551616-18446744073709551616 else x % 18446744073709551616:=fun x=>by
  simp only[IntKind.wrap,IntKind.bits,IntKind.signed,Bool.true_and,ge_iff_le,decide_eq_true_eq];rfl
 rw[e (IntKind.i64.wrap (d+1)-1),e (d+1)];split<;>split<;>omega
def Mi(P:Program)(d d':Int)(e:d'=IntKind.i64.wrap (d+1))(h: -9223372036854775808≤d∧d<9223372036854775808):bX P:= .val (dI (IntKind.i64.wrap (d'-1))) (dI d) (by
 congr 2;rw[e];exact B3 h)
def CK.at(S:CK)(d:Int):CK:={S with deep:=d}
theorem DS{S:CK}(h:CKok S)(d:Int):CKok (S.at d) where
 fn:=h.fn
 W:=h.W
 dat:=h.dat
 len:=h.len
 par:=h.par
 vars:=h.vars
 seen:=h.seen
 inc:=h.inc
 nms:=h.nms
 nml:=h.nml
 had:=h.had
 sk:=h.sk
 sb:=h.sb
 sc:=h.sc
 sv:=h.sv
 pts:=h.pts
section
variable{S:CK}(h:CKok S)(l:List bt)(hd: -9223372036854775808≤S.deep∧S.deep<9223372036854775808)
include h hd
theorem GJ{S':CK}(h':CKok S')(e:S'.deep=IntKind.i64.wrap (S.deep+1))(c:HC 49 [aF, .d (.ro (dY l))] (ck (S.at (IntKind.i64.wrap (S.deep+1)))) [] (ck S')):
    HC 110 [aF, .d (.ro (dY l))] (ck S) [] (ck (S'.at S.deep)):=
 ag aB named {hint:=qT 110 [(18,Mi Pg S.deep S'.deep e hd)],calls:=tC [(110,13,2210,af c)]} 2000 2000 _ 1000000 (aA h (DS h' S.deep) rfl) (fun _=>by kernel_rfl)
theorem DT(g:Gv)(p e:Int)(c:HX 49 [aF, .d (.ro (dY l))] (ck (S.at (IntKind.i64.wrap (S.deep+1)))) (aE p e) (ct g)):
    HX 110 [aF, .d (.ro (dY l))] (ck S) (aE p e) (ct g):=
 ae aB named {pans:=au Pg [(110,1,2168,⟨2,some (be c),[]⟩)]} 2000 2000 _ 1000000 (kf h rfl) (by kernel_rfl) (fun _=>by kernel_rfl)
end
def Pl.in(P:Pl):Pl:={P with deep:=fJ (P.deep+1)}
theorem DU{P:Pl}(hd: -9223372036854775808≤P.deep∧P.deep<9223372036854775808){l:List bt}(hl:l.length<1000000)(ih:∀x∈l,Mg P.in x)(hr:∀x∈l,my x)(S:CK)(a:At P S):TC S 110 [aF, .d (.ro (dY l))] (eO P.in l S.c):=by
 have k:=DR hl ih hr (S.at (fJ (P.deep+1))) ⟨DS a.ok _,a.fs,a.fn,rfl⟩;have hd':=hd;rw[←a.deep]at hd';have e1:fJ (P.deep+1)=IntKind.i64.wrap (S.deep+1):=by rw[a.deep];rfl
 rw[e1]at k;change TC _ _ _ (eO P.in l S.c)at k
 revert k;cases eO P.in l S.c with
 |out=>exact fun _=>trivial
 |bad p e=>exact fun ⟨g,c⟩=>⟨g,DT a.ok l hd' g p e c⟩
 |ok c'=>
  rintro⟨S',nx,c⟩;exact⟨S'.at S.deep,⟨DS nx.ok _,nx.c,nx.fs,nx.fn,rfl,nx.W,nx.vars⟩,GJ a.ok l hd' nx.ok nx.deep c⟩
end Go.Avm
namespace Go.Avm
open Go.Proofs Go.RowKit
theorem gI{X:cf}{S S1:St}{Q:aD→St→Prop}{id p:Nat}{ops:Array Oper}{op:Oper}{cfg:iu}{ob:List Obl}{fts:List Foot}{Out:AV→ab→Prop}
    (hp:ops[p]? =some op) (hg:op.guard=none) (hd:∀c,op.op≠ .defer c) (hpre:db X.P cfg X.N ops (List.range' 0 p) S=some (S1,ob,fts)) (hob:fI X.P ob)
    (hop:∀(G:Gh)(w:World)(a:Act),HR G X.B X.w0 X.I0 S1.heap w→(∀x,Rep G w (opd S1.env x) (a.eval x))→∃v w' G' x h',(execOp a.eval op).run X.P w= .ok (.value v) w'∧Ext G w G' w'∧HR G' X.B X.w0 X.I0 h' w'∧Rep G' w' x v∧Out x h')
    (hsuf:∀x h',Out x h'→∃cfg env S3 ob fts,dx X.N S1.env op.dst x=some env∧db X.P cfg X.N ops (List.range' (p+1) (ops.size-p-1)) ⟨env,h'⟩=some (S3,ob,fts)∧fI X.P ob∧∃S4,Weak X S3 S4∧Q .normal S4):
    AW X (.region id ops false) S Q:=lQ fun G a w hh=>hh.2.elim fun bs hf=>by
 refine wpIn_region ?_;rw[pF (Array.getElem?_eq_some_iff.1 hp).1];refine ui X.mixed.ext X.rnd 0 _ hh.1 hf.1 hpre hob fun a1 w1 G1 e1 hr1 hf1=> ?_
 rw[wpOpsIn_cons];unfold wpOpIn;simp only[hp];rw[if_pos (qo hf1 (b:=true) (by unfold cV;rw[hg]))];obtain⟨v,w2,G2,x,h2,hrun,e2,hr2,hx2,hout⟩:=hop G1 w1 a1 hr1 (fun x=>hf1.opd hr1.maps.glob x);obtain⟨cfg2,env,S3,ob3,fts3,hput,hrun3,hob3,hq⟩:=hsuf x h2 hout;refine rn X.rnd 0 hd hrun ?_;refine mJ X.mixed.ext X.rnd 0 _ hr2 ((hf1.mono e2).put hput hx2) hrun3 hob3 fun a3 w3 G3 e3 hr3 hf3=> ?_
 exact⟨.normal,S3,G3,trivial,hq,(e1.trans e2).trans e3,hr3,bs,hf3,hf.2.mono ((e1.trans e2).trans e3)⟩
def JP(r:Option (St×List Foot×Nat×List Nat×az)):Option (aD×St×Nat×List Nat×az):=match r with
 |some r=>some (.normal,r.1,r.2.2.1,r.2.2.2.1,r.2.2.2.2)
 |none=>none
theorem uo{P:Program}(hm:gU P)(hn:co P)(pr:Par P)(n fno rid base N:Nat)(ops:Array Oper)(k:Nat){env:Nat→AV}{l':List (Nat×AV)}{hp hp':List (Nat×aL)}{rest:ab}
    (h:lX (BO (JP (xB P pr (bg P pr n) fno rid N ops (ops.toList.drop k) k base ⟨env,al hp rest⟩)) (hp.map (·.1)) l' hp')=lY .normal (BO (JP (xB P pr (bg P pr n) fno rid N ops (ops.toList.drop k) k base ⟨env,al hp rest⟩)) (hp.map (·.1)) l' hp')):
    ∃cfg S3 ob fts,db P cfg N ops (List.range' k (ops.size-k)) ⟨env,al hp rest⟩=some (S3,ob,fts)∧fI P ob∧∀X:cf,Weak X S3 ⟨an l',al hp' rest⟩:=by
 obtain⟨ps,h1,hs⟩:=fV h;unfold BO at h1;split at h1
 ·rename_i e1 S1 b1 tk ps1 hr
  split at h1
  ·rename_i q hq
   split at h1
   ·rename_i hk
    simp only[Option.some.injEq,Prod.mk.injEq]at h1;obtain⟨rfl,rfl⟩:=h1;unfold JP at hr;split at hr;case h_2=>cases hr
    rename_i r hrun;simp only[Option.some.injEq,Prod.mk.injEq]at hr;obtain⟨_,rfl,rfl,rfl,rfl⟩:=hr;obtain⟨S3,fts,b2,tk,ps2⟩:=r
    obtain⟨⟨T,a1⟩,a2⟩:=nP hm hn (cY hm hn n) _ k base _ _ _ _ _ _ (fun j hj=>by
     rw[List.getElem?_drop,Array.getElem?_toList]) hrun hs.left
    obtain⟨ob,a3,a4⟩:=a1 {ret:=fun j=>(T j).ret,hc:=fun j=>(T j).hc,base:=fun j=>(T j).base,obm:=fun j=>pr.obm fno (((ops[j]?).bind (·.dst)).getD 0)} (fun _ _=>⟨rfl,rfl,rfl⟩) (fun _=>rfl);rw[List.length_drop,Array.length_toList]at a3;refine⟨_,S3,ob,fts,a3,a4,fun X=> ?_⟩;have hw:=nN (X:=X) (S:=S3) hs.right.left hq hs.right.right
    have:al hp' S3.heap=al hp' rest:=by
     funext k;by_cases hkk:k∈hp'.map (·.1)
     ·exact gu _ _ _ hkk
     ·rw[bZ _ _ hkk,bZ _ _ hkk]
      have hno:∀k',k'∈tk ++hp.map (·.1)→k'≠k:=by
       rintro k' hk' rfl;have:=List.all_eq_true.1 hk k' hk';obtain⟨a,ha,hb⟩:=List.any_eq_true.1 this;have:=Nat.eq_of_beq_eq_true hb;subst this;exact hkk ha
      rw[a2 k (fun hx=>hno k (by simp[hx]) rfl)];exact bZ _ _ (fun hx=>hno k (by simp only[List.mem_append];exact .inr hx) rfl)
    rw[this]at hw;exact hw
   ·cases h1
  ·cases h1
 ·cases h1
def GK:Code→Code
 | .seq x _=>x
 |c=>c
def uq:Code→Code
 | .seq _ y=>y
 |c=>c
def Oc:Code→Code
 | .block _ x=>x
 |c=>c
def Ro:Code→Code
 | .cond _ x _=>x
 |c=>c
def AR:Code→Array Oper
 | .region _ ops _=>ops
 |_=> #[]
noncomputable def ON:Code:=Dw Pg 159
noncomputable def JQ:Code:=b6 Pg 159 1
noncomputable def Lq:Array Oper:=AR (GK ON)
noncomputable def Ik:Array Oper:=AR (GK JQ)
noncomputable def Il:Array Oper:=AR (GK (Oc (uq (uq JQ))))
noncomputable def QZ:Code:=GK (uq (Oc (uq (uq JQ))))
noncomputable def Lr:Array Oper:=AR (Ro (uq (uq (Oc (uq (uq JQ))))))
theorem B4:ON= .seq (.region 0 Lq false) (.block 0 (.loop JQ)):=by kernel_rfl
theorem o7:JQ= .seq (.region 1 Ik false) (.seq (.cond (.tmp 9) .skip (.exit 0)) (.block 1 (.seq (.region 2 Il false) (.seq QZ (.cond (.tmp 16) (.region 4 Lr false) .skip))))):=by kernel_rfl
theorem DV:(Lq[1]?).isSome=true:=by kernel_rfl
noncomputable def Od:Oper:=(Lq[1]?).get DV
theorem DW:(Ik[0]?).isSome=true:=by kernel_rfl
noncomputable def Oe:Oper:=(Ik[0]?).get DW
theorem DX:(Il[0]?).isSome=true:=by kernel_rfl
noncomputable def Of:Oper:=(Il[0]?).get DX
theorem DY:(Lr[2]?).isSome=true:=by kernel_rfl
noncomputable def Ls:Oper:=(Lr[2]?).get DY
theorem JR:Lq[1]? =some Od:=(Option.some_get _).symm
theorem JS:Ik[0]? =some Oe:=(Option.some_get _).symm
theorem JT:Il[0]? =some Of:=(Option.some_get _).symm
theorem JU:Lr[2]? =some Ls:=(Option.some_get _).symm
theorem sD:Od.op= .range 90 (.tmp 6)∧Od.guard=none∧Od.dst=some 7∧Lq.size=2:=⟨by kernel_rfl,by kernel_rfl,by kernel_rfl,by kernel_rfl⟩
theorem sE:Oe.op= .next (.tmp 7) false∧Oe.guard=none∧Oe.dst=some 8∧Ik.size=2:=⟨by kernel_rfl,by kernel_rfl,by kernel_rfl,by kernel_rfl⟩
theorem vZ:Of.op= .entry (.tmp 7)∧Of.guard=none∧Of.dst=some 10∧Il.size=6:=⟨by kernel_rfl,by kernel_rfl,by kernel_rfl,by kernel_rfl⟩
def DZ:Op→Option Call
 | .call c=>some c
 |_=>none
theorem D1:(DZ Ls.op).isSome=true:=by kernel_rfl
noncomputable def v6:Call:=(DZ Ls.op).get D1
theorem sF:Ls.op= .call v6∧Ls.guard=none∧Ls.dst=none∧Lr.size=3:=⟨by kernel_rfl,by kernel_rfl,by kernel_rfl,by kernel_rfl⟩
theorem o8:v6.callee= .builtin .delete∧v6.args= #[.tmp 17, .tmp 18]∧v6.argTypes[0]? =some 90:=⟨by kernel_rfl,by kernel_rfl,by kernel_rfl⟩
noncomputable def Q0:TypeId:=match Pg.underlying 90 with
 |some (.map _ u)=>u
 |_=>0
theorem D2:Pg.underlying 90=some (.map 3 Q0):=by kernel_rfl
def oe(b:SureL)(acc:List Nat)(l:List (Nat×Nat)):List (Nat×Nat):=l.filter fun e=> !(acc.contains e.2)||b.has e.1
theorem sG{x:Nat}:∀{l:List (Nat×Nat)}{j i:Nat},(l.map (·.1)).Nodup→bP x l j=some (j+i)→l.eraseIdx i=l.filter fun e=> !(e.1==x)
 |[],_,_,_,h=>by cases h
 |e::r,j,i,hn,h=>by
  simp only[bP]at h;rw[List.map_cons,List.nodup_cons]at hn;cases hb:(x==e.1)with
  |true=>
   rw[hb]at h;simp only[cond_true,Option.some.injEq]at h;have hi:i=0:=by omega
   subst hi;rw[eq_of_beq hb,List.eraseIdx_zero,List.tail_cons,List.filter_cons];simp only[BEq.rfl,Bool.not_true,Bool.false_eq_true,if_false];refine(List.filter_eq_self.2 fun a ha=> ?_).symm;rw[Bool.not_eq_true',beq_eq_false_iff_ne];intro e2;exact hn.1 (List.mem_map.2 ⟨a,ha,e2⟩)
  |false=>
   rw[hb]at h;simp only[cond_false]at h
   have hge:∀{l:List (Nat×Nat)}{j k:Nat},bP x l j=some k→j≤k:=fun {l}=>by
    induction l with
    |nil=>intro j k h;cases h
    |cons a r ih=>
     intro j k h;simp only[bP]at h;cases hc:(x==a.1)with
     |true=>rw[hc]at h;simp at h;omega
     |false=>rw[hc]at h;have:=ih h;omega
   have:=hge h;obtain⟨i',rfl⟩:∃i',i=i'+1:=⟨i-1,by omega⟩
   have ih:=sG (i:=i') hn.2 (by rw[h];congr 1;omega);have hb2:(e.1==x)=false:=by rw[beq_eq_false_iff_ne]at hb ⊢;exact Ne.symm hb
   rw[List.eraseIdx_cons_succ,List.filter_cons,hb2,ih];rfl
theorem ur{x:Nat}:∀{l:List (Nat×Nat)}{j:Nat},(∃p∈l,p.1=x)→∃i,bP x l j=some (j+i)
 |[],_,h=>by simp at h
 |e::r,j,h=>by
  cases h1:(x==e.1)with
  |true=>exact⟨0,by simp only[bP,h1,cond_true];rfl⟩
  |false=>
   simp only[bP,h1,cond_false];obtain⟨p,hp,he⟩:=h;rcases List.mem_cons.1 hp with rfl|hp
   ·rw[he]at h1;simp at h1
   ·obtain⟨i,hi⟩:=ur (j:=j+1) ⟨p,hp,he⟩
    exact⟨i+1,by rw[hi];congr 1;omega⟩
section
variable{b:SureL}{l:List (Nat×Nat)}(hk:(l.map (·.1)).Nodup)(hb:(l.map (·.2)).Nodup)
theorem qw{α β:Type}{f:α→β}:∀{l:List α},(l.map f).Nodup→∀{x y:α},x∈l→y∈l→f x=f y→x=y
 |a::r,h,x,y,hx,hy,e=>by
  rw[List.map_cons,List.nodup_cons]at h;rcases List.mem_cons.1 hx with h1|h1<;>rcases List.mem_cons.1 hy with h2|h2
  ·exact h1.trans h2.symm
  ·exact absurd (List.mem_map.2 ⟨y,h2,by rw[←e,h1]⟩) h.1
  ·exact absurd (List.mem_map.2 ⟨x,h1,by rw[e,h2]⟩) h.1
  ·exact qw h.2 h1 h2 e
include hb in
theorem GL{acc:List Nat}{e:Nat×Nat}(he:e∈oe b acc l)(hh:b.has e.1=true):oe b (acc ++[e.2]) l=oe b acc l:=by
 refine List.filter_congr fun x hx=> ?_
 cases hxb:b.has x.1 with
 |true=>simp
 |false=>
  have hne:x.2≠e.2:=fun e2=>by
   have:=qw hb hx (List.mem_filter.1 he).1 e2;rw[this,hh]at hxb;cases hxb
  simp[hne]
include hk hb in
theorem GM{acc:List Nat}{e:Nat×Nat}(he:e∈oe b acc l)(hh:b.has e.1=false):oe b (acc ++[e.2]) l=(oe b acc l).filter fun x=> !(x.1==e.1):=by
 unfold oe;rw[List.filter_filter];refine List.filter_congr fun x hx=> ?_
 have hel:=(List.mem_filter.1 he).1;by_cases h1:x.1=e.1
 ·have:x=e:=qw hk hx hel h1
  subst this;simp[hh]
 ·have hne:x.2≠e.2:=fun e2=>h1 (by rw[qw hb hx hel e2])
  simp[h1,hne]
theorem JV{acc:List Nat}(h:∀e∈oe b acc l,e.2∈acc):oe b acc l=l.filter fun e=>b.has e.1:=by
 refine List.filter_congr fun x hx=> ?_
 cases hxb:b.has x.1 with
 |true=>simp
 |false=>
  cases hc:acc.contains x.2 with
  |true=>rfl
  |false=>
   have:=h x (List.mem_filter.2 ⟨hx,by simp only[hc,hxb];rfl⟩);rw[←List.contains_iff_mem,hc]at this;cases this
theorem JW:oe b [] l=l:=List.filter_eq_self.2 fun x _=>by simp
end
theorem pQ:∀(i:Nat)(l:List (Nat×Nat)),(aZ l).eraseIdx i=aZ (l.eraseIdx i)
 |_,[]=>rfl
 |0,_::_=>rfl
 |i+1,e::r=>by
  show _::(aZ r).eraseIdx i=_::aZ (r.eraseIdx i);rw[pQ i r]
theorem AU{P:Program}{cfg:iu}{N:Nat}{ops:Array Oper}{l:List Nat}{S S3:St}(h:(db P cfg N ops l S).map (fun r=>(r.1,r.2.1))=some (S3,[])):∃fts,db P cfg N ops l S=some (S3,[],fts):=by
 cases hr:db P cfg N ops l S with
 |none=>rw[hr]at h;cases h
 |some r=>
  obtain⟨a,b,c⟩:=r;rw[hr]at h;simp only[Option.map_some,Option.some.injEq,Prod.mk.injEq]at h;obtain⟨rfl,rfl⟩:=h;exact⟨c,rfl⟩
theorem jM(P:Program):fI P []:=fun _ h=>by cases h
abbrev yJ(va w:Nat):List (Nat×AV):=[(0, .mp 500004 va),(1, .fn 160 [.ptr 600005 1 0 0 1]),(7, .itr 600100 1)]
abbrev xU(va ca vb cb:Nat)(la lb:List (Nat×Nat))(seen:List Nat)(w:Nat):List (Nat×aL):=
 [(500004,⟨va,some (.map (aZ la) ca)⟩),(600005,⟨1,some (.arr 1 [.mp 500014 vb])⟩),(500014,⟨vb,some (.map (aZ lb) cb)⟩),(600100,⟨1,some (.itr 500004 va ca seen)⟩),(600205,⟨w,none⟩),(600461,⟨w,none⟩),(600591,⟨w,none⟩)]
abbrev Mj(va ca vb cb:Nat)(la lb:List (Nat×Nat))(seen:List Nat)(w:Nat):List (Nat×aL):=
 [(500004,⟨va,some (.map (aZ la) ca)⟩),(600005,⟨1,some (.arr 1 [.mp 500014 vb])⟩),(500014,⟨vb,some (.map (aZ lb) cb)⟩),(600100,⟨1,some (.itr 500004 va ca seen)⟩),(600205,⟨w+1,some (.arr 1 [])⟩),(600461,⟨w,none⟩),(600591,⟨w,none⟩)]
section
variable(va ca vb cb w:Nat)(la lb:List (Nat×Nat))(seen:List Nat)(x:Nat)
theorem Im(t:Bool)(l:List D)(rest:ab):∃cfg S3 ob fts,db Pg cfg 19 Ik (List.range' 1 (Ik.size-1)) ⟨aK (an (yJ va w)) 8 (.tup (.d (.bool t)::l.map .d)),al (xU va ca vb cb la lb seen w) rest⟩=some (S3,ob,fts)∧fI Pg ob∧∀X:cf,Weak X S3 ⟨an (yJ va w ++[(9,dB t)]),al (xU va ca vb cb la lb seen w) rest⟩:=
 uo aB named {} 2000 159 1 600300 19 Ik 1 (by kernel_rfl)
theorem Mk(rest:ab):∃cfg S3 ob fts,db Pg cfg 19 Il (List.range' 1 (Il.size-1)) ⟨aK (an (yJ va w ++[(9,dB true)])) 10 (.tup [.d (.int .i64 (x:Int)), .d (.agg [])]),al (xU va ca vb cb la lb seen w) rest⟩=some (S3,ob,fts)∧fI Pg ob∧∀X:cf,Weak X S3 ⟨an (yJ va w ++[(4,dN x),(5, .ptr 600205 (w+1) 0 0 1)]),al (Mj va ca vb cb la lb seen w) rest⟩:=
 uo aB named {} 2000 159 2 600162 19 Il 1 (by kernel_rfl)
theorem Io(t:Bool)(r:Option Nat)(hr:bP x lb 0=r)(ht:r.isSome= !t)(rest:ab)(X:cf)(hP:X.P=Pg)(hN:X.N=19):
    AW X QZ ⟨an (yJ va w ++[(4,dN x),(5, .ptr 600205 (w+1) 0 0 1)]),al (Mj va ca vb cb la lb seen w) rest⟩ fun e' S'=>e'= .normal∧Weak X S' ⟨an (yJ va w ++[(4,dN x),(16,dB t)]),al (xU va ca vb cb la lb seen (w+1)) rest⟩:=by
 cases r with
 |none=>
  have e:t=true:=by cases t<;>simp_all
  subst e;exact th aB named {hint:=qT 160 [(11,lC Pg x lb none hr)]} 2000 159 600400 19 (by kernel_rfl) X hP hN
 |some i=>
  have e:t=false:=by cases t<;>simp_all
  subst e;exact th aB named {hint:=qT 160 [(11,lC Pg x lb (some i) hr)]} 2000 159 600400 19 (by kernel_rfl) X hP hN
theorem Ml(t:Bool)(S0:St)(h0:S0.env 0= .mp 500004 va)(h4:S0.env 4=dN x):∃fts,db Pg {} 19 Lr (List.range' 0 2) S0=some (⟨aK (aK S0.env 17 (.mp 500004 va)) 18 (dN x),S0.heap⟩,[],fts):=by
 rw[←h0,←h4];exact AU (by kernel_rfl)
end
theorem og{X:cf}{env:Nat→AV}{h h':ab}{l:List (Nat×AV)}(hl:∀p∈l,p.2=env p.1)(hh:h=h'):Weak X ⟨env,h⟩ ⟨an l,h'⟩:=by
 subst hh;exact mN hl
section
variable{va ca vb cb:Nat}{la lb:List (Nat×Nat)}(hk:(la.map (·.1)).Nodup)(hb:(la.map (·.2)).Nodup)(hc:∀p∈la,p.2<ca)
include hk hb hc
theorem JX(la':List (Nat×Nat))(seen seen':List Nat)(w:Nat)(rest:ab):aK (al (xU va ca vb cb la' lb seen w) rest) 600100 ⟨1,some (.itr 500004 va ca seen')⟩=al (xU va ca vb cb la' lb seen' w) rest:=by
 funext k;simp only[al,aK];by_cases h1:k=600100
 ·subst h1;simp
 ·simp[h1]
theorem JY(la' la'':List (Nat×Nat))(seen:List Nat)(w:Nat)(rest:ab):aK (al (xU va ca vb cb la' lb seen w) rest) 500004 ⟨va,some (.map (aZ la'') ca)⟩=al (xU va ca vb cb la'' lb seen w) rest:=by
 funext k;simp only[al,aK];by_cases h1:k=500004
 ·subst h1;simp
 ·simp[h1]
set_option maxRecDepth 100000 in
theorem Mm(rest:ab)(X:cf)(hP:X.P=Pg)(hN:X.N=19):∀(m:Nat)(acc:List Nat),la.length-acc.length=m→acc.Nodup→(∀v∈acc,v∈la.map (·.2))→
    LW X JQ ⟨an (yJ va 0),al (xU va ca vb cb (oe ⟨lb,cb⟩ acc la) lb acc acc.length) rest⟩ fun e' S'=>e'= .exit 0∧∃acc',Weak X S' ⟨an [(0, .mp 500004 va)],al (xU va ca vb cb (la.filter fun e=>(⟨lb,cb⟩:SureL).has e.1) lb acc' la.length) rest⟩:=fun m=>by
 induction m using Nat.strongRecOn with
 |ind m ih=>
  intro acc hm hn hs
  have hlen:acc.length≤la.length:=by
   have:=List.Nodup.length_le_of_subset hn hs;rwa [List.length_map]at this
  have hsub:∀p∈oe ⟨lb,cb⟩ acc la,p∈la:=fun p hp=>(List.mem_filter.1 hp).1
  refine iH ?_;rw[o7]
  refine dz (gI (cfg:={}) (ob:=[]) (fts:=[]) (p:=0) (S1:=⟨an (yJ va 0),al (xU va ca vb cb (oe ⟨lb,cb⟩ acc la) lb acc acc.length) rest⟩) (Out:=AH (al (xU va ca vb cb (oe ⟨lb,cb⟩ acc la) lb acc acc.length) rest) 600100 1 500004 va ca (aZ (oe ⟨lb,cb⟩ acc la)) acc) JS sE.2.1 (fun c=>by rw[sE.1];intro h;cases h) rfl (jM _)
   (fun G w a hr hρ=>Gf hr hρ sE.1 rfl (by simp[al,aK]) (by simp[al,aK]) (fun e he=> ?_)) ?_)
  ·obtain⟨p,hp,rfl⟩:=List.mem_map.1 he
   exact hc p (hsub p hp)
  ·rintro x h' (⟨rfl,rfl,hall⟩|⟨e,he,hns,rfl,rfl⟩)
   ·obtain⟨cfg,S3,ob,fts,h1,h2,h3⟩:=Im va ca vb cb acc.length (oe ⟨lb,cb⟩ acc la) lb acc false [] rest
    refine⟨cfg,_,S3,ob,fts,by rw[hN,sE.2.2.1];rfl,by rw[hP,hN];exact h1,by rw[hP];exact h2,_,h3 X, ?_⟩;have hin:∀e∈oe ⟨lb,cb⟩ acc la,e.2∈acc:=fun e he=>hall _ (List.mem_map.2 ⟨e,he,rfl⟩)
    have hfull:acc.length=la.length:=by
     refine Nat.le_antisymm hlen ?_
     have:=List.Nodup.length_le_of_subset hb (l₂:=acc) (fun v hv=>by
      obtain⟨p,hp,rfl⟩:=List.mem_map.1 hv;cases hq:acc.contains p.2 with
      |true=>exact List.contains_iff_mem.1 hq
      |false=>exact hin p (List.mem_filter.2 ⟨hp,by show(!(acc.contains p.2)||_)=true;rw[hq];rfl⟩))
     rwa [List.length_map]at this
    have hfil:=JV hin;refine dz (gG (b:=false) rfl (fun h=>by cases h) (fun _=>qp ⟨rfl,acc,og (fun p hp=> ?_) (by rw[hfil,hfull])⟩));rw[List.mem_singleton]at hp;subst hp;rfl
   ·obtain⟨p,hp,rfl⟩:=List.mem_map.1 he
    simp only at hns ⊢;have hpl:=hsub p hp;rw[JX hk hb hc];obtain⟨cfg,S3,ob,fts,h1,h2,h3⟩:=Im va ca vb cb acc.length (oe ⟨lb,cb⟩ acc la) lb (acc ++[p.2]) true [.int .i64 (p.1:Int), .agg []] rest;refine⟨cfg,_,S3,ob,fts,by rw[hN,sE.2.2.1];rfl,by rw[hP,hN];exact h1,by rw[hP];exact h2,_,h3 X, ?_⟩;refine dz (gG (b:=true) rfl (fun _=>nE ?_) (fun h=>by cases h))
    refine iE (dz (gI (cfg:={}) (ob:=[]) (fts:=[]) (p:=0) (S1:=⟨an (yJ va 0 ++[(9,dB true)]),al (xU va ca vb cb (oe ⟨lb,cb⟩ acc la) lb (acc ++[p.2]) acc.length) rest⟩) (Out:=fun x' h'=>x'= .tup [.d (.int .i64 (p.1:Int)), .d (.agg [])]∧h'=al (xU va ca vb cb (oe ⟨lb,cb⟩ acc la) lb (acc ++[p.2]) acc.length) rest) JT vZ.2.1 (fun c=>by rw[vZ.1];intro h;cases h) rfl (jM _)
     (fun G w a hr hρ=>Dt hr hρ vZ.1 rfl (e:=(.int .i64 (p.1:Int), .agg [],p.2)) (seen:=acc) (I:=600100) (vI:=1) (k:=500004) (v:=va) (c:=ca) (es:=aZ (oe ⟨lb,cb⟩ acc la)) (by simp[al,aK]) (by simp[al,aK]) (List.mem_map.2 ⟨p,hp,rfl⟩) (by
      unfold aZ;rw[List.map_map];exact(List.Sublist.map _ List.filter_sublist).nodup hb)) ?_))
    rintro x' h' ⟨rfl,rfl⟩;obtain⟨cfg2,S4,ob2,fts2,g1,g2,g3⟩:=Mk va ca vb cb acc.length (oe ⟨lb,cb⟩ acc la) lb (acc ++[p.2]) p.1 rest;refine⟨cfg2,_,S4,ob2,fts2,by rw[hN,vZ.2.2.1];rfl,by rw[hP,hN];exact g1,by rw[hP];exact g2,_,g3 X, ?_⟩
    have hn2:(acc ++[p.2]).Nodup:=by
     rw[List.nodup_append];exact⟨hn,by simp,fun a ha b hb=>by rw[List.mem_singleton]at hb;subst hb;exact fun e=>hns (e▸ha)⟩
    have hs2:∀v∈acc ++[p.2],v∈la.map (·.2):=fun v hv=>by
     rcases List.mem_append.1 hv with h|h
     ·exact hs v h
     ·rw[List.mem_singleton]at h
      subst h;exact List.mem_map.2 ⟨p,hpl,rfl⟩
    have hl2:acc.length<la.length:=by
     have:=List.Nodup.length_le_of_subset hn2 hs2;rw[List.length_append,List.length_singleton,List.length_map]at this;omega
    have next:=ih (la.length-(acc ++[p.2]).length) (by rw[List.length_append,List.length_singleton];omega) (acc ++[p.2]) rfl hn2 hs2
    rw[List.length_append,List.length_singleton]at next
    cases hh:(⟨lb,cb⟩:SureL).has p.1 with
    |true=>
     rw[GL hb hp hh]at next
     refine dz ((Io va ca vb cb acc.length (oe ⟨lb,cb⟩ acc la) lb (acc ++[p.2]) p.1 false _ rfl (by unfold SureL.has at hh;rw[hh];rfl) rest X hP hN).mono ?_);rintro e' S' ⟨rfl,hw⟩;refine AW.weak hw (gG (b:=false) rfl (fun h=>by cases h) (fun _=>nE ?_));rw[←o7]
     exact LW.weak (og (l:=yJ va 0) (fun q hq=>by
      simp only[yJ,List.mem_cons,List.not_mem_nil,or_false]at hq;rcases hq with rfl|rfl|rfl<;>rfl) rfl) next
    |false=>
     rw[GM hk hb hp hh]at next
     refine dz ((Io va ca vb cb acc.length (oe ⟨lb,cb⟩ acc la) lb (acc ++[p.2]) p.1 true _ rfl (by unfold SureL.has at hh;rw[hh];rfl) rest X hP hN).mono ?_);rintro e' S' ⟨rfl,hw⟩;refine AW.weak hw (gG (b:=true) rfl (fun _=> ?_) (fun h=>by cases h));obtain⟨fts4,k1⟩:=Ml va p.1 true ⟨an (yJ va 0 ++[(4,dN p.1),(16,dB true)]),al (xU va ca vb cb (oe ⟨lb,cb⟩ acc la) lb (acc ++[p.2]) (acc.length+1)) rest⟩ rfl rfl;obtain⟨i,hi⟩:=ur (j:=0) ⟨p,hp,rfl⟩;rw[Nat.zero_add]at hi;have herase:=sG (l:=oe ⟨lb,cb⟩ acc la) (x:=p.1) (j:=0) (i:=i) ((List.Sublist.map _ List.filter_sublist).nodup hk) (hi.trans (by rw[Nat.zero_add]));refine gI (cfg:={}) (p:=2) (Out:=fun x' h'=>x'= .tup []∧h'=aK (al (xU va ca vb cb (oe ⟨lb,cb⟩ acc la) lb (acc ++[p.2]) (acc.length+1)) rest) 500004 ⟨va,some (.map ((aZ (oe ⟨lb,cb⟩ acc la)).eraseIdx i) ca)⟩) JU sF.2.1 (fun c=>by rw[sF.1];intro h;cases h) (by rw[hP,hN];exact k1) (jM _) (fun G w a hr hρ=> ?_) ?_
     ·obtain⟨v',w',G',q1,q2,q3,q4⟩:=BP (P:=X.P) hr hρ (t:=90) (kt:=3) (et:=Q0) (m:= .tmp 17) (x:= .tmp 18) (k:=500004) (v:=va) (c:=ca) (es:=aZ (oe ⟨lb,cb⟩ acc la)) (kd:= .int .i64 (p.1:Int)) (y:= .agg []) (i:=i) sF.1 o8.1 o8.2.1 o8.2.2 (by rw[hP];exact D2) rfl rfl (by simp[al,aK]) (by rw[hP];kernel_rfl) (by rw[oX,hi];rfl)
      exact⟨v',w',G',_,_,q1,q2,q3,q4,rfl,rfl⟩
     ·rintro x' h' ⟨rfl,rfl⟩
      refine⟨{},_,_,[],[],by rw[sF.2.2.1];rfl,by rw[sF.2.2.2];rfl,jM _,_,Weak.refl _, ?_⟩;rw[pQ,herase,JY hk hb hc];rw[←o7]
      exact LW.weak (og (l:=yJ va 0) (fun q hq=>by
       simp only[yJ,List.mem_cons,List.not_mem_nil,or_false]at hq;rcases hq with rfl|rfl|rfl<;>rfl) rfl) next
abbrev Og(va ca vb cb:Nat)(la lb:List (Nat×Nat)):List (Nat×aL):=
 [(500004,⟨va,some (.map (aZ la) ca)⟩),(600005,⟨1,some (.arr 1 [.mp 500014 vb])⟩),(500014,⟨vb,some (.map (aZ lb) cb)⟩),(600100,⟨0,none⟩),(600205,⟨0,none⟩),(600461,⟨0,none⟩),(600591,⟨0,none⟩)]
abbrev Q1(va ca vb cb:Nat)(la lb:List (Nat×Nat))(w:Nat):List (Nat×aL):=
 [(500004,⟨va,some (.map (aZ la) ca)⟩),(600005,⟨1,some (.arr 1 [.mp 500014 vb])⟩),(500014,⟨vb,some (.map (aZ lb) cb)⟩),(600100,⟨1,none⟩),(600205,⟨w,none⟩),(600461,⟨w,none⟩),(600591,⟨w,none⟩)]
theorem Mn(S0:St)(h:S0.env 0= .mp 500004 va):∃fts,db Pg {} 19 Lq (List.range' 0 1) S0=some (⟨aK S0.env 6 (.mp 500004 va),S0.heap⟩,[],fts):=by
 rw[←h];exact AU (by kernel_rfl)
theorem OO(rest:ab):ay Pg 159 [.mp 500004 va, .fn 160 [.ptr 600005 1 0 0 1]] (al (Og va ca vb cb la lb) rest) [] (al (Q1 va ca vb cb (la.filter fun e=>(⟨lb,cb⟩:SureL).has e.1) lb la.length) rest):=by
 refine lf aB Tryz.func159 (c:=ON) (by kernel_rfl) (by kernel_rfl) (by rw[show Tryz.f159.ntmps=19 by kernel_rfl];exact Nat.le_of_ble_eq_true rfl) fun X hP hN=> ?_
 have hN:X.N=19:=hN.trans (by kernel_rfl);rw[B4];obtain⟨fts0,h0⟩:=Mn (va:=va) hk hb hc ⟨fS [.mp 500004 va, .fn 160 [.ptr 600005 1 0 0 1]],al (Og va ca vb cb la lb) rest⟩ rfl;refine dz (gI (cfg:={}) (ob:=[]) (p:=1) (Out:=fun x h'=>x= .itr 600100 1∧h'=aK (al (Og va ca vb cb la lb) rest) 600100 ⟨1,some (.itr 500004 va ca [])⟩) JR sD.2.1 (fun c=>by rw[sD.1];intro h;cases h) (by rw[hP,hN];exact h0) (jM _) (fun G w a hr hρ=> ?_) ?_)
 ·obtain⟨v',w',G',h1,h2,h3,h4⟩:=Ds (P:=X.P) hr hρ 600100 sD.1 (by rw[hP];exact D2) (k:=500004) (v:=va) (es:=aZ la) (c:=ca) rfl (by simp[al,aK])
  have e:(al (Og va ca vb cb la lb) rest 600100).ver=0:=by simp[al,aK]
  simp only[e]at h3 h4;exact⟨v',w',G',_,_,h1,h2,h3,h4,rfl,rfl⟩
 ·rintro x h' ⟨rfl,rfl⟩
  refine⟨{},_,_,[],[],by rw[hN,sD.2.2.1];rfl,by rw[sD.2.2.2];rfl,jM _,⟨an (yJ va 0),al (xU va ca vb cb la lb [] 0) rest⟩,og (fun q hq=> ?_) ?_, ?_⟩
  ·simp only[yJ,List.mem_cons,List.not_mem_nil,or_false]at hq
   rcases hq with rfl|rfl|rfl<;>rfl
  ·funext k
   simp only[al,aK];by_cases h1:k=600100
   ·subst h1;simp
   ·simp[h1]
  ·have lp:=Mm (va:=va) (vb:=vb) (cb:=cb) (lb:=lb) hk hb hc rest X hP hN _ [] rfl List.nodup_nil (fun v hv=>by cases hv)
   rw[JW]at lp;refine iE (lQ (lp.aw.mono ?_));rintro e' S' ⟨rfl,acc',hw⟩;refine⟨_,hw.trans (jG (h':=al (Q1 va ca vb cb (la.filter fun e=>(⟨lb,cb⟩:SureL).has e.1) lb la.length) rest) fun k=> ?_), .inl rfl,by kernel_rfl,rfl⟩;simp only[al,aK];by_cases h1:k=600100
   ·subst h1;simp
   ·simp[h1]
end
section
variable(va ca vb cb:Nat)(la lb:List (Nat×Nat))
theorem Mo(y:Bool)(rest:ab):ay Pg 135 [.mp 500004 va, .mp 500014 vb,dB true,dB y] (al [(600005,⟨0,none⟩)] rest) [.mp 500014 vb] (al [(600005,⟨1,none⟩)] rest):=
 ap aB named {} 2000 600000 _ (by kernel_rfl)
theorem Mp(rest:ab):ay Pg 135 [.mp 500004 va, .mp 500014 vb,dB false,dB true] (al [(600005,⟨0,none⟩)] rest) [.mp 500004 va] (al [(600005,⟨1,none⟩)] rest):=
 ap aB named {} 2000 600000 _ (by kernel_rfl)
theorem Mq(hk:(la.map (·.1)).Nodup)(hb:(la.map (·.2)).Nodup)(hc:∀p∈la,p.2<ca)(rest:ab):ay Pg 135 [.mp 500004 va, .mp 500014 vb,dB false,dB false] (al [(500004,⟨va,some (.map (aZ la) ca)⟩),(500014,⟨vb,some (.map (aZ lb) cb)⟩),(600005,⟨0,none⟩),(600100,⟨0,none⟩),(600205,⟨0,none⟩),(600461,⟨0,none⟩),(600591,⟨0,none⟩)] rest) [.mp 500004 va]
    (al [(500004,⟨va,some (.map (aZ (la.filter fun e=>(⟨lb,cb⟩:SureL).has e.1)) ca)⟩),(500014,⟨vb,some (.map (aZ lb) cb)⟩),(600005,⟨1,none⟩),(600100,⟨1,none⟩),(600205,⟨la.length,none⟩),(600461,⟨la.length,none⟩),(600591,⟨la.length,none⟩)] rest):=
 ap aB named ({calls:=fun f s _=>if f=135 then (if s=17 then some (af (OO (va:=va) (ca:=ca) (vb:=vb) (cb:=cb) (la:=la) (lb:=lb) hk hb hc))else none)else none}) 2000 600000 _ (by kernel_rfl)
end
end Go.Avm
namespace Go.Avm
open Go.Proofs
def sw(k:Nat):Nat:=bif Nat.beq k 500004 then 500014 else bif Nat.beq k 500014 then 500004 else k
theorem D3{a b:Nat}(h:a≠b):Nat.beq a b=false:=by
 cases hb:Nat.beq a b with
 |false=>rfl
 |true=>exact absurd (Nat.eq_of_beq_eq_true hb) h
theorem ut(k:Nat):sw (sw k)=k:=by
 by_cases h1:k=500004
 ·subst h1;rfl
 ·by_cases h2:k=500014
  ·subst h2;rfl
  ·have e:sw k=k:=by
     unfold sw;rw[D3 h1,D3 h2];rfl
   rw[e,e]
theorem xV:Names sw fun j=>some (sw j):=⟨fun k=>by simp only[ut],fun j k h=>by
 have:sw j=k:=Option.some.inj h;rw[←this,ut]⟩
theorem sH(rest:ab):∀(l:List (Nat×aL))(j:Nat),ci sw (al l rest (sw j))=al (l.map fun p=>(sw p.1,ci sw p.2)) (ga sw (fun j=>some (sw j)) rest) j
 |[],j=>rfl
 |(k,e)::r,j=>by
  simp only[List.map_cons,al,aK];by_cases h:sw j=k
  ·have h2:j=sw k:=by rw[←h,ut]
   rw[if_pos h,if_pos h2]
  ·have h2:¬j=sw k:=fun h2=>h (by rw[h2,ut])
   rw[if_neg h,if_neg h2];exact sH rest r j
abbrev GN(S:CK):List AV:=[.mp 499904 1, .d (.ro (S.fs.map de)), .sl 500191 1 0 S.fs.length 1, .sl 500382 S.vp 0 S.c.pts.length 3,dN S.fn, .mp 500002 S.vh, .mp 500003 S.vs, .mp 500014 S.vq,dI S.deep]
abbrev B5(S:CK):List (Nat×aL):=
 [(500000,⟨1,some (.arr 1 (GN S))⟩),(499904,⟨1,some (.map (kz 0 S.fs) S.fs.length)⟩),(500002,⟨S.vh,some (.map (gC 0 S.c.vars) S.c.vars.length)⟩),(500003,⟨S.vs,some (.map (cz 0 S.c.seen) S.c.seen.length)⟩),
  (500014,⟨S.vq,some (.map (aZ S.c.sure.l) S.c.sure.c)⟩),(500005,⟨S.vv,some (.arr 4 (S.c.vars.map yI))⟩),(500382,⟨S.vp,some (.arr 3 (S.c.pts.map cr))⟩),(500191,⟨1,some (.arr 1 (S.W.set S.fn (lB S.vv S.c.vars)))⟩)]
theorem zQ{S:CK}(h:CKok S):((B5 S).map fun p=>(sw p.1,ci sw p.2))=ck S:=by
 have h5:sw 500005=500005:=rfl;have e1:sw 500000=500000:=rfl;have e2:sw 499904=499904:=rfl;have e3:sw 500002=500002:=rfl;have e4:sw 500003=500003:=rfl;have e5:sw 500014=500004:=rfl;have e6:sw 500382=500382:=rfl;have e7:sw 500191=500191:=rfl;simp only[ck,AL,B5,GN,List.map_cons,List.map_nil,ci,Option.map_some,f9,oa,sp,Ic h h5,bQ,aQ,e1,e2,e3,e4,e5,e6,e7,h5]
abbrev AX(g:Gv):List (Nat×aL):=[(500000,⟨1,none⟩),(499904,⟨1,none⟩),(500002,⟨g.vh,none⟩),(500003,⟨g.vs,none⟩),(500014,⟨g.vq,none⟩),(500005,⟨g.vv,none⟩),(500382,⟨g.vp,none⟩),(500191,⟨1,none⟩)]
theorem D4(g:Gv):((AX g).map fun p=>(sw p.1,ci sw p.2))=ct g:=by kernel_rfl
theorem B6{S S':CK}(h:CKok S)(h':CKok S'){f:Nat}{d:D}(c:HC f [aF, .d d] (ck S) [] (ck S')):HC f [aF, .d d] (B5 S) [] (B5 S'):=fun rest=>by
 have e:ga sw (fun j=>some (sw j)) (al (B5 S) rest)=al (ck S) (ga sw (fun j=>some (sw j)) rest):=by
  funext j;have:=sH rest (B5 S) j;rw[zQ h]at this;exact this
 refine ue xV (h2:=al (ck S') (ga sw (fun j=>some (sw j)) rest)) ?_ fun k=> ?_
 ·rw[e]
  exact c _
 ·have:=sH rest (B5 S') (sw k)
  rw[zQ h',ut]at this;exact this.symm
theorem D5{S:CK}(h:CKok S){g:Gv}{f:Nat}{d:D}{p e:Int}(c:HX f [aF, .d d] (ck S) (aE p e) (ct g)):HX f [aF, .d d] (B5 S) (aE p e) (AX g):=fun rest=>by
 have e:ga sw (fun j=>some (sw j)) (al (B5 S) rest)=al (ck S) (ga sw (fun j=>some (sw j)) rest):=by
  funext j;have:=sH rest (B5 S) j;rw[zQ h]at this;exact this
 refine xF xV (h2:=al (ct g) (ga sw (fun j=>some (sw j)) rest)) ?_ fun k=> ?_
 ·rw[e]
  exact c _
 ·have:=sH rest (AX g) (sw k)
  rw[D4,ut]at this;exact this.symm
end Go.Avm
namespace Go.Avm
open Go.Proofs
abbrev OP(S S':CK)(l:List bt):Prop:=HC 110 [aF, .d (.ro (dY l))] (ck S) [] (ck S')
abbrev Mr(S S':CK)(l:List bt):Prop:=HC 110 [aF, .d (.ro (dY l))] (B5 S) [] (B5 S')
abbrev jo(l:List bt)(b:Bool):Prop:=HC 50 [.d (.ro (dY l))] [] [.bool b] []
theorem sI{P:Program}(hm:gU P){f:Nat}{args rs:List AV}{h h1 h2:ab}(hc:ay P f args h rs h1)(hw:∀(X:cf)(env:Nat→AV),Weak X ⟨env,h1⟩ ⟨env,h2⟩):ay P f args h rs h2:=by
 refine⟨hc.1,fun G B w0 I0 w cargs hr hs hargs=>(hc.2 G B w0 I0 w cargs hr hs hargs).mono ?_⟩;rintro e w' ⟨v,G',rfl,e1,e2,e3⟩
 let X:cf:={P:=P,B:=B,w0:=w0,I0:=I0,N:=0,mixed:=hm}
 obtain⟨G2,e4,e5,_⟩:=hw X (fun _=> .junk) G' {tmps:= #[],defers:=[]} w' ⟨e2,[],⟨rfl,rfl,fun t ht=>absurd ht (by simp[X]),fun _ _=>rfl⟩,⟨List.nodup_nil,fun b hb=>by simp at hb,fun b hb=>by simp at hb,fun l hl=>by simp[X]at hl,Nat.zero_le _⟩⟩;exact⟨v,G2,rfl,e1.trans e4,e5,e3.mono e4⟩
abbrev Ip:List (Nat×aL):=[(500014,⟨0,none⟩)]
abbrev Lt(S:CK)(vq:Nat):List (Nat×aL):=
 [(500000,⟨1,some (.arr 1 (GN S))⟩),(499904,⟨1,some (.map (kz 0 S.fs) S.fs.length)⟩),(500002,⟨S.vh,some (.map (gC 0 S.c.vars) S.c.vars.length)⟩),(500003,⟨S.vs,some (.map (cz 0 S.c.seen) S.c.seen.length)⟩),
  (500004,⟨vq,none⟩),(500005,⟨S.vv,some (.arr 4 (S.c.vars.map yI))⟩),(500382,⟨S.vp,some (.arr 3 (S.c.pts.map cr))⟩),(500191,⟨1,some (.arr 1 (S.W.set S.fn (lB S.vv S.c.vars)))⟩),(500014,⟨S.vq,some (.map (aZ S.c.sure.l) S.c.sure.c)⟩)]
theorem Ms{S S':CK}(h:CKok S)(h':CKok S'){vq:Nat}{ar:List AV}(ha:bQ (dC ((ck S ++Ip).map (·.1)) 1000000) ar=ar):Cln ((ck S ++Ip).map (·.1)) 1000000 ar (ck S ++Ip) (Lt S' vq):=
 ⟨rfl,rfl,rfl,ha,by
  have h1:=fY h (ρ:=dC ((ck S ++Ip).map (·.1)) 1000000) rfl;rw[List.map_append,List.map_append (f:=fun p:Nat×aL=>p.2),h1];rfl,by
  have h1:=fY h' (ρ:=dC ((ck S ++Ip).map (·.1)) 1000000) rfl;simp only[ck,List.map_cons,List.map_nil,List.cons.injEq,and_true]at h1;obtain⟨a1,a2,a3,a4,a5,a6,a7,a8⟩:=h1;simp only[Lt,List.map_cons,List.map_nil,a2,a3,a4,a5,a6,a7,a8,List.cons.injEq,and_true];refine⟨?_,trivial,trivial,trivial,rfl⟩;simp only[ci,Option.map_some,f9,bQ,aQ];rfl⟩
section
variable{S:CK}(h:CKok S)(k id:Int)(nm:List UInt8)(ty n p:Int)(k1 o1:Int)(nm1:List UInt8)(n1 p1:Int)(xs1 zs:List Ex)(bd el:List bt)
include h
theorem Rp(q r:Int)(c:iZ S (.mk k1 o1 nm1 n1 p1 xs1) [2] q r):HX 108 [aF,eA k id nm ty n p (.mk k1 o1 nm1 n1 p1 xs1::zs) bd el] (ck S) (aE q r) (ck S):=
 ae aB named {pans:=au Pg [(108,1,2049,⟨6,some (be (wP c 2305)),[]⟩)]} 2000 2000 _ 1000000 (aA h h rfl) (by kernel_rfl) (fun _=>by kernel_rfl)
section
variable{t:Int}(w:lZ S (.mk k1 o1 nm1 n1 p1 xs1) [2] t)
include w
theorem Rq(g:Gv)(q r:Int)(c:HX 110 [aF, .d (.ro (dY bd))] (ck S) (aE q r) (ct g)):HX 108 [aF,eA k id nm ty n p (.mk k1 o1 nm1 n1 p1 xs1::zs) bd el] (ck S) (aE q r) (ct g):=
 ae aB named {calls:=tC [(108,12,2343,bc rfl (wO w 2305)),(108,17,2539,af (mW S.vq (aZ S.c.sure.l) S.c.sure.c))],pans:=au Pg [(108,3,2588,⟨3,some (be c),[]⟩)]} 2000 2000 _ 1000000 (kf h rfl) (by kernel_rfl) (fun _=>by kernel_rfl)
variable{S1:CK}(h1:CKok S1)(c1:OP S S1 bd)
include h1 c1
theorem Rr(g:Gv)(q r:Int)(c:HX 110 [aF, .d (.ro (dY el))] (B5 (S1.sureAs S.c.sure 1)) (aE q r) (AX g)):HX 108 [aF,eA k id nm ty n p (.mk k1 o1 nm1 n1 p1 xs1::zs) bd el] (ck S) (aE q r) (ct {g with vq:=S1.vq}):=
 ae aB named {calls:=tC [(108,12,2343,bc rfl (wO w 2305)),(108,17,2539,af (mW S.vq (aZ S.c.sure.l) S.c.sure.c)),(108,21,2735,af c1)],pans:=au Pg [(108,6,3225,⟨3,some (be c),[]⟩)]} 2000 2000 _ 1000000 (kf h rfl) (by kernel_rfl) (fun _=>by kernel_rfl)
variable{S3:CK}(c3:Mr (S1.sureAs S.c.sure 1) S3 el)
include c3
theorem OQ(y:Bool)(h':CKok S3)(eb:jo bd true)(ee:jo el y):HC 108 [aF,eA k id nm ty n p (.mk k1 o1 nm1 n1 p1 xs1::zs) bd el] (ck S ++Ip) [] (Lt S3 S1.vq):=
 ag aB named {calls:=tC [(108,12,2343,bc rfl (wO w 2305)),(108,17,2539,af (mW S.vq (aZ S.c.sure.l) S.c.sure.c)),(108,21,2735,af c1),(108,33,3372,af c3),(108,42,3764,bc rfl eb),(108,45,3862,bc rfl ee),(108,46,3862,af (Mo S1.vq S3.vq y))]} 2000 2000 _ 1000000 (Ms h h' rfl) (fun _=>by kernel_rfl)
theorem Rs(y:Bool)(h3:CKok S3)(h':CKok (S3.sureAs S3.c.sure (S1.vq+1)))(eb:jo bd true)(ee:jo el y):HC 108 [aF,eA k id nm ty n p (.mk k1 o1 nm1 n1 p1 xs1::zs) bd el] (ck S) [] (ck (S3.sureAs S3.c.sure (S1.vq+1))):=fun rest=>by
 refine lr (M:=1000000) (aA h h' rfl) (fun rest=> ?_) rest;have c:=OQ h k id nm ty n p k1 o1 nm1 n1 p1 xs1 zs bd el w h1 c1 c3 y h3 eb ee (ey 1000000 rest)
 have e:al (ck S ++Ip) (ey 1000000 rest)=al (ck S) (ey 1000000 rest):=by
  funext k;simp only[ck,Ip,List.cons_append,List.nil_append,al,aK];by_cases hk:k=500014
  ·subst hk;rfl
  ·rw[if_neg hk]
 rw[e]at c;refine⟨_,sI aB c fun X env=>nW (C:=500000) (a:=7) (T:=500014) (K:=500004) (v:=S3.vq) (c:=S3.c.sure.c) (ces:=GN S3) (es:=aZ S3.c.sure.l) (by decide) (by decide) (by decide) rfl rfl (by simp[Lt,al,aK]),fun k hk=> ?_,fun k hk=> ?_⟩
 ·simp only[List.map_cons,List.map_nil,List.mem_cons,List.not_mem_nil,or_false]at hk
  rcases hk with rfl|rfl|rfl|rfl|rfl|rfl|rfl|rfl<;>simp[Lt,ck,AL,CK.sureAs,al,aK]
 ·have n0:k≠500000:=by omega
  have n1:k≠499904:=by omega
  have n2:k≠500002:=by omega
  have n3:k≠500003:=by omega
  have n4:k≠500004:=by omega
  have n5:k≠500005:=by omega
  have n6:k≠500382:=by omega
  have n7:k≠500191:=by omega
  have n8:k≠500014:=by omega
  simp only[Lt,ck,al,aK,n0,n1,n2,n3,n4,n5,n6,n7,n8,if_false]
theorem Rt(h':CKok (S3.sureAs S1.c.sure S1.vq))(eb:jo bd false)(ee:jo el true):HC 108 [aF,eA k id nm ty n p (.mk k1 o1 nm1 n1 p1 xs1::zs) bd el] (ck S) [] (ck (S3.sureAs S1.c.sure S1.vq)):=
 ag aB named {calls:=tC [(108,12,2343,bc rfl (wO w 2305)),(108,17,2539,af (mW S.vq (aZ S.c.sure.l) S.c.sure.c)),(108,21,2735,af c1),(108,33,3372,af c3),(108,42,3764,bc rfl eb),(108,45,3862,bc rfl ee),(108,46,3862,af (Mp S1.vq S3.vq))]} 2000 2000 _ 1000000 (aA h h' rfl) (fun _=>by kernel_rfl)
theorem Ru(h':CKok (S3.sureAs (S1.c.sure.both S3.c.sure) S1.vq))(eb:jo bd false)(ee:jo el false):HC 108 [aF,eA k id nm ty n p (.mk k1 o1 nm1 n1 p1 xs1::zs) bd el] (ck S) [] (ck (S3.sureAs (S1.c.sure.both S3.c.sure) S1.vq)):=
 ag aB named {calls:=tC [(108,12,2343,bc rfl (wO w 2305)),(108,17,2539,af (mW S.vq (aZ S.c.sure.l) S.c.sure.c)),(108,21,2735,af c1),(108,33,3372,af c3),(108,42,3764,bc rfl eb),(108,45,3862,bc rfl ee),(108,46,3862,af (Mq S1.vq S1.c.sure.c S3.vq S3.c.sure.c S1.c.sure.l S3.c.sure.l h1.sk h1.sb h1.sc))]} 2000 2000 _ 1000000 (aA h h' rfl) (fun _=>by kernel_rfl)
end
end
end Go.Avm
namespace Go.Avm
open Go.Proofs
abbrev sJ(P:Pl)(es:List Ex)(bd el:List bt)(c:CS):TR CS:=(aM (c.te P.fs) es [[2]] false).bind fun _=>(eO P.in bd c).bind fun a=>(eO P.in el {a with sure:=c.sure}).bind fun b=>
 .ok {b with sure:=bif du bd then b.sure else bif du el then a.sure else a.sure.both b.sure}
theorem GO{P:Pl}{S:CK}(a:At P S){q:SureL}(hq:QOk q S.c.vars.length)(v:Nat):At P (S.sureAs q v):=⟨vY a.ok hq v,a.fs,a.fn,a.deep⟩
theorem GP{P:Pl}{bd el:List bt}(ib:∀S,At P S→TC S 110 [aF, .d (.ro (dY bd))] (eO P.in bd S.c))(ie:∀S,At P S→TC S 110 [aF, .d (.ro (dY el))] (eO P.in el S.c))(eb:mz bd)(ee:mz el)
    (k id:Int) (nm:List UInt8) (ty n p:Int) (es:List Ex) (S:CK) (a:At P S):TC S 108 [aF,eA k id nm ty n p es bd el] (sJ P es bd el S.c):=by
 unfold sJ;match es with
 |[]=>simp only[aM];trivial
 | .mk k1 o1 nm1 n1 p1 xs1::zs=>
  have c:=Jx a.ok (.mk k1 o1 nm1 n1 p1 xs1) 2;unfold WX at c;rw[a.fs]at c;rw[bx];revert c;cases cg (S.c.te P.fs) (.mk k1 o1 nm1 n1 p1 xs1) [2]with
  |out=>exact fun _=>trivial
  |bad q r=>exact fun c=>io (S':=S) (Rp a.ok k id nm ty n p k1 o1 nm1 n1 p1 xs1 zs bd el q r c)
  |ok t=>
   intro w;have w:lZ S (.mk k1 o1 nm1 n1 p1 xs1) [2] t:=w;simp only[TR.bind,cond_false,ed];have c1:=ib S a;revert c1;cases hb:eO P.in bd S.c with
   |out=>exact fun _=>trivial
   |bad q r=>exact fun ⟨g,c⟩=>⟨g,Rq a.ok k id nm ty n p k1 o1 nm1 n1 p1 xs1 zs bd el w g q r c⟩
   |ok a1=>
    rintro⟨S1,nx1,c1⟩;have q1:QOk S.c.sure S1.c.vars.length:=a.ok.q.mono nx1.vars.length_le;have at2:=GO (a.nx nx1) q1 1;have c3:=ie (S1.sureAs S.c.sure 1) at2;have e2:(S1.sureAs S.c.sure 1).c={a1 with sure:=S.c.sure}:=by rw[←nx1.c];rfl
    rw[e2]at c3;simp only;revert c3;cases eO P.in el {a1 with sure:=S.c.sure}with
    |out=>exact fun _=>trivial
    |bad q r=>exact fun ⟨g,c⟩=>⟨_,Rr a.ok k id nm ty n p k1 o1 nm1 n1 p1 xs1 zs bd el w nx1.ok c1 g q r (D5 at2.ok c)⟩
    |ok b3=>
     rintro⟨S3,nx3,c3⟩;have c3':=B6 at2.ok nx3.ok c3;have v3:S1.c.vars<+:S3.c.vars:=nx3.vars;have fin:∀(J:SureL)(v:Nat),QOk J S3.c.vars.length→Nx S (S3.sureAs J v) {b3 with sure:=J}:=fun J v hJ=>⟨vY nx3.ok hJ v,by rw[←nx3.c];rfl,nx3.fs.trans nx1.fs,nx3.fn.trans nx1.fn,nx3.deep.trans nx1.deep,nx3.W.trans nx1.W,nx1.vars.trans v3⟩
     have eb':=eb;have ee':=ee;unfold mz at eb' ee';simp only[TR.bind];cases h1:du bd with
     |true=>
      rw[h1]at eb';have f:=fin b3.sure (S1.vq+1) (by rw[←nx3.c];exact nx3.ok.q);rw[←nx3.c]at f ⊢;exact⟨_,f,Rs a.ok k id nm ty n p k1 o1 nm1 n1 p1 xs1 zs bd el w nx1.ok c1 c3' (du el) nx3.ok f.ok eb' ee'⟩
     |false=>
     rw[h1]at eb';cases h2:du el with
     |true=>
      rw[h2]at ee';have f:=fin a1.sure S1.vq (by rw[←nx1.c];exact nx1.ok.q.mono v3.length_le);rw[←nx1.c]at f ⊢;exact⟨_,f,Rt a.ok k id nm ty n p k1 o1 nm1 n1 p1 xs1 zs bd el w nx1.ok c1 c3' f.ok eb' ee'⟩
     |false=>
      rw[h2]at ee';have f:=fin (a1.sure.both b3.sure) S1.vq (by rw[←nx1.c];exact(nx1.ok.q.mono v3.length_le).both);rw[←nx1.c,←nx3.c]at f ⊢;exact⟨_,f,Ru a.ok k id nm ty n p k1 o1 nm1 n1 p1 xs1 zs bd el w nx1.ok c1 c3' f.ok eb' ee'⟩
end Go.Avm
namespace Go.Avm
open Go.Proofs
def qh:Nat→List (List UInt8)→List Pm→TR Unit
 |_,_,[]=> .ok ()
 |k,had,p::r=>bif decide (6≤k)then .bad p.p 9 else bif had.any (· ==p.nm)then .bad p.p 7 else qh (k+1) (had ++[p.nm]) r
def gW:List Fn→List Fn→TR Unit
 |_,[]=> .ok ()
 |pre,f::r=>bif (dK f.nm pre 0).isSome then .bad f.p 7 else (qh 0 [] f.ps).bind fun _=>gW (pre ++[f]) r
def Iq:List UInt8:=[109,97,105,110]
def iL(fs:List Fn):TR Unit:=(gW [] fs).bind fun _=>match dK Iq fs 0 with
 |none=> .bad 0 13
 |some (_,f)=>bif f.ps.isEmpty&&f.res==1 then .ok ()else .bad f.p 13
def yK:Nat→List (List UInt8)→List (D×D×Nat)
 |_,[]=>[]
 |i,x::r=>(.str x, .agg [],i)::yK (i+1) r
theorem AY:∀(l:List (List UInt8))(i:Nat)(x:List UInt8),yK i (l ++[x])=yK i l ++[(.str x, .agg [],i+l.length)]
 |[],_,_=>rfl
 |a::r,i,x=>by
  simp only[List.cons_append,yK,AY r (i+1) x,List.length_cons];rw[show i+1+r.length=i+(r.length+1) by omega]
theorem v7(x:List UInt8):∀(l:List (List UInt8))(i j:Nat),(l.any (· ==x))=false→b7 (.str x) (yK i l) j=some none
 |[],_,_,_=>rfl
 |e::r,i,j,h=>by
  simp only[List.any_cons,Bool.or_eq_false_iff]at h
  have h1:(x==e)=false:=by
   have:=h.1;rw[beq_eq_false_iff_ne]at this ⊢;exact this.symm
  simp only[yK,b7,jv,h1];exact v7 x r (i+1) (j+1) h.2
theorem xW(x:List UInt8):∀(l:List (List UInt8))(i j:Nat),(l.any (· ==x))=true→∃q,b7 (.str x) (yK i l) j=some (some (q, .agg []))
 |[],_,_,h=>by cases h
 |e::r,i,j,h=>by
  simp only[yK,b7,jv];cases h1:(x==e)with
  |true=>exact⟨j,rfl⟩
  |false=>
   refine xW x r (i+1) (j+1) ?_;simp only[List.any_cons,Bool.or_eq_true]at h;refine h.resolve_left fun h2=> ?_
   rw[eq_of_beq h2]at h1;simp at h1
theorem AZ:∀(l:List Fn)(i:Nat)(f:Fn),kz i (l ++[f])=kz i l ++[(.str f.nm, .int .i64 ((i+l.length:Nat):Int),i+l.length)]
 |[],_,_=>rfl
 |a::r,i,f=>by
  simp only[List.cons_append,kz,AZ r (i+1) f,List.length_cons];rw[show i+1+r.length=i+(r.length+1) by omega]
abbrev fF(fs:List Fn)(es:List (D×D×Nat))(m:Nat)(nn:AV):List (Nat×aL):=
 [(500000,⟨1,some (.arr 1 [.mp 499904 1, .d (.ro (fs.map de)), .sl 500191 1 0 fs.length 1, .sl 500382 1 0 1 3,dI 0,nn,nn,nn,dI 0])⟩),(499904,⟨1,some (.map es m)⟩),(500382,⟨1,some (.arr 3 [cr eC])⟩),(500191,⟨1,some (.arr 1 (List.replicate fs.length .nils))⟩)]
abbrev yL:List (Nat×aL):=[(500000,⟨1,none⟩),(499904,⟨1,none⟩),(500382,⟨1,none⟩),(500191,⟨1,none⟩)]
theorem o9{fs:List Fn}{es:List (D×D×Nat)}{m:Nat}{nn:AV}(hn:∀ρ,aQ ρ nn=nn){ρ:Nat→Nat}(hρ:([499904,500382,500191].map ρ)=[499904,500382,500191]):((fF fs es m nn).map fun p=>ci ρ p.2)=(fF fs es m nn).map (·.2):=by
 simp only[List.map_cons,List.map_nil,List.cons.injEq,and_true]at hρ;obtain⟨h1,h6,h7⟩:=hρ
 have hr:bQ ρ (List.replicate fs.length AV.nils)=List.replicate fs.length AV.nils:=oc fun x hx=>by
  rw[List.eq_of_mem_replicate hx];rfl
 have hp:aQ ρ (cr eC)=cr eC:=rfl;simp only[fF,List.map_cons,List.map_nil,ci,Option.map_some,f9,hr,hp,bQ,aQ,h1,h6,h7,hn]
abbrev v8(l:List (List UInt8)):List (Nat×aL):=[(600047,⟨1,some (.map (yK 0 l) l.length)⟩)]
abbrev GQ:List (Nat×aL):=[(600047,⟨1,none⟩)]
theorem D6{fs:List Fn}{es es':List (D×D×Nat)}{m m':Nat}{nn:AV}(hn:∀ρ,aQ ρ nn=nn){ar:List AV}(ha:bQ (dC ((fF fs es m nn).map (·.1)) 1000000) ar=ar):Cln ((fF fs es m nn).map (·.1)) 1000000 ar (fF fs es m nn) (fF fs es' m' nn):=⟨rfl,rfl,rfl,ha,o9 hn rfl,o9 hn rfl⟩
section
variable{fs:List Fn}{es:List (D×D×Nat)}{m:Nat}{nn:AV}(hn:∀ρ,aQ ρ nn=nn)
include fs es m nn hn
theorem pa{ar:List AV}(ha:bQ (dC ((fF fs es m nn).map (·.1)) 1000000) ar=ar):Cln ((fF fs es m nn).map (·.1)) 1000000 ar (fF fs es m nn) yL:=⟨rfl,rfl,rfl,ha,o9 hn rfl,rfl⟩
theorem D7{l l':List (List UInt8)}{ar:List AV}(e:List (Nat×aL))(hK:e.map (·.1)=[600047])(he:(e.map fun p:Nat×aL=>ci (dC ((fF fs es m nn ++v8 l).map (·.1)) 1000000) p.2)=e.map (·.2))(ha:bQ (dC ((fF fs es m nn ++v8 l).map (·.1)) 1000000) ar=ar):Cln ((fF fs es m nn ++v8 l).map (·.1)) 1000000 ar (fF fs es m nn ++v8 l) (fF fs es m nn ++e):=
 ⟨rfl,rfl,by rw[List.map_append,List.map_append,hK];rfl,ha,by
  rw[List.map_append,List.map_append (f:=fun p:Nat×aL=>p.2),o9 hn rfl];rfl,by
  rw[List.map_append,List.map_append (f:=fun p:Nat×aL=>p.2),o9 hn rfl,he]⟩
theorem A0{l:List (List UInt8)}{ar:List AV}(ha:bQ (dC ((fF fs es m nn ++v8 l).map (·.1)) 1000000) ar=ar):Cln ((fF fs es m nn ++v8 l).map (·.1)) 1000000 ar (fF fs es m nn ++v8 l) (yL ++GQ):=
 ⟨rfl,rfl,rfl,ha,by
  rw[List.map_append,List.map_append (f:=fun p:Nat×aL=>p.2),o9 hn rfl];rfl,rfl⟩
end
abbrev sK(fs:List Fn)(j:Nat)(ps:List Pm)(k:Nat):List (Nat×AV):=[(0,aF),(6, .mp 600047 1),(18, .d (.ro (fs.map de))),(19,dN (fs.map de).length),(20,dN j),(49, .d (.ro (ps.map jH))),(50,dN (ps.map jH).length),(51,dN k)]
abbrev OR(fs:List Fn)(j:Nat):List (Nat×AV):=[(0,aF),(18, .d (.ro (fs.map de))),(19,dN (fs.map de).length),(20,dN j)]
def Oh(P:Program)(ps:List Pm)(k:Nat)(x:Pm)(hx:ps[k]? =some x):bX P:= .idx (ps.map jH) ((k:Nat):Int) (jH x) (by omega) (by rw[Int.toNat_natCast,List.getElem?_map,hx];rfl)
def JZ(P:Program)(k:Nat)(t:Bool)(h:decide (6≤k)= !t):bX P:= .val (dB (decide ((k:Int)<6))) (dB t) (by
 congr 2;cases t
 ·have:=of_decide_eq_true h
  rw[decide_eq_false_iff_not];omega
 ·have:=of_decide_eq_false h
  rw[decide_eq_true_eq];omega)
section
variable{fs:List Fn}{es:List (D×D×Nat)}{m:Nat}{nn:AV}(hn:∀ρ,aQ ρ nn=nn)(j:Nat)(ps:List Pm)(k:Nat)(l:List (List UInt8))
include hn
theorem Mt(hi:decide (k<(ps.map jH).length)=false):RE 109 (lO 26 8) (sK fs j ps k) (fF fs es m nn ++v8 l) (.exit 2) (OR fs j) (fF fs es m nn ++GQ):=
 dD aB named {hint:=qT 26 [(52,mU Pg k (ps.map jH).length false hi)]} 2000 26 600000 109 1000000 ([]) (D7 hn (l':=l) GQ rfl rfl rfl) (by kernel_rfl) (by kernel_rfl) (fun _=>by kernel_rfl)
section
variable(hi:decide (k<(ps.map jH).length)=true)(nm:List UInt8)(ty p:Int)(hx:ps[k]? =some ⟨nm,ty,p⟩)
include hi hx
theorem J0(h6:decide (6≤k)=true):RE 109 (lO 26 8) (sK fs j ps k) (fF fs es m nn ++v8 l) (.panic (aE p 9)) [] (yL ++GQ):=
 dD aB named {hint:=qT 26 [(52,mU Pg k (ps.map jH).length true hi),(54,Oh Pg ps k _ hx),(57,JZ Pg k false h6)],pans:=au Pg [(26,10,600763,⟨4,some (be (bU p 9)),[]⟩)]} 2000 26 600000 109 1000000 ([]) (A0 hn rfl) (by kernel_rfl) (by kernel_rfl) (fun _=>by kernel_rfl)
theorem GR(h6:decide (6≤k)=false)(q:Nat)(hq:b7 (.str nm) (yK 0 l) 0=some (some (q, .agg []))):RE 109 (lO 26 8) (sK fs j ps k) (fF fs es m nn ++v8 l) (.panic (aE p 7)) [] (yL ++GQ):=
 dD aB named {hint:=qT 26 [(52,mU Pg k (ps.map jH).length true hi),(54,Oh Pg ps k _ hx),(57,JZ Pg k true h6),(65, .look (.str nm) (yK 0 l) (some (q, .agg [])) hq)],calls:=tC [(26,60,601199,bc rfl (aO p 9))],pans:=au Pg [(26,12,602289,⟨4,some (be (bU p 7)),[]⟩)]} 2000 26 600000 109 1000000 ([]) (A0 hn rfl) (by kernel_rfl) (by kernel_rfl) (fun _=>by kernel_rfl)
theorem OS(h6:decide (6≤k)=false)(hq:(l.any (· ==nm))=false):RE 109 (lO 26 8) (sK fs j ps k) (fF fs es m nn ++v8 l) .normal (sK fs j ps (k+1)) (fF fs es m nn ++[(600047,⟨1,some (.map (yK 0 l ++[(.str nm, .agg [],l.length)]) (l.length+1))⟩)]):=
 dD aB named {hint:=qT 26 [(52,mU Pg k (ps.map jH).length true hi),(54,Oh Pg ps k _ hx),(57,JZ Pg k true h6),(65, .look (.str nm) (yK 0 l) none (v7 nm l 0 0 hq)),(113004, .look (.str nm) (yK 0 l) none (v7 nm l 0 0 hq)),(77,dL Pg k (by have:=of_decide_eq_false h6;omega))],calls:=tC [(26,60,601199,bc rfl (aO p 9)),(26,72,602725,bc rfl (aO p 7))]} 2000 26 600000 109 1000000 ([]) (D7 hn (l':=l) [(600047,⟨1,some (.map (yK 0 l ++[(.str nm, .agg [],l.length)]) (l.length+1))⟩)] rfl rfl rfl) (by kernel_rfl) (by kernel_rfl) (fun _=>by kernel_rfl)
end
end
def J1(fs:List Fn)(es:List (D×D×Nat))(m:Nat)(nn:AV)(j:Nat)(ps:List Pm)(k:Nat)(l:List (List UInt8)):TR Unit→Prop
 | .ok _=>RL 109 (lO 26 8) (sK fs j ps k) (fF fs es m nn ++v8 l) (.exit 2) (OR fs j) (fF fs es m nn ++GQ)
 | .bad p e=>RL 109 (lO 26 8) (sK fs j ps k) (fF fs es m nn ++v8 l) (.panic (aE p e)) [] (yL ++GQ)
 | .out=>True
theorem Ir{fs:List Fn}{es:List (D×D×Nat)}{m:Nat}{nn:AV}(hn:∀ρ,aQ ρ nn=nn)(j:Nat)(ps:List Pm):∀(d k:Nat)(l:List (List UInt8)),ps.length-k=d→k≤ps.length→J1 fs es m nn j ps k l (qh k l (ps.drop k))
 |0,k,l,hd,hk=>by
  have:k=ps.length:=by omega
  subst this;rw[List.drop_length];exact fun rest X hP hN=>aY (Mt hn j ps ps.length l (by simp) rest X hP hN) (by simp)
 |d+1,k,l,hd,hk=>by
  have hlt:k<ps.length:=by omega
  have hx:ps[k]? =some ps[k]:=List.getElem?_eq_getElem hlt;rw[List.drop_eq_getElem_cons hlt];generalize ps[k]=x at hx;obtain⟨nm,ty,p⟩:=x;have hi:decide (k<(ps.map jH).length)=true:=by simpa using hlt
  simp only[qh];cases h6:decide (6≤k)with
  |true=>exact fun rest X hP hN=>aY (J0 hn j ps k l hi nm ty p hx h6 rest X hP hN) (by simp)
  |false=>
  cases hq:l.any (· ==nm)with
  |true=>
   obtain⟨q,hq⟩:=xW nm l 0 0 hq;exact fun rest X hP hN=>aY (GR hn j ps k l hi nm ty p hx h6 q hq rest X hP hN) (by simp)
  |false=>
   have ih:=Ir (fs:=fs) (es:=es) (m:=m) hn j ps d (k+1) (l ++[nm]) (by omega) hlt;have hgo:=OS (fs:=fs) (es:=es) (m:=m) hn j ps k l hi nm ty p hx h6 hq
   have e:v8 (l ++[nm])=[(600047,⟨1,some (.map (yK 0 l ++[(.str nm, .agg [],l.length)]) (l.length+1))⟩)]:=by
    simp only[v8,AY,List.length_append,List.length_cons,List.length_nil,Nat.zero_add]
   simp only[cond_false];revert ih;cases qh (k+1) (l ++[nm]) (ps.drop (k+1))with
   |out=>exact fun _=>trivial
   |bad u r=>
    intro ih;simp only[J1,e]at ih;exact fun rest X hP hN=>aX (hgo rest X hP hN) (ih rest X hP hN)
   |ok _=>
    intro ih;simp only[J1,e]at ih;exact fun rest X hP hN=>aX (hgo rest X hP hN) (ih rest X hP hN)
end Go.Avm
namespace Go.Avm
open Go.Proofs
noncomputable def Mu{fs:List Fn}{es:List (D×D×Nat)}{m:Nat}{nn:AV}{j:Nat}{ps:List Pm}{x:aD}{l':List (Nat×AV)}{hp':List (Nat×aL)}(h:RL 109 (lO 26 8) (sK fs j ps 0) (fF fs es m nn ++v8 []) x l' hp'):dJ Pg:=
 ⟨109,b6 Pg 26 8,sK fs j ps 0,fun _=>fF fs es m nn ++v8 [],x,l',fun _=>hp',fun rest X hP hN=>(h rest X hP hN).aw⟩
abbrev D8(fs:List Fn)(j:Nat):List (Nat×AV):=[(0,aF),(18, .d (.ro (fs.map de))),(19,dN (fs.map de).length),(20,dN j)]
def zR(P:Program)(fs:List Fn)(k:Nat)(x:Fn)(hx:fs[k]? =some x):bX P:= .idx (fs.map de) ((k:Nat):Int) (de x) (by omega) (by rw[Int.toNat_natCast,List.getElem?_map,hx];rfl)
section
variable{fs pre:List Fn}{nn:AV}(hn:∀ρ,aQ ρ nn=nn)
include hn
theorem J2(hi:decide (pre.length<(fs.map de).length)=false):RE 109 (lO 26 1) (D8 fs pre.length) (fF fs (kz 0 pre) pre.length nn) (.exit 0) [(0,aF)] (fF fs (kz 0 pre) pre.length nn):=
 dD aB named {hint:=qT 26 [(21,mU Pg pre.length (fs.map de).length false hi)]} 2000 26 596621 109 1000000 ([]) (D6 hn rfl) (by kernel_rfl) (by kernel_rfl) (fun _=>by kernel_rfl)
variable(hi:decide (pre.length<(fs.map de).length)=true)(nm:List UInt8)(ps:List Pm)(res:Int)(bd:List bt)(p:Int)(hx:fs[pre.length]? =some ⟨nm,ps,res,bd,p⟩)
include hi hx
theorem D9(r:Nat×Fn)(hf:dK nm pre 0=some r):RE 109 (lO 26 1) (D8 fs pre.length) (fF fs (kz 0 pre) pre.length nn) (.panic (aE p 7)) [] yL:=
 dD aB named {hint:=qT 26 [(21,mU Pg pre.length (fs.map de).length true hi),(23,zR Pg fs pre.length _ hx),(32,oZ Pg nm pre (some r) hf)],pans:=au Pg [(26,4,598692,⟨4,some (be (bU p 7)),[]⟩)]} 2000 26 596621 109 1000000 ([]) (pa hn rfl) (by kernel_rfl) (by kernel_rfl) (fun _=>by kernel_rfl)
variable(hf:dK nm pre 0=none)
include hf
theorem J3(q e:Int)(c:RL 109 (lO 26 8) (sK fs pre.length ps 0) (fF fs (kz 0 pre ++[(.str nm, .int .i64 (pre.length:Int),pre.length)]) (pre.length+1) nn ++v8 []) (.panic (aE q e)) [] (yL ++GQ)):
    RE 109 (lO 26 1) (D8 fs pre.length) (fF fs (kz 0 pre) pre.length nn) (.panic (aE q e)) [] yL:=
 dD aB named {loops:=fun f q=>if f=26 then (if q=8 then some (Mu c)else none)else none,hint:=qT 26 [(21,mU Pg pre.length (fs.map de).length true hi),(23,zR Pg fs pre.length _ hx),(32,oZ Pg nm pre none hf),(105007,oZ Pg nm pre none hf)],calls:=tC [(26,39,599128,bc rfl (aO p 7))]} 2000 26 596621 109 1000000 ([]) (pa hn rfl) (by kernel_rfl) (by kernel_rfl) (fun _=>by kernel_rfl)
theorem Mv(c:RL 109 (lO 26 8) (sK fs pre.length ps 0) (fF fs (kz 0 pre ++[(.str nm, .int .i64 (pre.length:Int),pre.length)]) (pre.length+1) nn ++v8 []) (.exit 2) (OR fs pre.length) (fF fs (kz 0 pre ++[(.str nm, .int .i64 (pre.length:Int),pre.length)]) (pre.length+1) nn ++GQ))(hl:fs.length<1000000):
    RE 109 (lO 26 1) (D8 fs pre.length) (fF fs (kz 0 pre) pre.length nn) .normal (D8 fs (pre.length+1)) (fF fs (kz 0 pre ++[(.str nm, .int .i64 (pre.length:Int),pre.length)]) (pre.length+1) nn):=
 dD aB named {loops:=fun f q=>if f=26 then (if q=8 then some (Mu c)else none)else none,hint:=qT 26 [(21,mU Pg pre.length (fs.map de).length true hi),(23,zR Pg fs pre.length _ hx),(32,oZ Pg nm pre none hf),(105007,oZ Pg nm pre none hf),(78,dL Pg pre.length (by have:=of_decide_eq_true hi;rw[List.length_map]at this;omega))],calls:=tC [(26,39,599128,bc rfl (aO p 7))]} 2000 26 596621 109 1000000 ([]) (D6 hn rfl) (by kernel_rfl) (by kernel_rfl) (fun _=>by kernel_rfl)
end
def J4(fs pre:List Fn)(nn:AV):TR Unit→Prop
 | .ok _=>RL 109 (lO 26 1) (D8 fs pre.length) (fF fs (kz 0 pre) pre.length nn) (.exit 0) [(0,aF)] (fF fs (kz 0 fs) fs.length nn)
 | .bad p e=>RL 109 (lO 26 1) (D8 fs pre.length) (fF fs (kz 0 pre) pre.length nn) (.panic (aE p e)) [] yL
 | .out=>True
theorem Is{fs:List Fn}{nn:AV}(hn:∀ρ,aQ ρ nn=nn)(hl:fs.length<1000000):∀(uo pre:List Fn),fs=pre ++uo→J4 fs pre nn (gW pre uo)
 |[],pre,h=>by
  have:fs=pre:=by rw[h,List.append_nil]
  subst this;exact fun rest X hP hN=>aY (J2 hn (by simp) rest X hP hN) (by simp)
 |f::uo,pre,h=>by
  have hx:fs[pre.length]? =some f:=by rw[h];simp
  have hi:decide (pre.length<(fs.map de).length)=true:=by rw[h];simp
  have ih:=Is (nn:=nn) hn hl uo (pre ++[f]) (by rw[h];simp);obtain⟨nm,ps,res,bd,p⟩:=f;simp only[gW];cases hf:dK nm pre 0 with
  |some r=>exact fun rest X hP hN=>aY (D9 hn hi nm ps res bd p hx r hf rest X hP hN) (by simp)
  |none=>
   have c:=Ir (fs:=fs) (es:=kz 0 pre ++[(.str nm, .int .i64 (pre.length:Int),pre.length)]) (m:=pre.length+1) hn pre.length ps _ 0 [] rfl (Nat.zero_le _);rw[List.drop_zero]at c;simp only[Option.isSome_none,cond_false]
   have e:fF fs (kz 0 (pre ++[(⟨nm,ps,res,bd,p⟩:Fn)])) (pre ++[(⟨nm,ps,res,bd,p⟩:Fn)]).length nn=fF fs (kz 0 pre ++[(.str nm, .int .i64 (pre.length:Int),pre.length)]) (pre.length+1) nn:=by
    simp only[fF,AZ,List.length_append,List.length_cons,List.length_nil,Nat.zero_add]
   have e2:(pre ++[(⟨nm,ps,res,bd,p⟩:Fn)]).length=pre.length+1:=by simp
   revert c;cases qh 0 [] ps with
   |out=>exact fun _=>trivial
   |bad q t=>exact fun c rest X hP hN=>aY (J3 hn hi nm ps res bd p hx hf q t c rest X hP hN) (by simp)
   |ok _=>
    intro c;have hgo:=Mv hn hi nm ps res bd p hx hf c hl;simp only[TR.bind];revert ih;cases gW (pre ++[⟨nm,ps,res,bd,p⟩]) uo with
    |out=>exact fun _=>trivial
    |bad q t=>
     intro ih;simp only[J4,e]at ih;simp only[e2]at ih;exact fun rest X hP hN=>aX (hgo rest X hP hN) (ih rest X hP hN)
    |ok _=>
     intro ih;simp only[J4,e]at ih;simp only[e2]at ih;exact fun rest X hP hN=>aX (hgo rest X hP hN) (ih rest X hP hN)
noncomputable def Ea{fs:List Fn}{nn:AV}{x:aD}{l':List (Nat×AV)}{hp':List (Nat×aL)}(h:RL 109 (lO 26 1) (D8 fs 0) (fF fs [] 0 nn) x l' hp'):dJ Pg:=
 ⟨109,b6 Pg 26 1,D8 fs 0,fun _=>fF fs [] 0 nn,x,l',fun _=>hp',fun rest X hP hN=>(h rest X hP hN).aw⟩
section
variable{fs:List Fn}{nn:AV}(hn:∀ρ,aQ ρ nn=nn)
include hn
theorem GS(q e:Int)(c:RL 109 (lO 26 1) (D8 fs 0) (fF fs [] 0 nn) (.panic (aE q e)) [] yL):
    HX 26 [aF] (fF fs [] 0 nn) (aE q e) yL:=
 ae aB named ({loops:=fun f q=>if f=26 then (if q=1 then some (Ea c)else none)else none}) 2000 600000 _ 1000000 (pa hn rfl) (by kernel_rfl) (fun _=>by kernel_rfl)
variable(c:RL 109 (lO 26 1) (D8 fs 0) (fF fs [] 0 nn) (.exit 0) [(0,aF)] (fF fs (kz 0 fs) fs.length nn))
include c
theorem B7(hf:dK [109,97,105,110] fs 0=none):HX 26 [aF] (fF fs [] 0 nn) (aE 0 13) yL:=
 ae aB named {loops:=fun f q=>if f=26 then (if q=1 then some (Ea c)else none)else none,hint:=qT 26 [(84,oZ Pg [109,97,105,110] fs none hf)],pans:=au Pg [(26,17,601853,⟨1,some (be (bU 0 13)),[]⟩)]} 2000 600000 _ 1000000 (pa hn rfl) (by kernel_rfl) (fun _=>by kernel_rfl)
variable(i:Nat)(nm:List UInt8)(ps:List Pm)(res:Int)(bd:List bt)(p:Int)(hf:dK [109,97,105,110] fs 0=some (i,⟨nm,ps,res,bd,p⟩))(hx:fs[i]? =some ⟨nm,ps,res,bd,p⟩)
include hf hx
theorem GT(h0:(((ps.map jH).length:Int)==0)=false):HX 26 [aF] (fF fs [] 0 nn) (aE p 13) yL:=
 ae aB named {loops:=fun f q=>if f=26 then (if q=1 then some (Ea c)else none)else none,hint:=qT 26 [(84,oZ Pg [109,97,105,110] fs (some (i,⟨nm,ps,res,bd,p⟩)) hf),(95,zR Pg fs i _ hx),(100,qB h0)],calls:=tC [(26,88,601962,bc rfl (aO 0 13))],pans:=au Pg [(26,19,603052,⟨11,some (be (bU p 13)),[]⟩)]} 2000 600000 _ 1000000 (pa hn rfl) (by kernel_rfl) (fun _=>by kernel_rfl)
theorem Eb(h0:(((ps.map jH).length:Int)==0)=true)(h1:(res==1)=false):HX 26 [aF] (fF fs [] 0 nn) (aE p 13) yL:=
 ae aB named {loops:=fun f q=>if f=26 then (if q=1 then some (Ea c)else none)else none,hint:=qT 26 [(84,oZ Pg [109,97,105,110] fs (some (i,⟨nm,ps,res,bd,p⟩)) hf),(95,zR Pg fs i _ hx),(100,qB h0),(104,qB h1)],calls:=tC [(26,88,601962,bc rfl (aO 0 13))],pans:=au Pg [(26,19,603052,⟨11,some (be (bU p 13)),[]⟩)]} 2000 600000 _ 1000000 (pa hn rfl) (by kernel_rfl) (fun _=>by kernel_rfl)
theorem GU(h0:(((ps.map jH).length:Int)==0)=true)(h1:(res==1)=true):HC 26 [aF] (fF fs [] 0 nn) [] (fF fs (kz 0 fs) fs.length nn):=
 ag aB named {loops:=fun f q=>if f=26 then (if q=1 then some (Ea c)else none)else none,hint:=qT 26 [(84,oZ Pg [109,97,105,110] fs (some (i,⟨nm,ps,res,bd,p⟩)) hf),(95,zR Pg fs i _ hx),(100,qB h0),(104,qB h1)],calls:=tC [(26,88,601962,bc rfl (aO 0 13)),(26,108,604251,bc rfl (aO p 13))]} 2000 600000 _ 1000000 (D6 hn rfl) (fun _=>by kernel_rfl)
end
def Oi(fs:List Fn)(nn:AV):TR Unit→Prop
 | .ok _=>HC 26 [aF] (fF fs [] 0 nn) [] (fF fs (kz 0 fs) fs.length nn)
 | .bad p e=>HX 26 [aF] (fF fs [] 0 nn) (aE p e) yL
 | .out=>True
theorem Ec{fs:List Fn}{nn:AV}(hn:∀ρ,aQ ρ nn=nn)(hl:fs.length<1000000):Oi fs nn (iL fs):=by
 have c:=Is (nn:=nn) hn hl fs [] rfl;unfold iL;revert c;cases gW [] fs with
 |out=>exact fun _=>trivial
 |bad q t=>exact fun c=>GS hn q t c
 |ok _=>
  intro c;simp only[TR.bind,Iq];cases hf:dK [109,97,105,110] fs 0 with
  |none=>exact B7 hn c hf
  |some r=>
   obtain⟨i,f⟩:=r;obtain⟨_,hx⟩:=o5 hf;rw[Nat.sub_zero]at hx;obtain⟨nm,ps,res,bd,p⟩:=f;simp only;cases hp:ps.isEmpty with
   |false=>
    have h0:(((ps.map jH).length:Int)==0)=false:=by
     cases ps with
     |nil=>cases hp
     |cons a r=>simp;omega
    exact GT hn c i nm ps res bd p hf hx h0
   |true=>
    have h0:(((ps.map jH).length:Int)==0)=true:=by
     cases ps with
     |nil=>rfl
     |cons a r=>cases hp
    cases h1:(res==1)with
    |false=>exact Eb hn c i nm ps res bd p hf hx h0 h1
    |true=>exact GU hn c i nm ps res bd p hf hx h0 h1
end Go.Avm
namespace Go.Avm
open Go.Proofs
theorem oh{M N:Nat}{c:Code}{l l':List (Nat×AV)}{pre post:List (Nat×aL)}{e:aD}(cl:Cln (pre.map (·.1)) M (l.map (·.2)) pre post)(cl':bQ (dC (pre.map (·.1)) M) (l'.map (·.2))=l'.map (·.2))(hx:Dh (dC (pre.map (·.1)) M) e=e)
    (h:∀(rest:ab)(X:cf),X.P=Pg→X.N=N→AW X c ⟨an l,al pre (ey M rest)⟩ fun e' S'=>e'=e∧S'.env=an l'∧(∀k,k∈pre.map (·.1)→S'.heap k=al post S'.heap k)∧∀k,M≤k→S'.heap k=al pre (ey M rest) k)
    (rest:ab) (X:cf) (hP:X.P=Pg) (hN:X.N=N):AW X c ⟨an l,al pre rest⟩ fun e' S'=>e'=e∧S'=⟨an l',al post rest⟩:=by
 refine Di (nV cl.ltF) hx ?_
 have henv:(fun t=>aQ (dC (pre.map (·.1)) M) (an l t))=an l:=by
  funext t;rw[←eu,nX cl.argsK]
 have henv':∀t,aQ (dC (pre.map (·.1)) M) (an l' t)=an l' t:=fun t=>by
  rw[←eu,nX cl']
 rw[henv,cl.heap rest];refine(h (ga (dC (pre.map (·.1)) M) (yH (pre.map (·.1)) M) (al pre rest)) X hP hN).mono ?_;rintro e' S' ⟨rfl,he,h1,h2⟩;refine⟨rfl,fun t=>by rw[he,henv'], ?_⟩;exact cl.behind rest h1 h2
abbrev fB(nm:List UInt8)(ps:List Pm)(res:Int)(bd:List bt)(p:Int):List (Nat×aL):=[(600003,⟨1,some (.arr 1 [.d (.str nm), .d (.ro (ps.map jH)),N9 res, .d (.ro (dY bd)),dI p])⟩)]
abbrev fG:List (Nat×aL):=[(600003,⟨1,none⟩)]
abbrev It(fs:List Fn)(i:Nat)(ps:List Pm)(k:Nat):List (Nat×AV):=[(0,aF),(3, .ptr 600003 1 0 0 1),(10, .d (.ro (fs.map de))),(11,dN (fs.map de).length),(12,dN i),(34, .d (.ro (ps.map jH))),(35,dN (ps.map jH).length),(36,dN k)]
abbrev Ed(fs:List Fn)(i:Nat):List (Nat×AV):=[(0,aF),(3, .ptr 600003 1 0 0 1),(10, .d (.ro (fs.map de))),(11,dN (fs.map de).length),(12,dN i)]
theorem Mw{S S':CK}(h:CKok S)(h':CKok S'){ex:List (Nat×aL)}{ar:List AV}(qe:List (D×D×Nat))(qc:Nat)(lt:(((ck S ++ex).map (·.1)).all fun k=>Nat.blt k 1000000)=true)(hr:([499904,500002,500003,500004,500005,500382,500191].map (dC ((ck S ++ex).map (·.1)) 1000000))=[499904,500002,500003,500004,500005,500382,500191])
    (ha:bQ (dC ((ck S ++ex).map (·.1)) 1000000) ar=ar) (he:(ex.map fun p:Nat×aL=>ci (dC ((ck S ++ex).map (·.1)) 1000000) p.2)=ex.map (·.2)):Cln ((ck S ++ex).map (·.1)) 1000000 ar (ck S ++ex) (GB S' qe qc ++ex):=
 ⟨lt,rfl,by rw[List.map_append,List.map_append];rfl,ha,by
  have h1:=fY h hr;rw[List.map_append,List.map_append (f:=fun p:Nat×aL=>p.2),h1,he],by
  have h1:=fY h' hr;simp only[ck,List.map_cons,List.map_nil,List.cons.injEq,and_true]at h1;obtain⟨a1,a2,a3,a4,a5,a6,a7,a8⟩:=h1;rw[List.map_append,List.map_append (f:=fun p:Nat×aL=>p.2),he];simp only[GB,List.map_cons,List.map_nil,a1,a2,a3,a4,a6,a7,a8];rfl⟩
theorem lE(r h:ab):∀(a b:List (Nat×aL)),al (a ++b) h=al a (al b h)
 |[],b=>rfl
 |(k,e)::a,b=>by
  show aK (al (a ++b) h) k e=aK (al a (al b h)) k e;rw[lE r h a b]
theorem B8{P:Program}{g:Nat}{args rs:List AV}{A B B':List (Nat×aL)}(hs:(A.all fun p=>p.2.ob.isSome)=true)(hd:(A.all fun p=>B'.all fun q=> !(Nat.beq p.1 q.1))=true)(h:∀rest:ab,ay P g args (al (A ++B) rest) rs (al (A ++B') rest)):∀h:ab,lW h (A ++B)→ay P g args h rs (al B' h):=fun h' hf=>by
 have h1:=gH h h' hf;rw[lE h']at h1
 have h2:lW (al B' h') A:=fun p hp=>by
  have e:al B' h' p.1=h' p.1:=bZ B' h' fun hx=>by
   obtain⟨q,hq,he⟩:=List.mem_map.1 hx;have:=List.all_eq_true.1 (List.all_eq_true.1 hd p hp) q hq;rw[he]at this;simp at this
  rw[e];exact hf p (by simp[hp])
 rw[rX h2 hs]at h1;exact h1
abbrev GV(S:CK):List (Nat×aL):=[(500000,⟨1,some (.arr 1 (AL S))⟩),(499904,⟨1,some (.map (kz 0 S.fs) S.fs.length)⟩),(500004,⟨S.vq,some (.map (aZ S.c.sure.l) S.c.sure.c)⟩),(500382,⟨S.vp,some (.arr 3 (S.c.pts.map cr))⟩)]
abbrev Ee(S:CK):List (Nat×aL):=[(500002,⟨S.vh,some (.map (gC 0 S.c.vars) S.c.vars.length)⟩),(500003,⟨S.vs,some (.map (cz 0 S.c.seen) S.c.seen.length)⟩),(500005,⟨S.vv,some (.arr 4 (S.c.vars.map yI))⟩),(500191,⟨1,some (.arr 1 (S.W.set S.fn (lB S.vv S.c.vars)))⟩)]
theorem A1(S:CK)(rest:ab):al (ck S) rest=al (GV S ++Ee S) rest:=by
 funext k;simp only[ck,GV,Ee,List.cons_append,List.nil_append,al,aK];by_cases h0:k=500000
 ·subst h0;rfl
 by_cases h1:k=499904
 ·subst h1;rfl
 by_cases h2:k=500002
 ·subst h2;rfl
 by_cases h3:k=500003
 ·subst h3;rfl
 by_cases h4:k=500004
 ·subst h4;rfl
 by_cases h5:k=500005
 ·subst h5;rfl
 by_cases h6:k=500382
 ·subst h6;rfl
 by_cases h7:k=500191
 ·subst h7;rfl
 simp only[h0,h1,h2,h3,h4,h5,h6,h7,if_false]
noncomputable def OT{S:CK}{nm:List UInt8}{ty n st:Int}(c:HC 48 [aF, .d (.agg [.str nm, .int .u8 ty, .int .i64 n, .int .i64 st])] (ck S) [.int .i64 (S.c.vars.length:Int)] (ck (S.add ⟨nm,ty,n,st⟩))):fC Pg:=
 ⟨48,[aF, .d (.agg [.str nm, .int .u8 ty, .int .i64 n, .int .i64 st])],GV S ++Ee S,[.int .i64 (S.c.vars.length:Int)].map .d,Ee (S.add ⟨nm,ty,n,st⟩),B8 (A:=GV S) (B:=Ee S) rfl rfl fun rest=>by
  have:=c rest;rw[A1,A1]at this;exact this⟩
section
variable{S:CK}(h:CKok S){fs:List Fn}(i:Nat)(fnm:List UInt8)(ps:List Pm)(res:Int)(bd:List bt)(fp:Int)(k:Nat)
include h
theorem Mx(hi:decide (k<(ps.map jH).length)=false):RE 69 (lO 27 5) (It fs i ps k) (ck S ++fB fnm ps res bd fp) (.exit 2) (Ed fs i) (ck S ++fB fnm ps res bd fp):=
 dD aB named {hint:=qT 27 [(37,mU Pg k (ps.map jH).length false hi)]} 2000 27 2000 69 1000000 ([]) (gD h h rfl rfl rfl rfl rfl rfl) (by kernel_rfl) (by kernel_rfl) (fun _=>by kernel_rfl)
theorem OU(hi:decide (k<(ps.map jH).length)=true)(nm:List UInt8)(ty p:Int)(hx:ps[k]? =some ⟨nm,ty,p⟩)(hk:k<1000000)(hn:(S.c.vars.any fun v=>v.nm==nm)=false)(hs:eD nm S.c.seen 0=none)(h':CKok (S.add ⟨nm,ty,0,0⟩))(hq:bP S.c.vars.length S.c.sure.l 0=none):
    RE 69 (lO 27 5) (It fs i ps k) (ck S ++fB fnm ps res bd fp) .normal (It fs i ps (k+1)) (GB (S.add ⟨nm,ty,0,0⟩) (aZ S.c.sure.l ++[(.int .i64 (S.c.vars.length:Int), .agg [],S.c.sure.c)]) (S.c.sure.c+1) ++fB fnm ps res bd fp):=
 dD aB named {hint:=qT 27 [(37,mU Pg k (ps.map jH).length true hi),(38,Oh Pg ps k _ hx),(107012,lC Pg S.c.vars.length S.c.sure.l none hq),(52,dL Pg k (by omega))],calls:=tC [(27,50,3035,OT (Gz h nm ty 0 0 hn hs h'))]} 2000 27 2000 69 1000000 ([]) (Mw h h' _ _ rfl rfl rfl rfl) (by kernel_rfl) (by kernel_rfl) (fun _=>by kernel_rfl)
end
def Rv(p:Pm):Vr:=⟨p.nm,p.ty,0,0⟩
def CS.par(c:CS)(p:Pm):CS:={c.add (Rv p)with sure:=c.sure.put c.vars.length}
theorem Iu{fs:List Fn}(i:Nat)(fnm:List UInt8)(ps:List Pm)(res:Int)(bd:List bt)(fp:Int)(hps:(ps.map (·.nm)).Nodup)(hl:ps.length≤6)(hnm:∀p∈ps,p.nm.length≤1000000):
    ∀(d k:Nat)(S:CK),ps.length-k=d→k≤ps.length→CKok S→S.c.vars.map (·.nm)=(ps.take k).map (·.nm)→
    ∃S',Nx S S' ((ps.drop k).foldl CS.par S.c)∧∀(rest:ab)(X:cf),X.P=Pg→X.N=69→LW X (lO 27 5) ⟨an (It fs i ps k),al (ck S ++fB fnm ps res bd fp) rest⟩ fun e' S2=>e'= .exit 2∧S2=⟨an (Ed fs i),al (ck S' ++fB fnm ps res bd fp) rest⟩
 |0,k,S,hd,hk,h,hv=>by
  have:k=ps.length:=by omega
  subst this;rw[List.drop_length];exact⟨S,h.nx,fun rest X hP hN=>aY (Mx h i fnm ps res bd fp ps.length (by simp) rest X hP hN) (by simp)⟩
 |d+1,k,S,hd,hk,h,hv=>by
  have hlt:k<ps.length:=by omega
  have hx:ps[k]? =some ps[k]:=List.getElem?_eq_getElem hlt;have hm:ps[k]∈ps:=List.getElem_mem hlt;have htk:ps.take (k+1)=ps.take k ++[ps[k]]:=by rw[List.take_add_one,hx];rfl
  rw[List.drop_eq_getElem_cons hlt];generalize ps[k]=x at hx hm htk
  have hvl:S.c.vars.length=k:=by
   have:=congrArg List.length hv;rw[List.length_map,List.length_map,List.length_take,Nat.min_eq_left (by omega)]at this;exact this
  have hn:(S.c.vars.any fun v=>v.nm==x.nm)=false:=by
   rw[List.any_eq_false];intro v hv2 e
   have h1:x.nm∈(ps.take k).map (·.nm):=by
    rw[←hv,←eq_of_beq e];exact List.mem_map.2 ⟨v,hv2,rfl⟩
   have h2:((ps.take (k+1)).map (·.nm)).Nodup:=(List.Sublist.map _ (List.take_sublist _ _)).nodup hps;rw[htk,List.map_append,List.nodup_append]at h2;exact h2.2.2 _ h1 _ (by simp) rfl
  obtain⟨nm,ty,p⟩:=x;have h':=zN h (v:=⟨nm,ty,0,0⟩) (hnm _ hm) hn (by omega);have hq:bP S.c.vars.length S.c.sure.l 0=none:=ke fun p hp e=>by have:=h.sv p hp;omega
  have h2:=vX h' S.c.vars.length (by simp[CK.add,CS.add])
  obtain⟨S',nx,c⟩:=Iu (fs:=fs) i fnm ps res bd fp hps hl hnm d (k+1) ((S.add ⟨nm,ty,0,0⟩).put S.c.vars.length) (by omega) hlt h2 (by
   rw[htk];show(S.c.vars ++[_]).map _=_;rw[List.map_append,List.map_append,hv];rfl)
  refine⟨S',⟨nx.ok,nx.c,nx.fs,nx.fn,nx.deep,nx.W,List.IsPrefix.trans (List.prefix_append _ _) nx.vars⟩,fun rest X hP hN=>aX (OU h i fnm ps res bd fp k (by simpa using hlt) nm ty p hx (by omega) hn (xP h hn) h' hq rest X hP hN) ?_⟩;have:=c rest X hP hN;rw[←vW (S:=S.add ⟨nm,ty,0,0⟩) (i:=S.c.vars.length) hq]at this;exact this
end Go.Avm
namespace Go.Avm
open Go.Proofs
def iM(P:Program)(n:Nat):bX P:= .val (dB (decide ((n:Int)≤(n:Int)))) (dB true) (by simp)
def iO(P:Program)(n:Nat):bX P:= .val (dB (decide (((n+1:Nat):Int)≤(n:Int)))) (dB false) (by
 congr 2;rw[decide_eq_false_iff_not];omega)
def ef(P:Program)(n:Nat):bX P:= .inb (n:Int) (n+1) (by omega) (by simp)
def eg(P:Program)(l:List AV)(x:AV)(n:Nat)(h:l.length=n):bX P:= .elt (l.take n ++[x]) (0+(n:Int).toNat) x (by
 rw[List.take_of_length_le (by omega),Nat.zero_add,Int.toNat_natCast,List.getElem?_append_right (by omega)];simp[h])
def CK.ptd(S:CK)(x:Pt):CK:={S with c:={S.c with pts:=S.c.pts ++[x]},vp:=S.vp+1}
abbrev wd(S:CK)(qe:List (D×D×Nat))(qc:Nat)(l:List AV):List (Nat×aL):=
 [(500000,⟨1,some (.arr 1 [.mp 499904 1, .d (.ro (S.fs.map de)), .sl 500191 1 0 S.fs.length 1, .sl 500382 (S.vp+1) 0 (S.c.pts.length+1) 3,dN S.fn, .mp 500002 S.vh, .mp 500003 S.vs, .mp 500004 S.vq,dI S.deep])⟩),(499904,⟨1,some (.map (kz 0 S.fs) S.fs.length)⟩),(500002,⟨S.vh,some (.map (gC 0 S.c.vars) S.c.vars.length)⟩),(500003,⟨S.vs,some (.map (cz 0 S.c.seen) S.c.seen.length)⟩),
  (500004,⟨S.vq,some (.map qe qc)⟩),(500005,⟨S.vv,some (.arr 4 (S.c.vars.map yI))⟩),(500382,⟨S.vp+1,some (.arr 3 l)⟩),(500191,⟨1,some (.arr 1 (S.W.set S.fn (lB S.vv S.c.vars)))⟩)]
theorem J5(S:CK)(x:Pt):wd S (aZ S.c.sure.l) S.c.sure.c ((S.c.pts.map cr).take S.c.pts.length ++[cr x])=ck (S.ptd x):=by
 have e1:(S.c.pts.map cr).take S.c.pts.length=S.c.pts.map cr:=List.take_of_length_le (by simp);simp only[wd,ck,AL,CK.ptd,e1,List.length_append,List.length_cons,List.length_nil,List.map_append,List.map_cons,List.map_nil,Nat.zero_add]
theorem bz{S:CK}(hm:CKok (S.ptd eC)):HC 103 [aF] (wd S (aZ S.c.sure.l) S.c.sure.c ((S.c.pts.map cr).take S.c.pts.length ++[cr eC])) [H6 (S.c.pt S.fn)] (wd S (aZ S.c.sure.l) S.c.sure.c ((S.c.pts.map cr).take S.c.pts.length ++[cr eC])):=by
 rw[J5];exact JB hm
abbrev Ef(S:CK)(qe:List (D×D×Nat))(qc:Nat):List (Nat×aL):=wd S qe qc (((S.c.pts.map cr).take S.c.pts.length ++[cr eC]).set (0+(S.c.pts.length:Int).toNat) (.d (H6 (S.c.pt S.fn))))
abbrev ip(S:CK):List (Nat×aL):=Ef S (aZ S.c.sure.l) S.c.sure.c
def CK.at1(S:CK):CK:=S.ptd (S.c.pt S.fn)
theorem xX(S:CK):((S.c.pts.map cr).take S.c.pts.length ++[cr eC]).set (0+(S.c.pts.length:Int).toNat) (.d (H6 (S.c.pt S.fn)))=(S.c.pts ++[S.c.pt S.fn]).map cr:=by
 have e1:(S.c.pts.map cr).take S.c.pts.length=S.c.pts.map cr:=List.take_of_length_le (by simp);rw[e1,Nat.zero_add,Int.toNat_natCast,List.set_append_right _ _ (by simp)];simp[cr]
theorem cQ(S:CK):ip S=ck S.at1:=by
 show wd S (aZ S.c.sure.l) S.c.sure.c (((S.c.pts.map cr).take S.c.pts.length ++[cr eC]).set (0+(S.c.pts.length:Int).toNat) (.d (H6 (S.c.pt S.fn))))=_;rw[xX];simp only[wd,ck,AL,CK.at1,CK.ptd,List.length_append,List.length_cons,List.length_nil,Nat.zero_add]
theorem A2(S:CK){i:Nat}(hi:bP i S.c.sure.l 0=none):Ef S (aZ S.c.sure.l ++[(.int .i64 (i:Int), .agg [],S.c.sure.c)]) (S.c.sure.c+1)=ck (S.at1.put i):=by
 have e:S.c.sure.put i=⟨S.c.sure.l ++[(i,S.c.sure.c)],S.c.sure.c+1⟩:=by
  unfold SureL.put SureL.has;rw[hi];rfl
 show wd S _ _ (((S.c.pts.map cr).take S.c.pts.length ++[cr eC]).set (0+(S.c.pts.length:Int).toNat) (.d (H6 (S.c.pt S.fn))))=_;rw[xX];simp only[wd,ck,AL,CK.at1,CK.ptd,CK.put,e,aZ,List.map_append,List.map_cons,List.map_nil,List.length_append,List.length_cons,List.length_nil,Nat.zero_add]
theorem xY{x:Nat}:∀{l:List (Nat×Nat)}{j i:Nat},bP x l j=some (j+i)→d6 (.int .i64 (x:Int)) (.agg []) i (aZ l)=aZ l
 |[],_,_,h=>by cases h
 |e::r,j,i,h=>by
  simp only[bP]at h;cases hb:(x==e.1)with
  |true=>
   rw[hb]at h;simp only[cond_true,Option.some.injEq]at h;have hi:i=0:=by omega
   subst hi;rw[eq_of_beq hb];rfl
  |false=>
   rw[hb]at h;simp only[cond_false]at h
   have hge:∀{l:List (Nat×Nat)}{j k:Nat},bP x l j=some k→j≤k:=fun {l}=>by
    induction l with
    |nil=>intro j k h;cases h
    |cons a r ih=>
     intro j k h;simp only[bP]at h;cases hc:(x==a.1)with
     |true=>rw[hc]at h;simp at h;omega
     |false=>rw[hc]at h;have:=ih h;omega
   have:=hge h;obtain⟨i',rfl⟩:∃i',i=i'+1:=⟨i-1,by omega⟩
   show _::d6 _ _ i' (aZ r)=_::aZ r;rw[xY (i:=i') (j:=j+1) (by rw[h];congr 1;omega)]
theorem A3(S:CK){i j:Nat}(hi:bP i S.c.sure.l 0=some j):Ef S (d6 (.int .i64 (i:Int)) (.agg []) j (aZ S.c.sure.l)) S.c.sure.c=ck (S.at1.put i):=by
 have e:S.c.sure.put i=S.c.sure:=by
  unfold SureL.put SureL.has;rw[hi];rfl
 rw[xY (j:=0) (by rw[hi,Nat.zero_add])]
 have e2:S.at1.put i=S.at1:=by
  show({S.at1 with c:={S.at1.c with sure:=S.c.sure.put i}}:CK)=S.at1;rw[e];rfl
 rw[e2];exact cQ S
section
variable{S:CK}{f:Nat}{args rs:List AV}
theorem xZ(c:∀rest:ab,ay Pg f args (al (ck S.at1) rest) rs (al (ck S.at1) rest)):∀rest:ab,ay Pg f args (al (ip S) rest) rs (al (ip S) rest):=by
 rw[cQ];exact c
theorem OV{post:List (Nat×aL)}(c:∀rest:ab,ay Pg f args (al (ck S.at1) rest) rs (al post rest)):∀rest:ab,ay Pg f args (al (ip S) rest) rs (al post rest):=by
 rw[cQ];exact c
theorem J6{x:AV}{post:List (Nat×aL)}(c:HX f args (ck S.at1) x post):HX f args (ip S) x post:=by
 rw[cQ];exact c
theorem ol{p e:Int}(c:HX f args (ck S.at1) (aE p e) (ck S.at1)):HX f args (ip S) (aE p e) (ip S):=by
 rw[cQ];exact c
end
section
variable{S:CK}(h:CKok S)(hm:CKok (S.ptd eC))(nm:List UInt8)(ty n p:Int)(es:List Ex)(k1 o1:Int)(nm1:List UInt8)(n1 p1:Int)(xs1:List Ex)(k2 o2:Int)(nm2:List UInt8)(n2 p2:Int)(cd zs:List Ex)(bd el:List bt)
include h hm
set_option maxRecDepth 100000 in
theorem OW(h1:CKok S.at1)(k:Int)(e1:(k==1)=false)(e2:(k==2)=false)(e3:(k==3)=false)(e4:(k==4)=false)(e5:(k==5)=false)(e6:(k==6)=false)(e7:(k==7)=false)(e8:(k==8)=false):HC 76 [aF,eA k (S.c.pts.length:Int) nm ty n p es bd el] (ck S) [] (ip S):=
 ag aB named {hintB:=bj Pg [(76,15,3332,iM Pg S.c.pts.length),(76,24,4664, .apps (S.c.pts.map cr) S.c.pts.length 1 ⟨by simp,by have:=h.pts;omega⟩),(76,15,6588,iO Pg S.c.pts.length),(76,37,7920,ef Pg S.c.pts.length),(76,103010,8068,eg Pg (S.c.pts.map cr) (cr eC) S.c.pts.length (by simp)),(76,41,8512,qB e1),(76,46,8808,qB e2),(76,78,9104,qB e3),(76,100,9400,qB e4),(76,105,9696,qB e5),(76,127,9992,qB e6),(76,132,10288,qB e7),(76,141,10584,qB e8)],calls:=tC [(76,36,7920,bc rfl (bz hm))]} 2000 2000 _ 1000000 (cQ S▸aA h h1 rfl) (fun _=>by kernel_rfl)
set_option maxRecDepth 100000 in
theorem My{S':CK}(h':CKok S')(c:HC 104 [aF,eA 1 (S.c.pts.length:Int) nm ty n p es bd el] (ck S.at1) [] (ck S')):HC 76 [aF,eA 1 (S.c.pts.length:Int) nm ty n p es bd el] (ck S) [] (ck S'):=
 ag aB named {hintB:=bj Pg [(76,15,3332,iM Pg S.c.pts.length),(76,24,4664, .apps (S.c.pts.map cr) S.c.pts.length 1 ⟨by simp,by have:=h.pts;omega⟩),(76,15,6588,iO Pg S.c.pts.length),(76,37,7920,ef Pg S.c.pts.length),(76,103010,8068,eg Pg (S.c.pts.map cr) (cr eC) S.c.pts.length (by simp))],calls:=tC [(76,36,7920,bc rfl (bz hm)),(76,44,9104,af (OV c))]} 2000 2000 _ 1000000 (aA h h' rfl) (fun _=>by kernel_rfl)
set_option maxRecDepth 100000 in
theorem J7(g:Gv)(q r:Int)(c:HX 104 [aF,eA 1 (S.c.pts.length:Int) nm ty n p es bd el] (ck S.at1) (aE q r) (ct g)):HX 76 [aF,eA 1 (S.c.pts.length:Int) nm ty n p es bd el] (ck S) (aE q r) (ct g):=
 ae aB named {hintB:=bj Pg [(76,15,3332,iM Pg S.c.pts.length),(76,24,4664, .apps (S.c.pts.map cr) S.c.pts.length 1 ⟨by simp,by have:=h.pts;omega⟩),(76,15,6588,iO Pg S.c.pts.length),(76,37,7920,ef Pg S.c.pts.length),(76,103010,8068,eg Pg (S.c.pts.map cr) (cr eC) S.c.pts.length (by simp))],calls:=tC [(76,36,7920,bc rfl (bz hm))],pans:=au Pg [(76,6,8808,⟨2,some (be (J6 c)),[]⟩)]} 2000 2000 _ 1000000 (kf h rfl) (by kernel_rfl) (fun _=>by kernel_rfl)
set_option maxRecDepth 100000 in
theorem Mz{S':CK}(h':CKok S')(c:HC 108 [aF,eA 4 (S.c.pts.length:Int) nm ty n p es bd el] (ck S.at1) [] (ck S')):HC 76 [aF,eA 4 (S.c.pts.length:Int) nm ty n p es bd el] (ck S) [] (ck S'):=
 ag aB named {hintB:=bj Pg [(76,15,3332,iM Pg S.c.pts.length),(76,24,4664, .apps (S.c.pts.map cr) S.c.pts.length 1 ⟨by simp,by have:=h.pts;omega⟩),(76,15,6588,iO Pg S.c.pts.length),(76,37,7920,ef Pg S.c.pts.length),(76,103010,8068,eg Pg (S.c.pts.map cr) (cr eC) S.c.pts.length (by simp))],calls:=tC [(76,36,7920,bc rfl (bz hm)),(76,103,9992,af (OV c))]} 2000 2000 _ 1000000 (aA h h' rfl) (fun _=>by kernel_rfl)
set_option maxRecDepth 100000 in
theorem J8(g:Gv)(q r:Int)(c:HX 108 [aF,eA 4 (S.c.pts.length:Int) nm ty n p es bd el] (ck S.at1) (aE q r) (ct g)):HX 76 [aF,eA 4 (S.c.pts.length:Int) nm ty n p es bd el] (ck S) (aE q r) (ct g):=
 ae aB named {hintB:=bj Pg [(76,15,3332,iM Pg S.c.pts.length),(76,24,4664, .apps (S.c.pts.map cr) S.c.pts.length 1 ⟨by simp,by have:=h.pts;omega⟩),(76,15,6588,iO Pg S.c.pts.length),(76,37,7920,ef Pg S.c.pts.length),(76,103010,8068,eg Pg (S.c.pts.map cr) (cr eC) S.c.pts.length (by simp))],calls:=tC [(76,36,7920,bc rfl (bz hm))],pans:=au Pg [(76,17,9696,⟨2,some (be (J6 c)),[]⟩)]} 2000 2000 _ 1000000 (kf h rfl) (by kernel_rfl) (fun _=>by kernel_rfl)
set_option maxRecDepth 100000 in
theorem MA(h1:CKok S.at1)(c:HC 111 [aF,eA 6 (S.c.pts.length:Int) nm ty n p es bd el] (ck S.at1) [] (ck S.at1)):HC 76 [aF,eA 6 (S.c.pts.length:Int) nm ty n p es bd el] (ck S) [] (ip S):=
 ag aB named {hintB:=bj Pg [(76,15,3332,iM Pg S.c.pts.length),(76,24,4664, .apps (S.c.pts.map cr) S.c.pts.length 1 ⟨by simp,by have:=h.pts;omega⟩),(76,15,6588,iO Pg S.c.pts.length),(76,37,7920,ef Pg S.c.pts.length),(76,103010,8068,eg Pg (S.c.pts.map cr) (cr eC) S.c.pts.length (by simp))],calls:=tC [(76,36,7920,bc rfl (bz hm)),(76,130,10584,bc rfl (xZ c))]} 2000 2000 _ 1000000 (cQ S▸aA h h1 rfl) (fun _=>by kernel_rfl)
set_option maxRecDepth 100000 in
theorem J9(h1:CKok S.at1)(q r:Int)(c:HX 111 [aF,eA 6 (S.c.pts.length:Int) nm ty n p es bd el] (ck S.at1) (aE q r) (ck S.at1)):HX 76 [aF,eA 6 (S.c.pts.length:Int) nm ty n p es bd el] (ck S) (aE q r) (ip S):=
 ae aB named {hintB:=bj Pg [(76,15,3332,iM Pg S.c.pts.length),(76,24,4664, .apps (S.c.pts.map cr) S.c.pts.length 1 ⟨by simp,by have:=h.pts;omega⟩),(76,15,6588,iO Pg S.c.pts.length),(76,37,7920,ef Pg S.c.pts.length),(76,103010,8068,eg Pg (S.c.pts.map cr) (cr eC) S.c.pts.length (by simp))],calls:=tC [(76,36,7920,bc rfl (bz hm))],pans:=au Pg [(76,24,10288,⟨2,some (be (ol c)),[]⟩)]} 2000 2000 _ 1000000 (cQ S▸aA h h1 rfl) (by kernel_rfl) (fun _=>by kernel_rfl)
set_option maxRecDepth 100000 in
theorem MB(h1:CKok S.at1)(t:Int)(w:lZ S.at1 (.mk k1 o1 nm1 n1 p1 xs1) [1,2] t):HC 76 [aF,eA 7 (S.c.pts.length:Int) nm ty n p (.mk k1 o1 nm1 n1 p1 xs1::zs) bd el] (ck S) [] (ip S):=
 ag aB named {hintB:=bj Pg [(76,15,3332,iM Pg S.c.pts.length),(76,24,4664, .apps (S.c.pts.map cr) S.c.pts.length 1 ⟨by simp,by have:=h.pts;omega⟩),(76,15,6588,iO Pg S.c.pts.length),(76,37,7920,ef Pg S.c.pts.length),(76,103010,8068,eg Pg (S.c.pts.map cr) (cr eC) S.c.pts.length (by simp))],calls:=tC [(76,36,7920,bc rfl (bz hm)),(76,139,11472,bc rfl (xZ (wO w 11462)))]} 2000 2000 _ 1000000 (cQ S▸aA h h1 rfl) (fun _=>by kernel_rfl)
set_option maxRecDepth 100000 in
theorem Ka(h1:CKok S.at1)(q r:Int)(w:iZ S.at1 (.mk k1 o1 nm1 n1 p1 xs1) [1,2] q r):HX 76 [aF,eA 7 (S.c.pts.length:Int) nm ty n p (.mk k1 o1 nm1 n1 p1 xs1::zs) bd el] (ck S) (aE q r) (ip S):=
 ae aB named {hintB:=bj Pg [(76,15,3332,iM Pg S.c.pts.length),(76,24,4664, .apps (S.c.pts.map cr) S.c.pts.length 1 ⟨by simp,by have:=h.pts;omega⟩),(76,15,6588,iO Pg S.c.pts.length),(76,37,7920,ef Pg S.c.pts.length),(76,103010,8068,eg Pg (S.c.pts.map cr) (cr eC) S.c.pts.length (by simp))],calls:=tC [(76,36,7920,bc rfl (bz hm))],pans:=au Pg [(76,26,10584,⟨6,some (be (ol (wP w 11462))),[]⟩)]} 2000 2000 _ 1000000 (cQ S▸aA h h1 rfl) (by kernel_rfl) (fun _=>by kernel_rfl)
set_option maxRecDepth 100000 in
theorem MC(h1:CKok S.at1)(t:Int)(c:HC 112 [aF,hS k1 o1 nm1 n1 p1 xs1] (ck S.at1) [gc t] (ck S.at1)):HC 76 [aF,eA 8 (S.c.pts.length:Int) nm ty n p (.mk k1 o1 nm1 n1 p1 xs1::zs) bd el] (ck S) [] (ip S):=
 ag aB named {hintB:=bj Pg [(76,15,3332,iM Pg S.c.pts.length),(76,24,4664, .apps (S.c.pts.map cr) S.c.pts.length 1 ⟨by simp,by have:=h.pts;omega⟩),(76,15,6588,iO Pg S.c.pts.length),(76,37,7920,ef Pg S.c.pts.length),(76,103010,8068,eg Pg (S.c.pts.map cr) (cr eC) S.c.pts.length (by simp))],calls:=tC [(76,36,7920,bc rfl (bz hm)),(76,147,11620,bc rfl (xZ c))]} 2000 2000 _ 1000000 (cQ S▸aA h h1 rfl) (fun _=>by kernel_rfl)
set_option maxRecDepth 100000 in
theorem Kb(h1:CKok S.at1)(q r:Int)(c:HX 112 [aF,hS k1 o1 nm1 n1 p1 xs1] (ck S.at1) (aE q r) (ck S.at1)):HX 76 [aF,eA 8 (S.c.pts.length:Int) nm ty n p (.mk k1 o1 nm1 n1 p1 xs1::zs) bd el] (ck S) (aE q r) (ip S):=
 ae aB named {hintB:=bj Pg [(76,15,3332,iM Pg S.c.pts.length),(76,24,4664, .apps (S.c.pts.map cr) S.c.pts.length 1 ⟨by simp,by have:=h.pts;omega⟩),(76,15,6588,iO Pg S.c.pts.length),(76,37,7920,ef Pg S.c.pts.length),(76,103010,8068,eg Pg (S.c.pts.map cr) (cr eC) S.c.pts.length (by simp))],calls:=tC [(76,36,7920,bc rfl (bz hm))],pans:=au Pg [(76,28,10880,⟨5,some (be (ol c)),[]⟩)]} 2000 2000 _ 1000000 (cQ S▸aA h h1 rfl) (by kernel_rfl) (fun _=>by kernel_rfl)
set_option maxRecDepth 100000 in
theorem OX(h1:CKok S.at1)(q r:Int)(a:HX 107 [aF, .d (.str nm),dI p] (ck S.at1) (aE q r) (ck S.at1)):HX 76 [aF,eA 3 (S.c.pts.length:Int) nm ty n p es bd el] (ck S) (aE q r) (ip S):=
 ae aB named {hintB:=bj Pg [(76,15,3332,iM Pg S.c.pts.length),(76,24,4664, .apps (S.c.pts.map cr) S.c.pts.length 1 ⟨by simp,by have:=h.pts;omega⟩),(76,15,6588,iO Pg S.c.pts.length),(76,37,7920,ef Pg S.c.pts.length),(76,103010,8068,eg Pg (S.c.pts.map cr) (cr eC) S.c.pts.length (by simp))],calls:=tC [(76,36,7920,bc rfl (bz hm))],pans:=au Pg [(76,13,9400,⟨5,some (be (ol a)),[]⟩)]} 2000 2000 _ 1000000 (cQ S▸aA h h1 rfl) (by kernel_rfl) (fun _=>by kernel_rfl)
set_option maxRecDepth 100000 in
theorem OY(h1:CKok S.at1)(a:HC 107 [aF, .d (.str nm),dI p] (ck S.at1) [] (ck S.at1))(q r:Int)(w:iZ S.at1 (.mk k1 o1 nm1 n1 p1 xs1) [1] q r):HX 76 [aF,eA 3 (S.c.pts.length:Int) nm ty n p (.mk k1 o1 nm1 n1 p1 xs1::zs) bd el] (ck S) (aE q r) (ip S):=
 ae aB named {hintB:=bj Pg [(76,15,3332,iM Pg S.c.pts.length),(76,24,4664, .apps (S.c.pts.map cr) S.c.pts.length 1 ⟨by simp,by have:=h.pts;omega⟩),(76,15,6588,iO Pg S.c.pts.length),(76,37,7920,ef Pg S.c.pts.length),(76,103010,8068,eg Pg (S.c.pts.map cr) (cr eC) S.c.pts.length (by simp))],calls:=tC [(76,36,7920,bc rfl (bz hm)),(76,84,10140,bc rfl (xZ a))],pans:=au Pg [(76,14,10140,⟨6,some (be (ol (wP w 10970))),[]⟩)]} 2000 2000 _ 1000000 (cQ S▸aA h h1 rfl) (by kernel_rfl) (fun _=>by kernel_rfl)
set_option maxRecDepth 100000 in
theorem OZ(h1:CKok S.at1)(a:HC 107 [aF, .d (.str nm),dI p] (ck S.at1) [] (ck S.at1))(t:Int)(w:lZ S.at1 (.mk k1 o1 nm1 n1 p1 xs1) [1] t)(q r:Int)(w2:iZ S.at1 (.mk k2 o2 nm2 n2 p2 cd) [1] q r):HX 76 [aF,eA 3 (S.c.pts.length:Int) nm ty n p (.mk k1 o1 nm1 n1 p1 xs1:: .mk k2 o2 nm2 n2 p2 cd::zs) bd el] (ck S) (aE q r) (ip S):=
 ae aB named {hintB:=bj Pg [(76,15,3332,iM Pg S.c.pts.length),(76,24,4664, .apps (S.c.pts.map cr) S.c.pts.length 1 ⟨by simp,by have:=h.pts;omega⟩),(76,15,6588,iO Pg S.c.pts.length),(76,37,7920,ef Pg S.c.pts.length),(76,103010,8068,eg Pg (S.c.pts.map cr) (cr eC) S.c.pts.length (by simp))],calls:=tC [(76,36,7920,bc rfl (bz hm)),(76,84,10140,bc rfl (xZ a)),(76,91,11028,bc rfl (xZ (wO w 10970)))],pans:=au Pg [(76,15,11028,⟨6,some (be (ol (wP w2 11865))),[]⟩)]} 2000 2000 _ 1000000 (cQ S▸aA h h1 rfl) (by kernel_rfl) (fun _=>by kernel_rfl)
set_option maxRecDepth 100000 in
theorem MD(h1:CKok S.at1)(a:HC 107 [aF, .d (.str nm),dI p] (ck S.at1) [] (ck S.at1))(t:Int)(w:lZ S.at1 (.mk k1 o1 nm1 n1 p1 xs1) [1] t)(t2:Int)(w2:lZ S.at1 (.mk k2 o2 nm2 n2 p2 cd) [1] t2):HC 76 [aF,eA 3 (S.c.pts.length:Int) nm ty n p (.mk k1 o1 nm1 n1 p1 xs1:: .mk k2 o2 nm2 n2 p2 cd::zs) bd el] (ck S) [] (ip S):=
 ag aB named {hintB:=bj Pg [(76,15,3332,iM Pg S.c.pts.length),(76,24,4664, .apps (S.c.pts.map cr) S.c.pts.length 1 ⟨by simp,by have:=h.pts;omega⟩),(76,15,6588,iO Pg S.c.pts.length),(76,37,7920,ef Pg S.c.pts.length),(76,103010,8068,eg Pg (S.c.pts.map cr) (cr eC) S.c.pts.length (by simp))],calls:=tC [(76,36,7920,bc rfl (bz hm)),(76,84,10140,bc rfl (xZ a)),(76,91,11028,bc rfl (xZ (wO w 10970))),(76,98,11916,bc rfl (xZ (wO w2 11865)))]} 2000 2000 _ 1000000 (cQ S▸aA h h1 rfl) (fun _=>by kernel_rfl)
set_option maxRecDepth 100000 in
theorem O0(h1:CKok S.at1)(q r:Int)(a:HX 105 [aF, .d (.str nm),dI p] (ck S.at1) (aE q r) (ck S.at1)):HX 76 [aF,eA 2 (S.c.pts.length:Int) nm ty n p es bd el] (ck S) (aE q r) (ip S):=
 ae aB named {hintB:=bj Pg [(76,15,3332,iM Pg S.c.pts.length),(76,24,4664, .apps (S.c.pts.map cr) S.c.pts.length 1 ⟨by simp,by have:=h.pts;omega⟩),(76,15,6588,iO Pg S.c.pts.length),(76,37,7920,ef Pg S.c.pts.length),(76,103010,8068,eg Pg (S.c.pts.map cr) (cr eC) S.c.pts.length (by simp))],calls:=tC [(76,36,7920,bc rfl (bz hm))],pans:=au Pg [(76,8,9104,⟨5,some (be (ol a)),[]⟩)]} 2000 2000 _ 1000000 (cQ S▸aA h h1 rfl) (by kernel_rfl) (fun _=>by kernel_rfl)
set_option maxRecDepth 100000 in
theorem O1(h1:CKok S.at1)(i:Nat)(v:Vr)(a:HC 105 [aF, .d (.str nm),dI p] (ck S.at1) [.int .i64 (i:Int),wC v] (ck S.at1))(hv:(v.ty !=3)=false):HX 76 [aF,eA 2 (S.c.pts.length:Int) nm ty n p es bd el] (ck S) (aE p 8) (ip S):=
 ae aB named {hintB:=bj Pg [(76,15,3332,iM Pg S.c.pts.length),(76,24,4664, .apps (S.c.pts.map cr) S.c.pts.length 1 ⟨by simp,by have:=h.pts;omega⟩),(76,15,6588,iO Pg S.c.pts.length),(76,37,7920,ef Pg S.c.pts.length),(76,103010,8068,eg Pg (S.c.pts.map cr) (cr eC) S.c.pts.length (by simp)),(76,58,11028,qB hv)],calls:=tC [(76,36,7920,bc rfl (bz hm)),(76,53,9844,bc rfl (xZ a))],pans:=au Pg [(76,9,10732,⟨5,some (be (bU p 8)),[]⟩)]} 2000 2000 _ 1000000 (cQ S▸aA h h1 rfl) (by kernel_rfl) (fun _=>by kernel_rfl)
set_option maxRecDepth 100000 in
theorem O2(h1:CKok S.at1)(i:Nat)(v:Vr)(a:HC 105 [aF, .d (.str nm),dI p] (ck S.at1) [.int .i64 (i:Int),wC v] (ck S.at1))(hv:(v.ty !=3)=true)(q r:Int)(w:iZ S.at1 (.mk k1 o1 nm1 n1 p1 xs1) [v.ty] q r):HX 76 [aF,eA 2 (S.c.pts.length:Int) nm ty n p (.mk k1 o1 nm1 n1 p1 xs1::zs) bd el] (ck S) (aE q r) (ip S):=
 ae aB named {hintB:=bj Pg [(76,15,3332,iM Pg S.c.pts.length),(76,24,4664, .apps (S.c.pts.map cr) S.c.pts.length 1 ⟨by simp,by have:=h.pts;omega⟩),(76,15,6588,iO Pg S.c.pts.length),(76,37,7920,ef Pg S.c.pts.length),(76,103010,8068,eg Pg (S.c.pts.map cr) (cr eC) S.c.pts.length (by simp)),(76,58,11028,qB hv)],calls:=tC [(76,36,7920,bc rfl (bz hm)),(76,53,9844,bc rfl (xZ a)),(76,61,11472,bc rfl (aO p 8))],pans:=au Pg [(76,10,11472,⟨8,some (be (ol (wP w 12577))),[]⟩)]} 2000 2000 _ 1000000 (cQ S▸aA h h1 rfl) (by kernel_rfl) (fun _=>by kernel_rfl)
set_option maxRecDepth 100000 in
theorem Kc(h1:CKok S.at1)(i:Nat)(v:Vr)(a:HC 105 [aF, .d (.str nm),dI p] (ck S.at1) [.int .i64 (i:Int),wC v] (ck S.at1))(hv:(v.ty !=3)=true)(t:Int)(w:lZ S.at1 (.mk k1 o1 nm1 n1 p1 xs1) [v.ty] t)(hi:bP i S.c.sure.l 0=none)(h2:CKok (S.at1.put i)):HC 76 [aF,eA 2 (S.c.pts.length:Int) nm ty n p (.mk k1 o1 nm1 n1 p1 xs1::zs) bd el] (ck S) [] (Ef S (aZ S.c.sure.l ++[(.int .i64 (i:Int), .agg [],S.c.sure.c)]) (S.c.sure.c+1)):=
 ag aB named {hintB:=bj Pg [(76,15,3332,iM Pg S.c.pts.length),(76,24,4664, .apps (S.c.pts.map cr) S.c.pts.length 1 ⟨by simp,by have:=h.pts;omega⟩),(76,15,6588,iO Pg S.c.pts.length),(76,37,7920,ef Pg S.c.pts.length),(76,103010,8068,eg Pg (S.c.pts.map cr) (cr eC) S.c.pts.length (by simp)),(76,58,11028,qB hv),(76,111006,13544,lC Pg i S.c.sure.l (none) hi)],calls:=tC [(76,36,7920,bc rfl (bz hm)),(76,53,9844,bc rfl (xZ a)),(76,61,11472,bc rfl (aO p 8)),(76,70,12656,bc rfl (xZ (wO w 12577)))]} 2000 2000 _ 1000000 (A2 S hi▸aA h h2 rfl) (fun _=>by kernel_rfl)
set_option maxRecDepth 100000 in
theorem Kd(h1:CKok S.at1)(i:Nat)(v:Vr)(a:HC 105 [aF, .d (.str nm),dI p] (ck S.at1) [.int .i64 (i:Int),wC v] (ck S.at1))(hv:(v.ty !=3)=true)(t:Int)(w:lZ S.at1 (.mk k1 o1 nm1 n1 p1 xs1) [v.ty] t)(j:Nat)(hi:bP i S.c.sure.l 0=some j)(h2:CKok (S.at1.put i)):HC 76 [aF,eA 2 (S.c.pts.length:Int) nm ty n p (.mk k1 o1 nm1 n1 p1 xs1::zs) bd el] (ck S) [] (Ef S (d6 (.int .i64 (i:Int)) (.agg []) j (aZ S.c.sure.l)) S.c.sure.c):=
 ag aB named {hintB:=bj Pg [(76,15,3332,iM Pg S.c.pts.length),(76,24,4664, .apps (S.c.pts.map cr) S.c.pts.length 1 ⟨by simp,by have:=h.pts;omega⟩),(76,15,6588,iO Pg S.c.pts.length),(76,37,7920,ef Pg S.c.pts.length),(76,103010,8068,eg Pg (S.c.pts.map cr) (cr eC) S.c.pts.length (by simp)),(76,58,11028,qB hv),(76,111006,13544,lC Pg i S.c.sure.l (some j) hi)],calls:=tC [(76,36,7920,bc rfl (bz hm)),(76,53,9844,bc rfl (xZ a)),(76,61,11472,bc rfl (aO p 8)),(76,70,12656,bc rfl (xZ (wO w 12577)))]} 2000 2000 _ 1000000 (A3 S hi▸aA h h2 rfl) (fun _=>by kernel_rfl)
set_option maxRecDepth 100000 in
theorem O3(h1:CKok S.at1)(q r:Int)(w:iZ S.at1 (.mk k1 o1 nm1 n1 p1 xs1) [2] q r):HX 76 [aF,eA 5 (S.c.pts.length:Int) nm ty n p (.mk k1 o1 nm1 n1 p1 xs1::zs) bd el] (ck S) (aE q r) (ip S):=
 ae aB named {hintB:=bj Pg [(76,15,3332,iM Pg S.c.pts.length),(76,24,4664, .apps (S.c.pts.map cr) S.c.pts.length 1 ⟨by simp,by have:=h.pts;omega⟩),(76,15,6588,iO Pg S.c.pts.length),(76,37,7920,ef Pg S.c.pts.length),(76,103010,8068,eg Pg (S.c.pts.map cr) (cr eC) S.c.pts.length (by simp))],calls:=tC [(76,36,7920,bc rfl (bz hm))],pans:=au Pg [(76,19,9992,⟨6,some (be (ol (wP w 10843))),[]⟩)]} 2000 2000 _ 1000000 (cQ S▸aA h h1 rfl) (by kernel_rfl) (fun _=>by kernel_rfl)
set_option maxRecDepth 100000 in
theorem O4(t:Int)(w:lZ S.at1 (.mk k1 o1 nm1 n1 p1 xs1) [2] t)(g:Gv)(q r:Int)(c:HX 110 [aF, .d (.ro (dY bd))] (ck S.at1) (aE q r) (ct g)):HX 76 [aF,eA 5 (S.c.pts.length:Int) nm ty n p (.mk k1 o1 nm1 n1 p1 xs1::zs) bd el] (ck S) (aE q r) (ct g):=
 ae aB named {hintB:=bj Pg [(76,15,3332,iM Pg S.c.pts.length),(76,24,4664, .apps (S.c.pts.map cr) S.c.pts.length 1 ⟨by simp,by have:=h.pts;omega⟩),(76,15,6588,iO Pg S.c.pts.length),(76,37,7920,ef Pg S.c.pts.length),(76,103010,8068,eg Pg (S.c.pts.map cr) (cr eC) S.c.pts.length (by simp))],calls:=tC [(76,36,7920,bc rfl (bz hm)),(76,112,10880,bc rfl (xZ (wO w 10843))),(76,117,11472,af (mW S.vq (aZ S.c.sure.l) S.c.sure.c))],pans:=au Pg [(76,21,11620,⟨3,some (be (J6 c)),[]⟩)]} 2000 2000 _ 1000000 (kf h rfl) (by kernel_rfl) (fun _=>by kernel_rfl)
set_option maxRecDepth 100000 in
theorem ME(t:Int)(w:lZ S.at1 (.mk k1 o1 nm1 n1 p1 xs1) [2] t){S':CK}(h2:CKok (S'.sureAs S.c.sure (S'.vq+1)))(c:HC 110 [aF, .d (.ro (dY bd))] (ck S.at1) [] (ck S')):HC 76 [aF,eA 5 (S.c.pts.length:Int) nm ty n p (.mk k1 o1 nm1 n1 p1 xs1::zs) bd el] (ck S) [] (ck (S'.sureAs S.c.sure (S'.vq+1))):=
 cp aB named {hintB:=bj Pg [(76,15,3332,iM Pg S.c.pts.length),(76,24,4664, .apps (S.c.pts.map cr) S.c.pts.length 1 ⟨by simp,by have:=h.pts;omega⟩),(76,15,6588,iO Pg S.c.pts.length),(76,37,7920,ef Pg S.c.pts.length),(76,103010,8068,eg Pg (S.c.pts.map cr) (cr eC) S.c.pts.length (by simp))],calls:=tC [(76,36,7920,bc rfl (bz hm)),(76,112,10880,bc rfl (xZ (wO w 10843))),(76,117,11472,af (mW S.vq (aZ S.c.sure.l) S.c.sure.c)),(76,121,12064,af (OV c))]} 2000 2000 _ 1000000 ([(500000,524292195335)]) (aA h h2 rfl) (fun _=>by kernel_rfl)
end
end Go.Avm
