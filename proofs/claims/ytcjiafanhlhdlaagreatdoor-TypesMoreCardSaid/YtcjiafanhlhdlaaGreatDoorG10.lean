/-
  Types: a let, whatever it says.
-/
import Derived.Test.YtcjiafanhlhdlaaGreatDoorG09
import Derived.Test.YtcjiafanhlhdlaaGreatDoorG07
import Derived.Test.YtcjiafanhlhdlaaGreatDoorG08
set_option linter.unusedVariables false
set_option linter.unusedSimpArgs false
set_option linter.unusedSectionVars false
namespace Go.Avm
open Go.Proofs
theorem tj{x:List UInt8}:∀{l:hQ}{j:Nat},(∀p∈l,p.1≠x)→eA x l j=none
 |[],_,_=>rfl
 |e::r,j,h=>by
  have h1:(x==e.1)=false:=beq_eq_false_iff_ne.2 (Ne.symm (h e (by simp)));simp only[eA,h1,cond_false];exact tj fun p hp=>h p (by simp[hp])
theorem kl{x:Nat}:∀{l:List (Nat×Nat)}{j:Nat},(∀p∈l,p.1≠x)→bQ x l j=none
 |[],_,_=>rfl
 |e::r,j,h=>by
  have h1:(x==e.1)=false:=beq_eq_false_iff_ne.2 (Ne.symm (h e (by simp)));simp only[bQ,h1,cond_false];exact kl fun p hp=>h p (by simp[hp])
theorem yF{S:CK}(h:CKok S){nm:List UInt8}(hn:(S.c.vars.any fun v=>v.nm==nm)=false):eA nm S.c.seen 0=none:=tj fun p hp e=>by
 have:=h.had p hp;rw[e,hn]at this;cases this
theorem AF{S:CK}(h:CKok S){v:Vr}(hl:v.nm.length≤1000000)(hn:(S.c.vars.any fun w=>w.nm==v.nm)=false)(hv:S.c.vars.length<255):CKok (S.add v) where
 fn:=h.fn
 W:=h.W
 dat:=h.dat
 len:=h.len
 par:=h.par
 vars:=by simp only[CK.add,CS.add,List.length_append,List.length_cons,List.length_nil];omega
 seen:=fun p hp=>by
  simp only[CK.add,CS.add,List.length_append,List.length_cons,List.length_nil,List.mem_append,List.mem_singleton]at hp ⊢;rcases hp with hp|rfl
  ·have:=h.seen p hp;omega
  ·simp
 inc:=by
  simp only[CK.add,CS.add,List.map_append,List.map_cons,List.map_nil];rw[List.pairwise_append];refine⟨h.inc,by simp,fun a ha b hb=> ?_⟩;obtain⟨p,hp,rfl⟩:=List.mem_map.1 ha;simp only[List.mem_singleton]at hb;subst hb;exact h.seen p hp
 nms:=by
  simp only[CK.add,CS.add,List.map_append,List.map_cons,List.map_nil];rw[List.nodup_append];refine⟨h.nms,by simp,fun a ha b hb=> ?_⟩;obtain⟨p,hp,rfl⟩:=List.mem_map.1 ha;simp only[List.mem_singleton]at hb;subst hb;intro e;have:=h.had p hp;rw[e,hn]at this;cases this
 nml:=fun p hp=>by
  simp only[CK.add,CS.add,List.mem_append,List.mem_singleton]at hp;rcases hp with hp|rfl
  ·exact h.nml p hp
  ·exact hl
 had:=fun p hp=>by
  simp only[CK.add,CS.add,List.mem_append,List.mem_singleton,List.any_append,Bool.or_eq_true]at hp ⊢;rcases hp with hp|rfl
  ·exact .inl (h.had p hp)
  ·exact .inr (by simp)
 sk:=h.sk
 sb:=h.sb
 sc:=h.sc
 sv:=fun p hp=>by
  have:=h.sv p hp;simp only[CK.add,CS.add,List.length_append,List.length_cons,List.length_nil];omega
 pts:=h.pts
theorem tn{x:Nat}:∀{l:List (Nat×Nat)}{j:Nat},(∃p∈l,p.1=x)→(bQ x l j).isSome=true
 |[],_,h=>by simp at h
 |e::r,j,h=>by
  cases h1:(x==e.1)with
  |true=>simp only[bQ,h1,cond_true];rfl
  |false=>
   simp only[bQ,h1,cond_false];refine tn ?_;obtain⟨p,hp,he⟩:=h;rcases List.mem_cons.1 hp with rfl|hp
   ·rw[he]at h1;simp at h1
   ·exact⟨p,hp,he⟩
theorem wL{S:CK}(h:CKok S)(i:Nat)(hv:i<S.c.vars.length):CKok (S.put i):=by
 cases hh:S.c.sure.has i with
 |true=>
  have e:S.put i=S:=by simp only[CK.put,SureL.put,hh,cond_true]
  rw[e];exact h
 |false=>
  have e:S.c.sure.put i=⟨S.c.sure.l ++[(i,S.c.sure.c)],S.c.sure.c+1⟩:=by simp only[SureL.put,hh,cond_false]
  have hi:∀p∈S.c.sure.l,p.1≠i:=fun p hp he=>by
   have:=tn (x:=i) (j:=0) ⟨p,hp,he⟩;unfold SureL.has at hh;rw[hh]at this;cases this
  exact{h with
   sk:=by
    simp only[CK.put,e,List.map_append,List.map_cons,List.map_nil];rw[List.nodup_append];refine⟨h.sk,by simp,fun a ha b hb=> ?_⟩;obtain⟨p,hp,rfl⟩:=List.mem_map.1 ha;simp only[List.mem_singleton]at hb;subst hb;exact hi p hp
   sb:=by
    simp only[CK.put,e,List.map_append,List.map_cons,List.map_nil];rw[List.nodup_append];refine⟨h.sb,by simp,fun a ha b hb=> ?_⟩;obtain⟨p,hp,rfl⟩:=List.mem_map.1 ha;simp only[List.mem_singleton]at hb;subst hb;have:=h.sc p hp;omega
   sc:=fun p hp=>by
    simp only[CK.put,e,List.mem_append,List.mem_singleton]at hp ⊢;rcases hp with hp|rfl
    ·have:=h.sc p hp;omega
    ·simp
   sv:=fun p hp=>by
    simp only[CK.put,e,List.mem_append,List.mem_singleton]at hp;rcases hp with hp|rfl
    ·exact h.sv p hp
    ·exact hv}
end Go.Avm
namespace Go.Avm
open Go.Proofs
structure Gv where
 vh:Nat
 vs:Nat
 vq:Nat
 vv:Nat
 vp:Nat
abbrev cv(g:Gv):List (Nat×aN):=[(500000,⟨1,none⟩),(499904,⟨1,none⟩),(500002,⟨g.vh,none⟩),(500003,⟨g.vs,none⟩),(500004,⟨g.vq,none⟩),(500005,⟨g.vv,none⟩),(500382,⟨g.vp,none⟩),(500191,⟨1,none⟩)]
def CK.gv(S:CK):Gv:=⟨S.vh,S.vs,S.vq,S.vv,S.vp⟩
theorem Dc{P:Program}{g:Nat}{args:List AV}{x:AV}{h h1 h2:ab}(hc:iY P g args h x h1)(hh:∀k,(h2 k).ver=(h1 k).ver∧((h2 k).ob=none∨(h2 k).ob=(h1 k).ob)):iY P g args h x h2:=
 ⟨hc.1,fun G B w0 I0 w cargs hr hs hargs=>(hc.2 G B w0 I0 w cargs hr hs hargs).mono fun _ _ ⟨v,G',e1,e2,e3,e4⟩=>⟨v,G',e1,e2,e3.forget hh,e4⟩⟩
theorem yG(rest:ab):∀(l:List (Nat×aN))(k:Nat),(al (l.map fun p=>(p.1,(⟨p.2.ver,none⟩:aN))) rest k).ver=(al l rest k).ver∧((al (l.map fun p=>(p.1,(⟨p.2.ver,none⟩:aN))) rest k).ob=none∨(al (l.map fun p=>(p.1,(⟨p.2.ver,none⟩:aN))) rest k).ob=(al l rest k).ob)
 |[],_=>⟨rfl, .inr rfl⟩
 |(k',e)::r,k=>by
  simp only[List.map_cons,al,aM];split
  ·exact⟨rfl, .inl rfl⟩
  ·exact yG rest r k
abbrev LE(S:CK)(f:Nat)(args:List AV)(p e:Int):Prop:=∃g,HX f args (ck S) (aH p e) (cv g)
theorem ir{S S':CK}{f:Nat}{args:List AV}{p e:Int}(h:HX f args (ck S) (aH p e) (ck S')):LE S f args p e:=
 ⟨S'.gv,fun rest=>Dc (h rest) (yG rest (ck S'))⟩
structure Nx(S S':CK)(c:CS):Prop where
 ok:CKok S'
 c:S'.c=c
 fs:S'.fs=S.fs
 fn:S'.fn=S.fn
 deep:S'.deep=S.deep
 W:S'.W=S.W
 vars:S.c.vars<+:S'.c.vars
def TC(S:CK)(f:Nat)(args:List AV):TR CS→Prop
 | .ok c=>∃S',Nx S S' c∧HC f args (ck S) [] (ck S')
 | .bad p e=>LE S f args p e
 | .out=>True
theorem CKok.nx{S:CK}(h:CKok S):Nx S S S.c:=⟨h,rfl,rfl,rfl,rfl,rfl,List.prefix_refl _⟩
theorem QP{S:CK}(h:CKok S)(k id:Int)(nm:List UInt8)(ty n p:Int)(es:List Ex)(bd el:List bu):TC S 104 [aI,eQ k id nm ty n p es bd el] (oB S.fs S.deep nm id ty n p es S.c):=by
 unfold oB;cases hl:decide (1000000≤es.length)with
 |true=>exact trivial
 |false=>
  have hl':=of_decide_eq_false hl;have c:=J8 h k id nm ty n p es bd el (by omega) _ 0 rfl (Nat.zero_le _);rw[List.drop_zero]at c;simp only[cond_false];revert c;cases aB (S.c.te S.fs) es (es.map fun _=>[ty]) false with
  |out=>exact fun _=>trivial
  |bad u r=>exact fun c=>ir (S':=S) (N6 h k id nm ty n p es bd el u r c)
  |ok _=>
   intro c;have c:Lw S k id nm ty n p es bd el:=c;simp only[TR.bind];cases hnl:decide (1000000<nm.length)with
   |true=>exact trivial
   |false=>
   have hnl':=of_decide_eq_false hnl;simp only[cond_false];cases hn:S.c.vars.any fun v=>v.nm==nm with
   |true=>
    obtain⟨q,hq⟩:=uW nm S.c.vars 0 0 hn;exact ir (E9 h k id nm ty n p es bd el c q hq)
   |false=>
   have hs:=yF h hn;simp only[cond_false];cases h3:(ty==3)with
   |true=>
    simp only[Bool.true_and,Bool.true_or];cases hd:(S.deep==0)with
    |false=>exact ir (Is h k id nm ty n p es bd el c hn h3 hd)
    |true=>
    simp only[Bool.not_true,cond_false];cases h1:decide (1≤n)with
    |false=>exact ir (Lx h k id nm ty n p es bd el c hn h3 hd h1)
    |true=>
    cases h2:decide (n≤256)with
    |false=>exact ir (It h k id nm ty n p es bd el c hn h3 hd h1 h2)
    |true=>
    simp only[Bool.and_self,Bool.not_true,cond_false];cases hv:decide (255≤S.c.vars.length)with
    |true=>exact ir (Fa h k id nm ty n p es bd el c hn h3 hd h1 h2 (by have:=of_decide_eq_true hv;simp;omega))
    |false=>
    have hv':=of_decide_eq_false hv;have h':=AF h (v:=⟨nm,ty,n,id⟩) (by simp only;omega) hn (by omega);have hq:bQ S.c.vars.length S.c.sure.l 0=none:=kl fun p hp e=>by have:=h.sv p hp;omega
    refine⟨(S.add ⟨nm,ty,n,id⟩).put S.c.vars.length,⟨wL h' _ (by simp[CK.add,CS.add]),rfl,rfl,rfl,rfl,rfl,List.prefix_append _ _⟩, ?_⟩;rw[←wK (S:=S.add ⟨nm,ty,n,id⟩) (i:=S.c.vars.length) hq];exact LA h k id nm ty n p es bd el c hn hs h' (by simp;omega) h3 hd h1 h2 hq
   |false=>
    simp only[Bool.false_and,cond_false,Bool.false_or];cases hv:decide (255≤S.c.vars.length)with
    |true=>exact ir (Fb h k id nm ty n p es bd el c hn h3 (by have:=of_decide_eq_true hv;simp;omega))
    |false=>
    have hv':=of_decide_eq_false hv;have h':=AF h (v:=⟨nm,ty,n,id⟩) (by simp only;omega) hn (by omega);have hq:bQ S.c.vars.length S.c.sure.l 0=none:=kl fun p hp e=>by have:=h.sv p hp;omega
    cases es with
    |nil=>exact⟨S.add ⟨nm,ty,n,id⟩,⟨h',rfl,rfl,rfl,rfl,rfl,List.prefix_append _ _⟩,Ly h k id nm ty n p [] bd el c hn hs h' (by simp;omega) h3 rfl⟩
    |cons e r=>
     refine⟨(S.add ⟨nm,ty,n,id⟩).put S.c.vars.length,⟨wL h' _ (by simp[CK.add,CS.add]),rfl,rfl,rfl,rfl,rfl,List.prefix_append _ _⟩, ?_⟩;rw[←wK (S:=S.add ⟨nm,ty,n,id⟩) (i:=S.c.vars.length) hq];exact Lz h k id nm ty n p (e::r) bd el c hn hs h' (by simp;omega) h3 (oH _ _) hq
end Go.Avm
namespace Go.Avm
open Go.Proofs
theorem AG:dc Pg 74:=⟨_,Tryz.func74,rfl,by decide⟩
theorem AH:dc Pg 109:=⟨_,Tryz.func109,rfl,by decide⟩
theorem Fc(v:Nat)(es:List (D×D×Nat))(c:Nat):∀rest:ab,ay Pg 74 [.mp 500003 v] (al [(500003,⟨v,some (.map es c)⟩),(500013,⟨0,none⟩)] rest) [.mp 500013 1] (al [(500003,⟨v,some (.map es c)⟩),(500013,⟨1,some (.map es c)⟩)] rest):=fun rest=>by
 have h:=qf AG (fun b es c w hb=>AnyW.maps_Clone Tryz.lclonea b es c w hb) (h:=al [(500003,⟨v,some (.map es c)⟩),(500013,⟨0,none⟩)] rest) (k:=500003) (v:=v) 500013 (es:=es) (c:=c) rfl
 have e:aM (al [(500003,⟨v,some (.map es c)⟩),(500013,⟨0,none⟩)] rest) 500013 ⟨1,some (.map es c)⟩=al [(500003,⟨v,some (.map es c)⟩),(500013,⟨1,some (.map es c)⟩)] rest:=by
  funext k;simp only[al,aM];by_cases h1:k=500013
  ·subst h1;rfl
  ·simp only[h1,if_false]
 rw[←e];exact h
theorem ng(v:Nat)(es:List (D×D×Nat))(c:Nat):∀rest:ab,ay Pg 109 [.mp 500004 v] (al [(500004,⟨v,some (.map es c)⟩),(500014,⟨0,none⟩)] rest) [.mp 500014 1] (al [(500004,⟨v,some (.map es c)⟩),(500014,⟨1,some (.map es c)⟩)] rest):=fun rest=>by
 have h:=qf AH (fun b es c w hb=>AnyW.maps_Clone Tryz.lcloneb b es c w hb) (h:=al [(500004,⟨v,some (.map es c)⟩),(500014,⟨0,none⟩)] rest) (k:=500004) (v:=v) 500014 (es:=es) (c:=c) rfl
 have e:aM (al [(500004,⟨v,some (.map es c)⟩),(500014,⟨0,none⟩)] rest) 500014 ⟨1,some (.map es c)⟩=al [(500004,⟨v,some (.map es c)⟩),(500014,⟨1,some (.map es c)⟩)] rest:=by
  funext k;simp only[al,aM];by_cases h1:k=500014
  ·subst h1;rfl
  ·simp only[h1,if_false]
 rw[←e];exact h
theorem kn{S:CK}(h:CKok S){g:Gv}{ar:List AV}(ha:bT (dW ((ck S).map (·.1)) 1000000) ar=ar):Cln ((ck S).map (·.1)) 1000000 ar (ck S) (cv g):=
 ⟨rfl,rfl,rfl,ha,gi h rfl,rfl⟩
theorem lI{S:CK}(h:CKok S){g:Gv}{ex ex':List (Nat×aN)}{ar:List AV}(lt:(((ck S ++ex).map (·.1)).all fun k=>Nat.blt k 1000000)=true)(hK:ex'.map (·.1)=ex.map (·.1))(hr:([499904,500002,500003,500004,500005,500382,500191].map (dW ((ck S ++ex).map (·.1)) 1000000))=[499904,500002,500003,500004,500005,500382,500191])
    (ha:bT (dW ((ck S ++ex).map (·.1)) 1000000) ar=ar) (he:(ex.map fun p:Nat×aN=>cg (dW ((ck S ++ex).map (·.1)) 1000000) p.2)=ex.map (·.2)) (he':(ex'.map fun p:Nat×aN=>cg (dW ((ck S ++ex).map (·.1)) 1000000) p.2)=ex'.map (·.2)):
    Cln ((ck S ++ex).map (·.1)) 1000000 ar (ck S ++ex) (cv g ++ex'):=
 ⟨lt,rfl,by rw[List.map_append,List.map_append,hK];rfl,ha,by
  have h1:=gi h hr;rw[List.map_append,List.map_append (f:=fun p:Nat×aN=>p.2),h1,he],by
  rw[List.map_append,List.map_append (f:=fun p:Nat×aN=>p.2),he'];rfl⟩
abbrev yH(es:List (D×D×Nat))(n:Nat):List (Nat×aN):=[(500013,⟨1,some (.map es n)⟩)]
abbrev BL(l:List bu)(i:Nat):List (Nat×AV):=[(0,aI),(1, .d (.ro (ep l))),(4, .mp 500013 1),(12, .d (.ro (ep l))),(13,dN (ep l).length),(14,dN i)]
abbrev QQ:List (Nat×AV):=[(0,aI),(4, .mp 500013 1)]
abbrev S5(S S':CK)(x:bu):Prop:=HC 76 [aI, .d (yp x)] (ck S) [] (ck S')
abbrev N9(S:CK)(x:bu)(g:Gv)(p e:Int):Prop:=HX 76 [aI, .d (yp x)] (ck S) (aH p e) (cv g)
def Fd(P:Program)(j:Nat)(h:j+1<1000000):bZ P:= .val (dI (IntKind.i64.wrap (((j+1:Nat):Int)-1))) (dN j) (by
 congr 2;rw[IntWalk.i64_in _ (by omega)];omega)
def yI(P:Program)(l:List bu)(i:Nat)(x:bu)(hx:l[i]? =some x):bZ P:= .idx (ep l) ((i:Nat):Int) (yp x) (by omega) (by rw[Int.toNat_natCast,oz,List.getElem?_map,hx];rfl)
section
variable{S S':CK}(h:CKok S)(h':CKok S')(es:List (D×D×Nat))(n:Nat)(l:List bu)(i:Nat)
include h
theorem Oa(hi:decide (i<(ep l).length)=false):RE 41 (lO 49 2) (BL l i) (ck S ++yH es n) (.exit 0) QQ (ck S ++yH es n):=
 dX aD named {hint:=qT 49 [(15,jO Pg i (ep l).length false hi)]} 2000 49 2000 41 1000000 ([]) (gG h h rfl rfl rfl rfl rfl rfl) (by kernel_rfl) (by kernel_rfl) (fun _=>by kernel_rfl)
section
variable(k id:Int)(nm:List UInt8)(ty n1 p:Int)(xs:List Ex)(bd el:List bu)
include k id nm ty n1 p xs bd el
theorem LF(hx:l[0]? =some (.mk k id nm ty n1 p xs bd el))(hi:decide (0<(ep l).length)=true)(g:Gv)(u r:Int)(c:N9 S (.mk k id nm ty n1 p xs bd el) g u r):RE 41 (lO 49 2) (BL l 0) (ck S ++yH es n) (.panic (aH u r)) [] (cv g ++[(500013,⟨1,none⟩)]):=
 dX aD named {hint:=qT 49 [(15,jO Pg 0 (ep l).length true hi),(17,yI Pg l 0 _ hx)],calls:=tC [(49,32,2533,bh rfl (aP p 11))],pans:=au Pg [(49,5,2533,⟨2,some (bi c),[]⟩)]} 2000 49 2000 41 1000000 ([]) (lI h rfl rfl rfl rfl rfl rfl) (by kernel_rfl) (by kernel_rfl) (fun _=>by kernel_rfl)
theorem LG(j:Nat)(hx:l[j+1]? =some (.mk k id nm ty n1 p xs bd el))(k2 id2:Int)(nm2:List UInt8)(ty2 n2 p2:Int)(cd:List Ex)(bd2 el2:List bu)(hy:l[j]? =some (.mk k2 id2 nm2 ty2 n2 p2 cd bd2 el2))(hm:j+1<1000000)(cy:HC 75 [.d (yp (.mk k2 id2 nm2 ty2 n2 p2 cd bd2 el2))] [] [.bool false] [])(hi:decide (j+1<(ep l).length)=true)(g:Gv)(u r:Int)(c:N9 S (.mk k id nm ty n1 p xs bd el) g u r):RE 41 (lO 49 2) (BL l (j+1)) (ck S ++yH es n) (.panic (aH u r)) [] (cv g ++[(500013,⟨1,none⟩)]):=
 dX aD named {hint:=qT 49 [(15,jO Pg (j+1) (ep l).length true hi),(17,yI Pg l (j+1) _ hx),(24,Fd Pg j hm),(25,yI Pg l j _ hy)],calls:=tC [(49,27,2615,bh rfl cy),(49,32,2779,bh rfl (aP p 11))],pans:=au Pg [(49,5,2779,⟨2,some (bi c),[]⟩)]} 2000 49 2000 41 1000000 ([]) (lI h rfl rfl rfl rfl rfl rfl) (by kernel_rfl) (by kernel_rfl) (fun _=>by kernel_rfl)
theorem Iv(j:Nat)(hx:l[j+1]? =some (.mk k id nm ty n1 p xs bd el))(k2 id2:Int)(nm2:List UInt8)(ty2 n2 p2:Int)(cd:List Ex)(bd2 el2:List bu)(hy:l[j]? =some (.mk k2 id2 nm2 ty2 n2 p2 cd bd2 el2))(hm:j+1<1000000)(cy:HC 75 [.d (yp (.mk k2 id2 nm2 ty2 n2 p2 cd bd2 el2))] [] [.bool true] [])(hi:decide (j+1<(ep l).length)=true):RE 41 (lO 49 2) (BL l (j+1)) (ck S ++yH es n) (.panic (aH p 11)) [] (cv S.gv ++[(500013,⟨1,none⟩)]):=
 dX aD named {hint:=qT 49 [(15,jO Pg (j+1) (ep l).length true hi),(17,yI Pg l (j+1) _ hx),(24,Fd Pg j hm),(25,yI Pg l j _ hy)],calls:=tC [(49,27,2615,bh rfl cy)],pans:=au Pg [(49,4,2287,⟨13,some (bi (bU p 11)),[]⟩)]} 2000 49 2000 41 1000000 ([]) (lI h rfl rfl rfl rfl rfl rfl) (by kernel_rfl) (by kernel_rfl) (fun _=>by kernel_rfl)
end
include h'
theorem J9(k id:Int)(nm:List UInt8)(ty n1 p:Int)(xs:List Ex)(bd el:List bu)(hx:l[0]? =some (.mk k id nm ty n1 p xs bd el))(hi:decide (0<(ep l).length)=true)(c:S5 S S' (.mk k id nm ty n1 p xs bd el)):∀(rest:ab)(X:ce),X.P=Pg→X.N=41→AW X (lO 49 2) ⟨an (BL l 0),al (ck S ++yH es n) rest⟩ fun e' S2=>e'= .normal∧S2=⟨an (BL l 1),al (ck S' ++yH es n) rest⟩:=
 dX aD named {hint:=qT 49 [(15,jO Pg 0 (ep l).length true hi),(17,yI Pg l 0 _ hx)],calls:=tC [(49,32,2533,bh rfl (aP p 11)),(49,35,2615,af c)]} 2000 49 2000 41 1000000 ([]) (gG h h' rfl rfl rfl rfl rfl rfl) (by kernel_rfl) (by kernel_rfl) (fun _=>by kernel_rfl)
theorem Ka(k id:Int)(nm:List UInt8)(ty n1 p:Int)(xs:List Ex)(bd el:List bu)(j:Nat)(hx:l[j+1]? =some (.mk k id nm ty n1 p xs bd el))(k2 id2:Int)(nm2:List UInt8)(ty2 n2 p2:Int)(cd:List Ex)(bd2 el2:List bu)(hy:l[j]? =some (.mk k2 id2 nm2 ty2 n2 p2 cd bd2 el2))(hm:j+1<1000000)(cy:HC 75 [.d (yp (.mk k2 id2 nm2 ty2 n2 p2 cd bd2 el2))] [] [.bool false] [])(hi:decide (j+1<(ep l).length)=true)(c:S5 S S' (.mk k id nm ty n1 p xs bd el)):∀(rest:ab)(X:ce),X.P=Pg→X.N=41→AW X (lO 49 2) ⟨an (BL l (j+1)),al (ck S ++yH es n) rest⟩ fun e' S2=>e'= .normal∧S2=⟨an (BL l (j+1+1)),al (ck S' ++yH es n) rest⟩:=
 dX aD named {hint:=qT 49 [(15,jO Pg (j+1) (ep l).length true hi),(17,yI Pg l (j+1) _ hx),(24,Fd Pg j hm),(25,yI Pg l j _ hy),(36,dk Pg (j+1) (by omega))],calls:=tC [(49,27,2615,bh rfl cy),(49,32,2779,bh rfl (aP p 11)),(49,35,2861,af c)]} 2000 49 2000 41 1000000 ([]) (gG h h' rfl rfl rfl rfl rfl rfl) (by kernel_rfl) (by kernel_rfl) (fun _=>by kernel_rfl)
end
end Go.Avm
namespace Go.Avm
open Go.Proofs
def Oc(S:CK)(l:List bu)(i:Nat):TR CS→Prop
 | .ok c=>∃S',Nx S S' c∧∀(es:List (D×D×Nat))(n:Nat)(rest:ab)(X:ce),X.P=Pg→X.N=41→LW X (lO 49 2) ⟨an (BL l i),al (ck S ++yH es n) rest⟩ fun e' S2=>e'= .exit 0∧S2=⟨an QQ,al (ck S' ++yH es n) rest⟩
 | .bad p e=>∃g,∀(es:List (D×D×Nat))(n:Nat)(rest:ab)(X:ce),X.P=Pg→X.N=41→LW X (lO 49 2) ⟨an (BL l i),al (ck S ++yH es n) rest⟩ fun e' S2=>e'= .panic (aH p e)∧S2=⟨an [],al (cv g ++[(500013,⟨1,none⟩)]) rest⟩
 | .out=>True
structure Pl where
 fs:List Fn
 fn:Nat
 deep:Int
structure At(P:Pl)(S:CK):Prop where
 ok:CKok S
 fs:S.fs=P.fs
 fn:S.fn=P.fn
 deep:S.deep=P.deep
theorem At.nx{P:Pl}{S S':CK}{c:CS}(a:At P S)(n:Nx S S' c):At P S':=⟨n.ok,n.fs.trans a.fs,n.fn.trans a.fn,n.deep.trans a.deep⟩
theorem Nx.trans{S S1 S2:CK}{c1 c2:CS}(a:Nx S S1 c1)(b:Nx S1 S2 c2):Nx S S2 c2:=⟨b.ok,b.c,b.fs.trans a.fs,b.fn.trans a.fn,b.deep.trans a.deep,b.W.trans a.W,a.vars.trans b.vars⟩
abbrev Od(P:Pl)(x:bu):Prop:=∀S:CK,At P S→TC S 76 [aI, .d (yp x)] (dz P.fs P.fn P.deep x S.c)
theorem Fe{P:Pl}{l:List bu}(hl:l.length<1000000)(ih:∀x∈l,Od P x)(hr:∀x∈l,mN x):
    ∀(m i:Nat)(S:CK)(prev:Bool),At P S→l.length-i=m→i≤l.length→(prev=match i with|0=>false|j+1=>match l[j]? with|some y=>kg y|none=>false)→Oc S l i (aX P.fs P.fn P.deep prev (l.drop i) S.c)
 |0,i,S,prev,a,hm,hi,hp=>by
  have hi':i=l.length:=by omega
  subst hi';rw[List.drop_length];simp only[aX];exact⟨S,a.ok.nx,fun es n rest X hP hN=>aY (Oa a.ok es n l l.length (by simp[md]) rest X hP hN) (by simp)⟩
 |m+1,i,S,prev,a,hm,hi,hp=>by
  have hlt:i<l.length:=by omega
  have hx:l[i]? =some l[i]:=List.getElem?_eq_getElem hlt;have hix:l[i]∈l:=List.getElem_mem hlt;rw[List.drop_eq_getElem_cons hlt];generalize l[i]=x at hx hix;have cx:=ih x hix S a;have hin:decide (i<(ep l).length)=true:=by simpa [md]using hlt
  obtain⟨k,id,nm,ty,n1,p,xs,bd,el⟩:=x;simp only[aX];cases i with
  |zero=>
   have hp:prev=false:=hp;subst hp;simp only[cond_false];revert cx;cases dz P.fs P.fn P.deep (.mk k id nm ty n1 p xs bd el) S.c with
   |out=>exact fun _=>trivial
   |bad u r=>exact fun ⟨g,c⟩=>⟨g,fun es n rest X hP hN=>aY (LF a.ok es n l k id nm ty n1 p xs bd el hx hin g u r c rest X hP hN) (by simp)⟩
   |ok c'=>
    rintro⟨S',nx,c⟩;have hn:=Fe hl ih hr m 1 S' (kg (.mk k id nm ty n1 p xs bd el)) (a.nx nx) (by omega) hlt (by simp only[hx]);rw[nx.c]at hn;simp only[TR.bind];revert hn;cases aX P.fs P.fn P.deep (kg (.mk k id nm ty n1 p xs bd el)) (l.drop (0+1)) c' with
    |out=>exact fun _=>trivial
    |bad u r=>exact fun ⟨g,hn⟩=>⟨g,fun es n rest X hP hN=>ba (J9 a.ok nx.ok es n l k id nm ty n1 p xs bd el hx hin c rest X hP hN) (hn es n rest X hP hN)⟩
    |ok c2=>exact fun ⟨S2,nq,hn⟩=>⟨S2,nx.trans nq,fun es n rest X hP hN=>ba (J9 a.ok nx.ok es n l k id nm ty n1 p xs bd el hx hin c rest X hP hN) (hn es n rest X hP hN)⟩
  |succ j=>
   have hy:l[j]? =some l[j]:=List.getElem?_eq_getElem (by omega);have hiy:l[j]∈l:=List.getElem_mem (by omega);simp only[hy]at hp;generalize l[j]=y at hy hiy hp;have cy:=hr y hiy;obtain⟨k2,id2,nm2,ty2,n2,p2,cd,bd2,el2⟩:=y;subst hp;unfold mN at cy;revert cy;cases kg (.mk k2 id2 nm2 ty2 n2 p2 cd bd2 el2)with
   |true=>exact fun cy=>⟨S.gv,fun es n rest X hP hN=>aY (Iv a.ok es n l k id nm ty n1 p xs bd el j hx k2 id2 nm2 ty2 n2 p2 cd bd2 el2 hy (by omega) cy hin rest X hP hN) (by simp)⟩
   |false=>
    intro cy;simp only[cond_false];revert cx;cases dz P.fs P.fn P.deep (.mk k id nm ty n1 p xs bd el) S.c with
    |out=>exact fun _=>trivial
    |bad u r=>exact fun ⟨g,c⟩=>⟨g,fun es n rest X hP hN=>aY (LG a.ok es n l k id nm ty n1 p xs bd el j hx k2 id2 nm2 ty2 n2 p2 cd bd2 el2 hy (by omega) cy hin g u r c rest X hP hN) (by simp)⟩
    |ok c'=>
     rintro⟨S',nx,c⟩;have hn:=Fe hl ih hr m (j+1+1) S' (kg (.mk k id nm ty n1 p xs bd el)) (a.nx nx) (by omega) hlt (by simp only[hx]);rw[nx.c]at hn;simp only[TR.bind];revert hn;cases aX P.fs P.fn P.deep (kg (.mk k id nm ty n1 p xs bd el)) (l.drop (j+1+1)) c' with
     |out=>exact fun _=>trivial
     |bad u r=>exact fun ⟨g,hn⟩=>⟨g,fun es n rest X hP hN=>ba (Ka a.ok nx.ok es n l k id nm ty n1 p xs bd el j hx k2 id2 nm2 ty2 n2 p2 cd bd2 el2 hy (by omega) cy hin c rest X hP hN) (hn es n rest X hP hN)⟩
     |ok c2=>exact fun ⟨S2,nq,hn⟩=>⟨S2,nx.trans nq,fun es n rest X hP hN=>ba (Ka a.ok nx.ok es n l k id nm ty n1 p xs bd el j hx k2 id2 nm2 ty2 n2 p2 cd bd2 el2 hy (by omega) cy hin c rest X hP hN) (hn es n rest X hP hN)⟩
def CK.seenAs(S:CK)(l:hQ)(v:Nat):CK:={S with c:={S.c with seen:=l},vs:=v}
def CK.sureAs(S:CK)(q:SureL)(v:Nat):CK:={S with c:={S.c with sure:=q},vq:=v}
theorem Iw{a b:List Vr}(h:a<+:b){f:Vr→Bool}(e:a.any f=true):b.any f=true:=by
 obtain⟨t,rfl⟩:=h;rw[List.any_append,e];rfl
theorem Ix{S S':CK}(h:CKok S)(h':CKok S')(hv:S.c.vars<+:S'.c.vars)(v:Nat):CKok (S'.seenAs S.c.seen v) where
 fn:=h'.fn
 W:=h'.W
 dat:=h'.dat
 len:=h'.len
 par:=h'.par
 vars:=h'.vars
 seen:=fun p hp=>Nat.lt_of_lt_of_le (h.seen p hp) hv.length_le
 inc:=h.inc
 nms:=h.nms
 nml:=h.nml
 had:=fun p hp=>Iw hv (h.had p hp)
 sk:=h'.sk
 sb:=h'.sb
 sc:=h'.sc
 sv:=h'.sv
 pts:=h'.pts
structure QOk(q:SureL)(n:Nat):Prop where
 sk:(q.l.map (·.1)).Nodup
 sb:(q.l.map (·.2)).Nodup
 sc:∀p∈q.l,p.2<q.c
 sv:∀p∈q.l,p.1<n
theorem CKok.q{S:CK}(h:CKok S):QOk S.c.sure S.c.vars.length:=⟨h.sk,h.sb,h.sc,h.sv⟩
theorem QOk.mono{q:SureL}{n m:Nat}(h:QOk q n)(hn:n≤m):QOk q m:=⟨h.sk,h.sb,h.sc,fun p hp=>Nat.lt_of_lt_of_le (h.sv p hp) hn⟩
theorem QOk.both{a b:SureL}{n:Nat}(h:QOk a n):QOk (a.both b) n where
 sk:=(List.Sublist.map _ List.filter_sublist).nodup h.sk
 sb:=(List.Sublist.map _ List.filter_sublist).nodup h.sb
 sc:=fun p hp=>h.sc p (List.mem_filter.1 hp).1
 sv:=fun p hp=>h.sv p (List.mem_filter.1 hp).1
theorem wM{S:CK}(h:CKok S){q:SureL}(hq:QOk q S.c.vars.length)(v:Nat):CKok (S.sureAs q v) where
 fn:=h.fn
 W:=h.W
 dat:=h.dat
 len:=h.len
 par:=h.par
 vars:=h.vars
 seen:=h.seen
 inc:=h.inc
 nms:=h.nms
 nml:=h.nml
 had:=h.had
 sk:=hq.sk
 sb:=hq.sb
 sc:=hq.sc
 sv:=hq.sv
 pts:=h.pts
noncomputable def Oe{S:CK}{l:List bu}{es:List (D×D×Nat)}{n:Nat}{x:aG}{l':List (Nat×AV)}{hp':List (Nat×aN)}(h:RL 41 (lO 49 2) (BL l 0) (ck S ++yH es n) x l' hp'):d7 Pg:=
 ⟨41,bO Pg 49 2,BL l 0,fun _=>ck S ++yH es n,x,l',fun _=>hp',fun rest X hP hN=>(h rest X hP hN).aw⟩
section
variable{S:CK}(h:CKok S)(l:List bu)
include h
theorem Iy{S':CK}(h2:CKok (S'.seenAs S.c.seen (S'.vs+1)))(c:∀(rest:ab)(X:ce),X.P=Pg→X.N=41→LW X (lO 49 2) ⟨an (BL l 0),al (ck S ++yH (cB 0 S.c.seen) S.c.seen.length) rest⟩ fun e' S2=>e'= .exit 0∧S2=⟨an QQ,al (ck S' ++yH (cB 0 S.c.seen) S.c.seen.length) rest⟩):
    HC 49 [aI, .d (.ro (ep l))] (ck S) [] (ck (S'.seenAs S.c.seen (S'.vs+1))):=
 cp aD named {loops:=fun f q=>if f=49 then (if q=2 then some (Oe c)else none)else none,calls:=tC [(49,11,2164,af (Fc S.vs (cB 0 S.c.seen) S.c.seen.length))]} 2000 2000 _ 1000000 ([(500000,524291146758)]) (aA h h2 rfl) (fun _=>by kernel_rfl)
theorem Ff(g:Gv)(p e:Int)(c:∀(rest:ab)(X:ce),X.P=Pg→X.N=41→LW X (lO 49 2) ⟨an (BL l 0),al (ck S ++yH (cB 0 S.c.seen) S.c.seen.length) rest⟩ fun e' S2=>e'= .panic (aH p e)∧S2=⟨an [],al (cv g ++[(500013,⟨1,none⟩)]) rest⟩):
    HX 49 [aI, .d (.ro (ep l))] (ck S) (aH p e) (cv g):=
 ae aD named {loops:=fun f q=>if f=49 then (if q=2 then some (Oe c)else none)else none,calls:=tC [(49,11,2164,af (Fc S.vs (cB 0 S.c.seen) S.c.seen.length))]} 2000 2000 _ 1000000 (kn h rfl) (by kernel_rfl) (fun _=>by kernel_rfl)
end
abbrev dQ(P:Pl)(l:List bu)(c:CS):TR CS:=(aX P.fs P.fn P.deep false l c).bind fun c'=> .ok {c' with seen:=c.seen}
theorem Fg{P:Pl}{l:List bu}(hl:l.length<1000000)(ih:∀x∈l,Od P x)(hr:∀x∈l,mN x)(S:CK)(a:At P S):TC S 49 [aI, .d (.ro (ep l))] (dQ P l S.c):=by
 have k:=Fe hl ih hr _ 0 S false a rfl (Nat.zero_le _) rfl;rw[List.drop_zero]at k;unfold dQ;revert k;cases aX P.fs P.fn P.deep false l S.c with
 |out=>exact fun _=>trivial
 |bad p e=>exact fun ⟨g,c⟩=>⟨g,Ff a.ok l g p e (c _ _)⟩
 |ok c'=>
  rintro⟨S',nx,c⟩;have h2:=Ix a.ok nx.ok nx.vars (S'.vs+1);refine⟨S'.seenAs S.c.seen (S'.vs+1),⟨h2, ?_,nx.fs,nx.fn,nx.deep,nx.W,nx.vars⟩,Iy a.ok l h2 (c _ _)⟩;rw[←nx.c];rfl
theorem Dd{d:Int}(h: -9223372036854775808≤d∧d<9223372036854775808):IntKind.i64.wrap (IntKind.i64.wrap (d+1)-1)=d:=by
 have e:∀x:Int,IntKind.i64.wrap x=if 9223372036854775808≤x % 18446744073709551616 then x % 18446744073709551616-18446744073709551616 else x % 18446744073709551616:=fun x=>by
  simp only[IntKind.wrap,IntKind.bits,IntKind.signed,Bool.true_and,ge_iff_le,decide_eq_true_eq];rfl
 rw[e (IntKind.i64.wrap (d+1)-1),e (d+1)];split<;>split<;>omega
def Of(P:Program)(d d':Int)(e:d'=IntKind.i64.wrap (d+1))(h: -9223372036854775808≤d∧d<9223372036854775808):bZ P:= .val (dI (IntKind.i64.wrap (d'-1))) (dI d) (by
 congr 2;rw[e];exact Dd h)
def CK.at(S:CK)(d:Int):CK:={S with deep:=d}
theorem Fh{S:CK}(h:CKok S)(d:Int):CKok (S.at d) where
 fn:=h.fn
 W:=h.W
 dat:=h.dat
 len:=h.len
 par:=h.par
 vars:=h.vars
 seen:=h.seen
 inc:=h.inc
 nms:=h.nms
 nml:=h.nml
 had:=h.had
 sk:=h.sk
 sb:=h.sb
 sc:=h.sc
 sv:=h.sv
 pts:=h.pts
section
variable{S:CK}(h:CKok S)(l:List bu)(hd: -9223372036854775808≤S.deep∧S.deep<9223372036854775808)
include h hd
theorem Iz{S':CK}(h':CKok S')(e:S'.deep=IntKind.i64.wrap (S.deep+1))(c:HC 49 [aI, .d (.ro (ep l))] (ck (S.at (IntKind.i64.wrap (S.deep+1)))) [] (ck S')):
    HC 110 [aI, .d (.ro (ep l))] (ck S) [] (ck (S'.at S.deep)):=
 ag aD named {hint:=qT 110 [(18,Of Pg S.deep S'.deep e hd)],calls:=tC [(110,13,2210,af c)]} 2000 2000 _ 1000000 (aA h (Fh h' S.deep) rfl) (fun _=>by kernel_rfl)
theorem Fi(g:Gv)(p e:Int)(c:HX 49 [aI, .d (.ro (ep l))] (ck (S.at (IntKind.i64.wrap (S.deep+1)))) (aH p e) (cv g)):
    HX 110 [aI, .d (.ro (ep l))] (ck S) (aH p e) (cv g):=
 ae aD named {pans:=au Pg [(110,1,2168,⟨2,some (bi c),[]⟩)]} 2000 2000 _ 1000000 (kn h rfl) (by kernel_rfl) (fun _=>by kernel_rfl)
end
def Pl.in(P:Pl):Pl:={P with deep:=dD (P.deep+1)}
theorem Fj{P:Pl}(hd: -9223372036854775808≤P.deep∧P.deep<9223372036854775808){l:List bu}(hl:l.length<1000000)(ih:∀x∈l,Od P.in x)(hr:∀x∈l,mN x)(S:CK)(a:At P S):TC S 110 [aI, .d (.ro (ep l))] (dQ P.in l S.c):=by
 have k:=Fg hl ih hr (S.at (dD (P.deep+1))) ⟨Fh a.ok _,a.fs,a.fn,rfl⟩;have hd':=hd;rw[←a.deep]at hd';have e1:dD (P.deep+1)=IntKind.i64.wrap (S.deep+1):=by rw[a.deep];rfl
 rw[e1]at k;change TC _ _ _ (dQ P.in l S.c)at k
 revert k;cases dQ P.in l S.c with
 |out=>exact fun _=>trivial
 |bad p e=>exact fun ⟨g,c⟩=>⟨g,Fi a.ok l hd' g p e c⟩
 |ok c'=>
  rintro⟨S',nx,c⟩;exact⟨S'.at S.deep,⟨Fh nx.ok _,nx.c,nx.fs,nx.fn,rfl,nx.W,nx.vars⟩,Iz a.ok l hd' nx.ok nx.deep c⟩
end Go.Avm
namespace Go.Avm
open Go.Proofs Go.RowKit
theorem gN{X:ce}{S S1:St}{Q:aG→St→Prop}{id p:Nat}{ops:Array Oper}{op:Oper}{cfg:iA}{ob:List Obl}{fts:List Foot}{Out:AV→ab→Prop}
    (hp:ops[p]? =some op) (hg:op.guard=none) (hd:∀c,op.op≠ .defer c) (hpre:dm X.P cfg X.N ops (List.range' 0 p) S=some (S1,ob,fts)) (hob:fT X.P ob)
    (hop:∀(G:Gh)(w:World)(a:Act),HR G X.B X.w0 X.I0 S1.heap w→(∀x,Rep G w (opd S1.env x) (a.eval x))→∃v w' G' x h',(execOp a.eval op).run X.P w= .ok (.value v) w'∧Ext G w G' w'∧HR G' X.B X.w0 X.I0 h' w'∧Rep G' w' x v∧Out x h')
    (hsuf:∀x h',Out x h'→∃cfg env S3 ob fts,dS X.N S1.env op.dst x=some env∧dm X.P cfg X.N ops (List.range' (p+1) (ops.size-p-1)) ⟨env,h'⟩=some (S3,ob,fts)∧fT X.P ob∧∃S4,Weak X S3 S4∧Q .normal S4):
    AW X (.region id ops false) S Q:=mb fun G a w hh=>hh.2.elim fun bs hf=>by
 refine wpIn_region ?_;rw[p6 (Array.getElem?_eq_some_iff.1 hp).1];refine uU X.mixed.ext X.rnd 0 _ hh.1 hf.1 hpre hob fun a1 w1 G1 e1 hr1 hf1=> ?_
 rw[wpOpsIn_cons];unfold wpOpIn;simp only[hp];rw[if_pos (qS hf1 (b:=true) (by unfold db;rw[hg]))];obtain⟨v,w2,G2,x,h2,hrun,e2,hr2,hx2,hout⟩:=hop G1 w1 a1 hr1 (fun x=>hf1.opd hr1.maps.glob x);obtain⟨cfg2,env,S3,ob3,fts3,hput,hrun3,hob3,hq⟩:=hsuf x h2 hout;refine r8 X.rnd 0 hd hrun ?_;refine mY X.mixed.ext X.rnd 0 _ hr2 ((hf1.mono e2).put hput hx2) hrun3 hob3 fun a3 w3 G3 e3 hr3 hf3=> ?_
 exact⟨.normal,S3,G3,trivial,hq,(e1.trans e2).trans e3,hr3,bs,hf3,hf.2.mono ((e1.trans e2).trans e3)⟩
def LH(r:Option (St×List Foot×Nat×List Nat×az)):Option (aG×St×Nat×List Nat×az):=match r with
 |some r=>some (.normal,r.1,r.2.2.1,r.2.2.2.1,r.2.2.2.2)
 |none=>none
theorem mt{P:Program}(hm:g0 P)(hn:co P)(pr:Par P)(n fno rid base N:Nat)(ops:Array Oper)(k:Nat){env:Nat→AV}{l':List (Nat×AV)}{hp hp':List (Nat×aN)}{rest:ab}
    (h:mo (CX (LH (yj P pr (bj P pr n) fno rid N ops (ops.toList.drop k) k base ⟨env,al hp rest⟩)) (hp.map (·.1)) l' hp')=outR .normal (CX (LH (yj P pr (bj P pr n) fno rid N ops (ops.toList.drop k) k base ⟨env,al hp rest⟩)) (hp.map (·.1)) l' hp')):
    ∃cfg S3 ob fts,dm P cfg N ops (List.range' k (ops.size-k)) ⟨env,al hp rest⟩=some (S3,ob,fts)∧fT P ob∧∀X:ce,Weak X S3 ⟨an l',al hp' rest⟩:=by
 obtain⟨ps,h1,hs⟩:=gg h;unfold CX at h1;split at h1
 ·rename_i e1 S1 b1 tk ps1 hr
  split at h1
  ·rename_i q hq
   split at h1
   ·rename_i hk
    simp only[Option.some.injEq,Prod.mk.injEq]at h1;obtain⟨rfl,rfl⟩:=h1;unfold LH at hr;split at hr;case h_2=>cases hr
    rename_i r hrun;simp only[Option.some.injEq,Prod.mk.injEq]at hr;obtain⟨_,rfl,rfl,rfl,rfl⟩:=hr;obtain⟨S3,fts,b2,tk,ps2⟩:=r
    obtain⟨⟨T,a1⟩,a2⟩:=og hm hn (df hm hn n) _ k base _ _ _ _ _ _ (fun j hj=>by
     rw[List.getElem?_drop,Array.getElem?_toList]) hrun hs.left
    obtain⟨ob,a3,a4⟩:=a1 {ret:=fun j=>(T j).ret,hc:=fun j=>(T j).hc,base:=fun j=>(T j).base,obm:=fun j=>pr.obm fno (((ops[j]?).bind (·.dst)).getD 0)} (fun _ _=>⟨rfl,rfl,rfl⟩) (fun _=>rfl);rw[List.length_drop,Array.length_toList]at a3;refine⟨_,S3,ob,fts,a3,a4,fun X=> ?_⟩;have hw:=od (X:=X) (S:=S3) hs.right.left hq hs.right.right
    have:al hp' S3.heap=al hp' rest:=by
     funext k;by_cases hkk:k∈hp'.map (·.1)
     ·exact gB _ _ _ hkk
     ·rw[b6 _ _ hkk,b6 _ _ hkk]
      have hno:∀k',k'∈tk ++hp.map (·.1)→k'≠k:=by
       rintro k' hk' rfl;have:=List.all_eq_true.1 hk k' hk';obtain⟨a,ha,hb⟩:=List.any_eq_true.1 this;have:=Nat.eq_of_beq_eq_true hb;subst this;exact hkk ha
      rw[a2 k (fun hx=>hno k (by simp[hx]) rfl)];exact b6 _ _ (fun hx=>hno k (by simp only[List.mem_append];exact .inr hx) rfl)
    rw[this]at hw;exact hw
   ·cases h1
  ·cases h1
 ·cases h1
def IA:Code→Code
 | .seq x _=>x
 |c=>c
def uZ:Code→Code
 | .seq _ y=>y
 |c=>c
def Qk:Code→Code
 | .block _ x=>x
 |c=>c
def Tu:Code→Code
 | .cond _ x _=>x
 |c=>c
def BM:Code→Array Oper
 | .region _ ops _=>ops
 |_=> #[]
noncomputable def QR:Code:=EX Pg 159
noncomputable def LI:Code:=bO Pg 159 1
noncomputable def Nn:Array Oper:=BM (IA QR)
noncomputable def Kb:Array Oper:=BM (IA LI)
noncomputable def Kc:Array Oper:=BM (IA (Qk (uZ (uZ LI))))
noncomputable def S6:Code:=IA (uZ (Qk (uZ (uZ LI))))
noncomputable def No:Array Oper:=BM (Tu (uZ (uZ (Qk (uZ (uZ LI))))))
theorem De:QR= .seq (.region 0 Nn false) (.block 0 (.loop LI)):=by kernel_rfl
theorem pn:LI= .seq (.region 1 Kb false) (.seq (.cond (.tmp 9) .skip (.exit 0)) (.block 1 (.seq (.region 2 Kc false) (.seq S6 (.cond (.tmp 16) (.region 4 No false) .skip))))):=by kernel_rfl
theorem Fk:(Nn[1]?).isSome=true:=by kernel_rfl
noncomputable def Ql:Oper:=(Nn[1]?).get Fk
theorem Fl:(Kb[0]?).isSome=true:=by kernel_rfl
noncomputable def Qm:Oper:=(Kb[0]?).get Fl
theorem Fm:(Kc[0]?).isSome=true:=by kernel_rfl
noncomputable def Qn:Oper:=(Kc[0]?).get Fm
theorem Fo:(No[2]?).isSome=true:=by kernel_rfl
noncomputable def Np:Oper:=(No[2]?).get Fo
theorem LJ:Nn[1]? =some Ql:=(Option.some_get _).symm
theorem LK:Kb[0]? =some Qm:=(Option.some_get _).symm
theorem LL:Kc[0]? =some Qn:=(Option.some_get _).symm
theorem LM:No[2]? =some Np:=(Option.some_get _).symm
theorem tp:Ql.op= .range 90 (.tmp 6)∧Ql.guard=none∧Ql.dst=some 7∧Nn.size=2:=⟨by kernel_rfl,by kernel_rfl,by kernel_rfl,by kernel_rfl⟩
theorem tq:Qm.op= .next (.tmp 7) false∧Qm.guard=none∧Qm.dst=some 8∧Kb.size=2:=⟨by kernel_rfl,by kernel_rfl,by kernel_rfl,by kernel_rfl⟩
theorem wN:Qn.op= .entry (.tmp 7)∧Qn.guard=none∧Qn.dst=some 10∧Kc.size=6:=⟨by kernel_rfl,by kernel_rfl,by kernel_rfl,by kernel_rfl⟩
def Fp:Op→Option Call
 | .call c=>some c
 |_=>none
theorem Fq:(Fp Np.op).isSome=true:=by kernel_rfl
noncomputable def wR:Call:=(Fp Np.op).get Fq
theorem tt:Np.op= .call wR∧Np.guard=none∧Np.dst=none∧No.size=3:=⟨by kernel_rfl,by kernel_rfl,by kernel_rfl,by kernel_rfl⟩
theorem po:wR.callee= .builtin .delete∧wR.args= #[.tmp 17, .tmp 18]∧wR.argTypes[0]? =some 90:=⟨by kernel_rfl,by kernel_rfl,by kernel_rfl⟩
noncomputable def S7:TypeId:=match Pg.underlying 90 with
 |some (.map _ u)=>u
 |_=>0
theorem Fr:Pg.underlying 90=some (.map 3 S7):=by kernel_rfl
def oI(b:SureL)(acc:List Nat)(l:List (Nat×Nat)):List (Nat×Nat):=l.filter fun e=> !(acc.contains e.2)||b.has e.1
theorem tu{x:Nat}:∀{l:List (Nat×Nat)}{j i:Nat},(l.map (·.1)).Nodup→bQ x l j=some (j+i)→l.eraseIdx i=l.filter fun e=> !(e.1==x)
 |[],_,_,_,h=>by cases h
 |e::r,j,i,hn,h=>by
  simp only[bQ]at h;rw[List.map_cons,List.nodup_cons]at hn;cases hb:(x==e.1)with
  |true=>
   rw[hb]at h;simp only[cond_true,Option.some.injEq]at h;have hi:i=0:=by omega
   subst hi;rw[eq_of_beq hb,List.eraseIdx_zero,List.tail_cons,List.filter_cons];simp only[BEq.rfl,Bool.not_true,Bool.false_eq_true,if_false];refine(List.filter_eq_self.2 fun a ha=> ?_).symm;rw[Bool.not_eq_true',beq_eq_false_iff_ne];intro e2;exact hn.1 (List.mem_map.2 ⟨a,ha,e2⟩)
  |false=>
   rw[hb]at h;simp only[cond_false]at h
   have hge:∀{l:List (Nat×Nat)}{j k:Nat},bQ x l j=some k→j≤k:=fun {l}=>by
    induction l with
    |nil=>intro j k h;cases h
    |cons a r ih=>
     intro j k h;simp only[bQ]at h;cases hc:(x==a.1)with
     |true=>rw[hc]at h;simp at h;omega
     |false=>rw[hc]at h;have:=ih h;omega
   have:=hge h;obtain⟨i',rfl⟩:∃i',i=i'+1:=⟨i-1,by omega⟩
   have ih:=tu (i:=i') hn.2 (by rw[h];congr 1;omega);have hb2:(e.1==x)=false:=by rw[beq_eq_false_iff_ne]at hb ⊢;exact Ne.symm hb
   rw[List.eraseIdx_cons_succ,List.filter_cons,hb2,ih];rfl
theorem u0{x:Nat}:∀{l:List (Nat×Nat)}{j:Nat},(∃p∈l,p.1=x)→∃i,bQ x l j=some (j+i)
 |[],_,h=>by simp at h
 |e::r,j,h=>by
  cases h1:(x==e.1)with
  |true=>exact⟨0,by simp only[bQ,h1,cond_true];rfl⟩
  |false=>
   simp only[bQ,h1,cond_false];obtain⟨p,hp,he⟩:=h;rcases List.mem_cons.1 hp with rfl|hp
   ·rw[he]at h1;simp at h1
   ·obtain⟨i,hi⟩:=u0 (j:=j+1) ⟨p,hp,he⟩
    exact⟨i+1,by rw[hi];congr 1;omega⟩
section
variable{b:SureL}{l:List (Nat×Nat)}(hk:(l.map (·.1)).Nodup)(hb:(l.map (·.2)).Nodup)
theorem q9{α β:Type}{f:α→β}:∀{l:List α},(l.map f).Nodup→∀{x y:α},x∈l→y∈l→f x=f y→x=y
 |a::r,h,x,y,hx,hy,e=>by
  rw[List.map_cons,List.nodup_cons]at h;rcases List.mem_cons.1 hx with h1|h1<;>rcases List.mem_cons.1 hy with h2|h2
  ·exact h1.trans h2.symm
  ·exact absurd (List.mem_map.2 ⟨y,h2,by rw[←e,h1]⟩) h.1
  ·exact absurd (List.mem_map.2 ⟨x,h1,by rw[e,h2]⟩) h.1
  ·exact q9 h.2 h1 h2 e
include hb in
theorem IB{acc:List Nat}{e:Nat×Nat}(he:e∈oI b acc l)(hh:b.has e.1=true):oI b (acc ++[e.2]) l=oI b acc l:=by
 refine List.filter_congr fun x hx=> ?_
 cases hxb:b.has x.1 with
 |true=>simp
 |false=>
  have hne:x.2≠e.2:=fun e2=>by
   have:=q9 hb hx (List.mem_filter.1 he).1 e2;rw[this,hh]at hxb;cases hxb
  simp[hne]
include hk hb in
theorem IC{acc:List Nat}{e:Nat×Nat}(he:e∈oI b acc l)(hh:b.has e.1=false):oI b (acc ++[e.2]) l=(oI b acc l).filter fun x=> !(x.1==e.1):=by
 unfold oI;rw[List.filter_filter];refine List.filter_congr fun x hx=> ?_
 have hel:=(List.mem_filter.1 he).1;by_cases h1:x.1=e.1
 ·have:x=e:=q9 hk hx hel h1
  subst this;simp[hh]
 ·have hne:x.2≠e.2:=fun e2=>h1 (by rw[q9 hb hx hel e2])
  simp[h1,hne]
theorem LN{acc:List Nat}(h:∀e∈oI b acc l,e.2∈acc):oI b acc l=l.filter fun e=>b.has e.1:=by
 refine List.filter_congr fun x hx=> ?_
 cases hxb:b.has x.1 with
 |true=>simp
 |false=>
  cases hc:acc.contains x.2 with
  |true=>rfl
  |false=>
   have:=h x (List.mem_filter.2 ⟨hx,by simp only[hc,hxb];rfl⟩);rw[←List.contains_iff_mem,hc]at this;cases this
theorem LO:oI b [] l=l:=List.filter_eq_self.2 fun x _=>by simp
end
theorem qk:∀(i:Nat)(l:List (Nat×Nat)),(bc l).eraseIdx i=bc (l.eraseIdx i)
 |_,[]=>rfl
 |0,_::_=>rfl
 |i+1,e::r=>by
  show _::(bc r).eraseIdx i=_::bc (r.eraseIdx i);rw[qk i r]
theorem BN{P:Program}{cfg:iA}{N:Nat}{ops:Array Oper}{l:List Nat}{S S3:St}(h:(dm P cfg N ops l S).map (fun r=>(r.1,r.2.1))=some (S3,[])):∃fts,dm P cfg N ops l S=some (S3,[],fts):=by
 cases hr:dm P cfg N ops l S with
 |none=>rw[hr]at h;cases h
 |some r=>
  obtain⟨a,b,c⟩:=r;rw[hr]at h;simp only[Option.map_some,Option.some.injEq,Prod.mk.injEq]at h;obtain⟨rfl,rfl⟩:=h;exact⟨c,rfl⟩
theorem jP(P:Program):fT P []:=fun _ h=>by cases h
abbrev zw(va w:Nat):List (Nat×AV):=[(0, .mp 500004 va),(1, .fn 160 [.ptr 600005 1 0 0 1]),(7, .itr 600100 1)]
abbrev yJ(va ca vb cb:Nat)(la lb:List (Nat×Nat))(seen:List Nat)(w:Nat):List (Nat×aN):=
 [(500004,⟨va,some (.map (bc la) ca)⟩),(600005,⟨1,some (.arr 1 [.mp 500014 vb])⟩),(500014,⟨vb,some (.map (bc lb) cb)⟩),(600100,⟨1,some (.itr 500004 va ca seen)⟩),(600205,⟨w,none⟩),(600461,⟨w,none⟩),(600591,⟨w,none⟩)]
abbrev Og(va ca vb cb:Nat)(la lb:List (Nat×Nat))(seen:List Nat)(w:Nat):List (Nat×aN):=
 [(500004,⟨va,some (.map (bc la) ca)⟩),(600005,⟨1,some (.arr 1 [.mp 500014 vb])⟩),(500014,⟨vb,some (.map (bc lb) cb)⟩),(600100,⟨1,some (.itr 500004 va ca seen)⟩),(600205,⟨w+1,some (.arr 1 [])⟩),(600461,⟨w,none⟩),(600591,⟨w,none⟩)]
section
variable(va ca vb cb w:Nat)(la lb:List (Nat×Nat))(seen:List Nat)(x:Nat)
theorem Kd(t:Bool)(l:List D)(rest:ab):∃cfg S3 ob fts,dm Pg cfg 19 Kb (List.range' 1 (Kb.size-1)) ⟨aM (an (zw va w)) 8 (.tup (.d (.bool t)::l.map .d)),al (yJ va ca vb cb la lb seen w) rest⟩=some (S3,ob,fts)∧fT Pg ob∧∀X:ce,Weak X S3 ⟨an (zw va w ++[(9,dB t)]),al (yJ va ca vb cb la lb seen w) rest⟩:=
 mt aD named {} 2000 159 1 600300 19 Kb 1 (by kernel_rfl)
theorem Oh(rest:ab):∃cfg S3 ob fts,dm Pg cfg 19 Kc (List.range' 1 (Kc.size-1)) ⟨aM (an (zw va w ++[(9,dB true)])) 10 (.tup [.d (.int .i64 (x:Int)), .d (.agg [])]),al (yJ va ca vb cb la lb seen w) rest⟩=some (S3,ob,fts)∧fT Pg ob∧∀X:ce,Weak X S3 ⟨an (zw va w ++[(4,dN x),(5, .ptr 600205 (w+1) 0 0 1)]),al (Og va ca vb cb la lb seen w) rest⟩:=
 mt aD named {} 2000 159 2 600162 19 Kc 1 (by kernel_rfl)
theorem Ke(t:Bool)(r:Option Nat)(hr:bQ x lb 0=r)(ht:r.isSome= !t)(rest:ab)(X:ce)(hP:X.P=Pg)(hN:X.N=19):
    AW X S6 ⟨an (zw va w ++[(4,dN x),(5, .ptr 600205 (w+1) 0 0 1)]),al (Og va ca vb cb la lb seen w) rest⟩ fun e' S'=>e'= .normal∧Weak X S' ⟨an (zw va w ++[(4,dN x),(16,dB t)]),al (yJ va ca vb cb la lb seen (w+1)) rest⟩:=by
 cases r with
 |none=>
  have e:t=true:=by cases t<;>simp_all
  subst e;exact t6 aD named {hint:=qT 160 [(11,lH Pg x lb none hr)]} 2000 159 600400 19 (by kernel_rfl) X hP hN
 |some i=>
  have e:t=false:=by cases t<;>simp_all
  subst e;exact t6 aD named {hint:=qT 160 [(11,lH Pg x lb (some i) hr)]} 2000 159 600400 19 (by kernel_rfl) X hP hN
theorem Oi(t:Bool)(S0:St)(h0:S0.env 0= .mp 500004 va)(h4:S0.env 4=dN x):∃fts,dm Pg {} 19 No (List.range' 0 2) S0=some (⟨aM (aM S0.env 17 (.mp 500004 va)) 18 (dN x),S0.heap⟩,[],fts):=by
 rw[←h0,←h4];exact BN (by kernel_rfl)
end
theorem oJ{X:ce}{env:Nat→AV}{h h':ab}{l:List (Nat×AV)}(hl:∀p∈l,p.2=env p.1)(hh:h=h'):Weak X ⟨env,h⟩ ⟨an l,h'⟩:=by
 subst hh;exact m6 hl
section
variable{va ca vb cb:Nat}{la lb:List (Nat×Nat)}(hk:(la.map (·.1)).Nodup)(hb:(la.map (·.2)).Nodup)(hc:∀p∈la,p.2<ca)
include hk hb hc
theorem LP(la':List (Nat×Nat))(seen seen':List Nat)(w:Nat)(rest:ab):aM (al (yJ va ca vb cb la' lb seen w) rest) 600100 ⟨1,some (.itr 500004 va ca seen')⟩=al (yJ va ca vb cb la' lb seen' w) rest:=by
 funext k;simp only[al,aM];by_cases h1:k=600100
 ·subst h1;simp
 ·simp[h1]
theorem LQ(la' la'':List (Nat×Nat))(seen:List Nat)(w:Nat)(rest:ab):aM (al (yJ va ca vb cb la' lb seen w) rest) 500004 ⟨va,some (.map (bc la'') ca)⟩=al (yJ va ca vb cb la'' lb seen w) rest:=by
 funext k;simp only[al,aM];by_cases h1:k=500004
 ·subst h1;simp
 ·simp[h1]
set_option maxRecDepth 100000 in
theorem Oj(rest:ab)(X:ce)(hP:X.P=Pg)(hN:X.N=19):∀(m:Nat)(acc:List Nat),la.length-acc.length=m→acc.Nodup→(∀v∈acc,v∈la.map (·.2))→
    LW X LI ⟨an (zw va 0),al (yJ va ca vb cb (oI ⟨lb,cb⟩ acc la) lb acc acc.length) rest⟩ fun e' S'=>e'= .exit 0∧∃acc',Weak X S' ⟨an [(0, .mp 500004 va)],al (yJ va ca vb cb (la.filter fun e=>(⟨lb,cb⟩:SureL).has e.1) lb acc' la.length) rest⟩:=fun m=>by
 induction m using Nat.strongRecOn with
 |ind m ih=>
  intro acc hm hn hs
  have hlen:acc.length≤la.length:=by
   have:=List.Nodup.length_le_of_subset hn hs;rwa [List.length_map]at this
  have hsub:∀p∈oI ⟨lb,cb⟩ acc la,p∈la:=fun p hp=>(List.mem_filter.1 hp).1
  refine iL ?_;rw[pn]
  refine dU (gN (cfg:={}) (ob:=[]) (fts:=[]) (p:=0) (S1:=⟨an (zw va 0),al (yJ va ca vb cb (oI ⟨lb,cb⟩ acc la) lb acc acc.length) rest⟩) (Out:=Bw (al (yJ va ca vb cb (oI ⟨lb,cb⟩ acc la) lb acc acc.length) rest) 600100 1 500004 va ca (bc (oI ⟨lb,cb⟩ acc la)) acc) LK tq.2.1 (fun c=>by rw[tq.1];intro h;cases h) rfl (jP _)
   (fun G w a hr hρ=>H6 hr hρ tq.1 rfl (by simp[al,aM]) (by simp[al,aM]) (fun e he=> ?_)) ?_)
  ·obtain⟨p,hp,rfl⟩:=List.mem_map.1 he
   exact hc p (hsub p hp)
  ·rintro x h' (⟨rfl,rfl,hall⟩|⟨e,he,hns,rfl,rfl⟩)
   ·obtain⟨cfg,S3,ob,fts,h1,h2,h3⟩:=Kd va ca vb cb acc.length (oI ⟨lb,cb⟩ acc la) lb acc false [] rest
    refine⟨cfg,_,S3,ob,fts,by rw[hN,tq.2.2.1];rfl,by rw[hP,hN];exact h1,by rw[hP];exact h2,_,h3 X, ?_⟩;have hin:∀e∈oI ⟨lb,cb⟩ acc la,e.2∈acc:=fun e he=>hall _ (List.mem_map.2 ⟨e,he,rfl⟩)
    have hfull:acc.length=la.length:=by
     refine Nat.le_antisymm hlen ?_
     have:=List.Nodup.length_le_of_subset hb (l₂:=acc) (fun v hv=>by
      obtain⟨p,hp,rfl⟩:=List.mem_map.1 hv;cases hq:acc.contains p.2 with
      |true=>exact List.contains_iff_mem.1 hq
      |false=>exact hin p (List.mem_filter.2 ⟨hp,by show(!(acc.contains p.2)||_)=true;rw[hq];rfl⟩))
     rwa [List.length_map]at this
    have hfil:=LN hin;refine dU (gJ (b:=false) rfl (fun h=>by cases h) (fun _=>qU ⟨rfl,acc,oJ (fun p hp=> ?_) (by rw[hfil,hfull])⟩));rw[List.mem_singleton]at hp;subst hp;rfl
   ·obtain⟨p,hp,rfl⟩:=List.mem_map.1 he
    simp only at hns ⊢;have hpl:=hsub p hp;rw[LP hk hb hc];obtain⟨cfg,S3,ob,fts,h1,h2,h3⟩:=Kd va ca vb cb acc.length (oI ⟨lb,cb⟩ acc la) lb (acc ++[p.2]) true [.int .i64 (p.1:Int), .agg []] rest;refine⟨cfg,_,S3,ob,fts,by rw[hN,tq.2.2.1];rfl,by rw[hP,hN];exact h1,by rw[hP];exact h2,_,h3 X, ?_⟩;refine dU (gJ (b:=true) rfl (fun _=>nU ?_) (fun h=>by cases h))
    refine iJ (dU (gN (cfg:={}) (ob:=[]) (fts:=[]) (p:=0) (S1:=⟨an (zw va 0 ++[(9,dB true)]),al (yJ va ca vb cb (oI ⟨lb,cb⟩ acc la) lb (acc ++[p.2]) acc.length) rest⟩) (Out:=fun x' h'=>x'= .tup [.d (.int .i64 (p.1:Int)), .d (.agg [])]∧h'=al (yJ va ca vb cb (oI ⟨lb,cb⟩ acc la) lb (acc ++[p.2]) acc.length) rest) LL wN.2.1 (fun c=>by rw[wN.1];intro h;cases h) rfl (jP _)
     (fun G w a hr hρ=>EK hr hρ wN.1 rfl (e:=(.int .i64 (p.1:Int), .agg [],p.2)) (seen:=acc) (I:=600100) (vI:=1) (k:=500004) (v:=va) (c:=ca) (es:=bc (oI ⟨lb,cb⟩ acc la)) (by simp[al,aM]) (by simp[al,aM]) (List.mem_map.2 ⟨p,hp,rfl⟩) (by
      unfold bc;rw[List.map_map];exact(List.Sublist.map _ List.filter_sublist).nodup hb)) ?_))
    rintro x' h' ⟨rfl,rfl⟩;obtain⟨cfg2,S4,ob2,fts2,g1,g2,g3⟩:=Oh va ca vb cb acc.length (oI ⟨lb,cb⟩ acc la) lb (acc ++[p.2]) p.1 rest;refine⟨cfg2,_,S4,ob2,fts2,by rw[hN,wN.2.2.1];rfl,by rw[hP,hN];exact g1,by rw[hP];exact g2,_,g3 X, ?_⟩
    have hn2:(acc ++[p.2]).Nodup:=by
     rw[List.nodup_append];exact⟨hn,by simp,fun a ha b hb=>by rw[List.mem_singleton]at hb;subst hb;exact fun e=>hns (e▸ha)⟩
    have hs2:∀v∈acc ++[p.2],v∈la.map (·.2):=fun v hv=>by
     rcases List.mem_append.1 hv with h|h
     ·exact hs v h
     ·rw[List.mem_singleton]at h
      subst h;exact List.mem_map.2 ⟨p,hpl,rfl⟩
    have hl2:acc.length<la.length:=by
     have:=List.Nodup.length_le_of_subset hn2 hs2;rw[List.length_append,List.length_singleton,List.length_map]at this;omega
    have next:=ih (la.length-(acc ++[p.2]).length) (by rw[List.length_append,List.length_singleton];omega) (acc ++[p.2]) rfl hn2 hs2
    rw[List.length_append,List.length_singleton]at next
    cases hh:(⟨lb,cb⟩:SureL).has p.1 with
    |true=>
     rw[IB hb hp hh]at next
     refine dU ((Ke va ca vb cb acc.length (oI ⟨lb,cb⟩ acc la) lb (acc ++[p.2]) p.1 false _ rfl (by unfold SureL.has at hh;rw[hh];rfl) rest X hP hN).mono ?_);rintro e' S' ⟨rfl,hw⟩;refine AW.weak hw (gJ (b:=false) rfl (fun h=>by cases h) (fun _=>nU ?_));rw[←pn]
     exact LW.weak (oJ (l:=zw va 0) (fun q hq=>by
      simp only[zw,List.mem_cons,List.not_mem_nil,or_false]at hq;rcases hq with rfl|rfl|rfl<;>rfl) rfl) next
    |false=>
     rw[IC hk hb hp hh]at next
     refine dU ((Ke va ca vb cb acc.length (oI ⟨lb,cb⟩ acc la) lb (acc ++[p.2]) p.1 true _ rfl (by unfold SureL.has at hh;rw[hh];rfl) rest X hP hN).mono ?_);rintro e' S' ⟨rfl,hw⟩;refine AW.weak hw (gJ (b:=true) rfl (fun _=> ?_) (fun h=>by cases h));obtain⟨fts4,k1⟩:=Oi va p.1 true ⟨an (zw va 0 ++[(4,dN p.1),(16,dB true)]),al (yJ va ca vb cb (oI ⟨lb,cb⟩ acc la) lb (acc ++[p.2]) (acc.length+1)) rest⟩ rfl rfl;obtain⟨i,hi⟩:=u0 (j:=0) ⟨p,hp,rfl⟩;rw[Nat.zero_add]at hi;have herase:=tu (l:=oI ⟨lb,cb⟩ acc la) (x:=p.1) (j:=0) (i:=i) ((List.Sublist.map _ List.filter_sublist).nodup hk) (hi.trans (by rw[Nat.zero_add]));refine gN (cfg:={}) (p:=2) (Out:=fun x' h'=>x'= .tup []∧h'=aM (al (yJ va ca vb cb (oI ⟨lb,cb⟩ acc la) lb (acc ++[p.2]) (acc.length+1)) rest) 500004 ⟨va,some (.map ((bc (oI ⟨lb,cb⟩ acc la)).eraseIdx i) ca)⟩) LM tt.2.1 (fun c=>by rw[tt.1];intro h;cases h) (by rw[hP,hN];exact k1) (jP _) (fun G w a hr hρ=> ?_) ?_
     ·obtain⟨v',w',G',q1,q2,q3,q4⟩:=CY (P:=X.P) hr hρ (t:=90) (kt:=3) (et:=S7) (m:= .tmp 17) (x:= .tmp 18) (k:=500004) (v:=va) (c:=ca) (es:=bc (oI ⟨lb,cb⟩ acc la)) (kd:= .int .i64 (p.1:Int)) (y:= .agg []) (i:=i) tt.1 po.1 po.2.1 po.2.2 (by rw[hP];exact Fr) rfl rfl (by simp[al,aM]) (by rw[hP];kernel_rfl) (by rw[pi,hi];rfl)
      exact⟨v',w',G',_,_,q1,q2,q3,q4,rfl,rfl⟩
     ·rintro x' h' ⟨rfl,rfl⟩
      refine⟨{},_,_,[],[],by rw[tt.2.2.1];rfl,by rw[tt.2.2.2];rfl,jP _,_,Weak.refl _, ?_⟩;rw[qk,herase,LQ hk hb hc];rw[←pn]
      exact LW.weak (oJ (l:=zw va 0) (fun q hq=>by
       simp only[zw,List.mem_cons,List.not_mem_nil,or_false]at hq;rcases hq with rfl|rfl|rfl<;>rfl) rfl) next
abbrev Qo(va ca vb cb:Nat)(la lb:List (Nat×Nat)):List (Nat×aN):=
 [(500004,⟨va,some (.map (bc la) ca)⟩),(600005,⟨1,some (.arr 1 [.mp 500014 vb])⟩),(500014,⟨vb,some (.map (bc lb) cb)⟩),(600100,⟨0,none⟩),(600205,⟨0,none⟩),(600461,⟨0,none⟩),(600591,⟨0,none⟩)]
abbrev S8(va ca vb cb:Nat)(la lb:List (Nat×Nat))(w:Nat):List (Nat×aN):=
 [(500004,⟨va,some (.map (bc la) ca)⟩),(600005,⟨1,some (.arr 1 [.mp 500014 vb])⟩),(500014,⟨vb,some (.map (bc lb) cb)⟩),(600100,⟨1,none⟩),(600205,⟨w,none⟩),(600461,⟨w,none⟩),(600591,⟨w,none⟩)]
theorem Ok(S0:St)(h:S0.env 0= .mp 500004 va):∃fts,dm Pg {} 19 Nn (List.range' 0 1) S0=some (⟨aM S0.env 6 (.mp 500004 va),S0.heap⟩,[],fts):=by
 rw[←h];exact BN (by kernel_rfl)
theorem QS(rest:ab):ay Pg 159 [.mp 500004 va, .fn 160 [.ptr 600005 1 0 0 1]] (al (Qo va ca vb cb la lb) rest) [] (al (S8 va ca vb cb (la.filter fun e=>(⟨lb,cb⟩:SureL).has e.1) lb la.length) rest):=by
 refine lj aD Tryz.func159 (c:=QR) (by kernel_rfl) (by kernel_rfl) (by rw[show Tryz.f159.ntmps=19 by kernel_rfl];exact Nat.le_of_ble_eq_true rfl) fun X hP hN=> ?_
 have hN:X.N=19:=hN.trans (by kernel_rfl);rw[De];obtain⟨fts0,h0⟩:=Ok (va:=va) hk hb hc ⟨ga [.mp 500004 va, .fn 160 [.ptr 600005 1 0 0 1]],al (Qo va ca vb cb la lb) rest⟩ rfl;refine dU (gN (cfg:={}) (ob:=[]) (p:=1) (Out:=fun x h'=>x= .itr 600100 1∧h'=aM (al (Qo va ca vb cb la lb) rest) 600100 ⟨1,some (.itr 500004 va ca [])⟩) LJ tp.2.1 (fun c=>by rw[tp.1];intro h;cases h) (by rw[hP,hN];exact h0) (jP _) (fun G w a hr hρ=> ?_) ?_)
 ·obtain⟨v',w',G',h1,h2,h3,h4⟩:=EJ (P:=X.P) hr hρ 600100 tp.1 (by rw[hP];exact Fr) (k:=500004) (v:=va) (es:=bc la) (c:=ca) rfl (by simp[al,aM])
  have e:(al (Qo va ca vb cb la lb) rest 600100).ver=0:=by simp[al,aM]
  simp only[e]at h3 h4;exact⟨v',w',G',_,_,h1,h2,h3,h4,rfl,rfl⟩
 ·rintro x h' ⟨rfl,rfl⟩
  refine⟨{},_,_,[],[],by rw[hN,tp.2.2.1];rfl,by rw[tp.2.2.2];rfl,jP _,⟨an (zw va 0),al (yJ va ca vb cb la lb [] 0) rest⟩,oJ (fun q hq=> ?_) ?_, ?_⟩
  ·simp only[zw,List.mem_cons,List.not_mem_nil,or_false]at hq
   rcases hq with rfl|rfl|rfl<;>rfl
  ·funext k
   simp only[al,aM];by_cases h1:k=600100
   ·subst h1;simp
   ·simp[h1]
  ·have lp:=Oj (va:=va) (vb:=vb) (cb:=cb) (lb:=lb) hk hb hc rest X hP hN _ [] rfl List.nodup_nil (fun v hv=>by cases hv)
   rw[LO]at lp;refine iJ (mb (lp.aw.mono ?_));rintro e' S' ⟨rfl,acc',hw⟩;refine⟨_,hw.trans (jK (h':=al (S8 va ca vb cb (la.filter fun e=>(⟨lb,cb⟩:SureL).has e.1) lb la.length) rest) fun k=> ?_), .inl rfl,by kernel_rfl,rfl⟩;simp only[al,aM];by_cases h1:k=600100
   ·subst h1;simp
   ·simp[h1]
end
section
variable(va ca vb cb:Nat)(la lb:List (Nat×Nat))
theorem Ol(y:Bool)(rest:ab):ay Pg 135 [.mp 500004 va, .mp 500014 vb,dB true,dB y] (al [(600005,⟨0,none⟩)] rest) [.mp 500014 vb] (al [(600005,⟨1,none⟩)] rest):=
 ap aD named {} 2000 600000 _ (by kernel_rfl)
theorem Om(rest:ab):ay Pg 135 [.mp 500004 va, .mp 500014 vb,dB false,dB true] (al [(600005,⟨0,none⟩)] rest) [.mp 500004 va] (al [(600005,⟨1,none⟩)] rest):=
 ap aD named {} 2000 600000 _ (by kernel_rfl)
theorem Oo(hk:(la.map (·.1)).Nodup)(hb:(la.map (·.2)).Nodup)(hc:∀p∈la,p.2<ca)(rest:ab):ay Pg 135 [.mp 500004 va, .mp 500014 vb,dB false,dB false] (al [(500004,⟨va,some (.map (bc la) ca)⟩),(500014,⟨vb,some (.map (bc lb) cb)⟩),(600005,⟨0,none⟩),(600100,⟨0,none⟩),(600205,⟨0,none⟩),(600461,⟨0,none⟩),(600591,⟨0,none⟩)] rest) [.mp 500004 va]
    (al [(500004,⟨va,some (.map (bc (la.filter fun e=>(⟨lb,cb⟩:SureL).has e.1)) ca)⟩),(500014,⟨vb,some (.map (bc lb) cb)⟩),(600005,⟨1,none⟩),(600100,⟨1,none⟩),(600205,⟨la.length,none⟩),(600461,⟨la.length,none⟩),(600591,⟨la.length,none⟩)] rest):=
 ap aD named ({calls:=fun f s _=>if f=135 then (if s=17 then some (af (QS (va:=va) (ca:=ca) (vb:=vb) (cb:=cb) (la:=la) (lb:=lb) hk hb hc))else none)else none}) 2000 600000 _ (by kernel_rfl)
end
end Go.Avm
namespace Go.Avm
open Go.Proofs
def sw(k:Nat):Nat:=bif Nat.beq k 500004 then 500014 else bif Nat.beq k 500014 then 500004 else k
theorem Fs{a b:Nat}(h:a≠b):Nat.beq a b=false:=by
 cases hb:Nat.beq a b with
 |false=>rfl
 |true=>exact absurd (Nat.eq_of_beq_eq_true hb) h
theorem u1(k:Nat):sw (sw k)=k:=by
 by_cases h1:k=500004
 ·subst h1;rfl
 ·by_cases h2:k=500014
  ·subst h2;rfl
  ·have e:sw k=k:=by
     unfold sw;rw[Fs h1,Fs h2];rfl
   rw[e,e]
theorem yK:Names sw fun j=>some (sw j):=⟨fun k=>by simp only[u1],fun j k h=>by
 have:sw j=k:=Option.some.inj h;rw[←this,u1]⟩
theorem tv(rest:ab):∀(l:List (Nat×aN))(j:Nat),cg sw (al l rest (sw j))=al (l.map fun p=>(sw p.1,cg sw p.2)) (gk sw (fun j=>some (sw j)) rest) j
 |[],j=>rfl
 |(k,e)::r,j=>by
  simp only[List.map_cons,al,aM];by_cases h:sw j=k
  ·have h2:j=sw k:=by rw[←h,u1]
   rw[if_pos h,if_pos h2]
  ·have h2:¬j=sw k:=fun h2=>h (by rw[h2,u1])
   rw[if_neg h,if_neg h2];exact tv rest r j
abbrev ID(S:CK):List AV:=[.mp 499904 1, .d (.ro (S.fs.map cW)), .sl 500191 1 0 S.fs.length 1, .sl 500382 S.vp 0 S.c.pts.length 3,dN S.fn, .mp 500002 S.vh, .mp 500003 S.vs, .mp 500014 S.vq,dI S.deep]
abbrev Df(S:CK):List (Nat×aN):=
 [(500000,⟨1,some (.arr 1 (ID S))⟩),(499904,⟨1,some (.map (kD 0 S.fs) S.fs.length)⟩),(500002,⟨S.vh,some (.map (gF 0 S.c.vars) S.c.vars.length)⟩),(500003,⟨S.vs,some (.map (cB 0 S.c.seen) S.c.seen.length)⟩),
  (500014,⟨S.vq,some (.map (bc S.c.sure.l) S.c.sure.c)⟩),(500005,⟨S.vv,some (.arr 4 (S.c.vars.map zv))⟩),(500382,⟨S.vp,some (.arr 3 (S.c.pts.map ct))⟩),(500191,⟨1,some (.arr 1 (S.W.set S.fn (lG S.vv S.c.vars)))⟩)]
theorem AI{S:CK}(h:CKok S):((Df S).map fun p=>(sw p.1,cg sw p.2))=ck S:=by
 have h5:sw 500005=500005:=rfl;have e1:sw 500000=500000:=rfl;have e2:sw 499904=499904:=rfl;have e3:sw 500002=500002:=rfl;have e4:sw 500003=500003:=rfl;have e5:sw 500014=500004:=rfl;have e6:sw 500382=500382:=rfl;have e7:sw 500191=500191:=rfl;simp only[ck,BG,Df,ID,List.map_cons,List.map_nil,cg,Option.map_some,gj,oF,sY,J4 h h5,bT,aR,e1,e2,e3,e4,e5,e6,e7,h5]
abbrev BO(g:Gv):List (Nat×aN):=[(500000,⟨1,none⟩),(499904,⟨1,none⟩),(500002,⟨g.vh,none⟩),(500003,⟨g.vs,none⟩),(500014,⟨g.vq,none⟩),(500005,⟨g.vv,none⟩),(500382,⟨g.vp,none⟩),(500191,⟨1,none⟩)]
theorem Ft(g:Gv):((BO g).map fun p=>(sw p.1,cg sw p.2))=cv g:=by kernel_rfl
theorem Dg{S S':CK}(h:CKok S)(h':CKok S'){f:Nat}{d:D}(c:HC f [aI, .d d] (ck S) [] (ck S')):HC f [aI, .d d] (Df S) [] (Df S'):=fun rest=>by
 have e:gk sw (fun j=>some (sw j)) (al (Df S) rest)=al (ck S) (gk sw (fun j=>some (sw j)) rest):=by
  funext j;have:=tv rest (Df S) j;rw[AI h]at this;exact this
 refine uP yK (h2:=al (ck S') (gk sw (fun j=>some (sw j)) rest)) ?_ fun k=> ?_
 ·rw[e]
  exact c _
 ·have:=tv rest (Df S') (sw k)
  rw[AI h',u1]at this;exact this.symm
theorem Fu{S:CK}(h:CKok S){g:Gv}{f:Nat}{d:D}{p e:Int}(c:HX f [aI, .d d] (ck S) (aH p e) (cv g)):HX f [aI, .d d] (Df S) (aH p e) (BO g):=fun rest=>by
 have e:gk sw (fun j=>some (sw j)) (al (Df S) rest)=al (ck S) (gk sw (fun j=>some (sw j)) rest):=by
  funext j;have:=tv rest (Df S) j;rw[AI h]at this;exact this
 refine yn yK (h2:=al (cv g) (gk sw (fun j=>some (sw j)) rest)) ?_ fun k=> ?_
 ·rw[e]
  exact c _
 ·have:=tv rest (BO g) (sw k)
  rw[Ft,u1]at this;exact this.symm
end Go.Avm
namespace Go.Avm
open Go.Proofs
abbrev QT(S S':CK)(l:List bu):Prop:=HC 110 [aI, .d (.ro (ep l))] (ck S) [] (ck S')
abbrev Oq(S S':CK)(l:List bu):Prop:=HC 110 [aI, .d (.ro (ep l))] (Df S) [] (Df S')
abbrev js(l:List bu)(b:Bool):Prop:=HC 50 [.d (.ro (ep l))] [] [.bool b] []
theorem tw{P:Program}(hm:g0 P){f:Nat}{args rs:List AV}{h h1 h2:ab}(hc:ay P f args h rs h1)(hw:∀(X:ce)(env:Nat→AV),Weak X ⟨env,h1⟩ ⟨env,h2⟩):ay P f args h rs h2:=by
 refine⟨hc.1,fun G B w0 I0 w cargs hr hs hargs=>(hc.2 G B w0 I0 w cargs hr hs hargs).mono ?_⟩;rintro e w' ⟨v,G',rfl,e1,e2,e3⟩
 let X:ce:={P:=P,B:=B,w0:=w0,I0:=I0,N:=0,mixed:=hm}
 obtain⟨G2,e4,e5,_⟩:=hw X (fun _=> .junk) G' {tmps:= #[],defers:=[]} w' ⟨e2,[],⟨rfl,rfl,fun t ht=>absurd ht (by simp[X]),fun _ _=>rfl⟩,⟨List.nodup_nil,fun b hb=>by simp at hb,fun b hb=>by simp at hb,fun l hl=>by simp[X]at hl,Nat.zero_le _⟩⟩;exact⟨v,G2,rfl,e1.trans e4,e5,e3.mono e4⟩
abbrev Kf:List (Nat×aN):=[(500014,⟨0,none⟩)]
abbrev Nq(S:CK)(vq:Nat):List (Nat×aN):=
 [(500000,⟨1,some (.arr 1 (ID S))⟩),(499904,⟨1,some (.map (kD 0 S.fs) S.fs.length)⟩),(500002,⟨S.vh,some (.map (gF 0 S.c.vars) S.c.vars.length)⟩),(500003,⟨S.vs,some (.map (cB 0 S.c.seen) S.c.seen.length)⟩),
  (500004,⟨vq,none⟩),(500005,⟨S.vv,some (.arr 4 (S.c.vars.map zv))⟩),(500382,⟨S.vp,some (.arr 3 (S.c.pts.map ct))⟩),(500191,⟨1,some (.arr 1 (S.W.set S.fn (lG S.vv S.c.vars)))⟩),(500014,⟨S.vq,some (.map (bc S.c.sure.l) S.c.sure.c)⟩)]
theorem Ot{S S':CK}(h:CKok S)(h':CKok S'){vq:Nat}{ar:List AV}(ha:bT (dW ((ck S ++Kf).map (·.1)) 1000000) ar=ar):Cln ((ck S ++Kf).map (·.1)) 1000000 ar (ck S ++Kf) (Nq S' vq):=
 ⟨rfl,rfl,rfl,ha,by
  have h1:=gi h (ρ:=dW ((ck S ++Kf).map (·.1)) 1000000) rfl;rw[List.map_append,List.map_append (f:=fun p:Nat×aN=>p.2),h1];rfl,by
  have h1:=gi h' (ρ:=dW ((ck S ++Kf).map (·.1)) 1000000) rfl;simp only[ck,List.map_cons,List.map_nil,List.cons.injEq,and_true]at h1;obtain⟨a1,a2,a3,a4,a5,a6,a7,a8⟩:=h1;simp only[Nq,List.map_cons,List.map_nil,a2,a3,a4,a5,a6,a7,a8,List.cons.injEq,and_true];refine⟨?_,trivial,trivial,trivial,rfl⟩;simp only[cg,Option.map_some,gj,bT,aR];rfl⟩
section
variable{S:CK}(h:CKok S)(k id:Int)(nm:List UInt8)(ty n p:Int)(k1 o1:Int)(nm1:List UInt8)(n1 p1:Int)(xs1 zs:List Ex)(bd el:List bu)
include h
theorem Tv(q r:Int)(c:i8 S (.mk k1 o1 nm1 n1 p1 xs1) [2] q r):HX 108 [aI,eQ k id nm ty n p (.mk k1 o1 nm1 n1 p1 xs1::zs) bd el] (ck S) (aH q r) (ck S):=
 ae aD named {pans:=au Pg [(108,1,2049,⟨6,some (bi (wP c 2305)),[]⟩)]} 2000 2000 _ 1000000 (aA h h rfl) (by kernel_rfl) (fun _=>by kernel_rfl)
section
variable{t:Int}(w:mq S (.mk k1 o1 nm1 n1 p1 xs1) [2] t)
include w
theorem Tw(g:Gv)(q r:Int)(c:HX 110 [aI, .d (.ro (ep bd))] (ck S) (aH q r) (cv g)):HX 108 [aI,eQ k id nm ty n p (.mk k1 o1 nm1 n1 p1 xs1::zs) bd el] (ck S) (aH q r) (cv g):=
 ae aD named {calls:=tC [(108,12,2343,bh rfl (wO w 2305)),(108,17,2539,af (ng S.vq (bc S.c.sure.l) S.c.sure.c))],pans:=au Pg [(108,3,2588,⟨3,some (bi c),[]⟩)]} 2000 2000 _ 1000000 (kn h rfl) (by kernel_rfl) (fun _=>by kernel_rfl)
variable{S1:CK}(h1:CKok S1)(c1:QT S S1 bd)
include h1 c1
theorem Tx(g:Gv)(q r:Int)(c:HX 110 [aI, .d (.ro (ep el))] (Df (S1.sureAs S.c.sure 1)) (aH q r) (BO g)):HX 108 [aI,eQ k id nm ty n p (.mk k1 o1 nm1 n1 p1 xs1::zs) bd el] (ck S) (aH q r) (cv {g with vq:=S1.vq}):=
 ae aD named {calls:=tC [(108,12,2343,bh rfl (wO w 2305)),(108,17,2539,af (ng S.vq (bc S.c.sure.l) S.c.sure.c)),(108,21,2735,af c1)],pans:=au Pg [(108,6,3225,⟨3,some (bi c),[]⟩)]} 2000 2000 _ 1000000 (kn h rfl) (by kernel_rfl) (fun _=>by kernel_rfl)
variable{S3:CK}(c3:Oq (S1.sureAs S.c.sure 1) S3 el)
include c3
theorem QU(y:Bool)(h':CKok S3)(eb:js bd true)(ee:js el y):HC 108 [aI,eQ k id nm ty n p (.mk k1 o1 nm1 n1 p1 xs1::zs) bd el] (ck S ++Kf) [] (Nq S3 S1.vq):=
 ag aD named {calls:=tC [(108,12,2343,bh rfl (wO w 2305)),(108,17,2539,af (ng S.vq (bc S.c.sure.l) S.c.sure.c)),(108,21,2735,af c1),(108,33,3372,af c3),(108,42,3764,bh rfl eb),(108,45,3862,bh rfl ee),(108,46,3862,af (Ol S1.vq S3.vq y))]} 2000 2000 _ 1000000 (Ot h h' rfl) (fun _=>by kernel_rfl)
theorem Ty(y:Bool)(h3:CKok S3)(h':CKok (S3.sureAs S3.c.sure (S1.vq+1)))(eb:js bd true)(ee:js el y):HC 108 [aI,eQ k id nm ty n p (.mk k1 o1 nm1 n1 p1 xs1::zs) bd el] (ck S) [] (ck (S3.sureAs S3.c.sure (S1.vq+1))):=fun rest=>by
 refine lz (M:=1000000) (aA h h' rfl) (fun rest=> ?_) rest;have c:=QU h k id nm ty n p k1 o1 nm1 n1 p1 xs1 zs bd el w h1 c1 c3 y h3 eb ee (eO 1000000 rest)
 have e:al (ck S ++Kf) (eO 1000000 rest)=al (ck S) (eO 1000000 rest):=by
  funext k;simp only[ck,Kf,List.cons_append,List.nil_append,al,aM];by_cases hk:k=500014
  ·subst hk;rfl
  ·rw[if_neg hk]
 rw[e]at c;refine⟨_,tw aD c fun X env=>ov (C:=500000) (a:=7) (T:=500014) (K:=500004) (v:=S3.vq) (c:=S3.c.sure.c) (ces:=ID S3) (es:=bc S3.c.sure.l) (by decide) (by decide) (by decide) rfl rfl (by simp[Nq,al,aM]),fun k hk=> ?_,fun k hk=> ?_⟩
 ·simp only[List.map_cons,List.map_nil,List.mem_cons,List.not_mem_nil,or_false]at hk
  rcases hk with rfl|rfl|rfl|rfl|rfl|rfl|rfl|rfl<;>simp[Nq,ck,BG,CK.sureAs,al,aM]
 ·have n0:k≠500000:=by omega
  have n1:k≠499904:=by omega
  have n2:k≠500002:=by omega
  have n3:k≠500003:=by omega
  have n4:k≠500004:=by omega
  have n5:k≠500005:=by omega
  have n6:k≠500382:=by omega
  have n7:k≠500191:=by omega
  have n8:k≠500014:=by omega
  simp only[Nq,ck,al,aM,n0,n1,n2,n3,n4,n5,n6,n7,n8,if_false]
theorem Tz(h':CKok (S3.sureAs S1.c.sure S1.vq))(eb:js bd false)(ee:js el true):HC 108 [aI,eQ k id nm ty n p (.mk k1 o1 nm1 n1 p1 xs1::zs) bd el] (ck S) [] (ck (S3.sureAs S1.c.sure S1.vq)):=
 ag aD named {calls:=tC [(108,12,2343,bh rfl (wO w 2305)),(108,17,2539,af (ng S.vq (bc S.c.sure.l) S.c.sure.c)),(108,21,2735,af c1),(108,33,3372,af c3),(108,42,3764,bh rfl eb),(108,45,3862,bh rfl ee),(108,46,3862,af (Om S1.vq S3.vq))]} 2000 2000 _ 1000000 (aA h h' rfl) (fun _=>by kernel_rfl)
theorem TA(h':CKok (S3.sureAs (S1.c.sure.both S3.c.sure) S1.vq))(eb:js bd false)(ee:js el false):HC 108 [aI,eQ k id nm ty n p (.mk k1 o1 nm1 n1 p1 xs1::zs) bd el] (ck S) [] (ck (S3.sureAs (S1.c.sure.both S3.c.sure) S1.vq)):=
 ag aD named {calls:=tC [(108,12,2343,bh rfl (wO w 2305)),(108,17,2539,af (ng S.vq (bc S.c.sure.l) S.c.sure.c)),(108,21,2735,af c1),(108,33,3372,af c3),(108,42,3764,bh rfl eb),(108,45,3862,bh rfl ee),(108,46,3862,af (Oo S1.vq S1.c.sure.c S3.vq S3.c.sure.c S1.c.sure.l S3.c.sure.l h1.sk h1.sb h1.sc))]} 2000 2000 _ 1000000 (aA h h' rfl) (fun _=>by kernel_rfl)
end
end
end Go.Avm
namespace Go.Avm
open Go.Proofs
abbrev tz(P:Pl)(es:List Ex)(bd el:List bu)(c:CS):TR CS:=(aB (c.te P.fs) es [[2]] false).bind fun _=>(dQ P.in bd c).bind fun a=>(dQ P.in el {a with sure:=c.sure}).bind fun b=>
 .ok {b with sure:=bif cU bd then b.sure else bif cU el then a.sure else a.sure.both b.sure}
theorem IE{P:Pl}{S:CK}(a:At P S){q:SureL}(hq:QOk q S.c.vars.length)(v:Nat):At P (S.sureAs q v):=⟨wM a.ok hq v,a.fs,a.fn,a.deep⟩
theorem IG{P:Pl}{bd el:List bu}(ib:∀S,At P S→TC S 110 [aI, .d (.ro (ep bd))] (dQ P.in bd S.c))(ie:∀S,At P S→TC S 110 [aI, .d (.ro (ep el))] (dQ P.in el S.c))(eb:mO bd)(ee:mO el)
    (k id:Int) (nm:List UInt8) (ty n p:Int) (es:List Ex) (S:CK) (a:At P S):TC S 108 [aI,eQ k id nm ty n p es bd el] (tz P es bd el S.c):=by
 unfold tz;match es with
 |[]=>simp only[aB];trivial
 | .mk k1 o1 nm1 n1 p1 xs1::zs=>
  have c:=Lp a.ok (.mk k1 o1 nm1 n1 p1 xs1) 2;unfold WX at c;rw[a.fs]at c;rw[bC];revert c;cases b9 (S.c.te P.fs) (.mk k1 o1 nm1 n1 p1 xs1) [2]with
  |out=>exact fun _=>trivial
  |bad q r=>exact fun c=>ir (S':=S) (Tv a.ok k id nm ty n p k1 o1 nm1 n1 p1 xs1 zs bd el q r c)
  |ok t=>
   intro w;have w:mq S (.mk k1 o1 nm1 n1 p1 xs1) [2] t:=w;simp only[TR.bind,cond_false,eB];have c1:=ib S a;revert c1;cases hb:dQ P.in bd S.c with
   |out=>exact fun _=>trivial
   |bad q r=>exact fun ⟨g,c⟩=>⟨g,Tw a.ok k id nm ty n p k1 o1 nm1 n1 p1 xs1 zs bd el w g q r c⟩
   |ok a1=>
    rintro⟨S1,nx1,c1⟩;have q1:QOk S.c.sure S1.c.vars.length:=a.ok.q.mono nx1.vars.length_le;have at2:=IE (a.nx nx1) q1 1;have c3:=ie (S1.sureAs S.c.sure 1) at2;have e2:(S1.sureAs S.c.sure 1).c={a1 with sure:=S.c.sure}:=by rw[←nx1.c];rfl
    rw[e2]at c3;simp only;revert c3;cases dQ P.in el {a1 with sure:=S.c.sure}with
    |out=>exact fun _=>trivial
    |bad q r=>exact fun ⟨g,c⟩=>⟨_,Tx a.ok k id nm ty n p k1 o1 nm1 n1 p1 xs1 zs bd el w nx1.ok c1 g q r (Fu at2.ok c)⟩
    |ok b3=>
     rintro⟨S3,nx3,c3⟩;have c3':=Dg at2.ok nx3.ok c3;have v3:S1.c.vars<+:S3.c.vars:=nx3.vars;have fin:∀(J:SureL)(v:Nat),QOk J S3.c.vars.length→Nx S (S3.sureAs J v) {b3 with sure:=J}:=fun J v hJ=>⟨wM nx3.ok hJ v,by rw[←nx3.c];rfl,nx3.fs.trans nx1.fs,nx3.fn.trans nx1.fn,nx3.deep.trans nx1.deep,nx3.W.trans nx1.W,nx1.vars.trans v3⟩
     have eb':=eb;have ee':=ee;unfold mO at eb' ee';simp only[TR.bind];cases h1:cU bd with
     |true=>
      rw[h1]at eb';have f:=fin b3.sure (S1.vq+1) (by rw[←nx3.c];exact nx3.ok.q);rw[←nx3.c]at f ⊢;exact⟨_,f,Ty a.ok k id nm ty n p k1 o1 nm1 n1 p1 xs1 zs bd el w nx1.ok c1 c3' (cU el) nx3.ok f.ok eb' ee'⟩
     |false=>
     rw[h1]at eb';cases h2:cU el with
     |true=>
      rw[h2]at ee';have f:=fin a1.sure S1.vq (by rw[←nx1.c];exact nx1.ok.q.mono v3.length_le);rw[←nx1.c]at f ⊢;exact⟨_,f,Tz a.ok k id nm ty n p k1 o1 nm1 n1 p1 xs1 zs bd el w nx1.ok c1 c3' f.ok eb' ee'⟩
     |false=>
      rw[h2]at ee';have f:=fin (a1.sure.both b3.sure) S1.vq (by rw[←nx1.c];exact(nx1.ok.q.mono v3.length_le).both);rw[←nx1.c,←nx3.c]at f ⊢;exact⟨_,f,TA a.ok k id nm ty n p k1 o1 nm1 n1 p1 xs1 zs bd el w nx1.ok c1 c3' f.ok eb' ee'⟩
end Go.Avm
namespace Go.Avm
open Go.Proofs
def ja:Nat→List (List UInt8)→List Pm→TR Unit
 |_,_,[]=> .ok ()
 |k,had,p::r=>bif decide (6≤k)then .bad p.p 9 else bif had.any (· ==p.nm)then .bad p.p 7 else ja (k+1) (had ++[p.nm]) r
def cq:List Fn→List Fn→TR Unit
 |_,[]=> .ok ()
 |pre,f::r=>bif (bw f.nm pre 0).isSome then .bad f.p 7 else (ja 0 [] f.ps).bind fun _=>cq (pre ++[f]) r
def Fv:List UInt8:=[109,97,105,110]
def di(fs:List Fn):TR Unit:=(cq [] fs).bind fun _=>match bw Fv fs 0 with
 |none=> .bad 0 13
 |some (_,f)=>bif f.ps.isEmpty&&f.res==1 then .ok ()else .bad f.p 13
def zx:Nat→List (List UInt8)→List (D×D×Nat)
 |_,[]=>[]
 |i,x::r=>(.str x, .agg [],i)::zx (i+1) r
theorem BP:∀(l:List (List UInt8))(i:Nat)(x:List UInt8),zx i (l ++[x])=zx i l ++[(.str x, .agg [],i+l.length)]
 |[],_,_=>rfl
 |a::r,i,x=>by
  simp only[List.cons_append,zx,BP r (i+1) x,List.length_cons];rw[show i+1+r.length=i+(r.length+1) by omega]
theorem wS(x:List UInt8):∀(l:List (List UInt8))(i j:Nat),(l.any (· ==x))=false→b8 (.str x) (zx i l) j=some none
 |[],_,_,_=>rfl
 |e::r,i,j,h=>by
  simp only[List.any_cons,Bool.or_eq_false_iff]at h
  have h1:(x==e)=false:=by
   have:=h.1;rw[beq_eq_false_iff_ne]at this ⊢;exact this.symm
  simp only[zx,b8,jB,h1];exact wS x r (i+1) (j+1) h.2
theorem yL(x:List UInt8):∀(l:List (List UInt8))(i j:Nat),(l.any (· ==x))=true→∃q,b8 (.str x) (zx i l) j=some (some (q, .agg []))
 |[],_,_,h=>by cases h
 |e::r,i,j,h=>by
  simp only[zx,b8,jB];cases h1:(x==e)with
  |true=>exact⟨j,rfl⟩
  |false=>
   refine yL x r (i+1) (j+1) ?_;simp only[List.any_cons,Bool.or_eq_true]at h;refine h.resolve_left fun h2=> ?_
   rw[eq_of_beq h2]at h1;simp at h1
theorem BQ:∀(l:List Fn)(i:Nat)(f:Fn),kD i (l ++[f])=kD i l ++[(.str f.nm, .int .i64 ((i+l.length:Nat):Int),i+l.length)]
 |[],_,_=>rfl
 |a::r,i,f=>by
  simp only[List.cons_append,kD,BQ r (i+1) f,List.length_cons];rw[show i+1+r.length=i+(r.length+1) by omega]
abbrev fS(fs:List Fn)(es:List (D×D×Nat))(m:Nat)(nn:AV):List (Nat×aN):=
 [(500000,⟨1,some (.arr 1 [.mp 499904 1, .d (.ro (fs.map cW)), .sl 500191 1 0 fs.length 1, .sl 500382 1 0 1 3,dI 0,nn,nn,nn,dI 0])⟩),(499904,⟨1,some (.map es m)⟩),(500382,⟨1,some (.arr 3 [ct dx])⟩),(500191,⟨1,some (.arr 1 (List.replicate fs.length .nils))⟩)]
abbrev zy:List (Nat×aN):=[(500000,⟨1,none⟩),(499904,⟨1,none⟩),(500382,⟨1,none⟩),(500191,⟨1,none⟩)]
theorem pq{fs:List Fn}{es:List (D×D×Nat)}{m:Nat}{nn:AV}(hn:∀ρ,aR ρ nn=nn){ρ:Nat→Nat}(hρ:([499904,500382,500191].map ρ)=[499904,500382,500191]):((fS fs es m nn).map fun p=>cg ρ p.2)=(fS fs es m nn).map (·.2):=by
 simp only[List.map_cons,List.map_nil,List.cons.injEq,and_true]at hρ;obtain⟨h1,h6,h7⟩:=hρ
 have hr:bT ρ (List.replicate fs.length AV.nils)=List.replicate fs.length AV.nils:=oG fun x hx=>by
  rw[List.eq_of_mem_replicate hx];rfl
 have hp:aR ρ (ct dx)=ct dx:=rfl;simp only[fS,List.map_cons,List.map_nil,cg,Option.map_some,gj,hr,hp,bT,aR,h1,h6,h7,hn]
abbrev wT(l:List (List UInt8)):List (Nat×aN):=[(600047,⟨1,some (.map (zx 0 l) l.length)⟩)]
abbrev IH:List (Nat×aN):=[(600047,⟨1,none⟩)]
theorem Fw{fs:List Fn}{es es':List (D×D×Nat)}{m m':Nat}{nn:AV}(hn:∀ρ,aR ρ nn=nn){ar:List AV}(ha:bT (dW ((fS fs es m nn).map (·.1)) 1000000) ar=ar):Cln ((fS fs es m nn).map (·.1)) 1000000 ar (fS fs es m nn) (fS fs es' m' nn):=⟨rfl,rfl,rfl,ha,pq hn rfl,pq hn rfl⟩
section
variable{fs:List Fn}{es:List (D×D×Nat)}{m:Nat}{nn:AV}(hn:∀ρ,aR ρ nn=nn)
include fs es m nn hn
theorem pu{ar:List AV}(ha:bT (dW ((fS fs es m nn).map (·.1)) 1000000) ar=ar):Cln ((fS fs es m nn).map (·.1)) 1000000 ar (fS fs es m nn) zy:=⟨rfl,rfl,rfl,ha,pq hn rfl,rfl⟩
theorem Fx{l l':List (List UInt8)}{ar:List AV}(e:List (Nat×aN))(hK:e.map (·.1)=[600047])(he:(e.map fun p:Nat×aN=>cg (dW ((fS fs es m nn ++wT l).map (·.1)) 1000000) p.2)=e.map (·.2))(ha:bT (dW ((fS fs es m nn ++wT l).map (·.1)) 1000000) ar=ar):Cln ((fS fs es m nn ++wT l).map (·.1)) 1000000 ar (fS fs es m nn ++wT l) (fS fs es m nn ++e):=
 ⟨rfl,rfl,by rw[List.map_append,List.map_append,hK];rfl,ha,by
  rw[List.map_append,List.map_append (f:=fun p:Nat×aN=>p.2),pq hn rfl];rfl,by
  rw[List.map_append,List.map_append (f:=fun p:Nat×aN=>p.2),pq hn rfl,he]⟩
theorem BS{l:List (List UInt8)}{ar:List AV}(ha:bT (dW ((fS fs es m nn ++wT l).map (·.1)) 1000000) ar=ar):Cln ((fS fs es m nn ++wT l).map (·.1)) 1000000 ar (fS fs es m nn ++wT l) (zy ++IH):=
 ⟨rfl,rfl,rfl,ha,by
  rw[List.map_append,List.map_append (f:=fun p:Nat×aN=>p.2),pq hn rfl];rfl,rfl⟩
end
abbrev tA(fs:List Fn)(j:Nat)(ps:List Pm)(k:Nat):List (Nat×AV):=[(0,aI),(6, .mp 600047 1),(18, .d (.ro (fs.map cW))),(19,dN (fs.map cW).length),(20,dN j),(49, .d (.ro (ps.map jL))),(50,dN (ps.map jL).length),(51,dN k)]
abbrev QV(fs:List Fn)(j:Nat):List (Nat×AV):=[(0,aI),(18, .d (.ro (fs.map cW))),(19,dN (fs.map cW).length),(20,dN j)]
def Qp(P:Program)(ps:List Pm)(k:Nat)(x:Pm)(hx:ps[k]? =some x):bZ P:= .idx (ps.map jL) ((k:Nat):Int) (jL x) (by omega) (by rw[Int.toNat_natCast,List.getElem?_map,hx];rfl)
def LR(P:Program)(k:Nat)(t:Bool)(h:decide (6≤k)= !t):bZ P:= .val (dB (decide ((k:Int)<6))) (dB t) (by
 congr 2;cases t
 ·have:=of_decide_eq_true h
  rw[decide_eq_false_iff_not];omega
 ·have:=of_decide_eq_false h
  rw[decide_eq_true_eq];omega)
section
variable{fs:List Fn}{es:List (D×D×Nat)}{m:Nat}{nn:AV}(hn:∀ρ,aR ρ nn=nn)(j:Nat)(ps:List Pm)(k:Nat)(l:List (List UInt8))
include hn
theorem Ou(hi:decide (k<(ps.map jL).length)=false):RE 109 (lO 26 8) (tA fs j ps k) (fS fs es m nn ++wT l) (.exit 2) (QV fs j) (fS fs es m nn ++IH):=
 dX aD named {hint:=qT 26 [(52,jO Pg k (ps.map jL).length false hi)]} 2000 26 600000 109 1000000 ([]) (Fx hn (l':=l) IH rfl rfl rfl) (by kernel_rfl) (by kernel_rfl) (fun _=>by kernel_rfl)
section
variable(hi:decide (k<(ps.map jL).length)=true)(nm:List UInt8)(ty p:Int)(hx:ps[k]? =some ⟨nm,ty,p⟩)
include hi hx
theorem LT(h6:decide (6≤k)=true):RE 109 (lO 26 8) (tA fs j ps k) (fS fs es m nn ++wT l) (.panic (aH p 9)) [] (zy ++IH):=
 dX aD named {hint:=qT 26 [(52,jO Pg k (ps.map jL).length true hi),(54,Qp Pg ps k _ hx),(57,LR Pg k false h6)],pans:=au Pg [(26,10,600763,⟨4,some (bi (bU p 9)),[]⟩)]} 2000 26 600000 109 1000000 ([]) (BS hn rfl) (by kernel_rfl) (by kernel_rfl) (fun _=>by kernel_rfl)
theorem II(h6:decide (6≤k)=false)(q:Nat)(hq:b8 (.str nm) (zx 0 l) 0=some (some (q, .agg []))):RE 109 (lO 26 8) (tA fs j ps k) (fS fs es m nn ++wT l) (.panic (aH p 7)) [] (zy ++IH):=
 dX aD named {hint:=qT 26 [(52,jO Pg k (ps.map jL).length true hi),(54,Qp Pg ps k _ hx),(57,LR Pg k true h6),(65, .look (.str nm) (zx 0 l) (some (q, .agg [])) hq)],calls:=tC [(26,60,601199,bh rfl (aP p 9))],pans:=au Pg [(26,12,602289,⟨4,some (bi (bU p 7)),[]⟩)]} 2000 26 600000 109 1000000 ([]) (BS hn rfl) (by kernel_rfl) (by kernel_rfl) (fun _=>by kernel_rfl)
theorem QW(h6:decide (6≤k)=false)(hq:(l.any (· ==nm))=false):RE 109 (lO 26 8) (tA fs j ps k) (fS fs es m nn ++wT l) .normal (tA fs j ps (k+1)) (fS fs es m nn ++[(600047,⟨1,some (.map (zx 0 l ++[(.str nm, .agg [],l.length)]) (l.length+1))⟩)]):=
 dX aD named {hint:=qT 26 [(52,jO Pg k (ps.map jL).length true hi),(54,Qp Pg ps k _ hx),(57,LR Pg k true h6),(65, .look (.str nm) (zx 0 l) none (wS nm l 0 0 hq)),(113004, .look (.str nm) (zx 0 l) none (wS nm l 0 0 hq)),(77,dk Pg k (by have:=of_decide_eq_false h6;omega))],calls:=tC [(26,60,601199,bh rfl (aP p 9)),(26,72,602725,bh rfl (aP p 7))]} 2000 26 600000 109 1000000 ([]) (Fx hn (l':=l) [(600047,⟨1,some (.map (zx 0 l ++[(.str nm, .agg [],l.length)]) (l.length+1))⟩)] rfl rfl rfl) (by kernel_rfl) (by kernel_rfl) (fun _=>by kernel_rfl)
end
end
def LU(fs:List Fn)(es:List (D×D×Nat))(m:Nat)(nn:AV)(j:Nat)(ps:List Pm)(k:Nat)(l:List (List UInt8)):TR Unit→Prop
 | .ok _=>RL 109 (lO 26 8) (tA fs j ps k) (fS fs es m nn ++wT l) (.exit 2) (QV fs j) (fS fs es m nn ++IH)
 | .bad p e=>RL 109 (lO 26 8) (tA fs j ps k) (fS fs es m nn ++wT l) (.panic (aH p e)) [] (zy ++IH)
 | .out=>True
theorem Kg{fs:List Fn}{es:List (D×D×Nat)}{m:Nat}{nn:AV}(hn:∀ρ,aR ρ nn=nn)(j:Nat)(ps:List Pm):∀(d k:Nat)(l:List (List UInt8)),ps.length-k=d→k≤ps.length→LU fs es m nn j ps k l (ja k l (ps.drop k))
 |0,k,l,hd,hk=>by
  have:k=ps.length:=by omega
  subst this;rw[List.drop_length];exact fun rest X hP hN=>aY (Ou hn j ps ps.length l (by simp) rest X hP hN) (by simp)
 |d+1,k,l,hd,hk=>by
  have hlt:k<ps.length:=by omega
  have hx:ps[k]? =some ps[k]:=List.getElem?_eq_getElem hlt;rw[List.drop_eq_getElem_cons hlt];generalize ps[k]=x at hx;obtain⟨nm,ty,p⟩:=x;have hi:decide (k<(ps.map jL).length)=true:=by simpa using hlt
  simp only[ja];cases h6:decide (6≤k)with
  |true=>exact fun rest X hP hN=>aY (LT hn j ps k l hi nm ty p hx h6 rest X hP hN) (by simp)
  |false=>
  cases hq:l.any (· ==nm)with
  |true=>
   obtain⟨q,hq⟩:=yL nm l 0 0 hq;exact fun rest X hP hN=>aY (II hn j ps k l hi nm ty p hx h6 q hq rest X hP hN) (by simp)
  |false=>
   have ih:=Kg (fs:=fs) (es:=es) (m:=m) hn j ps d (k+1) (l ++[nm]) (by omega) hlt;have hgo:=QW (fs:=fs) (es:=es) (m:=m) hn j ps k l hi nm ty p hx h6 hq
   have e:wT (l ++[nm])=[(600047,⟨1,some (.map (zx 0 l ++[(.str nm, .agg [],l.length)]) (l.length+1))⟩)]:=by
    simp only[wT,BP,List.length_append,List.length_cons,List.length_nil,Nat.zero_add]
   simp only[cond_false];revert ih;cases ja (k+1) (l ++[nm]) (ps.drop (k+1))with
   |out=>exact fun _=>trivial
   |bad u r=>
    intro ih;simp only[LU,e]at ih;exact fun rest X hP hN=>ba (hgo rest X hP hN) (ih rest X hP hN)
   |ok _=>
    intro ih;simp only[LU,e]at ih;exact fun rest X hP hN=>ba (hgo rest X hP hN) (ih rest X hP hN)
end Go.Avm
namespace Go.Avm
open Go.Proofs
noncomputable def Ov{fs:List Fn}{es:List (D×D×Nat)}{m:Nat}{nn:AV}{j:Nat}{ps:List Pm}{x:aG}{l':List (Nat×AV)}{hp':List (Nat×aN)}(h:RL 109 (lO 26 8) (tA fs j ps 0) (fS fs es m nn ++wT []) x l' hp'):d7 Pg:=
 ⟨109,bO Pg 26 8,tA fs j ps 0,fun _=>fS fs es m nn ++wT [],x,l',fun _=>hp',fun rest X hP hN=>(h rest X hP hN).aw⟩
abbrev Fy(fs:List Fn)(j:Nat):List (Nat×AV):=[(0,aI),(18, .d (.ro (fs.map cW))),(19,dN (fs.map cW).length),(20,dN j)]
def AJ(P:Program)(fs:List Fn)(k:Nat)(x:Fn)(hx:fs[k]? =some x):bZ P:= .idx (fs.map cW) ((k:Nat):Int) (cW x) (by omega) (by rw[Int.toNat_natCast,List.getElem?_map,hx];rfl)
section
variable{fs pre:List Fn}{nn:AV}(hn:∀ρ,aR ρ nn=nn)
include hn
theorem LV(hi:decide (pre.length<(fs.map cW).length)=false):RE 109 (lO 26 1) (Fy fs pre.length) (fS fs (kD 0 pre) pre.length nn) (.exit 0) [(0,aI)] (fS fs (kD 0 pre) pre.length nn):=
 dX aD named {hint:=qT 26 [(21,jO Pg pre.length (fs.map cW).length false hi)]} 2000 26 596621 109 1000000 ([]) (Fw hn rfl) (by kernel_rfl) (by kernel_rfl) (fun _=>by kernel_rfl)
variable(hi:decide (pre.length<(fs.map cW).length)=true)(nm:List UInt8)(ps:List Pm)(res:Int)(bd:List bu)(p:Int)(hx:fs[pre.length]? =some ⟨nm,ps,res,bd,p⟩)
include hi hx
theorem Fz(r:Nat×Fn)(hf:bw nm pre 0=some r):RE 109 (lO 26 1) (Fy fs pre.length) (fS fs (kD 0 pre) pre.length nn) (.panic (aH p 7)) [] zy:=
 dX aD named {hint:=qT 26 [(21,jO Pg pre.length (fs.map cW).length true hi),(23,AJ Pg fs pre.length _ hx),(32,pk Pg nm pre (some r) hf)],pans:=au Pg [(26,4,598692,⟨4,some (bi (bU p 7)),[]⟩)]} 2000 26 596621 109 1000000 ([]) (pu hn rfl) (by kernel_rfl) (by kernel_rfl) (fun _=>by kernel_rfl)
variable(hf:bw nm pre 0=none)
include hf
theorem LX(q e:Int)(c:RL 109 (lO 26 8) (tA fs pre.length ps 0) (fS fs (kD 0 pre ++[(.str nm, .int .i64 (pre.length:Int),pre.length)]) (pre.length+1) nn ++wT []) (.panic (aH q e)) [] (zy ++IH)):
    RE 109 (lO 26 1) (Fy fs pre.length) (fS fs (kD 0 pre) pre.length nn) (.panic (aH q e)) [] zy:=
 dX aD named {loops:=fun f q=>if f=26 then (if q=8 then some (Ov c)else none)else none,hint:=qT 26 [(21,jO Pg pre.length (fs.map cW).length true hi),(23,AJ Pg fs pre.length _ hx),(32,pk Pg nm pre none hf),(105007,pk Pg nm pre none hf)],calls:=tC [(26,39,599128,bh rfl (aP p 7))]} 2000 26 596621 109 1000000 ([]) (pu hn rfl) (by kernel_rfl) (by kernel_rfl) (fun _=>by kernel_rfl)
theorem Ow(c:RL 109 (lO 26 8) (tA fs pre.length ps 0) (fS fs (kD 0 pre ++[(.str nm, .int .i64 (pre.length:Int),pre.length)]) (pre.length+1) nn ++wT []) (.exit 2) (QV fs pre.length) (fS fs (kD 0 pre ++[(.str nm, .int .i64 (pre.length:Int),pre.length)]) (pre.length+1) nn ++IH))(hl:fs.length<1000000):
    RE 109 (lO 26 1) (Fy fs pre.length) (fS fs (kD 0 pre) pre.length nn) .normal (Fy fs (pre.length+1)) (fS fs (kD 0 pre ++[(.str nm, .int .i64 (pre.length:Int),pre.length)]) (pre.length+1) nn):=
 dX aD named {loops:=fun f q=>if f=26 then (if q=8 then some (Ov c)else none)else none,hint:=qT 26 [(21,jO Pg pre.length (fs.map cW).length true hi),(23,AJ Pg fs pre.length _ hx),(32,pk Pg nm pre none hf),(105007,pk Pg nm pre none hf),(78,dk Pg pre.length (by have:=of_decide_eq_true hi;rw[List.length_map]at this;omega))],calls:=tC [(26,39,599128,bh rfl (aP p 7))]} 2000 26 596621 109 1000000 ([]) (Fw hn rfl) (by kernel_rfl) (by kernel_rfl) (fun _=>by kernel_rfl)
end
def LY(fs pre:List Fn)(nn:AV):TR Unit→Prop
 | .ok _=>RL 109 (lO 26 1) (Fy fs pre.length) (fS fs (kD 0 pre) pre.length nn) (.exit 0) [(0,aI)] (fS fs (kD 0 fs) fs.length nn)
 | .bad p e=>RL 109 (lO 26 1) (Fy fs pre.length) (fS fs (kD 0 pre) pre.length nn) (.panic (aH p e)) [] zy
 | .out=>True
theorem Kh{fs:List Fn}{nn:AV}(hn:∀ρ,aR ρ nn=nn)(hl:fs.length<1000000):∀(mt pre:List Fn),fs=pre ++mt→LY fs pre nn (cq pre mt)
 |[],pre,h=>by
  have:fs=pre:=by rw[h,List.append_nil]
  subst this;exact fun rest X hP hN=>aY (LV hn (by simp) rest X hP hN) (by simp)
 |f::mt,pre,h=>by
  have hx:fs[pre.length]? =some f:=by rw[h];simp
  have hi:decide (pre.length<(fs.map cW).length)=true:=by rw[h];simp
  have ih:=Kh (nn:=nn) hn hl mt (pre ++[f]) (by rw[h];simp);obtain⟨nm,ps,res,bd,p⟩:=f;simp only[cq];cases hf:bw nm pre 0 with
  |some r=>exact fun rest X hP hN=>aY (Fz hn hi nm ps res bd p hx r hf rest X hP hN) (by simp)
  |none=>
   have c:=Kg (fs:=fs) (es:=kD 0 pre ++[(.str nm, .int .i64 (pre.length:Int),pre.length)]) (m:=pre.length+1) hn pre.length ps _ 0 [] rfl (Nat.zero_le _);rw[List.drop_zero]at c;simp only[Option.isSome_none,cond_false]
   have e:fS fs (kD 0 (pre ++[(⟨nm,ps,res,bd,p⟩:Fn)])) (pre ++[(⟨nm,ps,res,bd,p⟩:Fn)]).length nn=fS fs (kD 0 pre ++[(.str nm, .int .i64 (pre.length:Int),pre.length)]) (pre.length+1) nn:=by
    simp only[fS,BQ,List.length_append,List.length_cons,List.length_nil,Nat.zero_add]
   have e2:(pre ++[(⟨nm,ps,res,bd,p⟩:Fn)]).length=pre.length+1:=by simp
   revert c;cases ja 0 [] ps with
   |out=>exact fun _=>trivial
   |bad q t=>exact fun c rest X hP hN=>aY (LX hn hi nm ps res bd p hx hf q t c rest X hP hN) (by simp)
   |ok _=>
    intro c;have hgo:=Ow hn hi nm ps res bd p hx hf c hl;simp only[TR.bind];revert ih;cases cq (pre ++[⟨nm,ps,res,bd,p⟩]) mt with
    |out=>exact fun _=>trivial
    |bad q t=>
     intro ih;simp only[LY,e]at ih;simp only[e2]at ih;exact fun rest X hP hN=>ba (hgo rest X hP hN) (ih rest X hP hN)
    |ok _=>
     intro ih;simp only[LY,e]at ih;simp only[e2]at ih;exact fun rest X hP hN=>ba (hgo rest X hP hN) (ih rest X hP hN)
noncomputable def FA{fs:List Fn}{nn:AV}{x:aG}{l':List (Nat×AV)}{hp':List (Nat×aN)}(h:RL 109 (lO 26 1) (Fy fs 0) (fS fs [] 0 nn) x l' hp'):d7 Pg:=
 ⟨109,bO Pg 26 1,Fy fs 0,fun _=>fS fs [] 0 nn,x,l',fun _=>hp',fun rest X hP hN=>(h rest X hP hN).aw⟩
section
variable{fs:List Fn}{nn:AV}(hn:∀ρ,aR ρ nn=nn)
include hn
theorem IJ(q e:Int)(c:RL 109 (lO 26 1) (Fy fs 0) (fS fs [] 0 nn) (.panic (aH q e)) [] zy):
    HX 26 [aI] (fS fs [] 0 nn) (aH q e) zy:=
 ae aD named ({loops:=fun f q=>if f=26 then (if q=1 then some (FA c)else none)else none}) 2000 600000 _ 1000000 (pu hn rfl) (by kernel_rfl) (fun _=>by kernel_rfl)
variable(c:RL 109 (lO 26 1) (Fy fs 0) (fS fs [] 0 nn) (.exit 0) [(0,aI)] (fS fs (kD 0 fs) fs.length nn))
include c
theorem Dh(hf:bw [109,97,105,110] fs 0=none):HX 26 [aI] (fS fs [] 0 nn) (aH 0 13) zy:=
 ae aD named {loops:=fun f q=>if f=26 then (if q=1 then some (FA c)else none)else none,hint:=qT 26 [(84,pk Pg [109,97,105,110] fs none hf)],pans:=au Pg [(26,17,601853,⟨1,some (bi (bU 0 13)),[]⟩)]} 2000 600000 _ 1000000 (pu hn rfl) (by kernel_rfl) (fun _=>by kernel_rfl)
variable(i:Nat)(nm:List UInt8)(ps:List Pm)(res:Int)(bd:List bu)(p:Int)(hf:bw [109,97,105,110] fs 0=some (i,⟨nm,ps,res,bd,p⟩))(hx:fs[i]? =some ⟨nm,ps,res,bd,p⟩)
include hf hx
theorem IK(h0:(((ps.map jL).length:Int)==0)=false):HX 26 [aI] (fS fs [] 0 nn) (aH p 13) zy:=
 ae aD named {loops:=fun f q=>if f=26 then (if q=1 then some (FA c)else none)else none,hint:=qT 26 [(84,pk Pg [109,97,105,110] fs (some (i,⟨nm,ps,res,bd,p⟩)) hf),(95,AJ Pg fs i _ hx),(100,qB h0)],calls:=tC [(26,88,601962,bh rfl (aP 0 13))],pans:=au Pg [(26,19,603052,⟨11,some (bi (bU p 13)),[]⟩)]} 2000 600000 _ 1000000 (pu hn rfl) (by kernel_rfl) (fun _=>by kernel_rfl)
theorem FB(h0:(((ps.map jL).length:Int)==0)=true)(h1:(res==1)=false):HX 26 [aI] (fS fs [] 0 nn) (aH p 13) zy:=
 ae aD named {loops:=fun f q=>if f=26 then (if q=1 then some (FA c)else none)else none,hint:=qT 26 [(84,pk Pg [109,97,105,110] fs (some (i,⟨nm,ps,res,bd,p⟩)) hf),(95,AJ Pg fs i _ hx),(100,qB h0),(104,qB h1)],calls:=tC [(26,88,601962,bh rfl (aP 0 13))],pans:=au Pg [(26,19,603052,⟨11,some (bi (bU p 13)),[]⟩)]} 2000 600000 _ 1000000 (pu hn rfl) (by kernel_rfl) (fun _=>by kernel_rfl)
theorem IL(h0:(((ps.map jL).length:Int)==0)=true)(h1:(res==1)=true):HC 26 [aI] (fS fs [] 0 nn) [] (fS fs (kD 0 fs) fs.length nn):=
 ag aD named {loops:=fun f q=>if f=26 then (if q=1 then some (FA c)else none)else none,hint:=qT 26 [(84,pk Pg [109,97,105,110] fs (some (i,⟨nm,ps,res,bd,p⟩)) hf),(95,AJ Pg fs i _ hx),(100,qB h0),(104,qB h1)],calls:=tC [(26,88,601962,bh rfl (aP 0 13)),(26,108,604251,bh rfl (aP p 13))]} 2000 600000 _ 1000000 (Fw hn rfl) (fun _=>by kernel_rfl)
end
def Qq(fs:List Fn)(nn:AV):TR Unit→Prop
 | .ok _=>HC 26 [aI] (fS fs [] 0 nn) [] (fS fs (kD 0 fs) fs.length nn)
 | .bad p e=>HX 26 [aI] (fS fs [] 0 nn) (aH p e) zy
 | .out=>True
theorem FC{fs:List Fn}{nn:AV}(hn:∀ρ,aR ρ nn=nn)(hl:fs.length<1000000):Qq fs nn (di fs):=by
 have c:=Kh (nn:=nn) hn hl fs [] rfl;unfold di;revert c;cases cq [] fs with
 |out=>exact fun _=>trivial
 |bad q t=>exact fun c=>IJ hn q t c
 |ok _=>
  intro c;simp only[TR.bind,Fv];cases hf:bw [109,97,105,110] fs 0 with
  |none=>exact Dh hn c hf
  |some r=>
   obtain⟨i,f⟩:=r;obtain⟨_,hx⟩:=pl hf;rw[Nat.sub_zero]at hx;obtain⟨nm,ps,res,bd,p⟩:=f;simp only;cases hp:ps.isEmpty with
   |false=>
    have h0:(((ps.map jL).length:Int)==0)=false:=by
     cases ps with
     |nil=>cases hp
     |cons a r=>simp;omega
    exact IK hn c i nm ps res bd p hf hx h0
   |true=>
    have h0:(((ps.map jL).length:Int)==0)=true:=by
     cases ps with
     |nil=>rfl
     |cons a r=>cases hp
    cases h1:(res==1)with
    |false=>exact FB hn c i nm ps res bd p hf hx h0 h1
    |true=>exact IL hn c i nm ps res bd p hf hx h0 h1
end Go.Avm
namespace Go.Avm
open Go.Proofs
theorem oK{M N:Nat}{c:Code}{l l':List (Nat×AV)}{pre post:List (Nat×aN)}{e:aG}(cl:Cln (pre.map (·.1)) M (l.map (·.2)) pre post)(cl':bT (dW (pre.map (·.1)) M) (l'.map (·.2))=l'.map (·.2))(hx:Ey (dW (pre.map (·.1)) M) e=e)
    (h:∀(rest:ab)(X:ce),X.P=Pg→X.N=N→AW X c ⟨an l,al pre (eO M rest)⟩ fun e' S'=>e'=e∧S'.env=an l'∧(∀k,k∈pre.map (·.1)→S'.heap k=al post S'.heap k)∧∀k,M≤k→S'.heap k=al pre (eO M rest) k)
    (rest:ab) (X:ce) (hP:X.P=Pg) (hN:X.N=N):AW X c ⟨an l,al pre rest⟩ fun e' S'=>e'=e∧S'=⟨an l',al post rest⟩:=by
 refine Ez (ou cl.ltF) hx ?_
 have henv:(fun t=>aR (dW (pre.map (·.1)) M) (an l t))=an l:=by
  funext t;rw[←eN,ow cl.argsK]
 have henv':∀t,aR (dW (pre.map (·.1)) M) (an l' t)=an l' t:=fun t=>by
  rw[←eN,ow cl']
 rw[henv,cl.heap rest];refine(h (gk (dW (pre.map (·.1)) M) (zu (pre.map (·.1)) M) (al pre rest)) X hP hN).mono ?_;rintro e' S' ⟨rfl,he,h1,h2⟩;refine⟨rfl,fun t=>by rw[he,henv'], ?_⟩;exact cl.behind rest h1 h2
abbrev fB(nm:List UInt8)(ps:List Pm)(res:Int)(bd:List bu)(p:Int):List (Nat×aN):=[(600003,⟨1,some (.arr 1 [.d (.str nm), .d (.ro (ps.map jL)),Qi res, .d (.ro (ep bd)),dI p])⟩)]
abbrev fG:List (Nat×aN):=[(600003,⟨1,none⟩)]
abbrev Ki(fs:List Fn)(i:Nat)(ps:List Pm)(k:Nat):List (Nat×AV):=[(0,aI),(3, .ptr 600003 1 0 0 1),(10, .d (.ro (fs.map cW))),(11,dN (fs.map cW).length),(12,dN i),(34, .d (.ro (ps.map jL))),(35,dN (ps.map jL).length),(36,dN k)]
abbrev FD(fs:List Fn)(i:Nat):List (Nat×AV):=[(0,aI),(3, .ptr 600003 1 0 0 1),(10, .d (.ro (fs.map cW))),(11,dN (fs.map cW).length),(12,dN i)]
theorem Ox{S S':CK}(h:CKok S)(h':CKok S'){ex:List (Nat×aN)}{ar:List AV}(qe:List (D×D×Nat))(qc:Nat)(lt:(((ck S ++ex).map (·.1)).all fun k=>Nat.blt k 1000000)=true)(hr:([499904,500002,500003,500004,500005,500382,500191].map (dW ((ck S ++ex).map (·.1)) 1000000))=[499904,500002,500003,500004,500005,500382,500191])
    (ha:bT (dW ((ck S ++ex).map (·.1)) 1000000) ar=ar) (he:(ex.map fun p:Nat×aN=>cg (dW ((ck S ++ex).map (·.1)) 1000000) p.2)=ex.map (·.2)):Cln ((ck S ++ex).map (·.1)) 1000000 ar (ck S ++ex) (Ir S' qe qc ++ex):=
 ⟨lt,rfl,by rw[List.map_append,List.map_append];rfl,ha,by
  have h1:=gi h hr;rw[List.map_append,List.map_append (f:=fun p:Nat×aN=>p.2),h1,he],by
  have h1:=gi h' hr;simp only[ck,List.map_cons,List.map_nil,List.cons.injEq,and_true]at h1;obtain⟨a1,a2,a3,a4,a5,a6,a7,a8⟩:=h1;rw[List.map_append,List.map_append (f:=fun p:Nat×aN=>p.2),he];simp only[Ir,List.map_cons,List.map_nil,a1,a2,a3,a4,a6,a7,a8];rfl⟩
theorem lJ(r h:ab):∀(a b:List (Nat×aN)),al (a ++b) h=al a (al b h)
 |[],b=>rfl
 |(k,e)::a,b=>by
  show aM (al (a ++b) h) k e=aM (al a (al b h)) k e;rw[lJ r h a b]
theorem Di{P:Program}{g:Nat}{args rs:List AV}{A B B':List (Nat×aN)}(hs:(A.all fun p=>p.2.ob.isSome)=true)(hd:(A.all fun p=>B'.all fun q=> !(Nat.beq p.1 q.1))=true)(h:∀rest:ab,ay P g args (al (A ++B) rest) rs (al (A ++B') rest)):∀h:ab,mn h (A ++B)→ay P g args h rs (al B' h):=fun h' hf=>by
 have h1:=gK h h' hf;rw[lJ h']at h1
 have h2:mn (al B' h') A:=fun p hp=>by
  have e:al B' h' p.1=h' p.1:=b6 B' h' fun hx=>by
   obtain⟨q,hq,he⟩:=List.mem_map.1 hx;have:=List.all_eq_true.1 (List.all_eq_true.1 hd p hp) q hq;rw[he]at this;simp at this
  rw[e];exact hf p (by simp[hp])
 rw[sK h2 hs]at h1;exact h1
abbrev IM(S:CK):List (Nat×aN):=[(500000,⟨1,some (.arr 1 (BG S))⟩),(499904,⟨1,some (.map (kD 0 S.fs) S.fs.length)⟩),(500004,⟨S.vq,some (.map (bc S.c.sure.l) S.c.sure.c)⟩),(500382,⟨S.vp,some (.arr 3 (S.c.pts.map ct))⟩)]
abbrev FE(S:CK):List (Nat×aN):=[(500002,⟨S.vh,some (.map (gF 0 S.c.vars) S.c.vars.length)⟩),(500003,⟨S.vs,some (.map (cB 0 S.c.seen) S.c.seen.length)⟩),(500005,⟨S.vv,some (.arr 4 (S.c.vars.map zv))⟩),(500191,⟨1,some (.arr 1 (S.W.set S.fn (lG S.vv S.c.vars)))⟩)]
theorem BT(S:CK)(rest:ab):al (ck S) rest=al (IM S ++FE S) rest:=by
 funext k;simp only[ck,IM,FE,List.cons_append,List.nil_append,al,aM];by_cases h0:k=500000
 ·subst h0;rfl
 by_cases h1:k=499904
 ·subst h1;rfl
 by_cases h2:k=500002
 ·subst h2;rfl
 by_cases h3:k=500003
 ·subst h3;rfl
 by_cases h4:k=500004
 ·subst h4;rfl
 by_cases h5:k=500005
 ·subst h5;rfl
 by_cases h6:k=500382
 ·subst h6;rfl
 by_cases h7:k=500191
 ·subst h7;rfl
 simp only[h0,h1,h2,h3,h4,h5,h6,h7,if_false]
noncomputable def QX{S:CK}{nm:List UInt8}{ty n st:Int}(c:HC 48 [aI, .d (.agg [.str nm, .int .u8 ty, .int .i64 n, .int .i64 st])] (ck S) [.int .i64 (S.c.vars.length:Int)] (ck (S.add ⟨nm,ty,n,st⟩))):fQ Pg:=
 ⟨48,[aI, .d (.agg [.str nm, .int .u8 ty, .int .i64 n, .int .i64 st])],IM S ++FE S,[.int .i64 (S.c.vars.length:Int)].map .d,FE (S.add ⟨nm,ty,n,st⟩),Di (A:=IM S) (B:=FE S) rfl rfl fun rest=>by
  have:=c rest;rw[BT,BT]at this;exact this⟩
section
variable{S:CK}(h:CKok S){fs:List Fn}(i:Nat)(fnm:List UInt8)(ps:List Pm)(res:Int)(bd:List bu)(fp:Int)(k:Nat)
include h
theorem Oy(hi:decide (k<(ps.map jL).length)=false):RE 69 (lO 27 5) (Ki fs i ps k) (ck S ++fB fnm ps res bd fp) (.exit 2) (FD fs i) (ck S ++fB fnm ps res bd fp):=
 dX aD named {hint:=qT 27 [(37,jO Pg k (ps.map jL).length false hi)]} 2000 27 2000 69 1000000 ([]) (gG h h rfl rfl rfl rfl rfl rfl) (by kernel_rfl) (by kernel_rfl) (fun _=>by kernel_rfl)
theorem QY(hi:decide (k<(ps.map jL).length)=true)(nm:List UInt8)(ty p:Int)(hx:ps[k]? =some ⟨nm,ty,p⟩)(hk:k<1000000)(hn:(S.c.vars.any fun v=>v.nm==nm)=false)(hs:eA nm S.c.seen 0=none)(h':CKok (S.add ⟨nm,ty,0,0⟩))(hq:bQ S.c.vars.length S.c.sure.l 0=none):
    RE 69 (lO 27 5) (Ki fs i ps k) (ck S ++fB fnm ps res bd fp) .normal (Ki fs i ps (k+1)) (Ir (S.add ⟨nm,ty,0,0⟩) (bc S.c.sure.l ++[(.int .i64 (S.c.vars.length:Int), .agg [],S.c.sure.c)]) (S.c.sure.c+1) ++fB fnm ps res bd fp):=
 dX aD named {hint:=qT 27 [(37,jO Pg k (ps.map jL).length true hi),(38,Qp Pg ps k _ hx),(107012,lH Pg S.c.vars.length S.c.sure.l none hq),(52,dk Pg k (by omega))],calls:=tC [(27,50,3035,QX (Iq h nm ty 0 0 hn hs h'))]} 2000 27 2000 69 1000000 ([]) (Ox h h' _ _ rfl rfl rfl rfl) (by kernel_rfl) (by kernel_rfl) (fun _=>by kernel_rfl)
end
def Qr(p:Pm):Vr:=⟨p.nm,p.ty,0,0⟩
def CS.par(c:CS)(p:Pm):CS:={c.add (Qr p)with sure:=c.sure.put c.vars.length}
theorem Kj{fs:List Fn}(i:Nat)(fnm:List UInt8)(ps:List Pm)(res:Int)(bd:List bu)(fp:Int)(hps:(ps.map (·.nm)).Nodup)(hl:ps.length≤6)(hnm:∀p∈ps,p.nm.length≤1000000):
    ∀(d k:Nat)(S:CK),ps.length-k=d→k≤ps.length→CKok S→S.c.vars.map (·.nm)=(ps.take k).map (·.nm)→
    ∃S',Nx S S' ((ps.drop k).foldl CS.par S.c)∧∀(rest:ab)(X:ce),X.P=Pg→X.N=69→LW X (lO 27 5) ⟨an (Ki fs i ps k),al (ck S ++fB fnm ps res bd fp) rest⟩ fun e' S2=>e'= .exit 2∧S2=⟨an (FD fs i),al (ck S' ++fB fnm ps res bd fp) rest⟩
 |0,k,S,hd,hk,h,hv=>by
  have:k=ps.length:=by omega
  subst this;rw[List.drop_length];exact⟨S,h.nx,fun rest X hP hN=>aY (Oy h i fnm ps res bd fp ps.length (by simp) rest X hP hN) (by simp)⟩
 |d+1,k,S,hd,hk,h,hv=>by
  have hlt:k<ps.length:=by omega
  have hx:ps[k]? =some ps[k]:=List.getElem?_eq_getElem hlt;have hm:ps[k]∈ps:=List.getElem_mem hlt;have htk:ps.take (k+1)=ps.take k ++[ps[k]]:=by rw[List.take_add_one,hx];rfl
  rw[List.drop_eq_getElem_cons hlt];generalize ps[k]=x at hx hm htk
  have hvl:S.c.vars.length=k:=by
   have:=congrArg List.length hv;rw[List.length_map,List.length_map,List.length_take,Nat.min_eq_left (by omega)]at this;exact this
  have hn:(S.c.vars.any fun v=>v.nm==x.nm)=false:=by
   rw[List.any_eq_false];intro v hv2 e
   have h1:x.nm∈(ps.take k).map (·.nm):=by
    rw[←hv,←eq_of_beq e];exact List.mem_map.2 ⟨v,hv2,rfl⟩
   have h2:((ps.take (k+1)).map (·.nm)).Nodup:=(List.Sublist.map _ (List.take_sublist _ _)).nodup hps;rw[htk,List.map_append,List.nodup_append]at h2;exact h2.2.2 _ h1 _ (by simp) rfl
  obtain⟨nm,ty,p⟩:=x;have h':=AF h (v:=⟨nm,ty,0,0⟩) (hnm _ hm) hn (by omega);have hq:bQ S.c.vars.length S.c.sure.l 0=none:=kl fun p hp e=>by have:=h.sv p hp;omega
  have h2:=wL h' S.c.vars.length (by simp[CK.add,CS.add])
  obtain⟨S',nx,c⟩:=Kj (fs:=fs) i fnm ps res bd fp hps hl hnm d (k+1) ((S.add ⟨nm,ty,0,0⟩).put S.c.vars.length) (by omega) hlt h2 (by
   rw[htk];show(S.c.vars ++[_]).map _=_;rw[List.map_append,List.map_append,hv];rfl)
  refine⟨S',⟨nx.ok,nx.c,nx.fs,nx.fn,nx.deep,nx.W,List.IsPrefix.trans (List.prefix_append _ _) nx.vars⟩,fun rest X hP hN=>ba (QY h i fnm ps res bd fp k (by simpa using hlt) nm ty p hx (by omega) hn (yF h hn) h' hq rest X hP hN) ?_⟩;have:=c rest X hP hN;rw[←wK (S:=S.add ⟨nm,ty,0,0⟩) (i:=S.c.vars.length) hq]at this;exact this
end Go.Avm
namespace Go.Avm
open Go.Proofs
def iQ(P:Program)(n:Nat):bZ P:= .val (dB (decide ((n:Int)≤(n:Int)))) (dB true) (by simp)
def iR(P:Program)(n:Nat):bZ P:= .val (dB (decide (((n+1:Nat):Int)≤(n:Int)))) (dB false) (by
 congr 2;rw[decide_eq_false_iff_not];omega)
def eC(P:Program)(n:Nat):bZ P:= .inb (n:Int) (n+1) (by omega) (by simp)
def eD(P:Program)(l:List AV)(x:AV)(n:Nat)(h:l.length=n):bZ P:= .elt (l.take n ++[x]) (0+(n:Int).toNat) x (by
 rw[List.take_of_length_le (by omega),Nat.zero_add,Int.toNat_natCast,List.getElem?_append_right (by omega)];simp[h])
def CK.ptd(S:CK)(x:Pt):CK:={S with c:={S.c with pts:=S.c.pts ++[x]},vp:=S.vp+1}
abbrev wU(S:CK)(qe:List (D×D×Nat))(qc:Nat)(l:List AV):List (Nat×aN):=
 [(500000,⟨1,some (.arr 1 [.mp 499904 1, .d (.ro (S.fs.map cW)), .sl 500191 1 0 S.fs.length 1, .sl 500382 (S.vp+1) 0 (S.c.pts.length+1) 3,dN S.fn, .mp 500002 S.vh, .mp 500003 S.vs, .mp 500004 S.vq,dI S.deep])⟩),(499904,⟨1,some (.map (kD 0 S.fs) S.fs.length)⟩),(500002,⟨S.vh,some (.map (gF 0 S.c.vars) S.c.vars.length)⟩),(500003,⟨S.vs,some (.map (cB 0 S.c.seen) S.c.seen.length)⟩),
  (500004,⟨S.vq,some (.map qe qc)⟩),(500005,⟨S.vv,some (.arr 4 (S.c.vars.map zv))⟩),(500382,⟨S.vp+1,some (.arr 3 l)⟩),(500191,⟨1,some (.arr 1 (S.W.set S.fn (lG S.vv S.c.vars)))⟩)]
theorem LZ(S:CK)(x:Pt):wU S (bc S.c.sure.l) S.c.sure.c ((S.c.pts.map ct).take S.c.pts.length ++[ct x])=ck (S.ptd x):=by
 have e1:(S.c.pts.map ct).take S.c.pts.length=S.c.pts.map ct:=List.take_of_length_le (by simp);simp only[wU,ck,BG,CK.ptd,e1,List.length_append,List.length_cons,List.length_nil,List.map_append,List.map_cons,List.map_nil,Nat.zero_add]
theorem bE{S:CK}(hm:CKok (S.ptd dx)):HC 103 [aI] (wU S (bc S.c.sure.l) S.c.sure.c ((S.c.pts.map ct).take S.c.pts.length ++[ct dx])) [ED (S.c.pt S.fn)] (wU S (bc S.c.sure.l) S.c.sure.c ((S.c.pts.map ct).take S.c.pts.length ++[ct dx])):=by
 rw[LZ];exact Lt hm
abbrev FG(S:CK)(qe:List (D×D×Nat))(qc:Nat):List (Nat×aN):=wU S qe qc (((S.c.pts.map ct).take S.c.pts.length ++[ct dx]).set (0+(S.c.pts.length:Int).toNat) (.d (ED (S.c.pt S.fn))))
abbrev iu(S:CK):List (Nat×aN):=FG S (bc S.c.sure.l) S.c.sure.c
def CK.at1(S:CK):CK:=S.ptd (S.c.pt S.fn)
theorem yM(S:CK):((S.c.pts.map ct).take S.c.pts.length ++[ct dx]).set (0+(S.c.pts.length:Int).toNat) (.d (ED (S.c.pt S.fn)))=(S.c.pts ++[S.c.pt S.fn]).map ct:=by
 have e1:(S.c.pts.map ct).take S.c.pts.length=S.c.pts.map ct:=List.take_of_length_le (by simp);rw[e1,Nat.zero_add,Int.toNat_natCast,List.set_append_right _ _ (by simp)];simp[ct]
theorem cX(S:CK):iu S=ck S.at1:=by
 show wU S (bc S.c.sure.l) S.c.sure.c (((S.c.pts.map ct).take S.c.pts.length ++[ct dx]).set (0+(S.c.pts.length:Int).toNat) (.d (ED (S.c.pt S.fn))))=_;rw[yM];simp only[wU,ck,BG,CK.at1,CK.ptd,List.length_append,List.length_cons,List.length_nil,Nat.zero_add]
theorem BU(S:CK){i:Nat}(hi:bQ i S.c.sure.l 0=none):FG S (bc S.c.sure.l ++[(.int .i64 (i:Int), .agg [],S.c.sure.c)]) (S.c.sure.c+1)=ck (S.at1.put i):=by
 have e:S.c.sure.put i=⟨S.c.sure.l ++[(i,S.c.sure.c)],S.c.sure.c+1⟩:=by
  unfold SureL.put SureL.has;rw[hi];rfl
 show wU S _ _ (((S.c.pts.map ct).take S.c.pts.length ++[ct dx]).set (0+(S.c.pts.length:Int).toNat) (.d (ED (S.c.pt S.fn))))=_;rw[yM];simp only[wU,ck,BG,CK.at1,CK.ptd,CK.put,e,bc,List.map_append,List.map_cons,List.map_nil,List.length_append,List.length_cons,List.length_nil,Nat.zero_add]
theorem yN{x:Nat}:∀{l:List (Nat×Nat)}{j i:Nat},bQ x l j=some (j+i)→ey (.int .i64 (x:Int)) (.agg []) i (bc l)=bc l
 |[],_,_,h=>by cases h
 |e::r,j,i,h=>by
  simp only[bQ]at h;cases hb:(x==e.1)with
  |true=>
   rw[hb]at h;simp only[cond_true,Option.some.injEq]at h;have hi:i=0:=by omega
   subst hi;rw[eq_of_beq hb];rfl
  |false=>
   rw[hb]at h;simp only[cond_false]at h
   have hge:∀{l:List (Nat×Nat)}{j k:Nat},bQ x l j=some k→j≤k:=fun {l}=>by
    induction l with
    |nil=>intro j k h;cases h
    |cons a r ih=>
     intro j k h;simp only[bQ]at h;cases hc:(x==a.1)with
     |true=>rw[hc]at h;simp at h;omega
     |false=>rw[hc]at h;have:=ih h;omega
   have:=hge h;obtain⟨i',rfl⟩:∃i',i=i'+1:=⟨i-1,by omega⟩
   show _::ey _ _ i' (bc r)=_::bc r;rw[yN (i:=i') (j:=j+1) (by rw[h];congr 1;omega)]
theorem BV(S:CK){i j:Nat}(hi:bQ i S.c.sure.l 0=some j):FG S (ey (.int .i64 (i:Int)) (.agg []) j (bc S.c.sure.l)) S.c.sure.c=ck (S.at1.put i):=by
 have e:S.c.sure.put i=S.c.sure:=by
  unfold SureL.put SureL.has;rw[hi];rfl
 rw[yN (j:=0) (by rw[hi,Nat.zero_add])]
 have e2:S.at1.put i=S.at1:=by
  show({S.at1 with c:={S.at1.c with sure:=S.c.sure.put i}}:CK)=S.at1;rw[e];rfl
 rw[e2];exact cX S
section
variable{S:CK}{f:Nat}{args rs:List AV}
theorem yO(c:∀rest:ab,ay Pg f args (al (ck S.at1) rest) rs (al (ck S.at1) rest)):∀rest:ab,ay Pg f args (al (iu S) rest) rs (al (iu S) rest):=by
 rw[cX];exact c
theorem QZ{post:List (Nat×aN)}(c:∀rest:ab,ay Pg f args (al (ck S.at1) rest) rs (al post rest)):∀rest:ab,ay Pg f args (al (iu S) rest) rs (al post rest):=by
 rw[cX];exact c
theorem L4{x:AV}{post:List (Nat×aN)}(c:HX f args (ck S.at1) x post):HX f args (iu S) x post:=by
 rw[cX];exact c
theorem oL{p e:Int}(c:HX f args (ck S.at1) (aH p e) (ck S.at1)):HX f args (iu S) (aH p e) (iu S):=by
 rw[cX];exact c
end
section
variable{S:CK}(h:CKok S)(hm:CKok (S.ptd dx))(nm:List UInt8)(ty n p:Int)(es:List Ex)(k1 o1:Int)(nm1:List UInt8)(n1 p1:Int)(xs1:List Ex)(k2 o2:Int)(nm2:List UInt8)(n2 p2:Int)(cd zs:List Ex)(bd el:List bu)
include h hm
set_option maxRecDepth 100000 in
theorem Q0(h1:CKok S.at1)(k:Int)(e1:(k==1)=false)(e2:(k==2)=false)(e3:(k==3)=false)(e4:(k==4)=false)(e5:(k==5)=false)(e6:(k==6)=false)(e7:(k==7)=false)(e8:(k==8)=false):HC 76 [aI,eQ k (S.c.pts.length:Int) nm ty n p es bd el] (ck S) [] (iu S):=
 ag aD named {hintB:=bn Pg [(76,15,3332,iQ Pg S.c.pts.length),(76,24,4664, .apps (S.c.pts.map ct) S.c.pts.length 1 ⟨by simp,by have:=h.pts;omega⟩),(76,15,6588,iR Pg S.c.pts.length),(76,37,7920,eC Pg S.c.pts.length),(76,103010,8068,eD Pg (S.c.pts.map ct) (ct dx) S.c.pts.length (by simp)),(76,41,8512,qB e1),(76,46,8808,qB e2),(76,78,9104,qB e3),(76,100,9400,qB e4),(76,105,9696,qB e5),(76,127,9992,qB e6),(76,132,10288,qB e7),(76,141,10584,qB e8)],calls:=tC [(76,36,7920,bh rfl (bE hm))]} 2000 2000 _ 1000000 (cX S▸aA h h1 rfl) (fun _=>by kernel_rfl)
set_option maxRecDepth 100000 in
theorem Oz{S':CK}(h':CKok S')(c:HC 104 [aI,eQ 1 (S.c.pts.length:Int) nm ty n p es bd el] (ck S.at1) [] (ck S')):HC 76 [aI,eQ 1 (S.c.pts.length:Int) nm ty n p es bd el] (ck S) [] (ck S'):=
 ag aD named {hintB:=bn Pg [(76,15,3332,iQ Pg S.c.pts.length),(76,24,4664, .apps (S.c.pts.map ct) S.c.pts.length 1 ⟨by simp,by have:=h.pts;omega⟩),(76,15,6588,iR Pg S.c.pts.length),(76,37,7920,eC Pg S.c.pts.length),(76,103010,8068,eD Pg (S.c.pts.map ct) (ct dx) S.c.pts.length (by simp))],calls:=tC [(76,36,7920,bh rfl (bE hm)),(76,44,9104,af (QZ c))]} 2000 2000 _ 1000000 (aA h h' rfl) (fun _=>by kernel_rfl)
set_option maxRecDepth 100000 in
theorem L5(g:Gv)(q r:Int)(c:HX 104 [aI,eQ 1 (S.c.pts.length:Int) nm ty n p es bd el] (ck S.at1) (aH q r) (cv g)):HX 76 [aI,eQ 1 (S.c.pts.length:Int) nm ty n p es bd el] (ck S) (aH q r) (cv g):=
 ae aD named {hintB:=bn Pg [(76,15,3332,iQ Pg S.c.pts.length),(76,24,4664, .apps (S.c.pts.map ct) S.c.pts.length 1 ⟨by simp,by have:=h.pts;omega⟩),(76,15,6588,iR Pg S.c.pts.length),(76,37,7920,eC Pg S.c.pts.length),(76,103010,8068,eD Pg (S.c.pts.map ct) (ct dx) S.c.pts.length (by simp))],calls:=tC [(76,36,7920,bh rfl (bE hm))],pans:=au Pg [(76,6,8808,⟨2,some (bi (L4 c)),[]⟩)]} 2000 2000 _ 1000000 (kn h rfl) (by kernel_rfl) (fun _=>by kernel_rfl)
set_option maxRecDepth 100000 in
theorem OA{S':CK}(h':CKok S')(c:HC 108 [aI,eQ 4 (S.c.pts.length:Int) nm ty n p es bd el] (ck S.at1) [] (ck S')):HC 76 [aI,eQ 4 (S.c.pts.length:Int) nm ty n p es bd el] (ck S) [] (ck S'):=
 ag aD named {hintB:=bn Pg [(76,15,3332,iQ Pg S.c.pts.length),(76,24,4664, .apps (S.c.pts.map ct) S.c.pts.length 1 ⟨by simp,by have:=h.pts;omega⟩),(76,15,6588,iR Pg S.c.pts.length),(76,37,7920,eC Pg S.c.pts.length),(76,103010,8068,eD Pg (S.c.pts.map ct) (ct dx) S.c.pts.length (by simp))],calls:=tC [(76,36,7920,bh rfl (bE hm)),(76,103,9992,af (QZ c))]} 2000 2000 _ 1000000 (aA h h' rfl) (fun _=>by kernel_rfl)
set_option maxRecDepth 100000 in
theorem L6(g:Gv)(q r:Int)(c:HX 108 [aI,eQ 4 (S.c.pts.length:Int) nm ty n p es bd el] (ck S.at1) (aH q r) (cv g)):HX 76 [aI,eQ 4 (S.c.pts.length:Int) nm ty n p es bd el] (ck S) (aH q r) (cv g):=
 ae aD named {hintB:=bn Pg [(76,15,3332,iQ Pg S.c.pts.length),(76,24,4664, .apps (S.c.pts.map ct) S.c.pts.length 1 ⟨by simp,by have:=h.pts;omega⟩),(76,15,6588,iR Pg S.c.pts.length),(76,37,7920,eC Pg S.c.pts.length),(76,103010,8068,eD Pg (S.c.pts.map ct) (ct dx) S.c.pts.length (by simp))],calls:=tC [(76,36,7920,bh rfl (bE hm))],pans:=au Pg [(76,17,9696,⟨2,some (bi (L4 c)),[]⟩)]} 2000 2000 _ 1000000 (kn h rfl) (by kernel_rfl) (fun _=>by kernel_rfl)
set_option maxRecDepth 100000 in
theorem OD(h1:CKok S.at1)(c:HC 111 [aI,eQ 6 (S.c.pts.length:Int) nm ty n p es bd el] (ck S.at1) [] (ck S.at1)):HC 76 [aI,eQ 6 (S.c.pts.length:Int) nm ty n p es bd el] (ck S) [] (iu S):=
 ag aD named {hintB:=bn Pg [(76,15,3332,iQ Pg S.c.pts.length),(76,24,4664, .apps (S.c.pts.map ct) S.c.pts.length 1 ⟨by simp,by have:=h.pts;omega⟩),(76,15,6588,iR Pg S.c.pts.length),(76,37,7920,eC Pg S.c.pts.length),(76,103010,8068,eD Pg (S.c.pts.map ct) (ct dx) S.c.pts.length (by simp))],calls:=tC [(76,36,7920,bh rfl (bE hm)),(76,130,10584,bh rfl (yO c))]} 2000 2000 _ 1000000 (cX S▸aA h h1 rfl) (fun _=>by kernel_rfl)
set_option maxRecDepth 100000 in
theorem L7(h1:CKok S.at1)(q r:Int)(c:HX 111 [aI,eQ 6 (S.c.pts.length:Int) nm ty n p es bd el] (ck S.at1) (aH q r) (ck S.at1)):HX 76 [aI,eQ 6 (S.c.pts.length:Int) nm ty n p es bd el] (ck S) (aH q r) (iu S):=
 ae aD named {hintB:=bn Pg [(76,15,3332,iQ Pg S.c.pts.length),(76,24,4664, .apps (S.c.pts.map ct) S.c.pts.length 1 ⟨by simp,by have:=h.pts;omega⟩),(76,15,6588,iR Pg S.c.pts.length),(76,37,7920,eC Pg S.c.pts.length),(76,103010,8068,eD Pg (S.c.pts.map ct) (ct dx) S.c.pts.length (by simp))],calls:=tC [(76,36,7920,bh rfl (bE hm))],pans:=au Pg [(76,24,10288,⟨2,some (bi (oL c)),[]⟩)]} 2000 2000 _ 1000000 (cX S▸aA h h1 rfl) (by kernel_rfl) (fun _=>by kernel_rfl)
set_option maxRecDepth 100000 in
theorem OE(h1:CKok S.at1)(t:Int)(w:mq S.at1 (.mk k1 o1 nm1 n1 p1 xs1) [1,2] t):HC 76 [aI,eQ 7 (S.c.pts.length:Int) nm ty n p (.mk k1 o1 nm1 n1 p1 xs1::zs) bd el] (ck S) [] (iu S):=
 ag aD named {hintB:=bn Pg [(76,15,3332,iQ Pg S.c.pts.length),(76,24,4664, .apps (S.c.pts.map ct) S.c.pts.length 1 ⟨by simp,by have:=h.pts;omega⟩),(76,15,6588,iR Pg S.c.pts.length),(76,37,7920,eC Pg S.c.pts.length),(76,103010,8068,eD Pg (S.c.pts.map ct) (ct dx) S.c.pts.length (by simp))],calls:=tC [(76,36,7920,bh rfl (bE hm)),(76,139,11472,bh rfl (yO (wO w 11462)))]} 2000 2000 _ 1000000 (cX S▸aA h h1 rfl) (fun _=>by kernel_rfl)
set_option maxRecDepth 100000 in
theorem L8(h1:CKok S.at1)(q r:Int)(w:i8 S.at1 (.mk k1 o1 nm1 n1 p1 xs1) [1,2] q r):HX 76 [aI,eQ 7 (S.c.pts.length:Int) nm ty n p (.mk k1 o1 nm1 n1 p1 xs1::zs) bd el] (ck S) (aH q r) (iu S):=
 ae aD named {hintB:=bn Pg [(76,15,3332,iQ Pg S.c.pts.length),(76,24,4664, .apps (S.c.pts.map ct) S.c.pts.length 1 ⟨by simp,by have:=h.pts;omega⟩),(76,15,6588,iR Pg S.c.pts.length),(76,37,7920,eC Pg S.c.pts.length),(76,103010,8068,eD Pg (S.c.pts.map ct) (ct dx) S.c.pts.length (by simp))],calls:=tC [(76,36,7920,bh rfl (bE hm))],pans:=au Pg [(76,26,10584,⟨6,some (bi (oL (wP w 11462))),[]⟩)]} 2000 2000 _ 1000000 (cX S▸aA h h1 rfl) (by kernel_rfl) (fun _=>by kernel_rfl)
set_option maxRecDepth 100000 in
theorem OF(h1:CKok S.at1)(t:Int)(c:HC 112 [aI,ic k1 o1 nm1 n1 p1 xs1] (ck S.at1) [gl t] (ck S.at1)):HC 76 [aI,eQ 8 (S.c.pts.length:Int) nm ty n p (.mk k1 o1 nm1 n1 p1 xs1::zs) bd el] (ck S) [] (iu S):=
 ag aD named {hintB:=bn Pg [(76,15,3332,iQ Pg S.c.pts.length),(76,24,4664, .apps (S.c.pts.map ct) S.c.pts.length 1 ⟨by simp,by have:=h.pts;omega⟩),(76,15,6588,iR Pg S.c.pts.length),(76,37,7920,eC Pg S.c.pts.length),(76,103010,8068,eD Pg (S.c.pts.map ct) (ct dx) S.c.pts.length (by simp))],calls:=tC [(76,36,7920,bh rfl (bE hm)),(76,147,11620,bh rfl (yO c))]} 2000 2000 _ 1000000 (cX S▸aA h h1 rfl) (fun _=>by kernel_rfl)
set_option maxRecDepth 100000 in
theorem L9(h1:CKok S.at1)(q r:Int)(c:HX 112 [aI,ic k1 o1 nm1 n1 p1 xs1] (ck S.at1) (aH q r) (ck S.at1)):HX 76 [aI,eQ 8 (S.c.pts.length:Int) nm ty n p (.mk k1 o1 nm1 n1 p1 xs1::zs) bd el] (ck S) (aH q r) (iu S):=
 ae aD named {hintB:=bn Pg [(76,15,3332,iQ Pg S.c.pts.length),(76,24,4664, .apps (S.c.pts.map ct) S.c.pts.length 1 ⟨by simp,by have:=h.pts;omega⟩),(76,15,6588,iR Pg S.c.pts.length),(76,37,7920,eC Pg S.c.pts.length),(76,103010,8068,eD Pg (S.c.pts.map ct) (ct dx) S.c.pts.length (by simp))],calls:=tC [(76,36,7920,bh rfl (bE hm))],pans:=au Pg [(76,28,10880,⟨5,some (bi (oL c)),[]⟩)]} 2000 2000 _ 1000000 (cX S▸aA h h1 rfl) (by kernel_rfl) (fun _=>by kernel_rfl)
set_option maxRecDepth 100000 in
theorem Q1(h1:CKok S.at1)(q r:Int)(a:HX 107 [aI, .d (.str nm),dI p] (ck S.at1) (aH q r) (ck S.at1)):HX 76 [aI,eQ 3 (S.c.pts.length:Int) nm ty n p es bd el] (ck S) (aH q r) (iu S):=
 ae aD named {hintB:=bn Pg [(76,15,3332,iQ Pg S.c.pts.length),(76,24,4664, .apps (S.c.pts.map ct) S.c.pts.length 1 ⟨by simp,by have:=h.pts;omega⟩),(76,15,6588,iR Pg S.c.pts.length),(76,37,7920,eC Pg S.c.pts.length),(76,103010,8068,eD Pg (S.c.pts.map ct) (ct dx) S.c.pts.length (by simp))],calls:=tC [(76,36,7920,bh rfl (bE hm))],pans:=au Pg [(76,13,9400,⟨5,some (bi (oL a)),[]⟩)]} 2000 2000 _ 1000000 (cX S▸aA h h1 rfl) (by kernel_rfl) (fun _=>by kernel_rfl)
set_option maxRecDepth 100000 in
theorem Q3(h1:CKok S.at1)(a:HC 107 [aI, .d (.str nm),dI p] (ck S.at1) [] (ck S.at1))(q r:Int)(w:i8 S.at1 (.mk k1 o1 nm1 n1 p1 xs1) [1] q r):HX 76 [aI,eQ 3 (S.c.pts.length:Int) nm ty n p (.mk k1 o1 nm1 n1 p1 xs1::zs) bd el] (ck S) (aH q r) (iu S):=
 ae aD named {hintB:=bn Pg [(76,15,3332,iQ Pg S.c.pts.length),(76,24,4664, .apps (S.c.pts.map ct) S.c.pts.length 1 ⟨by simp,by have:=h.pts;omega⟩),(76,15,6588,iR Pg S.c.pts.length),(76,37,7920,eC Pg S.c.pts.length),(76,103010,8068,eD Pg (S.c.pts.map ct) (ct dx) S.c.pts.length (by simp))],calls:=tC [(76,36,7920,bh rfl (bE hm)),(76,84,10140,bh rfl (yO a))],pans:=au Pg [(76,14,10140,⟨6,some (bi (oL (wP w 10970))),[]⟩)]} 2000 2000 _ 1000000 (cX S▸aA h h1 rfl) (by kernel_rfl) (fun _=>by kernel_rfl)
set_option maxRecDepth 100000 in
theorem Q4(h1:CKok S.at1)(a:HC 107 [aI, .d (.str nm),dI p] (ck S.at1) [] (ck S.at1))(t:Int)(w:mq S.at1 (.mk k1 o1 nm1 n1 p1 xs1) [1] t)(q r:Int)(w2:i8 S.at1 (.mk k2 o2 nm2 n2 p2 cd) [1] q r):HX 76 [aI,eQ 3 (S.c.pts.length:Int) nm ty n p (.mk k1 o1 nm1 n1 p1 xs1:: .mk k2 o2 nm2 n2 p2 cd::zs) bd el] (ck S) (aH q r) (iu S):=
 ae aD named {hintB:=bn Pg [(76,15,3332,iQ Pg S.c.pts.length),(76,24,4664, .apps (S.c.pts.map ct) S.c.pts.length 1 ⟨by simp,by have:=h.pts;omega⟩),(76,15,6588,iR Pg S.c.pts.length),(76,37,7920,eC Pg S.c.pts.length),(76,103010,8068,eD Pg (S.c.pts.map ct) (ct dx) S.c.pts.length (by simp))],calls:=tC [(76,36,7920,bh rfl (bE hm)),(76,84,10140,bh rfl (yO a)),(76,91,11028,bh rfl (yO (wO w 10970)))],pans:=au Pg [(76,15,11028,⟨6,some (bi (oL (wP w2 11865))),[]⟩)]} 2000 2000 _ 1000000 (cX S▸aA h h1 rfl) (by kernel_rfl) (fun _=>by kernel_rfl)
set_option maxRecDepth 100000 in
theorem OG(h1:CKok S.at1)(a:HC 107 [aI, .d (.str nm),dI p] (ck S.at1) [] (ck S.at1))(t:Int)(w:mq S.at1 (.mk k1 o1 nm1 n1 p1 xs1) [1] t)(t2:Int)(w2:mq S.at1 (.mk k2 o2 nm2 n2 p2 cd) [1] t2):HC 76 [aI,eQ 3 (S.c.pts.length:Int) nm ty n p (.mk k1 o1 nm1 n1 p1 xs1:: .mk k2 o2 nm2 n2 p2 cd::zs) bd el] (ck S) [] (iu S):=
 ag aD named {hintB:=bn Pg [(76,15,3332,iQ Pg S.c.pts.length),(76,24,4664, .apps (S.c.pts.map ct) S.c.pts.length 1 ⟨by simp,by have:=h.pts;omega⟩),(76,15,6588,iR Pg S.c.pts.length),(76,37,7920,eC Pg S.c.pts.length),(76,103010,8068,eD Pg (S.c.pts.map ct) (ct dx) S.c.pts.length (by simp))],calls:=tC [(76,36,7920,bh rfl (bE hm)),(76,84,10140,bh rfl (yO a)),(76,91,11028,bh rfl (yO (wO w 10970))),(76,98,11916,bh rfl (yO (wO w2 11865)))]} 2000 2000 _ 1000000 (cX S▸aA h h1 rfl) (fun _=>by kernel_rfl)
set_option maxRecDepth 100000 in
theorem Q5(h1:CKok S.at1)(q r:Int)(a:HX 105 [aI, .d (.str nm),dI p] (ck S.at1) (aH q r) (ck S.at1)):HX 76 [aI,eQ 2 (S.c.pts.length:Int) nm ty n p es bd el] (ck S) (aH q r) (iu S):=
 ae aD named {hintB:=bn Pg [(76,15,3332,iQ Pg S.c.pts.length),(76,24,4664, .apps (S.c.pts.map ct) S.c.pts.length 1 ⟨by simp,by have:=h.pts;omega⟩),(76,15,6588,iR Pg S.c.pts.length),(76,37,7920,eC Pg S.c.pts.length),(76,103010,8068,eD Pg (S.c.pts.map ct) (ct dx) S.c.pts.length (by simp))],calls:=tC [(76,36,7920,bh rfl (bE hm))],pans:=au Pg [(76,8,9104,⟨5,some (bi (oL a)),[]⟩)]} 2000 2000 _ 1000000 (cX S▸aA h h1 rfl) (by kernel_rfl) (fun _=>by kernel_rfl)
set_option maxRecDepth 100000 in
theorem Q6(h1:CKok S.at1)(i:Nat)(v:Vr)(a:HC 105 [aI, .d (.str nm),dI p] (ck S.at1) [.int .i64 (i:Int),q5 v] (ck S.at1))(hv:(v.ty !=3)=false):HX 76 [aI,eQ 2 (S.c.pts.length:Int) nm ty n p es bd el] (ck S) (aH p 8) (iu S):=
 ae aD named {hintB:=bn Pg [(76,15,3332,iQ Pg S.c.pts.length),(76,24,4664, .apps (S.c.pts.map ct) S.c.pts.length 1 ⟨by simp,by have:=h.pts;omega⟩),(76,15,6588,iR Pg S.c.pts.length),(76,37,7920,eC Pg S.c.pts.length),(76,103010,8068,eD Pg (S.c.pts.map ct) (ct dx) S.c.pts.length (by simp)),(76,58,11028,qB hv)],calls:=tC [(76,36,7920,bh rfl (bE hm)),(76,53,9844,bh rfl (yO a))],pans:=au Pg [(76,9,10732,⟨5,some (bi (bU p 8)),[]⟩)]} 2000 2000 _ 1000000 (cX S▸aA h h1 rfl) (by kernel_rfl) (fun _=>by kernel_rfl)
set_option maxRecDepth 100000 in
theorem Q7(h1:CKok S.at1)(i:Nat)(v:Vr)(a:HC 105 [aI, .d (.str nm),dI p] (ck S.at1) [.int .i64 (i:Int),q5 v] (ck S.at1))(hv:(v.ty !=3)=true)(q r:Int)(w:i8 S.at1 (.mk k1 o1 nm1 n1 p1 xs1) [v.ty] q r):HX 76 [aI,eQ 2 (S.c.pts.length:Int) nm ty n p (.mk k1 o1 nm1 n1 p1 xs1::zs) bd el] (ck S) (aH q r) (iu S):=
 ae aD named {hintB:=bn Pg [(76,15,3332,iQ Pg S.c.pts.length),(76,24,4664, .apps (S.c.pts.map ct) S.c.pts.length 1 ⟨by simp,by have:=h.pts;omega⟩),(76,15,6588,iR Pg S.c.pts.length),(76,37,7920,eC Pg S.c.pts.length),(76,103010,8068,eD Pg (S.c.pts.map ct) (ct dx) S.c.pts.length (by simp)),(76,58,11028,qB hv)],calls:=tC [(76,36,7920,bh rfl (bE hm)),(76,53,9844,bh rfl (yO a)),(76,61,11472,bh rfl (aP p 8))],pans:=au Pg [(76,10,11472,⟨8,some (bi (oL (wP w 12577))),[]⟩)]} 2000 2000 _ 1000000 (cX S▸aA h h1 rfl) (by kernel_rfl) (fun _=>by kernel_rfl)
set_option maxRecDepth 100000 in
theorem Ma(h1:CKok S.at1)(i:Nat)(v:Vr)(a:HC 105 [aI, .d (.str nm),dI p] (ck S.at1) [.int .i64 (i:Int),q5 v] (ck S.at1))(hv:(v.ty !=3)=true)(t:Int)(w:mq S.at1 (.mk k1 o1 nm1 n1 p1 xs1) [v.ty] t)(hi:bQ i S.c.sure.l 0=none)(h2:CKok (S.at1.put i)):HC 76 [aI,eQ 2 (S.c.pts.length:Int) nm ty n p (.mk k1 o1 nm1 n1 p1 xs1::zs) bd el] (ck S) [] (FG S (bc S.c.sure.l ++[(.int .i64 (i:Int), .agg [],S.c.sure.c)]) (S.c.sure.c+1)):=
 ag aD named {hintB:=bn Pg [(76,15,3332,iQ Pg S.c.pts.length),(76,24,4664, .apps (S.c.pts.map ct) S.c.pts.length 1 ⟨by simp,by have:=h.pts;omega⟩),(76,15,6588,iR Pg S.c.pts.length),(76,37,7920,eC Pg S.c.pts.length),(76,103010,8068,eD Pg (S.c.pts.map ct) (ct dx) S.c.pts.length (by simp)),(76,58,11028,qB hv),(76,111006,13544,lH Pg i S.c.sure.l (none) hi)],calls:=tC [(76,36,7920,bh rfl (bE hm)),(76,53,9844,bh rfl (yO a)),(76,61,11472,bh rfl (aP p 8)),(76,70,12656,bh rfl (yO (wO w 12577)))]} 2000 2000 _ 1000000 (BU S hi▸aA h h2 rfl) (fun _=>by kernel_rfl)
set_option maxRecDepth 100000 in
theorem Mb(h1:CKok S.at1)(i:Nat)(v:Vr)(a:HC 105 [aI, .d (.str nm),dI p] (ck S.at1) [.int .i64 (i:Int),q5 v] (ck S.at1))(hv:(v.ty !=3)=true)(t:Int)(w:mq S.at1 (.mk k1 o1 nm1 n1 p1 xs1) [v.ty] t)(j:Nat)(hi:bQ i S.c.sure.l 0=some j)(h2:CKok (S.at1.put i)):HC 76 [aI,eQ 2 (S.c.pts.length:Int) nm ty n p (.mk k1 o1 nm1 n1 p1 xs1::zs) bd el] (ck S) [] (FG S (ey (.int .i64 (i:Int)) (.agg []) j (bc S.c.sure.l)) S.c.sure.c):=
 ag aD named {hintB:=bn Pg [(76,15,3332,iQ Pg S.c.pts.length),(76,24,4664, .apps (S.c.pts.map ct) S.c.pts.length 1 ⟨by simp,by have:=h.pts;omega⟩),(76,15,6588,iR Pg S.c.pts.length),(76,37,7920,eC Pg S.c.pts.length),(76,103010,8068,eD Pg (S.c.pts.map ct) (ct dx) S.c.pts.length (by simp)),(76,58,11028,qB hv),(76,111006,13544,lH Pg i S.c.sure.l (some j) hi)],calls:=tC [(76,36,7920,bh rfl (bE hm)),(76,53,9844,bh rfl (yO a)),(76,61,11472,bh rfl (aP p 8)),(76,70,12656,bh rfl (yO (wO w 12577)))]} 2000 2000 _ 1000000 (BV S hi▸aA h h2 rfl) (fun _=>by kernel_rfl)
set_option maxRecDepth 100000 in
theorem Q8(h1:CKok S.at1)(q r:Int)(w:i8 S.at1 (.mk k1 o1 nm1 n1 p1 xs1) [2] q r):HX 76 [aI,eQ 5 (S.c.pts.length:Int) nm ty n p (.mk k1 o1 nm1 n1 p1 xs1::zs) bd el] (ck S) (aH q r) (iu S):=
 ae aD named {hintB:=bn Pg [(76,15,3332,iQ Pg S.c.pts.length),(76,24,4664, .apps (S.c.pts.map ct) S.c.pts.length 1 ⟨by simp,by have:=h.pts;omega⟩),(76,15,6588,iR Pg S.c.pts.length),(76,37,7920,eC Pg S.c.pts.length),(76,103010,8068,eD Pg (S.c.pts.map ct) (ct dx) S.c.pts.length (by simp))],calls:=tC [(76,36,7920,bh rfl (bE hm))],pans:=au Pg [(76,19,9992,⟨6,some (bi (oL (wP w 10843))),[]⟩)]} 2000 2000 _ 1000000 (cX S▸aA h h1 rfl) (by kernel_rfl) (fun _=>by kernel_rfl)
set_option maxRecDepth 100000 in
theorem Q9(t:Int)(w:mq S.at1 (.mk k1 o1 nm1 n1 p1 xs1) [2] t)(g:Gv)(q r:Int)(c:HX 110 [aI, .d (.ro (ep bd))] (ck S.at1) (aH q r) (cv g)):HX 76 [aI,eQ 5 (S.c.pts.length:Int) nm ty n p (.mk k1 o1 nm1 n1 p1 xs1::zs) bd el] (ck S) (aH q r) (cv g):=
 ae aD named {hintB:=bn Pg [(76,15,3332,iQ Pg S.c.pts.length),(76,24,4664, .apps (S.c.pts.map ct) S.c.pts.length 1 ⟨by simp,by have:=h.pts;omega⟩),(76,15,6588,iR Pg S.c.pts.length),(76,37,7920,eC Pg S.c.pts.length),(76,103010,8068,eD Pg (S.c.pts.map ct) (ct dx) S.c.pts.length (by simp))],calls:=tC [(76,36,7920,bh rfl (bE hm)),(76,112,10880,bh rfl (yO (wO w 10843))),(76,117,11472,af (ng S.vq (bc S.c.sure.l) S.c.sure.c))],pans:=au Pg [(76,21,11620,⟨3,some (bi (L4 c)),[]⟩)]} 2000 2000 _ 1000000 (kn h rfl) (by kernel_rfl) (fun _=>by kernel_rfl)
set_option maxRecDepth 100000 in
theorem OH(t:Int)(w:mq S.at1 (.mk k1 o1 nm1 n1 p1 xs1) [2] t){S':CK}(h2:CKok (S'.sureAs S.c.sure (S'.vq+1)))(c:HC 110 [aI, .d (.ro (ep bd))] (ck S.at1) [] (ck S')):HC 76 [aI,eQ 5 (S.c.pts.length:Int) nm ty n p (.mk k1 o1 nm1 n1 p1 xs1::zs) bd el] (ck S) [] (ck (S'.sureAs S.c.sure (S'.vq+1))):=
 cp aD named {hintB:=bn Pg [(76,15,3332,iQ Pg S.c.pts.length),(76,24,4664, .apps (S.c.pts.map ct) S.c.pts.length 1 ⟨by simp,by have:=h.pts;omega⟩),(76,15,6588,iR Pg S.c.pts.length),(76,37,7920,eC Pg S.c.pts.length),(76,103010,8068,eD Pg (S.c.pts.map ct) (ct dx) S.c.pts.length (by simp))],calls:=tC [(76,36,7920,bh rfl (bE hm)),(76,112,10880,bh rfl (yO (wO w 10843))),(76,117,11472,af (ng S.vq (bc S.c.sure.l) S.c.sure.c)),(76,121,12064,af (QZ c))]} 2000 2000 _ 1000000 ([(500000,524292195335)]) (aA h h2 rfl) (fun _=>by kernel_rfl)
end
end Go.Avm
