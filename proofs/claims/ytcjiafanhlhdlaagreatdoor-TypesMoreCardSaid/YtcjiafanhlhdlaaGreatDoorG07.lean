/-
  The abstract machine, part T: runs on open data are right.
-/
import Derived.Test.YtcjiafanhlhdlaaGreatDoorG06
import Derived.Test.YtcjiafanhlhdlaaGreatDoorG05
import Derived.Sort.Grow
set_option linter.unusedVariables false
set_option linter.unusedSimpArgs false
set_option linter.unusedSectionVars false
namespace Go.Avm
open Go.RowKit
variable[aJ]
def gD(P:Program)(ex:cJ):Prop:=∀fno base N c S e S' b' tk ps,ex fno base N c S=some (e,S',b',tk,ps)→Alike ps→
 (∀X:ce,X.P=P→X.N=N→AW X c S fun e' S''=>e'=e∧S''=S')∧∀k,k∉tk→S'.heap k=S.heap k
section
variable{P:Program}{pr:Par P}
theorem oe(hm:g0 P)(hn:co P){ex:cJ}(hex:gD P ex){g:Nat}{ds rs:List D}{ps:az}(h:wq P ex g ds=some (rs,ps))(hs:Alike ps):aK P g ds rs:=by
 unfold wq at h;split at h
 ·cases h
 ·rename_i fn hf
  split at h
  ·cases h
  ·rename_i b hb
   split at h
   ·rename_i hl
    refine sr hm hf hb (hn.1 g fn hf) hl (fun X hP hN=> ?_);split at h
    ·rename_i S' b' tk ps' he
     simp only[Option.map_eq_some_iff,Prod.mk.injEq]at h;obtain⟨rs',hr,rfl,rfl⟩:=h;refine((hex _ _ _ _ _ _ _ _ _ _ he hs).1 X hP hN).mono ?_;rintro e S'' ⟨rfl,rfl⟩;exact⟨.inl rfl,hr⟩
    ·rename_i S' b' tk ps' he
     simp only[Option.map_eq_some_iff,Prod.mk.injEq]at h;obtain⟨rs',hr,rfl,rfl⟩:=h;refine((hex _ _ _ _ _ _ _ _ _ _ he hs).1 X hP hN).mono ?_;rintro e S'' ⟨rfl,rfl⟩;exact⟨.inr rfl,hr⟩
    ·cases h
   ·cases h
theorem eM(hm:g0 P)(hn:co P){ex:cJ}(hex:gD P ex){base g:Nat}{args rs:List AV}{h h':ab}{b2:Nat}{tk:List Nat}{ps:az}(hc:gC P ex base g args h=some (rs,h',b2,tk,ps))(hs:Alike ps):
    ay P g args h rs h'∧∀k,k∉tk→h' k=h k:=by
 unfold gC at hc;split at hc
 ·cases hc
 ·rename_i fn hf
  split at hc
  ·cases hc
  ·rename_i b hb
   split at hc
   ·rename_i hl
    split at hc
    ·rename_i S' b' tk' ps' he
     simp only[Option.map_eq_some_iff,Prod.mk.injEq]at hc;obtain⟨rs',h1,rfl,rfl,rfl,rfl,rfl⟩:=hc;have hr:=hex _ _ _ _ _ _ _ _ _ _ he hs;refine⟨lj hm hf hb (hn.1 g fn hf) hl (fun X hP hN=> ?_),hr.2⟩;refine(hr.1 X hP hN).mono ?_;rintro e S'' ⟨rfl,rfl⟩;exact⟨.inl rfl,h1,rfl⟩
    ·rename_i S' b' tk' ps' he
     simp only[Option.map_eq_some_iff,Prod.mk.injEq]at hc;obtain⟨rs',h1,rfl,rfl,rfl,rfl,rfl⟩:=hc;have hr:=hex _ _ _ _ _ _ _ _ _ _ he hs;refine⟨lj hm hf hb (hn.1 g fn hf) hl (fun X hP hN=> ?_),hr.2⟩;refine(hr.1 X hP hN).mono ?_;rintro e S'' ⟨rfl,rfl⟩;exact⟨.inr rfl,h1,rfl⟩
    ·cases hc
   ·cases hc
theorem wt(hm:g0 P)(hn:co P){ex:cJ}(hex:gD P ex){fno key base g:Nat}{args rs:List AV}{h h':ab}{b2:Nat}{tk:List Nat}{ps:az}(hc:Ao P pr ex fno key base g args h=some (rs,h',b2,tk,ps))(hs:Alike ps):
    ay P g args h rs h'∧∀k,k∉tk→h' k=h k:=by
 unfold Ao at hc;split at hc
 ·rename_i H _
  split at hc;case isFalse=>cases hc
  rename_i hg;split at hc;case h_2=>cases hc
  rename_i q hq;simp only[Option.some.injEq,Prod.mk.injEq]at hc;obtain⟨rfl,rfl,_,rfl,rfl⟩:=hc;have h1:=hs.head;simp only[aU.av.injEq,AV.tup.injEq]at h1;subst h1;subst hg;refine⟨H.proof h (aV hq hs.tail),fun k hk=> ?_⟩;simp only[List.mem_append,not_or]at hk;rw[b6 _ _ hk.1,H.hrst h k hk.2]
 ·exact eM hm hn hex hc hs
theorem qJ(hm:g0 P)(hn:co P){ex:cJ}(hex:gD P ex){base g:Nat}{args:List AV}{h h':ab}{b2:Nat}{tk:List Nat}{ps:az}(hg:pa g=true)(hc:pb P ex base args h=some (h',b2,tk,ps))(hs:Alike ps):
    ay P g args h [] h'∧∀k,k∉tk→h' k=h k:=by
 have hok:=hn.2 g (qa hg);unfold pb at hc;split at hc;case h_2=>cases hc
 rename_i a f caps;split at hc;case h_2=>cases hc
 rename_i k v i es n m ha;obtain⟨o1,o2⟩:=hok h a f caps k v i es n m ha;split at hc
 ·rename_i hn0
  split at hc
  ·rename_i hm0
   split at hc
   ·rename_i r hr
    split at hc
    ·rename_i k2 v2 i2 es2 n2 m2 ha2
     split at hc
     ·rename_i hcc
      obtain⟨rfl,rfl,rfl,rfl,rfl⟩:=hcc;simp only[Option.some.injEq,Prod.mk.injEq]at hc;obtain⟨rfl,rfl,rfl,rfl⟩:=hc;obtain⟨r1,r2,r3,r4,r5⟩:=r;obtain⟨g1,g2⟩:=eM hm hn hex hr hs;refine⟨o2 hn0 hm0 r1 r2 es2 g1 ha2,fun k' hk'=> ?_⟩;simp only[List.mem_cons,not_or]at hk';exact(am _ _ hk'.1).trans ((g2 k' hk'.2).trans (am _ _ hk'.1))
     ·cases hc
    ·cases hc
   ·cases hc
  ·cases hc
 ·rename_i hn0
  simp only[Option.some.injEq,Prod.mk.injEq]at hc;obtain⟨rfl,rfl,rfl,rfl⟩:=hc;exact⟨o1 hn0,fun _ _=>rfl⟩
theorem wu(hm:g0 P){ex:cJ}(hex:gD P ex){base k v:Nat}{args:List AV}{h:ab}{r:Bool×ab×Nat×List Nat×az}(hy:An ex base k v args h=some r)(hs:Alike r.2.2.2.2):
    xK P k v args h [.d (.bool r.1)] r.2.1∧∀k',k'∉r.2.2.2.1→r.2.1 k'=h k':=by
 unfold An at hy;split at hy;case h_2=>cases hy
 rename_i fno N env ps Ua bd hob;split at hy;case h_2=>cases hy
 rename_i env1 henv;split at hy;case h_2=>cases hy
 rename_i S1 b1 tk1 ps1 h1;split at hy;case h_2=>cases hy
 rename_i f1 N1 e1 q1 as1 bd1 hob1;split at hy;case h_2=>cases hy
 rename_i q hq;obtain⟨e,S2,b2,tk2,ps2⟩:=q;split at hy;case h_2=>cases hy
 rename_i f2 N2 e2 q2 as2 bd2 st2 z hob2 hz;simp only[Option.some.injEq]at hy;subst hy;have g1:=hs.head;have g2:=hs.tail.head;have g3:=hs.tail.tail.head;simp only[aU.nat.injEq]at g1 g2 g3;have a1:=hex _ _ _ _ _ _ _ _ _ _ h1 hs.tail.tail.tail.left;have a2:=hex _ _ _ _ _ _ _ _ _ _ hq hs.tail.tail.tail.right;refine⟨p7 hm g1 hob henv (fun X hP hN=>a1.1 X hP hN) g2 hob1 (fun X hP hN=>a2.1 X hP hN) g3 hob2 hz,fun k' hk'=> ?_⟩;simp only[List.mem_cons,List.mem_append,not_or]at hk';exact(am _ _ hk'.1).trans ((a2.2 k' hk'.2.2).trans ((am _ _ hk'.1).trans (a1.2 k' hk'.2.1)))
theorem na{cfg:iA}{N i:Nat}{ops:Array Oper}{o:Oper}{S:St}{env:Nat→AV}{g:Nat}{args:List AV}{out:Out}(hw:db ops o S.env=some true)(hco:dr o S.env=some (g,args))(hext:aJ.ext g=none)(hhc:cfg.hc i=none)
    (ho:gu cfg i g args S.heap=some out) (hwr:out.wr=[]) (hpt:dS N S.env o.dst out.val=some env):bF P cfg N ops i o S=some (⟨env,S.heap⟩,out.ob.map .data,⟨i,out.rd,[],false⟩):=by
 unfold bF;rw[hw];simp only[hhc]
 have hcore:bN P cfg i o (opd S.env) S.heap=some out:=by
  unfold dr at hco;split at hco
  ·rename_i c hop
   split at hco
   ·rename_i f hcal
    split at hco
    ·rename_i g' caps hf
     simp only[Option.some.injEq,Prod.mk.injEq]at hco;obtain⟨rfl,rfl⟩:=hco;simp only[bN,hop,bP,hcal,hf,hext,ho]
    ·cases hco
   ·cases hco
  ·cases hco
 simp only[hcore,hpt,Option.map_some,hwr,aq,List.map_nil]
theorem sO(hm:g0 P)(hn:co P){ex:cJ}(hex:gD P ex){fno rid base N i:Nat}{ops:Array Oper}{o:Oper}{S S':St}{ft:Foot}{b2:Nat}{tk:List Nat}{ps:az}
    (h:Bq P pr ex fno rid base N ops i o S=some (S',ft,b2,tk,ps)) (hs:Alike ps):
    (∃r:lY,∀cfg:iA,cfg.ret i=r.ret→cfg.hc i=r.hc→cfg.obm i=pr.obm fno (o.dst.getD 0)→cfg.base i=r.base→∃ob,bF P cfg N ops i o S=some (S',ob,ft)∧fT P ob)∧∀k,k∉tk→S'.heap k=S.heap k:=by
 unfold Bq at h;split at h
 ·rename_i hw
  split at h
  ·rename_i g args hci
   obtain⟨hco,hext⟩:=lh hci;split at h
   ·rename_i H hH
    split at h;case isFalse=>cases h
    rename_i hg;split at h;case h_2=>cases h
    rename_i q hq;simp only[Option.map_eq_some_iff,Prod.mk.injEq]at h;obtain⟨env,hpt,rfl,rfl,rfl,rfl,rfl⟩:=h;have h1:=hs.head;simp only[aU.av.injEq,AV.tup.injEq]at h1;subst h1;have hfits:mn S.heap H.pre:=aV hq hs.tail;refine⟨⟨⟨[],some (.frame H.pre H.rs H.post),base⟩,fun cfg h1 h2 h3 h4=>⟨[.frame g H.args H.pre H.rs H.post], ?_, ?_⟩⟩,fun k hk=>bV _ _ hk⟩
    ·unfold bF
     rw[hw];simp only[h2,hco,hpt,Option.map_some];rw[if_pos hfits]
    ·intro c hc
     simp only[List.mem_singleton]at hc;subst hc;show ∀h,mn h H.pre→ay P g H.args h H.rs (al H.post h);rw[hg];exact H.proof
   split at h
   ·rename_i g' ds rs hp hhint
    split at h
    ·rename_i hg
     subst hg;split at h
     ·rename_i ds' hds
      simp only[Option.map_eq_some_iff,Prod.mk.injEq]at h;obtain⟨env,hpt,rfl,rfl,rfl,rfl,rfl⟩:=h;have h1:=hs.head;simp only[aU.ds.injEq]at h1;subst h1;refine⟨⟨⟨rs,none,base⟩,fun cfg h1 h2 h3 h4=>⟨[.data (g',ds',rs)], ?_, ?_⟩⟩,fun _ _=>rfl⟩
      ·have ho:gu cfg i g' args S.heap=some {val:=jA rs,ob:=[(g',ds',rs)]}:=by simp only[gu,hds,h1]
       exact na hw hco hext h2 ho rfl hpt
      ·intro c hc
       simp only[List.mem_singleton]at hc;subst hc;exact hp
     ·rename_i hds
      split at h
      ·rename_i r hv
       split at h
       ·rename_i hsc
        simp only[Option.map_eq_some_iff,Prod.mk.injEq]at h;obtain⟨env,hpt,rfl,rfl,rfl,rfl,rfl⟩:=h;have h1:=hs.head;simp only[aU.ds.injEq]at h1;subst h1;refine⟨⟨⟨rs,none,base⟩,fun cfg h1 h2 h3 h4=>⟨[.data (g',r.1,rs)], ?_, ?_⟩⟩,fun _ _=>rfl⟩
        ·have ho:gu cfg i g' args S.heap=some {val:=jA rs,rd:=r.2,ob:=[(g',r.1,rs)]}:=by
           simp only[gu,hds,hv,h1];rw[if_pos hsc]
         exact na hw hco hext h2 ho rfl hpt
        ·intro c hc
         simp only[List.mem_singleton]at hc;subst hc;exact hp
       ·cases h
      ·cases h
    ·cases h
   ·split at h
    ·rename_i hone
     split at h
     ·rename_i r hr
      simp only[Option.map_eq_some_iff,Prod.mk.injEq]at h;obtain⟨env,hpt,rfl,rfl,rfl,rfl,rfl⟩:=h;obtain⟨r1,r2,r3,r4⟩:=r;have hcs:=qJ hm hn hex hone hr hs;refine⟨⟨⟨[],some (.heap [] r1 r3),base⟩,fun cfg h1 h2 h3 h4=>⟨[.heap g args S.heap [] r1], ?_, ?_⟩⟩,hcs.2⟩
      ·unfold bF
       rw[hw];simp only[h2,hco,gY,hpt,Option.map_some];rw[if_pos hcs.2]
      ·intro c hc
       simp only[List.mem_singleton]at hc;subst hc;exact hcs.1
     ·cases h
    split at h
    ·rename_i ds hds
     split at h
     ·rename_i r hr
      simp only[Option.map_eq_some_iff,Prod.mk.injEq]at h;obtain⟨env,hpt,rfl,rfl,rfl,rfl,rfl⟩:=h
      have htd:qu args=some ds:=by
       split at hds
       ·cases hds
       ·exact hds
      refine⟨⟨⟨r.1,none,base⟩,fun cfg h1 h2 h3 h4=>⟨[.data (g,ds,r.1)], ?_, ?_⟩⟩,fun _ _=>rfl⟩
      ·have ho:gu cfg i g args S.heap=some {val:=jA r.1,ob:=[(g,ds,r.1)]}:=by simp only[gu,htd,h1]
       exact na hw hco hext h2 ho rfl hpt
      ·intro c hc
       simp only[List.mem_singleton]at hc;subst hc;exact oe hm hn hex hr hs
     ·cases h
    ·split at h
     ·rename_i r hr
      simp only[Option.map_eq_some_iff,Prod.mk.injEq]at h;obtain⟨env,hpt,rfl,rfl,rfl,rfl,rfl⟩:=h;obtain⟨r1,r2,r3,r4,r5⟩:=r;have hcs:=wt hm hn hex hr hs;refine⟨⟨⟨[],some (.heap r1 r2 r4),base⟩,fun cfg h1 h2 h3 h4=>⟨[.heap g args S.heap r1 r2], ?_, ?_⟩⟩,hcs.2⟩
      ·unfold bF
       rw[hw];simp only[h2,hco,hpt,Option.map_some];rw[if_pos hcs.2]
      ·intro c hc
       simp only[List.mem_singleton]at hc;subst hc;exact hcs.1
     ·cases h
  ·split at h
   ·rename_i y hyl
    split at h
    ·rename_i r hr
     simp only[Option.map_eq_some_iff,Prod.mk.injEq]at h;obtain⟨env,hpt,rfl,rfl,rfl,rfl,rfl⟩:=h;obtain⟨k,v,args⟩:=y;have hcs:=wu hm hex hr hs;refine⟨⟨⟨[],some (.heap [.d (.bool r.1)] r.2.1 r.2.2.2.1),base⟩,fun cfg h1 h2 h3 h4=>⟨[.yield k v args S.heap [.d (.bool r.1)] r.2.1], ?_, ?_⟩⟩,hcs.2⟩
     ·unfold bF
      rw[hw];simp only[h2,nW hyl,hyl,gY,hpt,Option.map_some];rw[if_pos hcs.2]
     ·intro c hc
      simp only[List.mem_singleton]at hc;subst hc;exact hcs.1
    ·cases h
   split at h
   ·rename_i q hq
    split at h;case h_2=>cases h
    rename_i hnob;simp only[Option.map_eq_some_iff,Prod.mk.injEq]at h;obtain⟨env,hpt,rfl,rfl,rfl,rfl,rfl⟩:=h;have hcore:=Ah hq hs;refine⟨⟨⟨[],none,base⟩,fun cfg h1 h2 h3 h4=>⟨q.1.ob.map .data, ?_, ?_⟩⟩,fun k hk=>bV _ _ hk⟩
    ·unfold bF
     rw[hw];simp only[h2];rw[xY (cfg':=cfg) (cfg:={obm:=fun _=>pr.obm fno (o.dst.getD 0),base:=fun _=>base}) h1 h3 h4,hcore];simp only[hpt,Option.map_some]
    ·rw[hnob]
     intro c hc;cases hc
   ·cases h
 ·rename_i hw
  simp only[Option.map_eq_some_iff,Prod.mk.injEq]at h;obtain⟨env,hpt,rfl,rfl,rfl,rfl,rfl⟩:=h;refine⟨⟨⟨[],none,base⟩,fun cfg h1 h2 h3 h4=>⟨[], ?_,fun c hc=>by cases hc⟩⟩,fun _ _=>rfl⟩;unfold bF;rw[hw];simp only[hpt,Option.map_some]
 ·cases h
theorem og(hm:g0 P)(hn:co P){ex:cJ}(hex:gD P ex){fno rid N:Nat}{ops:Array Oper}:∀(l:List Oper)(k base:Nat)(S S':St)(fts:List Foot)(b2:Nat)(tk:List Nat)(ps:az),(∀j,j<l.length→l[j]? =ops[k+j]?)→
    yj P pr ex fno rid N ops l k base S=some (S',fts,b2,tk,ps)→Alike ps→
    (∃T:Nat→lY,∀cfg:iA,(∀j,k≤j→cfg.ret j=(T j).ret∧cfg.hc j=(T j).hc∧cfg.base j=(T j).base)→(∀j,cfg.obm j=pr.obm fno (((ops[j]?).bind (·.dst)).getD 0))→
     ∃ob,dm P cfg N ops (List.range' k l.length) S=some (S',ob,fts)∧fT P ob)∧∀k,k∉tk→S'.heap k=S.heap k
 |[],k,base,S,S',fts,b2,tk,ps,_,h,_=>by
  simp only[yj,Option.some.injEq,Prod.mk.injEq]at h;obtain⟨rfl,rfl,_⟩:=h;exact⟨⟨fun _=>⟨[],none,0⟩,fun cfg _ _=>⟨[],rfl,fun c hc=>by cases hc⟩⟩,fun _ _=>rfl⟩
 |o::r,k,base,S,S',fts,b2,tk,ps,hl,h,hs=>by
  have ho:ops[k]? =some o:=by simpa using (hl 0 (by simp)).symm
  simp only[yj]at h;split at h
  ·cases h
  ·rename_i a ha
   split at h
   ·cases h
   ·rename_i b hb
    simp only[Option.some.injEq,Prod.mk.injEq]at h;obtain⟨rfl,rfl,rfl,rfl,rfl⟩:=h;obtain⟨a1,a2,a3,a4,a5⟩:=a;obtain⟨b1,bf,b3,b4,b5⟩:=b;obtain⟨⟨rk,hk⟩,hk2⟩:=sO hm hn hex ha hs.left;obtain⟨⟨T,hT⟩,hT2⟩:=og hm hn hex r (k+1) a3 a1 b1 bf b3 b4 b5 (fun j hj=>by have:=hl (j+1) (by simpa using hj);simpa [Nat.add_assoc,Nat.add_comm 1 j]using this) hb hs.right;refine⟨⟨fun j=>if j=k then rk else T j,fun cfg h1 h2=> ?_⟩,fun s hk'=> ?_⟩
    ·have hkk:=h1 k (Nat.le_refl k)
     simp only[if_true]at hkk;obtain⟨ob1,e1,o1⟩:=hk cfg hkk.1 hkk.2.1 (by rw[h2 k,ho];rfl) hkk.2.2;obtain⟨ob2,e2,o2⟩:=hT cfg (fun j hj=>by have:=h1 j (by omega);simp only[if_neg (show ¬j=k by omega)]at this;exact this) h2;refine⟨ob1 ++ob2, ?_,fun c hc=>(List.mem_append.1 hc).elim (o1 c) (o2 c)⟩;simp only[List.length_cons,List.range'_succ,dm,ho,e1,e2]
    ·simp only[List.mem_append,not_or]at hk'
     exact(hT2 s hk'.2).trans (hk2 s hk'.1)
theorem yk(W:List Nat)(h:ab):∀k∈W,(HY W h k).ob=none:=fun k hk=>by
 have:W.any (Nat.beq k)=true:=List.any_eq_true.2 ⟨k,hk,Nat.beq_refl k⟩;simp[HY,this]
theorem Br{W:List Nat}{h:ab}{k:Nat}(hk:k∉W):HY W h k=h k:=by
 have:W.any (Nat.beq k)=false:=by
  cases hb:W.any (Nat.beq k)with
  |false=>rfl
  |true=>
   obtain⟨b,h1,h2⟩:=List.any_eq_true.1 hb;rw[Nat.eq_of_beq_eq_true h2]at hk;exact absurd h1 hk
 simp[HY,this]
theorem Et(W:List Nat)(h:ab):KQ h (HY W h):=fun k=>by
 by_cases hk:k∈W
 ·refine .inr ⟨yk W h k hk, ?_⟩
  have:W.any (Nat.beq k)=true:=List.any_eq_true.2 ⟨k,hk,Nat.beq_refl k⟩;simp[HY,this]
 ·exact .inl (Br hk)
theorem sP:∀{l:List (Nat×Foot)},(l.map (·.1)).Nodup→∀e∈l,uK l e.1=e.2
 |[],_,e,he=>by cases he
 |(j,f)::r,hn,e,he=>by
  simp only[List.map_cons,List.nodup_cons]at hn;rcases List.mem_cons.1 he with rfl|he
  ·simp[uK]
  ·have hne:Nat.beq e.1 j=false:=by
     cases hb:Nat.beq e.1 j with
     |false=>rfl
     |true=>
      have:=Nat.eq_of_beq_eq_true hb;exact absurd (by rw[←this];exact List.mem_map_of_mem he) hn.1
   simp only[uK,hne,cond_false];exact sP hn.2 e he
theorem uL{cfg:iA}{N:Nat}{ops:Array Oper}{F:Nat→Foot}{op:Oper}:∀(l:List Nat)(S S':St),kc P cfg N ops F op l S S'→∀t,(m5 ops).contains t=false→S'.env t=S.env t
 |[],S,S',h,t,_=>by
  simp only[kc]at h;rw[h]
 |k::r,S,S',h,t,ht=>by
  obtain⟨o,S1,ob,ho,hst,_,_,hs⟩:=h;obtain⟨v,act,hpt,_⟩:=ez hst;rw[uL r S1 S' hs t ht,jh hpt (nS ho ht)]
theorem yl(hm:g0 P)(hn:co P){ex:cJ}(hex:gD P ex){fno rid N:Nat}{ops:Array Oper}{op:Oper}:∀(l:List Nat)(base:Nat)(S S':St)(fts:List (Nat×Foot))(b2:Nat)(tk:List Nat)(ps:az),
    Es P pr ex fno rid N ops op l base S=some (S',fts,b2,tk,ps)→Alike ps→
    (∃T:Nat→lY,∀(cfg:iA)(F:Nat→Foot),(∀j∈l,cfg.ret j=(T j).ret∧cfg.hc j=(T j).hc∧cfg.base j=(T j).base)→(∀j,cfg.obm j=pr.obm fno (((ops[j]?).bind (·.dst)).getD 0))→(∀e∈fts,F e.1=e.2)→kc P cfg N ops F op l S S')∧
     (∀k,k∉tk→S'.heap k=S.heap k)∧fts.map (·.1)=l∧l.Nodup
 |[],base,S,S',fts,b2,tk,ps,h,_=>by
  simp only[Es,Option.some.injEq,Prod.mk.injEq]at h;obtain⟨rfl,rfl,_⟩:=h;exact⟨⟨fun _=>⟨[],none,0⟩,fun cfg F _ _ _=>rfl⟩,fun _ _=>rfl,rfl,List.nodup_nil⟩
 |i::r,base,S,S',fts,b2,tk,ps,h,hs=>by
  simp only[Es]at h;split at h
  ·cases h
  rename_i o ho;split at h
  ·cases h
  rename_i a ha;split at h
  ·cases h
  rename_i hc;split at h
  ·cases h
  rename_i b hb;simp only[Option.some.injEq,Prod.mk.injEq]at h;obtain⟨rfl,rfl,rfl,rfl,rfl⟩:=h;obtain⟨a1,a2,a3,a4,a5⟩:=a;obtain⟨b1,bf,b3,b4,b5⟩:=b;obtain⟨⟨rk,hk⟩,hk2⟩:=sO hm hn hex ha hs.left;obtain⟨⟨T,hT⟩,hT2,hT3,hT4⟩:=yl hm hn hex r a3 a1 b1 bf b3 b4 b5 hb hs.right;simp only[Bool.and_eq_true,Bool.or_eq_true,Bool.not_eq_true']at hc
  have hir:i∉r:=fun hx=>by
   have:r.any (Nat.beq i)=true:=List.any_eq_true.2 ⟨i,hx,Nat.beq_refl i⟩;rw[this]at hc;cases hc.2
  refine⟨⟨fun j=>if j=i then rk else T j,fun cfg F h1 h2 h3=> ?_⟩,fun s hk'=> ?_,by simp[hT3],List.nodup_cons.2 ⟨hir,hT4⟩⟩
  ·have hkk:=h1 i (by simp)
   simp only[if_true]at hkk;obtain⟨ob1,e1,o1⟩:=hk cfg hkk.1 hkk.2.1 (by rw[h2 i,ho];rfl) hkk.2.2;have hF:F i=a2:=h3 (i,a2) (by simp);refine⟨o,a1,ob1,ho,by rw[hF];exact e1,o1, ?_,hT cfg F (fun j hj=> ?_) h2 (fun e he=>h3 e (by simp[he]))⟩
   ·rcases hc.1 with hc|hc
    ·exact .inl hc
    ·refine .inr fun k hkw=> ?_
     rw[hF]at hkw;have:=List.all_eq_true.1 hc k hkw;simpa using this
   ·have:=h1 j (by simp[hj])
    simp only[if_neg (show ¬j=i from fun e=>hir (e▸hj))]at this;exact this
  ·simp only[List.mem_append,not_or]at hk'
   exact(hT2 s hk'.2).trans (hk2 s hk'.1)
theorem KT{CC:Option (uJ P)}{ops:Array Oper}{o:Oper}{S:St}{x:AV}{h1:ab}{tk:List Nat}{ps:az}{W:List Nat}(hq:Er P CC ops o S=some (x,h1,tk,ps))(hs:Alike ps)
    (hd:NA CC W=true):db ops o S.env=some true∧KR P o S x (HY W h1) W∧∀k,k∉tk→h1 k=S.heap k:=by
 unfold Er at hq;split at hq;case h_2=>cases hq
 rename_i hw;refine⟨hw, ?_⟩;split at hq
 ·rename_i C
  split at hq;case h_2=>cases hq
  rename_i g args hco;split at hq;case isFalse=>cases hq
  rename_i hg;simp only[Option.map_eq_some_iff,Prod.mk.injEq]at hq;obtain⟨q,hq,rfl,rfl,rfl,rfl⟩:=hq;have h2:=hs.head;simp only[aU.av.injEq,AV.tup.injEq]at h2;subst h2
  have no:∀{l:List Nat}{k:Nat},l.any (Nat.beq k)=false→k∉l:=fun {l k} hf hx=>by
   have:l.any (Nat.beq k)=true:=List.any_eq_true.2 ⟨k,hx,Nat.beq_refl k⟩;rw[this]at hf;cases hf
  refine⟨.inr ⟨g,C.args,C.pre,C.post,hco,fun h hf=>by rw[hg];exact C.proof h hf,aV hq hs.tail,fun k hk=> ?_,Et W _⟩,fun k hk=>b6 _ _ hk⟩;have:=List.all_eq_true.1 hd k hk;simp only[Bool.and_eq_true,Bool.not_eq_true']at this;exact⟨no this.1,no this.2⟩
 ·split at hq
  case h_2=>cases hq
  rename_i u hop;split at hq;case h_2=>cases hq
  rename_i t y hu;simp only[Option.some.injEq,Prod.mk.injEq]at hq;obtain⟨rfl,rfl,rfl,rfl⟩:=hq;exact⟨.inl ⟨u,t,y,hop,hu,rfl,Et W _⟩,fun _ _=>rfl⟩
def wv(P:Program)(pr:Par P)(ex:cJ):Prop:=∀fno base N c S e S' b' tk ps,pr.loops fno (gd c)=none→ex fno base N (.loop c) S=some (e,S',b',tk,ps)→Alike ps→
 (∀X:ce,X.P=P→X.N=N→LW X c S fun e' S''=>e'=e∧S''=S')∧∀k,k∉tk→S'.heap k=S.heap k
theorem ym{n:Nat}(ih:gD P (bj P pr n))(ihl:wv P pr (bj P pr n)):wv P pr (bj P pr (n+1)):=fun fno base N x S e S' b' tk ps hno h hs=>by
 simp only[bj]at h;split at h
 ·rename_i H hH;rw[hno]at hH;cases hH
 ·split at h
  ·rename_i S1 b1 tk1 ps1 h1
   split at h
   ·rename_i e2 S2 b2 tk2 ps2 h2
    simp only[Option.some.injEq,Prod.mk.injEq]at h;obtain⟨rfl,rfl,rfl,rfl,rfl⟩:=h;have a1:=ih _ _ _ _ _ _ _ _ _ _ h1 hs.left;have a2:=ihl _ _ _ _ _ _ _ _ _ _ hno h2 hs.right;refine⟨fun X hP hN=>iL ((a1.1 X hP hN).mono ?_),fun k hk=> ?_⟩
    ·rintro e1 S3 ⟨rfl,rfl⟩
     exact a2.1 X hP hN
    ·simp only[List.mem_append,not_or]at hk
     exact(a2.2 k hk.2).trans (a1.2 k hk.1)
   ·cases h
  ·rename_i hnn
   have a1:=ih _ _ _ _ _ _ _ _ _ _ h hs;refine⟨fun X hP hN=>iL ((a1.1 X hP hN).mono ?_),a1.2⟩;rintro e1 S2 ⟨rfl,rfl⟩;cases e1 with
   |normal=>exact absurd h (hnn S2 _ _ _)
   |_=>exact⟨rfl,rfl⟩
theorem oh(hm:g0 P)(hn:co P):∀n,gD P (bj P pr n)∧wv P pr (bj P pr n)
 |0=>⟨fun fno base N c S e S' b' tk ps h _=>by simp[bj]at h,fun fno base N c S e S' b' tk ps _ h _=>by simp[bj]at h⟩
 |n+1=>by
  obtain⟨ih,ihl⟩:=oh hm hn n;have hl:=ym ih ihl;refine⟨fun fno base N c S e S' b' tk ps h hs=> ?_,hl⟩;cases c with
  |region id ops draw=>
   simp only[bj]at h;split at h
   ·rename_i wk hwk
    obtain⟨W1,wtk,wps⟩:=wk;split at h
    ·rename_i H hH
     split at h
     ·rename_i hex0
      split at h;case h_2=>cases h
      rename_i r hr;obtain⟨S1,fts,b1,tk1,ps1⟩:=r;split at h;case h_2=>cases h
      rename_i o ho;split at h;case h_2=>cases h
      rename_i q hq;obtain⟨x,h1,tk2,ps2⟩:=q;split at h;case isFalse=>cases h
      rename_i hd;simp only[Option.some.injEq,Prod.mk.injEq]at h;obtain⟨rfl,rfl,_,rfl,rfl⟩:=h;have hs1:=hs.left;have hs2:=hs.right.left;have hs3:=hs.right.right
      have hpl:H.p<ops.size:=by
       rcases Nat.lt_or_ge H.p ops.size with hh|hh
       ·exact hh
       ·rw[Array.getElem?_eq_none hh]at ho;cases ho
      have hpan:db ops o S1.env=some true∧CN P o S1 x h1∧∀k,k∉tk2→h1 k=S1.heap k:=by
       unfold Er at hq;split at hq;case h_2=>cases hq
       rename_i hw;refine⟨hw, ?_⟩;split at hq
       ·rename_i C _
        split at hq;case h_2=>cases hq
        rename_i g args hco;split at hq;case isFalse=>cases hq
        rename_i hg;simp only[Option.map_eq_some_iff,Prod.mk.injEq]at hq;obtain⟨q,hq,rfl,rfl,rfl,rfl⟩:=hq;have h2:=hs3.head;simp only[aU.av.injEq,AV.tup.injEq]at h2;subst h2;refine⟨.inr ⟨g,C.args,hco,by rw[hg];exact C.proof _ (aV hq hs3.tail)⟩,fun k hk=>b6 _ _ hk⟩
       ·split at hq
        case h_2=>cases hq
        rename_i u hop;split at hq;case h_2=>cases hq
        rename_i t y hu;simp only[Option.some.injEq,Prod.mk.injEq]at hq;obtain⟨rfl,rfl,rfl,rfl⟩:=hq;exact⟨.inl ⟨u,t,y,hop,hu,rfl,rfl⟩,fun _ _=>rfl⟩
      obtain⟨⟨T,hT⟩,hT2⟩:=og hm hn ih (ops.toList.take H.p) 0 base W1 S1 fts b1 tk1 ps1 (fun j hj=>by
       rw[List.length_take]at hj;rw[List.getElem?_take,if_pos (by omega),Nat.zero_add,Array.getElem?_toList]) hr hs2
      refine⟨fun X hP hN=> ?_,fun k hk=> ?_⟩
      ·obtain⟨ob,hrun,hob⟩:=hT {ret:=fun j=>(T j).ret,hc:=fun j=>(T j).hc,obm:=fun j=>pr.obm fno (((ops[j]?).bind (·.dst)).getD 0),base:=fun j=>(T j).base} (fun j _=>⟨rfl,rfl,rfl⟩) (fun j=>rfl)
       rw[List.length_take,Array.length_toList,Nat.min_eq_left (by omega)]at hrun;subst hP;subst hN;refine AW.weak (eL hwk hs1).1 ?_;have hL:nT X.P ops H.p W1.env x h1 S1:=⟨⟨o,ho,hpan.1,hpan.2.1⟩,fun t ht=>sG _ _ _ _ _ hrun t ht⟩
       exact mE ho hrun hob hL hd ⟨rfl,rfl⟩
      ·simp only[List.mem_append,not_or]at hk
       exact(hpan.2.2 k hk.2.2).trans ((hT2 k hk.2.1).trans ((eL (X:=⟨P,0,default,fun _ _=>False,0,hm,none,0,[]⟩) hwk hs1).2 k hk.1))
     ·split at h
      ·cases h
      split at h
      ·cases h
      rename_i o ho;split at h
      ·cases h
      rename_i r hr;obtain⟨S1,fts,b1,tk1,ps1⟩:=r;split at h
      ·cases h
      rename_i q hq;obtain⟨x,h1,tk2,ps2⟩:=q;split at h;case h_2=>cases h
      rename_i hok;simp only[Option.some.injEq,Prod.mk.injEq]at h;obtain⟨rfl,rfl,_,rfl,rfl⟩:=h;have hs1:=hs.left;have hs2:=hs.right.left;have hs3:=hs.right.right;unfold ST at hok;simp only[Bool.and_eq_true]at hok;obtain⟨⟨hlex,hlen⟩,hdis⟩:=hok;have hpan:=KT hq hs3 hdis;obtain⟨⟨T,hT⟩,hT2,hT3,hT4⟩:=yl hm hn ih (List.range' 0 H.p ++H.exs) base W1 S1 fts b1 tk1 ps1 hr hs2;refine⟨fun X hP hN=> ?_,fun k hk=> ?_⟩
      ·have hrun:=hT {ret:=fun j=>(T j).ret,hc:=fun j=>(T j).hc,obm:=fun j=>pr.obm fno (((ops[j]?).bind (·.dst)).getD 0),base:=fun j=>(T j).base} (uK fts) (fun j _=>⟨rfl,rfl,rfl⟩) (fun j=>rfl) (sP (by rw[hT3];exact hT4))
       subst hP;subst hN;refine AW.weak (eL hwk hs1).1 ?_;exact sI ho (yk (wQ o fts) h1) hrun hlex (by simpa using hlen) ⟨⟨o,ho,hpan.1,hpan.2.1⟩,fun t ht=>uL _ _ _ hrun t ht⟩ ⟨rfl,rfl⟩
      ·simp only[List.mem_append,not_or]at hk
       show HY (wQ o fts) h1 k=S.heap k;rw[Br hk.2.2.2];exact(hpan.2.2 k hk.2.2.1).trans ((hT2 k hk.2.1).trans ((eL (X:=⟨P,0,default,fun _ _=>False,0,hm,none,0,[]⟩) hwk hs1).2 k hk.1))
    ·split at h
     ·rename_i r hr
      obtain⟨S1,fts,b1,tk1,ps1⟩:=r
      have hsplit:Alike wps∧Alike ps1∧S'=S1∧e= .normal∧tk=wtk ++tk1∧(draw=false∨so ops fts=true):=by
       split at h
       ·simp only[Option.some.injEq,Prod.mk.injEq]at h
        obtain⟨rfl,rfl,_,rfl,rfl⟩:=h;exact⟨hs.left,hs.right,rfl,rfl,rfl, .inl rfl⟩
       ·split at h
        ·rename_i hlex
         simp only[Option.some.injEq,Prod.mk.injEq]at h;obtain⟨rfl,rfl,_,rfl,rfl⟩:=h;exact⟨hs.left,hs.right,rfl,rfl,rfl, .inr hlex⟩
        ·cases h
      obtain⟨hs1,hs2,rfl,rfl,rfl,hd⟩:=hsplit;obtain⟨⟨T,hT⟩,hT2⟩:=og hm hn ih ops.toList 0 base W1 S' fts b1 tk1 ps1 (fun j _=>by simp) hr hs2;refine⟨fun X hP hN=> ?_,fun k hk=> ?_⟩
      ·obtain⟨ob,hrun,hob⟩:=hT {ret:=fun j=>(T j).ret,hc:=fun j=>(T j).hc,obm:=fun j=>pr.obm fno (((ops[j]?).bind (·.dst)).getD 0),base:=fun j=>(T j).base} (fun j _=>⟨rfl,rfl,rfl⟩) (fun j=>rfl)
       rw[Array.length_toList,←List.range_eq_range']at hrun;subst hP;subst hN;refine AW.weak (eL hwk hs1).1 ?_;cases draw with
       |false=>exact uB hrun hob ⟨rfl,rfl⟩
       |true=>exact mD hrun (hd.resolve_left (by simp)) hob ⟨rfl,rfl⟩
      ·simp only[List.mem_append,not_or]at hk
       exact(hT2 k hk.2).trans ((eL (X:=⟨P,0,default,fun _ _=>False,0,hm,none,0,[]⟩) hwk hs1).2 k hk.1)
     ·cases h
   ·cases h
  |seq x y=>
   simp only[bj]at h;split at h
   ·rename_i H hH
    split at h
    ·rename_i hN0
     split at h
     ·rename_i q hq
      simp only[Option.some.injEq,Prod.mk.injEq]at h;obtain⟨rfl,rfl,_,rfl,rfl⟩:=h;have hc:=hs.head;simp only[aU.code.injEq]at hc;have h1:=hs.tail.left;have h2:=hs.tail.right;refine⟨fun X hP hN=> ?_,fun k hk=>b6 _ _ hk⟩;rw[hc];exact AW.weak (od h1 hq h2) (H.proof S.heap X hP (by rw[hN,hN0]))
     ·cases h
    ·cases h
   split at h
   ·rename_i S1 b1 tk1 ps1 h1
    split at h
    ·rename_i e2 S2 b2 tk2 ps2 h2
     simp only[Option.some.injEq,Prod.mk.injEq]at h;obtain⟨rfl,rfl,rfl,rfl,rfl⟩:=h;have a1:=ih _ _ _ _ _ _ _ _ _ _ h1 hs.left;have a2:=ih _ _ _ _ _ _ _ _ _ _ h2 hs.right;refine⟨fun X hP hN=>dU ((a1.1 X hP hN).mono ?_),fun k hk=> ?_⟩
     ·rintro e1 S3 ⟨rfl,rfl⟩
      exact a2.1 X hP hN
     ·simp only[List.mem_append,not_or]at hk
      exact(a2.2 k hk.2).trans (a1.2 k hk.1)
    ·cases h
   ·rename_i hnn
    have a1:=ih _ _ _ _ _ _ _ _ _ _ h hs;refine⟨fun X hP hN=>dU ((a1.1 X hP hN).mono ?_),a1.2⟩;rintro e1 S2 ⟨rfl,rfl⟩;cases e1 with
    |normal=>exact absurd h (hnn S2 _ _ _)
    |_=>exact⟨rfl,rfl⟩
  |block id x=>
   simp only[bj]at h;split at h
   ·rename_i i S1 b1 tk1 ps1 h1
    have hh:S'=S1∧tk=tk1∧ps=ps1∧e=(if i=id then .normal else .exit i):=by
     split at h
     ·rename_i hi;rw[if_pos hi];simp only[Option.some.injEq,Prod.mk.injEq]at h;obtain⟨rfl,rfl,_,rfl,rfl⟩:=h;exact⟨rfl,rfl,rfl,rfl⟩
     ·rename_i hi;rw[if_neg hi];simp only[Option.some.injEq,Prod.mk.injEq]at h;obtain⟨rfl,rfl,_,rfl,rfl⟩:=h;exact⟨rfl,rfl,rfl,rfl⟩
    obtain⟨rfl,rfl,rfl,rfl⟩:=hh;have a1:=ih _ _ _ _ _ _ _ _ _ _ h1 hs;refine⟨fun X hP hN=>iJ ((a1.1 X hP hN).mono ?_),a1.2⟩;rintro e1 S2 ⟨rfl,rfl⟩;simp only[sq];by_cases hi:i=id<;>simp[hi]
   ·rename_i hno
    have a1:=ih _ _ _ _ _ _ _ _ _ _ h hs;refine⟨fun X hP hN=>iJ ((a1.1 X hP hN).mono ?_),a1.2⟩;rintro e1 S2 ⟨rfl,rfl⟩;cases e1 with
    |exit i=>exact absurd h (hno i S2 _ _ _)
    |_=>exact⟨rfl,rfl⟩
  |loop x=>
   by_cases hno:pr.loops fno (gd x)=none
   ·have a1:=hl _ _ _ _ _ _ _ _ _ _ hno h hs
    exact⟨fun X hP hN=>(a1.1 X hP hN).aw,a1.2⟩
   ·simp only[bj]at h
    split at h
    ·rename_i H hH
     split at h
     ·rename_i hN0
      split at h
      ·rename_i q hq
       simp only[Option.some.injEq,Prod.mk.injEq]at h;obtain⟨rfl,rfl,_,rfl,rfl⟩:=h;have hc:=hs.head;simp only[aU.code.injEq]at hc;have h1:=hs.tail.left;have h2:=hs.tail.right;refine⟨fun X hP hN=> ?_,fun k hk=>b6 _ _ hk⟩;rw[hc];exact AW.weak (od h1 hq h2) (H.proof S.heap X hP (by rw[hN,hN0]))
      ·cases h
     ·cases h
    ·rename_i hH;exact absurd hH hno
  |skip=>simp only[bj,Option.some.injEq,Prod.mk.injEq]at h;obtain⟨rfl,rfl,_⟩:=h;exact⟨fun X _ _=>nU ⟨rfl,rfl⟩,fun _ _=>rfl⟩
  |exit i=>simp only[bj,Option.some.injEq,Prod.mk.injEq]at h;obtain⟨rfl,rfl,_⟩:=h;exact⟨fun X _ _=>qU ⟨rfl,rfl⟩,fun _ _=>rfl⟩
  |ret=>simp only[bj,Option.some.injEq,Prod.mk.injEq]at h;obtain⟨rfl,rfl,_⟩:=h;exact⟨fun X _ _=>D8 ⟨rfl,rfl⟩,fun _ _=>rfl⟩
  |cond c x y=>
   simp only[bj]at h;split at h
   ·rename_i b hb
    cases b with
    |true=>
     have a1:=ih _ _ _ _ _ _ _ _ _ _ h hs;exact⟨fun X hP hN=>gJ hb (fun _=>a1.1 X hP hN) (fun hx=>by cases hx),a1.2⟩
    |false=>
     have a1:=ih _ _ _ _ _ _ _ _ _ _ h hs;exact⟨fun X hP hN=>gJ hb (fun hx=>by cases hx) (fun _=>a1.1 X hP hN),a1.2⟩
   ·cases h
  |rangeFunc g qs Ua bd=>
   simp only[bj]at h;split at h;case h_2=>cases h
   rename_i gf caps hg;split at h;case h_2=>cases h
   rename_i r hr;split at h;case h_2=>cases h
   rename_i f2 N2 env2 ps2 as2 bd2 st hlp;split at h;case h_2=>cases h
   rename_i e' he';simp only[Option.some.injEq,Prod.mk.injEq]at h;obtain⟨rfl,rfl,_,rfl,rfl⟩:=h;have hk:=hs.head;simp only[aU.nat.injEq]at hk;have hcs:=eM hm hn ih hr hs.tail;refine⟨fun X hP hN=> ?_,fun k hk=> ?_⟩
   ·subst hP;subst hN
    exact nV hg (uE _ _) hcs.1 hk hlp (uF he')
   ·simp only[List.mem_cons,not_or]at hk
    exact(am _ _ hk.1).trans ((hcs.2 k hk.2).trans (am _ _ hk.1))
  |_=>simp[bj]at h
theorem df(hm:g0 P)(hn:co P)(n:Nat):gD P (bj P pr n):=(oh hm hn n).1
end
def mo(r:Option (aG×az)):aG×List aU:=match r with
 |some r=>(r.1,r.2.map (·.1))
 |none=>(.exit 1000001,[])
def outR(e:aG)(r:Option (aG×az)):aG×List aU:=match r with
 |some r=>(e,r.2.map (·.2))
 |none=>(.exit 1000002,[])
theorem ol:∀{ps:az},ps.map (·.1)=ps.map (·.2)→Alike ps
 |[],_=>fun p hp=>by cases hp
 |p::r,h=>fun q hq=>by
  simp only[List.map_cons,List.cons.injEq]at h;rcases List.mem_cons.1 hq with rfl|hq
  ·exact h.1
  ·exact ol h.2 q hq
theorem gg{e:aG}{r:Option (aG×az)}(h:mo r=outR e r):∃ps,r=some (e,ps)∧Alike ps:=by
 cases r with
 |none=>simp[mo,outR]at h
 |some r=>
  simp only[mo,outR,Prod.mk.injEq]at h;exact⟨r.2,by rw[←h.1],ol h.2⟩
def ww(P:Program)(ex:cJ)(g:Nat)(ds rs:List D):Option (aG×az):=match wq P ex g ds with
 |some r=>some (.ret,(.ds r.1, .ds rs)::r.2)
 |none=>none
theorem bq{P:Program}(hm:g0 P)(hn:co P)(pr:Par P)(n:Nat){g:Nat}{ds rs:List D}(h:mo (ww P (bj P pr n) g ds rs)=outR .ret (ww P (bj P pr n) g ds rs)):aK P g ds rs:=by
 obtain⟨ps,h1,hs⟩:=gg h;unfold ww at h1;split at h1
 ·rename_i r hr
  simp only[Option.some.injEq,Prod.mk.injEq,true_and]at h1;subst h1;have:=hs.head;simp only[aU.ds.injEq]at this;subst this;exact oe hm hn (df hm hn n) hr hs.tail
 ·cases h1
def wx(r:Option (List AV×ab×Nat×List Nat×az))(keys0:List Nat)(rs:List AV)(hp':List (Nat×aN)):Option (aG×az):=
 match r with
 |some (rs',h',_,tk,ps)=>match aZ h' hp' with
  |some q=>match (tk ++keys0).all fun k=>(hp'.map (·.1)).any (Nat.beq k)with
   |true=>some (.ret,(.av (.tup rs'), .av (.tup rs))::(ps ++q))
   |false=>none
  |none=>none
 |none=>none
theorem CW{h' rest:ab}{hp hp':List (Nat×aN)}{tk:List Nat}(hk:((tk ++hp.map (·.1)).all fun k=>(hp'.map (·.1)).any (Nat.beq k))=true)(h2:∀k,k∉tk→h' k=al hp rest k):al hp' h'=al hp' rest:=by
 funext k;by_cases hkk:k∈hp'.map (·.1)
 ·exact gB _ _ _ hkk
 ·rw[b6 _ _ hkk,b6 _ _ hkk]
  have hno:∀k',k'∈tk ++hp.map (·.1)→k'≠k:=by
   rintro k' hk' rfl;have:=List.all_eq_true.1 hk k' hk';obtain⟨a,ha,hb⟩:=List.any_eq_true.1 this;have:=Nat.eq_of_beq_eq_true hb;subst this;exact hkk ha
  rw[h2 k (fun hx=>hno k (by simp[hx]) rfl)];exact b6 _ _ (fun hx=>hno k (by simp only[List.mem_append];exact .inr hx) rfl)
theorem ap{P:Program}(hm:g0 P)(hn:co P)(pr:Par P)(n base g:Nat){args rs:List AV}{hp hp':List (Nat×aN)}{rest:ab}
    (h:mo (wx (gC P (bj P pr n) base g args (al hp rest)) (hp.map (·.1)) rs hp')=outR .ret (wx (gC P (bj P pr n) base g args (al hp rest)) (hp.map (·.1)) rs hp')):ay P g args (al hp rest) rs (al hp' rest):=by
 obtain⟨ps,h1,hs⟩:=gg h;unfold wx at h1;split at h1;case h_2=>cases h1
 rename_i rs' h' b' tk ps' hr;split at h1;case h_2=>cases h1
 rename_i q hq;split at h1;case h_2=>cases h1
 rename_i hk;simp only[Option.some.injEq,Prod.mk.injEq,true_and]at h1;subst h1;have g1:=hs.head;simp only[aU.av.injEq,AV.tup.injEq]at g1;subst g1;obtain⟨c1,c2⟩:=eM hm hn (df hm hn n) hr hs.tail.left;refine⟨c1.1,fun G B w0 I0 w cargs hr hsz hargs=>(c1.2 G B w0 I0 w cargs hr hsz hargs).mono ?_⟩;rintro e w' ⟨v,G',rfl,e1,e2,e3⟩;refine⟨v,G',rfl,e1, ?_,e3⟩;rw[←CW hk c2];exact e2.forget (jg h' hp' (aV hq hs.tail.right))
def pc(P:Program)(ex:cJ)(base:Nat)(g:Nat)(args:List AV)(h:ab):Option (AV×ab×Nat×List Nat×az):=
 match P.funcs[g]? with
 |none=>none
 |some fn=>match fn.body with
  |none=>none
  |some b=>if args.length≤fn.ntmps then match ex g base fn.ntmps b ⟨ga args,h⟩with
      |some (.panic x,S',b',tk,ps)=>some (x,S'.heap,b',tk,ps)
      |_=>none
   else none
theorem wy{P:Program}(hm:g0 P)(hn:co P){ex:cJ}(hex:gD P ex){base g:Nat}{args:List AV}{x:AV}{h h':ab}{b2:Nat}{tk:List Nat}{ps:az}(hc:pc P ex base g args h=some (x,h',b2,tk,ps))(hs:Alike ps):iY P g args h x h'∧∀k,k∉tk→h' k=h k:=by
 unfold pc at hc;split at hc
 ·cases hc
 rename_i fn hf;split at hc
 ·cases hc
 rename_i b hb;split at hc;case isFalse=>cases hc
 rename_i hl;split at hc;case h_2=>cases hc
 rename_i x' S' b' tk' ps' he;simp only[Option.some.injEq,Prod.mk.injEq]at hc;obtain⟨rfl,rfl,rfl,rfl,rfl⟩:=hc;have hr:=hex _ _ _ _ _ _ _ _ _ _ he hs;refine⟨zZ hm hf hb (hn.1 g fn hf) hl (fun X hP hN=>(hr.1 X hP hN).mono ?_),hr.2⟩;rintro e S'' ⟨rfl,rfl⟩;exact⟨rfl,rfl⟩
def CX(r:Option (aG×St×Nat×List Nat×az))(keys0:List Nat)(l':List (Nat×AV))(hp':List (Nat×aN)):Option (aG×az):=
 match r with
 |some (e,S,_,tk,ps)=>match aZ S.heap hp' with
  |some q=>match (tk ++keys0).all fun k=>(hp'.map (·.1)).any (Nat.beq k)with
   |true=>some (e,ps ++(iO S.env l' ++q))
   |false=>none
  |none=>none
 |none=>none
theorem t6{P:Program}(hm:g0 P)(hn:co P)(pr:Par P)(n fno base N:Nat){c:Code}{l l':List (Nat×AV)}{hp hp':List (Nat×aN)}{rest:ab}{e:aG}
    (h:mo (CX (bj P pr n fno base N c ⟨an l,al hp rest⟩) (hp.map (·.1)) l' hp')=outR e (CX (bj P pr n fno base N c ⟨an l,al hp rest⟩) (hp.map (·.1)) l' hp'))
    (X:ce) (hP:X.P=P) (hN:X.N=N):AW X c ⟨an l,al hp rest⟩ fun e' S'=>e'=e∧Weak X S' ⟨an l',al hp' rest⟩:=by
 obtain⟨ps,h1,hs⟩:=gg h;unfold CX at h1;split at h1
 ·rename_i e1 S1 b1 tk ps1 hr
  split at h1
  ·rename_i q hq
   split at h1
   ·rename_i hk
    simp only[Option.some.injEq,Prod.mk.injEq]at h1;obtain⟨rfl,rfl⟩:=h1;have a1:=df hm hn n _ _ _ _ _ _ _ _ _ _ hr hs.left;refine(a1.1 X hP hN).mono ?_;rintro e S' ⟨rfl,rfl⟩;refine⟨rfl, ?_⟩;have hw:=od (X:=X) hs.right.left hq hs.right.right
    have:al hp' S'.heap=al hp' rest:=by
     funext k;by_cases hkk:k∈hp'.map (·.1)
     ·exact gB _ _ _ hkk
     ·rw[b6 _ _ hkk,b6 _ _ hkk]
      have hno:∀k',k'∈tk ++hp.map (·.1)→k'≠k:=by
       rintro k' hk' rfl;have:=List.all_eq_true.1 hk k' hk';obtain⟨a,ha,hb⟩:=List.any_eq_true.1 this;have:=Nat.eq_of_beq_eq_true hb;subst this;exact hkk ha
      rw[a1.2 k (fun hx=>hno k (by simp[hx]) rfl)];exact b6 _ _ (fun hx=>hno k (by simp only[List.mem_append];exact .inr hx) rfl)
    rw[this]at hw;exact hw
   ·cases h1
  ·cases h1
 ·cases h1
theorem il{P:Program}{N:Nat}{c:Code}{ι:Type}(L:ι→List (Nat×AV))(Hp:ι→ab→List (Nat×aN))(J:ι→Prop)(μ:ι→Nat)(e:aG)(l':List (Nat×AV))(hp':ab→List (Nat×aN))(x0:ι)(j0:J x0)(he:e≠ .normal)
    (hI:∀rest x,J x→(∃y,J y∧μ y<μ x∧∀X:ce,X.P=P→X.N=N→AW X c ⟨an (L x),al (Hp x rest) rest⟩ fun e' S'=>e'= .normal∧Weak X S' ⟨an (L y),al (Hp y rest) rest⟩)∨
     (∀X:ce,X.P=P→X.N=N→AW X c ⟨an (L x),al (Hp x rest) rest⟩ fun e' S'=>e'=e∧Weak X S' ⟨an l',al (hp' rest) rest⟩))
    (rest:ab) (X:ce) (hP:X.P=P) (hN:X.N=N):AW X (.loop c) ⟨an (L x0),al (Hp x0 rest) rest⟩ fun e' S'=>e'=e∧S'=⟨an l',al (hp' rest) rest⟩:=by
 refine mb ?_;refine D9 (fun x=>⟨an (L x),al (Hp x rest) rest⟩) J μ x0 (Weak.refl _) j0 (fun x hx=> ?_);rcases hI rest x hx with ⟨y,hy,hlt,haw⟩|haw
 ·refine(haw X hP hN).mono ?_
  rintro e' S' ⟨rfl,hw⟩;exact⟨y,hw,hy,hlt⟩
 ·refine(haw X hP hN).mono ?_
  rintro e' S' ⟨rfl,hw⟩;have:∃S'',Weak X S' S''∧e'=e'∧S''=⟨an l',al (hp' rest) rest⟩:=⟨_,hw,rfl,rfl⟩
  cases e' with
  |normal=>exact absurd rfl he
  |_=>exact this
end Go.Avm
namespace Go.Avm
open Go.RowKit
variable[aJ]
def HG:ab:=fun _=>⟨0,none⟩
def om(h:ab):List AV→Option (List D)
 |[]=>some []
 |x::l=>match view 12 h x,om h l with
  |some r,some rs=>some (r.1::rs)
  |_,_=>none
theorem uM{h:ab}:∀{l:List AV}{ds:List D},om h l=some ds→l.length=ds.length
 |[],ds,e=>by simp[om]at e;subst e;rfl
 |x::l,ds,e=>by
  simp only[om]at e;split at e
  ·rename_i r rs hr hrs
   simp only[Option.some.injEq]at e;subst e;simp[uM hrs]
  ·cases e
theorem pd{h:ab}:∀{l:List AV}{ds:List D},om h l=some ds→∀(i:Nat)(d:D),ds[i]? =some d→∃x ks,l[i]? =some x∧view 12 h x=some (d,ks)
 |[],ds,e,i,d,hd=>by simp[om]at e;subst e;simp at hd
 |x::l,ds,e,i,d,hd=>by
  simp only[om]at e;split at e
  ·rename_i r rs hr hrs
   simp only[Option.some.injEq]at e;subst e;cases i with
   |zero=>simp at hd;subst hd;exact⟨x,r.2,rfl,hr⟩
   |succ i=>exact pd hrs i d (by simpa using hd)
  ·cases e
theorem uo{P:Program}{g:Nat}{ds rs':List D}{rs:List AV}{h':ab}(hc:ay P g (ds.map .d) HG rs h')(hv:om h' rs=some rs'):aK P g ds rs':=by
 refine⟨hc.1,fun w I cargs hI hs hargs hglob=> ?_⟩
 have hr:HR ⟨I,fun _ _=>none,fun _=>0,fun _ _=>none⟩ w.heap.size w I HG w:=
  ⟨Below.refl _ _,Nat.le_refl _,hI,fun _ _ x=>x,fun _ _ x _=>x,fun k v L x=>by simp at x,fun k L x=>by simp at x,fun k k' L L' x=>by simp at x,fun k ob x=>by simp[HG]at x,fun _=>rfl,⟨fun k v b x=>by simp at x,fun k k' b l l' x=>by simp at x,fun k es c x=>by simp[HG]at x,fun k fno N env ps Ua bd st x=>by simp[HG]at x,fun k km vm since seen x=>by simp[HG]at x,hglob⟩⟩
 refine(hc.2 _ w.heap.size w I w cargs hr (by simpa using hs) (fun i x u hx hu=> ?_)).mono ?_
 ·rw[List.getElem?_map]at hx
  cases hd:ds[i]? with
  |none=>rw[hd]at hx;simp at hx
  |some d=>rw[hd]at hx;simp at hx;subst hx;exact .d (hargs i d u hd hu)
 rintro e w' ⟨v,G',rfl,e1,hr2,e3⟩
 have one:∀(x:AV)(y:D)(ks:List Nat)(u:Value),view 12 h' x=some (y,ks)→Rep G' w' x u→DRep (m7 G' h') w' y u:=fun x y ks u hx hu=>
  (dT hr2 12 _ _ _ _ hx hu).mono (by
   rintro b o (x|⟨k,_,L,hL,hb⟩)
   ·exact .inl x
   ·exact .inr ⟨k,L,hL,hb⟩) (fun _ _ _=>rfl)
 refine⟨v,m7 G' h',rfl,hr2.below,fun b o x=> .inl (hr2.i0 b o x), ?_, ?_, ?_⟩
 ·rintro b o (x|⟨k,L,hL,rfl⟩)
  ·rcases Nat.lt_or_ge b w.heap.size with hlt|hge
   ·exact .inl (hr2.immlow b o x hlt)
   ·exact .inr hge
  ·exact .inr (hr2.own k L hL).1
 ·rintro b o (x|⟨k,L,hL,rfl⟩)
  ·exact hr2.immlt b o x
  ·exact hr2.blt hL
 ·have hl:=uM hv
  by_cases h1:rs.length=1
  ·obtain⟨x,rfl⟩:=List.length_eq_one_iff.1 h1
   obtain⟨y,rfl⟩:=List.length_eq_one_iff.1 (hl▸h1);obtain⟨x',ks,hx',hy⟩:=pd hv 0 y rfl;simp at hx';subst hx';exact .inl ⟨y,rfl,one _ _ _ _ hy e3⟩
  ·have:gY rs= .tup rs:=by
     match rs,h1 with
     |[],_=>rfl
     |[_],h=>simp at h
     |_::_::_,_=>rfl
   rw[this]at e3;cases e3 with
   |tup _ vs hvl hrep=>
    refine .inr ⟨by omega,vs,rfl,by omega,fun i x u hx hu=> ?_⟩;obtain⟨a,ks,ha,hb⟩:=pd hv i x hx;exact one _ _ _ _ hb (hrep i a u ha hu)
end Go.Avm
namespace Go.Avm
open Go.RowKit
variable[aJ]
mutual
def aR(ρ:Nat→Nat):AV→AV
 | .junk=> .junk
 | .d x=> .d x
 | .nils=> .nils
 | .es=> .es
 | .vec k v sz l=> .vec (ρ k) v sz l
 | .sl k v o l sz=> .sl (ρ k) v o l sz
 | .ptr k v i o sz=> .ptr (ρ k) v i o sz
 | .agg cs=> .agg (bT ρ cs)
 | .tup cs=> .tup (bT ρ cs)
 | .fn f cs=> .fn f (bT ρ cs)
 | .mp k v=> .mp (ρ k) v
 | .yld k v=> .yld (ρ k) v
 | .itr k v=> .itr (ρ k) v
 | .iv t x=> .iv t (aR ρ x)
 | .vp k v l=> .vp (ρ k) v l
def bT(ρ:Nat→Nat):List AV→List AV
 |[]=>[]
 |x::l=>aR ρ x::bT ρ l
end
theorem bA(ρ:Nat→Nat):∀l,bT ρ l=l.map (aR ρ)
 |[]=>rfl
 |x::l=>by simp[bT,bA ρ l]
theorem nb(ρ:Nat→Nat)(x:AV):(aR ρ x).cells=x.cells.map (aR ρ):=by
 cases x with
 |d y=>cases y<;>simp[aR,AV.cells]
 |agg cs=>simp[aR,AV.cells,bA]
 |_=>simp[aR,AV.cells]
theorem uN(ρ:Nat→Nat)(x:AV):(aR ρ x).lone=x.lone:=by
 cases x with
 |d y=>cases y<;>simp[aR,AV.lone]
 |_=>simp[aR,AV.lone]
theorem uO(ρ:Nat→Nat)(l:List AV):AV.flat (bT ρ l)=(AV.flat l).map (aR ρ):=by
 induction l with
 |nil=>rfl
 |cons x l ih=>
  simp only[AV.flat]at ih;simp only[AV.flat,bT,List.flatMap_cons,List.map_append,nb,ih]
def gj(ρ:Nat→Nat):Ob→Ob
 | .arr sz es=> .arr sz (bT ρ es)
 | .map es c=> .map es c
 | .lp f N env ps Ua bd st=> .lp f N (env.map fun p=>(p.1,aR ρ p.2)) ps Ua bd st
 | .itr km vm s l=> .itr (ρ km) vm s l
 | .typ k v T n=> .typ (ρ k) v T n
def cg(ρ:Nat→Nat)(e:aN):aN:=⟨e.ver,e.ob.map (gj ρ)⟩
theorem eN(ρ:Nat→Nat)(t:Nat):∀l:List (Nat×AV),an (l.map fun p=>(p.1,aR ρ p.2)) t=aR ρ (an l t)
 |[]=>rfl
 |(k,x)::r=>by
  simp only[List.map_cons,an,aM];split
  ·rfl
  ·exact eN ρ t r
structure Ren(ρ:Nat→Nat)(G G2:Gh):Prop where
 imm:G2.imm=G.imm
 loc:∀k v,G2.loc (ρ k) v=G.loc k v
 lim:∀k,G2.lim (ρ k)=G.lim k
 mloc:∀k v,G2.mloc (ρ k) v=G.mloc k v
section
variable{ρ:Nat→Nat}{G G2:Gh}{w:World}(hg:Ren ρ G G2)
include hg
theorem oq{x:AV}{v:Value}(h:Rep G w x v):Rep G2 w (aR ρ x) v:=by
 induction h with
 |junk v=>exact .junk v
 |d h=>exact .d (by rw[hg.imm];exact h)
 |nils=>exact .nils
 |es ao=>exact .es ao
 |vecNil k ver sz=>exact .vecNil _ ver sz
 |vec k ver l L hL hfr hlen hsz h=>exact .vec _ ver l L ((hg.loc k ver).trans hL) hfr hlen hsz (by rw[hg.imm];exact h)
 |slNil k ver sz=>exact .slNil _ ver sz
 |sl k ver off len c L hL hc hlen=>exact .sl _ ver off len c L ((hg.loc k ver).trans hL) hc hlen
 |ptr k ver i off L hL=>exact .ptr _ ver i off L ((hg.loc k ver).trans hL)
 |agg cs vs hl h1 _ ih=>
  simp only[aR,bA];refine .agg _ vs (by simpa using hl) h1 fun i c u hc hu=> ?_
  rw[List.getElem?_map]at hc;cases hci:cs[i]? with
  |none=>rw[hci]at hc;cases hc
  |some c0=>rw[hci]at hc;cases hc;exact ih i c0 u hci hu
 |tup cs vs hl _ ih=>
  simp only[aR,bA];refine .tup _ vs (by simpa using hl) fun i c u hc hu=> ?_
  rw[List.getElem?_map]at hc;cases hci:cs[i]? with
  |none=>rw[hci]at hc;cases hc
  |some c0=>rw[hci]at hc;cases hc;exact ih i c0 u hci hu
 |fn f cs vs hl _ ih=>
  simp only[aR,bA];refine .fn f _ vs (by simpa using hl) fun i c u hc hu=> ?_
  rw[List.getElem?_map]at hc;cases hci:cs[i]? with
  |none=>rw[hci]at hc;cases hc
  |some c0=>rw[hci]at hc;cases hc;exact ih i c0 u hci hu
 |mp k ver b hL=>exact .mp _ ver b ((hg.mloc k ver).trans hL)
 |yld k ver b hL=>exact .yld _ ver b ((hg.mloc k ver).trans hL)
 |itr k ver b hL=>exact .itr _ ver b ((hg.mloc k ver).trans hL)
 |iv t v _ ih=>exact .iv t v ih
 |vp k ver l L hL h1 hlen h=>exact .vp _ ver l L ((hg.loc k ver).trans hL) h1 hlen (by rw[hg.imm];exact h)
theorem iy{y:AV}{v:Value}(h:Rep G2 w y v):∀x,aR ρ x=y→Rep G w x v:=by
 induction h with
 |junk v=>intro x hx;cases x<;>simp only[aR,reduceCtorEq]at hx;exact .junk v
 |d h=>intro x hx;cases x<;>simp only[aR,reduceCtorEq]at hx;cases hx;exact .d (by rw[←hg.imm];exact h)
 |nils=>intro x hx;cases x<;>simp only[aR,reduceCtorEq]at hx;exact .nils
 |es ao=>intro x hx;cases x<;>simp only[aR,reduceCtorEq]at hx;exact .es ao
 |vecNil k ver sz=>intro x hx;cases x<;>simp only[aR,reduceCtorEq]at hx;cases hx;exact .vecNil _ ver sz
 |vec k ver l L hL hfr hlen hsz h=>intro x hx;cases x<;>simp only[aR,reduceCtorEq]at hx;cases hx;exact .vec _ ver l L ((hg.loc _ ver).symm.trans hL) hfr hlen hsz (by rw[←hg.imm];exact h)
 |slNil k ver sz=>intro x hx;cases x<;>simp only[aR,reduceCtorEq]at hx;cases hx;exact .slNil _ ver sz
 |sl k ver off len c L hL hc hlen=>intro x hx;cases x<;>simp only[aR,reduceCtorEq]at hx;cases hx;exact .sl _ ver off len c L ((hg.loc _ ver).symm.trans hL) hc hlen
 |ptr k ver i off L hL=>intro x hx;cases x<;>simp only[aR,reduceCtorEq]at hx;cases hx;exact .ptr _ ver i off L ((hg.loc _ ver).symm.trans hL)
 |agg cs vs hl h1 _ ih=>
  intro x hx;cases x<;>simp only[aR,reduceCtorEq]at hx
  rename_i cs0;simp only[AV.agg.injEq]at hx;subst hx;rw[bA]at hl;refine .agg _ vs (by simpa using hl) h1 fun i c u hc hu=> ?_
  exact ih i (aR ρ c) u (by rw[bA,List.getElem?_map,hc];rfl) hu c rfl
 |tup cs vs hl _ ih=>
  intro x hx;cases x<;>simp only[aR,reduceCtorEq]at hx
  rename_i cs0;simp only[AV.tup.injEq]at hx;subst hx;rw[bA]at hl;refine .tup _ vs (by simpa using hl) fun i c u hc hu=> ?_
  exact ih i (aR ρ c) u (by rw[bA,List.getElem?_map,hc];rfl) hu c rfl
 |fn f cs vs hl _ ih=>
  intro x hx;cases x<;>simp only[aR,reduceCtorEq]at hx
  rename_i f0 cs0;simp only[AV.fn.injEq]at hx;obtain⟨rfl,rfl⟩:=hx;rw[bA]at hl;refine .fn _ _ vs (by simpa using hl) fun i c u hc hu=> ?_
  exact ih i (aR ρ c) u (by rw[bA,List.getElem?_map,hc];rfl) hu c rfl
 |mp k ver b hL=>intro x hx;cases x<;>simp only[aR,reduceCtorEq]at hx;cases hx;exact .mp _ ver b ((hg.mloc _ ver).symm.trans hL)
 |yld k ver b hL=>intro x hx;cases x<;>simp only[aR,reduceCtorEq]at hx;cases hx;exact .yld _ ver b ((hg.mloc _ ver).symm.trans hL)
 |itr k ver b hL=>intro x hx;cases x<;>simp only[aR,reduceCtorEq]at hx;cases hx;exact .itr _ ver b ((hg.mloc _ ver).symm.trans hL)
 |iv t v _ ih=>
  intro x hx;cases x<;>simp only[aR,reduceCtorEq]at hx
  simp only[AV.iv.injEq]at hx;obtain⟨rfl,hx⟩:=hx;exact .iv _ v (ih _ hx)
 |vp k ver l L hL h1 hlen h=>intro x hx;cases x<;>simp only[aR,reduceCtorEq]at hx;cases hx;exact .vp _ ver l L ((hg.loc _ ver).symm.trans hL) h1 hlen (by rw[←hg.imm];exact h)
theorem KU{k ver:Nat}{ob:Ob}(h:ObRep G w k ver ob):ObRep G2 w (ρ k) ver (gj ρ ob):=by
 cases ob with
 |arr sz es=>
  rcases h with ⟨rfl,h⟩|⟨L,h1,h2,h3,h4,h5,h6,h7⟩
  ·exact .inl ⟨rfl,(hg.loc k ver).trans h⟩
  ·refine .inr ⟨L,(hg.loc k ver).trans h1,h2,h3,by simpa [bA]using h4,fun e he=> ?_,fun hz e he=> ?_,fun t c hc=> ?_⟩
   ·rw[bA]at he
    obtain⟨x,hx,rfl⟩:=List.mem_map.1 he;rw[nb,List.length_map];exact h5 x hx
   ·rw[bA]at he
    obtain⟨x,hx,rfl⟩:=List.mem_map.1 he;rw[uN];exact h6 hz x hx
   ·rw[uO,List.getElem?_map]at hc
    cases hci:(AV.flat es)[t]? with
    |none=>rw[hci]at hc;cases hc
    |some c0=>
     rw[hci]at hc;cases hc;obtain⟨u,g1,g2,g3⟩:=h7 t c0 hci;exact⟨u,g1,g2,oq hg g3⟩
 |typ k' v' T n=>exact⟨by rw[hg.lim];exact h.1,fun L hL=>h.2 L ((hg.loc k' v').symm.trans hL)⟩
 |_=>exact trivial
theorem Eu{k ver:Nat}{ob:Ob}(h:ObRep G2 w (ρ k) ver (gj ρ ob)):ObRep G w k ver ob:=by
 cases ob with
 |arr sz es=>
  rcases h with ⟨h0,h⟩|⟨L,h1,h2,h3,h4,h5,h6,h7⟩
  ·refine .inl ⟨?_,(hg.loc k ver).symm.trans h⟩
   rw[bA]at h0;exact List.map_eq_nil_iff.1 h0
  ·refine .inr ⟨L,(hg.loc k ver).symm.trans h1,h2,h3,by simpa [bA]using h4,fun e he=> ?_,fun hz e he=> ?_,fun t c hc=> ?_⟩
   ·have:=h5 (aR ρ e) (by rw[bA];exact List.mem_map_of_mem he)
    rwa [nb,List.length_map]at this
   ·have:=h6 hz (aR ρ e) (by rw[bA];exact List.mem_map_of_mem he)
    rwa [uN]at this
   ·obtain⟨u,g1,g2,g3⟩:=h7 t (aR ρ c) (by rw[uO,List.getElem?_map,hc];rfl)
    exact⟨u,g1,g2,iy hg g3 c rfl⟩
 |typ k' v' T n=>exact⟨by rw[←hg.lim];exact h.1,fun L hL=>h.2 L ((hg.loc k' v').trans hL)⟩
 |_=>exact trivial
theorem Ev{N:Nat}{env:List (Nat×AV)}{ps:Array Nat}{Ua bd:Code}{st:LSt}{r:Loop}(h:LRep G w N env ps Ua bd st r):LRep G2 w N (env.map fun p=>(p.1,aR ρ p.2)) ps Ua bd st r:=
 ⟨h.size,fun t ht=>by rw[eN];exact oq hg (h.rep t ht),fun t ht=>by rw[eN,h.out t ht];rfl,h.ps,h.Ua,h.bd,h.state,h.pending⟩
theorem Ap{N:Nat}{env:List (Nat×AV)}{ps:Array Nat}{Ua bd:Code}{st:LSt}{r:Loop}(h:LRep G2 w N (env.map fun p=>(p.1,aR ρ p.2)) ps Ua bd st r):LRep G w N env ps Ua bd st r:=
 ⟨h.size,fun t ht=>iy hg (h.rep t ht) _ (eN ρ t env).symm,fun t ht=>by
  have:=h.out t ht;rw[eN]at this;cases hx:an env t<;>rw[hx]at this<;>first|rfl|(simp only[aR,reduceCtorEq]at this),h.ps,h.Ua,h.bd,h.state,h.pending⟩
end
def ot(σ:Nat→Option Nat)(G:Gh):Gh where
 imm:=G.imm
 loc:=fun j v=>match σ j with|some k=>G.loc k v|none=>none
 lim:=fun j=>match σ j with|some k=>G.lim k|none=>0
 mloc:=fun j v=>match σ j with|some k=>G.mloc k v|none=>none
def gk(ρ:Nat→Nat)(σ:Nat→Option Nat)(h:ab):ab:=fun j=>match σ j with|some k=>cg ρ (h k)|none=>⟨0,none⟩
def Nl(ρ:Nat→Nat)(G:Gh):Gh where
 imm:=G.imm
 loc:=fun k v=>G.loc (ρ k) v
 lim:=fun k=>G.lim (ρ k)
 mloc:=fun k v=>G.mloc (ρ k) v
theorem qZ(ρ:Nat→Nat)(G:Gh):Ren ρ (Nl ρ G) G:=⟨rfl,fun _ _=>rfl,fun _=>rfl,fun _ _=>rfl⟩
structure Names(ρ:Nat→Nat)(σ:Nat→Option Nat):Prop where
 to:∀k,σ (ρ k)=some k
 fro:∀j k,σ j=some k→ρ k=j
theorem Names.inj{ρ:Nat→Nat}{σ:Nat→Option Nat}(hn:Names ρ σ){a b:Nat}(h:ρ a=ρ b):a=b:=by
 have h1:=hn.to a;rw[h,hn.to b]at h1;exact(Option.some.inj h1).symm
theorem lw{ρ:Nat→Nat}{σ:Nat→Option Nat}(hn:Names ρ σ)(G:Gh):Ren ρ G (ot σ G):=⟨rfl,fun k v=>by simp only[ot,hn.to],fun k=>by simp only[ot,hn.to],fun k v=>by simp only[ot,hn.to]⟩
section
variable{ρ:Nat→Nat}{σ:Nat→Option Nat}(hn:Names ρ σ){G:Gh}{B:Nat}{w0 w:World}{I0:Nat→Nat→Prop}{h:ab}
include hn
theorem Aq(hr:HR G B w0 I0 h w):HR (ot σ G) B w0 I0 (gk ρ σ h) w:=by
 have hg:=lw hn G
 have loc:∀j v L,(ot σ G).loc j v=some L→∃k,σ j=some k∧G.loc k v=some L:=fun j v L hL=>by
  simp only[ot]at hL;split at hL
  ·rename_i k hk;exact⟨k,hk,hL⟩
  ·cases hL
 have mloc:∀j v L,(ot σ G).mloc j v=some L→∃k,σ j=some k∧G.mloc k v=some L:=fun j v L hL=>by
  simp only[ot]at hL;split at hL
  ·rename_i k hk;exact⟨k,hk,hL⟩
  ·cases hL
 have ver:∀j k,σ j=some k→(gk ρ σ h j).ver=(h k).ver:=fun j k hj=>by simp only[gk,hj,cg]
 have obs:∀j ob,(gk ρ σ h j).ob=some ob→∃k o,σ j=some k∧(h k).ob=some o∧ob=gj ρ o:=fun j ob ho=>by
  simp only[gk]at ho;split at ho
  ·rename_i k hk
   simp only[cg,Option.map_eq_some_iff]at ho;obtain⟨o,h1,h2⟩:=ho;exact⟨k,o,hk,h1,h2.symm⟩
  ·cases ho
 refine⟨hr.below,hr.bsz,hr.immlt,hr.i0,hr.immlow, ?_, ?_, ?_, ?_, ?_,⟨?_, ?_, ?_, ?_, ?_,hr.maps.glob⟩⟩
 ·intro j v L hL
  obtain⟨k,hk,hL⟩:=loc j v L hL;rw[ver j k hk];exact hr.fresh k v L hL
 ·intro j L hL
  obtain⟨k,hk,hL⟩:=loc j _ L hL;rw[ver j k hk]at hL;exact hr.own k L hL
 ·intro j j' L L' hL hL' hb
  obtain⟨k,hk,hL⟩:=loc j _ L hL;obtain⟨k',hk',hL'⟩:=loc j' _ L' hL';rw[ver j k hk]at hL;rw[ver j' k' hk']at hL';have:=hr.dis k k' L L' hL hL' hb;subst this;exact(hn.fro j k hk).symm.trans (hn.fro j' k hk')
 ·intro j ob ho
  obtain⟨k,o,hk,h1,rfl⟩:=obs j ob ho;rw[ver j k hk,←hn.fro j k hk];exact KU hg (hr.objs k o h1)
 ·intro j
  simp only[ot,gk];split
  ·rename_i k hk;exact hr.lim k
  ·rfl
 ·intro j v b hb
  obtain⟨k,hk,hb⟩:=mloc j v b hb;obtain⟨h1,h2,h3⟩:=hr.maps.low k v b hb;exact⟨h1,h2,by rw[ver j k hk];exact h3⟩
 ·intro j j' b l l' hb hb'
  obtain⟨x,l,f⟩:=iw l;obtain⟨x',l',f'⟩:=iw l';obtain⟨k1,o,hk1,h1,e1⟩:=obs j _ l;obtain⟨k2,o',hk2,h2,e2⟩:=obs j' _ l';obtain⟨k,hk,hb⟩:=mloc j _ b hb;obtain⟨k',hk',hb'⟩:=mloc j' _ b hb';have i1:k1=k:=Option.some.inj (hk1.symm.trans hk);have i2:k2=k':=Option.some.inj (hk2.symm.trans hk');subst i1;subst i2;rw[ver j k1 hk]at hb;rw[ver j' k2 hk']at hb';have fx:∀o:Ob,(gj ρ o).flex=o.flex:=fun o=>by cases o<;>rfl
  have g1:=hr.maps.inj k1 k2 b (by rw[h1];subst e1;rw[fx]at f;simp[jw,f]) (by rw[h2];subst e2;rw[fx]at f';simp[jw,f']) hb hb';subst g1;exact(hn.fro j k1 hk).symm.trans (hn.fro j' k1 hk')
 ·intro j es c ho
  obtain⟨k,o,hk,h1,h2⟩:=obs j _ ho;cases o<;>simp only[gj,reduceCtorEq]at h2
  cases h2;obtain⟨b,g1,g2⟩:=hr.maps.obj k _ _ h1;rw[ver j k hk,←hn.fro j k hk];exact⟨b,(hg.mloc k _).trans g1,g2⟩
 ·intro j fno N env ps Ua bd st ho
  obtain⟨k,o,hk,h1,h2⟩:=obs j _ ho;cases o<;>simp only[gj,reduceCtorEq]at h2
  cases h2;obtain⟨b,r,g1,g2,g3⟩:=hr.maps.loops k _ _ _ _ _ _ _ h1;rw[ver j k hk,←hn.fro j k hk];exact⟨b,r,(hg.mloc k _).trans g1,g2,Ev hg g3⟩
 ·intro j km vm since seen ho
  obtain⟨k,o,hk,h1,h2⟩:=obs j _ ho;cases o<;>simp only[gj,reduceCtorEq]at h2
  cases h2;obtain⟨b,bm,sa,c0,g1,g2,g3,g4,g5⟩:=hr.maps.iters k _ _ _ _ h1;rw[ver j k hk,←hn.fro j k hk];exact⟨b,bm,sa,c0,(hg.mloc k _).trans g1,(hg.mloc _ _).trans g2,g3,g4,g5⟩
theorem sQ{h2:ab}(hr:HR G B w0 I0 h2 w)(hh:∀k,h2 (ρ k)=cg ρ (h k)):HR (Nl ρ G) B w0 I0 h w:=by
 have hg:=qZ ρ G;have ver:∀k,(h2 (ρ k)).ver=(h k).ver:=fun k=>by rw[hh];rfl
 have obs:∀k o,(h k).ob=some o→(h2 (ρ k)).ob=some (gj ρ o):=fun k o ho=>by rw[hh];simp[cg,ho]
 refine⟨hr.below,hr.bsz,hr.immlt,hr.i0,hr.immlow, ?_, ?_, ?_, ?_, ?_,⟨?_, ?_, ?_, ?_, ?_,hr.maps.glob⟩⟩
 ·intro k v L hL
  have:=hr.fresh (ρ k) v L hL;rwa [ver]at this
 ·intro k L hL
  exact hr.own (ρ k) L (by rw[ver];exact hL)
 ·intro k k' L L' hL hL' hb
  exact hn.inj (hr.dis (ρ k) (ρ k') L L' (by rw[ver];exact hL) (by rw[ver];exact hL') hb)
 ·intro k ob ho
  have:=hr.objs (ρ k) _ (obs k ob ho);rw[ver]at this;exact Eu hg this
 ·intro k
  have:=hr.lim (ρ k);rw[ver]at this;exact this
 ·intro k v b hb
  obtain⟨h1,h3,h4⟩:=hr.maps.low (ρ k) v b hb;exact⟨h1,h3,by rw[←ver];exact h4⟩
 ·intro k k' b l l' hb hb'
  obtain⟨x,l,f⟩:=iw l;obtain⟨x',l',f'⟩:=iw l';have fx:∀o:Ob,(gj ρ o).flex=o.flex:=fun o=>by cases o<;>rfl
  have h1:=obs k x l;have h2:=obs k' x' l';rw[←ver]at hb hb';exact hn.inj (hr.maps.inj (ρ k) (ρ k') b (by rw[h1];simp[jw,fx,f]) (by rw[h2];simp[jw,fx,f']) hb hb')
 ·intro k es c ho
  obtain⟨b,g1,g2⟩:=hr.maps.obj (ρ k) es c (obs k _ ho);rw[ver]at g1;exact⟨b,g1,g2⟩
 ·intro k fno N env ps Ua bd st ho
  obtain⟨b,r,g1,g2,g3⟩:=hr.maps.loops (ρ k) _ _ _ _ _ _ _ (obs k _ ho);rw[ver]at g1;exact⟨b,r,g1,g2,Ap hg g3⟩
 ·intro k km vm since seen ho
  obtain⟨b,bm,sa,c0,g1,g2,g3⟩:=hr.maps.iters (ρ k) _ _ _ _ (obs k _ ho);rw[ver]at g1;exact⟨b,bm,sa,c0,g1,g2,g3⟩
theorem pe{G2:Gh}{w':World}(e:Ext (ot σ G) w G2 w'):Ext G w (Nl ρ G2) w':=by
 have hg:=lw hn G;exact⟨e.imm,fun k v L hL=>e.loc (ρ k) v L ((hg.loc k v).trans hL),e.cell,e.size,fun k=>by have:=e.lim (ρ k);rwa [hg.lim]at this,fun k v hv hL=>e.nloc (ρ k) v (by rw[hg.lim];exact hv) ((hg.loc k v).trans hL),fun k v b hb=>e.mloc (ρ k) v b ((hg.mloc k v).trans hb),e.kept⟩
theorem uP{P:Program}{f:Nat}{args rs:List AV}{h' h2:ab}(hc:ay P f (bT ρ args) (gk ρ σ h) (bT ρ rs) h2)(hh:∀k,h2 (ρ k)=cg ρ (h' k)):ay P f args h rs h':=by
 refine⟨hc.1,fun G B w0 I0 w cargs hr hs hargs=>(hc.2 (ot σ G) B w0 I0 w cargs (Aq hn hr) (by rw[bA];simpa using hs) fun i x u hx hu=> ?_).mono ?_⟩
 ·rw[bA,List.getElem?_map]at hx
  cases hi:args[i]? with
  |none=>rw[hi]at hx;cases hx
  |some y=>rw[hi]at hx;cases hx;exact oq (lw hn G) (hargs i y u hi hu)
 ·rintro e w' ⟨v,G2,rfl,e1,e2,e3⟩
  refine⟨v,Nl ρ G2,rfl,pe hn e1,sQ hn e2 hh,iy (qZ ρ G2) e3 _ ?_⟩;match rs with
  |[]=>rfl
  |[x]=>rfl
  |x::y::l=>rfl
theorem yn{P:Program}{f:Nat}{args:List AV}{x:AV}{h' h2:ab}(hc:iY P f (bT ρ args) (gk ρ σ h) (aR ρ x) h2)(hh:∀k,h2 (ρ k)=cg ρ (h' k)):iY P f args h x h':=by
 refine⟨hc.1,fun G B w0 I0 w cargs hr hs hargs=>(hc.2 (ot σ G) B w0 I0 w cargs (Aq hn hr) (by rw[bA];simpa using hs) fun i x u hx hu=> ?_).mono ?_⟩
 ·rw[bA,List.getElem?_map]at hx
  cases hi:args[i]? with
  |none=>rw[hi]at hx;cases hx
  |some y=>rw[hi]at hx;cases hx;exact oq (lw hn G) (hargs i y u hi hu)
 ·rintro e w' ⟨v,G2,rfl,e1,e2,e3⟩
  exact⟨v,Nl ρ G2,rfl,pe hn e1,sQ hn e2 hh,iy (qZ ρ G2) e3 _ rfl⟩
end
def mM(h:ab):List AV→Option (List D×List Nat)
 |[]=>some ([],[])
 |x::l=>match view 12 h x,mM h l with
  |some r,some rs=>some (r.1::rs.1,r.2 ++rs.2)
  |_,_=>none
theorem uQ{h:ab}:∀{l:List AV}{r:List D×List Nat},mM h l=some r→l.length=r.1.length
 |[],r,e=>by simp[mM]at e;subst e;rfl
 |x::l,r,e=>by
  simp only[mM]at e;split at e
  ·rename_i r1 rs hr hrs
   simp only[Option.some.injEq]at e;subst e;simp[uQ hrs]
  ·cases e
theorem pf{h:ab}:∀{l:List AV}{r:List D×List Nat},mM h l=some r→∀(i:Nat)(d:D),r.1[i]? =some d→∃x ks,l[i]? =some x∧view 12 h x=some (d,ks)∧∀k∈ks,k∈r.2
 |[],r,e,i,d,hd=>by simp[mM]at e;subst e;simp at hd
 |x::l,r,e,i,d,hd=>by
  simp only[mM]at e;split at e
  ·rename_i r1 rs hr hrs
   simp only[Option.some.injEq]at e;subst e;cases i with
   |zero=>simp at hd;subst hd;exact⟨x,r1.2,rfl,hr,fun k hk=>by simp[hk]⟩
   |succ i=>
    obtain⟨x',ks,h1,h2,h3⟩:=pf hrs i d (by simpa using hd);exact⟨x',ks,h1,h2,fun k hk=>by simp[h3 k hk]⟩
  ·cases e
theorem Bs{l:List AV}(h:l.length≠1):gY l= .tup l:=by
 match l,h with
 |[],_=>rfl
 |[_],h=>simp at h
 |_::_::_,_=>rfl
theorem sS{P:Program}{f:Nat}{args rs:List AV}{h h':ab}{r:List D×List Nat}(hc:ay P f args h rs h')(hv:mM h' rs=some r):ay P f args h (r.1.map .d) (aq h' (kill h' r.2)):=by
 refine⟨hc.1,fun G B w0 I0 w cargs hr hs hargs=>(hc.2 G B w0 I0 w cargs hr hs hargs).mono ?_⟩;rintro e w' ⟨v,G',rfl,e1,e2,e3⟩;refine⟨v,G'.froz h' r.2,rfl,e1.trans (Ext.froz e2 r.2),e2.kill r.2, ?_⟩
 have one:∀(x:AV)(y:D)(ks:List Nat)(u:Value),view 12 h' x=some (y,ks)→(∀k∈ks,k∈r.2)→Rep G' w' x u→Rep (G'.froz h' r.2) w' (.d y) u:=fun x y ks u hx hks hu=>
  .d ((dT e2 12 _ _ _ _ hx hu).mono (by
   rintro b o (x|⟨k,hk,L,hL,hb⟩)
   ·exact .inl x
   ·exact .inr ⟨k,hks k hk,L,hL,hb⟩) (fun _ _ _=>rfl))
 have hl:=uQ hv;by_cases h1:rs.length=1
 ·obtain⟨x,rfl⟩:=List.length_eq_one_iff.1 h1
  obtain⟨l,ks0⟩:=r;obtain⟨y,rfl⟩:=List.length_eq_one_iff.1 (hl▸h1);obtain⟨x',ks,hx',hy,hks⟩:=pf hv 0 y rfl;simp at hx';subst hx';exact one _ _ _ _ hy hks e3
 ·rw[Bs h1]at e3
  rw[Bs (l:=r.1.map AV.d) (by rw[List.length_map,←hl];exact h1)];cases e3 with
  |tup _ vs hvl hrep=>
   refine .tup _ vs (by simp;omega) fun i c u hc hu=> ?_
   rw[List.getElem?_map]at hc;cases hi:r.1[i]? with
   |none=>rw[hi]at hc;cases hc
   |some d=>
    rw[hi]at hc;cases hc;obtain⟨x,ks,h4,h5,h6⟩:=pf hv i d hi;exact one _ _ _ _ h5 h6 (hrep i x u h4 hu)
def dW(F:List Nat)(M:Nat)(k:Nat):Nat:=bif F.any (Nat.beq k)then k else k+M
def zu(F:List Nat)(M:Nat)(j:Nat):Option Nat:=bif F.any (Nat.beq j)then some j else bif Nat.ble M j then (bif F.any (Nat.beq (j-M))then none else some (j-M))else none
theorem Ew{F:List Nat}{k:Nat}:F.any (Nat.beq k)=true↔k∈F:=by
 rw[List.any_eq_true];constructor
 ·rintro⟨x,hx,h⟩
  rw[Nat.eq_of_beq_eq_true h];exact hx
 ·intro h
  exact⟨k,h,Nat.beq_refl k⟩
theorem ly{F:List Nat}{k:Nat}:F.any (Nat.beq k)=false↔k∉F:=by
 rw[←Ew];cases F.any (Nat.beq k)<;>simp
theorem uR{F:List Nat}{M k:Nat}(h:k∈F):dW F M k=k∧zu F M k=some k:=by
 have:=Ew.2 h;simp[dW,zu,this]
theorem sT{F:List Nat}{M k:Nat}(hF:∀k∈F,k<M)(h:k∉F):dW F M k=k+M∧zu F M (k+M)=some k:=by
 have h1:=ly.2 h;have h2:F.any (Nat.beq (k+M))=false:=ly.2 fun h=>by have:=hF _ h;omega
 have h3:Nat.ble M (k+M)=true:=(by simp)
 simp[dW,zu,h1,h2,h3]
theorem ou{F:List Nat}{M:Nat}(hF:∀k∈F,k<M):Names (dW F M) (zu F M):=by
 constructor
 ·intro k
  by_cases h:k∈F
  ·rw[(uR (M:=M) h).1,(uR h).2]
  ·rw[(sT hF h).1,(sT hF h).2]
 ·intro j k hj
  by_cases h:j∈F
  ·rw[(uR h).2]at hj
   cases hj;exact(uR h).1
  ·unfold zu at hj
   rw[ly.2 h]at hj;simp only[cond_false]at hj;cases h2:Nat.ble M j with
   |false=>rw[h2]at hj;cases hj
   |true=>
    rw[h2]at hj;simp only[cond_true]at hj;cases h3:F.any (Nat.beq (j-M))with
    |true=>rw[h3]at hj;cases hj
    |false=>
     rw[h3]at hj;simp only[cond_false,Option.some.injEq]at hj;subst hj;have:M≤j:=by simpa using h2
     rw[(sT hF (ly.1 h3)).1];omega
theorem wz(h:ab)(k:Nat):∀(l:List (Nat×aN)),k∈l.map (·.1)→∃e,(k,e)∈l∧al l h k=e
 |[],hk=>by simp at hk
 |(a,e)::r,hk=>by
  simp only[al];by_cases ha:k=a
  ·subst ha
   exact⟨e,by simp,ak _ _ _⟩
  ·obtain⟨e',h1,h2⟩:=wz h k r (by simpa [ha]using hk)
   exact⟨e',by simp[h1],(am _ _ ha).trans h2⟩
theorem KV(ρ:Nat→Nat)(ds:List D):bT ρ (ds.map .d)=ds.map .d:=by
 rw[bA,List.map_map];exact List.map_congr_left fun _ _=>rfl
def eO(M:Nat)(h:ab):ab:=fun k=>bif Nat.blt k M then ⟨0,none⟩else h k
theorem HZ{M k:Nat}(h:ab)(hk:M≤k):eO M h k=h k:=by
 have:Nat.blt k M=false:=by
  cases hb:Nat.blt k M with
  |false=>rfl
  |true=>have:=(show k<M by simpa using hb);omega
 simp[eO,this]
theorem H0{M k:Nat}(h:ab)(hk:k<M):eO M h k=⟨0,none⟩:=by
 have:Nat.blt k M=true:=by simpa using hk
 simp[eO,this]
theorem KW{F:List Nat}{M k:Nat}(h:k∉F)(hk:k<M):zu F M k=none:=by
 have h1:=ly.2 h
 have h2:Nat.ble M k=false:=by
  cases hb:Nat.ble M k with
  |false=>rfl
  |true=>have:=(show M≤k by simpa using hb);omega
 simp[zu,h1,h2]
structure Cln(F:List Nat)(M:Nat)(args:List AV)(pre post:List (Nat×aN)):Prop where
 lt:(F.all fun k=>Nat.blt k M)=true
 preK:pre.map (·.1)=F
 postK:post.map (·.1)=F
 argsK:bT (dW F M) args=args
 preE:(pre.map fun p=>cg (dW F M) p.2)=pre.map (·.2)
 postE:(post.map fun p=>cg (dW F M) p.2)=post.map (·.2)
theorem wA{ρ:Nat→Nat}:∀{l:List (Nat×aN)},(l.map fun p=>cg ρ p.2)=l.map (·.2)→∀k e,(k,e)∈l→cg ρ e=e
 |[],_,k,e,h=>by cases h
 |p::r,hl,k,e,h=>by
  simp only[List.map_cons,List.cons.injEq]at hl;rcases List.mem_cons.1 h with rfl|h
  ·exact hl.1
  ·exact wA hl.2 k e h
section
variable{F:List Nat}{M:Nat}{args:List AV}{pre post:List (Nat×aN)}(c:Cln F M args pre post)
include c
theorem Cln.ltF:∀k∈F,k<M:=fun k hk=>by
 have:=List.all_eq_true.1 c.lt k hk;simpa using this
theorem Cln.heap(h:ab):gk (dW F M) (zu F M) (al pre h)=al pre (eO M (gk (dW F M) (zu F M) (al pre h))):=by
 funext k;by_cases hk:k∈F
 ·obtain⟨e,h1,h2⟩:=wz h k pre (by rw[c.preK];exact hk)
  have h3:=gB pre h (eO M (gk (dW F M) (zu F M) (al pre h))) (k:=k) (by rw[c.preK];exact hk);rw[←h3];simp only[gk,(uR (M:=M) hk).2,h2];exact wA c.preE k e h1
 ·rw[b6 _ _ (by rw[c.preK];exact hk)]
  rcases Nat.lt_or_ge k M with hlt|hge
  ·rw[H0 _ hlt]
   simp only[gk,KW hk hlt]
  ·rw[HZ _ hge]
theorem Cln.behind(h:ab){h2:ab}(hF:∀k,k∈F→h2 k=al post h2 k)(hM:∀k,M≤k→h2 k=al pre (eO M (gk (dW F M) (zu F M) (al pre h))) k)(k:Nat):h2 (dW F M k)=cg (dW F M) (al post h k):=by
 by_cases hk:k∈F
 ·obtain⟨e,h1,h3⟩:=wz h k post (by rw[c.postK];exact hk)
  rw[(uR hk).1,hF k hk,gB post h2 h (by rw[c.postK];exact hk),h3];exact(wA c.postE k e h1).symm
 ·have hlt:=c.ltF
  rw[(sT hlt hk).1,hM _ (by omega),←c.heap h];simp only[gk,(sT hlt hk).2];rw[b6 _ _ (by rw[c.preK];exact hk),b6 _ _ (by rw[c.postK];exact hk)]
theorem lz{P:Program}{f:Nat}{ds:List D}(hc:∀rest:ab,∃h2,ay P f args (al pre (eO M rest)) (ds.map .d) h2∧(∀k,k∈F→h2 k=al post h2 k)∧∀k,M≤k→h2 k=al pre (eO M rest) k)(rest:ab):ay P f args (al pre rest) (ds.map .d) (al post rest):=by
 obtain⟨h2,h3,h4,h5⟩:=hc (gk (dW F M) (zu F M) (al pre rest));rw[←c.heap rest]at h3;refine uP (ou c.ltF) (h2:=h2) ?_ (c.behind rest h4 h5);rw[c.argsK,KV];exact h3
theorem Ar{P:Program}{f:Nat}{x:AV}(hx:aR (dW F M) x=x)(hc:∀rest:ab,∃h2,iY P f args (al pre (eO M rest)) x h2∧(∀k,k∈F→h2 k=al post h2 k)∧∀k,M≤k→h2 k=al pre (eO M rest) k)(rest:ab):iY P f args (al pre rest) x (al post rest):=by
 obtain⟨h2,h3,h4,h5⟩:=hc (gk (dW F M) (zu F M) (al pre rest));rw[←c.heap rest]at h3;refine yn (ou c.ltF) (h2:=h2) ?_ (c.behind rest h4 h5);rw[c.argsK,hx];exact h3
end
def lA(r:Option (List AV×ab×Nat×List Nat×az))(F:List Nat)(M:Nat)(ds:List D)(post:List (Nat×aN)):Option (aG×az):=
 match r with
 |some (rs',h',_,tk,ps)=>match mM h' rs',aZ h' post with
  |some v,some q=>match (v.2.all fun k=>Nat.blt k M&& !(F.any (Nat.beq k)))&&tk.all fun k=>Nat.blt k M with
   |true=>some (.ret,(.ds v.1, .ds ds)::(ps ++q))
   |false=>none
  |_,_=>none
 |none=>none
theorem ag{P:Program}(hm:g0 P)(hn:co P)(pr:Par P)(n base g M:Nat){args:List AV}{ds:List D}{pre post:List (Nat×aN)}(c:Cln (pre.map (·.1)) M args pre post)
    (h:∀rest:ab,mo (lA (gC P (bj P pr n) base g args (al pre (eO M rest))) (pre.map (·.1)) M ds post)=outR .ret (lA (gC P (bj P pr n) base g args (al pre (eO M rest))) (pre.map (·.1)) M ds post)) (rest:ab):ay P g args (al pre rest) (ds.map .d) (al post rest):=by
 refine lz c (fun rest=> ?_) rest;obtain⟨ps,h1,hs⟩:=gg (h rest);unfold lA at h1;split at h1;case h_2=>cases h1
 rename_i rs' h' b' tk ps' hr;split at h1;case h_2=>cases h1
 rename_i v q hv hq;split at h1;case h_2=>cases h1
 rename_i hk;simp only[Option.some.injEq,Prod.mk.injEq,true_and]at h1;subst h1;have g1:=hs.head;simp only[aU.ds.injEq]at g1;subst g1;rw[Bool.and_eq_true]at hk
 have hv2:∀k∈v.2,k<M∧k∉pre.map (·.1):=fun k hkv=>by
  have:=List.all_eq_true.1 hk.1 k hkv;simp only[Bool.and_eq_true,Bool.not_eq_true']at this;exact⟨by simpa using this.1,ly.1 this.2⟩
 have htk:∀k∈tk,k<M:=fun k hkt=>by
  have:=List.all_eq_true.1 hk.2 k hkt;simpa using this
 obtain⟨c1,c2⟩:=eM hm hn (df hm hn n) hr hs.tail.left;have c3:=sS c1 hv;have hsub:=jg h' post (aV hq hs.tail.right);refine⟨al post (aq h' (kill h' v.2)),⟨c3.1,fun G B w0 I0 w cargs hr hsz hargs=>(c3.2 G B w0 I0 w cargs hr hsz hargs).mono ?_⟩,fun k hkF=> ?_,fun k hkM=> ?_⟩
 ·rintro e w' ⟨u,G',rfl,e1,e2,e3⟩
  refine⟨u,G',rfl,e1,e2.forget fun k=> ?_,e3⟩;by_cases hkF:k∈post.map (·.1)
  ·have hnv:k∉v.2:=fun hx=>(hv2 k hx).2 (by rw[←c.postK];exact hkF)
   rw[bz,if_neg hnv,gB post _ h' hkF];exact hsub k
  ·rw[b6 _ _ hkF]
   exact⟨rfl, .inr rfl⟩
 ·exact gB _ _ _ (by rw[c.postK];exact hkF)
 ·have hkF:k∉pre.map (·.1):=fun hx=>by have:=c.ltF k hx;omega
  rw[b6 _ _ (by rw[c.postK];exact hkF),bz,if_neg fun hx=>by have:=(hv2 k hx).1;omega];exact c2 k fun hx=>by have:=htk k hx;omega
def lB(r:Option (AV×ab×Nat×List Nat×az))(M:Nat)(x:AV)(post:List (Nat×aN)):Option (aG×az):=
 match r with
 |some (x',h',_,tk,ps)=>match aZ h' post with
  |some q=>match tk.all fun k=>Nat.blt k M with
   |true=>some (.ret,(.av x', .av x)::(ps ++q))
   |false=>none
  |_=>none
 |none=>none
theorem ae{P:Program}(hm:g0 P)(hn:co P)(pr:Par P)(n base g M:Nat){args:List AV}{x:AV}{pre post:List (Nat×aN)}(c:Cln (pre.map (·.1)) M args pre post)(hx:aR (dW (pre.map (·.1)) M) x=x)
    (h:∀rest:ab,mo (lB (pc P (bj P pr n) base g args (al pre (eO M rest))) M x post)=outR .ret (lB (pc P (bj P pr n) base g args (al pre (eO M rest))) M x post)) (rest:ab):iY P g args (al pre rest) x (al post rest):=by
 refine Ar c hx (fun rest=> ?_) rest;obtain⟨ps,h1,hs⟩:=gg (h rest);unfold lB at h1;split at h1;case h_2=>cases h1
 rename_i rs' h' b' tk ps' hr;split at h1;case h_2=>cases h1
 rename_i q hq;split at h1;case h_2=>cases h1
 rename_i hk;simp only[Option.some.injEq,Prod.mk.injEq,true_and]at h1;subst h1;have g1:=hs.head;simp only[aU.av.injEq]at g1;subst g1
 have htk:∀k∈tk,k<M:=fun k hkt=>by
  have:=List.all_eq_true.1 hk k hkt;simpa using this
 obtain⟨c1,c2⟩:=wy hm hn (df hm hn n) hr hs.tail.left;have hsub:=jg h' post (aV hq hs.tail.right);refine⟨al post h',⟨c1.1,fun G B w0 I0 w cargs hr hsz hargs=>(c1.2 G B w0 I0 w cargs hr hsz hargs).mono ?_⟩,fun k hkF=> ?_,fun k hkM=> ?_⟩
 ·rintro e w' ⟨u,G',rfl,e1,e2,e3⟩
  exact⟨u,G',rfl,e1,e2.forget hsub,e3⟩
 ·exact gB _ _ _ (by rw[c.postK];exact hkF)
 ·have hkF:k∉pre.map (·.1):=fun hx=>by have:=c.ltF k hx;omega
  rw[b6 _ _ (by rw[c.postK];exact hkF)];exact c2 k fun hx=>by have:=htk k hx;omega
end Go.Avm
namespace Go.Avm
open Go.RowKit
variable[aJ]
section
variable{G:Gh}{B:Nat}{w0 w:World}{I0:Nat→Nat→Prop}{h:ab}
end
section
variable{X:ce}{c:Code}{S S':St}{Q:aG→St→Prop}
theorem LW.weak(hw:Weak X S S')(h:LW X c S' Q):LW X c S Q:=fun G a w hh=>by
 obtain⟨G1,e1,h1⟩:=hw G a w hh;exact mG (h G1 a w h1) fun e a' w' ⟨e',S',G',x,q,e2,r⟩=>⟨e',S',G',x,q,e1.trans e2,r⟩
theorem Au{S1:St}(h:AW X c S fun e' S'=>e'= .normal∧Weak X S' S1)(hl:LW X c S1 Q):LW X c S Q:=
 iL (h.mono fun e' S' ⟨he,hw⟩=>by subst he;exact hl.weak hw)
theorem Av{S2:St}{e:aG}(h:AW X c S fun e' S'=>e'=e∧Weak X S' S2)(he:e≠ .normal):LW X c S fun e' S'=>e'=e∧S'=S2:=
 iL (mb (h.mono fun e' S' ⟨h1,hw⟩=>⟨S2,hw,by
  subst h1;cases e' with
  |normal=>exact absurd rfl he
  |_=>exact⟨rfl,rfl⟩⟩))
end
end Go.Avm
namespace Go.Avm
variable[aJ]
theorem qf{P:Program}{g:Nat}(hcb:dc P g)
    (hC:∀(b:Nat)(es:Array MapEntry)(c:Nat)(w:World),w.heap[b]? =some (.map es c)→Calls P g #[.map (some b)] w fun e w'=>e= .returned (.map (some w.heap.size))∧w'=w.alloc (.map es c))
    {h:ab} {k v:Nat} (k2:Nat) {es:List (D×D×Nat)} {c:Nat} (hk:h k=⟨v,some (.map es c)⟩):
    ay P g [.mp k v] h [.mp k2 ((h k2).ver+1)] (aM h k2 ⟨(h k2).ver+1,some (.map es c)⟩):=by
 refine⟨hcb,fun G B w0 I0 w cargs hr hs hargs=> ?_⟩
 obtain⟨u,rfl⟩:∃u,cargs= #[u]:=by
  have h1:cargs.size=1:=hs;refine⟨cargs[0],Array.ext (by simp[h1]) (fun i hi _=> ?_)⟩;have:i=0:=by omega
  subst this;rfl
 have hu:=hargs 0 _ u rfl rfl;obtain⟨b,hb,ms,hm,hsz,hent⟩:=hr.maps.obj k es c (by rw[hk]);have hv:(h k).ver=v:=by rw[hk]
 rw[hv]at hb;cases hu with
 |mp _ _ b2 hL=>
  obtain rfl:b=b2:=Option.some.inj (hb.symm.trans hL);refine(hC b ms c w hm).mono ?_;rintro e w' ⟨rfl,rfl⟩;have hr1:=hr.allocAny (.map ms c);have e1:=Ext.alloc hr (.map ms c)
  obtain⟨hr2,e2⟩:=hr1.newMap k2 (b:=w.heap.size) (c:=c) (es:=es) hr.bsz (fun k v x=>by
   obtain⟨_,⟨o,_,h2⟩,_⟩:=hr.maps.low _ _ _ x
   have:=(Array.getElem?_eq_some_iff.1 h2).1;omega) ⟨ms,heap_alloc_new w _,hsz,fun i e m he hmm=>by
    obtain⟨g1,g2,g3⟩:=hent i e m he hmm;exact⟨g1.mono e1.imm e1.cell,g2.mono e1.imm e1.cell,g3⟩⟩
  exact⟨_,_,rfl,e1.trans e2,hr2, .mp _ _ _ (by simp[Gh.atMap])⟩
theorem HR.moveMap{G:Gh}{B:Nat}{w0 w:World}{I0:Nat→Nat→Prop}{h:ab}(hr:HR G B w0 I0 h w){T K v:Nat}{es:List (D×D×Nat)}{c:Nat}(hT:h T=⟨v,some (.map es c)⟩)(hne:K≠T):
    ∃b,G.mloc T v=some b∧HR (G.atMap K ((h K).ver+1) b) B w0 I0 (aM (aM h T ⟨v,none⟩) K ⟨(h K).ver+1,some (.map es c)⟩) w∧Ext G w (G.atMap K ((h K).ver+1) b) w:=by
 obtain⟨b,hb,hm⟩:=hr.maps.obj T es c (by rw[hT]);have hv:(h T).ver=v:=by rw[hT]
 rw[hv]at hb
 have hr1:HR G B w0 I0 (aM h T ⟨v,none⟩) w:=hr.forget (fun k=>by
  by_cases hk:k=T
  ·subst hk;rw[ak];exact⟨hv.symm, .inl rfl⟩
  ·rw[am _ _ hk];exact⟨rfl, .inr rfl⟩)
 have hK:(aM h T ⟨v,none⟩ K).ver=(h K).ver:=by rw[am _ _ hne]
 obtain⟨ms,hms,hm'⟩:=hm;have hlow:=hr.maps.low T v b hb
 have key:=hr1.newFixO K (b:=b) (oo:=some (.map es c)) (o:= .map ms c) (fun o' e=>by cases e;rfl) hlow.1 (fun k' hkK l x=>by
  by_cases hk:k'=T
  ·subst hk;rw[ak]at l;cases l
  ·rw[am _ _ hk]at l x
   exact hk (hr.maps.inj k' T b l (by rw[hT];rfl) x (by rw[hv];exact hb))) rfl hms (fun es' c' e=>by cases e;exact⟨ms,hms,hm'⟩) (fun _ _ _ _ _ _ _ e=>by cases e) (fun _ _ _ _ e=>by cases e)
 rw[hK]at key;exact⟨b,hb,key⟩
end Go.Avm
namespace Go.Avm
variable[aJ]
theorem CY{P:Program}{G:Gh}{B:Nat}{w0 w:World}{I0:Nat→Nat→Prop}{h:ab}{env:Nat→AV}{a:Act}{op:Oper}(hr:HR G B w0 I0 h w)(hρ:∀x,Rep G w (opd env x) (a.eval x))
    {t kt et:TypeId} {m x:Operand} {k v c:Nat} {es:List (D×D×Nat)} {kd y:D} {i:Nat} {cl:Call} (hop:op.op= .call cl) (hcal:cl.callee= .builtin .delete) (hargs:cl.args= #[m,x]) (hat:cl.argTypes[0]? =some t) (hu:P.underlying t=some (.map kt et))
    (hm:opd env m= .mp k v) (hx:opd env x= .d kd) (hob:h k=⟨v,some (.map es c)⟩) (hkt:jC P kt kd=true) (hf:b8 kd es 0=some (some (i,y))):
    ∃v' w' G',(execOp a.eval op).run P w= .ok (.value v') w'∧Ext G w G' w'∧HR G' B w0 I0 (aM h k ⟨v,some (.map (es.eraseIdx i) c)⟩) w'∧Rep G' w' (.tup []) v':=by
 have hrm:=hρ m;have hrx:=hρ x;rw[hm]at hrm;rw[hx]at hrx;generalize hvm:a.eval m=vm at hrm;generalize hvx:a.eval x=vx at hrx;cases hrm with
 |mp _ _ b hL=>
 cases hrx with
 |d hkd=>
 obtain⟨b',hL',ms,hb,hsz,hent⟩:=hr.maps.obj k es c (by rw[hob]);have hver:(h k).ver=v:=by rw[hob]
 rw[hver,hL]at hL';cases hL';obtain⟨v',hfk,_,m',hm',hbits⟩:=fb hkd hkt es ms.toList (by simpa using hsz) (fun i e m he hm=>hent i e m he (by simpa using hm)) hf;have hi:i<ms.size:=by simpa using (List.getElem?_eq_some_iff.1 hm').1
 have hck:=k6 (P:=P) hkd hkt ms.isEmpty w
 have herase:(ms.eraseIdxIfInBounds i).toList=ms.toList.eraseIdx i:=by
  unfold Array.eraseIdxIfInBounds;rw[dif_pos hi];simp
 obtain⟨h1,h2⟩:=hr.setMap (k:=k) (c':=c) (ms':=ms.eraseIdxIfInBounds i) (es':=es.eraseIdx i) (by rw[hob];rfl) (by rw[hver];exact hL) hb (by
  have:=congrArg List.length herase;rw[Array.length_toList]at this;rw[this,List.length_eraseIdx,List.length_eraseIdx];simp[hsz]) (fun j e m he hm=>by
  rw[←Array.getElem?_toList,herase]at hm;rw[List.getElem?_eraseIdx]at he hm;rw[Array.getElem?_toList,Array.getElem?_toList]at hm;split at he
  ·rename_i hj;rw[if_pos hj]at hm;exact hent j e m he hm
  ·rename_i hj;rw[if_neg hj]at hm;exact hent (j+1) e m he hm)
 rw[hver]at h1;refine⟨.tuple #[],_,G, ?_,h2,h1, .tup _ _ rfl (fun i c u h=>by cases h)⟩;unfold execOp;rw[hop];show((do let d ←resolve a.eval cl op.type;invoke d.target d.args:Sem Next).run P w)=_;rw[dL cl .delete op.type a.eval hcal,hargs];simp only[builtin,Builtin.delete_,hat,Sem.run_bind,run_underlying hu,Result.andThen_ok,Go.MapKept.run_getObj_map (P:=P) hb,hck,hfk,Go.MapKept.run_setObj_map (P:=P) _ hb,Sem.run_pure,List.map_toArray,List.map_cons,List.map_nil,hvm,hvx];simp[run_underlying hu,Result.andThen,Go.MapKept.run_getObj_map (P:=P) hb,hck,hfk,Go.MapKept.run_setObj_map (P:=P) _ hb,hvm,hvx];rfl
theorem ov{X:ce}{env:Nat→AV}{h:ab}{C a T K v c:Nat}{ces:List AV}{es:List (D×D×Nat)}(hCK:C≠K)(hCT:C≠T)(hKT:K≠T)(hC:(h C).ob=some (.arr 1 ces))(ha:ces[a]? =some (.mp T v))(hT:h T=⟨v,some (.map es c)⟩):
    Weak X ⟨env,h⟩ ⟨env,aM (aM (aM h T ⟨v,none⟩) K ⟨(h K).ver+1,some (.map es c)⟩) C ⟨(h C).ver,some (.arr 1 (ces.set a (.mp K ((h K).ver+1))))⟩⟩:=fun G ac w ⟨hr,bs,hf,hs⟩=>by
 obtain⟨b,hb,hr',e⟩:=hr.moveMap (K:=K) hT hKT;have hCe:(aM (aM h T ⟨v,none⟩) K ⟨(h K).ver+1,some (.map es c)⟩ C)=h C:=by rw[am _ _ hCK,am _ _ hCT]
 have h2:=hr'.recell (C:=C) (a:=a) (x:= .mp T v) (y:= .mp K ((h K).ver+1)) (by rw[hCe];exact hC) ha rfl (fun u hu=>by
  cases hu with
  |mp _ _ b2 hL=>
   have hne:¬(T=K∧v=(h K).ver+1):=fun x=>hKT x.1.symm
   have:b2=b:=by
    have h3:(G.atMap K ((h K).ver+1) b).mloc T v=G.mloc T v:=by simp[Gh.atMap,Ne.symm hKT]
    rw[h3,hb]at hL;exact(Option.some.inj hL).symm
   subst this;exact .mp _ _ _ (by simp[Gh.atMap]))
 rw[hCe]at h2;exact⟨_,e,h2,bs,hf.mono e,hs.mono e⟩
end Go.Avm
namespace Go.Avm
open Go.RowKit
variable[aJ]
def Ey(ρ:Nat→Nat):aG→aG
 | .panic x=> .panic (aR ρ x)
 |e=>e
theorem CZ{ρ:Nat→Nat}{x:AV}(h:aR ρ x= .junk):x= .junk:=by
 cases x<;>first|rfl|(simp only[aR,reduceCtorEq]at h)
section
variable{ρ:Nat→Nat}{σ:Nat→Option Nat}(hn:Names ρ σ)
include hn
theorem Ez{X:ce}{c:Code}{env env':Nat→AV}{h h':ab}{e:aG}(hx:Ey ρ e=e)
    (ha:AW X c ⟨fun t=>aR ρ (env t),gk ρ σ h⟩ fun e2 S2=>e2=e∧(∀t,S2.env t=aR ρ (env' t))∧∀k,S2.heap (ρ k)=cg ρ (h' k)):
    AW X c ⟨env,h⟩ fun e2 S2=>e2=e∧S2=⟨env',h'⟩:=fun G a w hh=>by
 obtain⟨hr,bs,hf,hs⟩:=hh;have hg:=lw hn G
 have hh2:fc X (ot σ G) ⟨fun t=>aR ρ (env t),gk ρ σ h⟩ a w:=
  ⟨Aq hn hr,bs,⟨hf.size,hf.nod,fun t ht=>oq hg (hf.rep t ht),fun t ht=>by
   have:=hf.out t ht;simp only at this;simp only[this,aR]⟩,hs⟩
 refine wpIn_mono (ha _ a w hh2) ?_;rintro e1 a' w' ⟨e',S2,G2,x,⟨rfl,h1,h2⟩,e2,hr2,bs',hf2,hs2⟩;have hg2:=qZ ρ G2;refine⟨e',⟨env',h'⟩,Nl ρ G2, ?_,⟨rfl,rfl⟩,pe hn e2,sQ hn hr2 h2,bs',⟨hf2.size,hf2.nod,fun t ht=> ?_,fun t ht=> ?_⟩,hs2⟩
 ·cases e' with
  |panic y=>
   obtain⟨v,rfl,hv⟩:=x.panic;simp only[Ey,aG.panic.injEq]at hx;exact⟨v,rfl,iy hg2 hv y hx⟩
  |_=>cases e1<;>first|exact x|exact x.elim
 ·have:=hf2.rep t ht
  rw[h1 t]at this;exact iy hg2 this _ rfl
 ·have:=hf2.out t ht
  rw[h1 t]at this;exact CZ this
end
def Aw(C a K sz:Nat)(h:ab):Option (ab×List Nat):=
 match (h C).ob with
 |some (.arr 1 ces)=>match ces[a]? with
  |some (.mp T v)=>match h T with
   |⟨v',some (.map es c)⟩=>match Nat.beq v' v&&(!(Nat.beq C K)&&(!(Nat.beq C T)&& !(Nat.beq K T)))with
    |true=>some (aM (aM (aM h T ⟨v,none⟩) K ⟨(h K).ver+1,some (.map es c)⟩) C ⟨(h C).ver,some (.arr 1 (ces.set a (.mp K ((h K).ver+1))))⟩,[T,K])
    |false=>none
   |_=>none
  |some .nils=>match Nat.beq C K with
   |false=>some (aM (aM h K ⟨(h K).ver+1,some (.arr sz [])⟩) C ⟨(h C).ver,some (.arr 1 (ces.set a (.sl K ((h K).ver+1) 0 0 sz)))⟩,[K])
   |true=>none
  |_=>none
 |_=>none
theorem yo{X:ce}{env:Nat→AV}{C a K sz:Nat}{h h2:ab}{ks:List Nat}(e:Aw C a K sz h=some (h2,ks)):Weak X ⟨env,h⟩ ⟨env,h2⟩∧∀k,k∉ks→k≠C→h2 k=h k:=by
 unfold Aw at e;split at e;case h_2=>cases e
 rename_i ces hob;split at e
 ·rename_i T v hx
  split at e;case h_2=>cases e
  rename_i v' es c hT;split at e;case h_2=>cases e
  rename_i hc;simp only[Bool.and_eq_true,Bool.not_eq_true',Nat.beq_eq_true_eq]at hc;obtain⟨hv,h1,h2',h3⟩:=hc
  have ne:∀{x y:Nat},Nat.beq x y=false→x≠y:=fun hb e=>by
   subst e;rw[Nat.beq_refl]at hb;cases hb
  obtain rfl:=Nat.eq_of_beq_eq_true hv;simp only[Option.some.injEq,Prod.mk.injEq]at e;obtain⟨rfl,rfl⟩:=e;refine⟨ov (ne h1) (ne h2') (ne h3) hob hx hT,fun k hk hl=> ?_⟩;simp only[List.mem_cons,List.not_mem_nil,or_false,not_or]at hk;rw[am _ _ hl,am _ _ hk.2,am _ _ hk.1]
 ·rename_i hx
  split at e;case h_2=>cases e
  rename_i hb
  have hCK:C≠K:=fun e=>by
   subst e;rw[Nat.beq_refl]at hb;cases hb
  simp only[Option.some.injEq,Prod.mk.injEq]at e;obtain⟨rfl,rfl⟩:=e;refine⟨ke hCK hob hx,fun k hk hl=> ?_⟩;simp only[List.mem_cons,List.not_mem_nil,or_false]at hk;rw[am _ _ hl,am _ _ hk]
 ·cases e
def io:List (Nat×Nat)→ab→Option (ab×List Nat)
 |[],h=>some (h,[])
 |(C,a)::r,h=>match Nat.blt a 1048576 with
  |true=>match (h C).ob with
   |some (.arr 1 ces)=>match ces[a]? with
    |some x=>match view 12 h x with
     |some (d,ks)=>match d.one&& !(ks.any (Nat.beq C))with
      |true=>(io r (aM (aq h (kill h ks)) C ⟨(h C).ver,some (.arr 1 (ces.set a (.d d)))⟩)).map fun q=>(q.1,ks ++q.2)
      |false=>none
     |none=>none
    |none=>none
   |_=>none
  |false=>match Aw C (a % 1024) (a/1048576) (a/1024 % 1024) h with
   |some y=>(io r y.1).map fun q=>(q.1,y.2 ++q.2)
   |none=>none
theorem gh{X:ce}{env:Nat→AV}:∀{l:List (Nat×Nat)}{h h2:ab}{ks:List Nat},io l h=some (h2,ks)→Weak X ⟨env,h⟩ ⟨env,h2⟩∧∀k,k∉ks→k∉l.map (·.1)→h2 k=h k
 |[],h,h2,ks,e=>by
  simp only[io,Option.some.injEq,Prod.mk.injEq]at e;obtain⟨rfl,rfl⟩:=e;exact⟨Weak.refl _,fun _ _ _=>rfl⟩
 |(C,a)::r,h,h2,ks,e=>by
  simp only[io]at e;split at e
  ·split at e
   case h_2=>cases e
   rename_i ces hob;split at e;case h_2=>cases e
   rename_i x hx;split at e;case h_2=>cases e
   rename_i d ks0 hv;split at e;case h_2=>cases e
   rename_i hd;simp only[Option.map_eq_some_iff,Prod.mk.injEq]at e;obtain⟨⟨h3,ks3⟩,e3,rfl,rfl⟩:=e;rw[Bool.and_eq_true,Bool.not_eq_true']at hd;have hC:C∉ks0:=ly.1 hd.2;have hw:=gQ (X:=X) (env:=env) hC hob hx hd.1 hv;have ih:=gh (X:=X) (env:=env) e3;refine⟨hw.trans ih.1,fun k hk hl=> ?_⟩;simp only[List.mem_append,not_or]at hk;simp only[List.map_cons,List.mem_cons,not_or]at hl;show h3 k=h k;rw[ih.2 k hk.2 hl.2,am _ _ hl.1,bz,if_neg hk.1]
  ·split at e
   case h_2=>cases e
   rename_i y hy;simp only[Option.map_eq_some_iff,Prod.mk.injEq]at e;obtain⟨⟨h3,ks3⟩,e3,rfl,rfl⟩:=e;obtain⟨h1,ks1⟩:=y;have hw:=yo (X:=X) (env:=env) hy;have ih:=gh (X:=X) (env:=env) e3;refine⟨hw.1.trans ih.1,fun k hk hl=> ?_⟩;simp only[List.mem_append,not_or]at hk;simp only[List.map_cons,List.mem_cons,not_or]at hl;show h3 k=h k;rw[ih.2 k hk.2 hl.2];exact hw.2 k hk.1 hl.1
def EA(r:Option (aG×St×Nat×List Nat×az))(F:List Nat)(M:Nat)(fz:List (Nat×Nat))(l':List (Nat×AV))(post:List (Nat×aN)):Option (aG×az):=
 match r with
 |some (e,S,_,tk,ps)=>match io fz S.heap with
  |some z=>match aZ z.1 post with
   |some q=>match ((z.2 ++(tk ++fz.map (·.1))).all fun k=>Nat.blt k M)with
    |true=>some (e,ps ++(iO S.env l' ++q))
    |false=>none
   |none=>none
  |none=>none
 |none=>none
theorem ow{ρ:Nat→Nat}:∀{l:List (Nat×AV)},bT ρ (l.map (·.2))=l.map (·.2)→(l.map fun p=>(p.1,aR ρ p.2))=l
 |[],_=>rfl
 |(k,x)::r,h=>by
  simp only[List.map_cons,bT,List.cons.injEq]at h;simp only[List.map_cons,ow h.2,h.1]
theorem dX{P:Program}(hm:g0 P)(hn:co P)(pr:Par P)(n fno base N M:Nat)(fz:List (Nat×Nat)){c:Code}{l l':List (Nat×AV)}{pre post:List (Nat×aN)}{e:aG}
    (cl:Cln (pre.map (·.1)) M (l.map (·.2)) pre post) (cl':bT (dW (pre.map (·.1)) M) (l'.map (·.2))=l'.map (·.2)) (hx:Ey (dW (pre.map (·.1)) M) e=e)
    (h:∀rest:ab,mo (EA (bj P pr n fno base N c ⟨an l,al pre (eO M rest)⟩) (pre.map (·.1)) M fz l' post)=outR e (EA (bj P pr n fno base N c ⟨an l,al pre (eO M rest)⟩) (pre.map (·.1)) M fz l' post))
    (rest:ab) (X:ce) (hP:X.P=P) (hN:X.N=N):AW X c ⟨an l,al pre rest⟩ fun e' S'=>e'=e∧S'=⟨an l',al post rest⟩:=by
 refine Ez (ou cl.ltF) hx ?_
 have henv:(fun t=>aR (dW (pre.map (·.1)) M) (an l t))=an l:=by
  funext t;rw[←eN,ow cl.argsK]
 have henv':∀t,aR (dW (pre.map (·.1)) M) (an l' t)=an l' t:=fun t=>by
  rw[←eN,ow cl']
 rw[henv,cl.heap rest];have hr:=h (gk (dW (pre.map (·.1)) M) (zu (pre.map (·.1)) M) (al pre rest));obtain⟨ps,h1,hs⟩:=gg hr;unfold EA at h1;split at h1;case h_2=>cases h1
 rename_i e1 S1 b1 tk ps1 hrun;split at h1;case h_2=>cases h1
 rename_i z hz;split at h1;case h_2=>cases h1
 rename_i q hq;split at h1;case h_2=>cases h1
 rename_i hk;simp only[Option.some.injEq,Prod.mk.injEq]at h1;obtain⟨rfl,rfl⟩:=h1;have a1:=df hm hn n _ _ _ _ _ _ _ _ _ _ hrun hs.left
 have hlt:∀k,k∈z.2 ++(tk ++fz.map (·.1))→k<M:=fun k hkm=>by
  have:=List.all_eq_true.1 hk k hkm;simpa using this
 obtain⟨z1,z2⟩:=z;have hf:=gh (X:=X) (env:=S1.env) hz;refine mb ((a1.1 X hP hN).mono ?_);rintro e' S' ⟨rfl,rfl⟩;refine⟨⟨an l',al post z1⟩,hf.1.trans (od (S:=⟨S'.env,z1⟩) hs.right.left hq hs.right.right),rfl,fun t=>(henv' t).symm, ?_⟩;refine cl.behind rest (fun k hkF=> ?_) (fun k hkM=> ?_)
 ·exact gB post z1 (al post z1) (by rw[cl.postK];exact hkF)
 ·have hkF:k∉pre.map (·.1):=fun hx=>by have:=cl.ltF k hx;omega
  have hno:k∉z2 ++(tk ++fz.map (·.1)):=fun hx=>by have:=hlt k hx;omega
  simp only[List.mem_append,not_or]at hno;show al post z1 k=_;rw[b6 post z1 (by rw[cl.postK];exact hkF)];rw[hf.2 k hno.1 hno.2.2,a1.2 k hno.2.1]
theorem ba{X:ce}{c:Code}{S S1:St}{Q:aG→St→Prop}(h:AW X c S fun e' S'=>e'= .normal∧S'=S1)(hl:LW X c S1 Q):LW X c S Q:=
 Au (h.mono fun _ _ ⟨h1,h2⟩=>⟨h1,h2▸Weak.refl _⟩) hl
theorem aY{X:ce}{c:Code}{S S2:St}{e:aG}(h:AW X c S fun e' S'=>e'=e∧S'=S2)(he:e≠ .normal):LW X c S fun e' S'=>e'=e∧S'=S2:=
 Av (h.mono fun _ _ ⟨h1,h2⟩=>⟨h1,h2▸Weak.refl _⟩) he
theorem Ax{P:Program}(hm:g0 P){G:Gh}{B:Nat}{w0 w:World}{I0:Nat→Nat→Prop}{h h2:ab}{fz:List (Nat×Nat)}{ks:List Nat}(hf:io fz h=some (h2,ks))(hr:HR G B w0 I0 h w):∃G',Ext G w G' w∧HR G' B w0 I0 h2 w:=by
 let X:ce:={P:=P,B:=B,w0:=w0,I0:=I0,N:=0,mixed:=hm}
 have hw:=(gh (X:=X) (env:=fun _=> .junk) hf).1;obtain⟨G',e,h3,_⟩:=hw G {tmps:= #[],defers:=[]} w ⟨hr,[],⟨rfl,rfl,fun t ht=>absurd ht (by simp[X]),fun _ _=>rfl⟩,⟨List.nodup_nil,fun b hb=>by simp at hb,fun b hb=>by simp at hb,fun l hl=>by simp[X]at hl,Nat.zero_le _⟩⟩;exact⟨G',e,h3⟩
theorem wB{P:Program}(hm:g0 P){f:Nat}{args rs:List AV}{h h1 h2:ab}{fz:List (Nat×Nat)}{ks:List Nat}(hc:ay P f args h rs h1)(hf:io fz h1=some (h2,ks)):ay P f args h rs h2:=by
 refine⟨hc.1,fun G B w0 I0 w cargs hr hs hargs=>(hc.2 G B w0 I0 w cargs hr hs hargs).mono ?_⟩;rintro e w' ⟨v,G',rfl,e1,e2,e3⟩;obtain⟨G2,e4,e5⟩:=Ax hm hf e2;exact⟨v,G2,rfl,e1.trans e4,e5,e3.mono e4⟩
def pg(r:Option (List AV×ab×Nat×List Nat×az))(F:List Nat)(M:Nat)(fz:List (Nat×Nat))(ds:List D)(post:List (Nat×aN)):Option (aG×az):=
 match r with
 |some (rs',h',_,tk,ps)=>match io fz h' with
  |some z=>match mM z.1 rs',aZ z.1 post with
   |some v,some q=>match (v.2.all fun k=>Nat.blt k M&& !(F.any (Nat.beq k)))&&(z.2 ++(tk ++fz.map (·.1))).all fun k=>Nat.blt k M with
    |true=>some (.ret,(.ds v.1, .ds ds)::(ps ++q))
    |false=>none
   |_,_=>none
  |none=>none
 |none=>none
theorem cp{P:Program}(hm:g0 P)(hn:co P)(pr:Par P)(n base g M:Nat)(fz:List (Nat×Nat)){args:List AV}{ds:List D}{pre post:List (Nat×aN)}(c:Cln (pre.map (·.1)) M args pre post)
    (h:∀rest:ab,mo (pg (gC P (bj P pr n) base g args (al pre (eO M rest))) (pre.map (·.1)) M fz ds post)=outR .ret (pg (gC P (bj P pr n) base g args (al pre (eO M rest))) (pre.map (·.1)) M fz ds post)) (rest:ab):ay P g args (al pre rest) (ds.map .d) (al post rest):=by
 refine lz c (fun rest=> ?_) rest;obtain⟨ps,h1,hs⟩:=gg (h rest);unfold pg at h1;split at h1;case h_2=>cases h1
 rename_i rs' h' b' tk ps' hr;split at h1;case h_2=>cases h1
 rename_i z hz;obtain⟨z1,z2⟩:=z;split at h1;case h_2=>cases h1
 rename_i v q hv hq;split at h1;case h_2=>cases h1
 rename_i hk;simp only[Option.some.injEq,Prod.mk.injEq,true_and]at h1;subst h1;have g1:=hs.head;simp only[aU.ds.injEq]at g1;subst g1;rw[Bool.and_eq_true]at hk
 have hv2:∀k∈v.2,k<M∧k∉pre.map (·.1):=fun k hkv=>by
  have:=List.all_eq_true.1 hk.1 k hkv;simp only[Bool.and_eq_true,Bool.not_eq_true']at this;exact⟨by simpa using this.1,ly.1 this.2⟩
 have htk:∀k,k∈z2 ++(tk ++fz.map (·.1))→k<M:=fun k hkt=>by
  have:=List.all_eq_true.1 hk.2 k hkt;simpa using this
 obtain⟨c1,c2⟩:=eM hm hn (df hm hn n) hr hs.tail.left;have c3:=sS (wB hm c1 hz) hv;have hsub:=jg z1 post (aV hq hs.tail.right);refine⟨al post (aq z1 (kill z1 v.2)),⟨c3.1,fun G B w0 I0 w cargs hr hsz hargs=>(c3.2 G B w0 I0 w cargs hr hsz hargs).mono ?_⟩,fun k hkF=> ?_,fun k hkM=> ?_⟩
 ·rintro e w' ⟨u,G',rfl,e1,e2,e3⟩
  refine⟨u,G',rfl,e1,e2.forget fun k=> ?_,e3⟩;by_cases hkF:k∈post.map (·.1)
  ·have hnv:k∉v.2:=fun hx=>(hv2 k hx).2 (by rw[←c.postK];exact hkF)
   rw[bz,if_neg hnv,gB post _ z1 hkF];exact hsub k
  ·rw[b6 _ _ hkF]
   exact⟨rfl, .inr rfl⟩
 ·exact gB _ _ _ (by rw[c.postK];exact hkF)
 ·have hkF:k∉pre.map (·.1):=fun hx=>by have:=c.ltF k hx;omega
  rw[b6 _ _ (by rw[c.postK];exact hkF),bz,if_neg fun hx=>by have:=(hv2 k hx).1;omega];have hno:k∉z2 ++(tk ++fz.map (·.1)):=fun hx=>by have:=htk k hx;omega
  simp only[List.mem_append,not_or]at hno;have hf:=gh (X:=⟨P,0,default,fun _ _=>False,0,hm,none,0,[]⟩) (env:=fun _=> .junk) hz;rw[hf.2 k hno.1 hno.2.2];exact c2 k hno.2.1
end Go.Avm
namespace Go.Avm
structure T where
 k:Int
 p:Int
 t:List UInt8
 n:Int
 deriving Inhabited
def tD(x:T):D:= .agg [.int .u8 x.k, .int .i64 x.p, .str x.t, .int .i64 x.n]
inductive Ex where
 |mk (k o:Int) (nm:List UInt8) (n p:Int) (xs:List Ex)
inductive bu where
 |mk (k id:Int) (nm:List UInt8) (ty n p:Int) (es:List Ex) (bd el:List bu)
mutual
def fW:Ex→D
 | .mk k o nm n p xs=> .agg [.int .u8 k, .int .u8 o, .str nm, .int .i64 n, .int .i64 p, .ro (i7 xs)]
def i7:List Ex→List D
 |[]=>[]
 |x::l=>fW x::i7 l
end
mutual
def yp:bu→D
 | .mk k id nm ty n p es bd el=> .agg [.int .u8 k, .int .i64 id, .str nm, .int .u8 ty, .int .i64 n, .int .i64 p, .ro (i7 es), .ro (ep bd), .ro (ep el)]
def ep:List bu→List D
 |[]=>[]
 |x::l=>yp x::ep l
end
structure Pm where
 nm:List UInt8
 ty:Int
 p:Int
def jL(x:Pm):D:= .agg [.str x.nm, .int .u8 x.ty, .int .i64 x.p]
structure Fn where
 nm:List UInt8
 ps:List Pm
 res:Int
 bd:List bu
 p:Int
def cW(x:Fn):D:= .agg [.str x.nm, .ro (x.ps.map jL), .int .u8 x.res, .ro (ep x.bd), .int .i64 x.p]
theorem mc:∀l,i7 l=l.map fW
 |[]=>rfl
 |x::l=>by simp[i7,mc l]
theorem oz:∀l,ep l=l.map yp
 |[]=>rfl
 |x::l=>by simp[ep,oz l]
theorem H1(l m:List bu):ep (l ++m)=ep l ++ep m:=by simp[oz]
theorem dY(l:List Ex):(i7 l).length=l.length:=by simp[mc]
theorem md(l:List bu):(ep l).length=l.length:=by simp[oz]
structure RS where
 i:Nat
 op:Int
 n:Int
inductive Res(α:Type) where
 |ok (a:α) (s:RS)
 |bad (p e:Int) (s:RS)
 |out
def Res.bind{α β:Type}(r:Res α)(f:α→RS→Res β):Res β:=match r with
 | .ok a s=>f a s
 | .bad p e s=> .bad p e s
 | .out=> .out
def dD(x:Int):Int:=IntKind.wrap .i64 x
section
variable(L:List T)
def bt(s:RS):T:=L.getD s.i default
def isT(s:RS)(x:List UInt8):Bool:=((bt L s).k==2||(bt L s).k==4)&&(bt L s).t==x
def RS.nx(s:RS):RS:={s with i:=s.i+1}
def fail{α:Type}(s:RS):Res α:= .bad (bt L s).p 4 s
def aE(x:List UInt8)(s:RS):Res T:=
 bif isT L s x then
  bif x==[40]||x==[91]||x==[123]then
   bif decide (200<dD (s.op+1))then .bad (bt L s).p 5 {s with op:=dD (s.op+1)}else .ok (bt L s) ⟨s.i+1,dD (s.op+1),s.n⟩
  else bif x==[41]||x==[93]||x==[125]then .ok (bt L s) ⟨s.i+1,dD (s.op-1),s.n⟩
  else .ok (bt L s) s.nx
 else fail L s
def dt(k:Int)(s:RS):Res T:=bif (bt L s).k==k then .ok (bt L s) s.nx else fail L s
def ci(x:List UInt8)(s:RS):Res Bool:=bif isT L s x then (aE L x s).bind fun _ s=> .ok true s else .ok false s
def dM:Int→List UInt8
 |1=>[105,110,116]
 |2=>[98,111,111,108]
 |3=>[97,114,114]
 |_=>[]
def dP:List Int→RS→Res Int
 |[],s=>fail L s
 |k::r,s=>(ci L (dM k) s).bind fun b s=>bif b then .ok k s else dP r s
def uS:List (Int×List UInt8×Int):=[(1,[43],9),(2,[45],9),(3,[42],10),(4,[47],10),(5,[37],10),(6,[38],7),(7,[124],5),(8,[94],6),(9,[60,60],8),(10,[62,62],8),(11,[60],4),(12,[60,61],4),(13,[62],4),(14,[62,61],4),(15,[61,61],3),(16,[33,61],3),(17,[38,38],2),(18,[124,124],1)]
def eV(s:RS)(aa:Int):List (Int×List UInt8×Int)→Int×Int
 |[]=>(0,0)
 |(o,x,k)::r=>bif decide (aa≤k)&&isT L s x then (o,k)else eV s aa r
def dj(aa:Int)(s:RS):Int×Int:=eV L s aa uS
mutual
def eP:Nat→RS→Res Ex
 |0,_=> .out
 |n+1,s=>(ci L [45] s).bind fun b s1=>bif b then (eP n s1).bind fun e s2=> .ok (.mk 8 19 [] 0 (bt L s).p [e]) s2 else
  (ci L [126] s1).bind fun b s1=>bif b then (eP n s1).bind fun e s2=> .ok (.mk 8 20 [] 0 (bt L s).p [e]) s2 else
  (ci L [33] s1).bind fun b s1=>bif b then (eP n s1).bind fun e s2=> .ok (.mk 8 21 [] 0 (bt L s).p [e]) s2 else
  bif (bt L s).k==3 then .ok (.mk 1 0 [] (bt L s).n (bt L s).p []) s1.nx else
  (ci L [116,114,117,101] s1).bind fun b s1=>bif b then .ok (.mk 2 0 [] 1 (bt L s).p []) s1 else
  (ci L [102,97,108,115,101] s1).bind fun b s1=>bif b then .ok (.mk 2 0 [] 0 (bt L s).p []) s1 else
  (ci L [114,101,97,100] s1).bind fun b s1=>bif b then (aE L [40] s1).bind fun _ s2=>(aE L [41] s2).bind fun _ s3=> .ok (.mk 6 0 [] 0 (bt L s).p []) s3 else
  (ci L [108,101,110] s1).bind fun b s1=>bif b then (aE L [40] s1).bind fun _ s2=>(dt L 1 s2).bind fun t s3=>(aE L [41] s3).bind fun _ s4=> .ok (.mk 7 0 t.t 0 (bt L s).p []) s4 else
  bif isT L s1 [40]then (aE L [40] s1).bind fun _ s2=>(bv n 1 s2).bind fun e s3=>(aE L [41] s3).bind fun _ s4=> .ok e s4 else
  (dt L 1 s1).bind fun t s2=>bif isT L s2 [91]then (cP n s2).bind fun e s3=> .ok (.mk 4 0 t.t 0 (bt L s).p [e]) s3 else
  bif isT L s2 [40]then (du n t.t (bt L s).p s2).bind fun e s3=> .ok e s3 else .ok (.mk 3 0 t.t 0 (bt L s).p []) s2
def cP:Nat→RS→Res Ex
 |0,_=> .out
 |n+1,s=>(aE L [91] s).bind fun _ s1=>(bv n 1 s1).bind fun e s2=>(aE L [93] s2).bind fun _ s3=> .ok e s3
def du:Nat→List UInt8→Int→RS→Res Ex
 |0,_,_,_=> .out
 |n+1,nm,p,s=>(eS n s).bind fun l s1=> .ok (.mk 5 0 nm 0 p l) s1
def eS:Nat→RS→Res (List Ex)
 |0,_=> .out
 |n+1,s=>(aE L [40] s).bind fun _ s1=>bif isT L s1 [41]then (aE L [41] s1).bind fun _ s2=> .ok [] s2 else
  (bv n 1 s1).bind fun e s2=>(d8 n [e] s2).bind fun l s3=>(aE L [41] s3).bind fun _ s4=> .ok l s4
def d8:Nat→List Ex→RS→Res (List Ex)
 |0,_,_=> .out
 |n+1,l,s=>(ci L [44] s).bind fun b s1=>bif b then (bv n 1 s1).bind fun e s2=>d8 n (l ++[e]) s2 else .ok l s1
def bv:Nat→Int→RS→Res Ex
 |0,_,_=> .out
 |n+1,aa,s=>(eP n s).bind fun e s1=>dw n aa e s1
def dw:Nat→Int→Ex→RS→Res Ex
 |0,_,_,_=> .out
 |n+1,aa,e,s=>bif (dj L aa s).1==0 then .ok e s else
  (bv n (dD ((dj L aa s).2+1)) s.nx).bind fun r s2=>dw n aa (.mk 9 (dj L aa s).1 [] 0 (bt L s).p [e,r]) s2
end
def ip(n:Nat)(id p:Int)(s1:RS):Res bu:=
 (dt L 1 s1).bind fun t s2=>(aE L [58] s2).bind fun _ s3=>(dP L [1,2,3] s3).bind fun ty s4=>
  bif ty==3 then (aE L [91] s4).bind fun _ s5=>(dt L 3 s5).bind fun m s6=>(aE L [93] s6).bind fun _ s7=>(aE L [59] s7).bind fun _ s8=> .ok (.mk 1 id t.t ty m.n p [] [] []) s8
  else (ci L [61] s4).bind fun b s5=>bif b then (bv L n 1 s5).bind fun e s6=>(aE L [59] s6).bind fun _ s7=> .ok (.mk 1 id t.t ty 0 p [e] [] []) s7
  else (aE L [59] s5).bind fun _ s6=> .ok (.mk 1 id t.t ty 0 p [] [] []) s6
def cE(n:Nat)(id p:Int)(s1:RS):Res bu:=
 (dt L 1 s1).bind fun t s2=>bif isT L s2 [40]then
  (du L n t.t p s2).bind fun e s3=>(aE L [59] s3).bind fun _ s4=> .ok (.mk 8 id [] 0 0 p [e] [] []) s4
 else bif isT L s2 [91]then
  (cP L n s2).bind fun e s3=>(aE L [61] s3).bind fun _ s4=>(bv L n 1 s4).bind fun f s5=>(aE L [59] s5).bind fun _ s6=> .ok (.mk 3 id t.t 0 0 p [e,f] [] []) s6
 else (aE L [61] s2).bind fun _ s3=>(bv L n 1 s3).bind fun e s4=>(aE L [59] s4).bind fun _ s5=> .ok (.mk 2 id t.t 0 0 p [e] [] []) s5
def RS.st(s:RS):RS:={s with n:=dD (s.n+1)}
mutual
def bM:Nat→RS→Res (List bu)
 |0,_=> .out
 |n+1,s=>(aE L [123] s).bind fun _ s1=>(cF n [] s1).bind fun l s2=>(aE L [125] s2).bind fun _ s3=> .ok l s3
def cF:Nat→List bu→RS→Res (List bu)
 |0,_,_=> .out
 |n+1,l,s=>bif isT L s [125]then .ok l s else (ej n s).bind fun x s1=>cF n (l ++[x]) s1
def ej:Nat→RS→Res bu
 |0,_=> .out
 |n+1,s0=>
  (ci L [108,101,116] s0.st).bind fun b s1=>bif b then (ip L n s0.st.n (bt L s0.st).p s1).bind fun x s2=> .ok x s2
  else (ci L [105,102] s1).bind fun b s1=>bif b then
   (bv L n 1 s1).bind fun e s2=>(bM n s2).bind fun l s3=>(ci L [101,108,115,101] s3).bind fun b s4=>
    bif b then (bM n s4).bind fun m s5=> .ok (.mk 4 s0.st.n [] 0 0 (bt L s0.st).p [e] l m) s5 else .ok (.mk 4 s0.st.n [] 0 0 (bt L s0.st).p [e] l []) s4
  else (ci L [119,104,105,108,101] s1).bind fun b s1=>bif b then
   (bv L n 1 s1).bind fun e s2=>(bM n s2).bind fun l s3=> .ok (.mk 5 s0.st.n [] 0 0 (bt L s0.st).p [e] l []) s3
  else (ci L [114,101,116,117,114,110] s1).bind fun b s1=>bif b then
   bif isT L s1 [59]then (aE L [59] s1).bind fun _ s2=> .ok (.mk 6 s0.st.n [] 0 0 (bt L s0.st).p [] [] []) s2
   else (bv L n 1 s1).bind fun e s2=>(aE L [59] s2).bind fun _ s3=> .ok (.mk 6 s0.st.n [] 0 0 (bt L s0.st).p [e] [] []) s3
  else (ci L [112,114,105,110,116] s1).bind fun b s1=>bif b then
   (bv L n 1 s1).bind fun e s2=>(aE L [59] s2).bind fun _ s3=> .ok (.mk 7 s0.st.n [] 0 0 (bt L s0.st).p [e] [] []) s3
  else (cE L n s0.st.n (bt L s0.st).p s1).bind fun x s2=> .ok x s2
end
def eW(s:RS):Res Pm:=(dt L 1 s).bind fun t s1=>(aE L [58] s1).bind fun _ s2=>(dP L [1,2,3] s2).bind fun k s3=> .ok ⟨t.t,k,t.p⟩ s3
def cG:Nat→List Pm→RS→Res (List Pm)
 |0,_,_=> .out
 |n+1,l,s=>(ci L [44] s).bind fun b s1=>bif b then (eW L s1).bind fun e s2=>cG n (l ++[e]) s2 else .ok l s1
def cQ(n:Nat)(s:RS):Res (List Pm):=(aE L [40] s).bind fun _ s1=>bif isT L s1 [41]then (aE L [41] s1).bind fun _ s2=> .ok [] s2 else
    (eW L s1).bind fun e s2=>(cG L n [e] s2).bind fun l s3=>(aE L [41] s3).bind fun _ s4=> .ok l s4
def qg(n:Nat)(s:RS):Res Fn:=(aE L [102,110] s).bind fun t s1=>(dt L 1 s1).bind fun u s2=>(cQ L n s2).bind fun ps s3=>(ci L [58] s3).bind fun b s4=>
 bif b then (dP L [1,2] s4).bind fun k s5=>(bM L n s5).bind fun l s6=> .ok ⟨u.t,ps,k,l,t.p⟩ s6
 else (bM L n s4).bind fun l s5=> .ok ⟨u.t,ps,0,l,t.p⟩ s5
def fA(N:Nat):Nat→List Fn→RS→Res (List Fn)
 |0,_,_=> .out
 |n+1,l,s=>bif (bt L s).k==0 then .ok l s else (qg L N s).bind fun f s1=>fA N n (l ++[f]) s1
def cT(n:Nat):Res (List Fn):=(qg L n ⟨0,0,0⟩).bind fun f s1=>fA L n n [f] s1
end
def Gr{α:Type}(s:RS)(r:Res α):Prop:=∀a s',r= .ok a s'→s.i<s'.i
def Gq{α:Type}(s:RS)(r:Res α):Prop:=∀a s',r= .ok a s'→s.i≤s'.i
theorem Gr.le{α:Type}{s:RS}{r:Res α}(h:Gr s r):Gq s r:=fun a s' e=>Nat.le_of_lt (h a s' e)
theorem Gr.bind{α β:Type}{s:RS}{r:Res α}{f:α→RS→Res β}(h:Gr s r)(hf:∀a s',r= .ok a s'→Gq s' (f a s')):Gr s (r.bind f):=fun b s2 e=>by
 cases r with
 |ok a s1=>exact Nat.lt_of_lt_of_le (h a s1 rfl) (hf a s1 rfl b s2 e)
 |bad p q s1=>cases e
 |out=>cases e
theorem Gq.bind{α β:Type}{s:RS}{r:Res α}{f:α→RS→Res β}(h:Gq s r)(hf:∀a s',r= .ok a s'→Gr s' (f a s')):Gr s (r.bind f):=fun b s2 e=>by
 cases r with
 |ok a s1=>exact Nat.lt_of_le_of_lt (h a s1 rfl) (hf a s1 rfl b s2 e)
 |bad p q s1=>cases e
 |out=>cases e
theorem Gq.bindq{α β:Type}{s:RS}{r:Res α}{f:α→RS→Res β}(h:Gq s r)(hf:∀a s',r= .ok a s'→Gq s' (f a s')):Gq s (r.bind f):=fun b s2 e=>by
 cases r with
 |ok a s1=>exact Nat.le_trans (h a s1 rfl) (hf a s1 rfl b s2 e)
 |bad p q s1=>cases e
 |out=>cases e
theorem Gq.ok{α:Type}(a:α)(s:RS):Gq s (.ok a s):=fun _ _ e=>by cases e;exact Nat.le_refl _
theorem Gq.out{α:Type}(s:RS):Gq s (Res.out:Res α):=fun _ _ e=>by cases e
theorem Gr.out{α:Type}(s:RS):Gr s (Res.out:Res α):=fun _ _ e=>by cases e
theorem aO(L:List T)(x:List UInt8)(s:RS):Gr s (aE L x s):=fun a s' e=>by
 unfold aE at e;cases h:isT L s x<;>rw[h]at e
 ·cases e
 ·simp only[cond_true]at e
  cases h1:(x==[40]||x==[91]||x==[123])<;>rw[h1]at e
  ·simp only[cond_false]at e
   cases h2:(x==[41]||x==[93]||x==[125])<;>rw[h2]at e<;>cases e<;>exact Nat.lt_succ_self _
  ·simp only[cond_true]at e
   cases h2:decide (200<dD (s.op+1))<;>rw[h2]at e<;>cases e
   exact Nat.lt_succ_self _
theorem iq(L:List T)(k:Int)(s:RS):Gr s (dt L k s):=fun a s' e=>by
 unfold dt at e;cases h:((bt L s).k==k)<;>rw[h]at e<;>cases e
 exact Nat.lt_succ_self _
theorem EB(L:List T)(x:List UInt8)(s:RS):Gq s (ci L x s):=fun a s' e=>by
 unfold ci at e;cases h:isT L s x<;>rw[h]at e
 ·cases e;exact Nat.le_refl _
 ·exact((aO L x s).bind fun _ _ _=>Gq.ok _ _) a s' e|>Nat.le_of_lt
theorem Gr.mayT{α:Type}{L:List T}{x:List UInt8}{s:RS}{X Y:RS→Res α}(hX:∀s',s.i<s'.i→Gq s' (X s'))(hY:Gr s (Y s)):Gr s ((ci L x s).bind fun b s1=>bif b then X s1 else Y s1):=fun a s' e=>by
 unfold ci at e;cases h:isT L s x<;>rw[h]at e
 ·exact hY a s' e
 ·simp only[cond_true]at e
  cases hw:aE L x s<;>rw[hw]at e
  ·rename_i t s1
   have:=aO L x s t s1 hw;exact Nat.lt_of_lt_of_le this (hX s1 this a s' e)
  ·cases e
  ·cases e
theorem Gr.ite{α:Type}{c:Bool}{s:RS}{X Y:Res α}(hX:Gr s X)(hY:Gr s Y):Gr s (bif c then X else Y):=by cases c<;>assumption
theorem Gq.ite{α:Type}{c:Bool}{s:RS}{X Y:Res α}(hX:Gq s X)(hY:Gq s Y):Gq s (bif c then X else Y):=by cases c<;>assumption
theorem q0(L:List T):∀n,(∀s,Gr s (eP L n s))∧(∀s,Gr s (cP L n s))∧(∀nm p s,Gr s (du L n nm p s))∧(∀s,Gr s (eS L n s))∧(∀l s,Gq s (d8 L n l s))∧(∀k s,Gr s (bv L n k s))∧(∀k e s,Gq s (dw L n k e s))
 |0=>⟨fun s=>Gr.out s,fun s=>Gr.out s,fun _ _ s=>Gr.out s,fun s=>Gr.out s,fun _ s=>Gq.out s,fun _ s=>Gr.out s,fun _ _ s=>Gq.out s⟩
 |n+1=>by
  obtain⟨h1,h2,h3,h4,h5,h6,h7⟩:=q0 L n;refine⟨fun s=> ?_,fun s=> ?_,fun nm p s=> ?_,fun s=> ?_,fun l s=> ?_,fun k s=> ?_,fun k e s=> ?_⟩
  ·simp only[eP]
   have un:∀(f:Ex→Ex) s',Gq s' ((eP L n s').bind fun e s2=> .ok (f e) s2):=fun f s'=>((h1 s').bind fun _ _ _=>Gq.ok _ _).le
   refine Gr.mayT (fun s' _=>un _ s') (Gr.mayT (fun s' _=>un _ s') (Gr.mayT (fun s' _=>un _ s') (Gr.ite (fun _ _ e=>by cases e;exact Nat.lt_succ_self _) ?_)));refine Gr.mayT (fun s' _=>Gq.ok _ _) (Gr.mayT (fun s' _=>Gq.ok _ _) ?_);refine Gr.mayT (fun s' _=>((aO L _ s').bind fun _ _ _=>((aO L _ _).bind fun _ _ _=>Gq.ok _ _).le).le) ?_;refine Gr.mayT (fun s' _=>((aO L _ s').bind fun _ _ _=>((iq L _ _).bind fun _ _ _=>((aO L _ _).bind fun _ _ _=>Gq.ok _ _).le).le).le) ?_;refine Gr.ite ((aO L _ s).bind fun _ _ _=>((h6 _ _).bind fun _ _ _=>((aO L _ _).bind fun _ _ _=>Gq.ok _ _).le).le) ?_;refine(iq L _ s).bind fun _ s' _=>Gq.ite ((h2 s').bind fun _ _ _=>Gq.ok _ _).le (Gq.ite ((h3 _ _ s').bind fun _ _ _=>Gq.ok _ _).le (Gq.ok _ _))
  ·simp only[cP]
   exact(aO L _ s).bind fun _ _ _=>((h6 _ _).bind fun _ _ _=>((aO L _ _).bind fun _ _ _=>Gq.ok _ _).le).le
  ·simp only[du]
   exact(h4 s).bind fun _ _ _=>Gq.ok _ _
  ·simp only[eS]
   exact(aO L _ s).bind fun _ s1 _=>Gq.ite ((aO L _ s1).bind fun _ _ _=>Gq.ok _ _).le ((h6 _ s1).bind fun _ s2 _=>(h5 _ s2).bindq fun _ s3 _=>((aO L _ s3).bind fun _ _ _=>Gq.ok _ _).le).le
  ·simp only[d8]
   intro a s' e;unfold ci at e;cases h:isT L s [44]<;>rw[h]at e
   ·cases e;exact Nat.le_refl _
   ·simp only[cond_true]at e
    cases hw:aE L [44] s<;>rw[hw]at e
    ·rename_i t s1
     have g1:=aO L _ s t s1 hw;exact Nat.le_trans (Nat.le_of_lt g1) (((h6 1 s1).bind fun _ s2 _=>h5 _ s2).le a s' e)
    ·cases e
    ·cases e
  ·simp only[bv]
   exact(h1 s).bind fun _ s1 _=>h7 _ _ s1
  ·simp only[dw]
   refine Gq.ite (Gq.ok _ _) (fun a s' e2=> ?_);have:=((h6 (dD ((dj L k s).2+1)) s.nx).bind fun _ s2 _=>h7 _ _ s2) a s' e2;simp only[RS.nx]at this;omega
theorem uT(L:List T)(n:Nat)(k:Int)(s:RS)(a:Ex)(s2:RS)(h:bv L n k s= .ok a s2):s.i<s2.i:=(q0 L n).2.2.2.2.2.1 k s a s2 h
theorem jk(L:List T)(n:Nat)(k:Int)(s:RS):Gr s (bv L n k s):=(q0 L n).2.2.2.2.2.1 k s
theorem oA(L:List T):∀(l:List Int)(s:RS),Gr s (dP L l s)
 |[],s=>fun _ _ e=>by cases e
 |k::r,s=>by
  simp only[dP];exact Gr.mayT (fun s' _=>Gq.ok _ _) (oA L r s)
theorem EC(L:List T)(n:Nat)(id p:Int)(s:RS):Gr s (ip L n id p s):=by
 unfold ip;refine(iq L _ s).bind fun _ s2 _=>((aO L _ s2).bind fun _ s3 _=>((oA L _ s3).bind fun _ s4 _=>Gq.ite ?_ ?_).le).le
 ·exact((aO L _ s4).bind fun _ s5 _=>((iq L _ s5).bind fun _ s6 _=>((aO L _ s6).bind fun _ s7 _=>((aO L _ s7).bind fun _ _ _=>Gq.ok _ _).le).le).le).le
 ·exact(Gr.mayT (fun s' _=>((jk L n 1 s').bind fun _ s6 _=>((aO L _ s6).bind fun _ _ _=>Gq.ok _ _).le).le) ((aO L _ s4).bind fun _ _ _=>Gq.ok _ _)).le
theorem yq(L:List T)(n:Nat)(id p:Int)(s:RS):Gr s (cE L n id p s):=by
 unfold cE;obtain⟨_,h2,h3,_⟩:=q0 L n;refine(iq L _ s).bind fun _ s2 _=>Gq.ite ((h3 _ _ s2).bind fun _ s3 _=>((aO L _ s3).bind fun _ _ _=>Gq.ok _ _).le).le (Gq.ite ?_ ?_)
 ·exact((h2 s2).bind fun _ s3 _=>((aO L _ s3).bind fun _ s4 _=>((jk L n 1 s4).bind fun _ s5 _=>((aO L _ s5).bind fun _ _ _=>Gq.ok _ _).le).le).le).le
 ·exact((aO L _ s2).bind fun _ s3 _=>((jk L n 1 s3).bind fun _ s4 _=>((aO L _ s4).bind fun _ _ _=>Gq.ok _ _).le).le).le
theorem Gr.st{α:Type}{s:RS}{r:Res α}(h:Gr s.st r):Gr s r:=fun a s' e=>h a s' e
theorem me(L:List T):∀n,(∀s,Gr s (bM L n s))∧(∀l s,Gq s (cF L n l s))∧(∀s,Gr s (ej L n s))
 |0=>⟨fun s=>Gr.out s,fun _ s=>Gq.out s,fun s=>Gr.out s⟩
 |n+1=>by
  obtain⟨h1,h2,h3⟩:=me L n;refine⟨fun s=> ?_,fun l s=> ?_,fun s=> ?_⟩
  ·simp only[bM]
   exact(aO L _ s).bind fun _ s1 _=>(h2 _ s1).bindq fun _ s2 _=>((aO L _ s2).bind fun _ _ _=>Gq.ok _ _).le
  ·simp only[cF]
   exact Gq.ite (Gq.ok _ _) ((h3 s).bind fun _ s1 _=>h2 _ s1).le
  ·simp only[ej]
   refine Gr.st (Gr.mayT (fun s' _=>((EC L n _ _ s').bind fun _ _ _=>Gq.ok _ _).le) (Gr.mayT (fun s' _=> ?_) (Gr.mayT (fun s' _=> ?_) (Gr.mayT (fun s' _=> ?_) (Gr.mayT (fun s' _=> ?_) ?_)))))
   ·exact((jk L n 1 s').bind fun _ s2 _=>((h1 s2).bind fun _ s3 _=>(EB L _ s3).bindq fun b s4 _=>Gq.ite ((h1 s4).bind fun _ _ _=>Gq.ok _ _).le (Gq.ok _ _)).le).le
   ·exact((jk L n 1 s').bind fun _ s2 _=>((h1 s2).bind fun _ _ _=>Gq.ok _ _).le).le
   ·exact Gq.ite ((aO L _ s').bind fun _ _ _=>Gq.ok _ _).le ((jk L n 1 s').bind fun _ s2 _=>((aO L _ s2).bind fun _ _ _=>Gq.ok _ _).le).le
   ·exact((jk L n 1 s').bind fun _ s2 _=>((aO L _ s2).bind fun _ _ _=>Gq.ok _ _).le).le
   ·exact(yq L n _ _ _).bind fun _ _ _=>Gq.ok _ _
end Go.Avm
namespace Go.Avm
structure Vr where
 nm:List UInt8
 ty:Int
 n:Int
 st:Int
 deriving Inhabited
def q5(x:Vr):D:= .agg [.str x.nm, .int .u8 x.ty, .int .i64 x.n, .int .i64 x.st]
structure Pt where
 fn:Int
 seen:List Nat
 sure:List Nat
def bW(l:List Nat):List D:=l.map fun n:Nat=>D.int .i64 (n:Int)
def ED(x:Pt):D:= .agg [.int .i64 x.fn, .ro (bW x.seen), .ro (bW x.sure)]
def dx:Pt:=⟨0,[],[]⟩
inductive TR(α:Type) where
 |ok (a:α)
 |bad (p e:Int)
 |out
def TR.bind{α β:Type}:TR α→(α→TR β)→TR β
 | .ok a,k=>k a
 | .bad p e,_=> .bad p e
 | .out,_=> .out
abbrev hQ:=List (List UInt8×Nat)
structure SureL where
 l:List (Nat×Nat)
 c:Nat
structure TE where
 fs:List Fn
 vars:List Vr
 seen:hQ
 sure:SureL
def eA(x:List UInt8):hQ→Nat→Option (Nat×Nat)
 |[],_=>none
 |e::r,i=>bif x==e.1 then some (i,e.2)else eA x r (i+1)
def bw(x:List UInt8):List Fn→Nat→Option (Nat×Fn)
 |[],_=>none
 |e::r,i=>bif x==e.nm then some (i,e)else bw x r (i+1)
def bQ(x:Nat):List (Nat×Nat)→Nat→Option Nat
 |[],_=>none
 |e::r,i=>bif x==e.1 then some i else bQ x r (i+1)
def SureL.has(q:SureL)(i:Nat):Bool:=(bQ i q.l 0).isSome
def SureL.put(q:SureL)(i:Nat):SureL:=bif q.has i then q else ⟨q.l ++[(i,q.c)],q.c+1⟩
def SureL.both(a b:SureL):SureL:=⟨a.l.filter fun e=>b.has e.1,a.c⟩
def Qw:Ex→Int
 | .mk _ _ _ _ p _=>p
def kf(E:TE)(nm:List UInt8)(p:Int):TR (Nat×Vr):=match eA nm E.seen 0 with
 |some (_,i)=> .ok (i,E.vars.getD i default)
 |none=> .bad p 6
def nc(E:TE)(nm:List UInt8)(p:Int):TR Unit:=(kf E nm p).bind fun r=>bif r.2.ty==3 then .ok ()else .bad p 8
mutual
def dy(E:TE):Ex→TR Int
 | .mk k o nm _ p xs=>
  bif k==2 then .ok 2
  else bif k==3 then (kf E nm p).bind fun r=>bif E.sure.has r.1 then .ok r.2.ty else .bad p 10
  else bif k==4 then (nc E nm p).bind fun _=>(aB E xs [[1]] false).bind fun _=> .ok 1
  else bif k==7 then (nc E nm p).bind fun _=> .ok 1
  else bif k==5 then match bw nm E.fs 0 with
   |none=> .bad p 6
   |some (_,f)=>bif f.ps.length==xs.length then (aB E xs (f.ps.map fun q=>[q.ty]) false).bind fun _=> .ok f.res else .bad p 9
  else bif k==8 then (bif o==21 then (aB E xs [[2]] false).bind fun _=> .ok 2 else (aB E xs [[1]] false).bind fun _=> .ok 1)
  else bif k==9 then bif decide (xs.length<2)then .out else (bif o==17||o==18 then (aB E xs [[2],[2]] false).bind fun _=> .ok 2
   else bif o==15||o==16 then (aB E xs [[1,2],[]] true).bind fun _=> .ok 2
   else (aB E xs [[1],[1]] false).bind fun _=> .ok (bif decide (11≤o)then 2 else 1))
  else .ok 1
def aB(E:TE):List Ex→List (List Int)→Bool→TR Unit
 |_,[],_=> .ok ()
 |[],_::_,_=> .out
 |x::xs,ts::r,eq=>(dy E x).bind fun t=>bif ts.contains t then aB E xs (bif eq then [[t]]else r) false else .bad (Qw x) 8
end
def b9(E:TE)(x:Ex)(ts:List Int):TR Int:=(dy E x).bind fun t=>bif ts.contains t then .ok t else .bad (Qw x) 8
structure CS where
 vars:List Vr
 seen:hQ
 sure:SureL
 pts:List Pt
def To:bu→Int
 | .mk _ _ _ _ _ p _ _ _=>p
mutual
def kg:bu→Bool
 | .mk k _ _ _ _ _ _ bd el=>k==6||(k==4&&(cU bd&&cU el))
def cU:List bu→Bool
 |[]=>false
 |s::r=>match r with
  |[]=>kg s
  |_::_=>cU r
end
def CS.te(fs:List Fn)(c:CS):TE:=⟨fs,c.vars,c.seen,c.sure⟩
def CS.pt(fn:Nat)(c:CS):Pt:=⟨(fn:Int),c.seen.map (·.2),(c.seen.map (·.2)).filter c.sure.has⟩
def CS.add(c:CS)(v:Vr):CS:={c with vars:=c.vars ++[v],seen:=c.seen ++[(v.nm,c.vars.length)]}
def oB(fs:List Fn)(deep:Int)(nm:List UInt8)(id ty n p:Int)(es:List Ex)(c:CS):TR CS:=
 bif decide (1000000≤es.length)then .out else (aB (c.te fs) es (es.map fun _=>[ty]) false).bind fun _=>
 bif decide (1000000<nm.length)then .out
 else bif c.vars.any fun v=>v.nm==nm then .bad p 7
 else bif ty==3&& !(deep==0)then .bad p 3
 else bif ty==3&& !(decide (1≤n)&&decide (n≤256))then .bad p 1
 else bif decide (255≤c.vars.length)then .bad p 2
 else .ok (bif ty==3|| !es.isEmpty then {c.add ⟨nm,ty,n,id⟩with sure:=c.sure.put c.vars.length}else c.add ⟨nm,ty,n,id⟩)
def gR(fs:List Fn)(fn:Nat)(p:Int)(es:List Ex)(c:CS):TR CS:=match fs[fn]? with
 |none=> .out
 |some f=>bif f.res==0 then match es with
     |[]=> .ok c
     |x::_=>(dy (c.te fs) x).bind fun _=> .bad (Qw x) 8
  else match es with
   |[]=> .bad p 8
   |x::_=>(b9 (c.te fs) x [f.res]).bind fun _=> .ok c
mutual
def dz(fs:List Fn)(fn:Nat)(deep:Int):bu→CS→TR CS
 | .mk k id nm ty n p es bd el,c0=>
  bif id==(c0.pts.length:Int)&&decide (c0.pts.length<900000000)then
   let c:={c0 with pts:=c0.pts ++[c0.pt fn]}
   bif k==1 then oB fs deep nm id ty n p es c
   else bif k==2 then (kf (c.te fs) nm p).bind fun r=>bif r.2.ty==3 then .bad p 8 else (aB (c.te fs) es [[r.2.ty]] false).bind fun _=> .ok {c with sure:=c.sure.put r.1}
   else bif k==3 then (nc (c.te fs) nm p).bind fun _=>(aB (c.te fs) es [[1],[1]] false).bind fun _=> .ok c
   else bif k==4 then (aB (c.te fs) es [[2]] false).bind fun _=>
    (aX fs fn (dD (deep+1)) false bd c).bind fun a=>
    (aX fs fn (dD (deep+1)) false el {a with seen:=c.seen,sure:=c.sure}).bind fun b=>
    .ok {b with seen:=c.seen,sure:=bif cU bd then b.sure else bif cU el then a.sure else a.sure.both b.sure}
   else bif k==5 then (aB (c.te fs) es [[2]] false).bind fun _=>
    (aX fs fn (dD (deep+1)) false bd c).bind fun a=> .ok {a with seen:=c.seen,sure:=c.sure}
   else bif k==6 then gR fs fn p es c
   else bif k==7 then (aB (c.te fs) es [[1,2]] false).bind fun _=> .ok c
   else bif k==8 then (match es with
    |[]=> .out
    |x::_=>(dy (c.te fs) x).bind fun _=> .ok c)
   else .ok c
  else .out
def aX(fs:List Fn)(fn:Nat)(deep:Int):Bool→List bu→CS→TR CS
 |_,[],c=> .ok c
 |prev,s::r,c=>bif prev then .bad (To s) 11 else (dz fs fn deep s c).bind fun c'=>aX fs fn deep (kg s) r c'
end
end Go.Avm
