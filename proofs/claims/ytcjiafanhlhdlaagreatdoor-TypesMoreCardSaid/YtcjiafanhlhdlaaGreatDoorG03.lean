/-
  The abstract machine, part Kb: maps; a string's byte.
-/
import Derived.Test.YtcjiafanhlhdlaaGreatDoorG02
import Derived.MapKept
import Derived.WideKeyRuns
import Derived.Laws.IdiomStrings
import Derived.Lib.UnsafeStr
import Derived.RangeFuncRecord
import Derived.OrdersIn
import Derived.RangeFuncCalls
import Derived.Laws.StandIn
import Derived.Orders
set_option linter.unusedVariables false
set_option linter.unusedSimpArgs false
set_option linter.unusedSectionVars false
namespace Go.Avm
open Go.RowKit
variable[aJ]
variable{P:Program}{G:Gh}{B:Nat}{w0 w:World}{I0:Nat→Nat→Prop}{h:ab}
theorem HR.allocAny(hr:HR G B w0 I0 h w)(o:Obj):HR G B w0 I0 h (w.alloc o):=
 ⟨hr.below.alloc hr.bsz _,by have:=hr.bsz;simp;omega,fun b o x=>by have:=hr.immlt b o x;simp;omega,hr.i0,hr.immlow,hr.fresh,fun k' L' hL'=>by
  obtain⟨h1,⟨arr',e',h2,h3⟩,h4⟩:=hr.own k' L' hL';exact⟨h1,⟨arr',e',(dh (hr.blt hL')).trans h2,h3⟩,h4⟩,hr.dis,fun k' ob ho=>(hr.objs k' ob ho).mono (hr.le k') (Ext.alloc hr o) (fun L hL t=>cj (hr.blt hL)),hr.lim,
  hr.maps.step (Ext.alloc hr o) rfl (jW w _) (fun _=>Nat.le_refl _) (fun _ _ _ _=>rfl)⟩
def Gh.atMap(G:Gh)(k v b:Nat):Gh:={G with mloc:=fun k' v'=>if k'=k∧v'=v then some b else G.mloc k' v',lim:=aM G.lim k v}
theorem HR.noneMap(hr:HR G B w0 I0 h w)(k:Nat):G.mloc k ((h k).ver+1)=none:=by
 cases hL:G.mloc k ((h k).ver+1)with
 |none=>rfl
 |some L=>have:=(hr.maps.low _ _ _ hL).2.2;omega
theorem HR.newFixO(hr:HR G B w0 I0 h w)(k:Nat){b:Nat}{oo:Option Ob}{o:Obj}(hfl:∀o',oo=some o'→o'.flex=false)(hB:B≤b)(hnew:∀k',k'≠k→jw (h k').ob=true→G.mloc k' (h k').ver≠some b)(hfo:nr o=true)(hbo:w.heap[b]? =some o)
    (hm:∀es c,oo=some (.map es c)→CE G.imm w b es c) (hlp:∀fno N env ps Ua bd st,oo=some (.lp fno N env ps Ua bd st)→∃r,w.heap[b]? =some (.loop r)∧LRep G w N env ps Ua bd st r)
    (hit:∀km vm since seen,oo=some (.itr km vm since seen)→∃bm sa c0,G.mloc km vm=some bm∧w.heap[b]? =some (.mapIter (some bm) since sa c0)∧sa.toList=seen∧c0=since):
    HR (G.atMap k ((h k).ver+1) b) B w0 I0 (aM h k ⟨(h k).ver+1,oo⟩) w∧Ext G w (G.atMap k ((h k).ver+1) b) w:=by
 have hn:=hr.noneMap k
 have hex:Ext G w (G.atMap k ((h k).ver+1) b) w:=⟨fun _ _ x=>x,fun _ _ _ x=>x,fun _ _ _=>rfl,Nat.le_refl _,fun k'=>by
  by_cases hk:k'=k
  ·subst hk;show _≤aM G.lim k' _ k';rw[ak,hr.lim];omega
  ·show _≤aM G.lim k _ k';rw[am _ _ hk];exact Nat.le_refl _,fun _ _ _ x=>x,fun k' v' b' x=>by
  show(if k'=k∧v'=(h k).ver+1 then some b else G.mloc k' v')=some b';rw[if_neg (by rintro⟨rfl,rfl⟩;rw[hn]at x;cases x)];exact x,eH rfl⟩
 have key:∀k' L',G.loc k' (aM h k ⟨(h k).ver+1,oo⟩ k').ver=some L'→k'≠k∧G.loc k' (h k').ver=some L':=by
  intro k' L' hL;by_cases hk:k'=k
  ·subst hk;rw[ak]at hL;simp only[hr.none_next k']at hL;cases hL
  ·rw[am _ _ hk]at hL;exact⟨hk,hL⟩
 refine⟨⟨hr.below,hr.bsz,hr.immlt,hr.i0,hr.immlow, ?_,fun k' L' x=>hr.own k' L' (key k' L' x).2,fun k1 k2 L1 L2 x1 x2=>hr.dis k1 k2 L1 L2 (key _ _ x1).2 (key _ _ x2).2, ?_,fun k'=>by
  by_cases hk:k'=k
  ·subst hk;rw[ak];exact ak _ _ _
  ·rw[am _ _ hk];exact(am _ _ hk).trans (hr.lim k'), ?_⟩,hex⟩
 ·intro k' v L' x
  have:=hr.fresh k' v L' x;by_cases hk:k'=k
  ·subst hk;rw[ak];show v≤_+1;omega
  ·rw[am _ _ hk];exact this
 ·intro k' o1 ho
  by_cases hk:k'=k
  ·subst hk
   rw[ak]at ho ⊢;have hfl':=hfl o1 ho;cases o1 with
   |arr _ _=>cases hfl'
   |typ _ _ _ _=>cases hfl'
   |map _ _=>trivial
   |lp _ _ _ _ _ _ _=>trivial
   |itr _ _ _ _=>trivial
  ·rw[am _ _ hk]at ho ⊢
   exact(hr.objs k' o1 ho).mono (hr.le k') hex (fun _ _ _=>rfl)
 ·have hml:∀k' v' b',(G.atMap k ((h k).ver+1) b).mloc k' v'=some b'→(k'=k∧v'=(h k).ver+1∧b'=b)∨G.mloc k' v'=some b':=by
    intro k' v' b' x
    replace x:(if k'=k∧v'=(h k).ver+1 then some b else G.mloc k' v')=some b':=x
    split at x
    ·rename_i hc;simp only[Option.some.injEq]at x;exact .inl ⟨hc.1,hc.2,x.symm⟩
    ·exact .inr x
  refine⟨fun k' v' b' x=> ?_,fun k1 k2 b' l1 l2 x1 x2=> ?_,fun k' es' c' ho=> ?_,fun k' fno N env ps Ua bd st ho=> ?_,fun k' km vm since seen ho=> ?_,hr.maps.glob⟩
  ·rcases hml _ _ _ x with ⟨rfl,rfl,rfl⟩|x
   ·exact⟨hB,⟨o,hfo,hbo⟩,by rw[ak];exact Nat.le_refl _⟩
   ·obtain⟨h1,h2,h3⟩:=hr.maps.low _ _ _ x
    refine⟨h1,h2, ?_⟩;by_cases hk:k'=k
    ·subst hk;rw[ak];show v'≤_+1;omega
    ·rw[am _ _ hk];exact h3
  ·rcases hml _ _ _ x1 with ⟨g1,g2,g3⟩|y1<;>rcases hml _ _ _ x2 with ⟨h1,h2,h3⟩|y2
   ·exact g1.trans h1.symm
   ·have n2:k2≠k:=by
      rintro rfl;rw[ak]at y2;rw[hn]at y2;cases y2
    rw[am _ _ n2]at y2 l2;exact absurd (g3▸y2) (hnew _ n2 l2)
   ·have n1:k1≠k:=by
      rintro rfl;rw[ak]at y1;rw[hn]at y1;cases y1
    rw[am _ _ n1]at y1 l1;exact absurd (h3▸y1) (hnew _ n1 l1)
   ·have n1:k1≠k:=by
      rintro rfl;rw[ak]at y1;rw[hn]at y1;cases y1
    have n2:k2≠k:=by
     rintro rfl;rw[ak]at y2;rw[hn]at y2;cases y2
    rw[am _ _ n1]at y1 l1;rw[am _ _ n2]at y2 l2;exact hr.maps.inj _ _ _ l1 l2 y1 y2
  ·by_cases hk:k'=k
   ·subst hk
    rw[ak]at ho ⊢;exact⟨b,by simp[Gh.atMap],hm _ _ ho⟩
   ·rw[am _ _ hk]at ho ⊢
    obtain⟨b',h1,h2⟩:=hr.maps.obj k' es' c' ho;exact⟨b',hex.mloc _ _ _ h1,h2⟩
  ·by_cases hk:k'=k
   ·subst hk
    rw[ak]at ho ⊢;obtain⟨r,h1,h2⟩:=hlp _ _ _ _ _ _ _ ho;exact⟨b,r,by simp[Gh.atMap],h1,h2.mono hex⟩
   ·rw[am _ _ hk]at ho ⊢
    obtain⟨b',r,h1,h2,h3⟩:=hr.maps.loops k' fno N env ps Ua bd st ho;exact⟨b',r,hex.mloc _ _ _ h1,h2,h3.mono hex⟩
  ·by_cases hk:k'=k
   ·subst hk
    rw[ak]at ho ⊢;obtain⟨bm,sa,c0,h1,h2⟩:=hit _ _ _ _ ho;exact⟨b,bm,sa,c0,by simp[Gh.atMap],hex.mloc _ _ _ h1,h2⟩
   ·rw[am _ _ hk]at ho ⊢
    obtain⟨b',bm,sa,c0,h1,h2,h3⟩:=hr.maps.iters k' km vm since seen ho;exact⟨b',bm,sa,c0,hex.mloc _ _ _ h1,hex.mloc _ _ _ h2,h3⟩
theorem HR.newFix(hr:HR G B w0 I0 h w)(k:Nat){b:Nat}{ob:Ob}{o:Obj}(hfl:ob.flex=false)(hni:∀km vm since seen,ob≠ .itr km vm since seen)(hB:B≤b)(hnew:∀k v,G.mloc k v≠some b)(hfo:nr o=true)(hbo:w.heap[b]? =some o)
    (hm:∀es c,ob= .map es c→CE G.imm w b es c) (hlp:∀fno N env ps Ua bd st,ob= .lp fno N env ps Ua bd st→∃r,w.heap[b]? =some (.loop r)∧LRep G w N env ps Ua bd st r):
    HR (G.atMap k ((h k).ver+1) b) B w0 I0 (aM h k ⟨(h k).ver+1,some ob⟩) w∧Ext G w (G.atMap k ((h k).ver+1) b) w:=
 hr.newFixO k (oo:=some ob) (fun o' e=>by cases e;exact hfl) hB (fun _ _ _=>hnew _ _) hfo hbo (fun es c e=>by cases e;exact hm _ _ rfl) (fun fno N env ps Ua bd st e=>by cases e;exact hlp _ _ _ _ _ _ _ rfl) (fun km vm since seen e=>absurd (Option.some.inj e) (hni km vm since seen))
theorem HR.newMap(hr:HR G B w0 I0 h w)(k:Nat){b c:Nat}{es:List (D×D×Nat)}(hB:B≤b)(hnew:∀k v,G.mloc k v≠some b)(hm:CE G.imm w b es c):
    HR (G.atMap k ((h k).ver+1) b) B w0 I0 (aM h k ⟨(h k).ver+1,some (.map es c)⟩) w∧Ext G w (G.atMap k ((h k).ver+1) b) w:=by
 have hm2:=hm;obtain⟨ms,hms,_,_⟩:=hm;exact hr.newFix k rfl (fun _ _ _ _ e=>by cases e) hB hnew (o:= .map ms c) rfl hms (fun es' c' e=>by cases e;exact hm2) (fun _ _ _ _ _ _ _ e=>by cases e)
theorem HR.setFix(hr:HR G B w0 I0 h w){k b:Nat}{o o':Obj}{ob':Option Ob}(hlive:jw (h k).ob=true)(hL:G.mloc k (h k).ver=some b)(hb:w.heap[b]? =some o)(hfo:nr o=true)(hfo':nr o'=true)(hbk:mQ o=true→jo o o')(hfl:∀x,ob'=some x→x.flex=false)
    (hm:∀es c,ob'=some (.map es c)→CE G.imm (w.putObj b o') b es c) (hlp:∀fno N env ps Ua bd st,ob'=some (.lp fno N env ps Ua bd st)→∃r,(w.putObj b o').heap[b]? =some (.loop r)∧LRep G w N env ps Ua bd st r)
    (hit:∀km vm since seen,ob'=some (.itr km vm since seen)→∃bm sa c0,G.mloc km vm=some bm∧(w.putObj b o').heap[b]? =some (.mapIter (some bm) since sa c0)∧sa.toList=seen∧c0=since:=by intro _ _ _ _ e;cases e):
    HR G B w0 I0 (aM h k ⟨(h k).ver,ob'⟩) (w.putObj b o')∧Ext G w G (w.putObj b o'):=by
 have hlt:b<w.heap.size:=(Array.getElem?_eq_some_iff.1 hb).1;have hB:B≤b:=(hr.maps.low _ _ _ hL).1
 have hcell:∀b' i,(w.putObj b o').cell? ⟨b',i,none⟩=w.cell? ⟨b',i,none⟩:=by
  intro b' i;by_cases hbb:b'=b
  ·subst hbb
   simp only[World.cell?,World.putObj_heap_same hlt,hb];cases o<;>cases o'<;>first|rfl|(cases hfo;done)|(cases hfo';done)
  ·simp only[World.cell?,World.putObj_heap_other hbb]
 have hex:Ext G w G (w.putObj b o'):=⟨fun _ _ x=>x,fun _ _ _ x=>x,fun b' i _=>hcell b' i,by simp,fun _=>Nat.le_refl _,fun _ _ _ x=>x,fun _ _ _ x=>x,fun b' o1 hk x=>by
  by_cases hne:b'=b
  ·subst hne
   rw[hb]at x;cases x;exact⟨o',World.putObj_heap_same hlt,hbk hk⟩
  ·exact⟨o1,by rw[World.putObj_heap_other hne];exact x,eu o1⟩⟩
 have hver:∀k',(aM h k ⟨(h k).ver,ob'⟩ k').ver=(h k').ver:=by
  intro k';by_cases hk:k'=k
  ·subst hk;rw[ak]
  ·rw[am _ _ hk]
 refine⟨⟨hr.below.trans ⟨rfl,rfl,rfl,by simp,fun k' hk'=>World.putObj_heap_other (by omega)⟩,by simpa using hr.bsz,fun b o x=>by simpa using hr.immlt b o x,hr.i0,hr.immlow,fun k' v L' x=>by rw[hver];exact hr.fresh k' v L' x,fun k' L' x=> ?_,
  fun k1 k2 L1 L2 x1 x2=>by rw[hver]at x1 x2;exact hr.dis k1 k2 L1 L2 x1 x2,fun k' ob ho=> ?_,fun k'=>by rw[hver];exact hr.lim k', ?_⟩,hex⟩
 ·rw[hver]at x
  obtain⟨h1,⟨a1,e1,h2,h3⟩,h4⟩:=hr.own k' L' x;exact⟨h1,⟨a1,e1,by rw[World.putObj_heap_other (by rintro rfl;rw[hb]at h2;cases h2;cases hfo)];exact h2,h3⟩,h4⟩
 ·by_cases hk:k'=k
  ·subst hk
   rw[ak]at ho ⊢;have:=hfl _ ho;cases ob with
   |arr _ _=>cases this
   |typ _ _ _ _=>cases this
   |map _ _=>trivial
   |lp _ _ _ _ _ _ _=>trivial
   |itr _ _ _ _=>trivial
  ·rw[am _ _ hk]at ho ⊢
   exact(hr.objs k' ob ho).mono (hr.le k') hex (fun L hL t=>hcell _ _)
 ·refine⟨fun k' v' b' x=> ?_,fun k1 k2 b' l1 l2 x1 x2=> ?_,fun k' es1 c1 ho=> ?_,fun k' fno N env ps Ua bd st ho=> ?_,fun k' km vm since seen ho=> ?_,hr.maps.glob.mono hex.imm hex.cell⟩
  ·obtain⟨h1,⟨o1,h2,h2'⟩,h3⟩:=hr.maps.low _ _ _ x
   refine⟨h1, ?_,by rw[hver];exact h3⟩;by_cases hbb:b'=b
   ·subst hbb;exact⟨_,hfo',World.putObj_heap_same hlt⟩
   ·exact⟨o1,h2,by rw[World.putObj_heap_other hbb];exact h2'⟩
  ·have lv:∀k',jw (aM h k ⟨(h k).ver,ob'⟩ k').ob=true→jw (h k').ob=true:=fun k' l=>by
     by_cases hk:k'=k
     ·subst hk;exact hlive
     ·rw[am _ _ hk]at l;exact l
   rw[hver]at x1 x2;exact hr.maps.inj _ _ _ (lv _ l1) (lv _ l2) x1 x2
  ·by_cases hk:k'=k
   ·subst hk
    rw[ak]at ho ⊢;exact⟨b,hL,hm _ _ ho⟩
   ·rw[am _ _ hk]at ho ⊢
    obtain⟨b',h1,ms1,h2,h3,h4⟩:=hr.maps.obj k' es1 c1 ho
    have hbb:b'≠b:=by
     rintro rfl;exact hk (hr.maps.inj _ _ _ (by rw[ho];rfl) hlive h1 hL)
    exact⟨b',h1,ms1,by rw[World.putObj_heap_other hbb];exact h2,h3,fun i e m he hm=>by
     obtain⟨g1,g2,g3⟩:=h4 i e m he hm;exact⟨g1.mono hex.imm hex.cell,g2.mono hex.imm hex.cell,g3⟩⟩
  ·by_cases hk:k'=k
   ·subst hk
    rw[ak]at ho ⊢;obtain⟨r,h1,h2⟩:=hlp _ _ _ _ _ _ _ ho;exact⟨b,r,hL,h1,h2.mono hex⟩
   ·rw[am _ _ hk]at ho ⊢
    obtain⟨b',r,h1,h2,h3⟩:=hr.maps.loops k' fno N env ps Ua bd st ho
    have hbb:b'≠b:=by
     rintro rfl;exact hk (hr.maps.inj _ _ _ (by rw[ho];rfl) hlive h1 hL)
    exact⟨b',r,h1,by rw[World.putObj_heap_other hbb];exact h2,h3.mono hex⟩
  ·by_cases hk:k'=k
   ·subst hk
    rw[ak]at ho ⊢;obtain⟨bm,sa,c0,h1,h2⟩:=hit _ _ _ _ ho;exact⟨b,bm,sa,c0,hL,h1,h2⟩
   ·rw[am _ _ hk]at ho ⊢
    obtain⟨b',bm,sa,c0,h1,h2,h3,h4⟩:=hr.maps.iters k' km vm since seen ho
    have hbb:b'≠b:=by
     rintro rfl;exact hk (hr.maps.inj _ _ _ (by rw[ho];rfl) hlive h1 hL)
    exact⟨b',bm,sa,c0,h1,h2,by rw[World.putObj_heap_other hbb];exact h3,h4⟩
theorem HR.setMap(hr:HR G B w0 I0 h w){k b c c':Nat}{ms ms':Array MapEntry}{es':List (D×D×Nat)}(hlive:jw (h k).ob=true)(hL:G.mloc k (h k).ver=some b)(hb:w.heap[b]? =some (.map ms c))(hsz:ms'.size=es'.length)
    (hent:∀(i:Nat)(e:D×D×Nat)(m:MapEntry),es'[i]? =some e→ms'[i]? =some m→DRep G.imm w e.1 m.key∧DRep G.imm w e.2.1 m.val∧m.born=e.2.2):
    HR G B w0 I0 (aM h k ⟨(h k).ver,some (.map es' c')⟩) (w.putObj b (.map ms' c'))∧Ext G w G (w.putObj b (.map ms' c')):=by
 have hlt:b<w.heap.size:=(Array.getElem?_eq_some_iff.1 hb).1;refine hr.setFix hlive hL hb rfl rfl (fun x=>by cases x) (fun x e=>by cases e;rfl) (fun es c e=> ?_) (fun _ _ _ _ _ _ _ e=>by cases e);cases e
 have hcell:∀b' i,(w.putObj b (.map ms' c')).cell? ⟨b',i,none⟩=w.cell? ⟨b',i,none⟩:=by
  intro b' i;by_cases hbb:b'=b
  ·subst hbb
   simp only[World.cell?,World.putObj_heap_same hlt,hb]
  ·simp only[World.cell?,World.putObj_heap_other hbb]
 exact⟨ms',World.putObj_heap_same hlt,hsz,fun i e m he hm=>by
  obtain⟨g1,g2,g3⟩:=hent i e m he hm;exact⟨g1.mono (fun _ _ x=>x) (fun _ _ _=>hcell _ _),g2.mono (fun _ _ x=>x) (fun _ _ _=>hcell _ _),g3⟩⟩
theorem qy(hr:HR G B w0 I0 h w){k:Nat}{t:TypeId}{out:Out}(ho:fM k h=some out):
    out.ob=[]∧∃v w' G',(Instr.makeMap t none).run P w= .ok v w'∧Ext G w G' w'∧HR G' B w0 I0 (aq h out.wr) w'∧Rep G' w' out.val v:=by
 simp only[fM,Option.some.injEq]at ho;subst ho;have hr1:=hr.allocAny (.map #[] 0);have e1:=Ext.alloc hr (.map #[] 0)
 obtain⟨hr2,e2⟩:=hr1.newMap k (b:=w.heap.size) (c:=0) (es:=[]) hr.bsz (fun k v x=>by
  obtain⟨_,⟨o,_,h2⟩,_⟩:=hr.maps.low _ _ _ x;have:=(Array.getElem?_eq_some_iff.1 h2).1;omega) ⟨#[],heap_alloc_new w _,rfl,fun i e m he=>by simp at he⟩
 exact⟨rfl,_,_,_,rfl,e1.trans e2,hr2, .mp _ _ _ (by simp[Gh.atMap])⟩
theorem HR.marked(hr:HR G B w0 I0 h w){b:Nat}{C:Array Value}{e:TypeId}{fz fz':Nat×Nat}(hb:w.heap[b]? =some (.cells C e fz))(hB:B≤b)(hno:∀k L,G.loc k (h k).ver=some L→L.b≠b){w':World}
    (hw:w'={w with heap:=w.heap.setIfInBounds b (.cells C e fz')}):HR G B w0 I0 h w'∧Ext G w G w':=by
 have hlt:=(Array.getElem?_eq_some_iff.1 hb).1
 have hoth:∀i,i≠b→w'.heap[i]? =w.heap[i]? :=fun i hi=>by
  subst hw;show(w.heap.setIfInBounds b _)[i]? =_;rw[Array.getElem?_setIfInBounds_ne (Ne.symm hi)]
 have hself:w'.heap[b]? =some (.cells C e fz'):=by
  subst hw;show(w.heap.setIfInBounds b _)[b]? =_;rw[Array.getElem?_setIfInBounds_self_of_lt hlt]
 have hcell:∀p:Addr,w'.cell? p=w.cell? p:=fun p=>by
  unfold World.cell?;by_cases hp:p.block=b
  ·rw[hp,hself,hb]
  ·rw[hoth _ hp]
 have hsz:w'.heap.size=w.heap.size:=by subst hw;show(w.heap.setIfInBounds b _).size=_;simp
 have hex:Ext G w G w':=⟨fun _ _ x=>x,fun _ _ _ x=>x,fun _ _ _=>hcell _,by rw[hsz];exact Nat.le_refl _,fun _=>Nat.le_refl _,fun _ _ _ x=>x,fun _ _ _ x=>x,fun b' o hk x=>by
  have hne:b'≠b:=by
   rintro rfl;rw[hb]at x;cases x;cases hk
  exact⟨o,by rw[hoth _ hne];exact x,eu o⟩⟩
 refine⟨⟨?_,by rw[hsz];exact hr.bsz,fun b o x=>by rw[hsz];exact hr.immlt b o x,hr.i0,hr.immlow,hr.fresh,fun k L hL=> ?_,hr.dis,fun k ob ho=>(hr.objs k ob ho).mono (hr.le k) hex (fun _ _ _=>hcell _),hr.lim, ?_⟩,hex⟩
 ·exact hr.below.trans ⟨by subst hw;rfl,by subst hw;rfl,by subst hw;rfl,by rw[hsz];exact Nat.le_refl _,fun k hk=>hoth k (by omega)⟩
 ·obtain⟨h1,⟨arr,e',h2,h3⟩,h4⟩:=hr.own k L hL
  exact⟨h1,⟨arr,e',by rw[hoth _ (hno k L hL)];exact h2,h3⟩,h4⟩
 ·exact hr.maps.step hex rfl (fun c o hfo x=>by
    have hne:c≠b:=by
     rintro rfl;rw[hb]at x;cases x;cases hfo
    rw[hoth _ hne];exact x) (fun _=>Nat.le_refl _) (fun _ _ _ _=>rfl)
theorem o5(hr:HR G B w0 I0 h w){src dst:TypeId}{x:AV}{vx:Value}(hx:Rep G w x vx){out:Out}(ho:dR P src dst x h=some out):
    out.ob=[]∧∃v w' G',(convert src dst vx).run P w= .ok v w'∧Ext G w G' w'∧HR G' B w0 I0 (aq h out.wr) w'∧Rep G' w' out.val v:=by
 unfold dR at ho;split at ho;case h_2=>cases ho
 rename_i e k v y l hu;split at ho;case isFalse=>cases ho
 rename_i hc;obtain⟨rfl,hv⟩:=hc;split at ho;case h_2=>cases ho
 rename_i hu8;simp only[Option.some.injEq]at ho;subst ho;generalize hsz1:(1:Nat)=sz at hx;generalize hll:y::l=ll at hx;cases hx with
 |vecNil=>cases hll
 |vec _ _ _ L hL hfr hlen hszs hrep=>
 subst hll;subst hv;obtain⟨hB,⟨arr,et,hb,harr⟩,_⟩:=hr.own k L hL;have hkill:=hr.kill [k];have hexk:=Ext.froz hr [k]
 have hno:∀k' L',(G.froz h [k]).loc k' ((aq h (kill h [k])) k').ver=some L'→L'.b≠L.b:=fun k' L' hL' hbb=>by
  have hL'':G.loc k' ((aq h (kill h [k])) k').ver=some L':=hL';rw[bz]at hL'';by_cases hk:k'∈[k]
  ·rw[if_pos hk]at hL''
   have hk':k'=k:=by simpa using hk
   subst hk';have:=hr.fresh _ _ _ hL'';simp at this;omega
  ·rw[if_neg hk]at hL''
   have:=hr.dis k' k L' L hL'' hL hbb;subst this;exact hk (by simp)
 obtain⟨hr2,hex2⟩:=hkill.marked (b:=L.b) (C:=arr) (e:=et) (fz:=(0,0)) (fz':=(arr.size,arr.size+1)) hb hB hno rfl;refine⟨rfl, .slice (some ⟨L.b,0,none⟩) (y::l).length L.cap,_,_, ?_,hexk.trans hex2,hr2, .d ?_⟩
 ·have hsh:w.shape? L.b=some (et,arr.size):=by unfold World.shape?;rw[hb]
  have hfz:w.freeze ⟨L.b,arr.size,none⟩ 1={w with heap:=w.heap.setIfInBounds L.b (.cells arr et (arr.size,arr.size+1))}:=by
   unfold World.freeze;rw[if_neg (by decide)];congr 1;have hlt:=(Array.getElem?_eq_some_iff.1 hb).1;apply Array.ext
   ·simp
   ·intro i h1 h2
    simp only[Array.getElem_modify,Array.getElem_setIfInBounds];split
    ·rename_i hi
     subst hi;have:w.heap[L.b]= .cells arr et (0,0):=(Array.getElem?_eq_some_iff.1 hb).2;simp[this]
    ·rename_i hi
     rw[Array.getElem_setIfInBounds_ne _ hi]
  simp[convert,run_underlying hu,run_underlying hu8,markStringish,hsh];exact hfz
 ·exact hrep.mono (fun b o x=> .inl x) (fun b o hbo=>hex2.cell b o (.inl hbo))
theorem zE(hr:HR G B w0 I0 h w){k:Nat}{L:t7}(hL:G.loc k (h k).ver=some L):∀k' L',(G.froz h [k]).loc k' ((aq h (kill h [k])) k').ver=some L'→L'.b≠L.b:=fun k' L' hL' hbb=>by
 have hL'':G.loc k' ((aq h (kill h [k])) k').ver=some L':=hL';rw[bz]at hL'';by_cases hk:k'∈[k]
 ·rw[if_pos hk]at hL''
  have hk':k'=k:=by simpa using hk
  subst hk';have:=hr.fresh _ _ _ hL'';simp at this;omega
 ·rw[if_neg hk]at hL''
  have:=hr.dis k' k L' L hL'' hL hbb;subst this;exact hk (by simp)
theorem pU:∀{l:List D}{b:List UInt8},rF l=some b→l=b.map kO
 |[],b,h=>by simp only[rF,Option.some.injEq]at h;subst h;rfl
 |x::r,b,h=>by
  unfold rF at h;split at h
  ·rename_i heq;cases heq
  ·rename_i n r' heq
   cases heq;split at h
   ·rename_i hn
    simp only[Option.map_eq_some_iff]at h;obtain⟨b',hb,rfl⟩:=h;rw[pU hb,List.map_cons,kO,←hn]
   ·cases h
  ·cases h
theorem CL{w:World}{b n:Nat}{arr:Array Value}{e:TypeId}(hb:w.heap[b]? =some (.cells arr e (0,0)))(hn:n≠0):w.freeze ⟨b,0,none⟩ n={w with heap:=w.heap.setIfInBounds b (.cells arr e (0,0+n))}:=by
 unfold World.freeze;rw[if_neg hn];congr 1;have hlt:=(Array.getElem?_eq_some_iff.1 hb).1;apply Array.ext
 ·simp
 ·intro i h1 h2
  simp only[Array.getElem_modify,Array.getElem_setIfInBounds];split
  ·rename_i hi
   subst hi;have:w.heap[b]= .cells arr e (0,0):=(Array.getElem?_eq_some_iff.1 hb).2;simp[this]
  ·rename_i hi
   rw[Array.getElem_setIfInBounds_ne _ hi]
theorem kZ(hr:HR G B w0 I0 h w){pt it ty:TypeId}{x n:AV}{vx vn:Value}(hx:Rep G w x vx)(hn:Rep G w n vn){out:Out}(ho:dp P pt x n h=some out):
    out.ob=[]∧∃v w' G',(Builtin.unsafeString_ #[pt,it] ty #[vx,vn]).run P w= .ok v w'∧Ext G w G' w'∧HR G' B w0 I0 (aq h out.wr) w'∧Rep G' w' out.val v:=by
 unfold dp at ho;split at ho;case h_2=>cases ho
 rename_i u k v l m hu;split at ho;case h_2=>cases ho
 rename_i T b htag hb;split at ho;case isFalse=>cases ho
 rename_i hc;obtain⟨hv,rfl,hne,rfl,hc1,h63⟩:=hc;simp only[Option.some.injEq]at ho;subst ho;subst hv;cases hn with
 |d hn=>
 cases hn;cases hx with
 |vp _ _ _ L hL h1 hlen hd=>
 have hty:=(jd hr htag L hL).1;obtain⟨hB,⟨arr,et,hbk,harr,het⟩,_⟩:=hr.own k L hL;have hl:=pU hb;have hlb:l.length=b.length:=by rw[hl,List.length_map]
 have hf:D.flat l=l:=by
  rw[hl];unfold D.flat;generalize b=bs;induction bs with
  |nil=>rfl
  |cons a r ih=>simp only[List.map_cons,List.flatMap_cons,ih];rfl
 have hcell:∀j x,b[j]? =some x→w.cell? ((⟨L.b,0,none⟩:Addr).add j)=some (.int .u8 x.toNat):=by
  intro j x hj;have hg:(D.flat l)[j]? =some (kO x):=by rw[hf,hl,List.getElem?_map,hj];rfl
  generalize hvv:(Value.slice (some ⟨L.b,0,none⟩) l.length L.cap)=vv at hd;cases hd with
  |roNil=>exact absurd rfl hne
  |ro _ bb o c sz U hcap hsz h1' hi hcc hrr=>
   cases hvv;have h2:=hcc j _ hg;have h3:=hrr j _ hg;generalize U j=uu at h2 h3;cases h3;rw[ei];exact h2
 have hkill:=hr.kill [k];have hexk:=Ext.froz hr [k];have hsh:w.shape? L.b=some (T,arr.size):=by unfold World.shape?;rw[hbk,het,hty]
 have hbne:b≠[]:=by rintro rfl;exact hne (by rw[hl];rfl)
 have hrun:=Lib.run_unsafeString_row (P:=P) w pt it ty T hu hc1 L.b arr.size hsh b hbne (by rw[harr,h1,Nat.mul_one,←hlb];exact hlen) (by rw[←hlb];exact h63) hcell;rw[CL hbk (by rw[←hlb];intro h0;exact hne (List.eq_nil_of_length_eq_zero h0))]at hrun;obtain⟨hr2,hex2⟩:=hkill.marked (b:=L.b) (C:=arr) (e:=et) (fz:=(0,0)) (fz':=(0,0+b.length)) hbk hB (zE hr hL) rfl;rw[hlb];exact⟨rfl,_,_,_,hrun,hexk.trans hex2,hr2, .d (.str _ _ (by simp))⟩
theorem nL{x y:AV}{vx:Value}(hx:Rep G w x vx)(ho:kQ x=some y)(ts:Array TypeId)(ty:TypeId):∃v,(Builtin.unsafeSliceData_ ts ty #[vx]).run P w= .ok v w∧Rep G w y v:=by
 unfold kQ at ho;split at ho
 ·rename_i k v sz z l
  split at ho
  ·rename_i h1
   simp only[Option.some.injEq]at ho;subst ho;generalize hll:z::l=ll at hx;cases hx with
   |vecNil=>cases hll
   |vec _ _ _ L hL hfr hlen hszs hrep=>
   subst hll;exact⟨_,Lib.run_unsafeSliceData_row w ts ty _ _ _ (by simp at hlen;omega), .vp k v _ L hL h1 hlen hrep⟩
  ·cases ho
 ·simp only[Option.some.injEq]at ho
  subst ho;cases hx;exact⟨_,rfl, .d .nilp⟩
 ·cases ho
theorem qz(hr:HR G B w0 I0 h w){src dst:TypeId}{x:AV}{vx:Value}(hx:Rep G w x vx){out:Out}(ho:fL P src dst x h=some out):
    out.wr=[]∧∃v,(convert src dst vx).run P w= .ok v w∧Rep G w out.val v:=by
 unfold fL at ho;split at ho
 ·rename_i t k v i off sz hs hd
  split at ho
  ·rename_i T n htag
   split at ho
   ·rename_i hc
    obtain⟨hv,hk,hc0,hlt⟩:=hc;simp only[Option.some.injEq]at ho;subst ho;subst hv;cases hx with
    |ptr _ _ _ _ L hL=>
    obtain⟨hty,hn⟩:=jd hr htag L hL;obtain⟨hB,⟨arr,et,hbk,harr,het⟩,_⟩:=hr.own k L hL;have hsh:w.shape? L.b=some (et,arr.size):=by unfold World.shape?;rw[hbk]
    have hoff:¬(arr.size≤i*L.sz+off):=by rw[harr,hn n rfl];omega
    unfold cA at hk;unfold Program.cellsOf at hc0;cases hi:P.info? t with
    |none=>rw[hi]at hk;cases hk
    |some j=>
     rw[hi]at hc0;have hj:j.size≠0:=hc0;exact⟨rfl,_,by simp[convert,run_underlying hs,run_underlying hd,Conv.unsafePointer,Conv.seenAt,viewAt,cellsIn,hsh,sizeOf,typeInfo,hi,hj,hoff], .ptr k _ i off L hL⟩
   ·cases ho
  ·cases ho
 ·rename_i u k v i off sz hs hd
  split at ho
  ·rename_i T n htag
   split at ho
   ·rename_i hc
    obtain⟨hv,hk,hlies⟩:=hc;simp only[Option.some.injEq]at ho;subst ho;subst hv;cases hx with
    |ptr _ _ _ _ L hL=>
    obtain⟨hty,hn⟩:=jd hr htag L hL;obtain⟨hB,⟨arr,et,hbk,harr,het⟩,_⟩:=hr.own k L hL;have hsz:arr.size=n:=by rw[harr,hn n rfl]
    have hsh:w.shape? L.b=some (T,n):=by unfold World.shape?;rw[hbk,←hsz,←hty,←het]
    unfold cA at hk;cases hi:P.info? u with
    |none=>rw[hi]at hk;cases hk
    |some j=>
     exact⟨rfl,_,by simp[convert,run_underlying hs,run_underlying hd,Conv.unsafePointer,Conv.seenAt,viewAt,hsh,variablesAt,hlies,sizeOf,typeInfo,hi], .ptr k _ i off L hL⟩
   ·cases ho
  ·cases ho
 ·cases ho
theorem nM{t:TypeId}{x y:AV}{vx:Value}(hx:Rep G w x vx)(ho:kR P t x=some y):∃v,(Instr.makeInterface t vx).run P w= .ok v w∧Rep G w y v:=by
 unfold kR at ho;split at ho
 ·cases ho
 ·rename_i d hne hu
  simp only[Option.some.injEq]at ho;subst ho;refine⟨.iface t vx, ?_, .iv t vx hx⟩;simp only[Instr.makeInterface,Sem.run_bind,run_underlying hu,Result.andThen_ok];rfl
 ·cases ho
theorem rO{xT t:TypeId}{ok:Bool}{x y:AV}{vx:Value}(hx:Rep G w x vx)(ho:rG P t ok x=some y):∃v,(Instr.typeAssert vx xT t ok).run P w= .ok v w∧Rep G w y v:=by
 have pair:∀(a:AV)(u:Value)(b:Bool),Rep G w a u→Rep G w (.tup [a, .d (.bool b)]) (.tuple #[u, .bool b]):=fun a u b ha=> .tup _ _ rfl fun i c v hc hv=>by
  match i with
  |0=>cases hc;cases hv;exact ha
  |1=>cases hc;cases hv;exact .d (.bool b)
  |i+2=>simp at hc
 unfold rG at ho;split at ho
 ·cases ho
 ·rename_i d t' z hne hu
  cases hx with
  |iv _ v hv=>
  split at ho
  ·rename_i hte
   subst hte;simp only[Option.some.injEq]at ho;subst ho;cases ok
   ·exact⟨v,by simp[Instr.typeAssert,run_underlying hu],hv⟩
   ·exact⟨_,by simp[Instr.typeAssert,run_underlying hu],pair _ _ _ hv⟩
  ·rename_i hte
   split at ho
   ·rename_i hok
    subst hok;simp only[Option.map_eq_some_iff]at ho;obtain⟨z,hz,rfl⟩:=ho;exact⟨_,by simp[Instr.typeAssert,run_underlying hu,hte,cO hz],pair _ _ _ (nE _)⟩
   ·cases ho
 ·rename_i d hne hu
  cases hx with
  |d hx=>
  cases hx;split at ho
  ·rename_i hok
   subst hok;simp only[Option.map_eq_some_iff]at ho;obtain⟨z,hz,rfl⟩:=ho;exact⟨_,by simp[Instr.typeAssert,run_underlying hu,cO hz],pair _ _ _ (nE _)⟩
  ·cases ho
 ·cases ho
theorem nN(hr:HR G B w0 I0 h w){src dst:TypeId}{x:AV}{vx:Value}(hx:Rep G w x vx){out:Out}(ho:kN P src dst x=some out):
    out.ob=[]∧∃v w' G',(convert src dst vx).run P w= .ok v w'∧Ext G w G' w'∧HR G' B w0 I0 (aq h out.wr) w'∧Rep G' w' out.val v:=by
 unfold kN at ho;split at ho;case h_2=>cases ho
 rename_i e s hu1 hu2;split at ho;case h_2=>cases ho
 rename_i hu3;simp only[Option.some.injEq]at ho;subst ho;cases hx with
 |d hx=>
 cases hx with
 |str _ sb hs=>
 subst hs;have hrun:=run_bytes_of_string (P:=P) w src dst e sb hu1 hu2 hu3;have hcap:=grownCap_ge w sb.size 0 e;have hlen:(sb.data.toList.map fun b=>D.int .u8 (b.toNat:Int)).length=sb.size:=by simp
 obtain⟨G',g1,g2,g3⟩:=hr.drew.newImm (sb.data.toList.map fun b=>D.int .u8 (b.toNat:Int)) 1 (grownCap w sb.size 0 e) (bytesRow sb (grownCap w sb.size 0 e)) e
  (fz:=((bytesRow sb (grownCap w sb.size 0 e)).size,(bytesRow sb (grownCap w sb.size 0 e)).size+1)) (by rw[hlen];exact hcap) (fun x hx=>by
   obtain⟨b,_,rfl⟩:=List.mem_map.1 hx;rfl) (fun t c ht=>by
   have hf:D.flat (sb.data.toList.map fun b=>D.int .u8 (b.toNat:Int))=sb.data.toList.map fun b=>D.int .u8 (b.toNat:Int):=by
    unfold D.flat;generalize sb.data.toList=l;induction l with
    |nil=>rfl
    |cons a l ih=>simp only[List.map_cons,List.flatMap_cons,ih];rfl
   rw[hf]at ht;simp only[List.getElem?_map,Array.getElem?_toList,Option.map_eq_some_iff]at ht;obtain⟨b,hb,rfl⟩:=ht;have hlt:t<sb.data.size:=(Array.getElem?_eq_some_iff.1 hb).1;refine⟨.int .u8 b.toNat, ?_,rfl, .int _ _⟩;unfold bytesRow;rw[Array.getElem?_append_left (by simpa using hlt),Array.getElem?_map,hb];rfl)
 rw[hlen]at g3;exact⟨rfl,_,_,G',hrun,(Ext.drew G w).trans g2,g1, .d g3⟩
theorem pV:∀{l:List D}{b:List UInt8},mS l=some b→∃ns:List Int,l=ns.map (D.int .u8)∧b=ns.map fun n=>UInt8.ofNat n.toNat
 |[],b,h=>by
  simp only[mS,Option.some.injEq]at h;subst h;exact⟨[],rfl,rfl⟩
 |x::r,b,h=>by
  unfold mS at h;split at h
  ·rename_i heq;cases heq
  ·rename_i n r' heq
   cases heq;simp only[Option.map_eq_some_iff]at h;obtain⟨b',hb,rfl⟩:=h;obtain⟨ns,rfl,rfl⟩:=pV hb;exact⟨n::ns,rfl,rfl⟩
  ·cases h
theorem xJ:∀(ns:List Int)(r:ByteArray),(ns.foldl (fun r n=>r.push (UInt8.ofNat n.toNat)) r).data.toList=r.data.toList ++ns.map fun n=>UInt8.ofNat n.toNat
 |[],r=>by simp
 |n::ns,r=>by
  rw[List.foldl_cons,xJ ns];simp[ByteArray.push]
theorem qA{src dst:TypeId}{x y:AV}{vx:Value}(hx:Rep G w x vx)(ho:oX P src dst x=some y):∃v,(convert src dst vx).run P w= .ok v w∧Rep G w y v:=by
 have key:∀(e:TypeId)(l:List D)(b:List UInt8),P.underlying src=some (.slice e)→P.underlying dst=some .string→P.underlying e=some (.int .u8)→mS l=some b→DRep G.imm w (.ro l) vx→∃v,(convert src dst vx).run P w= .ok v w∧Rep G w (.d (.str b)) v:=by
  intro e l b hu1 hu2 hu3 hb hd;obtain⟨ns,hl0,rfl⟩:=pV hb;cases hd with
  |roNil ao c=>
   have hns:ns=[]:=by cases ns with|nil=>rfl|cons a b=>simp at hl0
   subst hns;refine⟨.string ByteArray.empty, ?_, .d (.str _ _ rfl)⟩;rw[run_convert_bytes_string w src dst e ao 0 c hu1 hu3 hu2];cases ao with
   |none=>rfl
   |some a=>
    rw[run_bytesToString w a 0 c [] (by simpa using run_loadCells_list (P:=P) (w:=w) a [] (fun j v hj=>by simp at hj))];rfl
  |ro _ bb o c sz U hcap hsz h1 hi hc hr=>
   subst hl0
   have hf:D.flat (ns.map (D.int .u8))=ns.map (D.int .u8):=by
    unfold D.flat;generalize ns=l;induction l with
    |nil=>rfl
    |cons a l ih=>simp only[List.map_cons,List.flatMap_cons,ih];rfl
   have hl:=run_loadCells_list (P:=P) (w:=w) ⟨bb,o,none⟩ (ns.map (Value.int .u8)) (fun j v hj=>by
    rw[List.getElem?_map,Option.map_eq_some_iff]at hj;obtain⟨n,hn,rfl⟩:=hj;have hg:(D.flat (ns.map (D.int .u8)))[j]? =some (.int .u8 n):=by rw[hf,List.getElem?_map,hn];rfl
    have hcell:=hc j _ hg;have hrep:=hr j _ hg;generalize U j=u at hcell hrep;cases hrep;rw[show(⟨bb,o,none⟩:Addr).add j=⟨bb,o+j,none⟩ by simp[Addr.add]];exact hcell)
   simp only[List.length_map]at hl ⊢;refine⟨_,(run_convert_bytes_string w src dst e _ _ c hu1 hu3 hu2).trans (run_bytesToString w _ ns.length c ns hl), .d (.str _ _ ?_)⟩;rw[xJ];rfl
 unfold oX at ho;split at ho;case h_2=>cases ho
 rename_i e hu1 hu2;split at ho
 ·rename_i l hu3
  simp only[Option.map_eq_some_iff]at ho;obtain⟨b,hb,rfl⟩:=ho;cases hx with
  |d hx=>exact key e l b hu1 hu2 hu3 hb hx
 ·rename_i k v sz l hu3
  simp only[Option.map_eq_some_iff]at ho;obtain⟨b,hb,rfl⟩:=ho;cases hx.frz with
  |d hx=>exact key e l b hu1 hu2 hu3 hb hx
 ·cases ho
theorem pW{imm:Nat→Nat→Prop}{w:World}{x y:D}{u v:Value}(hx:DRep imm w x u)(hy:DRep imm w y v){b:Bool}(h:jB x y=some b){t:TypeId}(hx1:x.one=true)(hk:jC P t x=true):
    ∃d,P.underlying t=some d∧Instr.sameNow d u v=some b∧(b=true→Instr.sameBits 10000 v u=true):=by
 unfold jB at h;split at h
 ·rename_i k a k' a'
  split at h
  ·rename_i hkk
   subst hkk;simp only[Option.some.injEq]at h;subst h;cases hx;cases hy;unfold jC at hk;split at hk
   ·rename_i kk k2 n hu he
    cases he;refine⟨_,hu,by simp[Instr.sameNow],fun hb=> ?_⟩;simp only[beq_iff_eq]at hb;subst hb;simp[Instr.sameBits]
   ·rename_i he;cases he
   ·rename_i he;cases he
   ·cases hk
  ·cases h
 ·rename_i a a'
  simp only[Option.some.injEq]at h;subst h;cases hx with
  |str _ sa ha=>
  cases hy with
  |str _ sb hb=>
  subst ha;subst hb;unfold jC at hk;split at hk
  ·rename_i he;cases he
  ·rename_i s hu he
   have hbe:(sa==sb)=(sa.data.toList==sb.data.toList):=by
    show(sa.data==sb.data)=_;by_cases hs:sa.data=sb.data
    ·rw[hs];simp
    ·have:sa.data.toList≠sb.data.toList:=fun e=>hs (Array.toList_inj.1 e)
     simp[hs,this]
   refine⟨_,hu,by simp only[Instr.sameNow,hbe],fun hb=> ?_⟩;simp only[beq_iff_eq]at hb
   have:sa=sb:=by
    cases sa;cases sb;simp only at hb;rw[Array.toList_inj.1 hb]
   subst this;simp[Instr.sameBits];show(sa.data==sa.data)=true;simp
  ·rename_i he;cases he
  ·cases hk
 ·cases hx1
 ·cases h
theorem pX{imm:Nat→Nat→Prop}{w:World}{x:D}{u:Value}(hx:DRep imm w x u){t:TypeId}(hx1:x.one=true)(hk:jC P t x=true):∀(es:List (D×D×Nat))(ms:List MapEntry)(n:Nat){r:Option (Nat×D)},ms.length=es.length→
    (∀(i:Nat)(e:D×D×Nat)(m:MapEntry),es[i]? =some e→ms[i]? =some m→DRep imm w e.1 m.key∧DRep imm w e.2.1 m.val∧m.born=e.2.2)→b8 x es n=some r→
    ∃d,P.underlying t=some d∧match r with
     |none=>Instr.findNow d u ms n=some none
     |some (j,y)=>∃v,Instr.findNow d u ms n=some (some (j,v))∧DRep imm w y v∧n≤j∧∃m,ms[j-n]? =some m∧Instr.sameBits 10000 m.key u=true
 |[],ms,n,r,hl,_,h=>by
  simp only[b8,Option.some.injEq]at h;subst h;have:ms=[]:=List.length_eq_zero_iff.1 hl;subst this;unfold jC at hk;split at hk
  ·rename_i kk k2 nn hu;exact⟨_,hu,rfl⟩
  ·rename_i ss hu;exact⟨_,hu,rfl⟩
  ·cases hx1
  ·cases hk
 |e::r0,[],n,r,hl,_,h=>by simp at hl
 |e::r0,m::mr,n,r,hl,hent,h=>by
  obtain⟨g1,g2,g3⟩:=hent 0 e m rfl rfl;simp only[b8]at h;split at h
  ·rename_i hs
   simp only[Option.some.injEq]at h;subst h;obtain⟨d,hu,hsn,hsb⟩:=pW hx g1 hs hx1 hk;exact⟨d,hu,m.val,by simp[Instr.findNow,hsn],g2,Nat.le_refl _,m,by simp,hsb rfl⟩
  ·rename_i hs
   obtain⟨d,hu,hsn,_⟩:=pW hx g1 hs hx1 hk;obtain⟨d',hu',hr⟩:=pX hx hx1 hk r0 mr (n+1) (by simpa using hl) (fun i e' m' he hm=>hent (i+1) e' m' (by simpa using he) (by simpa using hm)) h;rw[hu]at hu';cases hu';refine⟨d,hu, ?_⟩;cases r with
   |none=>simp only at hr ⊢;simp[Instr.findNow,hsn,hr]
   |some jy=>
    obtain⟨j,y⟩:=jy;obtain⟨v,h1,h2,h3,m',h4,h5⟩:=hr;refine⟨v,by simp[Instr.findNow,hsn,h1],h2,by omega,m', ?_,h5⟩;rw[show j-n=(j-(n+1))+1 by omega];simpa using h4
  ·cases h
theorem pY:∀(xs ys:List D),fu xs ys=some true→xs=ys∧∀x∈xs,∃k a,x= .int k a
 |[],[],_=>⟨rfl,by simp⟩
 | .int k a::r, .int k' b::q,h=>by
  simp only[fu]at h;split at h
  ·rename_i hk
   simp only[Option.map_eq_some_iff,Bool.and_eq_true,decide_eq_true_eq]at h;obtain⟨t,ht,hab,rfl⟩:=h;obtain⟨h1,h2⟩:=pY r q ht;subst hk;subst hab;subst h1
   exact⟨rfl,fun x hx=>by
    rcases List.mem_cons.1 hx with rfl|hx
    ·exact⟨_,_,rfl⟩
    ·exact h2 x hx⟩
  ·cases h
 |[],_::_,h=>by simp[fu]at h
 |x::r,[],h=>by cases x<;>simp[fu]at h
 | .int _ _::_, .bool _::_,h| .int _ _::_, .str _::_,h| .int _ _::_, .agg _::_,h| .int _ _::_, .ro _::_,h| .int _ _::_, .rp _::_,h| .int _ _::_, .nilp::_,h| .int _ _::_, .nili::_,h| .int _ _::_, .ifc::_,h=>by simp[fu]at h
 | .bool _::_,_::_,h| .str _::_,_::_,h| .agg _::_,_::_,h| .ro _::_,_::_,h| .rp _::_,_::_,h| .nilp::_,_::_,h| .nili::_,_::_,h| .ifc::_,_::_,h=>by simp[fu]at h
theorem pZ:∀(fs:List Field)(i:Nat)(xs ys:List D)(b:Bool),dq P fs i xs=true→fu xs ys=some b→cY P fs i xs ys=some b
 |[],i,[],ys,b,_,h=>by
  cases ys with
  |nil=>simpa [fu,cY]using h
  |cons=>simp[fu]at h
 |[],i,x::xs,ys,b,hk,_=>by simp[dq]at hk
 |f::fs,i,[],ys,b,hk,_=>by simp[dq]at hk
 |f::fs,i, .int k a::xs,ys,b,hk,h=>by
  simp only[dq,Bool.and_eq_true,decide_eq_true_eq,beq_iff_eq]at hk;obtain⟨⟨h1,h2,h3,h4⟩,h5⟩:=hk;split at h4;case h_2=>cases h4
  rename_i k' hu;simp only[decide_eq_true_eq]at h4;subst h4;cases ys with
  |nil=>simp[fu]at h
  |cons y ys=>
   cases y with
   |int k2 a2=>
    simp only[fu]at h;split at h
    ·rename_i hk2
     subst hk2;simp only[Option.map_eq_some_iff]at h;obtain⟨t,ht,rfl⟩:=h;have ih:=pZ fs (i+1) xs ys t h5 ht;simp only[cY,h1,h2,h3,ne_eq,not_false_eq_true,and_self,if_true,xx,hu,ih];rfl
    ·cases h
   |_=>simp[fu]at h
 |f::fs,i, .bool _::xs,ys,b,hk,_|f::fs,i, .str _::xs,ys,b,hk,_|f::fs,i, .agg _::xs,ys,b,hk,_|f::fs,i, .ro _::xs,ys,b,hk,_|f::fs,i, .rp _::xs,ys,b,hk,_|f::fs,i, .nilp::xs,ys,b,hk,_|f::fs,i, .nili::xs,ys,b,hk,_|f::fs,i, .ifc::xs,ys,b,hk,_=>by simp[dq]at hk
theorem uz{imm:Nat→Nat→Prop}{w:World}{xs:List D}{y:D}{u v:Value}(hx:DRep imm w (.agg xs) u)(hy:DRep imm w y v){b:Bool}(h:jB (.agg xs) y=some b){t:TypeId}(hk:jC P t (.agg xs)=true):
    (Op.equal t u v).run P w= .ok b w∧(b=true→Instr.sameBits 10000 v u=true):=by
 cases y with
 |agg ys=>
  have h:fu xs ys=some b:=h;cases hx with
  |agg _ vs hl h1 hrep=>
  cases hy with
  |agg _ us hl' h1' hrep'=>
  unfold jC at hk;split at hk
  ·rename_i he;cases he
  ·rename_i he;cases he
  ·rename_i fs xs' hu he
   cases he;simp only[Bool.and_eq_true,beq_iff_eq]at hk;have hf:P.fieldsOf t=fs:=by unfold Program.fieldsOf;rw[hu]
   constructor
   ·show(Op.equalIn 10000 t (.agg vs) (.agg us)).run P w= .ok b w
    rw[show(10000:Nat)=9999+1 from rfl,run_equalIn_struct w 9999 t vs us (by rw[hf];exact hu) hk.1,hf];refine gZ (I:=imm) 9998 vs us fs.toList 0 xs ys b (pZ _ _ _ _ _ hk.2 h) (fun j x hj=> ?_) (fun j x hj=> ?_)
    ·have hlt:j<vs.size:=by rw[hl];exact(List.getElem?_eq_some_iff.1 hj).1
     have:vs[j]? =some vs[j]:=Array.getElem?_eq_getElem hlt;exact⟨_,by rw[Nat.zero_add];exact this,hrep j x _ hj this⟩
    ·have hlt:j<us.size:=by rw[hl'];exact(List.getElem?_eq_some_iff.1 hj).1
     have:us[j]? =some us[j]:=Array.getElem?_eq_getElem hlt;exact⟨_,by rw[Nat.zero_add];exact this,hrep' j x _ hj this⟩
   ·intro hb
    subst hb;obtain⟨rfl,hint⟩:=pY xs ys h;rw[show(10000:Nat)=9999+1 from rfl,Instr.sameBits];simp only[Bool.and_eq_true,beq_iff_eq];refine⟨by rw[hl,hl'],List.all_eq_true.2 fun p hp=> ?_⟩;obtain⟨i,hi,rfl⟩:=List.mem_iff_getElem.1 hp;rw[List.getElem_zip]
    have hlz:i<us.size∧i<vs.size:=by
     simp only[List.length_zip,Array.length_toList]at hi;omega
    have hxi:xs[i]? =some (xs[i]'(by omega)):=List.getElem?_eq_getElem _;have r1:=hrep i _ _ hxi (Array.getElem?_eq_getElem hlz.2);have r2:=hrep' i _ _ hxi (Array.getElem?_eq_getElem hlz.1);obtain⟨k,a,e⟩:=hint _ (List.mem_of_getElem? hxi);rw[e]at r1 r2;simp only[Array.getElem_toList];generalize us[i]'hlz.1=p1 at r2;generalize vs[i]'hlz.2=p2 at r1;cases r1;cases r2;simp[Instr.sameBits]
  ·cases hk
 |_=>simp[jB]at h
theorem mA{imm:Nat→Nat→Prop}{w:World}{xs:List D}{u:Value}(hx:DRep imm w (.agg xs) u){t:TypeId}(hk:jC P t (.agg xs)=true):∀(es:List (D×D×Nat))(ms:List MapEntry)(n:Nat){r:Option (Nat×D)},ms.length=es.length→
    (∀(i:Nat)(e:D×D×Nat)(m:MapEntry),es[i]? =some e→ms[i]? =some m→DRep imm w e.1 m.key∧DRep imm w e.2.1 m.val∧m.born=e.2.2)→b8 (.agg xs) es n=some r→
    match r with
     |none=>(Instr.findAsking t u ms n).run P w= .ok none w
     |some (j,y)=>∃v,(Instr.findAsking t u ms n).run P w= .ok (some (j,v)) w∧DRep imm w y v∧n≤j∧∃m,ms[j-n]? =some m∧Instr.sameBits 10000 m.key u=true
 |[],ms,n,r,hl,_,h=>by
  simp only[b8,Option.some.injEq]at h;subst h;have:ms=[]:=List.length_eq_zero_iff.1 hl;subst this;simp[Instr.findAsking]
 |e::r0,[],n,r,hl,_,h=>by simp at hl
 |e::r0,m::mr,n,r,hl,hent,h=>by
  obtain⟨g1,g2,g3⟩:=hent 0 e m rfl rfl;simp only[b8]at h;split at h
  ·rename_i hs
   simp only[Option.some.injEq]at h;subst h;obtain⟨hq,hsb⟩:=uz hx g1 hs hk;exact⟨m.val,by simp[Instr.findAsking,Sem.run_bind,hq],g2,Nat.le_refl _,m,by simp,hsb rfl⟩
  ·rename_i hs
   obtain⟨hq,_⟩:=uz hx g1 hs hk;have hr:=mA hx hk r0 mr (n+1) (by simpa using hl) (fun i e' m' he hm=>hent (i+1) e' m' (by simpa using he) (by simpa using hm)) h;cases r with
   |none=>simp only at hr ⊢;simp[Instr.findAsking,Sem.run_bind,hq,hr]
   |some jy=>
    obtain⟨j,y⟩:=jy;obtain⟨v,h1,h2,h3,m',h4,h5⟩:=hr;refine⟨v,by simp[Instr.findAsking,Sem.run_bind,hq,h1],h2,by omega,m', ?_,h5⟩;rw[show j-n=(j-(n+1))+1 by omega];simpa using h4
  ·cases h
theorem fb{imm:Nat→Nat→Prop}{w:World}{x:D}{u:Value}(hx:DRep imm w x u){t:TypeId}(hk:jC P t x=true)(es:List (D×D×Nat))(ms:List MapEntry){r:Option (Nat×D)}(hl:ms.length=es.length)
    (hent:∀(i:Nat)(e:D×D×Nat)(m:MapEntry),es[i]? =some e→ms[i]? =some m→DRep imm w e.1 m.key∧DRep imm w e.2.1 m.val∧m.born=e.2.2) (h:b8 x es 0=some r):
    match r with
     |none=>(Instr.findKey t u ms).run P w= .ok none w
     |some (j,y)=>∃v,(Instr.findKey t u ms).run P w= .ok (some (j,v)) w∧DRep imm w y v∧∃m,ms[j]? =some m∧Instr.sameBits 10000 m.key u=true:=by
 cases hx1:x.one with
 |true=>
  obtain⟨d,hd,hr⟩:=pX hx hx1 hk es ms 0 hl hent h;cases r with
  |none=>exact Go.MapKept.run_findKey hd hr
  |some jy=>
   obtain⟨j,y⟩:=jy;obtain⟨v,h1,h2,_,m,h4,h5⟩:=hr;exact⟨v,Go.MapKept.run_findKey hd h1,h2,m,by simpa using h4,h5⟩
 |false=>
  cases x with
  |agg xs=>
   have hw:(match P.underlying t with|some (.array _ _)|some (.struct _)=>true|_=>false)=true:=by
    unfold jC at hk;split at hk
    ·rename_i he;cases he
    ·rename_i he;cases he
    ·rename_i fs xs' hu he;rw[hu]
    ·cases hk
   have hr:=mA hx hk es ms 0 hl hent h;rw[run_findKey_eq w hw u ms];cases r with
   |none=>exact hr
   |some jy=>
    obtain⟨j,y⟩:=jy;obtain⟨v,h1,h2,_,m,h4,h5⟩:=hr;exact⟨v,h1,h2,m,by simpa using h4,h5⟩
  |_=>simp[D.one]at hx1
theorem kw{imm:Nat→Nat→Prop}{w:World}(e:Bool)(vs:Array Value)(w':World):∀(fs:List Field)(i:Nat)(xs:List D),dq P fs i xs=true→(∀(j:Nat)(x:D),xs[j]? =some x→∃u,vs[i+j]? =some u∧DRep imm w x u)→
    (forIn fs PUnit.unit fun f _=>if f.name≠ "_" then do
        let a ←part f.type vs f.offset
        Instr.checkKey e 9999 f.type a
        pure (ForInStep.yield PUnit.unit)
     else pure (ForInStep.yield PUnit.unit):Sem PUnit).run P w'= .ok PUnit.unit w'
 |[],i,xs,_,_=>by simp
 |f::fs,i,[],hk,_=>by simp[dq]at hk
 |f::fs,i,x::xs,hk,h=>by
  obtain⟨u,hu,hr⟩:=h 0 x rfl;rw[Nat.add_zero]at hu;cases x with
  |int k a=>
   simp only[dq,Bool.and_eq_true,decide_eq_true_eq,beq_iff_eq]at hk;obtain⟨⟨h1,h2,h3,h4⟩,h5⟩:=hk;split at h4;case h_2=>cases h4
   rename_i k' hut;cases hr
   have ih:=kw e vs w' fs (i+1) xs h5 (fun j x hj=>by
    have:=h (j+1) x hj;rwa [show i+(j+1)=i+1+j by omega]at this)
   have hp:=iE (P:=P) (w:=w') h3 vs i _ hu
   have hc:(Instr.checkKey e 9999 f.type (.int k a)).run P w'= .ok () w':=by
    rw[show(9999:Nat)=9998+1 from rfl];unfold Instr.checkKey;simp[run_underlying hut,Result.andThen]
   simp only[List.forIn_cons,Sem.run_bind,h1,h2,ne_eq,not_false_eq_true,if_true,Result.andThen_ok,hp,hc,Sem.run_pure];exact ih
  |_=>simp[dq]at hk
theorem k6{imm:Nat→Nat→Prop}{w:World}{x:D}{u:Value}(hx:DRep imm w x u){t:TypeId}(hk:jC P t x=true)(e:Bool)(w':World):(Instr.checkKey e 10000 t u).run P w'= .ok () w':=by
 unfold jC at hk;rw[show(10000:Nat)=9999+1 from rfl];unfold Instr.checkKey;split at hk
 ·rename_i kk k2 n hu
  cases hx;simp[run_underlying hu,Result.andThen]
 ·rename_i s hu
  cases hx;simp[run_underlying hu,Result.andThen]
 ·rename_i fs xs hu
  simp only[Bool.and_eq_true,beq_iff_eq]at hk;cases hx with
  |agg _ vs hl h1 hrep=>
  have hc:=kw (P:=P) (imm:=imm) (w:=w) e vs w' fs.toList 0 xs hk.2 (fun j x hj=>by
   have hlt:j<vs.size:=by rw[hl];exact(List.getElem?_eq_some_iff.1 hj).1
   have:vs[j]? =some vs[j]:=Array.getElem?_eq_getElem hlt;exact⟨_,by rw[Nat.zero_add];exact this,hrep j x _ hj this⟩)
  simp only[Sem.run_bind,run_underlying hu,Result.andThen_ok];rw[←Array.forIn_toList];simp only[Sem.run_bind,hc,Result.andThen_ok,Sem.run_pure]
 ·cases hk
theorem rQ(x y:D):∀(i:Nat)(es:List (D×D×Nat))(j:Nat),(ey x y i es)[j]? =if j=i then (es[j]?).map fun e=>(x,y,e.2.2)else es[j]?
 |i,[],j=>by cases i<;>simp[ey]
 |0,e::r,0=>by simp[ey]
 |0,e::r,j+1=>by simp[ey]
 |i+1,e::r,0=>by simp[ey]
 |i+1,e::r,j+1=>by simp[ey,rQ x y i r j]
theorem rR(x y:D):∀(i:Nat)(es:List (D×D×Nat)),(ey x y i es).length=es.length
 |i,[]=>by cases i<;>rfl
 |0,e::r=>rfl
 |i+1,e::r=>by simp[ey,rR x y i r]
theorem je(hr:HR G B w0 I0 h w){t:TypeId}{m key x:AV}{vm vk vx:Value}(hm:Rep G w m vm)(hk:Rep G w key vk)(hx:Rep G w x vx){out:Out}(ho:bX P t m key x h=some out):
    out.ob=[]∧out.val= .junk∧∃w',(Instr.mapUpdate t vm vk vx).run P w= .ok () w'∧Ext G w G w'∧HR G B w0 I0 (aq h out.wr) w':=by
 unfold bX at ho;split at ho;case h_2=>cases ho
 rename_i kt et k v kd xd hu;split at ho;case h_2=>cases ho
 rename_i es c hob;split at ho;case isFalse=>cases ho
 rename_i hc;obtain⟨hv,hkt⟩:=hc;cases hm with
 |mp _ _ b hL=>
 subst hv;cases hk with
 |d hkd=>
 cases hx with
 |d hxd=>
 obtain⟨b',hL',ms,hb,hsz,hent⟩:=hr.maps.obj k es c hob;rw[hL]at hL';cases hL';have hget:=Go.MapKept.run_getObj_map (P:=P) hb;split at ho
 ·rename_i i y hfind
  simp only[Option.some.injEq]at ho;subst ho;obtain⟨v',hfk,_,m',hm',hbits⟩:=fb hkd hkt es ms.toList (by simpa using hsz) (fun i e m he hm=>hent i e m he (by simpa using hm)) hfind;have hck:=k6 (P:=P) hkd hkt false w;have hmi:ms[i]? =some m':=by simpa using hm'
  obtain⟨h1,h2⟩:=hr.setMap (k:=k) (c':=c) (ms':=ms.modify i fun e=>{e with key:=vk,val:=vx}) (es':=ey kd xd i es) (by rw[hob];rfl) hL hb (by simp[rR,hsz]) (fun j e m he hm=>by
   rw[rQ]at he;rw[Array.getElem?_modify]at hm;by_cases hj:j=i
   ·subst hj
    simp only[if_true,Option.map_eq_some_iff]at he hm;obtain⟨e0,he0,rfl⟩:=he;obtain⟨m0,hm0,rfl⟩:=hm;exact⟨hkd,hxd,(hent j e0 m0 he0 hm0).2.2⟩
   ·rw[if_neg hj]at he
    rw[if_neg (fun e=>hj e.symm)]at hm;exact hent j e m he hm)
  refine⟨rfl,rfl,_, ?_,h2,h1⟩;simp only[Instr.mapUpdate,Sem.run_bind,run_underlying hu,Result.andThen_ok,hget,hck,hfk];simp only[Instr.keyThatStays,hmi,Option.map_some,Option.getD_some,hbits,if_true,Sem.run_pure,Result.andThen_ok];exact Go.MapKept.run_setObj_map (P:=P) _ hb
 ·rename_i hfind
  simp only[Option.some.injEq]at ho;subst ho;have hfk:=fb hkd hkt es ms.toList (by simpa using hsz) (fun i e m he hm=>hent i e m he (by simpa using hm)) hfind;have hck:=k6 (P:=P) hkd hkt false w
  obtain⟨h1,h2⟩:=hr.setMap (k:=k) (c':=c+1) (ms':=ms.push {key:=vk,val:=vx,born:=c}) (es':=es ++[(kd,xd,c)]) (by rw[hob];rfl) hL hb (by simp[hsz]) (fun j e m he hm=>by
   by_cases hj:j<es.length
   ·rw[List.getElem?_append_left hj]at he
    rw[Array.getElem?_push,if_neg (by omega)]at hm;exact hent j e m he hm
   ·rw[List.getElem?_append_right (by omega)]at he
    have hj0:j=es.length:=by
     have:=(List.getElem?_eq_some_iff.1 he).1;simp at this;omega
    subst hj0;simp only[Nat.sub_self,List.getElem?_cons_zero,Option.some.injEq]at he;rw[Array.getElem?_push,if_pos hsz.symm]at hm;simp only[Option.some.injEq]at hm;subst he;subst hm;exact⟨hkd,hxd,rfl⟩)
  refine⟨rfl,rfl,_, ?_,h2,h1⟩;simp only[Instr.mapUpdate,Sem.run_bind,run_underlying hu,Result.andThen_ok,hget,hck,hfk];exact Go.MapKept.run_setObj_map (P:=P) _ hb
 ·cases ho
theorem rS(hr:HR G B w0 I0 h w){t:TypeId}{m key:AV}{ok:Bool}{vm vk:Value}(hm:Rep G w m vm)(hk:Rep G w key vk){out:Out}(ho:eY P t m key ok h=some out):
    out.ob=[]∧out.wr=[]∧∃v,(Instr.lookup t vm vk ok).run P w= .ok v w∧Rep G w out.val v:=by
 unfold eY at ho;split at ho;case h_2=>cases ho
 rename_i kt et k v kd hu;split at ho;case h_2=>cases ho
 rename_i es c hob;split at ho;case isFalse=>cases ho
 rename_i hc;obtain⟨hv,hkt⟩:=hc;cases hm with
 |mp _ _ b hL=>
 subst hv;cases hk with
 |d hkd=>
 obtain⟨b',hL',ms,hb,hsz,hent⟩:=hr.maps.obj k es c hob;rw[hL]at hL';cases hL';have hget:=Go.MapKept.run_getObj_map (P:=P) hb
 have two:∀(x:AV)(v:Value)(b:Bool),Rep G w x v→Rep G w (.tup [x, .d (.bool b)]) (.tuple #[v, .bool b]):=fun x v b hx=> .tup _ _ rfl (fun i c u hc hu=>by
  match i with
  |0=>simp at hc hu;subst hc;subst hu;exact hx
  |1=>simp at hc hu;subst hc;subst hu;exact .d (.bool b)
  |i+2=>simp at hc)
 split at ho
 ·rename_i i y hfind
  simp only[Option.some.injEq]at ho;subst ho;obtain⟨v',hfk,hy,_⟩:=fb hkd hkt es ms.toList (by simpa using hsz) (fun i e m he hm=>hent i e m he (by simpa using hm)) hfind;have hck:=k6 (P:=P) hkd hkt ms.isEmpty w;refine⟨rfl,rfl,if ok=true then .tuple #[v', .bool true]else v', ?_, ?_⟩
  ·simp only[Instr.lookup,Sem.run_bind,run_underlying hu,Result.andThen_ok,hget,Sem.run_pure,hck,hfk]
  ·cases ok
   ·exact .d hy
   ·exact two _ _ _ (.d hy)
 ·rename_i hfind
  split at ho;case h_2=>cases ho
  rename_i z hz;simp only[Option.some.injEq]at ho;subst ho;have hfk:=fb hkd hkt es ms.toList (by simpa using hsz) (fun i e m he hm=>hent i e m he (by simpa using hm)) hfind;have hck:=k6 (P:=P) hkd hkt ms.isEmpty w;refine⟨rfl,rfl,if ok=true then .tuple #[z, .bool false]else z, ?_, ?_⟩
  ·simp only[Instr.lookup,Sem.run_bind,run_underlying hu,Result.andThen_ok,hget,Sem.run_pure,hck,hfk,cO hz]
  ·cases ok
   ·exact nE z
   ·exact two _ _ _ (nE z)
 ·cases ho
theorem rT(hr:HR G B w0 I0 h w){t:TypeId}{k v:Nat}{vm:Value}(hm:Rep G w (.mp k v) vm){out:Out}(ho:f4 P t k v h=some out):
    out.ob=[]∧out.wr=[]∧∃x,(∀ty,(Builtin.len_ #[t] ty #[vm]).run P w= .ok x w)∧Rep G w out.val x:=by
 unfold f4 at ho;split at ho;case h_2=>cases ho
 rename_i kt et hu;split at ho;case h_2=>cases ho
 rename_i es c hob;split at ho;case isFalse=>cases ho
 rename_i hv;simp only[Option.some.injEq]at ho;subst ho;cases hm with
 |mp _ _ b hL=>
 subst hv;obtain⟨b',hL',ms,hb,hsz,hent⟩:=hr.maps.obj k es c hob;rw[hL]at hL';cases hL';refine⟨rfl,rfl,_,fun ty=> ?_, .d (.int .i64 (es.length:Int))⟩;simp[Builtin.len_,run_underlying hu,Go.MapKept.run_getObj_map (P:=P) hb,Result.andThen,goInt,hsz]
theorem ue{t:TypeId}{x ix:AV}{vx vi:Value}(hx:Rep G w x vx)(hi:Rep G w ix vi){y:AV}(ho:qR P t x ix=some y):∃v,(Instr.index t vx vi).run P w= .ok v w∧Rep G w y v:=by
 unfold qR at ho;split at ho
 ·rename_i s kd i hu
  split at ho
  ·rename_i h0
   simp only[Option.map_eq_some_iff]at ho;obtain⟨b,hb,rfl⟩:=ho;cases hx with
   |d hx=>
   cases hx with
   |str _ sb hs=>
   subst hs;cases hi with
   |d hi=>
   cases hi
   have hsb:sb[i.toNat]? =some b:=by
    obtain⟨hlt,he⟩:=List.getElem?_eq_some_iff.1 hb;have hlt':i.toNat<sb.size:=by simpa using hlt
    rw[getElem?_pos sb i.toNat hlt'];simp only[Array.getElem_toList]at he;rw[←he];rfl
   refine⟨_, ?_, .d (.int .u8 (b.toNat:Int))⟩;simp[Instr.index,asIntOf,run_underlying hu,h0,hsb]
  ·cases ho
 ·cases ho
end Go.Avm
namespace Go.Avm
open Go.RowKit
variable[aJ]
def dc(P:Program)(f:Nat):Prop:=∃fn,P.funcs[f]? =some fn∧fn.body.isNone=false∧(fn.name== "runtime.NumGoroutine")=false
def JQ(P:Program)(g:Nat)(k:CD):Prop:=∃fn,P.funcs[g]? =some fn∧(fn.name== "runtime.NumGoroutine")=false∧fn.body.isNone=true∧Extern.findNext fn=none∧match k with
 | .indexByte=>Extern.find fn=some Extern.BytealgIndexByte.indexByte
 | .same=>Extern.find fn=some Extern.AbiNoEscape.same
def iG(P:Program):Prop:=∀g k,aJ.ext g=some k→JQ P g k
structure g0(P:Program):Prop where
 mixed:P.follows .mixedOrders=true
 ext:iG P
def rU(I:Nat→Nat→Prop)(w:World)(rs:List D)(v:Value):Prop:=
 (∃x,rs=[x]∧DRep I w x v)∨(rs.length≠1∧∃vs,v= .tuple vs∧vs.size=rs.length∧∀(i:Nat)(x:D)(u:Value),rs[i]? =some x→vs[i]? =some u→DRep I w x u)
def aK(P:Program)(f:Nat)(args rs:List D):Prop:=
 dc P f∧∀(w:World)(I:Nat→Nat→Prop)(cargs:Array Value),(∀b o,I b o→b<w.heap.size)→cargs.size=args.length→
  (∀(i:Nat)(x:D)(u:Value),args[i]? =some x→cargs[i]? =some u→DRep I w x u)→Globs I w→
  Calls P f cargs w fun e w'=>∃v I',e= .returned v∧Below w.heap.size w w'∧(∀b o,I b o→I' b o)∧(∀b o,I' b o→I b o∨w.heap.size≤b)∧
   (∀b o,I' b o→b<w'.heap.size)∧rU I' w' rs v
def ay(P:Program)(f:Nat)(args:List AV)(h:ab)(rs:List AV)(h':ab):Prop:=
 dc P f∧∀(G:Gh)(B:Nat)(w0:World)(I0:Nat→Nat→Prop)(w:World)(cargs:Array Value),HR G B w0 I0 h w→cargs.size=args.length→
  (∀(i:Nat)(x:AV)(u:Value),args[i]? =some x→cargs[i]? =some u→Rep G w x u)→
  Calls P f cargs w fun e w'=>∃v G',e= .returned v∧Ext G w G' w'∧HR G' B w0 I0 h' w'∧Rep G' w' (gY rs) v
def FF(r:Option Nat):Fence:={fn:=fun _=>True,depth:=none,alive:=false,round:=r}
def xK(P:Program)(k v:Nat)(args:List AV)(h:ab)(rs:List AV)(h':ab):Prop:=
 ∀(G:Gh)(B:Nat)(w0:World)(I0:Nat→Nat→Prop)(w:World)(cargs:Array Value),HR G B w0 I0 h w→cargs.size=args.length→
  (∀(i:Nat)(x:AV)(u:Value),args[i]? =some x→cargs[i]? =some u→Rep G w x u)→∀b,G.mloc k v=some b→
  ∃(f:Nat)(tmps:Array Value)(Ua bd:Code),(Instr.yield b cargs).run P w= .ok (.round b f tmps Ua bd) w∧
   ∀r,RoundIn (FF r) 0 P b f tmps Ua bd w fun e w'=>∃x G',e= .returned x∧Ext G w G' w'∧HR G' B w0 I0 h' w'∧Rep G' w' (gY rs) x
theorem rV:∀(l m:List (Nat×aN))(h:ab),al (l ++m) h=al l (al m h)
 |[],_,_=>rfl
 |(k,e)::r,m,h=>by simp only[List.cons_append,al,rV r m h]
theorem rX:∀(l:List (Nat×aN))(h:ab),aq h l=al l.reverse h
 |[],_=>rfl
 |(k,e)::r,h=>by
  rw[aq,rX r,List.reverse_cons,rV];rfl
theorem zF(l:List (Nat×aN))(h:ab):aq h l.reverse=al l h:=by rw[rX,List.reverse_reverse]
theorem jg(h:ab):∀(l:List (Nat×aN)),(∀p∈l,p.2.ver=(h p.1).ver∧(p.2.ob=none∨p.2.ob=(h p.1).ob))→∀k,(al l h k).ver=(h k).ver∧((al l h k).ob=none∨(al l h k).ob=(h k).ob)
 |[],_,_=>⟨rfl, .inr rfl⟩
 |(k',e)::r,hp,k=>by
  simp only[al,aM];split
  ·rename_i he;subst he;exact hp (k,e) (by simp)
  ·exact jg h r (fun p hm=>hp p (by simp[hm])) k
theorem HR.forget{G:Gh}{B:Nat}{w0 w:World}{I0:Nat→Nat→Prop}{h h':ab}(hr:HR G B w0 I0 h w)(hh:∀k,(h' k).ver=(h k).ver∧((h' k).ob=none∨(h' k).ob=(h k).ob)):HR G B w0 I0 h' w:=
 ⟨hr.below,hr.bsz,hr.immlt,hr.i0,hr.immlow,fun k v L hL=>by rw[(hh k).1];exact hr.fresh k v L hL,fun k L hL=>by rw[(hh k).1]at hL;exact hr.own k L hL,
  fun k k' L L' hL hL'=>by rw[(hh k).1]at hL;rw[(hh k').1]at hL';exact hr.dis k k' L L' hL hL',fun k ob ho=>by
   rw[(hh k).1];rcases(hh k).2 with h0|h0
   ·rw[h0]at ho;cases ho
   ·rw[h0]at ho;exact hr.objs k ob ho,fun k=>by rw[(hh k).1];exact hr.lim k,⟨fun k v b x=>by rw[(hh k).1];exact hr.maps.low k v b x,fun k k' b l l' x x'=>by
   have lv:∀k,jw (h' k).ob=true→jw (h k).ob=true:=fun k l=>by
    rcases(hh k).2 with h0|h0
    ·rw[h0]at l;cases l
    ·rw[←h0];exact l
   rw[(hh k).1]at x;rw[(hh k').1]at x';exact hr.maps.inj k k' b (lv k l) (lv k' l') x x',fun k es c x=>by
   rw[(hh k).1];rcases(hh k).2 with h0|h0
   ·rw[h0]at x;cases x
   ·rw[h0]at x;exact hr.maps.obj k es c x,fun k fno N env ps Ua bd st x=>by
   rw[(hh k).1];rcases(hh k).2 with h0|h0
   ·rw[h0]at x;cases x
   ·rw[h0]at x;exact hr.maps.loops k fno N env ps Ua bd st x,fun k km vm since seen x=>by
   rw[(hh k).1];rcases(hh k).2 with h0|h0
   ·rw[h0]at x;cases x
   ·rw[h0]at x;exact hr.maps.iters k km vm since seen x,hr.maps.glob⟩⟩
theorem vX{P:Program}{g:Nat}{args rs:List AV}{h h1 h2:ab}(hc:ay P g args h1 rs h2)(hh:∀k,(h1 k).ver=(h k).ver∧((h1 k).ob=none∨(h1 k).ob=(h k).ob)):ay P g args h rs h2:=
 ⟨hc.1,fun G B w0 I0 w cargs hr hs hargs=>hc.2 G B w0 I0 w cargs (hr.forget hh) hs hargs⟩
def DZ(P:Program)(ob:List (Nat×List D×List D)):Prop:=∀c∈ob,aK P c.1 c.2.1 c.2.2
def Obl.holds(P:Program):Obl→Prop
 | .data c=>aK P c.1 c.2.1 c.2.2
 | .heap f args h rs h'=>ay P f args h rs h'
 | .frame f args pre rs post=>∀h,mn h pre→ay P f args h rs (al post h)
 | .exact f args pre h0 rs post h1=>∀h,(∀k∈pre,h k=h0 k)→ay P f args h rs (aq h (gI post h1))
 | .yield k v args h rs h'=>xK P k v args h rs h'
def fT(P:Program)(ob:List Obl):Prop:=∀c∈ob,c.holds P
section
variable{P:Program}{G:Gh}{B:Nat}{w0 w:World}{I0:Nat→Nat→Prop}{h:ab}
theorem rY{w w':World}(hb:Below w.heap.size w w'){b o:Nat}(hlt:b<w.heap.size):w'.cell? ⟨b,o,none⟩=w.cell? ⟨b,o,none⟩:=hb.cell (p:=⟨b,o,none⟩) hlt
theorem HR.behind(hr:HR G B w0 I0 h w){w':World}(hb:Below w.heap.size w w'){I':Nat→Nat→Prop}(hI:∀b o,I' b o→G.imm b o∨w.heap.size≤b)(hlt:∀b o,I' b o→b<w'.heap.size):
    HR (G.more I') B w0 I0 h w'∧Ext G w (G.more I') w':=by
 have hex:Ext G w (G.more I') w':=⟨fun _ _ x=> .inl x,fun _ _ _ x=>x,fun b i x=>rY hb (hr.immlt b i x),hb.size,fun _=>Nat.le_refl _,fun _ _ _ x=>x,fun _ _ _ x=>x,fun b o _ x=>⟨o,by rw[hb.block b (Array.getElem?_eq_some_iff.1 x).1];exact x,eu o⟩⟩
 refine⟨⟨hr.below.trans (hb.mono hr.bsz),Nat.le_trans hr.bsz hb.size, ?_,fun b o x=> .inl (hr.i0 b o x), ?_,hr.fresh, ?_,hr.dis, ?_,hr.lim,hr.maps.step hex rfl (fun b o _ x=>(hb.block b (Array.getElem?_eq_some_iff.1 x).1).trans x) (fun _=>Nat.le_refl _) (fun _ _ _ _=>rfl)⟩,hex⟩
 ·rintro b o (x|x)
  ·exact Nat.lt_of_lt_of_le (hr.immlt b o x) hb.size
  ·exact hlt b o x
 ·rintro b o (x|x) hbB
  ·exact hr.immlow b o x hbB
  ·rcases hI b o x with x|x
   ·exact hr.immlow b o x hbB
   ·have:=hr.bsz;omega
 ·intro k L hL
  obtain⟨h1,⟨arr,e,h2,h3⟩,h4⟩:=hr.own k L hL;have jO:=hr.blt hL;refine⟨h1,⟨arr,e,(hb.block L.b jO).trans h2,h3⟩, ?_⟩;rintro o (x|x)
  ·exact h4 o x
  ·rcases hI _ o x with x|x
   ·exact h4 o x
   ·omega
 ·intro k ob ho
  exact(hr.objs k ob ho).mono (hr.le k) hex (fun L hL t=>rY hb (hr.blt hL))
theorem xL{x:D}(hs:x.scal=true){I:Nat→Nat→Prop}{w:World}{v:Value}(hd:DRep I w x v)(I2:Nat→Nat→Prop)(w2:World):DRep I2 w2 x v:=by
 cases x<;>first|(cases hd;first|exact .bool _|exact .int _ _|exact .str _ _ ‹_›|exact .nilp|exact .nili|exact .ifc _ _)|(simp[D.scal]at hs)
theorem uA{rs:List D}{v:Value}(hr:rU G.imm w rs v):Rep G w (jA rs) v:=by
 rcases hr with ⟨x,rfl,hd⟩|⟨hn,vs,rfl,hs,hd⟩
 ·exact .d hd
 ·have:jA rs= .tup (rs.map .d):=by
    unfold jA;split
    ·simp at hn
    ·rfl
  rw[this];refine .tup _ vs (by simpa using hs) (fun i c u hc hu=> ?_);simp only[List.getElem?_map,Option.map_eq_some_iff]at hc;obtain⟨x,hx,rfl⟩:=hc;exact .d (hd i x u hx hu)
theorem de{f:Nat}(hc:dc P f)(args:Array Value)(w:World):(callFunc f args).run P w= .ok (.enter f args) w:=by
 obtain⟨fn,hf,hb,hn⟩:=hc;simp only[callFunc,Sem.run_bind,run_program,Result.andThen_ok,hf,hn,hb,Bool.false_eq_true,if_false,Sem.run_pure]
theorem vY(hr:HR G B w0 I0 h w){cfg:iA}{i f:Nat}{xs:List AV}{vs:Array Value}(hl:vs.size=xs.length)(hx:∀(i:Nat)(x:AV)(u:Value),xs[i]? =some x→vs[i]? =some u→Rep G w x u){out:Out}
    (ho:gu cfg i f xs h=some out) (hob:DZ P out.ob):
    dc P f∧Calls P f vs w fun e w'=>∃v G',e= .returned v∧Ext G w G' w'∧HR G' B w0 I0 (aq h out.wr) w'∧Rep G' w' out.val v:=by
 unfold gu at ho;split at ho
 ·rename_i ds hds
  simp only[Option.some.injEq]at ho;subst ho;obtain⟨h1,h2⟩:=rI hds hl hx;obtain⟨hc,hcall⟩:=hob (f,ds,cfg.ret i) (by simp);refine⟨hc,(hcall w G.imm vs hr.immlt h1 h2 hr.maps.glob).mono ?_⟩;rintro e w' ⟨v,I',rfl,hb,hI1,hI2,hI3,hret⟩;obtain⟨g1,g2⟩:=hr.behind hb hI2 hI3;refine⟨v,_,rfl,g2,g1,uA ?_⟩;have up:∀{x:D}{u:Value},DRep I' w' x u→DRep (G.more I').imm w' x u:=fun hd=>hd.mono (fun _ _ x=> .inr x) (fun _ _ _=>rfl)
  rcases hret with ⟨x,hx,hd⟩|⟨hn,us,hv,hs,hd⟩
  ·exact .inl ⟨x,hx,up hd⟩
  ·exact .inr ⟨hn,us,hv,hs,fun i x u a b=>up (hd i x u a b)⟩
 ·split at ho
  ·rename_i r hview
   split at ho
   ·rename_i hscal
    simp only[Option.some.injEq]at ho;subst ho;obtain⟨ds,ks⟩:=r;obtain⟨h1,h2⟩:=xz hr hview hl hx;obtain⟨hc,hcall⟩:=hob (f,ds,cfg.ret i) (by simp)
    have hilt:∀b o,dn G h ks b o→b<w.heap.size:=by
     rintro b o (x|⟨k,_,L,hL,rfl⟩)
     ·exact hr.immlt b o x
     ·exact hr.blt hL
    refine⟨hc,(hcall w (dn G h ks) vs hilt h1 h2 (hr.maps.glob.mono (fun _ _ x=> .inl x) (fun _ _ _=>rfl))).mono ?_⟩;rintro e w' ⟨v,I',rfl,hb,hI1,hI2,hI3,hret⟩;obtain⟨g1,g2⟩:=hr.behind hb (I':=fun _ _=>False) (fun _ _ x=>x.elim) (fun _ _ x=>x.elim);refine⟨v,_,rfl,g2,g1,uA ?_⟩;have sc:∀x∈cfg.ret i,x.scal=true:=fun x hx=>List.all_eq_true.1 hscal x hx
    rcases hret with ⟨x,hx,hd⟩|⟨hn,us,hv,hs,hd⟩
    ·exact .inl ⟨x,hx,xL (sc x (by have hx':cfg.ret i=[x]:=hx;rw[hx'];simp)) hd _ _⟩
    ·exact .inr ⟨hn,us,hv,hs,fun i x u a b=>xL (sc x (List.mem_of_getElem? a)) (hd i x u a b) _ _⟩
   ·cases ho
  ·cases ho
def Bj(P:Program)(B:Nat)(w0:World)(I0:Nat→Nat→Prop)(G:Gh)(h:ab)(w:World)(out:Out)(r:Result Next):Prop:=
 Good P B w0 I0 G h w r out∨∃f args,r= .ok (.enter f args) w∧Calls P f args w fun e w'=>∃v G',e= .returned v∧Ext G w G' w'∧HR G' B w0 I0 (aq h out.wr) w'∧Rep G' w' out.val v
theorem aQ(hr:HR G B w0 I0 h w){s:Sem Value}{out:Out}{v:Value}(hrun:s.run P w= .ok v w)(hw:out.wr=[])(hv:Rep G w out.val v):Bj P B w0 I0 G h w out ((do pure (.value (←s)):Sem Next).run P w):=
 .inl (Good.pure hr (by simp[hrun]) hw hv)
theorem eI{s:Sem Value}{out:Out}(hh:∃v w' G',s.run P w= .ok v w'∧Ext G w G' w'∧HR G' B w0 I0 (aq h out.wr) w'∧Rep G' w' out.val v):Bj P B w0 I0 G h w out ((do pure (.value (←s)):Sem Next).run P w):=by
 obtain⟨v,w',G',hrun,h1,h2,h3⟩:=hh;exact .inl ⟨v,w',G', .inl (by simp[hrun]),h1,h2,h3⟩
theorem dL(c:Call)(b:Builtin)(ty:TypeId)(ρ:Operand→Value)(hc:c.callee= .builtin b):(do let d ←resolve ρ c ty;invoke d.target d.args:Sem Next).run P w=
    (builtin b c.argTypes ty (c.args.map fun| .const _=>true|_=>false) (c.args.map ρ)).run P w:=by
 simp only[resolve,hc,pure_bind,invoke];rfl
theorem jF{c:Call}{ty:TypeId}{ρA:Operand→AV}{ρ:Operand→Value}(hρ:∀x,Rep G w (ρA x) (ρ x)){f:Operand}(hcal:c.callee= .value f){g:Nat}{caps:List AV}(hf:ρA f= .fn g caps):
    ∃vs:Array Value,(c.args.map ρ ++vs).size=(c.args.toList.map ρA ++caps).length∧
     (∀(i:Nat)(x:AV)(u:Value),(c.args.toList.map ρA ++caps)[i]? =some x→(c.args.map ρ ++vs)[i]? =some u→Rep G w x u)∧
     (do let d ←resolve ρ c ty;invoke d.target d.args:Sem Next).run P w=(callFunc g (c.args.map ρ ++vs)).run P w:=by
 have hfr:=hρ f;rw[hf]at hfr
 obtain⟨vs,hfv,hl,hcr⟩:∃vs:Array Value,ρ f= .func (.func g) #[] vs∧vs.size=caps.length∧∀(i:Nat)(x:AV)(u:Value),caps[i]? =some x→vs[i]? =some u→Rep G w x u:=by
  generalize ρ f=vf at hfr;cases hfr with
  |fn _ _ vs hl hh=>exact⟨vs,rfl,hl,hh⟩
 have hsz:(c.args.map ρ ++vs).size=(c.args.toList.map ρA ++caps).length:=by simp[hl]
 have hrep:∀(i:Nat)(x:AV)(u:Value),(c.args.toList.map ρA ++caps)[i]? =some x→(c.args.map ρ ++vs)[i]? =some u→Rep G w x u:=by
  intro i x u hx hu;by_cases hi:i<c.args.size
  ·rw[List.getElem?_append_left (by simpa using hi)]at hx
   rw[Array.getElem?_append_left (by simpa using hi)]at hu;simp only[List.getElem?_map,Array.getElem?_toList,Option.map_eq_some_iff]at hx;simp only[Array.getElem?_map,Option.map_eq_some_iff]at hu;obtain⟨a,ha,rfl⟩:=hx;obtain⟨b,hb,rfl⟩:=hu;rw[ha]at hb;simp only[Option.some.injEq]at hb;subst hb;exact hρ a
  ·rw[List.getElem?_append_right (by simp;omega)]at hx
   rw[Array.getElem?_append_right (by simp;omega)]at hu;simp only[List.length_map,Array.length_toList]at hx;simp only[Array.size_map]at hu;exact hcr _ x u hx hu
 refine⟨vs,hsz,hrep, ?_⟩
 have h0:resolve ρ c ty=pure {target:= .fn (.func g) vs,args:= #[] ++c.args.map ρ}:=by
  simp only[resolve,hcal,hfv,Deferred.ofValue]
 rw[h0,pure_bind];simp only[invoke,Array.empty_append]
theorem nO(s:List UInt8)(c:UInt8):∀(n i:Nat),s.length-i=n→i≤s.length→((List.range' i n).find? fun j=>s[j]! ==c)=nB c (s.drop i) i
 |0,i,h,hi=>by
  rw[List.drop_eq_nil_of_le (by omega)];rfl
 |n+1,i,h,hi=>by
  have hlt:i<s.length:=by omega
  rw[List.range'_succ,List.find?_cons,List.drop_eq_getElem_cons hlt];simp only[nB];have hg:s[i]! =s[i]:=getElem!_pos s i hlt;rw[hg];by_cases hc:s[i]==c
  ·simp[hc]
  ·simp only[hc,Bool.false_eq_true,if_false]
   exact nO s c n (i+1) (by omega) (by omega)
theorem zG{k:CD}{g:Nat}(hk:JQ P g k){ds:List D}{args:Array Value}(hs:args.size=ds.length){imm:Nat→Nat→Prop}(hr:∀(i:Nat)(x:D)(u:Value),ds[i]? =some x→args[i]? =some u→DRep imm w x u){d:D}(hd:KI k ds=some d):
    ∃v,(callFunc g args).run P w= .ok (.value v) w∧DRep imm w d v:=by
 obtain⟨fn,h1,h2,h3,h4,h5⟩:=hk;unfold KI at hd;split at hd
 ·rename_i s c
  simp only[Option.some.injEq]at hd;subst hd;have l0:args[0]? =some (args[0]'(by simp at hs;omega)):=Array.getElem?_eq_getElem _;have l1:args[1]? =some (args[1]'(by simp at hs;omega)):=Array.getElem?_eq_getElem _;have r0:=hr 0 _ _ rfl l0;have r1:=hr 1 _ _ rfl l1
  have ha:args= #[args[0]'(by simp at hs;omega),args[1]'(by simp at hs;omega)]:=by
   apply Array.ext
   ·simpa using hs
   ·intro i hi1 hi2
    match i with
    |0=>rfl
    |1=>rfl
    |i+2=>simp at hi2;omega
  generalize args[0]'(by simp at hs;omega)=v0 at ha r0;generalize args[1]'(by simp at hs;omega)=v1 at ha r1;subst ha;cases r0 with
  |str _ sb hsb=>
  subst hsb;cases r1;refine⟨_, ?_, .int .i64 _⟩;rw[run_callFunc_indexByte h1 h2 h3 h4 h5,run_indexByte_string];simp only[Result.andThen_ok];congr 3;unfold firstIdx;have:=nO sb.data.toList c.toNat.toUInt8 sb.size 0 (by simp) (by simp);rw[List.drop_zero]at this;rw[←this,List.range_eq_range']
  have hg:(fun i:Nat=>sb[i]! ==c.toNat.toUInt8)=(fun j:Nat=>sb.data.toList[j]! ==c.toNat.toUInt8):=by
   funext j
   have:sb[j]! =sb.data.toList[j]! :=by
    by_cases hj:j<sb.size
    ·rw[getElem!_pos sb j hj,getElem!_pos sb.data.toList j (by simpa using hj)]
     simp only[Array.getElem_toList];rfl
    ·rw[getElem!_neg sb j hj,getElem!_neg sb.data.toList j (by simpa using hj)]
   rw[this]
  rw[hg];generalize List.find? _ _=q;cases q<;>rfl
 ·cases hd
theorem rZ(hx:iG P)(hr:HR G B w0 I0 h w){cfg:iA}{i k:Nat}{c:Call}{ty:TypeId}{ρA:Operand→AV}{ρ:Operand→Value}(hρ:∀x,Rep G w (ρA x) (ρ x)){out:Out}(ho:bP P cfg i c ρA h k=some out)(hob:DZ P out.ob):
    Bj P B w0 I0 G h w out ((do let d ←resolve ρ c ty;invoke d.target d.args:Sem Next).run P w):=by
 have arr:∀{α:Type}(a:Array α)(l:List α),a.toList=l→a=l.toArray:=fun a l e=>by rw[←e]
 unfold bP at ho;split at ho
 ·rename_i hcal
  rw[dL c .len ty ρ hcal];split at ho
  ·rename_i x t hargs hty
   rw[arr _ _ hargs,arr _ _ hty,show Array.map ρ [x].toArray= #[ρ x]from by simp];split at ho
   ·rename_i k0 v0 hx0
    obtain⟨_,hw,v,hrun,hv⟩:=rT (P:=P) hr (by rw[←hx0];exact hρ x) ho;exact aQ hr (s:=Builtin.len_ #[t] ty #[ρ x]) (hrun ty) hw hv
   ·obtain⟨_,hw,v,hrun,hv⟩:=xF (P:=P) (hρ x) ho
    exact aQ hr (s:=Builtin.len_ #[t] ty #[ρ x]) (hrun ty) hw hv
  ·cases ho
 ·rename_i hcal
  rw[dL c .min ty ρ hcal];split at ho
  ·rename_i x y hargs
   obtain⟨_,hw,v,hrun,hv⟩:=kY (P:=P) (hρ x) (hρ y) ho;rw[arr _ _ hargs,show Array.map ρ [x,y].toArray= #[ρ x,ρ y]from by simp];exact aQ hr (s:=Builtin.min_ c.argTypes ty #[ρ x,ρ y]) (by simpa using hrun c.argTypes ty) hw hv
  ·cases ho
 ·rename_i hcal
  rw[dL c .max ty ρ hcal];split at ho
  ·rename_i x y hargs
   obtain⟨_,hw,v,hrun,hv⟩:=kY (P:=P) (hρ x) (hρ y) ho;rw[arr _ _ hargs,show Array.map ρ [x,y].toArray= #[ρ x,ρ y]from by simp];exact aQ hr (s:=Builtin.max_ c.argTypes ty #[ρ x,ρ y]) (by simpa using hrun c.argTypes ty) hw hv
  ·cases ho
 ·rename_i hcal
  rw[dL c .append ty ρ hcal];split at ho
  ·rename_i s x t t' hargs hty
   split at ho
   ·rename_i htt
    rw[arr _ _ hargs,arr _ _ hty,show Array.map ρ [s,x].toArray= #[ρ s,ρ x]from by simp];exact eI (s:=Builtin.append_ #[t,t'] ty #[ρ s,ρ x]) (qx hr htt (hρ s) (hρ x) ho).2
   ·cases ho
  ·cases ho
 ·rename_i hcal
  rw[dL c .unsafeSliceData ty ρ hcal];split at ho
  ·rename_i x hargs
   simp only[Option.map_eq_some_iff]at ho;obtain⟨y,hy,rfl⟩:=ho;rw[arr _ _ hargs,show Array.map ρ [x].toArray= #[ρ x]from by simp];obtain⟨v,hrun,hv⟩:=nL (P:=P) (hρ x) hy c.argTypes ty;exact aQ hr (s:=Builtin.unsafeSliceData_ c.argTypes ty #[ρ x]) hrun rfl hv
  ·cases ho
 ·rename_i hcal
  rw[dL c .unsafeString ty ρ hcal];split at ho
  ·rename_i x n pt it hargs hty
   rw[arr _ _ hargs,arr _ _ hty,show Array.map ρ [x,n].toArray= #[ρ x,ρ n]from by simp];exact eI (s:=Builtin.unsafeString_ #[pt,it] ty #[ρ x,ρ n]) (kZ hr (hρ x) (hρ n) ho).2
  ·cases ho
 ·rename_i f hcal
  split at ho
  ·rename_i g caps hf
   obtain⟨vs,hsz,hrep,henter⟩:=jF (P:=P) (w:=w) (ty:=ty) hρ hcal hf;split at ho
   ·rename_i hk0
    split at ho
    ·rename_i x hxs
     simp only[Option.some.injEq]at ho;subst ho;rw[hxs]at hsz hrep;obtain⟨fn,h1,h2,h3,h4,h5⟩:=hx g _ hk0
     have hargs:∃v,c.args.map ρ ++vs= #[v]:=by
      have:(c.args.map ρ ++vs).size=1:=hsz
      exact⟨(c.args.map ρ ++vs)[0],by apply Array.ext; · simpa using this
                                      ·intro i hi1 hi2
                                       have:i=0:=by simp at hi2;omega
                                       subst this;rfl⟩
     obtain⟨v,hv⟩:=hargs;rw[hv]at hrep henter;refine .inl (Good.pure hr (v:=v) ?_ rfl (hrep 0 x v rfl rfl));rw[henter,run_callFunc_extern h1 h2 h3 h4 h5];rfl
    ·cases ho
   ·rename_i k0 _ hk0
    split at ho
    ·rename_i ds hds
     simp only[Option.map_eq_some_iff]at ho;obtain⟨d,hd,rfl⟩:=ho;obtain⟨t1,t2⟩:=rI hds hsz hrep;obtain⟨v,hv1,hv2⟩:=zG (hx g k0 hk0) t1 t2 hd;refine .inl (Good.pure hr (v:=v) ?_ rfl (.d hv2));rw[henter];exact hv1
    ·cases ho
   ·obtain⟨hc,hcall⟩:=vY hr hsz hrep ho hob
    exact .inr ⟨g,c.args.map ρ ++vs,by rw[henter];exact de hc _ w,hcall⟩
  ·cases ho
 ·cases ho
theorem zH(hx:iG P)(hr:HR G B w0 I0 h w){cfg:iA}{i:Nat}{o:Oper}{ρA:Operand→AV}{ρ:Operand→Value}(hρ:∀x,Rep G w (ρA x) (ρ x)){out:Out}(ho:bN P cfg i o ρA h=some out)(hob:DZ P out.ob):
    Bj P B w0 I0 G h w out ((execOp ρ o).run P w):=by
 have parts:∀(ps:Array (Nat×Operand)),(ps.map fun p=>(p.1,ρ p.2)).size=(ps.toList.map fun p=>(p.1,ρA p.2)).length∧
     ∀(i:Nat)(p:Nat×AV)(q:Nat×Value),(ps.toList.map fun p=>(p.1,ρA p.2))[i]? =some p→(ps.map fun p=>(p.1,ρ p.2))[i]? =some q→p.1=q.1∧Rep G w p.2 q.2:=by
  intro ps;refine⟨by simp,fun i p q hp hq=> ?_⟩;simp only[List.getElem?_map,Array.getElem?_toList,Option.map_eq_some_iff]at hp;simp only[Array.getElem?_map,Option.map_eq_some_iff]at hq;obtain⟨a,ha,rfl⟩:=hp;obtain⟨b,hb,rfl⟩:=hq;rw[ha]at hb;simp only[Option.some.injEq]at hb;subst hb;exact⟨rfl,hρ _⟩
 have optR:∀(x:Option Operand),(∀y,x.map ρA=some y→∃v,x.map ρ=some v∧Rep G w y v)∧(x.map ρA=none→x.map ρ=none):=by
  intro x;cases x with
  |none=>exact⟨fun y hy=>by simp at hy,fun _=>rfl⟩
  |some x=>exact⟨fun y hy=>by simp at hy;subst hy;exact⟨_,rfl,hρ x⟩,fun hn=>by simp at hn⟩
 unfold bN at ho;unfold execOp;split at ho
 ·rename_i x hop;rw[hop]
  simp only[Option.some.injEq]at ho;subst ho;exact .inl (Good.pure hr rfl rfl (hρ x))
 ·rename_i x hop;rw[hop]
  simp only[Option.some.injEq]at ho;subst ho;exact .inl (Good.pure hr rfl rfl (hρ x))
 ·rename_i c a b hop;rw[hop]
  split at ho
  ·rename_i t hc
   simp only[Option.some.injEq]at ho;subst ho;have hcr:=hρ c;rw[hc]at hcr;cases hcr with
   |d hd=>
    generalize hvc:ρ c=vc at hd;cases hd;refine .inl (Good.pure hr (v:=if t=true then ρ a else ρ b) (by simp[hvc,asBool]) rfl ?_);cases t
    ·exact hρ b
    ·exact hρ a
  ·cases ho
 ·rename_i t hop;rw[hop]
  exact eI (rK hr _ ho).2
 ·rename_i t x hop;rw[hop]
  exact eI (vT hr _ (hρ x) ho).2
 ·rename_i t x hop;rw[hop]
  simp only[Option.map_eq_some_iff]at ho;obtain⟨y,hy,rfl⟩:=ho;obtain⟨v,hrun,hv⟩:=nM (P:=P) (hρ x) hy;exact aQ hr hrun rfl hv
 ·rename_i x xT t ok hop;rw[hop]
  simp only[Option.map_eq_some_iff]at ho;obtain⟨y,hy,rfl⟩:=ho;obtain⟨v,hrun,hv⟩:=rO (P:=P) (xT:=xT) (hρ x) hy;exact aQ hr hrun rfl hv
 ·rename_i t ps hop;rw[hop]
  obtain⟨h1,h2⟩:=parts ps
  obtain⟨_,hw,v,hrun,hv⟩:=ua ho (by rw[List.length_map];exact h1) (fun i p q hp hq=>by
   simp only[List.getElem?_map,Option.map_eq_some_iff]at hp;obtain⟨p',hp',rfl⟩:=hp;have:=h2 i p' q (by simpa only[List.getElem?_map,Option.map_eq_some_iff]using hp') hq;exact⟨this.1,this.2.frz⟩)
  exact aQ hr hrun hw hv
 ·rename_i t len ps hop;rw[hop]
  obtain⟨h1,h2⟩:=parts ps;exact eI (mU hr ho h1 h2).2
 ·rename_i t a hop;rw[hop]
  obtain⟨v,hrun,hw,_,hv⟩:=jY hr (hρ a) ho;exact aQ hr hrun hw hv
 ·rename_i t a x hop;rw[hop]
  obtain⟨_,hval,w',hrun,h1,h2⟩:=ub hr (hρ a) (hρ x) ho;exact .inl ⟨undef,w',G, .inr ⟨by simp[hrun],rfl⟩,h1,h2,by rw[hval];exact .junk _⟩
 ·rename_i x hop;rw[hop]
  split at ho
  ·rename_i k v j off sz0 hx
   simp only[Option.some.injEq]at ho;subst ho;have hxr:=hρ x;rw[hx]at hxr
   obtain⟨a,ha⟩:∃a,ρ x= .pointer (some a):=by
    generalize ρ x=vx at hxr;cases hxr;exact⟨_,rfl⟩
   exact .inl (Good.pure hr (v:=ρ x) (by simp[ha]) rfl hxr)
  ·rename_i cs hx
   simp only[Option.some.injEq]at ho;subst ho;have hxr:=hρ x;rw[hx]at hxr
   obtain⟨a,ha⟩:∃a,ρ x= .pointer (some a):=by
    generalize ρ x=vx at hxr;cases hxr with|d hd=>cases hd;exact⟨_,rfl⟩
   exact .inl (Good.pure hr (v:=ρ x) (by simp[ha]) rfl hxr)
  ·cases ho
 ·rename_i op t x y yt hop;rw[hop]
  split at ho
  ·rename_i r hb
   simp only[Option.some.injEq]at ho;subst ho;obtain⟨v,hg,hrun,hv⟩:=xC (P:=P) (t:=t) (hρ x) (hρ y) hb;exact .inl (Good.pure hr (v:=v) (by simp[hg x y,hrun]) rfl hv)
  ·split at ho
   ·simp only[Option.map_eq_some_iff]at ho
    obtain⟨b,hb,rfl⟩:=ho;obtain⟨hg,hrun⟩:=pT (op:= .eql) (hρ x) (hρ y) hb (.inl rfl);exact .inl (Good.pure hr (v:= .bool b) (by simp[hg,hrun]) rfl (.d (.bool _)))
   ·simp only[Option.map_eq_some_iff]at ho
    obtain⟨b,hb,rfl⟩:=ho;obtain⟨hg,hrun⟩:=pT (op:= .neq) (hρ x) (hρ y) hb (.inr rfl);exact .inl (Good.pure hr (v:= .bool (!b)) (by simp[hg,hrun]) rfl (.d (.bool _)))
   ·cases ho
 ·rename_i op t x hop;rw[hop]
  simp only[Option.map_eq_some_iff]at ho;obtain⟨r,hb,rfl⟩:=ho;obtain⟨v,hrun,hv⟩:=zC (P:=P) (hρ x) hb;exact aQ hr hrun rfl hv
 ·rename_i src dst x hop;rw[hop]
  unfold rE at ho;split at ho
  ·rename_i out' hout
   simp only[Option.some.injEq]at ho;subst ho;exact eI (nN hr (hρ x) hout).2
  split at ho
  ·rename_i v0 hv0
   simp only[Option.some.injEq]at ho;subst ho;obtain⟨v,hrun,hv⟩:=qA (hρ x) hv0;exact aQ hr hrun rfl hv
  split at ho
  ·rename_i r hb
   simp only[Option.some.injEq]at ho;subst ho;obtain⟨v,hrun,hv⟩:=qw (P:=P) (hρ x) hb;exact aQ hr hrun rfl hv
  split at ho
  ·rename_i out' hout
   simp only[Option.some.injEq]at ho;subst ho;exact eI (o5 hr (hρ x) hout).2
  ·obtain⟨hw,v,hrun,hv⟩:=qz hr (hρ x) ho
   exact aQ hr hrun hw hv
 ·rename_i f first caps hop;rw[hop]
  split at ho
  ·rename_i hfe
   simp only[Option.some.injEq]at ho;subst ho;have hf0:first= #[]:=by simpa using hfe
   subst hf0;refine aQ hr (v:= .func (.func f) #[] (caps.map ρ)) (by simp[Instr.makeFunc]) rfl (.fn f _ _ (by simp) (fun i c u hc hu=> ?_));simp only[List.getElem?_map,Array.getElem?_toList,Option.map_eq_some_iff]at hc;simp only[Array.getElem?_map,Option.map_eq_some_iff]at hu;obtain⟨a,ha,rfl⟩:=hc;obtain⟨b,hb,rfl⟩:=hu;rw[ha]at hb;simp only[Option.some.injEq]at hb;subst hb;exact hρ a
  ·cases ho
 ·rename_i t l c hop;rw[hop]
  exact eI (nK hr (hρ l) (hρ c) ho).2
 ·rename_i t x lo hi mx hop;rw[hop]
  obtain⟨_,hw,v,hrun,hv⟩:=ud (hρ x) (optR lo).1 (optR lo).2 (optR hi).1 (optR hi).2 (optR mx).1 (optR mx).2 ho;exact aQ hr hrun hw hv
 ·rename_i t x f hop;rw[hop]
  obtain⟨_,hw,v,hrun,hv⟩:=nJ hr (hρ x) ho;exact aQ hr hrun hw hv
 ·rename_i t x f hop;rw[hop]
  obtain⟨_,hw,v,hrun,hv⟩:=uc (P:=P) (hρ x) ho;exact aQ hr hrun hw hv
 ·rename_i t x ix hop;rw[hop]
  obtain⟨_,hw,v,hrun,hv⟩:=nH hr (hρ x) (hρ ix) ho;exact aQ hr hrun hw hv
 ·rename_i t hop;rw[hop]
  exact eI (qy hr ho).2
 ·rename_i t m k x hop;rw[hop]
  obtain⟨_,hval,w',hrun,h1,h2⟩:=je hr (hρ m) (hρ k) (hρ x) ho;exact .inl ⟨undef,w',G, .inr ⟨by simp[hrun],rfl⟩,h1,h2,by rw[hval];exact .junk _⟩
 ·rename_i t m k x hop;rw[hop]
  obtain⟨_,hval,w',hrun,h1,h2⟩:=je hr (hρ m) (hρ k) (hρ x) ho;exact .inl ⟨undef,w',G, .inr ⟨by simp[hrun],rfl⟩,h1,h2,by rw[hval];exact .junk _⟩
 ·rename_i t m k ok hop;rw[hop]
  obtain⟨_,hw,v,hrun,hv⟩:=rS hr (hρ m) (hρ k) ho;exact aQ hr hrun hw hv
 ·rename_i t x ix hop;rw[hop]
  simp only[Option.map_eq_some_iff]at ho;obtain⟨r,hb,rfl⟩:=ho;obtain⟨v,hrun,hv⟩:=ue (P:=P) (hρ x) (hρ ix) hb;exact aQ hr hrun rfl hv
 ·rename_i t ix hop;rw[hop]
  split at ho
  ·rename_i vs ht
   simp only[Option.map_eq_some_iff]at ho;obtain⟨v,hv,rfl⟩:=ho;have htr:=hρ t;rw[ht]at htr;generalize hvt:ρ t=vt at htr;cases htr with
   |tup _ us hl hh=>
    have hlt:ix<us.size:=by rw[hl];exact(List.getElem?_eq_some_iff.1 hv).1
    have hu:us[ix]? =some us[ix]:=Array.getElem?_eq_getElem hlt;exact aQ hr (v:=us[ix]) (by simp[Instr.extract,hvt,hu]) rfl (hh ix v _ hv hu)
  ·cases ho
 ·rename_i c hop;rw[hop]
  exact rZ hx hr hρ ho hob
 ·cases ho
theorem qS{N:Nat}{D:List Deferred}{ops:Array Oper}{o:Oper}{S:Nat→AV}{a:Act}(hf:FR G w N D S a){b:Bool}(hw:db ops o S=some b):Region.wanted o (yielded ops a.tmps)=b:=by
 unfold db at hw;unfold Region.wanted;split at hw
 ·simp only[Option.some.injEq]at hw;rename_i hg;rw[hg];exact hw
 ·rename_i j want hg
  rw[hg];split at hw
  ·rename_i t ht
   split at hw
   ·rename_i bb hb
    simp only[Option.some.injEq]at hw
    have htN:t<N:=by
     rcases Nat.lt_or_ge t N with h9|h9
     ·exact h9
     ·have:=hf.out t h9;rw[this]at hb;cases hb
    have hr:=hf.rep t htN;rw[hb]at hr
    have hv:a.tmps[t]? =some (.bool bb):=by
     have hlt:t<a.tmps.size:=by rw[hf.size];exact htN
     rw[Array.getD_eq_getD_getElem?,Array.getElem?_eq_getElem hlt,Option.getD_some]at hr;rw[Array.getElem?_eq_getElem hlt];generalize a.tmps[t]=v at hr;cases hr with|d hd=>cases hd;rfl
    simp only[yielded,ht,Option.bind_some,hv];rw[←hw];cases bb<;>cases want<;>rfl
   ·rename_i hb
    simp only[Option.some.injEq]at hw
    have htN:t<N:=by
     rcases Nat.lt_or_ge t N with h9|h9
     ·exact h9
     ·have:=hf.out t h9;rw[this]at hb;cases hb
    have hr:=hf.rep t htN;rw[hb]at hr
    have hv:a.tmps[t]? =some (.tuple #[]):=by
     have hlt:t<a.tmps.size:=by rw[hf.size];exact htN
     rw[Array.getD_eq_getD_getElem?,Array.getElem?_eq_getElem hlt,Option.getD_some]at hr;rw[Array.getElem?_eq_getElem hlt];generalize a.tmps[t]=v at hr;cases hr with
     |tup _ vs hl _=>
      have:vs= #[]:=by simpa using hl
      rw[this]
    simp only[yielded,ht,Option.bind_some,hv];rw[←hw];cases want<;>rfl
   ·cases hw
  ·cases hw
theorem vZ{f:FuncId}{args:Array Value}{R:Ending→World→Prop}(r:Option Nat)(n:Nat)(h:Calls P f args w R):CallsIn (FF r) n P f args w R:=by
 have h':=(callsIn_wide (n:=n)).2 h;cases r with
 |none=>exact h'
 |some l=>exact CallsIn.inRound l h'
theorem r7{cfg:iA}{i:Nat}{o:Oper}{ρ:Operand→AV}{out:Out}(hc:bN P cfg i o ρ h=some out):∀c,o.op≠ .defer c:=fun c e=>by
 unfold bN at hc;rw[e]at hc;cases hc
theorem r8{o:Oper}{a:Act}{v:Value}{w':World}{next:Act→World→Prop}{Q:Exit→Act→World→Prop}(r:Option Nat)(n:Nat)(hd:∀c,o.op≠ .defer c)(hrun:(execOp a.eval o).run P w= .ok (.value v) w')(hn:next (a.put o.dst v) w'):o.wpIn (FF r) n P a w next Q:=
 ⟨fun _ _=>trivial,by rw[Oper.semAt_eq _ _ _ hd,hrun];exact hn⟩
theorem zI{o:Oper}{a:Act}{w':World}{next:Act→World→Prop}{Q:Exit→Act→World→Prop}(r:Option Nat)(n:Nat)(hd:∀c,o.op≠ .defer c)(hrun:(execOp a.eval o).run P w= .ok .skip w')(hn:next (a.put o.dst undef) w'):o.wpIn (FF r) n P a w next Q:=
 ⟨fun _ _=>trivial,by rw[Oper.semAt_eq _ _ _ hd,hrun];exact hn⟩
theorem j4{o:Oper}{a:Act}{f:FuncId}{args:Array Value}{w':World}{next:Act→World→Prop}{Q:Exit→Act→World→Prop}{R:Ending→World→Prop}(r:Option Nat)(n:Nat)(hd:∀c,o.op≠ .defer c)(hrun:(execOp a.eval o).run P w= .ok (.enter f args) w')
    (hcall:Calls P f args w' R) (hn:∀e w2,R e w2→∃v,e= .returned v∧next (a.put o.dst v) w2):o.wpIn (FF r) n P a w next Q:=
 ⟨fun _ _=>trivial,by
  rw[Oper.semAt_eq _ _ _ hd,hrun,Oper.uponIn_enter];refine⟨fun x=>(by cases x),(vZ r (n-1) hcall).mono ?_⟩;intro e w2 hr;obtain⟨v,rfl,h⟩:=hn e w2 hr;exact h⟩
theorem zJ{o:Oper}{a:Act}{l f:Nat}{tmps:Array Value}{Ua bd:Code}{w':World}{next:Act→World→Prop}{Q:Exit→Act→World→Prop}{R:Ending→World→Prop}(r:Option Nat)(n:Nat)(hd:∀c,o.op≠ .defer c)(hrun:(execOp a.eval o).run P w= .ok (.round l f tmps Ua bd) w')
    (hcall:RoundIn (FF r) 0 P l f tmps Ua bd w' R) (hn:∀e w2,R e w2→∃v,e= .returned v∧next (a.put o.dst v) w2):o.wpIn (FF r) n P a w next Q:=
 ⟨fun _ _=>trivial,by
  rw[Oper.semAt_eq _ _ _ hd,hrun,Oper.uponIn_round];refine⟨fun x=>(by cases x), ?_⟩;have h2:RoundIn (FF r) (n-1) P l f tmps Ua bd w' R:=⟨hcall.1,fun c cs _=>hcall.2 c cs (fun d hd=>by cases hd)⟩
  refine h2.mono ?_;intro e w2 hr;obtain⟨v,rfl,h⟩:=hn e w2 hr;exact h⟩
theorem zK{c:Call}{ty:TypeId}{ρA:Operand→AV}{ρ:Operand→Value}(hρ:∀x,Rep G w (ρA x) (ρ x)){f:Operand}(hcal:c.callee= .value f){k v:Nat}(hf:ρA f= .yld k v):
    ∃b,G.mloc k v=some b∧(c.args.map ρ).size=(c.args.toList.map ρA).length∧
     (∀(i:Nat)(x:AV)(u:Value),(c.args.toList.map ρA)[i]? =some x→(c.args.map ρ)[i]? =some u→Rep G w x u)∧
     (do let d ←resolve ρ c ty;invoke d.target d.args:Sem Next).run P w=(Instr.yield b (c.args.map ρ)).run P w:=by
 have hfr:=hρ f;rw[hf]at hfr
 obtain⟨b,hfv,hb⟩:∃b,ρ f= .func (.yield b) #[] #[]∧G.mloc k v=some b:=by
  generalize ρ f=vf at hfr;cases hfr with
  |yld _ _ b hb=>exact⟨b,rfl,hb⟩
 refine⟨b,hb,by simp,fun i x u hx hu=> ?_, ?_⟩
 ·simp only[List.getElem?_map,Array.getElem?_toList,Option.map_eq_some_iff]at hx
  simp only[Array.getElem?_map,Option.map_eq_some_iff]at hu;obtain⟨a,ha,rfl⟩:=hx;obtain⟨b,hb,rfl⟩:=hu;rw[ha]at hb;simp only[Option.some.injEq]at hb;subst hb;exact hρ a
 ·have h0:resolve ρ c ty=pure {target:= .fn (.yield b) #[],args:= #[] ++c.args.map ρ}:=by
    simp only[resolve,hcal,hfv,Deferred.ofValue]
  rw[h0,pure_bind];simp[invoke]
theorem fO{S S':St}{D:List Deferred}(hx:iG P)(hr:HR G B w0 I0 S.heap w){cfg:iA}{N i:Nat}{ops:Array Oper}{o:Oper}{a:Act}(hf:FR G w N D S.env a){ob:List Obl}{ft:Foot}
    (hs:bF P cfg N ops i o S=some (S',ob,ft)) (hob:fT P ob) {next:Act→World→Prop} {Q:Exit→Act→World→Prop} (r:Option Nat) (n:Nat)
    (hnext:∀a' w' G',Ext G w G' w'→HR G' B w0 I0 S'.heap w'→FR G' w' N D S'.env a'→next a' w'):
    if Region.wanted o (yielded ops a.tmps)then o.wpIn (FF r) n P a w next Q else (∀f,o.about P w a.eval=some f→(FF r).fn f)∧next (a.put o.dst undef) w:=by
 unfold bF at hs;split at hs
 ·rename_i hw
  rw[if_pos (qS hf hw)];split at hs
  ·rename_i rs h' tk hhc
   split at hs;case isFalse=>cases hs
   split at hs
   ·rename_i g args hco
    simp only[Option.map_eq_some_iff,Prod.mk.injEq]at hs;obtain⟨env,hp,rfl,rfl,rfl⟩:=hs;obtain⟨hcb,hcall⟩:=hob _ (List.mem_singleton.2 rfl);unfold dr at hco;split at hco
    ·rename_i c hop
     split at hco
     ·rename_i f hcal
      split at hco
      ·rename_i g' caps hfn
       simp only[Option.some.injEq,Prod.mk.injEq]at hco;obtain⟨rfl,rfl⟩:=hco;obtain⟨vs,hsz,hrep,henter⟩:=jF (P:=P) (ty:=o.type) (ρ:=a.eval) (fun x=>hf.opd hr.maps.glob x) hcal hfn
       have hrun:(execOp a.eval o).run P w= .ok (.enter g' (c.args.map a.eval ++vs)) w:=by
        unfold execOp;rw[hop];exact henter.trans (de hcb _ w)
       refine j4 r n (fun c e=>by rw[hop]at e;cases e) hrun (hcall G B w0 I0 w _ hr hsz hrep) ?_;rintro e w' ⟨v,G',rfl,h1,h2,h3⟩;exact⟨v,rfl,hnext _ _ _ h1 h2 ((hf.mono h1).put hp h3)⟩
      ·cases hco
     ·cases hco
    ·cases hco
   ·split at hs
    ·rename_i k v args hco
     simp only[Option.map_eq_some_iff,Prod.mk.injEq]at hs;obtain⟨env,hp,rfl,rfl,rfl⟩:=hs;have hcall:xK P k v args S.heap rs h':=hob _ (List.mem_singleton.2 rfl);unfold nC at hco;split at hco
     ·rename_i c hop
      split at hco
      ·rename_i f hcal
       split at hco
       ·rename_i k' v' hfn
        simp only[Option.some.injEq,Prod.mk.injEq]at hco;obtain⟨rfl,rfl,rfl⟩:=hco;obtain⟨b,hb,hsz,hrep,henter⟩:=zK (P:=P) (ty:=o.type) (ρ:=a.eval) (fun x=>hf.opd hr.maps.glob x) hcal hfn;obtain⟨f',tmps,Ua,bd,hy,hround⟩:=hcall G B w0 I0 w _ hr hsz hrep b hb
        have hrun:(execOp a.eval o).run P w= .ok (.round b f' tmps Ua bd) w:=by
         unfold execOp;rw[hop];exact henter.trans hy
        refine zJ r n (fun c e=>by rw[hop]at e;cases e) hrun (hround r) ?_;rintro e w' ⟨v,G',rfl,h1,h2,h3⟩;exact⟨v,rfl,hnext _ _ _ h1 h2 ((hf.mono h1).put hp h3)⟩
       ·cases hco
      ·cases hco
     ·cases hco
    ·cases hs
  ·rename_i pre rs post hhc
   split at hs
   ·rename_i g args hco
    split at hs;case isFalse=>cases hs
    rename_i hfits;simp only[Option.map_eq_some_iff,Prod.mk.injEq]at hs;obtain⟨env,hp,rfl,rfl,rfl⟩:=hs;obtain⟨hcb,hcall⟩:=(show ∀h,mn h pre→ay P g args h rs (al post h)from hob _ (List.mem_singleton.2 rfl)) S.heap hfits;rw[←zF]at hcall;unfold dr at hco;split at hco
    ·rename_i c hop
     split at hco
     ·rename_i f hcal
      split at hco
      ·rename_i g' caps hfn
       simp only[Option.some.injEq,Prod.mk.injEq]at hco;obtain⟨rfl,rfl⟩:=hco;obtain⟨vs,hsz,hrep,henter⟩:=jF (P:=P) (ty:=o.type) (ρ:=a.eval) (fun x=>hf.opd hr.maps.glob x) hcal hfn
       have hrun:(execOp a.eval o).run P w= .ok (.enter g' (c.args.map a.eval ++vs)) w:=by
        unfold execOp;rw[hop];exact henter.trans (de hcb _ w)
       refine j4 r n (fun c e=>by rw[hop]at e;cases e) hrun (hcall G B w0 I0 w _ hr hsz hrep) ?_;rintro e w' ⟨v,G',rfl,h1,h2,h3⟩;exact⟨v,rfl,hnext _ _ _ h1 h2 ((hf.mono h1).put hp h3)⟩
      ·cases hco
     ·cases hco
    ·cases hco
   ·cases hs
  ·rename_i pre h0 rs post h1 hhc
   split at hs
   ·rename_i g args hco
    split at hs;case isFalse=>cases hs
    rename_i hfits;simp only[Option.map_eq_some_iff,Prod.mk.injEq]at hs;obtain⟨env,hp,rfl,rfl,rfl⟩:=hs;obtain⟨hcb,hcall⟩:=(show ∀h,(∀k∈pre,h k=h0 k)→ay P g args h rs (aq h (gI post h1))from hob _ (List.mem_singleton.2 rfl)) S.heap hfits;unfold dr at hco;split at hco
    ·rename_i c hop
     split at hco
     ·rename_i f hcal
      split at hco
      ·rename_i g' caps hfn
       simp only[Option.some.injEq,Prod.mk.injEq]at hco;obtain⟨rfl,rfl⟩:=hco;obtain⟨vs,hsz,hrep,henter⟩:=jF (P:=P) (ty:=o.type) (ρ:=a.eval) (fun x=>hf.opd hr.maps.glob x) hcal hfn
       have hrun:(execOp a.eval o).run P w= .ok (.enter g' (c.args.map a.eval ++vs)) w:=by
        unfold execOp;rw[hop];exact henter.trans (de hcb _ w)
       refine j4 r n (fun c e=>by rw[hop]at e;cases e) hrun (hcall G B w0 I0 w _ hr hsz hrep) ?_;rintro e w' ⟨v,G',rfl,e1,e2,e3⟩;exact⟨v,rfl,hnext _ _ _ e1 e2 ((hf.mono e1).put hp e3)⟩
      ·cases hco
     ·cases hco
    ·cases hco
   ·cases hs
  split at hs
  ·rename_i out hc
   simp only[Option.map_eq_some_iff,Prod.mk.injEq]at hs;obtain⟨env,hp,rfl,rfl,rfl⟩:=hs;have hl:=zH hx hr (fun x=>hf.opd hr.maps.glob x) hc (fun c hc=>hob _ (List.mem_map_of_mem hc));have hd:=r7 hc;rcases hl with ⟨v,w',G',hrun|⟨hrun,rfl⟩,h1,h2,h3⟩|⟨f,args,hrun,hcall⟩
   ·exact r8 r n hd hrun (hnext _ _ _ h1 h2 ((hf.mono h1).put hp h3))
   ·exact zI r n hd hrun (hnext _ _ _ h1 h2 ((hf.mono h1).put hp h3))
   ·refine j4 r n hd hrun hcall ?_
    rintro e w' ⟨v,G',rfl,h1,h2,h3⟩;exact⟨v,rfl,hnext _ _ _ h1 h2 ((hf.mono h1).put hp h3)⟩
  ·cases hs
 ·rename_i hw
  rw[if_neg (by rw[qS hf hw];simp)];simp only[Option.map_eq_some_iff,Prod.mk.injEq]at hs;obtain⟨env,hp,rfl,rfl,rfl⟩:=hs;exact⟨fun _ _=>trivial,hnext _ _ _ (Ext.refl G w) hr (hf.put hp (.tup [] #[] rfl (by simp)))⟩
 ·cases hs
theorem mY{D:List Deferred}(hx:iG P)(r:Option Nat)(n:Nat){cfg:iA}{N:Nat}{ops:Array Oper}{Q:Exit→Act→World→Prop}:∀(l:List Nat){G:Gh}{w:World}{S S':St}{a:Act}{ob:List Obl}{fts:List Foot},
    HR G B w0 I0 S.heap w→FR G w N D S.env a→dm P cfg N ops l S=some (S',ob,fts)→fT P ob→
    (∀a' w' G',Ext G w G' w'→HR G' B w0 I0 S'.heap w'→FR G' w' N D S'.env a'→Q .normal a' w')→wpOpsIn (FF r) n P ops Q l a w
 |[],G,w,S,S',a,ob,fts,hr,hf,hs,hob,hq=>by
  simp only[dm,Option.some.injEq,Prod.mk.injEq]at hs;obtain⟨rfl,_,_⟩:=hs;exact hq a w G (Ext.refl G w) hr hf
 |i::rl,G,w,S,S',a,ob,fts,hr,hf,hs,hob,hq=>by
  simp only[dm]at hs;split at hs
  ·cases hs
  ·rename_i o ho
   split at hs
   ·cases hs
   ·rename_i st hst
    split at hs
    ·cases hs
    ·rename_i rs hrs
     simp only[Option.some.injEq,Prod.mk.injEq]at hs;obtain⟨rfl,rfl,rfl⟩:=hs;obtain⟨S1,ob1,ft1⟩:=st;obtain⟨S2,ob2,ft2⟩:=rs;rw[wpOpsIn_cons];unfold wpOpIn;simp only[ho]
     exact fO hx hr hf hst (fun c hc=>hob c (List.mem_append_left _ hc)) r n (fun a' w' G' h1 h2 h3=>
      mY hx r n rl h2 h3 hrs (fun c hc=>hob c (List.mem_append_right _ hc)) (fun a2 w2 G2 g1 g2 g3=>hq a2 w2 G2 (h1.trans g1) g2 g3))
end
end Go.Avm
namespace Go.Avm
open Go.RowKit
variable[aJ]
section
variable{P:Program}{h h':ab}
theorem k7{f g:AV→Option (D×List Nat)}:∀{l:List AV}{r:List D×List Nat},fI f l=some r→(∀x y,f x=some y→(∀k∈y.2,h' k=h k)→g x=some y)→(∀k∈r.2,h' k=h k)→fI g l=some r
 |[],r,he,_,_=>by simpa [fI]using he
 |x::l,r,he,hf,hk=>by
  simp only[fI]at he ⊢;split at he
  ·rename_i a b ha hb
   simp only[Option.some.injEq]at he;subst he;have h1:=hf x a ha (fun k hk'=>hk k (List.mem_append_left _ hk'));have h2:=k7 (g:=g) hb hf (fun k hk'=>hk k (List.mem_append_right _ hk'));simp only[h1,h2]
  ·cases he
theorem r9:∀(n:Nat)(x:AV)(r:D×List Nat),view n h x=some r→(∀k∈r.2,h' k=h k)→view n h' x=some r
 |0,x,r,he,_=>by simp[view]at he
 |n+1,x,r,he,hk=>by
  have ih:=r9 n;have go:∀{l:List AV}{q:List D×List Nat},fI (view n h) l=some q→(∀k∈q.2,h' k=h k)→fI (view n h') l=some q:=fun hq hk=>k7 hq (fun x y hx hy=>ih x y hx hy) hk
  cases x with
  |sl k v off len sz0=>
   simp only[view]at he ⊢;split at he
   ·rename_i sz es ho
    split at he
    ·rename_i hc
     simp only[Option.map_eq_some_iff]at he;obtain⟨q,hq,rfl⟩:=he;have hkk:h' k=h k:=hk k (by simp);have:=go hq (fun k hk'=>hk k (by simp[hk']));simp[hkk,ho,hc,this]
    ·cases he
   ·cases he
  |ptr k v i off sz0=>
   simp only[view]at he ⊢;split at he
   ·rename_i sz es ho
    split at he
    ·rename_i hc
     simp only[Option.map_eq_some_iff]at he;obtain⟨q,hq,rfl⟩:=he;have hkk:h' k=h k:=hk k (by simp);have:=go hq (fun k hk'=>hk k (by simp[hk']));simp[hkk,ho,hc,this]
    ·cases he
   ·cases he
  |agg cs=>
   simp only[view,Option.map_eq_some_iff]at he ⊢;obtain⟨q,hq,rfl⟩:=he;exact⟨q,go hq hk,rfl⟩
  |d y=>simp only[view]at he ⊢;exact he
  |nils=>simp only[view]at he ⊢;exact he
  |es=>simp only[view]at he ⊢;exact he
  |vec a b c l=>simp only[view]at he ⊢;exact he
  |_=>simp[view]at he
theorem sd{n:Nat}{l:List AV}{q:List D×List Nat}(he:view.go n h l=some q)(hk:∀k∈q.2,h' k=h k):view.go n h' l=some q:=
 k7 he (fun x y hx hy=>r9 n x y hx hy) hk
theorem zL{ks:List Nat}(hk:∀k∈ks,h' k=h k):kill h' ks=kill h ks:=by
 unfold kill;exact List.map_congr_left fun k hk'=>by rw[hk k hk']
theorem uf{a:AV}{n:Nat}{r:List AV×List Nat}(he:ii h a n=some r)(hk:∀k∈r.2,h' k=h k):ii h' a n=some r:=by
 unfold ii at he ⊢;cases a with
 |ptr k v i off sz0=>
  simp only at he ⊢;split at he
  ·rename_i sz es ho
   have hkk:h' k=h k:=by
    split at he
    ·split at he
     ·split at he
      ·simp only[Option.some.injEq]at he;subst he;exact hk k (by simp)
      ·cases he
     ·split at he
      ·split at he
       ·simp only[Option.some.injEq]at he;subst he;exact hk k (by simp)
       ·cases he
      ·cases he
    ·cases he
   rw[hkk,ho];exact he
  ·cases he
 |d y=>cases y<;>first|exact he|(rename_i l;cases l<;>exact he)
 |_=>exact he
theorem nP{t:TypeId}{a:AV}{out:Out}(he:fq P t a h=some out)(hk:∀k∈out.rd,h' k=h k):fq P t a h'=some out:=by
 unfold fq at he ⊢;split at he
 ·rename_i ht
  simp only[Option.map_eq_some_iff]at he ⊢;obtain⟨r,hr,rfl⟩:=he;exact⟨r,uf hr hk,rfl⟩
 ·rename_i ht
  cases a with
  |ptr k v i off sz0=>
   simp only at he ⊢;split at he
   ·rename_i sz es ho
    have hkk:h' k=h k:=by
     split at he
     ·split at he
      ·split at he
       ·simp only[Option.map_eq_some_iff]at he;obtain⟨x,_,rfl⟩:=he;exact hk k (by simp)
       ·cases he
      ·split at he
       ·simp only[Option.map_eq_some_iff]at he;obtain⟨x,_,rfl⟩:=he;exact hk k (by simp)
       ·cases he
     ·cases he
    rw[hkk,ho];exact he
   ·cases he
  |d y=>cases y<;>first|exact he|(rename_i l;cases l<;>exact he)
  |_=>exact he
 ·cases he
theorem fP{f:ab→Option Out}{k:Nat}{out:Out}(hf:∀h h':ab,h' k=h k→f h'=f h)(hr:k∈out.rd)(he:f h=some out)(hk:∀k∈out.rd,h' k=h k):f h'=some out:=by
 rw[hf h h' (hk k hr)];exact he
theorem ug{t:TypeId}{a x:AV}{out:Out}(he:eF P t a x h=some out)(hk:∀k∈out.rd,h' k=h k):eF P t a x h'=some out:=by
 have he0:=he;unfold eF at he;cases a with
 |ptr k v i off sz0=>
  have hrd:k∈out.rd:=by
   simp only at he;repeat' split at he
   all_goals first|(cases he;done)|(simp only[Option.some.injEq]at he;subst he;simp)
  refine fP (f:=fun h=>eF P t (.ptr k v i off sz0) x h) (k:=k) (fun h h' e=> ?_) hrd he0 hk;simp only[eF,e]
 |_=>simp at he
theorem uh{t:TypeId}{k:Nat}{out:Out}(he:fY P t k h=some out)(hk:∀k∈out.rd,h' k=h k):fY P t k h'=some out:=by
 have hrd:k∈out.rd:=by
  unfold fY at he;split at he
  ·simp only[Option.some.injEq]at he;subst he;simp
  ·cases he
 exact fP (f:=fun h=>fY P t k h) (fun h h' e=>by simp only[fY,newOb,e]) hrd he hk
theorem xM{x:AV}{k:Nat}{out:Out}(he:kJ x k h=some out)(hk:∀k∈out.rd,h' k=h k):kJ x k h'=some out:=by
 have hrd:k∈out.rd:=by
  unfold kJ at he;split at he
  ·simp only[Option.some.injEq]at he;subst he;simp
  ·cases he
 exact fP (f:=fun h=>kJ x k h) (fun h h' e=>by simp only[kJ,newOb,e]) hrd he hk
theorem nQ{t:TypeId}{l c:AV}{k:Nat}{out:Out}(he:da P t l c k h=some out)(hk:∀k∈out.rd,h' k=h k):da P t l c k h'=some out:=by
 have hrd:k∈out.rd:=by
  unfold da at he;split at he
  ·split at he
   ·split at he
    ·simp only[Option.some.injEq]at he;subst he;simp
    ·cases he
   ·cases he
  ·cases he
 exact fP (f:=fun h=>da P t l c k h) (fun h h' e=>by simp only[da,newOb,e]) hrd he hk
theorem qC{k:Nat}{out:Out}(he:fM k h=some out)(hk:∀k∈out.rd,h' k=h k):fM k h'=some out:=by
 have hrd:k∈out.rd:=by
  simp only[fM,Option.some.injEq]at he;subst he;simp
 exact fP (f:=fun h=>fM k h) (fun h h' e=>by simp only[fM,e]) hrd he hk
theorem nR{t:TypeId}{m key x:AV}{out:Out}(he:bX P t m key x h=some out)(hk:∀k∈out.rd,h' k=h k):bX P t m key x h'=some out:=by
 have he0:=he;unfold bX at he;split at he;case h_2=>cases he
 rename_i kt et k v kd xd hu
 have hrd:k∈out.rd:=by
  repeat' split at he
  all_goals first|(cases he;done)|(simp only[Option.some.injEq]at he;subst he;simp)
 exact fP (f:=fun h=>bX P t (.mp k v) (.d kd) (.d xd) h) (k:=k) (fun h h' e=>by simp only[bX,hu,e]) hrd he0 hk
theorem se{t:TypeId}{m key:AV}{ok:Bool}{out:Out}(he:eY P t m key ok h=some out)(hk:∀k∈out.rd,h' k=h k):eY P t m key ok h'=some out:=by
 have he0:=he;unfold eY at he;split at he;case h_2=>cases he
 rename_i kt et k v kd hu
 have hrd:k∈out.rd:=by
  repeat' split at he
  all_goals first|(cases he;done)|(simp only[Option.some.injEq]at he;subst he;simp)
 exact fP (f:=fun h=>eY P t (.mp k v) (.d kd) ok h) (k:=k) (fun h h' e=>by simp only[eY,hu,e]) hrd he0 hk
theorem sf{t:TypeId}{k v:Nat}{out:Out}(he:f4 P t k v h=some out)(hk:∀k∈out.rd,h' k=h k):f4 P t k v h'=some out:=by
 have he0:=he
 have hrd:k∈out.rd:=by
  unfold f4 at he;repeat' split at he
  all_goals first|(cases he;done)|(simp only[Option.some.injEq]at he;subst he;simp)
 exact fP (f:=fun h=>f4 P t k v h) (k:=k) (fun h h' e=>by simp only[f4,e]) hrd he0 hk
theorem o6{src dst:TypeId}{x:AV}{out:Out}(he:dR P src dst x h=some out)(hk:∀k∈out.rd,h' k=h k):dR P src dst x h'=some out:=by
 unfold dR at he ⊢;split at he;case h_2=>cases he
 split at he;case isFalse=>cases he
 rename_i hc;split at he;case h_2=>cases he
 simp only[Option.some.injEq]at he;subst he;have hh:=hk _ (List.mem_singleton.2 rfl);rw[if_pos (by rw[hh];exact hc)];simp only[kill,List.map_cons,List.map_nil,hh]
theorem gP{k v:Nat}(hk:h' (kB k)=h (kB k)):nA h' k v=nA h k v:=by
 unfold nA;rw[hk]
theorem sg{src dst:TypeId}{x:AV}{out:Out}(he:fL P src dst x h=some out):∃k v i off sz,x= .ptr k v i off sz:=by
 unfold fL at he;split at he
 ·exact⟨_,_,_,_,_,rfl⟩
 ·exact⟨_,_,_,_,_,rfl⟩
 ·cases he
theorem qD{src dst:TypeId}{x:AV}(he:∃k v i off sz,x= .ptr k v i off sz):dR P src dst x h'=none:=by
 obtain⟨k,v,i,off,sz,rfl⟩:=he;unfold dR;split
 ·rename_i hx;cases hx
 ·rfl
theorem qF{src dst:TypeId}{x:AV}{out:Out}(he:fL P src dst x h=some out)(hk:∀k∈out.rd,h' k=h k):fL P src dst x h'=some out:=by
 unfold fL at he ⊢;split at he
 ·split at he
  ·rename_i htag
   split at he
   ·rename_i hc
    simp only[Option.some.injEq]at he;subst he;have h1:=hk _ (List.mem_cons_self ..);have h2:=hk _ (List.mem_cons_of_mem _ (List.mem_cons_self ..));rw[gP h2,htag];simp only[h1,if_pos hc]
   ·cases he
  ·cases he
 ·split at he
  ·rename_i htag
   split at he
   ·rename_i hc
    simp only[Option.some.injEq]at he;subst he;have h1:=hk _ (List.mem_cons_self ..);have h2:=hk _ (List.mem_cons_of_mem _ (List.mem_cons_self ..));rw[gP h2,htag];simp only[h1,if_pos hc]
   ·cases he
  ·cases he
 ·cases he
theorem k8{pt:TypeId}{x n:AV}{out:Out}(he:dp P pt x n h=some out)(hk:∀k∈out.rd,h' k=h k):dp P pt x n h'=some out:=by
 unfold dp at he ⊢;split at he;case h_2=>cases he
 split at he;case h_2=>cases he
 rename_i htag hb;split at he;case isFalse=>cases he
 rename_i hc;simp only[Option.some.injEq]at he;subst he;have h1:=hk _ (List.mem_cons_self ..);have h2:=hk _ (List.mem_cons_of_mem _ (List.mem_cons_self ..));rw[gP h2,htag,hb];simp only[h1,if_pos hc,kill,List.map_cons,List.map_nil]
theorem iH{typ:Bool}{T:TypeId}{n:Option Nat}{k v:Nat}{o1:Out}:∀j∈o1.rd,j∈(cr typ T n k v h o1).rd:=by
 intro j hj;unfold cr;split
 ·exact List.mem_cons_of_mem _ hj
 ·exact hj
theorem jq{typ:Bool}{T:TypeId}{n:Option Nat}{k v:Nat}{o1:Out}(hk:∀j∈(cr typ T n k v h o1).rd,h' j=h j):cr typ T n k v h' o1=cr typ T n k v h o1:=by
 unfold cr at hk ⊢;split
 ·rename_i hc
  rw[if_pos hc]at hk;rw[hk _ (List.mem_cons_self ..)]
 ·rfl
theorem si{typ:Bool}{T t:TypeId}{n:Option Nat}{k:Nat}{out:Out}(he:(fY P t k h).map (cr typ T n k ((h k).ver+1) h)=some out)(hk:∀k∈out.rd,h' k=h k):(fY P t k h').map (cr typ T n k ((h' k).ver+1) h')=some out:=by
 rw[Option.map_eq_some_iff]at he ⊢;obtain⟨o1,ho,rfl⟩:=he
 have hrd:k∈o1.rd:=by
  unfold fY at ho;split at ho
  ·simp only[Option.some.injEq]at ho;subst ho;simp
  ·cases ho
 refine⟨o1,uh ho (fun j hj=>hk j (iH j hj)), ?_⟩;rw[hk k (iH k hrd)];exact jq hk
theorem v6{typ:Bool}{T:TypeId}{n:Option Nat}{x:AV}{k:Nat}{out:Out}(he:(kJ x k h).map (cr typ T n k ((h k).ver+1) h)=some out)(hk:∀k∈out.rd,h' k=h k):(kJ x k h').map (cr typ T n k ((h' k).ver+1) h')=some out:=by
 rw[Option.map_eq_some_iff]at he ⊢;obtain⟨o1,ho,rfl⟩:=he
 have hrd:k∈o1.rd:=by
  unfold kJ at ho;split at ho
  ·simp only[Option.some.injEq]at ho;subst ho;simp
  ·cases ho
 refine⟨o1,xM ho (fun j hj=>hk j (iH j hj)), ?_⟩;rw[hk k (iH k hrd)];exact jq hk
theorem v7{src dst:TypeId}{x:AV}{out:Out}(he:rE P src dst x h=some out)(hk:∀k∈out.rd,h' k=h k):rE P src dst x h'=some out:=by
 unfold rE at he ⊢;split at he
 ·exact he
 split at he
 ·exact he
 split at he
 ·exact he
 split at he
 ·rename_i o1 ho1
  simp only[Option.some.injEq]at he;subst he;rw[o6 ho1 hk]
 ·rename_i hn
  have hp:=sg he;rw[show dR P src dst x h'=none from qD hp,qF he hk]
theorem mZ{obm:Bool}{t:TypeId}{len:Nat}{ps:List (Nat×AV)}{k:Nat}{out:Out}(he:eG P obm t len ps k h=some out)(hk:∀k∈out.rd,h' k=h k):eG P obm t len ps k h'=some out:=by
 unfold eG at he ⊢;split at he
 ·rename_i e hu
  split at he
  ·rename_i xs hxs
   split at he
   ·rename_i hc
    split at he
    ·split at he
     ·cases he
     ·rename_i hc2
      simp only[Option.some.injEq]at he;subst he;have hkk:h' k=h k:=hk k (by simp);simp_all [newOb]
    ·rename_i hob
     split at he
     ·rename_i r hr
      split at he
      ·cases he
      ·rename_i hkr
       simp only[Option.some.injEq]at he;subst he;have hkk:h' k=h k:=hk k (by simp);have h1:=sd hr (fun k hk'=>hk k (by simp[hk']));have h2:=zL (h:=h) (h':=h') (ks:=r.2) (fun k hk'=>hk k (by simp[hk']));simp only[if_pos hc,h1,h2,hkk,if_neg hob,if_neg hkr]
     ·cases he
   ·cases he
  ·cases he
 ·cases he
theorem xN{x:AV}{r:List D×List Nat}(he:kP h x=some r)(hk:∀k∈r.2,h' k=h k):kP h' x=some r:=by
 unfold kP at he ⊢;cases x with
 |sl k v off len sz0=>
  simp only at he ⊢;split at he
  ·rename_i sz es ho
   split at he
   ·rename_i hc
    simp only[Option.bind_eq_some_iff]at he;obtain⟨q,hq,hr⟩:=he;split at hr
    ·rename_i hn
     simp only[Option.some.injEq]at hr;subst hr;have hkk:h' k=h k:=hk k (by simp);have:=sd (h':=h') hq (by rw[hn];simp);simp[hkk,ho,hc,this,hn]
    ·cases hr
   ·cases he
  ·cases he
 |d y=>cases y<;>first|exact he|(rename_i l;cases l<;>exact he)
 |_=>exact he
theorem iI{obm:Bool}{t:TypeId}{s x:AV}{k:Nat}{out:Out}(he:cN P obm t s x k h=some out)(hk:∀k∈out.rd,h' k=h k):cN P obm t s x k h'=some out:=by
 unfold cN at he ⊢;split at he
 ·rename_i e hu
  split at he
  ·rename_i news rs z hsrc hz
   split at he
   ·rename_i hc
    have fin:(∀k∈rs,h' k=h k)→kP h' x=some (news,rs):=fun hh=>xN hsrc hh
    cases s with
    |nils=>
     simp only at he;split at he
     ·cases he
     ·rename_i hc2
      split at he
      ·rename_i ho
       split at he
       ·cases he
       ·rename_i hc3
        simp only[Option.some.injEq]at he;subst he;have hkk:h' k=h k:=hk k (by simp);have h1:=fin (fun k hk'=>hk k (by simp[hk']));simp only[h1,hz,if_pos hc,if_neg hc2,if_pos ho,if_neg hc3,hkk,newOb]
      ·rename_i ho
       simp only[Option.some.injEq]at he;subst he;have hkk:h' k=h k:=hk k (by simp);have h1:=fin (fun k hk'=>hk k (by simp[hk']));simp only[h1,hz,if_pos hc,if_neg hc2,if_neg ho,hkk]
    |es=>
     simp only at he;split at he
     ·cases he
     ·rename_i hc2
      simp only[Option.some.injEq]at he;subst he;have h1:=fin hk;simp only[h1,hz,if_pos hc,if_neg hc2]
    |vec k1 v sz l=>
     simp only at he;split at he
     ·rename_i hc2
      simp only[Option.some.injEq]at he;subst he;have hkk:h' k1=h k1:=hk k1 (by simp);have h1:=fin (fun k hk'=>hk k (by simp[hk']));simp only[h1,hz,if_pos hc,hkk,if_pos hc2]
     ·cases he
    |sl k1 v off len sz0=>
     simp only at he;split at he
     ·rename_i sz es ho
      split at he
      ·rename_i hc2
       simp only[Option.some.injEq]at he;subst he;have hkk:h' k1=h k1:=hk k1 (by simp);have h1:=fin (fun k hk'=>hk k (by simp[hk']));simp only[h1,hz,if_pos hc,hkk,ho,if_pos hc2]
      ·cases he
     ·cases he
    |_=>simp at he
   ·cases he
  ·cases he
 ·cases he
theorem qH{obm:Bool}{t:TypeId}{s x:AV}{k:Nat}{out:Out}(he:fK P obm t s x k h=some out)(hk:∀k∈out.rd,h' k=h k):fK P obm t s x k h'=some out:=by
 unfold fK at he ⊢;cases ho:cN P obm t s x k h with
 |none=>simp[ho]at he
 |some o1=>
  simp only[ho]at he;obtain⟨val,wr,rd,ob⟩:=o1;split at he
  ·rename_i e k' v' sz l hby hu hv
   simp only at hv;subst hv;split at he
   ·rename_i hc
    simp only[Option.some.injEq]at he;subst he;have hk1:∀j∈k'::kB k'::rd,h' j=h j:=fun j hj=>hk j (iH j hj)
    rw[iI ho (fun j hj=>hk1 j (by simp[hj]))];have h1:=hk1 k' (by simp);have h2:=jq hk;simp only[hu,hby];rw[if_pos (by rw[h1,gP (hk1 (kB k') (by simp))];exact hc),h2]
   ·rename_i hc
    simp only[Option.some.injEq]at he;subst he;have hk1:∀j∈k'::kB k'::rd,h' j=h j:=hk;rw[iI ho (fun j hj=>hk1 j (by simp[hj]))];have h1:=hk1 k' (by simp);simp only[hu,hby];rw[if_neg (by rw[h1,gP (hk1 (kB k') (by simp))];exact hc)]
  ·rename_i hne
   simp only[Option.some.injEq]at he;subst he;rw[iI ho hk];simp only
theorem sj{cfg:iA}{i k:Nat}{c:Call}{ρ:Operand→AV}{out:Out}(he:bP P cfg i c ρ h k=some out)(hk:∀k∈out.rd,h' k=h k):bP P cfg i c ρ h' k=some out:=by
 unfold bP at he ⊢;split at he
 ·split at he
  ·split at he
   ·exact sf he hk
   ·exact he
  ·exact he
 ·exact he
 ·exact he
 ·split at he
  ·split at he
   ·rename_i ht
    rw[if_pos ht];exact qH he hk
   ·cases he
  ·cases he
 ·exact he
 ·split at he
  ·exact k8 he hk
  ·cases he
 ·split at he
  ·split at he
   ·exact he
   ·exact he
   ·unfold gu at he ⊢
    split at he
    ·exact he
    ·split at he
     ·rename_i r hr
      split at he
      ·rename_i hs
       simp only[Option.some.injEq]at he;subst he;have:=sd hr hk;simp only[this,if_pos hs]
      ·cases he
     ·cases he
  ·cases he
 ·cases he
theorem sm{cfg:iA}{i:Nat}{o:Oper}{ρ:Operand→AV}{out:Out}(he:bN P cfg i o ρ h=some out)(hk:∀k∈out.rd,h' k=h k):bN P cfg i o ρ h'=some out:=by
 unfold bN at he ⊢;split at he
 all_goals first
  |exact he
  |exact si he hk
  |exact v6 he hk
  |exact mZ he hk
  |exact nP he hk
  |exact ug he hk
  |exact nQ he hk
  |exact qC he hk
  |exact v7 he hk
  |exact nR he hk
  |exact se he hk
  |exact sj he hk
theorem zM{cfg:iA}{i:Nat}{o:Oper}{ρ ρ':Operand→AV}(hρ:∀x∈o.op.operands,ρ' x=ρ x):bN P cfg i o ρ' h=bN P cfg i o ρ h:=by
 obtain⟨dst,op,type,pos,after,guard⟩:=o
 have pairs:∀ps:Array (Nat×Operand),(∀x∈(ps.toList.map (·.2)).toArray,ρ' x=ρ x)→(ps.toList.map fun p=>(p.1,ρ' p.2))=(ps.toList.map fun p=>(p.1,ρ p.2)):=fun ps hp=>
  List.map_congr_left fun p hm=>by
   obtain⟨i,x⟩:=p;have:=hp x (by simpa using ⟨i,Array.mem_toList_iff.1 hm⟩);simp only[this]
 cases op<;>simp only[Op.operands]at hρ<;>simp only[bN]
 case build t ps=>rw[pairs ps hρ]
 case buildSlice t n ps=>rw[pairs ps hρ]
 case makeFunc fn first captured=>
  cases fn with
  |func f=>
   simp only;split
   ·rw[List.map_congr_left (l:=captured.toList) fun x hx=>hρ x (by simp[Array.mem_toList_iff.1 hx])]
   ·rfl
  |_=>rfl
 case call c=>
  have hargs:c.args.toList.map ρ'=c.args.toList.map ρ:=List.map_congr_left fun x hx=>hρ x (by simp[Call.operands,Array.mem_toList_iff.1 hx])
  have hmem:∀x,x∈c.args.toList→ρ' x=ρ x:=fun x hx=>hρ x (by simp[Call.operands,Array.mem_toList_iff.1 hx])
  unfold bP;cases hc:c.callee with
  |value f=>
   have hf:ρ' f=ρ f:=hρ f (by simp[Call.operands,hc]);simp only[hf,hargs]
  |invoke r m=>rfl
  |builtin b=>
   cases b<;>simp only
   all_goals first
    |rfl
    |(split
      ·rename_i h1;simp only[h1,List.mem_cons,List.not_mem_nil,or_false,forall_eq_or_imp,forall_eq]at hmem;simp only[hmem]
      ·rfl)
    |(split
      ·rename_i h1 h2;simp only[h1,List.mem_cons,List.not_mem_nil,or_false,forall_eq_or_imp,forall_eq]at hmem;simp only[hmem]
      ·rfl)
 case makeMap t r=>cases r<;>rfl
 case slice t x lo hi mx=>cases lo<;>cases hi<;>cases mx<;>simp_all
 all_goals (first|rfl|(simp_all;done))
end
end Go.Avm
