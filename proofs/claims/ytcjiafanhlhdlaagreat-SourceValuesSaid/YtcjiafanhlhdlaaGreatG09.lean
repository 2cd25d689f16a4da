/-
  The abstract machine, part Z: going through a map. What comes next the tape says: a rule for every outcome.
-/
import Derived.Test.YtcjiafanhlhdlaaGreatG08
import Derived.Maps.RangeRun
set_option linter.unusedVariables false
set_option linter.unusedSimpArgs false
set_option linter.unusedSectionVars false
namespace Go.Avm
open Go.RowKit
variable[ap]
section
variable{P:Program}{B:Nat}{w0:World}{I0:Nat→Nat→Prop}{cfg:d0}{N:Nat}{b:Array Oper}
theorem nv{D:List Deferred}(u:eu P)(r:Option Nat)(n:Nat){Q:Exit→Act→World→Prop}{e:List Nat}:∀(l:List Nat){G:Gh}{w:World}{S S':St}{a:Act}{ob:List Obl}{fts:List Foot},
    HR G B w0 I0 S.heap w→FR G w N D S.env a→bP P cfg N b l S=some (S',ob,fts)→dg P ob→
    (∀m g h,Ext G w h g→HR h B w0 I0 S'.heap g→FR h g N D S'.env m→wpOpsIn (FF r) n P b Q e m g)→wpOpsIn (FF r) n P b Q (l ++e) a w
 |[],G,w,S,S',a,ob,fts,q,j,d,f,p=>by
  simp only[bP,xA,xC]at d;obtain⟨rfl,_,_⟩:=d;rw[yg];exact p a w G (Ext.refl G w) q j
 |i::I,G,w,S,S',a,ob,fts,q,j,d,f,p=>by
  simp only[bP]at d;split at d
  ·cases d
  ·rename_i o H
   split at d
   ·cases d
   ·rename_i v k
    split at d
    ·cases d
    ·rename_i L t
     simp only[xA,xC]at d;obtain⟨rfl,rfl,rfl⟩:=d;obtain⟨S1,M,J⟩:=v;obtain⟨T,E,x⟩:=L;rw[yB,wpOpsIn_cons];unfold wpOpIn;simp only[H]
     exact c8 u q j k (fun c s=>f c (x0 _ s)) r n (fun m g h K h2 A=>
      nv u r n I h2 A t (fun c s=>f c (xc _ s)) (fun z C O F y R=>p z C O (K.trans F) y R))
end
section
variable{P:Program}{G:Gh}{B:Nat}{w0 w:World}{I0:Nat→Nat→Prop}{h:aa}{env:Nat→AV}{a:Act}{op:Oper}
theorem um(i:HR G B w0 I0 h w)(p:∀x,Rep G w (opd env x) (a.eval x)){t kt et:TypeId}{x:Operand}{k v c:Nat}{es:List (D×D×Nat)}(K:Nat)(r:op.op= .range t x)(I:P.underlying t=some (.map kt et))
    (F:opd env x= .mp k v) (g:h k=⟨v,some (.map es c)⟩):∃u j n,(execOp a.eval op).run P w= .ok (.value u) j∧Ext G w n j∧HR n B w0 I0 (aq h K ⟨(h K).ver+1,some (.itr k v c [])⟩) j∧Rep n j (.itr K ((h K).ver+1)) u:=by
 have f:=p x;rw[F]at f;generalize q:a.eval x=N at f;cases f with
 |mp _ _ b z=>
 obtain⟨M,d,C,J,A,y⟩:=i.maps.obj k es c (by rw[g]);rw[g]at d;simp only at d;rw[z]at d;cases d;have l:=i.allocAny (.mapIter (some b) c #[] c);have H:=Ext.alloc i (.mapIter (some b) c #[] c)
 obtain⟨m,E⟩:=l.newFixO K (b:=w.heap.size) (oo:=some (.itr k v c [])) (o:= .mapIter (some b) c #[] c) (fun o' e=>by cases e;rfl) i.bsz (fun k _ _ x=>by
  obtain⟨_,⟨o,_,h2⟩,_⟩:=i.maps.low _ _ _ x;have:=(xG.1 h2).1;omega) rfl (heap_alloc_new w _) (fun _ _ e=>by cases e) (fun _ _ _ _ _ _ _ e=>by cases e) (fun O L s seen e=>by
  cases e;exact⟨b, #[],c,z,heap_alloc_new w _,rfl,rfl⟩)
 refine⟨.pointer (some ⟨w.heap.size,0,none⟩),w.alloc (.mapIter (some b) c #[] c),_, ?_,H.trans E,m, .itr _ _ _ (by simp[Gh.atMap])⟩;unfold execOp;rw[r];simp only[q,Sem.run_bind,run_range_map w t kt et b C c I J,Result.andThen,Sem.run];rfl
def rS(h:aa)(I vI k v c:Nat)(es:List (D×D×Nat))(seen:List Nat)(x:AV)(h':aa):Prop:=
 (x= .tup [.d (.bool false)]∧h'=h∧∀e∈es,e.2.2∈seen)∨
 ∃e∈es,e.2.2∉seen∧x= .tup [.d (.bool true), .d e.1, .d e.2.1]∧h'=aq h I ⟨vI,some (.itr k v c (seen ++[e.2.2]))⟩
theorem vY(M:HR G B w0 I0 h w)(Z:∀x,Rep G w (opd env x) (a.eval x)){x:Operand}{I vI k v c:Nat}{es:List (D×D×Nat)}{seen:List Nat}(hop:op.op= .next x false)
    (E:opd env x= .itr I vI) (H:h I=⟨vI,some (.itr k v c seen)⟩) (J:h k=⟨v,some (.map es c)⟩) (L:∀e∈es,e.2.2<c):
    ∃v' F W x' h',(execOp a.eval op).run P w= .ok (.value v') F∧Ext G w W F∧HR W B w0 I0 h' F∧Rep W F x' v'∧rS h I vI k v c es seen x' h':=by
 have y:=Z x;rw[E]at y;generalize hvx:a.eval x=vx at y;cases y with
 |itr _ _ b hL=>
 obtain⟨b',R,Q,p,o,N,C,A,hc0⟩:=M.maps.iters I k v c seen (by rw[H]);rw[H]at o;simp only at o;rw[hL]at o;cases o;subst hc0;obtain⟨b2,r,n,hb,hsz,s⟩:=M.maps.obj k es _ (by rw[J]);rw[J]at r;simp only at r;rw[N]at r;cases r
 have O:∀m∈n.toList,∃e∈es,DRep G.imm w e.1 m.key∧DRep G.imm w e.2.1 m.val∧m.born=e.2.2:=fun m hm=>by
  obtain⟨i,U,z⟩:=List.getElem_of_mem hm;have l:i<n.size:=by simpa using U
  have h2:n[i]? =some m:=by rw[xF l];rw[←z];simp
  have h1:es[i]? =some es[i]:=xE (by omega);exact⟨es[i],yc _,s i _ m h1 h2⟩
 have g:(execOp a.eval op).run P w=((Instr.next (.pointer (some ⟨b,0,none⟩)) false op.type).run P w).andThen fun v F=>(pure (Next.value v):Sem Next).run P F:=by
  unfold execOp;rw[hop];simp only[hvx,Sem.run_bind]
 rcases run_next_at (P:=P) w op.type b R p p Q n p C hb (fun m hm=>by
  obtain⟨e,z,_,_,f⟩:=O m hm;rw[f];exact L e z) (xO _)with ⟨h0,hrun⟩|⟨m,hm,w1,hw1,hrun⟩
 ·refine⟨_,w,G, .tup [.d (.bool false)],h,by rw[g,hrun];rfl,Ext.refl G w,M, .tup _ _ rfl (fun i cc u j q=> ?_), .inl ⟨rfl,rfl,fun e z=> ?_⟩⟩
  ·cases i with
   |zero=>
    simp at j q;subst j;subst q;exact .d (.bool _)
   |succ i=>simp at j
  ·
   obtain⟨i,U,hee⟩:=List.getElem_of_mem z;have l:i<n.size:=by omega
   have h1:es[i]? =some e:=by rw[xE U,hee]
   have h2:n[i]? =some n[i]:=xF l;obtain⟨_,_,f⟩:=s i e _ h1 h2;have S:leftOf n Q= #[]:=Array.eq_empty_of_size_eq_zero h0;unfold leftOf at S;rw[Array.filter_eq_empty_iff]at S;have:=S n[i] (yf l);simp only[xu,Bool.not_eq_false']at this;rw[←A,←f];simpa using this
 ·unfold leftOf at hm
  simp only[Array.toList_filter,yi,xu]at hm;obtain⟨e,z,hk1,Y,f⟩:=O m hm.1
  have X:e.2.2∉seen:=fun E=>by
   rw[←A,←f]at E;have:=hm.2;simp at this;exact this (by simpa using E)
  have hw:HR G B w0 I0 h w1∧Ext G w G w1∧w1.heap[b]? =some (.mapIter (some R) p Q p):=by
   rcases hw1 with rfl|rfl
   ·exact⟨M,Ext.refl G _,C⟩
   ·exact⟨M.drew,Ext.drew G w,C⟩
  obtain⟨V,e1,t⟩:=hw
  obtain⟨K,e2⟩:=V.setFix (k:=I) (b:=b) (o':= .mapIter (some R) p (Q.push m.born) p) (ob':=some (.itr k v p (seen ++[e.2.2]))) (by rw[H];rfl) (by rw[H];exact hL) t rfl rfl (fun _=>⟨_,_,_,_,rfl⟩) (fun x E=>by cases E;rfl) (fun _ _ e=>by cases e) (fun _ _ _ _ _ _ _ e=>by cases e) (fun km vm since sn e3=>by
   cases e3;have T:=(xG.1 t).1;exact⟨R,_,p,N,World.putObj_heap_same T,by simp[A,f],rfl⟩)
  rw[H]at K;refine⟨_,_,G, .tup [.d (.bool true), .d e.1, .d e.2.1],_,by rw[g,hrun];rfl,e1.trans e2,K, .tup _ _ rfl (fun i cc u j q=> ?_), .inr ⟨e,z,X,rfl,rfl⟩⟩;have ee:=e1.trans e2;match i with
  |0=>
   simp at j q;subst j;subst q;exact .d (.bool _)
  |1=>
   simp at j q;subst j;subst q;exact(Rep.d hk1:Rep G w _ _).mono ee
  |2=>
   simp at j q;subst j;subst q;exact(Rep.d Y:Rep G w _ _).mono ee
  |i+3=>simp at j
theorem un(N:HR G B w0 I0 h w)(L:∀x,Rep G w (opd env x) (a.eval x)){x:Operand}{I vI k v c:Nat}{es:List (D×D×Nat)}{seen:List Nat}{e:D×D×Nat}(R:op.op= .entry x)
    (hx:opd env x= .itr I vI) (V:h I=⟨vI,some (.itr k v c (seen ++[e.2.2]))⟩) (q:h k=⟨v,some (.map es c)⟩) (he:e∈es) (hn:(es.map (·.2.2)).Nodup):
    ∃U A F Y h',(execOp a.eval op).run P w= .ok (.value U) A∧Ext G w F A∧HR F B w0 I0 h' A∧Rep F A Y U∧Y= .tup [.d e.1, .d e.2.1]∧h'=h:=by
 have n:=L x;rw[hx]at n;generalize Q:a.eval x=vx at n;cases n with
 |itr _ _ b hL=>
 obtain⟨b',bm,sa,X,g,O,t,H,M⟩:=N.maps.iters I k v c _ (by rw[V]);rw[V]at g;simp only at g;rw[hL]at g;cases g;subst M;obtain⟨b2,l,f,hb,hsz,m⟩:=N.maps.obj k es _ (by rw[q]);rw[q]at l;simp only at l;rw[O]at l;cases l;obtain⟨i,hi,T⟩:=List.getElem_of_mem he;have E:i<f.size:=by omega
 have h1:es[i]? =some e:=by rw[xE hi,T]
 have h2:f[i]? =some f[i]:=xF E;obtain⟨S,J,K⟩:=m i e _ h1 h2
 have p:f.toList.map (·.born)=es.map (·.2.2):=by
  apply List.ext_getElem?;intro j;rcases y9 j es.length with W|W
  ·have r:j<f.size:=by omega
   have Z:es[j]? =some es[j]:=xE W;have g2:f[j]? =some f[j]:=xF r;rw[xK,xK,Z];have g3:f.toList[j]? =some f[j]:=by simp[r]
   rw[g3];simp only[xP];rw[(m j _ _ Z g2).2.2]
  ·rw[yV (by simp;omega),yV (by simp;omega)]
 obtain⟨o,s⟩:∃o:Array Nat,sa=o.push f[i].born:=⟨seen.toArray,by
  apply yk.1;rw[H,K];simp⟩
 rw[s]at t;have z:=run_entry_at (P:=P) w b bm X o f X f[i] t hb (by simp) (by rw[p];exact hn);refine⟨.tuple #[f[i].key,f[i].val],w,G, .tup [.d e.1, .d e.2.1],h, ?_,Ext.refl G w,N, .tup _ #[f[i].key,f[i].val] rfl (fun j cc u y C=> ?_),rfl,rfl⟩
 ·unfold execOp
  rw[R];simp only[Q,Sem.run_bind,z,Result.andThen];rfl
 ·match j with
  |0=>
   simp at y C;subst y;subst C;exact .d S
  |1=>
   simp at y C;subst y;subst C;exact .d J
  |j+2=>simp at y
end
end Go.Avm
