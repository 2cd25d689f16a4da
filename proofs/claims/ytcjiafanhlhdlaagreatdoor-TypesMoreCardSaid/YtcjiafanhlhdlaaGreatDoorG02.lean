/-
  The abstract machine, part F: new blocks, stores, addresses, numbers, lengths, appends.
-/
import Derived.Test.YtcjiafanhlhdlaaGreatDoorG01
import Derived.Laws.StructEq
import Derived.ChangeKeysEq
set_option linter.unusedVariables false
set_option linter.unusedSimpArgs false
set_option linter.unusedSectionVars false
namespace Go.Avm
open Go.RowKit
variable[aJ]
section
variable{P:Program}{G:Gh}{B:Nat}{w0 w:World}{I0:Nat→Nat→Prop}{h:ab}
theorem bK:∀{es:List AV},(∀x∈es,x.lone=true)→AV.flat es=es
 |[],_=>rfl
 |a::r,hh=>by
  have:=bK (es:=r) (fun x hx=>hh x (by simp[hx]));simp only[AV.flat,List.flatMap_cons,AV.cells_lone (hh a (by simp)),List.singleton_append]at this ⊢;rw[this]
theorem mw(hr:HR G B w0 I0 h w)(k:Nat)(t:TypeId)(v:Value)(cs:List AV)(hl:v.cells.size=cs.length)(h1:∀u∈v.cells.toList,u.oneCell'=true)
    (hc:∀(i:Nat)(c:AV)(u:Value),cs[i]? =some c→v.cells[i]? =some u→Rep G w c u):
    ∃w' G' a,(newVar t v).run P w= .ok a w'∧Ext G w G' w'∧HR G' B w0 I0 (aM h k ⟨(h k).ver+1,some (.arr 1 cs)⟩) w'∧Rep G' w' (.ptr k ((h k).ver+1) 0 0 1) (.pointer (some a))∧
     ∀L,G'.loc k ((h k).ver+1)=some L→L.ty=t∧L.cap*L.sz=cs.length:=by
 have hlone:∀x∈cs,x.lone=true:=by
  intro x hx;obtain⟨i,hi⟩:=List.getElem?_of_mem hx;have hlt:i<v.cells.size:=by rw[hl];exact(List.getElem?_eq_some_iff.1 hi).1
  have hu:v.cells[i]? =some v.cells[i]:=Array.getElem?_eq_getElem hlt;exact(hc i x _ hi hu).lone (h1 _ (by rw[Array.mem_toList_iff];exact Array.getElem_mem hlt))
 obtain⟨hn,he⟩:=hr.newOb k 1 cs.length cs v.cells t (by rw[hl];omega) (Nat.le_refl _) (fun x hx=>by rw[AV.cells_lone (hlone x hx)];rfl) (fun _=>hlone) (fun i c hi=>by
  rw[bK hlone]at hi;have hlt:i<v.cells.size:=by rw[hl];exact(List.getElem?_eq_some_iff.1 hi).1
  have hu:v.cells[i]? =some v.cells[i]:=Array.getElem?_eq_getElem hlt;exact⟨_,hu,h1 _ (by rw[Array.mem_toList_iff];exact Array.getElem_mem hlt),hc i c _ hi hu⟩)
 refine⟨_,_,⟨w.heap.size,0,none⟩, ?_,he,hn, ?_,fun L hL=>by
  rw[Gh.at_same]at hL;cases hL;exact⟨rfl,Nat.mul_one _⟩⟩
 ·simp[newVar,newRow]
 ·have:=Rep.ptr (w:=w.alloc (.cells v.cells t)) k ((h k).ver+1) 0 0 _ (Gh.at_same G k ((h k).ver+1) ⟨w.heap.size,1,cs.length,0,t⟩)
  simpa using this
theorem my:∀(a b:List (Nat×aN))(h:ab),aq h (a ++b)=aq (aq h a) b
 |[],_,_=>rfl
 |p::r,b,h=>by simp only[List.cons_append,aq];exact my r b _
theorem rJ:∀(wr:List (Nat×aN))(h:ab){k:Nat},k∉wr.map (·.1)→aq h wr k=h k
 |[],_,_,_=>rfl
 |(j,e)::r,h,k,hk=>by
  simp only[List.map_cons,List.mem_cons,not_or]at hk;simp only[aq];rw[rJ r _ hk.2,am _ _ hk.1]
theorem jp{G':Gh}{w':World}{out:Out}(hr':HR G' B w0 I0 (aq h out.wr) w')(typ:Bool)(T:TypeId)(n:Option Nat)(k v:Nat)(hv:v≤(aq h out.wr k).ver)
    (hL:typ=true→∀L,G'.loc k v=some L→L.ty=T∧∀m,n=some m→L.cap*L.sz=m):HR G' B w0 I0 (aq h (cr typ T n k v h out).wr) w':=by
 unfold cr;split
 ·rename_i hc
  simp only[my,aq];have:=hr'.note (kB k) k v T n hv (hL hc.1);rw[rJ _ _ hc.2]at this;exact this
 ·exact hr'
theorem fN(typ:Bool)(T:TypeId)(n:Option Nat)(k v:Nat)(h:ab)(out:Out):(cr typ T n k v h out).val=out.val∧(cr typ T n k v h out).ob=out.ob:=by
 unfold cr;split<;>exact⟨rfl,rfl⟩
theorem rK(hr:HR G B w0 I0 h w)(typ:Bool){t:TypeId}{k:Nat}{out:Out}(ho:(fY P t k h).map (cr typ t ((mR P t).map List.length) k ((h k).ver+1) h)=some out):
    out.ob=[]∧∃v w' G',(Instr.alloc t true (.tuple #[])).run P w= .ok v w'∧Ext G w G' w'∧HR G' B w0 I0 (aq h out.wr) w'∧Rep G' w' out.val v:=by
 rw[Option.map_eq_some_iff]at ho;obtain⟨o1,ho,rfl⟩:=ho;rw[(fN ..).1,(fN ..).2];unfold fY at ho;split at ho
 ·rename_i zs hzs
  simp only[Option.some.injEq]at ho;subst ho;rw[hzs];simp only[mR,Option.bind_eq_some_iff]at hzs;obtain⟨z,hz,hzs⟩:=hzs;obtain⟨h1,h2,h3⟩:=f9 (G:=G) (w:=w) hzs
  obtain⟨w',G',a,hrun,he,hh,hrep,hty⟩:=mw (P:=P) hr k t z zs h1 (fun u hu=>by
   obtain⟨i,hi⟩:=List.getElem?_of_mem hu;exact h2 i u (by simpa using hi)) h3
  exact⟨rfl,_,w',G',by simp[Instr.alloc,cO hz,hrun],he,jp hh typ t _ k _ (by simp[aq,newOb,aM]) (fun _ L hL=>⟨(hty L hL).1,fun m hm=>by
   simp only[Option.map_some,Option.some.injEq]at hm;rw[(hty L hL).2,hm]⟩),hrep⟩
 ·cases ho
theorem vT(hr:HR G B w0 I0 h w)(typ:Bool){t:TypeId}{x:AV}{vx:Value}(hx:Rep G w x vx){k:Nat}{out:Out}(ho:(kJ x k h).map (cr typ t (some x.cells.length) k ((h k).ver+1) h)=some out):
    out.ob=[]∧∃v w' G',(Instr.box t vx).run P w= .ok v w'∧Ext G w G' w'∧HR G' B w0 I0 (aq h out.wr) w'∧Rep G' w' out.val v:=by
 rw[Option.map_eq_some_iff]at ho;obtain⟨o1,ho,rfl⟩:=ho;rw[(fN ..).1,(fN ..).2];unfold kJ at ho;split at ho
 ·rename_i hs
  simp only[Option.some.injEq]at ho;subst ho;obtain⟨h1,h2,h3⟩:=hx.cells hs;obtain⟨w',G',a,hrun,he,hh,hrep,hty⟩:=mw (P:=P) hr k t vx x.cells h1 h2 h3
  exact⟨rfl,_,w',G',by simp[Instr.box,hrun],he,jp hh typ t _ k _ (by simp[aq,newOb,aM]) (fun _ L hL=>⟨(hty L hL).1,fun m hm=>by
   simp only[Option.some.injEq]at hm;rw[(hty L hL).2,hm]⟩),hrep⟩
 ·cases ho
theorem vU:∀(us:List Value)(cs:Array Value)(off j:Nat),off+j+us.length≤cs.size→
    ((us.zipIdx j).foldl (fun (cs:Array Value) p=>cs.setIfInBounds (off+p.2) p.1) cs).toList=cs.toList.take (off+j) ++us ++cs.toList.drop (off+j+us.length)
 |[],cs,off,j,_=>by simp
 |u::r,cs,off,j,h=>by
  simp only[List.zipIdx_cons,List.foldl_cons];rw[vU r (cs.setIfInBounds (off+j) u) off (j+1) (by simp at h ⊢;omega)];have e:=list_seg_step cs.toList (off+j) u r (by simp at h ⊢;omega);simpa [Array.toList_setIfInBounds,Nat.add_assoc]using e
theorem mT(place:Nat→Option (Nat×Nat)):∀(parts:List (Nat×AV))(vparts:List (Nat×Value))(cs:List AV)(vcs:Array Value)(out:List AV),
    ux place cs parts=some out→vparts.length=parts.length→(∀(i:Nat)(p:Nat×AV)(q:Nat×Value),parts[i]? =some p→vparts[i]? =some q→p.1=q.1∧Rep G w p.2 q.2)→
    vcs.size=cs.length→(∀(i:Nat)(u:Value),vcs[i]? =some u→u.oneCell'=true)→(∀(i:Nat)(c:AV)(u:Value),cs[i]? =some c→vcs[i]? =some u→Rep G w c u)→
    ∃vout,Instr.fill place vcs vparts=some vout∧vout.size=out.length∧(∀(i:Nat)(u:Value),vout[i]? =some u→u.oneCell'=true)∧
     (∀(i:Nat)(c:AV)(u:Value),out[i]? =some c→vout[i]? =some u→Rep G w c u)
 |[],vparts,cs,vcs,out,hf,hl,_,hs,h1,hc=>by
  simp only[ux,Option.some.injEq]at hf;subst hf;have:vparts=[]:=List.eq_nil_of_length_eq_zero (by simpa using hl);subst this;exact⟨vcs,rfl,hs,h1,hc⟩
 |(i,x)::r,vparts,cs,vcs,out,hf,hl,hp,hs,h1,hc=>by
  cases vparts with
  |nil=>simp at hl
  |cons q vr=>
   obtain⟨qi,qv⟩:=q;obtain⟨hqi,hqr⟩:=hp 0 (i,x) (qi,qv) rfl rfl;simp only at hqi hqr;subst hqi;simp only[ux]at hf;split at hf
   ·rename_i off size hpl
    split at hf
    ·rename_i hcnd
     obtain⟨hst,hsz,hle⟩:=hcnd;obtain⟨e1,e2,e3⟩:=hqr.cells hst;have hseq:=vU qv.cells.toList vcs off 0 (by simp;omega)
     have hfold:(qv.cells.zipIdx.foldl (fun (cs:Array Value) p=>cs.setIfInBounds (off+p.2) p.1) vcs).toList=vcs.toList.take off ++qv.cells.toList ++vcs.toList.drop (off+qv.cells.size):=by
      rw[←Array.foldl_toList];simpa using hseq
     refine mT place r vr _ (qv.cells.zipIdx.foldl (fun (cs:Array Value) p=>cs.setIfInBounds (off+p.2) p.1) vcs) out hf (by simpa using hl) (fun j p q hp' hq'=>hp (j+1) p q (by simpa using hp') (by simpa using hq')) ?_ ?_ ?_|>.imp (fun vout hh=> ?_)
     ·rw[←Array.length_toList,hfold];simp;omega
     ·intro j u hu
      have hu':u∈(qv.cells.zipIdx.foldl (fun (cs:Array Value) p=>cs.setIfInBounds (off+p.2) p.1) vcs).toList:=by rw[Array.mem_toList_iff];exact Array.mem_of_getElem? hu
      rw[hfold]at hu';simp only[List.mem_append]at hu';rcases hu' with (hu'|hu')|hu'
      ·obtain⟨j',hj'⟩:=List.getElem?_of_mem (List.mem_of_mem_take hu')
       exact h1 j' u (by simpa using hj')
      ·exact e2 u hu'
      ·obtain⟨j',hj'⟩:=List.getElem?_of_mem (List.mem_of_mem_drop hu')
       exact h1 j' u (by simpa using hj')
     ·intro j c u hcj huj
      rw[←Array.getElem?_toList,hfold]at huj;have hlen:qv.cells.toList.length=x.cells.length:=by simpa using e1
      by_cases hj1:j<off
      ·rw[List.append_assoc,List.getElem?_append_left (by simp;omega),List.getElem?_take,if_pos hj1]at hcj
       rw[List.append_assoc,List.getElem?_append_left (by simp;omega),List.getElem?_take,if_pos hj1]at huj;exact hc j c u hcj (by simpa using huj)
      ·by_cases hj2:j<off+x.cells.length
       ·rw[List.getElem?_append_left (by simp;omega),List.getElem?_append_right (by simp;omega)]at hcj
        rw[List.getElem?_append_left (by simp;omega),List.getElem?_append_right (by simp;omega)]at huj;have ea:min off cs.length=off:=by omega
        have eb:min off vcs.size=off:=by omega
        simp only[List.length_take,ea,Array.length_toList,eb]at hcj huj;exact e3 _ c u hcj (by simpa using huj)
       ·rw[List.getElem?_append_right (by simp;omega),List.getElem?_drop]at hcj
        rw[List.getElem?_append_right (by simp;omega),List.getElem?_drop]at huj;have ea:min off cs.length=off:=by omega
        have eb:min off vcs.size=off:=by omega
        simp only[List.length_append,List.length_take,ea,Array.length_toList,eb,e1]at hcj huj;exact hc _ c u hcj (by simpa using huj)
     ·obtain⟨g1,g2,g3,g4⟩:=hh
      refine⟨?_,g2,g3,g4⟩;simp only[Instr.fill,hpl];rw[if_neg (by simp;omega)];exact g1
    ·cases hf
   ·cases hf
theorem nF{t:TypeId}{fs:Array Field}(hf:fieldsOf P t=some fs):P.underlying t=some (.struct fs):=by
 unfold fieldsOf at hf;split at hf
 ·rename_i h;simp only[Option.some.injEq]at hf;subst hf;exact h
 ·cases hf
theorem rL:∀(fs:List Field),(fs.all fun f=>(P.info? f.type).isSome)=true→(fs.mapM fun f=>(P.info? f.type).map fun i=>(f.offset,i.size))=some (fs.map fun f=>(f.offset,P.cellsOf f.type))
 |[],_=>rfl
 |f::r,h=>by
  simp only[List.all_cons,Bool.and_eq_true]at h;obtain⟨i,hi⟩:=Option.isSome_iff_exists.1 h.1;simp[List.mapM_cons,hi,rL r h.2,Program.cellsOf]
theorem ua{t:TypeId}{parts:List (Nat×AV)}{vparts:Array (Nat×Value)}{out:Out}(ho:vP P t parts=some out)(hl:vparts.size=parts.length)
    (hp:∀(i:Nat)(p:Nat×AV)(q:Nat×Value),parts[i]? =some p→vparts[i]? =some q→p.1=q.1∧Rep G w p.2 q.2):
    out.ob=[]∧out.wr=[]∧∃v,(Instr.build t vparts).run P w= .ok v w∧Rep G w out.val v:=by
 unfold vP at ho;split at ho
 ·rename_i zs hok hzs
  simp only[mR,Option.bind_eq_some_iff]at hzs;obtain⟨z,hz,hzs⟩:=hzs;simp only[Option.map_eq_some_iff]at ho;obtain⟨cs,hfill,rfl⟩:=ho;obtain⟨h1,h2,h3⟩:=f9 (G:=G) (w:=w) hzs;obtain⟨vout,g1,g2,g3,g4⟩:=mT (G:=G) (w:=w) (ij P t) parts vparts.toList zs z.cells cs hfill (by simpa using hl) (fun i p q hp' hq'=>hp i p q hp' (by simpa using hq')) h1 h2 h3;refine⟨rfl,rfl, .agg vout, ?_,jD g2 g3 g4⟩;unfold kK at hok;split at hok
  ·rename_i fs hfs
   have hu:=nF hfs;have hpl:=run_places (P:=P) w fs.toList _ (rL fs.toList hok)
   have hplace:(fun (i:Nat)=>((fs.toList.map fun f=>(f.offset,P.cellsOf f.type)).toArray:Array (Nat×Nat))[i]?)=ij P t:=by
    funext i;simp[ij,hfs]
   have hfill':Instr.fill (fun (i:Nat)=>((fs.toList.map fun f=>(f.offset,P.cellsOf f.type)).toArray:Array (Nat×Nat))[i]?) z.cells vparts.toList=some vout:=by rw[hplace];exact g1
   simp only[Instr.build,Sem.run_bind,cO hz,run_underlying hu,Result.andThen_ok]
   have hm:(fs.mapM fun f=>(do pure (f.offset,←sizeOf f.type):Sem (Nat×Nat))).run P w= .ok (fs.toList.map fun f=>(f.offset,P.cellsOf f.type)).toArray w:=by
    rw[Array.mapM_eq_mapM_toList,Sem.run_map]
    have:(fs.toList.mapM fun f=>(do pure (f.offset,←sizeOf f.type):Sem (Nat×Nat)))=(fs.toList.mapM fun f=>Prod.mk f.offset<$>sizeOf f.type):=by
     congr 1
    rw[this,hpl];rfl
   simp only[hm,Result.andThen_ok,hfill',Sem.run_pure]
  ·cases hok
 ·rename_i zs hok hzs
  simp only[mR,Option.bind_eq_some_iff]at hzs;obtain⟨z,hz,hzs⟩:=hzs;split at ho;case h_2=>cases ho
  rename_i e he;simp only[Option.map_eq_some_iff]at ho;obtain⟨cs,hfill,rfl⟩:=ho;obtain⟨h1,h2,h3⟩:=f9 (G:=G) (w:=w) hzs;obtain⟨vout,g1,g2,g3,g4⟩:=mT (G:=G) (w:=w) _ parts vparts.toList zs z.cells cs hfill (by simpa using hl) (fun i p q hp' hq'=>hp i p q hp' (by simpa using hq')) h1 h2 h3;refine⟨rfl,rfl, .agg vout, ?_,jD g2 g3 g4⟩;unfold JP at he;split at he
  ·rename_i n e' hu
   split at he
   ·rename_i hk
    cases he;obtain⟨i,hi⟩:=Option.isSome_iff_exists.1 (show(P.info? e).isSome=true from hk);have hsz:(sizeOf e).run P w= .ok (P.cellsOf e) w:=by simp[sizeOf,typeInfo,hi,Program.cellsOf]
    simp only[Instr.build,Sem.run_bind,cO hz,run_underlying hu,Result.andThen_ok,hsz,g1,Sem.run_pure]
   ·cases he
  ·cases he
 ·cases ho
end
end Go.Avm
namespace Go.Avm
open Go.RowKit
variable[aJ]
section
variable{P:Program}{G:Gh}{B:Nat}{w0 w:World}{I0:Nat→Nat→Prop}{h:ab}
theorem nG{α:Type}(l us:List α)(p t:Nat)(hp:p+us.length≤l.length):
    (l.take p ++us ++l.drop (p+us.length))[t]? =if t<p then l[t]? else if t<p+us.length then us[t-p]? else l[t]? :=by
 by_cases h1:t<p
 ·rw[if_pos h1,List.append_assoc,List.getElem?_append_left (by simp;omega),List.getElem?_take,if_pos h1]
 ·rw[if_neg h1]
  by_cases h2:t<p+us.length
  ·rw[if_pos h2,List.getElem?_append_left (by simp;omega),List.getElem?_append_right (by simp;omega)]
   congr 1;simp;omega
  ·rw[if_neg h2,List.getElem?_append_right (by simp;omega),List.getElem?_drop]
   congr 1;simp;omega
theorem bH{t:TypeId}(hk:cA P t=true)(w:World):(sizeOf t).run P w= .ok (P.cellsOf t) w:=by
 obtain⟨i,hi⟩:=Option.isSome_iff_exists.1 hk;simp[sizeOf,typeInfo,hi,Program.cellsOf]
theorem jZ(hr:HR G B w0 I0 h w){t:TypeId}{k sz i off psz:Nat}{es es':List AV}{x:AV}{va vx:Value}(ha:Rep G w (.ptr k (h k).ver i off psz) va)(hx:Rep G w x vx)
    (hob:(h k).ob=some (.arr sz es)) (hst:x.stor=true) (hcl:x.cells.length=P.cellsOf t) (hkn:cA P t=true)
    (hpos:i*sz+off+x.cells.length≤es.length*sz) (hlen:es'.length=es.length) (hsz:(∀e∈es,e.cells.length=sz)→∀e∈es',e.cells.length=sz)
    (hlo:sz=1→(∀e∈es,e.lone=true)→(∀c∈x.cells,c.lone=true)→∀e∈es',e.lone=true)
    (hflat:(∀e∈es,e.cells.length=sz)→(sz=1→∀e∈es,e.lone=true)→(∀c∈x.cells,c.lone=true)→∀(s:Nat)(c:AV),(AV.flat es')[s]? =some c→
     (s<i*sz+off∧(AV.flat es)[s]? =some c)∨(i*sz+off≤s∧x.cells[s-(i*sz+off)]? =some c)∨(i*sz+off+x.cells.length≤s∧(AV.flat es)[s]? =some c)):
    ∃w',(Instr.storeAt t va vx).run P w= .ok () w'∧Ext G w G w'∧HR G B w0 I0 (aM h k ⟨(h k).ver,some (.arr sz es')⟩) w':=by
 obtain⟨e1,e2,e3⟩:=hx.cells hst
 have hcl':∀c∈x.cells,c.lone=true:=by
  intro c hc;obtain⟨j,hj⟩:=List.getElem?_of_mem hc;have hlt:j<vx.cells.size:=by rw[e1];exact(List.getElem?_eq_some_iff.1 hj).1
  have hu:vx.cells[j]? =some vx.cells[j]:=Array.getElem?_eq_getElem hlt;exact(e3 j c _ hj hu).lone (e2 _ (by rw[Array.mem_toList_iff];exact Array.getElem_mem hlt))
 cases ha with
 |ptr _ _ _ _ L hL=>
  rcases hr.objs k _ hob with ⟨rfl,hLn⟩|⟨L',hL',h1,h2,h3,h4,h6,h5⟩
  ·
   have hx0:x.cells.length=0:=by simp only[List.length_nil,Nat.zero_mul]at hpos;omega
   have hv0:vx.cells.toList=[]:=List.eq_nil_of_length_eq_zero (by simpa [hx0]using e1);have hes':es'=[]:=List.eq_nil_of_length_eq_zero (by simpa using hlen);subst hes';refine⟨w, ?_,Ext.refl G w, ?_⟩
   ·have hsz0:vx.cells.size=P.cellsOf t:=by rw[e1,hcl]
    simp[Instr.storeAt,Instr.sureAddr,storeVar,bH hkn,hsz0,hv0,storeCells]
   ·have:aM h k ⟨(h k).ver,some (.arr sz [])⟩=h:=by
      funext k';by_cases hk:k'=k
      ·subst hk;rw[ak];cases hh:h k' with|mk ver ob=>rw[hh]at hob;simp only at hob;subst hob;rfl
      ·rw[am _ _ hk]
    rw[this];exact hr
  ·rw[hL]at hL'
   simp only[Option.some.injEq]at hL';subst hL';obtain⟨hB,⟨arr,e,hb,hs⟩,_⟩:=hr.own k L hL
   have hfit:i*L.sz+off+vx.cells.toList.length≤arr.size:=by
    rw[hs.1,h1,Array.length_toList,e1];have:=Nat.mul_le_mul_right sz h3;omega
   have hrun:=run_storeCells_at P L.b (i*L.sz+off) e vx.cells.toList 0 arr w hb (by simpa using hfit) e2;simp only[Nat.add_zero]at hrun
   have hlen2:(arr.toList.take (i*L.sz+off) ++vx.cells.toList ++arr.toList.drop (i*L.sz+off+vx.cells.toList.length)).toArray.size=arr.size:=by
    have:vx.cells.toList.length=vx.cells.size:=Array.length_toList;simp;simp at hfit;omega
   have hst':=hr.store hob hL h1 h2 hb hlen2 (by rw[hlen];exact h3) (hsz h4) (fun hz=>hlo hz (h6 hz) hcl') (fun s c hc=>by
    have hold:∀{s:Nat}{c:AV},(AV.flat es)[s]? =some c→∃u:Value,arr[s]? =some u∧u.oneCell'=true∧Rep G w c u:=by
     intro s c hc;obtain⟨u,hu,hu1,hur⟩:=h5 s c hc;exact⟨u,by simpa [World.cell?,hb]using hu,hu1,hur⟩
    have hget:=nG arr.toList vx.cells.toList (i*L.sz+off) s (by simpa using hfit);rcases hflat h4 h6 hcl' s c hc with ⟨hs1,hc1⟩|⟨hs1,hc1⟩|⟨hs1,hc1⟩
    ·obtain⟨u,hu,hu1,hur⟩:=hold hc1
     refine⟨u, ?_,hu1,hur⟩;rw[List.getElem?_toArray,hget,if_pos (by rw[h1];exact hs1)];simpa using hu
    ·have hlt:s-(i*sz+off)<vx.cells.size:=by rw[e1];exact(List.getElem?_eq_some_iff.1 hc1).1
     have hu:vx.cells[s-(i*sz+off)]? =some vx.cells[s-(i*sz+off)]:=Array.getElem?_eq_getElem hlt;refine⟨_, ?_,e2 _ (by rw[Array.mem_toList_iff];exact Array.getElem_mem hlt),e3 _ c _ hc1 hu⟩;rw[List.getElem?_toArray,hget,if_neg (by rw[h1];omega),if_pos (by rw[h1];simp;omega),h1];simp
    ·obtain⟨u,hu,hu1,hur⟩:=hold hc1
     refine⟨u, ?_,hu1,hur⟩;rw[List.getElem?_toArray,hget,if_neg (by rw[h1];omega),if_neg (by rw[h1];simp;omega)];simpa using hu)
   refine⟨_, ?_,hst'.2,hst'.1⟩;have hsz0:vx.cells.size=P.cellsOf t:=by rw[e1,hcl]
   simp[Instr.storeAt,Instr.sureAddr,storeVar,bH hkn,hsz0,hrun]
theorem ub(hr:HR G B w0 I0 h w){t:TypeId}{a x:AV}{va vx:Value}(ha:Rep G w a va)(hx:Rep G w x vx){out:Out}(ho:eF P t a x h=some out):
    out.ob=[]∧out.val= .junk∧∃w',(Instr.storeAt t va vx).run P w= .ok () w'∧Ext G w G w'∧HR G B w0 I0 (aq h out.wr) w':=by
 unfold eF at ho;split at ho
 ·rename_i k v i off sz0
  split at ho
  ·rename_i sz es hob
   split at ho
   ·rename_i hc
    obtain⟨rfl,hst,hcl,hkn⟩:=hc;split at ho
    ·rename_i hs1
     subst hs1;split at ho
     ·rename_i hoff
      subst hoff;split at ho
      ·rename_i hone
       split at ho
       ·rename_i hi
        simp only[Option.some.injEq]at ho;subst ho
        have hxl:x.lone=true:=by cases x with
         |d y=>cases y<;>first|rfl|(simp[AV.one]at hone)
         |agg _=>simp[AV.one]at hone
         |_=>rfl
        have hxc:x.cells=[x]:=AV.cells_lone hxl;refine⟨rfl,rfl,jZ hr ha hx hob hst hcl hkn (by rw[hxc];simp;omega) (by simp) (fun h4 e he=> ?_) (fun _ h6 _ e he=> ?_) (fun h4 h6 _ s c hsc=> ?_)⟩
        ·rcases List.mem_or_eq_of_mem_set he with he|rfl
         ·exact h4 e he
         ·rw[hxc];rfl
        ·rcases List.mem_or_eq_of_mem_set he with he|rfl
         ·exact h6 e he
         ·exact hxl
        ·have hall:∀e∈es.set i x,e.lone=true:=fun e he=>by
           rcases List.mem_or_eq_of_mem_set he with he|rfl
           ·exact h6 rfl e he
           ·exact hxl
         rw[bK hall,List.getElem?_set]at hsc;rw[bK (h6 rfl)];simp only[Nat.mul_one,Nat.add_zero];by_cases hsi:i=s
         ·subst hsi
          simp[hi]at hsc;subst hsc;exact .inr (.inl ⟨Nat.le_refl _,by simp[hxc]⟩)
         ·rw[if_neg hsi]at hsc
          rcases Nat.lt_or_gt_of_ne hsi with hlt|hgt
          ·exact .inr (.inr ⟨by rw[hxc];simp;omega,hsc⟩)
          ·exact .inl ⟨hgt,hsc⟩
       ·cases ho
      ·split at ho
       ·rename_i hi
        simp only[Option.some.injEq]at ho;subst ho;have hseg:=nG es x.cells i;refine⟨rfl,rfl,jZ hr ha hx hob hst hcl hkn (by omega) (by simp;omega) (fun h4 e he=> ?_) (fun _ h6 hxl e he=> ?_) (fun h4 h6 hxl s c hsc=> ?_)⟩
        ·simp only[List.append_assoc,List.mem_append]at he
         rcases he with he|he|he
         ·exact h4 e (List.mem_of_mem_take he)
         ·have hxl:∀c∈x.cells,c.lone=true:=by
            obtain⟨e1,e2,e3⟩:=hx.cells hst;intro c hc;obtain⟨j,hj⟩:=List.getElem?_of_mem hc;have hlt:j<vx.cells.size:=by rw[e1];exact(List.getElem?_eq_some_iff.1 hj).1
            have hu:vx.cells[j]? =some vx.cells[j]:=Array.getElem?_eq_getElem hlt;exact(e3 j c _ hj hu).lone (e2 _ (by rw[Array.mem_toList_iff];exact Array.getElem_mem hlt))
          rw[AV.cells_lone (hxl e he)];rfl
         ·exact h4 e (List.mem_of_mem_drop he)
        ·simp only[List.append_assoc,List.mem_append]at he
         rcases he with he|he|he
         ·exact h6 e (List.mem_of_mem_take he)
         ·exact hxl e he
         ·exact h6 e (List.mem_of_mem_drop he)
        ·have hall:∀e∈es.take i ++x.cells ++es.drop (i+x.cells.length),e.lone=true:=fun e he=>by
           simp only[List.append_assoc,List.mem_append]at he;rcases he with he|he|he
           ·exact h6 rfl e (List.mem_of_mem_take he)
           ·exact hxl e he
           ·exact h6 rfl e (List.mem_of_mem_drop he)
         rw[bK hall,hseg s hi]at hsc;rw[bK (h6 rfl)];simp only[Nat.mul_one,Nat.add_zero];split at hsc
         ·rename_i hlt;exact .inl ⟨hlt,hsc⟩
         ·split at hsc
          ·exact .inr (.inl ⟨by omega,hsc⟩)
          ·exact .inr (.inr ⟨by omega,hsc⟩)
       ·cases ho
     ·cases ho
    ·rename_i hs1
     split at ho
     ·rename_i e he
      have hilt:=(List.getElem?_eq_some_iff.1 he).1
      have hmul:i*sz+sz≤es.length*sz:=by
       have:(i+1)*sz≤es.length*sz:=Nat.mul_le_mul_right sz hilt;rw[Nat.add_mul,Nat.one_mul]at this;exact this
      have hset:∀(y:AV),(∀e∈es,e.cells.length=sz)→y.cells.length=sz→∀(s:Nat)(c:AV),(AV.flat (es.set i y))[s]? =some c→
          ((s<i*sz∨i*sz+sz≤s)∧(AV.flat es)[s]? =some c)∨(i*sz≤s∧s<i*sz+sz∧y.cells[s-i*sz]? =some c):=by
       intro y h4 hy s c hsc
       have hall:∀e∈es.set i y,e.cells.length=sz:=fun e he=>by
        rcases List.mem_or_eq_of_mem_set he with he|rfl
        ·exact h4 e he
        ·exact hy
       obtain⟨i',j,e',rfl,hj,he',hc'⟩:=fw hall hsc;rw[List.getElem?_set]at he';by_cases hii:i=i'
       ·subst hii
        rw[if_pos rfl,if_pos hilt]at he';simp only[Option.some.injEq]at he';subst he';exact .inr ⟨by omega,by omega,by rw[show i*sz+j-i*sz=j from by omega];exact hc'⟩
       ·rw[if_neg hii]at he'
        refine .inl ⟨?_,by rw[AV.flat,bJ _ sz es h4 i' j hj,he',Option.bind_some,hc']⟩;rcases Nat.lt_or_gt_of_ne hii with hlt|hgt
        ·right
         have:(i+1)*sz≤i'*sz:=Nat.mul_le_mul_right sz hlt;rw[Nat.add_mul,Nat.one_mul]at this;omega
        ·left
         have:(i'+1)*sz≤i*sz:=Nat.mul_le_mul_right sz hgt;rw[Nat.add_mul,Nat.one_mul]at this;omega
      have hold:(∀e∈es,e.cells.length=sz)→∀j,j<sz→(AV.flat es)[i*sz+j]? =e.cells[j]? :=fun h4 j hj=>by
       rw[AV.flat,bJ _ sz es h4 i j hj,he,Option.bind_some]
      split at ho
      ·rename_i hc2
       obtain⟨rfl,hxs⟩:=hc2;simp only[Option.some.injEq]at ho;subst ho;refine⟨rfl,rfl,jZ hr ha hx hob hst hcl hkn (by omega) (by simp) (fun h4 e he=> ?_) (fun hz=>absurd hz hs1) (fun h4 _ _ s c hsc=> ?_)⟩
       ·rcases List.mem_or_eq_of_mem_set he with he|rfl
        ·exact h4 e he
        ·exact hxs
       ·rcases hset x h4 hxs s c hsc with ⟨hs,hc'⟩|⟨h7,h8,hc'⟩
        ·rcases hs with hs|hs
         ·exact .inl ⟨by omega,hc'⟩
         ·exact .inr (.inr ⟨by omega,hc'⟩)
        ·exact .inr (.inl ⟨by omega,by simpa using hc'⟩)
      ·split at ho
       ·rename_i hoff
        simp only[Option.some.injEq]at ho;subst ho;refine⟨rfl,rfl,jZ hr ha hx hob hst hcl hkn (by omega) (by simp) (fun h4 e' he'=> ?_) (fun hz=>absurd hz hs1) (fun h4 _ _ s c hsc=> ?_)⟩
        ·rcases List.mem_or_eq_of_mem_set he' with he'|rfl
         ·exact h4 e' he'
         ·rw[gO]
          have:=h4 e (List.mem_of_getElem? he);simp;omega
        ·have hel:=h4 e (List.mem_of_getElem? he)
         have hyl:(iB (e.cells.take off ++x.cells ++e.cells.drop (off+x.cells.length))).cells.length=sz:=by rw[gO];simp;omega
         rcases hset _ h4 hyl s c hsc with ⟨hs,hc'⟩|⟨h7,h8,hc'⟩
         ·rcases hs with hs|hs
          ·exact .inl ⟨by omega,hc'⟩
          ·exact .inr (.inr ⟨by omega,hc'⟩)
         ·rw[gO,nG e.cells x.cells off (s-i*sz) (by omega)]at hc'
          have hs2:s=i*sz+(s-i*sz):=by omega
          split at hc'
          ·refine .inl ⟨by omega, ?_⟩
           rw[hs2,hold h4 _ (by omega)];exact hc'
          ·split at hc'
           ·exact .inr (.inl ⟨by omega,by rw[show s-(i*sz+off)=s-i*sz-off from by omega];exact hc'⟩)
           ·refine .inr (.inr ⟨by omega, ?_⟩)
            rw[hs2,hold h4 _ (by omega)];exact hc'
       ·cases ho
     ·cases ho
   ·cases ho
  ·cases ho
 ·cases ho
end
end Go.Avm
namespace Go.Avm
open Go.RowKit
variable[aJ]
section
variable{P:Program}{G:Gh}{B:Nat}{w0 w:World}{I0:Nat→Nat→Prop}{h:ab}
theorem mz:∀(n:Nat)(parts:List (Nat×AV))(xs:List AV),kL n parts=some xs→xs.length=parts.length∧∀(i:Nat)(p:Nat×AV),parts[i]? =some p→p.1=n+i∧xs[i]? =some p.2
 |n,[],xs,h=>by simp[kL]at h;subst h;simp
 |n,(i,x)::r,xs,h=>by
  simp only[kL]at h;split at h
  ·rename_i hi
   subst hi;simp only[Option.map_eq_some_iff]at h;obtain⟨ys,hy,rfl⟩:=h;obtain⟨hl,hh⟩:=mz (i+1) r ys hy;refine⟨by simp[hl],fun j p hp=> ?_⟩;cases j with
   |zero=>simp only[List.getElem?_cons_zero,Option.some.injEq]at hp;subst hp;simp
   |succ j=>
    simp only[List.getElem?_cons_succ]at hp;obtain⟨h1,h2⟩:=hh j p hp;exact⟨by omega,by simpa using h2⟩
  ·cases h
theorem xA(sz:Nat):∀(qs:List (Nat×Value))(n:Nat)(cs:Array Value),(∀(i:Nat)(q:Nat×Value),qs[i]? =some q→q.1=n+i∧q.2.cells.size=sz)→n*sz+qs.length*sz≤cs.size→
    ∃cs':Array Value,Instr.fill (fun i=>some (i*sz,sz)) cs qs=some cs'∧cs'.toList=cs.toList.take (n*sz) ++qs.flatMap (fun q=>q.2.cells.toList) ++cs.toList.drop (n*sz+qs.length*sz)
 |[],n,cs,_,_=>⟨cs,rfl,by simp⟩
 |(i,v)::r,n,cs,hq,hle=>by
  obtain⟨hi,hv⟩:=hq 0 (i,v) rfl;simp only[Nat.add_zero]at hi hv;subst hi;have hle':i*sz+(r.length+1)*sz≤cs.size:=by simpa using hle
  rw[Nat.add_mul,Nat.one_mul]at hle';have hseq:=vU v.cells.toList cs (i*sz) 0 (by simp;omega)
  have hfold:(v.cells.zipIdx.foldl (fun (cs:Array Value) p=>cs.setIfInBounds (i*sz+p.2) p.1) cs).toList=cs.toList.take (i*sz) ++v.cells.toList ++cs.toList.drop (i*sz+v.cells.size):=by
   rw[←Array.foldl_toList];simpa using hseq
  have hsz:(v.cells.zipIdx.foldl (fun (cs:Array Value) p=>cs.setIfInBounds (i*sz+p.2) p.1) cs).size=cs.size:=by
   rw[←Array.length_toList,hfold];simp;omega
  obtain⟨cs',h1,h2⟩:=xA sz r (i+1) (v.cells.zipIdx.foldl (fun (cs:Array Value) p=>cs.setIfInBounds (i*sz+p.2) p.1) cs) (fun j q hj=>by
   obtain⟨e1,e2⟩:=hq (j+1) q (by simpa using hj);exact⟨by omega,e2⟩) (by rw[hsz,Nat.add_mul,Nat.one_mul];omega)
  refine⟨cs', ?_, ?_⟩
  ·simp only[Instr.fill]
   rw[if_neg (by simp[hv];omega)];exact h1
  ·rw[h2,hfold]
   have e1:(i+1)*sz=i*sz+sz:=by rw[Nat.add_mul,Nat.one_mul]
   have e2:((i,v)::r).length*sz=r.length*sz+sz:=by simp[Nat.add_mul]
   have e3:(cs.toList.take (i*sz) ++v.cells.toList).length=i*sz+sz:=by simp[hv];omega
   rw[e1,e2,List.take_left' e3,List.drop_append,e3,List.drop_eq_nil_of_le (by rw[e3];omega)];simp only[List.flatMap_cons,List.nil_append,List.drop_drop,List.append_assoc];congr 4;rw[hv];omega
theorem CH{xs:List AV}{vs:List Value}{sz:Nat}(hl:vs.length=xs.length)(hx:∀(i:Nat)(x:AV)(v:Value),xs[i]? =some x→vs[i]? =some v→Rep G w x v)(hs:∀x∈xs,x.stor=true∧x.cells.length=sz):
    (∀(i:Nat)(v:Value),vs[i]? =some v→v.cells.size=sz)∧∀(t:Nat)(c:AV),(AV.flat xs)[t]? =some c→∃u,(vs.flatMap fun v=>v.cells.toList)[t]? =some u∧u.oneCell'=true∧Rep G w c u:=by
 have hvs:∀(i:Nat)(v:Value),vs[i]? =some v→v.cells.size=sz:=by
  intro i v hv;have hlt:i<xs.length:=by rw[←hl];exact(List.getElem?_eq_some_iff.1 hv).1
  have hxi:xs[i]? =some xs[i]:=List.getElem?_eq_getElem hlt;obtain⟨h1,h2⟩:=hs xs[i] (List.getElem_mem hlt);rw[((hx i _ v hxi hv).cells h1).1,h2]
 refine⟨hvs,fun t c ht=> ?_⟩;obtain⟨i,j,e,rfl,hj,he,hc⟩:=fw (fun x hx'=>(hs x hx').2) ht;have hlt:i<vs.length:=by rw[hl];exact(List.getElem?_eq_some_iff.1 he).1
 have hv:vs[i]? =some vs[i]:=List.getElem?_eq_getElem hlt;obtain⟨h1,h2⟩:=hs e (List.mem_of_getElem? he);obtain⟨e1,e2,e3⟩:=(hx i e _ he hv).cells h1;have hjl:j<vs[i].cells.size:=by rw[e1,h2];exact hj
 have hu:vs[i].cells[j]? =some vs[i].cells[j]:=Array.getElem?_eq_getElem hjl;refine⟨_, ?_,e2 _ (by rw[Array.mem_toList_iff];exact Array.getElem_mem hjl),e3 j c _ hc hu⟩
 rw[bJ (fun v:Value=>v.cells.toList) sz vs (fun v hv'=>by
  obtain⟨i',hi'⟩:=List.getElem?_of_mem hv';simpa using hvs i' v hi') i j hj,hv,Option.bind_some]
 simp
theorem mU(hr:HR G B w0 I0 h w){obm:Bool}{t:TypeId}{len:Nat}{parts:List (Nat×AV)}{vparts:Array (Nat×Value)}{k:Nat}{out:Out}(ho:eG P obm t len parts k h=some out)
    (hl:vparts.size=parts.length) (hp:∀(i:Nat)(p:Nat×AV)(q:Nat×Value),parts[i]? =some p→vparts[i]? =some q→p.1=q.1∧Rep G w p.2 q.2):
    out.ob=[]∧∃v w' G',(Instr.buildSlice t len vparts).run P w= .ok v w'∧Ext G w G' w'∧HR G' B w0 I0 (aq h out.wr) w'∧Rep G' w' out.val v:=by
 unfold eG at ho;split at ho
 ·rename_i e hu
  split at ho
  ·rename_i xs hxs
   split at ho
   ·rename_i hc
    obtain⟨hlen,hsmall,hz,hall⟩:=hc;obtain⟨z,hz⟩:=Option.isSome_iff_exists.1 hz;obtain⟨hpl,hpi⟩:=mz 0 parts xs hxs
    have hall':∀x∈xs,x.stor=true∧x.cells.length=P.cellsOf e:=fun x hx=>by
     have:=List.all_eq_true.1 hall x hx;simpa using this
    have hvals:=CH (G:=G) (w:=w) (xs:=xs) (vs:=vparts.toList.map (·.2)) (sz:=P.cellsOf e) (by simp[hl,hpl]) (fun i x v hx hv=>by
     simp only[List.getElem?_map,Option.map_eq_some_iff]at hv;obtain⟨q,hq,rfl⟩:=hv;have hlt:i<parts.length:=by rw[←hpl];exact(List.getElem?_eq_some_iff.1 hx).1
     have hpe:parts[i]? =some parts[i]:=List.getElem?_eq_getElem hlt;obtain⟨_,h2⟩:=hpi i _ hpe;rw[hx]at h2;simp only[Option.some.injEq]at h2;subst h2;exact(hp i _ q hpe (by simpa using hq)).2) hall'
    obtain⟨hv1,hv2⟩:=hvals
    have hrow:∀cs:Array Value,cs.size=len*P.cellsOf e→∃cs':Array Value,Instr.fill (fun i=>some (i*P.cellsOf e,P.cellsOf e)) cs vparts.toList=some cs'∧cs'.toList=(vparts.toList.map (·.2)).flatMap fun v=>v.cells.toList:=by
     intro cs hcs;have hvl:vparts.toList.length=len:=by simp[hl,←hpl,hlen]
     obtain⟨cs',h1,h2⟩:=xA (P.cellsOf e) vparts.toList 0 cs (fun i q hq=>by
      have hlt:i<parts.length:=by rw[←hl,←Array.length_toList];exact(List.getElem?_eq_some_iff.1 hq).1
      have hpe:parts[i]? =some parts[i]:=List.getElem?_eq_getElem hlt;refine⟨?_,hv1 i q.2 (by simp[hq])⟩;rw[←(hp i _ q hpe (by simpa using hq)).1,(hpi i _ hpe).1]) (by rw[hvl,hcs];omega)
     refine⟨cs',h1, ?_⟩;rw[h2,hvl];simp[hcs,List.flatMap_map]
    have hkn:∀w,(sizeOf e).run P w= .ok (P.cellsOf e) w:=by
     intro w;unfold eg at hz;cases hi:P.info? e with
     |none=>simp[hi]at hz
     |some i=>simp[sizeOf,typeInfo,hi,Program.cellsOf]
    have hrun:∃cs':Array Value,(Instr.buildSlice t len vparts).run P w= .ok (.slice (some ⟨w.heap.size,0,none⟩) len len) (w.alloc (.cells cs' e))∧cs'.toList=(vparts.toList.map (·.2)).flatMap fun v=>v.cells.toList:=by
     have hsm:¬(len*P.cellsOf e>2^24):=by omega
     by_cases h0:len*P.cellsOf e=0
     ·obtain⟨cs',h1,h2⟩:=hrow #[] (by simp[h0])
      refine⟨cs', ?_,h2⟩;have h9:Array.map (fun _:Nat=>(default:Value)) (Array.range 0)= #[]:=by simp
      simp[Instr.buildSlice,run_underlying hu,hkn,h0,h9,h1,newRow]
     ·obtain⟨cs',h1,h2⟩:=hrow ((Array.range (len*P.cellsOf e)).map (fun i=>z.cells[i % z.cells.size]!)) (by simp)
      refine⟨cs', ?_,h2⟩;simp only[Instr.buildSlice,Sem.run_bind,run_underlying hu,hkn,Result.andThen_ok,if_neg hsm,h0,if_false,cO hz,Sem.run_pure,Sem.run_ite,pure_bind];simp[h1,newRow]
    obtain⟨cs',hrun,hcs⟩:=hrun
    have hcsz:cs'.size=len*P.cellsOf e:=by
     rw[←Array.length_toList,hcs,dH (fun v:Value=>v.cells.toList) (P.cellsOf e) _ (fun v hv'=>by
      obtain⟨i',hi'⟩:=List.getElem?_of_mem hv';simpa using hv1 i' v hi')]
     simp[hl,←hpl,hlen]
    have hcell:∀(t:Nat)(c:AV),(AV.flat xs)[t]? =some c→∃u:Value,cs'[t]? =some u∧u.oneCell'=true∧Rep G w c u:=fun t c ht=>by
     obtain⟨u,hu,h1,h2⟩:=hv2 t c ht;exact⟨u,by rw[←Array.getElem?_toList,hcs];exact hu,h1,h2⟩
    split at ho
    ·split at ho
     ·cases ho
     ·rename_i hlo
      simp only[Option.some.injEq]at ho;subst ho
      obtain⟨g1,g2⟩:=hr.newOb k (P.cellsOf e) len xs cs' e hcsz (by omega) (fun x hx=>(hall' x hx).2) (fun h1 x hx=>by
       cases hxa:xs.all AV.lone with
       |true=>exact List.all_eq_true.1 hxa x hx
       |false=>exact absurd ⟨h1,hxa⟩ hlo) hcell
      refine⟨rfl,_,_,_,hrun,g2,g1, ?_⟩;have:=Rep.sl (w:=w.alloc (.cells cs' e)) k ((h k).ver+1) 0 len len _ (Gh.at_same G k ((h k).ver+1) ⟨w.heap.size,P.cellsOf e,len,0,e⟩) (by simp) (Nat.le_refl _);simpa using this
    ·split at ho
     ·rename_i r hview
      split at ho
      ·cases ho
      ·rename_i hk
       simp only[Option.some.injEq]at ho;subst ho;obtain⟨ys,ks⟩:=r;simp only at hk;have hr1:=hr.kill ks;have hex1:=Ext.froz hr ks;have hgs:=jc hview
       have hys:∀(i:Nat)(y:D),ys[i]? =some y→∃x v,xs[i]? =some x∧(vparts.toList.map (·.2))[i]? =some v∧DRep (dn G h ks) w y v:=by
        intro i y hy;have hlt:i<xs.length:=by rw[←hgs.1];exact(List.getElem?_eq_some_iff.1 hy).1
        obtain⟨y',k',hy',hvw,hk'⟩:=hgs.2 i xs[i] (List.getElem?_eq_getElem hlt);rw[hy]at hy';simp only[Option.some.injEq]at hy';subst hy';have hltp:i<parts.length:=by rw[←hpl];exact hlt
        have hpe:parts[i]? =some parts[i]:=List.getElem?_eq_getElem hltp;have hltq:i<vparts.size:=by rw[hl];exact hltp
        have hqe:vparts[i]? =some vparts[i]:=Array.getElem?_eq_getElem hltq;have hx2:=(hpi i _ hpe).2;rw[List.getElem?_eq_getElem hlt]at hx2;simp only[Option.some.injEq]at hx2;refine⟨xs[i],vparts[i].2,List.getElem?_eq_getElem hlt,by simp[hqe], ?_⟩;have hrp:=(hp i _ _ hpe hqe).2;rw[←hx2]at hrp;exact(dT hr 3 _ _ _ _ hvw hrp).mono (ik hk') (fun _ _ _=>rfl)
       have hyc:∀y∈ys,y.cells.length=P.cellsOf e:=by
        intro y hy;obtain⟨i,hi⟩:=List.getElem?_of_mem hy;obtain⟨x,v,hx,hv,hd⟩:=hys i y hi;rw[hd.cells.1,hv1 i v hv]
       have hnew:=hr1.newVec k (P.cellsOf e) len ys cs' e hcsz (by rw[hgs.1];omega) hyc (fun t c ht=>by
        obtain⟨i,j,y,rfl,hj,hy,hc⟩:=fw hyc ht;obtain⟨x,v,hx,hv,hd⟩:=hys i y hy;obtain⟨d1,d2,d3⟩:=hd.cells;have hjl:j<v.cells.size:=by rw[hv1 i v hv];exact hj
        have hu':v.cells[j]? =some v.cells[j]:=Array.getElem?_eq_getElem hjl;refine⟨_, ?_,d2 c (List.mem_of_getElem? hc),d3 j c _ hc hu'⟩
        rw[←Array.getElem?_toList,hcs,bJ (fun v:Value=>v.cells.toList) (P.cellsOf e) _ (fun v hv'=>by
         obtain⟨i',hi'⟩:=List.getElem?_of_mem hv';simpa using hv1 i' v hi') i j hj,hv,Option.bind_some]
        simp)
       obtain⟨G',g1,g2,g3⟩:=hnew;have hheap:aq h (kill h ks) k=h k:=by rw[bz,if_neg hk]
       rw[hheap]at g1 g3;refine⟨rfl,_,_,G',hrun,hex1.trans g2, ?_, ?_⟩
       ·have:aq h ((k,⟨(h k).ver+1,none⟩)::kill h ks)=aM (aq h (kill h ks)) k ⟨(h k).ver+1,none⟩:=by
          funext s;simp only[aq];rw[bz];by_cases hsk:s=k
          ·subst hsk;simp[hk,aM]
          ·rw[am _ _ hsk,am _ _ hsk,bz]
        rw[this];exact g1
       ·have hyl:ys.length=len:=by rw[hgs.1,hlen]
        rw[hyl]at g3;exact g3
     ·cases ho
   ·cases ho
  ·cases ho
 ·cases ho
theorem nH(hr:HR G B w0 I0 h w){t:TypeId}{x ix:AV}{vx vi:Value}(hx:Rep G w x vx)(hi:Rep G w ix vi){out:Out}(ho:fJ P t x ix h=some out):
    out.ob=[]∧out.wr=[]∧∃v,(Instr.indexAt t vx vi).run P w= .ok v w∧Rep G w out.val v:=by
 unfold fJ at ho;split at ho
 ·rename_i e kd i hu
  cases hi with
  |d hid=>
   cases hid
   have slc:∀(l:List D),DRep G.imm w (.ro l) vx→(if 0≤i then match l[i.toNat]? with
       |some y=>if y.cells.length=P.cellsOf e∧cA P e=true then some ({val:= .d (.rp y.cells)}:Out)else none
       |none=>none else none)=some out→out.ob=[]∧out.wr=[]∧∃v,(Instr.indexAt t vx (.int kd i)).run P w= .ok v w∧Rep G w out.val v:=by
    intro l hd hh;split at hh
    ·rename_i h0
     split at hh
     ·rename_i y hy
      split at hh
      ·rename_i hc
       obtain⟨hcl,hkn⟩:=hc;simp only[Option.some.injEq]at hh;subst hh;have hlt:=(List.getElem?_eq_some_iff.1 hy).1;cases hd with
       |roNil=>simp at hlt
       |ro _ b o c sz U hcap hsz h1 hi hc hr'=>
        have hsze:=hsz y (List.mem_of_getElem? hy);have hse:sz=P.cellsOf e:=by rw[←hsze,hcl]
        refine⟨rfl,rfl, .pointer (some ⟨b,o+i.toNat*sz,none⟩), ?_, .d (.rp y.cells b (o+i.toNat*sz) (fun j=>U (i.toNat*sz+j)) (fun c hc'=> ?_) ?_ ?_ ?_)⟩
        ·have hilt:i<(l.length:Int):=by omega
         simp[Instr.indexAt,asIntOf,run_underlying hu,h0,hilt,bH hkn,ei,hse]
        ·exact h1 c (List.mem_flatMap.2 ⟨y,List.mem_of_getElem? hy,hc'⟩)
        all_goals
         intro j c hj;have hjl:j<sz:=by rw[←hsze];exact(List.getElem?_eq_some_iff.1 hj).1
         have hfl:(D.flat l)[i.toNat*sz+j]? =some c:=by rw[D.flat,bJ _ sz l hsz _ j hjl,hy,Option.bind_some,hj]
        ·have:=hi _ c hfl;rwa [←Nat.add_assoc]at this
        ·have:=hc _ c hfl;rwa [←Nat.add_assoc]at this
        ·exact hr' _ c hfl
      ·cases hh
     ·cases hh
    ·cases hh
   split at ho
   ·exact slc _ hx.toDRep ho
   ·rename_i k ver sz l
    refine slc l ?_ ho;cases hx with
    |vecNil=>exact .roNil _ _
    |vec _ _ _ L hL hfr hlen hsz hd=>exact hd
   ·rename_i k v off len sz
    split at ho
    ·rename_i hc
     obtain⟨hse,hkn,h0,hilt⟩:=hc;simp only[Option.some.injEq]at ho;subst ho;cases hx with
     |slNil=>omega
     |sl _ _ _ _ c L hL hcap hlc=>
      refine⟨rfl,rfl, .pointer (some ⟨L.b,(off+i.toNat)*L.sz+0,none⟩), ?_, .ptr k _ _ 0 L hL⟩;have hilt':i<(len:Int):=by omega
      have:off*L.sz+i.toNat*P.cellsOf e=(off+i.toNat)*L.sz:=by rw[Nat.add_mul,hse]
      simp[Instr.indexAt,asIntOf,run_underlying hu,h0,hilt',bH hkn,ei,this]
    ·cases ho
   ·cases ho
 ·rename_i n e kd i hu
  cases hi with
  |d hid=>
   cases hid;split at ho
   ·rename_i k v j off sz
    split at ho
    ·rename_i hc
     obtain⟨hes,rfl,hkn,h0,hilt⟩:=hc;simp only[Option.some.injEq]at ho;subst ho;cases hx with
     |ptr _ _ _ _ L hL=>
      have hilt':i<(n:Int):=by omega
      refine⟨rfl,rfl, .pointer (some ⟨L.b,(j+i.toNat*P.cellsOf e)*L.sz+0,none⟩), ?_, .ptr k _ _ 0 L hL⟩;have:j*L.sz+i.toNat*P.cellsOf e=(j+i.toNat*P.cellsOf e)*L.sz:=by rw[hes];omega
      simp[Instr.indexAt,asIntOf,Instr.sureAddr,run_underlying hu,h0,hilt',bH hkn,ei,this]
    ·cases ho
   ·rename_i cs
    split at ho
    ·rename_i hc
     obtain⟨hkn,h0,hilt⟩:=hc;simp only[Option.some.injEq]at ho;subst ho;cases hx with
     |d hd=>
      cases hd with
      |rp _ b o U h1 hi hc hr'=>
       have hilt':i<(n:Int):=by omega
       refine⟨rfl,rfl, .pointer (some ⟨b,o+i.toNat*P.cellsOf e,none⟩), ?_, .d (.rp _ b _ (fun s=>U (i.toNat*P.cellsOf e+s)) (fun c hc'=>h1 c (List.mem_of_mem_drop hc')) ?_ ?_ ?_)⟩
       ·simp[Instr.indexAt,asIntOf,Instr.sureAddr,run_underlying hu,h0,hilt',bH hkn,ei]
       all_goals
        intro s c hs;rw[List.getElem?_drop]at hs
       ·have:=hi _ c hs;rwa [←Nat.add_assoc]at this
       ·have:=hc _ c hs;rwa [←Nat.add_assoc]at this
       ·exact hr' _ c hs
    ·cases ho
   ·cases ho
 ·cases ho
end
end Go.Avm
namespace Go.Avm
open Go.RowKit
variable[aJ]
section
variable{P:Program}{G:Gh}{B:Nat}{w0 w:World}{I0:Nat→Nat→Prop}{h:ab}
theorem nI{t:TypeId}{f fo fs:Nat}(hp:ij P t f=some (fo,fs)):∃(fields:Array Field)(fd:Field),fieldsOf P t=some fields∧P.underlying t=some (.struct fields)∧fields[f]? =some fd∧fd.offset=fo∧P.cellsOf fd.type=fs:=by
 simp only[ij,Option.bind_eq_some_iff,Option.map_eq_some_iff,Prod.mk.injEq]at hp;obtain⟨fields,hf,fd,hfd,h1,h2⟩:=hp;exact⟨fields,fd,hf,nF hf,hfd,h1,h2⟩
theorem rM{t:TypeId}{fields:Array Field}(ho:kK P t=true)(hf:fieldsOf P t=some fields){f:Nat}{fd:Field}(hfd:fields[f]? =some fd):cA P fd.type=true:=by
 unfold kK at ho;rw[hf]at ho;exact List.all_eq_true.1 ho fd (by rw[Array.mem_toList_iff];exact Array.mem_of_getElem? hfd)
theorem nJ(hr:HR G B w0 I0 h w){t:TypeId}{x:AV}{vx:Value}(hx:Rep G w x vx){f:Nat}{out:Out}(ho:kM P t x f h=some out):
    out.ob=[]∧out.wr=[]∧∃v,(Instr.fieldAt t vx f).run P w= .ok v w∧Rep G w out.val v:=by
 unfold kM at ho;split at ho
 ·rename_i fo fs hp hok
  obtain⟨fields,fd,hf,hu,hfd,h1,h2⟩:=nI hp;have hkn:=rM hok hf hfd;split at ho
  ·cases ho
  ·rename_i hfs
   have hrun:∀(b o:Nat),vx= .pointer (some ⟨b,o,none⟩)→(Instr.fieldAt t vx f).run P w= .ok (.pointer (some ⟨b,o+fo,none⟩)) w:=by
    rintro b o rfl;simp[Instr.fieldAt,run_underlying hu,hfd,Instr.sureAddr,fieldPlace,bH hkn,h2,hfs,ei,h1]
   split at ho
   ·rename_i cs
    simp only[Option.some.injEq]at ho;subst ho;cases hx with
    |d hd=>
     cases hd with
     |rp _ b o U h1 hi hc hr'=>
      refine⟨rfl,rfl,_,hrun b o rfl, .d (.rp _ b _ (fun s=>U (fo+s)) (fun c hc'=>h1 c (List.mem_of_mem_drop hc')) ?_ ?_ ?_)⟩
      all_goals
       intro s c hs;rw[List.getElem?_drop]at hs
      ·have:=hi _ c hs;rwa [←Nat.add_assoc]at this
      ·have:=hc _ c hs;rwa [←Nat.add_assoc]at this
      ·exact hr' _ c hs
   ·rename_i k v i off sz
    cases hx with
    |ptr _ _ _ _ L hL=>
     split at ho
     ·rename_i hs1
      split at ho
      ·rename_i hc
       subst hc;simp only[Option.some.injEq]at ho;subst ho;refine⟨rfl,rfl,_,hrun L.b _ rfl, ?_⟩;have:=Rep.ptr (w:=w) k v (i+fo) 0 L hL;rw[hs1]at this ⊢;simpa [Nat.add_assoc]using this
      ·cases ho
     ·simp only[Option.some.injEq]at ho
      subst ho;refine⟨rfl,rfl,_,hrun L.b _ rfl, ?_⟩;have:=Rep.ptr (w:=w) k v i (off+fo) L hL;rwa [←Nat.add_assoc]at this
   ·cases ho
 ·cases ho
theorem xB{t:TypeId}(ha:ml P t=some true)(cs:Array Value)(o:Nat)(w:World):(part t cs o).run P w= .ok (.agg (cs.extract o (o+P.cellsOf t))) w:=by
 obtain⟨d,hd⟩:=xy ha;simp[part,jX ha,pQ hd]
theorem iE{t:TypeId}(ha:ml P t=some false)(cs:Array Value)(o:Nat)(v:Value)(hv:cs[o]? =some v)(w:World):(part t cs o).run P w= .ok v w:=by
 simp[part,jX ha,hv]
theorem uc{t:TypeId}{x:AV}{vx:Value}(hx:Rep G w x vx){f:Nat}{out:Out}(ho:vQ P t x f=some out):
    out.ob=[]∧out.wr=[]∧∃v,(Instr.field t vx f).run P w= .ok v w∧Rep G w out.val v:=by
 have fa:∀{fo fs:Nat}{b:Bool},ij P t f=some (fo,fs)→rD P t f=some b→∃(fields:Array Field)(fd:Field),P.underlying t=some (.struct fields)∧fields[f]? =some fd∧fd.offset=fo∧P.cellsOf fd.type=fs∧ml P fd.type=some b:=by
  intro fo fs b hp ha;obtain⟨fields,fd,hf,hu,hfd,h1,h2⟩:=nI hp;simp only[rD,hf,Option.bind_some,hfd]at ha;exact⟨fields,fd,hu,hfd,h1,h2,ha⟩
 have ext:∀(vs:Array Value)(o n i:Nat),(vs.extract o (o+n))[i]? =if i<n then vs[o+i]? else none:=by
  intro vs o n i;rw[Array.getElem?_extract];by_cases h1:i<n
  ·by_cases h2:o+i<vs.size
   ·rw[if_pos (by omega),if_pos h1]
   ·rw[if_neg (by omega),if_pos h1,Array.getElem?_eq_none (by omega)]
  ·rw[if_neg (by omega),if_neg h1]
 unfold vQ at ho;split at ho
 ·rename_i fo fs cs hp ha
  obtain⟨fields,fd,hu,hfd,h1,h2,h3⟩:=fa hp ha;split at ho
  ·rename_i hle
   simp only[Option.some.injEq]at ho;subst ho;cases hx with
   |d hd=>
    cases hd with
    |agg _ vs hl ho1 hr'=>
     refine⟨rfl,rfl, .agg (vs.extract fo (fo+fs)),by simp[Instr.field,run_underlying hu,hfd,asAgg,xB h3,h1,h2], .d (.agg _ _ (by simp;omega) (fun c hc=>ho1 c (List.mem_of_mem_drop (List.mem_of_mem_take hc))) (fun i c u hc hu'=> ?_))⟩;rw[List.getElem?_take]at hc;rw[ext]at hu';split at hc
     ·rename_i hi
      rw[if_pos hi]at hu';rw[List.getElem?_drop]at hc;exact hr' _ c u hc hu'
     ·cases hc
  ·cases ho
 ·rename_i fo fs cs hp ha
  obtain⟨fields,fd,hu,hfd,h1,h2,h3⟩:=fa hp ha;simp only[Option.map_eq_some_iff]at ho;obtain⟨c,hc,rfl⟩:=ho;cases hx with
  |d hd=>
   cases hd with
   |agg _ vs hl ho1 hr'=>
    have hlt:fo<vs.size:=by rw[hl];exact(List.getElem?_eq_some_iff.1 hc).1
    have hv:vs[fo]? =some vs[fo]:=Array.getElem?_eq_getElem hlt;exact⟨rfl,rfl,_,by simp[Instr.field,run_underlying hu,hfd,asAgg,iE h3 vs fd.offset _ (by rw[h1];exact hv)], .d (hr' fo c _ hc hv)⟩
 ·rename_i fo fs cs hp ha
  obtain⟨fields,fd,hu,hfd,h1,h2,h3⟩:=fa hp ha;split at ho
  ·rename_i hle
   simp only[Option.some.injEq]at ho;subst ho;cases hx with
   |agg _ vs hl ho1 hr'=>
    refine⟨rfl,rfl, .agg (vs.extract fo (fo+fs)),by simp[Instr.field,run_underlying hu,hfd,asAgg,xB h3,h1,h2],jD (by simp;omega) (fun i u hu'=> ?_) (fun i c u hc hu'=> ?_)⟩
    ·rw[ext]at hu'
     split at hu'
     ·exact ho1 _ u hu'
     ·cases hu'
    ·rw[List.getElem?_take]at hc
     rw[ext]at hu';split at hc
     ·rename_i hi
      rw[if_pos hi]at hu';rw[List.getElem?_drop]at hc;exact hr' _ c u hc hu'
     ·cases hc
  ·cases ho
 ·rename_i fo fs cs hp ha
  obtain⟨fields,fd,hu,hfd,h1,h2,h3⟩:=fa hp ha;simp only[Option.map_eq_some_iff]at ho;obtain⟨c,hc,rfl⟩:=ho;cases hx with
  |agg _ vs hl ho1 hr'=>
   have hlt:fo<vs.size:=by rw[hl];exact(List.getElem?_eq_some_iff.1 hc).1
   have hv:vs[fo]? =some vs[fo]:=Array.getElem?_eq_getElem hlt;exact⟨rfl,rfl,_,by simp[Instr.field,run_underlying hu,hfd,asAgg,iE h3 vs fd.offset _ (by rw[h1];exact hv)],hr' fo c _ hc hv⟩
 ·cases ho
theorem xC{op:BinOp}{x y r:AV}{vx vy:Value}{t:TypeId}(hx:Rep G w x vx)(hy:Rep G w y vy)(ho:Bg op x y=some r):
    ∃v,(∀ox oy,(eqGuard op t ox oy vx vy).run P w= .ok () w)∧(binOp op t vx vy).run P w= .ok v w∧Rep G w r v:=by
 unfold Bg at ho;split at ho
 ·rename_i k a k' b
  cases hx with
  |d hx=>
   cases hx;cases hy with
   |d hy=>
    cases hy
    have hg:∀ox oy,(eqGuard op t ox oy (.int k a) (.int k' b)).run P w= .ok () w:=by
     intro ox oy;cases op<;>simp[eqGuard]
    split at ho
    ·split at ho
     ·rename_i hb
      simp only[Option.some.injEq]at ho;subst ho;exact⟨_,hg,by simp[binOp,Op.shift,Int.not_lt.2 hb], .d (.int _ _)⟩
     ·cases ho
    ·split at ho
     ·rename_i hb
      simp only[Option.some.injEq]at ho;subst ho;exact⟨_,hg,by simp[binOp,Op.shift,Int.not_lt.2 hb], .d (.int _ _)⟩
     ·cases ho
    ·rename_i hn1 hn2
     split at ho
     ·rename_i hk
      subst hk;split at ho
      ·simp only[Option.some.injEq]at ho;subst ho;exact⟨_,hg,by simp[binOp,Op.intArith], .d (.int _ _)⟩
      ·simp only[Option.some.injEq]at ho;subst ho;exact⟨_,hg,by simp[binOp,Op.intArith], .d (.int _ _)⟩
      ·simp only[Option.some.injEq]at ho;subst ho;exact⟨_,hg,by simp[binOp,Op.intArith], .d (.int _ _)⟩
      ·split at ho
       ·cases ho
       ·rename_i hb0
        simp only[Option.some.injEq]at ho;subst ho;exact⟨_,hg,by simp[binOp,Op.intDiv,hb0], .d (.int _ _)⟩
      ·split at ho
       ·cases ho
       ·rename_i hb0
        simp only[Option.some.injEq]at ho;subst ho;exact⟨_,hg,by simp[binOp,Op.intDiv,hb0], .d (.int _ _)⟩
      ·simp only[Option.some.injEq]at ho;subst ho;exact⟨_,hg,by simp only[binOp,Op.intBits,ne_eq,not_true_eq_false,if_false,Sem.run_pure], .d (.int _ _)⟩
      ·simp only[Option.some.injEq]at ho;subst ho;exact⟨_,hg,by simp only[binOp,Op.intBits,ne_eq,not_true_eq_false,if_false,Sem.run_pure], .d (.int _ _)⟩
      ·simp only[Option.some.injEq]at ho;subst ho;exact⟨_,hg,by simp only[binOp,Op.intBits,ne_eq,not_true_eq_false,if_false,Sem.run_pure], .d (.int _ _)⟩
      ·simp only[Option.some.injEq]at ho;subst ho;exact⟨_,hg,by simp[binOp,Op.intCmp], .d (.bool _)⟩
      ·simp only[Option.some.injEq]at ho;subst ho;exact⟨_,hg,by simp[binOp,Op.intCmp], .d (.bool _)⟩
      ·simp only[Option.some.injEq]at ho;subst ho;exact⟨_,hg,by simp[binOp,Op.intCmp], .d (.bool _)⟩
      ·simp only[Option.some.injEq]at ho;subst ho;exact⟨_,hg,by simp[binOp,Op.intCmp], .d (.bool _)⟩
      ·simp only[Option.some.injEq]at ho;subst ho;exact⟨_,hg,by simp[binOp,Op.intCmp], .d (.bool _)⟩
      ·simp only[Option.some.injEq]at ho;subst ho;exact⟨_,hg,by simp[binOp,Op.intCmp], .d (.bool _)⟩
      ·cases ho
     ·cases ho
 ·rename_i a b
  cases hx with
  |d hx=>
   cases hx with
   |str _ sa ha=>
   cases hy with
   |d hy=>
    cases hy with
    |str _ sb hb=>
    subst ha;subst hb
    have hg:∀ox oy,(eqGuard op t ox oy (.string sa) (.string sb)).run P w= .ok () w:=by
     intro ox oy;cases op<;>simp[eqGuard]
    split at ho
    ·split at ho
     ·rename_i hle
      simp only[Option.some.injEq]at ho;subst ho
      have hle':¬(((sa.size+sb.size:Nat):Int)>IntKind.i64.max):=by
       have h1:sa.data.toList.length=sa.size:=by simp
       have h2:sb.data.toList.length=sb.size:=by simp
       rw[h1,h2]at hle;have:IntKind.i64.max=9223372036854775807:=by decide
       rw[this];omega
      exact⟨.string (sa ++sb),hg,by simp only[binOp,Op.stringOp,if_neg hle',Sem.run_pure], .d (.str _ _ (by simp))⟩
     ·cases ho
    all_goals first
     |(simp only[Option.some.injEq]at ho;subst ho;exact⟨_,hg,by simp[binOp,Op.stringOp,vM], .d (.bool _)⟩)
     |cases ho
 ·cases ho
theorem pS{I:Nat→Nat→Prop}{t:TypeId}{x y:D}{b:Bool}{u v:Value}(d:Nat)(hx:DRep I w x u)(hy:DRep I w y v)(ho:xx P t x y=some b):(Op.equalIn (d+1) t u v).run P w= .ok b w:=by
 unfold xx at ho;split at ho
 ·rename_i hu
  split at ho
  ·rename_i hk
   subst hk;cases ho;cases hx;cases hy;exact run_equalIn_int w d t _ _ _ _ hu
  ·cases ho
 ·rename_i hu
  cases ho;cases hx;cases hy;exact run_equalIn_bool w d t _ _ hu
 ·rename_i hu
  cases ho;cases hx with
  |str _ s hs=>
  cases hy with
  |str _ s' hs'=>
  rw[run_equalIn_string w d t _ _ hu,ByteArray.toList_eq,ByteArray.toList_eq,hs,hs']
 ·cases ho
theorem gZ{I:Nat→Nat→Prop}(d:Nat)(vs us:Array Value):∀(fs:List Field)(i:Nat)(xs ys:List D)(b:Bool),cY P fs i xs ys=some b→
    (∀(j:Nat)(x:D),xs[j]? =some x→∃u,vs[i+j]? =some u∧DRep I w x u)→(∀(j:Nat)(x:D),ys[j]? =some x→∃u,us[i+j]? =some u∧DRep I w x u)→(Op.eqFields (d+1) vs us fs).run P w= .ok b w
 |[],i,[],[],b,ho,_,_=>by
  simp only[cY,Option.some.injEq]at ho;subst ho;simp[Op.eqFields]
 |[],i,x::xs,ys,b,ho,_,_=>by simp[cY]at ho
 |[],i,[],y::ys,b,ho,_,_=>by simp[cY]at ho
 |f::fs,i,[],ys,b,ho,_,_=>by simp[cY]at ho
 |f::fs,i,x::xs,[],b,ho,_,_=>by simp[cY]at ho
 |f::fs,i,x::xs,y::ys,b,ho,h1,h2=>by
  rw[cY]at ho;split at ho;case isFalse=>cases ho
  rename_i hc;split at ho;case h_2=>cases ho
  rename_i a b' ha hb;cases ho;obtain⟨u,hu,hru⟩:=h1 0 x rfl;obtain⟨v,hv,hrv⟩:=h2 0 y rfl;rw[Nat.add_zero]at hu hv;have he:=pS d hru hrv ha
  have ih:=gZ d vs us fs (i+1) xs ys b' hb (fun j x hj=>by
   have:=h1 (j+1) x hj;rwa [show i+(j+1)=i+1+j by omega]at this) (fun j x hj=>by
   have:=h2 (j+1) x hj;rwa [show i+(j+1)=i+1+j by omega]at this)
  simp only[Op.eqFields,hc.1,ne_eq,not_false_eq_true,if_true,Sem.run_bind,hc.2.1,iE hc.2.2 vs i u hu,iE hc.2.2 us i v hv,Result.andThen_ok,he];cases a with
  |false=>simp
  |true=>simpa using ih
theorem kX{I:Nat→Nat→Prop}(d:Nat){e:TypeId}(hc:P.cellsOf e=1)(ha:ml P e=some false)(vs us:Array Value):∀(xs ys:List D)(i:Nat)(b:Bool),iC P e xs ys=some b→
    (∀(j:Nat)(x:D),xs[j]? =some x→∃u,vs[i+j]? =some u∧DRep I w x u)→(∀(j:Nat)(x:D),ys[j]? =some x→∃u,us[i+j]? =some u∧DRep I w x u)→(Op.eqItems (d+1) e (P.cellsOf e) vs us (List.range' i xs.length)).run P w= .ok b w
 |[],[],i,b,ho,_,_=>by
  simp only[iC,Option.some.injEq]at ho;subst ho;simp[Op.eqItems]
 |[],y::ys,i,b,ho,_,_=>by simp[iC]at ho
 |x::xs,[],i,b,ho,_,_=>by simp[iC]at ho
 |x::xs,y::ys,i,b,ho,h1,h2=>by
  rw[iC]at ho;split at ho;case h_2=>cases ho
  rename_i a b' ha1 hb;cases ho;obtain⟨u,hu,hru⟩:=h1 0 x rfl;obtain⟨v,hv,hrv⟩:=h2 0 y rfl;rw[Nat.add_zero]at hu hv;have he:=pS d hru hrv ha1
  have ih:=kX d hc ha vs us xs ys (i+1) b' hb (fun j x hj=>by
   have:=h1 (j+1) x hj;rwa [show i+(j+1)=i+1+j by omega]at this) (fun j x hj=>by
   have:=h2 (j+1) x hj;rwa [show i+(j+1)=i+1+j by omega]at this)
  rw[List.length_cons,List.range'_succ];rw[hc]at ih ⊢;simp only[Op.eqItems,Sem.run_bind,Nat.mul_one,iE ha vs i u hu,iE ha us i v hv,Result.andThen_ok,he];cases a with
  |false=>simp
  |true=>simpa using ih
theorem zB{op:BinOp}{x y:AV}{b:Bool}{vx vy:Value}{t:TypeId}(hx:Rep G w x vx)(hy:Rep G w y vy)(ho:KG P t x y=some b)(hop:op= .eql∨op= .neq):
    (∀ox oy,(eqGuard op t ox oy vx vy).run P w= .ok () w)∧(binOp op t vx vy).run P w= .ok (.bool (if op= .eql then b else !b)) w:=by
 unfold KG at ho;split at ho
 ·rename_i a c hu
  simp only[Option.some.injEq]at ho;subst ho;cases hx with
  |d hx=>
   cases hx;cases hy with
   |d hy=>
    cases hy
    have he:∀d:Nat,(Op.equalIn (d+1) t (.bool a) (.bool c)).run P w= .ok (a==c) w:=fun d=>by
     simp only[Op.equalIn,Sem.run_bind,run_underlying hu,Result.andThen_ok,Sem.run_pure]
    have he2:(Op.equal t (.bool a) (.bool c)).run P w= .ok (a==c) w:=he 9999;rcases hop with rfl|rfl
    ·refine⟨fun ox oy=>by simp[eqGuard], ?_⟩
     simp only[binOp,Sem.run_bind,he2,Result.andThen_ok,Sem.run_pure,if_true]
    ·refine⟨fun ox oy=>by simp[eqGuard], ?_⟩
     simp only[binOp,Sem.run_bind,he2,Result.andThen_ok,Sem.run_pure];rfl
 ·rename_i fs xs ys hu
  split at ho;case isFalse=>cases ho
  rename_i hg;cases hx with
  |d hx=>
  cases hx with
  |agg _ vs hl h1 hrep=>
  cases hy with
  |d hy=>
  cases hy with
  |agg _ us hl' h1' hrep'=>
  have hf:P.fieldsOf t=fs:=by unfold Program.fieldsOf;rw[hu]
  have hrun:(Op.equalIn 10000 t (.agg vs) (.agg us)).run P w= .ok b w:=by
   rw[show(10000:Nat)=9999+1 from rfl,run_equalIn_struct w 9999 t vs us (by rw[hf];exact hu) hg.1,hf];refine gZ (I:=G.imm) 9998 vs us fs.toList 0 xs ys b ho (fun j x hj=> ?_) (fun j x hj=> ?_)
   ·have hlt:j<vs.size:=by rw[hl];exact(List.getElem?_eq_some_iff.1 hj).1
    have:vs[j]? =some vs[j]:=Array.getElem?_eq_getElem hlt;exact⟨_,by rw[Nat.zero_add];exact this,hrep j x _ hj this⟩
   ·have hlt:j<us.size:=by rw[hl'];exact(List.getElem?_eq_some_iff.1 hj).1
    have:us[j]? =some us[j]:=Array.getElem?_eq_getElem hlt;exact⟨_,by rw[Nat.zero_add];exact this,hrep' j x _ hj this⟩
  refine⟨fun ox oy=>run_eqGuard_agg w op t ox oy vs us hg.2, ?_⟩;rcases hop with rfl|rfl
  ·rw[run_eql_struct,hrun];rfl
  ·rw[run_neq_struct,hrun];rfl
 ·rename_i n e xs ys hu
  split at ho;case isFalse=>cases ho
  rename_i hg;cases hx with
  |d hx=>
  cases hx with
  |agg _ vs hl h1 hrep=>
  cases hy with
  |d hy=>
  cases hy with
  |agg _ us hl' h1' hrep'=>
  obtain⟨i,hi⟩:∃i,P.info? e=some i:=by
   have h:=hg.2.2.1;simp only[ml,Option.map_eq_some_iff]at h;obtain⟨d,hd,_⟩:=h;exact iD hd
  have hrun:(Op.equalIn 10000 t (.agg vs) (.agg us)).run P w= .ok b w:=by
   rw[show(10000:Nat)=9999+1 from rfl,run_equalIn_array w 9999 vs us hu hi,List.range_eq_range',←hg.1];refine kX (I:=G.imm) 9998 hg.2.1 hg.2.2.1 vs us xs ys 0 b ho (fun j x hj=> ?_) (fun j x hj=> ?_)
   ·have hlt:j<vs.size:=by rw[hl];exact(List.getElem?_eq_some_iff.1 hj).1
    have:vs[j]? =some vs[j]:=Array.getElem?_eq_getElem hlt;exact⟨_,by rw[Nat.zero_add];exact this,hrep j x _ hj this⟩
   ·have hlt:j<us.size:=by rw[hl'];exact(List.getElem?_eq_some_iff.1 hj).1
    have:us[j]? =some us[j]:=Array.getElem?_eq_getElem hlt;exact⟨_,by rw[Nat.zero_add];exact this,hrep' j x _ hj this⟩
  refine⟨fun ox oy=>run_eqGuard_agg w op t ox oy vs us hg.2.2.2, ?_⟩;rcases hop with rfl|rfl
  ·rw[run_eql_struct,hrun];rfl
  ·rw[run_neq_struct,hrun];rfl
 ·cases ho
theorem xD{x y:AV}{b:Bool}{vx vy:Value}{t e:TypeId}(hx:Rep G w x vx)(hy:Rep G w y vy)(hu:P.underlying t=some (.pointer e))(ho:DW P e x y=some b):
    ∃p q,vx= .pointer p∧vy= .pointer q∧∀d:Nat,(Op.equalIn (d+1) t (.pointer p) (.pointer q)).run P w= .ok b w:=by
 have n1:∀(q:Option Addr)(d:Nat),(Op.equalIn (d+1) t (.pointer none) (.pointer q)).run P w= .ok q.isNone w:=fun q d=>by
  simp only[Op.equalIn,Sem.run_bind,run_underlying hu,Result.andThen_ok,Sem.run_pure]
 have n2:∀(a:Addr)(d:Nat),(Op.equalIn (d+1) t (.pointer (some a)) (.pointer none)).run P w= .ok false w:=fun a d=>by
  simp only[Op.equalIn,Sem.run_bind,run_underlying hu,Result.andThen_ok,Sem.run_pure]
 unfold DW at ho;split at ho
 ·cases ho;cases hx with|d hx=>cases hx;cases hy with|d hy=>cases hy;exact⟨_,_,rfl,rfl,n1 none⟩
 ·cases ho;cases hx;cases hy with|d hy=>cases hy;exact⟨_,_,rfl,rfl,n2 _⟩
 ·cases ho;cases hx with|d hx=>cases hx;cases hy;exact⟨_,_,rfl,rfl,n1 _⟩
 ·cases ho;cases hx with|d hx=>cases hx;cases hy with|d hy=>cases hy;exact⟨_,_,rfl,rfl,n2 _⟩
 ·cases ho;cases hx with|d hx=>cases hx;cases hy with|d hy=>cases hy;exact⟨_,_,rfl,rfl,n1 _⟩
 ·split at ho
  ·rename_i k v i off sz k' v' i' off' sz' hc
   obtain⟨rfl,rfl,h3,h4,h5⟩:=hc;cases ho;cases hx with
   |ptr _ _ _ _ L hL=>
   cases hy with
   |ptr _ _ _ _ L' hL'=>
   rw[hL]at hL';cases hL';refine⟨_,_,rfl,rfl,fun d=> ?_⟩;unfold cA at h4;cases hi:P.info? e with
   |none=>rw[hi]at h4;cases h4
   |some j=>
    rw[h3];simp only[Op.equalIn,Sem.run_bind,run_underlying hu,Result.andThen_ok,Sem.run_pure];simp[sizeOf,typeInfo,hi,sameAddr]
  ·cases ho
 ·cases ho
theorem pT{op:BinOp}{ox oy:Operand}{x y:AV}{b:Bool}{vx vy:Value}{t:TypeId}(hx:Rep G w x vx)(hy:Rep G w y vy)(ho:Bh P t ox oy x y=some b)(hop:op= .eql∨op= .neq):
    (eqGuard op t ox oy vx vy).run P w= .ok () w∧(binOp op t vx vy).run P w= .ok (.bool (if op= .eql then b else !b)) w:=by
 unfold Bh at ho;split at ho
 ·rename_i ms hc hu
  simp only[Option.some.injEq]at ho;subst ho;cases hx with
  |d hx=>
  cases hx;cases hy with
  |d hy=>
  cases hy
  have he:∀d:Nat,(Op.equalIn (d+1) t .nilIface .nilIface).run P w= .ok true w:=fun d=>by
   simp only[Op.equalIn,Sem.run_bind,run_underlying hu,Result.andThen_ok,Sem.run_pure]
  have he2:(Op.equal t .nilIface .nilIface).run P w= .ok true w:=he 9999;refine⟨?_, ?_⟩
  ·cases ox<;>cases oy<;>first
     |(simp[DV]at hc;done)
     |(rcases hop with rfl|rfl<;>simp[eqGuard])
  ·rcases hop with rfl|rfl
   ·simp only[binOp,Sem.run_bind,he2,Result.andThen_ok,Sem.run_pure,if_true]
   ·simp only[binOp,Sem.run_bind,he2,Result.andThen_ok,Sem.run_pure]
    rfl
 ·rename_i ms hc hu
  simp only[Option.some.injEq]at ho;subst ho;cases hx with
  |d hx=>
  cases hx with
  |ifc ti vi=>
  cases hy with
  |d hy=>
  cases hy
  have he:∀d:Nat,(Op.equalIn (d+1) t (.iface ti vi) .nilIface).run P w= .ok false w:=fun d=>by
   simp only[Op.equalIn,Sem.run_bind,run_underlying hu,Result.andThen_ok,Sem.run_pure]
  have he2:(Op.equal t (.iface ti vi) .nilIface).run P w= .ok false w:=he 9999;refine⟨?_, ?_⟩
  ·rcases hop with rfl|rfl<;>simp[eqGuard]
  ·rcases hop with rfl|rfl
   ·simp only[binOp,Sem.run_bind,he2,Result.andThen_ok,Sem.run_pure,if_true]
   ·simp only[binOp,Sem.run_bind,he2,Result.andThen_ok,Sem.run_pure]
    rfl
 ·rename_i ms ti xi hu
  simp only[Option.some.injEq]at ho;subst ho;cases hx with
  |iv _ vi _=>
  cases hy with
  |d hy=>
  cases hy
  have he:∀d:Nat,(Op.equalIn (d+1) t (.iface ti vi) .nilIface).run P w= .ok false w:=fun d=>by
   simp only[Op.equalIn,Sem.run_bind,run_underlying hu,Result.andThen_ok,Sem.run_pure]
  have he2:(Op.equal t (.iface ti vi) .nilIface).run P w= .ok false w:=he 9999;refine⟨?_, ?_⟩
  ·rcases hop with rfl|rfl<;>simp[eqGuard]
  ·rcases hop with rfl|rfl
   ·simp only[binOp,Sem.run_bind,he2,Result.andThen_ok,Sem.run_pure,if_true]
   ·simp only[binOp,Sem.run_bind,he2,Result.andThen_ok,Sem.run_pure]
    rfl
 ·rename_i e hu
  obtain⟨p,q,rfl,rfl,he⟩:∃p q,vx= .pointer p∧vy= .pointer q∧∀d:Nat,(Op.equalIn (d+1) t (.pointer p) (.pointer q)).run P w= .ok b w:=xD hx hy hu ho;have he2:(Op.equal t (.pointer p) (.pointer q)).run P w= .ok b w:=he 9999;refine⟨?_, ?_⟩
  ·rcases hop with rfl|rfl<;>simp[eqGuard]
  ·rcases hop with rfl|rfl
   ·simp only[binOp,Sem.run_bind,he2,Result.andThen_ok,Sem.run_pure,if_true]
   ·simp only[binOp,Sem.run_bind,he2,Result.andThen_ok,Sem.run_pure]
    rfl
 ·obtain⟨h1,h2⟩:=zB hx hy ho hop
  exact⟨h1 ox oy,h2⟩
theorem zC{op:UnOp}{x r:AV}{vx:Value}(hx:Rep G w x vx)(ho:KH op x=some r):∃v,(Op.unary op vx).run P w= .ok v w∧Rep G w r v:=by
 unfold KH at ho;split at ho
 ·simp only[Option.some.injEq]at ho;subst ho
  cases hx with
  |d hx=>cases hx;exact⟨_,by simp[Op.unary], .d (.bool _)⟩
 ·simp only[Option.some.injEq]at ho;subst ho
  cases hx with
  |d hx=>cases hx;exact⟨_,by simp only[Op.unary,Op.intArith,Sem.run_pure], .d (.int _ _)⟩
 ·simp only[Option.some.injEq]at ho;subst ho
  cases hx with
  |d hx=>cases hx;exact⟨_,by simp only[Op.unary,Op.intBits,Sem.run_pure], .d (.int _ _)⟩
 ·cases ho
theorem qw{src dst:TypeId}{x r:AV}{vx:Value}(hx:Rep G w x vx)(ho:oW P src dst x=some r):∃v,(convert src dst vx).run P w= .ok v w∧Rep G w r v:=by
 unfold oW at ho;split at ho
 ·rename_i k1 k2 n1 n hu1 hu2
  simp only[Option.some.injEq]at ho;subst ho;cases hx with
  |d hx=>cases hx;exact⟨_,by simp[convert,run_underlying hu1,run_underlying hu2,Conv.intToInt], .d (.int _ _)⟩
 ·cases ho
theorem xE{x:AV}{vx:Value}{n:Nat}(hx:Rep G w x vx)(hn:DX x=some n):∃a c,vx= .slice a n c:=by
 unfold DX at hn;split at hn
 ·rename_i l
  simp only[Option.some.injEq]at hn;subst hn;cases hx with
  |d hx=>cases hx<;>exact⟨_,_,rfl⟩
 ·simp only[Option.some.injEq]at hn;subst hn
  cases hx<;>exact⟨_,_,rfl⟩
 ·simp only[Option.some.injEq]at hn;subst hn;cases hx;exact⟨_,_,rfl⟩
 ·simp only[Option.some.injEq]at hn;subst hn;cases hx;exact⟨_,_,rfl⟩
 ·simp only[Option.some.injEq]at hn;subst hn
  cases hx<;>exact⟨_,_,rfl⟩
 ·cases hn
theorem xF{t:TypeId}{x:AV}{vx:Value}{out:Out}(hx:Rep G w x vx)(ho:DY P t x=some out):out.ob=[]∧out.wr=[]∧∃v,(∀ty,(Builtin.len_ #[t] ty #[vx]).run P w= .ok v w)∧Rep G w out.val v:=by
 unfold DY at ho;split at ho
 ·rename_i e hu
  split at ho
  ·rename_i n hn
   simp only[Option.some.injEq]at ho;subst ho;obtain⟨a,c,rfl⟩:=xE hx hn;exact⟨rfl,rfl,_,fun ty=>by simp[Builtin.len_,run_underlying hu,goInt], .d (.int _ _)⟩
  ·cases ho
 ·rename_i hu
  split at ho
  ·simp only[Option.some.injEq]at ho;subst ho
   cases hx with
   |d hx=>
    cases hx with
    |str _ s h=>subst h;exact⟨rfl,rfl,_,fun ty=>by simp[Builtin.len_,run_underlying hu,goInt], .d (.int _ _)⟩
  ·cases ho
 ·cases ho
theorem kY{mx:Bool}{x y:AV}{vx vy:Value}{out:Out}(hx:Rep G w x vx)(hy:Rep G w y vy)(ho:nu mx x y=some out):
    out.ob=[]∧out.wr=[]∧∃v,(∀ts ty,(if mx then Builtin.max_ ts ty #[vx,vy]else Builtin.min_ ts ty #[vx,vy]).run P w= .ok v w)∧Rep G w out.val v:=by
 unfold nu at ho;split at ho
 ·simp only[Option.some.injEq]at ho;subst ho
  cases hx with
  |d hx=>
   cases hx;cases hy with
   |d hy=>
    cases hy;cases mx
    ·exact⟨rfl,rfl,_,fun ts ty=>by simp[Builtin.min_,Builtin.min2], .d (.int _ _)⟩
    ·exact⟨rfl,rfl,_,fun ts ty=>by simp[Builtin.max_,Builtin.max2], .d (.int _ _)⟩
 ·cases ho
end
end Go.Avm
namespace Go.Avm
open Go.RowKit
variable[aJ]
section
variable{P:Program}{G:Gh}{B:Nat}{w0 w:World}{I0:Nat→Nat→Prop}{h:ab}
theorem mV{n:Int}(h0:0≤n)(h1:n<9223372036854775808):IntKind.i64.wrap n=n:=by
 unfold IntKind.wrap;simp[IntKind.bits,IntKind.signed];omega
theorem xG{e:TypeId}{zA:AV}(hz:vR P e=some zA):∃z,eg P e=some z∧z.cells.size=zA.cells.length∧(∀(i:Nat)(u:Value),z.cells[i]? =some u→u.oneCell'=true)∧
    ∀(i:Nat)(c:AV)(u:Value),zA.cells[i]? =some c→z.cells[i]? =some u→Rep G w c u:=by
 unfold vR at hz;split at hz
 ·rename_i cs hc
  simp only[Option.map_eq_some_iff]at hz;obtain⟨l,hl,rfl⟩:=hz;obtain⟨h1,h2,h3⟩:=f9 (G:=G) (w:=w) hl;exact⟨_,hc,by rw[gO];exact h1,h2,fun i c u hi hu=>h3 i c u (by rwa [gO]at hi) hu⟩
 ·rename_i z hn hc
  split at hz
  ·rename_i h1
   simp only[Option.some.injEq]at hz;subst hz;have hlo:(CF z).lone=true:=(nD (G:=G) (w:=w) z).lone h1;refine⟨z,hc,by rw[eZ h1,AV.cells_lone hlo];rfl,fun i u hu=> ?_,fun i c u hi hu=> ?_⟩
   ·rw[eZ h1]at hu
    cases i with
    |zero=>simp at hu;subst hu;exact h1
    |succ i=>simp at hu
   ·rw[eZ h1]at hu
    rw[AV.cells_lone hlo]at hi;cases i with
    |zero=>simp at hu hi;subst hu;subst hi;exact nD z
    |succ i=>simp at hu
  ·cases hz
 ·cases hz
theorem uy{e:TypeId}{z:Value}(hz:eg P e=some z):∃i,P.info? e=some i∧i.zero=some z∧P.cellsOf e=i.size∧P.bytesOf e=i.bytes:=by
 unfold eg at hz;cases hi:P.info? e with
 |none=>simp[hi]at hz
 |some i=>
  simp only[hi,Option.bind_some]at hz;exact⟨i,rfl,hz,by simp[Program.cellsOf,hi],by simp[Program.bytesOf,hi]⟩
theorem nK(hr:HR G B w0 I0 h w){t:TypeId}{l c:AV}{vl vc:Value}(hl:Rep G w l vl)(hc:Rep G w c vc){k:Nat}{out:Out}(ho:da P t l c k h=some out):
    out.ob=[]∧∃v w' G',(Instr.makeSlice t vl vc).run P w= .ok v w'∧Ext G w G' w'∧HR G' B w0 I0 (aq h out.wr) w'∧Rep G' w' out.val v:=by
 unfold da at ho;split at ho
 ·rename_i e l c hu
  split at ho
  ·rename_i zA hzA
   split at ho
   ·rename_i hcnd
    obtain⟨h0,h1,h2,hby,hzc,hpos,hlo⟩:=hcnd;simp only[Option.some.injEq]at ho;subst ho;obtain⟨z,hz,hzs,hz1,hzr⟩:=xG (G:=G) (w:=w) hzA;obtain⟨ie,hie,hiz,hsz,hbe⟩:=uy hz;cases hl with
    |d hl=>
     cases hl;cases hc with
     |d hc=>
      cases hc;obtain⟨ln,rfl⟩:=Int.eq_ofNat_of_zero_le h0;obtain⟨cn,rfl⟩:=Int.eq_ofNat_of_zero_le (show 0≤c by omega);have hwl:=mV (n:=(ln:Int)) (by omega) (by omega);have hwc:=mV (n:=(cn:Int)) (by omega) (by omega)
      have hb:¬(281474976710656<(ie.bytes:Int)*(cn:Int)):=by
       rw[hbe]at hby;have h5:ie.bytes*cn≤256*1099511627776:=Nat.mul_le_mul hby (by omega);have h6:((ie.bytes*cn:Nat):Int)≤281474976710656:=by omega
       rw[Int.natCast_mul]at h6;omega
      have hcn0:¬((cn:Int)<0):=by omega
      have hln0:¬((ln:Int)<0):=by omega
      have hzsz:z.cells.size=P.cellsOf e:=by rw[hzs,hzc]
      have hrun:∃arr:Array Value,(Instr.makeSlice t (.int .i64 ln) (.int .i64 cn)).run P w= .ok (.slice (some ⟨w.heap.size,0,none⟩) ln cn) (w.alloc (.cells arr e))∧arr.size=cn*P.cellsOf e∧
          ∀i j,i<cn→j<P.cellsOf e→arr[i*P.cellsOf e+j]? =z.cells[j]? :=by
       by_cases hcn:cn*P.cellsOf e=0
       ·have hcn0:cn=0:=by
          rcases Nat.mul_eq_zero.1 hcn with h|h
          ·exact h
          ·omega
        subst hcn0;have hln0:ln=0:=by omega
        subst hln0;refine⟨#[], ?_,by simp,by omega⟩;have h9:Array.map (fun _:Nat=>(default:Value)) (Array.range 0)= #[]:=by simp
        have hw0:IntKind.i64.wrap 0=0:=mV (by omega) (by omega);simp[Instr.makeSlice,run_underlying hu,asInt,asIntOf,typeInfo,hie,sizeOf,newRow,hw0,h9]
       ·refine⟨(Array.range (cn*P.cellsOf e)).map (fun i=>z.cells[i % z.cells.size]!), ?_,by simp,fun i j hi hj=> ?_⟩
        ·have hcn':¬(cn=0):=by rintro rfl;simp at hcn
         have hs0:¬(ie.size=0):=by omega
         have hlc:¬((cn:Int)<(ln:Int)):=by omega
         simp[Instr.makeSlice,run_underlying hu,asInt,asIntOf,typeInfo,hie,sizeOf,newRow,hwl,hwc,hb,hlc,hcn0,hln0,zeroValue,hiz,hcn',hs0,hsz];intro h9;rcases Nat.mul_eq_zero.1 h9 with h9|h9
         ·exact absurd h9 hcn'
         ·exact absurd h9 hs0
        ·have hlt:i*P.cellsOf e+j<cn*P.cellsOf e:=by
           have:(i+1)*P.cellsOf e≤cn*P.cellsOf e:=Nat.mul_le_mul_right _ hi;rw[Nat.add_mul,Nat.one_mul]at this;omega
         have hmod:(i*P.cellsOf e+j) % z.cells.size=j:=by
          rw[hzsz,Nat.mul_comm,Nat.mul_add_mod,Nat.mod_eq_of_lt hj]
         have hj':j<z.cells.size:=by omega
         rw[Array.getElem?_map,Array.getElem?_range,if_pos hlt,Option.map_some,hmod];simp[hj']
      obtain⟨arr,hrun,has,hag⟩:=hrun
      have hcellrep:∀(s:Nat)(c:AV),(AV.flat (List.replicate ln zA))[s]? =some c→∃u:Value,arr[s]? =some u∧u.oneCell'=true∧Rep G w c u:=by
       intro s c hs;obtain⟨i,j,e',rfl,hj,he',hc'⟩:=fw (sz:=P.cellsOf e) (fun x hx=>by rw[(List.mem_replicate.1 hx).2];exact hzc) hs
       have hi:i<ln:=by
        have:=(List.getElem?_eq_some_iff.1 he').1;simpa using this
       have he2:e'=zA:=(List.mem_replicate.1 (List.mem_of_getElem? he')).2;subst he2;have hj':j<z.cells.size:=by omega
       have hzj:z.cells[j]? =some z.cells[j]:=Array.getElem?_eq_getElem hj';exact⟨_,by rw[hag i j (by omega) hj,hzj],hz1 j _ hzj,hzr j c _ hc' hzj⟩
      obtain⟨g1,g2⟩:=hr.newOb k (P.cellsOf e) cn (List.replicate ln zA) arr e has (by simp;omega) (fun x hx=>by rw[(List.mem_replicate.1 hx).2];exact hzc) (fun h1 x hx=>by rw[(List.mem_replicate.1 hx).2];exact hlo h1) hcellrep;refine⟨rfl,_,_,_,hrun,g2,g1, ?_⟩;have:=Rep.sl (w:=w.alloc (.cells arr e)) k ((h k).ver+1) 0 ln cn _ (Gh.at_same G k ((h k).ver+1) ⟨w.heap.size,P.cellsOf e,cn,0,e⟩) (by simp) (by omega);simpa using this
   ·cases ho
  ·cases ho
 ·cases ho
theorem cm{lo:Option AV}{vlo:Option Value}{dflt n:Nat}(hb:dJ lo dflt=some n)(hlo:∀x,lo=some x→∃v,vlo=some v∧Rep G w x v)(hnone:lo=none→vlo=none):
    (vlo=none∧n=dflt)∨(∃k i,vlo=some (.int k i)∧0≤i∧i.toNat=n):=by
 unfold dJ at hb;split at hb
 ·simp only[Option.some.injEq]at hb
  exact .inl ⟨hnone rfl,hb.symm⟩
 ·rename_i k i
  split at hb
  ·rename_i h0
   simp only[Option.some.injEq]at hb;obtain⟨v,hv,hr⟩:=hlo _ rfl;cases hr with
   |d hd=>cases hd;exact .inr ⟨k,i,hv,h0,hb⟩
  ·cases hb
 ·cases hb
theorem gy{k:IntKind}{i:Int}{y:Nat}{code:BoundsCode}(h0:0≤i)(h1:i.toNat≤y)(w:World):(Instr.sliceBound (.int k i) y code).run P w= .ok i.toNat w:=by
 have:0≤i∧i≤(y:Int):=⟨h0,by omega⟩
 simp[Instr.sliceBound,asIntOf,this]
theorem cZ{isSlice:Bool}{len cap a b:Nat}{vlo vhi:Option Value}(hlo:(vlo=none∧a=0)∨(∃k i,vlo=some (.int k i)∧0≤i∧i.toNat=a))(hhi:(vhi=none∧b=len)∨(∃k i,vhi=some (.int k i)∧0≤i∧i.toNat=b))
    (hab:a≤b) (hbc:b≤cap) (w:World):(Instr.sliceBounds isSlice len cap vlo vhi none).run P w= .ok (a,b,cap) w:=by
 rcases hlo with ⟨rfl,rfl⟩|⟨k,i,rfl,hi,rfl⟩<;>rcases hhi with ⟨rfl,rfl⟩|⟨k',i',rfl,hi',rfl⟩
 ·simp[Instr.sliceBounds]
 ·simp[Instr.sliceBounds,gy hi' hbc]
 ·simp[Instr.sliceBounds,gy hi hab]
 ·simp[Instr.sliceBounds,gy hi' hbc,gy hi hab]
theorem HP{l:List D}{a b i:Nat}{y:D}(hy:((l.take b).drop a)[i]? =some y):l[a+i]? =some y∧a+i<b:=by
 rw[List.getElem?_drop,List.getElem?_take]at hy;split at hy
 ·rename_i h;exact⟨hy,h⟩
 ·cases hy
theorem ud{t:TypeId}{x:AV}{vx:Value}{lo hi mx:Option AV}{vlo vhi vmx:Option Value}(hx:Rep G w x vx)
    (hlo:∀x,lo=some x→∃v,vlo=some v∧Rep G w x v) (hlo':lo=none→vlo=none) (hhi:∀x,hi=some x→∃v,vhi=some v∧Rep G w x v) (hhi':hi=none→vhi=none)
    (hmx:∀x,mx=some x→∃v,vmx=some v∧Rep G w x v) (hmx':mx=none→vmx=none) {out:Out} (ho:jU P t x lo hi mx=some out):
    out.ob=[]∧out.wr=[]∧∃v,(Instr.sliceAt t vx vlo vhi vmx).run P w= .ok v w∧Rep G w out.val v:=by
 unfold jU at ho;split at ho
 ·rename_i e hu
  split at ho
  ·cases ho
  ·rename_i hkn
   have hkn:cA P e=true:=by simpa using hkn
   split at ho
   ·have hm:vmx=none:=hmx' rfl
    subst hm
    have slc:∀(l:List D),DRep G.imm w (.ro l) vx→(match dJ lo 0,dJ hi l.length with
        |some a,some b=>if a≤b∧b≤l.length∧(a=0∨l.all (fun y=>y.cells.length==P.cellsOf e)=true)then some ({val:= .d (.ro ((l.take b).drop a))}:Out)else none
        |_,_=>none)=some out→out.ob=[]∧out.wr=[]∧∃v,(Instr.sliceAt t vx vlo vhi none).run P w= .ok v w∧Rep G w out.val v:=by
     intro l hd hh;split at hh
     ·rename_i a b ha hb
      split at hh
      ·rename_i hab
       obtain⟨hab,hbl,hall⟩:=hab;simp only[Option.some.injEq]at hh;subst hh;have hba:=cm ha hlo hlo';have hbb:=cm hb hhi hhi';cases hd with
       |roNil ao c=>
        have hb0:b=0:=by simpa using hbl
        subst hb0;have ha0:a=0:=by omega
        subst ha0;have hrb:=cZ (P:=P) (isSlice:=true) (cap:=c) hba hbb (by omega) (by omega) w;have hrb':(Instr.sliceBounds true 0 c vlo vhi none).run P w= .ok (0,0,c) w:=by simpa using hrb
        refine⟨rfl,rfl, .slice (if c=0 then ao else ao.map (·.add (0*P.cellsOf e))) (0-0) (c-0), ?_, ?_⟩
        ·simp[Instr.sliceAt,Instr.slice,run_underlying hu,hrb',bH hkn]
        ·simpa using Rep.d (G:=G) (w:=w) (.roNil (if c=0 then ao else ao.map (·.add 0)) c)
       |ro _ b' o c sz U hcap hsz h1 hi' hc hr'=>
        have hrb:=cZ (P:=P) (isSlice:=true) (cap:=c) hba hbb hab (by omega) w;have hlen:((l.take b).drop a).length=b-a:=by simp;omega
        refine⟨rfl,rfl, .slice (if c=a then some ⟨b',o,none⟩else some ⟨b',o+a*P.cellsOf e,none⟩) (b-a) (c-a), ?_, ?_⟩
        ·by_cases hca:c=a
         ·rw[hca]at hrb ⊢
          simp[Instr.sliceAt,Instr.slice,run_underlying hu,hrb,bH hkn]
         ·simp[Instr.sliceAt,Instr.slice,run_underlying hu,hrb,bH hkn,hca,ei]
        ·by_cases hba0:b-a=0
         ·have hnil:(l.take b).drop a=[]:=List.eq_nil_of_length_eq_zero (by omega)
          rw[hnil,hba0];exact .d (.roNil _ _)
         ·rw[if_neg (by omega)]
          have hmem:∀e∈(l.take b).drop a,e∈l:=fun e he=>List.mem_of_mem_take (List.mem_of_mem_drop he)
          have hfl:∀(s:Nat)(c:D),(D.flat ((l.take b).drop a))[s]? =some c→(D.flat l)[a*sz+s]? =some c:=by
           intro s c hs;obtain⟨i,j,e',rfl,hj,he',hc'⟩:=fw (fun e he=>hsz e (hmem e he)) hs;obtain⟨h5,_⟩:=HP he';have:a*sz+(i*sz+j)=(a+i)*sz+j:=by rw[Nat.add_mul];omega
           rw[this,D.flat,bJ _ sz l hsz _ j hj,h5,Option.bind_some,hc']
          have hszP:a=0∨sz=P.cellsOf e:=by
           rcases hall with h0|h0
           ·exact .inl h0
           ·right
            have hlt:0<l.length:=by omega
            have hm0:=List.getElem_mem hlt;have h7:=List.all_eq_true.1 h0 _ hm0;rw[←hsz _ hm0];simpa using h7
          have haddr:o+a*P.cellsOf e=o+a*sz:=by
           rcases hszP with rfl|rfl
           ·simp
           ·rfl
          rw[haddr,←hlen];refine .d (.ro _ b' (o+a*sz) (c-a) sz (fun s=>U (a*sz+s)) (by omega) (fun e he=>hsz e (hmem e he)) (fun e he=> ?_) ?_ ?_ ?_)
          ·obtain⟨y,hy,hc'⟩:=List.mem_flatMap.1 he
           exact h1 e (List.mem_flatMap.2 ⟨y,hmem y hy,hc'⟩)
          ·intro s c hs;have:=hi' _ c (hfl s c hs);rwa [←Nat.add_assoc]at this
          ·intro s c hs;have:=hc _ c (hfl s c hs);rwa [←Nat.add_assoc]at this
          ·intro s c hs;exact hr' _ c (hfl s c hs)
      ·cases hh
     ·cases hh
    split at ho
    ·exact slc _ hx.toDRep ho
    ·rename_i k ver sz l
     refine slc l ?_ ho;cases hx with
     |vecNil=>exact .roNil _ _
     |vec _ _ _ L hL hfr hlen hsz hd=>exact hd
    ·split at ho
     ·rename_i ha hb
      simp only[Option.some.injEq]at ho;subst ho;cases hx;have hrb:=cZ (P:=P) (isSlice:=true) (cap:=0) (cm ha hlo hlo') (cm hb hhi hhi') (by omega) (by omega) w;exact⟨rfl,rfl, .slice none 0 0,by simp[Instr.sliceAt,Instr.slice,run_underlying hu,hrb,bH hkn], .nils⟩
     ·cases ho
    ·rename_i k v off len sz0
     split at ho
     ·rename_i a b ha hb
      split at ho
      ·rename_i hab
       obtain⟨rfl,hbl⟩:=hab;simp only[Option.some.injEq]at ho;subst ho;have hba:=cm ha hlo hlo';have hbb:=cm hb hhi hhi';cases hx with
       |slNil=>
        have hb0:b=0:=by omega
        subst hb0;have hrb:=cZ (P:=P) (isSlice:=true) (cap:=0) hba hbb (by omega) (by omega) w;exact⟨rfl,rfl, .slice none 0 0,by simp[Instr.sliceAt,Instr.slice,run_underlying hu,hrb,bH hkn], .slNil _ _ _⟩
       |sl _ _ _ _ c L hL hcap hlc=>
        have hrb:=cZ (P:=P) (isSlice:=true) (cap:=c) hba hbb (by omega) (by omega) w;refine⟨rfl,rfl, .slice (some ⟨L.b,off*L.sz,none⟩) b c, ?_, .sl k v off b c L hL hcap (by omega)⟩;by_cases hc0:c=0
        ·subst hc0
         simp[Instr.sliceAt,Instr.slice,run_underlying hu,hrb,bH hkn]
        ·simp[Instr.sliceAt,Instr.slice,run_underlying hu,hrb,bH hkn,hc0,ei]
      ·cases ho
     ·cases ho
    ·cases ho
   ·rename_i m
    have fin:∀(ao:Option Addr)(len cap:Nat),vx= .slice ao len cap→dJ lo 0=some 0→dJ hi 0=some 0→dJ (some m) 0=some 0→({val:= .es}:Out)=out→hi≠none→
        out.ob=[]∧out.wr=[]∧∃v,(Instr.sliceAt t vx vlo vhi vmx).run P w= .ok v w∧Rep G w out.val v:=by
     rintro ao len cap rfl ha hb hm rfl hne;have hmb:=cm hm hmx hmx';have hbb:=cm hb hhi hhi';have hba:=cm ha hlo hlo';rcases hmb with ⟨hmn,_⟩|⟨km,im,rfl,him,him0⟩
     ·obtain⟨v,hv,_⟩:=hmx _ rfl;rw[hmn]at hv;cases hv
     ·rcases hbb with ⟨hbn,_⟩|⟨kb,ib,rfl,hib,hib0⟩
      ·cases hi with
       |none=>exact absurd rfl hne
       |some y=>obtain⟨v,hv,_⟩:=hhi _ rfl;rw[hbn]at hv;cases hv
      ·have e1:∀code y,(Instr.sliceBound (.int km im) y code).run P w= .ok 0 w:=fun code y=>by rw[gy him (by omega)];rw[him0]
       have e2:∀code y,(Instr.sliceBound (.int kb ib) y code).run P w= .ok 0 w:=fun code y=>by rw[gy hib (by omega)];rw[hib0]
       refine⟨rfl,rfl, .slice ao 0 0, ?_, .es ao⟩;rcases hba with ⟨rfl,_⟩|⟨ka,ia,rfl,hia,hia0⟩
       ·simp[Instr.sliceAt,Instr.slice,run_underlying hu,Instr.sliceBounds,e1,e2,bH hkn]
       ·have e3:∀code y,(Instr.sliceBound (.int ka ia) y code).run P w= .ok 0 w:=fun code y=>by rw[gy hia (by omega)];rw[hia0]
        simp[Instr.sliceAt,Instr.slice,run_underlying hu,Instr.sliceBounds,e1,e2,e3,bH hkn]
    split at ho
    ·rename_i hb4
     obtain⟨hb1,hb2,hb3,hb4⟩:=hb4;have hne:hi≠none:=by rintro rfl;simp at hb4
     split at ho
     ·simp only[Option.some.injEq]at ho
      cases hx with
      |d hd=>cases hd<;>exact fin _ _ _ rfl hb1 hb2 hb3 ho hne
     ·simp only[Option.some.injEq]at ho
      cases hx<;>exact fin _ _ _ rfl hb1 hb2 hb3 ho hne
     ·simp only[Option.some.injEq]at ho
      cases hx<;>exact fin _ _ _ rfl hb1 hb2 hb3 ho hne
     ·simp only[Option.some.injEq]at ho
      cases hx;exact fin _ _ _ rfl hb1 hb2 hb3 ho hne
     ·cases ho
    ·cases ho
 ·rename_i hu
  split at ho
  ·rename_i s
   have hm:vmx=none:=hmx' rfl;subst hm;cases hx with
   |d hd=>
    cases hd with
    |str _ sb hsb=>
    subst hsb;rw[show sb.data.toList.length=sb.size by simp]at ho;split at ho
    ·rename_i a b ha hb
     split at ho
     ·rename_i hab
      simp only[Option.some.injEq]at ho;subst ho;have hrb:=cZ (P:=P) (isSlice:=false) (cap:=sb.size) (cm ha hlo hlo') (cm hb hhi hhi') hab.1 hab.2 w;exact⟨rfl,rfl, .string (sb.extract a b),by simp[Instr.sliceAt,Instr.slice,run_underlying hu,hrb], .d (.str _ _ (by rw[ByteArray.data_extract,Array.toList_extract,List.extract_eq_take_drop,List.drop_take]))⟩
     ·cases ho
    ·cases ho
  ·cases ho
 ·cases ho
end
end Go.Avm
namespace Go.Avm
open Go.RowKit
variable[aJ]
section
variable{P:Program}{G:Gh}{B:Nat}{w0 w:World}{I0:Nat→Nat→Prop}{h:ab}
def Bi(P:Program)(G:Gh)(w:World)(sz n:Nat)(v:Value)(l:List D):Prop:=
 ∃us:List Value,us.length=n*sz∧(∀u∈us,u.oneCell'=true)∧(∀(t:Nat)(c:D),(D.flat l)[t]? =some c→∃u:Value,us[t]? =some u∧c.one=true∧DRep G.imm w c u)∧
  ∀w2:World,(∀b o,w2.cell? ⟨b,o,none⟩=w.cell? ⟨b,o,none⟩)→(Builtin.firstCells sz n v).run P w2= .ok us.toArray w2
theorem dK{l:List D}{v:Value}{sz:Nat}(hd:DRep G.imm w (.ro l) v)(hs:∀y∈l,y.cells.length=sz):Bi P G w sz l.length v l:=by
 cases hd with
 |roNil ao c=>
  refine⟨[],by simp,by simp,by simp[D.flat],fun w2 _=> ?_⟩;cases ao with
  |none=>simp[Builtin.firstCells]
  |some a=>simpa using run_firstCells_some (P:=P) w2 sz 0 a 0 c [] (by simp) (by simp)
 |ro _ b o c sz' U hcap hsz h1 hi hc hr'=>
  have hlen:(D.flat l).length=l.length*sz:=D.flat_len hs;refine⟨(List.range (D.flat l).length).map U,by simp[hlen],fun u hu=> ?_,fun t c ht=> ?_,fun w2 hw2=> ?_⟩
  ·simp only[List.mem_map,List.mem_range]at hu
   obtain⟨t,ht,rfl⟩:=hu;have hg:(D.flat l)[t]? =some (D.flat l)[t]:=List.getElem?_eq_getElem ht;exact(hr' t _ hg).oneCell (h1 _ (List.getElem_mem ht))
  ·have hlt:=(List.getElem?_eq_some_iff.1 ht).1
   exact⟨U t,by simp[List.getElem?_range hlt],h1 c (List.mem_of_getElem? ht),hr' t c ht⟩
  ·refine run_firstCells_some (P:=P) w2 sz l.length ⟨b,o,none⟩ l.length _ _ (by simp[hlen]) (fun j v hv=> ?_)
   simp only[List.getElem?_map,Option.map_eq_some_iff]at hv;obtain⟨j',hj',rfl⟩:=hv
   have hlt:j<(D.flat l).length:=by
    have:=(List.getElem?_eq_some_iff.1 hj').1;simpa using this
   rw[List.getElem?_range hlt]at hj';simp only[Option.some.injEq]at hj';subst hj';rw[ei,hw2];exact hc j _ (List.getElem?_eq_getElem hlt)
theorem vV(s:ByteArray){sz:Nat}(hs:∀y∈s.data.toList.map kO,y.cells.length=sz):Bi P G w sz s.size (.string s) (s.data.toList.map kO):=by
 have h1:s.size*sz=s.size:=by
  cases hl:s.data.toList with
  |nil=>
   have:s.size=0:=by have:=congrArg List.length hl;simpa using this
   simp[this]
  |cons b r=>
   have:=hs (kO b) (by simp[hl]);rw[←this];simp[kO,D.cells]
 have hfl:D.flat (s.data.toList.map kO)=s.data.toList.map kO:=by
  simp only[D.flat];induction s.data.toList with
  |nil=>rfl
  |cons a r ih=>simp only[List.map_cons,List.flatMap_cons,ih];rfl
 refine⟨s.data.toList.map fun b=> .int .u8 (b.toNat:Int),by simp[h1],fun u hu=> ?_,fun t c ht=> ?_,fun w2 _=> ?_⟩
 ·simp only[List.mem_map]at hu
  obtain⟨b,_,rfl⟩:=hu;rfl
 ·rw[hfl,List.getElem?_map,Option.map_eq_some_iff]at ht
  obtain⟨b,hb,rfl⟩:=ht;exact⟨.int .u8 (b.toNat:Int),by rw[List.getElem?_map,hb];rfl,rfl, .int .u8 _⟩
 ·have he:s.extract 0 s.size=s:=by simp
  simp only[Builtin.firstCells,he,Sem.run_pure];congr 1;apply Array.ext';simp
theorem xH:dn G h []=G.imm:=by
 funext b o;simp[dn,rH]
theorem xI(hr:HR G B w0 I0 h w){x:AV}{vx:Value}(hx:Rep G w x vx){news:List D}{rs:List Nat}{sz:Nat}(hs:kP h x=some (news,rs))(hsz:∀y∈news,y.cells.length=sz):
    (∀w2:World,(Builtin.lenOf vx).run P w2= .ok news.length w2)∧Bi P G w sz news.length vx news:=by
 suffices hmain:(∃sb:ByteArray,vx= .string sb∧news=sb.data.toList.map kO)∨((∃ao c,vx= .slice ao news.length c)∧Bi P G w sz news.length vx news) by
  rcases hmain with ⟨sb,rfl,rfl⟩|⟨⟨ao,c,rfl⟩,hC⟩
  ·exact⟨fun w2=>by simp[Builtin.lenOf],by simpa using vV (P:=P) (G:=G) (w:=w) sb hsz⟩
  ·exact⟨fun w2=>by simp[Builtin.lenOf],hC⟩
 unfold kP at hs;split at hs
 ·simp only[Option.some.injEq,Prod.mk.injEq]at hs
  obtain⟨rfl,rfl⟩:=hs;cases hx with
  |d hd=>cases hd with|str _ sb hb=>subst hb;exact .inl ⟨sb,rfl,rfl⟩
 all_goals refine .inr ?_
 ·simp only[Option.some.injEq,Prod.mk.injEq]at hs
  obtain⟨rfl,rfl⟩:=hs;refine⟨?_,dK hx.toDRep hsz⟩;cases hx with
  |d hd=>cases hd<;>exact⟨_,_,rfl⟩
 ·simp only[Option.some.injEq,Prod.mk.injEq]at hs
  obtain⟨rfl,rfl⟩:=hs;cases hx with
  |vecNil=>exact⟨⟨_,_,rfl⟩,dK (.roNil _ _) hsz⟩
  |vec _ _ _ L hL hfr hlen hsz' hd=>exact⟨⟨_,_,rfl⟩,dK hd hsz⟩
 ·simp only[Option.some.injEq,Prod.mk.injEq]at hs
  obtain⟨rfl,rfl⟩:=hs;cases hx;exact⟨⟨_,_,rfl⟩,dK (.roNil _ _) hsz⟩
 ·simp only[Option.some.injEq,Prod.mk.injEq]at hs
  obtain⟨rfl,rfl⟩:=hs;cases hx;exact⟨⟨_,_,rfl⟩,dK (.roNil _ _) hsz⟩
 ·rename_i k v off len sz0
  split at hs
  ·rename_i sz' es hob
   split at hs
   ·rename_i hc
    obtain⟨rfl,hin⟩:=hc;simp only[Option.bind_eq_some_iff]at hs;obtain⟨⟨ys,ks⟩,hgo,hs⟩:=hs;split at hs
    ·rename_i hks
     simp only at hks;subst hks;simp only[Option.some.injEq,Prod.mk.injEq]at hs;obtain⟨rfl,rfl⟩:=hs;have hlen:((es.drop off).take len).length=len:=by simp;omega
     obtain⟨hgl,hgi⟩:=jc hgo;have hnl:ys.length=len:=by rw[hgl,hlen]
     cases hx with
     |slNil=>
      have h0:ys=[]:=List.eq_nil_of_length_eq_zero (by omega);subst h0;exact⟨⟨_,_,rfl⟩,dK (.roNil _ _) hsz⟩
     |sl _ _ _ _ c L hL hcap hlc=>
      refine⟨⟨_,_,by rw[hnl]⟩, ?_⟩;rw[hnl];rcases hr.objs k _ hob with ⟨rfl,hLn⟩|⟨L',hL',h1,h2,h3,h4,h6,h5⟩
      ·have h0:len=0:=by simp at hin;omega
       subst h0;have h0:ys=[]:=List.eq_nil_of_length_eq_zero hnl;subst h0;exact dK (.roNil _ _) hsz
      ·rw[hL]at hL'
       simp only[Option.some.injEq]at hL';subst hL'
       have main:∀(i:Nat)(y:D),ys[i]? =some y→∃e,es[off+i]? =some e∧y.cells.length=e.cells.length∧(∀c∈y.cells,c.one=true)∧
           ∀(j:Nat)(c:D),y.cells[j]? =some c→∃u,w.cell? ⟨L.b,(off+i)*sz'+j,none⟩=some u∧u.oneCell'=true∧DRep G.imm w c u:=by
        intro i y hy;have hilt:i<((es.drop off).take len).length:=by rw[←hgl];exact(List.getElem?_eq_some_iff.1 hy).1
        obtain⟨y',k',hy',hview,hk'⟩:=hgi i _ (List.getElem?_eq_getElem hilt);rw[hy]at hy';simp only[Option.some.injEq]at hy';subst hy';have hk0:k'=[]:=List.eq_nil_iff_forall_not_mem.2 (fun k hk=>by have:=hk' k hk;simp at this);subst hk0
        have hees:es[off+i]? =some ((es.drop off).take len)[i]:=by
         have h9:((es.drop off).take len)[i]? =some ((es.drop off).take len)[i]:=List.getElem?_eq_getElem hilt;rw[List.getElem?_take,if_pos (by omega),List.getElem?_drop]at h9;exact h9
        generalize ((es.drop off).take len)[i]=e at hees hview;have hcl:=h4 e (List.mem_of_getElem? hees)
        have hus:∃us:Nat→Value,∀(j:Nat)(c:AV),e.cells[j]? =some c→w.cell? ⟨L.b,(off+i)*sz'+j,none⟩=some (us j)∧(us j).oneCell'=true∧Rep G w c (us j):=by
         refine⟨fun j=>(w.cell? ⟨L.b,(off+i)*sz'+j,none⟩).getD undef,fun j c hc=> ?_⟩;have hj:j<sz':=by rw[←hcl];exact(List.getElem?_eq_some_iff.1 hc).1
         have hfl:(AV.flat es)[(off+i)*sz'+j]? =some c:=by rw[AV.flat,bJ _ sz' es h4 (off+i) j hj,hees,Option.bind_some,hc]
         obtain⟨u,hu,hu1,hur⟩:=h5 _ c hfl;simp only[hu,Option.getD_some];exact⟨trivial,hu1,hur⟩
        obtain⟨us,hus⟩:=hus;obtain⟨v,hv,hvs,hvj⟩:=Rep.of_cells (e:=e) us (fun j c hc=>(hus j c hc).2);have hd:=dT hr _ _ _ _ _ hview hv;rw[xH]at hd;obtain⟨hc1,hc2,hc3⟩:=hd.cells;refine⟨e,hees,by rw[hc1,hvs],hc2,fun j c hc=> ?_⟩
        have hj:j<e.cells.length:=by
         have:=(List.getElem?_eq_some_iff.1 hc).1;rw[hc1,hvs]at this;exact this
        obtain⟨g1,g2,_⟩:=hus j _ (List.getElem?_eq_getElem hj);exact⟨us j,g1,g2,hc3 j c (us j) hc (hvj j hj)⟩
       have hse:ys≠[]→sz=sz':=by
        intro hne;obtain⟨y,r,rfl⟩:=List.exists_cons_of_ne_nil hne;obtain⟨e,he,hl',_⟩:=main 0 y rfl;rw[←hsz y (by simp),hl',h4 e (List.mem_of_getElem? he)]
       have hflen:(D.flat ys).length=len*sz:=by rw[D.flat_len hsz,hnl]
       have hcell:∀(t:Nat)(c:D),(D.flat ys)[t]? =some c→∃u,w.cell? ⟨L.b,off*L.sz+t,none⟩=some u∧u.oneCell'=true∧c.one=true∧DRep G.imm w c u:=by
        intro t c ht;obtain⟨i,j,y,rfl,hj,hy,hc⟩:=fw hsz ht;obtain⟨e,he,hl',ho1,hcc⟩:=main i y hy;obtain⟨u,hu,hu1,hud⟩:=hcc j c hc;have hes:sz=sz':=hse (by rintro rfl;simp at hy);refine⟨u, ?_,hu1,ho1 c (List.mem_of_getElem? hc),hud⟩;rw[h1,hes,←hu];congr 2;rw[Nat.add_mul];omega
       refine⟨(List.range (len*sz)).map fun t=>(w.cell? ⟨L.b,off*L.sz+t,none⟩).getD undef,by simp,fun u hu=> ?_,fun t c ht=> ?_,fun w2 hw2=> ?_⟩
       ·simp only[List.mem_map,List.mem_range]at hu
        obtain⟨t,ht,rfl⟩:=hu;obtain⟨u,hu,hu1,_⟩:=hcell t _ (List.getElem?_eq_getElem (by rw[hflen];exact ht));rw[hu];exact hu1
       ·have hlt:=(List.getElem?_eq_some_iff.1 ht).1
        rw[hflen]at hlt;obtain⟨u,hu,_,h8,h9⟩:=hcell t c ht;exact⟨u,by simp[List.getElem?_range hlt,hu],h8,h9⟩
       ·have hrun:=run_firstCells_some (P:=P) w2 sz len ⟨L.b,off*L.sz,none⟩ len c ((List.range (len*sz)).map fun t=>(w.cell? ⟨L.b,off*L.sz+t,none⟩).getD undef) (by simp) (fun j v hv=>by
          simp only[List.getElem?_map,Option.map_eq_some_iff]at hv;obtain⟨j',hj',rfl⟩:=hv
          have hlt:j<len*sz:=by
           have:=(List.getElem?_eq_some_iff.1 hj').1;simpa using this
          rw[List.getElem?_range hlt]at hj';simp only[Option.some.injEq]at hj';subst hj';obtain⟨u,hu,_⟩:=hcell j _ (List.getElem?_eq_getElem (by rw[hflen];exact hlt));rw[ei,hw2,hu];rfl)
        exact hrun
    ·cases hs
   ·cases hs
  ·cases hs
 ·cases hs
theorem mW{t t':TypeId}(h:vS P t t'=true):t'=t∨P.underlying t'=some .string:=by
 unfold vS at h;by_cases ht:t=t'
 ·exact .inl ht.symm
 ·right
  simp only[Bool.or_eq_true,beq_iff_eq,ht,false_or]at h;split at h
  ·assumption
  ·cases h
theorem jE(t t' ty e e':TypeId)(i:TypeInfo)(ht:P.underlying t=some (.slice e))(hta:vS P t t'=true)(hi:P.info? e=some i)(g sLen sCap:Nat)(bt:Array Value)(hg:w.heap[g]? =some (.cells bt e' (0,0)))
    (xv:Value) (m:Nat) (us:List Value) (hxl:(Builtin.lenOf xv).run P w= .ok m w) (hf:(Builtin.firstCells i.size m xv).run P w= .ok us.toArray w) (h1:∀u∈us,u.oneCell'=true) (hroom:sLen+m≤sCap) (hfit:sLen*i.size+us.length≤bt.size):
    (Builtin.append_ #[t,t'] ty #[.slice (some ⟨g,0,none⟩) sLen sCap,xv]).run P w=
     .ok (.slice (some ⟨g,0,none⟩) (sLen+m) sCap) (w.setRow g (bt.toList.take (sLen*i.size) ++us ++bt.toList.drop (sLen*i.size+us.length)).toArray):=by
 have hst:=run_storeCells_at P g (sLen*i.size) e' us 0 bt w hg (by simpa using hfit) h1;simp only[Nat.add_zero]at hst;rcases mW hta with rfl|hs
 ·simp[Builtin.append_,run_underlying ht,sizeOf,typeInfo,hi,hxl,hroom,hf,ei,hst]
 ·simp[Builtin.append_,run_underlying ht,run_underlying hs,sizeOf,typeInfo,hi,hxl,hroom,hf,ei,hst]
theorem cK(t t' ty e:TypeId)(i:TypeInfo)(z:Value)(ht:P.underlying t=some (.slice e))(hta:vS P t t'=true)(hi:P.info? e=some i)(hz:i.zero=some z)
    (bo:Option Addr) (sLen sCap:Nat) (olds:List Value) (hfo:(Builtin.firstCells i.size sLen (.slice bo sLen sCap)).run P w.drew= .ok olds.toArray w.drew)
    (xv:Value) (m:Nat) (us:List Value) (hxl:∀w2:World,(Builtin.lenOf xv).run P w2= .ok m w2) (hf:(Builtin.firstCells i.size m xv).run P w.drew= .ok us.toArray w.drew)
    (hg:sCap<sLen+m) (hle:sLen+m≤549755813888) (hby:i.bytes≤256):
    (Builtin.append_ #[t,t'] ty #[.slice bo sLen sCap,xv]).run P w=
     .ok (.slice (some ⟨w.heap.size,0,none⟩) (sLen+m) (grownCap w (sLen+m) sCap e)) (w.drew.alloc (.cells (olds.toArray ++us.toArray ++Builtin.zeroCells z.cells (grownCap w (sLen+m) sCap e-(sLen+m))) e)):=by
 have hn:¬(sLen+m≤sCap):=by omega
 have h63':¬(9223372036854775807<((sLen:Int)+(m:Int))):=by omega
 have h48':¬(281474976710656<Builtin.nextslicecap (sLen+m) sCap*i.bytes):=by
  have h2:=nextslicecap_le hg;have h3:Builtin.nextslicecap (sLen+m) sCap*i.bytes≤(2*549755813888)*256:=Nat.mul_le_mul (by omega) hby;omega
 have hf':(Builtin.firstCells i.size m xv).run P w.drew= .ok us.toArray w.drew:=hf;rcases mW hta with rfl|hs
 ·simp[Builtin.append_,run_underlying ht,sizeOf,typeInfo,zeroValue,hi,hz,hxl,hn,h63',h48',Question.forced,hf',hfo,newRow,grownCap]
  congr 2;apply Array.ext';simp[List.append_assoc]
 ·simp[Builtin.append_,run_underlying ht,run_underlying hs,sizeOf,typeInfo,zeroValue,hi,hz,hxl,hn,h63',h48',Question.forced,hf',hfo,newRow,grownCap]
  congr 2;apply Array.ext';simp[List.append_assoc]
theorem HQ(z:Array Value)(n:Nat):(Builtin.zeroCells z n).size=n*z.size:=by simp[Builtin.zeroCells]
theorem AV.cells_d(y:D):(AV.d y).cells=y.cells.map .d:=by cases y<;>rfl
theorem mX:∀(l:List D),AV.flat (l.map .d)=(D.flat l).map .d
 |[]=>rfl
 |a::r=>by
  have ih:=mX r;simp only[AV.flat,D.flat]at ih ⊢;simp only[List.map_cons,List.flatMap_cons,List.map_append,AV.cells_d,ih]
def TyOk(P:Program)(t:TypeId)(G G':Gh)(h:ab)(s x:AV):Prop:=
 ∀k v sz l L,x= .vec k v sz l→G'.loc k v=some L→P.underlying t=some (.slice L.ty)∨s.isVec=true∧∃L0,G.loc k (h k).ver=some L0∧L.ty=L0.ty
theorem TyOk.non{P:Program}{t:TypeId}{G G':Gh}{h:ab}{s x:AV}(hx:x.isVec=false):TyOk P t G G' h s x:=by
 intro k v sz l L hv _;rw[hv]at hx;cases hx
theorem TyOk.noLoc{P:Program}{t:TypeId}{G G':Gh}{h:ab}{s:AV}{k v sz:Nat}{l:List D}(hn:G'.loc k v=none):TyOk P t G G' h s (.vec k v sz l):=by
 intro k v sz l L hv hL;cases hv;rw[hn]at hL;cases hL
theorem TyOk.new{P:Program}{t e:TypeId}{G G':Gh}{h:ab}{s:AV}{k v sz:Nat}{l:List D}(hu:P.underlying t=some (.slice e))(hn:∀L,G'.loc k v=some L→L.ty=e):TyOk P t G G' h s (.vec k v sz l):=by
 intro k v sz l L hv hL;cases hv;rw[hn L hL];exact .inl hu
theorem rN(hr:HR G B w0 I0 h w){obm:Bool}{t t' ty:TypeId}(hta:vS P t t'=true){s x:AV}{vs vx:Value}(hs:Rep G w s vs)(hx:Rep G w x vx){k:Nat}{out:Out}(ho:cN P obm t s x k h=some out):
    out.ob=[]∧∃v w' G',(Builtin.append_ #[t,t'] ty #[vs,vx]).run P w= .ok v w'∧Ext G w G' w'∧HR G' B w0 I0 (aq h out.wr) w'∧Rep G' w' out.val v∧TyOk P t G G' h s out.val:=by
 unfold cN at ho;split at ho
 ·rename_i e hu
  split at ho
  ·rename_i news rs z hsrc hz
   split at ho
   ·rename_i hc
    obtain⟨hall,hpos,hby,hzs⟩:=hc;obtain⟨i,hi,hiz,hsz,hbe⟩:=uy hz;have hnc:∀y∈news,y.cells.length=P.cellsOf e:=fun y hy=>by simpa using List.all_eq_true.1 hall y hy
    obtain⟨hxl,us,hus1,hus2,hus3,hus4⟩:=xI (P:=P) hr hx hsrc hnc;have hfw:=hus4 w (fun _ _=>rfl);have hfd:=hus4 w.drew (fun _ _=>rfl);rw[hsz]at hfw hfd;rw[hbe]at hby;have hfl:(D.flat news).length=news.length*P.cellsOf e:=D.flat_len hnc
    have hnewcell:∀(olds:List Value)(rest:Array Value)(l:List D),olds.length=l.length*P.cellsOf e→(∀y∈l,y.cells.length=P.cellsOf e)→(∀(t:Nat)(c:D),(D.flat l)[t]? =some c→∃u:Value,olds[t]? =some u∧c.one=true∧DRep G.imm w c u)→
        ∀(t:Nat)(c:D),(D.flat (l ++news))[t]? =some c→∃u:Value,(olds.toArray ++us.toArray ++rest)[t]? =some u∧c.one=true∧DRep G.imm w c u:=by
     intro olds rest l hol hlc hold t c ht;have hfl2:(D.flat l).length=l.length*P.cellsOf e:=D.flat_len hlc;have hsplit:D.flat (l ++news)=D.flat l ++D.flat news:=List.flatMap_append;rw[hsplit]at ht;rw[←Array.getElem?_toList];simp only[Array.toList_append];by_cases htl:t<(D.flat l).length
     ·rw[List.getElem?_append_left htl]at ht
      obtain⟨u,hu,h1,h2⟩:=hold t c ht;have:t<olds.length:=by omega
      refine⟨u, ?_,h1,h2⟩;rw[List.append_assoc,List.getElem?_append_left (by simpa using this)];exact hu
     ·rw[List.getElem?_append_right (by omega)]at ht
      obtain⟨u,hu,h1,h2⟩:=hus3 _ c ht;have hlt:=(List.getElem?_eq_some_iff.1 hu).1;refine⟨u, ?_,h1,h2⟩;have e1:(D.flat l).length=olds.length:=by rw[hol];exact hfl2
      rw[e1]at hu hlt;rw[e1]at ht;have htl':¬t<olds.length:=by omega
      rw[List.append_assoc,List.getElem?_append_right (by simpa using htl'),List.getElem?_append_left (by simpa using hlt)];simpa using hu
    have hex0:Ext G w G w.drew:=Ext.drew G w;have hrd:=hr.drew
    have hnd:∀y∈news.map AV.d,y.cells.length=P.cellsOf e:=by
     intro y hy;obtain⟨y',hy',rfl⟩:=List.mem_map.1 hy;rw[AV.cells_d,List.length_map];exact hnc y' hy'
    have hlod:news.all D.one=true→∀y∈news.map AV.d,y.lone=true:=by
     intro hall1 y hy;obtain⟨y',hy',rfl⟩:=List.mem_map.1 hy;have:=List.all_eq_true.1 hall1 y' hy';cases y'<;>first|rfl|(simp[D.one]at this)
    have growArr:∀(sLen sCap:Nat)(olds:List Value),olds.length=sLen*P.cellsOf e→
        (olds.toArray ++us.toArray ++Builtin.zeroCells z.cells (grownCap w (sLen+news.length) sCap e-(sLen+news.length))).size=grownCap w (sLen+news.length) sCap e*P.cellsOf e:=by
     intro sLen sCap olds hol;have hge:=grownCap_ge w (sLen+news.length) sCap e;simp only[Array.size_append,HQ,hzs,List.size_toArray,hus1,hol];rw[←Nat.add_mul,←Nat.add_mul];congr 1;omega
    have avCell:∀(olds:List Value)(rest:Array Value)(xs:List AV),olds.length=xs.length*P.cellsOf e→(∀y∈xs,y.cells.length=P.cellsOf e)→(∀(t:Nat)(c:AV),(AV.flat xs)[t]? =some c→∃u:Value,olds[t]? =some u∧u.oneCell'=true∧Rep G w c u)→
        ∀(t:Nat)(c:AV),(AV.flat (xs ++news.map .d))[t]? =some c→∃u:Value,(olds.toArray ++us.toArray ++rest)[t]? =some u∧u.oneCell'=true∧Rep G w c u:=by
     intro olds rest xs hol hxc hold t c ht;have hfl2:(AV.flat xs).length=xs.length*P.cellsOf e:=dH _ _ xs hxc;have hsplit:AV.flat (xs ++news.map .d)=AV.flat xs ++(D.flat news).map .d:=by rw[←mX];exact List.flatMap_append
     rw[hsplit]at ht;rw[←Array.getElem?_toList];simp only[Array.toList_append];by_cases htl:t<(AV.flat xs).length
     ·rw[List.getElem?_append_left htl]at ht
      obtain⟨u,hu,h1,h2⟩:=hold t c ht;have:t<olds.length:=by omega
      exact⟨u,by rw[List.append_assoc,List.getElem?_append_left (by simpa using this)];exact hu,h1,h2⟩
     ·rw[List.getElem?_append_right (by omega),List.getElem?_map,Option.map_eq_some_iff]at ht
      obtain⟨c',hc',rfl⟩:=ht;obtain⟨u,hu,h1,h2⟩:=hus3 _ c' hc';have hlt:=(List.getElem?_eq_some_iff.1 hu).1;have e1:(AV.flat xs).length=olds.length:=by rw[hol];exact hfl2
      rw[e1]at hu hlt;refine⟨u, ?_,h2.oneCell h1, .d h2⟩;have htl':¬t<olds.length:=by omega
      rw[List.append_assoc,List.getElem?_append_right (by simpa using htl'),List.getElem?_append_left (by simpa using hlt)];simpa using hu
    have avCellD:∀(olds:List Value)(rest:Array Value)(xs:List AV),olds.length=xs.length*P.cellsOf e→(∀y∈xs,y.cells.length=P.cellsOf e)→(∀(t:Nat)(c:AV),(AV.flat xs)[t]? =some c→∃u:Value,olds[t]? =some u∧u.oneCell'=true∧Rep G w c u)→
        ∀(t:Nat)(c:AV),(AV.flat (xs ++news.map .d))[t]? =some c→∃u:Value,(olds.toArray ++us.toArray ++rest)[t]? =some u∧u.oneCell'=true∧Rep G w.drew c u:=by
     intro olds rest xs a1 a2 a3 t c ht;obtain⟨u,h1,h2,h3⟩:=avCell olds rest xs a1 a2 a3 t c ht;exact⟨u,h1,h2,h3.mono hex0⟩
    have hnewcellD:∀(olds:List Value)(rest:Array Value)(l:List D),olds.length=l.length*P.cellsOf e→(∀y∈l,y.cells.length=P.cellsOf e)→(∀(t:Nat)(c:D),(D.flat l)[t]? =some c→∃u:Value,olds[t]? =some u∧c.one=true∧DRep G.imm w c u)→
        ∀(t:Nat)(c:D),(D.flat (l ++news))[t]? =some c→∃u:Value,(olds.toArray ++us.toArray ++rest)[t]? =some u∧c.one=true∧DRep G.imm w.drew c u:=by
     intro olds rest l a1 a2 a3 t c ht;obtain⟨u,h1,h2,h3⟩:=hnewcell olds rest l a1 a2 a3 t c ht;exact⟨u,h1,h2,h3.mono hex0.imm hex0.cell⟩
    have roomNil:∀(ao':Option Addr),news.length=0→(Builtin.append_ #[t,t'] ty #[.slice ao' 0 0,vx]).run P w= .ok (.slice ao' 0 0) w:=by
     intro ao' hn0;have hnil:news=[]:=List.eq_nil_of_length_eq_zero hn0;subst hnil;have hus0:us=[]:=List.eq_nil_of_length_eq_zero (by simpa using hus1);subst hus0;simp at hfw hxl;rcases mW hta with rfl|hs'
     ·cases ao' with
      |none=>simp[Builtin.append_,run_underlying hu,sizeOf,typeInfo,hi,hxl,hfw]
      |some a=>simp[Builtin.append_,run_underlying hu,sizeOf,typeInfo,hi,hxl,hfw,storeCells]
     ·cases ao' with
      |none=>simp[Builtin.append_,run_underlying hu,run_underlying hs',sizeOf,typeInfo,hi,hxl,hfw]
      |some a=>simp[Builtin.append_,run_underlying hu,run_underlying hs',sizeOf,typeInfo,hi,hxl,hfw,storeCells]
    have firstNone:(Builtin.firstCells i.size 0 (.slice none 0 0)).run P w.drew= .ok ([]:List Value).toArray w.drew:=by simp[Builtin.firstCells]
    split at ho
    ·
     split at ho
     ·cases ho
     ·rename_i hk
      have hk2:news.length≤549755813888:=by
       rcases Nat.lt_or_ge 549755813888 news.length with h9|h9
       ·exact absurd (Or.inr h9) hk
       ·exact h9
      cases hs;by_cases hn0:news.length=0
      ·have hrun:=roomNil none hn0
       have hnil:news=[]:=List.eq_nil_of_length_eq_zero hn0;split at ho
       ·split at ho
        ·cases ho
        ·simp only[Option.some.injEq]at ho
         subst ho;obtain⟨G',g1,g2,_⟩:=hr.bump k (some (.arr (P.cellsOf e) (news.map .d))) (fun o ho'=>by rw[hnil]at ho';simp at ho';exact⟨_,ho'.symm⟩);rw[hn0];try rw[hn0]at hrun
         exact⟨rfl,_,w,G',hrun,g2,g1, .slNil _ _ _,TyOk.non rfl⟩
       ·simp only[Option.some.injEq]at ho
        subst ho;obtain⟨G',g1,g2,g9⟩:=hr.bump k none (fun o ho'=>by cases ho');rw[hnil];try rw[hnil]at hrun
        exact⟨rfl,_,w,G',hrun,g2,g1, .vecNil _ _ _,TyOk.noLoc g9⟩
      ·have hrun:=cK (w:=w) t t' ty e i z hu hta hi hiz none 0 0 [] firstNone vx news.length us hxl hfd (by omega) (by omega) hby
       have hge:=grownCap_ge w (0+news.length) 0 e;have harr:=growArr 0 0 [] (by simp);split at ho
       ·split at ho
        ·cases ho
        ·rename_i hlo
         simp only[Option.some.injEq]at ho;subst ho
         obtain⟨g1,g2⟩:=hrd.newOb k (P.cellsOf e) (grownCap w (0+news.length) 0 e) (news.map .d) _ e harr (by rw[List.length_map];omega) hnd (fun h1=>hlod (by
          cases hxa:news.all D.one with
          |true=>rfl
          |false=>exact absurd ⟨h1,hxa⟩ hlo)) (by simpa using avCellD [] (Builtin.zeroCells z.cells (grownCap w (0+news.length) 0 e-(0+news.length))) [] (by simp) (by simp) (by simp[AV.flat]))
         refine⟨rfl,_,_,_,hrun,hex0.trans g2,g1, ?_,TyOk.non rfl⟩;have:=Rep.sl (w:=w.drew.alloc (.cells (([]:List Value).toArray ++us.toArray ++Builtin.zeroCells z.cells (grownCap w (0+news.length) 0 e-(0+news.length))) e)) k ((h k).ver+1) 0 news.length (grownCap w (0+news.length) 0 e) _ (Gh.at_same G k ((h k).ver+1) ⟨w.heap.size,P.cellsOf e,grownCap w (0+news.length) 0 e,0,e⟩) (by simp) (by omega);simpa using this
       ·simp only[Option.some.injEq]at ho
        subst ho;obtain⟨G',g1,g2,g3,g9⟩:=hrd.newVecT k (P.cellsOf e) (grownCap w (0+news.length) 0 e) news _ e harr (by omega) hnc (by simpa using hnewcellD [] (Builtin.zeroCells z.cells (grownCap w (0+news.length) 0 e-(0+news.length))) [] (by simp) (by simp) (by simp[D.flat]));refine⟨rfl,_,_,G',hrun,hex0.trans g2,g1, ?_,TyOk.new hu g9⟩;simpa using g3
    ·
     split at ho
     ·cases ho
     ·rename_i hk2
      simp only[Option.some.injEq]at ho;subst ho;cases hs with
      |es ao'=>
       by_cases hn0:news.length=0
       ·have hrun:=roomNil ao' hn0
        have hnil:news=[]:=List.eq_nil_of_length_eq_zero hn0;refine⟨rfl,_,w,G,hrun,Ext.refl G w,hr, ?_,TyOk.non rfl⟩;rw[hnil];exact .d (.roNil _ _)
       ·have hf0:(Builtin.firstCells i.size 0 (.slice ao' 0 0)).run P w.drew= .ok ([]:List Value).toArray w.drew:=by
          cases ao' with
          |none=>exact firstNone
          |some a=>exact run_firstCells_some (P:=P) w.drew i.size 0 a 0 0 [] (by simp) (by simp)
        have hrun:=cK (w:=w) t t' ty e i z hu hta hi hiz ao' 0 0 [] hf0 vx news.length us hxl hfd (by omega) (by omega) hby;have hge:=grownCap_ge w (0+news.length) 0 e;obtain⟨G',g1,g2,g3⟩:=hrd.newImm news (P.cellsOf e) (grownCap w (0+news.length) 0 e) (([]:List Value).toArray ++us.toArray ++Builtin.zeroCells z.cells (grownCap w (0+news.length) 0 e-(0+news.length))) e (by omega) hnc (by simpa using hnewcellD [] (Builtin.zeroCells z.cells (grownCap w (0+news.length) 0 e-(0+news.length))) [] (by simp) (by simp) (by simp[D.flat]));refine⟨rfl,_,_,G',hrun,hex0.trans g2,g1, .d ?_,TyOk.non rfl⟩;simpa using g3
    ·
     rename_i k' v sz l;split at ho
     ·rename_i hc
      obtain⟨rfl,hob,hkrs,hsze,hle⟩:=hc;have hob:(h k').ob=none:=by simpa using hob
      simp only[Option.some.injEq]at ho;subst ho;cases hs with
      |vecNil=>
       subst hsze;by_cases hn0:news.length=0
       ·have hrun:=roomNil none hn0
        have hnil:news=[]:=List.eq_nil_of_length_eq_zero hn0;obtain⟨G',g1,g2,g9⟩:=hr.bump k' none (fun o ho'=>by cases ho');rw[hnil];try rw[hnil]at hrun
        exact⟨rfl,_,w,G',hrun,g2,g1, .vecNil _ _ _,TyOk.noLoc g9⟩
       ·simp at hle
        have hrun:=cK (w:=w) t t' ty e i z hu hta hi hiz none 0 0 [] firstNone vx news.length us hxl hfd (by omega) (by omega) hby;have hge:=grownCap_ge w (0+news.length) 0 e;have harr:=growArr 0 0 [] (by simp);obtain⟨G',g1,g2,g3,g9⟩:=hrd.newVecT k' (P.cellsOf e) (grownCap w (0+news.length) 0 e) news _ e harr (by omega) hnc (by simpa using hnewcellD [] (Builtin.zeroCells z.cells (grownCap w (0+news.length) 0 e-(0+news.length))) [] (by simp) (by simp) (by simp[D.flat]));refine⟨rfl,_,_,G',hrun,hex0.trans g2,g1, ?_,TyOk.new hu g9⟩;simpa using g3
      |vec _ _ _ L hL hfr hlen hlsz hd=>
       obtain⟨olds,ho1,ho2,ho3,ho4⟩:=dK (P:=P) hd hlsz;obtain⟨hB,⟨arr,e',hb,has⟩,_⟩:=hr.own k' L hL;by_cases hroom:l.length+news.length≤L.cap
       ·have hfit:l.length*i.size+us.length≤arr.size:=by
          rw[has.1,hsze,hus1,←hsz,←Nat.add_mul];exact Nat.mul_le_mul_right _ hroom
        have hrun:=jE t t' ty e e' i hu hta hi L.b l.length L.cap arr hb vx news.length us (hxl w) hfw hus2 hroom hfit;have hseg:=fun s=>nG arr.toList us (l.length*i.size) s (by simpa using hfit)
        have hLs:L.sz=P.cellsOf e:=hsze
        have hcelllist:∀(t:Nat)(c:D),(D.flat l)[t]? =some c→∃u:Value,arr[t]? =some u∧c.one=true∧DRep G.imm w c u:=by
         intro t c ht;cases hd with
         |roNil=>simp[D.flat]at ht
         |ro _ b o c' sz' U hcap hsz' h1 hi' hc' hr'=>
          have:=hc' t c ht;rw[Nat.zero_add]at this;exact⟨U t,by simpa [World.cell?,hb]using this,h1 c (List.mem_of_getElem? ht),hr' t c ht⟩
        have hfl2:(D.flat l).length=l.length*P.cellsOf e:=by rw[D.flat_len hlsz,hLs]
        obtain⟨G',g1,g2,g3,g9⟩:=hr.growT (news:=news) hob hL hfr hb (arr':=(arr.toList.take (l.length*i.size) ++us ++arr.toList.drop (l.length*i.size+us.length)).toArray) (by simp;omega) hroom hlsz (fun y hy=>by rw[hLs];exact hnc y hy) (fun s hs=>by
         rw[List.getElem?_toArray,hseg s,if_pos (by rw[←hsz,←hLs];exact hs)];simp) (fun s c hs=>by
         have hsplit:D.flat (l ++news)=D.flat l ++D.flat news:=List.flatMap_append;rw[hsplit]at hs;rw[List.getElem?_toArray,hseg s];by_cases hsl:s<(D.flat l).length
         ·rw[List.getElem?_append_left hsl]at hs
          obtain⟨u,hu',h1,h2⟩:=hcelllist s c hs;refine⟨u, ?_,h1,h2⟩;rw[if_pos (by rw[←hsz];omega)];simpa using hu'
         ·rw[List.getElem?_append_right (by omega)]at hs
          obtain⟨u,hu',h1,h2⟩:=hus3 _ c hs;have hlt:=(List.getElem?_eq_some_iff.1 hu').1;refine⟨u, ?_,h1,h2⟩;rw[if_neg (by rw[←hsz];omega),if_pos (by rw[←hsz];omega),←hsz,←hfl2];exact hu')
        exact⟨rfl,_,_,G',hrun,g2,g1,g3,fun _ _ _ _ L1 hv hL1=>by
         cases hv;exact .inr ⟨rfl,L,hL,g9 L1 hL1⟩⟩
       ·have hfo:=ho4 w.drew (fun _ _=>rfl)
        have hLs:L.sz=P.cellsOf e:=hsze;rw[hLs,hsz]at hfo;have hrun:=cK (w:=w) t t' ty e i z hu hta hi hiz (some ⟨L.b,0,none⟩) l.length L.cap olds hfo vx news.length us hxl hfd (by omega) hle hby;have hge:=grownCap_ge w (l.length+news.length) L.cap e;have harr:=growArr l.length L.cap olds (by rw[ho1,hLs])
        obtain⟨G',g1,g2,g3,g9⟩:=hrd.newVecT k' (P.cellsOf e) (grownCap w (l.length+news.length) L.cap e) (l ++news) _ e harr (by rw[List.length_append];omega) (fun y hy=>by
         rcases List.mem_append.1 hy with hy|hy
         ·rw[←hLs];exact hlsz y hy
         ·exact hnc y hy) (hnewcellD olds (Builtin.zeroCells z.cells (grownCap w (l.length+news.length) L.cap e-(l.length+news.length))) l (by rw[ho1,hLs]) (fun y hy=>by rw[←hLs];exact hlsz y hy) ho3)
        refine⟨rfl,_,_,G',hrun,hex0.trans g2,g1, ?_,TyOk.new hu g9⟩;rw[List.length_append,←hLs]at g3;exact g3
     ·cases ho
    ·
     rename_i k' v off len sz0;split at ho
     ·rename_i sz es hob
      split at ho
      ·rename_i hc
       obtain⟨rfl,rfl,hles,rfl,hle,hone⟩:=hc;simp only[Option.some.injEq]at ho;subst ho;have htl:(es.take len).length=len:=by simp;omega
       have hlo':∀(hlo:P.cellsOf e=1→∀x∈es,x.lone=true),P.cellsOf e=1→∀x∈es.take len ++news.map .d,x.lone=true:=by
        intro hlo h1 x hx;rcases List.mem_append.1 hx with hx|hx
        ·exact hlo h1 x (List.mem_of_mem_take hx)
        ·exact hlod (hone h1) x hx
       cases hs with
       |slNil=>
        by_cases hn0:news.length=0
        ·have hrun:=roomNil none hn0
         have hnil:news=[]:=List.eq_nil_of_length_eq_zero hn0;obtain⟨G',g1,g2,_⟩:=hr.bump k' (some (.arr (P.cellsOf e) (es.take 0 ++news.map .d))) (fun o ho'=>by rw[hnil]at ho';simp at ho';exact⟨_,ho'.symm⟩);rw[hn0];try rw[hn0]at hrun
         exact⟨rfl,_,w,G',hrun,g2,g1, .slNil _ _ _,TyOk.non rfl⟩
        ·have hrun:=cK (w:=w) t t' ty e i z hu hta hi hiz none 0 0 [] firstNone vx news.length us hxl hfd (by omega) (by omega) hby
         have hge:=grownCap_ge w (0+news.length) 0 e;have harr:=growArr 0 0 [] (by simp);obtain⟨g1,g2⟩:=hrd.newOb k' (P.cellsOf e) (grownCap w (0+news.length) 0 e) (es.take 0 ++news.map .d) _ e harr (by rw[List.length_append,List.length_map,List.length_take];omega) (by simpa using hnd) (fun h1=>by simpa using hlod (hone h1)) (by simpa using avCellD [] (Builtin.zeroCells z.cells (grownCap w (0+news.length) 0 e-(0+news.length))) [] (by simp) (by simp) (by simp[AV.flat]));refine⟨rfl,_,_,_,hrun,hex0.trans g2,g1, ?_,TyOk.non rfl⟩;have:=Rep.sl (w:=w.drew.alloc (.cells (([]:List Value).toArray ++us.toArray ++Builtin.zeroCells z.cells (grownCap w (0+news.length) 0 e-(0+news.length))) e)) k' ((h k').ver+1) 0 (0+news.length) (grownCap w (0+news.length) 0 e) _ (Gh.at_same G k' ((h k').ver+1) ⟨w.heap.size,P.cellsOf e,grownCap w (0+news.length) 0 e,0,e⟩) (by simp) (by omega);simpa using this
       |sl _ _ _ _ cc L hL hcap hlc=>
        rcases hr.objs k' _ hob with ⟨_,hLn⟩|⟨L',hL',h1,h2,h3,h4,h6,h5⟩
        ·rw[hL]at hLn;cases hLn
        ·rw[hL]at hL'
         simp only[Option.some.injEq]at hL';subst hL';obtain⟨hB,⟨arr,e',hb,has⟩,_⟩:=hr.own k' L hL;have htc:∀y∈es.take len,y.cells.length=P.cellsOf e:=fun y hy=>h4 y (List.mem_of_mem_take hy)
         have hall':∀y∈es.take len ++news.map .d,y.cells.length=P.cellsOf e:=fun y hy=>by
          rcases List.mem_append.1 hy with hy|hy
          ·exact htc y hy
          ·exact hnd y hy
         have hfl2:(AV.flat (es.take len)).length=len*P.cellsOf e:=by rw[AV.flat,dH _ _ _ htc,htl]
         have hold:∀(t:Nat)(c:AV),(AV.flat (es.take len))[t]? =some c→∃u:Value,arr[t]? =some u∧u.oneCell'=true∧Rep G w c u:=by
          intro t c ht
          have:AV.flat es=AV.flat (es.take len) ++AV.flat (es.drop len):=by
           show List.flatMap _ _=List.flatMap _ _ ++List.flatMap _ _;rw[←List.flatMap_append,List.take_append_drop]
          have hlt:=(List.getElem?_eq_some_iff.1 ht).1;obtain⟨u,hu',hu1,hur⟩:=h5 t c (by rw[this,List.getElem?_append_left hlt];exact ht);exact⟨u,by simpa [World.cell?,hb]using hu',hu1,hur⟩
         have hz0:(⟨L.b,0*L.sz,none⟩:Addr)=⟨L.b,0,none⟩:=by simp
         rw[hz0];by_cases hroom:len+news.length≤cc
         ·have hfit:len*i.size+us.length≤arr.size:=by
            rw[has.1,h1,hus1,←hsz,←Nat.add_mul];exact Nat.mul_le_mul_right _ (by omega)
          have hrun:=jE t t' ty e e' i hu hta hi L.b len cc arr hb vx news.length us (hxl w) hfw hus2 hroom hfit;have hseg:=fun s=>nG arr.toList us (len*i.size) s (by simpa using hfit)
          obtain⟨g1,g2⟩:=hr.regrow (es':=es.take len ++news.map .d) hL h1 h2 hb (arr':=(arr.toList.take (len*i.size) ++us ++arr.toList.drop (len*i.size+us.length)).toArray) (by simp;omega) (by simp;omega) hall' (hlo' h6) (fun s c hs=>by
           have hsplit:AV.flat (es.take len ++news.map .d)=AV.flat (es.take len) ++(D.flat news).map .d:=by rw[←mX];exact List.flatMap_append
           rw[hsplit]at hs;rw[List.getElem?_toArray,hseg s];by_cases hsl:s<(AV.flat (es.take len)).length
           ·rw[List.getElem?_append_left hsl]at hs
            obtain⟨u,hu',h1',h2'⟩:=hold s c hs;refine⟨u, ?_,h1',h2'⟩;rw[if_pos (by rw[←hsz];omega)];simpa using hu'
           ·rw[List.getElem?_append_right (by omega),List.getElem?_map,Option.map_eq_some_iff]at hs
            obtain⟨c',hc',rfl⟩:=hs;obtain⟨u,hu',h1',h2'⟩:=hus3 _ c' hc';have hlt:=(List.getElem?_eq_some_iff.1 hu').1;refine⟨u, ?_,h2'.oneCell h1', .d h2'⟩;rw[if_neg (by rw[←hsz];omega),if_pos (by rw[←hsz];omega),←hsz,←hfl2];exact hu')
          refine⟨rfl,_,_,_,hrun,g2,g1, ?_,TyOk.non rfl⟩;have:=Rep.sl (w:=w.setRow L.b (arr.toList.take (len*i.size) ++us ++arr.toList.drop (len*i.size+us.length)).toArray) k' ((h k').ver+1) 0 (len+news.length) cc L (Gh.at_same G k' ((h k').ver+1) L) hcap hroom;rw[hz0,h1]at this;exact this
         ·have hfo:(Builtin.firstCells i.size len (.slice (some ⟨L.b,0,none⟩) len cc)).run P w.drew= .ok (arr.toList.take (len*i.size)).toArray w.drew:=by
            refine run_firstCells_some (P:=P) w.drew i.size len ⟨L.b,0,none⟩ len cc _ ?_ (fun j v hj=> ?_)
            ·have:len*i.size≤arr.size:=by rw[has.1,h1,←hsz];exact Nat.mul_le_mul_right _ (by omega)
             simp;omega
            ·rw[List.getElem?_take]at hj
             split at hj
             ·rw[ei,Nat.zero_add]
              show w.cell? _=_;simpa [World.cell?,hb]using hj
             ·cases hj
          have hol:(arr.toList.take (len*i.size)).length=len*P.cellsOf e:=by
           have:len*i.size≤arr.size:=by rw[has.1,h1,←hsz];exact Nat.mul_le_mul_right _ (by omega)
           rw[hsz];simp;omega
          have hrun:=cK (w:=w) t t' ty e i z hu hta hi hiz (some ⟨L.b,0,none⟩) len cc _ hfo vx news.length us hxl hfd (by omega) hle hby;have hge:=grownCap_ge w (len+news.length) cc e;have harr:=growArr len cc _ hol
          obtain⟨g1,g2⟩:=hrd.newOb k' (P.cellsOf e) (grownCap w (len+news.length) cc e) (es.take len ++news.map .d) _ e harr (by rw[List.length_append,List.length_map,htl];omega) hall' (hlo' h6) (avCellD (arr.toList.take (len*i.size)) (Builtin.zeroCells z.cells (grownCap w (len+news.length) cc e-(len+news.length))) (es.take len) (by rw[hol,htl]) htc (fun s c hs=>by
           obtain⟨u,hu',h1',h2'⟩:=hold s c hs;have hlt:=(List.getElem?_eq_some_iff.1 hs).1;refine⟨u, ?_,h1',h2'⟩;rw[List.getElem?_take,if_pos (by rw[←hsz];omega)];simpa using hu'))
          refine⟨rfl,_,_,_,hrun,hex0.trans g2,g1, ?_,TyOk.non rfl⟩;have:=Rep.sl (w:=w.drew.alloc (.cells ((arr.toList.take (len*i.size)).toArray ++us.toArray ++Builtin.zeroCells z.cells (grownCap w (len+news.length) cc e-(len+news.length))) e)) k' ((h k').ver+1) 0 (len+news.length) (grownCap w (len+news.length) cc e) _ (Gh.at_same G k' ((h k').ver+1) ⟨w.heap.size,P.cellsOf e,grownCap w (len+news.length) cc e,0,e⟩) (by simp) (by omega);simpa using this
      ·cases ho
     ·cases ho
    ·cases ho
   ·cases ho
  ·cases ho
 ·cases ho
theorem vW{obm:Bool}{t:TypeId}{s x:AV}{k:Nat}{out:Out}(ho:cN P obm t s x k h=some out){k' v sz:Nat}{l:List D}(hv:out.val= .vec k' v sz l):v≤(aq h out.wr k').ver:=by
 unfold cN at ho;repeat' split at ho
 all_goals first
  |(cases ho;done)
  |(simp only[Option.some.injEq]at ho;subst ho;simp only at hv;cases hv<;>simp[aq,aM])
theorem jd(hr:HR G B w0 I0 h w){k v:Nat}{T:TypeId}{n:Option Nat}(ht:nA h k v=some (T,n)):∀L,G.loc k v=some L→L.ty=T∧∀m,n=some m→L.cap*L.sz=m:=by
 unfold nA at ht;split at ht
 ·rename_i k' v' T' n' hob
  split at ht
  ·rename_i hc
   obtain⟨rfl,rfl⟩:=hc;cases ht;exact(hr.objs _ _ hob).2
  ·cases ht
 ·cases ht
theorem qx(hr:HR G B w0 I0 h w){obm:Bool}{t t' ty:TypeId}(hta:vS P t t'=true){s x:AV}{vs vx:Value}(hs:Rep G w s vs)(hx:Rep G w x vx){k:Nat}{out:Out}(ho:fK P obm t s x k h=some out):
    out.ob=[]∧∃v w' G',(Builtin.append_ #[t,t'] ty #[vs,vx]).run P w= .ok v w'∧Ext G w G' w'∧HR G' B w0 I0 (aq h out.wr) w'∧Rep G' w' out.val v:=by
 unfold fK at ho;split at ho;case h_2=>cases ho
 rename_i out1 hout;obtain⟨h0,v,w',G',h1,h2,h3,h4,h5⟩:=rN hr (ty:=ty) hta hs hx hout;split at ho
 ·rename_i e k' v' sz' l' hby hu hval
  split at ho
  ·rename_i hc
   simp only[Option.some.injEq]at ho;subst ho;rw[(fN ..).1,(fN ..).2];refine⟨h0,v,w',G',h1,h2, ?_,h4⟩;refine jp (out:={out1 with rd:=k'::kB k'::out1.rd}) h3 true e none k' v' (vW hout hval) (fun _ L hL=>⟨?_,fun m hm=>by cases hm⟩);rcases h5 k' v' sz' l' L hval hL with h6|⟨h6,L0,h7,h8⟩
   ·rw[hu]at h6;cases h6;rfl
   ·rcases hc.2 with h9|h9
    ·rw[h6]at h9;cases h9
    ·rw[h8];exact(jd hr h9 L0 h7).1
  ·simp only[Option.some.injEq]at ho
   subst ho;exact⟨h0,v,w',G',h1,h2,h3,h4⟩
 ·simp only[Option.some.injEq]at ho
  subst ho;exact⟨h0,v,w',G',h1,h2,h3,h4⟩
end
end Go.Avm
