/-
  Types: 'slices.Sorted(maps.Values(m))' of a map of names to numbers: the kit's contracts, turned to the machine's.
-/
import Derived.Test.YtcjiafanhlhdlaaGreatDoorG07
import Derived.Shelf.SlIter.AllValues
import Derived.Lib.SlKeysI
import Derived.Maps.RangeRun
import Derived.IntWalk
set_option linter.unusedVariables false
set_option linter.unusedSimpArgs false
set_option linter.unusedSectionVars false
namespace Go.Avm
open Go.Proofs Go.RowKit Go.Maps Go.WideElems Go.WideShapes
variable[aJ]
structure EE(es:List (D×D×Nat))(c:Nat):Prop where
 ent:∀e∈es,∃(l:List UInt8)(n:Nat),e.1= .str l∧e.2.1= .int .i64 n∧l.length≤maxLen∧n<4611686018427387904∧e.2.2<c
 keys:(es.map (·.1)).Nodup
 born:(es.map (·.2.2)).Nodup
 len:es.length≤1000000
def wC:D→List UInt8
 | .str l=>l
 |_=>[]
def KX:D→Int
 | .int _ n=>n
 |_=>0
def oC(es:List (D×D×Nat)):List Int:=es.map fun e=>KX e.2.1
def lC(zs:List Int):List Int:=zs.mergeSort fun x y=>decide (x≤y)
def H3:DataW Unit→Int
 | .lit (.int _ n)=>n
 |_=>0
def uq(e:D×D×Nat):Lit×DataW Unit:=(.string (wC e.1), .lit (.int .i64 (KX e.2.1)))
theorem sU{H:Type}:∀(es:List (Lit×DataW H)),es.Pairwise (fun p q=>p.1≠q.1)→∀p∈es,∀x,p.1= .string x→es.find? (fun q=>q.1.sameKey (.string x))=some p
 |[],_,p,hp,_,_=>by cases hp
 |a::r,hpw,p,hp,x,hx=>by
  rw[List.pairwise_cons]at hpw;rcases List.mem_cons.1 hp with rfl|hp'
  ·rw[List.find?_cons_of_pos (by rw[hx];simp[Lit.sameKey])]
  ·have hne:a.1≠p.1:=hpw.1 p hp'
   rw[List.find?_cons_of_neg (by rw[←hx,sameKey_ne hne];simp)];exact sU r hpw.2 p hp' x hx
theorem EF{P:Program}{kT eT:TypeId}(hk:P.underlying kT=some .string)(he:P.underlying eT=some (.int .i64)){imm:Nat→Nat→Prop}{w:World}{b:Nat}{es:List (D×D×Nat)}{c:Nat}{ms:Array MapEntry}(hsz:ms.size=es.length)
    (hent:∀(i:Nat)(e:D×D×Nat)(m:MapEntry),es[i]? =some e→ms[i]? =some m→DRep imm w e.1 m.key∧DRep imm w e.2.1 m.val∧m.born=e.2.2) (hn:EE es c):
    Fit P kT (plainElem (H:=Unit) P eT) ms c∧ms.toList.map (rg P kT (plainElem (H:=Unit) P eT))=es.map uq:=by
 have hrd:∀(i:Nat)(e:D×D×Nat)(m:MapEntry),es[i]? =some e→ms[i]? =some m→rd P kT (plainElem (H:=Unit) P eT) m=some (uq e)∧m.key= .string ⟨(wC e.1).toArray⟩:=fun i e m h1 h2=>by
  obtain⟨d1,d2,_⟩:=hent i e m h1 h2;obtain⟨l,n,e1,e2,h3,h4,_⟩:=hn.ent e (List.mem_of_getElem? h1);rw[e1]at d1;rw[e2]at d2;generalize hmk:m.key=mk at d1;generalize hmv:m.val=mv at d2;cases d1 with
  |str _ s hs=>
  cases d2 with
  |int _ _=>
  have hsz:s.size≤maxLen:=by
   have:s.size=s.data.toList.length:=by rw[Array.length_toList];rfl
   rw[this,hs];exact h3
  refine⟨?_,by rw[e1];subst hs;simp[wC]⟩;unfold rd;rw[hmk,hmv]
  have hw:(Lit.int .i64 (n:Int)).wf=true:=by
   have a:IntKind.i64.min= -9223372036854775808:=rfl;have b:IntKind.i64.max=9223372036854775807:=rfl;simp only[Lit.wf,a,b];simp;omega
  simp[Go.keyOf,hk,mapKey,hsz,plainElem,he,hw,uq,e1,e2,wC,KX,hs]
 have hlist:ms.toList.map (rg P kT (plainElem (H:=Unit) P eT))=es.map uq:=by
  apply List.ext_getElem?;intro i;simp only[List.getElem?_map];by_cases hi:i<es.length
  ·have h1:es[i]? =some es[i]:=List.getElem?_eq_getElem hi
   have h2:ms[i]? =some ms[i]:=Array.getElem?_eq_getElem (by omega);have h3:ms.toList[i]? =some ms[i]:=by rw[Array.getElem?_toList];exact h2
   rw[h1,h3];have:=(hrd i _ _ h1 h2).1;simp[rg,this]
  ·rw[List.getElem?_eq_none (l:=es) (by omega),List.getElem?_eq_none (l:=ms.toList) (by rw[Array.length_toList];omega)]
   rfl
 refine⟨⟨by rw[hsz];have:=hn.len;unfold maxLen;omega,⟨fun x hx=> ?_, ?_, ?_⟩,fun x hx=> ?_⟩,hlist⟩
 ·obtain⟨i,hi,rfl⟩:=List.getElem_of_mem hx
  have hi':i<ms.size:=by simpa using hi
  have h1:es[i]? =some (es[i]'(by omega)):=List.getElem?_eq_getElem _;have h2:ms[i]? =some ms[i]:=Array.getElem?_eq_getElem hi';obtain⟨_,_,hb⟩:=hent i _ _ h1 h2;obtain⟨_,_,_,_,_,_,h5⟩:=hn.ent _ (List.mem_of_getElem? h1);simp only[Array.getElem_toList];rw[hb];exact h5
 ·have:ms.toList.map (·.born)=es.map (·.2.2):=by
    apply List.ext_getElem (by simp[hsz]);intro i h1 h2;simp only[List.length_map,Array.length_toList]at h1 h2;simp only[List.getElem_map,Array.getElem_toList];exact(hent i _ _ (List.getElem?_eq_getElem (by omega)) (Array.getElem?_eq_getElem (by omega))).2.2
  rw[this];exact hn.born
 ·have:ms.toList.map (·.key)=es.map (fun e=>Value.string ⟨(wC e.1).toArray⟩):=by
    apply List.ext_getElem (by simp[hsz]);intro i h1 h2;simp only[List.length_map,Array.length_toList]at h1 h2;simp only[List.getElem_map,Array.getElem_toList];exact(hrd i _ _ (List.getElem?_eq_getElem (by omega)) (Array.getElem?_eq_getElem (by omega))).2
  rw[this];have hk2:=hn.keys;rw[List.nodup_iff_pairwise_ne,List.pairwise_map]at hk2 ⊢;refine hk2.imp_of_mem fun {p q} hp hq hne e=>hne ?_
  obtain⟨l,_,e1,_⟩:=hn.ent p hp;obtain⟨l',_,e1',_⟩:=hn.ent q hq;rw[e1,e1']at e ⊢;simp only[wC,Value.string.injEq,ByteArray.mk.injEq]at e;have:l=l':=by simpa using e
  rw[this]
 ·obtain⟨i,hi,rfl⟩:=List.getElem_of_mem hx
  have hi':i<ms.size:=by simpa using hi
  exact⟨_,(hrd i _ _ (List.getElem?_eq_getElem (by omega)) (by rw[Array.getElem_toList];exact Array.getElem?_eq_getElem hi')).1⟩
theorem C0{P:Program}{kT eT:TypeId}(hk:P.underlying kT=some .string)(he:P.underlying eT=some (.int .i64)){imm:Nat→Nat→Prop}{w:World}{b:Nat}{es:List (D×D×Nat)}{c:Nat}(hm:CE imm w b es c)(hn:EE es c):
    ∃D0:DataW Unit,w.ownsMap P kT (plainElem P eT) b es.length D0∧Maps.size D0≤es.length∧∀ps,AnyY.AllOf D0 ps→(ps.map (·.2)).Perm (oC es):=by
 obtain⟨ms,hb,hsz,hent⟩:=hm;obtain⟨hF,hL⟩:=EF hk he (b:=b) hsz hent hn;have hap:=fit_apart (string_keyed hk) hF;rw[hL]at hap;have hown:w.ownsMap P kT (plainElem (H:=Unit) P eT) b es.length (.map ((es.map uq).foldr DataW.insert [])):=⟨ms,c,hb,hF,by omega,by rw[hL]⟩
 refine⟨_,hown, ?_,fun ps hps=> ?_⟩
 ·show((es.map uq).foldr DataW.insert []).length≤_
  rw[(sorted_perm (es.map uq)).length_eq];simp
 ·obtain⟨h1,_,h3⟩:=hps
  have hpE:=sorted_perm (es.map uq);generalize hE:(es.map uq).foldr DataW.insert []=E at h1 h3 hpE;have hapE:E.Pairwise (fun p q=>p.1≠q.1):=(hpE.symm.pairwise_iff (fun {a b} (h:a.1≠b.1)=>h.symm)).1 hap
  let val:List UInt8→Int:=fun x=>H3 ((DataW.map E).atKey (.string x) .nil)
  have e1:ps.map (·.2)=(ps.map (·.1)).map val:=by
   rw[List.map_map];refine List.map_congr_left fun p hp=> ?_
   have:=h3 p hp .nil;simp only[Function.comp,val,this,H3]
  have e2:(strKeys (DataW.map E)).map val=E.map fun q=>H3 q.2:=by
   show(E.map fun p=>strOf p.1).map val=_;rw[List.map_map];refine List.map_congr_left fun q hq=> ?_
   obtain⟨e,he',rfl⟩:=List.mem_map.1 (hpE.mem_iff.1 hq);have hf:=sU E hapE _ hq (wC e.1) rfl;show H3 ((DataW.map E).atKey (.string (wC e.1)) .nil)=_
   have:(DataW.map E).atKey (.string (wC e.1)) .nil=(uq e).2:=by
    unfold DataW.atKey;simp only[hf]
   rw[this]
  rw[e1];refine(h1.map val).trans ?_;rw[e2];refine(hpE.map _).trans ?_;rw[List.map_map];exact List.Perm.refl _
theorem jM:∀(zs:List Int),D.flat (zs.map (D.int .i64))=zs.map (D.int .i64)
 |[]=>rfl
 |a::r=>by
  have:=jM r;unfold D.flat at this ⊢;simp only[List.map_cons,List.flatMap_cons,this];rfl
theorem EG{imm:Nat→Nat→Prop}{w:World}{g cap:Nat}{bt:Array Value}{e:TypeId}{zs:List Int}(hb:w.heap[g]? =some (.cells bt e (0,0)))(hcap:zs.length≤cap)(ht:bt.toList.take zs.length=zs.map (Value.int .i64))(hi:∀t,t<zs.length→imm g t):
    DRep imm w (.ro (zs.map (D.int .i64))) (.slice (some ⟨g,0,none⟩) zs.length cap):=by
 have key:=DRep.ro (imm:=imm) (w:=w) (zs.map (D.int .i64)) g 0 cap 1 (fun t=> .int .i64 (zs.getD t 0)) (by simpa using hcap) (fun e he=>by
  obtain⟨n,_,rfl⟩:=List.mem_map.1 he;rfl) (fun e he=>by
  rw[jM]at he;obtain⟨n,_,rfl⟩:=List.mem_map.1 he;rfl) (fun t c hc=>by
  rw[jM]at hc;have:=(List.getElem?_eq_some_iff.1 hc).1;rw[Nat.zero_add];exact hi t (by simpa using this)) (fun t c hc=>by
  rw[jM]at hc;have hlt:t<zs.length:=by simpa using (List.getElem?_eq_some_iff.1 hc).1
  have h1:(bt.toList.take zs.length)[t]? =some (Value.int .i64 zs[t]):=by rw[ht];simp[hlt]
  rw[List.getElem?_take_of_lt hlt,Array.getElem?_toList]at h1;rw[Nat.zero_add];simp only[World.cell?,hb];simp[h1,hlt]) (fun t c hc=>by
  rw[jM]at hc;have hlt:t<zs.length:=by simpa using (List.getElem?_eq_some_iff.1 hc).1
  simp[hlt]at hc;subst hc;simp[hlt];exact .int _ _)
 rwa [List.length_map]at key
theorem wD{P:Program}{g f:Nat}(hcb:dc P g){kT eT iT:TypeId}(hk:P.underlying kT=some .string)(he:P.underlying eT=some (.int .i64))
    (hC:∀(Bm b nn:Nat)(D0:DataW Unit)(w:World),Bm<w.heap.size→w.cell? ⟨Bm,0,none⟩=some (.map (some b))→w.ownsMap P kT (plainElem P eT) b nn D0→Maps.size D0≤1000000→
     Calls P g #[.func (.func f) #[] #[.pointer (some ⟨Bm,0,none⟩)]] w fun e w'=>∃v ss,e= .returned v∧(∃ps,AnyY.AllOf D0 ps∧ss=ps.map (·.2))∧w'.ownsRow w.heap.size iT 1 v ss.length ((lC ss).map (Value.int .i64))∧Below w.heap.size w w')
    {h:ab} {kb vb k v:Nat} {es:List (D×D×Nat)} {c:Nat} (hb:h kb=⟨vb,some (.arr 1 [.mp k v])⟩) (hm:h k=⟨v,some (.map es c)⟩) (hn:EE es c):
    ay P g [.fn f [.ptr kb vb 0 0 1]] h [.d (.ro ((lC (oC es)).map (D.int .i64)))] h:=by
 refine⟨hcb,fun G B w0 I0 w cargs hr hs hargs=> ?_⟩
 obtain⟨u,rfl⟩:∃u,cargs= #[u]:=by
  have h1:cargs.size=1:=hs;refine⟨cargs[0],Array.ext (by simp[h1]) (fun i hi _=> ?_)⟩;have:i=0:=by omega
  subst this;rfl
 have hu:=hargs 0 _ u rfl rfl;cases hu with
 |fn _ _ vs hl hcap=>
 obtain⟨p,rfl⟩:∃p,vs= #[p]:=by
  have h1:vs.size=1:=hl;refine⟨vs[0],Array.ext (by simp[h1]) (fun i hi _=> ?_)⟩;have:i=0:=by omega
  subst this;rfl
 have hp:=hcap 0 _ p rfl rfl;have hvb:(h kb).ver=vb:=by rw[hb]
 have hob:(h kb).ob=some (.arr 1 [.mp k v]):=by rw[hb]
 obtain⟨b,hbk,hM⟩:=hr.maps.obj k es c (by rw[hm]);have hv:(h k).ver=v:=by rw[hm]
 rw[hv]at hbk;generalize hz:(1:Nat)=z at hp;cases hp with
 |ptr _ _ _ _ L hL=>
 rcases hr.objs kb _ hob with ⟨hn',_⟩|⟨L',hL',g1,g2,g3,g4,g5,g6⟩
 ·cases hn'
 rw[hvb,hL]at hL';cases hL';obtain⟨cu,hcell,hone,hrep⟩:=g6 0 _ rfl;generalize hmm:AV.mp k v=mm at hrep;cases hrep<;>first|(cases hmm;done)|skip
 rename_i b' hL2;clear hone;cases hmm;rw[hbk]at hL2;cases hL2;obtain⟨D0,hown,hle,hperm⟩:=C0 hk he hM hn;have hlt:L.b<w.heap.size:=hr.blt (by rw[hvb];exact hL);simp only[Nat.zero_mul,Nat.add_zero,Nat.zero_add];refine(hC L.b b es.length D0 w hlt hcell hown (Nat.le_trans hle hn.len)).mono ?_;rintro e w' ⟨v',ss,rfl,⟨ps,hall,rfl⟩,hrow,hbel⟩;have hsort:lC (ps.map (·.2))=lC (oC es):=mergeSort_of_perm_i (hperm ps hall);rw[hsort]at hrow;have hlen:(ps.map (·.2)).length=(lC (oC es)).length:=by rw[←hsort];simp[lC]
 rw[hlen]at hrow;rcases hrow.2 with ⟨rfl,hz0⟩|⟨gb,cap,bt,rfl,hbase,hgb,r1,r2,r3,r4⟩
 ·obtain⟨h1,e1⟩:=hr.behind hbel (I':=fun _ _=>False) (fun _ _ x=>x.elim) (fun _ _ x=>x.elim)
  refine⟨_,_,rfl,e1,h1, ?_⟩;have:lC (oC es)=[]:=List.length_eq_zero_iff.1 hz0;rw[this];exact .d (.roNil _ _)
 ·obtain⟨h1,e1⟩:=hr.behind hbel (I':=fun b o=>b=gb) (fun b o x=>by subst x;exact .inr hbase) (fun b o x=>by subst x;exact(Array.getElem?_eq_some_iff.1 hgb).1)
  refine⟨_,_,rfl,e1,h1, ?_⟩;exact .d (EG hgb r1 (by simpa using r4) (fun t _=> .inr rfl))
end Go.Avm
namespace Go.Avm
open Go.RowKit
variable[aJ]
open Classical in
noncomputable def HH(ex:cJ):eU:=fun fno base N c S=>match ex fno base N c S with
 |some (e,S',b',tk,ps)=>if Alike ps then some (e,S',b',tk)else none
 |none=>none
theorem sV{ex:cJ}{fno base N:Nat}{c:Code}{S S':St}{e:aG}{b':Nat}{tk:List Nat}{ps:az}(h:ex fno base N c S=some (e,S',b',tk,ps))(hs:Alike ps):HH ex fno base N c S=some (e,S',b',tk):=by
 unfold HH;rw[h];exact if_pos hs
theorem C1{P:Program}{ex:cJ}(h:gD P ex):hG P (HH ex):=fun fno base N c S e S' b' tk he=>by
 unfold HH at he;split at he
 ·rename_i e1 S1 b1 tk1 ps1 h1
  split at he
  ·rename_i hs
   simp only[Option.some.injEq,Prod.mk.injEq]at he;obtain⟨rfl,rfl,rfl,rfl⟩:=he;exact h _ _ _ _ _ _ _ _ _ _ h1 hs
  ·cases he
 ·cases he
def Bt(P:Program)(rs:List ResultVar):Option (aG×St×Nat×List Nat×az)→Option (xo×ab×Nat×List Nat×az)
 |some (e,S',b',tk,ps)=>(eK P rs (some (e,S',b',tk))).map fun r=>(r.1,r.2.1,r.2.2.1,r.2.2.2,ps)
 |none=>none
def EH(P:Program)(ex:cJ)(base:Nat)(g:Nat)(args:List AV)(x:Option AV)(h:ab):Option (ab×Nat×List Nat×az):=
 match P.funcs[g]? with
 |none=>none
 |some fn=>match fn.body with
  |some (.seq r c)=>match lX r with
   |some d=>if args.length≤fn.ntmps∧d<fn.ntmps∧fn.results.isEmpty=true then match ex g base fn.ntmps c ⟨aM (ga args) d (x.getD (.d .nili)),h⟩with
       |some (.normal,S',b',tk,ps)=>some (S'.heap,b',tk,ps)
       |some (.ret,S',b',tk,ps)=>some (S'.heap,b',tk,ps)
       |_=>none
    else none
   |none=>none
  |_=>none
def Bu(P:Program)(ex:cJ)(fno N:Nat)(rs:List ResultVar):Code→Nat→St→Option (xo×ab×Nat×List Nat×az)
 | .seq x y,base,S=>match qW x with
  |some (f,Ua)=>match opd S.env f with
   | .fn g caps=>match ex fno base N y S with
    |some (e,S2,b2,tk,ps)=>match JU e with
     |some pv=>match EH P ex b2 g (Ua.map (opd S.env) ++caps) pv S2.heap with
      |some r=>(iZ P ⟨S2.env,r.1⟩ rs).map fun l=>(.ret l,r.1,r.2.1,tk ++(r.2.2.1 ++lg S2.env rs),ps ++r.2.2.2)
      |none=>none
     |none=>none
    |none=>none
   |_=>none
  |none=>match ex fno base N x S with
   |some (.normal,S',b',tk,ps)=>match Bu P ex fno N rs y b' S' with
    |some r=>some (r.1,r.2.1,r.2.2.1,tk ++r.2.2.2.1,ps ++r.2.2.2.2)
    |none=>none
   |r=>Bt P rs r
 |c,base,S=>Bt P rs (ex fno base N c S)
theorem H4{P:Program}{ex:cJ}{base g:Nat}{args:List AV}{x:Option AV}{h h':ab}{b:Nat}{tk:List Nat}{ps:az}(hr:EH P ex base g args x h=some (h',b,tk,ps))(hs:Alike ps):uk P (HH ex) base g args x h=some (h',b,tk):=by
 unfold EH at hr;unfold uk;split at hr
 ·cases hr
 rename_i fn hf;rw[hf];simp only;split at hr;case h_2=>cases hr
 rename_i r c hb;rw[hb];simp only;split at hr;case h_2=>cases hr
 rename_i d hd;rw[hd];simp only;split at hr;case isFalse=>cases hr
 rename_i hc;rw[if_pos hc];split at hr
 ·rename_i S' b' tk' ps' he
  simp only[Option.some.injEq,Prod.mk.injEq]at hr;obtain⟨rfl,rfl,rfl,rfl⟩:=hr;rw[sV he hs]
 ·rename_i S' b' tk' ps' he
  simp only[Option.some.injEq,Prod.mk.injEq]at hr;obtain⟨rfl,rfl,rfl,rfl⟩:=hr;rw[sV he hs]
 ·cases hr
theorem Bv{P:Program}{rs:List ResultVar}{ex:cJ}{fno base N:Nat}{c:Code}{S:St}{y:xo}{h':ab}{b:Nat}{tk:List Nat}{ps:az}(h:Bt P rs (ex fno base N c S)=some (y,h',b,tk,ps))(hs:Alike ps):eK P rs (HH ex fno base N c S)=some (y,h',b,tk):=by
 cases he:ex fno base N c S with
 |none=>rw[he]at h;cases h
 |some r=>
  obtain⟨e,S',b',tk',ps'⟩:=r;rw[he]at h;simp only[Bt,Option.map_eq_some_iff,Prod.mk.injEq]at h;obtain⟨r,h1,rfl,rfl,rfl,rfl,rfl⟩:=h;rw[sV he hs,h1]
theorem H5{P:Program}{ex:cJ}{fno N:Nat}{rs:List ResultVar}:∀(c:Code)(base:Nat)(S:St)(y:xo)(h':ab)(b:Nat)(tk:List Nat)(ps:az),Bu P ex fno N rs c base S=some (y,h',b,tk,ps)→Alike ps→kz P (HH ex) fno N rs c base S=some (y,h',b,tk):=by
 intro c;induction c with
 |seq x y _ ihy=>
  intro base S w h' b tk ps h hs;simp only[Bu]at h;simp only[kz];split at h
  ·rename_i f Ua hd
   rw[hd];simp only;split at h;case h_2=>cases h
   rename_i g caps hf;rw[hf];simp only;split at h;case h_2=>cases h
   rename_i e S2 b2 tk2 ps2 he;split at h;case h_2=>cases h
   rename_i pv hpv;split at h;case h_2=>cases h
   rename_i r hr;obtain⟨r1,r2,r3,r4⟩:=r;simp only[Option.map_eq_some_iff,Prod.mk.injEq]at h;obtain⟨l,hl,rfl,rfl,rfl,rfl,rfl⟩:=h;rw[sV he hs.left];simp only[hpv];rw[H4 hr hs.right];simp only[hl,Option.map_some]
  ·rename_i hd
   rw[hd];simp only;split at h
   ·rename_i S' b' tk' ps' he
    split at h;case h_2=>cases h
    rename_i r hr;obtain⟨r1,r2,r3,r4,r5⟩:=r;simp only[Option.some.injEq,Prod.mk.injEq]at h;obtain⟨rfl,rfl,rfl,rfl,rfl⟩:=h;rw[sV he hs.left];simp only;rw[ihy _ _ _ _ _ _ _ hr hs.right]
   ·rename_i hnn
    have h2:=Bv h hs;cases he:HH ex fno base N x S with
    |none=>rw[he]at h2;simp[eK]at h2
    |some r=>
     obtain⟨e,S',b',tk'⟩:=r;cases e with
     |normal=>
      exfalso;unfold HH at he;split at he
      ·rename_i e1 S1 b1 tk1 ps1 h1
       split at he
       ·simp only[Option.some.injEq,Prod.mk.injEq]at he
        obtain⟨rfl,rfl,rfl,rfl⟩:=he;exact hnn _ _ _ _ h1
       ·cases he
      ·cases he
     |ret=>rw[he]at h2;exact h2
     |exit i=>rw[he]at h2;exact h2
     |panic x=>rw[he]at h2;exact h2
 |_=>
  intro base S w h' b tk ps h hs;exact Bv h hs
def ph(P:Program)(ex:cJ)(base:Nat)(g:Nat)(args:List AV)(h:ab):Option (xo×ab×Nat×List Nat×az):=
 match P.funcs[g]? with
 |none=>none
 |some fn=>match fn.body with
  |none=>none
  |some b=>if args.length≤fn.ntmps then Bu P ex g fn.ntmps fn.results.toList b base ⟨ga args,h⟩else none
theorem EI{P:Program}{ex:cJ}{base g:Nat}{args:List AV}{h h':ab}{y:xo}{b:Nat}{tk:List Nat}{ps:az}(hc:ph P ex base g args h=some (y,h',b,tk,ps))(hs:Alike ps):j6 P (HH ex) base g args h=some (y,h',b,tk):=by
 unfold ph at hc;unfold j6;split at hc
 ·cases hc
 rename_i fn hf;rw[hf];simp only;split at hc
 ·cases hc
 rename_i bd hb;rw[hb];simp only;split at hc;case isFalse=>cases hc
 rename_i hl;rw[if_pos hl];exact H5 _ _ _ _ _ _ _ _ hc hs
def yr(r:Option (xo×ab×Nat×List Nat×az)):Option (List AV×ab×Nat×List Nat×az):=match r with
 |some (.ret rs,h,b,tk,ps)=>some (rs,h,b,tk,ps)
 |_=>none
def lD(r:Option (List AV×ab×Nat×List Nat×az))(rs:List D):Option (aG×az):=
 match r with
 |some (rs',h',_,_,ps)=>match om h' rs' with
  |some ds=>some (.ret,(.ds ds, .ds rs)::ps)
  |none=>none
 |none=>none
theorem wF{P:Program}(hm:g0 P)(hn:co P)(pr:Par P)(n base:Nat){g:Nat}{ds rs:List D}
    (h:mo (lD (yr (ph P (bj P pr n) base g (ds.map .d) HG)) rs)=outR .ret (lD (yr (ph P (bj P pr n) base g (ds.map .d) HG)) rs)):aK P g ds rs:=by
 obtain⟨ps,h1,hs⟩:=gg h;unfold lD at h1;split at h1;case h_2=>cases h1
 rename_i rs' h' b' tk ps' hr;split at h1;case h_2=>cases h1
 rename_i ds' hv;simp only[Option.some.injEq,Prod.mk.injEq,true_and]at h1;subst h1;have g1:=hs.head;simp only[aU.ds.injEq]at g1;subst g1;unfold yr at hr;split at hr;case h_2=>cases hr
 rename_i rs2 h2 b2 tk2 ps2 hc;simp only[Option.some.injEq,Prod.mk.injEq]at hr;obtain⟨rfl,rfl,rfl,rfl,rfl⟩:=hr;exact uo (gc hm hn (C1 (df hm hn n)) (EI hc hs.tail)).1 hv
end Go.Avm
namespace Go.Avm
open Go.RowKit
variable[aJ]
section
variable{P:Program}{B:Nat}{w0:World}{I0:Nat→Nat→Prop}{cfg:iA}{N:Nat}{ops:Array Oper}
theorem uU{D:List Deferred}(hx:iG P)(r:Option Nat)(n:Nat){Q:Exit→Act→World→Prop}{rest:List Nat}:∀(l:List Nat){G:Gh}{w:World}{S S':St}{a:Act}{ob:List Obl}{fts:List Foot},
    HR G B w0 I0 S.heap w→FR G w N D S.env a→dm P cfg N ops l S=some (S',ob,fts)→fT P ob→
    (∀a' w' G',Ext G w G' w'→HR G' B w0 I0 S'.heap w'→FR G' w' N D S'.env a'→wpOpsIn (FF r) n P ops Q rest a' w')→wpOpsIn (FF r) n P ops Q (l ++rest) a w
 |[],G,w,S,S',a,ob,fts,hr,hf,hs,hob,hq=>by
  simp only[dm,Option.some.injEq,Prod.mk.injEq]at hs;obtain⟨rfl,_,_⟩:=hs;rw[List.nil_append];exact hq a w G (Ext.refl G w) hr hf
 |i::rl,G,w,S,S',a,ob,fts,hr,hf,hs,hob,hq=>by
  simp only[dm]at hs;split at hs
  ·cases hs
  ·rename_i o ho
   split at hs
   ·cases hs
   ·rename_i st hst
    split at hs
    ·cases hs
    ·rename_i rs hrs
     simp only[Option.some.injEq,Prod.mk.injEq]at hs;obtain⟨rfl,rfl,rfl⟩:=hs;obtain⟨S1,ob1,ft1⟩:=st;obtain⟨S2,ob2,ft2⟩:=rs;rw[List.cons_append,wpOpsIn_cons];unfold wpOpIn;simp only[ho]
     exact fO hx hr hf hst (fun c hc=>hob c (List.mem_append_left _ hc)) r n (fun a' w' G' h1 h2 h3=>
      uU hx r n rl h2 h3 hrs (fun c hc=>hob c (List.mem_append_right _ hc)) (fun a2 w2 G2 g1 g2 g3=>hq a2 w2 G2 (h1.trans g1) g2 g3))
end
section
variable{P:Program}{G:Gh}{B:Nat}{w0 w:World}{I0:Nat→Nat→Prop}{h:ab}{env:Nat→AV}{a:Act}{op:Oper}
theorem EJ(hr:HR G B w0 I0 h w)(hρ:∀x,Rep G w (opd env x) (a.eval x)){t kt et:TypeId}{x:Operand}{k v c:Nat}{es:List (D×D×Nat)}(K:Nat)(hop:op.op= .range t x)(hu:P.underlying t=some (.map kt et))
    (hx:opd env x= .mp k v) (hob:h k=⟨v,some (.map es c)⟩):∃v' w' G',(execOp a.eval op).run P w= .ok (.value v') w'∧Ext G w G' w'∧HR G' B w0 I0 (aM h K ⟨(h K).ver+1,some (.itr k v c [])⟩) w'∧Rep G' w' (.itr K ((h K).ver+1)) v':=by
 have hrx:=hρ x;rw[hx]at hrx;generalize hvx:a.eval x=vx at hrx;cases hrx with
 |mp _ _ b hL=>
 obtain⟨b',hL',ms,hb,hsz,hent⟩:=hr.maps.obj k es c (by rw[hob]);rw[hob]at hL';simp only at hL';rw[hL]at hL';cases hL';have hr1:=hr.allocAny (.mapIter (some b) c #[] c);have e1:=Ext.alloc hr (.mapIter (some b) c #[] c)
 obtain⟨hr2,e2⟩:=hr1.newFixO K (b:=w.heap.size) (oo:=some (.itr k v c [])) (o:= .mapIter (some b) c #[] c) (fun o' e=>by cases e;rfl) hr.bsz (fun k _ _ x=>by
  obtain⟨_,⟨o,_,h2⟩,_⟩:=hr.maps.low _ _ _ x;have:=(Array.getElem?_eq_some_iff.1 h2).1;omega) rfl (heap_alloc_new w _) (fun _ _ e=>by cases e) (fun _ _ _ _ _ _ _ e=>by cases e) (fun km vm since seen e=>by
  cases e;exact⟨b, #[],c,hL,heap_alloc_new w _,rfl,rfl⟩)
 refine⟨.pointer (some ⟨w.heap.size,0,none⟩),w.alloc (.mapIter (some b) c #[] c),_, ?_,e1.trans e2,hr2, .itr _ _ _ (by simp[Gh.atMap])⟩;unfold execOp;rw[hop];simp only[hvx,Sem.run_bind,run_range_map w t kt et b ms c hu hb,Result.andThen,Sem.run];rfl
def Bw(h:ab)(I vI k v c:Nat)(es:List (D×D×Nat))(seen:List Nat)(x:AV)(h':ab):Prop:=
 (x= .tup [.d (.bool false)]∧h'=h∧∀e∈es,e.2.2∈seen)∨
 ∃e∈es,e.2.2∉seen∧x= .tup [.d (.bool true), .d e.1, .d e.2.1]∧h'=aM h I ⟨vI,some (.itr k v c (seen ++[e.2.2]))⟩
theorem H6(hr:HR G B w0 I0 h w)(hρ:∀x,Rep G w (opd env x) (a.eval x)){x:Operand}{I vI k v c:Nat}{es:List (D×D×Nat)}{seen:List Nat}(hop:op.op= .next x false)
    (hx:opd env x= .itr I vI) (hI:h I=⟨vI,some (.itr k v c seen)⟩) (hob:h k=⟨v,some (.map es c)⟩) (hold:∀e∈es,e.2.2<c):
    ∃v' w' G' x' h',(execOp a.eval op).run P w= .ok (.value v') w'∧Ext G w G' w'∧HR G' B w0 I0 h' w'∧Rep G' w' x' v'∧Bw h I vI k v c es seen x' h':=by
 have hrx:=hρ x;rw[hx]at hrx;generalize hvx:a.eval x=vx at hrx;cases hrx with
 |itr _ _ b hL=>
 obtain⟨b',bm,sa,c0,hL',hLm,hbi,hsa,hc0⟩:=hr.maps.iters I k v c seen (by rw[hI]);rw[hI]at hL';simp only at hL';rw[hL]at hL';cases hL';subst hc0;obtain⟨b2,hL2,ms,hb,hsz,hent⟩:=hr.maps.obj k es _ (by rw[hob]);rw[hob]at hL2;simp only at hL2;rw[hLm]at hL2;cases hL2
 have hel:∀m∈ms.toList,∃e∈es,DRep G.imm w e.1 m.key∧DRep G.imm w e.2.1 m.val∧m.born=e.2.2:=fun m hm=>by
  obtain⟨i,hi,he⟩:=List.getElem_of_mem hm;have hi':i<ms.size:=by simpa using hi
  have h2:ms[i]? =some m:=by rw[Array.getElem?_eq_getElem hi'];rw[←he];simp
  have h1:es[i]? =some es[i]:=List.getElem?_eq_getElem (by omega);exact⟨es[i],List.getElem_mem _,hent i _ m h1 h2⟩
 have hexec:(execOp a.eval op).run P w=((Instr.next (.pointer (some ⟨b,0,none⟩)) false op.type).run P w).andThen fun v w'=>(pure (Next.value v):Sem Next).run P w':=by
  unfold execOp;rw[hop];simp only[hvx,Sem.run_bind]
 rcases run_next_at (P:=P) w op.type b bm c0 c0 sa ms c0 hbi hb (fun m hm=>by
  obtain⟨e,he,_,_,hbn⟩:=hel m hm;rw[hbn];exact hold e he) (Nat.le_refl _)with ⟨h0,hrun⟩|⟨m,hm,w1,hw1,hrun⟩
 ·refine⟨_,w,G, .tup [.d (.bool false)],h,by rw[hexec,hrun];rfl,Ext.refl G w,hr, .tup _ _ rfl (fun i cc u hc hu=> ?_), .inl ⟨rfl,rfl,fun e he=> ?_⟩⟩
  ·cases i with
   |zero=>
    simp at hc hu;subst hc;subst hu;exact .d (.bool _)
   |succ i=>simp at hc
  ·
   obtain⟨i,hi,hee⟩:=List.getElem_of_mem he;have hi':i<ms.size:=by omega
   have h1:es[i]? =some e:=by rw[List.getElem?_eq_getElem hi,hee]
   have h2:ms[i]? =some ms[i]:=Array.getElem?_eq_getElem hi';obtain⟨_,_,hbn⟩:=hent i e _ h1 h2;have hl:leftOf ms sa= #[]:=Array.eq_empty_of_size_eq_zero h0;unfold leftOf at hl;rw[Array.filter_eq_empty_iff]at hl;have:=hl ms[i] (Array.getElem_mem hi');simp only[Bool.not_eq_true',Bool.not_eq_false']at this;rw[←hsa,←hbn];simpa using this
 ·unfold leftOf at hm
  simp only[Array.toList_filter,List.mem_filter,Bool.not_eq_true']at hm;obtain⟨e,he,hk1,hk2,hbn⟩:=hel m hm.1
  have hns:e.2.2∉seen:=fun hx=>by
   rw[←hsa,←hbn]at hx;have:=hm.2;simp at this;exact this (by simpa using hx)
  have hw:HR G B w0 I0 h w1∧Ext G w G w1∧w1.heap[b]? =some (.mapIter (some bm) c0 sa c0):=by
   rcases hw1 with rfl|rfl
   ·exact⟨hr,Ext.refl G _,hbi⟩
   ·exact⟨hr.drew,Ext.drew G w,hbi⟩
  obtain⟨hr1,e1,hbi1⟩:=hw
  obtain⟨hr2,e2⟩:=hr1.setFix (k:=I) (b:=b) (o':= .mapIter (some bm) c0 (sa.push m.born) c0) (ob':=some (.itr k v c0 (seen ++[e.2.2]))) (by rw[hI];rfl) (by rw[hI];exact hL) hbi1 rfl rfl (fun _=>⟨_,_,_,_,rfl⟩) (fun x hx=>by cases hx;rfl) (fun _ _ e=>by cases e) (fun _ _ _ _ _ _ _ e=>by cases e) (fun km vm since sn e3=>by
   cases e3;have hlt:=(Array.getElem?_eq_some_iff.1 hbi1).1;exact⟨bm,_,c0,hLm,World.putObj_heap_same hlt,by simp[hsa,hbn],rfl⟩)
  rw[hI]at hr2;refine⟨_,_,G, .tup [.d (.bool true), .d e.1, .d e.2.1],_,by rw[hexec,hrun];rfl,e1.trans e2,hr2, .tup _ _ rfl (fun i cc u hc hu=> ?_), .inr ⟨e,he,hns,rfl,rfl⟩⟩;have ee:=e1.trans e2;match i with
  |0=>
   simp at hc hu;subst hc;subst hu;exact .d (.bool _)
  |1=>
   simp at hc hu;subst hc;subst hu;exact(Rep.d hk1:Rep G w _ _).mono ee
  |2=>
   simp at hc hu;subst hc;subst hu;exact(Rep.d hk2:Rep G w _ _).mono ee
  |i+3=>simp at hc
theorem EK(hr:HR G B w0 I0 h w)(hρ:∀x,Rep G w (opd env x) (a.eval x)){x:Operand}{I vI k v c:Nat}{es:List (D×D×Nat)}{seen:List Nat}{e:D×D×Nat}(hop:op.op= .entry x)
    (hx:opd env x= .itr I vI) (hI:h I=⟨vI,some (.itr k v c (seen ++[e.2.2]))⟩) (hob:h k=⟨v,some (.map es c)⟩) (he:e∈es) (hn:(es.map (·.2.2)).Nodup):
    ∃v' w' G' x' h',(execOp a.eval op).run P w= .ok (.value v') w'∧Ext G w G' w'∧HR G' B w0 I0 h' w'∧Rep G' w' x' v'∧x'= .tup [.d e.1, .d e.2.1]∧h'=h:=by
 have hrx:=hρ x;rw[hx]at hrx;generalize hvx:a.eval x=vx at hrx;cases hrx with
 |itr _ _ b hL=>
 obtain⟨b',bm,sa,c0,hL',hLm,hbi,hsa,hc0⟩:=hr.maps.iters I k v c _ (by rw[hI]);rw[hI]at hL';simp only at hL';rw[hL]at hL';cases hL';subst hc0;obtain⟨b2,hL2,ms,hb,hsz,hent⟩:=hr.maps.obj k es _ (by rw[hob]);rw[hob]at hL2;simp only at hL2;rw[hLm]at hL2;cases hL2;obtain⟨i,hi,hee⟩:=List.getElem_of_mem he;have hi':i<ms.size:=by omega
 have h1:es[i]? =some e:=by rw[List.getElem?_eq_getElem hi,hee]
 have h2:ms[i]? =some ms[i]:=Array.getElem?_eq_getElem hi';obtain⟨hk1,hk2,hbn⟩:=hent i e _ h1 h2
 have hborn:ms.toList.map (·.born)=es.map (·.2.2):=by
  apply List.ext_getElem?;intro j;rcases Nat.lt_or_ge j es.length with hj|hj
  ·have hj':j<ms.size:=by omega
   have g1:es[j]? =some es[j]:=List.getElem?_eq_getElem hj;have g2:ms[j]? =some ms[j]:=Array.getElem?_eq_getElem hj';rw[List.getElem?_map,List.getElem?_map,g1];have g3:ms.toList[j]? =some ms[j]:=by simp[hj']
   rw[g3];simp only[Option.map_some];rw[(hent j _ _ g1 g2).2.2]
  ·rw[List.getElem?_eq_none (by simp;omega),List.getElem?_eq_none (by simp;omega)]
 obtain⟨sa',hsa'⟩:∃sa':Array Nat,sa=sa'.push ms[i].born:=⟨seen.toArray,by
  apply Array.toList_inj.1;rw[hsa,hbn];simp⟩
 rw[hsa']at hbi;have hrun:=run_entry_at (P:=P) w b bm c0 sa' ms c0 ms[i] hbi hb (by simp) (by rw[hborn];exact hn);refine⟨.tuple #[ms[i].key,ms[i].val],w,G, .tup [.d e.1, .d e.2.1],h, ?_,Ext.refl G w,hr, .tup _ #[ms[i].key,ms[i].val] rfl (fun j cc u hc hu=> ?_),rfl,rfl⟩
 ·unfold execOp
  rw[hop];simp only[hvx,Sem.run_bind,hrun,Result.andThen];rfl
 ·match j with
  |0=>
   simp at hc hu;subst hc;subst hu;exact .d hk1
  |1=>
   simp at hc hu;subst hc;subst hu;exact .d hk2
  |j+2=>simp at hc
end
end Go.Avm
namespace Go.Avm
structure WE where
 p:Int
 e:Int
def WE.fail(w:WE)(p e:Int):WE:=bif w.e==0 then ⟨p,e⟩else w
def JV(nm:List UInt8):List Vr→List Bool→Nat→Option Nat
 |[],_,_=>none
 |_::_,[],_=>none
 |v::vs,b::bs,i=>bif v.nm==nm&&b then some i else JV nm vs bs (i+1)
structure SU where
 fs:List Fn
 vars:List Vr
 seen:List Bool
 sure:List Bool
structure WS where
 vars:List Vr
 pts:List Pt
 w:WE
structure LS where
 seen:List Bool
 sure:List Bool
def wG:Nat→List Bool→List Nat
 |_,[]=>[]
 |i,b::r=>bif b then i::wG (i+1) r else wG (i+1) r
def NB:List Bool→List Bool→List Bool
 |a::x,b::y=>(a&&b)::NB x y
 |_,_=>[]
def LS.pt(s:LS)(fn:Nat):Pt:=⟨(fn:Int),wG 0 s.seen,wG 0 (NB s.seen s.sure)⟩
def WS.x(c:WS)(fs:List Fn)(s:LS):SU:=⟨fs,c.vars,s.seen,s.sure⟩
end Go.Avm
namespace Go.Avm
structure Rl(vars:List Vr)(sl:hQ)(q:SureL)(s:LS):Prop where
 ls:s.seen.length=vars.length
 lq:s.sure.length=vars.length
 seen:∀i,i<vars.length→s.seen[i]? =some (sl.any (·.2==i))
 sure:∀i,i<vars.length→s.sure[i]? =some (q.has i)
structure CI(c:CS):Prop where
 nod:(c.vars.map (·.nm)).Nodup
 sn:∀p∈c.seen,∃v,c.vars[p.2]? =some v∧v.nm=p.1
 inc:(c.seen.map (·.2)).Pairwise (· < ·)
mutual
def JW:Ex→Bool
 | .mk k _ _ _ _ xs=>(k==1||k==2||k==3||k==6||k==7||k==5||(k==4||k==8)&&xs.length==1||k==9&&xs.length==2)&&fC xs
def fC:List Ex→Bool
 |[]=>true
 |x::r=>JW x&&fC r
end
def XR(r:TR Int)(q:Int×WE)(w:WE):Prop:=match r with
 | .ok t=>q=(t,w)
 | .bad p e=>q.2=⟨p,e⟩∧(e==0)=false
 | .out=>True
def UR{α:Type}(r:TR α)(q w:WE):Prop:=match r with
 | .ok _=>q=w
 | .bad p e=>q=⟨p,e⟩∧(e==0)=false
 | .out=>True
section
variable{E:TE}{E':SU}(hfs:E'.fs=E.fs)(hv:E'.vars=E.vars)(hf:∀nm,JV nm E'.vars E'.seen 0=(eA nm E.seen 0).map (·.2))(hs:∀nm j i,eA nm E.seen 0=some (j,i)→E'.sure.getD i false=E.sure.has i)
include hv hf in
theorem UR.ok{r:TR Unit}{q w:WE}(h:UR r q w)(t:Int):XR (r.bind fun _=> .ok t) (t,q) w:=by
 cases r with
 |ok _=>exact congrArg (Prod.mk t) h
 |bad p e=>exact h
 |out=>trivial
theorem UR.trans{r1 r2:TR Unit}{q1 q2 w:WE}(h1:UR r1 q1 w)(h2:q1=w→UR r2 q2 w)(h3:(q1.e==0)=false→q2=q1):UR (r1.bind fun _=>r2) q2 w:=by
 cases r1 with
 |ok _=>exact h2 h1
 |bad p e=>
  obtain⟨rfl,he⟩:=h1;exact⟨h3 he,he⟩
 |out=>trivial
include hfs hv hf hs
end
end Go.Avm
namespace Go.Avm
structure CJ(c:CS):Prop extends CI c where
 sv:∀p∈c.sure.l,p.1<c.vars.length
theorem CJ.sl{c:CS}(h:CJ c):∀p∈c.seen,p.2<c.vars.length:=fun p hp=>by
 obtain⟨v,hv,_⟩:=h.sn p hp;exact(List.getElem?_eq_some_iff.1 hv).1
end Go.Avm
namespace Go.Avm
def OB{α:Type}(s:RS)(r:Res α):Prop:=∀a s',r= .ok a s'→0≤s.op→s.op≤200→s'.op=s.op
def OC{α:Type}(s:RS)(r:Res α):Prop:=∀a s',r= .ok a s'→1≤s.op→s.op≤200→s'.op=s.op-1
section
variable{α β:Type}{r:Res α}{f:α→RS→Res β}{s:RS}{L:List T}
theorem OB.bind(h:OB s r)(hf:∀a s',OB s' (f a s')):OB s (r.bind f):=fun b s2 e h0 h1=>by
 cases r with
 |ok a s1=>have:=h a s1 rfl h0 h1;rw[←this];exact hf a s1 b s2 e (by omega) (by omega)
 |bad p q s1=>cases e
 |out=>cases e
theorem OC.bind(h:OB s r)(hf:∀a s',OC s' (f a s')):OC s (r.bind f):=fun b s2 e h0 h1=>by
 cases r with
 |ok a s1=>have:=h a s1 rfl (by omega) h1;rw[←this];exact hf a s1 b s2 e (by omega) (by omega)
 |bad p q s1=>cases e
 |out=>cases e
theorem OB.ok(a:α):OB s (.ok a s):=fun _ _ e _ _=>by cases e;rfl
theorem OB.okn(a:α):OB s (.ok a s.nx):=fun _ _ e _ _=>by cases e;rfl
theorem OB.out:OB s (Res.out:Res α):=fun _ _ e=>by cases e
theorem OB.ite{c:Bool}{X Y:Res α}(hX:OB s X)(hY:OB s Y):OB s (bif c then X else Y):=by cases c<;>assumption
theorem OC.ite{c:Bool}{X Y:Res α}(hX:OC s X)(hY:OC s Y):OC s (bif c then X else Y):=by cases c<;>assumption
theorem EL{x:Int}(h1: -2000≤x)(h2:x≤2000):dD x=x:=IntWalk.i64_in _ (by omega)
theorem dZ(x:List UInt8)(h1:(x==[40]||x==[91]||x==[123])=false)(h2:(x==[41]||x==[93]||x==[125])=false):OB s (aE L x s):=fun a s' e _ _=>by
 unfold aE at e;rw[h1,h2]at e;cases hi:isT L s x<;>rw[hi]at e<;>cases e
 rfl
theorem jl{x:List UInt8}{f:T→RS→Res α}(h1:(x==[40]||x==[91]||x==[123])=true)(hf:∀a s',OC s' (f a s')):OB s ((aE L x s).bind f):=fun b s2 e h0 h3=>by
 unfold aE at e;rw[h1]at e;cases hi:isT L s x with
 |false=>rw[hi]at e;cases e
 |true=>
  rw[hi]at e;simp only[cond_true]at e;rw[EL (by omega) (by omega)]at e;cases h2:decide (200<s.op+1)with
  |true=>rw[h2]at e;cases e
  |false=>
   rw[h2]at e;have h2:=of_decide_eq_false h2;have:=hf _ _ b s2 e (by show 1≤s.op+1;omega) (by show s.op+1≤200;omega);rw[this];show s.op+1-1=s.op;omega
theorem gM{x:List UInt8}{f:T→RS→Res α}(h1:(x==[40]||x==[91]||x==[123])=false)(h2:(x==[41]||x==[93]||x==[125])=true)(hf:∀a s',OB s' (f a s')):OC s ((aE L x s).bind f):=fun b s2 e h0 h3=>by
 unfold aE at e;rw[h1,h2]at e;cases hi:isT L s x with
 |false=>rw[hi]at e;cases e
 |true=>
  rw[hi]at e;simp only[cond_true,cond_false]at e;rw[EL (by omega) (by omega)]at e;exact hf _ _ b s2 e (by show 0≤s.op-1;omega) (by show s.op-1≤200;omega)
theorem kh(k:Int):OB s (dt L k s):=fun a s' e _ _=>by
 unfold dt at e;cases hi:((bt L s).k==k)<;>rw[hi]at e<;>cases e
 rfl
theorem OB.may{x:List UInt8}{X Y:RS→Res α}(h1:(x==[40]||x==[91]||x==[123])=false)(h2:(x==[41]||x==[93]||x==[125])=false)(hX:∀s',OB s' (X s'))(hY:OB s (Y s)):OB s ((ci L x s).bind fun b s1=>bif b then X s1 else Y s1):=by
 unfold ci;cases isT L s x with
 |false=>exact hY
 |true=>
  simp only[cond_true];intro a s' e h0 h3;cases hw:aE L x s with
  |ok t s1=>rw[hw]at e;have:=dZ x h1 h2 t s1 hw h0 h3;rw[←this];exact hX s1 a s' e (by omega) (by omega)
  |bad p q s1=>rw[hw]at e;cases e
  |out=>rw[hw]at e;cases e
end
section
variable(L:List T)
theorem q6:∀(l:List Int)(s:RS),(∀k∈l,((dM k==[40]||dM k==[91]||dM k==[123])=false)∧((dM k==[41]||dM k==[93]||dM k==[125])=false))→OB s (dP L l s)
 |[],s,_=>fun _ _ e=>by cases e
 |k::r,s,h=>by
  simp only[dP];exact OB.may (h k List.mem_cons_self).1 (h k List.mem_cons_self).2 (fun s'=> .ok _) (q6 r s fun k hk=>h k (List.mem_cons_of_mem _ hk))
theorem EM:∀n,(∀s,OB s (eP L n s))∧(∀s,OB s (cP L n s))∧(∀nm p s,OB s (du L n nm p s))∧(∀s,OB s (eS L n s))∧(∀l s,OB s (d8 L n l s))∧(∀k s,OB s (bv L n k s))∧(∀k e s,OB s (dw L n k e s))
 |0=>⟨fun _=>OB.out,fun _=>OB.out,fun _ _ _=>OB.out,fun _=>OB.out,fun _ _=>OB.out,fun _ _=>OB.out,fun _ _ _=>OB.out⟩
 |n+1=>by
  obtain⟨h1,h2,h3,h4,h5,h6,h7⟩:=EM n;refine⟨fun s=> ?_,fun s=> ?_,fun nm p s=> ?_,fun s=> ?_,fun l s=> ?_,fun k s=> ?_,fun k e s=> ?_⟩
  ·simp only[eP]
   have un:∀(f:Ex→Ex) s',OB s' ((eP L n s').bind fun e s2=> .ok (f e) s2):=fun f s'=>(h1 s').bind fun _ _=> .ok _
   refine OB.may rfl rfl (fun s'=>un _ s') (OB.may rfl rfl (fun s'=>un _ s') (OB.may rfl rfl (fun s'=>un _ s') (OB.ite (.okn _) ?_)));refine OB.may rfl rfl (fun s'=> .ok _) (OB.may rfl rfl (fun s'=> .ok _) ?_);refine OB.may rfl rfl (fun s'=>jl rfl fun _ _=>gM rfl rfl fun _ _=> .ok _) ?_;refine OB.may rfl rfl (fun s'=>jl rfl fun _ _=>OC.bind (kh 1) fun _ _=>gM rfl rfl fun _ _=> .ok _) ?_;refine OB.ite (jl rfl fun _ s2=>OC.bind (h6 _ s2) fun _ _=>gM rfl rfl fun _ _=> .ok _) ?_;exact(kh 1).bind fun _ s'=>OB.ite ((h2 s').bind fun _ _=> .ok _) (OB.ite ((h3 _ _ s').bind fun _ _=> .ok _) (.ok _))
  ·simp only[cP]
   exact jl rfl fun _ s2=>OC.bind (h6 _ s2) fun _ _=>gM rfl rfl fun _ _=> .ok _
  ·simp only[du]
   exact(h4 s).bind fun _ _=> .ok _
  ·simp only[eS]
   exact jl rfl fun _ s1=>OC.ite (gM rfl rfl fun _ _=> .ok _) (OC.bind (h6 _ s1) fun _ s2=>OC.bind (h5 _ s2) fun _ _=>gM rfl rfl fun _ _=> .ok _)
  ·simp only[d8]
   exact OB.may rfl rfl (fun s'=>(h6 _ s').bind fun _ s2=>h5 _ s2) (.ok _)
  ·simp only[bv]
   exact(h1 s).bind fun _ s1=>h7 _ _ s1
  ·simp only[dw]
   exact OB.ite (.ok _) (show OB s.nx _ from (h6 _ s.nx).bind fun _ s2=>h7 _ _ s2)
theorem ki(n:Nat)(k:Int)(s:RS):OB s (bv L n k s):=(EM L n).2.2.2.2.2.1 k s
theorem KY(n:Nat)(id p:Int)(s:RS):OB s (ip L n id p s):=by
 unfold ip;refine(kh 1).bind fun _ _=>(dZ _ rfl rfl).bind fun _ s3=>(q6 L _ s3 (by decide)).bind fun _ s4=>OB.ite ?_ ?_
 ·exact jl rfl fun _ _=>OC.bind (kh 3) fun _ _=>gM rfl rfl fun _ _=>(dZ _ rfl rfl).bind fun _ _=> .ok _
 ·exact OB.may rfl rfl (fun s'=>(ki L n 1 s').bind fun _ _=>(dZ _ rfl rfl).bind fun _ _=> .ok _) ((dZ _ rfl rfl).bind fun _ _=> .ok _)
theorem EN(n:Nat)(id p:Int)(s:RS):OB s (cE L n id p s):=by
 unfold cE;obtain⟨_,h2,h3,_⟩:=EM L n;refine(kh 1).bind fun _ s2=>OB.ite ((h3 _ _ s2).bind fun _ _=>(dZ _ rfl rfl).bind fun _ _=> .ok _) (OB.ite ?_ ?_)
 ·exact(h2 s2).bind fun _ _=>(dZ _ rfl rfl).bind fun _ s4=>(ki L n 1 s4).bind fun _ _=>(dZ _ rfl rfl).bind fun _ _=> .ok _
 ·exact(dZ _ rfl rfl).bind fun _ s3=>(ki L n 1 s3).bind fun _ _=>(dZ _ rfl rfl).bind fun _ _=> .ok _
theorem wH:∀n,(∀s,OB s (bM L n s))∧(∀l s,OB s (cF L n l s))∧(∀s,OB s (ej L n s))
 |0=>⟨fun _=>OB.out,fun _ _=>OB.out,fun _=>OB.out⟩
 |n+1=>by
  obtain⟨h1,h2,h3⟩:=wH n;refine⟨fun s=> ?_,fun l s=> ?_,fun s=> ?_⟩
  ·simp only[bM]
   exact jl rfl fun _ s1=>OC.bind (h2 _ s1) fun _ _=>gM rfl rfl fun _ _=> .ok _
  ·simp only[cF]
   exact OB.ite (.ok _) ((h3 s).bind fun _ s1=>h2 _ s1)
  ·simp only[ej]
   refine show OB s.st _ from OB.may rfl rfl (fun s'=>(KY L n _ _ s').bind fun _ _=> .ok _) (OB.may rfl rfl (fun s'=> ?_) (OB.may rfl rfl (fun s'=> ?_) (OB.may rfl rfl (fun s'=> ?_) (OB.may rfl rfl (fun s'=> ?_) ?_))))
   ·exact(ki L n 1 s').bind fun _ s2=>(h1 s2).bind fun _ s3=>OB.may rfl rfl (fun s4=>(h1 s4).bind fun _ _=> .ok _) (.ok _)
   ·exact(ki L n 1 s').bind fun _ s2=>(h1 s2).bind fun _ _=> .ok _
   ·exact OB.ite ((dZ _ rfl rfl).bind fun _ _=> .ok _) ((ki L n 1 s').bind fun _ s2=>(dZ _ rfl rfl).bind fun _ _=> .ok _)
   ·exact(ki L n 1 s').bind fun _ s2=>(dZ _ rfl rfl).bind fun _ _=> .ok _
   ·exact(EN L n _ _ _).bind fun _ _=> .ok _
theorem yu(s:RS):OB s (eW L s):=(kh 1).bind fun _ _=>(dZ _ rfl rfl).bind fun _ s2=>(q6 L _ s2 (by decide)).bind fun _ _=> .ok _
theorem yv:∀(n:Nat)(l:List Pm)(s:RS),OB s (cG L n l s)
 |0,_,_=>OB.out
 |n+1,l,s=>by
  simp only[cG];exact OB.may rfl rfl (fun s'=>(yu L s').bind fun _ s2=>yv n _ s2) (.ok _)
theorem JX(n:Nat)(s:RS):OB s (qg L n s):=by
 unfold qg cQ;refine(dZ _ rfl rfl).bind fun _ _=>(kh 1).bind fun _ s2=>OB.bind (jl rfl fun _ s1=>OC.ite (gM rfl rfl fun _ _=> .ok _) (OC.bind (yu L s1) fun _ s2=>OC.bind (yv L n _ s2) fun _ _=>gM rfl rfl fun _ _=> .ok _)) fun _ s3=> ?_
 exact OB.may rfl rfl (fun s4=>(q6 L _ s4 (by decide)).bind fun _ s5=>((wH L n).1 s5).bind fun _ _=> .ok _) (((wH L n).1 s3).bind fun _ _=> .ok _)
theorem EO(N:Nat):∀(n:Nat)(l:List Fn)(s:RS),OB s (fA L N n l s)
 |0,_,_=>OB.out
 |n+1,l,s=>by
  simp only[fA];exact OB.ite (.ok _) ((JX L N s).bind fun _ s1=>EO N n _ s1)
theorem H7{n:Nat}{l:List Fn}{s:RS}(h:cT L n= .ok l s):s.op=0:=
 (show OB ⟨0,0,0⟩ (cT L n)from (JX L n _).bind fun _ s1=>EO L n n _ s1) l s h (by decide) (by decide)
end
end Go.Avm
namespace Go.Avm
mutual
def lE(b:Bool):Ex→Ex
 | .mk k o nm n p xs=> .mk k o nm n (bif b then p else 0) (b7 b xs)
def b7(b:Bool):List Ex→List Ex
 |[]=>[]
 |x::l=>lE b x::b7 b l
end
def q7(b:Bool)(x:Pm):Pm:={x with p:=bif b then x.p else 0}
theorem oD(b:Bool):∀l,b7 b l=l.map (lE b)
 |[]=>rfl
 |x::l=>by simp[b7,oD b l]
end Go.Avm
namespace Go.Avm
structure Shf where
 d:Nat
 e:Int
 j:Nat
def Shf.s(h:Shf)(s:RS):RS:=⟨h.d+s.i,s.op,dD (s.n+h.e)⟩
def yx(t:T):Int×List UInt8×Int:=(t.k,t.t,t.n)
def HI:List UInt8:=[102,110]
structure Nm(L L':List T)(h:Shf):Prop where
 tk:∀i,i≤h.j→yx (L'.getD (h.d+i) default)=yx (L.getD i default)∨((L.getD i default).k=0∧(L'.getD (h.d+i) default).k=2∧(L'.getD (h.d+i) default).t=HI)
 en:(L.getD h.j default).k=0
 nz:∀i,i<h.j→(L.getD i default).k≠0
mutual
def oE(g:Int→Int):bu→bu
 | .mk k id nm ty n _ es bd el=> .mk k (g id) nm ty n 0 (b7 false es) (dg g bd) (dg g el)
def dg(g:Int→Int):List bu→List bu
 |[]=>[]
 |x::l=>oE g x::dg g l
end
theorem yy(g:Int→Int):∀l,dg g l=l.map (oE g)
 |[]=>rfl
 |x::l=>by simp[dg,yy g l]
theorem EP(g:Int→Int)(l m:List bu):dg g (l ++m)=dg g l ++dg g m:=by simp[yy]
theorem C2(b:Bool)(l m:List Ex):b7 b (l ++m)=b7 b l ++b7 b m:=by simp[oD]
def iz(g:Int→Int)(x:Fn):Fn:=⟨x.nm,x.ps.map (q7 false),x.res,dg g x.bd,0⟩
def BR{α γ:Type}(h:Shf)(κ κ':α→γ)(r r':Res α):Prop:=∀a s',r= .ok a s'→s'.i≤h.j∧∃a',r'= .ok a' (h.s s')∧κ' a'=κ a
section
variable{h:Shf}{α β γ δ:Type}{κ κ':α→γ}{κ2 κ2':β→δ}{r r':Res α}{f f':α→RS→Res β}{s:RS}
theorem BR.bind(H:BR h κ κ' r r')(hf:∀a a' s',s'.i≤h.j→κ' a'=κ a→BR h κ2 κ2' (f a s') (f' a' (h.s s'))):BR h κ2 κ2' (r.bind f) (r'.bind f'):=fun b s2 e=>by
 cases r with
 |ok a s1=>
  obtain⟨hj,a',rfl,hk⟩:=H a s1 rfl;exact hf a a' s1 hj hk b s2 e
 |bad p q s1=>cases e
 |out=>cases e
theorem BR.ok{a a':α}(hs:s.i≤h.j)(e:κ' a'=κ a):BR h κ κ' (.ok a s) (.ok a' (h.s s)):=fun _ _ e2=>by cases e2;exact⟨hs,a',rfl,e⟩
theorem BR.out:BR h κ κ' (Res.out:Res α) r':=fun _ _ e=>by cases e
theorem BR.ite{c:Bool}{X Y X' Y':Res α}(hX:BR h κ κ' X X')(hY:BR h κ κ' Y Y'):BR h κ κ' (bif c then X else Y) (bif c then X' else Y'):=by cases c<;>assumption
end
theorem qh{a b:T}(h:yx a=yx b):a.k=b.k:=congrArg (·.1) h
theorem lF{a b:T}(h:yx a=yx b):a.t=b.t:=congrArg (·.2.1) h
theorem JY{a b:T}(h:yx a=yx b):a.n=b.n:=congrArg (·.2.2) h
theorem JZ{L:List T}{s:RS}{x:List UInt8}(h:isT L s x=true):(bt L s).k≠0:=fun e=>by
 unfold isT at h;rw[e]at h;cases h
theorem EQ{L:List T}{s:RS}{k:Int}:∀m:List (Int×List UInt8×Int),(∀p∈m,p.1≠0)→(eV L s k m).1≠0→(bt L s).k≠0
 |[],_,h=>absurd rfl h
 |(o,x,lv)::m,hm,h=>by
  simp only[eV]at h;cases hc:(decide (k≤lv)&&isT L s x)with
  |false=>rw[hc]at h;exact EQ m (fun p hp=>hm p (List.mem_cons_of_mem _ hp)) h
  |true=>simp only[Bool.and_eq_true]at hc;exact JZ hc.2
section
variable{h:Shf}{L L':List T}(A:Nm L L' h){α γ:Type}{κ κ':α→γ}{s:RS}
include A
theorem Bx(hs:s.i≤h.j)(hk:(bt L s).k≠0):s.i+1≤h.j:=by
 rcases Nat.lt_or_eq_of_le hs with l|l
 ·exact l
 ·exact absurd (show(bt L s).k=0 by unfold bt;rw[l];exact A.en) hk
theorem Bz(hs:s.i≤h.j)(hk:(bt L s).k≠0):yx (bt L' (h.s s))=yx (bt L s):=by
 rcases A.tk s.i hs with g|⟨g,_⟩
 ·exact g
 ·exact absurd g hk
theorem KZ(k:Int)(hs:s.i≤h.j)(h0:k≠0)(h2:k≠2):((bt L' (h.s s)).k==k)=((bt L s).k==k):=by
 rcases A.tk s.i hs with g|⟨g,g2,_⟩
 ·have:=qh g
  unfold bt Shf.s;dsimp only;rw[this]
 ·unfold bt Shf.s;dsimp only;rw[g,g2]
  have a1:((2:Int)==k)=false:=by simp;omega
  have a2:((0:Int)==k)=false:=by simp;omega
  rw[a1,a2]
theorem Ay(x:List UInt8)(hx:(HI==x)=false)(hs:s.i≤h.j):isT L' (h.s s) x=isT L s x:=by
 rcases A.tk s.i hs with g|⟨g,g2,g3⟩
 ·unfold isT bt Shf.s;dsimp only;rw[qh g,lF g]
 ·unfold isT bt Shf.s;dsimp only;rw[g,g2,g3,hx];rfl
theorem jm(x:List UInt8)(hs:s.i≤h.j):BR h yx yx (aE L x s) (aE L' x (h.s s)):=fun a s' e=>by
 unfold aE at e ⊢;cases hi:isT L s x with
 |false=>rw[hi]at e;cases e
 |true=>
  have hk:=JZ hi;have ha:=Bz A hs hk;have hl:=Bx A hs hk;have hi':isT L' (h.s s) x=true:=by rw[←hi];unfold isT;rw[qh ha,lF ha]
  rw[hi]at e;rw[hi'];simp only[cond_true]at e ⊢;cases h1:(x==[40]||x==[91]||x==[123])<;>rw[h1]at e
  ·simp only[cond_false]at e ⊢
   cases h2:(x==[41]||x==[93]||x==[125])<;>rw[h2]at e<;>cases e<;>exact⟨hl,_,rfl,ha⟩
  ·simp only[cond_true]at e ⊢
   have h3:(h.s s).op=s.op:=rfl;rw[h3];cases h2:decide (200<dD (s.op+1))<;>rw[h2]at e<;>cases e
   exact⟨hl,_,rfl,ha⟩
theorem kj(k:Int)(h0:k≠0)(hs:s.i≤h.j):BR h yx yx (dt L k s) (dt L' k (h.s s)):=fun a s' e=>by
 unfold dt at e ⊢;cases hi:((bt L s).k==k)with
 |false=>rw[hi]at e;cases e
 |true=>
  have hk:(bt L s).k≠0:=by rw[eq_of_beq hi];exact h0
  have ha:=Bz A hs hk;rw[qh ha,hi];rw[hi]at e;cases e;exact⟨Bx A hs hk,_,rfl,ha⟩
theorem BR.isT{x:List UInt8}(hx:(HI==x)=false)(hs:s.i≤h.j){X Y X' Y':Res α}(hX:BR h κ κ' X X')(hY:BR h κ κ' Y Y'):BR h κ κ' (bif isT L s x then X else Y) (bif isT L' (h.s s) x then X' else Y'):=by
 rw[Ay A x hx hs];exact hX.ite hY
theorem BR.may{x:List UInt8}(hx:(HI==x)=false)(hs:s.i≤h.j){X Y X' Y':RS→Res α}(hX:∀s',s'.i≤h.j→BR h κ κ' (X s') (X' (h.s s')))(hY:BR h κ κ' (Y s) (Y' (h.s s))):
    BR h κ κ' ((ci L x s).bind fun b s1=>bif b then X s1 else Y s1) ((ci L' x (h.s s)).bind fun b s1=>bif b then X' s1 else Y' s1):=by
 unfold ci;rw[Ay A x hx hs];cases Go.Avm.isT L s x with
 |false=>exact hY
 |true=>
  have:=(jm A x (s:=s) hs).bind (κ2:=κ) (κ2':=κ') (f:=fun _ s1=>X s1) (f':=fun _ s1=>X' s1) fun _ _ s' hl _=>hX s' hl
  simp only[cond_true];intro a s' e;revert e this;cases aE L x s with
  |ok t s1=>
   intro this e;obtain⟨hl,a',e2,hk⟩:=this a s' e;revert e2;cases aE L' x (h.s s)with
   |ok t' s1'=>exact fun e2=>⟨hl,a',e2,hk⟩
   |bad p q s1'=>exact fun e2=>by cases e2
   |out=>exact fun e2=>by cases e2
  |bad p q s1=>exact fun _ e=>by cases e
  |out=>exact fun _ e=>by cases e
theorem q8:∀(l:List Int)(s:RS),(∀k∈l,(HI==dM k)=false)→s.i≤h.j→BR h (fun k:Int=>k) (fun k:Int=>k) (dP L l s) (dP L' l (h.s s))
 |[],s,_,_=>fun _ _ e=>by cases e
 |k::r,s,hl,hs=>by
  unfold dP;exact BR.may A (hl k List.mem_cons_self) hs (fun s' hs'=> .ok hs' rfl) (q8 r s (fun k hk=>hl k (List.mem_cons_of_mem _ hk)) hs)
theorem H8(k:Int)(hs:s.i≤h.j):dj L' k (h.s s)=dj L k s:=by
 have:∀m:List (Int×List UInt8×Int),(∀p∈m,(HI==p.2.1)=false)→eV L' (h.s s) k m=eV L s k m:=fun m=>by
  induction m with
  |nil=>exact fun _=>rfl
  |cons p m ih=>
   obtain⟨o,x,lv⟩:=p;intro hm;have a1:(HI==x)=false:=hm (o,x,lv) List.mem_cons_self;simp only[eV,Ay A x a1 hs,ih fun p hp=>hm p (List.mem_cons_of_mem _ hp)]
 exact this uS (by decide)
end
structure Tp(L L':List T)(h:Shf)(n n':Nat):Prop where
 one:∀s:RS,s.i≤h.j→BR h (lE false) (lE false) (eP L n s) (eP L' n' (h.s s))
 place:∀s:RS,s.i≤h.j→BR h (lE false) (lE false) (cP L n s) (cP L' n' (h.s s))
 call:∀nm p p' (s:RS),s.i≤h.j→BR h (lE false) (lE false) (du L n nm p s) (du L' n' nm p' (h.s s))
 args:∀s:RS,s.i≤h.j→BR h (b7 false) (b7 false) (eS L n s) (eS L' n' (h.s s))
 more:∀l l' (s:RS),s.i≤h.j→b7 false l'=b7 false l→BR h (b7 false) (b7 false) (d8 L n l s) (d8 L' n' l' (h.s s))
 expr:∀k (s:RS),s.i≤h.j→BR h (lE false) (lE false) (bv L n k s) (bv L' n' k (h.s s))
 tail:∀k e e' (s:RS),s.i≤h.j→lE false e'=lE false e→BR h (lE false) (lE false) (dw L n k e s) (dw L' n' k e' (h.s s))
section
variable{h:Shf}{L L':List T}(A:Nm L L' h)
include A
theorem BA:∀n n',n≤n'→Tp L L' h n n'
 |0,_,_=>⟨fun _ _=>BR.out,fun _ _=>BR.out,fun _ _ _ _ _=>BR.out,fun _ _=>BR.out,fun _ _ _ _ _=>BR.out,fun _ _ _=>BR.out,fun _ _ _ _ _ _=>BR.out⟩
 |n+1,0,hn=>by omega
 |n+1,n'+1,hn=>by
  have ih:=BA n n' (by omega);have W:=fun x s hs=>jm A x (s:=s) hs
  refine⟨fun s hs=> ?_,fun s hs=> ?_,fun nm p p' s hs=> ?_,fun s hs=> ?_,fun l l' s hs hl=> ?_,fun k s hs=> ?_,fun k e e' s hs he=> ?_⟩
  ·simp only[eP]
   have un:∀(o p p':Int) s',s'.i≤h.j→BR h (lE false) (lE false) ((eP L n s').bind fun e s2=> .ok (.mk 8 o [] 0 p [e]) s2) ((eP L' n' (h.s s')).bind fun e s2=> .ok (.mk 8 o [] 0 p' [e]) s2):=fun o p p' s' hs'=>(ih.one s' hs').bind fun e e' s2 hs2 h=> .ok hs2 (by simp only[lE,b7,h,cond_false])
   refine BR.may A rfl hs (fun s' hs'=>un _ _ _ s' hs') (BR.may A rfl hs (fun s' hs'=>un _ _ _ s' hs') (BR.may A rfl hs (fun s' hs'=>un _ _ _ s' hs') ?_));rw[KZ A 3 hs (by decide) (by decide)];cases h3:((bt L s).k==3)with
   |true=>
    have hk:(bt L s).k≠0:=by rw[eq_of_beq h3];decide
    exact BR.ok (s:=s.nx) (Bx A hs hk) (by simp only[lE,b7,cond_false,JY (Bz A hs hk)])
   |false=>
    simp only[cond_false];refine BR.may A rfl hs (fun s' hs'=> .ok hs' (by simp only[lE,b7,cond_false])) (BR.may A rfl hs (fun s' hs'=> .ok hs' (by simp only[lE,b7,cond_false])) ?_);refine BR.may A rfl hs (fun s' hs'=>(W _ s' hs').bind fun _ _ s2 hs2 _=>(W _ s2 hs2).bind fun _ _ _ hs3 _=> .ok hs3 (by simp only[lE,b7,cond_false])) ?_;refine BR.may A rfl hs (fun s' hs'=>(W _ s' hs').bind fun _ _ s2 hs2 _=>(kj A 1 (by decide) hs2).bind fun _ _ s3 hs3 h=>(W _ s3 hs3).bind fun _ _ _ hs4 _=> .ok hs4 (by simp only[lE,b7,cond_false,lF h])) ?_;refine BR.isT A rfl hs ((W _ s hs).bind fun _ _ s2 hs2 _=>(ih.expr _ s2 hs2).bind fun _ _ s3 hs3 h=>(W _ s3 hs3).bind fun _ _ _ hs4 _=> .ok hs4 h) ?_;exact(kj A 1 (by decide) hs).bind fun t t' s2 hs2 h=>BR.isT A rfl hs2 ((ih.place s2 hs2).bind fun _ _ _ hs3 h2=> .ok hs3 (by simp only[lE,b7,cond_false,lF h,h2])) (BR.isT A rfl hs2 ((show BR _ (lE false) (lE false) (du L n t.t (bt L s).p s2) (du L' n' t'.t (bt L' (Shf.s _ s)).p (Shf.s _ s2))from lF h▸ih.call t'.t (bt L s).p (bt L' (Shf.s _ s)).p s2 hs2).bind fun _ _ _ hs3 h2=> .ok hs3 h2) (.ok hs2 (by simp only[lE,b7,cond_false,lF h])))
  ·simp only[cP]
   exact(W _ s hs).bind fun _ _ s2 hs2 _=>(ih.expr _ s2 hs2).bind fun _ _ s3 hs3 h=>(W _ s3 hs3).bind fun _ _ _ hs4 _=> .ok hs4 h
  ·simp only[du]
   exact(ih.args s hs).bind fun _ _ _ hs2 h=> .ok hs2 (by simp only[lE,cond_false,h])
  ·simp only[eS]
   exact(W _ s hs).bind fun _ _ s2 hs2 _=>BR.isT A rfl hs2 ((W _ s2 hs2).bind fun _ _ _ hs3 _=> .ok hs3 rfl) ((ih.expr _ s2 hs2).bind fun _ _ s3 hs3 h=>(ih.more _ _ s3 hs3 (by simp only[b7,h])).bind fun _ _ s4 hs4 h2=>(W _ s4 hs4).bind fun _ _ _ hs5 _=> .ok hs5 h2)
  ·simp only[d8]
   exact BR.may A rfl hs (fun s' hs'=>(ih.expr _ s' hs').bind fun _ _ s3 hs3 h=>ih.more _ _ s3 hs3 (by simp only[C2,b7,h,hl])) (.ok hs hl)
  ·simp only[bv]
   exact(ih.one s hs).bind fun _ _ s2 hs2 h=>ih.tail _ _ _ s2 hs2 h
  ·simp only[dw]
   rw[H8 A k hs];cases h0:((dj L k s).1==0)with
   |true=>exact .ok hs he
   |false=>
    have hk:(bt L s).k≠0:=EQ (k:=k) uS (by decide) (beq_eq_false_iff_ne.1 h0);exact(ih.expr _ s.nx (Bx A hs hk)).bind fun _ _ s3 hs3 h=>ih.tail k _ _ s3 hs3 (by simp only[lE,b7,cond_false,he,h])
theorem K0{n n':Nat}(hn:n≤n')(g g':Int→Int)(id id' p p':Int)(hg:g' id'=g id)(s:RS)(hs:s.i≤h.j):BR h (oE g) (oE g') (ip L n id p s) (ip L' n' id' p' (h.s s)):=by
 have W:=fun x s hs=>jm A x (s:=s) hs
 unfold ip;refine(kj A 1 (by decide) hs).bind fun t t' s2 hs2 ht=>(W _ s2 hs2).bind fun _ _ s3 hs3 _=>(q8 A _ s3 (by decide) hs3).bind fun ty ty' s4 hs4 e=> ?_
 obtain rfl:ty'=ty:=e;have ht:=lF ht;cases ty'==3 with
 |true=>exact(W _ s4 hs4).bind fun _ _ s5 hs5 _=>(kj A 3 (by decide) hs5).bind fun _ _ s6 hs6 hm=>(W _ s6 hs6).bind fun _ _ s7 hs7 _=>(W _ s7 hs7).bind fun _ _ _ hs8 _=> .ok hs8 (by simp only[oE,b7,dg,ht,JY hm,hg])
 |false=>exact BR.may A rfl hs4 (fun s' hs'=>((BA A n n' hn).expr 1 s' hs').bind fun _ _ s6 hs6 h=>(W _ s6 hs6).bind fun _ _ _ hs7 _=> .ok hs7 (by simp only[oE,b7,dg,ht,h,hg])) ((W _ s4 hs4).bind fun _ _ _ hs5 _=> .ok hs5 (by simp only[oE,b7,dg,ht,hg]))
theorem ES{n n':Nat}(hn:n≤n')(g g':Int→Int)(id id' p p':Int)(hg:g' id'=g id)(s:RS)(hs:s.i≤h.j):BR h (oE g) (oE g') (cE L n id p s) (cE L' n' id' p' (h.s s)):=by
 have W:=fun x s hs=>jm A x (s:=s) hs
 have B:=BA A n n' hn;unfold cE;refine(kj A 1 (by decide) hs).bind fun t t' s2 hs2 ht=> ?_
 have ht:=lF ht;refine BR.isT A rfl hs2 ((show BR h (lE false) (lE false) (du L n t.t p s2) (du L' n' t'.t p' (h.s s2))from ht▸B.call t'.t p p' s2 hs2).bind fun _ _ s3 hs3 e=>(W _ s3 hs3).bind fun _ _ _ hs4 _=> .ok hs4 (by simp only[oE,b7,dg,e,hg])) (BR.isT A rfl hs2 ?_ ?_)
 ·exact(B.place s2 hs2).bind fun _ _ s3 hs3 e=>(W _ s3 hs3).bind fun _ _ s4 hs4 _=>(B.expr 1 s4 hs4).bind fun _ _ s5 hs5 e2=>(W _ s5 hs5).bind fun _ _ _ hs6 _=> .ok hs6 (by simp only[oE,b7,dg,ht,e,e2,hg])
 ·exact(W _ s2 hs2).bind fun _ _ s3 hs3 _=>(B.expr 1 s3 hs3).bind fun _ _ s4 hs4 e=>(W _ s4 hs4).bind fun _ _ _ hs5 _=> .ok hs5 (by simp only[oE,b7,dg,ht,e,hg])
end
end Go.Avm
namespace Go.Avm
def wW(m:Int):Int:=if 9223372036854775808≤m then m-18446744073709551616 else m
theorem ET(a:Int):dD a=wW (a % 18446744073709551616):=by
 unfold dD wW IntKind.wrap;have e:((2:Int)^IntKind.i64.bits)=18446744073709551616:=rfl;have e2:((2:Int)^(IntKind.i64.bits-1))=9223372036854775808:=rfl;simp only[e,e2,IntKind.signed,Bool.true_and,decide_eq_true_eq,ge_iff_le]
theorem H9(a:Int):dD a % 18446744073709551616=a % 18446744073709551616:=by
 rw[ET];unfold wW;split<;>omega
theorem EU{a b:Int}(h:a % 18446744073709551616=b % 18446744073709551616):dD a=dD b:=by rw[ET,ET,h]
theorem BB(a b:Int):dD (dD a+b)=dD (a+b):=by
 refine EU ?_;rw[Int.add_emod,H9,←Int.add_emod]
theorem NC(h:Shf)(s:RS):(h.s s).st=h.s s.st:=by
 simp only[RS.st,Shf.s];rw[BB,BB];congr 2;omega
def Shf.g(h:Shf)(x:Int):Int:=dD (x+h.e)
section
variable{h:Shf}{L L':List T}(A:Nm L L' h)
include A
theorem BC:∀n n',n≤n'→(∀s:RS,s.i≤h.j→BR h (dg h.g) (dg id) (bM L n s) (bM L' n' (h.s s)))∧(∀r r' (s:RS),s.i≤h.j→dg id r'=dg h.g r→BR h (dg h.g) (dg id) (cF L n r s) (cF L' n' r' (h.s s)))∧(∀s:RS,s.i≤h.j→BR h (oE h.g) (oE id) (ej L n s) (ej L' n' (h.s s)))
 |0,_,_=>⟨fun _ _=>BR.out,fun _ _ _ _ _=>BR.out,fun _ _=>BR.out⟩
 |n+1,0,hn=>by omega
 |n+1,n'+1,hn=>by
  obtain⟨h1,h2,h3⟩:=BC n n' (by omega);have W:=fun x s hs=>jm A x (s:=s) hs
  have B:=BA A n n' (by omega);refine⟨fun s hs=> ?_,fun r r' s hs hr=> ?_,fun s hs=> ?_⟩
  ·simp only[bM]
   exact(W _ s hs).bind fun _ _ s1 hs1 _=>(h2 _ _ s1 hs1 rfl).bind fun _ _ s2 hs2 e=>(W _ s2 hs2).bind fun _ _ _ hs3 _=> .ok hs3 e
  ·simp only[cF]
   exact BR.isT A rfl hs (.ok hs hr) ((h3 s hs).bind fun _ _ s1 hs1 e=>h2 _ _ s1 hs1 (by simp only[EP,dg,hr,e]))
  ·have hid:(h.s s.st).n=h.g s.st.n:=rfl
   have hs:s.st.i≤h.j:=hs;simp only[ej];rw[NC];refine BR.may A rfl hs (fun s' hs'=>(K0 A (by omega) h.g id _ _ _ _ rfl s' hs').bind fun _ _ _ hs2 e=> .ok hs2 e) (BR.may A rfl hs (fun s' hs'=> ?_) (BR.may A rfl hs (fun s' hs'=> ?_) (BR.may A rfl hs (fun s' hs'=> ?_) (BR.may A rfl hs (fun s' hs'=> ?_) ?_))))
   ·exact(B.expr 1 s' hs').bind fun _ _ s2 hs2 e=>(h1 s2 hs2).bind fun _ _ s3 hs3 hb=>BR.may A rfl hs3 (fun s4 hs4=>(h1 s4 hs4).bind fun _ _ _ hs5 hc=> .ok hs5 (by simp only[oE,b7,dg,hid,id_eq,e,hb,hc])) (.ok hs3 (by simp only[oE,b7,dg,hid,id_eq,e,hb]))
   ·exact(B.expr 1 s' hs').bind fun _ _ s2 hs2 e=>(h1 s2 hs2).bind fun _ _ _ hs3 hb=> .ok hs3 (by simp only[oE,b7,dg,hid,id_eq,e,hb])
   ·exact BR.isT A rfl hs' ((W _ s' hs').bind fun _ _ _ hs2 _=> .ok hs2 (by simp only[oE,b7,dg,hid,id_eq])) ((B.expr 1 s' hs').bind fun _ _ s2 hs2 e=>(W _ s2 hs2).bind fun _ _ _ hs3 _=> .ok hs3 (by simp only[oE,b7,dg,hid,id_eq,e]))
   ·exact(B.expr 1 s' hs').bind fun _ _ s2 hs2 e=>(W _ s2 hs2).bind fun _ _ _ hs3 _=> .ok hs3 (by simp only[oE,b7,dg,hid,id_eq,e])
   ·exact(ES A (by omega) h.g id _ _ _ _ rfl s.st hs).bind fun _ _ _ hs2 e=> .ok hs2 e
theorem yz(s:RS)(hs:s.i≤h.j):BR h (q7 false) (q7 false) (eW L s) (eW L' (h.s s)):=(kj A 1 (by decide) hs).bind fun _ _ s1 hs1 e=>(jm A _ hs1).bind fun _ _ s2 hs2 _=>(q8 A _ s2 (by decide) hs2).bind fun k k' _ hs3 ek=> .ok hs3 (by obtain rfl:k'=k:=ek;simp only[q7,cond_false,lF e])
theorem yA:∀(n n':Nat)(r r':List Pm)(s:RS),n≤n'→s.i≤h.j→r'.map (q7 false)=r.map (q7 false)→BR h (List.map (q7 false)) (List.map (q7 false)) (cG L n r s) (cG L' n' r' (h.s s))
 |0,_,_,_,_,_,_,_=>BR.out
 |n+1,0,_,_,_,hn,_,_=>by omega
 |n+1,n'+1,r,r',s,hn,hs,hr=>by
  simp only[cG];exact BR.may A rfl hs (fun s' hs'=>(yz A s' hs').bind fun _ _ s2 hs2 e=>yA n n' _ _ s2 (by omega) hs2 (by simp only[List.map_append,List.map_cons,List.map_nil,hr,e])) (.ok hs hr)
theorem C3(n n':Nat)(hn:n≤n')(s:RS)(hs:s.i≤h.j):BR h (List.map (q7 false)) (List.map (q7 false)) (cQ L n s) (cQ L' n' (h.s s)):=by
 have W:=fun x s hs=>jm A x (s:=s) hs
 unfold cQ;exact(W _ s hs).bind fun _ _ s3 hs3 _=>BR.isT A rfl hs3 ((W _ s3 hs3).bind fun _ _ _ hs4 _=> .ok hs4 rfl) ((yz A s3 hs3).bind fun _ _ s4 hs4 e=>(yA A n n' _ _ s4 hn hs4 (by simp only[List.map_cons,List.map_nil,e])).bind fun _ _ s5 hs5 e2=>(W _ s5 hs5).bind fun _ _ _ hs6 _=> .ok hs6 e2)
theorem J0(n n':Nat)(hn:n≤n')(s:RS)(hs:s.i≤h.j):BR h (iz h.g) (iz id) (qg L n s) (qg L' n' (h.s s)):=by
 have W:=fun x s hs=>jm A x (s:=s) hs
 have B:=(BC A n n' hn).1;unfold qg;exact(W _ s hs).bind fun _ _ s1 hs1 _=>(kj A 1 (by decide) hs1).bind fun _ _ s2 hs2 hu=>(C3 A n n' hn s2 hs2).bind fun _ _ s3 hs3 hp=>BR.may A rfl hs3 (fun s4 hs4=>(q8 A _ s4 (by decide) hs4).bind fun k k' s5 hs5 e=>(B s5 hs5).bind fun _ _ _ hs6 hb=> .ok hs6 (by obtain rfl:k'=k:=e;simp only[iz,lF hu,hp,hb])) ((B s3 hs3).bind fun _ _ _ hs4 hb=> .ok hs4 (by simp only[iz,lF hu,hp,hb]))
theorem Az{N N':Nat}(hN:N≤N')(K:List Fn){a:List Fn}{s1:RS}:∀(n n':Nat)(r r':List Fn)(s:RS),n≤n'→s.i≤h.j→r'.map (iz id)=K ++r.map (iz h.g)→fA L N n r s= .ok a s1→s1.i=h.j∧∃n2 r2,n'+1≤n2+n∧r2.map (iz id)=K ++a.map (iz h.g)∧fA L' N' n' r' (h.s s)=fA L' N' n2 r2 (h.s s1)
 |0,_,_,_,_,_,_,_,e=>by cases e
 |n+1,0,_,_,_,hn,_,_,_=>by omega
 |n+1,n'+1,r,r',s,hn,hs,hr,e=>by
  rw[fA]at e;cases hk:((bt L s).k==0)with
  |true=>
   rw[hk]at e;cases e
   have:s1.i=h.j:=by
    rcases Nat.lt_or_eq_of_le hs with l|l
    ·exact absurd (eq_of_beq hk) (A.nz _ l)
    ·exact l
   exact⟨this,n'+1,r',by omega,hr,rfl⟩
  |false=>
   rw[hk]at e;simp only[cond_false]at e;have hk0:(bt L s).k≠0:=by simpa using hk
   cases hf:qg L N s with
   |bad p q s2=>rw[hf]at e;cases e
   |out=>rw[hf]at e;cases e
   |ok f s2=>
    rw[hf]at e;obtain⟨hs2,f',hf',hk'⟩:=J0 A N N' hN s hs f s2 hf;have ht:=Bz A hs hk0;obtain⟨g1,n2,r2,g2,g3,g4⟩:=Az hN K n n' (r ++[f]) (r' ++[f']) s2 (by omega) hs2 (by simp only[List.map_append,List.map_cons,List.map_nil,hr,hk',List.append_assoc]) e;refine⟨g1,n2,r2,by omega,g3, ?_⟩;rw[fA,qh ht,hk,cond_false,hf',←g4];rfl
end
end Go.Avm
