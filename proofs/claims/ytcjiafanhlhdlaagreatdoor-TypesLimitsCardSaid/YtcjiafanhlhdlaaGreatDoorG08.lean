/-
  Types: 'slices.Sorted(maps.Values(m))' of a map of names to numbers: the kit's contracts, turned to the machine's.
-/
import Derived.Test.YtcjiafanhlhdlaaGreatDoorG07
import Derived.Shelf.SlIter.AllValues
import Derived.Lib.SlKeysI
import Derived.Maps.RangeRun
set_option linter.unusedVariables false
set_option linter.unusedSimpArgs false
set_option linter.unusedSectionVars false
namespace Go.Avm
open Go.Proofs Go.RowKit Go.Maps Go.WideElems Go.WideShapes
variable[aH]
structure Dm(es:List (D×D×Nat))(c:Nat):Prop where
 ent:∀e∈es,∃(l:List UInt8)(n:Nat),e.1= .str l∧e.2.1= .int .i64 n∧l.length≤maxLen∧n<4611686018427387904∧e.2.2<c
 keys:(es.map (·.1)).Nodup
 born:(es.map (·.2.2)).Nodup
 len:es.length≤1000000
def vQ:D→List UInt8
 | .str l=>l
 |_=>[]
def I8:D→Int
 | .int _ n=>n
 |_=>0
def n9(es:List (D×D×Nat)):List Int:=es.map fun e=>I8 e.2.1
def lz(zs:List Int):List Int:=zs.mergeSort fun x y=>decide (x≤y)
def Gc:DataW Unit→Int
 | .lit (.int _ n)=>n
 |_=>0
def tL(e:D×D×Nat):Lit×DataW Unit:=(.string (vQ e.1), .lit (.int .i64 (I8 e.2.1)))
theorem si{H:Type}:∀(es:List (Lit×DataW H)),es.Pairwise (fun p q=>p.1≠q.1)→∀p∈es,∀x,p.1= .string x→es.find? (fun q=>q.1.sameKey (.string x))=some p
 |[],_,p,hp,_,_=>by cases hp
 |a::r,hpw,p,hp,x,hx=>by
  rw[List.pairwise_cons]at hpw;rcases List.mem_cons.1 hp with rfl|hp'
  ·rw[List.find?_cons_of_pos (by rw[hx];simp[Lit.sameKey])]
  ·have hne:a.1≠p.1:=hpw.1 p hp'
   rw[List.find?_cons_of_neg (by rw[←hx,sameKey_ne hne];simp)];exact si r hpw.2 p hp' x hx
theorem Dn{P:Program}{kT eT:TypeId}(hk:P.underlying kT=some .string)(he:P.underlying eT=some (.int .i64)){imm:Nat→Nat→Prop}{w:World}{b:Nat}{es:List (D×D×Nat)}{c:Nat}{ms:Array MapEntry}(hsz:ms.size=es.length)
    (hent:∀(i:Nat)(e:D×D×Nat)(m:MapEntry),es[i]? =some e→ms[i]? =some m→DRep imm w e.1 m.key∧DRep imm w e.2.1 m.val∧m.born=e.2.2) (hn:Dm es c):
    Fit P kT (plainElem (H:=Unit) P eT) ms c∧ms.toList.map (rg P kT (plainElem (H:=Unit) P eT))=es.map tL:=by
 have hrd:∀(i:Nat)(e:D×D×Nat)(m:MapEntry),es[i]? =some e→ms[i]? =some m→rd P kT (plainElem (H:=Unit) P eT) m=some (tL e)∧m.key= .string ⟨(vQ e.1).toArray⟩:=fun i e m h1 h2=>by
  obtain⟨d1,d2,_⟩:=hent i e m h1 h2;obtain⟨l,n,e1,e2,h3,h4,_⟩:=hn.ent e (List.mem_of_getElem? h1);rw[e1]at d1;rw[e2]at d2;generalize hmk:m.key=mk at d1;generalize hmv:m.val=mv at d2;cases d1 with
  |str _ s hs=>
  cases d2 with
  |int _ _=>
  have hsz:s.size≤maxLen:=by
   have:s.size=s.data.toList.length:=by rw[Array.length_toList];rfl
   rw[this,hs];exact h3
  refine⟨?_,by rw[e1];subst hs;simp[vQ]⟩;unfold rd;rw[hmk,hmv]
  have hw:(Lit.int .i64 (n:Int)).wf=true:=by
   have a:IntKind.i64.min= -9223372036854775808:=rfl;have b:IntKind.i64.max=9223372036854775807:=rfl;simp only[Lit.wf,a,b];simp;omega
  simp[Go.keyOf,hk,mapKey,hsz,plainElem,he,hw,tL,e1,e2,vQ,I8,hs]
 have hlist:ms.toList.map (rg P kT (plainElem (H:=Unit) P eT))=es.map tL:=by
  apply List.ext_getElem?;intro i;simp only[List.getElem?_map];by_cases hi:i<es.length
  ·have h1:es[i]? =some es[i]:=List.getElem?_eq_getElem hi
   have h2:ms[i]? =some ms[i]:=Array.getElem?_eq_getElem (by omega);have h3:ms.toList[i]? =some ms[i]:=by rw[Array.getElem?_toList];exact h2
   rw[h1,h3];have:=(hrd i _ _ h1 h2).1;simp[rg,this]
  ·rw[List.getElem?_eq_none (l:=es) (by omega),List.getElem?_eq_none (l:=ms.toList) (by rw[Array.length_toList];omega)]
   rfl
 refine⟨⟨by rw[hsz];have:=hn.len;unfold maxLen;omega,⟨fun x hx=> ?_, ?_, ?_⟩,fun x hx=> ?_⟩,hlist⟩
 ·obtain⟨i,hi,rfl⟩:=List.getElem_of_mem hx
  have hi':i<ms.size:=by simpa using hi
  have h1:es[i]? =some (es[i]'(by omega)):=List.getElem?_eq_getElem _;have h2:ms[i]? =some ms[i]:=Array.getElem?_eq_getElem hi';obtain⟨_,_,hb⟩:=hent i _ _ h1 h2;obtain⟨_,_,_,_,_,_,h5⟩:=hn.ent _ (List.mem_of_getElem? h1);simp only[Array.getElem_toList];rw[hb];exact h5
 ·have:ms.toList.map (·.born)=es.map (·.2.2):=by
    apply List.ext_getElem (by simp[hsz]);intro i h1 h2;simp only[List.length_map,Array.length_toList]at h1 h2;simp only[List.getElem_map,Array.getElem_toList];exact(hent i _ _ (List.getElem?_eq_getElem (by omega)) (Array.getElem?_eq_getElem (by omega))).2.2
  rw[this];exact hn.born
 ·have:ms.toList.map (·.key)=es.map (fun e=>Value.string ⟨(vQ e.1).toArray⟩):=by
    apply List.ext_getElem (by simp[hsz]);intro i h1 h2;simp only[List.length_map,Array.length_toList]at h1 h2;simp only[List.getElem_map,Array.getElem_toList];exact(hrd i _ _ (List.getElem?_eq_getElem (by omega)) (Array.getElem?_eq_getElem (by omega))).2
  rw[this];have hk2:=hn.keys;rw[List.nodup_iff_pairwise_ne,List.pairwise_map]at hk2 ⊢;refine hk2.imp_of_mem fun {p q} hp hq hne e=>hne ?_
  obtain⟨l,_,e1,_⟩:=hn.ent p hp;obtain⟨l',_,e1',_⟩:=hn.ent q hq;rw[e1,e1']at e ⊢;simp only[vQ,Value.string.injEq,ByteArray.mk.injEq]at e;have:l=l':=by simpa using e
  rw[this]
 ·obtain⟨i,hi,rfl⟩:=List.getElem_of_mem hx
  have hi':i<ms.size:=by simpa using hi
  exact⟨_,(hrd i _ _ (List.getElem?_eq_getElem (by omega)) (by rw[Array.getElem_toList];exact Array.getElem?_eq_getElem hi')).1⟩
theorem BR{P:Program}{kT eT:TypeId}(hk:P.underlying kT=some .string)(he:P.underlying eT=some (.int .i64)){imm:Nat→Nat→Prop}{w:World}{b:Nat}{es:List (D×D×Nat)}{c:Nat}(hm:BA imm w b es c)(hn:Dm es c):
    ∃D0:DataW Unit,w.ownsMap P kT (plainElem P eT) b es.length D0∧Maps.size D0≤es.length∧∀ps,AnyY.AllOf D0 ps→(ps.map (·.2)).Perm (n9 es):=by
 obtain⟨ms,hb,hsz,hent⟩:=hm;obtain⟨hF,hL⟩:=Dn hk he (b:=b) hsz hent hn;have hap:=fit_apart (string_keyed hk) hF;rw[hL]at hap;have hown:w.ownsMap P kT (plainElem (H:=Unit) P eT) b es.length (.map ((es.map tL).foldr DataW.insert [])):=⟨ms,c,hb,hF,by omega,by rw[hL]⟩
 refine⟨_,hown, ?_,fun ps hps=> ?_⟩
 ·show((es.map tL).foldr DataW.insert []).length≤_
  rw[(sorted_perm (es.map tL)).length_eq];simp
 ·obtain⟨h1,_,h3⟩:=hps
  have hpE:=sorted_perm (es.map tL);generalize hE:(es.map tL).foldr DataW.insert []=E at h1 h3 hpE;have hapE:E.Pairwise (fun p q=>p.1≠q.1):=(hpE.symm.pairwise_iff (fun {a b} (h:a.1≠b.1)=>h.symm)).1 hap
  let val:List UInt8→Int:=fun x=>Gc ((DataW.map E).atKey (.string x) .nil)
  have e1:ps.map (·.2)=(ps.map (·.1)).map val:=by
   rw[List.map_map];refine List.map_congr_left fun p hp=> ?_
   have:=h3 p hp .nil;simp only[Function.comp,val,this,Gc]
  have e2:(strKeys (DataW.map E)).map val=E.map fun q=>Gc q.2:=by
   show(E.map fun p=>strOf p.1).map val=_;rw[List.map_map];refine List.map_congr_left fun q hq=> ?_
   obtain⟨e,he',rfl⟩:=List.mem_map.1 (hpE.mem_iff.1 hq);have hf:=si E hapE _ hq (vQ e.1) rfl;show Gc ((DataW.map E).atKey (.string (vQ e.1)) .nil)=_
   have:(DataW.map E).atKey (.string (vQ e.1)) .nil=(tL e).2:=by
    unfold DataW.atKey;simp only[hf]
   rw[this]
  rw[e1];refine(h1.map val).trans ?_;rw[e2];refine(hpE.map _).trans ?_;rw[List.map_map];exact List.Perm.refl _
theorem jK:∀(zs:List Int),D.flat (zs.map (D.int .i64))=zs.map (D.int .i64)
 |[]=>rfl
 |a::r=>by
  have:=jK r;unfold D.flat at this ⊢;simp only[List.map_cons,List.flatMap_cons,this];rfl
theorem Dp{imm:Nat→Nat→Prop}{w:World}{g cap:Nat}{bA:Array Value}{e:TypeId}{zs:List Int}(hb:w.heap[g]? =some (.cells bA e (0,0)))(hcap:zs.length≤cap)(ht:bA.toList.take zs.length=zs.map (Value.int .i64))(hi:∀t,t<zs.length→imm g t):
    DRep imm w (.ro (zs.map (D.int .i64))) (.slice (some ⟨g,0,none⟩) zs.length cap):=by
 have key:=DRep.ro (imm:=imm) (w:=w) (zs.map (D.int .i64)) g 0 cap 1 (fun t=> .int .i64 (zs.getD t 0)) (by simpa using hcap) (fun e he=>by
  obtain⟨n,_,rfl⟩:=List.mem_map.1 he;rfl) (fun e he=>by
  rw[jK]at he;obtain⟨n,_,rfl⟩:=List.mem_map.1 he;rfl) (fun t c hc=>by
  rw[jK]at hc;have:=(List.getElem?_eq_some_iff.1 hc).1;rw[Nat.zero_add];exact hi t (by simpa using this)) (fun t c hc=>by
  rw[jK]at hc;have hlt:t<zs.length:=by simpa using (List.getElem?_eq_some_iff.1 hc).1
  have h1:(bA.toList.take zs.length)[t]? =some (Value.int .i64 zs[t]):=by rw[ht];simp[hlt]
  rw[List.getElem?_take_of_lt hlt,Array.getElem?_toList]at h1;rw[Nat.zero_add];simp only[World.cell?,hb];simp[h1,hlt]) (fun t c hc=>by
  rw[jK]at hc;have hlt:t<zs.length:=by simpa using (List.getElem?_eq_some_iff.1 hc).1
  simp[hlt]at hc;subst hc;simp[hlt];exact .int _ _)
 rwa [List.length_map]at key
theorem vR{P:Program}{g f:Nat}(hcb:cW P g){kT eT iT:TypeId}(hk:P.underlying kT=some .string)(he:P.underlying eT=some (.int .i64))
    (hC:∀(Bm b nn:Nat)(D0:DataW Unit)(w:World),Bm<w.heap.size→w.cell? ⟨Bm,0,none⟩=some (.map (some b))→w.ownsMap P kT (plainElem P eT) b nn D0→Maps.size D0≤1000000→
     Calls P g #[.func (.func f) #[] #[.pointer (some ⟨Bm,0,none⟩)]] w fun e w'=>∃v ss,e= .returned v∧(∃ps,AnyY.AllOf D0 ps∧ss=ps.map (·.2))∧w'.ownsRow w.heap.size iT 1 v ss.length ((lz ss).map (Value.int .i64))∧Below w.heap.size w w')
    {h:ab} {kb vb k v:Nat} {es:List (D×D×Nat)} {c:Nat} (hb:h kb=⟨vb,some (.arr 1 [.mp k v])⟩) (hm:h k=⟨v,some (.map es c)⟩) (hn:Dm es c):
    ay P g [.fn f [.ptr kb vb 0 0 1]] h [.d (.ro ((lz (n9 es)).map (D.int .i64)))] h:=by
 refine⟨hcb,fun G B w0 I0 w cargs hr hs hargs=> ?_⟩
 obtain⟨u,rfl⟩:∃u,cargs= #[u]:=by
  have h1:cargs.size=1:=hs;refine⟨cargs[0],Array.ext (by simp[h1]) (fun i hi _=> ?_)⟩;have:i=0:=by omega
  subst this;rfl
 have hu:=hargs 0 _ u rfl rfl;cases hu with
 |fn _ _ vs hl hcap=>
 obtain⟨p,rfl⟩:∃p,vs= #[p]:=by
  have h1:vs.size=1:=hl;refine⟨vs[0],Array.ext (by simp[h1]) (fun i hi _=> ?_)⟩;have:i=0:=by omega
  subst this;rfl
 have hp:=hcap 0 _ p rfl rfl;have hvb:(h kb).ver=vb:=by rw[hb]
 have hob:(h kb).ob=some (.arr 1 [.mp k v]):=by rw[hb]
 obtain⟨b,hbk,hM⟩:=hr.maps.obj k es c (by rw[hm]);have hv:(h k).ver=v:=by rw[hm]
 rw[hv]at hbk;generalize hz:(1:Nat)=z at hp;cases hp with
 |ptr _ _ _ _ L hL=>
 rcases hr.objs kb _ hob with ⟨hn',_⟩|⟨L',hL',g1,g2,g3,g4,g5,g6⟩
 ·cases hn'
 rw[hvb,hL]at hL';cases hL';obtain⟨cu,hcell,hone,hrep⟩:=g6 0 _ rfl;generalize hmm:AV.mp k v=mm at hrep;cases hrep<;>first|(cases hmm;done)|skip
 rename_i b' hL2;clear hone;cases hmm;rw[hbk]at hL2;cases hL2;obtain⟨D0,hown,hle,hperm⟩:=BR hk he hM hn;have hlt:L.b<w.heap.size:=hr.blt (by rw[hvb];exact hL);simp only[Nat.zero_mul,Nat.add_zero,Nat.zero_add];refine(hC L.b b es.length D0 w hlt hcell hown (Nat.le_trans hle hn.len)).mono ?_;rintro e w' ⟨v',ss,rfl,⟨ps,hall,rfl⟩,hrow,hbel⟩;have hsort:lz (ps.map (·.2))=lz (n9 es):=mergeSort_of_perm_i (hperm ps hall);rw[hsort]at hrow;have hlen:(ps.map (·.2)).length=(lz (n9 es)).length:=by rw[←hsort];simp[lz]
 rw[hlen]at hrow;rcases hrow.2 with ⟨rfl,hz0⟩|⟨gb,cap,bA,rfl,hbase,hgb,r1,r2,r3,r4⟩
 ·obtain⟨h1,e1⟩:=hr.behind hbel (I':=fun _ _=>False) (fun _ _ x=>x.elim) (fun _ _ x=>x.elim)
  refine⟨_,_,rfl,e1,h1, ?_⟩;have:lz (n9 es)=[]:=List.length_eq_zero_iff.1 hz0;rw[this];exact .d (.roNil _ _)
 ·obtain⟨h1,e1⟩:=hr.behind hbel (I':=fun b o=>b=gb) (fun b o x=>by subst x;exact .inr hbase) (fun b o x=>by subst x;exact(Array.getElem?_eq_some_iff.1 hgb).1)
  refine⟨_,_,rfl,e1,h1, ?_⟩;exact .d (Dp hgb r1 (by simpa using r4) (fun t _=> .inr rfl))
end Go.Avm
namespace Go.Avm
open Go.RowKit
variable[aH]
open Classical in
noncomputable def FV(ex:cF):eF:=fun fno base N c S=>match ex fno base N c S with
 |some (e,S',b',tk,ps)=>if Alike ps then some (e,S',b',tk)else none
 |none=>none
theorem sj{ex:cF}{fno base N:Nat}{c:Code}{S S':St}{e:aD}{b':Nat}{tk:List Nat}{ps:az}(h:ex fno base N c S=some (e,S',b',tk,ps))(hs:Alike ps):FV ex fno base N c S=some (e,S',b',tk):=by
 unfold FV;rw[h];exact if_pos hs
theorem BS{P:Program}{ex:cF}(h:gz P ex):hG P (FV ex):=fun fno base N c S e S' b' tk he=>by
 unfold FV at he;split at he
 ·rename_i e1 S1 b1 tk1 ps1 h1
  split at he
  ·rename_i hs
   simp only[Option.some.injEq,Prod.mk.injEq]at he;obtain⟨rfl,rfl,rfl,rfl⟩:=he;exact h _ _ _ _ _ _ _ _ _ _ h1 hs
  ·cases he
 ·cases he
def AE(P:Program)(rs:List ResultVar):Option (aD×St×Nat×List Nat×az)→Option (wA×ab×Nat×List Nat×az)
 |some (e,S',b',tk,ps)=>(eo P rs (some (e,S',b',tk))).map fun r=>(r.1,r.2.1,r.2.2.1,r.2.2.2,ps)
 |none=>none
def Dq(P:Program)(ex:cF)(base:Nat)(g:Nat)(args:List AV)(x:Option AV)(h:ab):Option (ab×Nat×List Nat×az):=
 match P.funcs[g]? with
 |none=>none
 |some fn=>match fn.body with
  |some (.seq r c)=>match lL r with
   |some d=>if args.length≤fn.ntmps∧d<fn.ntmps∧fn.results.isEmpty=true then match ex g base fn.ntmps c ⟨aK (fS args) d (x.getD (.d .nili)),h⟩with
       |some (.normal,S',b',tk,ps)=>some (S'.heap,b',tk,ps)
       |some (.ret,S',b',tk,ps)=>some (S'.heap,b',tk,ps)
       |_=>none
    else none
   |none=>none
  |_=>none
def AF(P:Program)(ex:cF)(fno N:Nat)(rs:List ResultVar):Code→Nat→St→Option (wA×ab×Nat×List Nat×az)
 | .seq x y,base,S=>match qq x with
  |some (f,R7)=>match opd S.env f with
   | .fn g caps=>match ex fno base N y S with
    |some (e,S2,b2,tk,ps)=>match H5 e with
     |some pv=>match Dq P ex b2 g (R7.map (opd S.env) ++caps) pv S2.heap with
      |some r=>(iW P ⟨S2.env,r.1⟩ rs).map fun l=>(.ret l,r.1,r.2.1,tk ++(r.2.2.1 ++k8 S2.env rs),ps ++r.2.2.2)
      |none=>none
     |none=>none
    |none=>none
   |_=>none
  |none=>match ex fno base N x S with
   |some (.normal,S',b',tk,ps)=>match AF P ex fno N rs y b' S' with
    |some r=>some (r.1,r.2.1,r.2.2.1,tk ++r.2.2.2.1,ps ++r.2.2.2.2)
    |none=>none
   |r=>AE P rs r
 |c,base,S=>AE P rs (ex fno base N c S)
theorem Gd{P:Program}{ex:cF}{base g:Nat}{args:List AV}{x:Option AV}{h h':ab}{b:Nat}{tk:List Nat}{ps:az}(hr:Dq P ex base g args x h=some (h',b,tk,ps))(hs:Alike ps):tF P (FV ex) base g args x h=some (h',b,tk):=by
 unfold Dq at hr;unfold tF;split at hr
 ·cases hr
 rename_i fn hf;rw[hf];simp only;split at hr;case h_2=>cases hr
 rename_i r c hb;rw[hb];simp only;split at hr;case h_2=>cases hr
 rename_i d hd;rw[hd];simp only;split at hr;case isFalse=>cases hr
 rename_i hc;rw[if_pos hc];split at hr
 ·rename_i S' b' tk' ps' he
  simp only[Option.some.injEq,Prod.mk.injEq]at hr;obtain⟨rfl,rfl,rfl,rfl⟩:=hr;rw[sj he hs]
 ·rename_i S' b' tk' ps' he
  simp only[Option.some.injEq,Prod.mk.injEq]at hr;obtain⟨rfl,rfl,rfl,rfl⟩:=hr;rw[sj he hs]
 ·cases hr
theorem AG{P:Program}{rs:List ResultVar}{ex:cF}{fno base N:Nat}{c:Code}{S:St}{y:wA}{h':ab}{b:Nat}{tk:List Nat}{ps:az}(h:AE P rs (ex fno base N c S)=some (y,h',b,tk,ps))(hs:Alike ps):eo P rs (FV ex fno base N c S)=some (y,h',b,tk):=by
 cases he:ex fno base N c S with
 |none=>rw[he]at h;cases h
 |some r=>
  obtain⟨e,S',b',tk',ps'⟩:=r;rw[he]at h;simp only[AE,Option.map_eq_some_iff,Prod.mk.injEq]at h;obtain⟨r,h1,rfl,rfl,rfl,rfl,rfl⟩:=h;rw[sj he hs,h1]
theorem Ge{P:Program}{ex:cF}{fno N:Nat}{rs:List ResultVar}:∀(c:Code)(base:Nat)(S:St)(y:wA)(h':ab)(b:Nat)(tk:List Nat)(ps:az),AF P ex fno N rs c base S=some (y,h',b,tk,ps)→Alike ps→kp P (FV ex) fno N rs c base S=some (y,h',b,tk):=by
 intro c;induction c with
 |seq x y _ ihy=>
  intro base S w h' b tk ps h hs;simp only[AF]at h;simp only[kp];split at h
  ·rename_i f R7 hd
   rw[hd];simp only;split at h;case h_2=>cases h
   rename_i g caps hf;rw[hf];simp only;split at h;case h_2=>cases h
   rename_i e S2 b2 tk2 ps2 he;split at h;case h_2=>cases h
   rename_i pv hpv;split at h;case h_2=>cases h
   rename_i r hr;obtain⟨r1,r2,r3,r4⟩:=r;simp only[Option.map_eq_some_iff,Prod.mk.injEq]at h;obtain⟨l,hl,rfl,rfl,rfl,rfl,rfl⟩:=h;rw[sj he hs.left];simp only[hpv];rw[Gd hr hs.right];simp only[hl,Option.map_some]
  ·rename_i hd
   rw[hd];simp only;split at h
   ·rename_i S' b' tk' ps' he
    split at h;case h_2=>cases h
    rename_i r hr;obtain⟨r1,r2,r3,r4,r5⟩:=r;simp only[Option.some.injEq,Prod.mk.injEq]at h;obtain⟨rfl,rfl,rfl,rfl,rfl⟩:=h;rw[sj he hs.left];simp only;rw[ihy _ _ _ _ _ _ _ hr hs.right]
   ·rename_i hnn
    have h2:=AG h hs;cases he:FV ex fno base N x S with
    |none=>rw[he]at h2;simp[eo]at h2
    |some r=>
     obtain⟨e,S',b',tk'⟩:=r;cases e with
     |normal=>
      exfalso;unfold FV at he;split at he
      ·rename_i e1 S1 b1 tk1 ps1 h1
       split at he
       ·simp only[Option.some.injEq,Prod.mk.injEq]at he
        obtain⟨rfl,rfl,rfl,rfl⟩:=he;exact hnn _ _ _ _ h1
       ·cases he
      ·cases he
     |ret=>rw[he]at h2;exact h2
     |exit i=>rw[he]at h2;exact h2
     |panic x=>rw[he]at h2;exact h2
 |_=>
  intro base S w h' b tk ps h hs;exact AG h hs
def oW(P:Program)(ex:cF)(base:Nat)(g:Nat)(args:List AV)(h:ab):Option (wA×ab×Nat×List Nat×az):=
 match P.funcs[g]? with
 |none=>none
 |some fn=>match fn.body with
  |none=>none
  |some b=>if args.length≤fn.ntmps then AF P ex g fn.ntmps fn.results.toList b base ⟨fS args,h⟩else none
theorem Dr{P:Program}{ex:cF}{base g:Nat}{args:List AV}{h h':ab}{y:wA}{b:Nat}{tk:List Nat}{ps:az}(hc:oW P ex base g args h=some (y,h',b,tk,ps))(hs:Alike ps):j5 P (FV ex) base g args h=some (y,h',b,tk):=by
 unfold oW at hc;unfold j5;split at hc
 ·cases hc
 rename_i fn hf;rw[hf];simp only;split at hc
 ·cases hc
 rename_i bd hb;rw[hb];simp only;split at hc;case isFalse=>cases hc
 rename_i hl;rw[if_pos hl];exact Ge _ _ _ _ _ _ _ _ hc hs
def xK(r:Option (wA×ab×Nat×List Nat×az)):Option (List AV×ab×Nat×List Nat×az):=match r with
 |some (.ret rs,h,b,tk,ps)=>some (rs,h,b,tk,ps)
 |_=>none
def lA(r:Option (List AV×ab×Nat×List Nat×az))(rs:List D):Option (aD×az):=
 match r with
 |some (rs',h',_,_,ps)=>match nS h' rs' with
  |some ds=>some (.ret,(.ds ds, .ds rs)::ps)
  |none=>none
 |none=>none
theorem vS{P:Program}(hm:gU P)(hn:co P)(pr:Par P)(n base:Nat){g:Nat}{ds rs:List D}
    (h:lX (lA (xK (oW P (bg P pr n) base g (ds.map .d) FU)) rs)=lY .ret (lA (xK (oW P (bg P pr n) base g (ds.map .d) FU)) rs)):ax P g ds rs:=by
 obtain⟨ps,h1,hs⟩:=fV h;unfold lA at h1;split at h1;case h_2=>cases h1
 rename_i rs' h' b' tk ps' hr;split at h1;case h_2=>cases h1
 rename_i ds' hv;simp only[Option.some.injEq,Prod.mk.injEq,true_and]at h1;subst h1;have g1:=hs.head;simp only[aR.ds.injEq]at g1;subst g1;unfold xK at hr;split at hr;case h_2=>cases hr
 rename_i rs2 h2 b2 tk2 ps2 hc;simp only[Option.some.injEq,Prod.mk.injEq]at hr;obtain⟨rfl,rfl,rfl,rfl,rfl⟩:=hr;exact tJ (fT hm hn (BS (cY hm hn n)) (Dr hc hs.tail)).1 hv
end Go.Avm
namespace Go.Avm
open Go.RowKit
variable[aH]
section
variable{P:Program}{B:Nat}{w0:World}{I0:Nat→Nat→Prop}{cfg:iu}{N:Nat}{ops:Array Oper}
theorem ui{D:List Deferred}(hx:iB P)(r:Option Nat)(n:Nat){Q:Exit→Act→World→Prop}{rest:List Nat}:∀(l:List Nat){G:Gh}{w:World}{S S':St}{a:Act}{ob:List Obl}{fts:List Foot},
    HR G B w0 I0 S.heap w→FR G w N D S.env a→db P cfg N ops l S=some (S',ob,fts)→fI P ob→
    (∀a' w' G',Ext G w G' w'→HR G' B w0 I0 S'.heap w'→FR G' w' N D S'.env a'→wpOpsIn (FF r) n P ops Q rest a' w')→wpOpsIn (FF r) n P ops Q (l ++rest) a w
 |[],G,w,S,S',a,ob,fts,hr,hf,hs,hob,hq=>by
  simp only[db,Option.some.injEq,Prod.mk.injEq]at hs;obtain⟨rfl,_,_⟩:=hs;rw[List.nil_append];exact hq a w G (Ext.refl G w) hr hf
 |i::rl,G,w,S,S',a,ob,fts,hr,hf,hs,hob,hq=>by
  simp only[db]at hs;split at hs
  ·cases hs
  ·rename_i o ho
   split at hs
   ·cases hs
   ·rename_i st hst
    split at hs
    ·cases hs
    ·rename_i rs hrs
     simp only[Option.some.injEq,Prod.mk.injEq]at hs;obtain⟨rfl,rfl,rfl⟩:=hs;obtain⟨S1,ob1,ft1⟩:=st;obtain⟨S2,ob2,ft2⟩:=rs;rw[List.cons_append,wpOpsIn_cons];unfold wpOpIn;simp only[ho]
     exact fy hx hr hf hst (fun c hc=>hob c (List.mem_append_left _ hc)) r n (fun a' w' G' h1 h2 h3=>
      ui hx r n rl h2 h3 hrs (fun c hc=>hob c (List.mem_append_right _ hc)) (fun a2 w2 G2 g1 g2 g3=>hq a2 w2 G2 (h1.trans g1) g2 g3))
end
section
variable{P:Program}{G:Gh}{B:Nat}{w0 w:World}{I0:Nat→Nat→Prop}{h:ab}{env:Nat→AV}{a:Act}{op:Oper}
theorem Ds(hr:HR G B w0 I0 h w)(hρ:∀x,Rep G w (opd env x) (a.eval x)){t kt et:TypeId}{x:Operand}{k v c:Nat}{es:List (D×D×Nat)}(K:Nat)(hop:op.op= .range t x)(hu:P.underlying t=some (.map kt et))
    (hx:opd env x= .mp k v) (hob:h k=⟨v,some (.map es c)⟩):∃v' w' G',(execOp a.eval op).run P w= .ok (.value v') w'∧Ext G w G' w'∧HR G' B w0 I0 (aK h K ⟨(h K).ver+1,some (.itr k v c [])⟩) w'∧Rep G' w' (.itr K ((h K).ver+1)) v':=by
 have hrx:=hρ x;rw[hx]at hrx;generalize hvx:a.eval x=vx at hrx;cases hrx with
 |mp _ _ b hL=>
 obtain⟨b',hL',ms,hb,hsz,hent⟩:=hr.maps.obj k es c (by rw[hob]);rw[hob]at hL';simp only at hL';rw[hL]at hL';cases hL';have hr1:=hr.allocAny (.mapIter (some b) c #[] c);have e1:=Ext.alloc hr (.mapIter (some b) c #[] c)
 obtain⟨hr2,e2⟩:=hr1.newFixO K (b:=w.heap.size) (oo:=some (.itr k v c [])) (o:= .mapIter (some b) c #[] c) (fun o' e=>by cases e;rfl) hr.bsz (fun k _ _ x=>by
  obtain⟨_,⟨o,_,h2⟩,_⟩:=hr.maps.low _ _ _ x;have:=(Array.getElem?_eq_some_iff.1 h2).1;omega) rfl (heap_alloc_new w _) (fun _ _ e=>by cases e) (fun _ _ _ _ _ _ _ e=>by cases e) (fun km vm since seen e=>by
  cases e;exact⟨b, #[],c,hL,heap_alloc_new w _,rfl,rfl⟩)
 refine⟨.pointer (some ⟨w.heap.size,0,none⟩),w.alloc (.mapIter (some b) c #[] c),_, ?_,e1.trans e2,hr2, .itr _ _ _ (by simp[Gh.atMap])⟩;unfold execOp;rw[hop];simp only[hvx,Sem.run_bind,run_range_map w t kt et b ms c hu hb,Result.andThen,Sem.run];rfl
def AH(h:ab)(I vI k v c:Nat)(es:List (D×D×Nat))(seen:List Nat)(x:AV)(h':ab):Prop:=
 (x= .tup [.d (.bool false)]∧h'=h∧∀e∈es,e.2.2∈seen)∨
 ∃e∈es,e.2.2∉seen∧x= .tup [.d (.bool true), .d e.1, .d e.2.1]∧h'=aK h I ⟨vI,some (.itr k v c (seen ++[e.2.2]))⟩
theorem Gf(hr:HR G B w0 I0 h w)(hρ:∀x,Rep G w (opd env x) (a.eval x)){x:Operand}{I vI k v c:Nat}{es:List (D×D×Nat)}{seen:List Nat}(hop:op.op= .next x false)
    (hx:opd env x= .itr I vI) (hI:h I=⟨vI,some (.itr k v c seen)⟩) (hob:h k=⟨v,some (.map es c)⟩) (hold:∀e∈es,e.2.2<c):
    ∃v' w' G' x' h',(execOp a.eval op).run P w= .ok (.value v') w'∧Ext G w G' w'∧HR G' B w0 I0 h' w'∧Rep G' w' x' v'∧AH h I vI k v c es seen x' h':=by
 have hrx:=hρ x;rw[hx]at hrx;generalize hvx:a.eval x=vx at hrx;cases hrx with
 |itr _ _ b hL=>
 obtain⟨b',bm,sa,c0,hL',hLm,hbi,hsa,hc0⟩:=hr.maps.iters I k v c seen (by rw[hI]);rw[hI]at hL';simp only at hL';rw[hL]at hL';cases hL';subst hc0;obtain⟨b2,hL2,ms,hb,hsz,hent⟩:=hr.maps.obj k es _ (by rw[hob]);rw[hob]at hL2;simp only at hL2;rw[hLm]at hL2;cases hL2
 have hel:∀m∈ms.toList,∃e∈es,DRep G.imm w e.1 m.key∧DRep G.imm w e.2.1 m.val∧m.born=e.2.2:=fun m hm=>by
  obtain⟨i,hi,he⟩:=List.getElem_of_mem hm;have hi':i<ms.size:=by simpa using hi
  have h2:ms[i]? =some m:=by rw[Array.getElem?_eq_getElem hi'];rw[←he];simp
  have h1:es[i]? =some es[i]:=List.getElem?_eq_getElem (by omega);exact⟨es[i],List.getElem_mem _,hent i _ m h1 h2⟩
 have hexec:(execOp a.eval op).run P w=((Instr.next (.pointer (some ⟨b,0,none⟩)) false op.type).run P w).andThen fun v w'=>(pure (Next.value v):Sem Next).run P w':=by
  unfold execOp;rw[hop];simp only[hvx,Sem.run_bind]
 rcases run_next_at (P:=P) w op.type b bm c0 c0 sa ms c0 hbi hb (fun m hm=>by
  obtain⟨e,he,_,_,hbn⟩:=hel m hm;rw[hbn];exact hold e he) (Nat.le_refl _)with ⟨h0,hrun⟩|⟨m,hm,w1,hw1,hrun⟩
 ·refine⟨_,w,G, .tup [.d (.bool false)],h,by rw[hexec,hrun];rfl,Ext.refl G w,hr, .tup _ _ rfl (fun i cc u hc hu=> ?_), .inl ⟨rfl,rfl,fun e he=> ?_⟩⟩
  ·cases i with
   |zero=>
    simp at hc hu;subst hc;subst hu;exact .d (.bool _)
   |succ i=>simp at hc
  ·
   obtain⟨i,hi,hee⟩:=List.getElem_of_mem he;have hi':i<ms.size:=by omega
   have h1:es[i]? =some e:=by rw[List.getElem?_eq_getElem hi,hee]
   have h2:ms[i]? =some ms[i]:=Array.getElem?_eq_getElem hi';obtain⟨_,_,hbn⟩:=hent i e _ h1 h2;have hl:leftOf ms sa= #[]:=Array.eq_empty_of_size_eq_zero h0;unfold leftOf at hl;rw[Array.filter_eq_empty_iff]at hl;have:=hl ms[i] (Array.getElem_mem hi');simp only[Bool.not_eq_true',Bool.not_eq_false']at this;rw[←hsa,←hbn];simpa using this
 ·unfold leftOf at hm
  simp only[Array.toList_filter,List.mem_filter,Bool.not_eq_true']at hm;obtain⟨e,he,hk1,hk2,hbn⟩:=hel m hm.1
  have hns:e.2.2∉seen:=fun hx=>by
   rw[←hsa,←hbn]at hx;have:=hm.2;simp at this;exact this (by simpa using hx)
  have hw:HR G B w0 I0 h w1∧Ext G w G w1∧w1.heap[b]? =some (.mapIter (some bm) c0 sa c0):=by
   rcases hw1 with rfl|rfl
   ·exact⟨hr,Ext.refl G _,hbi⟩
   ·exact⟨hr.drew,Ext.drew G w,hbi⟩
  obtain⟨hr1,e1,hbi1⟩:=hw
  obtain⟨hr2,e2⟩:=hr1.setFix (k:=I) (b:=b) (o':= .mapIter (some bm) c0 (sa.push m.born) c0) (ob':=some (.itr k v c0 (seen ++[e.2.2]))) (by rw[hI];rfl) (by rw[hI];exact hL) hbi1 rfl rfl (fun _=>⟨_,_,_,_,rfl⟩) (fun x hx=>by cases hx;rfl) (fun _ _ e=>by cases e) (fun _ _ _ _ _ _ _ e=>by cases e) (fun km vm since sn e3=>by
   cases e3;have hlt:=(Array.getElem?_eq_some_iff.1 hbi1).1;exact⟨bm,_,c0,hLm,World.putObj_heap_same hlt,by simp[hsa,hbn],rfl⟩)
  rw[hI]at hr2;refine⟨_,_,G, .tup [.d (.bool true), .d e.1, .d e.2.1],_,by rw[hexec,hrun];rfl,e1.trans e2,hr2, .tup _ _ rfl (fun i cc u hc hu=> ?_), .inr ⟨e,he,hns,rfl,rfl⟩⟩;have ee:=e1.trans e2;match i with
  |0=>
   simp at hc hu;subst hc;subst hu;exact .d (.bool _)
  |1=>
   simp at hc hu;subst hc;subst hu;exact(Rep.d hk1:Rep G w _ _).mono ee
  |2=>
   simp at hc hu;subst hc;subst hu;exact(Rep.d hk2:Rep G w _ _).mono ee
  |i+3=>simp at hc
theorem Dt(hr:HR G B w0 I0 h w)(hρ:∀x,Rep G w (opd env x) (a.eval x)){x:Operand}{I vI k v c:Nat}{es:List (D×D×Nat)}{seen:List Nat}{e:D×D×Nat}(hop:op.op= .entry x)
    (hx:opd env x= .itr I vI) (hI:h I=⟨vI,some (.itr k v c (seen ++[e.2.2]))⟩) (hob:h k=⟨v,some (.map es c)⟩) (he:e∈es) (hn:(es.map (·.2.2)).Nodup):
    ∃v' w' G' x' h',(execOp a.eval op).run P w= .ok (.value v') w'∧Ext G w G' w'∧HR G' B w0 I0 h' w'∧Rep G' w' x' v'∧x'= .tup [.d e.1, .d e.2.1]∧h'=h:=by
 have hrx:=hρ x;rw[hx]at hrx;generalize hvx:a.eval x=vx at hrx;cases hrx with
 |itr _ _ b hL=>
 obtain⟨b',bm,sa,c0,hL',hLm,hbi,hsa,hc0⟩:=hr.maps.iters I k v c _ (by rw[hI]);rw[hI]at hL';simp only at hL';rw[hL]at hL';cases hL';subst hc0;obtain⟨b2,hL2,ms,hb,hsz,hent⟩:=hr.maps.obj k es _ (by rw[hob]);rw[hob]at hL2;simp only at hL2;rw[hLm]at hL2;cases hL2;obtain⟨i,hi,hee⟩:=List.getElem_of_mem he;have hi':i<ms.size:=by omega
 have h1:es[i]? =some e:=by rw[List.getElem?_eq_getElem hi,hee]
 have h2:ms[i]? =some ms[i]:=Array.getElem?_eq_getElem hi';obtain⟨hk1,hk2,hbn⟩:=hent i e _ h1 h2
 have hborn:ms.toList.map (·.born)=es.map (·.2.2):=by
  apply List.ext_getElem?;intro j;rcases Nat.lt_or_ge j es.length with hj|hj
  ·have hj':j<ms.size:=by omega
   have g1:es[j]? =some es[j]:=List.getElem?_eq_getElem hj;have g2:ms[j]? =some ms[j]:=Array.getElem?_eq_getElem hj';rw[List.getElem?_map,List.getElem?_map,g1];have g3:ms.toList[j]? =some ms[j]:=by simp[hj']
   rw[g3];simp only[Option.map_some];rw[(hent j _ _ g1 g2).2.2]
  ·rw[List.getElem?_eq_none (by simp;omega),List.getElem?_eq_none (by simp;omega)]
 obtain⟨sa',hsa'⟩:∃sa':Array Nat,sa=sa'.push ms[i].born:=⟨seen.toArray,by
  apply Array.toList_inj.1;rw[hsa,hbn];simp⟩
 rw[hsa']at hbi;have hrun:=run_entry_at (P:=P) w b bm c0 sa' ms c0 ms[i] hbi hb (by simp) (by rw[hborn];exact hn);refine⟨.tuple #[ms[i].key,ms[i].val],w,G, .tup [.d e.1, .d e.2.1],h, ?_,Ext.refl G w,hr, .tup _ #[ms[i].key,ms[i].val] rfl (fun j cc u hc hu=> ?_),rfl,rfl⟩
 ·unfold execOp
  rw[hop];simp only[hvx,Sem.run_bind,hrun,Result.andThen];rfl
 ·match j with
  |0=>
   simp at hc hu;subst hc;subst hu;exact .d hk1
  |1=>
   simp at hc hu;subst hc;subst hu;exact .d hk2
  |j+2=>simp at hc
end
end Go.Avm
namespace Go.Avm
structure WE where
 p:Int
 e:Int
def WE.fail(w:WE)(p e:Int):WE:=bif w.e==0 then ⟨p,e⟩else w
def H7(nm:List UInt8):List Vr→List Bool→Nat→Option Nat
 |[],_,_=>none
 |_::_,[],_=>none
 |v::vs,b::bs,i=>bif v.nm==nm&&b then some i else H7 nm vs bs (i+1)
structure QS where
 fs:List Fn
 vars:List Vr
 seen:List Bool
 sure:List Bool
structure WS where
 vars:List Vr
 pts:List Pt
 w:WE
structure LS where
 seen:List Bool
 sure:List Bool
def vT:Nat→List Bool→List Nat
 |_,[]=>[]
 |i,b::r=>bif b then i::vT (i+1) r else vT (i+1) r
def LE:List Bool→List Bool→List Bool
 |a::x,b::y=>(a&&b)::LE x y
 |_,_=>[]
def LS.pt(s:LS)(fn:Nat):Pt:=⟨(fn:Int),vT 0 s.seen,vT 0 (LE s.seen s.sure)⟩
def WS.x(c:WS)(fs:List Fn)(s:LS):QS:=⟨fs,c.vars,s.seen,s.sure⟩
end Go.Avm
namespace Go.Avm
structure Rl(vars:List Vr)(sl:hQ)(q:SureL)(s:LS):Prop where
 ls:s.seen.length=vars.length
 lq:s.sure.length=vars.length
 seen:∀i,i<vars.length→s.seen[i]? =some (sl.any (·.2==i))
 sure:∀i,i<vars.length→s.sure[i]? =some (q.has i)
structure CI(c:CS):Prop where
 nod:(c.vars.map (·.nm)).Nodup
 sn:∀p∈c.seen,∃v,c.vars[p.2]? =some v∧v.nm=p.1
 inc:(c.seen.map (·.2)).Pairwise (· < ·)
mutual
def H8:Ex→Bool
 | .mk k _ _ _ _ xs=>(k==1||k==2||k==3||k==6||k==7||k==5||(k==4||k==8)&&xs.length==1||k==9&&xs.length==2)&&eY xs
def eY:List Ex→Bool
 |[]=>true
 |x::r=>H8 x&&eY r
end
def XR(r:TR Int)(q:Int×WE)(w:WE):Prop:=match r with
 | .ok t=>q=(t,w)
 | .bad p e=>q.2=⟨p,e⟩∧(e==0)=false
 | .out=>True
def UR{α:Type}(r:TR α)(q w:WE):Prop:=match r with
 | .ok _=>q=w
 | .bad p e=>q=⟨p,e⟩∧(e==0)=false
 | .out=>True
section
variable{E:TE}{E':QS}(hfs:E'.fs=E.fs)(hv:E'.vars=E.vars)(hf:∀nm,H7 nm E'.vars E'.seen 0=(eD nm E.seen 0).map (·.2))(hs:∀nm j i,eD nm E.seen 0=some (j,i)→E'.sure.getD i false=E.sure.has i)
include hv hf in
theorem UR.ok{r:TR Unit}{q w:WE}(h:UR r q w)(t:Int):XR (r.bind fun _=> .ok t) (t,q) w:=by
 cases r with
 |ok _=>exact congrArg (Prod.mk t) h
 |bad p e=>exact h
 |out=>trivial
theorem UR.trans{r1 r2:TR Unit}{q1 q2 w:WE}(h1:UR r1 q1 w)(h2:q1=w→UR r2 q2 w)(h3:(q1.e==0)=false→q2=q1):UR (r1.bind fun _=>r2) q2 w:=by
 cases r1 with
 |ok _=>exact h2 h1
 |bad p e=>
  obtain⟨rfl,he⟩:=h1;exact⟨h3 he,he⟩
 |out=>trivial
include hfs hv hf hs
end
end Go.Avm
namespace Go.Avm
structure CJ(c:CS):Prop extends CI c where
 sv:∀p∈c.sure.l,p.1<c.vars.length
theorem CJ.sl{c:CS}(h:CJ c):∀p∈c.seen,p.2<c.vars.length:=fun p hp=>by
 obtain⟨v,hv,_⟩:=h.sn p hp;exact(List.getElem?_eq_some_iff.1 hv).1
end Go.Avm
