/-
  Types: 'slices.Sorted(maps.Values(m))' of a map of names to numbers: the kit's contracts, turned to the machine's.
-/
import Derived.Test.YtcjiafanhlhdlaaGreatDoorG07
import Derived.Shelf.SlIter.AllValues
import Derived.Lib.SlKeysI
import Derived.Maps.RangeRun
import Derived.IntWalk
set_option linter.unusedVariables false
set_option linter.unusedSimpArgs false
set_option linter.unusedSectionVars false
namespace Go.Avm
open Go.Proofs Go.RowKit Go.Maps Go.WideElems Go.WideShapes
variable[aG]
structure GM(es:List (D×D×Nat))(c:Nat):Prop where
 ent:∀e∈es,∃(l:List UInt8)(n:Nat),e.1= .str l∧e.2.1= .int .i64 n∧l.length≤maxLen∧n<4611686018427387904∧e.2.2<c
 keys:(es.map (·.1)).Nodup
 born:(es.map (·.2.2)).Nodup
 len:es.length≤1000000
def vk:D→List UInt8
 | .str l=>l
 |_=>[]
def Oh:D→Int
 | .int _ n=>n
 |_=>0
def nL(es:List (D×D×Nat)):List Int:=es.map fun e=>Oh e.2.1
def ld(zs:List Int):List Int:=zs.mergeSort fun x y=>decide (x≤y)
def Kq:DataW Unit→Int
 | .lit (.int _ n)=>n
 |_=>0
def tn(e:D×D×Nat):Lit×DataW Unit:=(.string (vk e.1), .lit (.int .i64 (Oh e.2.1)))
theorem rE{H:Type}:∀(es:List (Lit×DataW H)),es.Pairwise (fun p q=>p.1≠q.1)→∀p∈es,∀x,p.1= .string x→es.find? (fun q=>q.1.sameKey (.string x))=some p
 |[],_,p,hp,_,_=>by cases hp
 |a::r,b,p,hp,x,e=>by
  rw[List.pairwise_cons]at b;rcases xX.1 hp with rfl|c
  ·rw[List.find?_cons_of_pos (by rw[e];simp[Lit.sameKey])]
  ·have d:a.1≠p.1:=b.1 p c
   rw[List.find?_cons_of_neg (by rw[←e,sameKey_ne d];simp)];exact rE r b.2 p c x e
theorem GN{P:Program}{t y:TypeId}(Q:P.underlying t=some .string)(M:P.underlying y=some (.int .i64)){imm:Nat→Nat→Prop}{w:World}{b:Nat}{es:List (D×D×Nat)}{c:Nat}{d:Array MapEntry}(h:d.size=es.length)
    (g:∀(i:Nat)(e:D×D×Nat)(m:MapEntry),es[i]? =some e→d[i]? =some m→DRep imm w e.1 m.key∧DRep imm w e.2.1 m.val∧m.born=e.2.2) (k:GM es c):
    Fit P t (plainElem (H:=Unit) P y) d c∧d.toList.map (rg P t (plainElem (H:=Unit) P y))=es.map tn:=by
 have o:∀(i:Nat)(e:D×D×Nat)(m:MapEntry),es[i]? =some e→d[i]? =some m→rd P t (plainElem (H:=Unit) P y) m=some (tn e)∧m.key= .string ⟨(vk e.1).toArray⟩:=fun i e m f h2=>by
  obtain⟨C,B,_⟩:=g i e m f h2;obtain⟨l,n,v,L,J,T,_⟩:=k.ent e (x5 f);rw[v]at C;rw[L]at B;generalize A:m.key=mk at C;generalize K:m.val=U at B;cases C with
  |str _ s G=>
  cases B with
  |int _ _=>
  have h:s.size≤maxLen:=by
   have:s.size=s.data.toList.length:=by rw[xg];rfl
   rw[this,G];exact J
  refine⟨?_,by rw[v];subst G;simp[vk]⟩;unfold rd;rw[A,K]
  have N:(Lit.int .i64 (n:Int)).wf=true:=by
   have a:IntKind.i64.min= -9223372036854775808:=rfl;have b:IntKind.i64.max=9223372036854775807:=rfl;simp only[Lit.wf,a,b];simp;omega
  simp[Go.keyOf,Q,mapKey,h,plainElem,M,N,tn,v,L,vk,Oh,G]
 have r:d.toList.map (rg P t (plainElem (H:=Unit) P y))=es.map tn:=by
  apply List.ext_getElem?;intro i;simp only[xP];by_cases z:i<es.length
  ·have f:es[i]? =some es[i]:=xH z
   have h2:d[i]? =some d[i]:=xJ (by omega);have J:d.toList[i]? =some d[i]:=by rw[xe];exact h2
   rw[f,J];have:=(o i _ _ f h2).1;simp[rg,this]
  ·rw[yk (l:=es) (by omega),yk (l:=d.toList) (by rw[xg];omega)]
   rfl
 refine⟨⟨by rw[h];have:=k.len;unfold maxLen;omega,⟨fun x F=> ?_, ?_, ?_⟩,fun x F=> ?_⟩,r⟩
 ·obtain⟨i,z,rfl⟩:=yv F
  have j:i<d.size:=by simpa using z
  have f:es[i]? =some (es[i]'(by omega)):=xH _;have h2:d[i]? =some d[i]:=xJ j;obtain⟨_,_,O⟩:=g i _ _ f h2;obtain⟨_,_,_,_,_,_,S⟩:=k.ent _ (x5 f);simp only[ye];rw[O];exact S
 ·have:d.toList.map (·.born)=es.map (·.2.2):=by
    apply List.ext_getElem (by simp[h]);intro i f h2;simp only[xO,xg]at f h2;simp only[List.getElem_map,ye];exact(g i _ _ (xH (by omega)) (xJ (by omega))).2.2
  rw[this];exact k.born
 ·have:d.toList.map (·.key)=es.map (fun e=>Value.string ⟨(vk e.1).toArray⟩):=by
    apply List.ext_getElem (by simp[h]);intro i f h2;simp only[xO,xg]at f h2;simp only[List.getElem_map,ye];exact(o i _ _ (xH (by omega)) (xJ (by omega))).2
  rw[this];have u:=k.keys;rw[List.nodup_iff_pairwise_ne,List.pairwise_map]at u ⊢;refine u.imp_of_mem fun {p q} hp R I e=>I ?_
  obtain⟨l,_,v,_⟩:=k.ent p hp;obtain⟨l',_,E,_⟩:=k.ent q R;rw[v,E]at e ⊢;simp only[vk,Value.string.injEq,ByteArray.mk.injEq]at e;have:l=l':=by simpa using e
  rw[this]
 ·obtain⟨i,z,rfl⟩:=yv F
  have j:i<d.size:=by simpa using z
  exact⟨_,(o i _ _ (xH (by omega)) (by rw[ye];exact xJ j)).1⟩
theorem EX{P:Program}{k o:TypeId}(t:P.underlying k=some .string)(z:P.underlying o=some (.int .i64)){imm:Nat→Nat→Prop}{w:World}{b:Nat}{es:List (D×D×Nat)}{c:Nat}(hm:EA imm w b es c)(I:GM es c):
    ∃m:DataW Unit,w.ownsMap P k (plainElem P o) b es.length m∧Maps.size m≤es.length∧∀ps,AnyY.AllOf m ps→(ps.map (·.2)).Perm (nL es):=by
 obtain⟨A,C,n,g⟩:=hm;obtain⟨r,s⟩:=GN t z (b:=b) n g I;have j:=fit_apart (string_keyed t) r;rw[s]at j;have f:w.ownsMap P k (plainElem (H:=Unit) P o) b es.length (.map ((es.map tn).foldr DataW.insert [])):=⟨A,c,C,r,by omega,by rw[s]⟩
 refine⟨_,f, ?_,fun ps l=> ?_⟩
 ·show((es.map tn).foldr DataW.insert []).length≤_
  rw[(sorted_perm (es.map tn)).length_eq];simp
 ·obtain⟨u,_,y⟩:=l
  have d:=sorted_perm (es.map tn);generalize K:(es.map tn).foldr DataW.insert []=E at u y d;have i:E.Pairwise (fun p q=>p.1≠q.1):=(d.symm.pairwise_iff (fun {a b} (h:a.1≠b.1)=>h.symm)).1 j
  let val:List UInt8→Int:=fun x=>Kq ((DataW.map E).atKey (.string x) .nil)
  have F:ps.map (·.2)=(ps.map (·.1)).map val:=by
   rw[yq];refine yc fun p hp=> ?_
   have:=y p hp .nil;simp only[Function.comp,val,this,Kq]
  have J:(strKeys (DataW.map E)).map val=E.map fun q=>Kq q.2:=by
   show(E.map fun p=>strOf p.1).map val=_;rw[yq];refine yc fun q v=> ?_
   obtain⟨e,B,rfl⟩:=xi.1 (d.mem_iff.1 v);have G:=rE E i _ v (vk e.1) rfl;show Kq ((DataW.map E).atKey (.string (vk e.1)) .nil)=_
   have:(DataW.map E).atKey (.string (vk e.1)) .nil=(tn e).2:=by
    unfold DataW.atKey;simp only[G]
   rw[this]
  rw[F];refine(u.map val).trans ?_;rw[J];refine(d.map _).trans ?_;rw[yq];exact List.Perm.refl _
theorem jw:∀(zs:List Int),D.flat (zs.map (D.int .i64))=zs.map (D.int .i64)
 |[]=>rfl
 |a::r=>by
  have:=jw r;unfold D.flat at this ⊢;simp only[xN,yB,this];rfl
theorem GO{imm:Nat→Nat→Prop}{w:World}{g cap:Nat}{aD:Array Value}{e:TypeId}{zs:List Int}(k:w.heap[g]? =some (.cells aD e (0,0)))(d:zs.length≤cap)(l:aD.toList.take zs.length=zs.map (Value.int .i64))(j:∀t,t<zs.length→imm g t):
    DRep imm w (.ro (zs.map (D.int .i64))) (.slice (some ⟨g,0,none⟩) zs.length cap):=by
 have h:=DRep.ro (imm:=imm) (w:=w) (zs.map (D.int .i64)) g 0 cap 1 (fun t=> .int .i64 (zs.getD t 0)) (by simpa using d) (fun e f=>by
  obtain⟨n,_,rfl⟩:=xi.1 f;rfl) (fun e f=>by
  rw[jw]at f;obtain⟨n,_,rfl⟩:=xi.1 f;rfl) (fun t c b=>by
  rw[jw]at b;have:=(xE.1 b).1;rw[xb];exact j t (by simpa using this)) (fun t c b=>by
  rw[jw]at b;have a:t<zs.length:=by simpa using (xE.1 b).1
  have i:(aD.toList.take zs.length)[t]? =some (Value.int .i64 zs[t]):=by rw[l];simp[a]
  rw[List.getElem?_take_of_lt a,xe]at i;rw[xb];simp only[World.cell?,k];simp[i,a]) (fun t c b=>by
  rw[jw]at b;have a:t<zs.length:=by simpa using (xE.1 b).1
  simp[a]at b;subst b;simp[a];exact .int _ _)
 rwa [xO]at h
theorem vo{P:Program}{g f:Nat}(V:ct P g){kT eT iT:TypeId}(hk:P.underlying kT=some .string)(he:P.underlying eT=some (.int .i64))
    (hC:∀(Bm b nn:Nat)(E:DataW Unit)(w:World),Bm<w.heap.size→w.cell? ⟨Bm,0,none⟩=some (.map (some b))→w.ownsMap P kT (plainElem P eT) b nn E→Maps.size E≤1000000→
     Calls P g #[.func (.func f) #[] #[.pointer (some ⟨Bm,0,none⟩)]] w fun e X=>∃v T,e= .returned v∧(∃ps,AnyY.AllOf E ps∧T=ps.map (·.2))∧X.ownsRow w.heap.size iT 1 v T.length ((ld T).map (Value.int .i64))∧Below w.heap.size w X)
    {h:aa} {kb vb k v:Nat} {es:List (D×D×Nat)} {c:Nat} (hb:h kb=⟨vb,some (.arr 1 [.mp k v])⟩) (hm:h k=⟨v,some (.map es c)⟩) (hn:GM es c):
    ax P g [.fn f [.ptr kb vb 0 0 1]] h [.d (.ro ((ld (nL es)).map (D.int .i64)))] h:=by
 refine⟨V,fun G B w0 I0 w a M hs A=> ?_⟩
 obtain⟨u,rfl⟩:∃u,a= #[u]:=by
  have y:a.size=1:=hs;refine⟨a[0],Array.ext (by simp[y]) (fun i hi _=> ?_)⟩;have:i=0:=by omega
  subst this;rfl
 have hu:=A 0 _ u rfl rfl;cases hu with
 |fn _ _ vs hl F=>
 obtain⟨p,rfl⟩:∃p,vs= #[p]:=by
  have y:vs.size=1:=hl;refine⟨vs[0],Array.ext (by simp[y]) (fun i hi _=> ?_)⟩;have:i=0:=by omega
  subst this;rfl
 have hp:=F 0 _ p rfl rfl;have J:(h kb).ver=vb:=by rw[hb]
 have W:(h kb).ob=some (.arr 1 [.mp k v]):=by rw[hb]
 obtain⟨b,S,hM⟩:=M.maps.obj k es c (by rw[hm]);have hv:(h k).ver=v:=by rw[hm]
 rw[hv]at S;generalize hz:(1:Nat)=z at hp;cases hp with
 |ptr _ _ _ _ L hL=>
 rcases M.objs kb _ W with ⟨hn',_⟩|⟨L',K,g1,g2,g3,g4,g5,g6⟩
 ·cases hn'
 rw[J,hL]at K;cases K;obtain⟨cu,s,H,n⟩:=g6 0 _ rfl;generalize R:AV.mp k v=mm at n;cases n<;>first|(cases R;done)|skip
 rename_i b' I;clear H;cases R;rw[S]at I;cases I;obtain⟨E,C,hle,r⟩:=EX hk he hM hn;have Z:L.b<w.heap.size:=M.blt (by rw[J];exact hL);simp only[Nat.zero_mul,yp,xb];refine(hC L.b b es.length E w Z s C (yX hle hn.len)).mono ?_;rintro e X ⟨v',T,rfl,⟨ps,O,rfl⟩,j,m⟩;have l:ld (ps.map (·.2))=ld (nL es):=mergeSort_of_perm_i (r ps O);rw[l]at j;have N:(ps.map (·.2)).length=(ld (nL es)).length:=by rw[←l];simp[ld]
 rw[N]at j;rcases j.2 with ⟨rfl,U⟩|⟨gb,cap,aD,rfl,q,Q,r1,r2,r3,r4⟩
 ·obtain⟨y,Y⟩:=M.behind m (I':=fun _ _=>False) (fun _ _ x=>x.elim) (fun _ _ x=>x.elim)
  refine⟨_,_,rfl,Y,y, ?_⟩;have:ld (nL es)=[]:=List.length_eq_zero_iff.1 U;rw[this];exact .d (.roNil _ _)
 ·obtain⟨y,Y⟩:=M.behind m (I':=fun b o=>b=gb) (fun b o x=>by subst x;exact .inr q) (fun b o x=>by subst x;exact(xQ.1 Q).1)
  refine⟨_,_,rfl,Y,y, ?_⟩;exact .d (GO Q r1 (by simpa using r4) (fun t _=> .inr rfl))
end Go.Avm
namespace Go.Avm
open Go.RowKit
variable[aG]
open Classical in
noncomputable def J2(d:cZ):za:=fun b a N c S=>match d b a N c S with
 |some (e,S',f,tk,ps)=>if Alike ps then some (e,S',f,tk)else none
 |none=>none
theorem rF{f:cZ}{b a N:Nat}{c:Code}{S S':St}{e:aA}{d:Nat}{tk:List Nat}{ps:aq}(h:f b a N c S=some (e,S',d,tk,ps))(g:Alike ps):J2 f b a N c S=some (e,S',d,tk):=by
 unfold J2;rw[h];exact x9 g
theorem EY{P:Program}{d:cZ}(h:gD P d):CW P (J2 d):=fun k b N c S e S' l tk a=>by
 unfold J2 at a;split at a
 ·rename_i n S1 m j i f
  split at a
  ·rename_i g
   simp only[xA,xG]at a;obtain⟨rfl,rfl,rfl,rfl⟩:=a;exact h _ _ _ _ _ _ _ _ _ _ f g
  ·cases a
 ·cases a
def C5(P:Program)(a:List ResultVar):Option (aA×St×Nat×List Nat×aq)→Option (BD×aa×Nat×List Nat×aq)
 |some (e,S',b,tk,ps)=>(je P a (some (e,S',b,tk))).map fun r=>(r.1,r.2.1,r.2.2.1,r.2.2.2,ps)
 |none=>none
def GP(P:Program)(e:cZ)(a:Nat)(g:Nat)(args:List AV)(x:Option AV)(h:aa):Option (aa×Nat×List Nat×aq):=
 match P.funcs[g]? with
 |none=>none
 |some fn=>match fn.body with
  |some (.seq r c)=>match lI r with
   |some (d,f)=>if args.length≤fn.ntmps∧d<fn.ntmps∧fn.results.isEmpty=true then match Rf fn.ntmps f (aJ (hE args) d (x.getD (.d .nili)))with
       |some env=>match e g a fn.ntmps c ⟨env,h⟩with
        |some (.normal,S',b,tk,ps)=>some (S'.heap,b,tk,ps)
        |some (.ret,S',b,tk,ps)=>some (S'.heap,b,tk,ps)
        |_=>none
       |none=>none
    else none
   |none=>none
  |_=>none
def C6(P:Program)(d:cZ)(b N:Nat)(h:List ResultVar):Code→Nat→St→Option (BD×aa×Nat×List Nat×aq)
 | .seq x y,a,S=>match p8 x with
  |some (k,f,Y0)=>match Rf N k S.env with
   |some env=>match opd env f with
    | .fn g i=>match d b a N y ⟨env,S.heap⟩with
     |some (e,j,o,tk,ps)=>match MS e with
      |some n=>match GP P d o g (Y0.map (opd env) ++i) n j.heap with
       |some r=>(lW P ⟨j.env,r.1⟩ h).map fun l=>(.ret l,r.1,r.2.1,tk ++(r.2.2.1 ++BC j.env h),ps ++r.2.2.2)
       |none=>none
      |none=>none
     |none=>none
    |_=>none
   |none=>none
  |none=>match d b a N x S with
   |some (.normal,S',m,tk,ps)=>match C6 P d b N h y m S' with
    |some r=>some (r.1,r.2.1,r.2.2.1,tk ++r.2.2.2.1,ps ++r.2.2.2.2)
    |none=>none
   |r=>C5 P h r
 |c,a,S=>C5 P h (d b a N c S)
theorem Kr{P:Program}{m:cZ}{e g:Nat}{args:List AV}{x:Option AV}{h h':aa}{b:Nat}{tk:List Nat}{ps:aq}(a:GP P m e g args x h=some (h',b,tk,ps))(l:Alike ps):Gg P (J2 m) e g args x h=some (h',b,tk):=by
 unfold GP at a;unfold Gg;split at a
 ·cases a
 rename_i fn t;rw[t];simp only;split at a;case h_2=>cases a
 rename_i r c p;rw[p];simp only;split at a;case h_2=>cases a
 rename_i d u s;rw[s];simp only;split at a;case isFalse=>cases a
 rename_i q;rw[x9 q];split at a;case h_2=>cases a
 rename_i n k;rw[k];simp only;split at a
 ·rename_i S' o f j i
  simp only[xA,xG]at a;obtain⟨rfl,rfl,rfl,rfl⟩:=a;rw[rF i l]
 ·rename_i S' o f j i
  simp only[xA,xG]at a;obtain⟨rfl,rfl,rfl,rfl⟩:=a;rw[rF i l]
 ·cases a
theorem C7{P:Program}{i:List ResultVar}{f:cZ}{d a N:Nat}{c:Code}{S:St}{y:BD}{h':aa}{b:Nat}{tk:List Nat}{ps:aq}(h:C5 P i (f d a N c S)=some (y,h',b,tk,ps))(k:Alike ps):je P i (J2 f d a N c S)=some (y,h',b,tk):=by
 cases g:f d a N c S with
 |none=>rw[g]at h;cases h
 |some r=>
  obtain⟨e,S',n,l,m⟩:=r;rw[g]at h;simp only[C5,xB,xG]at h;obtain⟨r,j,rfl,rfl,rfl,rfl,rfl⟩:=h;rw[rF g k,j]
theorem Ks{P:Program}{o:cZ}{j N:Nat}{z:List ResultVar}:∀(c:Code)(a:Nat)(S:St)(y:BD)(h':aa)(b:Nat)(tk:List Nat)(ps:aq),C6 P o j N z c a S=some (y,h',b,tk,ps)→Alike ps→tB P (J2 o) j N z c a S=some (y,h',b,tk):=by
 intro c;induction c with
 |seq x y _ t=>
  intro a S w h' b tk ps h k;simp only[C6]at h;simp only[tB];split at h
  ·rename_i R f Y0 n
   rw[n];simp only;split at h;case h_2=>cases h
   rename_i A s;rw[s];simp only;split at h;case h_2=>cases h
   rename_i g v F;rw[F];simp only;split at h;case h_2=>cases h
   rename_i e U Q D M d;split at h;case h_2=>cases h
   rename_i W u;split at h;case h_2=>cases h
   rename_i r p;obtain⟨H,K,G,B⟩:=r;simp only[xB,xG]at h;obtain⟨l,E,rfl,rfl,rfl,rfl,rfl⟩:=h;rw[rF d k.left];simp only[u];rw[Kr p k.right];simp only[E,xc]
  ·rename_i n
   rw[n];simp only;split at h
   ·rename_i S' J m O d
    split at h;case h_2=>cases h
    rename_i r p;obtain⟨H,K,G,B,V⟩:=r;simp only[xA,xG]at h;obtain⟨rfl,rfl,rfl,rfl,rfl⟩:=h;rw[rF d k.left];simp only;rw[t _ _ _ _ _ _ _ p k.right]
   ·rename_i q
    have h2:=C7 h k;cases d:J2 o j a N x S with
    |none=>rw[d]at h2;simp[je]at h2
    |some r=>
     obtain⟨e,S',J,m⟩:=r;cases e with
     |normal=>
      exfalso;unfold J2 at d;split at d
      ·rename_i X S1 T C L I
       split at d
       ·simp only[xA,xG]at d
        obtain⟨rfl,rfl,rfl,rfl⟩:=d;exact q _ _ _ _ I
       ·cases d
      ·cases d
     |ret=>rw[d]at h2;exact h2
     |exit i=>rw[d]at h2;exact h2
     |panic x=>rw[d]at h2;exact h2
 |_=>
  intro a S w h' b tk ps h k;exact C7 h k
def oG(P:Program)(c:cZ)(a:Nat)(g:Nat)(args:List AV)(h:aa):Option (BD×aa×Nat×List Nat×aq):=
 match P.funcs[g]? with
 |none=>none
 |some fn=>match fn.body with
  |none=>none
  |some b=>if args.length≤fn.ntmps then C6 P c g fn.ntmps fn.results.toList b a ⟨hE args,h⟩else none
theorem GQ{P:Program}{d:cZ}{a g:Nat}{args:List AV}{h h':aa}{y:BD}{b:Nat}{tk:List Nat}{ps:aq}(c:oG P d a g args h=some (y,h',b,tk,ps))(e:Alike ps):uV P (J2 d) a g args h=some (y,h',b,tk):=by
 unfold oG at c;unfold uV;split at c
 ·cases c
 rename_i fn j;rw[j];simp only;split at c
 ·cases c
 rename_i k f;rw[f];simp only;split at c;case isFalse=>cases c
 rename_i i;rw[x9 i];exact Ks _ _ _ _ _ _ _ _ c e
def zt(r:Option (BD×aa×Nat×List Nat×aq)):Option (List AV×aa×Nat×List Nat×aq):=match r with
 |some (.ret a,h,b,tk,ps)=>some (a,h,b,tk,ps)
 |_=>none
def lf(r:Option (List AV×aa×Nat×List Nat×aq))(b:List D):Option (aA×aq):=
 match r with
 |some (a,h',_,_,ps)=>match nE h' a with
  |some ds=>some (.ret,(.ds ds, .ds b)::ps)
  |none=>none
 |none=>none
theorem aI{P:Program}(hm:jP P)(i:eu P)(k:Par P)(n a:Nat){g:Nat}{ds e:List D}
    (h:lX (lf (zt (oG P (bi P k n) a g (ds.map .d) J1)) e)=outR .ret (lf (zt (oG P (bi P k n) a g (ds.map .d) J1)) e)):al P g ds e:=by
 obtain⟨ps,b,f⟩:=f7 h;unfold lf at b;split at b;case h_2=>cases b
 rename_i t h' u tk p c;split at b;case h_2=>cases b
 rename_i s m;simp only[xA,xG,true_and]at b;subst b;have j:=f.head;simp only[aL.ds.injEq]at j;subst j;unfold zt at c;split at c;case h_2=>cases c
 rename_i q h2 v l o r;simp only[xA,xG]at c;obtain⟨rfl,rfl,rfl,rfl,rfl⟩:=c;exact tl (uZ hm i (EY (dt hm i n)) (GQ r f.tail)).1 m
end Go.Avm
namespace Go.Avm
open Go.RowKit
variable[aG]
section
variable{P:Program}{B:Nat}{w0:World}{I0:Nat→Nat→Prop}{cfg:hQ}{N:Nat}{b:Array Oper}
theorem tU{D:List Deferred}(u:iB P)(r:Option Nat)(n:Nat){Q:Exit→Act→World→Prop}{e:List Nat}:∀(l:List Nat){G:Gh}{w:World}{S S':St}{a:Act}{ob:List Obl}{fts:List Foot},
    HR G B w0 I0 S.heap w→FR G w N D S.env a→em P cfg N b l S=some (S',ob,fts)→gz P ob→
    (∀t g h,Ext G w h g→HR h B w0 I0 S'.heap g→FR h g N D S'.env t→wpOpsIn (FF r) n P b Q e t g)→wpOpsIn (FF r) n P b Q (l ++e) a w
 |[],G,w,S,S',a,ob,fts,p,m,d,f,q=>by
  simp only[em,xA,xG]at d;obtain⟨rfl,_,_⟩:=d;rw[xn];exact q a w G (Ext.refl G w) p m
 |i::L,G,w,S,S',a,ob,fts,p,m,d,f,q=>by
  simp only[em]at d;split at d
  ·cases d
  ·rename_i o I
   split at d
   ·cases d
   ·rename_i K k
    split at d
    ·cases d
    ·rename_i O j
     simp only[xA,xG]at d;obtain⟨rfl,rfl,rfl⟩:=d;obtain⟨S1,x,A⟩:=K;obtain⟨T,v,R⟩:=O;rw[x8,wpOpsIn_cons];unfold wpOpIn;simp only[I]
     exact fH u p m k (fun c s=>f c (yP _ s)) r n (fun t g h J h2 M=>
      tU u r n L h2 M j (fun c s=>f c (yj _ s)) (fun E H z C F y=>q E H z (J.trans C) F y))
end
section
variable{P:Program}{G:Gh}{B:Nat}{w0 w:World}{I0:Nat→Nat→Prop}{h:aa}{env:Nat→AV}{a:Act}{op:Oper}
theorem GR(i:HR G B w0 I0 h w)(q:∀x,Rep G w (opd env x) (a.eval x)){t kt et:TypeId}{x:Operand}{k v c:Nat}{es:List (D×D×Nat)}(K:Nat)(p:op.op= .range t x)(I:P.underlying t=some (.map kt et))
    (H:opd env x= .mp k v) (g:h k=⟨v,some (.map es c)⟩):∃u j r,(execOp a.eval op).run P w= .ok (.value u) j∧Ext G w r j∧HR r B w0 I0 (aJ h K ⟨(h K).ver+1,some (.itr k v c [])⟩) j∧Rep r j (.itr K ((h K).ver+1)) u:=by
 have f:=q x;rw[H]at f;generalize l:a.eval x=O at f;cases f with
 |mp _ _ b z=>
 obtain⟨L,d,A,C,E,y⟩:=i.maps.obj k es c (by rw[g]);rw[g]at d;simp only at d;rw[z]at d;cases d;have s:=i.allocAny (.mapIter (some b) c #[] c);have F:=Ext.alloc i (.mapIter (some b) c #[] c)
 obtain⟨m,J⟩:=s.newFixO K (b:=w.heap.size) (oo:=some (.itr k v c [])) (o:= .mapIter (some b) c #[] c) (fun o' e=>by cases e;rfl) i.bsz (fun k _ _ x=>by
  obtain⟨_,⟨o,_,h2⟩,_⟩:=i.maps.low _ _ _ x;have:=(xQ.1 h2).1;omega) rfl (heap_alloc_new w _) (fun _ _ e=>by cases e) (fun _ _ _ _ _ _ _ e=>by cases e) (fun N M n seen e=>by
  cases e;exact⟨b, #[],c,z,heap_alloc_new w _,rfl,rfl⟩)
 refine⟨.pointer (some ⟨w.heap.size,0,none⟩),w.alloc (.mapIter (some b) c #[] c),_, ?_,F.trans J,m, .itr _ _ _ (by simp[Gh.atMap])⟩;unfold execOp;rw[p];simp only[l,Sem.run_bind,run_range_map w t kt et b A c I C,Result.andThen,Sem.run];rfl
def C8(h:aa)(I vI k v c:Nat)(es:List (D×D×Nat))(seen:List Nat)(x:AV)(h':aa):Prop:=
 (x= .tup [.d (.bool false)]∧h'=h∧∀e∈es,e.2.2∈seen)∨
 ∃e∈es,e.2.2∉seen∧x= .tup [.d (.bool true), .d e.1, .d e.2.1]∧h'=aJ h I ⟨vI,some (.itr k v c (seen ++[e.2.2]))⟩
theorem Kt(O:HR G B w0 I0 h w)(hρ:∀x,Rep G w (opd env x) (a.eval x)){x:Operand}{I vI k v c:Nat}{es:List (D×D×Nat)}{seen:List Nat}(hop:op.op= .next x false)
    (F:opd env x= .itr I vI) (M:h I=⟨vI,some (.itr k v c seen)⟩) (H:h k=⟨v,some (.map es c)⟩) (N:∀e∈es,e.2.2<c):
    ∃v' E G' x' h',(execOp a.eval op).run P w= .ok (.value v') E∧Ext G w G' E∧HR G' B w0 I0 h' E∧Rep G' E x' v'∧C8 h I vI k v c es seen x' h':=by
 have z:=hρ x;rw[F]at z;generalize U:a.eval x=vx at z;cases z with
 |itr _ _ b hL=>
 obtain⟨b',Q,R,r,p,K,y,C,S⟩:=O.maps.iters I k v c seen (by rw[M]);rw[M]at p;simp only at p;rw[hL]at p;cases p;subst S;obtain⟨b2,o,n,hb,hsz,s⟩:=O.maps.obj k es _ (by rw[H]);rw[H]at o;simp only at o;rw[K]at o;cases o
 have J:∀m∈n.toList,∃e∈es,DRep G.imm w e.1 m.key∧DRep G.imm w e.2.1 m.val∧m.born=e.2.2:=fun m hm=>by
  obtain⟨i,Y,A⟩:=yv hm;have l:i<n.size:=by simpa using Y
  have h2:n[i]? =some m:=by rw[xJ l];rw[←A];simp
  have Z:es[i]? =some es[i]:=xH (by omega);exact⟨es[i],y7 _,s i _ m Z h2⟩
 have g:(execOp a.eval op).run P w=((Instr.next (.pointer (some ⟨b,0,none⟩)) false op.type).run P w).andThen fun v E=>(pure (Next.value v):Sem Next).run P E:=by
  unfold execOp;rw[hop];simp only[U,Sem.run_bind]
 rcases run_next_at (P:=P) w op.type b Q r r R n r y hb (fun m hm=>by
  obtain⟨e,A,_,_,f⟩:=J m hm;rw[f];exact N e A) (xS _)with ⟨h0,hrun⟩|⟨m,hm,w1,hw1,hrun⟩
 ·refine⟨_,w,G, .tup [.d (.bool false)],h,by rw[g,hrun];rfl,Ext.refl G w,O, .tup _ _ rfl (fun i cc u j q=> ?_), .inl ⟨rfl,rfl,fun e A=> ?_⟩⟩
  ·cases i with
   |zero=>
    simp at j q;subst j;subst q;exact .d (.bool _)
   |succ i=>simp at j
  ·
   obtain⟨i,Y,T⟩:=yv A;have l:i<n.size:=by omega
   have Z:es[i]? =some e:=by rw[xH Y,T]
   have h2:n[i]? =some n[i]:=xJ l;obtain⟨_,_,f⟩:=s i e _ Z h2;have W:leftOf n R= #[]:=Array.eq_empty_of_size_eq_zero h0;unfold leftOf at W;rw[Array.filter_eq_empty_iff]at W;have:=W n[i] (zH l);simp only[yH,Bool.not_eq_false']at this;rw[←C,←f];simpa using this
 ·unfold leftOf at hm
  simp only[Array.toList_filter,zK,yH]at hm;obtain⟨e,A,hk1,V,f⟩:=J m hm.1
  have hns:e.2.2∉seen:=fun F=>by
   rw[←C,←f]at F;have:=hm.2;simp at this;exact this (by simpa using F)
  have hw:HR G B w0 I0 h w1∧Ext G w G w1∧w1.heap[b]? =some (.mapIter (some Q) r R r):=by
   rcases hw1 with rfl|rfl
   ·exact⟨O,Ext.refl G _,y⟩
   ·exact⟨O.drew,Ext.drew G w,y⟩
  obtain⟨hr1,e1,t⟩:=hw
  obtain⟨L,e2⟩:=hr1.setFix (k:=I) (b:=b) (o':= .mapIter (some Q) r (R.push m.born) r) (ob':=some (.itr k v r (seen ++[e.2.2]))) (by rw[M];rfl) (by rw[M];exact hL) t rfl rfl (fun _=>⟨_,_,_,_,rfl⟩) (fun x F=>by cases F;rfl) (fun _ _ e=>by cases e) (fun _ _ _ _ _ _ _ e=>by cases e) (fun km vm X sn e3=>by
   cases e3;have hlt:=(xQ.1 t).1;exact⟨Q,_,r,K,World.putObj_heap_same hlt,by simp[C,f],rfl⟩)
  rw[M]at L;refine⟨_,_,G, .tup [.d (.bool true), .d e.1, .d e.2.1],_,by rw[g,hrun];rfl,e1.trans e2,L, .tup _ _ rfl (fun i cc u j q=> ?_), .inr ⟨e,A,hns,rfl,rfl⟩⟩;have ee:=e1.trans e2;match i with
  |0=>
   simp at j q;subst j;subst q;exact .d (.bool _)
  |1=>
   simp at j q;subst j;subst q;exact(Rep.d hk1:Rep G w _ _).mono ee
  |2=>
   simp at j q;subst j;subst q;exact(Rep.d V:Rep G w _ _).mono ee
  |i+3=>simp at j
theorem GS(N:HR G B w0 I0 h w)(R:∀x,Rep G w (opd env x) (a.eval x)){x:Operand}{I vI k v c:Nat}{es:List (D×D×Nat)}{seen:List Nat}{e:D×D×Nat}(O:op.op= .entry x)
    (hx:opd env x= .itr I vI) (X:h I=⟨vI,some (.itr k v c (seen ++[e.2.2]))⟩) (r:h k=⟨v,some (.map es c)⟩) (he:e∈es) (hn:(es.map (·.2.2)).Nodup):
    ∃U A S V h',(execOp a.eval op).run P w= .ok (.value U) A∧Ext G w S A∧HR S B w0 I0 h' A∧Rep S A V U∧V= .tup [.d e.1, .d e.2.1]∧h'=h:=by
 have n:=R x;rw[hx]at n;generalize L:a.eval x=vx at n;cases n with
 |itr _ _ b hL=>
 obtain⟨b',bm,sa,Z,l,K,q,H,F⟩:=N.maps.iters I k v c _ (by rw[X]);rw[X]at l;simp only at l;rw[hL]at l;cases l;subst F;obtain⟨b2,g,f,hb,hsz,m⟩:=N.maps.obj k es _ (by rw[r]);rw[r]at g;simp only at g;rw[K]at g;cases g;obtain⟨i,hi,J⟩:=yv he;have E:i<f.size:=by omega
 have h1:es[i]? =some e:=by rw[xH hi,J]
 have h2:f[i]? =some f[i]:=xJ E;obtain⟨T,M,Q⟩:=m i e _ h1 h2
 have p:f.toList.map (·.born)=es.map (·.2.2):=by
  apply List.ext_getElem?;intro j;rcases yJ j es.length with W|W
  ·have z:j<f.size:=by omega
   have Y:es[j]? =some es[j]:=xH W;have g2:f[j]? =some f[j]:=xJ z;rw[xP,xP,Y];have g3:f.toList[j]? =some f[j]:=by simp[z]
   rw[g3];simp only[xc];rw[(m j _ _ Y g2).2.2]
  ·rw[yk (by simp;omega),yk (by simp;omega)]
 obtain⟨o,y⟩:∃o:Array Nat,sa=o.push f[i].born:=⟨seen.toArray,by
  apply zQ.1;rw[H,Q];simp⟩
 rw[y]at q;have s:=run_entry_at (P:=P) w b bm Z o f Z f[i] q hb (by simp) (by rw[p];exact hn);refine⟨.tuple #[f[i].key,f[i].val],w,G, .tup [.d e.1, .d e.2.1],h, ?_,Ext.refl G w,N, .tup _ #[f[i].key,f[i].val] rfl (fun j cc u t C=> ?_),rfl,rfl⟩
 ·unfold execOp
  rw[O];simp only[L,Sem.run_bind,s,Result.andThen];rfl
 ·match j with
  |0=>
   simp at t C;subst t;subst C;exact .d T
  |1=>
   simp at t C;subst t;subst C;exact .d M
  |j+2=>simp at t
end
end Go.Avm
namespace Go.Avm
def MoR{b:Type}(r a:Res b):Prop:=r= .out∨a=r
theorem MoR.refl{a:Type}(r:Res a):MoR r r:= .inr rfl
theorem MoR.out{a:Type}(r:Res a):MoR .out r:= .inl rfl
theorem MoR.bind{c d:Type}{r b:Res c}{f f':c→RS→Res d}(h:MoR r b)(g:∀a s,MoR (f a s) (f' a s)):MoR (r.bind f) (b.bind f'):=by
 rcases h with rfl|rfl
 ·exact .inl rfl
 ·cases b with
  |ok a s=>exact g a s
  |bad p e s=>exact .inr rfl
  |out=>exact .inl rfl
theorem MoR.bif{d:Type}{b:Bool}{x a y c:Res d}(f:MoR x a)(e:MoR y c):MoR (bif b then x else y) (bif b then a else c):=by cases b<;>assumption
section
variable(L:List T)
structure Yg(n:Nat):Prop where
 one:∀s,MoR (dC L n s) (dC L (n+1) s)
 place:∀s,MoR (ch L n s) (ch L (n+1) s)
 call:∀nm p s,MoR (dz L n nm p s) (dz L (n+1) nm p s)
 args:∀s,MoR (dU L n s) (dU L (n+1) s)
 more:∀l s,MoR (du L n l s) (du L (n+1) l s)
 expr:∀k s,MoR (aQ L n k s) (aQ L (n+1) k s)
 tail:∀k e s,MoR (c3 L n k e s) (c3 L (n+1) k e s)
theorem Oi:∀n,Yg L n
 |0=>⟨fun _=> .inl rfl,fun _=> .inl rfl,fun _ _ _=> .inl rfl,fun _=> .inl rfl,fun _ _=> .inl rfl,fun _ _=> .inl rfl,fun _ _ _=> .inl rfl⟩
 |n+1=>by
  obtain⟨g,h2,m,j,i,d,h⟩:=Oi n;have R:=fun {q:Type} (r:Res q)=>MoR.refl r
  refine⟨fun s=> ?_,fun s=> ?_,fun nm p s=> ?_,fun s=> ?_,fun l s=> ?_,fun k s=> ?_,fun k e s=> ?_⟩
  ·rw[dC,dC]
   have f:∀(o p:Int) s,MoR ((dC L n s).bind fun e c=> .ok (Ex.mk 8 o [] 0 p [e]) c) ((dC L (n+1) s).bind fun e c=> .ok (Ex.mk 8 o [] 0 p [e]) c):=fun o p s=>(g s).bind fun _ _=>R _
   refine(R _).bind fun b a=>MoR.bif (f _ _ _) ((R _).bind fun b a=>MoR.bif (f _ _ _) ((R _).bind fun b a=>MoR.bif (f _ _ _) (MoR.bif (R _) ?_)))
   refine(R _).bind fun b a=>MoR.bif (R _) ((R _).bind fun b a=>MoR.bif (R _) ((R _).bind fun b a=>MoR.bif (R _) ((R _).bind fun b a=>MoR.bif (R _) ?_)))
   refine MoR.bif ((R _).bind fun _ c=>(d _ c).bind fun _ _=>R _) ((R _).bind fun t c=>MoR.bif ((h2 c).bind fun _ _=>R _) (MoR.bif ((m _ _ c).bind fun _ _=>R _) (R _)))
  ·rw[ch,ch]
   exact(R _).bind fun _ a=>(d _ a).bind fun _ _=>R _
  ·rw[dz,dz]
   exact(j s).bind fun _ _=>R _
  ·rw[dU,dU]
   exact(R _).bind fun _ a=>MoR.bif (R _) ((d _ a).bind fun e c=>(i _ c).bind fun _ _=>R _)
  ·rw[du,du]
   exact(R _).bind fun b a=>MoR.bif ((d _ a).bind fun e c=>i _ c) (R _)
  ·rw[aQ,aQ]
   exact(g s).bind fun e a=>h _ _ a
  ·rw[c3,c3]
   exact MoR.bif (R _) ((d _ _).bind fun r c=>h _ _ c)
theorem Oj(n:Nat)(id p:Int)(s:RS):MoR (gE L n id p s) (gE L (n+1) id p s):=by
 have R:=fun {a:Type} (r:Res a)=>MoR.refl r
 unfold gE;exact(R _).bind fun t e=>(R _).bind fun _ f=>(R _).bind fun ty c=>MoR.bif (R _) ((R _).bind fun b d=>MoR.bif (((Oi L n).expr _ _).bind fun _ _=>R _) (R _))
theorem GT(n:Nat)(id p:Int)(s:RS):MoR (ci L n id p s) (ci L (n+1) id p s):=by
 have R:=fun {b:Type} (r:Res b)=>MoR.refl r
 unfold ci;exact(R _).bind fun t d=>MoR.bif (((Oi L n).call _ _ _).bind fun _ _=>R _) (MoR.bif (((Oi L n).place _).bind fun e a=>(R _).bind fun _ c=>((Oi L n).expr _ _).bind fun _ _=>R _) ((R _).bind fun _ a=>((Oi L n).expr _ _).bind fun _ _=>R _))
theorem vu:∀n,(∀s,MoR (bg L n s) (bg L (n+1) s))∧(∀l s,MoR (cj L n l s) (cj L (n+1) l s))∧(∀s,MoR (b6 L n s) (b6 L (n+1) s))
 |0=>⟨fun _=> .inl rfl,fun _ _=> .inl rfl,fun _=> .inl rfl⟩
 |n+1=>by
  obtain⟨c,h2,g⟩:=vu n;have R:=fun {h:Type} (r:Res h)=>MoR.refl r
  have E:=(Oi L n).expr;refine⟨fun s=> ?_,fun l s=> ?_,fun s=> ?_⟩
  ·rw[bg,bg]
   exact(R _).bind fun _ a=>(h2 _ a).bind fun _ _=>R _
  ·rw[cj,cj]
   exact MoR.bif (R _) ((g s).bind fun _ a=>h2 _ a)
  ·rw[b6,b6]
   refine(R _).bind fun b a=>MoR.bif ((Oj L n _ _ a).bind fun _ _=>R _) ((R _).bind fun b a=>MoR.bif ?_ ((R _).bind fun b a=>MoR.bif ?_ ((R _).bind fun b a=>MoR.bif ?_ ((R _).bind fun b a=>MoR.bif ?_ ((GT L n _ _ a).bind fun _ _=>R _)))))
   ·exact(E _ a).bind fun e d=>(c d).bind fun l i=>(R _).bind fun b f=>MoR.bif ((c f).bind fun _ _=>R _) (R _)
   ·exact(E _ a).bind fun e d=>(c d).bind fun _ _=>R _
   ·exact MoR.bif (R _) ((E _ a).bind fun _ _=>R _)
   ·exact(E _ a).bind fun _ _=>R _
theorem zu:∀n l s,MoR (cl L n l s) (cl L (n+1) l s)
 |0,_,_=> .inl rfl
 |n+1,l,s=>by
  rw[cl,cl];exact(MoR.refl _).bind fun b c=>MoR.bif ((MoR.refl _).bind fun e a=>zu n _ a) (MoR.refl _)
theorem MT(n:Nat)(s:RS):MoR (oF L n s) (oF L (n+1) s):=by
 have R:=fun {g:Type} (r:Res g)=>MoR.refl r
 unfold oF cE;exact(R _).bind fun t d=>(R _).bind fun u a=>(MoR.bind (R _) fun _ d=>MoR.bif (R _) ((R _).bind fun e a=>(zu L n _ a).bind fun _ _=>R _)).bind fun ps h=>(R _).bind fun b c=>MoR.bif ((R _).bind fun k f=>((vu L n).1 f).bind fun _ _=>R _) (((vu L n).1 c).bind fun _ _=>R _)
theorem GU(N:Nat):∀n l s,MoR (gF L N n l s) (gF L (N+1) (n+1) l s)
 |0,_,_=> .inl rfl
 |n+1,l,s=>by
  rw[gF,gF];exact MoR.bif (MoR.refl _) ((MT L N s).bind fun f a=>GU N n _ a)
theorem Ku(n:Nat):MoR (dA L n) (dA L (n+1)):=(MT L n _).bind fun f a=>GU L n n _ a
theorem EZ{m n:Nat}(h:dA L m≠ .out)(hm:m≤n):dA L n=dA L m:=by
 obtain⟨d,rfl⟩:∃d,n=m+d:=⟨n-m,by omega⟩
 clear hm;induction d with
 |zero=>rfl
 |succ d a=>
  rcases Ku L (m+d)with e|e
  ·rw[a]at e;exact absurd e h
  ·rw[←ya,e,a]
end
end Go.Avm
namespace Go.Avm
structure WE where
 p:Int
 e:Int
def WE.fail(w:WE)(p e:Int):WE:=bif w.e==0 then ⟨p,e⟩else w
def MU(nm:List UInt8):List Vr→List Bool→Nat→Option Nat
 |[],_,_=>none
 |_::_,[],_=>none
 |v::vs,b::a,i=>bif v.nm==nm&&b then some i else MU nm vs a (i+1)
structure XK where
 fs:List Fn
 vars:List Vr
 seen:List Bool
 sure:List Bool
structure WS where
 vars:List Vr
 pts:List Pt
 w:WE
structure LS where
 seen:List Bool
 sure:List Bool
def vw:Nat→List Bool→List Nat
 |_,[]=>[]
 |i,b::r=>bif b then i::vw (i+1) r else vw (i+1) r
def Rn:List Bool→List Bool→List Bool
 |a::x,b::y=>(a&&b)::Rn x y
 |_,_=>[]
def LS.pt(s:LS)(fn:Nat):Pt:=⟨(fn:Int),vw 0 s.seen,vw 0 (Rn s.seen s.sure)⟩
def WS.x(c:WS)(fs:List Fn)(s:LS):XK:=⟨fs,c.vars,s.seen,s.sure⟩
end Go.Avm
namespace Go.Avm
structure Rl(vars:List Vr)(sl:hN)(q:SureL)(s:LS):Prop where
 ls:s.seen.length=vars.length
 lq:s.sure.length=vars.length
 seen:∀i,i<vars.length→s.seen[i]? =some (sl.any (·.2==i))
 sure:∀i,i<vars.length→s.sure[i]? =some (q.has i)
structure CI(c:CS):Prop where
 nod:(c.vars.map (·.nm)).Nodup
 sn:∀p∈c.seen,∃v,c.vars[p.2]? =some v∧v.nm=p.1
 inc:(c.seen.map (·.2)).Pairwise (· < ·)
mutual
def MV:Ex→Bool
 | .mk k _ _ _ _ xs=>(k==1||k==2||k==3||k==6||k==7||k==5||(k==4||k==8)&&xs.length==1||k==9&&xs.length==2)&&fm xs
def fm:List Ex→Bool
 |[]=>true
 |x::r=>MV x&&fm r
end
def XR(r:TR Int)(q:Int×WE)(w:WE):Prop:=match r with
 | .ok t=>q=(t,w)
 | .bad p e=>q.2=⟨p,e⟩∧(e==0)=false
 | .out=>True
def UR{a:Type}(r:TR a)(q w:WE):Prop:=match r with
 | .ok _=>q=w
 | .bad p e=>q=⟨p,e⟩∧(e==0)=false
 | .out=>True
section
variable{E:TE}{a:XK}(b:a.fs=E.fs)(c:a.vars=E.vars)(d:∀nm,MU nm a.vars a.seen 0=(eZ nm E.seen 0).map (·.2))(f:∀nm j i,eZ nm E.seen 0=some (j,i)→a.sure.getD i false=E.sure.has i)
include c d in
theorem UR.ok{r:TR Unit}{q w:WE}(h:UR r q w)(t:Int):XR (r.bind fun _=> .ok t) (t,q) w:=by
 cases r with
 |ok _=>exact congrArg (Prod.mk t) h
 |bad p e=>exact h
 |out=>trivial
theorem UR.trans{h m:TR Unit}{g k w:WE}(l:UR h g w)(h2:g=w→UR m k w)(o:(g.e==0)=false→k=g):UR (h.bind fun _=>m) k w:=by
 cases h with
 |ok _=>exact h2 l
 |bad p e=>
  obtain⟨rfl,n⟩:=l;exact⟨o n,n⟩
 |out=>trivial
include b c d f
end
end Go.Avm
namespace Go.Avm
structure CJ(c:CS):Prop extends CI c where
 sv:∀p∈c.sure.l,p.1<c.vars.length
theorem CJ.sl{c:CS}(h:CJ c):∀p∈c.seen,p.2<c.vars.length:=fun p hp=>by
 obtain⟨v,a,_⟩:=h.sn p hp;exact(xE.1 a).1
end Go.Avm
namespace Go.Avm
def OB{c:Type}(s:RS)(r:Res c):Prop:=∀a b,r= .ok a b→0≤s.op→s.op≤200→b.op=s.op
def OC{c:Type}(s:RS)(r:Res c):Prop:=∀a b,r= .ok a b→1≤s.op→s.op≤200→b.op=s.op-1
section
variable{d g:Type}{r:Res d}{f:d→RS→Res g}{s:RS}{L:List T}
theorem OB.bind(h:OB s r)(m:∀a i,OB i (f a i)):OB s (r.bind f):=fun b l e k j=>by
 cases r with
 |ok a c=>have:=h a c rfl k j;rw[←this];exact m a c b l e (by omega) (by omega)
 |bad p q c=>cases e
 |out=>cases e
theorem OC.bind(h:OB s r)(l:∀a i,OC i (f a i)):OC s (r.bind f):=fun b k e m j=>by
 cases r with
 |ok a c=>have:=h a c rfl (by omega) j;rw[←this];exact l a c b k e (by omega) (by omega)
 |bad p q c=>cases e
 |out=>cases e
theorem OB.ok(a:d):OB s (.ok a s):=fun _ _ e _ _=>by cases e;rfl
theorem OB.out:OB s (Res.out:Res d):=fun _ _ e=>by cases e
theorem OB.ite{c:Bool}{X Y:Res d}(b:OB s X)(a:OB s Y):OB s (bif c then X else Y):=by cases c<;>assumption
theorem OC.ite{c:Bool}{X Y:Res d}(b:OC s X)(a:OC s Y):OC s (bif c then X else Y):=by cases c<;>assumption
theorem Kv(x:List UInt8)(c:(x==[40]||x==[91]||x==[123])=false)(h2:(x==[41]||x==[93]||x==[125])=false):OB s (ah L x s):=fun a h e _ _=>by
 unfold ah at e;rw[c,h2]at e;cases b:isT L s x<;>rw[b]at e<;>cases e
 rfl
theorem OB.may{x:List UInt8}{X Y:RS→Res d}(j:(x==[40]||x==[91]||x==[123])=false)(h2:(x==[41]||x==[93]||x==[125])=false)(m:∀i,OB i (X i))(l:OB s (Y s)):OB s ((aM L x s).bind fun b c=>bif b then X c else Y c):=by
 unfold aM;cases isT L s x with
 |false=>exact l
 |true=>
  simp only[xR];intro a i e k n;cases h:ah L x s with
  |ok t c=>rw[h]at e;have:=Kv x j h2 t c h k n;rw[←this];exact m c a i e (by omega) (by omega)
  |bad p q c=>rw[h]at e;cases e
  |out=>rw[h]at e;cases e
end
section
variable(L:List T)
end
end Go.Avm
namespace Go.Avm
structure Shf where
 d:Nat
 e:Int
 j:Nat
def Shf.s(h:Shf)(s:RS):RS:=⟨h.d+s.i,s.op,b5 (s.n+h.e)⟩
def J3(t:T):Int×List UInt8×Int:=(t.k,t.t,t.n)
def UK:List UInt8:=[102,110]
structure U2(L L':List T)(h:Shf):Prop where
 tk:∀i,i≤h.j→J3 (L'.getD (h.d+i) default)=J3 (L.getD i default)∨((L.getD i default).k=0∧(L'.getD (h.d+i) default).k=2∧(L'.getD (h.d+i) default).t=UK)
 en:(L.getD h.j default).k=0
 nz:∀i,i<h.j→(L.getD i default).k≠0
def BR{e f:Type}(h:Shf)(g b:e→f)(r k:Res e):Prop:=∀a c,r= .ok a c→c.i≤h.j∧∃d,k= .ok d (h.s c)∧b d=g a
section
variable{h:Shf}{k m o n:Type}{g d:k→o}{κ2 κ2':m→n}{r l:Res k}{f f':k→RS→Res m}{s:RS}
theorem BR.bind(H:BR h g d r l)(y:∀a c u,u.i≤h.j→d c=g a→BR h κ2 κ2' (f a u) (f' c (h.s u))):BR h κ2 κ2' (r.bind f) (l.bind f'):=fun b w e=>by
 cases r with
 |ok a t=>
  obtain⟨x,c,rfl,v⟩:=H a t rfl;exact y a c t x v b w e
 |bad p q t=>cases e
 |out=>cases e
theorem BR.ok{a b:k}(c:s.i≤h.j)(e:d b=g a):BR h g d (.ok a s) (.ok b (h.s s)):=fun _ _ p=>by cases p;exact⟨c,b,rfl,e⟩
theorem BR.out:BR h g d (Res.out:Res k) l:=fun _ _ e=>by cases e
theorem BR.ite{c:Bool}{X Y b a:Res k}(i:BR h g d X b)(e:BR h g d Y a):BR h g d (bif c then X else Y) (bif c then b else a):=by cases c<;>assumption
end
theorem MW{a b:T}(h:J3 a=J3 b):a.k=b.k:=congrArg (·.1) h
theorem MX{a b:T}(h:J3 a=J3 b):a.t=b.t:=congrArg (·.2.1) h
theorem Ro{L:List T}{s:RS}{x:List UInt8}(h:isT L s x=true):(aD L s).k≠0:=fun e=>by
 unfold isT at h;rw[e]at h;cases h
section
variable{h:Shf}{L d:List T}(A:U2 L d h){n o:Type}{m c:n→o}{s:RS}
include A
theorem Rp(b:s.i≤h.j)(a:(aD L s).k≠0):s.i+1≤h.j:=by
 rcases Nat.lt_or_eq_of_le b with l|l
 ·exact l
 ·exact absurd (show(aD L s).k=0 by unfold aD;rw[l];exact A.en) a
theorem Rq(b:s.i≤h.j)(a:(aD L s).k≠0):J3 (aD d (h.s s))=J3 (aD L s):=by
 rcases A.tk s.i b with g|⟨g,_⟩
 ·exact g
 ·exact absurd g a
theorem GV(x:List UInt8)(b:(UK==x)=false)(e:s.i≤h.j):isT d (h.s s) x=isT L s x:=by
 rcases A.tk s.i e with g|⟨g,a,f⟩
 ·unfold isT aD Shf.s;dsimp only;rw[MW g,MX g]
 ·unfold isT aD Shf.s;dsimp only;rw[g,a,f,b];rfl
theorem Kw(x:List UInt8)(l:s.i≤h.j):BR h J3 J3 (ah L x s) (ah d x (h.s s)):=fun a t e=>by
 unfold ah at e ⊢;cases f:isT L s x with
 |false=>rw[f]at e;cases e
 |true=>
  have k:=Ro f;have b:=Rq A l k;have p:=Rp A l k;have g:isT d (h.s s) x=true:=by rw[←f];unfold isT;rw[MW b,MX b]
  rw[f]at e;rw[g];simp only[xR]at e ⊢;cases q:(x==[40]||x==[91]||x==[123])<;>rw[q]at e
  ·simp only[xI]at e ⊢
   cases h2:(x==[41]||x==[93]||x==[125])<;>rw[h2]at e<;>cases e<;>exact⟨p,_,rfl,b⟩
  ·simp only[xR]at e ⊢
   have r:(h.s s).op=s.op:=rfl;rw[r];cases h2:decide (200<b5 (s.op+1))<;>rw[h2]at e<;>cases e
   exact⟨p,_,rfl,b⟩
theorem BR.isT{x:List UInt8}(k:(UK==x)=false)(e:s.i≤h.j){X Y b a:Res n}(g:BR h m c X b)(f:BR h m c Y a):BR h m c (bif isT L s x then X else Y) (bif isT d (h.s s) x then b else a):=by
 rw[GV A x k e];exact g.ite f
theorem BR.may{x:List UInt8}(E:(UK==x)=false)(w:s.i≤h.j){X Y v y:RS→Res n}(D:∀l,l.i≤h.j→BR h m c (X l) (v (h.s l)))(C:BR h m c (Y s) (y (h.s s))):
    BR h m c ((aM L x s).bind fun b g=>bif b then X g else Y g) ((aM d x (h.s s)).bind fun b g=>bif b then v g else y g):=by
 unfold aM;rw[GV A x E w];cases Go.Avm.isT L s x with
 |false=>exact C
 |true=>
  have:=(Kw A x (s:=s) w).bind (κ2:=m) (κ2':=c) (f:=fun _ g=>X g) (f':=fun _ g=>v g) fun _ _ l u _=>D l u
  simp only[xR];intro a l e;revert e this;cases ah L x s with
  |ok t g=>
   intro this e;obtain⟨u,B,k,z⟩:=this a l e;revert k;cases ah d x (h.s s)with
   |ok F r=>exact fun k=>⟨u,B,k,z⟩
   |bad p q r=>exact fun k=>by cases k
   |out=>exact fun k=>by cases k
  |bad p q g=>exact fun _ e=>by cases e
  |out=>exact fun _ e=>by cases e
end
section
variable{h:Shf}{L a:List T}(A:U2 L a h)
include A
end
end Go.Avm
namespace Go.Avm
def Shf.g(h:Shf)(x:Int):Int:=b5 (x+h.e)
section
variable{h:Shf}{L a:List T}(A:U2 L a h)
include A
end
end Go.Avm
