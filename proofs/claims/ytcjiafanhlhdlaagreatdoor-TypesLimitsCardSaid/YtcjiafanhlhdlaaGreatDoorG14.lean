/-
  Types, limits: the texts of many variables: what is said of them.
-/
import Derived.Test.YtcjiafanhlhdlaaGreatDoorG13
import Derived.Test.YtcjiafanhlhdlaaGreatDoorG09
import Derived.Test.YtcjiafanhlhdlaaGreatDoorRows
import Derived.Test.YtcjiafanhlhdlaaGreatDoorG12
import Derived.Laws.StandIn
import Derived.LaidMore
import Derived.LaidSub
import Derived.Lay
import Derived.MakeChecks
import Derived.ChangeMaps5
import Derived.Lib.LaidTab
import Derived.Stop.LaidErr
import Derived.ChangeSlices
import Derived.OpenShut
import Derived.Deep.Slices
set_option linter.unusedVariables false
set_option linter.unusedSimpArgs false
set_option linter.unusedSectionVars false
namespace Go.Avm
open Go.Proofs
def uP(s:List UInt8):Int:=match pV s with
 | .error (_,e)=>e
 | .ok l=>match eZ l with
  | .ok _=>0
  | .bad _ e=>e
  | .out=>0
theorem FM{i:Nat}(h:i<260){l:List Vr}(hl:∀v∈l,∃j,j<i∧v.nm=pl j):(l.any fun v=>v.nm==pl i)=false:=by
 rw[←Bool.not_eq_true,List.any_eq_true];rintro⟨v,hv,he⟩;obtain⟨j,hj,e⟩:=hl v hv;have:=KZ (i:=j) (j:=i) (by omega) h (by rw[←e];simpa using he);omega
structure FN(c:CS)(j:Nat):Prop where
 vars:c.vars.length=j
 pts:c.pts.length=j+1
 nms:∀v∈c.vars,∃i,i<j∧v.nm=pl i
theorem Cv{fs:List Fn}{fn:Nat}{c:CS}{j a:Nat}(h:FN c j)(hj:j<260):
    (j<255→∃c',FN c' (j+1)∧jh fs fn 0 (.mk 1 ((j+1:Nat):Int) (pl j) 1 0 (a:Int) [] [] []) c= .ok c')∧(255≤j→jh fs fn 0 (.mk 1 ((j+1:Nat):Int) (pl j) 1 0 (a:Int) [] [] []) c= .bad (a:Int) 2):=by
 have hn:=FM hj h.nms
 have hb:(((j+1:Nat):Int)==(c.pts.length:Int)&&decide (c.pts.length<900000000))=true:=by
  rw[h.pts];simp;omega
 have hv:=h.vars
 have e:jh fs fn 0 (.mk 1 ((j+1:Nat):Int) (pl j) 1 0 (a:Int) [] [] []) c=bif decide (255≤j)then .bad (a:Int) 2 else .ok (CS.add {c with pts:=c.pts ++[c.pt fn]} ⟨pl j,1,0,((j+1:Nat):Int)⟩):=by
  rw[jh,hb,cond_true];have d1:decide (1000000≤([]:List Ex).length)=false:=by decide
  have d2:decide (1000000<(pl j).length)=false:=rfl;have d3:((1:Int)==3)=false:=rfl;have d4:((1:Int)==1)=true:=rfl;simp only[d4,cond_true,zI,d1,cond_false,List.map_nil,aM,TR.bind,d2,hn,d3,Bool.false_and,hv,List.isEmpty_nil,Bool.not_true,Bool.or_false]
 rw[e];refine⟨fun h5=> ?_,fun h5=> ?_⟩
 ·have:decide (255≤j)=false:=by simp;omega
  rw[this];refine⟨_,⟨?_, ?_, ?_⟩,rfl⟩
  ·simp only[CS.add,List.length_append,hv];rfl
  ·simp only[CS.add,List.length_append,h.pts];rfl
  ·intro v hm
   simp only[CS.add,List.mem_append,List.mem_singleton]at hm;rcases hm with hm|rfl
   ·obtain⟨i,hi,e⟩:=h.nms v hm
    exact⟨i,by omega,e⟩
   ·exact⟨j,by omega,rfl⟩
 ·have:decide (255≤j)=true:=by simp;omega
  rw[this];rfl
theorem m5{fs:List Fn}{fn:Nat}{tl:List bt}:∀(k j a:Nat)(c:CS),FN c j→j+k≤260→
    (j+k≤255→∃c',FN c' (j+k)∧bE fs fn 0 false (gQ j a j k ++tl) c=bE fs fn 0 false tl c')∧(255<j+k→j≤255→∃p,bE fs fn 0 false (gQ j a j k ++tl) c= .bad p 2)
 |0,j,a,c,h,_=>⟨fun _=>⟨c,h,rfl⟩,fun h1 h2=>by omega⟩
 |k+1,j,a,c,h,hk=>by
  obtain⟨g1,g2⟩:=Cv (fs:=fs) (fn:=fn) (a:=a) h (by omega)
  have e:bE fs fn 0 false (gQ j a j (k+1) ++tl) c=(jh fs fn 0 (.mk 1 ((j+1:Nat):Int) (pl j) 1 0 (a:Int) [] [] []) c).bind fun c'=>bE fs fn 0 false (gQ (j+1) (a+14) (j+1) k ++tl) c':=by
   rw[gQ,List.cons_append,bE,cond_false];rfl
  refine⟨fun h5=> ?_,fun h5 hj=> ?_⟩
  ·obtain⟨c1,hc1,e1⟩:=g1 (by omega)
   obtain⟨c2,hc2,e2⟩:=(m5 k (j+1) (a+14) c1 hc1 (by omega)).1 (by omega);exact⟨c2,by rw[show j+(k+1)=j+1+k by omega];exact hc2,by rw[e,e1];exact e2⟩
  ·by_cases h6:j<255
   ·obtain⟨c1,hc1,e1⟩:=g1 h6
    obtain⟨p,e2⟩:=(m5 (fs:=fs) (fn:=fn) (tl:=tl) k (j+1) (a+14) c1 hc1 (by omega)).2 (by omega) (by omega);exact⟨p,by rw[e,e1];exact e2⟩
   ·exact⟨_,by rw[e,g2 (by omega)];rfl⟩
theorem uQ:∀(l:List bt)(x:bt),du (l ++[x])=mT x
 |[],x=>rfl
 |[y],x=>rfl
 |y::z::l,x=>by
  have:=uQ (z::l) x;rw[List.cons_append,List.cons_append,du];exact this
theorem Cw(k:Nat)(hk:k<260):(k≤255→∃q,eZ (tO k)= .ok q)∧(255<k→∃p,eZ (tO k)= .bad p 2):=by
 have hH:iL (tO k)= .ok ():=by unfold tO;kernel_rfl
 have hc0:FN ⟨[],[],⟨[],0⟩,[eC]⟩ 0:=⟨rfl,rfl,fun v h=>by cases h⟩
 obtain⟨g1,g2⟩:=m5 (fs:=tO k) (fn:=0) (tl:=[lJ k (17+14*k)]) k 0 17 _ hc0 (by omega);have hE:du (gQ 0 17 0 k ++[lJ k (17+14*k)])=true:=uQ _ _
 have e:eZ (tO k)=(((bE (tO k) 0 0 false (gQ 0 17 0 k ++[lJ k (17+14*k)]) ⟨[],[],⟨[],0⟩,[eC]⟩).bind fun c=> .ok {c with seen:=[]}).bind fun c=>bif (1:Int)==0||du (gQ 0 17 0 k ++[lJ k (17+14*k)])then .ok (c.vars,c.pts)else .bad 0 12).bind fun q=> .ok ([q.1],q.2):=by
  rw[eZ,hH];rfl
 rw[e,hE];refine⟨fun h=> ?_,fun h=> ?_⟩
 ·obtain⟨c',hc,e⟩:=g1 (by omega)
  rw[e]
  have hb:(((k+1:Nat):Int)==(c'.pts.length:Int)&&decide (c'.pts.length<900000000))=true:=by
   rw[hc.pts];simp;omega
  have:bE (tO k) 0 0 false [lJ k (17+14*k)] c'= .ok {c' with pts:=c'.pts ++[c'.pt 0]}:=by
   rw[bE,cond_false,lJ,jh,hb,cond_true];rfl
  rw[this];exact⟨_,rfl⟩
 ·obtain⟨p,e⟩:=g2 (by omega) (by omega)
  rw[e];exact⟨p,rfl⟩
theorem HS(k:Nat)(h1:250≤k)(hk:k<260):uP (iU k)=if k≤255 then 0 else 2:=by
 unfold uP;rw[FL k (by omega) hk];obtain⟨g1,g2⟩:=Cw k hk;by_cases h:k≤255
 ·obtain⟨q,e⟩:=g1 h
  rw[if_pos h];dsimp only;rw[e]
 ·obtain⟨p,e⟩:=g2 (by omega)
  rw[if_neg h];dsimp only;rw[e]
end Go.Avm
namespace Go.Avm
open Go.Proofs
set_option maxRecDepth 100000 in
theorem QE:ax Pg 9 [.str [102,110,32,109,97,105,110,40,41,58,32,105,110,116,32,123,32,108,101,116,32,120,58,32,105,110,116,59,32,105,102,32,116,114,117,101,32,123,32,120,32,61,32,49,59,32,125,32,114,101,116,117,114,110,32,120,59,32,125]] [.agg [.ro [.agg [.str [109,97,105,110], .ro [], .int .u8 1, .ro [.agg [.int .u8 1, .int .i64 1, .str [120], .int .u8 1, .int .i64 0, .int .i64 17, .ro [], .ro [], .ro []], .agg [.int .u8 4, .int .i64 2, .str [], .int .u8 0, .int .i64 0, .int .i64 29, .ro [.agg [.int .u8 2, .int .u8 0, .str [], .int .i64 1, .int .i64 32, .ro []]], .ro [.agg [.int .u8 2, .int .i64 3, .str [120], .int .u8 0, .int .i64 0, .int .i64 39, .ro [.agg [.int .u8 1, .int .u8 0, .str [], .int .i64 1, .int .i64 43, .ro []]], .ro [], .ro []]], .ro []], .agg [.int .u8 6, .int .i64 4, .str [], .int .u8 0, .int .i64 0, .int .i64 48, .ro [.agg [.int .u8 3, .int .u8 0, .str [120], .int .i64 0, .int .i64 55, .ro []]], .ro [], .ro []]], .int .i64 0]]], .agg [.ro [], .ro []], .int .i64 55, .int .i64 10]:=by
 have h:=wu [102,110,32,109,97,105,110,40,41,58,32,105,110,116,32,123,32,108,101,116,32,120,58,32,105,110,116,59,32,105,102,32,116,114,117,101,32,123,32,120,32,61,32,49,59,32,125,32,114,101,116,117,114,110,32,120,59,32,125];rw[show jR [102,110,32,109,97,105,110,40,41,58,32,105,110,116,32,123,32,108,101,116,32,120,58,32,105,110,116,59,32,105,102,32,116,114,117,101,32,123,32,120,32,61,32,49,59,32,125,32,114,101,116,117,114,110,32,120,59,32,125]=[.agg [.ro [.agg [.str [109,97,105,110], .ro [], .int .u8 1, .ro [.agg [.int .u8 1, .int .i64 1, .str [120], .int .u8 1, .int .i64 0, .int .i64 17, .ro [], .ro [], .ro []], .agg [.int .u8 4, .int .i64 2, .str [], .int .u8 0, .int .i64 0, .int .i64 29, .ro [.agg [.int .u8 2, .int .u8 0, .str [], .int .i64 1, .int .i64 32, .ro []]], .ro [.agg [.int .u8 2, .int .i64 3, .str [120], .int .u8 0, .int .i64 0, .int .i64 39, .ro [.agg [.int .u8 1, .int .u8 0, .str [], .int .i64 1, .int .i64 43, .ro []]], .ro [], .ro []]], .ro []], .agg [.int .u8 6, .int .i64 4, .str [], .int .u8 0, .int .i64 0, .int .i64 48, .ro [.agg [.int .u8 3, .int .u8 0, .str [120], .int .i64 0, .int .i64 55, .ro []]], .ro [], .ro []]], .int .i64 0]]], .agg [.ro [], .ro []], .int .i64 55, .int .i64 10] by kernel_rfl]at h;exact h
set_option maxRecDepth 100000 in
theorem QF:ax Pg 9 [.str [102,110,32,109,97,105,110,40,41,58,32,105,110,116,32,123,32,108,101,116,32,120,58,32,105,110,116,59,32,105,102,32,116,114,117,101,32,123,32,120,32,61,32,49,59,32,125,32,101,108,115,101,32,123,32,120,32,61,32,50,59,32,125,32,114,101,116,117,114,110,32,120,59,32,125]] [.agg [.ro [.agg [.str [109,97,105,110], .ro [], .int .u8 1, .ro [.agg [.int .u8 1, .int .i64 1, .str [120], .int .u8 1, .int .i64 0, .int .i64 17, .ro [], .ro [], .ro []], .agg [.int .u8 4, .int .i64 2, .str [], .int .u8 0, .int .i64 0, .int .i64 29, .ro [.agg [.int .u8 2, .int .u8 0, .str [], .int .i64 1, .int .i64 32, .ro []]], .ro [.agg [.int .u8 2, .int .i64 3, .str [120], .int .u8 0, .int .i64 0, .int .i64 39, .ro [.agg [.int .u8 1, .int .u8 0, .str [], .int .i64 1, .int .i64 43, .ro []]], .ro [], .ro []]], .ro [.agg [.int .u8 2, .int .i64 4, .str [120], .int .u8 0, .int .i64 0, .int .i64 55, .ro [.agg [.int .u8 1, .int .u8 0, .str [], .int .i64 2, .int .i64 59, .ro []]], .ro [], .ro []]]], .agg [.int .u8 6, .int .i64 5, .str [], .int .u8 0, .int .i64 0, .int .i64 64, .ro [.agg [.int .u8 3, .int .u8 0, .str [120], .int .i64 0, .int .i64 71, .ro []]], .ro [], .ro []]], .int .i64 0]]], .agg [.ro [.ro [.agg [.str [120], .int .u8 1, .int .i64 0, .int .i64 1]]], .ro [.agg [.int .i64 0, .ro [], .ro []], .agg [.int .i64 0, .ro [], .ro []], .agg [.int .i64 0, .ro [.int .i64 0], .ro []], .agg [.int .i64 0, .ro [.int .i64 0], .ro []], .agg [.int .i64 0, .ro [.int .i64 0], .ro []], .agg [.int .i64 0, .ro [.int .i64 0], .ro [.int .i64 0]]]], .int .i64 0, .int .i64 0]:=by
 have h:=wu [102,110,32,109,97,105,110,40,41,58,32,105,110,116,32,123,32,108,101,116,32,120,58,32,105,110,116,59,32,105,102,32,116,114,117,101,32,123,32,120,32,61,32,49,59,32,125,32,101,108,115,101,32,123,32,120,32,61,32,50,59,32,125,32,114,101,116,117,114,110,32,120,59,32,125];rw[show jR [102,110,32,109,97,105,110,40,41,58,32,105,110,116,32,123,32,108,101,116,32,120,58,32,105,110,116,59,32,105,102,32,116,114,117,101,32,123,32,120,32,61,32,49,59,32,125,32,101,108,115,101,32,123,32,120,32,61,32,50,59,32,125,32,114,101,116,117,114,110,32,120,59,32,125]=[.agg [.ro [.agg [.str [109,97,105,110], .ro [], .int .u8 1, .ro [.agg [.int .u8 1, .int .i64 1, .str [120], .int .u8 1, .int .i64 0, .int .i64 17, .ro [], .ro [], .ro []], .agg [.int .u8 4, .int .i64 2, .str [], .int .u8 0, .int .i64 0, .int .i64 29, .ro [.agg [.int .u8 2, .int .u8 0, .str [], .int .i64 1, .int .i64 32, .ro []]], .ro [.agg [.int .u8 2, .int .i64 3, .str [120], .int .u8 0, .int .i64 0, .int .i64 39, .ro [.agg [.int .u8 1, .int .u8 0, .str [], .int .i64 1, .int .i64 43, .ro []]], .ro [], .ro []]], .ro [.agg [.int .u8 2, .int .i64 4, .str [120], .int .u8 0, .int .i64 0, .int .i64 55, .ro [.agg [.int .u8 1, .int .u8 0, .str [], .int .i64 2, .int .i64 59, .ro []]], .ro [], .ro []]]], .agg [.int .u8 6, .int .i64 5, .str [], .int .u8 0, .int .i64 0, .int .i64 64, .ro [.agg [.int .u8 3, .int .u8 0, .str [120], .int .i64 0, .int .i64 71, .ro []]], .ro [], .ro []]], .int .i64 0]]], .agg [.ro [.ro [.agg [.str [120], .int .u8 1, .int .i64 0, .int .i64 1]]], .ro [.agg [.int .i64 0, .ro [], .ro []], .agg [.int .i64 0, .ro [], .ro []], .agg [.int .i64 0, .ro [.int .i64 0], .ro []], .agg [.int .i64 0, .ro [.int .i64 0], .ro []], .agg [.int .i64 0, .ro [.int .i64 0], .ro []], .agg [.int .i64 0, .ro [.int .i64 0], .ro [.int .i64 0]]]], .int .i64 0, .int .i64 0] by kernel_rfl]at h;exact h
set_option maxRecDepth 100000 in
theorem QG:ax Pg 9 [.str [102,110,32,109,97,105,110,40,41,58,32,105,110,116,32,123,32,114,101,116,117,114,110,32,49,59,32,112,114,105,110,116,32,50,59,32,125]] [.agg [.ro [.agg [.str [109,97,105,110], .ro [], .int .u8 1, .ro [.agg [.int .u8 6, .int .i64 1, .str [], .int .u8 0, .int .i64 0, .int .i64 17, .ro [.agg [.int .u8 1, .int .u8 0, .str [], .int .i64 1, .int .i64 24, .ro []]], .ro [], .ro []], .agg [.int .u8 7, .int .i64 2, .str [], .int .u8 0, .int .i64 0, .int .i64 27, .ro [.agg [.int .u8 1, .int .u8 0, .str [], .int .i64 2, .int .i64 33, .ro []]], .ro [], .ro []]], .int .i64 0]]], .agg [.ro [], .ro []], .int .i64 27, .int .i64 11]:=by
 have h:=wu [102,110,32,109,97,105,110,40,41,58,32,105,110,116,32,123,32,114,101,116,117,114,110,32,49,59,32,112,114,105,110,116,32,50,59,32,125];rw[show jR [102,110,32,109,97,105,110,40,41,58,32,105,110,116,32,123,32,114,101,116,117,114,110,32,49,59,32,112,114,105,110,116,32,50,59,32,125]=[.agg [.ro [.agg [.str [109,97,105,110], .ro [], .int .u8 1, .ro [.agg [.int .u8 6, .int .i64 1, .str [], .int .u8 0, .int .i64 0, .int .i64 17, .ro [.agg [.int .u8 1, .int .u8 0, .str [], .int .i64 1, .int .i64 24, .ro []]], .ro [], .ro []], .agg [.int .u8 7, .int .i64 2, .str [], .int .u8 0, .int .i64 0, .int .i64 27, .ro [.agg [.int .u8 1, .int .u8 0, .str [], .int .i64 2, .int .i64 33, .ro []]], .ro [], .ro []]], .int .i64 0]]], .agg [.ro [], .ro []], .int .i64 27, .int .i64 11] by kernel_rfl]at h;exact h
set_option maxRecDepth 100000 in
theorem eS:ax Pg 8 [] [.bool true]:=
 bn aB named {hint:=qT 8 [(14, .call 9 _ _ QE),(20, .call 9 _ _ QF),(26, .call 9 _ _ QG)]} 2000 (by kernel_rfl)
end Go.Avm
namespace Go.Avm
open Go.Proofs
def aJ(P:Program)(k:IntKind)(x y:Int)(h:x=y):bX P:= .val (.d (.int k x)) (.d (.int k y)) (by rw[h])
abbrev Rg(c:Nat):AV:= .d (.int .u16 (c:Int))
abbrev QH(m:Nat):AV:= .d (.int .u8 (m:Int))
abbrev N3(u c k i:Nat):List (Nat×AV):=[(1,Rg u),(2,QH c),(7,dN k),(8, .d (.str (eH ++f4 i))),(32,dN k),(33,dN i)]
abbrev QI(u c k:Nat):List (Nat×AV):=[(1,Rg u),(2,QH c),(7,dN k),(8, .d (.str (eH ++f4 k)))]
section
variable(u c k i:Nat)
theorem K1:RE 172 (lO 6 6) (N3 u c k k) ([]) (.exit 0) (QI u c k) ([]):=
 qE {hint:=qT 6 [(34,qG k)]} 6 600000
theorem QJ(hk:k<1000)(hj:i<k):RE 172 (lO 6 6) (N3 u c k i) ([]) .normal (N3 u c k (i+1)) ([]):=
 qE {hint:=qT 6 [(34,qL hj),(38,aJ Pg .i64 (IntKind.i64.wrap ((i:Int).tdiv 26)) ((i/26:Nat):Int) (by rw[Int.tdiv_eq_ediv_of_nonneg (by omega),IntWalk.i64_in _ (by omega)];omega)),(39,aJ Pg .i64 (IntKind.i64.wrap (97+((i/26:Nat):Int))) ((97+i/26:Nat):Int) (by rw[IntWalk.i64_in _ (by omega)];omega)),(40,aJ Pg .u8 (IntKind.u8.wrap ((97+i/26:Nat):Int)) ((97+i/26:Nat):Int) (by rw[IntWalk.u8_in _ (by omega)])),(42,aJ Pg .i64 ((i:Int).tmod 26) ((i % 26:Nat):Int) (by rw[Int.tmod_eq_emod_of_nonneg (by omega)];omega)),(43,aJ Pg .i64 (IntKind.i64.wrap (97+((i % 26:Nat):Int))) ((97+i % 26:Nat):Int) (by rw[IntWalk.i64_in _ (by omega)];omega)),(44,aJ Pg .u8 (IntKind.u8.wrap ((97+i % 26:Nat):Int)) ((97+i % 26:Nat):Int) (by rw[IntWalk.u8_in _ (by omega)])),(49, .cat (eH ++f4 i) (yE i) (by rw[cB,List.length_append,ce];simp only[eH,yE,List.length_append,List.length_cons,List.length_nil];omega)),(50,dL Pg i (by omega))]} 6 600000
end
theorem FO(u c k:Nat)(hk:k<1000):∀m i:Nat,i+m=k→RL 172 (lO 6 6) (N3 u c k i) ([]) (.exit 0) (QI u c k) ([])
 |0,i,h=>by
  obtain rfl:i=k:=by omega
  exact fun rest X hP hN=>aY (K1 u c i rest X hP hN) (by simp)
 |m+1,i,h=>by
  have g:=FO u c k hk m (i+1) (by omega);exact fun rest X hP hN=>aX (QJ u c k i hk (by omega) rest X hP hN) (g rest X hP hN)
noncomputable def ql(u c k:Nat)(hk:k<1000):dJ Pg:=
 ⟨172,b6 Pg 6 6,N3 u c k 0,fun _=>[], .exit 0,QI u c k,fun _=>[],fun rest X hP hN=>(FO u c k hk k 0 (by omega) rest X hP hN).aw⟩
def d8(n:Nat):UInt8:=UInt8.ofNat (48+n)
abbrev Bw(c k:Nat)(e:Int)(a:Nat)(s:List UInt8):List (Nat×AV):=[(2,QH c),(7,dN k),(13,dI e),(14,dN a),(15, .d (.str s))]
section
variable(c k:Nat)(e:Int)(a:Nat)
theorem R6(x:UInt8):RE 172 (lO 6 13) (Bw c k e a [x]) ([]) (.exit 2) (Bw c k e a [x]) ([]):=
 qE {} 6 600000
theorem QK(x y:UInt8)(h:((x.toNat:Int)==48)=false):RE 172 (lO 6 13) (Bw c k e a [x,y]) ([]) (.exit 2) (Bw c k e a [x,y]) ([]):=
 qE {hint:=qT 6 [(83,qB h)]} 6 600000
theorem QL(x y z:UInt8)(h:((x.toNat:Int)==48)=false):RE 172 (lO 6 13) (Bw c k e a [x,y,z]) ([]) (.exit 2) (Bw c k e a [x,y,z]) ([]):=
 qE {hint:=qT 6 [(83,qB h)]} 6 600000
theorem QM(x y:UInt8)(h:((x.toNat:Int)==48)=true):RE 172 (lO 6 13) (Bw c k e a [x,y]) ([]) .normal (Bw c k e a [y]) ([]):=
 qE {hint:=qT 6 [(83,qB h)]} 6 600000
theorem N4(x y z:UInt8)(h:((x.toNat:Int)==48)=true):RE 172 (lO 6 13) (Bw c k e a [x,y,z]) ([]) .normal (Bw c k e a [y,z]) ([]):=
 qE {hint:=qT 6 [(83,qB h)]} 6 600000
end
def fL(a:Nat):List UInt8:=if a<10 then [d8 (a % 10)]else if a<100 then [d8 (a/10 % 10),d8 (a % 10)]else [d8 (a/100),d8 (a/10 % 10),d8 (a % 10)]
theorem N5{n:Nat}(h:n<10):(((d8 n).toNat:Int)==48)=(n==0):=by
 have:(d8 n).toNat=48+n:=by unfold d8;rw[UInt8.toNat_ofNat'];omega
 rw[this];cases hn:(n==0)with
 |true=>have:=eq_of_beq hn;subst this;rfl
 |false=>have:=beq_eq_false_iff_ne.1 hn;simp;omega
theorem K2(c k:Nat)(e:Int)(a:Nat)(ha:a<300):RL 172 (lO 6 13) (Bw c k e a [d8 (a/100),d8 (a/10 % 10),d8 (a % 10)]) ([]) (.exit 2) (Bw c k e a (fL a)) ([]):=fun rest X hP hN=>by
 have h1:=N5 (n:=a/100) (by omega);have h2:=N5 (n:=a/10 % 10) (by omega);unfold fL;by_cases g1:a<10
 ·rw[if_pos g1]
  exact aX (N4 c k e a _ _ _ (h1.trans (by simp;omega)) rest X hP hN) (aX (QM c k e a _ _ (h2.trans (by simp;omega)) rest X hP hN) (aY (R6 c k e a _ rest X hP hN) (by simp)))
 ·rw[if_neg g1]
  by_cases g2:a<100
  ·rw[if_pos g2]
   exact aX (N4 c k e a _ _ _ (h1.trans (by simp;omega)) rest X hP hN) (aY (QK c k e a _ _ (h2.trans (by simp;omega)) rest X hP hN) (by simp))
  ·rw[if_neg g2]
   exact aY (QL c k e a _ _ _ (h1.trans (by simp;omega)) rest X hP hN) (by simp)
noncomputable def qm(c k:Nat)(e:Int)(a:Nat)(ha:a<300):dJ Pg:=
 ⟨172,b6 Pg 6 13,Bw c k e a [d8 (a/100),d8 (a/10 % 10),d8 (a % 10)],fun _=>[], .exit 2,Bw c k e a (fL a),fun _=>[],fun rest X hP hN=>(K2 c k e a ha rest X hP hN).aw⟩
def fg:List UInt8:=[102,110,32,103,40]
def i6:Nat→List UInt8
 |0=>[]
 |i+1=>(if 0<i then i6 i ++[44,32]else i6 i) ++([112] ++[d8 i] ++[58,32,105,110,116])
theorem cM:∀i,(i6 i).length≤9*i
 |0=>by simp[i6]
 |i+1=>by
  have:=cM i;unfold i6;split<;>simp only[List.length_append,List.length_cons,List.length_nil]<;>omega
abbrev Al(k:Nat)(e:Int)(a:Nat)(f:Int)(m i:Nat):List (Nat×AV):=[(7,dN k),(8, .d (.str (fg ++i6 i))),(13,dI e),(14,dN a),(19,dI f),(20,dN m),(99,dN m),(100,dN i)]
abbrev K3(k:Nat)(e:Int)(a:Nat)(f:Int)(m:Nat):List (Nat×AV):=[(7,dN k),(8, .d (.str (fg ++i6 m))),(13,dI e),(14,dN a),(19,dI f),(20,dN m)]
section
variable(k:Nat)(e:Int)(a:Nat)(f:Int)(m i:Nat)
theorem K4:RE 172 (lO 6 19) (Al k e a f m m) ([]) (.exit 4) (K3 k e a f m) ([]):=
 qE {hint:=qT 6 [(101,qG m)]} 6 600000
theorem N6(hm:0<m):RE 172 (lO 6 19) (Al k e a f m 0) ([]) .normal (Al k e a f m 1) ([]):=
 qE {hint:=qT 6 [(101,qL hm)]} 6 600000
theorem QN(hi:i+1<m)(hm:m<10):RE 172 (lO 6 19) (Al k e a f m (i+1)) ([]) .normal (Al k e a f m (i+1+1)) ([]):=
 qE {hint:=qT 6 [(101,mU Pg (i+1) m true (by simpa using hi)),(104,hB Pg (decide ((0:Int)<((i+1:Nat):Int))) true (by rw[decide_eq_true_iff];omega)),(106, .cat (fg ++i6 (i+1)) [44,32] (by have:=cM (i+1);simp only[fg,List.length_append,List.length_cons,List.length_nil];omega)),(109,aJ Pg .i64 (IntKind.i64.wrap (48+((i+1:Nat):Int))) ((48+(i+1):Nat):Int) (by rw[IntWalk.i64_in _ (by omega)];try omega)),(110,aJ Pg .u8 (IntKind.u8.wrap ((48+(i+1):Nat):Int)) ((48+(i+1):Nat):Int) (by rw[IntWalk.u8_in _ (by omega)])),(115, .cat (fg ++i6 (i+1) ++[44,32]) ([112] ++[d8 (i+1)] ++[58,32,105,110,116]) (by have:=cM (i+1);simp only[fg,List.length_append,List.length_cons,List.length_nil];omega)),(116,dL Pg (i+1) (by omega))]} 6 600000
end
end Go.Avm
namespace Go.Avm
open Go.Proofs
theorem Am(k:Nat)(e:Int)(a:Nat)(f:Int)(m:Nat)(hm:m<10):∀d i:Nat,i+d=m→RL 172 (lO 6 19) (Al k e a f m i) ([]) (.exit 4) (K3 k e a f m) ([])
 |0,i,h=>by
  obtain rfl:i=m:=by omega
  exact fun rest X hP hN=>aY (K4 k e a f i rest X hP hN) (by simp)
 |d+1,0,h=>by
  have g:=Am k e a f m hm d 1 (by omega);exact fun rest X hP hN=>aX (N6 k e a f m (by omega) rest X hP hN) (g rest X hP hN)
 |d+1,i+1,h=>by
  have g:=Am k e a f m hm d (i+1+1) (by omega);exact fun rest X hP hN=>aX (QN k e a f m i (by omega) hm rest X hP hN) (g rest X hP hN)
noncomputable def ku(k:Nat)(e:Int)(a:Nat)(f:Int)(m:Nat)(hm:m<10):dJ Pg:=
 ⟨172,b6 Pg 6 19,Al k e a f m 0,fun _=>[], .exit 4,K3 k e a f m,fun _=>[],fun rest X hP hN=>(Am k e a f m hm m 0 (by omega) rest X hP hN).aw⟩
def cD:List UInt8:=[102,110,32,109,97,105,110,40,41,58,32,105,110,116,32,123,32,108,101,116,32,97,58,32,97,114,114,91]
def gZ:List UInt8:=[93,59,32,114,101,116,117,114,110,32,108,101,110,40,97,41,59,32,125]
def hD:List UInt8:=[41,32,123,32,125,32,102,110,32,109,97,105,110,40,41,58,32,105,110,116,32,123,32,114,101,116,117,114,110,32,48,59,32,125]
def oD(a:Nat):List UInt8:=cD ++fL a ++gZ
def oE(m:Nat):List UInt8:=fg ++i6 m ++hD
theorem bq(a:Nat):(fL a).length≤3:=by
 unfold fL;split
 ·simp
 ·split<;>simp
section
variable{u c m0 k a m:Nat}(hu:u<65536)(hc:c<65536)(hm0:m0<256)(hk:250+u % 10=k)(ha:c % 300=a)(hm:m0 % 10=m)(k1:k<1000)(a1:a<300)(m1:m<10){P1 P2 P3:D}{x1 y1 x2 y2 x3 y3:List D}{q1 q2 q3:Int}
include hu hc hm0 hk ha hm k1 a1 m1
section
variable(hb1:decide ((k:Int)≤255)=true)
include hb1
theorem K5(hb2:decide ((1:Int)≤(a:Int))=false)(hb3:decide ((m:Int)≤6)=true)(h1:ax Pg 9 [.str (iU k)] [.agg [P1], .agg [.ro x1, .ro y1], .int .i64 q1, .int .i64 0])(h2:ax Pg 9 [.str (oD a)] [.agg [P2], .agg [.ro x2, .ro y2], .int .i64 q2, .int .i64 1])(h3:ax Pg 9 [.str (oE m)] [.agg [P3], .agg [.ro x3, .ro y3], .int .i64 q3, .int .i64 0]):ax Pg 6 [.int .u16 (u:Int), .int .u16 (c:Int), .int .u8 (m0:Int)] [.bool true]:=
 qV {loops:=fun g q=>if g=6 then (if q=6 then some (ql c m0 k k1)else if q=13 then some (qm m0 k 0 a a1)else if q=19 then some (ku k 0 a 1 m m1)else none)else none,hint:=qT 6 [(26, .call 8 _ _ eS),(29,aJ Pg .u16 ((u:Int).tmod 10) (((u % 10:Nat):Int)) (by rw[Int.tmod_eq_emod_of_nonneg (by omega)];omega)),(30,aJ Pg .i64 (IntKind.i64.wrap ((u % 10:Nat):Int)) (((u % 10:Nat):Int)) (by rw[IntWalk.i64_in _ (by omega)];try omega)),(31,aJ Pg .i64 (IntKind.i64.wrap (250+((u % 10:Nat):Int))) ((k:Int)) (by rw[IntWalk.i64_in _ (by omega)];omega)),(53, .cat (eH ++f4 k) cG (by rw[cB];simp only[List.length_append,ce,eH,cG,List.length_cons,List.length_nil];omega)),(54, .call 9 _ _ h1),(60,aJ Pg .i64 (IntKind.i64.wrap (c:Int)) ((c:Int)) (by rw[IntWalk.i64_in _ (by omega)];try omega)),(61,aJ Pg .i64 ((c:Int).tmod 300) ((a:Int)) (by rw[Int.tmod_eq_emod_of_nonneg (by omega)];omega)),(63,aJ Pg .i64 (IntKind.i64.wrap ((a:Int).tdiv 100)) (((a/100:Nat):Int)) (by rw[Int.tdiv_eq_ediv_of_nonneg (by omega),IntWalk.i64_in _ (by omega)];omega)),(64,aJ Pg .i64 (IntKind.i64.wrap (48+((a/100:Nat):Int))) (((48+a/100:Nat):Int)) (by rw[IntWalk.i64_in _ (by omega)];try omega)),(65,aJ Pg .u8 (IntKind.u8.wrap ((48+a/100:Nat):Int)) (((48+a/100:Nat):Int)) (by rw[IntWalk.u8_in _ (by omega)])),(67,aJ Pg .i64 (IntKind.i64.wrap ((a:Int).tdiv 10)) (((a/10:Nat):Int)) (by rw[Int.tdiv_eq_ediv_of_nonneg (by omega),IntWalk.i64_in _ (by omega)];omega)),(68,aJ Pg .i64 (((a/10:Nat):Int).tmod 10) (((a/10 % 10:Nat):Int)) (by rw[Int.tmod_eq_emod_of_nonneg (by omega)];omega)),(69,aJ Pg .i64 (IntKind.i64.wrap (48+((a/10 % 10:Nat):Int))) (((48+a/10 % 10:Nat):Int)) (by rw[IntWalk.i64_in _ (by omega)];try omega)),(70,aJ Pg .u8 (IntKind.u8.wrap ((48+a/10 % 10:Nat):Int)) (((48+a/10 % 10:Nat):Int)) (by rw[IntWalk.u8_in _ (by omega)])),(72,aJ Pg .i64 ((a:Int).tmod 10) (((a % 10:Nat):Int)) (by rw[Int.tmod_eq_emod_of_nonneg (by omega)];omega)),(73,aJ Pg .i64 (IntKind.i64.wrap (48+((a % 10:Nat):Int))) (((48+a % 10:Nat):Int)) (by rw[IntWalk.i64_in _ (by omega)];try omega)),(74,aJ Pg .u8 (IntKind.u8.wrap ((48+a % 10:Nat):Int)) (((48+a % 10:Nat):Int)) (by rw[IntWalk.u8_in _ (by omega)])),(89, .cat cD (fL a) (by have:=bq a;simp only[cD,List.length_cons,List.length_nil];omega)),(90, .cat (cD ++fL a) gZ (by have:=bq a;simp only[cD,gZ,List.length_append,List.length_cons,List.length_nil];omega)),(91, .call 9 _ _ h2),(97,aJ Pg .i64 (IntKind.i64.wrap (m0:Int)) ((m0:Int)) (by rw[IntWalk.i64_in _ (by omega)];try omega)),(98,aJ Pg .i64 ((m0:Int).tmod 10) ((m:Int)) (by rw[Int.tmod_eq_emod_of_nonneg (by omega)];omega)),(119, .cat (fg ++i6 m) hD (by have:=cM m;simp only[fg,hD,List.length_append,List.length_cons,List.length_nil];omega)),(120, .call 9 _ _ h3),(128,qB hb1),(142,qB hb2),(161,qB hb3)]} 709297
theorem K6(hb2:decide ((1:Int)≤(a:Int))=false)(hb3:decide ((m:Int)≤6)=false)(h1:ax Pg 9 [.str (iU k)] [.agg [P1], .agg [.ro x1, .ro y1], .int .i64 q1, .int .i64 0])(h2:ax Pg 9 [.str (oD a)] [.agg [P2], .agg [.ro x2, .ro y2], .int .i64 q2, .int .i64 1])(h3:ax Pg 9 [.str (oE m)] [.agg [P3], .agg [.ro x3, .ro y3], .int .i64 q3, .int .i64 9]):ax Pg 6 [.int .u16 (u:Int), .int .u16 (c:Int), .int .u8 (m0:Int)] [.bool true]:=
 qV {loops:=fun g q=>if g=6 then (if q=6 then some (ql c m0 k k1)else if q=13 then some (qm m0 k 0 a a1)else if q=19 then some (ku k 0 a 1 m m1)else none)else none,hint:=qT 6 [(26, .call 8 _ _ eS),(29,aJ Pg .u16 ((u:Int).tmod 10) (((u % 10:Nat):Int)) (by rw[Int.tmod_eq_emod_of_nonneg (by omega)];omega)),(30,aJ Pg .i64 (IntKind.i64.wrap ((u % 10:Nat):Int)) (((u % 10:Nat):Int)) (by rw[IntWalk.i64_in _ (by omega)];try omega)),(31,aJ Pg .i64 (IntKind.i64.wrap (250+((u % 10:Nat):Int))) ((k:Int)) (by rw[IntWalk.i64_in _ (by omega)];omega)),(53, .cat (eH ++f4 k) cG (by rw[cB];simp only[List.length_append,ce,eH,cG,List.length_cons,List.length_nil];omega)),(54, .call 9 _ _ h1),(60,aJ Pg .i64 (IntKind.i64.wrap (c:Int)) ((c:Int)) (by rw[IntWalk.i64_in _ (by omega)];try omega)),(61,aJ Pg .i64 ((c:Int).tmod 300) ((a:Int)) (by rw[Int.tmod_eq_emod_of_nonneg (by omega)];omega)),(63,aJ Pg .i64 (IntKind.i64.wrap ((a:Int).tdiv 100)) (((a/100:Nat):Int)) (by rw[Int.tdiv_eq_ediv_of_nonneg (by omega),IntWalk.i64_in _ (by omega)];omega)),(64,aJ Pg .i64 (IntKind.i64.wrap (48+((a/100:Nat):Int))) (((48+a/100:Nat):Int)) (by rw[IntWalk.i64_in _ (by omega)];try omega)),(65,aJ Pg .u8 (IntKind.u8.wrap ((48+a/100:Nat):Int)) (((48+a/100:Nat):Int)) (by rw[IntWalk.u8_in _ (by omega)])),(67,aJ Pg .i64 (IntKind.i64.wrap ((a:Int).tdiv 10)) (((a/10:Nat):Int)) (by rw[Int.tdiv_eq_ediv_of_nonneg (by omega),IntWalk.i64_in _ (by omega)];omega)),(68,aJ Pg .i64 (((a/10:Nat):Int).tmod 10) (((a/10 % 10:Nat):Int)) (by rw[Int.tmod_eq_emod_of_nonneg (by omega)];omega)),(69,aJ Pg .i64 (IntKind.i64.wrap (48+((a/10 % 10:Nat):Int))) (((48+a/10 % 10:Nat):Int)) (by rw[IntWalk.i64_in _ (by omega)];try omega)),(70,aJ Pg .u8 (IntKind.u8.wrap ((48+a/10 % 10:Nat):Int)) (((48+a/10 % 10:Nat):Int)) (by rw[IntWalk.u8_in _ (by omega)])),(72,aJ Pg .i64 ((a:Int).tmod 10) (((a % 10:Nat):Int)) (by rw[Int.tmod_eq_emod_of_nonneg (by omega)];omega)),(73,aJ Pg .i64 (IntKind.i64.wrap (48+((a % 10:Nat):Int))) (((48+a % 10:Nat):Int)) (by rw[IntWalk.i64_in _ (by omega)];try omega)),(74,aJ Pg .u8 (IntKind.u8.wrap ((48+a % 10:Nat):Int)) (((48+a % 10:Nat):Int)) (by rw[IntWalk.u8_in _ (by omega)])),(89, .cat cD (fL a) (by have:=bq a;simp only[cD,List.length_cons,List.length_nil];omega)),(90, .cat (cD ++fL a) gZ (by have:=bq a;simp only[cD,gZ,List.length_append,List.length_cons,List.length_nil];omega)),(91, .call 9 _ _ h2),(97,aJ Pg .i64 (IntKind.i64.wrap (m0:Int)) ((m0:Int)) (by rw[IntWalk.i64_in _ (by omega)];try omega)),(98,aJ Pg .i64 ((m0:Int).tmod 10) ((m:Int)) (by rw[Int.tmod_eq_emod_of_nonneg (by omega)];omega)),(119, .cat (fg ++i6 m) hD (by have:=cM m;simp only[fg,hD,List.length_append,List.length_cons,List.length_nil];omega)),(120, .call 9 _ _ h3),(128,qB hb1),(142,qB hb2),(161,qB hb3)]} 709297
theorem K7(hb2:decide ((1:Int)≤(a:Int))=true)(hb3:decide ((m:Int)≤6)=true)(hb4:decide ((a:Int)≤256)=true)(h1:ax Pg 9 [.str (iU k)] [.agg [P1], .agg [.ro x1, .ro y1], .int .i64 q1, .int .i64 0])(h2:ax Pg 9 [.str (oD a)] [.agg [P2], .agg [.ro x2, .ro y2], .int .i64 q2, .int .i64 0])(h3:ax Pg 9 [.str (oE m)] [.agg [P3], .agg [.ro x3, .ro y3], .int .i64 q3, .int .i64 0]):ax Pg 6 [.int .u16 (u:Int), .int .u16 (c:Int), .int .u8 (m0:Int)] [.bool true]:=
 qV {loops:=fun g q=>if g=6 then (if q=6 then some (ql c m0 k k1)else if q=13 then some (qm m0 k 0 a a1)else if q=19 then some (ku k 0 a 0 m m1)else none)else none,hint:=qT 6 [(26, .call 8 _ _ eS),(29,aJ Pg .u16 ((u:Int).tmod 10) (((u % 10:Nat):Int)) (by rw[Int.tmod_eq_emod_of_nonneg (by omega)];omega)),(30,aJ Pg .i64 (IntKind.i64.wrap ((u % 10:Nat):Int)) (((u % 10:Nat):Int)) (by rw[IntWalk.i64_in _ (by omega)];try omega)),(31,aJ Pg .i64 (IntKind.i64.wrap (250+((u % 10:Nat):Int))) ((k:Int)) (by rw[IntWalk.i64_in _ (by omega)];omega)),(53, .cat (eH ++f4 k) cG (by rw[cB];simp only[List.length_append,ce,eH,cG,List.length_cons,List.length_nil];omega)),(54, .call 9 _ _ h1),(60,aJ Pg .i64 (IntKind.i64.wrap (c:Int)) ((c:Int)) (by rw[IntWalk.i64_in _ (by omega)];try omega)),(61,aJ Pg .i64 ((c:Int).tmod 300) ((a:Int)) (by rw[Int.tmod_eq_emod_of_nonneg (by omega)];omega)),(63,aJ Pg .i64 (IntKind.i64.wrap ((a:Int).tdiv 100)) (((a/100:Nat):Int)) (by rw[Int.tdiv_eq_ediv_of_nonneg (by omega),IntWalk.i64_in _ (by omega)];omega)),(64,aJ Pg .i64 (IntKind.i64.wrap (48+((a/100:Nat):Int))) (((48+a/100:Nat):Int)) (by rw[IntWalk.i64_in _ (by omega)];try omega)),(65,aJ Pg .u8 (IntKind.u8.wrap ((48+a/100:Nat):Int)) (((48+a/100:Nat):Int)) (by rw[IntWalk.u8_in _ (by omega)])),(67,aJ Pg .i64 (IntKind.i64.wrap ((a:Int).tdiv 10)) (((a/10:Nat):Int)) (by rw[Int.tdiv_eq_ediv_of_nonneg (by omega),IntWalk.i64_in _ (by omega)];omega)),(68,aJ Pg .i64 (((a/10:Nat):Int).tmod 10) (((a/10 % 10:Nat):Int)) (by rw[Int.tmod_eq_emod_of_nonneg (by omega)];omega)),(69,aJ Pg .i64 (IntKind.i64.wrap (48+((a/10 % 10:Nat):Int))) (((48+a/10 % 10:Nat):Int)) (by rw[IntWalk.i64_in _ (by omega)];try omega)),(70,aJ Pg .u8 (IntKind.u8.wrap ((48+a/10 % 10:Nat):Int)) (((48+a/10 % 10:Nat):Int)) (by rw[IntWalk.u8_in _ (by omega)])),(72,aJ Pg .i64 ((a:Int).tmod 10) (((a % 10:Nat):Int)) (by rw[Int.tmod_eq_emod_of_nonneg (by omega)];omega)),(73,aJ Pg .i64 (IntKind.i64.wrap (48+((a % 10:Nat):Int))) (((48+a % 10:Nat):Int)) (by rw[IntWalk.i64_in _ (by omega)];try omega)),(74,aJ Pg .u8 (IntKind.u8.wrap ((48+a % 10:Nat):Int)) (((48+a % 10:Nat):Int)) (by rw[IntWalk.u8_in _ (by omega)])),(89, .cat cD (fL a) (by have:=bq a;simp only[cD,List.length_cons,List.length_nil];omega)),(90, .cat (cD ++fL a) gZ (by have:=bq a;simp only[cD,gZ,List.length_append,List.length_cons,List.length_nil];omega)),(91, .call 9 _ _ h2),(97,aJ Pg .i64 (IntKind.i64.wrap (m0:Int)) ((m0:Int)) (by rw[IntWalk.i64_in _ (by omega)];try omega)),(98,aJ Pg .i64 ((m0:Int).tmod 10) ((m:Int)) (by rw[Int.tmod_eq_emod_of_nonneg (by omega)];omega)),(119, .cat (fg ++i6 m) hD (by have:=cM m;simp only[fg,hD,List.length_append,List.length_cons,List.length_nil];omega)),(120, .call 9 _ _ h3),(128,qB hb1),(142,qB hb2),(145,qB hb4),(161,qB hb3)]} 709297
theorem K8(hb2:decide ((1:Int)≤(a:Int))=true)(hb3:decide ((m:Int)≤6)=false)(hb4:decide ((a:Int)≤256)=true)(h1:ax Pg 9 [.str (iU k)] [.agg [P1], .agg [.ro x1, .ro y1], .int .i64 q1, .int .i64 0])(h2:ax Pg 9 [.str (oD a)] [.agg [P2], .agg [.ro x2, .ro y2], .int .i64 q2, .int .i64 0])(h3:ax Pg 9 [.str (oE m)] [.agg [P3], .agg [.ro x3, .ro y3], .int .i64 q3, .int .i64 9]):ax Pg 6 [.int .u16 (u:Int), .int .u16 (c:Int), .int .u8 (m0:Int)] [.bool true]:=
 qV {loops:=fun g q=>if g=6 then (if q=6 then some (ql c m0 k k1)else if q=13 then some (qm m0 k 0 a a1)else if q=19 then some (ku k 0 a 0 m m1)else none)else none,hint:=qT 6 [(26, .call 8 _ _ eS),(29,aJ Pg .u16 ((u:Int).tmod 10) (((u % 10:Nat):Int)) (by rw[Int.tmod_eq_emod_of_nonneg (by omega)];omega)),(30,aJ Pg .i64 (IntKind.i64.wrap ((u % 10:Nat):Int)) (((u % 10:Nat):Int)) (by rw[IntWalk.i64_in _ (by omega)];try omega)),(31,aJ Pg .i64 (IntKind.i64.wrap (250+((u % 10:Nat):Int))) ((k:Int)) (by rw[IntWalk.i64_in _ (by omega)];omega)),(53, .cat (eH ++f4 k) cG (by rw[cB];simp only[List.length_append,ce,eH,cG,List.length_cons,List.length_nil];omega)),(54, .call 9 _ _ h1),(60,aJ Pg .i64 (IntKind.i64.wrap (c:Int)) ((c:Int)) (by rw[IntWalk.i64_in _ (by omega)];try omega)),(61,aJ Pg .i64 ((c:Int).tmod 300) ((a:Int)) (by rw[Int.tmod_eq_emod_of_nonneg (by omega)];omega)),(63,aJ Pg .i64 (IntKind.i64.wrap ((a:Int).tdiv 100)) (((a/100:Nat):Int)) (by rw[Int.tdiv_eq_ediv_of_nonneg (by omega),IntWalk.i64_in _ (by omega)];omega)),(64,aJ Pg .i64 (IntKind.i64.wrap (48+((a/100:Nat):Int))) (((48+a/100:Nat):Int)) (by rw[IntWalk.i64_in _ (by omega)];try omega)),(65,aJ Pg .u8 (IntKind.u8.wrap ((48+a/100:Nat):Int)) (((48+a/100:Nat):Int)) (by rw[IntWalk.u8_in _ (by omega)])),(67,aJ Pg .i64 (IntKind.i64.wrap ((a:Int).tdiv 10)) (((a/10:Nat):Int)) (by rw[Int.tdiv_eq_ediv_of_nonneg (by omega),IntWalk.i64_in _ (by omega)];omega)),(68,aJ Pg .i64 (((a/10:Nat):Int).tmod 10) (((a/10 % 10:Nat):Int)) (by rw[Int.tmod_eq_emod_of_nonneg (by omega)];omega)),(69,aJ Pg .i64 (IntKind.i64.wrap (48+((a/10 % 10:Nat):Int))) (((48+a/10 % 10:Nat):Int)) (by rw[IntWalk.i64_in _ (by omega)];try omega)),(70,aJ Pg .u8 (IntKind.u8.wrap ((48+a/10 % 10:Nat):Int)) (((48+a/10 % 10:Nat):Int)) (by rw[IntWalk.u8_in _ (by omega)])),(72,aJ Pg .i64 ((a:Int).tmod 10) (((a % 10:Nat):Int)) (by rw[Int.tmod_eq_emod_of_nonneg (by omega)];omega)),(73,aJ Pg .i64 (IntKind.i64.wrap (48+((a % 10:Nat):Int))) (((48+a % 10:Nat):Int)) (by rw[IntWalk.i64_in _ (by omega)];try omega)),(74,aJ Pg .u8 (IntKind.u8.wrap ((48+a % 10:Nat):Int)) (((48+a % 10:Nat):Int)) (by rw[IntWalk.u8_in _ (by omega)])),(89, .cat cD (fL a) (by have:=bq a;simp only[cD,List.length_cons,List.length_nil];omega)),(90, .cat (cD ++fL a) gZ (by have:=bq a;simp only[cD,gZ,List.length_append,List.length_cons,List.length_nil];omega)),(91, .call 9 _ _ h2),(97,aJ Pg .i64 (IntKind.i64.wrap (m0:Int)) ((m0:Int)) (by rw[IntWalk.i64_in _ (by omega)];try omega)),(98,aJ Pg .i64 ((m0:Int).tmod 10) ((m:Int)) (by rw[Int.tmod_eq_emod_of_nonneg (by omega)];omega)),(119, .cat (fg ++i6 m) hD (by have:=cM m;simp only[fg,hD,List.length_append,List.length_cons,List.length_nil];omega)),(120, .call 9 _ _ h3),(128,qB hb1),(142,qB hb2),(145,qB hb4),(161,qB hb3)]} 709297
theorem K9(hb2:decide ((1:Int)≤(a:Int))=true)(hb3:decide ((m:Int)≤6)=true)(hb4:decide ((a:Int)≤256)=false)(h1:ax Pg 9 [.str (iU k)] [.agg [P1], .agg [.ro x1, .ro y1], .int .i64 q1, .int .i64 0])(h2:ax Pg 9 [.str (oD a)] [.agg [P2], .agg [.ro x2, .ro y2], .int .i64 q2, .int .i64 1])(h3:ax Pg 9 [.str (oE m)] [.agg [P3], .agg [.ro x3, .ro y3], .int .i64 q3, .int .i64 0]):ax Pg 6 [.int .u16 (u:Int), .int .u16 (c:Int), .int .u8 (m0:Int)] [.bool true]:=
 qV {loops:=fun g q=>if g=6 then (if q=6 then some (ql c m0 k k1)else if q=13 then some (qm m0 k 0 a a1)else if q=19 then some (ku k 0 a 1 m m1)else none)else none,hint:=qT 6 [(26, .call 8 _ _ eS),(29,aJ Pg .u16 ((u:Int).tmod 10) (((u % 10:Nat):Int)) (by rw[Int.tmod_eq_emod_of_nonneg (by omega)];omega)),(30,aJ Pg .i64 (IntKind.i64.wrap ((u % 10:Nat):Int)) (((u % 10:Nat):Int)) (by rw[IntWalk.i64_in _ (by omega)];try omega)),(31,aJ Pg .i64 (IntKind.i64.wrap (250+((u % 10:Nat):Int))) ((k:Int)) (by rw[IntWalk.i64_in _ (by omega)];omega)),(53, .cat (eH ++f4 k) cG (by rw[cB];simp only[List.length_append,ce,eH,cG,List.length_cons,List.length_nil];omega)),(54, .call 9 _ _ h1),(60,aJ Pg .i64 (IntKind.i64.wrap (c:Int)) ((c:Int)) (by rw[IntWalk.i64_in _ (by omega)];try omega)),(61,aJ Pg .i64 ((c:Int).tmod 300) ((a:Int)) (by rw[Int.tmod_eq_emod_of_nonneg (by omega)];omega)),(63,aJ Pg .i64 (IntKind.i64.wrap ((a:Int).tdiv 100)) (((a/100:Nat):Int)) (by rw[Int.tdiv_eq_ediv_of_nonneg (by omega),IntWalk.i64_in _ (by omega)];omega)),(64,aJ Pg .i64 (IntKind.i64.wrap (48+((a/100:Nat):Int))) (((48+a/100:Nat):Int)) (by rw[IntWalk.i64_in _ (by omega)];try omega)),(65,aJ Pg .u8 (IntKind.u8.wrap ((48+a/100:Nat):Int)) (((48+a/100:Nat):Int)) (by rw[IntWalk.u8_in _ (by omega)])),(67,aJ Pg .i64 (IntKind.i64.wrap ((a:Int).tdiv 10)) (((a/10:Nat):Int)) (by rw[Int.tdiv_eq_ediv_of_nonneg (by omega),IntWalk.i64_in _ (by omega)];omega)),(68,aJ Pg .i64 (((a/10:Nat):Int).tmod 10) (((a/10 % 10:Nat):Int)) (by rw[Int.tmod_eq_emod_of_nonneg (by omega)];omega)),(69,aJ Pg .i64 (IntKind.i64.wrap (48+((a/10 % 10:Nat):Int))) (((48+a/10 % 10:Nat):Int)) (by rw[IntWalk.i64_in _ (by omega)];try omega)),(70,aJ Pg .u8 (IntKind.u8.wrap ((48+a/10 % 10:Nat):Int)) (((48+a/10 % 10:Nat):Int)) (by rw[IntWalk.u8_in _ (by omega)])),(72,aJ Pg .i64 ((a:Int).tmod 10) (((a % 10:Nat):Int)) (by rw[Int.tmod_eq_emod_of_nonneg (by omega)];omega)),(73,aJ Pg .i64 (IntKind.i64.wrap (48+((a % 10:Nat):Int))) (((48+a % 10:Nat):Int)) (by rw[IntWalk.i64_in _ (by omega)];try omega)),(74,aJ Pg .u8 (IntKind.u8.wrap ((48+a % 10:Nat):Int)) (((48+a % 10:Nat):Int)) (by rw[IntWalk.u8_in _ (by omega)])),(89, .cat cD (fL a) (by have:=bq a;simp only[cD,List.length_cons,List.length_nil];omega)),(90, .cat (cD ++fL a) gZ (by have:=bq a;simp only[cD,gZ,List.length_append,List.length_cons,List.length_nil];omega)),(91, .call 9 _ _ h2),(97,aJ Pg .i64 (IntKind.i64.wrap (m0:Int)) ((m0:Int)) (by rw[IntWalk.i64_in _ (by omega)];try omega)),(98,aJ Pg .i64 ((m0:Int).tmod 10) ((m:Int)) (by rw[Int.tmod_eq_emod_of_nonneg (by omega)];omega)),(119, .cat (fg ++i6 m) hD (by have:=cM m;simp only[fg,hD,List.length_append,List.length_cons,List.length_nil];omega)),(120, .call 9 _ _ h3),(128,qB hb1),(142,qB hb2),(145,qB hb4),(161,qB hb3)]} 709297
theorem La(hb2:decide ((1:Int)≤(a:Int))=true)(hb3:decide ((m:Int)≤6)=false)(hb4:decide ((a:Int)≤256)=false)(h1:ax Pg 9 [.str (iU k)] [.agg [P1], .agg [.ro x1, .ro y1], .int .i64 q1, .int .i64 0])(h2:ax Pg 9 [.str (oD a)] [.agg [P2], .agg [.ro x2, .ro y2], .int .i64 q2, .int .i64 1])(h3:ax Pg 9 [.str (oE m)] [.agg [P3], .agg [.ro x3, .ro y3], .int .i64 q3, .int .i64 9]):ax Pg 6 [.int .u16 (u:Int), .int .u16 (c:Int), .int .u8 (m0:Int)] [.bool true]:=
 qV {loops:=fun g q=>if g=6 then (if q=6 then some (ql c m0 k k1)else if q=13 then some (qm m0 k 0 a a1)else if q=19 then some (ku k 0 a 1 m m1)else none)else none,hint:=qT 6 [(26, .call 8 _ _ eS),(29,aJ Pg .u16 ((u:Int).tmod 10) (((u % 10:Nat):Int)) (by rw[Int.tmod_eq_emod_of_nonneg (by omega)];omega)),(30,aJ Pg .i64 (IntKind.i64.wrap ((u % 10:Nat):Int)) (((u % 10:Nat):Int)) (by rw[IntWalk.i64_in _ (by omega)];try omega)),(31,aJ Pg .i64 (IntKind.i64.wrap (250+((u % 10:Nat):Int))) ((k:Int)) (by rw[IntWalk.i64_in _ (by omega)];omega)),(53, .cat (eH ++f4 k) cG (by rw[cB];simp only[List.length_append,ce,eH,cG,List.length_cons,List.length_nil];omega)),(54, .call 9 _ _ h1),(60,aJ Pg .i64 (IntKind.i64.wrap (c:Int)) ((c:Int)) (by rw[IntWalk.i64_in _ (by omega)];try omega)),(61,aJ Pg .i64 ((c:Int).tmod 300) ((a:Int)) (by rw[Int.tmod_eq_emod_of_nonneg (by omega)];omega)),(63,aJ Pg .i64 (IntKind.i64.wrap ((a:Int).tdiv 100)) (((a/100:Nat):Int)) (by rw[Int.tdiv_eq_ediv_of_nonneg (by omega),IntWalk.i64_in _ (by omega)];omega)),(64,aJ Pg .i64 (IntKind.i64.wrap (48+((a/100:Nat):Int))) (((48+a/100:Nat):Int)) (by rw[IntWalk.i64_in _ (by omega)];try omega)),(65,aJ Pg .u8 (IntKind.u8.wrap ((48+a/100:Nat):Int)) (((48+a/100:Nat):Int)) (by rw[IntWalk.u8_in _ (by omega)])),(67,aJ Pg .i64 (IntKind.i64.wrap ((a:Int).tdiv 10)) (((a/10:Nat):Int)) (by rw[Int.tdiv_eq_ediv_of_nonneg (by omega),IntWalk.i64_in _ (by omega)];omega)),(68,aJ Pg .i64 (((a/10:Nat):Int).tmod 10) (((a/10 % 10:Nat):Int)) (by rw[Int.tmod_eq_emod_of_nonneg (by omega)];omega)),(69,aJ Pg .i64 (IntKind.i64.wrap (48+((a/10 % 10:Nat):Int))) (((48+a/10 % 10:Nat):Int)) (by rw[IntWalk.i64_in _ (by omega)];try omega)),(70,aJ Pg .u8 (IntKind.u8.wrap ((48+a/10 % 10:Nat):Int)) (((48+a/10 % 10:Nat):Int)) (by rw[IntWalk.u8_in _ (by omega)])),(72,aJ Pg .i64 ((a:Int).tmod 10) (((a % 10:Nat):Int)) (by rw[Int.tmod_eq_emod_of_nonneg (by omega)];omega)),(73,aJ Pg .i64 (IntKind.i64.wrap (48+((a % 10:Nat):Int))) (((48+a % 10:Nat):Int)) (by rw[IntWalk.i64_in _ (by omega)];try omega)),(74,aJ Pg .u8 (IntKind.u8.wrap ((48+a % 10:Nat):Int)) (((48+a % 10:Nat):Int)) (by rw[IntWalk.u8_in _ (by omega)])),(89, .cat cD (fL a) (by have:=bq a;simp only[cD,List.length_cons,List.length_nil];omega)),(90, .cat (cD ++fL a) gZ (by have:=bq a;simp only[cD,gZ,List.length_append,List.length_cons,List.length_nil];omega)),(91, .call 9 _ _ h2),(97,aJ Pg .i64 (IntKind.i64.wrap (m0:Int)) ((m0:Int)) (by rw[IntWalk.i64_in _ (by omega)];try omega)),(98,aJ Pg .i64 ((m0:Int).tmod 10) ((m:Int)) (by rw[Int.tmod_eq_emod_of_nonneg (by omega)];omega)),(119, .cat (fg ++i6 m) hD (by have:=cM m;simp only[fg,hD,List.length_append,List.length_cons,List.length_nil];omega)),(120, .call 9 _ _ h3),(128,qB hb1),(142,qB hb2),(145,qB hb4),(161,qB hb3)]} 709297
end
section
variable(hb1:decide ((k:Int)≤255)=false)
include hb1
theorem Lb(hb2:decide ((1:Int)≤(a:Int))=false)(hb3:decide ((m:Int)≤6)=true)(h1:ax Pg 9 [.str (iU k)] [.agg [P1], .agg [.ro x1, .ro y1], .int .i64 q1, .int .i64 2])(h2:ax Pg 9 [.str (oD a)] [.agg [P2], .agg [.ro x2, .ro y2], .int .i64 q2, .int .i64 1])(h3:ax Pg 9 [.str (oE m)] [.agg [P3], .agg [.ro x3, .ro y3], .int .i64 q3, .int .i64 0]):ax Pg 6 [.int .u16 (u:Int), .int .u16 (c:Int), .int .u8 (m0:Int)] [.bool true]:=
 qV {loops:=fun g q=>if g=6 then (if q=6 then some (ql c m0 k k1)else if q=13 then some (qm m0 k 2 a a1)else if q=19 then some (ku k 2 a 1 m m1)else none)else none,hint:=qT 6 [(26, .call 8 _ _ eS),(29,aJ Pg .u16 ((u:Int).tmod 10) (((u % 10:Nat):Int)) (by rw[Int.tmod_eq_emod_of_nonneg (by omega)];omega)),(30,aJ Pg .i64 (IntKind.i64.wrap ((u % 10:Nat):Int)) (((u % 10:Nat):Int)) (by rw[IntWalk.i64_in _ (by omega)];try omega)),(31,aJ Pg .i64 (IntKind.i64.wrap (250+((u % 10:Nat):Int))) ((k:Int)) (by rw[IntWalk.i64_in _ (by omega)];omega)),(53, .cat (eH ++f4 k) cG (by rw[cB];simp only[List.length_append,ce,eH,cG,List.length_cons,List.length_nil];omega)),(54, .call 9 _ _ h1),(60,aJ Pg .i64 (IntKind.i64.wrap (c:Int)) ((c:Int)) (by rw[IntWalk.i64_in _ (by omega)];try omega)),(61,aJ Pg .i64 ((c:Int).tmod 300) ((a:Int)) (by rw[Int.tmod_eq_emod_of_nonneg (by omega)];omega)),(63,aJ Pg .i64 (IntKind.i64.wrap ((a:Int).tdiv 100)) (((a/100:Nat):Int)) (by rw[Int.tdiv_eq_ediv_of_nonneg (by omega),IntWalk.i64_in _ (by omega)];omega)),(64,aJ Pg .i64 (IntKind.i64.wrap (48+((a/100:Nat):Int))) (((48+a/100:Nat):Int)) (by rw[IntWalk.i64_in _ (by omega)];try omega)),(65,aJ Pg .u8 (IntKind.u8.wrap ((48+a/100:Nat):Int)) (((48+a/100:Nat):Int)) (by rw[IntWalk.u8_in _ (by omega)])),(67,aJ Pg .i64 (IntKind.i64.wrap ((a:Int).tdiv 10)) (((a/10:Nat):Int)) (by rw[Int.tdiv_eq_ediv_of_nonneg (by omega),IntWalk.i64_in _ (by omega)];omega)),(68,aJ Pg .i64 (((a/10:Nat):Int).tmod 10) (((a/10 % 10:Nat):Int)) (by rw[Int.tmod_eq_emod_of_nonneg (by omega)];omega)),(69,aJ Pg .i64 (IntKind.i64.wrap (48+((a/10 % 10:Nat):Int))) (((48+a/10 % 10:Nat):Int)) (by rw[IntWalk.i64_in _ (by omega)];try omega)),(70,aJ Pg .u8 (IntKind.u8.wrap ((48+a/10 % 10:Nat):Int)) (((48+a/10 % 10:Nat):Int)) (by rw[IntWalk.u8_in _ (by omega)])),(72,aJ Pg .i64 ((a:Int).tmod 10) (((a % 10:Nat):Int)) (by rw[Int.tmod_eq_emod_of_nonneg (by omega)];omega)),(73,aJ Pg .i64 (IntKind.i64.wrap (48+((a % 10:Nat):Int))) (((48+a % 10:Nat):Int)) (by rw[IntWalk.i64_in _ (by omega)];try omega)),(74,aJ Pg .u8 (IntKind.u8.wrap ((48+a % 10:Nat):Int)) (((48+a % 10:Nat):Int)) (by rw[IntWalk.u8_in _ (by omega)])),(89, .cat cD (fL a) (by have:=bq a;simp only[cD,List.length_cons,List.length_nil];omega)),(90, .cat (cD ++fL a) gZ (by have:=bq a;simp only[cD,gZ,List.length_append,List.length_cons,List.length_nil];omega)),(91, .call 9 _ _ h2),(97,aJ Pg .i64 (IntKind.i64.wrap (m0:Int)) ((m0:Int)) (by rw[IntWalk.i64_in _ (by omega)];try omega)),(98,aJ Pg .i64 ((m0:Int).tmod 10) ((m:Int)) (by rw[Int.tmod_eq_emod_of_nonneg (by omega)];omega)),(119, .cat (fg ++i6 m) hD (by have:=cM m;simp only[fg,hD,List.length_append,List.length_cons,List.length_nil];omega)),(120, .call 9 _ _ h3),(128,qB hb1),(142,qB hb2),(161,qB hb3)]} 709297
theorem Lc(hb2:decide ((1:Int)≤(a:Int))=false)(hb3:decide ((m:Int)≤6)=false)(h1:ax Pg 9 [.str (iU k)] [.agg [P1], .agg [.ro x1, .ro y1], .int .i64 q1, .int .i64 2])(h2:ax Pg 9 [.str (oD a)] [.agg [P2], .agg [.ro x2, .ro y2], .int .i64 q2, .int .i64 1])(h3:ax Pg 9 [.str (oE m)] [.agg [P3], .agg [.ro x3, .ro y3], .int .i64 q3, .int .i64 9]):ax Pg 6 [.int .u16 (u:Int), .int .u16 (c:Int), .int .u8 (m0:Int)] [.bool true]:=
 qV {loops:=fun g q=>if g=6 then (if q=6 then some (ql c m0 k k1)else if q=13 then some (qm m0 k 2 a a1)else if q=19 then some (ku k 2 a 1 m m1)else none)else none,hint:=qT 6 [(26, .call 8 _ _ eS),(29,aJ Pg .u16 ((u:Int).tmod 10) (((u % 10:Nat):Int)) (by rw[Int.tmod_eq_emod_of_nonneg (by omega)];omega)),(30,aJ Pg .i64 (IntKind.i64.wrap ((u % 10:Nat):Int)) (((u % 10:Nat):Int)) (by rw[IntWalk.i64_in _ (by omega)];try omega)),(31,aJ Pg .i64 (IntKind.i64.wrap (250+((u % 10:Nat):Int))) ((k:Int)) (by rw[IntWalk.i64_in _ (by omega)];omega)),(53, .cat (eH ++f4 k) cG (by rw[cB];simp only[List.length_append,ce,eH,cG,List.length_cons,List.length_nil];omega)),(54, .call 9 _ _ h1),(60,aJ Pg .i64 (IntKind.i64.wrap (c:Int)) ((c:Int)) (by rw[IntWalk.i64_in _ (by omega)];try omega)),(61,aJ Pg .i64 ((c:Int).tmod 300) ((a:Int)) (by rw[Int.tmod_eq_emod_of_nonneg (by omega)];omega)),(63,aJ Pg .i64 (IntKind.i64.wrap ((a:Int).tdiv 100)) (((a/100:Nat):Int)) (by rw[Int.tdiv_eq_ediv_of_nonneg (by omega),IntWalk.i64_in _ (by omega)];omega)),(64,aJ Pg .i64 (IntKind.i64.wrap (48+((a/100:Nat):Int))) (((48+a/100:Nat):Int)) (by rw[IntWalk.i64_in _ (by omega)];try omega)),(65,aJ Pg .u8 (IntKind.u8.wrap ((48+a/100:Nat):Int)) (((48+a/100:Nat):Int)) (by rw[IntWalk.u8_in _ (by omega)])),(67,aJ Pg .i64 (IntKind.i64.wrap ((a:Int).tdiv 10)) (((a/10:Nat):Int)) (by rw[Int.tdiv_eq_ediv_of_nonneg (by omega),IntWalk.i64_in _ (by omega)];omega)),(68,aJ Pg .i64 (((a/10:Nat):Int).tmod 10) (((a/10 % 10:Nat):Int)) (by rw[Int.tmod_eq_emod_of_nonneg (by omega)];omega)),(69,aJ Pg .i64 (IntKind.i64.wrap (48+((a/10 % 10:Nat):Int))) (((48+a/10 % 10:Nat):Int)) (by rw[IntWalk.i64_in _ (by omega)];try omega)),(70,aJ Pg .u8 (IntKind.u8.wrap ((48+a/10 % 10:Nat):Int)) (((48+a/10 % 10:Nat):Int)) (by rw[IntWalk.u8_in _ (by omega)])),(72,aJ Pg .i64 ((a:Int).tmod 10) (((a % 10:Nat):Int)) (by rw[Int.tmod_eq_emod_of_nonneg (by omega)];omega)),(73,aJ Pg .i64 (IntKind.i64.wrap (48+((a % 10:Nat):Int))) (((48+a % 10:Nat):Int)) (by rw[IntWalk.i64_in _ (by omega)];try omega)),(74,aJ Pg .u8 (IntKind.u8.wrap ((48+a % 10:Nat):Int)) (((48+a % 10:Nat):Int)) (by rw[IntWalk.u8_in _ (by omega)])),(89, .cat cD (fL a) (by have:=bq a;simp only[cD,List.length_cons,List.length_nil];omega)),(90, .cat (cD ++fL a) gZ (by have:=bq a;simp only[cD,gZ,List.length_append,List.length_cons,List.length_nil];omega)),(91, .call 9 _ _ h2),(97,aJ Pg .i64 (IntKind.i64.wrap (m0:Int)) ((m0:Int)) (by rw[IntWalk.i64_in _ (by omega)];try omega)),(98,aJ Pg .i64 ((m0:Int).tmod 10) ((m:Int)) (by rw[Int.tmod_eq_emod_of_nonneg (by omega)];omega)),(119, .cat (fg ++i6 m) hD (by have:=cM m;simp only[fg,hD,List.length_append,List.length_cons,List.length_nil];omega)),(120, .call 9 _ _ h3),(128,qB hb1),(142,qB hb2),(161,qB hb3)]} 709297
theorem Ld(hb2:decide ((1:Int)≤(a:Int))=true)(hb3:decide ((m:Int)≤6)=true)(hb4:decide ((a:Int)≤256)=true)(h1:ax Pg 9 [.str (iU k)] [.agg [P1], .agg [.ro x1, .ro y1], .int .i64 q1, .int .i64 2])(h2:ax Pg 9 [.str (oD a)] [.agg [P2], .agg [.ro x2, .ro y2], .int .i64 q2, .int .i64 0])(h3:ax Pg 9 [.str (oE m)] [.agg [P3], .agg [.ro x3, .ro y3], .int .i64 q3, .int .i64 0]):ax Pg 6 [.int .u16 (u:Int), .int .u16 (c:Int), .int .u8 (m0:Int)] [.bool true]:=
 qV {loops:=fun g q=>if g=6 then (if q=6 then some (ql c m0 k k1)else if q=13 then some (qm m0 k 2 a a1)else if q=19 then some (ku k 2 a 0 m m1)else none)else none,hint:=qT 6 [(26, .call 8 _ _ eS),(29,aJ Pg .u16 ((u:Int).tmod 10) (((u % 10:Nat):Int)) (by rw[Int.tmod_eq_emod_of_nonneg (by omega)];omega)),(30,aJ Pg .i64 (IntKind.i64.wrap ((u % 10:Nat):Int)) (((u % 10:Nat):Int)) (by rw[IntWalk.i64_in _ (by omega)];try omega)),(31,aJ Pg .i64 (IntKind.i64.wrap (250+((u % 10:Nat):Int))) ((k:Int)) (by rw[IntWalk.i64_in _ (by omega)];omega)),(53, .cat (eH ++f4 k) cG (by rw[cB];simp only[List.length_append,ce,eH,cG,List.length_cons,List.length_nil];omega)),(54, .call 9 _ _ h1),(60,aJ Pg .i64 (IntKind.i64.wrap (c:Int)) ((c:Int)) (by rw[IntWalk.i64_in _ (by omega)];try omega)),(61,aJ Pg .i64 ((c:Int).tmod 300) ((a:Int)) (by rw[Int.tmod_eq_emod_of_nonneg (by omega)];omega)),(63,aJ Pg .i64 (IntKind.i64.wrap ((a:Int).tdiv 100)) (((a/100:Nat):Int)) (by rw[Int.tdiv_eq_ediv_of_nonneg (by omega),IntWalk.i64_in _ (by omega)];omega)),(64,aJ Pg .i64 (IntKind.i64.wrap (48+((a/100:Nat):Int))) (((48+a/100:Nat):Int)) (by rw[IntWalk.i64_in _ (by omega)];try omega)),(65,aJ Pg .u8 (IntKind.u8.wrap ((48+a/100:Nat):Int)) (((48+a/100:Nat):Int)) (by rw[IntWalk.u8_in _ (by omega)])),(67,aJ Pg .i64 (IntKind.i64.wrap ((a:Int).tdiv 10)) (((a/10:Nat):Int)) (by rw[Int.tdiv_eq_ediv_of_nonneg (by omega),IntWalk.i64_in _ (by omega)];omega)),(68,aJ Pg .i64 (((a/10:Nat):Int).tmod 10) (((a/10 % 10:Nat):Int)) (by rw[Int.tmod_eq_emod_of_nonneg (by omega)];omega)),(69,aJ Pg .i64 (IntKind.i64.wrap (48+((a/10 % 10:Nat):Int))) (((48+a/10 % 10:Nat):Int)) (by rw[IntWalk.i64_in _ (by omega)];try omega)),(70,aJ Pg .u8 (IntKind.u8.wrap ((48+a/10 % 10:Nat):Int)) (((48+a/10 % 10:Nat):Int)) (by rw[IntWalk.u8_in _ (by omega)])),(72,aJ Pg .i64 ((a:Int).tmod 10) (((a % 10:Nat):Int)) (by rw[Int.tmod_eq_emod_of_nonneg (by omega)];omega)),(73,aJ Pg .i64 (IntKind.i64.wrap (48+((a % 10:Nat):Int))) (((48+a % 10:Nat):Int)) (by rw[IntWalk.i64_in _ (by omega)];try omega)),(74,aJ Pg .u8 (IntKind.u8.wrap ((48+a % 10:Nat):Int)) (((48+a % 10:Nat):Int)) (by rw[IntWalk.u8_in _ (by omega)])),(89, .cat cD (fL a) (by have:=bq a;simp only[cD,List.length_cons,List.length_nil];omega)),(90, .cat (cD ++fL a) gZ (by have:=bq a;simp only[cD,gZ,List.length_append,List.length_cons,List.length_nil];omega)),(91, .call 9 _ _ h2),(97,aJ Pg .i64 (IntKind.i64.wrap (m0:Int)) ((m0:Int)) (by rw[IntWalk.i64_in _ (by omega)];try omega)),(98,aJ Pg .i64 ((m0:Int).tmod 10) ((m:Int)) (by rw[Int.tmod_eq_emod_of_nonneg (by omega)];omega)),(119, .cat (fg ++i6 m) hD (by have:=cM m;simp only[fg,hD,List.length_append,List.length_cons,List.length_nil];omega)),(120, .call 9 _ _ h3),(128,qB hb1),(142,qB hb2),(145,qB hb4),(161,qB hb3)]} 709297
theorem Le(hb2:decide ((1:Int)≤(a:Int))=true)(hb3:decide ((m:Int)≤6)=false)(hb4:decide ((a:Int)≤256)=true)(h1:ax Pg 9 [.str (iU k)] [.agg [P1], .agg [.ro x1, .ro y1], .int .i64 q1, .int .i64 2])(h2:ax Pg 9 [.str (oD a)] [.agg [P2], .agg [.ro x2, .ro y2], .int .i64 q2, .int .i64 0])(h3:ax Pg 9 [.str (oE m)] [.agg [P3], .agg [.ro x3, .ro y3], .int .i64 q3, .int .i64 9]):ax Pg 6 [.int .u16 (u:Int), .int .u16 (c:Int), .int .u8 (m0:Int)] [.bool true]:=
 qV {loops:=fun g q=>if g=6 then (if q=6 then some (ql c m0 k k1)else if q=13 then some (qm m0 k 2 a a1)else if q=19 then some (ku k 2 a 0 m m1)else none)else none,hint:=qT 6 [(26, .call 8 _ _ eS),(29,aJ Pg .u16 ((u:Int).tmod 10) (((u % 10:Nat):Int)) (by rw[Int.tmod_eq_emod_of_nonneg (by omega)];omega)),(30,aJ Pg .i64 (IntKind.i64.wrap ((u % 10:Nat):Int)) (((u % 10:Nat):Int)) (by rw[IntWalk.i64_in _ (by omega)];try omega)),(31,aJ Pg .i64 (IntKind.i64.wrap (250+((u % 10:Nat):Int))) ((k:Int)) (by rw[IntWalk.i64_in _ (by omega)];omega)),(53, .cat (eH ++f4 k) cG (by rw[cB];simp only[List.length_append,ce,eH,cG,List.length_cons,List.length_nil];omega)),(54, .call 9 _ _ h1),(60,aJ Pg .i64 (IntKind.i64.wrap (c:Int)) ((c:Int)) (by rw[IntWalk.i64_in _ (by omega)];try omega)),(61,aJ Pg .i64 ((c:Int).tmod 300) ((a:Int)) (by rw[Int.tmod_eq_emod_of_nonneg (by omega)];omega)),(63,aJ Pg .i64 (IntKind.i64.wrap ((a:Int).tdiv 100)) (((a/100:Nat):Int)) (by rw[Int.tdiv_eq_ediv_of_nonneg (by omega),IntWalk.i64_in _ (by omega)];omega)),(64,aJ Pg .i64 (IntKind.i64.wrap (48+((a/100:Nat):Int))) (((48+a/100:Nat):Int)) (by rw[IntWalk.i64_in _ (by omega)];try omega)),(65,aJ Pg .u8 (IntKind.u8.wrap ((48+a/100:Nat):Int)) (((48+a/100:Nat):Int)) (by rw[IntWalk.u8_in _ (by omega)])),(67,aJ Pg .i64 (IntKind.i64.wrap ((a:Int).tdiv 10)) (((a/10:Nat):Int)) (by rw[Int.tdiv_eq_ediv_of_nonneg (by omega),IntWalk.i64_in _ (by omega)];omega)),(68,aJ Pg .i64 (((a/10:Nat):Int).tmod 10) (((a/10 % 10:Nat):Int)) (by rw[Int.tmod_eq_emod_of_nonneg (by omega)];omega)),(69,aJ Pg .i64 (IntKind.i64.wrap (48+((a/10 % 10:Nat):Int))) (((48+a/10 % 10:Nat):Int)) (by rw[IntWalk.i64_in _ (by omega)];try omega)),(70,aJ Pg .u8 (IntKind.u8.wrap ((48+a/10 % 10:Nat):Int)) (((48+a/10 % 10:Nat):Int)) (by rw[IntWalk.u8_in _ (by omega)])),(72,aJ Pg .i64 ((a:Int).tmod 10) (((a % 10:Nat):Int)) (by rw[Int.tmod_eq_emod_of_nonneg (by omega)];omega)),(73,aJ Pg .i64 (IntKind.i64.wrap (48+((a % 10:Nat):Int))) (((48+a % 10:Nat):Int)) (by rw[IntWalk.i64_in _ (by omega)];try omega)),(74,aJ Pg .u8 (IntKind.u8.wrap ((48+a % 10:Nat):Int)) (((48+a % 10:Nat):Int)) (by rw[IntWalk.u8_in _ (by omega)])),(89, .cat cD (fL a) (by have:=bq a;simp only[cD,List.length_cons,List.length_nil];omega)),(90, .cat (cD ++fL a) gZ (by have:=bq a;simp only[cD,gZ,List.length_append,List.length_cons,List.length_nil];omega)),(91, .call 9 _ _ h2),(97,aJ Pg .i64 (IntKind.i64.wrap (m0:Int)) ((m0:Int)) (by rw[IntWalk.i64_in _ (by omega)];try omega)),(98,aJ Pg .i64 ((m0:Int).tmod 10) ((m:Int)) (by rw[Int.tmod_eq_emod_of_nonneg (by omega)];omega)),(119, .cat (fg ++i6 m) hD (by have:=cM m;simp only[fg,hD,List.length_append,List.length_cons,List.length_nil];omega)),(120, .call 9 _ _ h3),(128,qB hb1),(142,qB hb2),(145,qB hb4),(161,qB hb3)]} 709297
theorem Lf(hb2:decide ((1:Int)≤(a:Int))=true)(hb3:decide ((m:Int)≤6)=true)(hb4:decide ((a:Int)≤256)=false)(h1:ax Pg 9 [.str (iU k)] [.agg [P1], .agg [.ro x1, .ro y1], .int .i64 q1, .int .i64 2])(h2:ax Pg 9 [.str (oD a)] [.agg [P2], .agg [.ro x2, .ro y2], .int .i64 q2, .int .i64 1])(h3:ax Pg 9 [.str (oE m)] [.agg [P3], .agg [.ro x3, .ro y3], .int .i64 q3, .int .i64 0]):ax Pg 6 [.int .u16 (u:Int), .int .u16 (c:Int), .int .u8 (m0:Int)] [.bool true]:=
 qV {loops:=fun g q=>if g=6 then (if q=6 then some (ql c m0 k k1)else if q=13 then some (qm m0 k 2 a a1)else if q=19 then some (ku k 2 a 1 m m1)else none)else none,hint:=qT 6 [(26, .call 8 _ _ eS),(29,aJ Pg .u16 ((u:Int).tmod 10) (((u % 10:Nat):Int)) (by rw[Int.tmod_eq_emod_of_nonneg (by omega)];omega)),(30,aJ Pg .i64 (IntKind.i64.wrap ((u % 10:Nat):Int)) (((u % 10:Nat):Int)) (by rw[IntWalk.i64_in _ (by omega)];try omega)),(31,aJ Pg .i64 (IntKind.i64.wrap (250+((u % 10:Nat):Int))) ((k:Int)) (by rw[IntWalk.i64_in _ (by omega)];omega)),(53, .cat (eH ++f4 k) cG (by rw[cB];simp only[List.length_append,ce,eH,cG,List.length_cons,List.length_nil];omega)),(54, .call 9 _ _ h1),(60,aJ Pg .i64 (IntKind.i64.wrap (c:Int)) ((c:Int)) (by rw[IntWalk.i64_in _ (by omega)];try omega)),(61,aJ Pg .i64 ((c:Int).tmod 300) ((a:Int)) (by rw[Int.tmod_eq_emod_of_nonneg (by omega)];omega)),(63,aJ Pg .i64 (IntKind.i64.wrap ((a:Int).tdiv 100)) (((a/100:Nat):Int)) (by rw[Int.tdiv_eq_ediv_of_nonneg (by omega),IntWalk.i64_in _ (by omega)];omega)),(64,aJ Pg .i64 (IntKind.i64.wrap (48+((a/100:Nat):Int))) (((48+a/100:Nat):Int)) (by rw[IntWalk.i64_in _ (by omega)];try omega)),(65,aJ Pg .u8 (IntKind.u8.wrap ((48+a/100:Nat):Int)) (((48+a/100:Nat):Int)) (by rw[IntWalk.u8_in _ (by omega)])),(67,aJ Pg .i64 (IntKind.i64.wrap ((a:Int).tdiv 10)) (((a/10:Nat):Int)) (by rw[Int.tdiv_eq_ediv_of_nonneg (by omega),IntWalk.i64_in _ (by omega)];omega)),(68,aJ Pg .i64 (((a/10:Nat):Int).tmod 10) (((a/10 % 10:Nat):Int)) (by rw[Int.tmod_eq_emod_of_nonneg (by omega)];omega)),(69,aJ Pg .i64 (IntKind.i64.wrap (48+((a/10 % 10:Nat):Int))) (((48+a/10 % 10:Nat):Int)) (by rw[IntWalk.i64_in _ (by omega)];try omega)),(70,aJ Pg .u8 (IntKind.u8.wrap ((48+a/10 % 10:Nat):Int)) (((48+a/10 % 10:Nat):Int)) (by rw[IntWalk.u8_in _ (by omega)])),(72,aJ Pg .i64 ((a:Int).tmod 10) (((a % 10:Nat):Int)) (by rw[Int.tmod_eq_emod_of_nonneg (by omega)];omega)),(73,aJ Pg .i64 (IntKind.i64.wrap (48+((a % 10:Nat):Int))) (((48+a % 10:Nat):Int)) (by rw[IntWalk.i64_in _ (by omega)];try omega)),(74,aJ Pg .u8 (IntKind.u8.wrap ((48+a % 10:Nat):Int)) (((48+a % 10:Nat):Int)) (by rw[IntWalk.u8_in _ (by omega)])),(89, .cat cD (fL a) (by have:=bq a;simp only[cD,List.length_cons,List.length_nil];omega)),(90, .cat (cD ++fL a) gZ (by have:=bq a;simp only[cD,gZ,List.length_append,List.length_cons,List.length_nil];omega)),(91, .call 9 _ _ h2),(97,aJ Pg .i64 (IntKind.i64.wrap (m0:Int)) ((m0:Int)) (by rw[IntWalk.i64_in _ (by omega)];try omega)),(98,aJ Pg .i64 ((m0:Int).tmod 10) ((m:Int)) (by rw[Int.tmod_eq_emod_of_nonneg (by omega)];omega)),(119, .cat (fg ++i6 m) hD (by have:=cM m;simp only[fg,hD,List.length_append,List.length_cons,List.length_nil];omega)),(120, .call 9 _ _ h3),(128,qB hb1),(142,qB hb2),(145,qB hb4),(161,qB hb3)]} 709297
theorem Lg(hb2:decide ((1:Int)≤(a:Int))=true)(hb3:decide ((m:Int)≤6)=false)(hb4:decide ((a:Int)≤256)=false)(h1:ax Pg 9 [.str (iU k)] [.agg [P1], .agg [.ro x1, .ro y1], .int .i64 q1, .int .i64 2])(h2:ax Pg 9 [.str (oD a)] [.agg [P2], .agg [.ro x2, .ro y2], .int .i64 q2, .int .i64 1])(h3:ax Pg 9 [.str (oE m)] [.agg [P3], .agg [.ro x3, .ro y3], .int .i64 q3, .int .i64 9]):ax Pg 6 [.int .u16 (u:Int), .int .u16 (c:Int), .int .u8 (m0:Int)] [.bool true]:=
 qV {loops:=fun g q=>if g=6 then (if q=6 then some (ql c m0 k k1)else if q=13 then some (qm m0 k 2 a a1)else if q=19 then some (ku k 2 a 1 m m1)else none)else none,hint:=qT 6 [(26, .call 8 _ _ eS),(29,aJ Pg .u16 ((u:Int).tmod 10) (((u % 10:Nat):Int)) (by rw[Int.tmod_eq_emod_of_nonneg (by omega)];omega)),(30,aJ Pg .i64 (IntKind.i64.wrap ((u % 10:Nat):Int)) (((u % 10:Nat):Int)) (by rw[IntWalk.i64_in _ (by omega)];try omega)),(31,aJ Pg .i64 (IntKind.i64.wrap (250+((u % 10:Nat):Int))) ((k:Int)) (by rw[IntWalk.i64_in _ (by omega)];omega)),(53, .cat (eH ++f4 k) cG (by rw[cB];simp only[List.length_append,ce,eH,cG,List.length_cons,List.length_nil];omega)),(54, .call 9 _ _ h1),(60,aJ Pg .i64 (IntKind.i64.wrap (c:Int)) ((c:Int)) (by rw[IntWalk.i64_in _ (by omega)];try omega)),(61,aJ Pg .i64 ((c:Int).tmod 300) ((a:Int)) (by rw[Int.tmod_eq_emod_of_nonneg (by omega)];omega)),(63,aJ Pg .i64 (IntKind.i64.wrap ((a:Int).tdiv 100)) (((a/100:Nat):Int)) (by rw[Int.tdiv_eq_ediv_of_nonneg (by omega),IntWalk.i64_in _ (by omega)];omega)),(64,aJ Pg .i64 (IntKind.i64.wrap (48+((a/100:Nat):Int))) (((48+a/100:Nat):Int)) (by rw[IntWalk.i64_in _ (by omega)];try omega)),(65,aJ Pg .u8 (IntKind.u8.wrap ((48+a/100:Nat):Int)) (((48+a/100:Nat):Int)) (by rw[IntWalk.u8_in _ (by omega)])),(67,aJ Pg .i64 (IntKind.i64.wrap ((a:Int).tdiv 10)) (((a/10:Nat):Int)) (by rw[Int.tdiv_eq_ediv_of_nonneg (by omega),IntWalk.i64_in _ (by omega)];omega)),(68,aJ Pg .i64 (((a/10:Nat):Int).tmod 10) (((a/10 % 10:Nat):Int)) (by rw[Int.tmod_eq_emod_of_nonneg (by omega)];omega)),(69,aJ Pg .i64 (IntKind.i64.wrap (48+((a/10 % 10:Nat):Int))) (((48+a/10 % 10:Nat):Int)) (by rw[IntWalk.i64_in _ (by omega)];try omega)),(70,aJ Pg .u8 (IntKind.u8.wrap ((48+a/10 % 10:Nat):Int)) (((48+a/10 % 10:Nat):Int)) (by rw[IntWalk.u8_in _ (by omega)])),(72,aJ Pg .i64 ((a:Int).tmod 10) (((a % 10:Nat):Int)) (by rw[Int.tmod_eq_emod_of_nonneg (by omega)];omega)),(73,aJ Pg .i64 (IntKind.i64.wrap (48+((a % 10:Nat):Int))) (((48+a % 10:Nat):Int)) (by rw[IntWalk.i64_in _ (by omega)];try omega)),(74,aJ Pg .u8 (IntKind.u8.wrap ((48+a % 10:Nat):Int)) (((48+a % 10:Nat):Int)) (by rw[IntWalk.u8_in _ (by omega)])),(89, .cat cD (fL a) (by have:=bq a;simp only[cD,List.length_cons,List.length_nil];omega)),(90, .cat (cD ++fL a) gZ (by have:=bq a;simp only[cD,gZ,List.length_append,List.length_cons,List.length_nil];omega)),(91, .call 9 _ _ h2),(97,aJ Pg .i64 (IntKind.i64.wrap (m0:Int)) ((m0:Int)) (by rw[IntWalk.i64_in _ (by omega)];try omega)),(98,aJ Pg .i64 ((m0:Int).tmod 10) ((m:Int)) (by rw[Int.tmod_eq_emod_of_nonneg (by omega)];omega)),(119, .cat (fg ++i6 m) hD (by have:=cM m;simp only[fg,hD,List.length_append,List.length_cons,List.length_nil];omega)),(120, .call 9 _ _ h3),(128,qB hb1),(142,qB hb2),(145,qB hb4),(161,qB hb3)]} 709297
end
end
end Go.Avm
namespace Go.Avm
open Go.Proofs
theorem HT:((List.range 300).all fun a=>uP (oD a)==if decide (1≤a)&&decide (a≤256)then 0 else 1)=true:=by kernel_rfl
theorem HU:((List.range 10).all fun m=>uP (oE m)==if decide (m≤6)then 0 else 9)=true:=by kernel_rfl
theorem pm(s:List UInt8):∃(P:D)(x y:List D)(q:Int),ax Pg 9 [.str s] [.agg [P], .agg [.ro x, .ro y], .int .i64 q, .int .i64 (uP s)]:=by
 have hp:=wu s;have hr:=Bv s;unfold jR at hp;unfold uP;cases h:pV s with
 |error x=>
  obtain⟨q,e⟩:=x;rw[h]at hp;exact⟨_,_,_,_,hp⟩
 |ok l=>
  rw[h]at hp hr;have hn:=td hr.2;dsimp only at hp ⊢;revert hp hn;cases eZ l with
  |out=>exact fun _ h=>absurd rfl h
  |ok q=>exact fun hp _=>⟨_,_,_,_,hp⟩
  |bad p e=>exact fun hp _=>⟨_,_,_,_,hp⟩
theorem An(u c m0:Nat)(hu:u<65536)(hc:c<65536)(hm0:m0<256):ax Pg 6 [.int .u16 (u:Int), .int .u16 (c:Int), .int .u8 (m0:Int)] [.bool true]:=by
 obtain⟨P1,x1,y1,q1,h1⟩:=pm (iU (250+u % 10));obtain⟨P2,x2,y2,q2,h2⟩:=pm (oD (c % 300));obtain⟨P3,x3,y3,q3,h3⟩:=pm (oE (m0 % 10));rw[HS _ (by omega) (by omega)]at h1;have e2:=List.all_eq_true.1 HT (c % 300) (List.mem_range.2 (by omega));have e3:=List.all_eq_true.1 HU (m0 % 10) (List.mem_range.2 (by omega));rw[eq_of_beq e2]at h2;rw[eq_of_beq e3]at h3;clear e2 e3;generalize hk:250+u % 10=k at h1;generalize ha:c % 300=a at h2;generalize hm:m0 % 10=m at h3;have k1:k<1000:=by omega
 have a1:a<300:=by omega
 have m1:m<10:=by omega
 by_cases gk:k≤255
 ·rw[if_pos gk]at h1
  have hb1:decide ((k:Int)≤255)=true:=by rw[decide_eq_true_iff];omega
  by_cases gm:m≤6
  ·have hb3:decide ((m:Int)≤6)=true:=by rw[decide_eq_true_iff];omega
   rw[if_pos (by simpa using gm)]at h3;by_cases g0:1≤a
   ·have hb2:decide ((1:Int)≤(a:Int))=true:=by rw[decide_eq_true_iff];omega
    by_cases g1:a≤256
    ·rw[if_pos (by simp[g0,g1])]at h2
     exact K7 hu hc hm0 hk ha hm k1 a1 m1 hb1 hb2 hb3 (by rw[decide_eq_true_iff];omega) h1 h2 h3
    ·rw[if_neg (by simp[g1])]at h2
     exact K9 hu hc hm0 hk ha hm k1 a1 m1 hb1 hb2 hb3 (by rw[decide_eq_false_iff_not];omega) h1 h2 h3
   ·rw[if_neg (by simp[g0])]at h2
    exact K5 hu hc hm0 hk ha hm k1 a1 m1 hb1 (by rw[decide_eq_false_iff_not];omega) hb3 h1 h2 h3
  ·have hb3:decide ((m:Int)≤6)=false:=by rw[decide_eq_false_iff_not];omega
   rw[if_neg (by simpa using gm)]at h3;by_cases g0:1≤a
   ·have hb2:decide ((1:Int)≤(a:Int))=true:=by rw[decide_eq_true_iff];omega
    by_cases g1:a≤256
    ·rw[if_pos (by simp[g0,g1])]at h2
     exact K8 hu hc hm0 hk ha hm k1 a1 m1 hb1 hb2 hb3 (by rw[decide_eq_true_iff];omega) h1 h2 h3
    ·rw[if_neg (by simp[g1])]at h2
     exact La hu hc hm0 hk ha hm k1 a1 m1 hb1 hb2 hb3 (by rw[decide_eq_false_iff_not];omega) h1 h2 h3
   ·rw[if_neg (by simp[g0])]at h2
    exact K6 hu hc hm0 hk ha hm k1 a1 m1 hb1 (by rw[decide_eq_false_iff_not];omega) hb3 h1 h2 h3
 ·rw[if_neg gk]at h1
  have hb1:decide ((k:Int)≤255)=false:=by rw[decide_eq_false_iff_not];omega
  by_cases gm:m≤6
  ·have hb3:decide ((m:Int)≤6)=true:=by rw[decide_eq_true_iff];omega
   rw[if_pos (by simpa using gm)]at h3;by_cases g0:1≤a
   ·have hb2:decide ((1:Int)≤(a:Int))=true:=by rw[decide_eq_true_iff];omega
    by_cases g1:a≤256
    ·rw[if_pos (by simp[g0,g1])]at h2
     exact Ld hu hc hm0 hk ha hm k1 a1 m1 hb1 hb2 hb3 (by rw[decide_eq_true_iff];omega) h1 h2 h3
    ·rw[if_neg (by simp[g1])]at h2
     exact Lf hu hc hm0 hk ha hm k1 a1 m1 hb1 hb2 hb3 (by rw[decide_eq_false_iff_not];omega) h1 h2 h3
   ·rw[if_neg (by simp[g0])]at h2
    exact Lb hu hc hm0 hk ha hm k1 a1 m1 hb1 (by rw[decide_eq_false_iff_not];omega) hb3 h1 h2 h3
  ·have hb3:decide ((m:Int)≤6)=false:=by rw[decide_eq_false_iff_not];omega
   rw[if_neg (by simpa using gm)]at h3;by_cases g0:1≤a
   ·have hb2:decide ((1:Int)≤(a:Int))=true:=by rw[decide_eq_true_iff];omega
    by_cases g1:a≤256
    ·rw[if_pos (by simp[g0,g1])]at h2
     exact Le hu hc hm0 hk ha hm k1 a1 m1 hb1 hb2 hb3 (by rw[decide_eq_true_iff];omega) h1 h2 h3
    ·rw[if_neg (by simp[g1])]at h2
     exact Lg hu hc hm0 hk ha hm k1 a1 m1 hb1 hb2 hb3 (by rw[decide_eq_false_iff_not];omega) h1 h2 h3
   ·rw[if_neg (by simp[g0])]at h2
    exact Lc hu hc hm0 hk ha hm k1 a1 m1 hb1 (by rw[decide_eq_false_iff_not];omega) hb3 h1 h2 h3
end Go.Avm
namespace Go.Avm
open Go.ChangeShapes Go.WideShapes Go.ChangeAt Go.RowKit Go.ChangeMaps Go.Proofs Go.Proofs.YtcjiafanhlhdlaaGreatDoor
def zs:List Int:=(List.range 256).map fun n=>if n=9∨n=10∨n=11∨n=12∨n=13∨n=32 then 1 else 0
theorem Lh:jL=zs.map fun z=> .int .u8 z:=by
 unfold jL zs;rw[List.map_map];rfl
theorem Li:Pg.globalNamed "strings.asciiSpace"=some 1:=by kernel_rfl
theorem FP:(Pg.globals[1]?).map (·.type)=some 208:=by kernel_rfl
theorem Rh:Pg.globalNamed "strconv.ErrRange"=some 5:=by kernel_rfl
theorem HV:(Pg.globals[5]?).map (·.type)=some 105:=by kernel_rfl
theorem FQ:Pg.cellsOf 272=1:=by kernel_rfl
theorem Lj:Pg.cellsOf 9=1:=by kernel_rfl
theorem N7: "*" ++ "errors.errorString"= "*errors.errorString":=by decide
theorem Lk(u:TypeId)(h:Pg.typeName? 3 u=some "*errors.errorString"):u=270:=
 typeName_ptr_named (nm:= "errors.errorString") (by rw[N7];kernel_rfl) (by kernel_rfl) (by decide) u (by rw[N7];exact h)
theorem HW:Pg.cellsOf 208=256:=by kernel_rfl
theorem Ll:Pg.cellsOf 5=1:=by kernel_rfl
abbrev wy:List (String×DataW Unit):=Rows.typesPointsRow.laid
theorem only:(wy.filter fun x=>x.1== "strings.asciiSpace")=[("strings.asciiSpace",Lib.tabData .u8 zs)]:=by kernel_rfl
theorem N8:(wy.filter fun x=>x.1== "strconv.ErrRange")=[("strconv.ErrRange", .iface "*errors.errorString" (.ptr (.agg [.lit (.string [118,97,108,117,101,32,111,117,116,32,111,102,32,114,97,110,103,101])])))]:=by kernel_rfl
structure wz(W:World):Prop where
 tab:Lib.TabIs Pg W "strings.asciiSpace" .u8 zs
 err:∃t v,W.cell? ⟨5,0,none⟩=some (.iface t v)
theorem Lm{W:World}(h:laidMetH Pg wy W):wz W:=by
 constructor
 ·have h1:=h.filter fun x=>x.1== "strings.asciiSpace"
  rw[only,MakeChecks.laidMetH_plain _ _ _ (by kernel_rfl)]at h1;exact Lib.tabIs_of_head Li FP Tryz.underlying208 Tryz.underlying5 Ll HW h1
 ·have h1:=h.filter fun x=>x.1== "strconv.ErrRange"
  rw[N8,MakeChecks.laidMetH_plain _ _ _ (by kernel_rfl)]at h1;obtain⟨a0,s0,hv0,-,-,-⟩:=laid_sentinel h1 Rh HV Tryz.underlying105 Lk Tryz.underlying270 Tryz.underlying272 rfl rfl Tryz.underlying9 FQ Lj;exact⟨_,_,by have h0:=World.var?_cell Rh hv0 0;simpa using h0⟩
def Ao(b o:Nat):Prop:=(b=1∧o<256)∨(b=5∧o=0)
theorem FS{W:World}(h:wz W):Globs Ao W:=fun g cs hg=>by
 have hg':(if g=1 then some jL else if g=5 then some [.ifc]else none)=some cs:=hg;split at hg'
 case isTrue hg0=>
  subst hg0;cases hg';have hlen:zs.length=256:=by simp[zs]
  have hget:∀(t:Nat)(c:D),jL[t]? =some c→t<256∧c= .int .u8 (zs.getD t 0):=fun t c hc=>by
   rw[Lh,List.getElem?_map,Option.map_eq_some_iff]at hc;obtain⟨z,hz,rfl⟩:=hc;refine⟨by rw[←hlen];exact(List.getElem?_eq_some_iff.1 hz).1, ?_⟩;rw[List.getD,hz];rfl
  refine .rp jL 1 0 (fun t=> .int .u8 (zs.getD t 0)) (fun e he=> ?_) (fun t c hc=> .inl ⟨rfl,by rw[Nat.zero_add];exact(hget t c hc).1⟩) (fun t c hc=> ?_) (fun t c hc=> ?_)
  ·obtain⟨t,ht⟩:=List.getElem?_of_mem he
   rw[(hget t e ht).2];rfl
  ·rw[Nat.zero_add]
   exact h.tab.cell Li t (by rw[hlen];exact(hget t c hc).1)
  ·rw[(hget t c hc).2]
   exact .int _ _
 case isFalse hg0=>
  split at hg';case isFalse=>cases hg'
  rename_i hg3;subst hg3;cases hg';obtain⟨ty,v,hc⟩:=h.err
  have hget:∀(t:Nat)(c:D),[D.ifc][t]? =some c→t=0∧c= .ifc:=fun t c hc=>by
   cases t with
   |zero=>simp at hc;exact⟨rfl,hc.symm⟩
   |succ t=>simp at hc
  refine .rp [.ifc] 5 0 (fun _=> .iface ty v) (fun e he=> ?_) (fun t c hc'=> .inr ⟨rfl,by rw[Nat.zero_add];exact(hget t c hc').1⟩) (fun t c hc'=> ?_) (fun t c hc'=> ?_)
  ·simp at he;subst he;rfl
  ·rw[Nat.zero_add,(hget t c hc').1]
   exact hc
  ·rw[(hget t c hc').2]
   exact .ifc _ _
theorem Ln{W:World}(h:wz W):∀b o,Ao b o→b<W.heap.size:=fun b o hbo=>by
 rcases hbo with ⟨rfl,ho⟩|⟨rfl,rfl⟩
 ·have hc:=h.tab.cell Li 0 (by simp[zs])
  unfold World.cell? at hc;cases hh:W.heap[1]? with
  |none=>rw[hh]at hc;cases hc
  |some o=>exact(Array.getElem?_eq_some_iff.1 hh).1
 ·obtain⟨ty,v,hc⟩:=h.err
  unfold World.cell? at hc;cases hh:W.heap[5]? with
  |none=>rw[hh]at hc;cases hc
  |some o=>exact(Array.getElem?_eq_some_iff.1 hh).1
end Go.Avm
