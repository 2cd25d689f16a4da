/-
  The kit's library contracts, laid at this program (printed by the kit's lay-plain).
-/
import Derived.Shelf.SlGeneric
import Derived.Shelf.SlIterI.Sorted
import Derived.Shelf.SlIter.AllValues
import Derived.Shelf.SortM.Plain
import Derived.Shelf.SortM.SortNone
import Derived.Shelf.SlMaps.Clone
import Derived.Ground.GgzProg
import Derived.Ground.GgmProg
import Derived.Ground.SlgmProg
import Derived.Ground.SlmcProg
import Derived.Test.YtcjiafanhlhdlaaGreatDoorProg
import Derived.Test.YtcjiafanhlhdlaaGreatDoorG08
import Derived.Test.YtcjiafanhlhdlaaGreatDoorRows
import Derived.Tactics
import Derived.Tactics2
import Derived.Defers
import Derived.Laws.Pointers
import Derived.Laws.LoneSync
import Derived.RegionTactic
import Derived.RegionCalls
import Derived.ChangeAlike
import Derived.Test.YtcjiafanhlhdlaaGreatDoorG07
import Derived.IntWalk
namespace Go.Proofs
open Go.Shelf
theorem gN{P:Program}{f:FuncId}{B:Func}(a:(((P.funcs[f]?).map (·.name)).getD ""== "runtime.NumGoroutine")=false)(h2:P.funcs[f]? =some {B with name:=((P.funcs[f]?).map (·.name)).getD ""}):Bears P f B:=⟨_,a,h2⟩
def Tryz.lsorted_ren:Go.Shelf.Ren:=⟨fun|6=>132|8=>155|9=>156|11=>174|13=>176|12=>175|23=>195|24=>139|14=>186|15=>187|16=>188|17=>189|18=>190|19=>191|20=>192|21=>193|22=>194|25=>203|26=>204|27=>205|28=>206|29=>207|30=>208|31=>209|n=>n,fun|26=>3|28=>218|24=>42|0=>0|3=>3|37=>149|48=>119|50=>175|4=>4|40=>283|39=>282|45=>143|5=>5|9=>9|51=>292|55=>75|57=>297|58=>298|33=>226|n=>n,fun|n=>n⟩
theorem Tryz.lsorted:Go.Proofs.SlLaysZI.n6 Tryz.prog Tryz.lsorted_ren:=by constructor<;>intros<;>first|kernel_rfl|exact gN (by kernel_rfl) (by kernel_rfl)|(constructor<;>intros<;>first|kernel_rfl|exact gN (by kernel_rfl) (by kernel_rfl))
def Tryz.lvals_ren:Go.Shelf.Ren:=⟨fun|7=>157|n=>n,fun|33=>226|23=>88|0=>0|4=>4|3=>3|27=>9|n=>n,fun|n=>n⟩
theorem Tryz.lvals:Go.Proofs.SlLaysY.n7 Tryz.prog Tryz.lvals_ren:=by constructor<;>intros<;>first|kernel_rfl|exact gN (by kernel_rfl) (by kernel_rfl)|(constructor<;>intros<;>first|kernel_rfl|exact gN (by kernel_rfl) (by kernel_rfl))
def Tryz.lsort_ren:Go.Shelf.Ren:=⟨fun|5=>156|8=>176|7=>175|19=>195|20=>139|10=>186|11=>187|12=>188|13=>189|14=>190|15=>191|16=>192|17=>193|18=>194|30=>203|31=>204|32=>205|33=>206|34=>207|35=>208|40=>209|n=>n,fun|23=>42|25=>3|3=>3|32=>149|22=>42|0=>0|44=>119|46=>175|4=>4|36=>283|35=>282|41=>143|5=>5|9=>9|53=>292|57=>75|63=>297|64=>298|n=>n,fun|n=>n⟩
theorem Tryz.lsort:Go.Proofs.SlLaysM.n5 Tryz.prog Tryz.lsort_ren:=by constructor<;>intros<;>first|kernel_rfl|exact gN (by kernel_rfl) (by kernel_rfl)|(constructor<;>intros<;>first|kernel_rfl|exact gN (by kernel_rfl) (by kernel_rfl))
def Tryz.lclonea_ren:Go.Shelf.Ren:=⟨fun|5=>74|7=>102|n=>n,fun|23=>88|25=>9|3=>3|4=>4|20=>20|n=>n,fun|n=>n⟩
theorem Tryz.lclonea:Go.Proofs.SlLaysW.n5 Tryz.prog Tryz.lclonea_ren:=by constructor<;>intros<;>first|kernel_rfl|exact gN (by kernel_rfl) (by kernel_rfl)|(constructor<;>intros<;>first|kernel_rfl|exact gN (by kernel_rfl) (by kernel_rfl))
def Tryz.lcloneb_ren:Go.Shelf.Ren:=⟨fun|5=>109|7=>102|n=>n,fun|23=>90|25=>3|3=>116|4=>4|20=>20|n=>n,fun|n=>n⟩
theorem Tryz.lcloneb:Go.Proofs.SlLaysW.n5 Tryz.prog Tryz.lcloneb_ren:=by constructor<;>intros<;>first|kernel_rfl|exact gN (by kernel_rfl) (by kernel_rfl)|(constructor<;>intros<;>first|kernel_rfl|exact gN (by kernel_rfl) (by kernel_rfl))
end Go.Proofs
set_option linter.unusedVariables false
set_option linter.unusedSimpArgs false
set_option linter.unusedSectionVars false
namespace Go.Avm
open Go.Proofs Go.RowKit Go.Maps
theorem GW(m:Nat):AnyZI.SortsIn Tryz.prog Tryz.lsorted_ren Fence.wide m:=
 ⟨fun d c cap f W e a b=>callsIn_wide.2 (AnyM.slices_Sort_int Tryz.lsort d c cap f W e a b),
  fun p cap W=>callsIn_wide.2 (AnyM.slices_Sort_int_none Tryz.lsort p cap W)⟩
theorem B4:ct Tryz.prog 132:=⟨_,Tryz.func132,rfl,by decide⟩
variable[aG]
theorem Kx{h:aa}{kb vb k v:Nat}{es:List (D×D×Nat)}{c:Nat}(m:h kb=⟨vb,some (.arr 1 [.mp k v])⟩)(hm:h k=⟨v,some (.map es c)⟩)(n:GM es c):
    ax Tryz.prog 132 [.fn 157 [.ptr kb vb 0 0 1]] h [.d (.ro ((ld (nL es)).map (D.int .i64)))] h:=
 vo B4 (iT:=Tryz.lsorted_ren.t 26) Tryz.lvals.t27 Tryz.lvals.t3 (fun i b nn g w hB q r f=>by
  have a:=(AnyY.values_stops Tryz.lvals Fence.wide 2 trivial rfl (by omega) i b nn g w hB q r).gives;have o:=AnyZI.sorted_in Tryz.lsorted Fence.wide 5 trivial trivial trivial trivial rfl (by omega) (GW _) (enters_of Tryz.func156 (by kernel_rfl) rfl) 157 #[.pointer (some ⟨i,0,none⟩)] trivial (enters_of Tryz.func157 (by kernel_rfl) rfl) _ (Maps.size g) (yX f (by unfold maxLen;omega)) (by omega) w a;refine(callsIn_wide.1 o).mono ?_;rintro e u ⟨v,j,l,h2,p,_,s⟩;exact⟨v,j,l,h2,p,s⟩) m hm n
end Go.Avm
namespace Go.Proofs.YtcjiafanhlhdlaaGreatDoor.once
theorem disable(w:World):(callFunc 178 #[]).run Tryz.prog w= .ok (.value (.tuple #[])) w:=run_call_mark0 Tryz.func178 (by kernel_rfl) (by kernel_rfl) (by kernel_rfl) .disable (by kernel_rfl) w
theorem enable(w:World):(callFunc 180 #[]).run Tryz.prog w= .ok (.value (.tuple #[])) w:=run_call_mark0 Tryz.func180 (by kernel_rfl) (by kernel_rfl) (by kernel_rfl) .enable (by kernel_rfl) w
theorem acquire(a:Addr)(w:World):(callFunc 181 #[.pointer (some a)]).run Tryz.prog w= .ok (.value (.tuple #[])) w:=run_call_marked Tryz.func181 (by kernel_rfl) (by kernel_rfl) (by kernel_rfl) .acquire (by kernel_rfl) a w
theorem releaseMerge(a:Addr)(w:World):(callFunc 183 #[.pointer (some a)]).run Tryz.prog w= .ok (.value (.tuple #[])) w:=run_call_marked Tryz.func183 (by kernel_rfl) (by kernel_rfl) (by kernel_rfl) .releaseMerge (by kernel_rfl) a w
set_option maxRecDepth 100000 in
set_option maxHeartbeats 1600000 in
theorem rG(a:Addr)(x:Value)(u:FrameMode)(w:World)(h:w.cell? a=some x)(i:w.frozen? a=false):
    CallsD Tryz.prog 151 #[.pointer (some a), .bool true] u w fun e f d=>f=u∧(e= .returned (.tuple #[])∧d=w.drew.setCell a (.int .u32 1)):=by
 have b:w.drew.cell? a=some x:=by go_simp
 have c:w.drew.frozen? a=false:=by go_simp
 have g:=run_call_store (P:=Tryz.prog) Tryz.func170 (by kernel_rfl) (by kernel_rfl) (by kernel_rfl) (by kernel_rfl) (k:= .u32) (y:=1) b c
 go_enter_d Tryz.func151,Tryz.ntmps151
 go_wp2
 go_region_calls
 all_goals (go_end0;exact⟨rfl,rfl⟩)
set_option maxRecDepth 100000 in
set_option maxHeartbeats 1600000 in
theorem pY(a:Addr)(u:FrameMode)(w:World)(b:w.cell? a=some (.int .i32 1))(h:w.frozen? a=false):
    CallsD Tryz.prog 150 #[.pointer (some a)] u w fun e f d=>f=u∧(e= .returned (.tuple #[])∧d=w.setCell a (.int .i32 0)):=by
 have i:=disable;have k:=enable;have j:=releaseMerge;have c:=run_call_add (P:=Tryz.prog) Tryz.func184 (by kernel_rfl) (by kernel_rfl) (by kernel_rfl) .i32 (by kernel_rfl) (y:= -1) (s:=0) b h (by simp[go_sem];rfl);have g:=run_convert_to_unsafe (P:=Tryz.prog) (src:=273) (dst:=170) Tryz.underlying273 Tryz.underlying170 (by kernel_rfl) b
 go_enter_d Tryz.func150,Tryz.ntmps150
 go_wp2
 go_end0
 go_wp2
 go_end0
 exact⟨rfl,rfl⟩
set_option maxRecDepth 100000 in
set_option maxHeartbeats 1600000 in
theorem E0(a:Addr)(w:World)(c:w.cell? a=some (.int .i32 0))(h:w.frozen? a=false):
    Calls Tryz.prog 149 #[.pointer (some a)] w fun e f=>e= .returned (.tuple #[])∧f=w.setCell a (.int .i32 1):=by
 have k:=disable;have j:=enable;have i:=acquire;have d:=run_call_cas_hit (P:=Tryz.prog) Tryz.func179 (by kernel_rfl) (by kernel_rfl) (by kernel_rfl) .i32 (by kernel_rfl) (y:=1) c h;have b:(w.setCell a (.int .i32 1)).cell? a=some (.int .i32 1):=World.cell?_setCell_same w a _ c;have g:=run_convert_to_unsafe (P:=Tryz.prog) (src:=273) (dst:=170) Tryz.underlying273 Tryz.underlying170 (by kernel_rfl) b
 go_enter Tryz.func149,Tryz.ntmps149
 go_wp2
 first|go_end0|(simp only[Exit.inBlock,Exit.then];refine bodyPost_ret (results_none rfl _ _ _) rfl ?_)|refine bodyPost_ret (results_none rfl _ _ _) rfl ?_
 go_wp2
 go_end0
 exact⟨rfl,rfl⟩
set_option maxRecDepth 100000 in
set_option maxHeartbeats 1600000 in
theorem GX(b c:Nat)(g:Nat)(vs:Array Value)(w:World)(k:World→Prop)(u:∀args w,(callFunc g args).run Tryz.prog w= .ok (.enter g args) w)
    (p:w.cell? ⟨b,c,none⟩=some (.int .u32 0)) (z:w.cell? ⟨b,c+1,none⟩=some (.int .i32 0)) (A:w.frozen? ⟨b,c,none⟩=false) (t:w.frozen? ⟨b,c+1,none⟩=false)
    (h:Calls Tryz.prog g vs (w.setCell ⟨b,c+1,none⟩ (.int .i32 1)) fun e d=>(∃v,e= .returned v)∧k d)
    (i:∀d,k d→d.cell? ⟨b,c,none⟩=some (.int .u32 0)∧d.cell? ⟨b,c+1,none⟩=some (.int .i32 1)∧d.frozen? ⟨b,c,none⟩=false∧d.frozen? ⟨b,c+1,none⟩=false):
    Calls Tryz.prog 123 #[.pointer (some ⟨b,c,none⟩), .func (.func g) #[] vs] w fun e m=>e= .returned (.tuple #[])∧
     ∃d,k d∧m=(d.drew.setCell ⟨b,c,none⟩ (.int .u32 1)).setCell ⟨b,c+1,none⟩ (.int .i32 0):=by
 have y:=run_call_load (P:=Tryz.prog) Tryz.func148 (by kernel_rfl) (by kernel_rfl) (by kernel_rfl) .u32 (by kernel_rfl) (w:=w.setCell ⟨b,c+1,none⟩ (.int .i32 1)) (a:=⟨b,c,none⟩) (x:=0) ((World.cell?_setCell_other _ ⟨b,c+1,none⟩ ⟨b,c,none⟩ _ (by simp)).trans p);have n:∀(x:Bool)(w:World),(Op.unary .not (.bool x)).run Tryz.prog w= .ok (.bool (!x)) w:=fun _ _=>rfl
 go_enter_defers Tryz.func123,Tryz.ntmps123
 go_wp2_with (go_at_call 149;refine(E0 ⟨b,c+1,none⟩ _ (by go_simp) (by go_simp)).mono ?_;rintro e m ⟨rfl,rfl⟩)
 go_wp2
 refine h.mono ?_;rintro e d ⟨⟨v,rfl⟩,l⟩;obtain⟨s,c1,o,q⟩:=i d l
 go_wp2
 refine leaves_cons (f:=151) (args:= #[.pointer (some ⟨b,c,none⟩), .bool true]) (by simp) (by simp[go_sem]) ?_;refine(rG ⟨b,c,none⟩ (.int .u32 0) .returning _ s o).mono ?_;rintro e r j ⟨rfl,rfl,rfl⟩;refine leaves_cons (f:=150) (args:= #[.pointer (some ⟨b,c+1,none⟩)]) (by simp[settle]) (by simp[go_sem]) ?_;refine(pY ⟨b,c+1,none⟩ _ _ ?_ (by simp[q])).mono ?_
 ·refine(World.cell?_setCell_other _ ⟨b,c,none⟩ ⟨b,c+1,none⟩ _ (by simp)).trans ?_
  rw[World.cell?_drew];exact c1
 rintro e r j ⟨rfl,rfl,rfl⟩;simp[Leaves,settle,results,Tryz.results94];exact⟨d,l,rfl⟩
set_option maxRecDepth 100000 in
set_option maxHeartbeats 1600000 in
theorem do_first(b a:Nat)(g:Nat)(vs:Array Value)(w:World)(f:World→Prop)(o:∀args w,(callFunc g args).run Tryz.prog w= .ok (.enter g args) w)
    (j:w.cell? ⟨b,a,none⟩=some (.int .u32 0)) (m:w.cell? ⟨b,a+1,none⟩=some (.int .i32 0)) (p:w.frozen? ⟨b,a,none⟩=false) (l:w.frozen? ⟨b,a+1,none⟩=false)
    (d:Calls Tryz.prog g vs (w.setCell ⟨b,a+1,none⟩ (.int .i32 1)) fun e c=>(∃v,e= .returned v)∧f c)
    (h:∀c,f c→c.cell? ⟨b,a,none⟩=some (.int .u32 0)∧c.cell? ⟨b,a+1,none⟩=some (.int .i32 1)∧c.frozen? ⟨b,a,none⟩=false∧c.frozen? ⟨b,a+1,none⟩=false):
    Calls Tryz.prog 94 #[.pointer (some ⟨b,a,none⟩), .func (.func g) #[] vs] w fun e i=>e= .returned (.tuple #[])∧
     ∃c,f c∧i=(c.drew.setCell ⟨b,a,none⟩ (.int .u32 1)).setCell ⟨b,a+1,none⟩ (.int .i32 0):=by
 have q:=run_call_load (P:=Tryz.prog) Tryz.func148 (by kernel_rfl) (by kernel_rfl) (by kernel_rfl) .u32 (by kernel_rfl) j;have k:∀(x:Bool)(w:World),(Op.unary .not (.bool x)).run Tryz.prog w= .ok (.bool (!x)) w:=fun _ _=>rfl
 go_enter Tryz.func94,Tryz.ntmps94
 go_wp2_with (first|(go_at_call 123;refine(GX b a g vs _ f o j m p l d h).mono ?_;rintro e i ⟨rfl,n⟩)|(go_at_call 122;go_in))
 go_end0
 exact⟨rfl,n⟩
set_option maxRecDepth 100000 in
set_option maxHeartbeats 1600000 in
theorem do_done(a:Addr)(d:Int)(i:¬d=0)(g:Value)(w:World)(f:w.cell? a=some (.int .u32 d)):
    Calls Tryz.prog 94 #[.pointer (some a),g] w fun e c=>e= .returned (.tuple #[])∧c=w:=by
 have j:=run_call_load (P:=Tryz.prog) Tryz.func148 (by kernel_rfl) (by kernel_rfl) (by kernel_rfl) .u32 (by kernel_rfl) f;have b:∀(x:Bool)(w:World),(Op.unary .not (.bool x)).run Tryz.prog w= .ok (.bool (!x)) w:=fun _ _=>rfl
 have h:(d !=0)=true:=by simp[i]
 go_enter Tryz.func94,Tryz.ntmps94
 go_wp2
 go_end0
 exact⟨rfl,rfl⟩
end Go.Proofs.YtcjiafanhlhdlaaGreatDoor.once
namespace Go.Avm
open Go.RowKit Go.Proofs Go.Proofs.YtcjiafanhlhdlaaGreatDoor
variable[aG]
section
variable{P:Program}{G:Gh}{B:Nat}{w0 w:World}{I0:Nat→Nat→Prop}{h:aa}
theorem B5{b i:Nat}{arr:Array Value}{e:TypeId}{fz:Nat×Nat}(a:w.heap[b]? =some (.cells arr e fz))(u:Value):w.setCell ⟨b,i,none⟩ u=w.setRow b (arr.setIfInBounds i u):=by
 unfold World.setCell World.setRow;congr 1;apply Array.ext
 ·simp
 ·intro j c h2
  simp only[Array.getElem_modify];split
  ·rename_i d
   subst d
   have:w.heap[b]'(by simpa using c)= .cells arr e fz:=by
    have:=xQ.1 a;exact this.2
   rw[this];simp
  ·rfl
theorem HR.cell1(r:HR G B w0 I0 h w){k i:Nat}{es:List AV}{L:sQ}(f:(h k).ob=some (.arr 1 es))(m:G.loc k (h k).ver=some L)(A:i<es.length){y:AV}{u:Value}(J:Rep G w y u)(H:u.oneCell'=true)(F:y.lone=true):
    HR G B w0 I0 (aJ h k ⟨(h k).ver,some (.arr 1 (es.set i y))⟩) (w.setCell ⟨L.b,i,none⟩ u)∧Ext G w G (w.setCell ⟨L.b,i,none⟩ u):=by
 rcases r.objs k _ f with ⟨rfl,_⟩|⟨M,j,z,E,C,N,v,D⟩
 ·simp at A
 rw[m]at j;cases j;obtain⟨hB,⟨arr,e,o,I⟩,_⟩:=r.own k L m;rw[B5 o]
 have a:∀x∈es.set i y,x.lone=true:=fun x g=>by
  rcases xu g with g|rfl
  ·exact v rfl x g
  ·exact F
 refine r.store f m z E o (by simp) (by simpa using C) (fun x g=>by rw[AV.cells_lone (a x g)];rfl) (fun _=>a) (fun t c l=> ?_);rw[bO a,List.getElem?_set]at l;by_cases d:i=t
 ·subst d
  simp only[yS,A]at l;cases l;have q:i<arr.size:=by rw[I.1,z];omega
  exact⟨u,by simp[q],H,J⟩
 ·rw[xj d]at l
  obtain⟨K,s,n,p⟩:=D t c (by rw[bO (v rfl)];exact l);refine⟨K, ?_,n,p⟩;rw[Array.getElem?_setIfInBounds_ne d];simpa [World.cell?,o]using s
theorem HR.cellAt(l:HR G B w0 I0 h w){k i:Nat}{es:List AV}{L:sQ}(c:(h k).ob=some (.arr 1 es))(g:G.loc k (h k).ver=some L){kd:IntKind}{n:Int}(j:es[i]? =some (.d (.int kd n))):
    w.cell? ⟨L.b,i,none⟩=some (.int kd n)∧w.frozen? ⟨L.b,i,none⟩=false:=by
 rcases l.objs k _ c with ⟨rfl,_⟩|⟨A,a,x,z,y,t,o,q⟩
 ·simp at j
 rw[g]at a;cases a;obtain⟨hB,⟨arr,e,p,v⟩,_⟩:=l.own k L g;obtain⟨u,r,m,f⟩:=q i _ (by rw[bO (o rfl)];exact j);cases f with
 |d s=>
 cases s;exact⟨r,by simp[World.frozen?,p]⟩
theorem py{a:AV}{k v i:Nat}{es:List AV}{n m:Int}(b:oy h a=some (k,v,i,es,n,m)):(∃z,a= .ptr k v i 0 z)∧(h k).ver=v∧(h k).ob=some (.arr 1 es)∧es[i]? =some (.d (.int .u32 n))∧es[i+1]? =some (.d (.int .i32 m)):=by
 unfold oy at b;split at b;case h_2=>cases b
 rename_i s p t j z;split at b;case isFalse=>cases b
 rename_i c;subst c;split at b;case h_2=>cases b
 rename_i sz es' e;split at b;case isFalse=>cases b
 rename_i l;obtain⟨rfl,f⟩:=l;split at b;case h_2=>cases b
 rename_i r q o g;simp only[xA,xG]at b;obtain⟨rfl,rfl,rfl,rfl,rfl,rfl⟩:=b;exact⟨⟨z,rfl⟩,f,e,o,g⟩
theorem Ky{a:Type}(f:Nat→a)(k:Nat)(x y:a):aJ (aJ f k x) k y=aJ f k y:=by
 funext t;simp only[aJ];split<;>rfl
end
theorem Ol:Ge Tryz.prog 94:=by
 intro h a f l k v i es n m ha;obtain⟨⟨z,rfl⟩,hv,p,e1,e2⟩:=py ha;have X:ct Tryz.prog 94:=⟨Tryz.f94,Tryz.func94,by kernel_rfl,by kernel_rfl⟩
 have T:∀{g:Array Value}{G:Gh}{w:World},g.size=[AV.ptr k v i 0 z, .fn f l].length→(∀(j:Nat)(x:AV)(u:Value),[AV.ptr k v i 0 z, .fn f l][j]? =some x→g[j]? =some u→Rep G w x u)→
     ∃va N,g= #[va,N]∧Rep G w (.ptr k v i 0 z) va∧Rep G w (.fn f l) N:=by
  intro g G w J C;have l0:g[0]? =some (g[0]'(by simp at J;omega)):=xJ _;have l1:g[1]? =some (g[1]'(by simp at J;omega)):=xJ _;refine⟨_,_, ?_,C 0 _ _ rfl l0,C 1 _ _ rfl l1⟩;apply Array.ext
  ·simpa using J
  ·intro j h1 h2
   match j with
   |0=>rfl
   |1=>rfl
   |j+2=>simp at h2;omega
 refine⟨fun M=>⟨X,fun G B w0 I0 w g C J o=> ?_⟩,fun M hm0 rs h2 K t ha2=>⟨X,fun G B w0 I0 w g C J o=> ?_⟩⟩
 ·obtain⟨va,N,rfl,ra,rf⟩:=T J o
  cases ra with
  |ptr _ _ _ _ L P=>
  have I:L.sz=1:=by
   rcases C.objs k _ p with ⟨rfl,_⟩|⟨L',A,g1,_⟩
   ·simp at e1
   ·rw[hv,P]at A;cases A;exact g1
  rw[I,Nat.mul_one,yp];have W:=C.cellAt p (by rw[hv];exact P) e1;refine(once.do_done ⟨L.b,i,none⟩ n M N w W.1).mono ?_;rintro e w' ⟨rfl,rfl⟩;exact⟨_,G,rfl,Ext.refl G _,C, .tup [] #[] rfl (fun j c u W=>by simp at W)⟩
 ·obtain⟨⟨z2,_⟩,H,r,U,S⟩:=py ha2
  obtain⟨va,N,rfl,ra,rf⟩:=T J o;subst M;subst hm0;cases ra with
  |ptr _ _ _ _ L P=>
  have F:G.loc k (h k).ver=some L:=by rw[hv];exact P
  have I:L.sz=1:=by
   rcases C.objs k _ p with ⟨rfl,_⟩|⟨L',A,g1,_⟩
   ·simp at e1
   ·rw[F]at A;cases A;exact g1
  rw[I,Nat.mul_one,yp];obtain⟨c0,z0⟩:=C.cellAt p F e1;obtain⟨c1,z1⟩:=C.cellAt p F e2
  obtain⟨vs,rfl,hvl,hvr⟩:∃vs:Array Value,N= .func (.func f) #[] vs∧vs.size=l.length∧∀(j:Nat)(x:AV)(u:Value),l[j]? =some x→vs[j]? =some u→Rep G w x u:=by
   cases rf with
   |fn _ _ vs hl hh=>exact⟨vs,rfl,hl,hh⟩
  have q:i+1<es.length:=(xE.1 e2).1;obtain⟨Z,V⟩:=C.cell1 p F q (y:= .d (.int .i32 1)) (u:= .int .i32 1) (.d (.int _ _)) rfl rfl;rw[hv]at Z;have E:=t.2 G B w0 I0 _ vs Z hvl (fun j x u hx hu=>(hvr j x u hx hu).mono V);refine(once.do_first L.b i f vs w (fun R=>∃D,Ext G (w.setCell ⟨L.b,i+1,none⟩ (.int .i32 1)) D R∧HR D B w0 I0 h2 R) (fun args w=>dq t.1 args w) c0 c1 z0 z1 (E.mono ?_) ?_).mono ?_
  ·rintro e R ⟨v',D,rfl,Q,O,_⟩
   exact⟨⟨v',rfl⟩,D,Q,O⟩
  ·rintro R ⟨D,Q,O⟩
   have s:D.loc k (h2 k).ver=some L:=by rw[H];exact Q.loc _ _ _ P
   obtain⟨d0,y0⟩:=O.cellAt r s U;obtain⟨d1,y1⟩:=O.cellAt r s S;exact⟨d0,d1,y0,y1⟩
  ·rintro e w' ⟨rfl,R,⟨D,Q,O⟩,rfl⟩
   have s:D.loc k (h2 k).ver=some L:=by rw[H];exact Q.loc _ _ _ P
   have Y:i<K.length:=(xE.1 U).1;have q:i+1<K.length:=(xE.1 S).1;obtain⟨q1,q2⟩:=O.drew.cell1 r s Y (y:= .d (.int .u32 1)) (u:= .int .u32 1) (.d (.int _ _)) rfl rfl;obtain⟨p1,p2⟩:=q1.cell1 (k:=k) (i:=i+1) (es:=K.set i (.d (.int .u32 1))) (by rw[ad]) (by rw[ad];exact s) (by simpa using q) (y:= .d (.int .i32 0)) (u:= .int .i32 0) (.d (.int _ _)) rfl rfl;rw[Ky,ad,H]at p1;exact⟨_,D,rfl,V.trans (Q.trans ((Ext.drew D R).trans (q2.trans p2))),p1, .tup [] #[] rfl (fun j c u W=>by simp at W)⟩
end Go.Avm
namespace Go.Avm
open Go.Proofs
def nM:List D:=(List.range 256).map fun n=> .int .u8 (if n=9∨n=10∨n=11∨n=12∨n=13∨n=32 then 1 else 0)
def mO:List D:=(List.range 20).map fun i=> .int .u64 ((10^i:Nat):Int)
instance U3:aG:=⟨fun g=>if g=1 then some nM else if g=5 then some [.ifc]else if g=2 then some mO else none,some 94,fun g=>if g=153 then some .indexByte else if g=83 then some .same else none⟩
theorem Rr:iB Tryz.prog:=fun g k h=>by
 have h':(if g=153 then some Ez.indexByte else if g=83 then some Ez.same else none)=some k:=h;split at h'
 ·rename_i a
  subst a;cases h';exact⟨Tryz.f153,Tryz.func153,by kernel_rfl,by kernel_rfl,by kernel_rfl,by show Extern.find Tryz.f153=some Extern.BytealgIndexByte.indexByte;kernel_rfl⟩
 ·split at h'
  ·rename_i a
   subst a;cases h';exact⟨Tryz.f83,Tryz.func83,by kernel_rfl,by kernel_rfl,by kernel_rfl,by show Extern.find Tryz.f83=some Extern.AbiNoEscape.same;kernel_rfl⟩
  ·cases h'
theorem bv:jP Tryz.prog:=⟨Tryz.checked.mixed,Rr⟩
theorem Kz:uU Tryz.prog:=fun g h=>by
 have h':some 94=some g:=h;cases h';exact Ol
theorem named:eu Tryz.prog:=Gk (by kernel_rfl) Kz
abbrev dN(n:Nat):AV:= .d (.int .i64 (n:Int))
abbrev dI(n:Int):AV:= .d (.int .i64 n)
abbrev dB(b:Bool):AV:= .d (.bool b)
def gn(P:Program)(a b:Nat)(t:Bool)(h:decide (a<b)=t):cf P:= .val (dB (decide ((a:Int)<(b:Int)))) (dB t) (by
 congr 2;rw[←h];simp)
def cy(P:Program)(i:Nat)(h:i<1099511627776):cf P:= .val (dI (IntKind.i64.wrap ((i:Int)+1))) (dN (i+1)) (by
 congr 2;rw[IntWalk.i64_in _ (by omega)];simp)
def GY(P:Program)(f:Nat):Code:=((P.funcs[f]?).bind (·.body)).getD .skip
def iG(r:Nat):Code→Option Code
 | .loop x=>if f0 x=r then some x else iG r x
 | .seq x y=>match iG r x with
  |some c=>some c
  |none=>iG r y
 | .block _ x=>iG r x
 | .cond _ x y=>match iG r x with
  |some c=>some c
  |none=>iG r y
 |_=>none
def bG(P:Program)(f r:Nat):Code:=(iG r (GY P f)).getD .skip
end Go.Avm
namespace Go.Avm
open Go.Proofs
def MY{P:Program}(f s:Nat):List (Nat×Nat×cf P)→Option (cf P)
 |[]=>none
 |(f',a,h)::r=>bif Nat.beq f f'&&Nat.beq s a then some h else MY f s r
def U4(P:Program)(l:List (Nat×Nat×cf P)):Nat→Nat→Option (cf P):=fun f s=>MY f s l
def GZ{P:Program}(f s b:Nat):List (Nat×Nat×Nat×cf P)→Option (cf P)
 |[]=>none
 |(f',a,c,h)::r=>bif Nat.beq f f'&&Nat.beq s a&&Nat.beq b c then some h else GZ f s b r
def bk(P:Program)(l:List (Nat×Nat×Nat×cf P)):Nat→Nat→Nat→Option (cf P):=fun f s b=>GZ f s b l
def MZ{P:Program}(f s b:Nat):List (Nat×Nat×Nat×fK P)→Option (fK P)
 |[]=>none
 |(f',a,c,h)::r=>bif Nat.beq f f'&&Nat.beq s a&&Nat.beq b c then some h else MZ f s b r
def U5(P:Program)(l:List (Nat×Nat×Nat×fK P)):Nat→Nat→Nat→Option (fK P):=fun f s b=>MZ f s b l
def M0{P:Program}(f s b:Nat):List (Nat×Nat×Nat×PHint P)→Option (PHint P)
 |[]=>none
 |(f',a,c,h)::r=>bif Nat.beq f f'&&Nat.beq s a&&Nat.beq b c then some h else M0 f s b r
def an(P:Program)(l:List (Nat×Nat×Nat×PHint P)):Nat→Nat→Nat→Option (PHint P):=fun f s b=>M0 f s b l
def ab{P:Program}{g:Nat}{args d:List AV}{c b:List (Nat×aK)}(h:∀a:aa,ax P g args (ag c a) d (ag b a)):fK P:=⟨g,args,c,d,b,gM h⟩
def bc{P:Program}{g:Nat}{args c:List AV}{a:List (Nat×aK)}(d:(a.all fun p=>p.2.ob.isSome)=true)(h:∀b:aa,ax P g args (ag a b) c (ag a b)):fK P:=⟨g,args,a,c,[],p9 d h⟩
theorem zv{P:Program}{g:Nat}{args:List AV}{x:AV}{h c h2:aa}(d:iW P g args c x h2)(e:∀k,(c k).ver=(h k).ver∧((c k).ob=none∨(c k).ob=(h k).ob)):iW P g args h x h2:=
 ⟨d.1,fun G B w0 I0 w a i f b=>d.2 G B w0 I0 w a (i.forget e) f b⟩
def bh{P:Program}{g:Nat}{args:List AV}{x:AV}{c b:List (Nat×aK)}(h:∀a:aa,iW P g args (ag c a) x (ag b a)):tK P:=⟨g,args,c,x,b,fun h' d=>zv (h h') (i6 h' c d)⟩
def hB(P:Program)(a b:Bool)(h:a=b):cf P:= .val (dB a) (dB b) (by rw[h])
abbrev rH(L:List T):D:= .ro (L.map tD)
abbrev E1(L:List T)(s:RS):List AV:=[.d (rH L),dN s.i,dI s.op,dI s.n]
abbrev rd(L:List T)(s:RS):List (Nat×aK):=[(500000,⟨1,some (.arr 1 (E1 L s))⟩)]
abbrev rP:AV:= .ptr 500000 1 0 0 1
abbrev dL(p e:Int):AV:= .iv 135 (.d (.agg [.int .i64 p, .int .i64 e]))
def RC{h:Type}(L:List T)(f:Nat)(args:List AV)(g:h→List D)(s:RS):Res h→Prop
 | .ok a c=>c.i<L.length∧∀b:aa,ax Tryz.prog f args (ag (rd L s) b) ((g a).map .d) (ag (rd L c) b)
 | .bad p e c=>∀b:aa,iW Tryz.prog f args (ag (rd L s) b) (dL p e) (ag (rd L c) b)
 | .out=>True
structure dM(L:List T):Prop where
 len:L.length<1000000
 last:∀i x,L[i]? =some x→x.k≠0→i+1<L.length
theorem C9{L:List T}{s:RS}(h:s.i<L.length):L[s.i]? =some (aD L s):=by
 unfold aD;rw[List.getD_eq_getElem?_getD,xH h];rfl
theorem Da{L:List T}(b:dM L){s:RS}(h:s.i<L.length)(a:(aD L s).k≠0):s.i+1<L.length:=b.last s.i _ (C9 h) a
theorem vy{L:List T}(c:dM L){s:RS}(h:s.i<L.length){x:List UInt8}(a:isT L s x=true):s.i+1<L.length:=Da c h fun b=>by
 unfold isT at a;rw[b]at a;simp at a
def U6(P:Program){L:List T}{s:RS}(h:s.i<L.length):cf P:= .idx (L.map tD) ((s.i:Nat):Int) (tD (aD L s)) (by omega) (by rw[xo,xP,C9 h];rfl)
end Go.Avm
namespace Go.Avm
open Go.Proofs
noncomputable abbrev Pg:Program:=Tryz.prog
abbrev RE(N:Nat)(c:Code)(l:List (Nat×AV))(hp:List (Nat×aK))(e:aA)(l':List (Nat×AV))(b:List (Nat×aK)):Prop:=∀(a:aa)(X:cA),X.P=Pg→X.N=N→AW X c ⟨ak l,ag hp a⟩ fun d S'=>d=e∧S'=⟨ak l',ag b a⟩
abbrev RL(N:Nat)(c:Code)(l:List (Nat×AV))(hp:List (Nat×aK))(e:aA)(l':List (Nat×AV))(b:List (Nat×aK)):Prop:=∀(a:aa)(X:cA),X.P=Pg→X.N=N→LW X c ⟨ak l,ag hp a⟩ fun d S'=>d=e∧S'=⟨ak l',ag b a⟩
abbrev RZ(N:Nat)(c:Code)(l:List (Nat×AV))(hp:List (Nat×aK))(e:aA)(l':List (Nat×AV))(b:List (Nat×aK)):Prop:=∀(a:aa)(X:cA),X.P=Pg→X.N=N→AW X c ⟨ak l,ag hp a⟩ fun d S'=>d=e∧Weak X S' ⟨ak l',ag b a⟩
abbrev HC(f:Nat)(a:List AV)(p:List (Nat×aK))(d:List D)(q:List (Nat×aK)):Prop:=∀b:aa,ax Pg f a (ag p b) (d.map .d) (ag q b)
abbrev HX(f:Nat)(a:List AV)(p:List (Nat×aK))(x:AV)(q:List (Nat×aK)):Prop:=∀b:aa,iW Pg f a (ag p b) x (ag q b)
noncomputable abbrev lO(f q:Nat):Code:=bG Pg f q
noncomputable abbrev tH(l:List (Nat×Nat×cf Pg)):Nat→Nat→Option (cf Pg):=U4 Pg l
noncomputable abbrev tC(l:List (Nat×Nat×Nat×fK Pg)):Nat→Nat→Nat→Option (fK Pg):=U5 Pg l
theorem qN(f:Par Pg)(d:Nat){g:Nat}{args:List AV}{ds:List D}{a b:List (Nat×aK)}(c:Cln (a.map (·.1)) 1000000 args a b:=by exact⟨rfl,rfl,rfl,by kernel_rfl,by kernel_rfl,by kernel_rfl⟩)
    (h:∀e:aa,lX (k8 (gC Pg (bi Pg f 2000) d g args (ag a (eV 1000000 e))) (a.map (·.1)) 1000000 ds b)=outR .ret (k8 (gC Pg (bi Pg f 2000) d g args (ag a (eV 1000000 e))) (a.map (·.1)) 1000000 ds b):=by (intro _;kernel_rfl)):HC g args a ds b:=aH bv named f 2000 d g 1000000 c h
theorem qX(f:Par Pg)(d:Nat){g:Nat}{args:List AV}{x:AV}{b a:List (Nat×aK)}(c:Cln (b.map (·.1)) 1000000 args b a:=by exact⟨rfl,rfl,rfl,by kernel_rfl,by kernel_rfl,by kernel_rfl⟩)(i:aX (d7 (b.map (·.1)) 1000000) x=x:=by kernel_rfl)
    (h:∀e:aa,lX (k9 (oA Pg (bi Pg f 2000) d g args (ag b (eV 1000000 e))) 1000000 x a)=outR .ret (k9 (oA Pg (bi Pg f 2000) d g args (ag b (eV 1000000 e))) 1000000 x a):=by (intro _;kernel_rfl)):HX g args b x a:=rB bv named f 2000 d g 1000000 c i h
theorem qE(i:Par Pg)(g f:Nat){N:Nat}{c:Code}{l l':List (Nat×AV)}{a b:List (Nat×aK)}{e:aA}(m:Cln (a.map (·.1)) 1000000 (l.map (·.2)) a b:=by exact⟨rfl,rfl,rfl,by kernel_rfl,by kernel_rfl,by kernel_rfl⟩)(j:bX (d7 (a.map (·.1)) 1000000) (l'.map (·.2))=l'.map (·.2):=by kernel_rfl)(o:GH (d7 (a.map (·.1)) 1000000) e=e:=by kernel_rfl)
    (h:∀d:aa,lX (GJ (bi Pg i 2000 g f N c ⟨ak l,ag a (eV 1000000 d)⟩) (a.map (·.1)) 1000000 [] l' b)=outR e (GJ (bi Pg i 2000 g f N c ⟨ak l,ag a (eV 1000000 d)⟩) (a.map (·.1)) 1000000 [] l' b):=by (intro _;kernel_rfl)):RE N c l a e l' b:=fun d X n k=>lY bv named i 2000 g f N 1000000 [] m j o h d X n k
theorem qV(c:Par Pg)(a:Nat){g:Nat}{ds b:List D}(h:lX (lf (zt (oG Pg (bi Pg c 2000) a g (ds.map .d) J1)) b)=outR .ret (lf (zt (oG Pg (bi Pg c 2000) a g (ds.map .d) J1)) b):=by kernel_rfl):al Pg g ds b:=aI bv named c 2000 a h
noncomputable def qK{a:Type}(s:Nat):List (Nat×a)→Option a
  |[]=>none
  |(k,h)::r=>bif Nat.beq s k then some h else qK s r
noncomputable def qT(f:Nat)(l:List (Nat×cf Pg)):Nat→Nat→Option (cf Pg):=fun f' s=>bif Nat.beq f' f then qK s l else none
noncomputable def qB{a b:Bool}(h:a=b):cf Pg:=hB Pg a b h
noncomputable def qL{a b:Nat}(h:a<b):cf Pg:=gn Pg a b true (by simpa using h)
noncomputable def qG(a:Nat):cf Pg:=gn Pg a a false (by simp)
end Go.Avm
namespace Go.Avm
open Go.Proofs
abbrev UL(n:Int):AV:= .d (.int .u8 n)
def kp:Nat→List Fn→List (D×D×Nat)
 |_,[]=>[]
 |i,f::r=>(.str f.nm, .int .i64 (i:Int),i)::kp (i+1) r
def gG:Nat→List Vr→List (D×D×Nat)
 |_,[]=>[]
 |i,v::r=>(.str v.nm, .agg [],i)::gG (i+1) r
def cU:Nat→hN→List (D×D×Nat)
 |_,[]=>[]
 |i,p::r=>(.str p.1, .int .i64 (p.2:Int),i)::cU (i+1) r
def a8(l:List (Nat×Nat)):List (D×D×Nat):=l.map fun p=>(.int .i64 (p.1:Int), .agg [],p.2)
theorem tV(x:List UInt8):∀(l:hN)(i j:Nat),cq (.str x) (cU i l) j=some ((eZ x l j).map fun r=>(r.1, .int .i64 (r.2:Int)))
 |[],_,_=>rfl
 |e::r,i,j=>by
  simp only[cU,cq,jo,eZ];cases h:(x==e.1)with
  |true=>rfl
  |false=>exact tV x r (i+1) (j+1)
theorem Db(x:List UInt8):∀(l:List Fn)(i j:Nat),cq (.str x) (kp i l) j=some ((cv x l j).map fun r=>(r.1, .int .i64 ((i+(r.1-j):Nat):Int)))
 |[],_,_=>rfl
 |e::r,i,j=>by
  simp only[kp,cq,jo,cv];cases h:(x==e.nm)with
  |true=>simp
  |false=>
   show cq (.str x) (kp (i+1) r) (j+1)=_;rw[Db x r (i+1) (j+1)];simp only[xI];congr 1;cases d:cv x r (j+1)with
   |none=>rfl
   |some q=>
    have:j+1≤q.1:=by
     clear h;revert d;generalize j+1=m;induction r generalizing m with
     |nil=>intro h;cases h
     |cons a r c=>
      intro h;simp only[cv]at h;cases b:(x==a.nm)with
      |true=>rw[b]at h;simp at h;subst h;exact xS _
      |false=>rw[b]at h;exact Nat.le_of_succ_le (c (m+1) h)
    simp only[xc];congr 3;omega
theorem oH(x:Nat):∀(l:List (Nat×Nat))(j:Nat),cq (.int .i64 (x:Int)) (a8 l) j=some ((bW x l j).map fun r=>(r, .agg []))
 |[],_=>rfl
 |e::r,j=>by
  simp only[a8,xN,cq,jo,bW,yS]
  have a:((x:Int)==(e.1:Int))=(x==e.1):=by
   rw[Bool.eq_iff_iff,xm,xm];exact Int.ofNat_inj
  rw[a];cases h:(x==e.1)with
  |true=>rfl
  |false=>exact oH x r (j+1)
theorem fg(x:List UInt8):∀(l:List Vr)(i j:Nat),(l.any fun v=>v.nm==x)=false→cq (.str x) (gG i l) j=some none
 |[],_,_,_=>rfl
 |e::r,i,j,h=>by
  simp only[List.any_cons,zE]at h
  have a:(x==e.nm)=false:=by
   have:=h.1;rw[yZ]at this ⊢;exact this.symm
  simp only[gG,cq,jo,a];exact fg x r (i+1) (j+1) h.2
theorem tW(x:List UInt8):∀(l:List Vr)(i j:Nat),(l.any fun v=>v.nm==x)=true→∃q,cq (.str x) (gG i l) j=some (some (q, .agg []))
 |[],_,_,h=>by cases h
 |e::r,i,j,h=>by
  simp only[gG,cq,jo];cases a:(x==e.nm)with
  |true=>exact⟨j,rfl⟩
  |false=>
   refine tW x r (i+1) (j+1) ?_;simp only[List.any_cons,xy]at h;refine h.resolve_left fun h2=> ?_
   rw[xm]at h2;rw[h2]at a;simp at a
abbrev aE:AV:= .ptr 500000 1 0 0 1
structure CK where
 fs:List Fn
 fn:Nat
 W:List AV
 deep:Int
 c:CS
 vh:Nat
 vs:Nat
 vq:Nat
 vp:Nat
 vv:Nat
def cO(p:Pt):AV:= .d (Kp p)
def A2(x:Vr):AV:= .d (rC x)
abbrev lg(b:Nat)(a:List Vr):AV:= .sl 500005 b 0 a.length 4
abbrev Dc(S:CK):List AV:=[.mp 499904 1, .d (.ro (S.fs.map c2)), .sl 500191 1 0 S.fs.length 1, .sl 500382 S.vp 0 S.c.pts.length 3,dN S.fn, .mp 500002 S.vh, .mp 500003 S.vs, .mp 500004 S.vq,dI S.deep]
abbrev ck(S:CK):List (Nat×aK):=
 [(500000,⟨1,some (.arr 1 (Dc S))⟩),(499904,⟨1,some (.map (kp 0 S.fs) S.fs.length)⟩),(500002,⟨S.vh,some (.map (gG 0 S.c.vars) S.c.vars.length)⟩),(500003,⟨S.vs,some (.map (cU 0 S.c.seen) S.c.seen.length)⟩),
  (500004,⟨S.vq,some (.map (a8 S.c.sure.l) S.c.sure.c)⟩),(500005,⟨S.vv,some (.arr 4 (S.c.vars.map A2))⟩),(500382,⟨S.vp,some (.arr 3 (S.c.pts.map cO))⟩),(500191,⟨1,some (.arr 1 (S.W.set S.fn (lg S.vv S.c.vars)))⟩)]
abbrev aB(p e:Int):AV:= .iv 142 (.d (.agg [.int .i64 p, .int .i64 e]))
def TX{b:Type}(S:CK)(f:Nat)(args:List AV)(g:b→List D):TR b→Prop
 | .ok a=>HC f args (ck S) (g a) (ck S)
 | .bad p e=>HX f args (ck S) (aB p e) (ck S)
 | .out=>True
structure CKok(S:CK):Prop where
 fn:S.fn<S.fs.length
 W:S.W.length=S.fs.length
 dat:∀x∈S.W,x= .nils∨∃d,x= .d d
 len:S.fs.length<1000000
 par:∀f∈S.fs,f.ps.length≤6
 vars:S.c.vars.length≤255
 seen:∀p∈S.c.seen,p.2<S.c.vars.length
 inc:(S.c.seen.map (·.2)).Pairwise (· < ·)
 nms:(S.c.seen.map (·.1)).Nodup
 nml:∀p∈S.c.seen,p.1.length≤1000000
 had:∀p∈S.c.seen,(S.c.vars.any fun v=>v.nm==p.1)=true
 sk:(S.c.sure.l.map (·.1)).Nodup
 sb:(S.c.sure.l.map (·.2)).Nodup
 sc:∀p∈S.c.sure.l,p.2<S.c.sure.c
 sv:∀p∈S.c.sure.l,p.1<S.c.vars.length
 pts:S.c.pts.length<1000000000
theorem oI{x:List UInt8}:∀{l:hN}{j:Nat}{r:Nat×Nat},eZ x l j=some r→(x,r.2)∈l
 |[],_,_,h=>by cases h
 |e::l,j,r,h=>by
  simp only[eZ]at h;cases a:(x==e.1)with
  |true=>
   rw[a]at h;simp only[xR,xA]at h;subst h;rw[eq_of_beq a];simp
  |false=>
   rw[a]at h;exact xW _ (oI h)
theorem Dd{S:CK}(h:CKok S){x:List UInt8}{j i:Nat}(a:eZ x S.c.seen 0=some (j,i)):i<S.c.vars.length:=h.seen _ (oI a)
def Om(P:Program){S:CK}(h:CKok S):cf P:= .elt (S.W.set S.fn (lg S.vv S.c.vars)) (0+(S.fn:Int).toNat) (lg S.vv S.c.vars) (by simp[h.W,h.fn])
def U7(P:Program){S:CK}(h:CKok S):cf P:= .inb (S.fn:Int) S.fs.length (by omega) (by simpa using h.fn)
def U8(P:Program)(a:List Vr)(i:Nat)(h:i<a.length):cf P:= .inb (i:Int) a.length (by omega) (by simpa using h)
def Rs(P:Program)(a:List Vr)(i:Nat)(h:i<a.length):cf P:= .elt (a.map A2) (0+(i:Int).toNat) (A2 (a.getD i default)) (by simp[h])
def G4(P:Program)(x:List UInt8)(l:hN)(r:Option (Nat×Nat))(h:eZ x l 0=r):cf P:= .look (.str x) (cU 0 l) (r.map fun r=>(r.1, .int .i64 (r.2:Int))) (by rw[tV,h])
def lh(P:Program)(x:Nat)(l:List (Nat×Nat))(r:Option Nat)(h:bW x l 0=r):cf P:= .look (.int .i64 (x:Int)) (a8 l) (r.map fun r=>(r, .agg [])) (by rw[oH,h])
def oJ(P:Program)(x:List UInt8)(l:List Fn)(r:Option (Nat×Fn))(h:cv x l 0=r):cf P:= .look (.str x) (kp 0 l) (r.map fun r=>(r.1, .int .i64 (r.1:Int))) (by rw[Db,h];simp)
theorem nN(ρ:Nat→Nat):∀l:List Pt,bX ρ (l.map cO)=l.map cO
 |[]=>rfl
 |a::r=>by
  simp only[xN,bX,nN ρ r];rfl
theorem rI(ρ:Nat→Nat):∀l:List Vr,bX ρ (l.map A2)=l.map A2
 |[]=>rfl
 |a::r=>by
  simp only[xN,bX,rI ρ r];rfl
theorem nO{ρ:Nat→Nat}:∀{l:List AV},(∀x∈l,aX ρ x=x)→bX ρ l=l
 |[],_=>rfl
 |a::r,h=>by
  simp only[bX];rw[h a (by simp),nO (l:=r) (fun x b=>h x (by simp[b]))]
theorem M1{S:CK}(h:CKok S){ρ:Nat→Nat}(b:ρ 500005=500005):bX ρ (S.W.set S.fn (lg S.vv S.c.vars))=S.W.set S.fn (lg S.vv S.c.vars):=
 nO fun x a=>by
  rcases xu a with a|rfl
  ·rcases h.dat x a with rfl|⟨d,rfl⟩<;>rfl
  ·show AV.sl (ρ 500005) _ _ _ _=_
   rw[b]
theorem f9{S:CK}(h:CKok S){ρ:Nat→Nat}(a:([499904,500002,500003,500004,500005,500382,500191].map ρ)=[499904,500002,500003,500004,500005,500382,500191]):((ck S).map fun p=>cD ρ p.2)=(ck S).map (·.2):=by
 simp only[xN,xk,List.cons.injEq,yr]at a;obtain⟨c,h2,e,b,g,f,d⟩:=a;simp only[ck,Dc,xN,xk,cD,xc,gh,nN,rI,M1 h g,bX,aX,c,h2,e,b,f,d]
theorem ay{S S':CK}(h:CKok S)(h':CKok S'){ar:List AV}(a:bX (d7 ((ck S).map (·.1)) 1000000) ar=ar):Cln ((ck S).map (·.1)) 1000000 ar (ck S) (ck S'):=
 ⟨rfl,rfl,rfl,a,f9 h rfl,f9 h' rfl⟩
theorem zw{G:Gh}{w:World}{ar:List AV}{K v sz:Nat}{ds:List D}{b:Array Value}(a:∀(i:Nat)(x:AV)(u:Value),(ar ++[.vec K v sz ds])[i]? =some x→b[i]? =some u→Rep G w x u):
    ∀(i:Nat)(x:AV)(u:Value),(ar ++[.d (.ro ds)])[i]? =some x→b[i]? =some u→Rep G w x u:=fun i x u c g=>by
 by_cases f:i<ar.length
 ·rw[xU f]at c
  exact a i x u (by rw[xU f];exact c) g
 ·rw[xV (by omega)]at c
  have e:i-ar.length=0:=by
   have:=(xE.1 c).1;simp at this;omega
  rw[e]at c;simp only[xl,xA]at c;subst c;have j:=a i (.vec K v sz ds) u (by rw[xV (by omega),e];rfl) g;cases j with
  |vecNil=>exact .d (.roNil _ _)
  |vec _ _ _ L _ _ _ _ h=>exact .d h
theorem E2{P:Program}{f:Nat}{ar:List AV}{i:List AV}{g b:List (Nat×aK)}{ds:List D}(h:∀a:aa,ax P f (ar ++[.d (.ro ds)]) (ag g a) i (ag b a))(K v sz:Nat)(a:aa):
    ax P f (ar ++[.vec K v sz ds]) (ag g a) i (ag b a):=
 ⟨(h a).1,fun G B w0 I0 w c k j e=>(h a).2 G B w0 I0 w c k (by simpa using j) (zw e)⟩
theorem G5{P:Program}{f:Nat}{ar:List AV}{y:AV}{g b:List (Nat×aK)}{ds:List D}(h:∀a:aa,iW P f (ar ++[.d (.ro ds)]) (ag g a) y (ag b a))(K v sz:Nat)(a:aa):
    iW P f (ar ++[.vec K v sz ds]) (ag g a) y (ag b a):=
 ⟨(h a).1,fun G B w0 I0 w c j i e=>(h a).2 G B w0 I0 w c j (by simpa using i) (zw e)⟩
end Go.Avm
namespace Go.Avm
open Go.Proofs
theorem b7(p e:Int):HX 47 [dB false,dI p,dI e] [] (aB p e) []:=
 qX {pans:=an Pg [(47,1,1024,⟨4,none,[]⟩)]} 1000
theorem aV(p e:Int):HC 47 [dB true,dI p,dI e] [] [] []:=
 qN {} 1000
section
variable{S:CK}(h:CKok S)
include h
section
variable(nm:List UInt8)(p:Int)
include nm p
theorem Rt(j i:Nat)(a:eZ nm S.c.seen 0=some (j,i)):HC 105 [aE, .d (.str nm),dI p] (ck S) [.int .i64 (i:Int),rC (S.c.vars.getD i default)] (ck S):=
 qN {hint:=tH [(105,16,G4 Pg nm S.c.seen (some (j,i)) a),(73,12,U7 Pg h),(73,13,Om Pg h),(105,26,U8 Pg S.c.vars i (Dd h a)),(105,27,Rs Pg S.c.vars i (Dd h a))]} 1000 (ay h h rfl)
theorem Oo(a:eZ nm S.c.seen 0=none):HX 105 [aE, .d (.str nm),dI p] (ck S) (aB p 6) (ck S):=
 qX {hint:=qT 105 [(16,G4 Pg nm S.c.seen none a)],pans:=an Pg [(105,2,1364,⟨2,some (bh (b7 p 6)),[]⟩)]} 1000 (ay h h rfl)
theorem Oq:TX S 105 [aE, .d (.str nm),dI p] (fun r=>[.int .i64 (r.1:Int),rC r.2]) (lZ (S.c.te S.fs) nm p):=by
 unfold lZ;show TX S _ _ _ (match eZ nm S.c.seen 0 with|some (_,i)=> .ok (i,S.c.vars.getD i default)|none=> .bad p 6);cases a:eZ nm S.c.seen 0 with
 |none=>exact Oo h nm p a
 |some r=>
  obtain⟨j,i⟩:=r;exact Rt h nm p j i a
theorem Ru(i:Nat)(v:Vr)(c:HC 105 [aE, .d (.str nm),dI p] (ck S) [.int .i64 (i:Int),rC v] (ck S))(a:(v.ty==3)=true):
    HC 107 [aE, .d (.str nm),dI p] (ck S) [] (ck S):=
 qN {hint:=qT 107 [(17,qB a)],calls:=tC [(107,12,1060,ab c)]} 1000 (ay h h rfl)
theorem Ot(i:Nat)(v:Vr)(c:HC 105 [aE, .d (.str nm),dI p] (ck S) [.int .i64 (i:Int),rC v] (ck S))(a:(v.ty==3)=false):
    HX 107 [aE, .d (.str nm),dI p] (ck S) (aB p 8) (ck S):=
 qX {hint:=qT 107 [(17,qB a)],calls:=tC [(107,12,1060,ab c)],pans:=an Pg [(107,1,1180,⟨4,some (bh (b7 p 8)),[]⟩)]} 1000 (ay h h rfl)
end
theorem Rv(nm:List UInt8)(p q e:Int)(c:HX 105 [aE, .d (.str nm),dI p] (ck S) (aB q e) (ck S)):
    HX 107 [aE, .d (.str nm),dI p] (ck S) (aB q e) (ck S):=
 qX {pans:=an Pg [(107,0,1000,⟨3,some (bh c),[]⟩)]} 1000 (ay h h rfl)
theorem Ou(nm:List UInt8)(p:Int):TX S 107 [aE, .d (.str nm),dI p] (fun _=>[]) (pX (S.c.te S.fs) nm p):=by
 unfold pX;have b:=Oq h nm p;revert b;cases lZ (S.c.te S.fs) nm p with
 |out=>exact fun _=>trivial
 |bad q e=>exact fun c=>Rv h nm p q e c
 |ok r=>
  obtain⟨i,v⟩:=r;intro c;simp only[TR.bind];cases a:(v.ty==3)with
  |true=>exact Ru h nm p i v c a
  |false=>exact Ot h nm p i v c a
end
end Go.Avm
namespace Go.Avm
open Go.Proofs
abbrev gj(n:Int):D:= .int .u8 n
section
variable{S:CK}(h:CKok S)(k o:Int)(nm:List UInt8)(n p:Int)(xs:List Ex)
include h
theorem Rx(a t:Int)(c:HC 112 [aE, .d (ez (.mk k o nm n p xs))] (ck S) [gj t] (ck S))(b:(t==a)=true):
    HC 106 [aE, .d (ez (.mk k o nm n p xs)), .d (.ro [gj a])] (ck S) [gj t] (ck S):=
 qN {hint:=qT 158 [(16,qB b)],calls:=tC [(106,10,1072,ab c)]} 1000 (ay h h rfl)
theorem Ov(a t:Int)(c:HC 112 [aE, .d (ez (.mk k o nm n p xs))] (ck S) [gj t] (ck S))(b:(t==a)=false):
    HX 106 [aE, .d (ez (.mk k o nm n p xs)), .d (.ro [gj a])] (ck S) (aB p 8) (ck S):=
 qX {hint:=qT 158 [(16,qB b)],calls:=tC [(106,10,1072,ab c)],pans:=an Pg [(106,2,1090,⟨5,some (bh (b7 p 8)),[]⟩)]} 1000 (ay h h rfl)
theorem G6(ts:List D)(q e:Int)(c:HX 112 [aE, .d (ez (.mk k o nm n p xs))] (ck S) (aB q e) (ck S)):
    HX 106 [aE, .d (ez (.mk k o nm n p xs)), .d (.ro ts)] (ck S) (aB q e) (ck S):=
 qX {pans:=an Pg [(106,1,1036,⟨2,some (bh c),[]⟩)]} 1000 (ay h h rfl)
section
variable(a b t:Int)(c:HC 112 [aE, .d (ez (.mk k o nm n p xs))] (ck S) [gj t] (ck S))
include a b t c
theorem Ry(f:(t==a)=false)(e:(t==b)=true):
    HC 106 [aE, .d (ez (.mk k o nm n p xs)), .d (.ro [gj a,gj b])] (ck S) [gj t] (ck S):=
 qN {hintB:=bk Pg [(158,16,228,qB f),(158,16,437,qB e)],calls:=tC [(106,10,1072,ab c)]} 1000 (ay h h rfl)
theorem Ow(e:(t==a)=true):
    HC 106 [aE, .d (ez (.mk k o nm n p xs)), .d (.ro [gj a,gj b])] (ck S) [gj t] (ck S):=
 qN {hint:=qT 158 [(16,qB e)],calls:=tC [(106,10,1072,ab c)]} 1000 (ay h h rfl)
theorem Ox(f:(t==a)=false)(e:(t==b)=false):
    HX 106 [aE, .d (ez (.mk k o nm n p xs)), .d (.ro [gj a,gj b])] (ck S) (aB p 8) (ck S):=
 qX {hintB:=bk Pg [(158,16,228,qB f),(158,16,437,qB e)],calls:=tC [(106,10,1072,ab c)],pans:=an Pg [(106,2,1090,⟨5,some (bh (b7 p 8)),[]⟩)]} 1000 (ay h h rfl)
end
end
section
variable{S:CK}(h:CKok S)(e:Ex)(c:TX S 112 [aE, .d (ez e)] (fun t=>[gj t]) (ev (S.c.te S.fs) e))
include h c
theorem mP(a:Int):TX S 106 [aE, .d (ez e), .d (.ro [gj a])] (fun t=>[gj t]) (cB (S.c.te S.fs) e [a]):=by
 obtain⟨k,o,nm,n,p,xs⟩:=e;unfold cB;revert c;cases ev (S.c.te S.fs) (.mk k o nm n p xs)with
 |out=>exact fun _=>trivial
 |bad q r=>exact fun c=>G6 h k o nm n p xs _ q r c
 |ok t=>
  intro c;simp only[TR.bind];have f:[a].contains t=(t==a):=by cases b:(t==a)<;>simp[List.contains,List.elem,b]
  rw[f];cases b:(t==a)with
  |true=>exact Rx h k o nm n p xs a t c b
  |false=>exact Ov h k o nm n p xs a t c b
theorem G7(a b:Int):TX S 106 [aE, .d (ez e), .d (.ro [gj a,gj b])] (fun t=>[gj t]) (cB (S.c.te S.fs) e [a,b]):=by
 obtain⟨k,o,nm,n,p,xs⟩:=e;unfold cB;revert c;cases ev (S.c.te S.fs) (.mk k o nm n p xs)with
 |out=>exact fun _=>trivial
 |bad q r=>exact fun c=>G6 h k o nm n p xs _ q r c
 |ok t=>
  intro c;simp only[TR.bind];cases f:(t==a)with
  |true=>
   have g:[a,b].contains t=true:=by simp[List.contains,List.elem,f]
   rw[g];exact Ow h k o nm n p xs a b t c f
  |false=>cases i:(t==b)with
   |true=>
    have g:[a,b].contains t=true:=by simp[List.contains,List.elem,f,i]
    rw[g];exact Ry h k o nm n p xs a b t c f i
   |false=>
    have g:[a,b].contains t=false:=by simp[List.contains,List.elem,f,i]
    rw[g];exact Ox h k o nm n p xs a b t c f i
end
section
variable{S:CK}{e:Ex}
theorem wO{ds:List D}{t:Int}(c:HC 106 [aE, .d (ez e), .d (.ro ds)] (ck S) [gj t] (ck S))(K:Nat):
    HC 106 [aE, .d (ez e), .vec K 1 1 ds] (ck S) [gj t] (ck S):=
 E2 (ar:=[aE, .d (ez e)]) c K 1 1
theorem wP{ds:List D}{q r:Int}(c:HX 106 [aE, .d (ez e), .d (.ro ds)] (ck S) (aB q r) (ck S))(K:Nat):
    HX 106 [aE, .d (ez e), .vec K 1 1 ds] (ck S) (aB q r) (ck S):=
 G5 (ar:=[aE, .d (ez e)]) c K 1 1
end
end Go.Avm
namespace Go.Avm
open Go.Proofs
theorem bE(E:TE)(x:Ex)(xs:List Ex)(ts:List Int)(r:List (List Int))(a:Bool):aF E (x::xs) (ts::r) a=(cB E x ts).bind fun t=>aF E xs (bif a then [[t]]else r) false:=by
 simp only[aF,cB];cases ev E x with
 |ok t=>simp only[TR.bind];cases ts.contains t<;>rfl
 |bad p e=>rfl
 |out=>rfl
abbrev hO(k o:Int)(nm:List UInt8)(n p:Int)(xs:List Ex):AV:= .d (ez (.mk k o nm n p xs))
abbrev l5(S:CK)(e:Ex)(ts:List Int)(t:Int):Prop:=HC 106 [aE, .d (ez e), .d (.ro (ts.map gj))] (ck S) [gj t] (ck S)
abbrev iX(S:CK)(e:Ex)(ts:List Int)(q r:Int):Prop:=HX 106 [aE, .d (ez e), .d (.ro (ts.map gj))] (ck S) (aB q r) (ck S)
section
variable{S:CK}(h:CKok S)(k o:Int)(nm:List UInt8)(n p:Int)(g e:Int)(b:List UInt8)(f d:Int)(a:List Ex)(m j:Int)(c:List UInt8)(i l:Int)(cz:List Ex)(zs:List Ex)
include h
theorem Rz(t u:Int)(s:(o==17)=(17==17))(q:(o==18)=(18==17))(c1:l5 S (.mk g e b f d a) [2] t)(r:l5 S (.mk m j c i l cz) [2] u):
    HC 137 [aE,hO k o nm n p (.mk g e b f d a:: .mk m j c i l cz::zs)] (ck S) [gj u] (ck S):=
 qN {hint:=qT 137 [(18,hB Pg (o==17) (17==17) s)],calls:=tC [(137,23,2050,bc rfl (wO c1 2022)),(137,27,2200,bc rfl (wO r 2176))]} 1000 (ay h h rfl)
theorem Oy(t q r:Int)(v:(o==17)=(17==17))(s:(o==18)=(18==17))(c1:l5 S (.mk g e b f d a) [2] t)(u:iX S (.mk m j c i l cz) [2] q r):
    HX 137 [aE,hO k o nm n p (.mk g e b f d a:: .mk m j c i l cz::zs)] (ck S) (aB q r) (ck S):=
 qX {hint:=qT 137 [(18,hB Pg (o==17) (17==17) v)],calls:=tC [(137,23,2050,bc rfl (wO c1 2022))],pans:=an Pg [(137,6,2050,⟨3,some (bh (wP u 2176)),[]⟩)]} 1000 (ay h h rfl)
theorem Oz(q r:Int)(t:(o==17)=(17==17))(s:(o==18)=(18==17))(c1:iX S (.mk g e b f d a) [2] q r):
    HX 137 [aE,hO k o nm n p (.mk g e b f d a:: .mk m j c i l cz::zs)] (ck S) (aB q r) (ck S):=
 qX {hint:=qT 137 [(18,hB Pg (o==17) (17==17) t)],pans:=an Pg [(137,5,1900,⟨3,some (bh (wP c1 2022)),[]⟩)]} 1000 (ay h h rfl)
theorem RA(t u:Int)(s:(o==17)=(17==18))(q:(o==18)=(18==18))(c1:l5 S (.mk g e b f d a) [2] t)(r:l5 S (.mk m j c i l cz) [2] u):
    HC 137 [aE,hO k o nm n p (.mk g e b f d a:: .mk m j c i l cz::zs)] (ck S) [gj u] (ck S):=
 qN {hint:=qT 137 [(18,hB Pg (o==17) (17==18) s),(19,hB Pg (o==18) (18==18) q)],calls:=tC [(137,23,2150,bc rfl (wO c1 2122)),(137,27,2300,bc rfl (wO r 2276))]} 1000 (ay h h rfl)
theorem OA(t q r:Int)(v:(o==17)=(17==18))(s:(o==18)=(18==18))(c1:l5 S (.mk g e b f d a) [2] t)(u:iX S (.mk m j c i l cz) [2] q r):
    HX 137 [aE,hO k o nm n p (.mk g e b f d a:: .mk m j c i l cz::zs)] (ck S) (aB q r) (ck S):=
 qX {hint:=qT 137 [(18,hB Pg (o==17) (17==18) v),(19,hB Pg (o==18) (18==18) s)],calls:=tC [(137,23,2150,bc rfl (wO c1 2122))],pans:=an Pg [(137,6,2150,⟨3,some (bh (wP u 2276)),[]⟩)]} 1000 (ay h h rfl)
theorem OD(q r:Int)(t:(o==17)=(17==18))(s:(o==18)=(18==18))(c1:iX S (.mk g e b f d a) [2] q r):
    HX 137 [aE,hO k o nm n p (.mk g e b f d a:: .mk m j c i l cz::zs)] (ck S) (aB q r) (ck S):=
 qX {hint:=qT 137 [(18,hB Pg (o==17) (17==18) t),(19,hB Pg (o==18) (18==18) s)],pans:=an Pg [(137,5,2000,⟨3,some (bh (wP c1 2122)),[]⟩)]} 1000 (ay h h rfl)
theorem RB(t u:Int)(w:(o==17)=false)(q:(o==18)=false)(r:(o==15)=(15==15))(s:(o==16)=(16==15))(c1:l5 S (.mk g e b f d a) [1,2] t)(v:l5 S (.mk m j c i l cz) [t] u):
    HC 137 [aE,hO k o nm n p (.mk g e b f d a:: .mk m j c i l cz::zs)] (ck S) [gj 2] (ck S):=
 qN {hint:=qT 137 [(18,qB w),(19,qB q),(29,hB Pg (o==15) (15==15) r)],calls:=tC [(137,36,2350,bc rfl (wO c1 2335)),(137,38,2400,bc rfl (wO v 2387))]} 1000 (ay h h rfl)
theorem OE(t q r:Int)(x:(o==17)=false)(s:(o==18)=false)(u:(o==15)=(15==15))(v:(o==16)=(16==15))(c1:l5 S (.mk g e b f d a) [1,2] t)(w:iX S (.mk m j c i l cz) [t] q r):
    HX 137 [aE,hO k o nm n p (.mk g e b f d a:: .mk m j c i l cz::zs)] (ck S) (aB q r) (ck S):=
 qX {hint:=qT 137 [(18,qB x),(19,qB s),(29,hB Pg (o==15) (15==15) u)],calls:=tC [(137,36,2350,bc rfl (wO c1 2335))],pans:=an Pg [(137,9,2100,⟨7,some (bh (wP w 2387)),[7]⟩)]} 1000 (ay h h rfl)
theorem OF(q r:Int)(v:(o==17)=false)(s:(o==18)=false)(t:(o==15)=(15==15))(u:(o==16)=(16==15))(c1:iX S (.mk g e b f d a) [1,2] q r):
    HX 137 [aE,hO k o nm n p (.mk g e b f d a:: .mk m j c i l cz::zs)] (ck S) (aB q r) (ck S):=
 qX {hint:=qT 137 [(18,qB v),(19,qB s),(29,hB Pg (o==15) (15==15) t)],pans:=an Pg [(137,9,2100,⟨5,some (bh (wP c1 2335)),[]⟩)]} 1000 (ay h h rfl)
theorem RD(t u:Int)(w:(o==17)=false)(r:(o==18)=false)(s:(o==15)=(15==16))(q:(o==16)=(16==16))(c1:l5 S (.mk g e b f d a) [1,2] t)(v:l5 S (.mk m j c i l cz) [t] u):
    HC 137 [aE,hO k o nm n p (.mk g e b f d a:: .mk m j c i l cz::zs)] (ck S) [gj 2] (ck S):=
 qN {hint:=qT 137 [(18,qB w),(19,qB r),(29,hB Pg (o==15) (15==16) s),(30,hB Pg (o==16) (16==16) q)],calls:=tC [(137,36,2450,bc rfl (wO c1 2435)),(137,38,2500,bc rfl (wO v 2487))]} 1000 (ay h h rfl)
theorem OG(t q r:Int)(x:(o==17)=false)(u:(o==18)=false)(v:(o==15)=(15==16))(s:(o==16)=(16==16))(c1:l5 S (.mk g e b f d a) [1,2] t)(w:iX S (.mk m j c i l cz) [t] q r):
    HX 137 [aE,hO k o nm n p (.mk g e b f d a:: .mk m j c i l cz::zs)] (ck S) (aB q r) (ck S):=
 qX {hint:=qT 137 [(18,qB x),(19,qB u),(29,hB Pg (o==15) (15==16) v),(30,hB Pg (o==16) (16==16) s)],calls:=tC [(137,36,2450,bc rfl (wO c1 2435))],pans:=an Pg [(137,9,2200,⟨7,some (bh (wP w 2487)),[7]⟩)]} 1000 (ay h h rfl)
theorem OH(q r:Int)(v:(o==17)=false)(s:(o==18)=false)(u:(o==15)=(15==16))(t:(o==16)=(16==16))(c1:iX S (.mk g e b f d a) [1,2] q r):
    HX 137 [aE,hO k o nm n p (.mk g e b f d a:: .mk m j c i l cz::zs)] (ck S) (aB q r) (ck S):=
 qX {hint:=qT 137 [(18,qB v),(19,qB s),(29,hB Pg (o==15) (15==16) u),(30,hB Pg (o==16) (16==16) t)],pans:=an Pg [(137,9,2200,⟨5,some (bh (wP c1 2435)),[]⟩)]} 1000 (ay h h rfl)
section
variable(t u:Int)(v:(o==17)=false)(q:(o==18)=false)(s:(o==15)=false)(r:(o==16)=false)
include t u v q s r
theorem KA(w:decide (11≤o)=true)(c1:l5 S (.mk g e b f d a) [1] t)(x:l5 S (.mk m j c i l cz) [1] u):
    HC 137 [aE,hO k o nm n p (.mk g e b f d a:: .mk m j c i l cz::zs)] (ck S) [gj (bif true then 2 else 1)] (ck S):=
 qN {hint:=qT 137 [(18,qB v),(19,qB q),(29,qB s),(30,qB r),(49,qB w)],calls:=tC [(137,42,2350,bc rfl (wO c1 2341)),(137,46,2500,bc rfl (wO x 2495))]} 1000 (ay h h rfl)
theorem G8(w:decide (11≤o)=false)(c1:l5 S (.mk g e b f d a) [1] t)(x:l5 S (.mk m j c i l cz) [1] u):
    HC 137 [aE,hO k o nm n p (.mk g e b f d a:: .mk m j c i l cz::zs)] (ck S) [gj (bif false then 2 else 1)] (ck S):=
 qN {hint:=qT 137 [(18,qB v),(19,qB q),(29,qB s),(30,qB r),(49,qB w)],calls:=tC [(137,42,2350,bc rfl (wO c1 2341)),(137,46,2500,bc rfl (wO x 2495))]} 1000 (ay h h rfl)
end
theorem U9(t q r:Int)(x:(o==17)=false)(u:(o==18)=false)(v:(o==15)=false)(s:(o==16)=false)(c1:l5 S (.mk g e b f d a) [1] t)(w:iX S (.mk m j c i l cz) [1] q r):
    HX 137 [aE,hO k o nm n p (.mk g e b f d a:: .mk m j c i l cz::zs)] (ck S) (aB q r) (ck S):=
 qX {hint:=qT 137 [(18,qB x),(19,qB u),(29,qB v),(30,qB s)],calls:=tC [(137,42,2350,bc rfl (wO c1 2341))],pans:=an Pg [(137,12,2350,⟨3,some (bh (wP w 2495)),[]⟩)]} 1000 (ay h h rfl)
theorem Va(q r:Int)(v:(o==17)=false)(s:(o==18)=false)(u:(o==15)=false)(t:(o==16)=false)(c1:iX S (.mk g e b f d a) [1] q r):
    HX 137 [aE,hO k o nm n p (.mk g e b f d a:: .mk m j c i l cz::zs)] (ck S) (aB q r) (ck S):=
 qX {hint:=qT 137 [(18,qB v),(19,qB s),(29,qB u),(30,qB t)],pans:=an Pg [(137,11,2200,⟨3,some (bh (wP c1 2341)),[]⟩)]} 1000 (ay h h rfl)
end
abbrev WX(S:CK)(e:Ex)(ts:List Int):Prop:=TX S 106 [aE, .d (ez e), .d (.ro (ts.map gj))] (fun t=>[gj t]) (cB (S.c.te S.fs) e ts)
abbrev De(E:TE)(o:Int)(xs:List Ex):TR Int:=bif decide (xs.length<2)then .out else (bif o==17||o==18 then (aF E xs [[2],[2]] false).bind fun _=> .ok 2
      else bif o==15||o==16 then (aF E xs [[1,2],[]] true).bind fun _=> .ok 2
      else (aF E xs [[1],[1]] false).bind fun _=> .ok (bif decide (11≤o)then 2 else 1))
theorem vz{E:TE}{e:Ex}{ts:List Int}{t:Int}(h:cB E e ts= .ok t):ts.contains t=true:=by
 unfold cB at h;cases a:ev E e with
 |bad p q=>rw[a]at h;cases h
 |out=>rw[a]at h;cases h
 |ok u=>
  rw[a]at h;simp only[TR.bind]at h;cases b:ts.contains u with
  |false=>rw[b]at h;cases h
  |true=>
   rw[b]at h;cases h;exact b
theorem RF{S:CK}(h:CKok S)(k o:Int)(nm:List UInt8)(n p:Int)(xs:List Ex)(I:∀e∈xs,TX S 112 [aE, .d (ez e)] (fun t=>[gj t]) (ev (S.c.te S.fs) e)):
    TX S 137 [aE,hO k o nm n p xs] (fun t=>[gj t]) (De (S.c.te S.fs) o xs):=by
 match xs,I with
 |[],_=>exact trivial
 |[_],_=>exact trivial
 | .mk B m g w s i:: .mk z v f A y cz::zs,I=>
  have Q:=I (.mk B m g w s i) (by simp);have W:=I (.mk z v f A y cz) (by simp);have T:decide ((Ex.mk B m g w s i::Ex.mk z v f A y cz::zs).length<2)=false:=by simp
  simp only[De,T,xI];have R:∀a,WX S _ [a]:=fun a=>mP h _ Q a
  have L:∀a,WX S _ [a]:=fun a=>mP h _ W a
  have K:WX S _ [1,2]:=G7 h _ Q 1 2
  have P:∀a b,aF (S.c.te S.fs) (.mk B m g w s i:: .mk z v f A y cz::zs) [[a],[b]] false=(cB (S.c.te S.fs) (.mk B m g w s i) [a]).bind fun _=>(cB (S.c.te S.fs) (.mk z v f A y cz) [b]).bind fun _=> .ok ():=fun a b=>by
   rw[bE];congr 1;funext t;simp only[xI];rw[bE];congr 1;funext t;cases zs<;>rfl
  have U:aF (S.c.te S.fs) (.mk B m g w s i:: .mk z v f A y cz::zs) [[1,2],[]] true=(cB (S.c.te S.fs) (.mk B m g w s i) [1,2]).bind fun t=>(cB (S.c.te S.fs) (.mk z v f A y cz) [t]).bind fun _=> .ok ():=by
   rw[bE];congr 1;funext t;simp only[xR];rw[bE];congr 1;funext t;cases zs<;>rfl
  rw[P,P,U]
  have E:∀(c:Int),(o==17)=(17==c)→(o==18)=(18==c)→(c=17∨c=18)→TX S 137 [aE,hO k o nm n p (.mk B m g w s i:: .mk z v f A y cz::zs)] (fun t=>[gj t]) (((cB (S.c.te S.fs) (.mk B m g w s i) [2]).bind fun _=>(cB (S.c.te S.fs) (.mk z v f A y cz) [2]).bind fun _=> .ok ()).bind fun _=> .ok 2):=fun c j l G=>by
   have c1:=R 2;have D:=L 2;revert c1 D;unfold WX;cases N:cB (S.c.te S.fs) (.mk B m g w s i) [2]with
   |out=>exact fun _ _=>trivial
   |bad q r=>
    intro c1 _;rcases G with rfl|rfl
    ·exact Oz h k o nm n p B m g w s i z v f A y cz zs q r j l c1
    ·exact OD h k o nm n p B m g w s i z v f A y cz zs q r j l c1
   |ok t=>
    cases H:cB (S.c.te S.fs) (.mk z v f A y cz) [2]with
    |out=>exact fun _ _=>trivial
    |bad q r=>
     intro c1 D;rcases G with rfl|rfl
     ·exact Oy h k o nm n p B m g w s i z v f A y cz zs t q r j l c1 D
     ·exact OA h k o nm n p B m g w s i z v f A y cz zs t q r j l c1 D
    |ok u=>
     intro c1 D
     have V:u=2:=by
      have J:=vz H;simp at J;first|exact J|exact J.symm
     subst V;rcases G with rfl|rfl
     ·exact Rz h k o nm n p B m g w s i z v f A y cz zs t 2 j l c1 D
     ·exact RA h k o nm n p B m g w s i z v f A y cz zs t 2 j l c1 D
  have F:∀(c:Int),(o==17)=false→(o==18)=false→(o==15)=(15==c)→(o==16)=(16==c)→(c=15∨c=16)→TX S 137 [aE,hO k o nm n p (.mk B m g w s i:: .mk z v f A y cz::zs)] (fun t=>[gj t]) (((cB (S.c.te S.fs) (.mk B m g w s i) [1,2]).bind fun t=>(cB (S.c.te S.fs) (.mk z v f A y cz) [t]).bind fun _=> .ok ()).bind fun _=> .ok 2):=fun c j l x C G=>by
   have c1:=K;revert c1;unfold WX;cases N:cB (S.c.te S.fs) (.mk B m g w s i) [1,2]with
   |out=>exact fun _=>trivial
   |bad q r=>
    intro c1;rcases G with rfl|rfl
    ·exact OF h k o nm n p B m g w s i z v f A y cz zs q r j l x C c1
    ·exact OH h k o nm n p B m g w s i z v f A y cz zs q r j l x C c1
   |ok t=>
    intro c1;have D:=L t;revert D;unfold WX;simp only[TR.bind];cases H:cB (S.c.te S.fs) (.mk z v f A y cz) [t]with
    |out=>exact fun _=>trivial
    |bad q r=>
     intro D;rcases G with rfl|rfl
     ·exact OE h k o nm n p B m g w s i z v f A y cz zs t q r j l x C c1 D
     ·exact OG h k o nm n p B m g w s i z v f A y cz zs t q r j l x C c1 D
    |ok u=>
     intro D;rcases G with rfl|rfl
     ·exact RB h k o nm n p B m g w s i z v f A y cz zs t u j l x C c1 D
     ·exact RD h k o nm n p B m g w s i z v f A y cz zs t u j l x C c1 D
  cases j:(o==17)with
  |true=>
   have M:=eq_of_beq j;simp only[Bool.true_or,xR];exact E 17 j (by rw[M];rfl) (.inl rfl)
  |false=>cases l:(o==18)with
   |true=>
    simp only[Bool.or_true,xR];exact E 18 j l (.inr rfl)
   |false=>
    simp only[Bool.or_self,xI];cases x:(o==15)with
    |true=>
     have M:=eq_of_beq x;simp only[Bool.true_or,xR];exact F 15 j l x (by rw[M];rfl) (.inl rfl)
    |false=>cases C:(o==16)with
     |true=>
      simp only[Bool.or_true,xR];exact F 16 j l x C (.inr rfl)
     |false=>
      simp only[Bool.or_self,xI];have c1:=R 1;have D:=L 1;revert c1 D;unfold WX;cases cB (S.c.te S.fs) (.mk B m g w s i) [1]with
      |out=>exact fun _ _=>trivial
      |bad q r=>exact fun c1 _=>Va h k o nm n p B m g w s i z v f A y cz zs q r j l x C c1
      |ok t=>cases cB (S.c.te S.fs) (.mk z v f A y cz) [1]with
       |out=>exact fun _ _=>trivial
       |bad q r=>exact fun c1 D=>U9 h k o nm n p B m g w s i z v f A y cz zs t q r j l x C c1 D
       |ok u=>
        intro c1 D;simp only[TR.bind];cases O:decide (11≤o)with
        |true=>exact KA h k o nm n p B m g w s i z v f A y cz zs t u j l x C O c1 D
        |false=>exact G8 h k o nm n p B m g w s i z v f A y cz zs t u j l x C O c1 D
end Go.Avm
namespace Go.Avm
open Go.Proofs
abbrev XL(q:Pm):D:= .agg [.str q.nm, .int .u8 q.ty, .int .i64 q.p]
abbrev Yh(f:Fn):List AV:=[.d (.str f.nm), .d (.ro (f.ps.map g0)),UL f.res, .d (.ro (dH f.bd)),dI f.p]
abbrev Yi(f:Fn):Nat×aK:=(2007,⟨1,some (.arr 1 (Yh f))⟩)
abbrev J4(f:Fn)(xs:List Ex)(i:Nat):List (Nat×AV):=[(0,aE),(7, .ptr 2007 1 0 0 1),(43, .d (.ro (gZ xs))),(44,dN (gZ xs).length),(45,dN i)]
abbrev Vb(f:Fn):List (Nat×AV):=[(0,aE),(7, .ptr 2007 1 0 0 1)]
abbrev pZ(S:CK)(f:Fn):List (Nat×aK):=ck S ++[Yi f]
abbrev Vc(S:CK):List (Nat×aK):=ck S ++[(2007,⟨1,none⟩)]
theorem G9{S:CK}(h:CKok S)(f:Fn){ar:List AV}{a:List (Nat×aK)}(hp:a.map (·.1)=(pZ S f).map (·.1))(c:bX (d7 ((pZ S f).map (·.1)) 1000000) ar=ar)(d:(a.map fun p=>cD (d7 ((pZ S f).map (·.1)) 1000000) p.2)=a.map (·.2)):Cln ((pZ S f).map (·.1)) 1000000 ar (pZ S f) a:=
 ⟨rfl,rfl,hp,c,by
  have b:=f9 h (ρ:=d7 ((pZ S f).map (·.1)) 1000000) rfl;simp only[pZ,xY]at b ⊢;rw[b];rfl,d⟩
theorem Vd{S:CK}(h:CKok S)(f:Fn)(e:aK)(b:cD (d7 ((pZ S f).map (·.1)) 1000000) e=e):((ck S ++([(2007,e)]:List (Nat×aK))).map fun p:Nat×aK=>cD (d7 ((pZ S f).map (·.1)) 1000000) p.2)=(ck S ++([(2007,e)]:List (Nat×aK))).map (·.2):=by
 have a:=f9 h (ρ:=d7 ((pZ S f).map (·.1)) 1000000) rfl;show((ck S).map fun p:Nat×aK=>cD (d7 ((pZ S f).map (·.1)) 1000000) p.2) ++[cD (d7 ((pZ S f).map (·.1)) 1000000) e]=(ck S).map (·.2) ++[e];rw[a,b]
section
variable{S:CK}(h:CKok S)(f:Fn)(xs:List Ex)(i:Nat)
include h
theorem RG(a:decide (i<(gZ xs).length)=false):RE 63 (lO 136 6) (J4 f xs i) (pZ S f) (.exit 0) (Vb f) (pZ S f):=
 qE {hint:=qT 136 [(46,gn Pg i (gZ xs).length false a)]} 136 2000 (G9 h f rfl rfl (Vd h f _ rfl))
theorem RH(k:decide (i<(gZ xs).length)=true)(n:(gZ xs).length<1000000)(j e:Int)(b:List UInt8)(g d:Int)(a:List Ex)(m:xs[i]? =some (.mk j e b g d a))(q:Pm)(l:f.ps[i]? =some q)(t:Int)(c:l5 S (.mk j e b g d a) [q.ty] t):
    RE 63 (lO 136 6) (J4 f xs i) (pZ S f) .normal (J4 f xs (i+1)) (pZ S f):=
 qE {hint:=qT 136 [(46,gn Pg i (gZ xs).length true k),(48, .idx (gZ xs) ((i:Nat):Int) (ez (.mk j e b g d a)) (by omega) (by simp[ic,m])),(55, .idx (f.ps.map g0) ((i:Nat):Int) (XL q) (by omega) (by simp[l,g0])),(60,cy Pg i (by have:=yC k;omega))],calls:=tC [(136,59,3008,bc rfl (wO c 3003))]} 136 2000 (G9 h f rfl rfl (Vd h f _ rfl))
theorem RI(k:decide (i<(gZ xs).length)=true)(j e:Int)(b:List UInt8)(g d:Int)(a:List Ex)(m:xs[i]? =some (.mk j e b g d a))(q:Pm)(l:f.ps[i]? =some q)(u r:Int)(c:iX S (.mk j e b g d a) [q.ty] u r):
    RE 63 (lO 136 6) (J4 f xs i) (pZ S f) (.panic (aB u r)) [] (Vc S):=
 qE {hint:=qT 136 [(46,gn Pg i (gZ xs).length true k),(48, .idx (gZ xs) ((i:Nat):Int) (ez (.mk j e b g d a)) (by omega) (by simp[ic,m])),(55, .idx (f.ps.map g0) ((i:Nat):Int) (XL q) (by omega) (by simp[l,g0]))],pans:=an Pg [(136,8,2441,⟨9,some (bh (wP c 3003)),[]⟩)]} 136 2000 (G9 h f rfl rfl (Vd h f _ rfl))
end
def Ve(S:CK)(f:Fn)(xs:List Ex)(i:Nat):TR Unit→Prop
 | .ok _=>RL 63 (lO 136 6) (J4 f xs i) (pZ S f) (.exit 0) (Vb f) (pZ S f)
 | .bad p q=>RL 63 (lO 136 6) (J4 f xs i) (pZ S f) (.panic (aB p q)) [] (Vc S)
 | .out=>True
theorem M2{S:CK}(h:CKok S)(f:Fn)(xs:List Ex)(B:xs.length<1000000)(o:f.ps.length=xs.length)(C:∀e∈xs,TX S 112 [aE, .d (ez e)] (fun t=>[gj t]) (ev (S.c.te S.fs) e)):
    ∀(m i:Nat),xs.length-i=m→i≤xs.length→Ve S f xs i (aF (S.c.te S.fs) (xs.drop i) ((f.ps.drop i).map fun q=>[q.ty]) false)
 |0,i,hm,E=>by
  have A:i=xs.length:=by omega
  subst A;have D:xs.drop xs.length=[]:=yi;have F:f.ps.drop xs.length=[]:=by rw[←o];exact yi
  rw[D,F];exact fun a X j g=>aU (RG h f xs xs.length (by simp[d8]) a X j g) (by simp)
 |m+1,i,hm,E=>by
  have b:i<xs.length:=by omega
  have p:xs[i]? =some xs[i]:=xH b;have x:f.ps[i]? =some (f.ps[i]'(by omega)):=xH (by omega);rw[yL b,yL (l:=f.ps) (by omega)];generalize xs[i]=e at p;generalize f.ps[i]'(by omega)=q at x;have c:=mP h e (C e (x5 p)) q.ty;obtain⟨z,v,k,y,w,n⟩:=e;rw[xN,bE];revert c;cases cB (S.c.te S.fs) (.mk z v k y w n) [q.ty]with
  |out=>exact fun _=>trivial
  |bad u r=>exact fun c a X j g=>aU (RI h f xs i (by simpa [d8]using b) z v k y w n p q x u r c a X j g) (by simp)
  |ok t=>
   intro c;have s:=M2 h f xs B o C m (i+1) (by omega) b;simp only[TR.bind,xI];revert s;cases aF (S.c.te S.fs) (xs.drop (i+1)) ((f.ps.drop (i+1)).map fun q=>[q.ty]) false with
   |out=>exact fun _=>trivial
   |bad u r=>exact fun s a X j g=>aR (RH h f xs i (by simpa [d8]using b) (by rw[d8];exact B) z v k y w n p q x t c a X j g) (s a X j g)
   |ok _=>exact fun s a X j g=>aR (RH h f xs i (by simpa [d8]using b) (by rw[d8];exact B) z v k y w n p q x t c a X j g) (s a X j g)
noncomputable def RJ{S:CK}{f:Fn}{xs:List Ex}{x:aA}{l':List (Nat×AV)}{b:List (Nat×aK)}(h:RL 63 (lO 136 6) (J4 f xs 0) (pZ S f) x l' b):dy Pg:=
 ⟨63,bG Pg 136 6,J4 f xs 0,fun _=>pZ S f,x,l',fun _=>b,fun a X c d=>(h a X c d).aw⟩
section
variable{S:CK}(h:CKok S)(k o:Int)(nm:List UInt8)(n p:Int)(xs:List Ex)
include h
theorem OI(a:cv nm S.fs 0=none):HX 136 [aE,hO k o nm n p xs] (ck S) (aB p 6) (ck S):=
 qX {hint:=qT 136 [(17,oJ Pg nm S.fs none a)],pans:=an Pg [(136,2,1882,⟨3,some (bh (b7 p 6)),[]⟩)]} 1000 (ay h h rfl)
theorem E3(j:Nat)(f:Fn)(a:cv nm S.fs 0=some (j,f))(b:S.fs[j]? =some f)(c:(((f.ps.map g0).length:Int)==((gZ xs).length:Int))=false):HX 136 [aE,hO k o nm n p xs] (ck S) (aB p 9) (ck S):=
 qX {hint:=qT 136 [(17,oJ Pg nm S.fs (some (j,f)) a),(30, .idx (S.fs.map c2) ((j:Nat):Int) (c2 f) (by omega) (by simp[b])),(38,qB c)],calls:=tC [(136,23,2071,bc rfl (aV p 6))],pans:=an Pg [(136,4,2701,⟨9,some (bh (b7 p 9)),[]⟩)]} 1000 (ay h h rfl)
theorem OJ(j:Nat)(f:Fn)(a:cv nm S.fs 0=some (j,f))(c:S.fs[j]? =some f)(d:(((f.ps.map g0).length:Int)==((gZ xs).length:Int))=true)
    (b:RL 63 (lO 136 6) (J4 f xs 0) (pZ S f) (.exit 0) (Vb f) (pZ S f)):
    HC 136 [aE,hO k o nm n p xs] (ck S) [gj f.res] (ck S):=
 qN {loops:=fun f q=>if f=136 then (if q=6 then some (RJ b)else none)else none,hint:=qT 136 [(17,oJ Pg nm S.fs (some (j,f)) a),(30, .idx (S.fs.map c2) ((j:Nat):Int) (c2 f) (by omega) (by simp[c])),(38,qB d)],calls:=tC [(136,23,1496,bc rfl (aV p 6)),(136,41,2693,bc rfl (aV p 9))]} 425 (ay h h rfl)
theorem KB(j:Nat)(f:Fn)(u r:Int)(a:cv nm S.fs 0=some (j,f))(c:S.fs[j]? =some f)(d:(((f.ps.map g0).length:Int)==((gZ xs).length:Int))=true)
    (b:RL 63 (lO 136 6) (J4 f xs 0) (pZ S f) (.panic (aB u r)) [] (Vc S)):
    HX 136 [aE,hO k o nm n p xs] (ck S) (aB u r) (ck S):=
 qX {loops:=fun f q=>if f=136 then (if q=6 then some (RJ b)else none)else none,hint:=qT 136 [(17,oJ Pg nm S.fs (some (j,f)) a),(30, .idx (S.fs.map c2) ((j:Nat):Int) (c2 f) (by omega) (by simp[c])),(38,qB d)],calls:=tC [(136,23,1496,bc rfl (aV p 6)),(136,41,2693,bc rfl (aV p 9))]} 425 (ay h h rfl)
end
theorem oK{x:List UInt8}:∀{l:List Fn}{i j:Nat}{f:Fn},cv x l i=some (j,f)→i≤j∧l[j-i]? =some f
 |[],_,_,_,h=>by cases h
 |e::r,i,j,f,h=>by
  simp only[cv]at h;cases a:(x==e.nm)with
  |true=>
   rw[a]at h;simp only[xR,xA,xG]at h;obtain⟨rfl,rfl⟩:=h;simp
  |false=>
   rw[a]at h;obtain⟨b,h2⟩:=oK (l:=r) h;refine⟨by omega, ?_⟩;rw[show j-i=(j-(i+1))+1 by omega,ym];exact h2
abbrev Ha(E:TE)(nm:List UInt8)(p:Int)(xs:List Ex):TR Int:=match cv nm E.fs 0 with
 |none=> .bad p 6
 |some (_,f)=>bif f.ps.length==xs.length then (aF E xs (f.ps.map fun q=>[q.ty]) false).bind fun _=> .ok f.res else .bad p 9
theorem RK{S:CK}(h:CKok S)(k o:Int)(nm:List UInt8)(n p:Int)(xs:List Ex)(s:∀e∈xs,TX S 112 [aE, .d (ez e)] (fun t=>[gj t]) (ev (S.c.te S.fs) e)):
    TX S 136 [aE,hO k o nm n p xs] (fun t=>[gj t]) (Ha (S.c.te S.fs) nm p xs):=by
 show TX S _ _ _ (match cv nm S.fs 0 with|none=> .bad p 6|some (_,f)=>bif f.ps.length==xs.length then (aF (S.c.te S.fs) xs (f.ps.map fun q=>[q.ty]) false).bind fun _=> .ok f.res else .bad p 9);cases i:cv nm S.fs 0 with
 |none=>exact OI h k o nm n p xs i
 |some v=>
  obtain⟨j,f⟩:=v;have l:S.fs[j]? =some f:=(oK i).2;simp only;cases m:(f.ps.length==xs.length)with
  |false=>
   refine E3 h k o nm n p xs j f i l ?_;rw[yZ]at m ⊢;rw[xO,d8];intro e;exact m (by omega)
  |true=>
   have b:f.ps.length=xs.length:=eq_of_beq m
   have g:(((f.ps.map g0).length:Int)==((gZ xs).length:Int))=true:=by
    rw[xO,d8,b];exact beq_self_eq_true _
   have w:=h.par f (x5 l);have a:=M2 h f xs (by omega) b s xs.length 0 (by omega) (by omega);simp only[yM]at a;simp only[xR];revert a;cases aF (S.c.te S.fs) xs (f.ps.map fun q=>[q.ty]) false with
   |out=>exact fun _=>trivial
   |bad u r=>exact fun a=>KB h k o nm n p xs j f u r i l g a
   |ok _=>exact fun a=>OJ h k o nm n p xs j f i l g a
end Go.Avm
namespace Go.Avm
open Go.Proofs
section
variable{S:CK}(h:CKok S)(k o:Int)(nm:List UInt8)(n p:Int)
include h
theorem OK(xs:List Ex)(h2:(k==2)=true):HC 112 [aE,hO k o nm n p xs] (ck S) [gj 2] (ck S):=
 qN {hint:=qT 112 [(12,qB h2)]} 1000 (ay h h rfl)
section
variable(xs:List Ex)(h2:(k==2)=false)
include xs h2
theorem OL(a:(k==3)=true)(q r:Int)(c:HX 105 [aE, .d (.str nm),dI p] (ck S) (aB q r) (ck S)):
    HX 112 [aE,hO k o nm n p xs] (ck S) (aB q r) (ck S):=
 qX {hint:=qT 112 [(12,qB h2),(14,qB a)],pans:=an Pg [(112,5,1728,⟨5,some (bh c),[]⟩)]} 1000 (ay h h rfl)
theorem OM(b:(k==3)=true)(i:Nat)(v:Vr)(c:HC 105 [aE, .d (.str nm),dI p] (ck S) [.int .i64 (i:Int),rC v] (ck S))(j:Nat)(a:bW i S.c.sure.l 0=some j):
    HC 112 [aE,hO k o nm n p xs] (ck S) [gj v.ty] (ck S):=
 qN {hint:=qT 112 [(12,qB h2),(14,qB b),(30,lh Pg i S.c.sure.l (some j) a)],calls:=tC [(112,21,2183,bc rfl c),(112,36,4094,bc rfl (aV p 10))]} 1000 (ay h h rfl)
theorem ON(b:(k==3)=true)(i:Nat)(v:Vr)(c:HC 105 [aE, .d (.str nm),dI p] (ck S) [.int .i64 (i:Int),rC v] (ck S))(a:bW i S.c.sure.l 0=none):
    HX 112 [aE,hO k o nm n p xs] (ck S) (aB p 10) (ck S):=
 qX {hint:=qT 112 [(12,qB h2),(14,qB b),(30,lh Pg i S.c.sure.l none a)],calls:=tC [(112,21,2183,bc rfl c)],pans:=an Pg [(112,7,3821,⟨3,some (bh (b7 p 10)),[]⟩)]} 1000 (ay h h rfl)
theorem KC(b:(k==3)=false)(a:(k==4)=(4==4))(e:(k==7)=(7==4))(q r:Int)(c:HX 107 [aE, .d (.str nm),dI p] (ck S) (aB q r) (ck S)):
    HX 112 [aE,hO k o nm n p xs] (ck S) (aB q r) (ck S):=
 qX {hint:=qT 112 [(12,qB h2),(14,qB b),(40,hB Pg (k==4) (4==4) a)],pans:=an Pg [(112,10,1910,⟨5,some (bh c),[]⟩)]} 1000 (ay h h rfl)
theorem KD(b:(k==3)=false)(a:(k==4)=(4==7))(e:(k==7)=(7==7))(q r:Int)(c:HX 107 [aE, .d (.str nm),dI p] (ck S) (aB q r) (ck S)):
    HX 112 [aE,hO k o nm n p xs] (ck S) (aB q r) (ck S):=
 qX {hint:=qT 112 [(12,qB h2),(14,qB b),(40,hB Pg (k==4) (4==7) a),(55,hB Pg (k==7) (7==7) e)],pans:=an Pg [(112,13,2092,⟨5,some (bh c),[]⟩)]} 1000 (ay h h rfl)
theorem OO(b:(k==3)=false)(a:(k==4)=false)(e:(k==7)=true)(c:HC 107 [aE, .d (.str nm),dI p] (ck S) [] (ck S)):
    HC 112 [aE,hO k o nm n p xs] (ck S) [gj 1] (ck S):=
 qN {hint:=qT 112 [(12,qB h2),(14,qB b),(40,qB a),(55,qB e)],calls:=tC [(112,61,2547,bc rfl c)]} 1000 (ay h h rfl)
end
section
variable(i f:Int)(b:List UInt8)(g e:Int)(a zs:List Ex)(h2:(k==2)=false)(l:(k==3)=false)(j:(k==4)=true)
include i f b g e a zs h2 l j
theorem KE(t:Int)(c:HC 107 [aE, .d (.str nm),dI p] (ck S) [] (ck S))(c1:l5 S (.mk i f b g e a) [1] t):
    HC 112 [aE,hO k o nm n p (.mk i f b g e a::zs)] (ck S) [gj 1] (ck S):=
 qN {hint:=qT 112 [(12,qB h2),(14,qB l),(40,qB j)],calls:=tC [(112,46,2365,bc rfl c),(112,53,2911,bc rfl (wO c1 2872))]} 1000 (ay h h rfl)
theorem KF(q r:Int)(c:HC 107 [aE, .d (.str nm),dI p] (ck S) [] (ck S))(c1:iX S (.mk i f b g e a) [1] q r):
    HX 112 [aE,hO k o nm n p (.mk i f b g e a::zs)] (ck S) (aB q r) (ck S):=
 qX {hint:=qT 112 [(12,qB h2),(14,qB l),(40,qB j)],calls:=tC [(112,46,2365,bc rfl c)],pans:=an Pg [(112,11,2365,⟨6,some (bh (wP c1 2872)),[]⟩)]} 1000 (ay h h rfl)
end
section
variable(xs:List Ex)(h2:(k==2)=false)(d:(k==3)=false)(b:(k==4)=false)(e:(k==7)=false)(a:(k==5)=true)
include xs h2 d b e a
theorem KG(t:Int)(c:HC 136 [aE,hO k o nm n p xs] (ck S) [gj t] (ck S)):
    HC 112 [aE,hO k o nm n p xs] (ck S) [gj t] (ck S):=
 qN {hint:=qT 112 [(12,qB h2),(14,qB d),(40,qB b),(55,qB e),(63,qB a)],calls:=tC [(112,66,2456,bc rfl c)]} 1000 (ay h h rfl)
theorem KH(q r:Int)(c:HX 136 [aE,hO k o nm n p xs] (ck S) (aB q r) (ck S)):
    HX 112 [aE,hO k o nm n p xs] (ck S) (aB q r) (ck S):=
 qX {hint:=qT 112 [(12,qB h2),(14,qB d),(40,qB b),(55,qB e),(63,qB a)],pans:=an Pg [(112,15,2274,⟨2,some (bh c),[]⟩)]} 1000 (ay h h rfl)
end
section
variable(f d:Int)(b:List UInt8)(e c:Int)(a zs:List Ex)(h2:(k==2)=false)(l:(k==3)=false)(g:(k==4)=false)(j:(k==7)=false)(m:(k==5)=false)(i:(k==8)=true)
include f d b e c a zs h2 l g j m i
theorem E4(q:(o==21)=true)(t:Int)(c1:l5 S (.mk f d b e c a) [bif true then 2 else 1] t):
    HC 112 [aE,hO k o nm n p (.mk f d b e c a::zs)] (ck S) [gj t] (ck S):=
 qN {hint:=qT 112 [(12,qB h2),(14,qB l),(40,qB g),(55,qB j),(63,qB m),(68,qB i),(71,qB q)],calls:=tC [(112,78,3275,bc rfl (wO c1 3261))]} 1000 (ay h h rfl)
theorem E5(s:(o==21)=true)(q r:Int)(c1:iX S (.mk f d b e c a) [bif true then 2 else 1] q r):
    HX 112 [aE,hO k o nm n p (.mk f d b e c a::zs)] (ck S) (aB q r) (ck S):=
 qX {hint:=qT 112 [(12,qB h2),(14,qB l),(40,qB g),(55,qB j),(63,qB m),(68,qB i),(71,qB s)],pans:=an Pg [(112,18,2729,⟨6,some (bh (wP c1 3261)),[]⟩)]} 1000 (ay h h rfl)
theorem B6(q:(o==21)=false)(t:Int)(c1:l5 S (.mk f d b e c a) [bif false then 2 else 1] t):
    HC 112 [aE,hO k o nm n p (.mk f d b e c a::zs)] (ck S) [gj t] (ck S):=
 qN {hint:=qT 112 [(12,qB h2),(14,qB l),(40,qB g),(55,qB j),(63,qB m),(68,qB i),(71,qB q)],calls:=tC [(112,85,3275,bc rfl (wO c1 3268))]} 1000 (ay h h rfl)
theorem B7(s:(o==21)=false)(q r:Int)(c1:iX S (.mk f d b e c a) [bif false then 2 else 1] q r):
    HX 112 [aE,hO k o nm n p (.mk f d b e c a::zs)] (ck S) (aB q r) (ck S):=
 qX {hint:=qT 112 [(12,qB h2),(14,qB l),(40,qB g),(55,qB j),(63,qB m),(68,qB i),(71,qB s)],pans:=an Pg [(112,19,2729,⟨6,some (bh (wP c1 3268)),[]⟩)]} 1000 (ay h h rfl)
end
section
variable(xs:List Ex)(h2:(k==2)=false)(e:(k==3)=false)(a:(k==4)=false)(d:(k==7)=false)(f:(k==5)=false)(b:(k==8)=false)
include xs h2 e a d f b
theorem KI(g:(k==9)=true)(t:Int)(c:HC 137 [aE,hO k o nm n p xs] (ck S) [gj t] (ck S)):
    HC 112 [aE,hO k o nm n p xs] (ck S) [gj t] (ck S):=
 qN {hint:=qT 112 [(12,qB h2),(14,qB e),(40,qB a),(55,qB d),(63,qB f),(68,qB b),(87,qB g)],calls:=tC [(112,90,2820,bc rfl c)]} 1000 (ay h h rfl)
theorem KJ(g:(k==9)=true)(q r:Int)(c:HX 137 [aE,hO k o nm n p xs] (ck S) (aB q r) (ck S)):
    HX 112 [aE,hO k o nm n p xs] (ck S) (aB q r) (ck S):=
 qX {hint:=qT 112 [(12,qB h2),(14,qB e),(40,qB a),(55,qB d),(63,qB f),(68,qB b),(87,qB g)],pans:=an Pg [(112,21,2638,⟨2,some (bh c),[]⟩)]} 1000 (ay h h rfl)
theorem RM(c:(k==9)=false):
    HC 112 [aE,hO k o nm n p xs] (ck S) [gj 1] (ck S):=
 qN {hint:=qT 112 [(12,qB h2),(14,qB e),(40,qB a),(55,qB d),(63,qB f),(68,qB b),(87,qB c)]} 1000 (ay h h rfl)
end
end
theorem eI(E:TE)(l:List Ex)(a:Bool):aF E l [] a= .ok ():=by
 cases l<;>rfl
theorem M3{S:CK}(h:CKok S):∀(m:Nat)(e:Ex),SizeOf.sizeOf e≤m→TX S 112 [aE, .d (ez e)] (fun t=>[gj t]) (ev (S.c.te S.fs) e)
 |0, .mk _ _ _ _ _ _,hm=>by simp at hm
 |m+1, .mk k o nm n p xs,hm=>by
  have z:∀e∈xs,TX S 112 [aE, .d (ez e)] (fun t=>[gj t]) (ev (S.c.te S.fs) e):=fun e H=>M3 h m e (by
   have:=List.sizeOf_lt_of_mem H;simp at hm;omega)
  unfold ev;cases h2:(k==2)with
  |true=>exact OK h k o nm n p xs h2
  |false=>cases f:(k==3)with
  |true=>
   simp only[xR,xI];have c:=Oq h nm p;revert c;cases lZ (S.c.te S.fs) nm p with
   |out=>exact fun _=>trivial
   |bad q r=>exact fun c=>OL h k o nm n p xs h2 f q r c
   |ok iv=>
    obtain⟨i,v⟩:=iv;intro c;show TX S _ _ _ (bif (bW i S.c.sure.l 0).isSome then .ok v.ty else .bad p 10);cases G:bW i S.c.sure.l 0 with
    |none=>exact ON h k o nm n p xs h2 f i v c G
    |some j=>exact OM h k o nm n p xs h2 f i v c j G
  |false=>cases g:(k==4)with
  |true=>
   have I:=eq_of_beq g;simp only[xR,xI];have c:=Ou h nm p;revert c;cases pX (S.c.te S.fs) nm p with
   |out=>exact fun _=>trivial
   |bad q r=>exact fun c=>KC h k o nm n p xs h2 f g (by rw[I];rfl) q r c
   |ok _=>
    intro c;match xs,z with
    |[],_=>exact trivial
    | .mk x s a w u b::zs,z=>
     have c1:=mP h _ (z (.mk x s a w u b) (by simp)) 1;simp only[TR.bind];rw[bE];revert c1;cases cB (S.c.te S.fs) (.mk x s a w u b) [1]with
     |out=>exact fun _=>trivial
     |bad q r=>exact fun c1=>KF h k o nm n p x s a w u b zs h2 f g q r c c1
     |ok t=>
      intro c1;simp only[TR.bind,xI,eI];exact KE h k o nm n p x s a w u b zs h2 f g t c c1
  |false=>cases y:(k==7)with
  |true=>
   simp only[xR,xI];have c:=Ou h nm p;revert c;cases pX (S.c.te S.fs) nm p with
   |out=>exact fun _=>trivial
   |bad q r=>exact fun c=>KD h k o nm n p xs h2 f g y q r c
   |ok _=>exact fun c=>OO h k o nm n p xs h2 f g y c
  |false=>cases A:(k==5)with
  |true=>
   simp only[xR,xI];have c:=RK h k o nm n p xs z;show TX S _ _ _ (Ha (S.c.te S.fs) nm p xs);revert c;cases Ha (S.c.te S.fs) nm p xs with
   |out=>exact fun _=>trivial
   |bad q r=>exact fun c=>KH h k o nm n p xs h2 f g y A q r c
   |ok t=>exact fun c=>KG h k o nm n p xs h2 f g y A t c
  |false=>cases C:(k==8)with
  |true=>
   simp only[xR,xI];match xs,z with
   |[],_=>cases (o==21)<;>exact trivial
   | .mk x s a w u b::zs,z=>
    cases D:(o==21)with
    |true=>
     have c1:=mP h _ (z (.mk x s a w u b) (by simp)) 2;simp only[xR];rw[bE];revert c1;cases E:cB (S.c.te S.fs) (.mk x s a w u b) [2]with
     |out=>exact fun _=>trivial
     |bad q r=>exact fun c1=>E5 h k o nm n p x s a w u b zs h2 f g y A C D q r c1
     |ok t=>
      intro c1;have B:=vz E;simp at B;obtain rfl:t=2:=by first|exact B|exact B.symm
      simp only[TR.bind,xI,eI];exact E4 h k o nm n p x s a w u b zs h2 f g y A C D 2 c1
    |false=>
     have c1:=mP h _ (z (.mk x s a w u b) (by simp)) 1;simp only[xI];rw[bE];revert c1;cases E:cB (S.c.te S.fs) (.mk x s a w u b) [1]with
     |out=>exact fun _=>trivial
     |bad q r=>exact fun c1=>B7 h k o nm n p x s a w u b zs h2 f g y A C D q r c1
     |ok t=>
      intro c1;have B:=vz E;simp at B;obtain rfl:t=1:=by first|exact B|exact B.symm
      simp only[TR.bind,xI,eI];exact B6 h k o nm n p x s a w u b zs h2 f g y A C D 1 c1
  |false=>cases F:(k==9)with
  |true=>
   simp only[xR,xI];have c:=RF h k o nm n p xs z;show TX S _ _ _ (De (S.c.te S.fs) o xs);revert c;cases De (S.c.te S.fs) o xs with
   |out=>exact fun _=>trivial
   |bad q r=>exact fun c=>KJ h k o nm n p xs h2 f g y A C F q r c
   |ok t=>exact fun c=>KI h k o nm n p xs h2 f g y A C F t c
  |false=>exact RM h k o nm n p xs h2 f g y A C F
theorem UM{S:CK}(h:CKok S)(e:Ex):TX S 112 [aE, .d (ez e)] (fun t=>[gj t]) (ev (S.c.te S.fs) e):=M3 h _ e (xS _)
theorem OP{S:CK}(h:CKok S)(e:Ex)(a:Int):WX S e [a]:=mP h e (UM h e) a
theorem Yj{S:CK}(h:CKok S)(e:Ex)(a b:Int):WX S e [a,b]:=G7 h e (UM h e) a b
end Go.Avm
namespace Go.Avm
open Go.Proofs
abbrev eW(k id:Int)(nm:List UInt8)(ty n p:Int)(es:List Ex)(a b:List aP):AV:= .d (sP (.mk k id nm ty n p es a b))
abbrev mo(s:aP):Prop:=HC 75 [.d (sP s)] [] [.bool (lc s)] []
abbrev mq(l:List aP):Prop:=HC 50 [.d (.ro (dH l))] [] [.bool (dV l)] []
section
variable(k id:Int)(nm:List UInt8)(ty n p:Int)(es:List Ex)(a e:List aP)
theorem XM(h:(k==6)=true):HC 75 [eW k id nm ty n p es a e] [] [.bool true] []:=
 qN {hint:=qT 75 [(5,qB h)]} 1000
theorem XN(h:(k==6)=false)(b:(k==4)=false):HC 75 [eW k id nm ty n p es a e] [] [.bool false] []:=
 qN {hint:=qT 75 [(5,qB h),(9,qB b)]} 1000
theorem XO(h:(k==6)=false)(b:(k==4)=true)(c:HC 50 [.d (.ro (dH a))] [] [.bool false] []):HC 75 [eW k id nm ty n p es a e] [] [.bool false] []:=
 qN {hint:=qT 75 [(5,qB h),(9,qB b)],calls:=tC [(75,13,1252,bc rfl c)]} 1000
theorem XP(h:(k==6)=false)(g:(k==4)=true)(b:Bool)(c:HC 50 [.d (.ro (dH a))] [] [.bool true] [])(f:HC 50 [.d (.ro (dH e))] [] [.bool b] []):HC 75 [eW k id nm ty n p es a e] [] [.bool b] []:=
 qN {hint:=qT 75 [(5,qB h),(9,qB g)],calls:=tC [(75,13,1252,bc rfl c),(75,18,1336,bc rfl f)]} 1000
end
def Vf(P:Program)(m:Nat)(a:0<m)(h:m<1000000):cf P:= .val (dI (IntKind.i64.wrap ((m:Int)-1))) (dI ((m-1:Nat):Int)) (by
 congr 2;rw[IntWalk.i64_in _ (by omega)];omega)
def OQ(P:Program)(l:List aP)(k id:Int)(nm:List UInt8)(ty n p:Int)(es:List Ex)(a b:List aP)(c:l[l.length-1]? =some (.mk k id nm ty n p es a b)):cf P:= .idx (dH l) (((dH l).length-1:Nat):Int) (sP (.mk k id nm ty n p es a b)) (by omega) (by
 rw[xo,jW,i9,xP,c];rfl)
theorem RN:HC 50 [.d (.ro (dH []))] [] [.bool false] []:=
 qN {} 1000
theorem OR(l:List aP)(k id:Int)(nm:List UInt8)(ty n p:Int)(es:List Ex)(a f:List aP)(b:Bool)(g:decide ((0:Int)<((dH l).length:Int))=true)(e:(dH l).length<1000000)(h:l[l.length-1]? =some (.mk k id nm ty n p es a f))
    (c:HC 75 [eW k id nm ty n p es a f] [] [.bool b] []):HC 50 [.d (.ro (dH l))] [] [.bool b] []:=
 qN {hint:=qT 50 [(5,qB g),(10,Vf Pg (dH l).length (by have:=yC g;omega) e),(11,OQ Pg l k id nm ty n p es a f h)],calls:=tC [(50,13,1165,bc rfl c)]} 1000
theorem rJ:∀(l:List aP)(s:aP),l[l.length-1]? =some s→dV l=lc s
 |[],_,h=>by cases h
 |[a],s,h=>by
  simp at h;subst h;rfl
 |a::b::r,s,h=>by
  have:=rJ (b::r) s (by simpa using h);exact this
def jf:Nat→List aP→Prop
 |0,_=>False
 |m+1,l=>l.length<1000000∧∀s∈l,match s with| .mk _ _ _ _ _ _ _ a b=>jf m a∧jf m b
theorem rK:∀(m:Nat)(l:List aP),jf m l→mq l
 |0,_,h=>h.elim
 |m+1,l,h=>by
  by_cases q:l=[]
  ·subst q
   exact RN
  ·have d:0<l.length:=List.length_pos_iff.2 q
   have g:l[l.length-1]? =some (l[l.length-1]'(by omega)):=xH _;generalize l[l.length-1]'(by omega)=s at g;obtain⟨k,id,nm,ty,n,p,es,a,b⟩:=s;have o:=h.2 _ (x5 g);have e:=rJ l _ g
   have j:mo (.mk k id nm ty n p es a b):=by
    unfold mo lc;cases f:(k==6)with
    |true=>exact XM k id nm ty n p es a b f
    |false=>cases i:(k==4)with
     |false=>exact XN k id nm ty n p es a b f i
     |true=>
      have c:=rK m a o.1;revert c;unfold mq;cases dV a with
      |false=>exact fun c=>XO k id nm ty n p es a b f i c
      |true=>exact fun c=>XP k id nm ty n p es a b f i (dV b) c (rK m b o.2)
   unfold mq;rw[e];exact OR l k id nm ty n p es a b _ (by simpa [jW]using d) (by rw[jW];exact h.1) g j
theorem M4{m:Nat}{k id:Int}{nm:List UInt8}{ty n p:Int}{es:List Ex}{a b:List aP}(f:jf m a)(g:jf m b):mo (.mk k id nm ty n p es a b):=by
 unfold mo lc;cases d:(k==6)with
 |true=>exact XM k id nm ty n p es a b d
 |false=>cases e:(k==4)with
  |false=>exact XN k id nm ty n p es a b d e
  |true=>
   have c:=rK m a f;revert c;unfold mq;cases dV a with
   |false=>exact fun c=>XO k id nm ty n p es a b d e c
   |true=>exact fun c=>XP k id nm ty n p es a b d e (dV b) c (rK m b g)
end Go.Avm
namespace Go.Avm
open Go.Proofs
theorem tX:∀{l:hN}{i:Nat}{e:D×D×Nat},e∈cU i l→∃p∈l,e.1= .str p.1∧e.2.1= .int .i64 (p.2:Int)∧i≤e.2.2∧e.2.2<i+l.length
 |[],_,_,h=>by cases h
 |p::r,i,e,h=>by
  simp only[cU,xX]at h;rcases h with rfl|h
  ·exact⟨p,by simp,rfl,rfl,xS _,by simp⟩
  ·obtain⟨q,b,a,h2,d,c⟩:=tX h
   exact⟨q,by simp[b],a,h2,by omega,by simp only[xD];omega⟩
theorem rL:∀(l:hN)(i:Nat),(cU i l).map (·.1)=l.map fun p=>D.str p.1
 |[],_=>rfl
 |p::r,i=>by simp only[cU,xN,rL r (i+1)]
theorem rM:∀(l:hN)(i:Nat),(cU i l).map (·.2.2)=List.range' i l.length
 |[],_=>rfl
 |p::r,i=>by simp only[cU,xN,rM r (i+1),xD,zP]
theorem oL:∀(l:hN)(i:Nat),(cU i l).length=l.length
 |[],_=>rfl
 |p::r,i=>by simp only[cU,xD,oL r (i+1)]
theorem rN:∀(l:hN)(i:Nat),nL (cU i l)=(l.map (·.2)).map fun n:Nat=>(n:Int)
 |[],_=>rfl
 |p::r,i=>by
  show(p.2:Int)::nL (cU (i+1) r)=_;rw[rN r (i+1)];rfl
theorem E6{zs:List Int}(h:zs.Pairwise (· < ·)):ld zs=zs:=by
 unfold ld;refine List.mergeSort_of_pairwise (h.imp fun {a b} c=> ?_);simp only[x6];omega
theorem zx{S:CK}(h:CKok S):GM (cU 0 S.c.seen) S.c.seen.length:=by
 refine⟨fun e g=> ?_, ?_, ?_, ?_⟩
 ·obtain⟨p,hp,f,h2,_,j⟩:=tX g
  have m:=h.nml p hp;have l:=h.seen p hp;have k:=h.vars;exact⟨p.1,p.2,f,h2,by unfold maxLen;omega,by omega,by omega⟩
 ·rw[rL]
  have:=h.nms;rw[List.nodup_iff_pairwise_ne,List.pairwise_map]at this ⊢;exact this.imp fun {a b} d e=>d (by simpa using e)
 ·rw[rM]
  exact List.nodup_range'
 ·rw[oL]
  have f:=List.Nodup.length_le_of_subset (l₁:=S.c.seen.map (·.2)) (l₂:=List.range 255) ((List.nodup_iff_pairwise_ne.2 (h.inc.imp fun {a b} d=>by omega))) (fun x i=>by
   obtain⟨p,hp,rfl⟩:=xi.1 i;have:=h.seen p hp;have:=h.vars;simp;omega)
  simp at f;omega
abbrev OS(S:CK)(kb:Nat):List (Nat×aK):=[(kb,⟨1,some (.arr 1 [.mp 500003 S.vs])⟩),(500003,⟨S.vs,some (.map (cU 0 S.c.seen) S.c.seen.length)⟩)]
theorem Hb{S:CK}(h:CKok S)(kb:Nat)(i:kb≠500003)(f:aa):ax Pg 132 [.fn 157 [.ptr kb 1 0 0 1]] (ag (OS S kb) f) ([.ro (cm (S.c.seen.map (·.2)))].map .d) (ag (OS S kb) f):=by
 have g:=Kx (h:=ag (OS S kb) f) (kb:=kb) (vb:=1) (k:=500003) (v:=S.vs) (by simp[ag,aJ]) (by simp[ag,aJ,Ne.symm i]) (zx h)
 have e:(ld (nL (cU 0 S.c.seen))).map (D.int .i64)=cm (S.c.seen.map (·.2)):=by
  rw[rN,E6]
  ·simp[cm]
  ·rw[List.pairwise_map]
   exact h.inc.imp fun {a b} j=>by omega
 rw[e]at g;exact g
theorem gH{S S':CK}(h:CKok S)(h':CKok S'){a b:List (Nat×aK)}{ar:List AV}(l:(((ck S ++a).map (·.1)).all fun k=>Nat.blt k 1000000)=true)(i:b.map (·.1)=a.map (·.1))(e:([499904,500002,500003,500004,500005,500382,500191].map (d7 ((ck S ++a).map (·.1)) 1000000))=[499904,500002,500003,500004,500005,500382,500191])
    (g:bX (d7 ((ck S ++a).map (·.1)) 1000000) ar=ar) (j:(a.map fun p:Nat×aK=>cD (d7 ((ck S ++a).map (·.1)) 1000000) p.2)=a.map (·.2)) (d:(b.map fun p:Nat×aK=>cD (d7 ((ck S ++a).map (·.1)) 1000000) p.2)=b.map (·.2)):
    Cln ((ck S ++a).map (·.1)) 1000000 ar (ck S ++a) (ck S' ++b):=
 ⟨l,rfl,by rw[xY,xY,i];rfl,g,by
  have c:=f9 h e;rw[xY,xY (f:=fun p:Nat×aK=>p.2),c,j],by
  have c:=f9 h' e;rw[xY,xY (f:=fun p:Nat×aK=>p.2),c,d]⟩
abbrev KK(S:CK)(i:Nat):List (Nat×AV):=[(0,aE),(2, .ptr 1562 1 0 0 1),(3, .ptr 2003 1 0 0 1),(20, .d (.ro (cm (S.c.seen.map (·.2))))),(21,dN (cm (S.c.seen.map (·.2))).length),(22,dN i)]
abbrev Df(S:CK)(v:Nat)(q:List D):List (Nat×aK):=ck S ++[(2003,⟨1,some (.arr 1 [dN S.fn, .d (.ro (cm (S.c.seen.map (·.2)))), .vec 2038 v 1 q])⟩),(2038,⟨v,none⟩),(1562,⟨1,some (.arr 1 [dI 0, .nils, .nils])⟩)]
section
variable{S:CK}(h:CKok S)(v i:Nat)(q:List D)
include h
theorem RO(a:decide (i<(cm (S.c.seen.map (·.2))).length)=false):RE 44 (lO 103 3) (KK S i) (Df S v q) (.exit 0) [(2, .ptr 1562 1 0 0 1),(3, .ptr 2003 1 0 0 1)] (Df S v q):=
 qE {hint:=qT 103 [(23,gn Pg i (cm (S.c.seen.map (·.2))).length false a)]} 103 2000 (gH h h rfl rfl rfl rfl rfl rfl)
theorem Vg(x:Nat)(d:(S.c.seen.map (·.2))[i]? =some x)(a:decide (i<(cm (S.c.seen.map (·.2))).length)=true)(e:(cm (S.c.seen.map (·.2))).length<1000000)(b:bW x S.c.sure.l 0=none):RE 44 (lO 103 3) (KK S i) (Df S v q) .normal (KK S (i+1)) (Df S v q):=
 qE {hint:=qT 103 [(23,gn Pg i (cm (S.c.seen.map (·.2))).length true a),(24, .idx (cm (S.c.seen.map (·.2))) ((i:Nat):Int) (.int .i64 (x:Int)) (by omega) (by rw[cm,xP,xo,d];rfl)),(32,lh Pg x S.c.sure.l none b),(42,cy Pg i (by have:=yC a;omega))]} 103 2000 (gH h h rfl rfl rfl rfl rfl rfl)
theorem Vh(x j:Nat)(d:(S.c.seen.map (·.2))[i]? =some x)(a:decide (i<(cm (S.c.seen.map (·.2))).length)=true)(f:(cm (S.c.seen.map (·.2))).length<1000000)(e:q.length<1000000)(b:bW x S.c.sure.l 0=some j):RE 44 (lO 103 3) (KK S i) (Df S v q) .normal (KK S (i+1)) (Df S (v+1) (q ++[.int .i64 (x:Int)])):=
 qE {hint:=qT 103 [(23,gn Pg i (cm (S.c.seen.map (·.2))).length true a),(24, .idx (cm (S.c.seen.map (·.2))) ((i:Nat):Int) (.int .i64 (x:Int)) (by omega) (by rw[cm,xP,xo,d];rfl)),(32,lh Pg x S.c.sure.l (some j) b),(40, .app q 1 (by omega)),(42,cy Pg i (by have:=yC a;omega))]} 103 2000 (gH h h rfl rfl rfl rfl rfl rfl)
end
theorem Hc{S:CK}(h:CKok S):∀(m i v:Nat)(q:List Nat),(S.c.seen.map (·.2)).length-i=m→i≤(S.c.seen.map (·.2)).length→q.length≤i→∃n,RL 44 (lO 103 3) (KK S i) (Df S v (cm q)) (.exit 0) [(2, .ptr 1562 1 0 0 1),(3, .ptr 2003 1 0 0 1)] (Df S n (cm (q ++((S.c.seen.map (·.2)).drop i).filter S.c.sure.has)))
 |0,i,v,q,hm,A,C=>by
  have y:i=(S.c.seen.map (·.2)).length:=by omega
  subst y;refine⟨v,fun d X k g=> ?_⟩;rw[yi,List.filter_nil,yF];exact aU (RO h v _ _ (by simp[cm]) d X k g) (by simp)
 |m+1,i,v,q,hm,A,C=>by
  have f:i<(S.c.seen.map (·.2)).length:=by omega
  have o:(S.c.seen.map (·.2)).length<1000000:=by
   have:=(zx h).len;rw[oL]at this;have h2:(S.c.seen.map (·.2)).length=S.c.seen.length:=xO _;have E:=h.vars
   have B:=List.Nodup.length_le_of_subset (l₁:=S.c.seen.map (·.2)) (l₂:=List.range 255) ((List.nodup_iff_pairwise_ne.2 (h.inc.imp fun {a b} D=>by omega))) (fun x t=>by
    obtain⟨p,hp,rfl⟩:=xi.1 t;have:=h.seen p hp;simp;omega)
   rw[List.length_range]at B;omega
  have t:(S.c.seen.map (·.2))[i]? =some (S.c.seen.map (·.2))[i]:=xH f;rw[yL f];generalize (S.c.seen.map (·.2))[i]=x at t
  have s:decide (i<(cm (S.c.seen.map (·.2))).length)=true:=by
   have:(cm (S.c.seen.map (·.2))).length=(S.c.seen.map (·.2)).length:=xO _;rw[this];simpa using f
  have r:(cm (S.c.seen.map (·.2))).length<1000000:=by
   have:(cm (S.c.seen.map (·.2))).length=(S.c.seen.map (·.2)).length:=xO _;rw[this];exact o
  cases u:bW x S.c.sure.l 0 with
  |none=>
   obtain⟨n,z⟩:=Hc h m (i+1) v q (by omega) f (by omega);have w:S.c.sure.has x=false:=by unfold SureL.has;rw[u];rfl
   rw[List.filter_cons,w];exact⟨n,fun d X k g=>aR (Vg h v i (cm q) x t s r u d X k g) (z d X k g)⟩
  |some j=>
   obtain⟨n,z⟩:=Hc h m (i+1) (v+1) (q ++[x]) (by omega) f (by simp;omega);have w:S.c.sure.has x=true:=by unfold SureL.has;rw[u];rfl
   rw[List.filter_cons,w];refine⟨n,fun d X k g=>aR (Vh h v i (cm q) x j t s r (by simp[cm];omega) u d X k g) ?_⟩;have:=z d X k g;rw[xM]at this;have e:cm (q ++[x])=cm q ++[.int .i64 (x:Int)]:=by simp[cm]
   rw[e]at this;exact this
theorem RP(v:Nat):∀a:aa,ax Pg 133 [.mp 500003 v] (ag [(1941,⟨0,none⟩)] a) [.fn 157 [.ptr 1941 1 0 0 1]] (ag [(1941,⟨1,some (.arr 1 [.mp 500003 v])⟩)] a):=fun a=>
 am bv named {} 2000 1940 _ (by kernel_rfl)
noncomputable def Vi{S:CK}{q:List D}{b:Nat}(h:RL 44 (lO 103 3) (KK S 0) (Df S 0 []) (.exit 0) [(2, .ptr 1562 1 0 0 1),(3, .ptr 2003 1 0 0 1)] (Df S b q)):dy Pg:=
 ⟨44,bG Pg 103 3,KK S 0,fun _=>Df S 0 [], .exit 0,[(2, .ptr 1562 1 0 0 1),(3, .ptr 2003 1 0 0 1)],fun _=>Df S b q,fun a X c d=>(h a X c d).aw⟩
theorem Hd{S:CK}(h:CKok S)(q:List D)(a:Nat)(b:RL 44 (lO 103 3) (KK S 0) (Df S 0 []) (.exit 0) [(2, .ptr 1562 1 0 0 1),(3, .ptr 2003 1 0 0 1)] (Df S a q)):
    HC 103 [aE] (ck S) [.agg [.int .i64 (S.fn:Int), .ro (cm (S.c.seen.map (·.2))), .ro q]] (ck S):=
 qN {loops:=fun f q=>if f=103 then (if q=3 then some (Vi b)else none)else none,nils:=fun f r=>if f=103 then (if r=2 then some {k:=2003,i:=2,K:=2038,sz:=1}else none)else none,calls:=tC [(103,16,1956,ab (RP S.vs)),(103,17,1956,bc rfl (Hb h 1941 (by omega)))]} 1560 (ay h h rfl)
theorem OT{S:CK}(h:CKok S):HC 103 [aE] (ck S) [Kp (S.c.pt S.fn)] (ck S):=by
 obtain⟨b,a⟩:=Hc h _ 0 0 [] rfl (xz _) (xz _);rw[yM,xn]at a;exact Hd h _ b a
end Go.Avm
namespace Go.Avm
open Go.Proofs
theorem zy:∀(l:List Vr)(i:Nat)(v:Vr),gG i (l ++[v])=gG i l ++[(.str v.nm, .agg [],i+l.length)]
 |[],_,_=>rfl
 |a::r,i,v=>by
  simp only[x8,gG,zy r (i+1) v,xD];rw[show i+1+r.length=i+(r.length+1) by omega]
theorem tY:∀(l:hN)(i:Nat)(p:List UInt8×Nat),cU i (l ++[p])=cU i l ++[(.str p.1, .int .i64 (p.2:Int),i+l.length)]
 |[],_,_=>rfl
 |a::r,i,p=>by
  simp only[x8,cU,tY r (i+1) p,xD];rw[show i+1+r.length=i+(r.length+1) by omega]
abbrev OU(S:CK)(nm:List UInt8)(ty n a:Int):List (Nat×aK):=
 [(500000,⟨1,some (.arr 1 (Dc S))⟩),(499904,⟨1,some (.map (kp 0 S.fs) S.fs.length)⟩),(500002,⟨S.vh,some (.map (gG 0 S.c.vars ++[(.str nm, .agg [],S.c.vars.length)]) (S.c.vars.length+1))⟩),(500003,⟨S.vs,some (.map (cU 0 S.c.seen ++[(.str nm, .int .i64 (S.c.vars.length:Int),S.c.seen.length)]) (S.c.seen.length+1))⟩),
  (500004,⟨S.vq,some (.map (a8 S.c.sure.l) S.c.sure.c)⟩),(500005,⟨S.vv+1,some (.arr 4 ((S.c.vars.map A2).take S.c.vars.length ++[.d (.agg [.str nm, .int .u8 ty, .int .i64 n, .int .i64 a])]))⟩),(500382,⟨S.vp,some (.arr 3 (S.c.pts.map cO))⟩),(500191,⟨1,some (.arr 1 ((S.W.set S.fn (lg S.vv S.c.vars)).set (0+(S.fn:Int).toNat) (.sl 500005 (S.vv+1) 0 (S.c.vars.length+1) 4)))⟩)]
def CK.add(S:CK)(v:Vr):CK:={S with c:=S.c.add v,vv:=S.vv+1}
theorem Dg(S:CK)(nm:List UInt8)(ty n a:Int):OU S nm ty n a=ck (S.add ⟨nm,ty,n,a⟩):=by
 have b:(S.c.vars.map A2).take S.c.vars.length=S.c.vars.map A2:=yh (by simp);simp only[OU,ck,Dc,CK.add,CS.add,b,zy,tY,xC,xD,xF,xY,xN,xk,xb,xo,List.set_set,lg];rfl
theorem rO{S:CK}(h:CKok S):∀a:aa,ax Pg 73 [aE] (ag (ck S) a) [lg S.vv S.c.vars] (ag (ck S) a):=fun a=>
 am bv named {hint:=qT 73 [(12,U7 Pg h),(13,Om Pg h)]} 2000 1000 _ (by kernel_rfl)
theorem OV{S:CK}(h:CKok S)(nm:List UInt8)(ty n a:Int)(b:(S.c.vars.any fun v=>v.nm==nm)=false)(e:eZ nm S.c.seen 0=none)(h':CKok (S.add ⟨nm,ty,n,a⟩)):
    HC 48 [aE, .d (.agg [.str nm, .int .u8 ty, .int .i64 n, .int .i64 a])] (ck S) [.int .i64 (S.c.vars.length:Int)] (OU S nm ty n a):=
 qN {hint:=qT 48 [(22, .apps (S.c.vars.map A2) S.c.vars.length 1 ⟨by simp,by have:=h.vars;omega⟩),(23,U7 Pg h),(102015,Om Pg h),(103007, .look (.str nm) (gG 0 S.c.vars) none (fg nm _ 0 0 b)),(104007,G4 Pg nm S.c.seen none e)],calls:=tC [(48,7,1117,bc rfl (rO h)),(48,19,1585,bc rfl (rO h))]} 1000 (Dg S nm ty n a▸ay h h' rfl)
end Go.Avm
namespace Go.Avm
open Go.Proofs
theorem KL{S:CK}(h:CKok S)(nm:List UInt8)(ty n a:Int)(b:(S.c.vars.any fun v=>v.nm==nm)=false)(e:eZ nm S.c.seen 0=none)(h':CKok (S.add ⟨nm,ty,n,a⟩)):
    HC 48 [aE, .d (.agg [.str nm, .int .u8 ty, .int .i64 n, .int .i64 a])] (ck S) [.int .i64 (S.c.vars.length:Int)] (ck (S.add ⟨nm,ty,n,a⟩)):=by
 rw[←Dg];exact OV h nm ty n a b e h'
abbrev KM(S:CK)(b:List (D×D×Nat))(a:Nat):List (Nat×aK):=
 [(500000,⟨1,some (.arr 1 (Dc S))⟩),(499904,⟨1,some (.map (kp 0 S.fs) S.fs.length)⟩),(500002,⟨S.vh,some (.map (gG 0 S.c.vars) S.c.vars.length)⟩),(500003,⟨S.vs,some (.map (cU 0 S.c.seen) S.c.seen.length)⟩),
  (500004,⟨S.vq,some (.map b a)⟩),(500005,⟨S.vv,some (.arr 4 (S.c.vars.map A2))⟩),(500382,⟨S.vp,some (.arr 3 (S.c.pts.map cO))⟩),(500191,⟨1,some (.arr 1 (S.W.set S.fn (lg S.vv S.c.vars)))⟩)]
def CK.put(S:CK)(i:Nat):CK:={S with c:={S.c with sure:=S.c.sure.put i}}
theorem vB{S:CK}{i:Nat}(a:bW i S.c.sure.l 0=none):KM S (a8 S.c.sure.l ++[(.int .i64 (i:Int), .agg [],S.c.sure.c)]) (S.c.sure.c+1)=ck (S.put i):=by
 have e:S.c.sure.put i=⟨S.c.sure.l ++[(i,S.c.sure.c)],S.c.sure.c+1⟩:=by
  unfold SureL.put SureL.has;rw[a];rfl
 simp only[KM,ck,Dc,CK.put,e,a8,xY,xN,xk]
theorem RQ{S S':CK}(h:CKok S)(h':CKok S'){ar:List AV}(i:List (D×D×Nat))(b:Nat)(c:bX (d7 ((ck S).map (·.1)) 1000000) ar=ar):Cln ((ck S).map (·.1)) 1000000 ar (ck S) (KM S' i b):=
 ⟨rfl,rfl,rfl,c,f9 h rfl,by
  have a:=f9 h' (ρ:=d7 ((ck S).map (·.1)) 1000000) rfl;simp only[ck,xN,xk,List.cons.injEq,yr]at a;obtain⟨l,j,e,d,m,g,f,k⟩:=a;simp only[KM,xN,xk,l,j,e,d,g,f,k];rfl⟩
abbrev Yk(k id:Int)(nm:List UInt8)(ty n p:Int)(es:List Ex)(a b:List aP):List AV:=[UL k,dI id, .d (.str nm),UL ty,dI n,dI p, .d (.ro (gZ es)), .d (.ro (dH a)), .d (.ro (dH b))]
abbrev E7(k id:Int)(nm:List UInt8)(ty n p:Int)(es:List Ex)(a b:List aP):Nat×aK:=(2003,⟨1,some (.arr 1 (Yk k id nm ty n p es a b))⟩)
abbrev J5(es:List Ex)(i:Nat):List (Nat×AV):=[(0,aE),(3, .ptr 2003 1 0 0 1),(11, .d (.ro (gZ es))),(12,dN (gZ es).length),(13,dN i)]
section
variable{S:CK}(h:CKok S)(k id:Int)(nm:List UInt8)(ty n p:Int)(es:List Ex)(a b:List aP)(i:Nat)
include h
theorem RT(c:decide (i<(gZ es).length)=false):RE 100 (lO 104 2) (J5 es i) (ck S ++[E7 k id nm ty n p es a b]) (.exit 0) [(0,aE),(3, .ptr 2003 1 0 0 1)] (ck S ++[E7 k id nm ty n p es a b]):=
 qE {hint:=qT 104 [(14,gn Pg i (gZ es).length false c)]} 104 2000 (gH h h rfl rfl rfl rfl rfl rfl)
theorem RU(m:decide (i<(gZ es).length)=true)(q:(gZ es).length<1000000)(l g:Int)(e:List UInt8)(j f:Int)(d:List Ex)(o:es[i]? =some (.mk l g e j f d))(t:Int)(c:l5 S (.mk l g e j f d) [ty] t):
    RE 100 (lO 104 2) (J5 es i) (ck S ++[E7 k id nm ty n p es a b]) .normal (J5 es (i+1)) (ck S ++[E7 k id nm ty n p es a b]):=
 qE {hint:=qT 104 [(14,gn Pg i (gZ es).length true m),(15, .idx (gZ es) ((i:Nat):Int) (ez (.mk l g e j f d)) (by omega) (by simp[ic,o])),(23,cy Pg i (by have:=yC m;omega))],calls:=tC [(104,22,3000,bc rfl (wO c 2921))]} 104 2000 (gH h h rfl rfl rfl rfl rfl rfl)
theorem RV(m:decide (i<(gZ es).length)=true)(l g:Int)(e:List UInt8)(j f:Int)(d:List Ex)(o:es[i]? =some (.mk l g e j f d))(u r:Int)(c:iX S (.mk l g e j f d) [ty] u r):
    RE 100 (lO 104 2) (J5 es i) (ck S ++[E7 k id nm ty n p es a b]) (.panic (aB u r)) [] (ck S ++[(2003,⟨1,none⟩)]):=
 qE {hint:=qT 104 [(14,gn Pg i (gZ es).length true m),(15, .idx (gZ es) ((i:Nat):Int) (ez (.mk l g e j f d)) (by omega) (by simp[ic,o]))],pans:=an Pg [(104,4,2500,⟨5,some (bh (wP c 2921)),[]⟩)]} 104 2000 (gH h h rfl rfl rfl rfl rfl rfl)
end
def Vj(S:CK)(k id:Int)(nm:List UInt8)(ty n p:Int)(es:List Ex)(a b:List aP)(i:Nat):TR Unit→Prop
 | .ok _=>RL 100 (lO 104 2) (J5 es i) (ck S ++[E7 k id nm ty n p es a b]) (.exit 0) [(0,aE),(3, .ptr 2003 1 0 0 1)] (ck S ++[E7 k id nm ty n p es a b])
 | .bad u r=>RL 100 (lO 104 2) (J5 es i) (ck S ++[E7 k id nm ty n p es a b]) (.panic (aB u r)) [] (ck S ++[(2003,⟨1,none⟩)])
 | .out=>True
theorem M5{S:CK}(h:CKok S)(k id:Int)(nm:List UInt8)(ty n p:Int)(es:List Ex)(l o:List aP)(A:es.length<1000000):
    ∀(m i:Nat),es.length-i=m→i≤es.length→Vj S k id nm ty n p es l o i (aF (S.c.te S.fs) (es.drop i) ((es.drop i).map fun _=>[ty]) false)
 |0,i,hm,B=>by
  have z:i=es.length:=by omega
  subst z;rw[yi];exact fun a X d f=>aU (RT h k id nm ty n p es l o es.length (by simp[d8]) a X d f) (by simp)
 |m+1,i,hm,B=>by
  have b:i<es.length:=by omega
  have y:es[i]? =some es[i]:=xH b;rw[yL b];generalize es[i]=e at y;have c:=OP h e ty;obtain⟨x,v,j,w,s,g⟩:=e;rw[xN,bE];revert c;unfold WX;cases cB (S.c.te S.fs) (.mk x v j w s g) [ty]with
  |out=>exact fun _=>trivial
  |bad u r=>exact fun c a X d f=>aU (RV h k id nm ty n p es l o i (by simpa [d8]using b) x v j w s g y u r c a X d f) (by simp)
  |ok t=>
   intro c;have q:=M5 h k id nm ty n p es l o A m (i+1) (by omega) b;simp only[TR.bind,xI];revert q;cases aF (S.c.te S.fs) (es.drop (i+1)) ((es.drop (i+1)).map fun _=>[ty]) false with
   |out=>exact fun _=>trivial
   |bad u r=>exact fun q a X d f=>aR (RU h k id nm ty n p es l o i (by simpa [d8]using b) (by rw[d8];exact A) x v j w s g y t c a X d f) (q a X d f)
   |ok _=>exact fun q a X d f=>aR (RU h k id nm ty n p es l o i (by simpa [d8]using b) (by rw[d8];exact A) x v j w s g y t c a X d f) (q a X d f)
noncomputable def tp{S:CK}{k id:Int}{nm:List UInt8}{ty n p:Int}{es:List Ex}{c d:List aP}{x:aA}{l':List (Nat×AV)}{b:List (Nat×aK)}(h:RL 100 (lO 104 2) (J5 es 0) (ck S ++[E7 k id nm ty n p es c d]) x l' b):dy Pg:=
 ⟨100,bG Pg 104 2,J5 es 0,fun _=>ck S ++[E7 k id nm ty n p es c d],x,l',fun _=>b,fun a X f e=>(h a X f e).aw⟩
abbrev OW(S:CK)(k id:Int)(nm:List UInt8)(ty n p:Int)(es:List Ex)(a b:List aP):Prop:=RL 100 (lO 104 2) (J5 es 0) (ck S ++[E7 k id nm ty n p es a b]) (.exit 0) [(0,aE),(3, .ptr 2003 1 0 0 1)] (ck S ++[E7 k id nm ty n p es a b])
section
variable{S:CK}(h:CKok S)(k id:Int)(nm:List UInt8)(ty n p:Int)(es:List Ex)(a b:List aP)
include h
section
variable(d:OW S k id nm ty n p es a b)
include d
theorem He(q:Nat)(e:cq (.str nm) (gG 0 S.c.vars) 0=some (some (q, .agg []))):
    HX 104 [aE,eW k id nm ty n p es a b] (ck S) (aB p 7) (ck S):=
 qX {loops:=fun f q=>if f=104 then (if q=2 then some (tp d)else none)else none,hint:=qT 104 [(31, .look (.str nm) (gG 0 S.c.vars) (some (q, .agg [])) e)],pans:=an Pg [(104,7,3800,⟨4,some (bh (b7 p 7)),[]⟩)]} 2000 (ay h h rfl)
theorem KN(e:(S.c.vars.any fun v=>v.nm==nm)=false)(g:(ty==3)=true)(i:(S.deep==0)=false):
    HX 104 [aE,eW k id nm ty n p es a b] (ck S) (aB p 3) (ck S):=
 qX {loops:=fun f q=>if f=104 then (if q=2 then some (tp d)else none)else none,hint:=qT 104 [(31, .look (.str nm) (gG 0 S.c.vars) none (fg nm _ 0 0 e)),(41,qB g),(49,qB i)],calls:=tC [(104,38,4200,bc rfl (aV p 7))],pans:=an Pg [(104,9,4600,⟨11,some (bh (b7 p 3)),[]⟩)]} 2000 (ay h h rfl)
theorem OX(e:(S.c.vars.any fun v=>v.nm==nm)=false)(i:(ty==3)=true)(j:(S.deep==0)=true)(g:decide (1≤n)=false):
    HX 104 [aE,eW k id nm ty n p es a b] (ck S) (aB p 1) (ck S):=
 qX {loops:=fun f q=>if f=104 then (if q=2 then some (tp d)else none)else none,hint:=qT 104 [(31, .look (.str nm) (gG 0 S.c.vars) none (fg nm _ 0 0 e)),(41,qB i),(49,qB j),(59,qB g)],calls:=tC [(104,38,4200,bc rfl (aV p 7)),(104,53,5700,bc rfl (aV p 3))],pans:=an Pg [(104,10,5700,⟨14,some (bh (b7 p 1)),[]⟩)]} 2000 (ay h h rfl)
theorem KO(e:(S.c.vars.any fun v=>v.nm==nm)=false)(i:(ty==3)=true)(j:(S.deep==0)=true)(g:decide (1≤n)=true)(h2:decide (n≤256)=false):
    HX 104 [aE,eW k id nm ty n p es a b] (ck S) (aB p 1) (ck S):=
 qX {loops:=fun f q=>if f=104 then (if q=2 then some (tp d)else none)else none,hint:=qT 104 [(31, .look (.str nm) (gG 0 S.c.vars) none (fg nm _ 0 0 e)),(41,qB i),(49,qB j),(59,qB g),(63,qB h2)],calls:=tC [(104,38,4200,bc rfl (aV p 7)),(104,53,5700,bc rfl (aV p 3))],pans:=an Pg [(104,10,5700,⟨14,some (bh (b7 p 1)),[]⟩)]} 2000 (ay h h rfl)
theorem Hf(i:(S.c.vars.any fun v=>v.nm==nm)=false)(j:(ty==3)=true)(l:(S.deep==0)=true)(e:decide (1≤n)=true)(h2:decide (n≤256)=true)(g:decide ((S.c.vars.length:Int)<255)=false):
    HX 104 [aE,eW k id nm ty n p es a b] (ck S) (aB p 2) (ck S):=
 qX {loops:=fun f q=>if f=104 then (if q=2 then some (tp d)else none)else none,hint:=qT 104 [(31, .look (.str nm) (gG 0 S.c.vars) none (fg nm _ 0 0 i)),(41,qB j),(49,qB l),(59,qB e),(63,qB h2),(72,qB g)],calls:=tC [(104,38,4200,bc rfl (aV p 7)),(104,53,5700,bc rfl (aV p 3)),(104,68,7100,bc rfl (aV p 1)),(104,70,7200,bc rfl (rO h))],pans:=an Pg [(104,11,7100,⟨6,some (bh (b7 p 2)),[]⟩)]} 2000 (ay h h rfl)
theorem Hg(g:(S.c.vars.any fun v=>v.nm==nm)=false)(i:(ty==3)=false)(e:decide ((S.c.vars.length:Int)<255)=false):
    HX 104 [aE,eW k id nm ty n p es a b] (ck S) (aB p 2) (ck S):=
 qX {loops:=fun f q=>if f=104 then (if q=2 then some (tp d)else none)else none,hint:=qT 104 [(31, .look (.str nm) (gG 0 S.c.vars) none (fg nm _ 0 0 g)),(41,qB i),(72,qB e)],calls:=tC [(104,38,4200,bc rfl (aV p 7)),(104,53,5200,bc rfl (aV p 3)),(104,68,5800,bc rfl (aV p 1)),(104,70,5900,bc rfl (rO h))],pans:=an Pg [(104,11,5800,⟨6,some (bh (b7 p 2)),[]⟩)]} 2000 (ay h h rfl)
end
theorem RX(u r:Int)(c:RL 100 (lO 104 2) (J5 es 0) (ck S ++[E7 k id nm ty n p es a b]) (.panic (aB u r)) [] (ck S ++[(2003,⟨1,none⟩)])):
    HX 104 [aE,eW k id nm ty n p es a b] (ck S) (aB u r) (ck S):=
 qX ({loops:=fun f q=>if f=104 then (if q=2 then some (tp c)else none)else none}) 2000 (ay h h rfl)
section
variable(g:OW S k id nm ty n p es a b)(d:(S.c.vars.any fun v=>v.nm==nm)=false)(i:eZ nm S.c.seen 0=none)(h':CKok (S.add ⟨nm,ty,n,id⟩))(e:decide ((S.c.vars.length:Int)<255)=true)
include g d i h' e
theorem OY(l:(ty==3)=false)(j:decide ((0:Int)<((gZ es).length:Int))=false):
    HC 104 [aE,eW k id nm ty n p es a b] (ck S) [] (ck (S.add ⟨nm,ty,n,id⟩)):=
 qN {loops:=fun f q=>if f=104 then (if q=2 then some (tp g)else none)else none,hint:=qT 104 [(31, .look (.str nm) (gG 0 S.c.vars) none (fg nm _ 0 0 d)),(41,qB l),(72,qB e),(92,qB j)],calls:=tC [(104,38,4200,bc rfl (aV p 7)),(104,53,5200,bc rfl (aV p 3)),(104,68,5800,bc rfl (aV p 1)),(104,70,5900,bc rfl (rO h)),(104,75,6300,bc rfl (aV p 2)),(104,86,7300,ab (KL h nm ty n id d i h'))]} 2000 (ay h h' rfl)
theorem OZ(m:(ty==3)=false)(j:decide ((0:Int)<((gZ es).length:Int))=true)(o:bW S.c.vars.length S.c.sure.l 0=none):
    HC 104 [aE,eW k id nm ty n p es a b] (ck S) [] (KM (S.add ⟨nm,ty,n,id⟩) (a8 S.c.sure.l ++[(.int .i64 (S.c.vars.length:Int), .agg [],S.c.sure.c)]) (S.c.sure.c+1)):=
 qN {loops:=fun f q=>if f=104 then (if q=2 then some (tp g)else none)else none,hint:=qT 104 [(31, .look (.str nm) (gG 0 S.c.vars) none (fg nm _ 0 0 d)),(41,qB m),(72,qB e),(92,qB j),(114006,lh Pg S.c.vars.length S.c.sure.l none o)],calls:=tC [(104,38,4200,bc rfl (aV p 7)),(104,53,5200,bc rfl (aV p 3)),(104,68,5800,bc rfl (aV p 1)),(104,70,5900,bc rfl (rO h)),(104,75,6300,bc rfl (aV p 2)),(104,86,7300,ab (KL h nm ty n id d i h'))]} 2000 (RQ h h' _ _ rfl)
theorem O0(m:(ty==3)=true)(r:(S.deep==0)=true)(j:decide (1≤n)=true)(h2:decide (n≤256)=true)(o:bW S.c.vars.length S.c.sure.l 0=none):
    HC 104 [aE,eW k id nm ty n p es a b] (ck S) [] (KM (S.add ⟨nm,ty,n,id⟩) (a8 S.c.sure.l ++[(.int .i64 (S.c.vars.length:Int), .agg [],S.c.sure.c)]) (S.c.sure.c+1)):=
 qN {loops:=fun f q=>if f=104 then (if q=2 then some (tp g)else none)else none,hint:=qT 104 [(31, .look (.str nm) (gG 0 S.c.vars) none (fg nm _ 0 0 d)),(41,qB m),(49,qB r),(59,qB j),(63,qB h2),(72,qB e),(114006,lh Pg S.c.vars.length S.c.sure.l none o)],calls:=tC [(104,38,4200,bc rfl (aV p 7)),(104,53,5700,bc rfl (aV p 3)),(104,68,7100,bc rfl (aV p 1)),(104,70,7200,bc rfl (rO h)),(104,75,7600,bc rfl (aV p 2)),(104,86,8600,ab (KL h nm ty n id d i h'))]} 2000 (RQ h h' _ _ rfl)
end
end
end Go.Avm
namespace Go.Avm
open Go.Proofs
theorem nP(x:Ex)(zs:List Ex):decide ((0:Int)<((gZ (x::zs)).length:Int))=true:=by
 rw[d8,xD];exact decide_eq_true (by omega)
section
variable{S:CK}(h:CKok S)(k id:Int)(nm:List UInt8)(ty n p:Int)(i e:Int)(b:List UInt8)(g d:Int)(a zs:List Ex)(l m:List aP)(f:Fn)(j:S.fs[S.fn]? =some f)
include h j
theorem O1(c:(f.res !=0)=false):HC 111 [aE,eW k id nm ty n p [] l m] (ck S) [] (ck S):=
 qN {hint:=qT 111 [(14, .idx (S.fs.map c2) (S.fn:Int) (c2 f) (by omega) (by simp[j])),(19,qB c)]} 1000 (ay h h rfl)
theorem O2(c:(f.res !=0)=true):HX 111 [aE,eW k id nm ty n p [] l m] (ck S) (aB p 8) (ck S):=
 qX {hint:=qT 111 [(14, .idx (S.fs.map c2) (S.fn:Int) (c2 f) (by omega) (by simp[j])),(19,qB c)],pans:=an Pg [(111,3,1901,⟨6,some (bh (b7 p 8)),[]⟩)]} 1000 (ay h h rfl)
theorem Vk(o:(f.res !=0)=true)(t:Int)(c:l5 S (.mk i e b g d a) [f.res] t):HC 111 [aE,eW k id nm ty n p (.mk i e b g d a::zs) l m] (ck S) [] (ck S):=
 qN {hint:=qT 111 [(14, .idx (S.fs.map c2) (S.fn:Int) (c2 f) (by omega) (by simp[j])),(19,qB o),(23,hB Pg (decide ((0:Int)<((gZ (.mk i e b g d a::zs)).length:Int))) true (nP _ _))],calls:=tC [(111,26,2219,bc rfl (aV p 8)),(111,34,2590,bc rfl (wO c 2570))]} 1000 (ay h h rfl)
theorem RY(o:(f.res !=0)=true)(u r:Int)(c:iX S (.mk i e b g d a) [f.res] u r):HX 111 [aE,eW k id nm ty n p (.mk i e b g d a::zs) l m] (ck S) (aB u r) (ck S):=
 qX {hint:=qT 111 [(14, .idx (S.fs.map c2) (S.fn:Int) (c2 f) (by omega) (by simp[j])),(19,qB o),(23,hB Pg (decide ((0:Int)<((gZ (.mk i e b g d a::zs)).length:Int))) true (nP _ _))],calls:=tC [(111,26,2219,bc rfl (aV p 8))],pans:=an Pg [(111,4,2219,⟨7,some (bh (wP c 2570)),[]⟩)]} 1000 (ay h h rfl)
theorem KP(o:(f.res !=0)=false)(u r:Int)(c:HX 112 [aE,hO i e b g d a] (ck S) (aB u r) (ck S)):HX 111 [aE,eW k id nm ty n p (.mk i e b g d a::zs) l m] (ck S) (aB u r) (ck S):=
 qX {hint:=qT 111 [(14, .idx (S.fs.map c2) (S.fn:Int) (c2 f) (by omega) (by simp[j])),(19,qB o),(39,hB Pg (decide ((0:Int)<((gZ (.mk i e b g d a::zs)).length:Int))) true (nP _ _))],pans:=an Pg [(111,6,2166,⟨5,some (bh c),[]⟩)]} 1000 (ay h h rfl)
theorem O3(o:(f.res !=0)=false)(t:Int)(c:HC 112 [aE,hO i e b g d a] (ck S) [gj t] (ck S)):HX 111 [aE,eW k id nm ty n p (.mk i e b g d a::zs) l m] (ck S) (aB d 8) (ck S):=
 qX {hint:=qT 111 [(14, .idx (S.fs.map c2) (S.fn:Int) (c2 f) (by omega) (by simp[j])),(19,qB o),(39,hB Pg (decide ((0:Int)<((gZ (.mk i e b g d a::zs)).length:Int))) true (nP _ _))],calls:=tC [(111,45,2431,bc rfl c)],pans:=an Pg [(111,7,2431,⟨7,none,[]⟩)]} 1000 (ay h h rfl)
end
def TS(S:CK)(f:Nat)(args:List AV):TR CS→Prop
 | .ok c=>c=S.c∧HC f args (ck S) [] (ck S)
 | .bad p e=>HX f args (ck S) (aB p e) (ck S)
 | .out=>True
theorem R0{S:CK}(h:CKok S)(k id:Int)(nm:List UInt8)(ty n p:Int)(es:List Ex)(l m:List aP):TS S 111 [aE,eW k id nm ty n p es l m] (kj S.fs S.fn p es S.c):=by
 unfold kj;cases o:S.fs[S.fn]? with
 |none=>exact trivial
 |some f=>
  simp only;cases q:(f.res==0)with
  |true=>
   have j:(f.res !=0)=false:=by simp[bne,q]
   simp only[xR];match es with
   |[]=>exact⟨rfl,O1 h k id nm ty n p l m f o j⟩
   | .mk i e b g d a::zs=>
    have c:=UM h (.mk i e b g d a);simp only;revert c;cases ev (S.c.te S.fs) (.mk i e b g d a)with
    |out=>exact fun _=>trivial
    |bad u r=>exact fun c=>KP h k id nm ty n p i e b g d a zs l m f o j u r c
    |ok t=>exact fun c=>O3 h k id nm ty n p i e b g d a zs l m f o j t c
  |false=>
   have j:(f.res !=0)=true:=by simp[bne,q]
   simp only[xI];match es with
   |[]=>exact O2 h k id nm ty n p l m f o j
   | .mk i e b g d a::zs=>
    have c:=OP h (.mk i e b g d a) f.res;simp only;revert c;unfold WX;cases cB (S.c.te S.fs) (.mk i e b g d a) [f.res]with
    |out=>exact fun _=>trivial
    |bad u r=>exact fun c=>RY h k id nm ty n p i e b g d a zs l m f o j u r c
    |ok t=>exact fun c=>⟨rfl,Vk h k id nm ty n p i e b g d a zs l m f o j t c⟩
end Go.Avm
namespace Go.Avm
open Go.Proofs
theorem rQ{x:List UInt8}:∀{l:hN}{j:Nat},(∀p∈l,p.1≠x)→eZ x l j=none
 |[],_,_=>rfl
 |e::r,j,h=>by
  have a:(x==e.1)=false:=beq_eq_false_iff_ne.2 (Ne.symm (h e (by simp)));simp only[eZ,a,xI];exact rQ fun p hp=>h p (by simp[hp])
theorem jX{x:Nat}:∀{l:List (Nat×Nat)}{j:Nat},(∀p∈l,p.1≠x)→bW x l j=none
 |[],_,_=>rfl
 |e::r,j,h=>by
  have a:(x==e.1)=false:=beq_eq_false_iff_ne.2 (Ne.symm (h e (by simp)));simp only[bW,a,xI];exact jX fun p hp=>h p (by simp[hp])
theorem zz{S:CK}(h:CKok S){nm:List UInt8}(a:(S.c.vars.any fun v=>v.nm==nm)=false):eZ nm S.c.seen 0=none:=rQ fun p hp e=>by
 have:=h.had p hp;rw[e,a]at this;cases this
theorem B8{S:CK}(h:CKok S){v:Vr}(i:v.nm.length≤1000000)(g:(S.c.vars.any fun w=>w.nm==v.nm)=false)(j:S.c.vars.length<255):CKok (S.add v) where
 fn:=h.fn
 W:=h.W
 dat:=h.dat
 len:=h.len
 par:=h.par
 vars:=by simp only[CK.add,CS.add,xC,xD,xF];omega
 seen:=fun p hp=>by
  simp only[CK.add,CS.add,xC,xD,xF,xZ,xK]at hp ⊢;rcases hp with hp|rfl
  ·have:=h.seen p hp;omega
  ·simp
 inc:=by
  simp only[CK.add,CS.add,xY,xN,xk];rw[List.pairwise_append];refine⟨h.inc,by simp,fun a f b d=> ?_⟩;obtain⟨p,hp,rfl⟩:=xi.1 f;simp only[xK]at d;subst d;exact h.seen p hp
 nms:=by
  simp only[CK.add,CS.add,xY,xN,xk];rw[List.nodup_append];refine⟨h.nms,by simp,fun a f b d=> ?_⟩;obtain⟨p,hp,rfl⟩:=xi.1 f;simp only[xK]at d;subst d;intro e;have:=h.had p hp;rw[e,g]at this;cases this
 nml:=fun p hp=>by
  simp only[CK.add,CS.add,xZ,xK]at hp;rcases hp with hp|rfl
  ·exact h.nml p hp
  ·exact i
 had:=fun p hp=>by
  simp only[CK.add,CS.add,xZ,xK,List.any_append,xy]at hp ⊢;rcases hp with hp|rfl
  ·exact .inl (h.had p hp)
  ·exact .inr (by simp)
 sk:=h.sk
 sb:=h.sb
 sc:=h.sc
 sv:=fun p hp=>by
  have:=h.sv p hp;simp only[CK.add,CS.add,xC,xD,xF];omega
 pts:=h.pts
theorem rR{x:Nat}:∀{l:List (Nat×Nat)}{j:Nat},(∃p∈l,p.1=x)→(bW x l j).isSome=true
 |[],_,h=>by simp at h
 |e::r,j,h=>by
  cases a:(x==e.1)with
  |true=>simp only[bW,a,xR];rfl
  |false=>
   simp only[bW,a,xI];refine rR ?_;obtain⟨p,hp,b⟩:=h;rcases xX.1 hp with rfl|hp
   ·rw[b]at a;simp at a
   ·exact⟨p,hp,b⟩
theorem vC{S:CK}(h:CKok S)(i:Nat)(m:i<S.c.vars.length):CKok (S.put i):=by
 cases f:S.c.sure.has i with
 |true=>
  have e:S.put i=S:=by simp only[CK.put,SureL.put,f,xR]
  rw[e];exact h
 |false=>
  have e:S.c.sure.put i=⟨S.c.sure.l ++[(i,S.c.sure.c)],S.c.sure.c+1⟩:=by simp only[SureL.put,f,xI]
  have k:∀p∈S.c.sure.l,p.1≠i:=fun p hp n=>by
   have:=rR (x:=i) (j:=0) ⟨p,hp,n⟩;unfold SureL.has at f;rw[f]at this;cases this
  exact{h with
   sk:=by
    simp only[CK.put,e,xY,xN,xk];rw[List.nodup_append];refine⟨h.sk,by simp,fun a g b d=> ?_⟩;obtain⟨p,hp,rfl⟩:=xi.1 g;simp only[xK]at d;subst d;exact k p hp
   sb:=by
    simp only[CK.put,e,xY,xN,xk];rw[List.nodup_append];refine⟨h.sb,by simp,fun a g b d=> ?_⟩;obtain⟨p,hp,rfl⟩:=xi.1 g;simp only[xK]at d;subst d;have:=h.sc p hp;omega
   sc:=fun p hp=>by
    simp only[CK.put,e,xZ,xK]at hp ⊢;rcases hp with hp|rfl
    ·have:=h.sc p hp;omega
    ·simp
   sv:=fun p hp=>by
    simp only[CK.put,e,xZ,xK]at hp;rcases hp with hp|rfl
    ·exact h.sv p hp
    ·exact m}
end Go.Avm
namespace Go.Avm
open Go.Proofs
structure Gv where
 vh:Nat
 vs:Nat
 vq:Nat
 vv:Nat
 vp:Nat
abbrev cP(g:Gv):List (Nat×aK):=[(500000,⟨1,none⟩),(499904,⟨1,none⟩),(500002,⟨g.vh,none⟩),(500003,⟨g.vs,none⟩),(500004,⟨g.vq,none⟩),(500005,⟨g.vv,none⟩),(500382,⟨g.vp,none⟩),(500191,⟨1,none⟩)]
def CK.gv(S:CK):Gv:=⟨S.vh,S.vs,S.vq,S.vv,S.vp⟩
theorem E8{P:Program}{g:Nat}{args:List AV}{x:AV}{h c h2:aa}(d:iW P g args h x c)(f:∀k,(h2 k).ver=(c k).ver∧((h2 k).ob=none∨(h2 k).ob=(c k).ob)):iW P g args h x h2:=
 ⟨d.1,fun G B w0 I0 w a l i b=>(d.2 G B w0 I0 w a l i b).mono fun _ _ ⟨v,o,n,m,e,j⟩=>⟨v,o,n,m,e.forget f,j⟩⟩
theorem zU(a:aa):∀(l:List (Nat×aK))(k:Nat),(ag (l.map fun p=>(p.1,(⟨p.2.ver,none⟩:aK))) a k).ver=(ag l a k).ver∧((ag (l.map fun p=>(p.1,(⟨p.2.ver,none⟩:aK))) a k).ob=none∨(ag (l.map fun p=>(p.1,(⟨p.2.ver,none⟩:aK))) a k).ob=(ag l a k).ob)
 |[],_=>⟨rfl, .inr rfl⟩
 |(b,e)::r,k=>by
  simp only[xN,ag,aJ];split
  ·exact⟨rfl, .inl rfl⟩
  ·exact zU a r k
abbrev O4(S:CK)(f:Nat)(args:List AV)(p e:Int):Prop:=∃g,HX f args (ck S) (aB p e) (cP g)
theorem ii{S S':CK}{f:Nat}{args:List AV}{p e:Int}(h:HX f args (ck S) (aB p e) (ck S')):O4 S f args p e:=
 ⟨S'.gv,fun a=>E8 (h a) (zU a (ck S'))⟩
structure Nx(S S':CK)(c:CS):Prop where
 ok:CKok S'
 c:S'.c=c
 fs:S'.fs=S.fs
 fn:S'.fn=S.fn
 deep:S'.deep=S.deep
 W:S'.W=S.W
 vars:S.c.vars<+:S'.c.vars
def TC(S:CK)(f:Nat)(args:List AV):TR CS→Prop
 | .ok c=>∃S',Nx S S' c∧HC f args (ck S) [] (ck S')
 | .bad p e=>O4 S f args p e
 | .out=>True
theorem CKok.nx{S:CK}(h:CKok S):Nx S S S.c:=⟨h,rfl,rfl,rfl,rfl,rfl,List.prefix_refl _⟩
theorem Vl{S:CK}(h:CKok S)(k id:Int)(nm:List UInt8)(ty n p:Int)(es:List Ex)(a b:List aP):TC S 104 [aE,eW k id nm ty n p es a b] (rD S.fs S.deep nm id ty n p es S.c):=by
 unfold rD;cases z:decide (1000000≤es.length)with
 |true=>exact trivial
 |false=>
  have y:=yQ z;have c:=M5 h k id nm ty n p es a b (by omega) _ 0 rfl (xz _);rw[yM]at c;simp only[xI];revert c;cases aF (S.c.te S.fs) es (es.map fun _=>[ty]) false with
  |out=>exact fun _=>trivial
  |bad u r=>exact fun c=>ii (S':=S) (RX h k id nm ty n p es a b u r c)
  |ok _=>
   intro c;have c:OW S k id nm ty n p es a b:=c;simp only[TR.bind];cases t:decide (1000000<nm.length)with
   |true=>exact trivial
   |false=>
   have x:=yQ t;simp only[xI];cases d:S.c.vars.any fun v=>v.nm==nm with
   |true=>
    obtain⟨q,g⟩:=tW nm S.c.vars 0 0 d;exact ii (He h k id nm ty n p es a b c q g)
   |false=>
   have s:=zz h d;simp only[xI];cases f:(ty==3)with
   |true=>
    simp only[Bool.true_and,Bool.true_or];cases m:(S.deep==0)with
    |false=>exact ii (KN h k id nm ty n p es a b c d f m)
    |true=>
    simp only[Bool.not_true,xI];cases o:decide (1≤n)with
    |false=>exact ii (OX h k id nm ty n p es a b c d f m o)
    |true=>
    cases h2:decide (n≤256)with
    |false=>exact ii (KO h k id nm ty n p es a b c d f m o h2)
    |true=>
    simp only[Bool.and_self,Bool.not_true,xI];cases j:decide (255≤S.c.vars.length)with
    |true=>exact ii (Hf h k id nm ty n p es a b c d f m o h2 (by have:=yC j;simp;omega))
    |false=>
    have w:=yQ j;have h':=B8 h (v:=⟨nm,ty,n,id⟩) (by simp only;omega) d (by omega);have g:bW S.c.vars.length S.c.sure.l 0=none:=jX fun p hp e=>by have:=h.sv p hp;omega
    refine⟨(S.add ⟨nm,ty,n,id⟩).put S.c.vars.length,⟨vC h' _ (by simp[CK.add,CS.add]),rfl,rfl,rfl,rfl,rfl,List.prefix_append _ _⟩, ?_⟩;rw[←vB (S:=S.add ⟨nm,ty,n,id⟩) (i:=S.c.vars.length) g];exact O0 h k id nm ty n p es a b c d s h' (by simp;omega) f m o h2 g
   |false=>
    simp only[Bool.false_and,xI,Bool.false_or];cases j:decide (255≤S.c.vars.length)with
    |true=>exact ii (Hg h k id nm ty n p es a b c d f (by have:=yC j;simp;omega))
    |false=>
    have w:=yQ j;have h':=B8 h (v:=⟨nm,ty,n,id⟩) (by simp only;omega) d (by omega);have g:bW S.c.vars.length S.c.sure.l 0=none:=jX fun p hp e=>by have:=h.sv p hp;omega
    cases es with
    |nil=>exact⟨S.add ⟨nm,ty,n,id⟩,⟨h',rfl,rfl,rfl,rfl,rfl,List.prefix_append _ _⟩,OY h k id nm ty n p [] a b c d s h' (by simp;omega) f rfl⟩
    |cons e r=>
     refine⟨(S.add ⟨nm,ty,n,id⟩).put S.c.vars.length,⟨vC h' _ (by simp[CK.add,CS.add]),rfl,rfl,rfl,rfl,rfl,List.prefix_append _ _⟩, ?_⟩;rw[←vB (S:=S.add ⟨nm,ty,n,id⟩) (i:=S.c.vars.length) g];exact OZ h k id nm ty n p (e::r) a b c d s h' (by simp;omega) f (nP _ _) g
end Go.Avm
