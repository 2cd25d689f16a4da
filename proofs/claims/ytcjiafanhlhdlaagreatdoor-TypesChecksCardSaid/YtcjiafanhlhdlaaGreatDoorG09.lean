/-
  The kit's library contracts, laid at this program (printed by the kit's lay-plain).
-/
import Derived.Shelf.SlGeneric
import Derived.Shelf.SlIterI.Sorted
import Derived.Shelf.SlIter.AllValues
import Derived.Shelf.SortM.Plain
import Derived.Shelf.SortM.SortNone
import Derived.Shelf.SlMaps.Clone
import Derived.Ground.GgzProg
import Derived.Ground.GgmProg
import Derived.Ground.SlgmProg
import Derived.Ground.SlmcProg
import Derived.Test.YtcjiafanhlhdlaaGreatDoorProg
import Derived.Test.YtcjiafanhlhdlaaGreatDoorG07
import Derived.Test.YtcjiafanhlhdlaaGreatDoorRows
import Derived.Tactics
import Derived.Tactics2
import Derived.Defers
import Derived.Laws.Pointers
import Derived.Laws.LoneSync
import Derived.RegionTactic
import Derived.RegionCalls
import Derived.ChangeAlike
import Derived.Test.YtcjiafanhlhdlaaGreatDoorG06
import Derived.IntWalk
import Derived.Test.YtcjiafanhlhdlaaGreatDoorG08
namespace Go.Proofs
open Go.Shelf
def Tryz.lsorted_ren:Go.Shelf.Ren:=⟨fun|6=>132|8=>155|9=>156|11=>174|13=>176|12=>175|23=>195|24=>139|14=>186|15=>187|16=>188|17=>189|18=>190|19=>191|20=>192|21=>193|22=>194|25=>203|26=>204|27=>205|28=>206|29=>207|30=>208|31=>209|n=>n,fun|26=>3|28=>218|24=>42|0=>0|3=>3|37=>149|48=>119|50=>175|4=>4|40=>283|39=>282|45=>143|5=>5|9=>9|51=>292|55=>75|57=>297|58=>298|33=>226|n=>n,fun|n=>n⟩
theorem Tryz.lsorted:Go.Proofs.SlLaysZI.n6 Tryz.prog Tryz.lsorted_ren:={
 mixed:=by kernel_rfl
 f6:=⟨Tryz.f132.name,by decide,Tryz.func132.trans (congrArg some (by kernel_rfl))⟩
 f8:=⟨Tryz.f155.name,by decide,Tryz.func155.trans (congrArg some (by kernel_rfl))⟩
 f11:=⟨Tryz.f174.name,by decide,Tryz.func174.trans (congrArg some (by kernel_rfl))⟩
 t0:=Tryz.underlying0
 a0:=Tryz.isAgg0
 z0:=Tryz.sizeOf0
 v0:=Tryz.zeroValue0
 t24:=Tryz.underlying42
 a24:=Tryz.isAgg42
 z24:=Tryz.sizeOf42
 v24:=Tryz.zeroValue42
 t26:=Tryz.underlying3
 a26:=Tryz.isAgg3
 z26:=Tryz.sizeOf3
 v26:=Tryz.zeroValue3
 t28:=Tryz.underlying218
 a28:=Tryz.isAgg218
 z28:=Tryz.sizeOf218
 v28:=Tryz.zeroValue218
 i26:=by kernel_rfl}
def Tryz.lvals_ren:Go.Shelf.Ren:=⟨fun|7=>157|n=>n,fun|33=>226|23=>88|0=>0|4=>4|3=>3|27=>9|n=>n,fun|n=>n⟩
theorem Tryz.lvals:Go.Proofs.SlLaysY.n7 Tryz.prog Tryz.lvals_ren:={
 mixed:=by kernel_rfl
 f7:=⟨Tryz.f157.name,by decide,Tryz.func157.trans (congrArg some (by kernel_rfl))⟩
 t0:=Tryz.underlying0
 a0:=Tryz.isAgg0
 z0:=Tryz.sizeOf0
 v0:=Tryz.zeroValue0
 t3:=Tryz.underlying3
 a3:=Tryz.isAgg3
 z3:=Tryz.sizeOf3
 v3:=Tryz.zeroValue3
 t4:=Tryz.underlying4
 a4:=Tryz.isAgg4
 z4:=Tryz.sizeOf4
 v4:=Tryz.zeroValue4
 t23:=Tryz.underlying88
 a23:=Tryz.isAgg88
 z23:=Tryz.sizeOf88
 v23:=Tryz.zeroValue88
 t33:=Tryz.underlying226
 a33:=Tryz.isAgg226
 z33:=Tryz.sizeOf226
 v33:=Tryz.zeroValue226
 t27:=Tryz.underlying9}
def Tryz.lsort_ren:Go.Shelf.Ren:=⟨fun|5=>156|8=>176|7=>175|19=>195|20=>139|10=>186|11=>187|12=>188|13=>189|14=>190|15=>191|16=>192|17=>193|18=>194|30=>203|31=>204|32=>205|33=>206|34=>207|35=>208|40=>209|n=>n,fun|23=>42|25=>3|3=>3|32=>149|22=>42|0=>0|44=>119|46=>175|4=>4|36=>283|35=>282|41=>143|5=>5|9=>9|53=>292|57=>75|63=>297|64=>298|n=>n,fun|n=>n⟩
theorem Tryz.lsort:Go.Proofs.SlLaysM.n5 Tryz.prog Tryz.lsort_ren:={
 mixed:=by kernel_rfl
 f5:=⟨Tryz.f156.name,by decide,Tryz.func156.trans (congrArg some (by kernel_rfl))⟩
 f7:=⟨Tryz.f175.name,by decide,Tryz.func175.trans (congrArg some (by kernel_rfl))⟩
 f8:=Tryz.func176.trans (congrArg some (by kernel_rfl))
 f10:=⟨Tryz.f186.name,by decide,Tryz.func186.trans (congrArg some (by kernel_rfl))⟩
 f11:=⟨Tryz.f187.name,by decide,Tryz.func187.trans (congrArg some (by kernel_rfl))⟩
 f12:=⟨Tryz.f188.name,by decide,Tryz.func188.trans (congrArg some (by kernel_rfl))⟩
 f13:=⟨Tryz.f189.name,by decide,Tryz.func189.trans (congrArg some (by kernel_rfl))⟩
 f14:=⟨Tryz.f190.name,by decide,Tryz.func190.trans (congrArg some (by kernel_rfl))⟩
 f15:=⟨Tryz.f191.name,by decide,Tryz.func191.trans (congrArg some (by kernel_rfl))⟩
 f16:=⟨Tryz.f192.name,by decide,Tryz.func192.trans (congrArg some (by kernel_rfl))⟩
 f17:=⟨Tryz.f193.name,by decide,Tryz.func193.trans (congrArg some (by kernel_rfl))⟩
 f18:=⟨Tryz.f194.name,by decide,Tryz.func194.trans (congrArg some (by kernel_rfl))⟩
 f19:=Tryz.func195.trans (congrArg some (by kernel_rfl))
 f20:=Tryz.func139.trans (congrArg some (by kernel_rfl))
 f30:=⟨Tryz.f203.name,by decide,Tryz.func203.trans (congrArg some (by kernel_rfl))⟩
 f31:=Tryz.func204.trans (congrArg some (by kernel_rfl))
 f32:=Tryz.func205.trans (congrArg some (by kernel_rfl))
 f33:=⟨Tryz.f206.name,by decide,Tryz.func206.trans (congrArg some (by kernel_rfl))⟩
 f34:=⟨Tryz.f207.name,by decide,Tryz.func207.trans (congrArg some (by kernel_rfl))⟩
 f35:=⟨Tryz.f208.name,by decide,Tryz.func208.trans (congrArg some (by kernel_rfl))⟩
 f40:=⟨Tryz.f209.name,by decide,Tryz.func209.trans (congrArg some (by kernel_rfl))⟩
 t0:=Tryz.underlying0
 a0:=Tryz.isAgg0
 z0:=Tryz.sizeOf0
 v0:=Tryz.zeroValue0
 t3:=Tryz.underlying3
 a3:=Tryz.isAgg3
 z3:=Tryz.sizeOf3
 v3:=Tryz.zeroValue3
 t4:=Tryz.underlying4
 a4:=Tryz.isAgg4
 z4:=Tryz.sizeOf4
 v4:=Tryz.zeroValue4
 t5:=Tryz.underlying5
 a5:=Tryz.isAgg5
 z5:=Tryz.sizeOf5
 v5:=Tryz.zeroValue5
 t9:=Tryz.underlying9
 a9:=Tryz.isAgg9
 z9:=Tryz.sizeOf9
 v9:=Tryz.zeroValue9
 t22:=Tryz.underlying42
 a22:=Tryz.isAgg42
 z22:=Tryz.sizeOf42
 v22:=Tryz.zeroValue42
 t23:=Tryz.underlying42
 a23:=Tryz.isAgg42
 z23:=Tryz.sizeOf42
 v23:=Tryz.zeroValue42
 t25:=Tryz.underlying3
 a25:=Tryz.isAgg3
 z25:=Tryz.sizeOf3
 v25:=Tryz.zeroValue3
 t32:=Tryz.underlying149
 a32:=Tryz.isAgg149
 z32:=Tryz.sizeOf149
 v32:=Tryz.zeroValue149
 t35:=Tryz.underlying282
 a35:=Tryz.isAgg282
 z35:=Tryz.sizeOf282
 v35:=Tryz.zeroValue282
 t36:=Tryz.underlying283
 a36:=Tryz.isAgg283
 z36:=Tryz.sizeOf283
 v36:=Tryz.zeroValue283
 t41:=Tryz.underlying143
 a41:=Tryz.isAgg143
 z41:=Tryz.sizeOf143
 v41:=Tryz.zeroValue143
 t44:=Tryz.underlying119
 a44:=Tryz.isAgg119
 z44:=Tryz.sizeOf119
 v44:=Tryz.zeroValue119
 t46:=Tryz.underlying175
 a46:=Tryz.isAgg175
 z46:=Tryz.sizeOf175
 v46:=Tryz.zeroValue175
 t53:=Tryz.underlying292
 a53:=Tryz.isAgg292
 z53:=Tryz.sizeOf292
 v53:=Tryz.zeroValue292
 t57:=Tryz.underlying75
 a57:=Tryz.isAgg75
 z57:=Tryz.sizeOf75
 v57:=Tryz.zeroValue75
 t63:=Tryz.underlying297
 a63:=Tryz.isAgg297
 z63:=Tryz.sizeOf297
 v63:=Tryz.zeroValue297
 t64:=Tryz.underlying298
 a64:=Tryz.isAgg298
 z64:=Tryz.sizeOf298
 v64:=Tryz.zeroValue298}
def Tryz.lclonea_ren:Go.Shelf.Ren:=⟨fun|5=>74|7=>102|n=>n,fun|23=>88|25=>9|3=>3|4=>4|20=>20|n=>n,fun|n=>n⟩
theorem Tryz.lclonea:Go.Proofs.SlLaysW.n5 Tryz.prog Tryz.lclonea_ren:={
 mixed:=by kernel_rfl
 f5:=⟨Tryz.f74.name,by decide,Tryz.func74.trans (congrArg some (by kernel_rfl))⟩
 f7:=Tryz.func102.trans (congrArg some (by kernel_rfl))
 t4:=Tryz.underlying4
 a4:=Tryz.isAgg4
 z4:=Tryz.sizeOf4
 v4:=Tryz.zeroValue4
 t20:=Tryz.underlying20
 a20:=Tryz.isAgg20
 z20:=Tryz.sizeOf20
 v20:=Tryz.zeroValue20
 t23:=Tryz.underlying88
 a23:=Tryz.isAgg88
 z23:=Tryz.sizeOf88
 v23:=Tryz.zeroValue88}
def Tryz.lcloneb_ren:Go.Shelf.Ren:=⟨fun|5=>109|7=>102|n=>n,fun|23=>90|25=>3|3=>116|4=>4|20=>20|n=>n,fun|n=>n⟩
theorem Tryz.lcloneb:Go.Proofs.SlLaysW.n5 Tryz.prog Tryz.lcloneb_ren:={
 mixed:=by kernel_rfl
 f5:=⟨Tryz.f109.name,by decide,Tryz.func109.trans (congrArg some (by kernel_rfl))⟩
 f7:=Tryz.func102.trans (congrArg some (by kernel_rfl))
 t4:=Tryz.underlying4
 a4:=Tryz.isAgg4
 z4:=Tryz.sizeOf4
 v4:=Tryz.zeroValue4
 t20:=Tryz.underlying20
 a20:=Tryz.isAgg20
 z20:=Tryz.sizeOf20
 v20:=Tryz.zeroValue20
 t23:=Tryz.underlying90
 a23:=Tryz.isAgg90
 z23:=Tryz.sizeOf90
 v23:=Tryz.zeroValue90}
end Go.Proofs
set_option linter.unusedVariables false
set_option linter.unusedSimpArgs false
set_option linter.unusedSectionVars false
namespace Go.Avm
open Go.Proofs Go.RowKit Go.Maps
theorem F1(m:Nat):AnyZI.SortsIn Tryz.prog Tryz.lsorted_ren Fence.wide m:=
 ⟨fun c d cap e W f a b=>callsIn_wide.2 (AnyM.slices_Sort_int Tryz.lsort c d cap e W f a b),
  fun p cap W=>callsIn_wide.2 (AnyM.slices_Sort_int_none Tryz.lsort p cap W)⟩
theorem BQ:da Tryz.prog 132:=⟨_,Tryz.func132,rfl,by decide⟩
variable[aH]
theorem Jr{h:aa}{kb vb k v:Nat}{es:List (D×D×Nat)}{c:Nat}(o:h kb=⟨vb,some (.arr 1 [.mp k v])⟩)(hm:h k=⟨v,some (.map es c)⟩)(p:FT es c):
    am Tryz.prog 132 [.fn 157 [.ptr kb vb 0 0 1]] h [.d (.ro ((lf (nI es)).map (D.int .i64)))] h:=
 vd BQ (iT:=Tryz.lsorted_ren.t 26) Tryz.lvals.t27 Tryz.lvals.t3 (fun g b nn i w hB l q f=>by
  have a:=(AnyY.values_stops Tryz.lvals Fence.wide 2 trivial rfl (by omega) g b nn i w hB l q).gives;have n:=AnyZI.sorted_in Tryz.lsorted Fence.wide 5 trivial trivial trivial trivial rfl (by omega) (F1 _) (enters_of Tryz.func156 (by kernel_rfl) rfl) 157 #[.pointer (some ⟨g,0,none⟩)] trivial (enters_of Tryz.func157 (by kernel_rfl) rfl) _ (Maps.size i) (yH f (by unfold maxLen;omega)) (by omega) w a;refine(callsIn_wide.1 n).mono ?_;rintro e u ⟨v,j,s,h2,r,_,m⟩;exact⟨v,j,s,h2,r,m⟩) o hm p
end Go.Avm
namespace Go.Proofs.YtcjiafanhlhdlaaGreatDoor.once
theorem disable(w:World):(callFunc 178 #[]).run Tryz.prog w= .ok (.value (.tuple #[])) w:=run_call_mark0 Tryz.func178 (by kernel_rfl) (by kernel_rfl) (by kernel_rfl) .disable (by kernel_rfl) w
theorem enable(w:World):(callFunc 180 #[]).run Tryz.prog w= .ok (.value (.tuple #[])) w:=run_call_mark0 Tryz.func180 (by kernel_rfl) (by kernel_rfl) (by kernel_rfl) .enable (by kernel_rfl) w
theorem acquire(a:Addr)(w:World):(callFunc 181 #[.pointer (some a)]).run Tryz.prog w= .ok (.value (.tuple #[])) w:=run_call_marked Tryz.func181 (by kernel_rfl) (by kernel_rfl) (by kernel_rfl) .acquire (by kernel_rfl) a w
theorem releaseMerge(a:Addr)(w:World):(callFunc 183 #[.pointer (some a)]).run Tryz.prog w= .ok (.value (.tuple #[])) w:=run_call_marked Tryz.func183 (by kernel_rfl) (by kernel_rfl) (by kernel_rfl) .releaseMerge (by kernel_rfl) a w
set_option maxRecDepth 100000 in
set_option maxHeartbeats 1600000 in
theorem rM(a:Addr)(x:Value)(u:FrameMode)(w:World)(i:w.cell? a=some x)(h:w.frozen? a=false):
    CallsD Tryz.prog 151 #[.pointer (some a), .bool true] u w fun e g d=>g=u∧(e= .returned (.tuple #[])∧d=w.drew.setCell a (.int .u32 1)):=by
 have c:w.drew.cell? a=some x:=by go_simp
 have b:w.drew.frozen? a=false:=by go_simp
 have f:=run_call_store (P:=Tryz.prog) Tryz.func170 (by kernel_rfl) (by kernel_rfl) (by kernel_rfl) (by kernel_rfl) (k:= .u32) (y:=1) c b
 go_enter_d Tryz.func151,Tryz.ntmps151
 go_wp2
 go_region_calls
 all_goals (go_end0;exact⟨rfl,rfl⟩)
set_option maxRecDepth 100000 in
set_option maxHeartbeats 1600000 in
theorem pU(a:Addr)(u:FrameMode)(w:World)(b:w.cell? a=some (.int .i32 1))(d:w.frozen? a=false):
    CallsD Tryz.prog 150 #[.pointer (some a)] u w fun e h f=>h=u∧(e= .returned (.tuple #[])∧f=w.setCell a (.int .i32 0)):=by
 have j:=disable;have i:=enable;have k:=releaseMerge;have c:=run_call_add (P:=Tryz.prog) Tryz.func184 (by kernel_rfl) (by kernel_rfl) (by kernel_rfl) .i32 (by kernel_rfl) (y:= -1) (s:=0) b d (by simp[go_sem];rfl);have g:=run_convert_to_unsafe (P:=Tryz.prog) (src:=273) (dst:=170) Tryz.underlying273 Tryz.underlying170 (by kernel_rfl) b
 go_enter_d Tryz.func150,Tryz.ntmps150
 go_wp2
 go_end0
 go_wp2
 go_end0
 exact⟨rfl,rfl⟩
set_option maxRecDepth 100000 in
set_option maxHeartbeats 1600000 in
theorem Ei(a:Addr)(w:World)(c:w.cell? a=some (.int .i32 0))(f:w.frozen? a=false):
    Calls Tryz.prog 149 #[.pointer (some a)] w fun e g=>e= .returned (.tuple #[])∧g=w.setCell a (.int .i32 1):=by
 have j:=disable;have i:=enable;have k:=acquire;have d:=run_call_cas_hit (P:=Tryz.prog) Tryz.func179 (by kernel_rfl) (by kernel_rfl) (by kernel_rfl) .i32 (by kernel_rfl) (y:=1) c f;have b:(w.setCell a (.int .i32 1)).cell? a=some (.int .i32 1):=World.cell?_setCell_same w a _ c;have h:=run_convert_to_unsafe (P:=Tryz.prog) (src:=273) (dst:=170) Tryz.underlying273 Tryz.underlying170 (by kernel_rfl) b
 go_enter Tryz.func149,Tryz.ntmps149
 go_wp2
 first|go_end0|(simp only[Exit.inBlock,Exit.then];refine bodyPost_ret (results_none rfl _ _ _) rfl ?_)|refine bodyPost_ret (results_none rfl _ _ _) rfl ?_
 go_wp2
 go_end0
 exact⟨rfl,rfl⟩
set_option maxRecDepth 100000 in
set_option maxHeartbeats 1600000 in
theorem F2(b c:Nat)(g:Nat)(vs:Array Value)(w:World)(j:World→Prop)(y:∀args w,(callFunc g args).run Tryz.prog w= .ok (.enter g args) w)
    (s:w.cell? ⟨b,c,none⟩=some (.int .u32 0)) (A:w.cell? ⟨b,c+1,none⟩=some (.int .i32 0)) (u:w.frozen? ⟨b,c,none⟩=false) (t:w.frozen? ⟨b,c+1,none⟩=false)
    (h:Calls Tryz.prog g vs (w.setCell ⟨b,c+1,none⟩ (.int .i32 1)) fun e d=>(∃v,e= .returned v)∧j d)
    (k:∀d,j d→d.cell? ⟨b,c,none⟩=some (.int .u32 0)∧d.cell? ⟨b,c+1,none⟩=some (.int .i32 1)∧d.frozen? ⟨b,c,none⟩=false∧d.frozen? ⟨b,c+1,none⟩=false):
    Calls Tryz.prog 123 #[.pointer (some ⟨b,c,none⟩), .func (.func g) #[] vs] w fun e m=>e= .returned (.tuple #[])∧
     ∃d,j d∧m=(d.drew.setCell ⟨b,c,none⟩ (.int .u32 1)).setCell ⟨b,c+1,none⟩ (.int .i32 0):=by
 have z:=run_call_load (P:=Tryz.prog) Tryz.func148 (by kernel_rfl) (by kernel_rfl) (by kernel_rfl) .u32 (by kernel_rfl) (w:=w.setCell ⟨b,c+1,none⟩ (.int .i32 1)) (a:=⟨b,c,none⟩) (x:=0) ((World.cell?_setCell_other _ ⟨b,c+1,none⟩ ⟨b,c,none⟩ _ (by simp)).trans s);have l:∀(x:Bool)(w:World),(Op.unary .not (.bool x)).run Tryz.prog w= .ok (.bool (!x)) w:=fun _ _=>rfl
 go_enter_defers Tryz.func123,Tryz.ntmps123
 go_wp2_with (go_at_call 149;refine(Ei ⟨b,c+1,none⟩ _ (by go_simp) (by go_simp)).mono ?_;rintro e m ⟨rfl,rfl⟩)
 go_wp2
 refine h.mono ?_;rintro e d ⟨⟨v,rfl⟩,n⟩;obtain⟨r,c1,q,o⟩:=k d n
 go_wp2
 refine leaves_cons (f:=151) (args:= #[.pointer (some ⟨b,c,none⟩), .bool true]) (by simp) (by simp[go_sem]) ?_;refine(rM ⟨b,c,none⟩ (.int .u32 0) .returning _ r q).mono ?_;rintro e p i ⟨rfl,rfl,rfl⟩;refine leaves_cons (f:=150) (args:= #[.pointer (some ⟨b,c+1,none⟩)]) (by simp[settle]) (by simp[go_sem]) ?_;refine(pU ⟨b,c+1,none⟩ _ _ ?_ (by simp[o])).mono ?_
 ·refine(World.cell?_setCell_other _ ⟨b,c,none⟩ ⟨b,c+1,none⟩ _ (by simp)).trans ?_
  rw[World.cell?_drew];exact c1
 rintro e p i ⟨rfl,rfl,rfl⟩;simp[Leaves,settle,results,Tryz.results94];exact⟨d,n,rfl⟩
set_option maxRecDepth 100000 in
set_option maxHeartbeats 1600000 in
theorem do_first(b a:Nat)(g:Nat)(vs:Array Value)(w:World)(f:World→Prop)(m:∀args w,(callFunc g args).run Tryz.prog w= .ok (.enter g args) w)
    (k:w.cell? ⟨b,a,none⟩=some (.int .u32 0)) (o:w.cell? ⟨b,a+1,none⟩=some (.int .i32 0)) (l:w.frozen? ⟨b,a,none⟩=false) (n:w.frozen? ⟨b,a+1,none⟩=false)
    (d:Calls Tryz.prog g vs (w.setCell ⟨b,a+1,none⟩ (.int .i32 1)) fun e c=>(∃v,e= .returned v)∧f c)
    (h:∀c,f c→c.cell? ⟨b,a,none⟩=some (.int .u32 0)∧c.cell? ⟨b,a+1,none⟩=some (.int .i32 1)∧c.frozen? ⟨b,a,none⟩=false∧c.frozen? ⟨b,a+1,none⟩=false):
    Calls Tryz.prog 94 #[.pointer (some ⟨b,a,none⟩), .func (.func g) #[] vs] w fun e j=>e= .returned (.tuple #[])∧
     ∃c,f c∧j=(c.drew.setCell ⟨b,a,none⟩ (.int .u32 1)).setCell ⟨b,a+1,none⟩ (.int .i32 0):=by
 have p:=run_call_load (P:=Tryz.prog) Tryz.func148 (by kernel_rfl) (by kernel_rfl) (by kernel_rfl) .u32 (by kernel_rfl) k;have i:∀(x:Bool)(w:World),(Op.unary .not (.bool x)).run Tryz.prog w= .ok (.bool (!x)) w:=fun _ _=>rfl
 go_enter Tryz.func94,Tryz.ntmps94
 go_wp2_with (first|(go_at_call 123;refine(F2 b a g vs _ f m k o l n d h).mono ?_;rintro e j ⟨rfl,hw⟩)|(go_at_call 122;go_in))
 go_end0
 exact⟨rfl,hw⟩
set_option maxRecDepth 100000 in
set_option maxHeartbeats 1600000 in
theorem do_done(a:Addr)(d:Int)(c:¬d=0)(i:Value)(w:World)(h:w.cell? a=some (.int .u32 d)):
    Calls Tryz.prog 94 #[.pointer (some a),i] w fun e f=>e= .returned (.tuple #[])∧f=w:=by
 have j:=run_call_load (P:=Tryz.prog) Tryz.func148 (by kernel_rfl) (by kernel_rfl) (by kernel_rfl) .u32 (by kernel_rfl) h;have b:∀(x:Bool)(w:World),(Op.unary .not (.bool x)).run Tryz.prog w= .ok (.bool (!x)) w:=fun _ _=>rfl
 have g:(d !=0)=true:=by simp[c]
 go_enter Tryz.func94,Tryz.ntmps94
 go_wp2
 go_end0
 exact⟨rfl,rfl⟩
end Go.Proofs.YtcjiafanhlhdlaaGreatDoor.once
namespace Go.Avm
open Go.RowKit Go.Proofs Go.Proofs.YtcjiafanhlhdlaaGreatDoor
variable[aH]
section
variable{P:Program}{G:Gh}{B:Nat}{w0 w:World}{I0:Nat→Nat→Prop}{h:aa}
theorem BR{b i:Nat}{arr:Array Value}{e:TypeId}{fz:Nat×Nat}(a:w.heap[b]? =some (.cells arr e fz))(u:Value):w.setCell ⟨b,i,none⟩ u=w.setRow b (arr.setIfInBounds i u):=by
 unfold World.setCell World.setRow;congr 1;apply Array.ext
 ·simp
 ·intro j d h2
  simp only[Array.getElem_modify];split
  ·rename_i c
   subst c
   have:w.heap[b]'(by simpa using d)= .cells arr e fz:=by
    have:=xR.1 a;exact this.2
   rw[this];simp
  ·rfl
theorem HR.cell1(q:HR G B w0 I0 h w){k i:Nat}{es:List AV}{L:sI}(j:(h k).ob=some (.arr 1 es))(s:G.loc k (h k).ver=some L)(A:i<es.length){y:AV}{u:Value}(H:Rep G w y u)(K:u.oneCell'=true)(J:y.lone=true):
    HR G B w0 I0 (aG h k ⟨(h k).ver,some (.arr 1 (es.set i y))⟩) (w.setCell ⟨L.b,i,none⟩ u)∧Ext G w G (w.setCell ⟨L.b,i,none⟩ u):=by
 rcases q.objs k _ j with ⟨rfl,_⟩|⟨N,l,v,E,I,M,z,F⟩
 ·simp at A
 rw[s]at l;cases l;obtain⟨hB,⟨arr,e,p,D⟩,_⟩:=q.own k L s;rw[BR p]
 have a:∀x∈es.set i y,x.lone=true:=fun x g=>by
  rcases xl g with g|rfl
  ·exact z rfl x g
  ·exact J
 refine q.store j s v E p (by simp) (by simpa using I) (fun x g=>by rw[AV.cells_lone (a x g)];rfl) (fun _=>a) (fun t c f=> ?_);rw[bP a,zE]at f;by_cases d:i=t
 ·subst d
  simp only[yS,A]at f;cases f;have o:i<arr.size:=by rw[D.1,v];omega
  exact⟨u,by simp[o],K,H⟩
 ·rw[xo d]at f
  obtain⟨C,m,r,n⟩:=F t c (by rw[bP (z rfl)];exact f);refine⟨C, ?_,r,n⟩;rw[Array.getElem?_setIfInBounds_ne d];simpa [World.cell?,p]using m
theorem HR.cellAt(l:HR G B w0 I0 h w){k i:Nat}{es:List AV}{L:sI}(f:(h k).ob=some (.arr 1 es))(j:G.loc k (h k).ver=some L){kd:IntKind}{n:Int}(g:es[i]? =some (.d (.int kd n))):
    w.cell? ⟨L.b,i,none⟩=some (.int kd n)∧w.frozen? ⟨L.b,i,none⟩=false:=by
 rcases l.objs k _ f with ⟨rfl,_⟩|⟨v,a,A,x,y,t,s,p⟩
 ·simp at g
 rw[j]at a;cases a;obtain⟨hB,⟨arr,e,r,z⟩,_⟩:=l.own k L j;obtain⟨u,q,m,c⟩:=p i _ (by rw[bP (s rfl)];exact g);cases c with
 |d o=>
 cases o;exact⟨q,by simp[World.frozen?,r]⟩
theorem py{a:AV}{k v i:Nat}{es:List AV}{n m:Int}(b:oB h a=some (k,v,i,es,n,m)):(∃z,a= .ptr k v i 0 z)∧(h k).ver=v∧(h k).ob=some (.arr 1 es)∧es[i]? =some (.d (.int .u32 n))∧es[i+1]? =some (.d (.int .i32 m)):=by
 unfold oB at b;split at b;case h_2=>cases b
 rename_i s v' r l z;split at b;case isFalse=>cases b
 rename_i c;subst c;split at b;case h_2=>cases b
 rename_i sz es' e;split at b;case isFalse=>cases b
 rename_i g;obtain⟨rfl,f⟩:=g;split at b;case h_2=>cases b
 rename_i p q o j;simp only[xA,xE]at b;obtain⟨rfl,rfl,rfl,rfl,rfl,rfl⟩:=b;exact⟨⟨z,rfl⟩,f,e,o,j⟩
theorem Js{a:Type}(f:Nat→a)(k:Nat)(x y:a):aG (aG f k x) k y=aG f k y:=by
 funext t;simp only[aG];split<;>rfl
end
theorem MN:Fs Tryz.prog 94:=by
 intro h a f l k v i es n m ha;obtain⟨⟨z,rfl⟩,hv,p,e1,e2⟩:=py ha;have T:da Tryz.prog 94:=⟨Tryz.f94,Tryz.func94,by kernel_rfl,by kernel_rfl⟩
 have U:∀{g:Array Value}{G:Gh}{w:World},g.size=[AV.ptr k v i 0 z, .fn f l].length→(∀(j:Nat)(x:AV)(u:Value),[AV.ptr k v i 0 z, .fn f l][j]? =some x→g[j]? =some u→Rep G w x u)→
     ∃va N,g= #[va,N]∧Rep G w (.ptr k v i 0 z) va∧Rep G w (.fn f l) N:=by
  intro g G w H r;have l0:g[0]? =some (g[0]'(by simp at H;omega)):=xI _;have l1:g[1]? =some (g[1]'(by simp at H;omega)):=xI _;refine⟨_,_, ?_,r 0 _ _ rfl l0,r 1 _ _ rfl l1⟩;apply Array.ext
  ·simpa using H
  ·intro j h1 h2
   match j with
   |0=>rfl
   |1=>rfl
   |j+2=>simp at h2;omega
 refine⟨fun M=>⟨T,fun G B w0 I0 w g r H o=> ?_⟩,fun M hm0 rs h2 I A ha2=>⟨T,fun G B w0 I0 w g r H o=> ?_⟩⟩
 ·obtain⟨va,N,rfl,ra,rf⟩:=U H o
  cases ra with
  |ptr _ _ _ _ L R=>
  have J:L.sz=1:=by
   rcases r.objs k _ p with ⟨rfl,_⟩|⟨L',t,g1,_⟩
   ·simp at e1
   ·rw[hv,R]at t;cases t;exact g1
  rw[J,Nat.mul_one,yo];have S:=r.cellAt p (by rw[hv];exact R) e1;refine(once.do_done ⟨L.b,i,none⟩ n M N w S.1).mono ?_;rintro e w' ⟨rfl,rfl⟩;exact⟨_,G,rfl,Ext.refl G _,r, .tup [] #[] rfl (fun j c u S=>by simp at S)⟩
 ·obtain⟨⟨z2,_⟩,K,q,X,Y⟩:=py ha2
  obtain⟨va,N,rfl,ra,rf⟩:=U H o;subst M;subst hm0;cases ra with
  |ptr _ _ _ _ L R=>
  have F:G.loc k (h k).ver=some L:=by rw[hv];exact R
  have J:L.sz=1:=by
   rcases r.objs k _ p with ⟨rfl,_⟩|⟨L',t,g1,_⟩
   ·simp at e1
   ·rw[F]at t;cases t;exact g1
  rw[J,Nat.mul_one,yo];obtain⟨c0,z0⟩:=r.cellAt p F e1;obtain⟨c1,z1⟩:=r.cellAt p F e2
  obtain⟨vs,rfl,hvl,hvr⟩:∃vs:Array Value,N= .func (.func f) #[] vs∧vs.size=l.length∧∀(j:Nat)(x:AV)(u:Value),l[j]? =some x→vs[j]? =some u→Rep G w x u:=by
   cases rf with
   |fn _ _ vs hl hh=>exact⟨vs,rfl,hl,hh⟩
  have C:i+1<es.length:=(xC.1 e2).1;obtain⟨W,V⟩:=r.cell1 p F C (y:= .d (.int .i32 1)) (u:= .int .i32 1) (.d (.int _ _)) rfl rfl;rw[hv]at W;have E:=A.2 G B w0 I0 _ vs W hvl (fun j x u hx hu=>(hvr j x u hx hu).mono V);refine(once.do_first L.b i f vs w (fun Q=>∃D,Ext G (w.setCell ⟨L.b,i+1,none⟩ (.int .i32 1)) D Q∧HR D B w0 I0 h2 Q) (fun args w=>db A.1 args w) c0 c1 z0 z1 (E.mono ?_) ?_).mono ?_
  ·rintro e Q ⟨v',D,rfl,O,P,_⟩
   exact⟨⟨v',rfl⟩,D,O,P⟩
  ·rintro Q ⟨D,O,P⟩
   have s:D.loc k (h2 k).ver=some L:=by rw[K];exact O.loc _ _ _ R
   obtain⟨d0,y0⟩:=P.cellAt q s X;obtain⟨d1,y1⟩:=P.cellAt q s Y;exact⟨d0,d1,y0,y1⟩
  ·rintro e w' ⟨rfl,Q,⟨D,O,P⟩,rfl⟩
   have s:D.loc k (h2 k).ver=some L:=by rw[K];exact O.loc _ _ _ R
   have Z:i<I.length:=(xC.1 X).1;have C:i+1<I.length:=(xC.1 Y).1;obtain⟨q1,q2⟩:=P.drew.cell1 q s Z (y:= .d (.int .u32 1)) (u:= .int .u32 1) (.d (.int _ _)) rfl rfl;obtain⟨p1,p2⟩:=q1.cell1 (k:=k) (i:=i+1) (es:=I.set i (.d (.int .u32 1))) (by rw[af]) (by rw[af];exact s) (by simpa using C) (y:= .d (.int .i32 0)) (u:= .int .i32 0) (.d (.int _ _)) rfl rfl;rw[Js,af,K]at p1;exact⟨_,D,rfl,V.trans (O.trans ((Ext.drew D Q).trans (q2.trans p2))),p1, .tup [] #[] rfl (fun j c u S=>by simp at S)⟩
end Go.Avm
namespace Go.Avm
open Go.Proofs
def jr:List D:=(List.range 256).map fun n=> .int .u8 (if n=9∨n=10∨n=11∨n=12∨n=13∨n=32 then 1 else 0)
instance Ub:aH:=⟨fun g=>if g=1 then some jr else if g=5 then some [.ifc]else none,some 94,fun g=>if g=153 then some .indexByte else if g=83 then some .same else none⟩
theorem Qq:io Tryz.prog:=fun g k h=>by
 have h':(if g=153 then some DU.indexByte else if g=83 then some DU.same else none)=some k:=h;split at h'
 ·rename_i a
  subst a;cases h';exact⟨Tryz.f153,Tryz.func153,by kernel_rfl,by kernel_rfl,by kernel_rfl,by show Extern.find Tryz.f153=some Extern.BytealgIndexByte.indexByte;kernel_rfl⟩
 ·split at h'
  ·rename_i a
   subst a;cases h';exact⟨Tryz.f83,Tryz.func83,by kernel_rfl,by kernel_rfl,by kernel_rfl,by show Extern.find Tryz.f83=some Extern.AbiNoEscape.same;kernel_rfl⟩
  ·cases h'
theorem b9:jF Tryz.prog:=⟨Tryz.checked.mixed,Qq⟩
theorem Jt:uP Tryz.prog:=fun g h=>by
 have h':some 94=some g:=h;cases h';exact MN
theorem named:dX Tryz.prog:=Fv (by kernel_rfl) Jt
abbrev dN(n:Nat):AV:= .d (.int .i64 (n:Int))
abbrev dI(n:Int):AV:= .d (.int .i64 n)
abbrev dB(b:Bool):AV:= .d (.bool b)
def dk(P:Program)(a b:Nat)(t:Bool)(h:decide (a<b)=t):bX P:= .val (dB (decide ((a:Int)<(b:Int)))) (dB t) (by
 congr 2;rw[←h];simp)
def bj(P:Program)(i:Nat)(h:i<1099511627776):bX P:= .val (dI (IntKind.i64.wrap ((i:Int)+1))) (dN (i+1)) (by
 congr 2;rw[IntWalk.i64_in _ (by omega)];simp)
def F3(P:Program)(f:Nat):Code:=((P.funcs[f]?).bind (·.body)).getD .skip
def iz(r:Nat):Code→Option Code
 | .loop x=>if fQ x=r then some x else iz r x
 | .seq x y=>match iz r x with
  |some c=>some c
  |none=>iz r y
 | .block _ x=>iz r x
 | .cond _ x y=>match iz r x with
  |some c=>some c
  |none=>iz r y
 |_=>none
def aJ(P:Program)(f r:Nat):Code:=(iz r (F3 P f)).getD .skip
end Go.Avm
namespace Go.Avm
open Go.Proofs
def Ly{P:Program}(f s:Nat):List (Nat×Nat×bX P)→Option (bX P)
 |[]=>none
 |(a,b,h)::r=>bif Nat.beq f a&&Nat.beq s b then some h else Ly f s r
def MO(P:Program)(l:List (Nat×Nat×bX P)):Nat→Nat→Option (bX P):=fun f s=>Ly f s l
def F4{P:Program}(f s b:Nat):List (Nat×Nat×Nat×bX P)→Option (bX P)
 |[]=>none
 |(a,d,c,h)::r=>bif Nat.beq f a&&Nat.beq s d&&Nat.beq b c then some h else F4 f s b r
def bi(P:Program)(l:List (Nat×Nat×Nat×bX P)):Nat→Nat→Nat→Option (bX P):=fun f s b=>F4 f s b l
def Lz{P:Program}(f s b:Nat):List (Nat×Nat×Nat×eI P)→Option (eI P)
 |[]=>none
 |(a,d,c,h)::r=>bif Nat.beq f a&&Nat.beq s d&&Nat.beq b c then some h else Lz f s b r
def MP(P:Program)(l:List (Nat×Nat×Nat×eI P)):Nat→Nat→Nat→Option (eI P):=fun f s b=>Lz f s b l
def LA{P:Program}(f s b:Nat):List (Nat×Nat×Nat×PHint P)→Option (PHint P)
 |[]=>none
 |(a,d,c,h)::r=>bif Nat.beq f a&&Nat.beq s d&&Nat.beq b c then some h else LA f s b r
def an(P:Program)(l:List (Nat×Nat×Nat×PHint P)):Nat→Nat→Nat→Option (PHint P):=fun f s b=>LA f s b l
def ad{P:Program}{g:Nat}{args d:List AV}{c b:List (Nat×aE)}(h:∀a:aa,am P g args (ae c a) d (ae b a)):eI P:=⟨g,args,c,d,b,gM h⟩
def be{P:Program}{g:Nat}{args c:List AV}{a:List (Nat×aE)}(d:(a.all fun p=>p.2.ob.isSome)=true)(h:∀b:aa,am P g args (ae a b) c (ae a b)):eI P:=⟨g,args,a,c,[],p6 d h⟩
theorem zq{P:Program}{g:Nat}{args:List AV}{x:AV}{h c h2:aa}(d:iH P g args c x h2)(i:∀k,(c k).ver=(h k).ver∧((c k).ob=none∨(c k).ob=(h k).ob)):iH P g args h x h2:=
 ⟨d.1,fun G B w0 I0 w a e f b=>d.2 G B w0 I0 w a (e.forget i) f b⟩
def bg{P:Program}{g:Nat}{args:List AV}{x:AV}{c b:List (Nat×aE)}(h:∀a:aa,iH P g args (ae c a) x (ae b a)):tI P:=⟨g,args,c,x,b,fun h' d=>zq (h h') (hG h' c d)⟩
def hB(P:Program)(a b:Bool)(h:a=b):bX P:= .val (dB a) (dB b) (by rw[h])
abbrev rN(L:List T):D:= .ro (L.map tD)
abbrev Ej(L:List T)(s:RS):List AV:=[.d (rN L),dN s.i,dI s.op,dI s.n]
abbrev rd(L:List T)(s:RS):List (Nat×aE):=[(500000,⟨1,some (.arr 1 (Ej L s))⟩)]
abbrev rP:AV:= .ptr 500000 1 0 0 1
abbrev dA(p e:Int):AV:= .iv 135 (.d (.agg [.int .i64 p, .int .i64 e]))
def RC{h:Type}(L:List T)(f:Nat)(args:List AV)(g:h→List D)(s:RS):Res h→Prop
 | .ok a c=>c.i<L.length∧∀b:aa,am Tryz.prog f args (ae (rd L s) b) ((g a).map .d) (ae (rd L c) b)
 | .bad p e c=>∀b:aa,iH Tryz.prog f args (ae (rd L s) b) (dA p e) (ae (rd L c) b)
 | .out=>True
structure dC(L:List T):Prop where
 len:L.length<1000000
 last:∀i x,L[i]? =some x→x.k≠0→i+1<L.length
theorem CU{L:List T}{s:RS}(h:s.i<L.length):L[s.i]? =some (bZ L s):=by
 unfold bZ;rw[yX,xD h];rfl
theorem CV{L:List T}(b:dC L){s:RS}(h:s.i<L.length)(a:(bZ L s).k≠0):s.i+1<L.length:=b.last s.i _ (CU h) a
theorem vk{L:List T}(c:dC L){s:RS}(h:s.i<L.length){x:List UInt8}(a:bV L s x=true):s.i+1<L.length:=CV c h fun b=>by
 unfold bV at a;rw[b]at a;simp at a
def Uc(P:Program){L:List T}{s:RS}(h:s.i<L.length):bX P:= .idx (L.map tD) ((s.i:Nat):Int) (tD (bZ L s)) (by omega) (by rw[xb,xN,CU h];rfl)
end Go.Avm
namespace Go.Avm
open Go.Proofs
noncomputable abbrev Pg:Program:=Tryz.prog
abbrev RE(N:Nat)(c:Code)(l:List (Nat×AV))(hp:List (Nat×aE))(e:aB)(l':List (Nat×AV))(b:List (Nat×aE)):Prop:=∀(a:aa)(X:b4),X.P=Pg→X.N=N→AW X c ⟨ah l,ae hp a⟩ fun d S'=>d=e∧S'=⟨ah l',ae b a⟩
abbrev RL(N:Nat)(c:Code)(l:List (Nat×AV))(hp:List (Nat×aE))(e:aB)(l':List (Nat×AV))(b:List (Nat×aE)):Prop:=∀(a:aa)(X:b4),X.P=Pg→X.N=N→LW X c ⟨ah l,ae hp a⟩ fun d S'=>d=e∧S'=⟨ah l',ae b a⟩
abbrev RZ(N:Nat)(c:Code)(l:List (Nat×AV))(hp:List (Nat×aE))(e:aB)(l':List (Nat×AV))(b:List (Nat×aE)):Prop:=∀(a:aa)(X:b4),X.P=Pg→X.N=N→AW X c ⟨ah l,ae hp a⟩ fun d S'=>d=e∧Weak X S' ⟨ah l',ae b a⟩
abbrev HC(f:Nat)(a:List AV)(p:List (Nat×aE))(d:List D)(q:List (Nat×aE)):Prop:=∀b:aa,am Pg f a (ae p b) (d.map .d) (ae q b)
abbrev HX(f:Nat)(a:List AV)(p:List (Nat×aE))(x:AV)(q:List (Nat×aE)):Prop:=∀b:aa,iH Pg f a (ae p b) x (ae q b)
noncomputable abbrev lO(f q:Nat):Code:=aJ Pg f q
noncomputable abbrev tH(l:List (Nat×Nat×bX Pg)):Nat→Nat→Option (bX Pg):=MO Pg l
noncomputable abbrev tC(l:List (Nat×Nat×Nat×eI Pg)):Nat→Nat→Nat→Option (eI Pg):=MP Pg l
theorem qN(f:Par Pg)(d:Nat){g:Nat}{args:List AV}{ds:List D}{a b:List (Nat×aE)}(c:Cln (a.map (·.1)) 1000000 args a b:=by exact⟨rfl,rfl,rfl,by kernel_rfl,by kernel_rfl,by kernel_rfl⟩)
    (h:∀e:aa,kn (k9 (ep Pg (aZ Pg f 2000) d g args (ae a (dy 1000000 e))) (a.map (·.1)) 1000000 ds b)=ko .ret (k9 (ep Pg (aZ Pg f 2000) d g args (ae a (dy 1000000 e))) (a.map (·.1)) 1000000 ds b):=by (intro _;kernel_rfl)):HC g args a ds b:=td b9 named f 2000 d g 1000000 c h
theorem qA(i:Par Pg)(e:Nat){g:Nat}{args f:List AV}{d b:List (Nat×aE)}(c:Cln (d.map (·.1)) 1000000 args d b)(j:bk (dm (d.map (·.1)) 1000000) f=f:=by rfl)
    (h:∀a:aa,kn (jp (ep Pg (aZ Pg i 2000) e g args (ae d (dy 1000000 a))) 1000000 f b)=ko .ret (jp (ep Pg (aZ Pg i 2000) e g args (ae d (dy 1000000 a))) 1000000 f b):=by (intro _;kernel_rfl)):∀a:aa,am Pg g args (ae d a) f (ae b a):=rJ b9 named i 2000 e g 1000000 c j h
theorem qX(f:Par Pg)(d:Nat){g:Nat}{args:List AV}{x:AV}{b a:List (Nat×aE)}(c:Cln (b.map (·.1)) 1000000 args b a:=by exact⟨rfl,rfl,rfl,by kernel_rfl,by kernel_rfl,by kernel_rfl⟩)(i:aO (dm (b.map (·.1)) 1000000) x=x:=by kernel_rfl)
    (h:∀e:aa,kn (lc (oD Pg (aZ Pg f 2000) d g args (ae b (dy 1000000 e))) 1000000 x a)=ko .ret (lc (oD Pg (aZ Pg f 2000) d g args (ae b (dy 1000000 e))) 1000000 x a):=by (intro _;kernel_rfl)):HX g args b x a:=rG b9 named f 2000 d g 1000000 c i h
theorem qE(i:Par Pg)(g f:Nat){N:Nat}{c:Code}{l l':List (Nat×AV)}{a d:List (Nat×aE)}{e:aB}(n:Cln (a.map (·.1)) 1000000 (l.map (·.2)) a d:=by exact⟨rfl,rfl,rfl,by kernel_rfl,by kernel_rfl,by kernel_rfl⟩)(j:bk (dm (a.map (·.1)) 1000000) (l'.map (·.2))=l'.map (·.2):=by kernel_rfl)(m:FN (dm (a.map (·.1)) 1000000) e=e:=by kernel_rfl)
    (h:∀b:aa,kn (FP (aZ Pg i 2000 g f N c ⟨ah l,ae a (dy 1000000 b)⟩) (a.map (·.1)) 1000000 [] l' d)=ko e (FP (aZ Pg i 2000 g f N c ⟨ah l,ae a (dy 1000000 b)⟩) (a.map (·.1)) 1000000 [] l' d):=by (intro _;kernel_rfl)):RE N c l a e l' d:=fun b X k o=>MJ b9 named i 2000 g f N 1000000 [] n j m h b X k o
theorem qV(b:Par Pg)(a:Nat){g:Nat}{ds c:List D}(h:kn (lg (zo (oI Pg (aZ Pg b 2000) a g (ds.map .d) I2)) c)=ko .ret (lg (zo (oI Pg (aZ Pg b 2000) a g (ds.map .d) I2)) c):=by kernel_rfl):aF Pg g ds c:=aK b9 named b 2000 a h
noncomputable def qK{a:Type}(s:Nat):List (Nat×a)→Option a
  |[]=>none
  |(k,h)::r=>bif Nat.beq s k then some h else qK s r
noncomputable def qT(f:Nat)(l:List (Nat×bX Pg)):Nat→Nat→Option (bX Pg):=fun a s=>bif Nat.beq a f then qK s l else none
noncomputable def qB{a b:Bool}(h:a=b):bX Pg:=hB Pg a b h
noncomputable def qL{a b:Nat}(h:a<b):bX Pg:=dk Pg a b true (by simpa using h)
noncomputable def qG(a:Nat):bX Pg:=dk Pg a a false (by simp)
end Go.Avm
namespace Go.Avm
open Go.Proofs
abbrev Ju(n:Int):AV:= .d (.int .u8 n)
def kq:Nat→List Fn→List (D×D×Nat)
 |_,[]=>[]
 |i,f::r=>(.str f.nm, .int .i64 (i:Int),i)::kq (i+1) r
def gE:Nat→List Vr→List (D×D×Nat)
 |_,[]=>[]
 |i,v::r=>(.str v.nm, .agg [],i)::gE (i+1) r
def cA:Nat→eL→List (D×D×Nat)
 |_,[]=>[]
 |i,p::r=>(.str p.1, .int .i64 (p.2:Int),i)::cA (i+1) r
def a6(l:List (Nat×Nat)):List (D×D×Nat):=l.map fun p=>(.int .i64 (p.1:Int), .agg [],p.2)
theorem tU(x:List UInt8):∀(l:eL)(i j:Nat),cj (.str x) (cA i l) j=some ((ct x l j).map fun r=>(r.1, .int .i64 (r.2:Int)))
 |[],_,_=>rfl
 |e::r,i,j=>by
  simp only[cA,cj,jg,ct];cases h:(x==e.1)with
  |true=>rfl
  |false=>exact tU x r (i+1) (j+1)
theorem CW(x:List UInt8):∀(l:List Fn)(i j:Nat),cj (.str x) (kq i l) j=some ((bA x l j).map fun r=>(r.1, .int .i64 ((i+(r.1-j):Nat):Int)))
 |[],_,_=>rfl
 |e::r,i,j=>by
  simp only[kq,cj,jg,bA];cases h:(x==e.nm)with
  |true=>simp
  |false=>
   show cj (.str x) (kq (i+1) r) (j+1)=_;rw[CW x r (i+1) (j+1)];simp only[xP];congr 1;cases d:bA x r (j+1)with
   |none=>rfl
   |some q=>
    have:j+1≤q.1:=by
     clear h;revert d;generalize j+1=m;induction r generalizing m with
     |nil=>intro h;cases h
     |cons a r c=>
      intro h;simp only[bA]at h;cases b:(x==a.nm)with
      |true=>rw[b]at h;simp at h;subst h;exact xL _
      |false=>rw[b]at h;exact Nat.le_of_succ_le (c (m+1) h)
    simp only[x5];congr 3;omega
theorem oJ(x:Nat):∀(l:List (Nat×Nat))(j:Nat),cj (.int .i64 (x:Int)) (a6 l) j=some ((bQ x l j).map fun r=>(r, .agg []))
 |[],_=>rfl
 |e::r,j=>by
  simp only[a6,xH,cj,jg,bQ,yS]
  have a:((x:Int)==(e.1:Int))=(x==e.1):=by
   rw[Bool.eq_iff_iff,yI,yI];exact Int.ofNat_inj
  rw[a];cases h:(x==e.1)with
  |true=>rfl
  |false=>exact oJ x r (j+1)
theorem fa(x:List UInt8):∀(l:List Vr)(i j:Nat),(l.any fun v=>v.nm==x)=false→cj (.str x) (gE i l) j=some none
 |[],_,_,_=>rfl
 |e::r,i,j,h=>by
  simp only[yn,Bool.or_eq_false_iff]at h
  have a:(x==e.nm)=false:=by
   have:=h.1;rw[y6]at this ⊢;exact this.symm
  simp only[gE,cj,jg,a];exact fa x r (i+1) (j+1) h.2
theorem tV(x:List UInt8):∀(l:List Vr)(i j:Nat),(l.any fun v=>v.nm==x)=true→∃q,cj (.str x) (gE i l) j=some (some (q, .agg []))
 |[],_,_,h=>by cases h
 |e::r,i,j,h=>by
  simp only[gE,cj,jg];cases a:(x==e.nm)with
  |true=>exact⟨j,rfl⟩
  |false=>
   refine tV x r (i+1) (j+1) ?_;simp only[yn,yQ]at h;refine h.resolve_left fun h2=> ?_
   rw[yI]at h2;rw[h2]at a;simp at a
abbrev aI:AV:= .ptr 500000 1 0 0 1
structure CK where
 fs:List Fn
 fn:Nat
 W:List AV
 deep:Int
 c:CS
 vh:Nat
 vs:Nat
 vq:Nat
 vp:Nat
 vv:Nat
def bU(p:Pt):AV:= .d (I3 p)
def oh(x:Vr):AV:= .d (mX x)
abbrev fF(b:Nat)(a:List Vr):AV:= .sl 500005 b 0 a.length 4
abbrev CX(S:CK):List AV:=[.mp 499904 1, .d (.ro (S.fs.map bn)), .sl 500191 1 0 S.fs.length 1, .sl 500382 S.vp 0 S.c.pts.length 3,dN S.fn, .mp 500002 S.vh, .mp 500003 S.vs, .mp 500004 S.vq,dI S.deep]
abbrev ck(S:CK):List (Nat×aE):=
 [(500000,⟨1,some (.arr 1 (CX S))⟩),(499904,⟨1,some (.map (kq 0 S.fs) S.fs.length)⟩),(500002,⟨S.vh,some (.map (gE 0 S.c.vars) S.c.vars.length)⟩),(500003,⟨S.vs,some (.map (cA 0 S.c.seen) S.c.seen.length)⟩),
  (500004,⟨S.vq,some (.map (a6 S.c.sure.l) S.c.sure.c)⟩),(500005,⟨S.vv,some (.arr 4 (S.c.vars.map oh))⟩),(500382,⟨S.vp,some (.arr 3 (S.c.pts.map bU))⟩),(500191,⟨1,some (.arr 1 (S.W.set S.fn (fF S.vv S.c.vars)))⟩)]
abbrev aD(p e:Int):AV:= .iv 142 (.d (.agg [.int .i64 p, .int .i64 e]))
def TX{b:Type}(S:CK)(f:Nat)(args:List AV)(g:b→List D):TR b→Prop
 | .ok a=>HC f args (ck S) (g a) (ck S)
 | .bad p e=>HX f args (ck S) (aD p e) (ck S)
 | .out=>True
structure CKok(S:CK):Prop where
 fn:S.fn<S.fs.length
 W:S.W.length=S.fs.length
 dat:∀x∈S.W,x= .nils∨∃d,x= .d d
 len:S.fs.length<1000000
 par:∀f∈S.fs,f.ps.length≤6
 vars:S.c.vars.length≤255
 seen:∀p∈S.c.seen,p.2<S.c.vars.length
 inc:(S.c.seen.map (·.2)).Pairwise (· < ·)
 nms:(S.c.seen.map (·.1)).Nodup
 nml:∀p∈S.c.seen,p.1.length≤1000000
 had:∀p∈S.c.seen,(S.c.vars.any fun v=>v.nm==p.1)=true
 sk:(S.c.sure.l.map (·.1)).Nodup
 sb:(S.c.sure.l.map (·.2)).Nodup
 sc:∀p∈S.c.sure.l,p.2<S.c.sure.c
 sv:∀p∈S.c.sure.l,p.1<S.c.vars.length
 pts:S.c.pts.length<1000000000
theorem oK{x:List UInt8}:∀{l:eL}{j:Nat}{r:Nat×Nat},ct x l j=some r→(x,r.2)∈l
 |[],_,_,h=>by cases h
 |e::l,j,r,h=>by
  simp only[ct]at h;cases a:(x==e.1)with
  |true=>
   rw[a]at h;simp only[xW,xA]at h;subst h;rw[eq_of_beq a];simp
  |false=>
   rw[a]at h;exact xp _ (oK h)
theorem CY{S:CK}(h:CKok S){x:List UInt8}{j i:Nat}(a:ct x S.c.seen 0=some (j,i)):i<S.c.vars.length:=h.seen _ (oK a)
def MQ(P:Program){S:CK}(h:CKok S):bX P:= .elt (S.W.set S.fn (fF S.vv S.c.vars)) (0+(S.fn:Int).toNat) (fF S.vv S.c.vars) (by simp[h.W,h.fn])
def Ud(P:Program){S:CK}(h:CKok S):bX P:= .inb (S.fn:Int) S.fs.length (by omega) (by simpa using h.fn)
def pV(P:Program)(a:List Vr)(i:Nat)(h:i<a.length):bX P:= .inb (i:Int) a.length (by omega) (by simpa using h)
def Qr(P:Program)(a:List Vr)(i:Nat)(h:i<a.length):bX P:= .elt (a.map oh) (0+(i:Int).toNat) (oh (a.getD i default)) (by simp[h])
def F5(P:Program)(x:List UInt8)(l:eL)(r:Option (Nat×Nat))(h:ct x l 0=r):bX P:= .look (.str x) (cA 0 l) (r.map fun r=>(r.1, .int .i64 (r.2:Int))) (by rw[tU,h])
def li(P:Program)(x:Nat)(l:List (Nat×Nat))(r:Option Nat)(h:bQ x l 0=r):bX P:= .look (.int .i64 (x:Int)) (a6 l) (r.map fun r=>(r, .agg [])) (by rw[oJ,h])
def oL(P:Program)(x:List UInt8)(l:List Fn)(r:Option (Nat×Fn))(h:bA x l 0=r):bX P:= .look (.str x) (kq 0 l) (r.map fun r=>(r.1, .int .i64 (r.1:Int))) (by rw[CW,h];simp)
theorem nN(ρ:Nat→Nat):∀l:List Pt,bk ρ (l.map bU)=l.map bU
 |[]=>rfl
 |a::r=>by
  simp only[xH,bk,nN ρ r];rfl
theorem lj(ρ:Nat→Nat):∀l:List Vr,bk ρ (l.map oh)=l.map oh
 |[]=>rfl
 |a::r=>by
  simp only[xH,bk,lj ρ r];rfl
theorem gT{ρ:Nat→Nat}:∀{l:List AV},(∀x∈l,aO ρ x=x)→bk ρ l=l
 |[],_=>rfl
 |a::r,h=>by
  simp only[bk];rw[h a (by simp),gT (l:=r) (fun x b=>h x (by simp[b]))]
theorem LB{S:CK}(h:CKok S){ρ:Nat→Nat}(b:ρ 500005=500005):bk ρ (S.W.set S.fn (fF S.vv S.c.vars))=S.W.set S.fn (fF S.vv S.c.vars):=
 gT fun x a=>by
  rcases xl a with a|rfl
  ·rcases h.dat x a with rfl|⟨d,rfl⟩<;>rfl
  ·show AV.sl (ρ 500005) _ _ _ _=_
   rw[b]
theorem fW{S:CK}(h:CKok S){ρ:Nat→Nat}(a:([499904,500002,500003,500004,500005,500382,500191].map ρ)=[499904,500002,500003,500004,500005,500382,500191]):((ck S).map fun p=>aY ρ p.2)=(ck S).map (·.2):=by
 simp only[xH,xY,List.cons.injEq,zB]at a;obtain⟨g,h2,f,e,b,d,c⟩:=a;simp only[ck,CX,xH,xY,aY,x5,dx,nN,lj,LB h b,bk,aO,g,h2,f,e,d,c]
theorem az{S S':CK}(h:CKok S)(h':CKok S'){ar:List AV}(a:bk (dm ((ck S).map (·.1)) 1000000) ar=ar):Cln ((ck S).map (·.1)) 1000000 ar (ck S) (ck S'):=
 ⟨rfl,rfl,rfl,a,fW h rfl,fW h' rfl⟩
theorem zr{G:Gh}{w:World}{ar:List AV}{K v sz:Nat}{ds:List D}{a:Array Value}(b:∀(i:Nat)(x:AV)(u:Value),(ar ++[.vec K v sz ds])[i]? =some x→a[i]? =some u→Rep G w x u):
    ∀(i:Nat)(x:AV)(u:Value),(ar ++[.d (.ro ds)])[i]? =some x→a[i]? =some u→Rep G w x u:=fun i x u c g=>by
 by_cases f:i<ar.length
 ·rw[xQ f]at c
  exact b i x u (by rw[xQ f];exact c) g
 ·rw[xV (by omega)]at c
  have e:i-ar.length=0:=by
   have:=(xC.1 c).1;simp at this;omega
  rw[e]at c;simp only[xj,xA]at c;subst c;have j:=b i (.vec K v sz ds) u (by rw[xV (by omega),e];rfl) g;cases j with
  |vecNil=>exact .d (.roNil _ _)
  |vec _ _ _ L _ _ _ _ h=>exact .d h
theorem Ek{P:Program}{f:Nat}{ar:List AV}{i:List AV}{g b:List (Nat×aE)}{ds:List D}(h:∀a:aa,am P f (ar ++[.d (.ro ds)]) (ae g a) i (ae b a))(K v sz:Nat)(a:aa):
    am P f (ar ++[.vec K v sz ds]) (ae g a) i (ae b a):=
 ⟨(h a).1,fun G B w0 I0 w c j k e=>(h a).2 G B w0 I0 w c j (by simpa using k) (zr e)⟩
theorem F6{P:Program}{f:Nat}{ar:List AV}{y:AV}{g b:List (Nat×aE)}{ds:List D}(h:∀a:aa,iH P f (ar ++[.d (.ro ds)]) (ae g a) y (ae b a))(K v sz:Nat)(a:aa):
    iH P f (ar ++[.vec K v sz ds]) (ae g a) y (ae b a):=
 ⟨(h a).1,fun G B w0 I0 w c i j e=>(h a).2 G B w0 I0 w c i (by simpa using j) (zr e)⟩
end Go.Avm
namespace Go.Avm
open Go.Proofs
abbrev gl:AV:= .ptr 500000 1 0 0 1
def W9(b:Bool):AV:= .d (.bool b)
structure WK where
 fs:List Fn
 fn:Nat
 W:List AV
 vars:List Vr
 P:List AV
 np:Nat
 vR:Nat
 vp:Nat
 vv:Nat
abbrev Qs(S:WK)(w:WE):List AV:=[.d (.ro (S.fs.map bn)), .sl 500191 S.vR 0 (S.fn+1) 1, .sl 500382 S.vp 0 S.np 3,dN S.fn,dI w.p,dI w.e]
abbrev wk(S:WK)(w:WE):List (Nat×aE):=
 [(500000,⟨1,some (.arr 1 (Qs S w))⟩),(500005,⟨S.vv,some (.arr 4 (S.vars.map oh))⟩),(500382,⟨S.vp,some (.arr 3 S.P)⟩),(500191,⟨S.vR,some (.arr 1 (S.W.set S.fn (fF S.vv S.vars)))⟩)]
structure WKok(S:WK):Prop where
 W:S.W.length=S.fn+1
 dat:∀x∈S.W,x= .nils∨∃d,x= .d d
 fn:S.fn<S.fs.length
 len:S.fs.length<1000000
 par:∀f∈S.fs,f.ps.length≤6
 vars:S.vars.length<100000
 pl:S.P.length=S.np
 pd:∀x∈S.P,∃d,x= .d d
 pts:S.np<1000000000
structure WL where
 s:LS
 vS:Nat
 vU:Nat
abbrev cS(q:WL):AV:= .agg [.sl 500010 q.vS 0 q.s.seen.length 1, .sl 500011 q.vU 0 q.s.sure.length 1]
abbrev bt(q:WL):List (Nat×aE):=[(500010,⟨q.vS,some (.arr 1 ((q.s.seen.map D.bool).map AV.d))⟩),(500011,⟨q.vU,some (.arr 1 ((q.s.sure.map D.bool).map AV.d))⟩)]
theorem jZ(ρ:Nat→Nat):∀l:List Bool,bk ρ ((l.map D.bool).map AV.d)=(l.map D.bool).map AV.d
 |[]=>rfl
 |a::r=>by
  simp only[xH,bk,jZ ρ r];rfl
theorem MS{S:WK}(h:WKok S){ρ:Nat→Nat}(b:ρ 500005=500005):bk ρ (S.W.set S.fn (fF S.vv S.vars))=S.W.set S.fn (fF S.vv S.vars):=
 gT fun x a=>by
  rcases xl a with a|rfl
  ·rcases h.dat x a with rfl|⟨d,rfl⟩<;>rfl
  ·show AV.sl (ρ 500005) _ _ _ _=_
   rw[b]
theorem Qt{S:WK}(h:WKok S)(ρ:Nat→Nat):bk ρ S.P=S.P:=gT fun x a=>by
 obtain⟨d,rfl⟩:=h.pd x a;rfl
theorem fX{S:WK}(h:WKok S){w:WE}{ρ:Nat→Nat}(a:([500005,500382,500191].map ρ)=[500005,500382,500191]):((wk S w).map fun p=>aY ρ p.2)=(wk S w).map (·.2):=by
 simp only[xH,xY,List.cons.injEq,zB]at a;obtain⟨b,c,d⟩:=a;simp only[wk,Qs,xH,xY,aY,x5,dx,Qt h,lj,MS h b,bk,aO,b,c,d]
theorem fY{q:WL}{ρ:Nat→Nat}:((bt q).map fun p=>aY ρ p.2)=(bt q).map (·.2):=by
 simp only[bt,xH,xY,aY,x5,dx,jZ]
theorem LC{S S':WK}{w b:WE}(h:WKok S)(h':WKok S'){ar:List AV}(a:bk (dm ((wk S w).map (·.1)) 1000000) ar=ar):Cln ((wk S w).map (·.1)) 1000000 ar (wk S w) (wk S' b):=
 ⟨rfl,rfl,rfl,a,fX h rfl,fX h' rfl⟩
theorem bF{S S':WK}{w b:WE}{q q':WL}(h:WKok S)(h':WKok S'){ar:List AV}(a:bk (dm ((wk S w ++bt q).map (·.1)) 1000000) ar=ar):Cln ((wk S w ++bt q).map (·.1)) 1000000 ar (wk S w ++bt q) (wk S' b ++bt q'):=
 ⟨rfl,rfl,rfl,a,by rw[xF,fX h rfl,fY,←xF],by rw[xF,fX h' rfl,fY,←xF]⟩
abbrev dD(K:Nat)(q:WL):List (Nat×aE):=[(K,⟨1,some (.arr 1 [.sl 500010 q.vS 0 q.s.seen.length 1, .sl 500011 q.vU 0 q.s.sure.length 1])⟩)]
theorem gF{K:Nat}{S:WK}{w:WE}{q:WL}(h:WKok S){ρ:Nat→Nat}(a:([500005,500382,500191,500010,500011].map ρ)=[500005,500382,500191,500010,500011]):((wk S w ++bt q ++dD K q).map fun p=>aY ρ p.2)=(wk S w ++bt q ++dD K q).map (·.2):=by
 simp only[xH,xY,List.cons.injEq,zB]at a;obtain⟨c,f,e,b,d⟩:=a;rw[xF,xF,fX h (by simp only[xH,xY,c,f,e]),fY];simp only[xF,dD,xH,xY,aY,x5,dx,bk,aO,b,d]
def gm(P:Program){S:WK}(h:WKok S):bX P:= .elt (S.W.set S.fn (fF S.vv S.vars)) (0+(S.fn:Int).toNat) (fF S.vv S.vars) (by simp[h.W])
def kr(P:Program){S:WK}(_:WKok S):bX P:= .inb (S.fn:Int) (S.fn+1) (by omega) (by omega)
end Go.Avm
namespace Go.Avm
open Go.Proofs
theorem cd(p e:Int):HX 47 [dB false,dI p,dI e] [] (aD p e) []:=
 qX {pans:=an Pg [(47,1,1024,⟨4,none,[]⟩)]} 1000
theorem aU(p e:Int):HC 47 [dB true,dI p,dI e] [] [] []:=
 qN {} 1000
section
variable{S:CK}(h:CKok S)
include h
section
variable(nm:List UInt8)(p:Int)
include nm p
theorem Qu(j i:Nat)(a:ct nm S.c.seen 0=some (j,i)):HC 105 [aI, .d (.str nm),dI p] (ck S) [.int .i64 (i:Int),mX (S.c.vars.getD i default)] (ck S):=
 qN {hint:=tH [(105,16,F5 Pg nm S.c.seen (some (j,i)) a),(73,12,Ud Pg h),(73,13,MQ Pg h),(105,26,pV Pg S.c.vars i (CY h a)),(105,27,Qr Pg S.c.vars i (CY h a))]} 1000 (az h h rfl)
theorem MT(a:ct nm S.c.seen 0=none):HX 105 [aI, .d (.str nm),dI p] (ck S) (aD p 6) (ck S):=
 qX {hint:=qT 105 [(16,F5 Pg nm S.c.seen none a)],pans:=an Pg [(105,2,1364,⟨2,some (bg (cd p 6)),[]⟩)]} 1000 (az h h rfl)
theorem MU:TX S 105 [aI, .d (.str nm),dI p] (fun r=>[.int .i64 (r.1:Int),mX r.2]) (lV (S.c.te S.fs) nm p):=by
 unfold lV;show TX S _ _ _ (match ct nm S.c.seen 0 with|some (_,i)=> .ok (i,S.c.vars.getD i default)|none=> .bad p 6);cases a:ct nm S.c.seen 0 with
 |none=>exact MT h nm p a
 |some r=>
  obtain⟨j,i⟩:=r;exact Qu h nm p j i a
theorem Qv(i:Nat)(v:Vr)(c:HC 105 [aI, .d (.str nm),dI p] (ck S) [.int .i64 (i:Int),mX v] (ck S))(a:(v.ty==3)=true):
    HC 107 [aI, .d (.str nm),dI p] (ck S) [] (ck S):=
 qN {hint:=qT 107 [(17,qB a)],calls:=tC [(107,12,1060,ad c)]} 1000 (az h h rfl)
theorem MV(i:Nat)(v:Vr)(c:HC 105 [aI, .d (.str nm),dI p] (ck S) [.int .i64 (i:Int),mX v] (ck S))(a:(v.ty==3)=false):
    HX 107 [aI, .d (.str nm),dI p] (ck S) (aD p 8) (ck S):=
 qX {hint:=qT 107 [(17,qB a)],calls:=tC [(107,12,1060,ad c)],pans:=an Pg [(107,1,1180,⟨4,some (bg (cd p 8)),[]⟩)]} 1000 (az h h rfl)
end
theorem Qw(nm:List UInt8)(p q e:Int)(c:HX 105 [aI, .d (.str nm),dI p] (ck S) (aD q e) (ck S)):
    HX 107 [aI, .d (.str nm),dI p] (ck S) (aD q e) (ck S):=
 qX {pans:=an Pg [(107,0,1000,⟨3,some (bg c),[]⟩)]} 1000 (az h h rfl)
theorem MW(nm:List UInt8)(p:Int):TX S 107 [aI, .d (.str nm),dI p] (fun _=>[]) (nG (S.c.te S.fs) nm p):=by
 unfold nG;have b:=MU h nm p;revert b;cases lV (S.c.te S.fs) nm p with
 |out=>exact fun _=>trivial
 |bad q e=>exact fun c=>Qw h nm p q e c
 |ok r=>
  obtain⟨i,v⟩:=r;intro c;simp only[TR.bind];cases a:(v.ty==3)with
  |true=>exact Qv h nm p i v c a
  |false=>exact MV h nm p i v c a
end
end Go.Avm
namespace Go.Avm
open Go.Proofs
abbrev gg(n:Int):D:= .int .u8 n
section
variable{S:CK}(h:CKok S)(k o:Int)(nm:List UInt8)(n p:Int)(xs:List Ex)
include h
theorem Qx(a t:Int)(c:HC 112 [aI, .d (fd (.mk k o nm n p xs))] (ck S) [gg t] (ck S))(b:(t==a)=true):
    HC 106 [aI, .d (fd (.mk k o nm n p xs)), .d (.ro [gg a])] (ck S) [gg t] (ck S):=
 qN {hint:=qT 158 [(16,qB b)],calls:=tC [(106,10,1072,ad c)]} 1000 (az h h rfl)
theorem MX(a t:Int)(c:HC 112 [aI, .d (fd (.mk k o nm n p xs))] (ck S) [gg t] (ck S))(b:(t==a)=false):
    HX 106 [aI, .d (fd (.mk k o nm n p xs)), .d (.ro [gg a])] (ck S) (aD p 8) (ck S):=
 qX {hint:=qT 158 [(16,qB b)],calls:=tC [(106,10,1072,ad c)],pans:=an Pg [(106,2,1090,⟨5,some (bg (cd p 8)),[]⟩)]} 1000 (az h h rfl)
theorem F7(ts:List D)(q e:Int)(c:HX 112 [aI, .d (fd (.mk k o nm n p xs))] (ck S) (aD q e) (ck S)):
    HX 106 [aI, .d (fd (.mk k o nm n p xs)), .d (.ro ts)] (ck S) (aD q e) (ck S):=
 qX {pans:=an Pg [(106,1,1036,⟨2,some (bg c),[]⟩)]} 1000 (az h h rfl)
section
variable(a b t:Int)(c:HC 112 [aI, .d (fd (.mk k o nm n p xs))] (ck S) [gg t] (ck S))
include a b t c
theorem Qy(e:(t==a)=false)(f:(t==b)=true):
    HC 106 [aI, .d (fd (.mk k o nm n p xs)), .d (.ro [gg a,gg b])] (ck S) [gg t] (ck S):=
 qN {hintB:=bi Pg [(158,16,228,qB e),(158,16,437,qB f)],calls:=tC [(106,10,1072,ad c)]} 1000 (az h h rfl)
theorem MY(e:(t==a)=true):
    HC 106 [aI, .d (fd (.mk k o nm n p xs)), .d (.ro [gg a,gg b])] (ck S) [gg t] (ck S):=
 qN {hint:=qT 158 [(16,qB e)],calls:=tC [(106,10,1072,ad c)]} 1000 (az h h rfl)
theorem MZ(e:(t==a)=false)(f:(t==b)=false):
    HX 106 [aI, .d (fd (.mk k o nm n p xs)), .d (.ro [gg a,gg b])] (ck S) (aD p 8) (ck S):=
 qX {hintB:=bi Pg [(158,16,228,qB e),(158,16,437,qB f)],calls:=tC [(106,10,1072,ad c)],pans:=an Pg [(106,2,1090,⟨5,some (bg (cd p 8)),[]⟩)]} 1000 (az h h rfl)
end
end
section
variable{S:CK}(h:CKok S)(e:Ex)(c:TX S 112 [aI, .d (fd e)] (fun t=>[gg t]) (dc (S.c.te S.fs) e))
include h c
theorem mO(a:Int):TX S 106 [aI, .d (fd e), .d (.ro [gg a])] (fun t=>[gg t]) (ch (S.c.te S.fs) e [a]):=by
 obtain⟨k,o,nm,n,p,xs⟩:=e;unfold ch;revert c;cases dc (S.c.te S.fs) (.mk k o nm n p xs)with
 |out=>exact fun _=>trivial
 |bad q r=>exact fun c=>F7 h k o nm n p xs _ q r c
 |ok t=>
  intro c;simp only[TR.bind];have f:[a].contains t=(t==a):=by cases b:(t==a)<;>simp[List.contains,List.elem,b]
  rw[f];cases b:(t==a)with
  |true=>exact Qx h k o nm n p xs a t c b
  |false=>exact MX h k o nm n p xs a t c b
theorem F8(a b:Int):TX S 106 [aI, .d (fd e), .d (.ro [gg a,gg b])] (fun t=>[gg t]) (ch (S.c.te S.fs) e [a,b]):=by
 obtain⟨k,o,nm,n,p,xs⟩:=e;unfold ch;revert c;cases dc (S.c.te S.fs) (.mk k o nm n p xs)with
 |out=>exact fun _=>trivial
 |bad q r=>exact fun c=>F7 h k o nm n p xs _ q r c
 |ok t=>
  intro c;simp only[TR.bind];cases f:(t==a)with
  |true=>
   have g:[a,b].contains t=true:=by simp[List.contains,List.elem,f]
   rw[g];exact MY h k o nm n p xs a b t c f
  |false=>cases i:(t==b)with
   |true=>
    have g:[a,b].contains t=true:=by simp[List.contains,List.elem,f,i]
    rw[g];exact Qy h k o nm n p xs a b t c f i
   |false=>
    have g:[a,b].contains t=false:=by simp[List.contains,List.elem,f,i]
    rw[g];exact MZ h k o nm n p xs a b t c f i
end
section
variable{S:CK}{e:Ex}
theorem wO{ds:List D}{t:Int}(c:HC 106 [aI, .d (fd e), .d (.ro ds)] (ck S) [gg t] (ck S))(K:Nat):
    HC 106 [aI, .d (fd e), .vec K 1 1 ds] (ck S) [gg t] (ck S):=
 Ek (ar:=[aI, .d (fd e)]) c K 1 1
theorem wP{ds:List D}{q r:Int}(c:HX 106 [aI, .d (fd e), .d (.ro ds)] (ck S) (aD q r) (ck S))(K:Nat):
    HX 106 [aI, .d (fd e), .vec K 1 1 ds] (ck S) (aD q r) (ck S):=
 F6 (ar:=[aI, .d (fd e)]) c K 1 1
end
end Go.Avm
namespace Go.Avm
open Go.Proofs
theorem bC(E:TE)(x:Ex)(xs:List Ex)(ts:List Int)(r:List (List Int))(a:Bool):ay E (x::xs) (ts::r) a=(ch E x ts).bind fun t=>ay E xs (bif a then [[t]]else r) false:=by
 simp only[ay,ch];cases dc E x with
 |ok t=>simp only[TR.bind];cases ts.contains t<;>rfl
 |bad p e=>rfl
 |out=>rfl
abbrev hA(k o:Int)(nm:List UInt8)(n p:Int)(xs:List Ex):AV:= .d (fd (.mk k o nm n p xs))
abbrev lW(S:CK)(e:Ex)(ts:List Int)(t:Int):Prop:=HC 106 [aI, .d (fd e), .d (.ro (ts.map gg))] (ck S) [gg t] (ck S)
abbrev iI(S:CK)(e:Ex)(ts:List Int)(q r:Int):Prop:=HX 106 [aI, .d (fd e), .d (.ro (ts.map gg))] (ck S) (aD q r) (ck S)
section
variable{S:CK}(h:CKok S)(k o:Int)(nm:List UInt8)(n p:Int)(f d:Int)(a:List UInt8)(g e:Int)(b:List Ex)(j m:Int)(c:List UInt8)(l i:Int)(bl:List Ex)(zs:List Ex)
include h
theorem Qz(t u:Int)(r:(o==17)=(17==17))(q:(o==18)=(18==17))(c1:lW S (.mk f d a g e b) [2] t)(s:lW S (.mk j m c l i bl) [2] u):
    HC 137 [aI,hA k o nm n p (.mk f d a g e b:: .mk j m c l i bl::zs)] (ck S) [gg u] (ck S):=
 qN {hint:=qT 137 [(18,hB Pg (o==17) (17==17) r)],calls:=tC [(137,23,2050,be rfl (wO c1 2022)),(137,27,2200,be rfl (wO s 2176))]} 1000 (az h h rfl)
theorem M0(t q r:Int)(u:(o==17)=(17==17))(s:(o==18)=(18==17))(c1:lW S (.mk f d a g e b) [2] t)(v:iI S (.mk j m c l i bl) [2] q r):
    HX 137 [aI,hA k o nm n p (.mk f d a g e b:: .mk j m c l i bl::zs)] (ck S) (aD q r) (ck S):=
 qX {hint:=qT 137 [(18,hB Pg (o==17) (17==17) u)],calls:=tC [(137,23,2050,be rfl (wO c1 2022))],pans:=an Pg [(137,6,2050,⟨3,some (bg (wP v 2176)),[]⟩)]} 1000 (az h h rfl)
theorem M1(q r:Int)(t:(o==17)=(17==17))(s:(o==18)=(18==17))(c1:iI S (.mk f d a g e b) [2] q r):
    HX 137 [aI,hA k o nm n p (.mk f d a g e b:: .mk j m c l i bl::zs)] (ck S) (aD q r) (ck S):=
 qX {hint:=qT 137 [(18,hB Pg (o==17) (17==17) t)],pans:=an Pg [(137,5,1900,⟨3,some (bg (wP c1 2022)),[]⟩)]} 1000 (az h h rfl)
theorem QA(t u:Int)(r:(o==17)=(17==18))(q:(o==18)=(18==18))(c1:lW S (.mk f d a g e b) [2] t)(s:lW S (.mk j m c l i bl) [2] u):
    HC 137 [aI,hA k o nm n p (.mk f d a g e b:: .mk j m c l i bl::zs)] (ck S) [gg u] (ck S):=
 qN {hint:=qT 137 [(18,hB Pg (o==17) (17==18) r),(19,hB Pg (o==18) (18==18) q)],calls:=tC [(137,23,2150,be rfl (wO c1 2122)),(137,27,2300,be rfl (wO s 2276))]} 1000 (az h h rfl)
theorem M2(t q r:Int)(u:(o==17)=(17==18))(s:(o==18)=(18==18))(c1:lW S (.mk f d a g e b) [2] t)(v:iI S (.mk j m c l i bl) [2] q r):
    HX 137 [aI,hA k o nm n p (.mk f d a g e b:: .mk j m c l i bl::zs)] (ck S) (aD q r) (ck S):=
 qX {hint:=qT 137 [(18,hB Pg (o==17) (17==18) u),(19,hB Pg (o==18) (18==18) s)],calls:=tC [(137,23,2150,be rfl (wO c1 2122))],pans:=an Pg [(137,6,2150,⟨3,some (bg (wP v 2276)),[]⟩)]} 1000 (az h h rfl)
theorem M3(q r:Int)(t:(o==17)=(17==18))(s:(o==18)=(18==18))(c1:iI S (.mk f d a g e b) [2] q r):
    HX 137 [aI,hA k o nm n p (.mk f d a g e b:: .mk j m c l i bl::zs)] (ck S) (aD q r) (ck S):=
 qX {hint:=qT 137 [(18,hB Pg (o==17) (17==18) t),(19,hB Pg (o==18) (18==18) s)],pans:=an Pg [(137,5,2000,⟨3,some (bg (wP c1 2122)),[]⟩)]} 1000 (az h h rfl)
theorem QB(t u:Int)(w:(o==17)=false)(r:(o==18)=false)(q:(o==15)=(15==15))(v:(o==16)=(16==15))(c1:lW S (.mk f d a g e b) [1,2] t)(s:lW S (.mk j m c l i bl) [t] u):
    HC 137 [aI,hA k o nm n p (.mk f d a g e b:: .mk j m c l i bl::zs)] (ck S) [gg 2] (ck S):=
 qN {hint:=qT 137 [(18,qB w),(19,qB r),(29,hB Pg (o==15) (15==15) q)],calls:=tC [(137,36,2350,be rfl (wO c1 2335)),(137,38,2400,be rfl (wO s 2387))]} 1000 (az h h rfl)
theorem M4(t q r:Int)(x:(o==17)=false)(u:(o==18)=false)(s:(o==15)=(15==15))(w:(o==16)=(16==15))(c1:lW S (.mk f d a g e b) [1,2] t)(v:iI S (.mk j m c l i bl) [t] q r):
    HX 137 [aI,hA k o nm n p (.mk f d a g e b:: .mk j m c l i bl::zs)] (ck S) (aD q r) (ck S):=
 qX {hint:=qT 137 [(18,qB x),(19,qB u),(29,hB Pg (o==15) (15==15) s)],calls:=tC [(137,36,2350,be rfl (wO c1 2335))],pans:=an Pg [(137,9,2100,⟨7,some (bg (wP v 2387)),[7]⟩)]} 1000 (az h h rfl)
theorem M5(q r:Int)(u:(o==17)=false)(s:(o==18)=false)(t:(o==15)=(15==15))(v:(o==16)=(16==15))(c1:iI S (.mk f d a g e b) [1,2] q r):
    HX 137 [aI,hA k o nm n p (.mk f d a g e b:: .mk j m c l i bl::zs)] (ck S) (aD q r) (ck S):=
 qX {hint:=qT 137 [(18,qB u),(19,qB s),(29,hB Pg (o==15) (15==15) t)],pans:=an Pg [(137,9,2100,⟨5,some (bg (wP c1 2335)),[]⟩)]} 1000 (az h h rfl)
theorem QC(t u:Int)(w:(o==17)=false)(r:(o==18)=false)(q:(o==15)=(15==16))(s:(o==16)=(16==16))(c1:lW S (.mk f d a g e b) [1,2] t)(v:lW S (.mk j m c l i bl) [t] u):
    HC 137 [aI,hA k o nm n p (.mk f d a g e b:: .mk j m c l i bl::zs)] (ck S) [gg 2] (ck S):=
 qN {hint:=qT 137 [(18,qB w),(19,qB r),(29,hB Pg (o==15) (15==16) q),(30,hB Pg (o==16) (16==16) s)],calls:=tC [(137,36,2450,be rfl (wO c1 2435)),(137,38,2500,be rfl (wO v 2487))]} 1000 (az h h rfl)
theorem M6(t q r:Int)(x:(o==17)=false)(u:(o==18)=false)(s:(o==15)=(15==16))(v:(o==16)=(16==16))(c1:lW S (.mk f d a g e b) [1,2] t)(w:iI S (.mk j m c l i bl) [t] q r):
    HX 137 [aI,hA k o nm n p (.mk f d a g e b:: .mk j m c l i bl::zs)] (ck S) (aD q r) (ck S):=
 qX {hint:=qT 137 [(18,qB x),(19,qB u),(29,hB Pg (o==15) (15==16) s),(30,hB Pg (o==16) (16==16) v)],calls:=tC [(137,36,2450,be rfl (wO c1 2435))],pans:=an Pg [(137,9,2200,⟨7,some (bg (wP w 2487)),[7]⟩)]} 1000 (az h h rfl)
theorem M7(q r:Int)(v:(o==17)=false)(s:(o==18)=false)(t:(o==15)=(15==16))(u:(o==16)=(16==16))(c1:iI S (.mk f d a g e b) [1,2] q r):
    HX 137 [aI,hA k o nm n p (.mk f d a g e b:: .mk j m c l i bl::zs)] (ck S) (aD q r) (ck S):=
 qX {hint:=qT 137 [(18,qB v),(19,qB s),(29,hB Pg (o==15) (15==16) t),(30,hB Pg (o==16) (16==16) u)],pans:=an Pg [(137,9,2200,⟨5,some (bg (wP c1 2435)),[]⟩)]} 1000 (az h h rfl)
section
variable(t u:Int)(v:(o==17)=false)(q:(o==18)=false)(r:(o==15)=false)(s:(o==16)=false)
include t u v q r s
theorem Jv(w:decide (11≤o)=true)(c1:lW S (.mk f d a g e b) [1] t)(x:lW S (.mk j m c l i bl) [1] u):
    HC 137 [aI,hA k o nm n p (.mk f d a g e b:: .mk j m c l i bl::zs)] (ck S) [gg (bif true then 2 else 1)] (ck S):=
 qN {hint:=qT 137 [(18,qB v),(19,qB q),(29,qB r),(30,qB s),(49,qB w)],calls:=tC [(137,42,2350,be rfl (wO c1 2341)),(137,46,2500,be rfl (wO x 2495))]} 1000 (az h h rfl)
theorem F9(w:decide (11≤o)=false)(c1:lW S (.mk f d a g e b) [1] t)(x:lW S (.mk j m c l i bl) [1] u):
    HC 137 [aI,hA k o nm n p (.mk f d a g e b:: .mk j m c l i bl::zs)] (ck S) [gg (bif false then 2 else 1)] (ck S):=
 qN {hint:=qT 137 [(18,qB v),(19,qB q),(29,qB r),(30,qB s),(49,qB w)],calls:=tC [(137,42,2350,be rfl (wO c1 2341)),(137,46,2500,be rfl (wO x 2495))]} 1000 (az h h rfl)
end
theorem Ue(t q r:Int)(x:(o==17)=false)(u:(o==18)=false)(s:(o==15)=false)(v:(o==16)=false)(c1:lW S (.mk f d a g e b) [1] t)(w:iI S (.mk j m c l i bl) [1] q r):
    HX 137 [aI,hA k o nm n p (.mk f d a g e b:: .mk j m c l i bl::zs)] (ck S) (aD q r) (ck S):=
 qX {hint:=qT 137 [(18,qB x),(19,qB u),(29,qB s),(30,qB v)],calls:=tC [(137,42,2350,be rfl (wO c1 2341))],pans:=an Pg [(137,12,2350,⟨3,some (bg (wP w 2495)),[]⟩)]} 1000 (az h h rfl)
theorem Uf(q r:Int)(v:(o==17)=false)(s:(o==18)=false)(t:(o==15)=false)(u:(o==16)=false)(c1:iI S (.mk f d a g e b) [1] q r):
    HX 137 [aI,hA k o nm n p (.mk f d a g e b:: .mk j m c l i bl::zs)] (ck S) (aD q r) (ck S):=
 qX {hint:=qT 137 [(18,qB v),(19,qB s),(29,qB t),(30,qB u)],pans:=an Pg [(137,11,2200,⟨3,some (bg (wP c1 2341)),[]⟩)]} 1000 (az h h rfl)
end
abbrev WX(S:CK)(e:Ex)(ts:List Int):Prop:=TX S 106 [aI, .d (fd e), .d (.ro (ts.map gg))] (fun t=>[gg t]) (ch (S.c.te S.fs) e ts)
abbrev CZ(E:TE)(o:Int)(xs:List Ex):TR Int:=bif decide (xs.length<2)then .out else (bif o==17||o==18 then (ay E xs [[2],[2]] false).bind fun _=> .ok 2
      else bif o==15||o==16 then (ay E xs [[1,2],[]] true).bind fun _=> .ok 2
      else (ay E xs [[1],[1]] false).bind fun _=> .ok (bif decide (11≤o)then 2 else 1))
theorem vo{E:TE}{e:Ex}{ts:List Int}{t:Int}(h:ch E e ts= .ok t):ts.contains t=true:=by
 unfold ch at h;cases a:dc E e with
 |bad p q=>rw[a]at h;cases h
 |out=>rw[a]at h;cases h
 |ok u=>
  rw[a]at h;simp only[TR.bind]at h;cases b:ts.contains u with
  |false=>rw[b]at h;cases h
  |true=>
   rw[b]at h;cases h;exact b
theorem QD{S:CK}(h:CKok S)(k o:Int)(nm:List UInt8)(n p:Int)(xs:List Ex)(I:∀e∈xs,TX S 112 [aI, .d (fd e)] (fun t=>[gg t]) (dc (S.c.te S.fs) e)):
    TX S 137 [aI,hA k o nm n p xs] (fun t=>[gg t]) (CZ (S.c.te S.fs) o xs):=by
 match xs,I with
 |[],_=>exact trivial
 |[_],_=>exact trivial
 | .mk w v g A m i:: .mk s y f B x bl::zs,I=>
  have P:=I (.mk w v g A m i) (by simp);have U:=I (.mk s y f B x bl) (by simp);have W:decide ((Ex.mk w v g A m i::Ex.mk s y f B x bl::zs).length<2)=false:=by simp
  simp only[CZ,W,xP];have Q:∀a,WX S _ [a]:=fun a=>mO h _ P a
  have M:∀a,WX S _ [a]:=fun a=>mO h _ U a
  have K:WX S _ [1,2]:=F8 h _ P 1 2
  have R:∀a b,ay (S.c.te S.fs) (.mk w v g A m i:: .mk s y f B x bl::zs) [[a],[b]] false=(ch (S.c.te S.fs) (.mk w v g A m i) [a]).bind fun _=>(ch (S.c.te S.fs) (.mk s y f B x bl) [b]).bind fun _=> .ok ():=fun a b=>by
   rw[bC];congr 1;funext t;simp only[xP];rw[bC];congr 1;funext t;cases zs<;>rfl
  have T:ay (S.c.te S.fs) (.mk w v g A m i:: .mk s y f B x bl::zs) [[1,2],[]] true=(ch (S.c.te S.fs) (.mk w v g A m i) [1,2]).bind fun t=>(ch (S.c.te S.fs) (.mk s y f B x bl) [t]).bind fun _=> .ok ():=by
   rw[bC];congr 1;funext t;simp only[xW];rw[bC];congr 1;funext t;cases zs<;>rfl
  rw[R,R,T]
  have E:∀(c:Int),(o==17)=(17==c)→(o==18)=(18==c)→(c=17∨c=18)→TX S 137 [aI,hA k o nm n p (.mk w v g A m i:: .mk s y f B x bl::zs)] (fun t=>[gg t]) (((ch (S.c.te S.fs) (.mk w v g A m i) [2]).bind fun _=>(ch (S.c.te S.fs) (.mk s y f B x bl) [2]).bind fun _=> .ok ()).bind fun _=> .ok 2):=fun c j l G=>by
   have c1:=Q 2;have D:=M 2;revert c1 D;unfold WX;cases J:ch (S.c.te S.fs) (.mk w v g A m i) [2]with
   |out=>exact fun _ _=>trivial
   |bad q r=>
    intro c1 _;rcases G with rfl|rfl
    ·exact M1 h k o nm n p w v g A m i s y f B x bl zs q r j l c1
    ·exact M3 h k o nm n p w v g A m i s y f B x bl zs q r j l c1
   |ok t=>
    cases H:ch (S.c.te S.fs) (.mk s y f B x bl) [2]with
    |out=>exact fun _ _=>trivial
    |bad q r=>
     intro c1 D;rcases G with rfl|rfl
     ·exact M0 h k o nm n p w v g A m i s y f B x bl zs t q r j l c1 D
     ·exact M2 h k o nm n p w v g A m i s y f B x bl zs t q r j l c1 D
    |ok u=>
     intro c1 D
     have V:u=2:=by
      have L:=vo H;simp at L;first|exact L|exact L.symm
     subst V;rcases G with rfl|rfl
     ·exact Qz h k o nm n p w v g A m i s y f B x bl zs t 2 j l c1 D
     ·exact QA h k o nm n p w v g A m i s y f B x bl zs t 2 j l c1 D
  have F:∀(c:Int),(o==17)=false→(o==18)=false→(o==15)=(15==c)→(o==16)=(16==c)→(c=15∨c=16)→TX S 137 [aI,hA k o nm n p (.mk w v g A m i:: .mk s y f B x bl::zs)] (fun t=>[gg t]) (((ch (S.c.te S.fs) (.mk w v g A m i) [1,2]).bind fun t=>(ch (S.c.te S.fs) (.mk s y f B x bl) [t]).bind fun _=> .ok ()).bind fun _=> .ok 2):=fun c j l z C G=>by
   have c1:=K;revert c1;unfold WX;cases J:ch (S.c.te S.fs) (.mk w v g A m i) [1,2]with
   |out=>exact fun _=>trivial
   |bad q r=>
    intro c1;rcases G with rfl|rfl
    ·exact M5 h k o nm n p w v g A m i s y f B x bl zs q r j l z C c1
    ·exact M7 h k o nm n p w v g A m i s y f B x bl zs q r j l z C c1
   |ok t=>
    intro c1;have D:=M t;revert D;unfold WX;simp only[TR.bind];cases H:ch (S.c.te S.fs) (.mk s y f B x bl) [t]with
    |out=>exact fun _=>trivial
    |bad q r=>
     intro D;rcases G with rfl|rfl
     ·exact M4 h k o nm n p w v g A m i s y f B x bl zs t q r j l z C c1 D
     ·exact M6 h k o nm n p w v g A m i s y f B x bl zs t q r j l z C c1 D
    |ok u=>
     intro D;rcases G with rfl|rfl
     ·exact QB h k o nm n p w v g A m i s y f B x bl zs t u j l z C c1 D
     ·exact QC h k o nm n p w v g A m i s y f B x bl zs t u j l z C c1 D
  cases j:(o==17)with
  |true=>
   have N:=eq_of_beq j;simp only[Bool.true_or,xW];exact E 17 j (by rw[N];rfl) (.inl rfl)
  |false=>cases l:(o==18)with
   |true=>
    simp only[Bool.or_true,xW];exact E 18 j l (.inr rfl)
   |false=>
    simp only[Bool.or_self,xP];cases z:(o==15)with
    |true=>
     have N:=eq_of_beq z;simp only[Bool.true_or,xW];exact F 15 j l z (by rw[N];rfl) (.inl rfl)
    |false=>cases C:(o==16)with
     |true=>
      simp only[Bool.or_true,xW];exact F 16 j l z C (.inr rfl)
     |false=>
      simp only[Bool.or_self,xP];have c1:=Q 1;have D:=M 1;revert c1 D;unfold WX;cases ch (S.c.te S.fs) (.mk w v g A m i) [1]with
      |out=>exact fun _ _=>trivial
      |bad q r=>exact fun c1 _=>Uf h k o nm n p w v g A m i s y f B x bl zs q r j l z C c1
      |ok t=>cases ch (S.c.te S.fs) (.mk s y f B x bl) [1]with
       |out=>exact fun _ _=>trivial
       |bad q r=>exact fun c1 D=>Ue h k o nm n p w v g A m i s y f B x bl zs t q r j l z C c1 D
       |ok u=>
        intro c1 D;simp only[TR.bind];cases O:decide (11≤o)with
        |true=>exact Jv h k o nm n p w v g A m i s y f B x bl zs t u j l z C O c1 D
        |false=>exact F9 h k o nm n p w v g A m i s y f B x bl zs t u j l z C O c1 D
end Go.Avm
namespace Go.Avm
open Go.Proofs
abbrev Xa(q:Pm):D:= .agg [.str q.nm, .int .u8 q.ty, .int .i64 q.p]
abbrev XC(f:Fn):List AV:=[.d (.str f.nm), .d (.ro (f.ps.map cR)),Ju f.res, .d (.ro (cg f.bd)),dI f.p]
abbrev XD(f:Fn):Nat×aE:=(2007,⟨1,some (.arr 1 (XC f))⟩)
abbrev I5(f:Fn)(xs:List Ex)(i:Nat):List (Nat×AV):=[(0,aI),(7, .ptr 2007 1 0 0 1),(43, .d (.ro (fJ xs))),(44,dN (fJ xs).length),(45,dN i)]
abbrev Ug(f:Fn):List (Nat×AV):=[(0,aI),(7, .ptr 2007 1 0 0 1)]
abbrev pW(S:CK)(f:Fn):List (Nat×aE):=ck S ++[XD f]
abbrev Uh(S:CK):List (Nat×aE):=ck S ++[(2007,⟨1,none⟩)]
theorem Ga{S:CK}(h:CKok S)(f:Fn){ar:List AV}{a:List (Nat×aE)}(hp:a.map (·.1)=(pW S f).map (·.1))(c:bk (dm ((pW S f).map (·.1)) 1000000) ar=ar)(d:(a.map fun p=>aY (dm ((pW S f).map (·.1)) 1000000) p.2)=a.map (·.2)):Cln ((pW S f).map (·.1)) 1000000 ar (pW S f) a:=
 ⟨rfl,rfl,hp,c,by
  have b:=fW h (ρ:=dm ((pW S f).map (·.1)) 1000000) rfl;simp only[pW,xF]at b ⊢;rw[b];rfl,d⟩
theorem Ui{S:CK}(h:CKok S)(f:Fn)(e:aE)(a:aY (dm ((pW S f).map (·.1)) 1000000) e=e):((ck S ++([(2007,e)]:List (Nat×aE))).map fun p:Nat×aE=>aY (dm ((pW S f).map (·.1)) 1000000) p.2)=(ck S ++([(2007,e)]:List (Nat×aE))).map (·.2):=by
 have b:=fW h (ρ:=dm ((pW S f).map (·.1)) 1000000) rfl;show((ck S).map fun p:Nat×aE=>aY (dm ((pW S f).map (·.1)) 1000000) p.2) ++[aY (dm ((pW S f).map (·.1)) 1000000) e]=(ck S).map (·.2) ++[e];rw[b,a]
section
variable{S:CK}(h:CKok S)(f:Fn)(xs:List Ex)(i:Nat)
include h
theorem QE(a:decide (i<(fJ xs).length)=false):RE 63 (lO 136 6) (I5 f xs i) (pW S f) (.exit 0) (Ug f) (pW S f):=
 qE {hint:=qT 136 [(46,dk Pg i (fJ xs).length false a)]} 136 2000 (Ga h f rfl rfl (Ui h f _ rfl))
theorem QF(k:decide (i<(fJ xs).length)=true)(n:(fJ xs).length<1000000)(j d:Int)(a:List UInt8)(g e:Int)(b:List Ex)(l:xs[i]? =some (.mk j d a g e b))(q:Pm)(m:f.ps[i]? =some q)(t:Int)(c:lW S (.mk j d a g e b) [q.ty] t):
    RE 63 (lO 136 6) (I5 f xs i) (pW S f) .normal (I5 f xs (i+1)) (pW S f):=
 qE {hint:=qT 136 [(46,dk Pg i (fJ xs).length true k),(48, .idx (fJ xs) ((i:Nat):Int) (fd (.mk j d a g e b)) (by omega) (by simp[jV,l])),(55, .idx (f.ps.map cR) ((i:Nat):Int) (Xa q) (by omega) (by simp[m,cR])),(60,bj Pg i (by have:=xe k;omega))],calls:=tC [(136,59,3008,be rfl (wO c 3003))]} 136 2000 (Ga h f rfl rfl (Ui h f _ rfl))
theorem QG(k:decide (i<(fJ xs).length)=true)(j d:Int)(a:List UInt8)(g e:Int)(b:List Ex)(l:xs[i]? =some (.mk j d a g e b))(q:Pm)(m:f.ps[i]? =some q)(u r:Int)(c:iI S (.mk j d a g e b) [q.ty] u r):
    RE 63 (lO 136 6) (I5 f xs i) (pW S f) (.panic (aD u r)) [] (Uh S):=
 qE {hint:=qT 136 [(46,dk Pg i (fJ xs).length true k),(48, .idx (fJ xs) ((i:Nat):Int) (fd (.mk j d a g e b)) (by omega) (by simp[jV,l])),(55, .idx (f.ps.map cR) ((i:Nat):Int) (Xa q) (by omega) (by simp[m,cR]))],pans:=an Pg [(136,8,2441,⟨9,some (bg (wP c 3003)),[]⟩)]} 136 2000 (Ga h f rfl rfl (Ui h f _ rfl))
end
def Uj(S:CK)(f:Fn)(xs:List Ex)(i:Nat):TR Unit→Prop
 | .ok _=>RL 63 (lO 136 6) (I5 f xs i) (pW S f) (.exit 0) (Ug f) (pW S f)
 | .bad p q=>RL 63 (lO 136 6) (I5 f xs i) (pW S f) (.panic (aD p q)) [] (Uh S)
 | .out=>True
theorem LD{S:CK}(h:CKok S)(f:Fn)(xs:List Ex)(B:xs.length<1000000)(s:f.ps.length=xs.length)(C:∀e∈xs,TX S 112 [aI, .d (fd e)] (fun t=>[gg t]) (dc (S.c.te S.fs) e)):
    ∀(m i:Nat),xs.length-i=m→i≤xs.length→Uj S f xs i (ay (S.c.te S.fs) (xs.drop i) ((f.ps.drop i).map fun q=>[q.ty]) false)
 |0,i,hm,E=>by
  have A:i=xs.length:=by omega
  subst A;have F:xs.drop xs.length=[]:=zK;have D:f.ps.drop xs.length=[]:=by rw[←s];exact zK
  rw[F,D];exact fun a X g k=>aA (QE h f xs xs.length (by simp[cC]) a X g k) (by simp)
 |m+1,i,hm,E=>by
  have b:i<xs.length:=by omega
  have p:xs[i]? =some xs[i]:=xD b;have y:f.ps[i]? =some (f.ps[i]'(by omega)):=xD (by omega);rw[xZ b,xZ (l:=f.ps) (by omega)];generalize xs[i]=e at p;generalize f.ps[i]'(by omega)=q at y;have c:=mO h e (C e (xX p)) q.ty;obtain⟨x,w,j,z,v,n⟩:=e;rw[xH,bC];revert c;cases ch (S.c.te S.fs) (.mk x w j z v n) [q.ty]with
  |out=>exact fun _=>trivial
  |bad u r=>exact fun c a X g k=>aA (QG h f xs i (by simpa [cC]using b) x w j z v n p q y u r c a X g k) (by simp)
  |ok t=>
   intro c;have o:=LD h f xs B s C m (i+1) (by omega) b;simp only[TR.bind,xP];revert o;cases ay (S.c.te S.fs) (xs.drop (i+1)) ((f.ps.drop (i+1)).map fun q=>[q.ty]) false with
   |out=>exact fun _=>trivial
   |bad u r=>exact fun o a X g k=>au (QF h f xs i (by simpa [cC]using b) (by rw[cC];exact B) x w j z v n p q y t c a X g k) (o a X g k)
   |ok _=>exact fun o a X g k=>au (QF h f xs i (by simpa [cC]using b) (by rw[cC];exact B) x w j z v n p q y t c a X g k) (o a X g k)
noncomputable def QH{S:CK}{f:Fn}{xs:List Ex}{x:aB}{l':List (Nat×AV)}{b:List (Nat×aE)}(h:RL 63 (lO 136 6) (I5 f xs 0) (pW S f) x l' b):dJ Pg:=
 ⟨63,aJ Pg 136 6,I5 f xs 0,fun _=>pW S f,x,l',fun _=>b,fun a X c d=>(h a X c d).aw⟩
section
variable{S:CK}(h:CKok S)(k o:Int)(nm:List UInt8)(n p:Int)(xs:List Ex)
include h
theorem M8(a:bA nm S.fs 0=none):HX 136 [aI,hA k o nm n p xs] (ck S) (aD p 6) (ck S):=
 qX {hint:=qT 136 [(17,oL Pg nm S.fs none a)],pans:=an Pg [(136,2,1882,⟨3,some (bg (cd p 6)),[]⟩)]} 1000 (az h h rfl)
theorem El(j:Nat)(f:Fn)(b:bA nm S.fs 0=some (j,f))(a:S.fs[j]? =some f)(c:(((f.ps.map cR).length:Int)==((fJ xs).length:Int))=false):HX 136 [aI,hA k o nm n p xs] (ck S) (aD p 9) (ck S):=
 qX {hint:=qT 136 [(17,oL Pg nm S.fs (some (j,f)) b),(30, .idx (S.fs.map bn) ((j:Nat):Int) (bn f) (by omega) (by simp[a])),(38,qB c)],calls:=tC [(136,23,2071,be rfl (aU p 6))],pans:=an Pg [(136,4,2701,⟨9,some (bg (cd p 9)),[]⟩)]} 1000 (az h h rfl)
theorem M9(j:Nat)(f:Fn)(c:bA nm S.fs 0=some (j,f))(b:S.fs[j]? =some f)(d:(((f.ps.map cR).length:Int)==((fJ xs).length:Int))=true)
    (a:RL 63 (lO 136 6) (I5 f xs 0) (pW S f) (.exit 0) (Ug f) (pW S f)):
    HC 136 [aI,hA k o nm n p xs] (ck S) [gg f.res] (ck S):=
 qN {loops:=fun f q=>if f=136 then (if q=6 then some (QH a)else none)else none,hint:=qT 136 [(17,oL Pg nm S.fs (some (j,f)) c),(30, .idx (S.fs.map bn) ((j:Nat):Int) (bn f) (by omega) (by simp[b])),(38,qB d)],calls:=tC [(136,23,1496,be rfl (aU p 6)),(136,41,2693,be rfl (aU p 9))]} 425 (az h h rfl)
theorem Jw(j:Nat)(f:Fn)(u r:Int)(c:bA nm S.fs 0=some (j,f))(b:S.fs[j]? =some f)(d:(((f.ps.map cR).length:Int)==((fJ xs).length:Int))=true)
    (a:RL 63 (lO 136 6) (I5 f xs 0) (pW S f) (.panic (aD u r)) [] (Uh S)):
    HX 136 [aI,hA k o nm n p xs] (ck S) (aD u r) (ck S):=
 qX {loops:=fun f q=>if f=136 then (if q=6 then some (QH a)else none)else none,hint:=qT 136 [(17,oL Pg nm S.fs (some (j,f)) c),(30, .idx (S.fs.map bn) ((j:Nat):Int) (bn f) (by omega) (by simp[b])),(38,qB d)],calls:=tC [(136,23,1496,be rfl (aU p 6)),(136,41,2693,be rfl (aU p 9))]} 425 (az h h rfl)
end
theorem oM{x:List UInt8}:∀{l:List Fn}{i j:Nat}{f:Fn},bA x l i=some (j,f)→i≤j∧l[j-i]? =some f
 |[],_,_,_,h=>by cases h
 |e::r,i,j,f,h=>by
  simp only[bA]at h;cases a:(x==e.nm)with
  |true=>
   rw[a]at h;simp only[xW,xA,xE]at h;obtain⟨rfl,rfl⟩:=h;simp
  |false=>
   rw[a]at h;obtain⟨b,h2⟩:=oM (l:=r) h;refine⟨by omega, ?_⟩;rw[show j-i=(j-(i+1))+1 by omega,yh];exact h2
abbrev Gb(E:TE)(nm:List UInt8)(p:Int)(xs:List Ex):TR Int:=match bA nm E.fs 0 with
 |none=> .bad p 6
 |some (_,f)=>bif f.ps.length==xs.length then (ay E xs (f.ps.map fun q=>[q.ty]) false).bind fun _=> .ok f.res else .bad p 9
theorem QI{S:CK}(h:CKok S)(k o:Int)(nm:List UInt8)(n p:Int)(xs:List Ex)(v:∀e∈xs,TX S 112 [aI, .d (fd e)] (fun t=>[gg t]) (dc (S.c.te S.fs) e)):
    TX S 136 [aI,hA k o nm n p xs] (fun t=>[gg t]) (Gb (S.c.te S.fs) nm p xs):=by
 show TX S _ _ _ (match bA nm S.fs 0 with|none=> .bad p 6|some (_,f)=>bif f.ps.length==xs.length then (ay (S.c.te S.fs) xs (f.ps.map fun q=>[q.ty]) false).bind fun _=> .ok f.res else .bad p 9);cases i:bA nm S.fs 0 with
 |none=>exact M8 h k o nm n p xs i
 |some s=>
  obtain⟨j,f⟩:=s;have l:S.fs[j]? =some f:=(oM i).2;simp only;cases m:(f.ps.length==xs.length)with
  |false=>
   refine El h k o nm n p xs j f i l ?_;rw[y6]at m ⊢;rw[xO,cC];intro e;exact m (by omega)
  |true=>
   have g:f.ps.length=xs.length:=eq_of_beq m
   have b:(((f.ps.map cR).length:Int)==((fJ xs).length:Int))=true:=by
    rw[xO,cC,g];exact beq_self_eq_true _
   have w:=h.par f (xX l);have a:=LD h f xs (by omega) g v xs.length 0 (by omega) (by omega);simp only[xn]at a;simp only[xW];revert a;cases ay (S.c.te S.fs) xs (f.ps.map fun q=>[q.ty]) false with
   |out=>exact fun _=>trivial
   |bad u r=>exact fun a=>Jw h k o nm n p xs j f u r i l b a
   |ok _=>exact fun a=>M9 h k o nm n p xs j f i l b a
end Go.Avm
namespace Go.Avm
open Go.Proofs
section
variable{S:CK}(h:CKok S)(k o:Int)(nm:List UInt8)(n p:Int)
include h
theorem Na(xs:List Ex)(h2:(k==2)=true):HC 112 [aI,hA k o nm n p xs] (ck S) [gg 2] (ck S):=
 qN {hint:=qT 112 [(12,qB h2)]} 1000 (az h h rfl)
section
variable(xs:List Ex)(h2:(k==2)=false)
include xs h2
theorem Nb(a:(k==3)=true)(q r:Int)(c:HX 105 [aI, .d (.str nm),dI p] (ck S) (aD q r) (ck S)):
    HX 112 [aI,hA k o nm n p xs] (ck S) (aD q r) (ck S):=
 qX {hint:=qT 112 [(12,qB h2),(14,qB a)],pans:=an Pg [(112,5,1728,⟨5,some (bg c),[]⟩)]} 1000 (az h h rfl)
theorem Nc(b:(k==3)=true)(i:Nat)(v:Vr)(c:HC 105 [aI, .d (.str nm),dI p] (ck S) [.int .i64 (i:Int),mX v] (ck S))(j:Nat)(a:bQ i S.c.sure.l 0=some j):
    HC 112 [aI,hA k o nm n p xs] (ck S) [gg v.ty] (ck S):=
 qN {hint:=qT 112 [(12,qB h2),(14,qB b),(30,li Pg i S.c.sure.l (some j) a)],calls:=tC [(112,21,2183,be rfl c),(112,36,4094,be rfl (aU p 10))]} 1000 (az h h rfl)
theorem Nd(b:(k==3)=true)(i:Nat)(v:Vr)(c:HC 105 [aI, .d (.str nm),dI p] (ck S) [.int .i64 (i:Int),mX v] (ck S))(a:bQ i S.c.sure.l 0=none):
    HX 112 [aI,hA k o nm n p xs] (ck S) (aD p 10) (ck S):=
 qX {hint:=qT 112 [(12,qB h2),(14,qB b),(30,li Pg i S.c.sure.l none a)],calls:=tC [(112,21,2183,be rfl c)],pans:=an Pg [(112,7,3821,⟨3,some (bg (cd p 10)),[]⟩)]} 1000 (az h h rfl)
theorem Jx(b:(k==3)=false)(a:(k==4)=(4==4))(e:(k==7)=(7==4))(q r:Int)(c:HX 107 [aI, .d (.str nm),dI p] (ck S) (aD q r) (ck S)):
    HX 112 [aI,hA k o nm n p xs] (ck S) (aD q r) (ck S):=
 qX {hint:=qT 112 [(12,qB h2),(14,qB b),(40,hB Pg (k==4) (4==4) a)],pans:=an Pg [(112,10,1910,⟨5,some (bg c),[]⟩)]} 1000 (az h h rfl)
theorem Jy(e:(k==3)=false)(b:(k==4)=(4==7))(a:(k==7)=(7==7))(q r:Int)(c:HX 107 [aI, .d (.str nm),dI p] (ck S) (aD q r) (ck S)):
    HX 112 [aI,hA k o nm n p xs] (ck S) (aD q r) (ck S):=
 qX {hint:=qT 112 [(12,qB h2),(14,qB e),(40,hB Pg (k==4) (4==7) b),(55,hB Pg (k==7) (7==7) a)],pans:=an Pg [(112,13,2092,⟨5,some (bg c),[]⟩)]} 1000 (az h h rfl)
theorem Nf(e:(k==3)=false)(b:(k==4)=false)(a:(k==7)=true)(c:HC 107 [aI, .d (.str nm),dI p] (ck S) [] (ck S)):
    HC 112 [aI,hA k o nm n p xs] (ck S) [gg 1] (ck S):=
 qN {hint:=qT 112 [(12,qB h2),(14,qB e),(40,qB b),(55,qB a)],calls:=tC [(112,61,2547,be rfl c)]} 1000 (az h h rfl)
end
section
variable(f e:Int)(a:List UInt8)(g i:Int)(b zs:List Ex)(h2:(k==2)=false)(l:(k==3)=false)(j:(k==4)=true)
include f e a g i b zs h2 l j
theorem Jz(t:Int)(c:HC 107 [aI, .d (.str nm),dI p] (ck S) [] (ck S))(c1:lW S (.mk f e a g i b) [1] t):
    HC 112 [aI,hA k o nm n p (.mk f e a g i b::zs)] (ck S) [gg 1] (ck S):=
 qN {hint:=qT 112 [(12,qB h2),(14,qB l),(40,qB j)],calls:=tC [(112,46,2365,be rfl c),(112,53,2911,be rfl (wO c1 2872))]} 1000 (az h h rfl)
theorem JA(q r:Int)(c:HC 107 [aI, .d (.str nm),dI p] (ck S) [] (ck S))(c1:iI S (.mk f e a g i b) [1] q r):
    HX 112 [aI,hA k o nm n p (.mk f e a g i b::zs)] (ck S) (aD q r) (ck S):=
 qX {hint:=qT 112 [(12,qB h2),(14,qB l),(40,qB j)],calls:=tC [(112,46,2365,be rfl c)],pans:=an Pg [(112,11,2365,⟨6,some (bg (wP c1 2872)),[]⟩)]} 1000 (az h h rfl)
end
section
variable(xs:List Ex)(h2:(k==2)=false)(e:(k==3)=false)(b:(k==4)=false)(d:(k==7)=false)(a:(k==5)=true)
include xs h2 e b d a
theorem JB(t:Int)(c:HC 136 [aI,hA k o nm n p xs] (ck S) [gg t] (ck S)):
    HC 112 [aI,hA k o nm n p xs] (ck S) [gg t] (ck S):=
 qN {hint:=qT 112 [(12,qB h2),(14,qB e),(40,qB b),(55,qB d),(63,qB a)],calls:=tC [(112,66,2456,be rfl c)]} 1000 (az h h rfl)
theorem JC(q r:Int)(c:HX 136 [aI,hA k o nm n p xs] (ck S) (aD q r) (ck S)):
    HX 112 [aI,hA k o nm n p xs] (ck S) (aD q r) (ck S):=
 qX {hint:=qT 112 [(12,qB h2),(14,qB e),(40,qB b),(55,qB d),(63,qB a)],pans:=an Pg [(112,15,2274,⟨2,some (bg c),[]⟩)]} 1000 (az h h rfl)
end
section
variable(d c:Int)(a:List UInt8)(e f:Int)(b zs:List Ex)(h2:(k==2)=false)(m:(k==3)=false)(l:(k==4)=false)(j:(k==7)=false)(i:(k==5)=false)(g:(k==8)=true)
include d c a e f b zs h2 m l j i g
theorem Em(q:(o==21)=true)(t:Int)(c1:lW S (.mk d c a e f b) [bif true then 2 else 1] t):
    HC 112 [aI,hA k o nm n p (.mk d c a e f b::zs)] (ck S) [gg t] (ck S):=
 qN {hint:=qT 112 [(12,qB h2),(14,qB m),(40,qB l),(55,qB j),(63,qB i),(68,qB g),(71,qB q)],calls:=tC [(112,78,3275,be rfl (wO c1 3261))]} 1000 (az h h rfl)
theorem En(s:(o==21)=true)(q r:Int)(c1:iI S (.mk d c a e f b) [bif true then 2 else 1] q r):
    HX 112 [aI,hA k o nm n p (.mk d c a e f b::zs)] (ck S) (aD q r) (ck S):=
 qX {hint:=qT 112 [(12,qB h2),(14,qB m),(40,qB l),(55,qB j),(63,qB i),(68,qB g),(71,qB s)],pans:=an Pg [(112,18,2729,⟨6,some (bg (wP c1 3261)),[]⟩)]} 1000 (az h h rfl)
theorem BS(q:(o==21)=false)(t:Int)(c1:lW S (.mk d c a e f b) [bif false then 2 else 1] t):
    HC 112 [aI,hA k o nm n p (.mk d c a e f b::zs)] (ck S) [gg t] (ck S):=
 qN {hint:=qT 112 [(12,qB h2),(14,qB m),(40,qB l),(55,qB j),(63,qB i),(68,qB g),(71,qB q)],calls:=tC [(112,85,3275,be rfl (wO c1 3268))]} 1000 (az h h rfl)
theorem BT(s:(o==21)=false)(q r:Int)(c1:iI S (.mk d c a e f b) [bif false then 2 else 1] q r):
    HX 112 [aI,hA k o nm n p (.mk d c a e f b::zs)] (ck S) (aD q r) (ck S):=
 qX {hint:=qT 112 [(12,qB h2),(14,qB m),(40,qB l),(55,qB j),(63,qB i),(68,qB g),(71,qB s)],pans:=an Pg [(112,19,2729,⟨6,some (bg (wP c1 3268)),[]⟩)]} 1000 (az h h rfl)
end
section
variable(xs:List Ex)(h2:(k==2)=false)(f:(k==3)=false)(e:(k==4)=false)(d:(k==7)=false)(b:(k==5)=false)(a:(k==8)=false)
include xs h2 f e d b a
theorem JD(g:(k==9)=true)(t:Int)(c:HC 137 [aI,hA k o nm n p xs] (ck S) [gg t] (ck S)):
    HC 112 [aI,hA k o nm n p xs] (ck S) [gg t] (ck S):=
 qN {hint:=qT 112 [(12,qB h2),(14,qB f),(40,qB e),(55,qB d),(63,qB b),(68,qB a),(87,qB g)],calls:=tC [(112,90,2820,be rfl c)]} 1000 (az h h rfl)
theorem JE(g:(k==9)=true)(q r:Int)(c:HX 137 [aI,hA k o nm n p xs] (ck S) (aD q r) (ck S)):
    HX 112 [aI,hA k o nm n p xs] (ck S) (aD q r) (ck S):=
 qX {hint:=qT 112 [(12,qB h2),(14,qB f),(40,qB e),(55,qB d),(63,qB b),(68,qB a),(87,qB g)],pans:=an Pg [(112,21,2638,⟨2,some (bg c),[]⟩)]} 1000 (az h h rfl)
theorem QJ(c:(k==9)=false):
    HC 112 [aI,hA k o nm n p xs] (ck S) [gg 1] (ck S):=
 qN {hint:=qT 112 [(12,qB h2),(14,qB f),(40,qB e),(55,qB d),(63,qB b),(68,qB a),(87,qB c)]} 1000 (az h h rfl)
end
end
theorem er(E:TE)(l:List Ex)(a:Bool):ay E l [] a= .ok ():=by
 cases l<;>rfl
theorem LE{S:CK}(h:CKok S):∀(m:Nat)(e:Ex),SizeOf.sizeOf e≤m→TX S 112 [aI, .d (fd e)] (fun t=>[gg t]) (dc (S.c.te S.fs) e)
 |0, .mk _ _ _ _ _ _,hm=>by simp at hm
 |m+1, .mk k o nm n p xs,hm=>by
  have A:∀e∈xs,TX S 112 [aI, .d (fd e)] (fun t=>[gg t]) (dc (S.c.te S.fs) e):=fun e G=>LE h m e (by
   have:=List.sizeOf_lt_of_mem G;simp at hm;omega)
  unfold dc;cases h2:(k==2)with
  |true=>exact Na h k o nm n p xs h2
  |false=>cases f:(k==3)with
  |true=>
   simp only[xW,xP];have c:=MU h nm p;revert c;cases lV (S.c.te S.fs) nm p with
   |out=>exact fun _=>trivial
   |bad q r=>exact fun c=>Nb h k o nm n p xs h2 f q r c
   |ok iv=>
    obtain⟨i,v⟩:=iv;intro c;show TX S _ _ _ (bif (bQ i S.c.sure.l 0).isSome then .ok v.ty else .bad p 10);cases F:bQ i S.c.sure.l 0 with
    |none=>exact Nd h k o nm n p xs h2 f i v c F
    |some j=>exact Nc h k o nm n p xs h2 f i v c j F
  |false=>cases g:(k==4)with
  |true=>
   have H:=eq_of_beq g;simp only[xW,xP];have c:=MW h nm p;revert c;cases nG (S.c.te S.fs) nm p with
   |out=>exact fun _=>trivial
   |bad q r=>exact fun c=>Jx h k o nm n p xs h2 f g (by rw[H];rfl) q r c
   |ok _=>
    intro c;match xs,A with
    |[],_=>exact trivial
    | .mk w s a x u b::zs,A=>
     have c1:=mO h _ (A (.mk w s a x u b) (by simp)) 1;simp only[TR.bind];rw[bC];revert c1;cases ch (S.c.te S.fs) (.mk w s a x u b) [1]with
     |out=>exact fun _=>trivial
     |bad q r=>exact fun c1=>JA h k o nm n p w s a x u b zs h2 f g q r c c1
     |ok t=>
      intro c1;simp only[TR.bind,xP,er];exact Jz h k o nm n p w s a x u b zs h2 f g t c c1
  |false=>cases y:(k==7)with
  |true=>
   simp only[xW,xP];have c:=MW h nm p;revert c;cases nG (S.c.te S.fs) nm p with
   |out=>exact fun _=>trivial
   |bad q r=>exact fun c=>Jy h k o nm n p xs h2 f g y q r c
   |ok _=>exact fun c=>Nf h k o nm n p xs h2 f g y c
  |false=>cases z:(k==5)with
  |true=>
   simp only[xW,xP];have c:=QI h k o nm n p xs A;show TX S _ _ _ (Gb (S.c.te S.fs) nm p xs);revert c;cases Gb (S.c.te S.fs) nm p xs with
   |out=>exact fun _=>trivial
   |bad q r=>exact fun c=>JC h k o nm n p xs h2 f g y z q r c
   |ok t=>exact fun c=>JB h k o nm n p xs h2 f g y z t c
  |false=>cases B:(k==8)with
  |true=>
   simp only[xW,xP];match xs,A with
   |[],_=>cases (o==21)<;>exact trivial
   | .mk w s a x u b::zs,A=>
    cases D:(o==21)with
    |true=>
     have c1:=mO h _ (A (.mk w s a x u b) (by simp)) 2;simp only[xW];rw[bC];revert c1;cases hw:ch (S.c.te S.fs) (.mk w s a x u b) [2]with
     |out=>exact fun _=>trivial
     |bad q r=>exact fun c1=>En h k o nm n p w s a x u b zs h2 f g y z B D q r c1
     |ok t=>
      intro c1;have C:=vo hw;simp at C;obtain rfl:t=2:=by first|exact C|exact C.symm
      simp only[TR.bind,xP,er];exact Em h k o nm n p w s a x u b zs h2 f g y z B D 2 c1
    |false=>
     have c1:=mO h _ (A (.mk w s a x u b) (by simp)) 1;simp only[xP];rw[bC];revert c1;cases hw:ch (S.c.te S.fs) (.mk w s a x u b) [1]with
     |out=>exact fun _=>trivial
     |bad q r=>exact fun c1=>BT h k o nm n p w s a x u b zs h2 f g y z B D q r c1
     |ok t=>
      intro c1;have C:=vo hw;simp at C;obtain rfl:t=1:=by first|exact C|exact C.symm
      simp only[TR.bind,xP,er];exact BS h k o nm n p w s a x u b zs h2 f g y z B D 1 c1
  |false=>cases E:(k==9)with
  |true=>
   simp only[xW,xP];have c:=QD h k o nm n p xs A;show TX S _ _ _ (CZ (S.c.te S.fs) o xs);revert c;cases CZ (S.c.te S.fs) o xs with
   |out=>exact fun _=>trivial
   |bad q r=>exact fun c=>JE h k o nm n p xs h2 f g y z B E q r c
   |ok t=>exact fun c=>JD h k o nm n p xs h2 f g y z B E t c
  |false=>exact QJ h k o nm n p xs h2 f g y z B E
theorem TP{S:CK}(h:CKok S)(e:Ex):TX S 112 [aI, .d (fd e)] (fun t=>[gg t]) (dc (S.c.te S.fs) e):=LE h _ e (xL _)
theorem Ng{S:CK}(h:CKok S)(e:Ex)(a:Int):WX S e [a]:=mO h e (TP h e) a
theorem XE{S:CK}(h:CKok S)(e:Ex)(a b:Int):WX S e [a,b]:=F8 h e (TP h e) a b
end Go.Avm
namespace Go.Avm
open Go.Proofs
abbrev eG(k id:Int)(nm:List UInt8)(ty n p:Int)(es:List Ex)(bd a:List aP):AV:= .d (mn (.mk k id nm ty n p es bd a))
abbrev mr(s:aP):Prop:=HC 75 [.d (mn s)] [] [.bool (eQ s)] []
abbrev ms(l:List aP):Prop:=HC 50 [.d (.ro (cg l))] [] [.bool (bT l)] []
section
variable(k id:Int)(nm:List UInt8)(ty n p:Int)(es:List Ex)(bd a:List aP)
theorem Xb(h:(k==6)=true):HC 75 [eG k id nm ty n p es bd a] [] [.bool true] []:=
 qN {hint:=qT 75 [(5,qB h)]} 1000
theorem Xc(h:(k==6)=false)(b:(k==4)=false):HC 75 [eG k id nm ty n p es bd a] [] [.bool false] []:=
 qN {hint:=qT 75 [(5,qB h),(9,qB b)]} 1000
theorem Xd(h:(k==6)=false)(b:(k==4)=true)(c:HC 50 [.d (.ro (cg bd))] [] [.bool false] []):HC 75 [eG k id nm ty n p es bd a] [] [.bool false] []:=
 qN {hint:=qT 75 [(5,qB h),(9,qB b)],calls:=tC [(75,13,1252,be rfl c)]} 1000
theorem Xe(h:(k==6)=false)(e:(k==4)=true)(b:Bool)(c:HC 50 [.d (.ro (cg bd))] [] [.bool true] [])(f:HC 50 [.d (.ro (cg a))] [] [.bool b] []):HC 75 [eG k id nm ty n p es bd a] [] [.bool b] []:=
 qN {hint:=qT 75 [(5,qB h),(9,qB e)],calls:=tC [(75,13,1252,be rfl c),(75,18,1336,be rfl f)]} 1000
end
def Uk(P:Program)(m:Nat)(a:0<m)(h:m<1000000):bX P:= .val (dI (IntKind.i64.wrap ((m:Int)-1))) (dI ((m-1:Nat):Int)) (by
 congr 2;rw[IntWalk.i64_in _ (by omega)];omega)
def Nh(P:Program)(l:List aP)(k id:Int)(nm:List UInt8)(ty n p:Int)(es:List Ex)(bd a:List aP)(b:l[l.length-1]? =some (.mk k id nm ty n p es bd a)):bX P:= .idx (cg l) (((cg l).length-1:Nat):Int) (mn (.mk k id nm ty n p es bd a)) (by omega) (by
 rw[xb,fT,jW,xN,b];rfl)
theorem QK:HC 50 [.d (.ro (cg []))] [] [.bool false] []:=
 qN {} 1000
theorem Ni(l:List aP)(k id:Int)(nm:List UInt8)(ty n p:Int)(es:List Ex)(bd a:List aP)(b:Bool)(f:decide ((0:Int)<((cg l).length:Int))=true)(e:(cg l).length<1000000)(g:l[l.length-1]? =some (.mk k id nm ty n p es bd a))
    (c:HC 75 [eG k id nm ty n p es bd a] [] [.bool b] []):HC 50 [.d (.ro (cg l))] [] [.bool b] []:=
 qN {hint:=qT 50 [(5,qB f),(10,Uk Pg (cg l).length (by have:=xe f;omega) e),(11,Nh Pg l k id nm ty n p es bd a g)],calls:=tC [(50,13,1165,be rfl c)]} 1000
theorem rO:∀(l:List aP)(s:aP),l[l.length-1]? =some s→bT l=eQ s
 |[],_,h=>by cases h
 |[a],s,h=>by
  simp at h;subst h;rfl
 |a::b::r,s,h=>by
  have:=rO (b::r) s (by simpa using h);exact this
def iZ:Nat→List aP→Prop
 |0,_=>False
 |m+1,l=>l.length<1000000∧∀s∈l,match s with| .mk _ _ _ _ _ _ _ bd a=>iZ m bd∧iZ m a
theorem rQ:∀(m:Nat)(l:List aP),iZ m l→ms l
 |0,_,h=>h.elim
 |m+1,l,h=>by
  by_cases j:l=[]
  ·subst j
   exact QK
  ·have b:0<l.length:=List.length_pos_iff.2 j
   have d:l[l.length-1]? =some (l[l.length-1]'(by omega)):=xD _;generalize l[l.length-1]'(by omega)=s at d;obtain⟨k,id,nm,ty,n,p,es,bd,a⟩:=s;have o:=h.2 _ (xX d);have e:=rO l _ d
   have g:mr (.mk k id nm ty n p es bd a):=by
    unfold mr eQ;cases f:(k==6)with
    |true=>exact Xb k id nm ty n p es bd a f
    |false=>cases i:(k==4)with
     |false=>exact Xc k id nm ty n p es bd a f i
     |true=>
      have c:=rQ m bd o.1;revert c;unfold ms;cases bT bd with
      |false=>exact fun c=>Xd k id nm ty n p es bd a f i c
      |true=>exact fun c=>Xe k id nm ty n p es bd a f i (bT a) c (rQ m a o.2)
   unfold ms;rw[e];exact Ni l k id nm ty n p es bd a _ (by simpa [fT]using b) (by rw[fT];exact h.1) d g
theorem LF{m:Nat}{k id:Int}{nm:List UInt8}{ty n p:Int}{es:List Ex}{bd a:List aP}(f:iZ m bd)(e:iZ m a):mr (.mk k id nm ty n p es bd a):=by
 unfold mr eQ;cases b:(k==6)with
 |true=>exact Xb k id nm ty n p es bd a b
 |false=>cases d:(k==4)with
  |false=>exact Xc k id nm ty n p es bd a b d
  |true=>
   have c:=rQ m bd f;revert c;unfold ms;cases bT bd with
   |false=>exact fun c=>Xd k id nm ty n p es bd a b d c
   |true=>exact fun c=>Xe k id nm ty n p es bd a b d (bT a) c (rQ m a e)
end Go.Avm
namespace Go.Avm
open Go.Proofs
theorem tW:∀{l:eL}{i:Nat}{e:D×D×Nat},e∈cA i l→∃p∈l,e.1= .str p.1∧e.2.1= .int .i64 (p.2:Int)∧i≤e.2.2∧e.2.2<i+l.length
 |[],_,_,h=>by cases h
 |p::r,i,e,h=>by
  simp only[cA,x0]at h;rcases h with rfl|h
  ·exact⟨p,by simp,rfl,rfl,xL _,by simp⟩
  ·obtain⟨q,a,b,h2,d,c⟩:=tW h
   exact⟨q,by simp[a],b,h2,by omega,by simp only[xG];omega⟩
theorem rR:∀(l:eL)(i:Nat),(cA i l).map (·.1)=l.map fun p=>D.str p.1
 |[],_=>rfl
 |p::r,i=>by simp only[cA,xH,rR r (i+1)]
theorem rS:∀(l:eL)(i:Nat),(cA i l).map (·.2.2)=List.range' i l.length
 |[],_=>rfl
 |p::r,i=>by simp only[cA,xH,rS r (i+1),xG,zI]
theorem oN:∀(l:eL)(i:Nat),(cA i l).length=l.length
 |[],_=>rfl
 |p::r,i=>by simp only[cA,xG,oN r (i+1)]
theorem rT:∀(l:eL)(i:Nat),nI (cA i l)=(l.map (·.2)).map fun n:Nat=>(n:Int)
 |[],_=>rfl
 |p::r,i=>by
  show(p.2:Int)::nI (cA (i+1) r)=_;rw[rT r (i+1)];rfl
theorem Eo{zs:List Int}(h:zs.Pairwise (· < ·)):lf zs=zs:=by
 unfold lf;refine List.mergeSort_of_pairwise (h.imp fun {a b} c=> ?_);simp only[xw];omega
theorem zt{S:CK}(h:CKok S):FT (cA 0 S.c.seen) S.c.seen.length:=by
 refine⟨fun e g=> ?_, ?_, ?_, ?_⟩
 ·obtain⟨p,hp,f,h2,_,j⟩:=tW g
  have k:=h.nml p hp;have m:=h.seen p hp;have l:=h.vars;exact⟨p.1,p.2,f,h2,by unfold maxLen;omega,by omega,by omega⟩
 ·rw[rR]
  have:=h.nms;rw[yq,List.pairwise_map]at this ⊢;exact this.imp fun {a b} d e=>d (by simpa using e)
 ·rw[rS]
  exact List.nodup_range'
 ·rw[oN]
  have f:=List.Nodup.length_le_of_subset (l₁:=S.c.seen.map (·.2)) (l₂:=List.range 255) ((yq.2 (h.inc.imp fun {a b} d=>by omega))) (fun x i=>by
   obtain⟨p,hp,rfl⟩:=x9.1 i;have:=h.seen p hp;have:=h.vars;simp;omega)
  simp at f;omega
abbrev Nj(S:CK)(kb:Nat):List (Nat×aE):=[(kb,⟨1,some (.arr 1 [.mp 500003 S.vs])⟩),(500003,⟨S.vs,some (.map (cA 0 S.c.seen) S.c.seen.length)⟩)]
theorem Gc{S:CK}(h:CKok S)(kb:Nat)(i:kb≠500003)(f:aa):am Pg 132 [.fn 157 [.ptr kb 1 0 0 1]] (ae (Nj S kb) f) ([.ro (bN (S.c.seen.map (·.2)))].map .d) (ae (Nj S kb) f):=by
 have g:=Jr (h:=ae (Nj S kb) f) (kb:=kb) (vb:=1) (k:=500003) (v:=S.vs) (by simp[ae,aG]) (by simp[ae,aG,Ne.symm i]) (zt h)
 have e:(lf (nI (cA 0 S.c.seen))).map (D.int .i64)=bN (S.c.seen.map (·.2)):=by
  rw[rT,Eo]
  ·simp[bN]
  ·rw[List.pairwise_map]
   exact h.inc.imp fun {a b} j=>by omega
 rw[e]at g;exact g
theorem gG{S S':CK}(h:CKok S)(h':CKok S'){a b:List (Nat×aE)}{ar:List AV}(i:(((ck S ++a).map (·.1)).all fun k=>Nat.blt k 1000000)=true)(g:b.map (·.1)=a.map (·.1))(e:([499904,500002,500003,500004,500005,500382,500191].map (dm ((ck S ++a).map (·.1)) 1000000))=[499904,500002,500003,500004,500005,500382,500191])
    (l:bk (dm ((ck S ++a).map (·.1)) 1000000) ar=ar) (j:(a.map fun p:Nat×aE=>aY (dm ((ck S ++a).map (·.1)) 1000000) p.2)=a.map (·.2)) (c:(b.map fun p:Nat×aE=>aY (dm ((ck S ++a).map (·.1)) 1000000) p.2)=b.map (·.2)):
    Cln ((ck S ++a).map (·.1)) 1000000 ar (ck S ++a) (ck S' ++b):=
 ⟨i,rfl,by rw[xF,xF,g];rfl,l,by
  have d:=fW h e;rw[xF,xF (f:=fun p:Nat×aE=>p.2),d,j],by
  have d:=fW h' e;rw[xF,xF (f:=fun p:Nat×aE=>p.2),d,c]⟩
abbrev JF(S:CK)(i:Nat):List (Nat×AV):=[(0,aI),(2, .ptr 1562 1 0 0 1),(3, .ptr 2003 1 0 0 1),(20, .d (.ro (bN (S.c.seen.map (·.2))))),(21,dN (bN (S.c.seen.map (·.2))).length),(22,dN i)]
abbrev C0(S:CK)(v:Nat)(q:List D):List (Nat×aE):=ck S ++[(2003,⟨1,some (.arr 1 [dN S.fn, .d (.ro (bN (S.c.seen.map (·.2)))), .vec 2038 v 1 q])⟩),(2038,⟨v,none⟩),(1562,⟨1,some (.arr 1 [dI 0, .nils, .nils])⟩)]
section
variable{S:CK}(h:CKok S)(v i:Nat)(q:List D)
include h
theorem QL(a:decide (i<(bN (S.c.seen.map (·.2))).length)=false):RE 44 (lO 103 3) (JF S i) (C0 S v q) (.exit 0) [(2, .ptr 1562 1 0 0 1),(3, .ptr 2003 1 0 0 1)] (C0 S v q):=
 qE {hint:=qT 103 [(23,dk Pg i (bN (S.c.seen.map (·.2))).length false a)]} 103 2000 (gG h h rfl rfl rfl rfl rfl rfl)
theorem Ul(x:Nat)(b:(S.c.seen.map (·.2))[i]? =some x)(a:decide (i<(bN (S.c.seen.map (·.2))).length)=true)(e:(bN (S.c.seen.map (·.2))).length<1000000)(d:bQ x S.c.sure.l 0=none):RE 44 (lO 103 3) (JF S i) (C0 S v q) .normal (JF S (i+1)) (C0 S v q):=
 qE {hint:=qT 103 [(23,dk Pg i (bN (S.c.seen.map (·.2))).length true a),(24, .idx (bN (S.c.seen.map (·.2))) ((i:Nat):Int) (.int .i64 (x:Int)) (by omega) (by rw[bN,xN,xb,b];rfl)),(32,li Pg x S.c.sure.l none d),(42,bj Pg i (by have:=xe a;omega))]} 103 2000 (gG h h rfl rfl rfl rfl rfl rfl)
theorem Um(x j:Nat)(b:(S.c.seen.map (·.2))[i]? =some x)(a:decide (i<(bN (S.c.seen.map (·.2))).length)=true)(f:(bN (S.c.seen.map (·.2))).length<1000000)(e:q.length<1000000)(d:bQ x S.c.sure.l 0=some j):RE 44 (lO 103 3) (JF S i) (C0 S v q) .normal (JF S (i+1)) (C0 S (v+1) (q ++[.int .i64 (x:Int)])):=
 qE {hint:=qT 103 [(23,dk Pg i (bN (S.c.seen.map (·.2))).length true a),(24, .idx (bN (S.c.seen.map (·.2))) ((i:Nat):Int) (.int .i64 (x:Int)) (by omega) (by rw[bN,xN,xb,b];rfl)),(32,li Pg x S.c.sure.l (some j) d),(40, .app q 1 (by omega)),(42,bj Pg i (by have:=xe a;omega))]} 103 2000 (gG h h rfl rfl rfl rfl rfl rfl)
end
theorem Gd{S:CK}(h:CKok S):∀(m i v:Nat)(q:List Nat),(S.c.seen.map (·.2)).length-i=m→i≤(S.c.seen.map (·.2)).length→q.length≤i→∃v',RL 44 (lO 103 3) (JF S i) (C0 S v (bN q)) (.exit 0) [(2, .ptr 1562 1 0 0 1),(3, .ptr 2003 1 0 0 1)] (C0 S v' (bN (q ++((S.c.seen.map (·.2)).drop i).filter S.c.sure.has)))
 |0,i,v,q,hm,z,B=>by
  have w:i=(S.c.seen.map (·.2)).length:=by omega
  subst w;refine⟨v,fun d X g k=> ?_⟩;rw[zK,List.filter_nil,yC];exact aA (QL h v _ _ (by simp[bN]) d X g k) (by simp)
 |m+1,i,v,q,hm,z,B=>by
  have f:i<(S.c.seen.map (·.2)).length:=by omega
  have s:(S.c.seen.map (·.2)).length<1000000:=by
   have:=(zt h).len;rw[oN]at this;have h2:(S.c.seen.map (·.2)).length=S.c.seen.length:=xO _;have D:=h.vars
   have A:=List.Nodup.length_le_of_subset (l₁:=S.c.seen.map (·.2)) (l₂:=List.range 255) ((yq.2 (h.inc.imp fun {a b} C=>by omega))) (fun x n=>by
    obtain⟨p,hp,rfl⟩:=x9.1 n;have:=h.seen p hp;simp;omega)
   rw[List.length_range]at A;omega
  have n:(S.c.seen.map (·.2))[i]? =some (S.c.seen.map (·.2))[i]:=xD f;rw[xZ f];generalize (S.c.seen.map (·.2))[i]=x at n
  have r:decide (i<(bN (S.c.seen.map (·.2))).length)=true:=by
   have:(bN (S.c.seen.map (·.2))).length=(S.c.seen.map (·.2)).length:=xO _;rw[this];simpa using f
  have o:(bN (S.c.seen.map (·.2))).length<1000000:=by
   have:(bN (S.c.seen.map (·.2))).length=(S.c.seen.map (·.2)).length:=xO _;rw[this];exact s
  cases t:bQ x S.c.sure.l 0 with
  |none=>
   obtain⟨v',u⟩:=Gd h m (i+1) v q (by omega) f (by omega);have y:S.c.sure.has x=false:=by unfold SureL.has;rw[t];rfl
   rw[List.filter_cons,y];exact⟨v',fun d X g k=>au (Ul h v i (bN q) x n r o t d X g k) (u d X g k)⟩
  |some j=>
   obtain⟨v',u⟩:=Gd h m (i+1) (v+1) (q ++[x]) (by omega) f (by simp;omega);have y:S.c.sure.has x=true:=by unfold SureL.has;rw[t];rfl
   rw[List.filter_cons,y];refine⟨v',fun d X g k=>au (Um h v i (bN q) x j n r o (by simp[bN];omega) t d X g k) ?_⟩;have:=u d X g k;rw[xa]at this;have e:bN (q ++[x])=bN q ++[.int .i64 (x:Int)]:=by simp[bN]
   rw[e]at this;exact this
theorem QM(v:Nat):∀a:aa,am Pg 133 [.mp 500003 v] (ae [(1941,⟨0,none⟩)] a) [.fn 157 [.ptr 1941 1 0 0 1]] (ae [(1941,⟨1,some (.arr 1 [.mp 500003 v])⟩)] a):=fun a=>
 al b9 named {} 2000 1940 _ (by kernel_rfl)
noncomputable def Un{S:CK}{q:List D}{v':Nat}(h:RL 44 (lO 103 3) (JF S 0) (C0 S 0 []) (.exit 0) [(2, .ptr 1562 1 0 0 1),(3, .ptr 2003 1 0 0 1)] (C0 S v' q)):dJ Pg:=
 ⟨44,aJ Pg 103 3,JF S 0,fun _=>C0 S 0 [], .exit 0,[(2, .ptr 1562 1 0 0 1),(3, .ptr 2003 1 0 0 1)],fun _=>C0 S v' q,fun a X b c=>(h a X b c).aw⟩
theorem Ge{S:CK}(h:CKok S)(q:List D)(v':Nat)(a:RL 44 (lO 103 3) (JF S 0) (C0 S 0 []) (.exit 0) [(2, .ptr 1562 1 0 0 1),(3, .ptr 2003 1 0 0 1)] (C0 S v' q)):
    HC 103 [aI] (ck S) [.agg [.int .i64 (S.fn:Int), .ro (bN (S.c.seen.map (·.2))), .ro q]] (ck S):=
 qN {loops:=fun f q=>if f=103 then (if q=3 then some (Un a)else none)else none,nils:=fun f r=>if f=103 then (if r=2 then some {k:=2003,i:=2,K:=2038,sz:=1}else none)else none,calls:=tC [(103,16,1956,ad (QM S.vs)),(103,17,1956,be rfl (Gc h 1941 (by omega)))]} 1560 (az h h rfl)
theorem Nk{S:CK}(h:CKok S):HC 103 [aI] (ck S) [I3 (S.c.pt S.fn)] (ck S):=by
 obtain⟨v',a⟩:=Gd h _ 0 0 [] rfl (xz _) (xz _);rw[xn,yG]at a;exact Ge h _ v' a
end Go.Avm
namespace Go.Avm
open Go.Proofs
theorem zu:∀(l:List Vr)(i:Nat)(v:Vr),gE i (l ++[v])=gE i l ++[(.str v.nm, .agg [],i+l.length)]
 |[],_,_=>rfl
 |a::r,i,v=>by
  simp only[xk,gE,zu r (i+1) v,xG];rw[show i+1+r.length=i+(r.length+1) by omega]
theorem tX:∀(l:eL)(i:Nat)(p:List UInt8×Nat),cA i (l ++[p])=cA i l ++[(.str p.1, .int .i64 (p.2:Int),i+l.length)]
 |[],_,_=>rfl
 |a::r,i,p=>by
  simp only[xk,cA,tX r (i+1) p,xG];rw[show i+1+r.length=i+(r.length+1) by omega]
abbrev Nl(S:CK)(nm:List UInt8)(ty n a:Int):List (Nat×aE):=
 [(500000,⟨1,some (.arr 1 (CX S))⟩),(499904,⟨1,some (.map (kq 0 S.fs) S.fs.length)⟩),(500002,⟨S.vh,some (.map (gE 0 S.c.vars ++[(.str nm, .agg [],S.c.vars.length)]) (S.c.vars.length+1))⟩),(500003,⟨S.vs,some (.map (cA 0 S.c.seen ++[(.str nm, .int .i64 (S.c.vars.length:Int),S.c.seen.length)]) (S.c.seen.length+1))⟩),
  (500004,⟨S.vq,some (.map (a6 S.c.sure.l) S.c.sure.c)⟩),(500005,⟨S.vv+1,some (.arr 4 ((S.c.vars.map oh).take S.c.vars.length ++[.d (.agg [.str nm, .int .u8 ty, .int .i64 n, .int .i64 a])]))⟩),(500382,⟨S.vp,some (.arr 3 (S.c.pts.map bU))⟩),(500191,⟨1,some (.arr 1 ((S.W.set S.fn (fF S.vv S.c.vars)).set (0+(S.fn:Int).toNat) (.sl 500005 (S.vv+1) 0 (S.c.vars.length+1) 4)))⟩)]
def CK.add(S:CK)(v:Vr):CK:={S with c:=S.c.add v,vv:=S.vv+1}
theorem C1(S:CK)(nm:List UInt8)(ty n a:Int):Nl S nm ty n a=ck (S.add ⟨nm,ty,n,a⟩):=by
 have b:(S.c.vars.map oh).take S.c.vars.length=S.c.vars.map oh:=yB (by simp);simp only[Nl,ck,CX,CK.add,CS.add,b,zu,tX,xK,xG,xS,xF,xH,xY,x8,xb,List.set_set,fF];rfl
theorem rU{S:CK}(h:CKok S):∀a:aa,am Pg 73 [aI] (ae (ck S) a) [fF S.vv S.c.vars] (ae (ck S) a):=fun a=>
 al b9 named {hint:=qT 73 [(12,Ud Pg h),(13,MQ Pg h)]} 2000 1000 _ (by kernel_rfl)
theorem Nm{S:CK}(h:CKok S)(nm:List UInt8)(ty n a:Int)(e:(S.c.vars.any fun v=>v.nm==nm)=false)(b:ct nm S.c.seen 0=none)(h':CKok (S.add ⟨nm,ty,n,a⟩)):
    HC 48 [aI, .d (.agg [.str nm, .int .u8 ty, .int .i64 n, .int .i64 a])] (ck S) [.int .i64 (S.c.vars.length:Int)] (Nl S nm ty n a):=
 qN {hint:=qT 48 [(22, .apps (S.c.vars.map oh) S.c.vars.length 1 ⟨by simp,by have:=h.vars;omega⟩),(23,Ud Pg h),(102015,MQ Pg h),(103007, .look (.str nm) (gE 0 S.c.vars) none (fa nm _ 0 0 e)),(104007,F5 Pg nm S.c.seen none b)],calls:=tC [(48,7,1117,be rfl (rU h)),(48,19,1585,be rfl (rU h))]} 1000 (C1 S nm ty n a▸az h h' rfl)
end Go.Avm
namespace Go.Avm
open Go.Proofs
theorem JG{S:CK}(h:CKok S)(nm:List UInt8)(ty n a:Int)(e:(S.c.vars.any fun v=>v.nm==nm)=false)(b:ct nm S.c.seen 0=none)(h':CKok (S.add ⟨nm,ty,n,a⟩)):
    HC 48 [aI, .d (.agg [.str nm, .int .u8 ty, .int .i64 n, .int .i64 a])] (ck S) [.int .i64 (S.c.vars.length:Int)] (ck (S.add ⟨nm,ty,n,a⟩)):=by
 rw[←C1];exact Nm h nm ty n a e b h'
abbrev JH(S:CK)(b:List (D×D×Nat))(a:Nat):List (Nat×aE):=
 [(500000,⟨1,some (.arr 1 (CX S))⟩),(499904,⟨1,some (.map (kq 0 S.fs) S.fs.length)⟩),(500002,⟨S.vh,some (.map (gE 0 S.c.vars) S.c.vars.length)⟩),(500003,⟨S.vs,some (.map (cA 0 S.c.seen) S.c.seen.length)⟩),
  (500004,⟨S.vq,some (.map b a)⟩),(500005,⟨S.vv,some (.arr 4 (S.c.vars.map oh))⟩),(500382,⟨S.vp,some (.arr 3 (S.c.pts.map bU))⟩),(500191,⟨1,some (.arr 1 (S.W.set S.fn (fF S.vv S.c.vars)))⟩)]
def CK.put(S:CK)(i:Nat):CK:={S with c:={S.c with sure:=S.c.sure.put i}}
theorem vr{S:CK}{i:Nat}(a:bQ i S.c.sure.l 0=none):JH S (a6 S.c.sure.l ++[(.int .i64 (i:Int), .agg [],S.c.sure.c)]) (S.c.sure.c+1)=ck (S.put i):=by
 have e:S.c.sure.put i=⟨S.c.sure.l ++[(i,S.c.sure.c)],S.c.sure.c+1⟩:=by
  unfold SureL.put SureL.has;rw[a];rfl
 simp only[JH,ck,CX,CK.put,e,a6,xF,xH,xY]
theorem QN{S S':CK}(h:CKok S)(h':CKok S'){ar:List AV}(g:List (D×D×Nat))(c:Nat)(j:bk (dm ((ck S).map (·.1)) 1000000) ar=ar):Cln ((ck S).map (·.1)) 1000000 ar (ck S) (JH S' g c):=
 ⟨rfl,rfl,rfl,j,fW h rfl,by
  have a:=fW h' (ρ:=dm ((ck S).map (·.1)) 1000000) rfl;simp only[ck,xH,xY,List.cons.injEq,zB]at a;obtain⟨b,e,d,i,m,f,k,l⟩:=a;simp only[JH,xH,xY,b,e,d,i,f,k,l];rfl⟩
abbrev XF(k id:Int)(nm:List UInt8)(ty n p:Int)(es:List Ex)(bd a:List aP):List AV:=[Ju k,dI id, .d (.str nm),Ju ty,dI n,dI p, .d (.ro (fJ es)), .d (.ro (cg bd)), .d (.ro (cg a))]
abbrev Ep(k id:Int)(nm:List UInt8)(ty n p:Int)(es:List Ex)(bd a:List aP):Nat×aE:=(2003,⟨1,some (.arr 1 (XF k id nm ty n p es bd a))⟩)
abbrev I6(es:List Ex)(i:Nat):List (Nat×AV):=[(0,aI),(3, .ptr 2003 1 0 0 1),(11, .d (.ro (fJ es))),(12,dN (fJ es).length),(13,dN i)]
section
variable{S:CK}(h:CKok S)(k id:Int)(nm:List UInt8)(ty n p:Int)(es:List Ex)(bd a:List aP)(i:Nat)
include h
theorem QO(b:decide (i<(fJ es).length)=false):RE 100 (lO 104 2) (I6 es i) (ck S ++[Ep k id nm ty n p es bd a]) (.exit 0) [(0,aI),(3, .ptr 2003 1 0 0 1)] (ck S ++[Ep k id nm ty n p es bd a]):=
 qE {hint:=qT 104 [(14,dk Pg i (fJ es).length false b)]} 104 2000 (gG h h rfl rfl rfl rfl rfl rfl)
theorem QP(l:decide (i<(fJ es).length)=true)(o:(fJ es).length<1000000)(j e:Int)(b:List UInt8)(g f:Int)(d:List Ex)(m:es[i]? =some (.mk j e b g f d))(t:Int)(c:lW S (.mk j e b g f d) [ty] t):
    RE 100 (lO 104 2) (I6 es i) (ck S ++[Ep k id nm ty n p es bd a]) .normal (I6 es (i+1)) (ck S ++[Ep k id nm ty n p es bd a]):=
 qE {hint:=qT 104 [(14,dk Pg i (fJ es).length true l),(15, .idx (fJ es) ((i:Nat):Int) (fd (.mk j e b g f d)) (by omega) (by simp[jV,m])),(23,bj Pg i (by have:=xe l;omega))],calls:=tC [(104,22,3000,be rfl (wO c 2921))]} 104 2000 (gG h h rfl rfl rfl rfl rfl rfl)
theorem QQ(l:decide (i<(fJ es).length)=true)(j e:Int)(b:List UInt8)(g f:Int)(d:List Ex)(m:es[i]? =some (.mk j e b g f d))(u r:Int)(c:iI S (.mk j e b g f d) [ty] u r):
    RE 100 (lO 104 2) (I6 es i) (ck S ++[Ep k id nm ty n p es bd a]) (.panic (aD u r)) [] (ck S ++[(2003,⟨1,none⟩)]):=
 qE {hint:=qT 104 [(14,dk Pg i (fJ es).length true l),(15, .idx (fJ es) ((i:Nat):Int) (fd (.mk j e b g f d)) (by omega) (by simp[jV,m]))],pans:=an Pg [(104,4,2500,⟨5,some (bg (wP c 2921)),[]⟩)]} 104 2000 (gG h h rfl rfl rfl rfl rfl rfl)
end
def Uo(S:CK)(k id:Int)(nm:List UInt8)(ty n p:Int)(es:List Ex)(bd a:List aP)(i:Nat):TR Unit→Prop
 | .ok _=>RL 100 (lO 104 2) (I6 es i) (ck S ++[Ep k id nm ty n p es bd a]) (.exit 0) [(0,aI),(3, .ptr 2003 1 0 0 1)] (ck S ++[Ep k id nm ty n p es bd a])
 | .bad u r=>RL 100 (lO 104 2) (I6 es i) (ck S ++[Ep k id nm ty n p es bd a]) (.panic (aD u r)) [] (ck S ++[(2003,⟨1,none⟩)])
 | .out=>True
theorem LG{S:CK}(h:CKok S)(k id:Int)(nm:List UInt8)(ty n p:Int)(es:List Ex)(bd l:List aP)(z:es.length<1000000):
    ∀(m i:Nat),es.length-i=m→i≤es.length→Uo S k id nm ty n p es bd l i (ay (S.c.te S.fs) (es.drop i) ((es.drop i).map fun _=>[ty]) false)
 |0,i,hm,A=>by
  have y:i=es.length:=by omega
  subst y;rw[zK];exact fun a X d g=>aA (QO h k id nm ty n p es bd l es.length (by simp[cC]) a X d g) (by simp)
 |m+1,i,hm,A=>by
  have b:i<es.length:=by omega
  have x:es[i]? =some es[i]:=xD b;rw[xZ b];generalize es[i]=e at x;have c:=Ng h e ty;obtain⟨v,q,f,w,s,j⟩:=e;rw[xH,bC];revert c;unfold WX;cases ch (S.c.te S.fs) (.mk v q f w s j) [ty]with
  |out=>exact fun _=>trivial
  |bad u r=>exact fun c a X d g=>aA (QQ h k id nm ty n p es bd l i (by simpa [cC]using b) v q f w s j x u r c a X d g) (by simp)
  |ok t=>
   intro c;have o:=LG h k id nm ty n p es bd l z m (i+1) (by omega) b;simp only[TR.bind,xP];revert o;cases ay (S.c.te S.fs) (es.drop (i+1)) ((es.drop (i+1)).map fun _=>[ty]) false with
   |out=>exact fun _=>trivial
   |bad u r=>exact fun o a X d g=>au (QP h k id nm ty n p es bd l i (by simpa [cC]using b) (by rw[cC];exact z) v q f w s j x t c a X d g) (o a X d g)
   |ok _=>exact fun o a X d g=>au (QP h k id nm ty n p es bd l i (by simpa [cC]using b) (by rw[cC];exact z) v q f w s j x t c a X d g) (o a X d g)
noncomputable def th{S:CK}{k id:Int}{nm:List UInt8}{ty n p:Int}{es:List Ex}{bd c:List aP}{x:aB}{l':List (Nat×AV)}{b:List (Nat×aE)}(h:RL 100 (lO 104 2) (I6 es 0) (ck S ++[Ep k id nm ty n p es bd c]) x l' b):dJ Pg:=
 ⟨100,aJ Pg 104 2,I6 es 0,fun _=>ck S ++[Ep k id nm ty n p es bd c],x,l',fun _=>b,fun a X d e=>(h a X d e).aw⟩
abbrev Nn(S:CK)(k id:Int)(nm:List UInt8)(ty n p:Int)(es:List Ex)(bd a:List aP):Prop:=RL 100 (lO 104 2) (I6 es 0) (ck S ++[Ep k id nm ty n p es bd a]) (.exit 0) [(0,aI),(3, .ptr 2003 1 0 0 1)] (ck S ++[Ep k id nm ty n p es bd a])
section
variable{S:CK}(h:CKok S)(k id:Int)(nm:List UInt8)(ty n p:Int)(es:List Ex)(bd a:List aP)
include h
section
variable(b:Nn S k id nm ty n p es bd a)
include b
theorem Gf(q:Nat)(d:cj (.str nm) (gE 0 S.c.vars) 0=some (some (q, .agg []))):
    HX 104 [aI,eG k id nm ty n p es bd a] (ck S) (aD p 7) (ck S):=
 qX {loops:=fun f q=>if f=104 then (if q=2 then some (th b)else none)else none,hint:=qT 104 [(31, .look (.str nm) (gE 0 S.c.vars) (some (q, .agg [])) d)],pans:=an Pg [(104,7,3800,⟨4,some (bg (cd p 7)),[]⟩)]} 2000 (az h h rfl)
theorem JI(e:(S.c.vars.any fun v=>v.nm==nm)=false)(g:(ty==3)=true)(d:(S.deep==0)=false):
    HX 104 [aI,eG k id nm ty n p es bd a] (ck S) (aD p 3) (ck S):=
 qX {loops:=fun f q=>if f=104 then (if q=2 then some (th b)else none)else none,hint:=qT 104 [(31, .look (.str nm) (gE 0 S.c.vars) none (fa nm _ 0 0 e)),(41,qB g),(49,qB d)],calls:=tC [(104,38,4200,be rfl (aU p 7))],pans:=an Pg [(104,9,4600,⟨11,some (bg (cd p 3)),[]⟩)]} 2000 (az h h rfl)
theorem No(e:(S.c.vars.any fun v=>v.nm==nm)=false)(g:(ty==3)=true)(d:(S.deep==0)=true)(i:decide (1≤n)=false):
    HX 104 [aI,eG k id nm ty n p es bd a] (ck S) (aD p 1) (ck S):=
 qX {loops:=fun f q=>if f=104 then (if q=2 then some (th b)else none)else none,hint:=qT 104 [(31, .look (.str nm) (gE 0 S.c.vars) none (fa nm _ 0 0 e)),(41,qB g),(49,qB d),(59,qB i)],calls:=tC [(104,38,4200,be rfl (aU p 7)),(104,53,5700,be rfl (aU p 3))],pans:=an Pg [(104,10,5700,⟨14,some (bg (cd p 1)),[]⟩)]} 2000 (az h h rfl)
theorem JJ(e:(S.c.vars.any fun v=>v.nm==nm)=false)(g:(ty==3)=true)(d:(S.deep==0)=true)(i:decide (1≤n)=true)(h2:decide (n≤256)=false):
    HX 104 [aI,eG k id nm ty n p es bd a] (ck S) (aD p 1) (ck S):=
 qX {loops:=fun f q=>if f=104 then (if q=2 then some (th b)else none)else none,hint:=qT 104 [(31, .look (.str nm) (gE 0 S.c.vars) none (fa nm _ 0 0 e)),(41,qB g),(49,qB d),(59,qB i),(63,qB h2)],calls:=tC [(104,38,4200,be rfl (aU p 7)),(104,53,5700,be rfl (aU p 3))],pans:=an Pg [(104,10,5700,⟨14,some (bg (cd p 1)),[]⟩)]} 2000 (az h h rfl)
theorem Gg(g:(S.c.vars.any fun v=>v.nm==nm)=false)(i:(ty==3)=true)(e:(S.deep==0)=true)(j:decide (1≤n)=true)(h2:decide (n≤256)=true)(d:decide ((S.c.vars.length:Int)<255)=false):
    HX 104 [aI,eG k id nm ty n p es bd a] (ck S) (aD p 2) (ck S):=
 qX {loops:=fun f q=>if f=104 then (if q=2 then some (th b)else none)else none,hint:=qT 104 [(31, .look (.str nm) (gE 0 S.c.vars) none (fa nm _ 0 0 g)),(41,qB i),(49,qB e),(59,qB j),(63,qB h2),(72,qB d)],calls:=tC [(104,38,4200,be rfl (aU p 7)),(104,53,5700,be rfl (aU p 3)),(104,68,7100,be rfl (aU p 1)),(104,70,7200,be rfl (rU h))],pans:=an Pg [(104,11,7100,⟨6,some (bg (cd p 2)),[]⟩)]} 2000 (az h h rfl)
theorem Gi(e:(S.c.vars.any fun v=>v.nm==nm)=false)(g:(ty==3)=false)(d:decide ((S.c.vars.length:Int)<255)=false):
    HX 104 [aI,eG k id nm ty n p es bd a] (ck S) (aD p 2) (ck S):=
 qX {loops:=fun f q=>if f=104 then (if q=2 then some (th b)else none)else none,hint:=qT 104 [(31, .look (.str nm) (gE 0 S.c.vars) none (fa nm _ 0 0 e)),(41,qB g),(72,qB d)],calls:=tC [(104,38,4200,be rfl (aU p 7)),(104,53,5200,be rfl (aU p 3)),(104,68,5800,be rfl (aU p 1)),(104,70,5900,be rfl (rU h))],pans:=an Pg [(104,11,5800,⟨6,some (bg (cd p 2)),[]⟩)]} 2000 (az h h rfl)
end
theorem QR(u r:Int)(b:RL 100 (lO 104 2) (I6 es 0) (ck S ++[Ep k id nm ty n p es bd a]) (.panic (aD u r)) [] (ck S ++[(2003,⟨1,none⟩)])):
    HX 104 [aI,eG k id nm ty n p es bd a] (ck S) (aD u r) (ck S):=
 qX ({loops:=fun f q=>if f=104 then (if q=2 then some (th b)else none)else none}) 2000 (az h h rfl)
section
variable(e:Nn S k id nm ty n p es bd a)(b:(S.c.vars.any fun v=>v.nm==nm)=false)(g:ct nm S.c.seen 0=none)(h':CKok (S.add ⟨nm,ty,n,id⟩))(d:decide ((S.c.vars.length:Int)<255)=true)
include e b g h' d
theorem Np(j:(ty==3)=false)(i:decide ((0:Int)<((fJ es).length:Int))=false):
    HC 104 [aI,eG k id nm ty n p es bd a] (ck S) [] (ck (S.add ⟨nm,ty,n,id⟩)):=
 qN {loops:=fun f q=>if f=104 then (if q=2 then some (th e)else none)else none,hint:=qT 104 [(31, .look (.str nm) (gE 0 S.c.vars) none (fa nm _ 0 0 b)),(41,qB j),(72,qB d),(92,qB i)],calls:=tC [(104,38,4200,be rfl (aU p 7)),(104,53,5200,be rfl (aU p 3)),(104,68,5800,be rfl (aU p 1)),(104,70,5900,be rfl (rU h)),(104,75,6300,be rfl (aU p 2)),(104,86,7300,ad (JG h nm ty n id b g h'))]} 2000 (az h h' rfl)
theorem Nq(m:(ty==3)=false)(i:decide ((0:Int)<((fJ es).length:Int))=true)(j:bQ S.c.vars.length S.c.sure.l 0=none):
    HC 104 [aI,eG k id nm ty n p es bd a] (ck S) [] (JH (S.add ⟨nm,ty,n,id⟩) (a6 S.c.sure.l ++[(.int .i64 (S.c.vars.length:Int), .agg [],S.c.sure.c)]) (S.c.sure.c+1)):=
 qN {loops:=fun f q=>if f=104 then (if q=2 then some (th e)else none)else none,hint:=qT 104 [(31, .look (.str nm) (gE 0 S.c.vars) none (fa nm _ 0 0 b)),(41,qB m),(72,qB d),(92,qB i),(114006,li Pg S.c.vars.length S.c.sure.l none j)],calls:=tC [(104,38,4200,be rfl (aU p 7)),(104,53,5200,be rfl (aU p 3)),(104,68,5800,be rfl (aU p 1)),(104,70,5900,be rfl (rU h)),(104,75,6300,be rfl (aU p 2)),(104,86,7300,ad (JG h nm ty n id b g h'))]} 2000 (QN h h' _ _ rfl)
theorem Nr(m:(ty==3)=true)(j:(S.deep==0)=true)(o:decide (1≤n)=true)(h2:decide (n≤256)=true)(i:bQ S.c.vars.length S.c.sure.l 0=none):
    HC 104 [aI,eG k id nm ty n p es bd a] (ck S) [] (JH (S.add ⟨nm,ty,n,id⟩) (a6 S.c.sure.l ++[(.int .i64 (S.c.vars.length:Int), .agg [],S.c.sure.c)]) (S.c.sure.c+1)):=
 qN {loops:=fun f q=>if f=104 then (if q=2 then some (th e)else none)else none,hint:=qT 104 [(31, .look (.str nm) (gE 0 S.c.vars) none (fa nm _ 0 0 b)),(41,qB m),(49,qB j),(59,qB o),(63,qB h2),(72,qB d),(114006,li Pg S.c.vars.length S.c.sure.l none i)],calls:=tC [(104,38,4200,be rfl (aU p 7)),(104,53,5700,be rfl (aU p 3)),(104,68,7100,be rfl (aU p 1)),(104,70,7200,be rfl (rU h)),(104,75,7600,be rfl (aU p 2)),(104,86,8600,ad (JG h nm ty n id b g h'))]} 2000 (QN h h' _ _ rfl)
end
end
end Go.Avm
namespace Go.Avm
open Go.Proofs
theorem nO(x:Ex)(zs:List Ex):decide ((0:Int)<((fJ (x::zs)).length:Int))=true:=by
 rw[cC,xG];exact yM (by omega)
section
variable{S:CK}(h:CKok S)(k id:Int)(nm:List UInt8)(ty n p:Int)(g e:Int)(a:List UInt8)(i d:Int)(b zs:List Ex)(bd l:List aP)(f:Fn)(j:S.fs[S.fn]? =some f)
include h j
theorem Ns(c:(f.res !=0)=false):HC 111 [aI,eG k id nm ty n p [] bd l] (ck S) [] (ck S):=
 qN {hint:=qT 111 [(14, .idx (S.fs.map bn) (S.fn:Int) (bn f) (by omega) (by simp[j])),(19,qB c)]} 1000 (az h h rfl)
theorem Nt(c:(f.res !=0)=true):HX 111 [aI,eG k id nm ty n p [] bd l] (ck S) (aD p 8) (ck S):=
 qX {hint:=qT 111 [(14, .idx (S.fs.map bn) (S.fn:Int) (bn f) (by omega) (by simp[j])),(19,qB c)],pans:=an Pg [(111,3,1901,⟨6,some (bg (cd p 8)),[]⟩)]} 1000 (az h h rfl)
theorem Up(m:(f.res !=0)=true)(t:Int)(c:lW S (.mk g e a i d b) [f.res] t):HC 111 [aI,eG k id nm ty n p (.mk g e a i d b::zs) bd l] (ck S) [] (ck S):=
 qN {hint:=qT 111 [(14, .idx (S.fs.map bn) (S.fn:Int) (bn f) (by omega) (by simp[j])),(19,qB m),(23,hB Pg (decide ((0:Int)<((fJ (.mk g e a i d b::zs)).length:Int))) true (nO _ _))],calls:=tC [(111,26,2219,be rfl (aU p 8)),(111,34,2590,be rfl (wO c 2570))]} 1000 (az h h rfl)
theorem QT(m:(f.res !=0)=true)(u r:Int)(c:iI S (.mk g e a i d b) [f.res] u r):HX 111 [aI,eG k id nm ty n p (.mk g e a i d b::zs) bd l] (ck S) (aD u r) (ck S):=
 qX {hint:=qT 111 [(14, .idx (S.fs.map bn) (S.fn:Int) (bn f) (by omega) (by simp[j])),(19,qB m),(23,hB Pg (decide ((0:Int)<((fJ (.mk g e a i d b::zs)).length:Int))) true (nO _ _))],calls:=tC [(111,26,2219,be rfl (aU p 8))],pans:=an Pg [(111,4,2219,⟨7,some (bg (wP c 2570)),[]⟩)]} 1000 (az h h rfl)
theorem JK(m:(f.res !=0)=false)(u r:Int)(c:HX 112 [aI,hA g e a i d b] (ck S) (aD u r) (ck S)):HX 111 [aI,eG k id nm ty n p (.mk g e a i d b::zs) bd l] (ck S) (aD u r) (ck S):=
 qX {hint:=qT 111 [(14, .idx (S.fs.map bn) (S.fn:Int) (bn f) (by omega) (by simp[j])),(19,qB m),(39,hB Pg (decide ((0:Int)<((fJ (.mk g e a i d b::zs)).length:Int))) true (nO _ _))],pans:=an Pg [(111,6,2166,⟨5,some (bg c),[]⟩)]} 1000 (az h h rfl)
theorem Nu(m:(f.res !=0)=false)(t:Int)(c:HC 112 [aI,hA g e a i d b] (ck S) [gg t] (ck S)):HX 111 [aI,eG k id nm ty n p (.mk g e a i d b::zs) bd l] (ck S) (aD d 8) (ck S):=
 qX {hint:=qT 111 [(14, .idx (S.fs.map bn) (S.fn:Int) (bn f) (by omega) (by simp[j])),(19,qB m),(39,hB Pg (decide ((0:Int)<((fJ (.mk g e a i d b::zs)).length:Int))) true (nO _ _))],calls:=tC [(111,45,2431,be rfl c)],pans:=an Pg [(111,7,2431,⟨7,none,[]⟩)]} 1000 (az h h rfl)
end
def TS(S:CK)(f:Nat)(args:List AV):TR CS→Prop
 | .ok c=>c=S.c∧HC f args (ck S) [] (ck S)
 | .bad p e=>HX f args (ck S) (aD p e) (ck S)
 | .out=>True
theorem QU{S:CK}(h:CKok S)(k id:Int)(nm:List UInt8)(ty n p:Int)(es:List Ex)(bd j:List aP):TS S 111 [aI,eG k id nm ty n p es bd j] (mo S.fs S.fn p es S.c):=by
 unfold mo;cases m:S.fs[S.fn]? with
 |none=>exact trivial
 |some f=>
  simp only;cases o:(f.res==0)with
  |true=>
   have l:(f.res !=0)=false:=by simp[bne,o]
   simp only[xW];match es with
   |[]=>exact⟨rfl,Ns h k id nm ty n p bd j f m l⟩
   | .mk g d a i e b::zs=>
    have c:=TP h (.mk g d a i e b);simp only;revert c;cases dc (S.c.te S.fs) (.mk g d a i e b)with
    |out=>exact fun _=>trivial
    |bad u r=>exact fun c=>JK h k id nm ty n p g d a i e b zs bd j f m l u r c
    |ok t=>exact fun c=>Nu h k id nm ty n p g d a i e b zs bd j f m l t c
  |false=>
   have l:(f.res !=0)=true:=by simp[bne,o]
   simp only[xP];match es with
   |[]=>exact Nt h k id nm ty n p bd j f m l
   | .mk g d a i e b::zs=>
    have c:=Ng h (.mk g d a i e b) f.res;simp only;revert c;unfold WX;cases ch (S.c.te S.fs) (.mk g d a i e b) [f.res]with
    |out=>exact fun _=>trivial
    |bad u r=>exact fun c=>QT h k id nm ty n p g d a i e b zs bd j f m l u r c
    |ok t=>exact fun c=>⟨rfl,Up h k id nm ty n p g d a i e b zs bd j f m l t c⟩
end Go.Avm
