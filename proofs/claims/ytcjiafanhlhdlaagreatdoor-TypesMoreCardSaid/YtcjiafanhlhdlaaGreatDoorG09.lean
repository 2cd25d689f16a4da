/-
  The kit's library contracts, laid at this program (printed by the kit's lay-plain).
-/
import Derived.Shelf.SlGeneric
import Derived.Shelf.SlIterI.Sorted
import Derived.Shelf.SlIter.AllValues
import Derived.Shelf.SortM.Plain
import Derived.Shelf.SortM.SortNone
import Derived.Shelf.SlMaps.Clone
import Derived.Ground.GgzProg
import Derived.Ground.GgmProg
import Derived.Ground.SlgmProg
import Derived.Ground.SlmcProg
import Derived.Test.YtcjiafanhlhdlaaGreatDoorProg
import Derived.Test.YtcjiafanhlhdlaaGreatDoorG08
import Derived.Test.YtcjiafanhlhdlaaGreatDoorRows
import Derived.Tactics
import Derived.Tactics2
import Derived.Defers
import Derived.Laws.Pointers
import Derived.Laws.LoneSync
import Derived.RegionTactic
import Derived.RegionCalls
import Derived.ChangeAlike
import Derived.Test.YtcjiafanhlhdlaaGreatDoorG07
import Derived.IntWalk
namespace Go.Proofs
open Go.Shelf
def Tryz.lsorted_ren:Go.Shelf.Ren:=⟨fun|6=>132|8=>155|9=>156|11=>174|13=>176|12=>175|23=>195|24=>139|14=>186|15=>187|16=>188|17=>189|18=>190|19=>191|20=>192|21=>193|22=>194|25=>203|26=>204|27=>205|28=>206|29=>207|30=>208|31=>209|n=>n,fun|26=>3|28=>218|24=>42|0=>0|3=>3|37=>149|48=>119|50=>175|4=>4|40=>283|39=>282|45=>143|5=>5|9=>9|51=>292|55=>75|57=>297|58=>298|33=>226|n=>n,fun|n=>n⟩
theorem Tryz.lsorted:Go.Proofs.SlLaysZI.n6 Tryz.prog Tryz.lsorted_ren:={
 mixed:=by kernel_rfl
 f6:=⟨Tryz.f132.name,by decide,Tryz.func132.trans (congrArg some (by kernel_rfl))⟩
 f8:=⟨Tryz.f155.name,by decide,Tryz.func155.trans (congrArg some (by kernel_rfl))⟩
 f11:=⟨Tryz.f174.name,by decide,Tryz.func174.trans (congrArg some (by kernel_rfl))⟩
 t0:=Tryz.underlying0
 a0:=Tryz.isAgg0
 z0:=Tryz.sizeOf0
 v0:=Tryz.zeroValue0
 t24:=Tryz.underlying42
 a24:=Tryz.isAgg42
 z24:=Tryz.sizeOf42
 v24:=Tryz.zeroValue42
 t26:=Tryz.underlying3
 a26:=Tryz.isAgg3
 z26:=Tryz.sizeOf3
 v26:=Tryz.zeroValue3
 t28:=Tryz.underlying218
 a28:=Tryz.isAgg218
 z28:=Tryz.sizeOf218
 v28:=Tryz.zeroValue218
 i26:=by kernel_rfl}
def Tryz.lvals_ren:Go.Shelf.Ren:=⟨fun|7=>157|n=>n,fun|33=>226|23=>88|0=>0|4=>4|3=>3|27=>9|n=>n,fun|n=>n⟩
theorem Tryz.lvals:Go.Proofs.SlLaysY.n7 Tryz.prog Tryz.lvals_ren:={
 mixed:=by kernel_rfl
 f7:=⟨Tryz.f157.name,by decide,Tryz.func157.trans (congrArg some (by kernel_rfl))⟩
 t0:=Tryz.underlying0
 a0:=Tryz.isAgg0
 z0:=Tryz.sizeOf0
 v0:=Tryz.zeroValue0
 t3:=Tryz.underlying3
 a3:=Tryz.isAgg3
 z3:=Tryz.sizeOf3
 v3:=Tryz.zeroValue3
 t4:=Tryz.underlying4
 a4:=Tryz.isAgg4
 z4:=Tryz.sizeOf4
 v4:=Tryz.zeroValue4
 t23:=Tryz.underlying88
 a23:=Tryz.isAgg88
 z23:=Tryz.sizeOf88
 v23:=Tryz.zeroValue88
 t33:=Tryz.underlying226
 a33:=Tryz.isAgg226
 z33:=Tryz.sizeOf226
 v33:=Tryz.zeroValue226
 t27:=Tryz.underlying9}
def Tryz.lsort_ren:Go.Shelf.Ren:=⟨fun|5=>156|8=>176|7=>175|19=>195|20=>139|10=>186|11=>187|12=>188|13=>189|14=>190|15=>191|16=>192|17=>193|18=>194|30=>203|31=>204|32=>205|33=>206|34=>207|35=>208|40=>209|n=>n,fun|23=>42|25=>3|3=>3|32=>149|22=>42|0=>0|44=>119|46=>175|4=>4|36=>283|35=>282|41=>143|5=>5|9=>9|53=>292|57=>75|63=>297|64=>298|n=>n,fun|n=>n⟩
theorem Tryz.lsort:Go.Proofs.SlLaysM.n5 Tryz.prog Tryz.lsort_ren:={
 mixed:=by kernel_rfl
 f5:=⟨Tryz.f156.name,by decide,Tryz.func156.trans (congrArg some (by kernel_rfl))⟩
 f7:=⟨Tryz.f175.name,by decide,Tryz.func175.trans (congrArg some (by kernel_rfl))⟩
 f8:=Tryz.func176.trans (congrArg some (by kernel_rfl))
 f10:=⟨Tryz.f186.name,by decide,Tryz.func186.trans (congrArg some (by kernel_rfl))⟩
 f11:=⟨Tryz.f187.name,by decide,Tryz.func187.trans (congrArg some (by kernel_rfl))⟩
 f12:=⟨Tryz.f188.name,by decide,Tryz.func188.trans (congrArg some (by kernel_rfl))⟩
 f13:=⟨Tryz.f189.name,by decide,Tryz.func189.trans (congrArg some (by kernel_rfl))⟩
 f14:=⟨Tryz.f190.name,by decide,Tryz.func190.trans (congrArg some (by kernel_rfl))⟩
 f15:=⟨Tryz.f191.name,by decide,Tryz.func191.trans (congrArg some (by kernel_rfl))⟩
 f16:=⟨Tryz.f192.name,by decide,Tryz.func192.trans (congrArg some (by kernel_rfl))⟩
 f17:=⟨Tryz.f193.name,by decide,Tryz.func193.trans (congrArg some (by kernel_rfl))⟩
 f18:=⟨Tryz.f194.name,by decide,Tryz.func194.trans (congrArg some (by kernel_rfl))⟩
 f19:=Tryz.func195.trans (congrArg some (by kernel_rfl))
 f20:=Tryz.func139.trans (congrArg some (by kernel_rfl))
 f30:=⟨Tryz.f203.name,by decide,Tryz.func203.trans (congrArg some (by kernel_rfl))⟩
 f31:=Tryz.func204.trans (congrArg some (by kernel_rfl))
 f32:=Tryz.func205.trans (congrArg some (by kernel_rfl))
 f33:=⟨Tryz.f206.name,by decide,Tryz.func206.trans (congrArg some (by kernel_rfl))⟩
 f34:=⟨Tryz.f207.name,by decide,Tryz.func207.trans (congrArg some (by kernel_rfl))⟩
 f35:=⟨Tryz.f208.name,by decide,Tryz.func208.trans (congrArg some (by kernel_rfl))⟩
 f40:=⟨Tryz.f209.name,by decide,Tryz.func209.trans (congrArg some (by kernel_rfl))⟩
 t0:=Tryz.underlying0
 a0:=Tryz.isAgg0
 z0:=Tryz.sizeOf0
 v0:=Tryz.zeroValue0
 t3:=Tryz.underlying3
 a3:=Tryz.isAgg3
 z3:=Tryz.sizeOf3
 v3:=Tryz.zeroValue3
 t4:=Tryz.underlying4
 a4:=Tryz.isAgg4
 z4:=Tryz.sizeOf4
 v4:=Tryz.zeroValue4
 t5:=Tryz.underlying5
 a5:=Tryz.isAgg5
 z5:=Tryz.sizeOf5
 v5:=Tryz.zeroValue5
 t9:=Tryz.underlying9
 a9:=Tryz.isAgg9
 z9:=Tryz.sizeOf9
 v9:=Tryz.zeroValue9
 t22:=Tryz.underlying42
 a22:=Tryz.isAgg42
 z22:=Tryz.sizeOf42
 v22:=Tryz.zeroValue42
 t23:=Tryz.underlying42
 a23:=Tryz.isAgg42
 z23:=Tryz.sizeOf42
 v23:=Tryz.zeroValue42
 t25:=Tryz.underlying3
 a25:=Tryz.isAgg3
 z25:=Tryz.sizeOf3
 v25:=Tryz.zeroValue3
 t32:=Tryz.underlying149
 a32:=Tryz.isAgg149
 z32:=Tryz.sizeOf149
 v32:=Tryz.zeroValue149
 t35:=Tryz.underlying282
 a35:=Tryz.isAgg282
 z35:=Tryz.sizeOf282
 v35:=Tryz.zeroValue282
 t36:=Tryz.underlying283
 a36:=Tryz.isAgg283
 z36:=Tryz.sizeOf283
 v36:=Tryz.zeroValue283
 t41:=Tryz.underlying143
 a41:=Tryz.isAgg143
 z41:=Tryz.sizeOf143
 v41:=Tryz.zeroValue143
 t44:=Tryz.underlying119
 a44:=Tryz.isAgg119
 z44:=Tryz.sizeOf119
 v44:=Tryz.zeroValue119
 t46:=Tryz.underlying175
 a46:=Tryz.isAgg175
 z46:=Tryz.sizeOf175
 v46:=Tryz.zeroValue175
 t53:=Tryz.underlying292
 a53:=Tryz.isAgg292
 z53:=Tryz.sizeOf292
 v53:=Tryz.zeroValue292
 t57:=Tryz.underlying75
 a57:=Tryz.isAgg75
 z57:=Tryz.sizeOf75
 v57:=Tryz.zeroValue75
 t63:=Tryz.underlying297
 a63:=Tryz.isAgg297
 z63:=Tryz.sizeOf297
 v63:=Tryz.zeroValue297
 t64:=Tryz.underlying298
 a64:=Tryz.isAgg298
 z64:=Tryz.sizeOf298
 v64:=Tryz.zeroValue298}
def Tryz.lclonea_ren:Go.Shelf.Ren:=⟨fun|5=>74|7=>102|n=>n,fun|23=>88|25=>9|3=>3|4=>4|20=>20|n=>n,fun|n=>n⟩
theorem Tryz.lclonea:Go.Proofs.SlLaysW.n5 Tryz.prog Tryz.lclonea_ren:={
 mixed:=by kernel_rfl
 f5:=⟨Tryz.f74.name,by decide,Tryz.func74.trans (congrArg some (by kernel_rfl))⟩
 f7:=Tryz.func102.trans (congrArg some (by kernel_rfl))
 t4:=Tryz.underlying4
 a4:=Tryz.isAgg4
 z4:=Tryz.sizeOf4
 v4:=Tryz.zeroValue4
 t20:=Tryz.underlying20
 a20:=Tryz.isAgg20
 z20:=Tryz.sizeOf20
 v20:=Tryz.zeroValue20
 t23:=Tryz.underlying88
 a23:=Tryz.isAgg88
 z23:=Tryz.sizeOf88
 v23:=Tryz.zeroValue88}
def Tryz.lcloneb_ren:Go.Shelf.Ren:=⟨fun|5=>109|7=>102|n=>n,fun|23=>90|25=>3|3=>116|4=>4|20=>20|n=>n,fun|n=>n⟩
theorem Tryz.lcloneb:Go.Proofs.SlLaysW.n5 Tryz.prog Tryz.lcloneb_ren:={
 mixed:=by kernel_rfl
 f5:=⟨Tryz.f109.name,by decide,Tryz.func109.trans (congrArg some (by kernel_rfl))⟩
 f7:=Tryz.func102.trans (congrArg some (by kernel_rfl))
 t4:=Tryz.underlying4
 a4:=Tryz.isAgg4
 z4:=Tryz.sizeOf4
 v4:=Tryz.zeroValue4
 t20:=Tryz.underlying20
 a20:=Tryz.isAgg20
 z20:=Tryz.sizeOf20
 v20:=Tryz.zeroValue20
 t23:=Tryz.underlying90
 a23:=Tryz.isAgg90
 z23:=Tryz.sizeOf90
 v23:=Tryz.zeroValue90}
end Go.Proofs
set_option linter.unusedVariables false
set_option linter.unusedSimpArgs false
set_option linter.unusedSectionVars false
namespace Go.Avm
open Go.Proofs Go.RowKit Go.Maps
theorem EV(m:Nat):AnyZI.SortsIn Tryz.prog Tryz.lsorted_ren Fence.wide m:=
 ⟨fun blk off cap ss W hH hblk hsz=>callsIn_wide.2 (AnyM.slices_Sort_int Tryz.lsort blk off cap ss W hH hblk hsz),
  fun p cap W=>callsIn_wide.2 (AnyM.slices_Sort_int_none Tryz.lsort p cap W)⟩
theorem AA:dc Tryz.prog 132:=⟨_,Tryz.func132,rfl,by decide⟩
variable[aJ]
theorem Ia{h:ab}{kb vb k v:Nat}{es:List (D×D×Nat)}{c:Nat}(hb:h kb=⟨vb,some (.arr 1 [.mp k v])⟩)(hm:h k=⟨v,some (.map es c)⟩)(hn:EE es c):
    ay Tryz.prog 132 [.fn 157 [.ptr kb vb 0 0 1]] h [.d (.ro ((lC (oC es)).map (D.int .i64)))] h:=
 wD AA (iT:=Tryz.lsorted_ren.t 26) Tryz.lvals.t27 Tryz.lvals.t3 (fun Bm b nn D0 w hB hc ho hle=>by
  have hseq:=(AnyY.values_stops Tryz.lvals Fence.wide 2 trivial rfl (by omega) Bm b nn D0 w hB hc ho).gives;have cS:=AnyZI.sorted_in Tryz.lsorted Fence.wide 5 trivial trivial trivial trivial rfl (by omega) (EV _) (enters_of Tryz.func156 (by kernel_rfl) rfl) 157 #[.pointer (some ⟨Bm,0,none⟩)] trivial (enters_of Tryz.func157 (by kernel_rfl) rfl) _ (Maps.size D0) (Nat.le_trans hle (by unfold maxLen;omega)) (by omega) w hseq;refine(callsIn_wide.1 cS).mono ?_;rintro e w' ⟨v,ss,h1,h2,h3,_,h5⟩;exact⟨v,ss,h1,h2,h3,h5⟩) hb hm hn
end Go.Avm
namespace Go.Proofs.YtcjiafanhlhdlaaGreatDoor.once
theorem disable(w:World):(callFunc 178 #[]).run Tryz.prog w= .ok (.value (.tuple #[])) w:=run_call_mark0 Tryz.func178 (by kernel_rfl) (by kernel_rfl) (by kernel_rfl) .disable (by kernel_rfl) w
theorem enable(w:World):(callFunc 180 #[]).run Tryz.prog w= .ok (.value (.tuple #[])) w:=run_call_mark0 Tryz.func180 (by kernel_rfl) (by kernel_rfl) (by kernel_rfl) .enable (by kernel_rfl) w
theorem acquire(a:Addr)(w:World):(callFunc 181 #[.pointer (some a)]).run Tryz.prog w= .ok (.value (.tuple #[])) w:=run_call_marked Tryz.func181 (by kernel_rfl) (by kernel_rfl) (by kernel_rfl) .acquire (by kernel_rfl) a w
theorem releaseMerge(a:Addr)(w:World):(callFunc 183 #[.pointer (some a)]).run Tryz.prog w= .ok (.value (.tuple #[])) w:=run_call_marked Tryz.func183 (by kernel_rfl) (by kernel_rfl) (by kernel_rfl) .releaseMerge (by kernel_rfl) a w
set_option maxRecDepth 100000 in
set_option maxHeartbeats 1600000 in
theorem sW(a:Addr)(x:Value)(u:FrameMode)(w:World)(hc:w.cell? a=some x)(hz:w.frozen? a=false):
    CallsD Tryz.prog 151 #[.pointer (some a), .bool true] u w fun e u' w'=>u'=u∧(e= .returned (.tuple #[])∧w'=w.drew.setCell a (.int .u32 1)):=by
 have hc':w.drew.cell? a=some x:=by go_simp
 have hz':w.drew.frozen? a=false:=by go_simp
 have hst:=run_call_store (P:=Tryz.prog) Tryz.func170 (by kernel_rfl) (by kernel_rfl) (by kernel_rfl) (by kernel_rfl) (k:= .u32) (y:=1) hc' hz'
 go_enter_d Tryz.func151,Tryz.ntmps151
 go_wp2
 go_region_calls
 all_goals (go_end0;exact⟨rfl,rfl⟩)
set_option maxRecDepth 100000 in
set_option maxHeartbeats 1600000 in
theorem qM(a:Addr)(u:FrameMode)(w:World)(hc:w.cell? a=some (.int .i32 1))(hz:w.frozen? a=false):
    CallsD Tryz.prog 150 #[.pointer (some a)] u w fun e u' w'=>u'=u∧(e= .returned (.tuple #[])∧w'=w.setCell a (.int .i32 0)):=by
 have hd:=disable;have he:=enable;have hr:=releaseMerge;have hadd:=run_call_add (P:=Tryz.prog) Tryz.func184 (by kernel_rfl) (by kernel_rfl) (by kernel_rfl) .i32 (by kernel_rfl) (y:= -1) (s:=0) hc hz (by simp[go_sem];rfl);have hcv:=run_convert_to_unsafe (P:=Tryz.prog) (src:=273) (dst:=170) Tryz.underlying273 Tryz.underlying170 (by kernel_rfl) hc
 go_enter_d Tryz.func150,Tryz.ntmps150
 go_wp2
 go_end0
 go_wp2
 go_end0
 exact⟨rfl,rfl⟩
set_option maxRecDepth 100000 in
set_option maxHeartbeats 1600000 in
theorem C4(a:Addr)(w:World)(hc:w.cell? a=some (.int .i32 0))(hz:w.frozen? a=false):
    Calls Tryz.prog 149 #[.pointer (some a)] w fun e w'=>e= .returned (.tuple #[])∧w'=w.setCell a (.int .i32 1):=by
 have hd:=disable;have he:=enable;have ha:=acquire;have hcas:=run_call_cas_hit (P:=Tryz.prog) Tryz.func179 (by kernel_rfl) (by kernel_rfl) (by kernel_rfl) .i32 (by kernel_rfl) (y:=1) hc hz;have hc':(w.setCell a (.int .i32 1)).cell? a=some (.int .i32 1):=World.cell?_setCell_same w a _ hc;have hcv:=run_convert_to_unsafe (P:=Tryz.prog) (src:=273) (dst:=170) Tryz.underlying273 Tryz.underlying170 (by kernel_rfl) hc'
 go_enter Tryz.func149,Tryz.ntmps149
 go_wp2
 first|go_end0|(simp only[Exit.inBlock,Exit.then];refine bodyPost_ret (results_none rfl _ _ _) rfl ?_)|refine bodyPost_ret (results_none rfl _ _ _) rfl ?_
 go_wp2
 go_end0
 exact⟨rfl,rfl⟩
set_option maxRecDepth 100000 in
set_option maxHeartbeats 1600000 in
theorem EW(b off:Nat)(g:Nat)(vs:Array Value)(w:World)(Rc:World→Prop)(hg:∀args w,(callFunc g args).run Tryz.prog w= .ok (.enter g args) w)
    (h0:w.cell? ⟨b,off,none⟩=some (.int .u32 0)) (h1:w.cell? ⟨b,off+1,none⟩=some (.int .i32 0)) (f0:w.frozen? ⟨b,off,none⟩=false) (f1:w.frozen? ⟨b,off+1,none⟩=false)
    (hcall:Calls Tryz.prog g vs (w.setCell ⟨b,off+1,none⟩ (.int .i32 1)) fun e w2=>(∃v,e= .returned v)∧Rc w2)
    (hRc:∀w2,Rc w2→w2.cell? ⟨b,off,none⟩=some (.int .u32 0)∧w2.cell? ⟨b,off+1,none⟩=some (.int .i32 1)∧w2.frozen? ⟨b,off,none⟩=false∧w2.frozen? ⟨b,off+1,none⟩=false):
    Calls Tryz.prog 123 #[.pointer (some ⟨b,off,none⟩), .func (.func g) #[] vs] w fun e w'=>e= .returned (.tuple #[])∧
     ∃w2,Rc w2∧w'=(w2.drew.setCell ⟨b,off,none⟩ (.int .u32 1)).setCell ⟨b,off+1,none⟩ (.int .i32 0):=by
 have hl:=run_call_load (P:=Tryz.prog) Tryz.func148 (by kernel_rfl) (by kernel_rfl) (by kernel_rfl) .u32 (by kernel_rfl) (w:=w.setCell ⟨b,off+1,none⟩ (.int .i32 1)) (a:=⟨b,off,none⟩) (x:=0) ((World.cell?_setCell_other _ ⟨b,off+1,none⟩ ⟨b,off,none⟩ _ (by simp)).trans h0);have hnot:∀(x:Bool)(w:World),(Op.unary .not (.bool x)).run Tryz.prog w= .ok (.bool (!x)) w:=fun _ _=>rfl
 go_enter_defers Tryz.func123,Tryz.ntmps123
 go_wp2_with (go_at_call 149;refine(C4 ⟨b,off+1,none⟩ _ (by go_simp) (by go_simp)).mono ?_;rintro e w' ⟨rfl,rfl⟩)
 go_wp2
 refine hcall.mono ?_;rintro e w2 ⟨⟨v,rfl⟩,hR⟩;obtain⟨c0,c1,z0,z1⟩:=hRc w2 hR
 go_wp2
 refine leaves_cons (f:=151) (args:= #[.pointer (some ⟨b,off,none⟩), .bool true]) (by simp) (by simp[go_sem]) ?_;refine(sW ⟨b,off,none⟩ (.int .u32 0) .returning _ c0 z0).mono ?_;rintro e u' w'' ⟨rfl,rfl,rfl⟩;refine leaves_cons (f:=150) (args:= #[.pointer (some ⟨b,off+1,none⟩)]) (by simp[settle]) (by simp[go_sem]) ?_;refine(qM ⟨b,off+1,none⟩ _ _ ?_ (by simp[z1])).mono ?_
 ·refine(World.cell?_setCell_other _ ⟨b,off,none⟩ ⟨b,off+1,none⟩ _ (by simp)).trans ?_
  rw[World.cell?_drew];exact c1
 rintro e u' w'' ⟨rfl,rfl,rfl⟩;simp[Leaves,settle,results,Tryz.results94];exact⟨w2,hR,rfl⟩
set_option maxRecDepth 100000 in
set_option maxHeartbeats 1600000 in
theorem do_first(b off:Nat)(g:Nat)(vs:Array Value)(w:World)(Rc:World→Prop)(hg:∀args w,(callFunc g args).run Tryz.prog w= .ok (.enter g args) w)
    (h0:w.cell? ⟨b,off,none⟩=some (.int .u32 0)) (h1:w.cell? ⟨b,off+1,none⟩=some (.int .i32 0)) (f0:w.frozen? ⟨b,off,none⟩=false) (f1:w.frozen? ⟨b,off+1,none⟩=false)
    (hcall:Calls Tryz.prog g vs (w.setCell ⟨b,off+1,none⟩ (.int .i32 1)) fun e w2=>(∃v,e= .returned v)∧Rc w2)
    (hRc:∀w2,Rc w2→w2.cell? ⟨b,off,none⟩=some (.int .u32 0)∧w2.cell? ⟨b,off+1,none⟩=some (.int .i32 1)∧w2.frozen? ⟨b,off,none⟩=false∧w2.frozen? ⟨b,off+1,none⟩=false):
    Calls Tryz.prog 94 #[.pointer (some ⟨b,off,none⟩), .func (.func g) #[] vs] w fun e w'=>e= .returned (.tuple #[])∧
     ∃w2,Rc w2∧w'=(w2.drew.setCell ⟨b,off,none⟩ (.int .u32 1)).setCell ⟨b,off+1,none⟩ (.int .i32 0):=by
 have hl:=run_call_load (P:=Tryz.prog) Tryz.func148 (by kernel_rfl) (by kernel_rfl) (by kernel_rfl) .u32 (by kernel_rfl) h0;have hnot:∀(x:Bool)(w:World),(Op.unary .not (.bool x)).run Tryz.prog w= .ok (.bool (!x)) w:=fun _ _=>rfl
 go_enter Tryz.func94,Tryz.ntmps94
 go_wp2_with (first|(go_at_call 123;refine(EW b off g vs _ Rc hg h0 h1 f0 f1 hcall hRc).mono ?_;rintro e w' ⟨rfl,hw⟩)|(go_at_call 122;go_in))
 go_end0
 exact⟨rfl,hw⟩
set_option maxRecDepth 100000 in
set_option maxHeartbeats 1600000 in
theorem do_done(a:Addr)(d:Int)(hd:¬d=0)(fv:Value)(w:World)(h0:w.cell? a=some (.int .u32 d)):
    Calls Tryz.prog 94 #[.pointer (some a),fv] w fun e w'=>e= .returned (.tuple #[])∧w'=w:=by
 have hl:=run_call_load (P:=Tryz.prog) Tryz.func148 (by kernel_rfl) (by kernel_rfl) (by kernel_rfl) .u32 (by kernel_rfl) h0;have hnot:∀(x:Bool)(w:World),(Op.unary .not (.bool x)).run Tryz.prog w= .ok (.bool (!x)) w:=fun _ _=>rfl
 have hd':(d !=0)=true:=by simp[hd]
 go_enter Tryz.func94,Tryz.ntmps94
 go_wp2
 go_end0
 exact⟨rfl,rfl⟩
end Go.Proofs.YtcjiafanhlhdlaaGreatDoor.once
namespace Go.Avm
open Go.RowKit Go.Proofs Go.Proofs.YtcjiafanhlhdlaaGreatDoor
variable[aJ]
section
variable{P:Program}{G:Gh}{B:Nat}{w0 w:World}{I0:Nat→Nat→Prop}{h:ab}
theorem AB{b i:Nat}{arr:Array Value}{e:TypeId}{fz:Nat×Nat}(hb:w.heap[b]? =some (.cells arr e fz))(u:Value):w.setCell ⟨b,i,none⟩ u=w.setRow b (arr.setIfInBounds i u):=by
 unfold World.setCell World.setRow;congr 1;apply Array.ext
 ·simp
 ·intro j h1 h2
  simp only[Array.getElem_modify];split
  ·rename_i hj
   subst hj
   have:w.heap[b]'(by simpa using h1)= .cells arr e fz:=by
    have:=Array.getElem?_eq_some_iff.1 hb;exact this.2
   rw[this];simp
  ·rfl
theorem HR.cell1(hr:HR G B w0 I0 h w){k i:Nat}{es:List AV}{L:t7}(hob:(h k).ob=some (.arr 1 es))(hL:G.loc k (h k).ver=some L)(hi:i<es.length){y:AV}{u:Value}(hy:Rep G w y u)(h1:u.oneCell'=true)(hl:y.lone=true):
    HR G B w0 I0 (aM h k ⟨(h k).ver,some (.arr 1 (es.set i y))⟩) (w.setCell ⟨L.b,i,none⟩ u)∧Ext G w G (w.setCell ⟨L.b,i,none⟩ u):=by
 rcases hr.objs k _ hob with ⟨rfl,_⟩|⟨L',hL',g1,g2,g3,g4,g6,g5⟩
 ·simp at hi
 rw[hL]at hL';cases hL';obtain⟨hB,⟨arr,e,hb,hs⟩,_⟩:=hr.own k L hL;rw[AB hb]
 have hall:∀x∈es.set i y,x.lone=true:=fun x hx=>by
  rcases List.mem_or_eq_of_mem_set hx with hx|rfl
  ·exact g6 rfl x hx
  ·exact hl
 refine hr.store hob hL g1 g2 hb (by simp) (by simpa using g3) (fun x hx=>by rw[AV.cells_lone (hall x hx)];rfl) (fun _=>hall) (fun t c ht=> ?_);rw[bK hall,List.getElem?_set]at ht;by_cases hit:i=t
 ·subst hit
  simp only[if_true,hi]at ht;cases ht;have hlt:i<arr.size:=by rw[hs.1,g1];omega
  exact⟨u,by simp[hlt],h1,hy⟩
 ·rw[if_neg hit]at ht
  obtain⟨u',hu',hu1,hur⟩:=g5 t c (by rw[bK (g6 rfl)];exact ht);refine⟨u', ?_,hu1,hur⟩;rw[Array.getElem?_setIfInBounds_ne hit];simpa [World.cell?,hb]using hu'
theorem HR.cellAt(hr:HR G B w0 I0 h w){k i:Nat}{es:List AV}{L:t7}(hob:(h k).ob=some (.arr 1 es))(hL:G.loc k (h k).ver=some L){kd:IntKind}{n:Int}(hi:es[i]? =some (.d (.int kd n))):
    w.cell? ⟨L.b,i,none⟩=some (.int kd n)∧w.frozen? ⟨L.b,i,none⟩=false:=by
 rcases hr.objs k _ hob with ⟨rfl,_⟩|⟨L',hL',g1,g2,g3,g4,g6,g5⟩
 ·simp at hi
 rw[hL]at hL';cases hL';obtain⟨hB,⟨arr,e,hb,hs⟩,_⟩:=hr.own k L hL;obtain⟨u,hu,hu1,hur⟩:=g5 i _ (by rw[bK (g6 rfl)];exact hi);cases hur with
 |d hd=>
 cases hd;exact⟨hu,by simp[World.frozen?,hb]⟩
theorem qj{a:AV}{k v i:Nat}{es:List AV}{n m:Int}(ha:ld h a=some (k,v,i,es,n,m)):(∃z,a= .ptr k v i 0 z)∧(h k).ver=v∧(h k).ob=some (.arr 1 es)∧es[i]? =some (.d (.int .u32 n))∧es[i+1]? =some (.d (.int .i32 m)):=by
 unfold ld at ha;split at ha;case h_2=>cases ha
 rename_i k' v' i' off z;split at ha;case isFalse=>cases ha
 rename_i hoff;subst hoff;split at ha;case h_2=>cases ha
 rename_i sz es' hob;split at ha;case isFalse=>cases ha
 rename_i hc;obtain⟨rfl,hv⟩:=hc;split at ha;case h_2=>cases ha
 rename_i n' m' e1 e2;simp only[Option.some.injEq,Prod.mk.injEq]at ha;obtain⟨rfl,rfl,rfl,rfl,rfl,rfl⟩:=ha;exact⟨⟨z,rfl⟩,hv,hob,e1,e2⟩
theorem Ib{α:Type}(f:Nat→α)(k:Nat)(x y:α):aM (aM f k x) k y=aM f k y:=by
 funext t;simp only[aM];split<;>rfl
end
theorem K1:Ec Tryz.prog 94:=by
 intro h a f caps k v i es n m ha;obtain⟨⟨z,rfl⟩,hv,hob,e1,e2⟩:=qj ha;have hcl:dc Tryz.prog 94:=⟨Tryz.f94,Tryz.func94,by kernel_rfl,by kernel_rfl⟩
 have two:∀{cargs:Array Value}{G:Gh}{w:World},cargs.size=[AV.ptr k v i 0 z, .fn f caps].length→(∀(j:Nat)(x:AV)(u:Value),[AV.ptr k v i 0 z, .fn f caps][j]? =some x→cargs[j]? =some u→Rep G w x u)→
     ∃va vf,cargs= #[va,vf]∧Rep G w (.ptr k v i 0 z) va∧Rep G w (.fn f caps) vf:=by
  intro cargs G w hs hr;have l0:cargs[0]? =some (cargs[0]'(by simp at hs;omega)):=Array.getElem?_eq_getElem _;have l1:cargs[1]? =some (cargs[1]'(by simp at hs;omega)):=Array.getElem?_eq_getElem _;refine⟨_,_, ?_,hr 0 _ _ rfl l0,hr 1 _ _ rfl l1⟩;apply Array.ext
  ·simpa using hs
  ·intro j h1 h2
   match j with
   |0=>rfl
   |1=>rfl
   |j+2=>simp at h2;omega
 refine⟨fun hn0=>⟨hcl,fun G B w0 I0 w cargs hr hs hargs=> ?_⟩,fun hn0 hm0 rs h2 es2 hcall ha2=>⟨hcl,fun G B w0 I0 w cargs hr hs hargs=> ?_⟩⟩
 ·obtain⟨va,vf,rfl,ra,rf⟩:=two hs hargs
  cases ra with
  |ptr _ _ _ _ L hL=>
  have hsz:L.sz=1:=by
   rcases hr.objs k _ hob with ⟨rfl,_⟩|⟨L',hL',g1,_⟩
   ·simp at e1
   ·rw[hv,hL]at hL';cases hL';exact g1
  rw[hsz,Nat.mul_one,Nat.add_zero];have hc:=hr.cellAt hob (by rw[hv];exact hL) e1;refine(once.do_done ⟨L.b,i,none⟩ n hn0 vf w hc.1).mono ?_;rintro e w' ⟨rfl,rfl⟩;exact⟨_,G,rfl,Ext.refl G _,hr, .tup [] #[] rfl (fun j c u hc=>by simp at hc)⟩
 ·obtain⟨⟨z2,_⟩,hv2,hob2,e12,e22⟩:=qj ha2
  obtain⟨va,vf,rfl,ra,rf⟩:=two hs hargs;subst hn0;subst hm0;cases ra with
  |ptr _ _ _ _ L hL=>
  have hLv:G.loc k (h k).ver=some L:=by rw[hv];exact hL
  have hsz:L.sz=1:=by
   rcases hr.objs k _ hob with ⟨rfl,_⟩|⟨L',hL',g1,_⟩
   ·simp at e1
   ·rw[hLv]at hL';cases hL';exact g1
  rw[hsz,Nat.mul_one,Nat.add_zero];obtain⟨c0,z0⟩:=hr.cellAt hob hLv e1;obtain⟨c1,z1⟩:=hr.cellAt hob hLv e2
  obtain⟨vs,rfl,hvl,hvr⟩:∃vs:Array Value,vf= .func (.func f) #[] vs∧vs.size=caps.length∧∀(j:Nat)(x:AV)(u:Value),caps[j]? =some x→vs[j]? =some u→Rep G w x u:=by
   cases rf with
   |fn _ _ vs hl hh=>exact⟨vs,rfl,hl,hh⟩
  have hlt1:i+1<es.length:=(List.getElem?_eq_some_iff.1 e2).1;obtain⟨hr1,ex1⟩:=hr.cell1 hob hLv hlt1 (y:= .d (.int .i32 1)) (u:= .int .i32 1) (.d (.int _ _)) rfl rfl;rw[hv]at hr1;have hcall1:=hcall.2 G B w0 I0 _ vs hr1 hvl (fun j x u hx hu=>(hvr j x u hx hu).mono ex1);refine(once.do_first L.b i f vs w (fun w2=>∃G2,Ext G (w.setCell ⟨L.b,i+1,none⟩ (.int .i32 1)) G2 w2∧HR G2 B w0 I0 h2 w2) (fun args w=>de hcall.1 args w) c0 c1 z0 z1 (hcall1.mono ?_) ?_).mono ?_
  ·rintro e w2 ⟨v',G2,rfl,x1,x2,_⟩
   exact⟨⟨v',rfl⟩,G2,x1,x2⟩
  ·rintro w2 ⟨G2,x1,x2⟩
   have hL2:G2.loc k (h2 k).ver=some L:=by rw[hv2];exact x1.loc _ _ _ hL
   obtain⟨d0,y0⟩:=x2.cellAt hob2 hL2 e12;obtain⟨d1,y1⟩:=x2.cellAt hob2 hL2 e22;exact⟨d0,d1,y0,y1⟩
  ·rintro e w' ⟨rfl,w2,⟨G2,x1,x2⟩,rfl⟩
   have hL2:G2.loc k (h2 k).ver=some L:=by rw[hv2];exact x1.loc _ _ _ hL
   have hlt0:i<es2.length:=(List.getElem?_eq_some_iff.1 e12).1;have hlt1:i+1<es2.length:=(List.getElem?_eq_some_iff.1 e22).1;obtain⟨q1,q2⟩:=x2.drew.cell1 hob2 hL2 hlt0 (y:= .d (.int .u32 1)) (u:= .int .u32 1) (.d (.int _ _)) rfl rfl;obtain⟨p1,p2⟩:=q1.cell1 (k:=k) (i:=i+1) (es:=es2.set i (.d (.int .u32 1))) (by rw[ak]) (by rw[ak];exact hL2) (by simpa using hlt1) (y:= .d (.int .i32 0)) (u:= .int .i32 0) (.d (.int _ _)) rfl rfl;rw[Ib,ak,hv2]at p1;exact⟨_,G2,rfl,ex1.trans (x1.trans ((Ext.drew G2 w2).trans (q2.trans p2))),p1, .tup [] #[] rfl (fun j c u hc=>by simp at hc)⟩
end Go.Avm
namespace Go.Avm
open Go.Proofs
def jN:List D:=(List.range 256).map fun n=> .int .u8 (if n=9∨n=10∨n=11∨n=12∨n=13∨n=32 then 1 else 0)
instance Qx:aJ:=⟨fun g=>if g=1 then some jN else if g=5 then some [.ifc]else none,some 94,fun g=>if g=153 then some .indexByte else if g=83 then some .same else none⟩
theorem ND:iG Tryz.prog:=fun g k h=>by
 have h':(if g=153 then some CD.indexByte else if g=83 then some CD.same else none)=some k:=h;split at h'
 ·rename_i hg
  subst hg;cases h';exact⟨Tryz.f153,Tryz.func153,by kernel_rfl,by kernel_rfl,by kernel_rfl,by show Extern.find Tryz.f153=some Extern.BytealgIndexByte.indexByte;kernel_rfl⟩
 ·split at h'
  ·rename_i hg
   subst hg;cases h';exact⟨Tryz.f83,Tryz.func83,by kernel_rfl,by kernel_rfl,by kernel_rfl,by show Extern.find Tryz.f83=some Extern.AbiNoEscape.same;kernel_rfl⟩
  ·cases h'
theorem aD:g0 Tryz.prog:=⟨Tryz.checked.mixed,ND⟩
theorem Ic:wb Tryz.prog:=fun g h=>by
 have h':some 94=some g:=h;cases h';exact K1
theorem named:co Tryz.prog:=Ef (by kernel_rfl) Ic
abbrev dN(n:Nat):AV:= .d (.int .i64 (n:Int))
abbrev dI(n:Int):AV:= .d (.int .i64 n)
abbrev dB(b:Bool):AV:= .d (.bool b)
def jO(P:Program)(a b:Nat)(t:Bool)(h:decide (a<b)=t):bZ P:= .val (dB (decide ((a:Int)<(b:Int)))) (dB t) (by
 congr 2;rw[←h];simp)
def dk(P:Program)(i:Nat)(h:i<1099511627776):bZ P:= .val (dI (IntKind.i64.wrap ((i:Int)+1))) (dN (i+1)) (by
 congr 2;rw[IntWalk.i64_in _ (by omega)];simp)
def EX(P:Program)(f:Nat):Code:=((P.funcs[f]?).bind (·.body)).getD .skip
def iP(r:Nat):Code→Option Code
 | .loop x=>if gd x=r then some x else iP r x
 | .seq x y=>match iP r x with
  |some c=>some c
  |none=>iP r y
 | .block _ x=>iP r x
 | .cond _ x y=>match iP r x with
  |some c=>some c
  |none=>iP r y
 |_=>none
def bO(P:Program)(f r:Nat):Code:=(iP r (EX P f)).getD .skip
end Go.Avm
namespace Go.Avm
open Go.Proofs
def J1{P:Program}(f s:Nat):List (Nat×Nat×bZ P)→Option (bZ P)
 |[]=>none
 |(f',s',h)::r=>bif Nat.beq f f'&&Nat.beq s s' then some h else J1 f s r
def Qy(P:Program)(l:List (Nat×Nat×bZ P)):Nat→Nat→Option (bZ P):=fun f s=>J1 f s l
def EY{P:Program}(f s b:Nat):List (Nat×Nat×Nat×bZ P)→Option (bZ P)
 |[]=>none
 |(f',s',b',h)::r=>bif Nat.beq f f'&&Nat.beq s s'&&Nat.beq b b' then some h else EY f s b r
def bn(P:Program)(l:List (Nat×Nat×Nat×bZ P)):Nat→Nat→Nat→Option (bZ P):=fun f s b=>EY f s b l
def J2{P:Program}(f s b:Nat):List (Nat×Nat×Nat×fQ P)→Option (fQ P)
 |[]=>none
 |(f',s',b',h)::r=>bif Nat.beq f f'&&Nat.beq s s'&&Nat.beq b b' then some h else J2 f s b r
def Qz(P:Program)(l:List (Nat×Nat×Nat×fQ P)):Nat→Nat→Nat→Option (fQ P):=fun f s b=>J2 f s b l
def J3{P:Program}(f s b:Nat):List (Nat×Nat×Nat×PHint P)→Option (PHint P)
 |[]=>none
 |(f',s',b',h)::r=>bif Nat.beq f f'&&Nat.beq s s'&&Nat.beq b b' then some h else J3 f s b r
def au(P:Program)(l:List (Nat×Nat×Nat×PHint P)):Nat→Nat→Nat→Option (PHint P):=fun f s b=>J3 f s b l
def af{P:Program}{g:Nat}{args rs:List AV}{pre post:List (Nat×aN)}(h:∀rest:ab,ay P g args (al pre rest) rs (al post rest)):fQ P:=⟨g,args,pre,rs,post,gK h⟩
def bh{P:Program}{g:Nat}{args rs:List AV}{pre:List (Nat×aN)}(hs:(pre.all fun p=>p.2.ob.isSome)=true)(h:∀rest:ab,ay P g args (al pre rest) rs (al pre rest)):fQ P:=⟨g,args,pre,rs,[],qY hs h⟩
theorem yB{P:Program}{g:Nat}{args:List AV}{x:AV}{h h1 h2:ab}(hc:iY P g args h1 x h2)(hh:∀k,(h1 k).ver=(h k).ver∧((h1 k).ob=none∨(h1 k).ob=(h k).ob)):iY P g args h x h2:=
 ⟨hc.1,fun G B w0 I0 w cargs hr hs hargs=>hc.2 G B w0 I0 w cargs (hr.forget hh) hs hargs⟩
def bi{P:Program}{g:Nat}{args:List AV}{x:AV}{pre post:List (Nat×aN)}(h:∀rest:ab,iY P g args (al pre rest) x (al post rest)):uJ P:=⟨g,args,pre,x,post,fun h' hf=>yB (h h') (jg h' pre hf)⟩
def hB(P:Program)(a b:Bool)(h:a=b):bZ P:= .val (dB a) (dB b) (by rw[h])
abbrev sX(L:List T):D:= .ro (L.map tD)
abbrev C5(L:List T)(s:RS):List AV:=[.d (sX L),dN s.i,dI s.op,dI s.n]
abbrev rd(L:List T)(s:RS):List (Nat×aN):=[(500000,⟨1,some (.arr 1 (C5 L s))⟩)]
abbrev rP:AV:= .ptr 500000 1 0 0 1
abbrev dE(p e:Int):AV:= .iv 135 (.d (.agg [.int .i64 p, .int .i64 e]))
def RC{α:Type}(L:List T)(f:Nat)(args:List AV)(g:α→List D)(s:RS):Res α→Prop
 | .ok a s'=>s'.i<L.length∧∀rest:ab,ay Tryz.prog f args (al (rd L s) rest) ((g a).map .d) (al (rd L s') rest)
 | .bad p e s'=>∀rest:ab,iY Tryz.prog f args (al (rd L s) rest) (dE p e) (al (rd L s') rest)
 | .out=>True
structure dF(L:List T):Prop where
 len:L.length<1000000
 last:∀i x,L[i]? =some x→x.k≠0→i+1<L.length
theorem BD{L:List T}{s:RS}(h:s.i<L.length):L[s.i]? =some (bt L s):=by
 unfold bt;rw[List.getD_eq_getElem?_getD,List.getElem?_eq_getElem h];rfl
theorem BE{L:List T}(hL:dF L){s:RS}(h:s.i<L.length)(hk:(bt L s).k≠0):s.i+1<L.length:=hL.last s.i _ (BD h) hk
theorem wI{L:List T}(hL:dF L){s:RS}(h:s.i<L.length){x:List UInt8}(hi:isT L s x=true):s.i+1<L.length:=BE hL h fun h0=>by
 unfold isT at hi;rw[h0]at hi;simp at hi
def QA(P:Program){L:List T}{s:RS}(h:s.i<L.length):bZ P:= .idx (L.map tD) ((s.i:Nat):Int) (tD (bt L s)) (by omega) (by rw[Int.toNat_natCast,List.getElem?_map,BD h];rfl)
end Go.Avm
namespace Go.Avm
open Go.Proofs
noncomputable abbrev Pg:Program:=Tryz.prog
abbrev RE(N:Nat)(c:Code)(l:List (Nat×AV))(hp:List (Nat×aN))(e:aG)(l':List (Nat×AV))(hp':List (Nat×aN)):Prop:=∀(rest:ab)(X:ce),X.P=Pg→X.N=N→AW X c ⟨an l,al hp rest⟩ fun e' S'=>e'=e∧S'=⟨an l',al hp' rest⟩
abbrev RL(N:Nat)(c:Code)(l:List (Nat×AV))(hp:List (Nat×aN))(e:aG)(l':List (Nat×AV))(hp':List (Nat×aN)):Prop:=∀(rest:ab)(X:ce),X.P=Pg→X.N=N→LW X c ⟨an l,al hp rest⟩ fun e' S'=>e'=e∧S'=⟨an l',al hp' rest⟩
abbrev RZ(N:Nat)(c:Code)(l:List (Nat×AV))(hp:List (Nat×aN))(e:aG)(l':List (Nat×AV))(hp':List (Nat×aN)):Prop:=∀(rest:ab)(X:ce),X.P=Pg→X.N=N→AW X c ⟨an l,al hp rest⟩ fun e' S'=>e'=e∧Weak X S' ⟨an l',al hp' rest⟩
abbrev HC(f:Nat)(a:List AV)(p:List (Nat×aN))(d:List D)(q:List (Nat×aN)):Prop:=∀rest:ab,ay Pg f a (al p rest) (d.map .d) (al q rest)
abbrev HX(f:Nat)(a:List AV)(p:List (Nat×aN))(x:AV)(q:List (Nat×aN)):Prop:=∀rest:ab,iY Pg f a (al p rest) x (al q rest)
noncomputable abbrev lO(f q:Nat):Code:=bO Pg f q
noncomputable abbrev tH(l:List (Nat×Nat×bZ Pg)):Nat→Nat→Option (bZ Pg):=Qy Pg l
noncomputable abbrev tC(l:List (Nat×Nat×Nat×fQ Pg)):Nat→Nat→Nat→Option (fQ Pg):=Qz Pg l
theorem qN(pr:Par Pg)(base:Nat){g:Nat}{args:List AV}{ds:List D}{pre post:List (Nat×aN)}(c:Cln (pre.map (·.1)) 1000000 args pre post:=by exact⟨rfl,rfl,rfl,by kernel_rfl,by kernel_rfl,by kernel_rfl⟩)
    (h:∀rest:ab,mo (lA (gC Pg (bj Pg pr 2000) base g args (al pre (eO 1000000 rest))) (pre.map (·.1)) 1000000 ds post)=outR .ret (lA (gC Pg (bj Pg pr 2000) base g args (al pre (eO 1000000 rest))) (pre.map (·.1)) 1000000 ds post):=by (intro _;kernel_rfl)):HC g args pre ds post:=ag aD named pr 2000 base g 1000000 c h
theorem qX(pr:Par Pg)(base:Nat){g:Nat}{args:List AV}{x:AV}{pre post:List (Nat×aN)}(c:Cln (pre.map (·.1)) 1000000 args pre post:=by exact⟨rfl,rfl,rfl,by kernel_rfl,by kernel_rfl,by kernel_rfl⟩)(hx:aR (dW (pre.map (·.1)) 1000000) x=x:=by kernel_rfl)
    (h:∀rest:ab,mo (lB (pc Pg (bj Pg pr 2000) base g args (al pre (eO 1000000 rest))) 1000000 x post)=outR .ret (lB (pc Pg (bj Pg pr 2000) base g args (al pre (eO 1000000 rest))) 1000000 x post):=by (intro _;kernel_rfl)):HX g args pre x post:=ae aD named pr 2000 base g 1000000 c hx h
theorem qE(pr:Par Pg)(fno base:Nat){N:Nat}{c:Code}{l l':List (Nat×AV)}{pre post:List (Nat×aN)}{e:aG}(cl:Cln (pre.map (·.1)) 1000000 (l.map (·.2)) pre post:=by exact⟨rfl,rfl,rfl,by kernel_rfl,by kernel_rfl,by kernel_rfl⟩)(cl':bT (dW (pre.map (·.1)) 1000000) (l'.map (·.2))=l'.map (·.2):=by kernel_rfl)(hx:Ey (dW (pre.map (·.1)) 1000000) e=e:=by kernel_rfl)
    (h:∀rest:ab,mo (EA (bj Pg pr 2000 fno base N c ⟨an l,al pre (eO 1000000 rest)⟩) (pre.map (·.1)) 1000000 [] l' post)=outR e (EA (bj Pg pr 2000 fno base N c ⟨an l,al pre (eO 1000000 rest)⟩) (pre.map (·.1)) 1000000 [] l' post):=by (intro _;kernel_rfl)):RE N c l pre e l' post:=fun rest X hP hN=>dX aD named pr 2000 fno base N 1000000 [] cl cl' hx h rest X hP hN
theorem qV(pr:Par Pg)(base:Nat){g:Nat}{ds rs:List D}(h:mo (lD (yr (ph Pg (bj Pg pr 2000) base g (ds.map .d) HG)) rs)=outR .ret (lD (yr (ph Pg (bj Pg pr 2000) base g (ds.map .d) HG)) rs):=by kernel_rfl):aK Pg g ds rs:=wF aD named pr 2000 base h
noncomputable def qK{α:Type}(s:Nat):List (Nat×α)→Option α
  |[]=>none
  |(k,h)::r=>bif Nat.beq s k then some h else qK s r
noncomputable def qT(f:Nat)(l:List (Nat×bZ Pg)):Nat→Nat→Option (bZ Pg):=fun f' s=>bif Nat.beq f' f then qK s l else none
noncomputable def qB{a b:Bool}(h:a=b):bZ Pg:=hB Pg a b h
noncomputable def qL{a b:Nat}(h:a<b):bZ Pg:=jO Pg a b true (by simpa using h)
noncomputable def qG(a:Nat):bZ Pg:=jO Pg a a false (by simp)
end Go.Avm
namespace Go.Avm
open Go.Proofs
abbrev Qi(n:Int):AV:= .d (.int .u8 n)
def kD:Nat→List Fn→List (D×D×Nat)
 |_,[]=>[]
 |i,f::r=>(.str f.nm, .int .i64 (i:Int),i)::kD (i+1) r
def gF:Nat→List Vr→List (D×D×Nat)
 |_,[]=>[]
 |i,v::r=>(.str v.nm, .agg [],i)::gF (i+1) r
def cB:Nat→hQ→List (D×D×Nat)
 |_,[]=>[]
 |i,p::r=>(.str p.1, .int .i64 (p.2:Int),i)::cB (i+1) r
def bc(l:List (Nat×Nat)):List (D×D×Nat):=l.map fun p=>(.int .i64 (p.1:Int), .agg [],p.2)
theorem uV(x:List UInt8):∀(l:hQ)(i j:Nat),b8 (.str x) (cB i l) j=some ((eA x l j).map fun r=>(r.1, .int .i64 (r.2:Int)))
 |[],_,_=>rfl
 |e::r,i,j=>by
  simp only[cB,b8,jB,eA];cases h:(x==e.1)with
  |true=>rfl
  |false=>exact uV x r (i+1) (j+1)
theorem BF(x:List UInt8):∀(l:List Fn)(i j:Nat),b8 (.str x) (kD i l) j=some ((bw x l j).map fun r=>(r.1, .int .i64 ((i+(r.1-j):Nat):Int)))
 |[],_,_=>rfl
 |e::r,i,j=>by
  simp only[kD,b8,jB,bw];cases h:(x==e.nm)with
  |true=>simp
  |false=>
   show b8 (.str x) (kD (i+1) r) (j+1)=_;rw[BF x r (i+1) (j+1)];simp only[cond_false];congr 1;cases hf:bw x r (j+1)with
   |none=>rfl
   |some q=>
    have:j+1≤q.1:=by
     clear h;revert hf;generalize j+1=m;induction r generalizing m with
     |nil=>intro h;cases h
     |cons a r ih=>
      intro h;simp only[bw]at h;cases hb:(x==a.nm)with
      |true=>rw[hb]at h;simp at h;subst h;exact Nat.le_refl _
      |false=>rw[hb]at h;exact Nat.le_of_succ_le (ih (m+1) h)
    simp only[Option.map_some];congr 3;omega
theorem pi(x:Nat):∀(l:List (Nat×Nat))(j:Nat),b8 (.int .i64 (x:Int)) (bc l) j=some ((bQ x l j).map fun r=>(r, .agg []))
 |[],_=>rfl
 |e::r,j=>by
  simp only[bc,List.map_cons,b8,jB,bQ,if_true]
  have hb:((x:Int)==(e.1:Int))=(x==e.1):=by
   rw[Bool.eq_iff_iff,beq_iff_eq,beq_iff_eq];exact Int.ofNat_inj
  rw[hb];cases h:(x==e.1)with
  |true=>rfl
  |false=>exact pi x r (j+1)
theorem fe(x:List UInt8):∀(l:List Vr)(i j:Nat),(l.any fun v=>v.nm==x)=false→b8 (.str x) (gF i l) j=some none
 |[],_,_,_=>rfl
 |e::r,i,j,h=>by
  simp only[List.any_cons,Bool.or_eq_false_iff]at h
  have h1:(x==e.nm)=false:=by
   have:=h.1;rw[beq_eq_false_iff_ne]at this ⊢;exact this.symm
  simp only[gF,b8,jB,h1];exact fe x r (i+1) (j+1) h.2
theorem uW(x:List UInt8):∀(l:List Vr)(i j:Nat),(l.any fun v=>v.nm==x)=true→∃q,b8 (.str x) (gF i l) j=some (some (q, .agg []))
 |[],_,_,h=>by cases h
 |e::r,i,j,h=>by
  simp only[gF,b8,jB];cases h1:(x==e.nm)with
  |true=>exact⟨j,rfl⟩
  |false=>
   refine uW x r (i+1) (j+1) ?_;simp only[List.any_cons,Bool.or_eq_true]at h;refine h.resolve_left fun h2=> ?_
   rw[beq_iff_eq]at h2;rw[h2]at h1;simp at h1
abbrev aI:AV:= .ptr 500000 1 0 0 1
structure CK where
 fs:List Fn
 fn:Nat
 W:List AV
 deep:Int
 c:CS
 vh:Nat
 vs:Nat
 vq:Nat
 vp:Nat
 vv:Nat
def ct(p:Pt):AV:= .d (ED p)
def zv(x:Vr):AV:= .d (q5 x)
abbrev lG(vv:Nat)(vars:List Vr):AV:= .sl 500005 vv 0 vars.length 4
abbrev BG(S:CK):List AV:=[.mp 499904 1, .d (.ro (S.fs.map cW)), .sl 500191 1 0 S.fs.length 1, .sl 500382 S.vp 0 S.c.pts.length 3,dN S.fn, .mp 500002 S.vh, .mp 500003 S.vs, .mp 500004 S.vq,dI S.deep]
abbrev ck(S:CK):List (Nat×aN):=
 [(500000,⟨1,some (.arr 1 (BG S))⟩),(499904,⟨1,some (.map (kD 0 S.fs) S.fs.length)⟩),(500002,⟨S.vh,some (.map (gF 0 S.c.vars) S.c.vars.length)⟩),(500003,⟨S.vs,some (.map (cB 0 S.c.seen) S.c.seen.length)⟩),
  (500004,⟨S.vq,some (.map (bc S.c.sure.l) S.c.sure.c)⟩),(500005,⟨S.vv,some (.arr 4 (S.c.vars.map zv))⟩),(500382,⟨S.vp,some (.arr 3 (S.c.pts.map ct))⟩),(500191,⟨1,some (.arr 1 (S.W.set S.fn (lG S.vv S.c.vars)))⟩)]
abbrev aH(p e:Int):AV:= .iv 142 (.d (.agg [.int .i64 p, .int .i64 e]))
def TX{α:Type}(S:CK)(f:Nat)(args:List AV)(g:α→List D):TR α→Prop
 | .ok a=>HC f args (ck S) (g a) (ck S)
 | .bad p e=>HX f args (ck S) (aH p e) (ck S)
 | .out=>True
structure CKok(S:CK):Prop where
 fn:S.fn<S.fs.length
 W:S.W.length=S.fs.length
 dat:∀x∈S.W,x= .nils∨∃d,x= .d d
 len:S.fs.length<1000000
 par:∀f∈S.fs,f.ps.length≤6
 vars:S.c.vars.length≤255
 seen:∀p∈S.c.seen,p.2<S.c.vars.length
 inc:(S.c.seen.map (·.2)).Pairwise (· < ·)
 nms:(S.c.seen.map (·.1)).Nodup
 nml:∀p∈S.c.seen,p.1.length≤1000000
 had:∀p∈S.c.seen,(S.c.vars.any fun v=>v.nm==p.1)=true
 sk:(S.c.sure.l.map (·.1)).Nodup
 sb:(S.c.sure.l.map (·.2)).Nodup
 sc:∀p∈S.c.sure.l,p.2<S.c.sure.c
 sv:∀p∈S.c.sure.l,p.1<S.c.vars.length
 pts:S.c.pts.length<1000000000
theorem pj{x:List UInt8}:∀{l:hQ}{j:Nat}{r:Nat×Nat},eA x l j=some r→(x,r.2)∈l
 |[],_,_,h=>by cases h
 |e::l,j,r,h=>by
  simp only[eA]at h;cases hb:(x==e.1)with
  |true=>
   rw[hb]at h;simp only[cond_true,Option.some.injEq]at h;subst h;rw[eq_of_beq hb];simp
  |false=>
   rw[hb]at h;exact List.mem_cons_of_mem _ (pj h)
theorem BH{S:CK}(h:CKok S){x:List UInt8}{j i:Nat}(hf:eA x S.c.seen 0=some (j,i)):i<S.c.vars.length:=h.seen _ (pj hf)
def K2(P:Program){S:CK}(h:CKok S):bZ P:= .elt (S.W.set S.fn (lG S.vv S.c.vars)) (0+(S.fn:Int).toNat) (lG S.vv S.c.vars) (by simp[h.W,h.fn])
def QB(P:Program){S:CK}(h:CKok S):bZ P:= .inb (S.fn:Int) S.fs.length (by omega) (by simpa using h.fn)
def QC(P:Program)(vars:List Vr)(i:Nat)(h:i<vars.length):bZ P:= .inb (i:Int) vars.length (by omega) (by simpa using h)
def NE(P:Program)(vars:List Vr)(i:Nat)(h:i<vars.length):bZ P:= .elt (vars.map zv) (0+(i:Int).toNat) (zv (vars.getD i default)) (by simp[h])
def EZ(P:Program)(x:List UInt8)(l:hQ)(r:Option (Nat×Nat))(h:eA x l 0=r):bZ P:= .look (.str x) (cB 0 l) (r.map fun r=>(r.1, .int .i64 (r.2:Int))) (by rw[uV,h])
def lH(P:Program)(x:Nat)(l:List (Nat×Nat))(r:Option Nat)(h:bQ x l 0=r):bZ P:= .look (.int .i64 (x:Int)) (bc l) (r.map fun r=>(r, .agg [])) (by rw[pi,h])
def pk(P:Program)(x:List UInt8)(l:List Fn)(r:Option (Nat×Fn))(h:bw x l 0=r):bZ P:= .look (.str x) (kD 0 l) (r.map fun r=>(r.1, .int .i64 (r.1:Int))) (by rw[BF,h];simp)
theorem oF(ρ:Nat→Nat):∀l:List Pt,bT ρ (l.map ct)=l.map ct
 |[]=>rfl
 |a::r=>by
  simp only[List.map_cons,bT,oF ρ r];rfl
theorem sY(ρ:Nat→Nat):∀l:List Vr,bT ρ (l.map zv)=l.map zv
 |[]=>rfl
 |a::r=>by
  simp only[List.map_cons,bT,sY ρ r];rfl
theorem oG{ρ:Nat→Nat}:∀{l:List AV},(∀x∈l,aR ρ x=x)→bT ρ l=l
 |[],_=>rfl
 |a::r,h=>by
  simp only[bT];rw[h a (by simp),oG (l:=r) (fun x hx=>h x (by simp[hx]))]
theorem J4{S:CK}(h:CKok S){ρ:Nat→Nat}(h5:ρ 500005=500005):bT ρ (S.W.set S.fn (lG S.vv S.c.vars))=S.W.set S.fn (lG S.vv S.c.vars):=
 oG fun x hx=>by
  rcases List.mem_or_eq_of_mem_set hx with hx|rfl
  ·rcases h.dat x hx with rfl|⟨d,rfl⟩<;>rfl
  ·show AV.sl (ρ 500005) _ _ _ _=_
   rw[h5]
theorem gi{S:CK}(h:CKok S){ρ:Nat→Nat}(hρ:([499904,500002,500003,500004,500005,500382,500191].map ρ)=[499904,500002,500003,500004,500005,500382,500191]):((ck S).map fun p=>cg ρ p.2)=(ck S).map (·.2):=by
 simp only[List.map_cons,List.map_nil,List.cons.injEq,and_true]at hρ;obtain⟨h1,h2,h3,h4,h5,h6,h7⟩:=hρ;simp only[ck,BG,List.map_cons,List.map_nil,cg,Option.map_some,gj,oF,sY,J4 h h5,bT,aR,h1,h2,h3,h4,h6,h7]
theorem aA{S S':CK}(h:CKok S)(h':CKok S'){ar:List AV}(ha:bT (dW ((ck S).map (·.1)) 1000000) ar=ar):Cln ((ck S).map (·.1)) 1000000 ar (ck S) (ck S'):=
 ⟨rfl,rfl,rfl,ha,gi h rfl,gi h' rfl⟩
theorem yC{G:Gh}{w:World}{ar:List AV}{K v sz:Nat}{ds:List D}{cargs:Array Value}(hargs:∀(i:Nat)(x:AV)(u:Value),(ar ++[.vec K v sz ds])[i]? =some x→cargs[i]? =some u→Rep G w x u):
    ∀(i:Nat)(x:AV)(u:Value),(ar ++[.d (.ro ds)])[i]? =some x→cargs[i]? =some u→Rep G w x u:=fun i x u hx hu=>by
 by_cases hi:i<ar.length
 ·rw[List.getElem?_append_left hi]at hx
  exact hargs i x u (by rw[List.getElem?_append_left hi];exact hx) hu
 ·rw[List.getElem?_append_right (by omega)]at hx
  have hi2:i-ar.length=0:=by
   have:=(List.getElem?_eq_some_iff.1 hx).1;simp at this;omega
  rw[hi2]at hx;simp only[List.getElem?_cons_zero,Option.some.injEq]at hx;subst hx;have h3:=hargs i (.vec K v sz ds) u (by rw[List.getElem?_append_right (by omega),hi2];rfl) hu;cases h3 with
  |vecNil=>exact .d (.roNil _ _)
  |vec _ _ _ L _ _ _ _ h=>exact .d h
theorem C6{P:Program}{f:Nat}{ar:List AV}{rs:List AV}{pre post:List (Nat×aN)}{ds:List D}(h:∀rest:ab,ay P f (ar ++[.d (.ro ds)]) (al pre rest) rs (al post rest))(K v sz:Nat)(rest:ab):
    ay P f (ar ++[.vec K v sz ds]) (al pre rest) rs (al post rest):=
 ⟨(h rest).1,fun G B w0 I0 w cargs hr hs hargs=>(h rest).2 G B w0 I0 w cargs hr (by simpa using hs) (yC hargs)⟩
theorem E0{P:Program}{f:Nat}{ar:List AV}{y:AV}{pre post:List (Nat×aN)}{ds:List D}(h:∀rest:ab,iY P f (ar ++[.d (.ro ds)]) (al pre rest) y (al post rest))(K v sz:Nat)(rest:ab):
    iY P f (ar ++[.vec K v sz ds]) (al pre rest) y (al post rest):=
 ⟨(h rest).1,fun G B w0 I0 w cargs hr hs hargs=>(h rest).2 G B w0 I0 w cargs hr (by simpa using hs) (yC hargs)⟩
end Go.Avm
namespace Go.Avm
open Go.Proofs
theorem bU(p e:Int):HX 47 [dB false,dI p,dI e] [] (aH p e) []:=
 qX {pans:=au Pg [(47,1,1024,⟨4,none,[]⟩)]} 1000
theorem aP(p e:Int):HC 47 [dB true,dI p,dI e] [] [] []:=
 qN {} 1000
section
variable{S:CK}(h:CKok S)
include h
section
variable(nm:List UInt8)(p:Int)
include nm p
theorem NF(j i:Nat)(hf:eA nm S.c.seen 0=some (j,i)):HC 105 [aI, .d (.str nm),dI p] (ck S) [.int .i64 (i:Int),q5 (S.c.vars.getD i default)] (ck S):=
 ag aD named {hint:=tH [(105,16,EZ Pg nm S.c.seen (some (j,i)) hf),(73,12,QB Pg h),(73,13,K2 Pg h),(105,26,QC Pg S.c.vars i (BH h hf)),(105,27,NE Pg S.c.vars i (BH h hf))]} 2000 1000 _ 1000000 (aA h h rfl) (fun _=>by kernel_rfl)
theorem K3(hf:eA nm S.c.seen 0=none):HX 105 [aI, .d (.str nm),dI p] (ck S) (aH p 6) (ck S):=
 ae aD named {hint:=qT 105 [(16,EZ Pg nm S.c.seen none hf)],pans:=au Pg [(105,2,1364,⟨2,some (bi (bU p 6)),[]⟩)]} 2000 1000 _ 1000000 (aA h h rfl) (by kernel_rfl) (fun _=>by kernel_rfl)
theorem K4:TX S 105 [aI, .d (.str nm),dI p] (fun r=>[.int .i64 (r.1:Int),q5 r.2]) (kf (S.c.te S.fs) nm p):=by
 unfold kf;show TX S _ _ _ (match eA nm S.c.seen 0 with|some (_,i)=> .ok (i,S.c.vars.getD i default)|none=> .bad p 6);cases hf:eA nm S.c.seen 0 with
 |none=>exact K3 h nm p hf
 |some r=>
  obtain⟨j,i⟩:=r;exact NF h nm p j i hf
theorem NG(i:Nat)(v:Vr)(c:HC 105 [aI, .d (.str nm),dI p] (ck S) [.int .i64 (i:Int),q5 v] (ck S))(hv:(v.ty==3)=true):
    HC 107 [aI, .d (.str nm),dI p] (ck S) [] (ck S):=
 ag aD named {hint:=qT 107 [(17,qB hv)],calls:=tC [(107,12,1060,af c)]} 2000 1000 _ 1000000 (aA h h rfl) (fun _=>by kernel_rfl)
theorem K5(i:Nat)(v:Vr)(c:HC 105 [aI, .d (.str nm),dI p] (ck S) [.int .i64 (i:Int),q5 v] (ck S))(hv:(v.ty==3)=false):
    HX 107 [aI, .d (.str nm),dI p] (ck S) (aH p 8) (ck S):=
 ae aD named {hint:=qT 107 [(17,qB hv)],calls:=tC [(107,12,1060,af c)],pans:=au Pg [(107,1,1180,⟨4,some (bi (bU p 8)),[]⟩)]} 2000 1000 _ 1000000 (aA h h rfl) (by kernel_rfl) (fun _=>by kernel_rfl)
end
theorem NH(nm:List UInt8)(p q e:Int)(c:HX 105 [aI, .d (.str nm),dI p] (ck S) (aH q e) (ck S)):
    HX 107 [aI, .d (.str nm),dI p] (ck S) (aH q e) (ck S):=
 ae aD named {pans:=au Pg [(107,0,1000,⟨3,some (bi c),[]⟩)]} 2000 1000 _ 1000000 (aA h h rfl) (by kernel_rfl) (fun _=>by kernel_rfl)
theorem K6(nm:List UInt8)(p:Int):TX S 107 [aI, .d (.str nm),dI p] (fun _=>[]) (nc (S.c.te S.fs) nm p):=by
 unfold nc;have hx:=K4 h nm p;revert hx;cases kf (S.c.te S.fs) nm p with
 |out=>exact fun _=>trivial
 |bad q e=>exact fun c=>NH h nm p q e c
 |ok r=>
  obtain⟨i,v⟩:=r;intro c;simp only[TR.bind];cases hv:(v.ty==3)with
  |true=>exact NG h nm p i v c hv
  |false=>exact K5 h nm p i v c hv
end
end Go.Avm
namespace Go.Avm
open Go.Proofs
abbrev gl(n:Int):D:= .int .u8 n
section
variable{S:CK}(h:CKok S)(k o:Int)(nm:List UInt8)(n p:Int)(xs:List Ex)
include h
theorem NI(a t:Int)(c:HC 112 [aI, .d (fW (.mk k o nm n p xs))] (ck S) [gl t] (ck S))(ht:(t==a)=true):
    HC 106 [aI, .d (fW (.mk k o nm n p xs)), .d (.ro [gl a])] (ck S) [gl t] (ck S):=
 ag aD named {hint:=qT 158 [(16,qB ht)],calls:=tC [(106,10,1072,af c)]} 2000 1000 _ 1000000 (aA h h rfl) (fun _=>by kernel_rfl)
theorem K7(a t:Int)(c:HC 112 [aI, .d (fW (.mk k o nm n p xs))] (ck S) [gl t] (ck S))(ht:(t==a)=false):
    HX 106 [aI, .d (fW (.mk k o nm n p xs)), .d (.ro [gl a])] (ck S) (aH p 8) (ck S):=
 ae aD named {hint:=qT 158 [(16,qB ht)],calls:=tC [(106,10,1072,af c)],pans:=au Pg [(106,2,1090,⟨5,some (bi (bU p 8)),[]⟩)]} 2000 1000 _ 1000000 (aA h h rfl) (by kernel_rfl) (fun _=>by kernel_rfl)
theorem E1(ts:List D)(q e:Int)(c:HX 112 [aI, .d (fW (.mk k o nm n p xs))] (ck S) (aH q e) (ck S)):
    HX 106 [aI, .d (fW (.mk k o nm n p xs)), .d (.ro ts)] (ck S) (aH q e) (ck S):=
 ae aD named {pans:=au Pg [(106,1,1036,⟨2,some (bi c),[]⟩)]} 2000 1000 _ 1000000 (aA h h rfl) (by kernel_rfl) (fun _=>by kernel_rfl)
section
variable(a b t:Int)(c:HC 112 [aI, .d (fW (.mk k o nm n p xs))] (ck S) [gl t] (ck S))
include a b t c
theorem NJ(ha:(t==a)=false)(ht:(t==b)=true):
    HC 106 [aI, .d (fW (.mk k o nm n p xs)), .d (.ro [gl a,gl b])] (ck S) [gl t] (ck S):=
 ag aD named {hintB:=bn Pg [(158,16,228,qB ha),(158,16,437,qB ht)],calls:=tC [(106,10,1072,af c)]} 2000 1000 _ 1000000 (aA h h rfl) (fun _=>by kernel_rfl)
theorem K8(ha:(t==a)=true):
    HC 106 [aI, .d (fW (.mk k o nm n p xs)), .d (.ro [gl a,gl b])] (ck S) [gl t] (ck S):=
 ag aD named {hint:=qT 158 [(16,qB ha)],calls:=tC [(106,10,1072,af c)]} 2000 1000 _ 1000000 (aA h h rfl) (fun _=>by kernel_rfl)
theorem K9(ha:(t==a)=false)(ht:(t==b)=false):
    HX 106 [aI, .d (fW (.mk k o nm n p xs)), .d (.ro [gl a,gl b])] (ck S) (aH p 8) (ck S):=
 ae aD named {hintB:=bn Pg [(158,16,228,qB ha),(158,16,437,qB ht)],calls:=tC [(106,10,1072,af c)],pans:=au Pg [(106,2,1090,⟨5,some (bi (bU p 8)),[]⟩)]} 2000 1000 _ 1000000 (aA h h rfl) (by kernel_rfl) (fun _=>by kernel_rfl)
end
end
section
variable{S:CK}(h:CKok S)(e:Ex)(c:TX S 112 [aI, .d (fW e)] (fun t=>[gl t]) (dy (S.c.te S.fs) e))
include h c
theorem nf(a:Int):TX S 106 [aI, .d (fW e), .d (.ro [gl a])] (fun t=>[gl t]) (b9 (S.c.te S.fs) e [a]):=by
 obtain⟨k,o,nm,n,p,xs⟩:=e;unfold b9;revert c;cases dy (S.c.te S.fs) (.mk k o nm n p xs)with
 |out=>exact fun _=>trivial
 |bad q r=>exact fun c=>E1 h k o nm n p xs _ q r c
 |ok t=>
  intro c;simp only[TR.bind];have hc:[a].contains t=(t==a):=by cases ht:(t==a)<;>simp[List.contains,List.elem,ht]
  rw[hc];cases ht:(t==a)with
  |true=>exact NI h k o nm n p xs a t c ht
  |false=>exact K7 h k o nm n p xs a t c ht
theorem E2(a b:Int):TX S 106 [aI, .d (fW e), .d (.ro [gl a,gl b])] (fun t=>[gl t]) (b9 (S.c.te S.fs) e [a,b]):=by
 obtain⟨k,o,nm,n,p,xs⟩:=e;unfold b9;revert c;cases dy (S.c.te S.fs) (.mk k o nm n p xs)with
 |out=>exact fun _=>trivial
 |bad q r=>exact fun c=>E1 h k o nm n p xs _ q r c
 |ok t=>
  intro c;simp only[TR.bind];cases ha:(t==a)with
  |true=>
   have hc:[a,b].contains t=true:=by simp[List.contains,List.elem,ha]
   rw[hc];exact K8 h k o nm n p xs a b t c ha
  |false=>cases ht:(t==b)with
   |true=>
    have hc:[a,b].contains t=true:=by simp[List.contains,List.elem,ha,ht]
    rw[hc];exact NJ h k o nm n p xs a b t c ha ht
   |false=>
    have hc:[a,b].contains t=false:=by simp[List.contains,List.elem,ha,ht]
    rw[hc];exact K9 h k o nm n p xs a b t c ha ht
end
section
variable{S:CK}{e:Ex}
theorem wO{ds:List D}{t:Int}(c:HC 106 [aI, .d (fW e), .d (.ro ds)] (ck S) [gl t] (ck S))(K:Nat):
    HC 106 [aI, .d (fW e), .vec K 1 1 ds] (ck S) [gl t] (ck S):=
 C6 (ar:=[aI, .d (fW e)]) c K 1 1
theorem wP{ds:List D}{q r:Int}(c:HX 106 [aI, .d (fW e), .d (.ro ds)] (ck S) (aH q r) (ck S))(K:Nat):
    HX 106 [aI, .d (fW e), .vec K 1 1 ds] (ck S) (aH q r) (ck S):=
 E0 (ar:=[aI, .d (fW e)]) c K 1 1
end
end Go.Avm
namespace Go.Avm
open Go.Proofs
theorem bC(E:TE)(x:Ex)(xs:List Ex)(ts:List Int)(r:List (List Int))(eq:Bool):aB E (x::xs) (ts::r) eq=(b9 E x ts).bind fun t=>aB E xs (bif eq then [[t]]else r) false:=by
 simp only[aB,b9];cases dy E x with
 |ok t=>simp only[TR.bind];cases ts.contains t<;>rfl
 |bad p e=>rfl
 |out=>rfl
abbrev ic(k o:Int)(nm:List UInt8)(n p:Int)(xs:List Ex):AV:= .d (fW (.mk k o nm n p xs))
abbrev mq(S:CK)(e:Ex)(ts:List Int)(t:Int):Prop:=HC 106 [aI, .d (fW e), .d (.ro (ts.map gl))] (ck S) [gl t] (ck S)
abbrev i8(S:CK)(e:Ex)(ts:List Int)(q r:Int):Prop:=HX 106 [aI, .d (fW e), .d (.ro (ts.map gl))] (ck S) (aH q r) (ck S)
section
variable{S:CK}(h:CKok S)(k o:Int)(nm:List UInt8)(n p:Int)(k1 o1:Int)(nm1:List UInt8)(n1 p1:Int)(xs1:List Ex)(k2 o2:Int)(nm2:List UInt8)(n2 p2:Int)(cd:List Ex)(zs:List Ex)
include h
theorem NK(t u:Int)(ho:(o==17)=(17==17))(ho2:(o==18)=(18==17))(c1:mq S (.mk k1 o1 nm1 n1 p1 xs1) [2] t)(c2:mq S (.mk k2 o2 nm2 n2 p2 cd) [2] u):
    HC 137 [aI,ic k o nm n p (.mk k1 o1 nm1 n1 p1 xs1:: .mk k2 o2 nm2 n2 p2 cd::zs)] (ck S) [gl u] (ck S):=
 ag aD named {hint:=qT 137 [(18,hB Pg (o==17) (17==17) ho)],calls:=tC [(137,23,2050,bh rfl (wO c1 2022)),(137,27,2200,bh rfl (wO c2 2176))]} 2000 1000 _ 1000000 (aA h h rfl) (fun _=>by kernel_rfl)
theorem La(t q r:Int)(ho:(o==17)=(17==17))(ho2:(o==18)=(18==17))(c1:mq S (.mk k1 o1 nm1 n1 p1 xs1) [2] t)(c2:i8 S (.mk k2 o2 nm2 n2 p2 cd) [2] q r):
    HX 137 [aI,ic k o nm n p (.mk k1 o1 nm1 n1 p1 xs1:: .mk k2 o2 nm2 n2 p2 cd::zs)] (ck S) (aH q r) (ck S):=
 ae aD named {hint:=qT 137 [(18,hB Pg (o==17) (17==17) ho)],calls:=tC [(137,23,2050,bh rfl (wO c1 2022))],pans:=au Pg [(137,6,2050,⟨3,some (bi (wP c2 2176)),[]⟩)]} 2000 1000 _ 1000000 (aA h h rfl) (by kernel_rfl) (fun _=>by kernel_rfl)
theorem Lb(q r:Int)(ho:(o==17)=(17==17))(ho2:(o==18)=(18==17))(c1:i8 S (.mk k1 o1 nm1 n1 p1 xs1) [2] q r):
    HX 137 [aI,ic k o nm n p (.mk k1 o1 nm1 n1 p1 xs1:: .mk k2 o2 nm2 n2 p2 cd::zs)] (ck S) (aH q r) (ck S):=
 ae aD named {hint:=qT 137 [(18,hB Pg (o==17) (17==17) ho)],pans:=au Pg [(137,5,1900,⟨3,some (bi (wP c1 2022)),[]⟩)]} 2000 1000 _ 1000000 (aA h h rfl) (by kernel_rfl) (fun _=>by kernel_rfl)
theorem NL(t u:Int)(ho:(o==17)=(17==18))(ho2:(o==18)=(18==18))(c1:mq S (.mk k1 o1 nm1 n1 p1 xs1) [2] t)(c2:mq S (.mk k2 o2 nm2 n2 p2 cd) [2] u):
    HC 137 [aI,ic k o nm n p (.mk k1 o1 nm1 n1 p1 xs1:: .mk k2 o2 nm2 n2 p2 cd::zs)] (ck S) [gl u] (ck S):=
 ag aD named {hint:=qT 137 [(18,hB Pg (o==17) (17==18) ho),(19,hB Pg (o==18) (18==18) ho2)],calls:=tC [(137,23,2150,bh rfl (wO c1 2122)),(137,27,2300,bh rfl (wO c2 2276))]} 2000 1000 _ 1000000 (aA h h rfl) (fun _=>by kernel_rfl)
theorem Lc(t q r:Int)(ho:(o==17)=(17==18))(ho2:(o==18)=(18==18))(c1:mq S (.mk k1 o1 nm1 n1 p1 xs1) [2] t)(c2:i8 S (.mk k2 o2 nm2 n2 p2 cd) [2] q r):
    HX 137 [aI,ic k o nm n p (.mk k1 o1 nm1 n1 p1 xs1:: .mk k2 o2 nm2 n2 p2 cd::zs)] (ck S) (aH q r) (ck S):=
 ae aD named {hint:=qT 137 [(18,hB Pg (o==17) (17==18) ho),(19,hB Pg (o==18) (18==18) ho2)],calls:=tC [(137,23,2150,bh rfl (wO c1 2122))],pans:=au Pg [(137,6,2150,⟨3,some (bi (wP c2 2276)),[]⟩)]} 2000 1000 _ 1000000 (aA h h rfl) (by kernel_rfl) (fun _=>by kernel_rfl)
theorem Ld(q r:Int)(ho:(o==17)=(17==18))(ho2:(o==18)=(18==18))(c1:i8 S (.mk k1 o1 nm1 n1 p1 xs1) [2] q r):
    HX 137 [aI,ic k o nm n p (.mk k1 o1 nm1 n1 p1 xs1:: .mk k2 o2 nm2 n2 p2 cd::zs)] (ck S) (aH q r) (ck S):=
 ae aD named {hint:=qT 137 [(18,hB Pg (o==17) (17==18) ho),(19,hB Pg (o==18) (18==18) ho2)],pans:=au Pg [(137,5,2000,⟨3,some (bi (wP c1 2122)),[]⟩)]} 2000 1000 _ 1000000 (aA h h rfl) (by kernel_rfl) (fun _=>by kernel_rfl)
theorem NM(t u:Int)(ho:(o==17)=false)(ho2:(o==18)=false)(ho3:(o==15)=(15==15))(ho4:(o==16)=(16==15))(c1:mq S (.mk k1 o1 nm1 n1 p1 xs1) [1,2] t)(c2:mq S (.mk k2 o2 nm2 n2 p2 cd) [t] u):
    HC 137 [aI,ic k o nm n p (.mk k1 o1 nm1 n1 p1 xs1:: .mk k2 o2 nm2 n2 p2 cd::zs)] (ck S) [gl 2] (ck S):=
 ag aD named {hint:=qT 137 [(18,qB ho),(19,qB ho2),(29,hB Pg (o==15) (15==15) ho3)],calls:=tC [(137,36,2350,bh rfl (wO c1 2335)),(137,38,2400,bh rfl (wO c2 2387))]} 2000 1000 _ 1000000 (aA h h rfl) (fun _=>by kernel_rfl)
theorem Le(t q r:Int)(ho:(o==17)=false)(ho2:(o==18)=false)(ho3:(o==15)=(15==15))(ho4:(o==16)=(16==15))(c1:mq S (.mk k1 o1 nm1 n1 p1 xs1) [1,2] t)(c2:i8 S (.mk k2 o2 nm2 n2 p2 cd) [t] q r):
    HX 137 [aI,ic k o nm n p (.mk k1 o1 nm1 n1 p1 xs1:: .mk k2 o2 nm2 n2 p2 cd::zs)] (ck S) (aH q r) (ck S):=
 ae aD named {hint:=qT 137 [(18,qB ho),(19,qB ho2),(29,hB Pg (o==15) (15==15) ho3)],calls:=tC [(137,36,2350,bh rfl (wO c1 2335))],pans:=au Pg [(137,9,2100,⟨7,some (bi (wP c2 2387)),[7]⟩)]} 2000 1000 _ 1000000 (aA h h rfl) (by kernel_rfl) (fun _=>by kernel_rfl)
theorem Lf(q r:Int)(ho:(o==17)=false)(ho2:(o==18)=false)(ho3:(o==15)=(15==15))(ho4:(o==16)=(16==15))(c1:i8 S (.mk k1 o1 nm1 n1 p1 xs1) [1,2] q r):
    HX 137 [aI,ic k o nm n p (.mk k1 o1 nm1 n1 p1 xs1:: .mk k2 o2 nm2 n2 p2 cd::zs)] (ck S) (aH q r) (ck S):=
 ae aD named {hint:=qT 137 [(18,qB ho),(19,qB ho2),(29,hB Pg (o==15) (15==15) ho3)],pans:=au Pg [(137,9,2100,⟨5,some (bi (wP c1 2335)),[]⟩)]} 2000 1000 _ 1000000 (aA h h rfl) (by kernel_rfl) (fun _=>by kernel_rfl)
theorem NN(t u:Int)(ho:(o==17)=false)(ho2:(o==18)=false)(ho3:(o==15)=(15==16))(ho4:(o==16)=(16==16))(c1:mq S (.mk k1 o1 nm1 n1 p1 xs1) [1,2] t)(c2:mq S (.mk k2 o2 nm2 n2 p2 cd) [t] u):
    HC 137 [aI,ic k o nm n p (.mk k1 o1 nm1 n1 p1 xs1:: .mk k2 o2 nm2 n2 p2 cd::zs)] (ck S) [gl 2] (ck S):=
 ag aD named {hint:=qT 137 [(18,qB ho),(19,qB ho2),(29,hB Pg (o==15) (15==16) ho3),(30,hB Pg (o==16) (16==16) ho4)],calls:=tC [(137,36,2450,bh rfl (wO c1 2435)),(137,38,2500,bh rfl (wO c2 2487))]} 2000 1000 _ 1000000 (aA h h rfl) (fun _=>by kernel_rfl)
theorem Lg(t q r:Int)(ho:(o==17)=false)(ho2:(o==18)=false)(ho3:(o==15)=(15==16))(ho4:(o==16)=(16==16))(c1:mq S (.mk k1 o1 nm1 n1 p1 xs1) [1,2] t)(c2:i8 S (.mk k2 o2 nm2 n2 p2 cd) [t] q r):
    HX 137 [aI,ic k o nm n p (.mk k1 o1 nm1 n1 p1 xs1:: .mk k2 o2 nm2 n2 p2 cd::zs)] (ck S) (aH q r) (ck S):=
 ae aD named {hint:=qT 137 [(18,qB ho),(19,qB ho2),(29,hB Pg (o==15) (15==16) ho3),(30,hB Pg (o==16) (16==16) ho4)],calls:=tC [(137,36,2450,bh rfl (wO c1 2435))],pans:=au Pg [(137,9,2200,⟨7,some (bi (wP c2 2487)),[7]⟩)]} 2000 1000 _ 1000000 (aA h h rfl) (by kernel_rfl) (fun _=>by kernel_rfl)
theorem Lh(q r:Int)(ho:(o==17)=false)(ho2:(o==18)=false)(ho3:(o==15)=(15==16))(ho4:(o==16)=(16==16))(c1:i8 S (.mk k1 o1 nm1 n1 p1 xs1) [1,2] q r):
    HX 137 [aI,ic k o nm n p (.mk k1 o1 nm1 n1 p1 xs1:: .mk k2 o2 nm2 n2 p2 cd::zs)] (ck S) (aH q r) (ck S):=
 ae aD named {hint:=qT 137 [(18,qB ho),(19,qB ho2),(29,hB Pg (o==15) (15==16) ho3),(30,hB Pg (o==16) (16==16) ho4)],pans:=au Pg [(137,9,2200,⟨5,some (bi (wP c1 2435)),[]⟩)]} 2000 1000 _ 1000000 (aA h h rfl) (by kernel_rfl) (fun _=>by kernel_rfl)
section
variable(t u:Int)(ho:(o==17)=false)(ho2:(o==18)=false)(ho3:(o==15)=false)(ho4:(o==16)=false)
include t u ho ho2 ho3 ho4
theorem Id(hb:decide (11≤o)=true)(c1:mq S (.mk k1 o1 nm1 n1 p1 xs1) [1] t)(c2:mq S (.mk k2 o2 nm2 n2 p2 cd) [1] u):
    HC 137 [aI,ic k o nm n p (.mk k1 o1 nm1 n1 p1 xs1:: .mk k2 o2 nm2 n2 p2 cd::zs)] (ck S) [gl (bif true then 2 else 1)] (ck S):=
 ag aD named {hint:=qT 137 [(18,qB ho),(19,qB ho2),(29,qB ho3),(30,qB ho4),(49,qB hb)],calls:=tC [(137,42,2350,bh rfl (wO c1 2341)),(137,46,2500,bh rfl (wO c2 2495))]} 2000 1000 _ 1000000 (aA h h rfl) (fun _=>by kernel_rfl)
theorem E3(hb:decide (11≤o)=false)(c1:mq S (.mk k1 o1 nm1 n1 p1 xs1) [1] t)(c2:mq S (.mk k2 o2 nm2 n2 p2 cd) [1] u):
    HC 137 [aI,ic k o nm n p (.mk k1 o1 nm1 n1 p1 xs1:: .mk k2 o2 nm2 n2 p2 cd::zs)] (ck S) [gl (bif false then 2 else 1)] (ck S):=
 ag aD named {hint:=qT 137 [(18,qB ho),(19,qB ho2),(29,qB ho3),(30,qB ho4),(49,qB hb)],calls:=tC [(137,42,2350,bh rfl (wO c1 2341)),(137,46,2500,bh rfl (wO c2 2495))]} 2000 1000 _ 1000000 (aA h h rfl) (fun _=>by kernel_rfl)
end
theorem QD(t q r:Int)(ho:(o==17)=false)(ho2:(o==18)=false)(ho3:(o==15)=false)(ho4:(o==16)=false)(c1:mq S (.mk k1 o1 nm1 n1 p1 xs1) [1] t)(c2:i8 S (.mk k2 o2 nm2 n2 p2 cd) [1] q r):
    HX 137 [aI,ic k o nm n p (.mk k1 o1 nm1 n1 p1 xs1:: .mk k2 o2 nm2 n2 p2 cd::zs)] (ck S) (aH q r) (ck S):=
 ae aD named {hint:=qT 137 [(18,qB ho),(19,qB ho2),(29,qB ho3),(30,qB ho4)],calls:=tC [(137,42,2350,bh rfl (wO c1 2341))],pans:=au Pg [(137,12,2350,⟨3,some (bi (wP c2 2495)),[]⟩)]} 2000 1000 _ 1000000 (aA h h rfl) (by kernel_rfl) (fun _=>by kernel_rfl)
theorem QE(q r:Int)(ho:(o==17)=false)(ho2:(o==18)=false)(ho3:(o==15)=false)(ho4:(o==16)=false)(c1:i8 S (.mk k1 o1 nm1 n1 p1 xs1) [1] q r):
    HX 137 [aI,ic k o nm n p (.mk k1 o1 nm1 n1 p1 xs1:: .mk k2 o2 nm2 n2 p2 cd::zs)] (ck S) (aH q r) (ck S):=
 ae aD named {hint:=qT 137 [(18,qB ho),(19,qB ho2),(29,qB ho3),(30,qB ho4)],pans:=au Pg [(137,11,2200,⟨3,some (bi (wP c1 2341)),[]⟩)]} 2000 1000 _ 1000000 (aA h h rfl) (by kernel_rfl) (fun _=>by kernel_rfl)
end
abbrev WX(S:CK)(e:Ex)(ts:List Int):Prop:=TX S 106 [aI, .d (fW e), .d (.ro (ts.map gl))] (fun t=>[gl t]) (b9 (S.c.te S.fs) e ts)
abbrev BI(E:TE)(o:Int)(xs:List Ex):TR Int:=bif decide (xs.length<2)then .out else (bif o==17||o==18 then (aB E xs [[2],[2]] false).bind fun _=> .ok 2
      else bif o==15||o==16 then (aB E xs [[1,2],[]] true).bind fun _=> .ok 2
      else (aB E xs [[1],[1]] false).bind fun _=> .ok (bif decide (11≤o)then 2 else 1))
theorem wJ{E:TE}{e:Ex}{ts:List Int}{t:Int}(h:b9 E e ts= .ok t):ts.contains t=true:=by
 unfold b9 at h;cases hx:dy E e with
 |bad p q=>rw[hx]at h;cases h
 |out=>rw[hx]at h;cases h
 |ok u=>
  rw[hx]at h;simp only[TR.bind]at h;cases hc:ts.contains u with
  |false=>rw[hc]at h;cases h
  |true=>
   rw[hc]at h;cases h;exact hc
theorem NP{S:CK}(h:CKok S)(k o:Int)(nm:List UInt8)(n p:Int)(xs:List Ex)(ih:∀e∈xs,TX S 112 [aI, .d (fW e)] (fun t=>[gl t]) (dy (S.c.te S.fs) e)):
    TX S 137 [aI,ic k o nm n p xs] (fun t=>[gl t]) (BI (S.c.te S.fs) o xs):=by
 match xs,ih with
 |[],_=>exact trivial
 |[_],_=>exact trivial
 | .mk k1 o1 nm1 n1 p1 xs1:: .mk k2 o2 nm2 n2 p2 cd::zs,ih=>
  have hx:=ih (.mk k1 o1 nm1 n1 p1 xs1) (by simp);have hy:=ih (.mk k2 o2 nm2 n2 p2 cd) (by simp);have hl:decide ((Ex.mk k1 o1 nm1 n1 p1 xs1::Ex.mk k2 o2 nm2 n2 p2 cd::zs).length<2)=false:=by simp
  simp only[BI,hl,cond_false];have w1:∀a,WX S _ [a]:=fun a=>nf h _ hx a
  have w2:∀a,WX S _ [a]:=fun a=>nf h _ hy a
  have w12:WX S _ [1,2]:=E2 h _ hx 1 2
  have e1:∀a b,aB (S.c.te S.fs) (.mk k1 o1 nm1 n1 p1 xs1:: .mk k2 o2 nm2 n2 p2 cd::zs) [[a],[b]] false=(b9 (S.c.te S.fs) (.mk k1 o1 nm1 n1 p1 xs1) [a]).bind fun _=>(b9 (S.c.te S.fs) (.mk k2 o2 nm2 n2 p2 cd) [b]).bind fun _=> .ok ():=fun a b=>by
   rw[bC];congr 1;funext t;simp only[cond_false];rw[bC];congr 1;funext t;cases zs<;>rfl
  have e2:aB (S.c.te S.fs) (.mk k1 o1 nm1 n1 p1 xs1:: .mk k2 o2 nm2 n2 p2 cd::zs) [[1,2],[]] true=(b9 (S.c.te S.fs) (.mk k1 o1 nm1 n1 p1 xs1) [1,2]).bind fun t=>(b9 (S.c.te S.fs) (.mk k2 o2 nm2 n2 p2 cd) [t]).bind fun _=> .ok ():=by
   rw[bC];congr 1;funext t;simp only[cond_true];rw[bC];congr 1;funext t;cases zs<;>rfl
  rw[e1,e1,e2]
  have logic:∀(c:Int),(o==17)=(17==c)→(o==18)=(18==c)→(c=17∨c=18)→TX S 137 [aI,ic k o nm n p (.mk k1 o1 nm1 n1 p1 xs1:: .mk k2 o2 nm2 n2 p2 cd::zs)] (fun t=>[gl t]) (((b9 (S.c.te S.fs) (.mk k1 o1 nm1 n1 p1 xs1) [2]).bind fun _=>(b9 (S.c.te S.fs) (.mk k2 o2 nm2 n2 p2 cd) [2]).bind fun _=> .ok ()).bind fun _=> .ok 2):=fun c h17 h18 hc=>by
   have c1:=w1 2;have c2:=w2 2;revert c1 c2;unfold WX;cases hw1:b9 (S.c.te S.fs) (.mk k1 o1 nm1 n1 p1 xs1) [2]with
   |out=>exact fun _ _=>trivial
   |bad q r=>
    intro c1 _;rcases hc with rfl|rfl
    ·exact Lb h k o nm n p k1 o1 nm1 n1 p1 xs1 k2 o2 nm2 n2 p2 cd zs q r h17 h18 c1
    ·exact Ld h k o nm n p k1 o1 nm1 n1 p1 xs1 k2 o2 nm2 n2 p2 cd zs q r h17 h18 c1
   |ok t=>
    cases hw2:b9 (S.c.te S.fs) (.mk k2 o2 nm2 n2 p2 cd) [2]with
    |out=>exact fun _ _=>trivial
    |bad q r=>
     intro c1 c2;rcases hc with rfl|rfl
     ·exact La h k o nm n p k1 o1 nm1 n1 p1 xs1 k2 o2 nm2 n2 p2 cd zs t q r h17 h18 c1 c2
     ·exact Lc h k o nm n p k1 o1 nm1 n1 p1 xs1 k2 o2 nm2 n2 p2 cd zs t q r h17 h18 c1 c2
    |ok u=>
     intro c1 c2
     have hu:u=2:=by
      have hh:=wJ hw2;simp at hh;first|exact hh|exact hh.symm
     subst hu;rcases hc with rfl|rfl
     ·exact NK h k o nm n p k1 o1 nm1 n1 p1 xs1 k2 o2 nm2 n2 p2 cd zs t 2 h17 h18 c1 c2
     ·exact NL h k o nm n p k1 o1 nm1 n1 p1 xs1 k2 o2 nm2 n2 p2 cd zs t 2 h17 h18 c1 c2
  have equal:∀(c:Int),(o==17)=false→(o==18)=false→(o==15)=(15==c)→(o==16)=(16==c)→(c=15∨c=16)→TX S 137 [aI,ic k o nm n p (.mk k1 o1 nm1 n1 p1 xs1:: .mk k2 o2 nm2 n2 p2 cd::zs)] (fun t=>[gl t]) (((b9 (S.c.te S.fs) (.mk k1 o1 nm1 n1 p1 xs1) [1,2]).bind fun t=>(b9 (S.c.te S.fs) (.mk k2 o2 nm2 n2 p2 cd) [t]).bind fun _=> .ok ()).bind fun _=> .ok 2):=fun c h17 h18 h15 h16 hc=>by
   have c1:=w12;revert c1;unfold WX;cases hw1:b9 (S.c.te S.fs) (.mk k1 o1 nm1 n1 p1 xs1) [1,2]with
   |out=>exact fun _=>trivial
   |bad q r=>
    intro c1;rcases hc with rfl|rfl
    ·exact Lf h k o nm n p k1 o1 nm1 n1 p1 xs1 k2 o2 nm2 n2 p2 cd zs q r h17 h18 h15 h16 c1
    ·exact Lh h k o nm n p k1 o1 nm1 n1 p1 xs1 k2 o2 nm2 n2 p2 cd zs q r h17 h18 h15 h16 c1
   |ok t=>
    intro c1;have c2:=w2 t;revert c2;unfold WX;simp only[TR.bind];cases hw2:b9 (S.c.te S.fs) (.mk k2 o2 nm2 n2 p2 cd) [t]with
    |out=>exact fun _=>trivial
    |bad q r=>
     intro c2;rcases hc with rfl|rfl
     ·exact Le h k o nm n p k1 o1 nm1 n1 p1 xs1 k2 o2 nm2 n2 p2 cd zs t q r h17 h18 h15 h16 c1 c2
     ·exact Lg h k o nm n p k1 o1 nm1 n1 p1 xs1 k2 o2 nm2 n2 p2 cd zs t q r h17 h18 h15 h16 c1 c2
    |ok u=>
     intro c2;rcases hc with rfl|rfl
     ·exact NM h k o nm n p k1 o1 nm1 n1 p1 xs1 k2 o2 nm2 n2 p2 cd zs t u h17 h18 h15 h16 c1 c2
     ·exact NN h k o nm n p k1 o1 nm1 n1 p1 xs1 k2 o2 nm2 n2 p2 cd zs t u h17 h18 h15 h16 c1 c2
  cases h17:(o==17)with
  |true=>
   have ho:=eq_of_beq h17;simp only[Bool.true_or,cond_true];exact logic 17 h17 (by rw[ho];rfl) (.inl rfl)
  |false=>cases h18:(o==18)with
   |true=>
    simp only[Bool.or_true,cond_true];exact logic 18 h17 h18 (.inr rfl)
   |false=>
    simp only[Bool.or_self,cond_false];cases h15:(o==15)with
    |true=>
     have ho:=eq_of_beq h15;simp only[Bool.true_or,cond_true];exact equal 15 h17 h18 h15 (by rw[ho];rfl) (.inl rfl)
    |false=>cases h16:(o==16)with
     |true=>
      simp only[Bool.or_true,cond_true];exact equal 16 h17 h18 h15 h16 (.inr rfl)
     |false=>
      simp only[Bool.or_self,cond_false];have c1:=w1 1;have c2:=w2 1;revert c1 c2;unfold WX;cases b9 (S.c.te S.fs) (.mk k1 o1 nm1 n1 p1 xs1) [1]with
      |out=>exact fun _ _=>trivial
      |bad q r=>exact fun c1 _=>QE h k o nm n p k1 o1 nm1 n1 p1 xs1 k2 o2 nm2 n2 p2 cd zs q r h17 h18 h15 h16 c1
      |ok t=>cases b9 (S.c.te S.fs) (.mk k2 o2 nm2 n2 p2 cd) [1]with
       |out=>exact fun _ _=>trivial
       |bad q r=>exact fun c1 c2=>QD h k o nm n p k1 o1 nm1 n1 p1 xs1 k2 o2 nm2 n2 p2 cd zs t q r h17 h18 h15 h16 c1 c2
       |ok u=>
        intro c1 c2;simp only[TR.bind];cases hb:decide (11≤o)with
        |true=>exact Id h k o nm n p k1 o1 nm1 n1 p1 xs1 k2 o2 nm2 n2 p2 cd zs t u h17 h18 h15 h16 hb c1 c2
        |false=>exact E3 h k o nm n p k1 o1 nm1 n1 p1 xs1 k2 o2 nm2 n2 p2 cd zs t u h17 h18 h15 h16 hb c1 c2
end Go.Avm
namespace Go.Avm
open Go.Proofs
abbrev SV(q:Pm):D:= .agg [.str q.nm, .int .u8 q.ty, .int .i64 q.p]
abbrev Tq(f:Fn):List AV:=[.d (.str f.nm), .d (.ro (f.ps.map jL)),Qi f.res, .d (.ro (ep f.bd)),dI f.p]
abbrev Tr(f:Fn):Nat×aN:=(2007,⟨1,some (.arr 1 (Tq f))⟩)
abbrev HJ(f:Fn)(xs:List Ex)(i:Nat):List (Nat×AV):=[(0,aI),(7, .ptr 2007 1 0 0 1),(43, .d (.ro (i7 xs))),(44,dN (i7 xs).length),(45,dN i)]
abbrev QF(f:Fn):List (Nat×AV):=[(0,aI),(7, .ptr 2007 1 0 0 1)]
abbrev qO(S:CK)(f:Fn):List (Nat×aN):=ck S ++[Tr f]
abbrev QG(S:CK):List (Nat×aN):=ck S ++[(2007,⟨1,none⟩)]
theorem E4{S:CK}(h:CKok S)(f:Fn){ar:List AV}{post:List (Nat×aN)}(hp:post.map (·.1)=(qO S f).map (·.1))(ha:bT (dW ((qO S f).map (·.1)) 1000000) ar=ar)(hq:(post.map fun p=>cg (dW ((qO S f).map (·.1)) 1000000) p.2)=post.map (·.2)):Cln ((qO S f).map (·.1)) 1000000 ar (qO S f) post:=
 ⟨rfl,rfl,hp,ha,by
  have h1:=gi h (ρ:=dW ((qO S f).map (·.1)) 1000000) rfl;simp only[qO,List.map_append]at h1 ⊢;rw[h1];rfl,hq⟩
theorem QH{S:CK}(h:CKok S)(f:Fn)(e:aN)(he:cg (dW ((qO S f).map (·.1)) 1000000) e=e):((ck S ++([(2007,e)]:List (Nat×aN))).map fun p:Nat×aN=>cg (dW ((qO S f).map (·.1)) 1000000) p.2)=(ck S ++([(2007,e)]:List (Nat×aN))).map (·.2):=by
 have h1:=gi h (ρ:=dW ((qO S f).map (·.1)) 1000000) rfl;show((ck S).map fun p:Nat×aN=>cg (dW ((qO S f).map (·.1)) 1000000) p.2) ++[cg (dW ((qO S f).map (·.1)) 1000000) e]=(ck S).map (·.2) ++[e];rw[h1,he]
section
variable{S:CK}(h:CKok S)(f:Fn)(xs:List Ex)(i:Nat)
include h
theorem NQ(hi:decide (i<(i7 xs).length)=false):RE 63 (lO 136 6) (HJ f xs i) (qO S f) (.exit 0) (QF f) (qO S f):=
 dX aD named {hint:=qT 136 [(46,jO Pg i (i7 xs).length false hi)]} 2000 136 2000 63 1000000 ([]) (E4 h f rfl rfl (QH h f _ rfl)) (by kernel_rfl) (by kernel_rfl) (fun _=>by kernel_rfl)
theorem NR(hi:decide (i<(i7 xs).length)=true)(hl:(i7 xs).length<1000000)(k1 o1:Int)(nm1:List UInt8)(n1 p1:Int)(xs1:List Ex)(hx:xs[i]? =some (.mk k1 o1 nm1 n1 p1 xs1))(q:Pm)(hq:f.ps[i]? =some q)(t:Int)(c:mq S (.mk k1 o1 nm1 n1 p1 xs1) [q.ty] t):
    RE 63 (lO 136 6) (HJ f xs i) (qO S f) .normal (HJ f xs (i+1)) (qO S f):=
 dX aD named {hint:=qT 136 [(46,jO Pg i (i7 xs).length true hi),(48, .idx (i7 xs) ((i:Nat):Int) (fW (.mk k1 o1 nm1 n1 p1 xs1)) (by omega) (by simp[mc,hx])),(55, .idx (f.ps.map jL) ((i:Nat):Int) (SV q) (by omega) (by simp[hq,jL])),(60,dk Pg i (by have:=of_decide_eq_true hi;omega))],calls:=tC [(136,59,3008,bh rfl (wO c 3003))]} 2000 136 2000 63 1000000 ([]) (E4 h f rfl rfl (QH h f _ rfl)) (by kernel_rfl) (by kernel_rfl) (fun _=>by kernel_rfl)
theorem NS(hi:decide (i<(i7 xs).length)=true)(k1 o1:Int)(nm1:List UInt8)(n1 p1:Int)(xs1:List Ex)(hx:xs[i]? =some (.mk k1 o1 nm1 n1 p1 xs1))(q:Pm)(hq:f.ps[i]? =some q)(u r:Int)(c:i8 S (.mk k1 o1 nm1 n1 p1 xs1) [q.ty] u r):
    RE 63 (lO 136 6) (HJ f xs i) (qO S f) (.panic (aH u r)) [] (QG S):=
 dX aD named {hint:=qT 136 [(46,jO Pg i (i7 xs).length true hi),(48, .idx (i7 xs) ((i:Nat):Int) (fW (.mk k1 o1 nm1 n1 p1 xs1)) (by omega) (by simp[mc,hx])),(55, .idx (f.ps.map jL) ((i:Nat):Int) (SV q) (by omega) (by simp[hq,jL]))],pans:=au Pg [(136,8,2441,⟨9,some (bi (wP c 3003)),[]⟩)]} 2000 136 2000 63 1000000 ([]) (E4 h f rfl rfl (QH h f _ rfl)) (by kernel_rfl) (by kernel_rfl) (fun _=>by kernel_rfl)
end
def QI(S:CK)(f:Fn)(xs:List Ex)(i:Nat):TR Unit→Prop
 | .ok _=>RL 63 (lO 136 6) (HJ f xs i) (qO S f) (.exit 0) (QF f) (qO S f)
 | .bad p q=>RL 63 (lO 136 6) (HJ f xs i) (qO S f) (.panic (aH p q)) [] (QG S)
 | .out=>True
theorem J5{S:CK}(h:CKok S)(f:Fn)(xs:List Ex)(hl:xs.length<1000000)(hps:f.ps.length=xs.length)(ih:∀e∈xs,TX S 112 [aI, .d (fW e)] (fun t=>[gl t]) (dy (S.c.te S.fs) e)):
    ∀(m i:Nat),xs.length-i=m→i≤xs.length→QI S f xs i (aB (S.c.te S.fs) (xs.drop i) ((f.ps.drop i).map fun q=>[q.ty]) false)
 |0,i,hm,hi=>by
  have hi':i=xs.length:=by omega
  subst hi';have e1:xs.drop xs.length=[]:=List.drop_length;have e2:f.ps.drop xs.length=[]:=by rw[←hps];exact List.drop_length
  rw[e1,e2];exact fun rest X hP hN=>aY (NQ h f xs xs.length (by simp[dY]) rest X hP hN) (by simp)
 |m+1,i,hm,hi=>by
  have hlt:i<xs.length:=by omega
  have hx:xs[i]? =some xs[i]:=List.getElem?_eq_getElem hlt;have hq:f.ps[i]? =some (f.ps[i]'(by omega)):=List.getElem?_eq_getElem (by omega);rw[List.drop_eq_getElem_cons hlt,List.drop_eq_getElem_cons (l:=f.ps) (by omega)];generalize xs[i]=e at hx;generalize f.ps[i]'(by omega)=q at hq;have c:=nf h e (ih e (List.mem_of_getElem? hx)) q.ty;obtain⟨k1,o1,nm1,n1,p1,xs1⟩:=e;rw[List.map_cons,bC];revert c;cases b9 (S.c.te S.fs) (.mk k1 o1 nm1 n1 p1 xs1) [q.ty]with
  |out=>exact fun _=>trivial
  |bad u r=>exact fun c rest X hP hN=>aY (NS h f xs i (by simpa [dY]using hlt) k1 o1 nm1 n1 p1 xs1 hx q hq u r c rest X hP hN) (by simp)
  |ok t=>
   intro c;have hn:=J5 h f xs hl hps ih m (i+1) (by omega) hlt;simp only[TR.bind,cond_false];revert hn;cases aB (S.c.te S.fs) (xs.drop (i+1)) ((f.ps.drop (i+1)).map fun q=>[q.ty]) false with
   |out=>exact fun _=>trivial
   |bad u r=>exact fun hn rest X hP hN=>ba (NR h f xs i (by simpa [dY]using hlt) (by rw[dY];exact hl) k1 o1 nm1 n1 p1 xs1 hx q hq t c rest X hP hN) (hn rest X hP hN)
   |ok _=>exact fun hn rest X hP hN=>ba (NR h f xs i (by simpa [dY]using hlt) (by rw[dY];exact hl) k1 o1 nm1 n1 p1 xs1 hx q hq t c rest X hP hN) (hn rest X hP hN)
noncomputable def NT{S:CK}{f:Fn}{xs:List Ex}{x:aG}{l':List (Nat×AV)}{hp':List (Nat×aN)}(h:RL 63 (lO 136 6) (HJ f xs 0) (qO S f) x l' hp'):d7 Pg:=
 ⟨63,bO Pg 136 6,HJ f xs 0,fun _=>qO S f,x,l',fun _=>hp',fun rest X hP hN=>(h rest X hP hN).aw⟩
section
variable{S:CK}(h:CKok S)(k o:Int)(nm:List UInt8)(n p:Int)(xs:List Ex)
include h
theorem Li(hf:bw nm S.fs 0=none):HX 136 [aI,ic k o nm n p xs] (ck S) (aH p 6) (ck S):=
 ae aD named {hint:=qT 136 [(17,pk Pg nm S.fs none hf)],pans:=au Pg [(136,2,1882,⟨3,some (bi (bU p 6)),[]⟩)]} 2000 1000 _ 1000000 (aA h h rfl) (by kernel_rfl) (fun _=>by kernel_rfl)
theorem C7(j:Nat)(f:Fn)(hf:bw nm S.fs 0=some (j,f))(hj:S.fs[j]? =some f)(hc:(((f.ps.map jL).length:Int)==((i7 xs).length:Int))=false):HX 136 [aI,ic k o nm n p xs] (ck S) (aH p 9) (ck S):=
 ae aD named {hint:=qT 136 [(17,pk Pg nm S.fs (some (j,f)) hf),(30, .idx (S.fs.map cW) ((j:Nat):Int) (cW f) (by omega) (by simp[hj])),(38,qB hc)],calls:=tC [(136,23,2071,bh rfl (aP p 6))],pans:=au Pg [(136,4,2701,⟨9,some (bi (bU p 9)),[]⟩)]} 2000 1000 _ 1000000 (aA h h rfl) (by kernel_rfl) (fun _=>by kernel_rfl)
theorem Lj(j:Nat)(f:Fn)(hf:bw nm S.fs 0=some (j,f))(hj:S.fs[j]? =some f)(hc:(((f.ps.map jL).length:Int)==((i7 xs).length:Int))=true)
    (hl:RL 63 (lO 136 6) (HJ f xs 0) (qO S f) (.exit 0) (QF f) (qO S f)):
    HC 136 [aI,ic k o nm n p xs] (ck S) [gl f.res] (ck S):=
 ag aD named {loops:=fun f q=>if f=136 then (if q=6 then some (NT hl)else none)else none,hint:=qT 136 [(17,pk Pg nm S.fs (some (j,f)) hf),(30, .idx (S.fs.map cW) ((j:Nat):Int) (cW f) (by omega) (by simp[hj])),(38,qB hc)],calls:=tC [(136,23,1496,bh rfl (aP p 6)),(136,41,2693,bh rfl (aP p 9))]} 2000 425 _ 1000000 (aA h h rfl) (fun _=>by kernel_rfl)
theorem Ie(j:Nat)(f:Fn)(u r:Int)(hf:bw nm S.fs 0=some (j,f))(hj:S.fs[j]? =some f)(hc:(((f.ps.map jL).length:Int)==((i7 xs).length:Int))=true)
    (hl:RL 63 (lO 136 6) (HJ f xs 0) (qO S f) (.panic (aH u r)) [] (QG S)):
    HX 136 [aI,ic k o nm n p xs] (ck S) (aH u r) (ck S):=
 ae aD named {loops:=fun f q=>if f=136 then (if q=6 then some (NT hl)else none)else none,hint:=qT 136 [(17,pk Pg nm S.fs (some (j,f)) hf),(30, .idx (S.fs.map cW) ((j:Nat):Int) (cW f) (by omega) (by simp[hj])),(38,qB hc)],calls:=tC [(136,23,1496,bh rfl (aP p 6)),(136,41,2693,bh rfl (aP p 9))]} 2000 425 _ 1000000 (aA h h rfl) (by kernel_rfl) (fun _=>by kernel_rfl)
end
theorem pl{x:List UInt8}:∀{l:List Fn}{i j:Nat}{f:Fn},bw x l i=some (j,f)→i≤j∧l[j-i]? =some f
 |[],_,_,_,h=>by cases h
 |e::r,i,j,f,h=>by
  simp only[bw]at h;cases hb:(x==e.nm)with
  |true=>
   rw[hb]at h;simp only[cond_true,Option.some.injEq,Prod.mk.injEq]at h;obtain⟨rfl,rfl⟩:=h;simp
  |false=>
   rw[hb]at h;obtain⟨h1,h2⟩:=pl (l:=r) h;refine⟨by omega, ?_⟩;rw[show j-i=(j-(i+1))+1 by omega,List.getElem?_cons_succ];exact h2
abbrev E5(E:TE)(nm:List UInt8)(p:Int)(xs:List Ex):TR Int:=match bw nm E.fs 0 with
 |none=> .bad p 6
 |some (_,f)=>bif f.ps.length==xs.length then (aB E xs (f.ps.map fun q=>[q.ty]) false).bind fun _=> .ok f.res else .bad p 9
theorem NU{S:CK}(h:CKok S)(k o:Int)(nm:List UInt8)(n p:Int)(xs:List Ex)(ih:∀e∈xs,TX S 112 [aI, .d (fW e)] (fun t=>[gl t]) (dy (S.c.te S.fs) e)):
    TX S 136 [aI,ic k o nm n p xs] (fun t=>[gl t]) (E5 (S.c.te S.fs) nm p xs):=by
 show TX S _ _ _ (match bw nm S.fs 0 with|none=> .bad p 6|some (_,f)=>bif f.ps.length==xs.length then (aB (S.c.te S.fs) xs (f.ps.map fun q=>[q.ty]) false).bind fun _=> .ok f.res else .bad p 9);cases hf:bw nm S.fs 0 with
 |none=>exact Li h k o nm n p xs hf
 |some jf=>
  obtain⟨j,f⟩:=jf;have hj:S.fs[j]? =some f:=(pl hf).2;simp only;cases hc:(f.ps.length==xs.length)with
  |false=>
   refine C7 h k o nm n p xs j f hf hj ?_;rw[beq_eq_false_iff_ne]at hc ⊢;rw[List.length_map,dY];intro e;exact hc (by omega)
  |true=>
   have hc':f.ps.length=xs.length:=eq_of_beq hc
   have hcc:(((f.ps.map jL).length:Int)==((i7 xs).length:Int))=true:=by
    rw[List.length_map,dY,hc'];exact beq_self_eq_true _
   have h6:=h.par f (List.mem_of_getElem? hj);have hl:=J5 h f xs (by omega) hc' ih xs.length 0 (by omega) (by omega);simp only[List.drop_zero]at hl;simp only[cond_true];revert hl;cases aB (S.c.te S.fs) xs (f.ps.map fun q=>[q.ty]) false with
   |out=>exact fun _=>trivial
   |bad u r=>exact fun hl=>Ie h k o nm n p xs j f u r hf hj hcc hl
   |ok _=>exact fun hl=>Lj h k o nm n p xs j f hf hj hcc hl
end Go.Avm
namespace Go.Avm
open Go.Proofs
section
variable{S:CK}(h:CKok S)(k o:Int)(nm:List UInt8)(n p:Int)
include h
theorem Lk(xs:List Ex)(h2:(k==2)=true):HC 112 [aI,ic k o nm n p xs] (ck S) [gl 2] (ck S):=
 ag aD named {hint:=qT 112 [(12,qB h2)]} 2000 1000 _ 1000000 (aA h h rfl) (fun _=>by kernel_rfl)
section
variable(xs:List Ex)(h2:(k==2)=false)
include xs h2
theorem Ll(h3:(k==3)=true)(q r:Int)(c:HX 105 [aI, .d (.str nm),dI p] (ck S) (aH q r) (ck S)):
    HX 112 [aI,ic k o nm n p xs] (ck S) (aH q r) (ck S):=
 ae aD named {hint:=qT 112 [(12,qB h2),(14,qB h3)],pans:=au Pg [(112,5,1728,⟨5,some (bi c),[]⟩)]} 2000 1000 _ 1000000 (aA h h rfl) (by kernel_rfl) (fun _=>by kernel_rfl)
theorem Lm(h3:(k==3)=true)(i:Nat)(v:Vr)(c:HC 105 [aI, .d (.str nm),dI p] (ck S) [.int .i64 (i:Int),q5 v] (ck S))(j:Nat)(hs:bQ i S.c.sure.l 0=some j):
    HC 112 [aI,ic k o nm n p xs] (ck S) [gl v.ty] (ck S):=
 ag aD named {hint:=qT 112 [(12,qB h2),(14,qB h3),(30,lH Pg i S.c.sure.l (some j) hs)],calls:=tC [(112,21,2183,bh rfl c),(112,36,4094,bh rfl (aP p 10))]} 2000 1000 _ 1000000 (aA h h rfl) (fun _=>by kernel_rfl)
theorem Ln(h3:(k==3)=true)(i:Nat)(v:Vr)(c:HC 105 [aI, .d (.str nm),dI p] (ck S) [.int .i64 (i:Int),q5 v] (ck S))(hs:bQ i S.c.sure.l 0=none):
    HX 112 [aI,ic k o nm n p xs] (ck S) (aH p 10) (ck S):=
 ae aD named {hint:=qT 112 [(12,qB h2),(14,qB h3),(30,lH Pg i S.c.sure.l none hs)],calls:=tC [(112,21,2183,bh rfl c)],pans:=au Pg [(112,7,3821,⟨3,some (bi (bU p 10)),[]⟩)]} 2000 1000 _ 1000000 (aA h h rfl) (by kernel_rfl) (fun _=>by kernel_rfl)
theorem Ig(h3:(k==3)=false)(h4:(k==4)=(4==4))(h7:(k==7)=(7==4))(q r:Int)(c:HX 107 [aI, .d (.str nm),dI p] (ck S) (aH q r) (ck S)):
    HX 112 [aI,ic k o nm n p xs] (ck S) (aH q r) (ck S):=
 ae aD named {hint:=qT 112 [(12,qB h2),(14,qB h3),(40,hB Pg (k==4) (4==4) h4)],pans:=au Pg [(112,10,1910,⟨5,some (bi c),[]⟩)]} 2000 1000 _ 1000000 (aA h h rfl) (by kernel_rfl) (fun _=>by kernel_rfl)
theorem Ih(h3:(k==3)=false)(h4:(k==4)=(4==7))(h7:(k==7)=(7==7))(q r:Int)(c:HX 107 [aI, .d (.str nm),dI p] (ck S) (aH q r) (ck S)):
    HX 112 [aI,ic k o nm n p xs] (ck S) (aH q r) (ck S):=
 ae aD named {hint:=qT 112 [(12,qB h2),(14,qB h3),(40,hB Pg (k==4) (4==7) h4),(55,hB Pg (k==7) (7==7) h7)],pans:=au Pg [(112,13,2092,⟨5,some (bi c),[]⟩)]} 2000 1000 _ 1000000 (aA h h rfl) (by kernel_rfl) (fun _=>by kernel_rfl)
theorem Lo(h3:(k==3)=false)(h4:(k==4)=false)(h7:(k==7)=true)(c:HC 107 [aI, .d (.str nm),dI p] (ck S) [] (ck S)):
    HC 112 [aI,ic k o nm n p xs] (ck S) [gl 1] (ck S):=
 ag aD named {hint:=qT 112 [(12,qB h2),(14,qB h3),(40,qB h4),(55,qB h7)],calls:=tC [(112,61,2547,bh rfl c)]} 2000 1000 _ 1000000 (aA h h rfl) (fun _=>by kernel_rfl)
end
section
variable(k1 o1:Int)(nm1:List UInt8)(n1 p1:Int)(xs1 zs:List Ex)(h2:(k==2)=false)(h3:(k==3)=false)(h4:(k==4)=true)
include k1 o1 nm1 n1 p1 xs1 zs h2 h3 h4
theorem Ii(t:Int)(c:HC 107 [aI, .d (.str nm),dI p] (ck S) [] (ck S))(c1:mq S (.mk k1 o1 nm1 n1 p1 xs1) [1] t):
    HC 112 [aI,ic k o nm n p (.mk k1 o1 nm1 n1 p1 xs1::zs)] (ck S) [gl 1] (ck S):=
 ag aD named {hint:=qT 112 [(12,qB h2),(14,qB h3),(40,qB h4)],calls:=tC [(112,46,2365,bh rfl c),(112,53,2911,bh rfl (wO c1 2872))]} 2000 1000 _ 1000000 (aA h h rfl) (fun _=>by kernel_rfl)
theorem Ij(q r:Int)(c:HC 107 [aI, .d (.str nm),dI p] (ck S) [] (ck S))(c1:i8 S (.mk k1 o1 nm1 n1 p1 xs1) [1] q r):
    HX 112 [aI,ic k o nm n p (.mk k1 o1 nm1 n1 p1 xs1::zs)] (ck S) (aH q r) (ck S):=
 ae aD named {hint:=qT 112 [(12,qB h2),(14,qB h3),(40,qB h4)],calls:=tC [(112,46,2365,bh rfl c)],pans:=au Pg [(112,11,2365,⟨6,some (bi (wP c1 2872)),[]⟩)]} 2000 1000 _ 1000000 (aA h h rfl) (by kernel_rfl) (fun _=>by kernel_rfl)
end
section
variable(xs:List Ex)(h2:(k==2)=false)(h3:(k==3)=false)(h4:(k==4)=false)(h7:(k==7)=false)(h5:(k==5)=true)
include xs h2 h3 h4 h7 h5
theorem Ik(t:Int)(c:HC 136 [aI,ic k o nm n p xs] (ck S) [gl t] (ck S)):
    HC 112 [aI,ic k o nm n p xs] (ck S) [gl t] (ck S):=
 ag aD named {hint:=qT 112 [(12,qB h2),(14,qB h3),(40,qB h4),(55,qB h7),(63,qB h5)],calls:=tC [(112,66,2456,bh rfl c)]} 2000 1000 _ 1000000 (aA h h rfl) (fun _=>by kernel_rfl)
theorem Il(q r:Int)(c:HX 136 [aI,ic k o nm n p xs] (ck S) (aH q r) (ck S)):
    HX 112 [aI,ic k o nm n p xs] (ck S) (aH q r) (ck S):=
 ae aD named {hint:=qT 112 [(12,qB h2),(14,qB h3),(40,qB h4),(55,qB h7),(63,qB h5)],pans:=au Pg [(112,15,2274,⟨2,some (bi c),[]⟩)]} 2000 1000 _ 1000000 (aA h h rfl) (by kernel_rfl) (fun _=>by kernel_rfl)
end
section
variable(k1 o1:Int)(nm1:List UInt8)(n1 p1:Int)(xs1 zs:List Ex)(h2:(k==2)=false)(h3:(k==3)=false)(h4:(k==4)=false)(h7:(k==7)=false)(h5:(k==5)=false)(h8:(k==8)=true)
include k1 o1 nm1 n1 p1 xs1 zs h2 h3 h4 h7 h5 h8
theorem C8(ho:(o==21)=true)(t:Int)(c1:mq S (.mk k1 o1 nm1 n1 p1 xs1) [bif true then 2 else 1] t):
    HC 112 [aI,ic k o nm n p (.mk k1 o1 nm1 n1 p1 xs1::zs)] (ck S) [gl t] (ck S):=
 ag aD named {hint:=qT 112 [(12,qB h2),(14,qB h3),(40,qB h4),(55,qB h7),(63,qB h5),(68,qB h8),(71,qB ho)],calls:=tC [(112,78,3275,bh rfl (wO c1 3261))]} 2000 1000 _ 1000000 (aA h h rfl) (fun _=>by kernel_rfl)
theorem C9(ho:(o==21)=true)(q r:Int)(c1:i8 S (.mk k1 o1 nm1 n1 p1 xs1) [bif true then 2 else 1] q r):
    HX 112 [aI,ic k o nm n p (.mk k1 o1 nm1 n1 p1 xs1::zs)] (ck S) (aH q r) (ck S):=
 ae aD named {hint:=qT 112 [(12,qB h2),(14,qB h3),(40,qB h4),(55,qB h7),(63,qB h5),(68,qB h8),(71,qB ho)],pans:=au Pg [(112,18,2729,⟨6,some (bi (wP c1 3261)),[]⟩)]} 2000 1000 _ 1000000 (aA h h rfl) (by kernel_rfl) (fun _=>by kernel_rfl)
theorem AD(ho:(o==21)=false)(t:Int)(c1:mq S (.mk k1 o1 nm1 n1 p1 xs1) [bif false then 2 else 1] t):
    HC 112 [aI,ic k o nm n p (.mk k1 o1 nm1 n1 p1 xs1::zs)] (ck S) [gl t] (ck S):=
 ag aD named {hint:=qT 112 [(12,qB h2),(14,qB h3),(40,qB h4),(55,qB h7),(63,qB h5),(68,qB h8),(71,qB ho)],calls:=tC [(112,85,3275,bh rfl (wO c1 3268))]} 2000 1000 _ 1000000 (aA h h rfl) (fun _=>by kernel_rfl)
theorem AE(ho:(o==21)=false)(q r:Int)(c1:i8 S (.mk k1 o1 nm1 n1 p1 xs1) [bif false then 2 else 1] q r):
    HX 112 [aI,ic k o nm n p (.mk k1 o1 nm1 n1 p1 xs1::zs)] (ck S) (aH q r) (ck S):=
 ae aD named {hint:=qT 112 [(12,qB h2),(14,qB h3),(40,qB h4),(55,qB h7),(63,qB h5),(68,qB h8),(71,qB ho)],pans:=au Pg [(112,19,2729,⟨6,some (bi (wP c1 3268)),[]⟩)]} 2000 1000 _ 1000000 (aA h h rfl) (by kernel_rfl) (fun _=>by kernel_rfl)
end
section
variable(xs:List Ex)(h2:(k==2)=false)(h3:(k==3)=false)(h4:(k==4)=false)(h7:(k==7)=false)(h5:(k==5)=false)(h8:(k==8)=false)
include xs h2 h3 h4 h7 h5 h8
theorem Im(h9:(k==9)=true)(t:Int)(c:HC 137 [aI,ic k o nm n p xs] (ck S) [gl t] (ck S)):
    HC 112 [aI,ic k o nm n p xs] (ck S) [gl t] (ck S):=
 ag aD named {hint:=qT 112 [(12,qB h2),(14,qB h3),(40,qB h4),(55,qB h7),(63,qB h5),(68,qB h8),(87,qB h9)],calls:=tC [(112,90,2820,bh rfl c)]} 2000 1000 _ 1000000 (aA h h rfl) (fun _=>by kernel_rfl)
theorem Io(h9:(k==9)=true)(q r:Int)(c:HX 137 [aI,ic k o nm n p xs] (ck S) (aH q r) (ck S)):
    HX 112 [aI,ic k o nm n p xs] (ck S) (aH q r) (ck S):=
 ae aD named {hint:=qT 112 [(12,qB h2),(14,qB h3),(40,qB h4),(55,qB h7),(63,qB h5),(68,qB h8),(87,qB h9)],pans:=au Pg [(112,21,2638,⟨2,some (bi c),[]⟩)]} 2000 1000 _ 1000000 (aA h h rfl) (by kernel_rfl) (fun _=>by kernel_rfl)
theorem NV(h9:(k==9)=false):
    HC 112 [aI,ic k o nm n p xs] (ck S) [gl 1] (ck S):=
 ag aD named {hint:=qT 112 [(12,qB h2),(14,qB h3),(40,qB h4),(55,qB h7),(63,qB h5),(68,qB h8),(87,qB h9)]} 2000 1000 _ 1000000 (aA h h rfl) (fun _=>by kernel_rfl)
end
end
theorem eB(E:TE)(l:List Ex)(eq:Bool):aB E l [] eq= .ok ():=by
 cases l<;>rfl
theorem J6{S:CK}(h:CKok S):∀(m:Nat)(e:Ex),SizeOf.sizeOf e≤m→TX S 112 [aI, .d (fW e)] (fun t=>[gl t]) (dy (S.c.te S.fs) e)
 |0, .mk _ _ _ _ _ _,hm=>by simp at hm
 |m+1, .mk k o nm n p xs,hm=>by
  have ih:∀e∈xs,TX S 112 [aI, .d (fW e)] (fun t=>[gl t]) (dy (S.c.te S.fs) e):=fun e he=>J6 h m e (by
   have:=List.sizeOf_lt_of_mem he;simp at hm;omega)
  unfold dy;cases h2:(k==2)with
  |true=>exact Lk h k o nm n p xs h2
  |false=>cases h3:(k==3)with
  |true=>
   simp only[cond_true,cond_false];have c:=K4 h nm p;revert c;cases kf (S.c.te S.fs) nm p with
   |out=>exact fun _=>trivial
   |bad q r=>exact fun c=>Ll h k o nm n p xs h2 h3 q r c
   |ok iv=>
    obtain⟨i,v⟩:=iv;intro c;show TX S _ _ _ (bif (bQ i S.c.sure.l 0).isSome then .ok v.ty else .bad p 10);cases hs:bQ i S.c.sure.l 0 with
    |none=>exact Ln h k o nm n p xs h2 h3 i v c hs
    |some j=>exact Lm h k o nm n p xs h2 h3 i v c j hs
  |false=>cases h4:(k==4)with
  |true=>
   have hk:=eq_of_beq h4;simp only[cond_true,cond_false];have c:=K6 h nm p;revert c;cases nc (S.c.te S.fs) nm p with
   |out=>exact fun _=>trivial
   |bad q r=>exact fun c=>Ig h k o nm n p xs h2 h3 h4 (by rw[hk];rfl) q r c
   |ok _=>
    intro c;match xs,ih with
    |[],_=>exact trivial
    | .mk k1 o1 nm1 n1 p1 xs1::zs,ih=>
     have c1:=nf h _ (ih (.mk k1 o1 nm1 n1 p1 xs1) (by simp)) 1;simp only[TR.bind];rw[bC];revert c1;cases b9 (S.c.te S.fs) (.mk k1 o1 nm1 n1 p1 xs1) [1]with
     |out=>exact fun _=>trivial
     |bad q r=>exact fun c1=>Ij h k o nm n p k1 o1 nm1 n1 p1 xs1 zs h2 h3 h4 q r c c1
     |ok t=>
      intro c1;simp only[TR.bind,cond_false,eB];exact Ii h k o nm n p k1 o1 nm1 n1 p1 xs1 zs h2 h3 h4 t c c1
  |false=>cases h7:(k==7)with
  |true=>
   simp only[cond_true,cond_false];have c:=K6 h nm p;revert c;cases nc (S.c.te S.fs) nm p with
   |out=>exact fun _=>trivial
   |bad q r=>exact fun c=>Ih h k o nm n p xs h2 h3 h4 h7 q r c
   |ok _=>exact fun c=>Lo h k o nm n p xs h2 h3 h4 h7 c
  |false=>cases h5:(k==5)with
  |true=>
   simp only[cond_true,cond_false];have c:=NU h k o nm n p xs ih;show TX S _ _ _ (E5 (S.c.te S.fs) nm p xs);revert c;cases E5 (S.c.te S.fs) nm p xs with
   |out=>exact fun _=>trivial
   |bad q r=>exact fun c=>Il h k o nm n p xs h2 h3 h4 h7 h5 q r c
   |ok t=>exact fun c=>Ik h k o nm n p xs h2 h3 h4 h7 h5 t c
  |false=>cases h8:(k==8)with
  |true=>
   simp only[cond_true,cond_false];match xs,ih with
   |[],_=>cases (o==21)<;>exact trivial
   | .mk k1 o1 nm1 n1 p1 xs1::zs,ih=>
    cases ho:(o==21)with
    |true=>
     have c1:=nf h _ (ih (.mk k1 o1 nm1 n1 p1 xs1) (by simp)) 2;simp only[cond_true];rw[bC];revert c1;cases hw:b9 (S.c.te S.fs) (.mk k1 o1 nm1 n1 p1 xs1) [2]with
     |out=>exact fun _=>trivial
     |bad q r=>exact fun c1=>C9 h k o nm n p k1 o1 nm1 n1 p1 xs1 zs h2 h3 h4 h7 h5 h8 ho q r c1
     |ok t=>
      intro c1;have hh:=wJ hw;simp at hh;obtain rfl:t=2:=by first|exact hh|exact hh.symm
      simp only[TR.bind,cond_false,eB];exact C8 h k o nm n p k1 o1 nm1 n1 p1 xs1 zs h2 h3 h4 h7 h5 h8 ho 2 c1
    |false=>
     have c1:=nf h _ (ih (.mk k1 o1 nm1 n1 p1 xs1) (by simp)) 1;simp only[cond_false];rw[bC];revert c1;cases hw:b9 (S.c.te S.fs) (.mk k1 o1 nm1 n1 p1 xs1) [1]with
     |out=>exact fun _=>trivial
     |bad q r=>exact fun c1=>AE h k o nm n p k1 o1 nm1 n1 p1 xs1 zs h2 h3 h4 h7 h5 h8 ho q r c1
     |ok t=>
      intro c1;have hh:=wJ hw;simp at hh;obtain rfl:t=1:=by first|exact hh|exact hh.symm
      simp only[TR.bind,cond_false,eB];exact AD h k o nm n p k1 o1 nm1 n1 p1 xs1 zs h2 h3 h4 h7 h5 h8 ho 1 c1
  |false=>cases h9:(k==9)with
  |true=>
   simp only[cond_true,cond_false];have c:=NP h k o nm n p xs ih;show TX S _ _ _ (BI (S.c.te S.fs) o xs);revert c;cases BI (S.c.te S.fs) o xs with
   |out=>exact fun _=>trivial
   |bad q r=>exact fun c=>Io h k o nm n p xs h2 h3 h4 h7 h5 h8 h9 q r c
   |ok t=>exact fun c=>Im h k o nm n p xs h2 h3 h4 h7 h5 h8 h9 t c
  |false=>exact NV h k o nm n p xs h2 h3 h4 h7 h5 h8 h9
theorem Qj{S:CK}(h:CKok S)(e:Ex):TX S 112 [aI, .d (fW e)] (fun t=>[gl t]) (dy (S.c.te S.fs) e):=J6 h _ e (Nat.le_refl _)
theorem Lp{S:CK}(h:CKok S)(e:Ex)(a:Int):WX S e [a]:=nf h e (Qj h e) a
theorem Ts{S:CK}(h:CKok S)(e:Ex)(a b:Int):WX S e [a,b]:=E2 h e (Qj h e) a b
end Go.Avm
namespace Go.Avm
open Go.Proofs
abbrev eQ(k id:Int)(nm:List UInt8)(ty n p:Int)(es:List Ex)(bd el:List bu):AV:= .d (yp (.mk k id nm ty n p es bd el))
abbrev mN(s:bu):Prop:=HC 75 [.d (yp s)] [] [.bool (kg s)] []
abbrev mO(l:List bu):Prop:=HC 50 [.d (.ro (ep l))] [] [.bool (cU l)] []
section
variable(k id:Int)(nm:List UInt8)(ty n p:Int)(es:List Ex)(bd el:List bu)
theorem SW(h:(k==6)=true):HC 75 [eQ k id nm ty n p es bd el] [] [.bool true] []:=
 qN {hint:=qT 75 [(5,qB h)]} 1000
theorem SX(h:(k==6)=false)(h4:(k==4)=false):HC 75 [eQ k id nm ty n p es bd el] [] [.bool false] []:=
 qN {hint:=qT 75 [(5,qB h),(9,qB h4)]} 1000
theorem SY(h:(k==6)=false)(h4:(k==4)=true)(c:HC 50 [.d (.ro (ep bd))] [] [.bool false] []):HC 75 [eQ k id nm ty n p es bd el] [] [.bool false] []:=
 qN {hint:=qT 75 [(5,qB h),(9,qB h4)],calls:=tC [(75,13,1252,bh rfl c)]} 1000
theorem SZ(h:(k==6)=false)(h4:(k==4)=true)(b:Bool)(c:HC 50 [.d (.ro (ep bd))] [] [.bool true] [])(c2:HC 50 [.d (.ro (ep el))] [] [.bool b] []):HC 75 [eQ k id nm ty n p es bd el] [] [.bool b] []:=
 qN {hint:=qT 75 [(5,qB h),(9,qB h4)],calls:=tC [(75,13,1252,bh rfl c),(75,18,1336,bh rfl c2)]} 1000
end
def QJ(P:Program)(m:Nat)(h0:0<m)(h:m<1000000):bZ P:= .val (dI (IntKind.i64.wrap ((m:Int)-1))) (dI ((m-1:Nat):Int)) (by
 congr 2;rw[IntWalk.i64_in _ (by omega)];omega)
def Lq(P:Program)(l:List bu)(k id:Int)(nm:List UInt8)(ty n p:Int)(es:List Ex)(bd el:List bu)(hx:l[l.length-1]? =some (.mk k id nm ty n p es bd el)):bZ P:= .idx (ep l) (((ep l).length-1:Nat):Int) (yp (.mk k id nm ty n p es bd el)) (by omega) (by
 rw[Int.toNat_natCast,md,oz,List.getElem?_map,hx];rfl)
theorem NW:HC 50 [.d (.ro (ep []))] [] [.bool false] []:=
 qN {} 1000
theorem Lr(l:List bu)(k id:Int)(nm:List UInt8)(ty n p:Int)(es:List Ex)(bd el:List bu)(b:Bool)(hl:decide ((0:Int)<((ep l).length:Int))=true)(hlt:(ep l).length<1000000)(hx:l[l.length-1]? =some (.mk k id nm ty n p es bd el))
    (c:HC 75 [eQ k id nm ty n p es bd el] [] [.bool b] []):HC 50 [.d (.ro (ep l))] [] [.bool b] []:=
 qN {hint:=qT 50 [(5,qB hl),(10,QJ Pg (ep l).length (by have:=of_decide_eq_true hl;omega) hlt),(11,Lq Pg l k id nm ty n p es bd el hx)],calls:=tC [(50,13,1165,bh rfl c)]} 1000
theorem sZ:∀(l:List bu)(s:bu),l[l.length-1]? =some s→cU l=kg s
 |[],_,h=>by cases h
 |[a],s,h=>by
  simp at h;subst h;rfl
 |a::b::r,s,h=>by
  have:=sZ (b::r) s (by simpa using h);exact this
def jr:Nat→List bu→Prop
 |0,_=>False
 |m+1,l=>l.length<1000000∧∀s∈l,match s with| .mk _ _ _ _ _ _ _ bd el=>jr m bd∧jr m el
theorem tc:∀(m:Nat)(l:List bu),jr m l→mO l
 |0,_,h=>h.elim
 |m+1,l,h=>by
  by_cases h0:l=[]
  ·subst h0
   exact NW
  ·have hpos:0<l.length:=List.length_pos_iff.2 h0
   have hx:l[l.length-1]? =some (l[l.length-1]'(by omega)):=List.getElem?_eq_getElem _;generalize l[l.length-1]'(by omega)=s at hx;obtain⟨k,id,nm,ty,n,p,es,bd,el⟩:=s;have hs:=h.2 _ (List.mem_of_getElem? hx);have e:=sZ l _ hx
   have key:mN (.mk k id nm ty n p es bd el):=by
    unfold mN kg;cases h6:(k==6)with
    |true=>exact SW k id nm ty n p es bd el h6
    |false=>cases h4:(k==4)with
     |false=>exact SX k id nm ty n p es bd el h6 h4
     |true=>
      have c:=tc m bd hs.1;revert c;unfold mO;cases cU bd with
      |false=>exact fun c=>SY k id nm ty n p es bd el h6 h4 c
      |true=>exact fun c=>SZ k id nm ty n p es bd el h6 h4 (cU el) c (tc m el hs.2)
   unfold mO;rw[e];exact Lr l k id nm ty n p es bd el _ (by simpa [md]using hpos) (by rw[md];exact h.1) hx key
theorem J7{m:Nat}{k id:Int}{nm:List UInt8}{ty n p:Int}{es:List Ex}{bd el:List bu}(hb:jr m bd)(he:jr m el):mN (.mk k id nm ty n p es bd el):=by
 unfold mN kg;cases h6:(k==6)with
 |true=>exact SW k id nm ty n p es bd el h6
 |false=>cases h4:(k==4)with
  |false=>exact SX k id nm ty n p es bd el h6 h4
  |true=>
   have c:=tc m bd hb;revert c;unfold mO;cases cU bd with
   |false=>exact fun c=>SY k id nm ty n p es bd el h6 h4 c
   |true=>exact fun c=>SZ k id nm ty n p es bd el h6 h4 (cU el) c (tc m el he)
end Go.Avm
namespace Go.Avm
open Go.Proofs
theorem uX:∀{l:hQ}{i:Nat}{e:D×D×Nat},e∈cB i l→∃p∈l,e.1= .str p.1∧e.2.1= .int .i64 (p.2:Int)∧i≤e.2.2∧e.2.2<i+l.length
 |[],_,_,h=>by cases h
 |p::r,i,e,h=>by
  simp only[cB,List.mem_cons]at h;rcases h with rfl|h
  ·exact⟨p,by simp,rfl,rfl,Nat.le_refl _,by simp⟩
  ·obtain⟨q,hq,h1,h2,h3,h4⟩:=uX h
   exact⟨q,by simp[hq],h1,h2,by omega,by simp only[List.length_cons];omega⟩
theorem td:∀(l:hQ)(i:Nat),(cB i l).map (·.1)=l.map fun p=>D.str p.1
 |[],_=>rfl
 |p::r,i=>by simp only[cB,List.map_cons,td r (i+1)]
theorem tf:∀(l:hQ)(i:Nat),(cB i l).map (·.2.2)=List.range' i l.length
 |[],_=>rfl
 |p::r,i=>by simp only[cB,List.map_cons,tf r (i+1),List.length_cons,List.range'_succ]
theorem pm:∀(l:hQ)(i:Nat),(cB i l).length=l.length
 |[],_=>rfl
 |p::r,i=>by simp only[cB,List.length_cons,pm r (i+1)]
theorem tg:∀(l:hQ)(i:Nat),oC (cB i l)=(l.map (·.2)).map fun n:Nat=>(n:Int)
 |[],_=>rfl
 |p::r,i=>by
  show(p.2:Int)::oC (cB (i+1) r)=_;rw[tg r (i+1)];rfl
theorem Da{zs:List Int}(h:zs.Pairwise (· < ·)):lC zs=zs:=by
 unfold lC;refine List.mergeSort_of_pairwise (h.imp fun {a b} hab=> ?_);simp only[decide_eq_true_eq];omega
theorem yD{S:CK}(h:CKok S):EE (cB 0 S.c.seen) S.c.seen.length:=by
 refine⟨fun e he=> ?_, ?_, ?_, ?_⟩
 ·obtain⟨p,hp,h1,h2,_,h4⟩:=uX he
  have h5:=h.nml p hp;have h6:=h.seen p hp;have h7:=h.vars;exact⟨p.1,p.2,h1,h2,by unfold maxLen;omega,by omega,by omega⟩
 ·rw[td]
  have:=h.nms;rw[List.nodup_iff_pairwise_ne,List.pairwise_map]at this ⊢;exact this.imp fun {a b} hab e=>hab (by simpa using e)
 ·rw[tf]
  exact List.nodup_range'
 ·rw[pm]
  have h1:=List.Nodup.length_le_of_subset (l₁:=S.c.seen.map (·.2)) (l₂:=List.range 255) ((List.nodup_iff_pairwise_ne.2 (h.inc.imp fun {a b} hab=>by omega))) (fun x hx=>by
   obtain⟨p,hp,rfl⟩:=List.mem_map.1 hx;have:=h.seen p hp;have:=h.vars;simp;omega)
  simp at h1;omega
abbrev Ls(S:CK)(kb:Nat):List (Nat×aN):=[(kb,⟨1,some (.arr 1 [.mp 500003 S.vs])⟩),(500003,⟨S.vs,some (.map (cB 0 S.c.seen) S.c.seen.length)⟩)]
theorem E6{S:CK}(h:CKok S)(kb:Nat)(hkb:kb≠500003)(rest:ab):ay Pg 132 [.fn 157 [.ptr kb 1 0 0 1]] (al (Ls S kb) rest) ([.ro (bW (S.c.seen.map (·.2)))].map .d) (al (Ls S kb) rest):=by
 have key:=Ia (h:=al (Ls S kb) rest) (kb:=kb) (vb:=1) (k:=500003) (v:=S.vs) (by simp[al,aM]) (by simp[al,aM,Ne.symm hkb]) (yD h)
 have e:(lC (oC (cB 0 S.c.seen))).map (D.int .i64)=bW (S.c.seen.map (·.2)):=by
  rw[tg,Da]
  ·simp[bW]
  ·rw[List.pairwise_map]
   exact h.inc.imp fun {a b} hab=>by omega
 rw[e]at key;exact key
theorem gG{S S':CK}(h:CKok S)(h':CKok S'){ex ex':List (Nat×aN)}{ar:List AV}(lt:(((ck S ++ex).map (·.1)).all fun k=>Nat.blt k 1000000)=true)(hK:ex'.map (·.1)=ex.map (·.1))(hr:([499904,500002,500003,500004,500005,500382,500191].map (dW ((ck S ++ex).map (·.1)) 1000000))=[499904,500002,500003,500004,500005,500382,500191])
    (ha:bT (dW ((ck S ++ex).map (·.1)) 1000000) ar=ar) (he:(ex.map fun p:Nat×aN=>cg (dW ((ck S ++ex).map (·.1)) 1000000) p.2)=ex.map (·.2)) (he':(ex'.map fun p:Nat×aN=>cg (dW ((ck S ++ex).map (·.1)) 1000000) p.2)=ex'.map (·.2)):
    Cln ((ck S ++ex).map (·.1)) 1000000 ar (ck S ++ex) (ck S' ++ex'):=
 ⟨lt,rfl,by rw[List.map_append,List.map_append,hK];rfl,ha,by
  have h1:=gi h hr;rw[List.map_append,List.map_append (f:=fun p:Nat×aN=>p.2),h1,he],by
  have h1:=gi h' hr;rw[List.map_append,List.map_append (f:=fun p:Nat×aN=>p.2),h1,he']⟩
abbrev Ip(S:CK)(i:Nat):List (Nat×AV):=[(0,aI),(2, .ptr 1562 1 0 0 1),(3, .ptr 2003 1 0 0 1),(20, .d (.ro (bW (S.c.seen.map (·.2))))),(21,dN (bW (S.c.seen.map (·.2))).length),(22,dN i)]
abbrev BJ(S:CK)(v:Nat)(q:List D):List (Nat×aN):=ck S ++[(2003,⟨1,some (.arr 1 [dN S.fn, .d (.ro (bW (S.c.seen.map (·.2)))), .vec 2038 v 1 q])⟩),(2038,⟨v,none⟩),(1562,⟨1,some (.arr 1 [dI 0, .nils, .nils])⟩)]
section
variable{S:CK}(h:CKok S)(v i:Nat)(q:List D)
include h
theorem NX(hi:decide (i<(bW (S.c.seen.map (·.2))).length)=false):RE 44 (lO 103 3) (Ip S i) (BJ S v q) (.exit 0) [(2, .ptr 1562 1 0 0 1),(3, .ptr 2003 1 0 0 1)] (BJ S v q):=
 dX aD named {hint:=qT 103 [(23,jO Pg i (bW (S.c.seen.map (·.2))).length false hi)]} 2000 103 2000 44 1000000 ([]) (gG h h rfl rfl rfl rfl rfl rfl) (by kernel_rfl) (by kernel_rfl) (fun _=>by kernel_rfl)
theorem QK(x:Nat)(hx:(S.c.seen.map (·.2))[i]? =some x)(hi:decide (i<(bW (S.c.seen.map (·.2))).length)=true)(hl:(bW (S.c.seen.map (·.2))).length<1000000)(hs:bQ x S.c.sure.l 0=none):RE 44 (lO 103 3) (Ip S i) (BJ S v q) .normal (Ip S (i+1)) (BJ S v q):=
 dX aD named {hint:=qT 103 [(23,jO Pg i (bW (S.c.seen.map (·.2))).length true hi),(24, .idx (bW (S.c.seen.map (·.2))) ((i:Nat):Int) (.int .i64 (x:Int)) (by omega) (by rw[bW,List.getElem?_map,Int.toNat_natCast,hx];rfl)),(32,lH Pg x S.c.sure.l none hs),(42,dk Pg i (by have:=of_decide_eq_true hi;omega))]} 2000 103 2000 44 1000000 ([]) (gG h h rfl rfl rfl rfl rfl rfl) (by kernel_rfl) (by kernel_rfl) (fun _=>by kernel_rfl)
theorem QL(x j:Nat)(hx:(S.c.seen.map (·.2))[i]? =some x)(hi:decide (i<(bW (S.c.seen.map (·.2))).length)=true)(hl:(bW (S.c.seen.map (·.2))).length<1000000)(hq:q.length<1000000)(hs:bQ x S.c.sure.l 0=some j):RE 44 (lO 103 3) (Ip S i) (BJ S v q) .normal (Ip S (i+1)) (BJ S (v+1) (q ++[.int .i64 (x:Int)])):=
 dX aD named {hint:=qT 103 [(23,jO Pg i (bW (S.c.seen.map (·.2))).length true hi),(24, .idx (bW (S.c.seen.map (·.2))) ((i:Nat):Int) (.int .i64 (x:Int)) (by omega) (by rw[bW,List.getElem?_map,Int.toNat_natCast,hx];rfl)),(32,lH Pg x S.c.sure.l (some j) hs),(40, .app q 1 (by omega)),(42,dk Pg i (by have:=of_decide_eq_true hi;omega))]} 2000 103 2000 44 1000000 ([]) (gG h h rfl rfl rfl rfl rfl rfl) (by kernel_rfl) (by kernel_rfl) (fun _=>by kernel_rfl)
end
theorem E7{S:CK}(h:CKok S):∀(m i v:Nat)(q:List Nat),(S.c.seen.map (·.2)).length-i=m→i≤(S.c.seen.map (·.2)).length→q.length≤i→∃v',RL 44 (lO 103 3) (Ip S i) (BJ S v (bW q)) (.exit 0) [(2, .ptr 1562 1 0 0 1),(3, .ptr 2003 1 0 0 1)] (BJ S v' (bW (q ++((S.c.seen.map (·.2)).drop i).filter S.c.sure.has)))
 |0,i,v,q,hm,hi,hq=>by
  have hi':i=(S.c.seen.map (·.2)).length:=by omega
  subst hi';refine⟨v,fun rest X hP hN=> ?_⟩;rw[List.drop_length,List.filter_nil,List.append_nil];exact aY (NX h v _ _ (by simp[bW]) rest X hP hN) (by simp)
 |m+1,i,v,q,hm,hi,hq=>by
  have hlt:i<(S.c.seen.map (·.2)).length:=by omega
  have hlen:(S.c.seen.map (·.2)).length<1000000:=by
   have:=(yD h).len;rw[pm]at this;have h2:(S.c.seen.map (·.2)).length=S.c.seen.length:=List.length_map _;have h3:=h.vars
   have h1:=List.Nodup.length_le_of_subset (l₁:=S.c.seen.map (·.2)) (l₂:=List.range 255) ((List.nodup_iff_pairwise_ne.2 (h.inc.imp fun {a b} hab=>by omega))) (fun x hx=>by
    obtain⟨p,hp,rfl⟩:=List.mem_map.1 hx;have:=h.seen p hp;simp;omega)
   rw[List.length_range]at h1;omega
  have hx:(S.c.seen.map (·.2))[i]? =some (S.c.seen.map (·.2))[i]:=List.getElem?_eq_getElem hlt;rw[List.drop_eq_getElem_cons hlt];generalize (S.c.seen.map (·.2))[i]=x at hx
  have hi2:decide (i<(bW (S.c.seen.map (·.2))).length)=true:=by
   have:(bW (S.c.seen.map (·.2))).length=(S.c.seen.map (·.2)).length:=List.length_map _;rw[this];simpa using hlt
  have hl2:(bW (S.c.seen.map (·.2))).length<1000000:=by
   have:(bW (S.c.seen.map (·.2))).length=(S.c.seen.map (·.2)).length:=List.length_map _;rw[this];exact hlen
  cases hs:bQ x S.c.sure.l 0 with
  |none=>
   obtain⟨v',hv⟩:=E7 h m (i+1) v q (by omega) hlt (by omega);have hh:S.c.sure.has x=false:=by unfold SureL.has;rw[hs];rfl
   rw[List.filter_cons,hh];exact⟨v',fun rest X hP hN=>ba (QK h v i (bW q) x hx hi2 hl2 hs rest X hP hN) (hv rest X hP hN)⟩
  |some j=>
   obtain⟨v',hv⟩:=E7 h m (i+1) (v+1) (q ++[x]) (by omega) hlt (by simp;omega);have hh:S.c.sure.has x=true:=by unfold SureL.has;rw[hs];rfl
   rw[List.filter_cons,hh];refine⟨v',fun rest X hP hN=>ba (QL h v i (bW q) x j hx hi2 hl2 (by simp[bW];omega) hs rest X hP hN) ?_⟩;have:=hv rest X hP hN;rw[List.append_assoc]at this;have e:bW (q ++[x])=bW q ++[.int .i64 (x:Int)]:=by simp[bW]
   rw[e]at this;exact this
theorem NY(v:Nat):∀rest:ab,ay Pg 133 [.mp 500003 v] (al [(1941,⟨0,none⟩)] rest) [.fn 157 [.ptr 1941 1 0 0 1]] (al [(1941,⟨1,some (.arr 1 [.mp 500003 v])⟩)] rest):=fun rest=>
 ap aD named {} 2000 1940 _ (by kernel_rfl)
noncomputable def QM{S:CK}{q:List D}{v':Nat}(h:RL 44 (lO 103 3) (Ip S 0) (BJ S 0 []) (.exit 0) [(2, .ptr 1562 1 0 0 1),(3, .ptr 2003 1 0 0 1)] (BJ S v' q)):d7 Pg:=
 ⟨44,bO Pg 103 3,Ip S 0,fun _=>BJ S 0 [], .exit 0,[(2, .ptr 1562 1 0 0 1),(3, .ptr 2003 1 0 0 1)],fun _=>BJ S v' q,fun rest X hP hN=>(h rest X hP hN).aw⟩
theorem E8{S:CK}(h:CKok S)(q:List D)(v':Nat)(hl:RL 44 (lO 103 3) (Ip S 0) (BJ S 0 []) (.exit 0) [(2, .ptr 1562 1 0 0 1),(3, .ptr 2003 1 0 0 1)] (BJ S v' q)):
    HC 103 [aI] (ck S) [.agg [.int .i64 (S.fn:Int), .ro (bW (S.c.seen.map (·.2))), .ro q]] (ck S):=
 ag aD named {loops:=fun f q=>if f=103 then (if q=3 then some (QM hl)else none)else none,nils:=fun f r=>if f=103 then (if r=2 then some {k:=2003,i:=2,K:=2038,sz:=1}else none)else none,calls:=tC [(103,16,1956,af (NY S.vs)),(103,17,1956,bh rfl (E6 h 1941 (by omega)))]} 2000 1560 _ 1000000 (aA h h rfl) (fun _=>by kernel_rfl)
theorem Lt{S:CK}(h:CKok S):HC 103 [aI] (ck S) [ED (S.c.pt S.fn)] (ck S):=by
 obtain⟨v',hv⟩:=E7 h _ 0 0 [] rfl (Nat.zero_le _) (Nat.zero_le _);rw[List.drop_zero,List.nil_append]at hv;exact E8 h _ v' hv
end Go.Avm
namespace Go.Avm
open Go.Proofs
theorem yE:∀(l:List Vr)(i:Nat)(v:Vr),gF i (l ++[v])=gF i l ++[(.str v.nm, .agg [],i+l.length)]
 |[],_,_=>rfl
 |a::r,i,v=>by
  simp only[List.cons_append,gF,yE r (i+1) v,List.length_cons];rw[show i+1+r.length=i+(r.length+1) by omega]
theorem uY:∀(l:hQ)(i:Nat)(p:List UInt8×Nat),cB i (l ++[p])=cB i l ++[(.str p.1, .int .i64 (p.2:Int),i+l.length)]
 |[],_,_=>rfl
 |a::r,i,p=>by
  simp only[List.cons_append,cB,uY r (i+1) p,List.length_cons];rw[show i+1+r.length=i+(r.length+1) by omega]
abbrev Lu(S:CK)(nm:List UInt8)(ty n st:Int):List (Nat×aN):=
 [(500000,⟨1,some (.arr 1 (BG S))⟩),(499904,⟨1,some (.map (kD 0 S.fs) S.fs.length)⟩),(500002,⟨S.vh,some (.map (gF 0 S.c.vars ++[(.str nm, .agg [],S.c.vars.length)]) (S.c.vars.length+1))⟩),(500003,⟨S.vs,some (.map (cB 0 S.c.seen ++[(.str nm, .int .i64 (S.c.vars.length:Int),S.c.seen.length)]) (S.c.seen.length+1))⟩),
  (500004,⟨S.vq,some (.map (bc S.c.sure.l) S.c.sure.c)⟩),(500005,⟨S.vv+1,some (.arr 4 ((S.c.vars.map zv).take S.c.vars.length ++[.d (.agg [.str nm, .int .u8 ty, .int .i64 n, .int .i64 st])]))⟩),(500382,⟨S.vp,some (.arr 3 (S.c.pts.map ct))⟩),(500191,⟨1,some (.arr 1 ((S.W.set S.fn (lG S.vv S.c.vars)).set (0+(S.fn:Int).toNat) (.sl 500005 (S.vv+1) 0 (S.c.vars.length+1) 4)))⟩)]
def CK.add(S:CK)(v:Vr):CK:={S with c:=S.c.add v,vv:=S.vv+1}
theorem BK(S:CK)(nm:List UInt8)(ty n st:Int):Lu S nm ty n st=ck (S.add ⟨nm,ty,n,st⟩):=by
 have e1:(S.c.vars.map zv).take S.c.vars.length=S.c.vars.map zv:=List.take_of_length_le (by simp);simp only[Lu,ck,BG,CK.add,CS.add,e1,yE,uY,List.length_append,List.length_cons,List.length_nil,List.map_append,List.map_cons,List.map_nil,Nat.zero_add,Int.toNat_natCast,List.set_set,lG];rfl
theorem th{S:CK}(h:CKok S):∀rest:ab,ay Pg 73 [aI] (al (ck S) rest) [lG S.vv S.c.vars] (al (ck S) rest):=fun rest=>
 ap aD named {hint:=qT 73 [(12,QB Pg h),(13,K2 Pg h)]} 2000 1000 _ (by kernel_rfl)
theorem Lv{S:CK}(h:CKok S)(nm:List UInt8)(ty n st:Int)(hn:(S.c.vars.any fun v=>v.nm==nm)=false)(hs:eA nm S.c.seen 0=none)(h':CKok (S.add ⟨nm,ty,n,st⟩)):
    HC 48 [aI, .d (.agg [.str nm, .int .u8 ty, .int .i64 n, .int .i64 st])] (ck S) [.int .i64 (S.c.vars.length:Int)] (Lu S nm ty n st):=
 ag aD named {hint:=qT 48 [(22, .apps (S.c.vars.map zv) S.c.vars.length 1 ⟨by simp,by have:=h.vars;omega⟩),(23,QB Pg h),(102015,K2 Pg h),(103007, .look (.str nm) (gF 0 S.c.vars) none (fe nm _ 0 0 hn)),(104007,EZ Pg nm S.c.seen none hs)],calls:=tC [(48,7,1117,bh rfl (th h)),(48,19,1585,bh rfl (th h))]} 2000 1000 _ 1000000 (BK S nm ty n st▸aA h h' rfl) (fun _=>by kernel_rfl)
end Go.Avm
namespace Go.Avm
open Go.Proofs
theorem Iq{S:CK}(h:CKok S)(nm:List UInt8)(ty n st:Int)(hn:(S.c.vars.any fun v=>v.nm==nm)=false)(hs:eA nm S.c.seen 0=none)(h':CKok (S.add ⟨nm,ty,n,st⟩)):
    HC 48 [aI, .d (.agg [.str nm, .int .u8 ty, .int .i64 n, .int .i64 st])] (ck S) [.int .i64 (S.c.vars.length:Int)] (ck (S.add ⟨nm,ty,n,st⟩)):=by
 rw[←BK];exact Lv h nm ty n st hn hs h'
abbrev Ir(S:CK)(qe:List (D×D×Nat))(qc:Nat):List (Nat×aN):=
 [(500000,⟨1,some (.arr 1 (BG S))⟩),(499904,⟨1,some (.map (kD 0 S.fs) S.fs.length)⟩),(500002,⟨S.vh,some (.map (gF 0 S.c.vars) S.c.vars.length)⟩),(500003,⟨S.vs,some (.map (cB 0 S.c.seen) S.c.seen.length)⟩),
  (500004,⟨S.vq,some (.map qe qc)⟩),(500005,⟨S.vv,some (.arr 4 (S.c.vars.map zv))⟩),(500382,⟨S.vp,some (.arr 3 (S.c.pts.map ct))⟩),(500191,⟨1,some (.arr 1 (S.W.set S.fn (lG S.vv S.c.vars)))⟩)]
def CK.put(S:CK)(i:Nat):CK:={S with c:={S.c with sure:=S.c.sure.put i}}
theorem wK{S:CK}{i:Nat}(hi:bQ i S.c.sure.l 0=none):Ir S (bc S.c.sure.l ++[(.int .i64 (i:Int), .agg [],S.c.sure.c)]) (S.c.sure.c+1)=ck (S.put i):=by
 have e:S.c.sure.put i=⟨S.c.sure.l ++[(i,S.c.sure.c)],S.c.sure.c+1⟩:=by
  unfold SureL.put SureL.has;rw[hi];rfl
 simp only[Ir,ck,BG,CK.put,e,bc,List.map_append,List.map_cons,List.map_nil]
theorem N0{S S':CK}(h:CKok S)(h':CKok S'){ar:List AV}(qe:List (D×D×Nat))(qc:Nat)(ha:bT (dW ((ck S).map (·.1)) 1000000) ar=ar):Cln ((ck S).map (·.1)) 1000000 ar (ck S) (Ir S' qe qc):=
 ⟨rfl,rfl,rfl,ha,gi h rfl,by
  have h1:=gi h' (ρ:=dW ((ck S).map (·.1)) 1000000) rfl;simp only[ck,List.map_cons,List.map_nil,List.cons.injEq,and_true]at h1;obtain⟨a1,a2,a3,a4,a5,a6,a7,a8⟩:=h1;simp only[Ir,List.map_cons,List.map_nil,a1,a2,a3,a4,a6,a7,a8];rfl⟩
abbrev Tt(k id:Int)(nm:List UInt8)(ty n p:Int)(es:List Ex)(bd el:List bu):List AV:=[Qi k,dI id, .d (.str nm),Qi ty,dI n,dI p, .d (.ro (i7 es)), .d (.ro (ep bd)), .d (.ro (ep el))]
abbrev Db(k id:Int)(nm:List UInt8)(ty n p:Int)(es:List Ex)(bd el:List bu):Nat×aN:=(2003,⟨1,some (.arr 1 (Tt k id nm ty n p es bd el))⟩)
abbrev HK(es:List Ex)(i:Nat):List (Nat×AV):=[(0,aI),(3, .ptr 2003 1 0 0 1),(11, .d (.ro (i7 es))),(12,dN (i7 es).length),(13,dN i)]
section
variable{S:CK}(h:CKok S)(k id:Int)(nm:List UInt8)(ty n p:Int)(es:List Ex)(bd el:List bu)(i:Nat)
include h
theorem N3(hi:decide (i<(i7 es).length)=false):RE 100 (lO 104 2) (HK es i) (ck S ++[Db k id nm ty n p es bd el]) (.exit 0) [(0,aI),(3, .ptr 2003 1 0 0 1)] (ck S ++[Db k id nm ty n p es bd el]):=
 dX aD named {hint:=qT 104 [(14,jO Pg i (i7 es).length false hi)]} 2000 104 2000 100 1000000 ([]) (gG h h rfl rfl rfl rfl rfl rfl) (by kernel_rfl) (by kernel_rfl) (fun _=>by kernel_rfl)
theorem N4(hi:decide (i<(i7 es).length)=true)(hl:(i7 es).length<1000000)(k1 o1:Int)(nm1:List UInt8)(n1 p1:Int)(xs1:List Ex)(hx:es[i]? =some (.mk k1 o1 nm1 n1 p1 xs1))(t:Int)(c:mq S (.mk k1 o1 nm1 n1 p1 xs1) [ty] t):
    RE 100 (lO 104 2) (HK es i) (ck S ++[Db k id nm ty n p es bd el]) .normal (HK es (i+1)) (ck S ++[Db k id nm ty n p es bd el]):=
 dX aD named {hint:=qT 104 [(14,jO Pg i (i7 es).length true hi),(15, .idx (i7 es) ((i:Nat):Int) (fW (.mk k1 o1 nm1 n1 p1 xs1)) (by omega) (by simp[mc,hx])),(23,dk Pg i (by have:=of_decide_eq_true hi;omega))],calls:=tC [(104,22,3000,bh rfl (wO c 2921))]} 2000 104 2000 100 1000000 ([]) (gG h h rfl rfl rfl rfl rfl rfl) (by kernel_rfl) (by kernel_rfl) (fun _=>by kernel_rfl)
theorem N5(hi:decide (i<(i7 es).length)=true)(k1 o1:Int)(nm1:List UInt8)(n1 p1:Int)(xs1:List Ex)(hx:es[i]? =some (.mk k1 o1 nm1 n1 p1 xs1))(u r:Int)(c:i8 S (.mk k1 o1 nm1 n1 p1 xs1) [ty] u r):
    RE 100 (lO 104 2) (HK es i) (ck S ++[Db k id nm ty n p es bd el]) (.panic (aH u r)) [] (ck S ++[(2003,⟨1,none⟩)]):=
 dX aD named {hint:=qT 104 [(14,jO Pg i (i7 es).length true hi),(15, .idx (i7 es) ((i:Nat):Int) (fW (.mk k1 o1 nm1 n1 p1 xs1)) (by omega) (by simp[mc,hx]))],pans:=au Pg [(104,4,2500,⟨5,some (bi (wP c 2921)),[]⟩)]} 2000 104 2000 100 1000000 ([]) (gG h h rfl rfl rfl rfl rfl rfl) (by kernel_rfl) (by kernel_rfl) (fun _=>by kernel_rfl)
end
def QN(S:CK)(k id:Int)(nm:List UInt8)(ty n p:Int)(es:List Ex)(bd el:List bu)(i:Nat):TR Unit→Prop
 | .ok _=>RL 100 (lO 104 2) (HK es i) (ck S ++[Db k id nm ty n p es bd el]) (.exit 0) [(0,aI),(3, .ptr 2003 1 0 0 1)] (ck S ++[Db k id nm ty n p es bd el])
 | .bad u r=>RL 100 (lO 104 2) (HK es i) (ck S ++[Db k id nm ty n p es bd el]) (.panic (aH u r)) [] (ck S ++[(2003,⟨1,none⟩)])
 | .out=>True
theorem J8{S:CK}(h:CKok S)(k id:Int)(nm:List UInt8)(ty n p:Int)(es:List Ex)(bd el:List bu)(hl:es.length<1000000):
    ∀(m i:Nat),es.length-i=m→i≤es.length→QN S k id nm ty n p es bd el i (aB (S.c.te S.fs) (es.drop i) ((es.drop i).map fun _=>[ty]) false)
 |0,i,hm,hi=>by
  have hi':i=es.length:=by omega
  subst hi';rw[List.drop_length];exact fun rest X hP hN=>aY (N3 h k id nm ty n p es bd el es.length (by simp[dY]) rest X hP hN) (by simp)
 |m+1,i,hm,hi=>by
  have hlt:i<es.length:=by omega
  have hx:es[i]? =some es[i]:=List.getElem?_eq_getElem hlt;rw[List.drop_eq_getElem_cons hlt];generalize es[i]=e at hx;have c:=Lp h e ty;obtain⟨k1,o1,nm1,n1,p1,xs1⟩:=e;rw[List.map_cons,bC];revert c;unfold WX;cases b9 (S.c.te S.fs) (.mk k1 o1 nm1 n1 p1 xs1) [ty]with
  |out=>exact fun _=>trivial
  |bad u r=>exact fun c rest X hP hN=>aY (N5 h k id nm ty n p es bd el i (by simpa [dY]using hlt) k1 o1 nm1 n1 p1 xs1 hx u r c rest X hP hN) (by simp)
  |ok t=>
   intro c;have hn:=J8 h k id nm ty n p es bd el hl m (i+1) (by omega) hlt;simp only[TR.bind,cond_false];revert hn;cases aB (S.c.te S.fs) (es.drop (i+1)) ((es.drop (i+1)).map fun _=>[ty]) false with
   |out=>exact fun _=>trivial
   |bad u r=>exact fun hn rest X hP hN=>ba (N4 h k id nm ty n p es bd el i (by simpa [dY]using hlt) (by rw[dY];exact hl) k1 o1 nm1 n1 p1 xs1 hx t c rest X hP hN) (hn rest X hP hN)
   |ok _=>exact fun hn rest X hP hN=>ba (N4 h k id nm ty n p es bd el i (by simpa [dY]using hlt) (by rw[dY];exact hl) k1 o1 nm1 n1 p1 xs1 hx t c rest X hP hN) (hn rest X hP hN)
noncomputable def ur{S:CK}{k id:Int}{nm:List UInt8}{ty n p:Int}{es:List Ex}{bd el:List bu}{x:aG}{l':List (Nat×AV)}{hp':List (Nat×aN)}(h:RL 100 (lO 104 2) (HK es 0) (ck S ++[Db k id nm ty n p es bd el]) x l' hp'):d7 Pg:=
 ⟨100,bO Pg 104 2,HK es 0,fun _=>ck S ++[Db k id nm ty n p es bd el],x,l',fun _=>hp',fun rest X hP hN=>(h rest X hP hN).aw⟩
abbrev Lw(S:CK)(k id:Int)(nm:List UInt8)(ty n p:Int)(es:List Ex)(bd el:List bu):Prop:=RL 100 (lO 104 2) (HK es 0) (ck S ++[Db k id nm ty n p es bd el]) (.exit 0) [(0,aI),(3, .ptr 2003 1 0 0 1)] (ck S ++[Db k id nm ty n p es bd el])
section
variable{S:CK}(h:CKok S)(k id:Int)(nm:List UInt8)(ty n p:Int)(es:List Ex)(bd el:List bu)
include h
section
variable(hl:Lw S k id nm ty n p es bd el)
include hl
theorem E9(q:Nat)(hq:b8 (.str nm) (gF 0 S.c.vars) 0=some (some (q, .agg []))):
    HX 104 [aI,eQ k id nm ty n p es bd el] (ck S) (aH p 7) (ck S):=
 ae aD named {loops:=fun f q=>if f=104 then (if q=2 then some (ur hl)else none)else none,hint:=qT 104 [(31, .look (.str nm) (gF 0 S.c.vars) (some (q, .agg [])) hq)],pans:=au Pg [(104,7,3800,⟨4,some (bi (bU p 7)),[]⟩)]} 2000 2000 _ 1000000 (aA h h rfl) (by kernel_rfl) (fun _=>by kernel_rfl)
theorem Is(hn:(S.c.vars.any fun v=>v.nm==nm)=false)(h3:(ty==3)=true)(hd:(S.deep==0)=false):
    HX 104 [aI,eQ k id nm ty n p es bd el] (ck S) (aH p 3) (ck S):=
 ae aD named {loops:=fun f q=>if f=104 then (if q=2 then some (ur hl)else none)else none,hint:=qT 104 [(31, .look (.str nm) (gF 0 S.c.vars) none (fe nm _ 0 0 hn)),(41,qB h3),(49,qB hd)],calls:=tC [(104,38,4200,bh rfl (aP p 7))],pans:=au Pg [(104,9,4600,⟨11,some (bi (bU p 3)),[]⟩)]} 2000 2000 _ 1000000 (aA h h rfl) (by kernel_rfl) (fun _=>by kernel_rfl)
theorem Lx(hn:(S.c.vars.any fun v=>v.nm==nm)=false)(h3:(ty==3)=true)(hd:(S.deep==0)=true)(h1:decide (1≤n)=false):
    HX 104 [aI,eQ k id nm ty n p es bd el] (ck S) (aH p 1) (ck S):=
 ae aD named {loops:=fun f q=>if f=104 then (if q=2 then some (ur hl)else none)else none,hint:=qT 104 [(31, .look (.str nm) (gF 0 S.c.vars) none (fe nm _ 0 0 hn)),(41,qB h3),(49,qB hd),(59,qB h1)],calls:=tC [(104,38,4200,bh rfl (aP p 7)),(104,53,5700,bh rfl (aP p 3))],pans:=au Pg [(104,10,5700,⟨14,some (bi (bU p 1)),[]⟩)]} 2000 2000 _ 1000000 (aA h h rfl) (by kernel_rfl) (fun _=>by kernel_rfl)
theorem It(hn:(S.c.vars.any fun v=>v.nm==nm)=false)(h3:(ty==3)=true)(hd:(S.deep==0)=true)(h1:decide (1≤n)=true)(h2:decide (n≤256)=false):
    HX 104 [aI,eQ k id nm ty n p es bd el] (ck S) (aH p 1) (ck S):=
 ae aD named {loops:=fun f q=>if f=104 then (if q=2 then some (ur hl)else none)else none,hint:=qT 104 [(31, .look (.str nm) (gF 0 S.c.vars) none (fe nm _ 0 0 hn)),(41,qB h3),(49,qB hd),(59,qB h1),(63,qB h2)],calls:=tC [(104,38,4200,bh rfl (aP p 7)),(104,53,5700,bh rfl (aP p 3))],pans:=au Pg [(104,10,5700,⟨14,some (bi (bU p 1)),[]⟩)]} 2000 2000 _ 1000000 (aA h h rfl) (by kernel_rfl) (fun _=>by kernel_rfl)
theorem Fa(hn:(S.c.vars.any fun v=>v.nm==nm)=false)(h3:(ty==3)=true)(hd:(S.deep==0)=true)(h1:decide (1≤n)=true)(h2:decide (n≤256)=true)(hv:decide ((S.c.vars.length:Int)<255)=false):
    HX 104 [aI,eQ k id nm ty n p es bd el] (ck S) (aH p 2) (ck S):=
 ae aD named {loops:=fun f q=>if f=104 then (if q=2 then some (ur hl)else none)else none,hint:=qT 104 [(31, .look (.str nm) (gF 0 S.c.vars) none (fe nm _ 0 0 hn)),(41,qB h3),(49,qB hd),(59,qB h1),(63,qB h2),(72,qB hv)],calls:=tC [(104,38,4200,bh rfl (aP p 7)),(104,53,5700,bh rfl (aP p 3)),(104,68,7100,bh rfl (aP p 1)),(104,70,7200,bh rfl (th h))],pans:=au Pg [(104,11,7100,⟨6,some (bi (bU p 2)),[]⟩)]} 2000 2000 _ 1000000 (aA h h rfl) (by kernel_rfl) (fun _=>by kernel_rfl)
theorem Fb(hn:(S.c.vars.any fun v=>v.nm==nm)=false)(h3:(ty==3)=false)(hv:decide ((S.c.vars.length:Int)<255)=false):
    HX 104 [aI,eQ k id nm ty n p es bd el] (ck S) (aH p 2) (ck S):=
 ae aD named {loops:=fun f q=>if f=104 then (if q=2 then some (ur hl)else none)else none,hint:=qT 104 [(31, .look (.str nm) (gF 0 S.c.vars) none (fe nm _ 0 0 hn)),(41,qB h3),(72,qB hv)],calls:=tC [(104,38,4200,bh rfl (aP p 7)),(104,53,5200,bh rfl (aP p 3)),(104,68,5800,bh rfl (aP p 1)),(104,70,5900,bh rfl (th h))],pans:=au Pg [(104,11,5800,⟨6,some (bi (bU p 2)),[]⟩)]} 2000 2000 _ 1000000 (aA h h rfl) (by kernel_rfl) (fun _=>by kernel_rfl)
end
theorem N6(u r:Int)(hl:RL 100 (lO 104 2) (HK es 0) (ck S ++[Db k id nm ty n p es bd el]) (.panic (aH u r)) [] (ck S ++[(2003,⟨1,none⟩)])):
    HX 104 [aI,eQ k id nm ty n p es bd el] (ck S) (aH u r) (ck S):=
 ae aD named ({loops:=fun f q=>if f=104 then (if q=2 then some (ur hl)else none)else none}) 2000 2000 _ 1000000 (aA h h rfl) (by kernel_rfl) (fun _=>by kernel_rfl)
section
variable(hl:Lw S k id nm ty n p es bd el)(hn:(S.c.vars.any fun v=>v.nm==nm)=false)(hs:eA nm S.c.seen 0=none)(h':CKok (S.add ⟨nm,ty,n,id⟩))(hv:decide ((S.c.vars.length:Int)<255)=true)
include hl hn hs h' hv
theorem Ly(h3:(ty==3)=false)(h0:decide ((0:Int)<((i7 es).length:Int))=false):
    HC 104 [aI,eQ k id nm ty n p es bd el] (ck S) [] (ck (S.add ⟨nm,ty,n,id⟩)):=
 ag aD named {loops:=fun f q=>if f=104 then (if q=2 then some (ur hl)else none)else none,hint:=qT 104 [(31, .look (.str nm) (gF 0 S.c.vars) none (fe nm _ 0 0 hn)),(41,qB h3),(72,qB hv),(92,qB h0)],calls:=tC [(104,38,4200,bh rfl (aP p 7)),(104,53,5200,bh rfl (aP p 3)),(104,68,5800,bh rfl (aP p 1)),(104,70,5900,bh rfl (th h)),(104,75,6300,bh rfl (aP p 2)),(104,86,7300,af (Iq h nm ty n id hn hs h'))]} 2000 2000 _ 1000000 (aA h h' rfl) (fun _=>by kernel_rfl)
theorem Lz(h3:(ty==3)=false)(h0:decide ((0:Int)<((i7 es).length:Int))=true)(hq:bQ S.c.vars.length S.c.sure.l 0=none):
    HC 104 [aI,eQ k id nm ty n p es bd el] (ck S) [] (Ir (S.add ⟨nm,ty,n,id⟩) (bc S.c.sure.l ++[(.int .i64 (S.c.vars.length:Int), .agg [],S.c.sure.c)]) (S.c.sure.c+1)):=
 ag aD named {loops:=fun f q=>if f=104 then (if q=2 then some (ur hl)else none)else none,hint:=qT 104 [(31, .look (.str nm) (gF 0 S.c.vars) none (fe nm _ 0 0 hn)),(41,qB h3),(72,qB hv),(92,qB h0),(114006,lH Pg S.c.vars.length S.c.sure.l none hq)],calls:=tC [(104,38,4200,bh rfl (aP p 7)),(104,53,5200,bh rfl (aP p 3)),(104,68,5800,bh rfl (aP p 1)),(104,70,5900,bh rfl (th h)),(104,75,6300,bh rfl (aP p 2)),(104,86,7300,af (Iq h nm ty n id hn hs h'))]} 2000 2000 _ 1000000 (N0 h h' _ _ rfl) (fun _=>by kernel_rfl)
theorem LA(h3:(ty==3)=true)(hd:(S.deep==0)=true)(h1:decide (1≤n)=true)(h2:decide (n≤256)=true)(hq:bQ S.c.vars.length S.c.sure.l 0=none):
    HC 104 [aI,eQ k id nm ty n p es bd el] (ck S) [] (Ir (S.add ⟨nm,ty,n,id⟩) (bc S.c.sure.l ++[(.int .i64 (S.c.vars.length:Int), .agg [],S.c.sure.c)]) (S.c.sure.c+1)):=
 ag aD named {loops:=fun f q=>if f=104 then (if q=2 then some (ur hl)else none)else none,hint:=qT 104 [(31, .look (.str nm) (gF 0 S.c.vars) none (fe nm _ 0 0 hn)),(41,qB h3),(49,qB hd),(59,qB h1),(63,qB h2),(72,qB hv),(114006,lH Pg S.c.vars.length S.c.sure.l none hq)],calls:=tC [(104,38,4200,bh rfl (aP p 7)),(104,53,5700,bh rfl (aP p 3)),(104,68,7100,bh rfl (aP p 1)),(104,70,7200,bh rfl (th h)),(104,75,7600,bh rfl (aP p 2)),(104,86,8600,af (Iq h nm ty n id hn hs h'))]} 2000 2000 _ 1000000 (N0 h h' _ _ rfl) (fun _=>by kernel_rfl)
end
end
end Go.Avm
namespace Go.Avm
open Go.Proofs
theorem oH(x:Ex)(zs:List Ex):decide ((0:Int)<((i7 (x::zs)).length:Int))=true:=by
 rw[dY,List.length_cons];exact decide_eq_true (by omega)
section
variable{S:CK}(h:CKok S)(k id:Int)(nm:List UInt8)(ty n p:Int)(k1 o1:Int)(nm1:List UInt8)(n1 p1:Int)(xs1 zs:List Ex)(bd el:List bu)(f:Fn)(hf:S.fs[S.fn]? =some f)
include h hf
theorem LB(h0:(f.res !=0)=false):HC 111 [aI,eQ k id nm ty n p [] bd el] (ck S) [] (ck S):=
 ag aD named {hint:=qT 111 [(14, .idx (S.fs.map cW) (S.fn:Int) (cW f) (by omega) (by simp[hf])),(19,qB h0)]} 2000 1000 _ 1000000 (aA h h rfl) (fun _=>by kernel_rfl)
theorem LC(h0:(f.res !=0)=true):HX 111 [aI,eQ k id nm ty n p [] bd el] (ck S) (aH p 8) (ck S):=
 ae aD named {hint:=qT 111 [(14, .idx (S.fs.map cW) (S.fn:Int) (cW f) (by omega) (by simp[hf])),(19,qB h0)],pans:=au Pg [(111,3,1901,⟨6,some (bi (bU p 8)),[]⟩)]} 2000 1000 _ 1000000 (aA h h rfl) (by kernel_rfl) (fun _=>by kernel_rfl)
theorem QO(h0:(f.res !=0)=true)(t:Int)(c:mq S (.mk k1 o1 nm1 n1 p1 xs1) [f.res] t):HC 111 [aI,eQ k id nm ty n p (.mk k1 o1 nm1 n1 p1 xs1::zs) bd el] (ck S) [] (ck S):=
 ag aD named {hint:=qT 111 [(14, .idx (S.fs.map cW) (S.fn:Int) (cW f) (by omega) (by simp[hf])),(19,qB h0),(23,hB Pg (decide ((0:Int)<((i7 (.mk k1 o1 nm1 n1 p1 xs1::zs)).length:Int))) true (oH _ _))],calls:=tC [(111,26,2219,bh rfl (aP p 8)),(111,34,2590,bh rfl (wO c 2570))]} 2000 1000 _ 1000000 (aA h h rfl) (fun _=>by kernel_rfl)
theorem N7(h0:(f.res !=0)=true)(u r:Int)(c:i8 S (.mk k1 o1 nm1 n1 p1 xs1) [f.res] u r):HX 111 [aI,eQ k id nm ty n p (.mk k1 o1 nm1 n1 p1 xs1::zs) bd el] (ck S) (aH u r) (ck S):=
 ae aD named {hint:=qT 111 [(14, .idx (S.fs.map cW) (S.fn:Int) (cW f) (by omega) (by simp[hf])),(19,qB h0),(23,hB Pg (decide ((0:Int)<((i7 (.mk k1 o1 nm1 n1 p1 xs1::zs)).length:Int))) true (oH _ _))],calls:=tC [(111,26,2219,bh rfl (aP p 8))],pans:=au Pg [(111,4,2219,⟨7,some (bi (wP c 2570)),[]⟩)]} 2000 1000 _ 1000000 (aA h h rfl) (by kernel_rfl) (fun _=>by kernel_rfl)
theorem Iu(h0:(f.res !=0)=false)(u r:Int)(c:HX 112 [aI,ic k1 o1 nm1 n1 p1 xs1] (ck S) (aH u r) (ck S)):HX 111 [aI,eQ k id nm ty n p (.mk k1 o1 nm1 n1 p1 xs1::zs) bd el] (ck S) (aH u r) (ck S):=
 ae aD named {hint:=qT 111 [(14, .idx (S.fs.map cW) (S.fn:Int) (cW f) (by omega) (by simp[hf])),(19,qB h0),(39,hB Pg (decide ((0:Int)<((i7 (.mk k1 o1 nm1 n1 p1 xs1::zs)).length:Int))) true (oH _ _))],pans:=au Pg [(111,6,2166,⟨5,some (bi c),[]⟩)]} 2000 1000 _ 1000000 (aA h h rfl) (by kernel_rfl) (fun _=>by kernel_rfl)
theorem LD(h0:(f.res !=0)=false)(t:Int)(c:HC 112 [aI,ic k1 o1 nm1 n1 p1 xs1] (ck S) [gl t] (ck S)):HX 111 [aI,eQ k id nm ty n p (.mk k1 o1 nm1 n1 p1 xs1::zs) bd el] (ck S) (aH p1 8) (ck S):=
 ae aD named {hint:=qT 111 [(14, .idx (S.fs.map cW) (S.fn:Int) (cW f) (by omega) (by simp[hf])),(19,qB h0),(39,hB Pg (decide ((0:Int)<((i7 (.mk k1 o1 nm1 n1 p1 xs1::zs)).length:Int))) true (oH _ _))],calls:=tC [(111,45,2431,bh rfl c)],pans:=au Pg [(111,7,2431,⟨7,none,[]⟩)]} 2000 1000 _ 1000000 (aA h h rfl) (by kernel_rfl) (fun _=>by kernel_rfl)
end
def TS(S:CK)(f:Nat)(args:List AV):TR CS→Prop
 | .ok c=>c=S.c∧HC f args (ck S) [] (ck S)
 | .bad p e=>HX f args (ck S) (aH p e) (ck S)
 | .out=>True
theorem N8{S:CK}(h:CKok S)(k id:Int)(nm:List UInt8)(ty n p:Int)(es:List Ex)(bd el:List bu):TS S 111 [aI,eQ k id nm ty n p es bd el] (gR S.fs S.fn p es S.c):=by
 unfold gR;cases hf:S.fs[S.fn]? with
 |none=>exact trivial
 |some f=>
  simp only;cases h0:(f.res==0)with
  |true=>
   have h1:(f.res !=0)=false:=by simp[bne,h0]
   simp only[cond_true];match es with
   |[]=>exact⟨rfl,LB h k id nm ty n p bd el f hf h1⟩
   | .mk k1 o1 nm1 n1 p1 xs1::zs=>
    have c:=Qj h (.mk k1 o1 nm1 n1 p1 xs1);simp only;revert c;cases dy (S.c.te S.fs) (.mk k1 o1 nm1 n1 p1 xs1)with
    |out=>exact fun _=>trivial
    |bad u r=>exact fun c=>Iu h k id nm ty n p k1 o1 nm1 n1 p1 xs1 zs bd el f hf h1 u r c
    |ok t=>exact fun c=>LD h k id nm ty n p k1 o1 nm1 n1 p1 xs1 zs bd el f hf h1 t c
  |false=>
   have h1:(f.res !=0)=true:=by simp[bne,h0]
   simp only[cond_false];match es with
   |[]=>exact LC h k id nm ty n p bd el f hf h1
   | .mk k1 o1 nm1 n1 p1 xs1::zs=>
    have c:=Lp h (.mk k1 o1 nm1 n1 p1 xs1) f.res;simp only;revert c;unfold WX;cases b9 (S.c.te S.fs) (.mk k1 o1 nm1 n1 p1 xs1) [f.res]with
    |out=>exact fun _=>trivial
    |bad u r=>exact fun c=>N7 h k id nm ty n p k1 o1 nm1 n1 p1 xs1 zs bd el f hf h1 u r c
    |ok t=>exact fun c=>⟨rfl,QO h k id nm ty n p k1 o1 nm1 n1 p1 xs1 zs bd el f hf h1 t c⟩
end Go.Avm
