/-
  The kit's library contracts, laid at this program (printed by the kit's lay-plain).
-/
import Derived.Shelf.SlGeneric
import Derived.Shelf.SlIterI.Sorted
import Derived.Shelf.SlIter.AllValues
import Derived.Shelf.SortM.Plain
import Derived.Shelf.SortM.SortNone
import Derived.Shelf.SlMaps.Clone
import Derived.Ground.GgzProg
import Derived.Ground.GgmProg
import Derived.Ground.SlgmProg
import Derived.Ground.SlmcProg
import Derived.Test.YtcjiafanhlhdlaaGreatProg
import Derived.Test.YtcjiafanhlhdlaaGreatG08
import Derived.Test.YtcjiafanhlhdlaaGreatG06
import Derived.Test.YtcjiafanhlhdlaaGreatChecked
import Derived.IntWalk
import Derived.Test.YtcjiafanhlhdlaaGreatG09
namespace Go.Proofs
open Go.Shelf
def Tryz.lsorted_ren:Go.Shelf.Ren:=⟨fun|6=>99|8=>105|9=>106|11=>111|13=>113|12=>112|23=>123|24=>124|14=>114|15=>115|16=>116|17=>117|18=>118|19=>119|20=>120|21=>121|22=>122|25=>125|26=>126|27=>127|28=>128|29=>129|30=>130|31=>131|n=>n,fun|26=>3|28=>196|24=>113|0=>0|3=>3|37=>76|48=>217|50=>74|4=>4|40=>210|39=>209|45=>165|5=>5|9=>9|51=>219|55=>136|57=>224|58=>225|33=>201|n=>n,fun|n=>n⟩
theorem Tryz.lsorted:Go.Proofs.SlLaysZI.n6 Tryz.prog Tryz.lsorted_ren:={
 mixed:=by kernel_rfl
 f6:=⟨Tryz.f99.name,by decide,Tryz.func99.trans (congrArg some (by kernel_rfl))⟩
 f8:=⟨Tryz.f105.name,by decide,Tryz.func105.trans (congrArg some (by kernel_rfl))⟩
 f11:=⟨Tryz.f111.name,by decide,Tryz.func111.trans (congrArg some (by kernel_rfl))⟩
 t0:=Tryz.underlying0
 a0:=Tryz.isAgg0
 z0:=Tryz.sizeOf0
 v0:=Tryz.zeroValue0
 t24:=Tryz.underlying113
 a24:=Tryz.isAgg113
 z24:=Tryz.sizeOf113
 v24:=Tryz.zeroValue113
 t26:=Tryz.underlying3
 a26:=Tryz.isAgg3
 z26:=Tryz.sizeOf3
 v26:=Tryz.zeroValue3
 t28:=Tryz.underlying196
 a28:=Tryz.isAgg196
 z28:=Tryz.sizeOf196
 v28:=Tryz.zeroValue196
 i26:=by kernel_rfl}
def Tryz.lvals_ren:Go.Shelf.Ren:=⟨fun|7=>107|n=>n,fun|33=>201|23=>71|0=>0|4=>4|3=>3|27=>9|n=>n,fun|n=>n⟩
theorem Tryz.lvals:Go.Proofs.SlLaysY.n7 Tryz.prog Tryz.lvals_ren:={
 mixed:=by kernel_rfl
 f7:=⟨Tryz.f107.name,by decide,Tryz.func107.trans (congrArg some (by kernel_rfl))⟩
 t0:=Tryz.underlying0
 a0:=Tryz.isAgg0
 z0:=Tryz.sizeOf0
 v0:=Tryz.zeroValue0
 t3:=Tryz.underlying3
 a3:=Tryz.isAgg3
 z3:=Tryz.sizeOf3
 v3:=Tryz.zeroValue3
 t4:=Tryz.underlying4
 a4:=Tryz.isAgg4
 z4:=Tryz.sizeOf4
 v4:=Tryz.zeroValue4
 t23:=Tryz.underlying71
 a23:=Tryz.isAgg71
 z23:=Tryz.sizeOf71
 v23:=Tryz.zeroValue71
 t33:=Tryz.underlying201
 a33:=Tryz.isAgg201
 z33:=Tryz.sizeOf201
 v33:=Tryz.zeroValue201
 t27:=Tryz.underlying9}
def Tryz.lsort_ren:Go.Shelf.Ren:=⟨fun|5=>106|8=>113|7=>112|19=>123|20=>124|10=>114|11=>115|12=>116|13=>117|14=>118|15=>119|16=>120|17=>121|18=>122|30=>125|31=>126|32=>127|33=>128|34=>129|35=>130|40=>131|n=>n,fun|23=>113|25=>3|3=>3|32=>76|22=>113|0=>0|44=>217|46=>74|4=>4|36=>210|35=>209|41=>165|5=>5|9=>9|53=>219|57=>136|63=>224|64=>225|n=>n,fun|n=>n⟩
theorem Tryz.lsort:Go.Proofs.SlLaysM.n5 Tryz.prog Tryz.lsort_ren:={
 mixed:=by kernel_rfl
 f5:=⟨Tryz.f106.name,by decide,Tryz.func106.trans (congrArg some (by kernel_rfl))⟩
 f7:=⟨Tryz.f112.name,by decide,Tryz.func112.trans (congrArg some (by kernel_rfl))⟩
 f8:=Tryz.func113.trans (congrArg some (by kernel_rfl))
 f10:=⟨Tryz.f114.name,by decide,Tryz.func114.trans (congrArg some (by kernel_rfl))⟩
 f11:=⟨Tryz.f115.name,by decide,Tryz.func115.trans (congrArg some (by kernel_rfl))⟩
 f12:=⟨Tryz.f116.name,by decide,Tryz.func116.trans (congrArg some (by kernel_rfl))⟩
 f13:=⟨Tryz.f117.name,by decide,Tryz.func117.trans (congrArg some (by kernel_rfl))⟩
 f14:=⟨Tryz.f118.name,by decide,Tryz.func118.trans (congrArg some (by kernel_rfl))⟩
 f15:=⟨Tryz.f119.name,by decide,Tryz.func119.trans (congrArg some (by kernel_rfl))⟩
 f16:=⟨Tryz.f120.name,by decide,Tryz.func120.trans (congrArg some (by kernel_rfl))⟩
 f17:=⟨Tryz.f121.name,by decide,Tryz.func121.trans (congrArg some (by kernel_rfl))⟩
 f18:=⟨Tryz.f122.name,by decide,Tryz.func122.trans (congrArg some (by kernel_rfl))⟩
 f19:=Tryz.func123.trans (congrArg some (by kernel_rfl))
 f20:=Tryz.func124.trans (congrArg some (by kernel_rfl))
 f30:=⟨Tryz.f125.name,by decide,Tryz.func125.trans (congrArg some (by kernel_rfl))⟩
 f31:=Tryz.func126.trans (congrArg some (by kernel_rfl))
 f32:=Tryz.func127.trans (congrArg some (by kernel_rfl))
 f33:=⟨Tryz.f128.name,by decide,Tryz.func128.trans (congrArg some (by kernel_rfl))⟩
 f34:=⟨Tryz.f129.name,by decide,Tryz.func129.trans (congrArg some (by kernel_rfl))⟩
 f35:=⟨Tryz.f130.name,by decide,Tryz.func130.trans (congrArg some (by kernel_rfl))⟩
 f40:=⟨Tryz.f131.name,by decide,Tryz.func131.trans (congrArg some (by kernel_rfl))⟩
 t0:=Tryz.underlying0
 a0:=Tryz.isAgg0
 z0:=Tryz.sizeOf0
 v0:=Tryz.zeroValue0
 t3:=Tryz.underlying3
 a3:=Tryz.isAgg3
 z3:=Tryz.sizeOf3
 v3:=Tryz.zeroValue3
 t4:=Tryz.underlying4
 a4:=Tryz.isAgg4
 z4:=Tryz.sizeOf4
 v4:=Tryz.zeroValue4
 t5:=Tryz.underlying5
 a5:=Tryz.isAgg5
 z5:=Tryz.sizeOf5
 v5:=Tryz.zeroValue5
 t9:=Tryz.underlying9
 a9:=Tryz.isAgg9
 z9:=Tryz.sizeOf9
 v9:=Tryz.zeroValue9
 t22:=Tryz.underlying113
 a22:=Tryz.isAgg113
 z22:=Tryz.sizeOf113
 v22:=Tryz.zeroValue113
 t23:=Tryz.underlying113
 a23:=Tryz.isAgg113
 z23:=Tryz.sizeOf113
 v23:=Tryz.zeroValue113
 t25:=Tryz.underlying3
 a25:=Tryz.isAgg3
 z25:=Tryz.sizeOf3
 v25:=Tryz.zeroValue3
 t32:=Tryz.underlying76
 a32:=Tryz.isAgg76
 z32:=Tryz.sizeOf76
 v32:=Tryz.zeroValue76
 t35:=Tryz.underlying209
 a35:=Tryz.isAgg209
 z35:=Tryz.sizeOf209
 v35:=Tryz.zeroValue209
 t36:=Tryz.underlying210
 a36:=Tryz.isAgg210
 z36:=Tryz.sizeOf210
 v36:=Tryz.zeroValue210
 t41:=Tryz.underlying165
 a41:=Tryz.isAgg165
 z41:=Tryz.sizeOf165
 v41:=Tryz.zeroValue165
 t44:=Tryz.underlying217
 a44:=Tryz.isAgg217
 z44:=Tryz.sizeOf217
 v44:=Tryz.zeroValue217
 t46:=Tryz.underlying74
 a46:=Tryz.isAgg74
 z46:=Tryz.sizeOf74
 v46:=Tryz.zeroValue74
 t53:=Tryz.underlying219
 a53:=Tryz.isAgg219
 z53:=Tryz.sizeOf219
 v53:=Tryz.zeroValue219
 t57:=Tryz.underlying136
 a57:=Tryz.isAgg136
 z57:=Tryz.sizeOf136
 v57:=Tryz.zeroValue136
 t63:=Tryz.underlying224
 a63:=Tryz.isAgg224
 z63:=Tryz.sizeOf224
 v63:=Tryz.zeroValue224
 t64:=Tryz.underlying225
 a64:=Tryz.isAgg225
 z64:=Tryz.sizeOf225
 v64:=Tryz.zeroValue225}
def Tryz.lclonea_ren:Go.Shelf.Ren:=⟨fun|5=>81|7=>88|n=>n,fun|23=>71|25=>9|3=>3|4=>4|20=>20|n=>n,fun|n=>n⟩
theorem Tryz.lclonea:Go.Proofs.SlLaysW.n5 Tryz.prog Tryz.lclonea_ren:={
 mixed:=by kernel_rfl
 f5:=⟨Tryz.f81.name,by decide,Tryz.func81.trans (congrArg some (by kernel_rfl))⟩
 f7:=Tryz.func88.trans (congrArg some (by kernel_rfl))
 t4:=Tryz.underlying4
 a4:=Tryz.isAgg4
 z4:=Tryz.sizeOf4
 v4:=Tryz.zeroValue4
 t20:=Tryz.underlying20
 a20:=Tryz.isAgg20
 z20:=Tryz.sizeOf20
 v20:=Tryz.zeroValue20
 t23:=Tryz.underlying71
 a23:=Tryz.isAgg71
 z23:=Tryz.sizeOf71
 v23:=Tryz.zeroValue71}
def Tryz.lcloneb_ren:Go.Shelf.Ren:=⟨fun|5=>95|7=>88|n=>n,fun|23=>140|25=>3|3=>167|4=>4|20=>20|n=>n,fun|n=>n⟩
theorem Tryz.lcloneb:Go.Proofs.SlLaysW.n5 Tryz.prog Tryz.lcloneb_ren:={
 mixed:=by kernel_rfl
 f5:=⟨Tryz.f95.name,by decide,Tryz.func95.trans (congrArg some (by kernel_rfl))⟩
 f7:=Tryz.func88.trans (congrArg some (by kernel_rfl))
 t4:=Tryz.underlying4
 a4:=Tryz.isAgg4
 z4:=Tryz.sizeOf4
 v4:=Tryz.zeroValue4
 t20:=Tryz.underlying20
 a20:=Tryz.isAgg20
 z20:=Tryz.sizeOf20
 v20:=Tryz.zeroValue20
 t23:=Tryz.underlying140
 a23:=Tryz.isAgg140
 z23:=Tryz.sizeOf140
 v23:=Tryz.zeroValue140}
end Go.Proofs
set_option linter.unusedVariables false
set_option linter.unusedSimpArgs false
set_option linter.unusedSectionVars false
namespace Go.Avm
open Go.Proofs Go.RowKit Go.Maps
theorem uo(m:Nat):AnyZI.SortsIn Tryz.prog Tryz.lsorted_ren Fence.wide m:=
 ⟨fun d b cap e W f a c=>callsIn_wide.2 (AnyM.slices_Sort_int Tryz.lsort d b cap e W f a c),
  fun p cap W=>callsIn_wide.2 (AnyM.slices_Sort_int_none Tryz.lsort p cap W)⟩
theorem rj:ch Tryz.prog 99:=⟨_,Tryz.func99,rfl,by decide⟩
variable[ap]
theorem vZ{h:aa}{kb vb k v:Nat}{es:List (D×D×Nat)}{c:Nat}(q:h kb=⟨vb,some (.arr 1 [.mp k v])⟩)(hm:h k=⟨v,some (.map es c)⟩)(l:uh es c):
    az Tryz.prog 99 [.fn 107 [.ptr kb vb 0 0 1]] h [.d (.ro ((gE (jA es)).map (D.int .i64)))] h:=
 oB rj (iT:=Tryz.lsorted_ren.t 26) Tryz.lvals.t27 Tryz.lvals.t3 (fun i b nn g w hB r o f=>by
  have a:=(AnyY.values_stops Tryz.lvals Fence.wide 2 trivial rfl (by omega) i b nn g w hB r o).gives;have m:=AnyZI.sorted_in Tryz.lsorted Fence.wide 5 trivial trivial trivial trivial rfl (by omega) (uo _) (enters_of Tryz.func106 (by kernel_rfl) rfl) 107 #[.pointer (some ⟨i,0,none⟩)] trivial (enters_of Tryz.func107 (by kernel_rfl) rfl) _ (Maps.size g) (y8 f (by unfold maxLen;omega)) (by omega) w a;refine(callsIn_wide.1 m).mono ?_;rintro e u ⟨v,p,n,h2,j,_,s⟩;exact⟨v,p,n,h2,j,s⟩) q hm l
end Go.Avm
namespace Go.Avm
open Go.Proofs
instance EK:ap:=⟨fun _=>none,none,fun _=>none⟩
theorem BI:eu Tryz.prog:=fun g k h=>by cases h
theorem ed:d4 Tryz.prog:=⟨Tryz.checked.mixed,BI⟩
theorem v1:nZ Tryz.prog:=fun g h=>by cases h
theorem named:bl Tryz.prog:=tN (by kernel_rfl) v1
abbrev dN(n:Nat):AV:= .d (.int .i64 (n:Int))
abbrev dI(n:Int):AV:= .d (.int .i64 n)
abbrev dB(b:Bool):AV:= .d (.bool b)
def iM(P:Program)(a b:Nat)(t:Bool)(h:decide (a<b)=t):bj P:= .val (dB (decide ((a:Int)<(b:Int)))) (dB t) (by
 congr 2;rw[←h];simp)
def jB(P:Program)(i:Nat)(h:i<1099511627776):bj P:= .val (dI (IntKind.i64.wrap ((i:Int)+1))) (dN (i+1)) (by
 congr 2;rw[IntWalk.i64_in _ (by omega)];simp)
def uq(P:Program)(f:Nat):Code:=((P.funcs[f]?).bind (·.body)).getD .skip
def eF(r:Nat):Code→Option Code
 | .loop x=>if dm x=r then some x else eF r x
 | .seq x y=>match eF r x with
  |some c=>some c
  |none=>eF r y
 | .block _ x=>eF r x
 | .cond _ x y=>match eF r x with
  |some c=>some c
  |none=>eF r y
 |_=>none
def e5(P:Program)(f r:Nat):Code:=(eF r (uq P f)).getD .skip
end Go.Avm
namespace Go.Avm
open Go.Proofs
def w8{P:Program}(f s:Nat):List (Nat×Nat×bj P)→Option (bj P)
 |[]=>none
 |(b,a,h)::r=>bif Nat.beq f b&&Nat.beq s a then some h else w8 f s r
def Dt(P:Program)(l:List (Nat×Nat×bj P)):Nat→Nat→Option (bj P):=fun f s=>w8 f s l
def ur{P:Program}(f s b:Nat):List (Nat×Nat×Nat×bj P)→Option (bj P)
 |[]=>none
 |(d,c,a,h)::r=>bif Nat.beq f d&&Nat.beq s c&&Nat.beq b a then some h else ur f s b r
def ci(P:Program)(l:List (Nat×Nat×Nat×bj P)):Nat→Nat→Nat→Option (bj P):=fun f s b=>ur f s b l
def w9{P:Program}(f s b:Nat):List (Nat×Nat×Nat×hQ P)→Option (hQ P)
 |[]=>none
 |(d,c,a,h)::r=>bif Nat.beq f d&&Nat.beq s c&&Nat.beq b a then some h else w9 f s b r
def Du(P:Program)(l:List (Nat×Nat×Nat×hQ P)):Nat→Nat→Nat→Option (hQ P):=fun f s b=>w9 f s b l
def yq{P:Program}(f s b:Nat):List (Nat×Nat×Nat×PHint P)→Option (PHint P)
 |[]=>none
 |(d,c,a,h)::r=>bif Nat.beq f d&&Nat.beq s c&&Nat.beq b a then some h else yq f s b r
def aU(P:Program)(l:List (Nat×Nat×Nat×PHint P)):Nat→Nat→Nat→Option (PHint P):=fun f s b=>yq f s b l
def dh{P:Program}{g:Nat}{c e:List AV}{d b:List (Nat×aI)}(h:∀a:aa,az P g c (af d a) e (af b a)):hQ P:=⟨g,c,d,e,b,rJ h⟩
def aL{P:Program}{g:Nat}{c d:List AV}{a:List (Nat×aI)}(e:(a.all fun p=>p.2.ob.isSome)=true)(h:∀b:aa,az P g c (af a b) d (af a b)):hQ P:=⟨g,c,a,d,[],vQ e h⟩
theorem pL{P:Program}{g:Nat}{a:List AV}{x:AV}{h d h2:aa}(e:eY P g a d x h2)(j:∀k,(d k).ver=(h k).ver∧((d k).ob=none∨(d k).ob=(h k).ob)):eY P g a h x h2:=
 ⟨e.1,fun G B w0 I0 w c f i b=>e.2 G B w0 I0 w c (f.forget j) i b⟩
def cJ{P:Program}{g:Nat}{c:List AV}{x:AV}{d b:List (Nat×aI)}(h:∀a:aa,eY P g c (af d a) x (af b a)):nk P:=⟨g,c,d,x,b,fun h' e=>pL (h h') (eP h' d e)⟩
def hB(P:Program)(a b:Bool)(h:a=b):bj P:= .val (dB a) (dB b) (by rw[h])
end Go.Avm
namespace Go.Avm
open Go.Proofs
noncomputable abbrev Pg:Program:=Tryz.prog
abbrev RE(N:Nat)(c:Code)(l:List (Nat×AV))(hp:List (Nat×aI))(e:au)(l':List (Nat×AV))(b:List (Nat×aI)):Prop:=∀(a:aa)(X:bD),X.P=Pg→X.N=N→AW X c ⟨ag l,af hp a⟩ fun d S'=>d=e∧S'=⟨ag l',af b a⟩
abbrev RL(N:Nat)(c:Code)(l:List (Nat×AV))(hp:List (Nat×aI))(e:au)(l':List (Nat×AV))(b:List (Nat×aI)):Prop:=∀(a:aa)(X:bD),X.P=Pg→X.N=N→LW X c ⟨ag l,af hp a⟩ fun d S'=>d=e∧S'=⟨ag l',af b a⟩
abbrev RZ(N:Nat)(c:Code)(l:List (Nat×AV))(hp:List (Nat×aI))(e:au)(l':List (Nat×AV))(b:List (Nat×aI)):Prop:=∀(a:aa)(X:bD),X.P=Pg→X.N=N→AW X c ⟨ag l,af hp a⟩ fun d S'=>d=e∧Weak X S' ⟨ag l',af b a⟩
abbrev HC(f:Nat)(a:List AV)(p:List (Nat×aI))(d:List D)(q:List (Nat×aI)):Prop:=∀b:aa,az Pg f a (af p b) (d.map .d) (af q b)
abbrev HX(f:Nat)(a:List AV)(p:List (Nat×aI))(x:AV)(q:List (Nat×aI)):Prop:=∀b:aa,eY Pg f a (af p b) x (af q b)
noncomputable abbrev lO(f q:Nat):Code:=e5 Pg f q
noncomputable abbrev tH(l:List (Nat×Nat×bj Pg)):Nat→Nat→Option (bj Pg):=Dt Pg l
noncomputable abbrev tC(l:List (Nat×Nat×Nat×hQ Pg)):Nat→Nat→Nat→Option (hQ Pg):=Du Pg l
theorem qN(i:Par Pg)(e:Nat){g:Nat}{d:List AV}{ds:List D}{a b:List (Nat×aI)}(c:Cln (a.map (·.1)) 1000000 d a b:=by exact⟨rfl,rfl,rfl,by kernel_rfl,by kernel_rfl,by kernel_rfl⟩)
    (h:∀f:aa,iH (gB (dG Pg (aJ Pg i 2000) e g d (af a (cG 1000000 f))) (a.map (·.1)) 1000000 ds b)=iI .ret (gB (dG Pg (aJ Pg i 2000) e g d (af a (cG 1000000 f))) (a.map (·.1)) 1000000 ds b):=by (intro _;kernel_rfl)):HC g d a ds b:=ak ed named i 2000 e g 1000000 c h
theorem qX(i:Par Pg)(e:Nat){g:Nat}{b:List AV}{x:AV}{d a:List (Nat×aI)}(c:Cln (d.map (·.1)) 1000000 b d a:=by exact⟨rfl,rfl,rfl,by kernel_rfl,by kernel_rfl,by kernel_rfl⟩)(j:aH (cK (d.map (·.1)) 1000000) x=x:=by kernel_rfl)
    (h:∀f:aa,iH (gC (jV Pg (aJ Pg i 2000) e g b (af d (cG 1000000 f))) 1000000 x a)=iI .ret (gC (jV Pg (aJ Pg i 2000) e g b (af d (cG 1000000 f))) 1000000 x a):=by (intro _;kernel_rfl)):HX g b d x a:=mo ed named i 2000 e g 1000000 c j h
theorem qE(j:Par Pg)(g f:Nat){N:Nat}{c:Code}{l l':List (Nat×AV)}{a d:List (Nat×aI)}{e:au}(m:Cln (a.map (·.1)) 1000000 (l.map (·.2)) a d:=by exact⟨rfl,rfl,rfl,by kernel_rfl,by kernel_rfl,by kernel_rfl⟩)(i:bz (cK (a.map (·.1)) 1000000) (l'.map (·.2))=l'.map (·.2):=by kernel_rfl)(k:ud (cK (a.map (·.1)) 1000000) e=e:=by kernel_rfl)
    (h:∀b:aa,iH (uf (aJ Pg j 2000 g f N c ⟨ag l,af a (cG 1000000 b)⟩) (a.map (·.1)) 1000000 [] l' d)=iI e (uf (aJ Pg j 2000 g f N c ⟨ag l,af a (cG 1000000 b)⟩) (a.map (·.1)) 1000000 [] l' d):=by (intro _;kernel_rfl)):RE N c l a e l' d:=fun b X n o=>BH ed named j 2000 g f N 1000000 [] m i k h b X n o
theorem qV(c:Par Pg)(a:Nat){g:Nat}{ds b:List D}(h:iH (gF (pK (j0 Pg (aJ Pg c 2000) a g (ds.map .d) t7)) b)=iI .ret (gF (pK (j0 Pg (aJ Pg c 2000) a g (ds.map .d) t7)) b):=by kernel_rfl):dt Pg g ds b:=oC ed named c 2000 a h
noncomputable def qK{a:Type}(s:Nat):List (Nat×a)→Option a
  |[]=>none
  |(k,h)::r=>bif Nat.beq s k then some h else qK s r
noncomputable def qT(f:Nat)(l:List (Nat×bj Pg)):Nat→Nat→Option (bj Pg):=fun a s=>bif Nat.beq a f then qK s l else none
noncomputable def qB{a b:Bool}(h:a=b):bj Pg:=hB Pg a b h
noncomputable def qL{a b:Nat}(h:a<b):bj Pg:=iM Pg a b true (by simpa using h)
noncomputable def qG(a:Nat):bj Pg:=iM Pg a a false (by simp)
end Go.Avm
namespace Go.Avm
open Go.Proofs
abbrev Dg(n:Int):AV:= .d (.int .u8 n)
def fQ:Nat→List Fn→List (D×D×Nat)
 |_,[]=>[]
 |i,f::r=>(.str f.nm, .int .i64 (i:Int),i)::fQ (i+1) r
def dJ:Nat→List Vr→List (D×D×Nat)
 |_,[]=>[]
 |i,v::r=>(.str v.nm, .agg [],i)::dJ (i+1) r
def br:Nat→eE→List (D×D×Nat)
 |_,[]=>[]
 |i,p::r=>(.str p.1, .int .i64 (p.2:Int),i)::br (i+1) r
def aF(l:List (Nat×Nat)):List (D×D×Nat):=l.map fun p=>(.int .i64 (p.1:Int), .agg [],p.2)
theorem ny(x:List UInt8):∀(l:eE)(i j:Nat),bJ (.str x) (br i l) j=some ((dd x l j).map fun r=>(r.1, .int .i64 (r.2:Int)))
 |[],_,_=>rfl
 |e::r,i,j=>by
  simp only[br,bJ,fK,dd];cases h:(x==e.1)with
  |true=>rfl
  |false=>exact ny x r (i+1) (j+1)
theorem rT(x:List UInt8):∀(l:List Fn)(i j:Nat),bJ (.str x) (fQ i l) j=some ((cm x l j).map fun r=>(r.1, .int .i64 ((i+(r.1-j):Nat):Int)))
 |[],_,_=>rfl
 |e::r,i,j=>by
  simp only[fQ,bJ,fK,cm];cases h:(x==e.nm)with
  |true=>simp
  |false=>
   show bJ (.str x) (fQ (i+1) r) (j+1)=_;rw[rT x r (i+1) (j+1)];simp only[x9];congr 1;cases c:cm x r (j+1)with
   |none=>rfl
   |some q=>
    have:j+1≤q.1:=by
     clear h;revert c;generalize j+1=m;induction r generalizing m with
     |nil=>intro h;cases h
     |cons a r d=>
      intro h;simp only[cm]at h;cases b:(x==a.nm)with
      |true=>rw[b]at h;simp at h;subst h;exact xO _
      |false=>rw[b]at h;exact Nat.le_of_succ_le (d (m+1) h)
    simp only[xP];congr 3;omega
theorem j4(x:Nat):∀(l:List (Nat×Nat))(j:Nat),bJ (.int .i64 (x:Int)) (aF l) j=some ((a6 x l j).map fun r=>(r, .agg []))
 |[],_=>rfl
 |e::r,j=>by
  simp only[aF,xI,bJ,fK,a6,xz]
  have a:((x:Int)==(e.1:Int))=(x==e.1):=by
   rw[Bool.eq_iff_iff,yL,yL];exact Int.ofNat_inj
  rw[a];cases h:(x==e.1)with
  |true=>rfl
  |false=>exact j4 x r (j+1)
theorem cU(x:List UInt8):∀(l:List Vr)(i j:Nat),(l.any fun v=>v.nm==x)=false→bJ (.str x) (dJ i l) j=some none
 |[],_,_,_=>rfl
 |e::r,i,j,h=>by
  simp only[List.any_cons,Bool.or_eq_false_iff]at h
  have a:(x==e.nm)=false:=by
   have:=h.1;rw[yh]at this ⊢;exact this.symm
  simp only[dJ,bJ,fK,a];exact cU x r (i+1) (j+1) h.2
theorem nz(x:List UInt8):∀(l:List Vr)(i j:Nat),(l.any fun v=>v.nm==x)=true→∃q,bJ (.str x) (dJ i l) j=some (some (q, .agg []))
 |[],_,_,h=>by cases h
 |e::r,i,j,h=>by
  simp only[dJ,bJ,fK];cases a:(x==e.nm)with
  |true=>exact⟨j,rfl⟩
  |false=>
   refine nz x r (i+1) (j+1) ?_;simp only[List.any_cons,yC]at h;refine h.resolve_left fun h2=> ?_
   rw[yL]at h2;rw[h2]at a;simp at a
abbrev an:AV:= .ptr 500000 1 0 0 1
structure CK where
 fs:List Fn
 fn:Nat
 W:List AV
 deep:Int
 c:CS
 vh:Nat
 vs:Nat
 vq:Nat
 vp:Nat
 vv:Nat
def bn(p:Pt):AV:= .d (w7 p)
def qa(x:Vr):AV:= .d (oR x)
abbrev gG(b:Nat)(a:List Vr):AV:= .sl 500005 b 0 a.length 4
abbrev rU(S:CK):List AV:=[.mp 499904 1, .d (.ro (S.fs.map cR)), .sl 500191 1 0 S.fs.length 1, .sl 500382 S.vp 0 S.c.pts.length 3,dN S.fn, .mp 500002 S.vh, .mp 500003 S.vs, .mp 500004 S.vq,dI S.deep]
abbrev ck(S:CK):List (Nat×aI):=
 [(500000,⟨1,some (.arr 1 (rU S))⟩),(499904,⟨1,some (.map (fQ 0 S.fs) S.fs.length)⟩),(500002,⟨S.vh,some (.map (dJ 0 S.c.vars) S.c.vars.length)⟩),(500003,⟨S.vs,some (.map (br 0 S.c.seen) S.c.seen.length)⟩),
  (500004,⟨S.vq,some (.map (aF S.c.sure.l) S.c.sure.c)⟩),(500005,⟨S.vv,some (.arr 4 (S.c.vars.map qa))⟩),(500382,⟨S.vp,some (.arr 3 (S.c.pts.map bn))⟩),(500191,⟨1,some (.arr 1 (S.W.set S.fn (gG S.vv S.c.vars)))⟩)]
abbrev am(p e:Int):AV:= .iv 164 (.d (.agg [.int .i64 p, .int .i64 e]))
def TX{c:Type}(S:CK)(f:Nat)(b:List AV)(g:c→List D):TR c→Prop
 | .ok a=>HC f b (ck S) (g a) (ck S)
 | .bad p e=>HX f b (ck S) (am p e) (ck S)
 | .out=>True
structure CKok(S:CK):Prop where
 fn:S.fn<S.fs.length
 W:S.W.length=S.fs.length
 dat:∀x∈S.W,x= .nils∨∃d,x= .d d
 len:S.fs.length<1000000
 par:∀f∈S.fs,f.ps.length≤6
 vars:S.c.vars.length≤255
 seen:∀p∈S.c.seen,p.2<S.c.vars.length
 inc:(S.c.seen.map (·.2)).Pairwise (· < ·)
 nms:(S.c.seen.map (·.1)).Nodup
 nml:∀p∈S.c.seen,p.1.length≤1000000
 had:∀p∈S.c.seen,(S.c.vars.any fun v=>v.nm==p.1)=true
 sk:(S.c.sure.l.map (·.1)).Nodup
 sb:(S.c.sure.l.map (·.2)).Nodup
 sc:∀p∈S.c.sure.l,p.2<S.c.sure.c
 sv:∀p∈S.c.sure.l,p.1<S.c.vars.length
 pts:S.c.pts.length<1000000000
theorem j5{x:List UInt8}:∀{l:eE}{j:Nat}{r:Nat×Nat},dd x l j=some r→(x,r.2)∈l
 |[],_,_,h=>by cases h
 |e::l,j,r,h=>by
  simp only[dd]at h;cases a:(x==e.1)with
  |true=>
   rw[a]at h;simp only[yJ,xA]at h;subst h;rw[eq_of_beq a];simp
  |false=>
   rw[a]at h;exact xt _ (j5 h)
theorem rV{S:CK}(h:CKok S){x:List UInt8}{j i:Nat}(a:dd x S.c.seen 0=some (j,i)):i<S.c.vars.length:=h.seen _ (j5 a)
def zN(P:Program){S:CK}(h:CKok S):bj P:= .elt (S.W.set S.fn (gG S.vv S.c.vars)) (0+(S.fn:Int).toNat) (gG S.vv S.c.vars) (by simp[h.W,h.fn])
def Dv(P:Program){S:CK}(h:CKok S):bj P:= .inb (S.fn:Int) S.fs.length (by omega) (by simpa using h.fn)
def Dw(P:Program)(a:List Vr)(i:Nat)(h:i<a.length):bj P:= .inb (i:Int) a.length (by omega) (by simpa using h)
def BJ(P:Program)(a:List Vr)(i:Nat)(h:i<a.length):bj P:= .elt (a.map qa) (0+(i:Int).toNat) (qa (a.getD i default)) (by simp[h])
def ut(P:Program)(x:List UInt8)(l:eE)(r:Option (Nat×Nat))(h:dd x l 0=r):bj P:= .look (.str x) (br 0 l) (r.map fun r=>(r.1, .int .i64 (r.2:Int))) (by rw[ny,h])
def gH(P:Program)(x:Nat)(l:List (Nat×Nat))(r:Option Nat)(h:a6 x l 0=r):bj P:= .look (.int .i64 (x:Int)) (aF l) (r.map fun r=>(r, .agg [])) (by rw[j4,h])
def j6(P:Program)(x:List UInt8)(l:List Fn)(r:Option (Nat×Fn))(h:cm x l 0=r):bj P:= .look (.str x) (fQ 0 l) (r.map fun r=>(r.1, .int .i64 (r.1:Int))) (by rw[rT,h];simp)
theorem jC(ρ:Nat→Nat):∀l:List Pt,bz ρ (l.map bn)=l.map bn
 |[]=>rfl
 |a::r=>by
  simp only[xI,bz,jC ρ r];rfl
theorem mt(ρ:Nat→Nat):∀l:List Vr,bz ρ (l.map qa)=l.map qa
 |[]=>rfl
 |a::r=>by
  simp only[xI,bz,mt ρ r];rfl
theorem jD{ρ:Nat→Nat}:∀{l:List AV},(∀x∈l,aH ρ x=x)→bz ρ l=l
 |[],_=>rfl
 |a::r,h=>by
  simp only[bz];rw[h a (by simp),jD (l:=r) (fun x b=>h x (by simp[b]))]
theorem yr{S:CK}(h:CKok S){ρ:Nat→Nat}(b:ρ 500005=500005):bz ρ (S.W.set S.fn (gG S.vv S.c.vars))=S.W.set S.fn (gG S.vv S.c.vars):=
 jD fun x a=>by
  rcases xj a with a|rfl
  ·rcases h.dat x a with rfl|⟨d,rfl⟩<;>rfl
  ·show AV.sl (ρ 500005) _ _ _ _=_
   rw[b]
theorem dr{S:CK}(h:CKok S){ρ:Nat→Nat}(a:([499904,500002,500003,500004,500005,500382,500191].map ρ)=[499904,500002,500003,500004,500005,500382,500191]):((ck S).map fun p=>bQ ρ p.2)=(ck S).map (·.2):=by
 simp only[xI,xg,List.cons.injEq,yp]at a;obtain⟨c,h2,b,e,g,f,d⟩:=a;simp only[ck,rU,xI,xg,bQ,xP,gT,jC,mt,yr h g,bz,aH,c,h2,b,e,f,d]
theorem al{S S':CK}(h:CKok S)(h':CKok S'){ar:List AV}(a:bz (cK ((ck S).map (·.1)) 1000000) ar=ar):Cln ((ck S).map (·.1)) 1000000 ar (ck S) (ck S'):=
 ⟨rfl,rfl,rfl,a,dr h rfl,dr h' rfl⟩
theorem pM{G:Gh}{w:World}{ar:List AV}{K v sz:Nat}{ds:List D}{b:Array Value}(a:∀(i:Nat)(x:AV)(u:Value),(ar ++[.vec K v sz ds])[i]? =some x→b[i]? =some u→Rep G w x u):
    ∀(i:Nat)(x:AV)(u:Value),(ar ++[.d (.ro ds)])[i]? =some x→b[i]? =some u→Rep G w x u:=fun i x u c f=>by
 by_cases g:i<ar.length
 ·rw[xL g]at c
  exact a i x u (by rw[xL g];exact c) f
 ·rw[xN (by omega)]at c
  have e:i-ar.length=0:=by
   have:=(xD.1 c).1;simp at this;omega
  rw[e]at c;simp only[xk,xA]at c;subst c;have j:=a i (.vec K v sz ds) u (by rw[xN (by omega),e];rfl) f;cases j with
  |vecNil=>exact .d (.roNil _ _)
  |vec _ _ _ L _ _ _ _ h=>exact .d h
theorem sW{P:Program}{f:Nat}{ar:List AV}{i:List AV}{g b:List (Nat×aI)}{ds:List D}(h:∀a:aa,az P f (ar ++[.d (.ro ds)]) (af g a) i (af b a))(K v sz:Nat)(a:aa):
    az P f (ar ++[.vec K v sz ds]) (af g a) i (af b a):=
 ⟨(h a).1,fun G B w0 I0 w e j k c=>(h a).2 G B w0 I0 w e j (by simpa using k) (pM c)⟩
theorem uv{P:Program}{f:Nat}{ar:List AV}{y:AV}{g b:List (Nat×aI)}{ds:List D}(h:∀a:aa,eY P f (ar ++[.d (.ro ds)]) (af g a) y (af b a))(K v sz:Nat)(a:aa):
    eY P f (ar ++[.vec K v sz ds]) (af g a) y (af b a):=
 ⟨(h a).1,fun G B w0 I0 w e i j c=>(h a).2 G B w0 I0 w e i (by simpa using j) (pM c)⟩
end Go.Avm
namespace Go.Avm
open Go.Proofs
theorem a7(p e:Int):HX 66 [dB false,dI p,dI e] [] (am p e) []:=
 qX {pans:=aU Pg [(66,1,1024,⟨4,none,[]⟩)]} 1000
theorem ay(p e:Int):HC 66 [dB true,dI p,dI e] [] [] []:=
 qN {} 1000
section
variable{S:CK}(h:CKok S)
include h
section
variable(a:List UInt8)(p:Int)
include a p
theorem BK(j i:Nat)(b:dd a S.c.seen 0=some (j,i)):HC 91 [an, .d (.str a),dI p] (ck S) [.int .i64 (i:Int),oR (S.c.vars.getD i default)] (ck S):=
 qN {hint:=tH [(91,16,ut Pg a S.c.seen (some (j,i)) b),(80,12,Dv Pg h),(80,13,zN Pg h),(91,26,Dw Pg S.c.vars i (rV h b)),(91,27,BJ Pg S.c.vars i (rV h b))]} 1000 (al h h rfl)
theorem zO(b:dd a S.c.seen 0=none):HX 91 [an, .d (.str a),dI p] (ck S) (am p 6) (ck S):=
 qX {hint:=qT 91 [(16,ut Pg a S.c.seen none b)],pans:=aU Pg [(91,2,1364,⟨2,some (cJ (a7 p 6)),[]⟩)]} 1000 (al h h rfl)
theorem zP:TX S 91 [an, .d (.str a),dI p] (fun r=>[.int .i64 (r.1:Int),oR r.2]) (mq (S.c.te S.fs) a p):=by
 unfold mq;show TX S _ _ _ (match dd a S.c.seen 0 with|some (_,i)=> .ok (i,S.c.vars.getD i default)|none=> .bad p 6);cases b:dd a S.c.seen 0 with
 |none=>exact zO h a p b
 |some r=>
  obtain⟨j,i⟩:=r;exact BK h a p j i b
theorem BL(i:Nat)(v:Vr)(c:HC 91 [an, .d (.str a),dI p] (ck S) [.int .i64 (i:Int),oR v] (ck S))(b:(v.ty==3)=true):
    HC 93 [an, .d (.str a),dI p] (ck S) [] (ck S):=
 qN {hint:=qT 93 [(17,qB b)],calls:=tC [(93,12,1060,dh c)]} 1000 (al h h rfl)
theorem zQ(i:Nat)(v:Vr)(c:HC 91 [an, .d (.str a),dI p] (ck S) [.int .i64 (i:Int),oR v] (ck S))(b:(v.ty==3)=false):
    HX 93 [an, .d (.str a),dI p] (ck S) (am p 8) (ck S):=
 qX {hint:=qT 93 [(17,qB b)],calls:=tC [(93,12,1060,dh c)],pans:=aU Pg [(93,1,1180,⟨4,some (cJ (a7 p 8)),[]⟩)]} 1000 (al h h rfl)
end
theorem BM(a:List UInt8)(p q e:Int)(c:HX 91 [an, .d (.str a),dI p] (ck S) (am q e) (ck S)):
    HX 93 [an, .d (.str a),dI p] (ck S) (am q e) (ck S):=
 qX {pans:=aU Pg [(93,0,1000,⟨3,some (cJ c),[]⟩)]} 1000 (al h h rfl)
theorem zR(a:List UInt8)(p:Int):TX S 93 [an, .d (.str a),dI p] (fun _=>[]) (oz (S.c.te S.fs) a p):=by
 unfold oz;have f:=zP h a p;revert f;cases mq (S.c.te S.fs) a p with
 |out=>exact fun _=>trivial
 |bad q e=>exact fun c=>BM h a p q e c
 |ok r=>
  obtain⟨i,v⟩:=r;intro c;simp only[TR.bind];cases b:(v.ty==3)with
  |true=>exact BL h a p i v c b
  |false=>exact zQ h a p i v c b
end
end Go.Avm
namespace Go.Avm
open Go.Proofs
abbrev dv(n:Int):D:= .int .u8 n
section
variable{S:CK}(h:CKok S)(k o:Int)(f:List UInt8)(n p:Int)(xs:List Ex)
include h
theorem BN(a t:Int)(c:HC 98 [an, .d (e8 (.mk k o f n p xs))] (ck S) [dv t] (ck S))(b:(t==a)=true):
    HC 92 [an, .d (e8 (.mk k o f n p xs)), .d (.ro [dv a])] (ck S) [dv t] (ck S):=
 qN {hint:=qT 108 [(16,qB b)],calls:=tC [(92,10,1072,dh c)]} 1000 (al h h rfl)
theorem zS(a t:Int)(c:HC 98 [an, .d (e8 (.mk k o f n p xs))] (ck S) [dv t] (ck S))(b:(t==a)=false):
    HX 92 [an, .d (e8 (.mk k o f n p xs)), .d (.ro [dv a])] (ck S) (am p 8) (ck S):=
 qX {hint:=qT 108 [(16,qB b)],calls:=tC [(92,10,1072,dh c)],pans:=aU Pg [(92,2,1090,⟨5,some (cJ (a7 p 8)),[]⟩)]} 1000 (al h h rfl)
theorem uw(a:List D)(q e:Int)(c:HX 98 [an, .d (e8 (.mk k o f n p xs))] (ck S) (am q e) (ck S)):
    HX 92 [an, .d (e8 (.mk k o f n p xs)), .d (.ro a)] (ck S) (am q e) (ck S):=
 qX {pans:=aU Pg [(92,1,1036,⟨2,some (cJ c),[]⟩)]} 1000 (al h h rfl)
section
variable(a b t:Int)(c:HC 98 [an, .d (e8 (.mk k o f n p xs))] (ck S) [dv t] (ck S))
include a b t c
theorem BO(e:(t==a)=false)(g:(t==b)=true):
    HC 92 [an, .d (e8 (.mk k o f n p xs)), .d (.ro [dv a,dv b])] (ck S) [dv t] (ck S):=
 qN {hintB:=ci Pg [(108,16,228,qB e),(108,16,437,qB g)],calls:=tC [(92,10,1072,dh c)]} 1000 (al h h rfl)
theorem zT(e:(t==a)=true):
    HC 92 [an, .d (e8 (.mk k o f n p xs)), .d (.ro [dv a,dv b])] (ck S) [dv t] (ck S):=
 qN {hint:=qT 108 [(16,qB e)],calls:=tC [(92,10,1072,dh c)]} 1000 (al h h rfl)
theorem zU(e:(t==a)=false)(g:(t==b)=false):
    HX 92 [an, .d (e8 (.mk k o f n p xs)), .d (.ro [dv a,dv b])] (ck S) (am p 8) (ck S):=
 qX {hintB:=ci Pg [(108,16,228,qB e),(108,16,437,qB g)],calls:=tC [(92,10,1072,dh c)],pans:=aU Pg [(92,2,1090,⟨5,some (cJ (a7 p 8)),[]⟩)]} 1000 (al h h rfl)
end
end
section
variable{S:CK}(h:CKok S)(e:Ex)(c:TX S 98 [an, .d (e8 e)] (fun t=>[dv t]) (dq (S.c.te S.fs) e))
include h c
theorem iK(a:Int):TX S 92 [an, .d (e8 e), .d (.ro [dv a])] (fun t=>[dv t]) (bf (S.c.te S.fs) e [a]):=by
 obtain⟨k,o,b,n,p,xs⟩:=e;unfold bf;revert c;cases dq (S.c.te S.fs) (.mk k o b n p xs)with
 |out=>exact fun _=>trivial
 |bad q r=>exact fun c=>uw h k o b n p xs _ q r c
 |ok t=>
  intro c;simp only[TR.bind];have g:[a].contains t=(t==a):=by cases f:(t==a)<;>simp[List.contains,List.elem,f]
  rw[g];cases f:(t==a)with
  |true=>exact BN h k o b n p xs a t c f
  |false=>exact zS h k o b n p xs a t c f
theorem ux(a b:Int):TX S 92 [an, .d (e8 e), .d (.ro [dv a,dv b])] (fun t=>[dv t]) (bf (S.c.te S.fs) e [a,b]):=by
 obtain⟨k,o,g,n,p,xs⟩:=e;unfold bf;revert c;cases dq (S.c.te S.fs) (.mk k o g n p xs)with
 |out=>exact fun _=>trivial
 |bad q r=>exact fun c=>uw h k o g n p xs _ q r c
 |ok t=>
  intro c;simp only[TR.bind];cases f:(t==a)with
  |true=>
   have i:[a,b].contains t=true:=by simp[List.contains,List.elem,f]
   rw[i];exact zT h k o g n p xs a b t c f
  |false=>cases j:(t==b)with
   |true=>
    have i:[a,b].contains t=true:=by simp[List.contains,List.elem,f,j]
    rw[i];exact BO h k o g n p xs a b t c f j
   |false=>
    have i:[a,b].contains t=false:=by simp[List.contains,List.elem,f,j]
    rw[i];exact zU h k o g n p xs a b t c f j
end
section
variable{S:CK}{e:Ex}
theorem wO{ds:List D}{t:Int}(c:HC 92 [an, .d (e8 e), .d (.ro ds)] (ck S) [dv t] (ck S))(K:Nat):
    HC 92 [an, .d (e8 e), .vec K 1 1 ds] (ck S) [dv t] (ck S):=
 sW (ar:=[an, .d (e8 e)]) c K 1 1
theorem wP{ds:List D}{q r:Int}(c:HX 92 [an, .d (e8 e), .d (.ro ds)] (ck S) (am q r) (ck S))(K:Nat):
    HX 92 [an, .d (e8 e), .vec K 1 1 ds] (ck S) (am q r) (ck S):=
 uv (ar:=[an, .d (e8 e)]) c K 1 1
end
end Go.Avm
namespace Go.Avm
open Go.Proofs
theorem aQ(E:TE)(x:Ex)(xs:List Ex)(a:List Int)(r:List (List Int))(b:Bool):aD E (x::xs) (a::r) b=(bf E x a).bind fun t=>aD E xs (bif b then [[t]]else r) false:=by
 simp only[aD,bf];cases dq E x with
 |ok t=>simp only[TR.bind];cases a.contains t<;>rfl
 |bad p e=>rfl
 |out=>rfl
abbrev d6(k o:Int)(a:List UInt8)(n p:Int)(xs:List Ex):AV:= .d (e8 (.mk k o a n p xs))
abbrev gV(S:CK)(e:Ex)(a:List Int)(t:Int):Prop:=HC 92 [an, .d (e8 e), .d (.ro (a.map dv))] (ck S) [dv t] (ck S)
abbrev eL(S:CK)(e:Ex)(a:List Int)(q r:Int):Prop:=HX 92 [an, .d (e8 e), .d (.ro (a.map dv))] (ck S) (am q r) (ck S)
section
variable{S:CK}(h:CKok S)(k o:Int)(s:List UInt8)(n p:Int)(g f:Int)(b:List UInt8)(d e:Int)(a:List Ex)(m i:Int)(c:List UInt8)(j l:Int)(bO:List Ex)(v:List Ex)
include h
theorem BP(t u:Int)(q:(o==17)=(17==17))(r:(o==18)=(18==17))(c1:gV S (.mk g f b d e a) [2] t)(w:gV S (.mk m i c j l bO) [2] u):
    HC 104 [an,d6 k o s n p (.mk g f b d e a:: .mk m i c j l bO::v)] (ck S) [dv u] (ck S):=
 qN {hint:=qT 104 [(18,hB Pg (o==17) (17==17) q)],calls:=tC [(104,23,2050,aL rfl (wO c1 2022)),(104,27,2200,aL rfl (wO w 2176))]} 1000 (al h h rfl)
theorem zV(t q r:Int)(u:(o==17)=(17==17))(w:(o==18)=(18==17))(c1:gV S (.mk g f b d e a) [2] t)(x:eL S (.mk m i c j l bO) [2] q r):
    HX 104 [an,d6 k o s n p (.mk g f b d e a:: .mk m i c j l bO::v)] (ck S) (am q r) (ck S):=
 qX {hint:=qT 104 [(18,hB Pg (o==17) (17==17) u)],calls:=tC [(104,23,2050,aL rfl (wO c1 2022))],pans:=aU Pg [(104,6,2050,⟨3,some (cJ (wP x 2176)),[]⟩)]} 1000 (al h h rfl)
theorem zW(q r:Int)(t:(o==17)=(17==17))(u:(o==18)=(18==17))(c1:eL S (.mk g f b d e a) [2] q r):
    HX 104 [an,d6 k o s n p (.mk g f b d e a:: .mk m i c j l bO::v)] (ck S) (am q r) (ck S):=
 qX {hint:=qT 104 [(18,hB Pg (o==17) (17==17) t)],pans:=aU Pg [(104,5,1900,⟨3,some (cJ (wP c1 2022)),[]⟩)]} 1000 (al h h rfl)
theorem BQ(t u:Int)(r:(o==17)=(17==18))(q:(o==18)=(18==18))(c1:gV S (.mk g f b d e a) [2] t)(w:gV S (.mk m i c j l bO) [2] u):
    HC 104 [an,d6 k o s n p (.mk g f b d e a:: .mk m i c j l bO::v)] (ck S) [dv u] (ck S):=
 qN {hint:=qT 104 [(18,hB Pg (o==17) (17==18) r),(19,hB Pg (o==18) (18==18) q)],calls:=tC [(104,23,2150,aL rfl (wO c1 2122)),(104,27,2300,aL rfl (wO w 2276))]} 1000 (al h h rfl)
theorem zX(t q r:Int)(w:(o==17)=(17==18))(u:(o==18)=(18==18))(c1:gV S (.mk g f b d e a) [2] t)(x:eL S (.mk m i c j l bO) [2] q r):
    HX 104 [an,d6 k o s n p (.mk g f b d e a:: .mk m i c j l bO::v)] (ck S) (am q r) (ck S):=
 qX {hint:=qT 104 [(18,hB Pg (o==17) (17==18) w),(19,hB Pg (o==18) (18==18) u)],calls:=tC [(104,23,2150,aL rfl (wO c1 2122))],pans:=aU Pg [(104,6,2150,⟨3,some (cJ (wP x 2276)),[]⟩)]} 1000 (al h h rfl)
theorem zY(q r:Int)(u:(o==17)=(17==18))(t:(o==18)=(18==18))(c1:eL S (.mk g f b d e a) [2] q r):
    HX 104 [an,d6 k o s n p (.mk g f b d e a:: .mk m i c j l bO::v)] (ck S) (am q r) (ck S):=
 qX {hint:=qT 104 [(18,hB Pg (o==17) (17==18) u),(19,hB Pg (o==18) (18==18) t)],pans:=aU Pg [(104,5,2000,⟨3,some (cJ (wP c1 2122)),[]⟩)]} 1000 (al h h rfl)
theorem BR(t u:Int)(y:(o==17)=false)(r:(o==18)=false)(q:(o==15)=(15==15))(x:(o==16)=(16==15))(c1:gV S (.mk g f b d e a) [1,2] t)(w:gV S (.mk m i c j l bO) [t] u):
    HC 104 [an,d6 k o s n p (.mk g f b d e a:: .mk m i c j l bO::v)] (ck S) [dv 2] (ck S):=
 qN {hint:=qT 104 [(18,qB y),(19,qB r),(29,hB Pg (o==15) (15==15) q)],calls:=tC [(104,36,2350,aL rfl (wO c1 2335)),(104,38,2400,aL rfl (wO w 2387))]} 1000 (al h h rfl)
theorem zZ(t q r:Int)(z:(o==17)=false)(w:(o==18)=false)(u:(o==15)=(15==15))(y:(o==16)=(16==15))(c1:gV S (.mk g f b d e a) [1,2] t)(x:eL S (.mk m i c j l bO) [t] q r):
    HX 104 [an,d6 k o s n p (.mk g f b d e a:: .mk m i c j l bO::v)] (ck S) (am q r) (ck S):=
 qX {hint:=qT 104 [(18,qB z),(19,qB w),(29,hB Pg (o==15) (15==15) u)],calls:=tC [(104,36,2350,aL rfl (wO c1 2335))],pans:=aU Pg [(104,9,2100,⟨7,some (cJ (wP x 2387)),[7]⟩)]} 1000 (al h h rfl)
theorem z2(q r:Int)(x:(o==17)=false)(t:(o==18)=false)(u:(o==15)=(15==15))(w:(o==16)=(16==15))(c1:eL S (.mk g f b d e a) [1,2] q r):
    HX 104 [an,d6 k o s n p (.mk g f b d e a:: .mk m i c j l bO::v)] (ck S) (am q r) (ck S):=
 qX {hint:=qT 104 [(18,qB x),(19,qB t),(29,hB Pg (o==15) (15==15) u)],pans:=aU Pg [(104,9,2100,⟨5,some (cJ (wP c1 2335)),[]⟩)]} 1000 (al h h rfl)
theorem BS(t u:Int)(y:(o==17)=false)(w:(o==18)=false)(q:(o==15)=(15==16))(r:(o==16)=(16==16))(c1:gV S (.mk g f b d e a) [1,2] t)(x:gV S (.mk m i c j l bO) [t] u):
    HC 104 [an,d6 k o s n p (.mk g f b d e a:: .mk m i c j l bO::v)] (ck S) [dv 2] (ck S):=
 qN {hint:=qT 104 [(18,qB y),(19,qB w),(29,hB Pg (o==15) (15==16) q),(30,hB Pg (o==16) (16==16) r)],calls:=tC [(104,36,2450,aL rfl (wO c1 2435)),(104,38,2500,aL rfl (wO x 2487))]} 1000 (al h h rfl)
theorem z6(t q r:Int)(z:(o==17)=false)(x:(o==18)=false)(u:(o==15)=(15==16))(w:(o==16)=(16==16))(c1:gV S (.mk g f b d e a) [1,2] t)(y:eL S (.mk m i c j l bO) [t] q r):
    HX 104 [an,d6 k o s n p (.mk g f b d e a:: .mk m i c j l bO::v)] (ck S) (am q r) (ck S):=
 qX {hint:=qT 104 [(18,qB z),(19,qB x),(29,hB Pg (o==15) (15==16) u),(30,hB Pg (o==16) (16==16) w)],calls:=tC [(104,36,2450,aL rfl (wO c1 2435))],pans:=aU Pg [(104,9,2200,⟨7,some (cJ (wP y 2487)),[7]⟩)]} 1000 (al h h rfl)
theorem z7(q r:Int)(x:(o==17)=false)(u:(o==18)=false)(w:(o==15)=(15==16))(t:(o==16)=(16==16))(c1:eL S (.mk g f b d e a) [1,2] q r):
    HX 104 [an,d6 k o s n p (.mk g f b d e a:: .mk m i c j l bO::v)] (ck S) (am q r) (ck S):=
 qX {hint:=qT 104 [(18,qB x),(19,qB u),(29,hB Pg (o==15) (15==16) w),(30,hB Pg (o==16) (16==16) t)],pans:=aU Pg [(104,9,2200,⟨5,some (cJ (wP c1 2435)),[]⟩)]} 1000 (al h h rfl)
section
variable(t u:Int)(x:(o==17)=false)(r:(o==18)=false)(w:(o==15)=false)(q:(o==16)=false)
include t u x r w q
theorem v2(y:decide (11≤o)=true)(c1:gV S (.mk g f b d e a) [1] t)(z:gV S (.mk m i c j l bO) [1] u):
    HC 104 [an,d6 k o s n p (.mk g f b d e a:: .mk m i c j l bO::v)] (ck S) [dv (bif true then 2 else 1)] (ck S):=
 qN {hint:=qT 104 [(18,qB x),(19,qB r),(29,qB w),(30,qB q),(49,qB y)],calls:=tC [(104,42,2350,aL rfl (wO c1 2341)),(104,46,2500,aL rfl (wO z 2495))]} 1000 (al h h rfl)
theorem uy(y:decide (11≤o)=false)(c1:gV S (.mk g f b d e a) [1] t)(z:gV S (.mk m i c j l bO) [1] u):
    HC 104 [an,d6 k o s n p (.mk g f b d e a:: .mk m i c j l bO::v)] (ck S) [dv (bif false then 2 else 1)] (ck S):=
 qN {hint:=qT 104 [(18,qB x),(19,qB r),(29,qB w),(30,qB q),(49,qB y)],calls:=tC [(104,42,2350,aL rfl (wO c1 2341)),(104,46,2500,aL rfl (wO z 2495))]} 1000 (al h h rfl)
end
theorem Dx(t q r:Int)(z:(o==17)=false)(x:(o==18)=false)(u:(o==15)=false)(w:(o==16)=false)(c1:gV S (.mk g f b d e a) [1] t)(y:eL S (.mk m i c j l bO) [1] q r):
    HX 104 [an,d6 k o s n p (.mk g f b d e a:: .mk m i c j l bO::v)] (ck S) (am q r) (ck S):=
 qX {hint:=qT 104 [(18,qB z),(19,qB x),(29,qB u),(30,qB w)],calls:=tC [(104,42,2350,aL rfl (wO c1 2341))],pans:=aU Pg [(104,12,2350,⟨3,some (cJ (wP y 2495)),[]⟩)]} 1000 (al h h rfl)
theorem Dy(q r:Int)(x:(o==17)=false)(u:(o==18)=false)(w:(o==15)=false)(t:(o==16)=false)(c1:eL S (.mk g f b d e a) [1] q r):
    HX 104 [an,d6 k o s n p (.mk g f b d e a:: .mk m i c j l bO::v)] (ck S) (am q r) (ck S):=
 qX {hint:=qT 104 [(18,qB x),(19,qB u),(29,qB w),(30,qB t)],pans:=aU Pg [(104,11,2200,⟨3,some (cJ (wP c1 2341)),[]⟩)]} 1000 (al h h rfl)
end
abbrev WX(S:CK)(e:Ex)(a:List Int):Prop:=TX S 92 [an, .d (e8 e), .d (.ro (a.map dv))] (fun t=>[dv t]) (bf (S.c.te S.fs) e a)
abbrev rX(E:TE)(o:Int)(xs:List Ex):TR Int:=bif decide (xs.length<2)then .out else (bif o==17||o==18 then (aD E xs [[2],[2]] false).bind fun _=> .ok 2
      else bif o==15||o==16 then (aD E xs [[1,2],[]] true).bind fun _=> .ok 2
      else (aD E xs [[1],[1]] false).bind fun _=> .ok (bif decide (11≤o)then 2 else 1))
theorem oD{E:TE}{e:Ex}{a:List Int}{t:Int}(h:bf E e a= .ok t):a.contains t=true:=by
 unfold bf at h;cases b:dq E e with
 |bad p q=>rw[b]at h;cases h
 |out=>rw[b]at h;cases h
 |ok u=>
  rw[b]at h;simp only[TR.bind]at h;cases c:a.contains u with
  |false=>rw[c]at h;cases h
  |true=>
   rw[c]at h;cases h;exact c
theorem BT{S:CK}(h:CKok S)(k o:Int)(F:List UInt8)(n p:Int)(xs:List Ex)(K:∀e∈xs,TX S 98 [an, .d (e8 e)] (fun t=>[dv t]) (dq (S.c.te S.fs) e)):
    TX S 104 [an,d6 k o F n p xs] (fun t=>[dv t]) (rX (S.c.te S.fs) o xs):=by
 match xs,K with
 |[],_=>exact trivial
 |[_],_=>exact trivial
 | .mk v z f m A i:: .mk x s g y w bO::D,K=>
  have Q:=K (.mk v z f m A i) (by simp);have V:=K (.mk x s g y w bO) (by simp);have W:decide ((Ex.mk v z f m A i::Ex.mk x s g y w bO::D).length<2)=false:=by simp
  simp only[rX,W,x9];have T:∀a,WX S _ [a]:=fun a=>iK h _ Q a
  have L:∀a,WX S _ [a]:=fun a=>iK h _ V a
  have O:WX S _ [1,2]:=ux h _ Q 1 2
  have R:∀a b,aD (S.c.te S.fs) (.mk v z f m A i:: .mk x s g y w bO::D) [[a],[b]] false=(bf (S.c.te S.fs) (.mk v z f m A i) [a]).bind fun _=>(bf (S.c.te S.fs) (.mk x s g y w bO) [b]).bind fun _=> .ok ():=fun a b=>by
   rw[aQ];congr 1;funext t;simp only[x9];rw[aQ];congr 1;funext t;cases D<;>rfl
  have Y:aD (S.c.te S.fs) (.mk v z f m A i:: .mk x s g y w bO::D) [[1,2],[]] true=(bf (S.c.te S.fs) (.mk v z f m A i) [1,2]).bind fun t=>(bf (S.c.te S.fs) (.mk x s g y w bO) [t]).bind fun _=> .ok ():=by
   rw[aQ];congr 1;funext t;simp only[yJ];rw[aQ];congr 1;funext t;cases D<;>rfl
  rw[R,R,Y]
  have G:∀(c:Int),(o==17)=(17==c)→(o==18)=(18==c)→(c=17∨c=18)→TX S 104 [an,d6 k o F n p (.mk v z f m A i:: .mk x s g y w bO::D)] (fun t=>[dv t]) (((bf (S.c.te S.fs) (.mk v z f m A i) [2]).bind fun _=>(bf (S.c.te S.fs) (.mk x s g y w bO) [2]).bind fun _=> .ok ()).bind fun _=> .ok 2):=fun c j l I=>by
   have c1:=T 2;have E:=L 2;revert c1 E;unfold WX;cases M:bf (S.c.te S.fs) (.mk v z f m A i) [2]with
   |out=>exact fun _ _=>trivial
   |bad q r=>
    intro c1 _;rcases I with rfl|rfl
    ·exact zW h k o F n p v z f m A i x s g y w bO D q r j l c1
    ·exact zY h k o F n p v z f m A i x s g y w bO D q r j l c1
   |ok t=>
    cases J:bf (S.c.te S.fs) (.mk x s g y w bO) [2]with
    |out=>exact fun _ _=>trivial
    |bad q r=>
     intro c1 E;rcases I with rfl|rfl
     ·exact zV h k o F n p v z f m A i x s g y w bO D t q r j l c1 E
     ·exact zX h k o F n p v z f m A i x s g y w bO D t q r j l c1 E
    |ok u=>
     intro c1 E
     have X:u=2:=by
      have P:=oD J;simp at P;first|exact P|exact P.symm
     subst X;rcases I with rfl|rfl
     ·exact BP h k o F n p v z f m A i x s g y w bO D t 2 j l c1 E
     ·exact BQ h k o F n p v z f m A i x s g y w bO D t 2 j l c1 E
  have H:∀(c:Int),(o==17)=false→(o==18)=false→(o==15)=(15==c)→(o==16)=(16==c)→(c=15∨c=16)→TX S 104 [an,d6 k o F n p (.mk v z f m A i:: .mk x s g y w bO::D)] (fun t=>[dv t]) (((bf (S.c.te S.fs) (.mk v z f m A i) [1,2]).bind fun t=>(bf (S.c.te S.fs) (.mk x s g y w bO) [t]).bind fun _=> .ok ()).bind fun _=> .ok 2):=fun c j l B C I=>by
   have c1:=O;revert c1;unfold WX;cases M:bf (S.c.te S.fs) (.mk v z f m A i) [1,2]with
   |out=>exact fun _=>trivial
   |bad q r=>
    intro c1;rcases I with rfl|rfl
    ·exact z2 h k o F n p v z f m A i x s g y w bO D q r j l B C c1
    ·exact z7 h k o F n p v z f m A i x s g y w bO D q r j l B C c1
   |ok t=>
    intro c1;have E:=L t;revert E;unfold WX;simp only[TR.bind];cases J:bf (S.c.te S.fs) (.mk x s g y w bO) [t]with
    |out=>exact fun _=>trivial
    |bad q r=>
     intro E;rcases I with rfl|rfl
     ·exact zZ h k o F n p v z f m A i x s g y w bO D t q r j l B C c1 E
     ·exact z6 h k o F n p v z f m A i x s g y w bO D t q r j l B C c1 E
    |ok u=>
     intro E;rcases I with rfl|rfl
     ·exact BR h k o F n p v z f m A i x s g y w bO D t u j l B C c1 E
     ·exact BS h k o F n p v z f m A i x s g y w bO D t u j l B C c1 E
  cases j:(o==17)with
  |true=>
   have N:=eq_of_beq j;simp only[Bool.true_or,yJ];exact G 17 j (by rw[N];rfl) (.inl rfl)
  |false=>cases l:(o==18)with
   |true=>
    simp only[Bool.or_true,yJ];exact G 18 j l (.inr rfl)
   |false=>
    simp only[Bool.or_self,x9];cases B:(o==15)with
    |true=>
     have N:=eq_of_beq B;simp only[Bool.true_or,yJ];exact H 15 j l B (by rw[N];rfl) (.inl rfl)
    |false=>cases C:(o==16)with
     |true=>
      simp only[Bool.or_true,yJ];exact H 16 j l B C (.inr rfl)
     |false=>
      simp only[Bool.or_self,x9];have c1:=T 1;have E:=L 1;revert c1 E;unfold WX;cases bf (S.c.te S.fs) (.mk v z f m A i) [1]with
      |out=>exact fun _ _=>trivial
      |bad q r=>exact fun c1 _=>Dy h k o F n p v z f m A i x s g y w bO D q r j l B C c1
      |ok t=>cases bf (S.c.te S.fs) (.mk x s g y w bO) [1]with
       |out=>exact fun _ _=>trivial
       |bad q r=>exact fun c1 E=>Dx h k o F n p v z f m A i x s g y w bO D t q r j l B C c1 E
       |ok u=>
        intro c1 E;simp only[TR.bind];cases U:decide (11≤o)with
        |true=>exact v2 h k o F n p v z f m A i x s g y w bO D t u j l B C U c1 E
        |false=>exact uy h k o F n p v z f m A i x s g y w bO D t u j l B C U c1 E
end Go.Avm
namespace Go.Avm
open Go.Proofs
abbrev EL(q:Pm):D:= .agg [.str q.nm, .int .u8 q.ty, .int .i64 q.p]
abbrev E3(f:Fn):List AV:=[.d (.str f.nm), .d (.ro (f.ps.map gU)),Dg f.res, .d (.ro (cZ f.bd)),dI f.p]
abbrev E4(f:Fn):Nat×aI:=(2007,⟨1,some (.arr 1 (E3 f))⟩)
abbrev vE(f:Fn)(xs:List Ex)(i:Nat):List (Nat×AV):=[(0,an),(7, .ptr 2007 1 0 0 1),(43, .d (.ro (fo xs))),(44,dN (fo xs).length),(45,dN i)]
abbrev Dz(f:Fn):List (Nat×AV):=[(0,an),(7, .ptr 2007 1 0 0 1)]
abbrev kX(S:CK)(f:Fn):List (Nat×aI):=ck S ++[E4 f]
abbrev DA(S:CK):List (Nat×aI):=ck S ++[(2007,⟨1,none⟩)]
theorem uz{S:CK}(h:CKok S)(f:Fn){ar:List AV}{a:List (Nat×aI)}(hp:a.map (·.1)=(kX S f).map (·.1))(d:bz (cK ((kX S f).map (·.1)) 1000000) ar=ar)(c:(a.map fun p=>bQ (cK ((kX S f).map (·.1)) 1000000) p.2)=a.map (·.2)):Cln ((kX S f).map (·.1)) 1000000 ar (kX S f) a:=
 ⟨rfl,rfl,hp,d,by
  have b:=dr h (ρ:=cK ((kX S f).map (·.1)) 1000000) rfl;simp only[kX,xM]at b ⊢;rw[b];rfl,c⟩
theorem DB{S:CK}(h:CKok S)(f:Fn)(e:aI)(b:bQ (cK ((kX S f).map (·.1)) 1000000) e=e):((ck S ++([(2007,e)]:List (Nat×aI))).map fun p:Nat×aI=>bQ (cK ((kX S f).map (·.1)) 1000000) p.2)=(ck S ++([(2007,e)]:List (Nat×aI))).map (·.2):=by
 have a:=dr h (ρ:=cK ((kX S f).map (·.1)) 1000000) rfl;show((ck S).map fun p:Nat×aI=>bQ (cK ((kX S f).map (·.1)) 1000000) p.2) ++[bQ (cK ((kX S f).map (·.1)) 1000000) e]=(ck S).map (·.2) ++[e];rw[a,b]
section
variable{S:CK}(h:CKok S)(f:Fn)(xs:List Ex)(i:Nat)
include h
theorem BU(a:decide (i<(fo xs).length)=false):RE 63 (lO 103 6) (vE f xs i) (kX S f) (.exit 0) (Dz f) (kX S f):=
 qE {hint:=qT 103 [(46,iM Pg i (fo xs).length false a)]} 103 2000 (uz h f rfl rfl (DB h f _ rfl))
theorem BV(k:decide (i<(fo xs).length)=true)(n:(fo xs).length<1000000)(j g:Int)(b:List UInt8)(d e:Int)(a:List Ex)(m:xs[i]? =some (.mk j g b d e a))(q:Pm)(l:f.ps[i]? =some q)(t:Int)(c:gV S (.mk j g b d e a) [q.ty] t):
    RE 63 (lO 103 6) (vE f xs i) (kX S f) .normal (vE f xs (i+1)) (kX S f):=
 qE {hint:=qT 103 [(46,iM Pg i (fo xs).length true k),(48, .idx (fo xs) ((i:Nat):Int) (e8 (.mk j g b d e a)) (by omega) (by simp[gQ,m])),(55, .idx (f.ps.map gU) ((i:Nat):Int) (EL q) (by omega) (by simp[l,gU])),(60,jB Pg i (by have:=xw k;omega))],calls:=tC [(103,59,3008,aL rfl (wO c 3003))]} 103 2000 (uz h f rfl rfl (DB h f _ rfl))
theorem BW(m:decide (i<(fo xs).length)=true)(j g:Int)(b:List UInt8)(d e:Int)(a:List Ex)(l:xs[i]? =some (.mk j g b d e a))(q:Pm)(k:f.ps[i]? =some q)(u r:Int)(c:eL S (.mk j g b d e a) [q.ty] u r):
    RE 63 (lO 103 6) (vE f xs i) (kX S f) (.panic (am u r)) [] (DA S):=
 qE {hint:=qT 103 [(46,iM Pg i (fo xs).length true m),(48, .idx (fo xs) ((i:Nat):Int) (e8 (.mk j g b d e a)) (by omega) (by simp[gQ,l])),(55, .idx (f.ps.map gU) ((i:Nat):Int) (EL q) (by omega) (by simp[k,gU]))],pans:=aU Pg [(103,8,2441,⟨9,some (cJ (wP c 3003)),[]⟩)]} 103 2000 (uz h f rfl rfl (DB h f _ rfl))
end
def DC(S:CK)(f:Fn)(xs:List Ex)(i:Nat):TR Unit→Prop
 | .ok _=>RL 63 (lO 103 6) (vE f xs i) (kX S f) (.exit 0) (Dz f) (kX S f)
 | .bad p q=>RL 63 (lO 103 6) (vE f xs i) (kX S f) (.panic (am p q)) [] (DA S)
 | .out=>True
theorem yu{S:CK}(h:CKok S)(f:Fn)(xs:List Ex)(A:xs.length<1000000)(s:f.ps.length=xs.length)(C:∀e∈xs,TX S 98 [an, .d (e8 e)] (fun t=>[dv t]) (dq (S.c.te S.fs) e)):
    ∀(m i:Nat),xs.length-i=m→i≤xs.length→DC S f xs i (aD (S.c.te S.fs) (xs.drop i) ((f.ps.drop i).map fun q=>[q.ty]) false)
 |0,i,hm,D=>by
  have B:i=xs.length:=by omega
  subst B;have E:xs.drop xs.length=[]:=yl;have F:f.ps.drop xs.length=[]:=by rw[←s];exact yl
  rw[E,F];exact fun a X g k=>bA (BU h f xs xs.length (by simp[cg]) a X g k) (by simp)
 |m+1,i,hm,D=>by
  have b:i<xs.length:=by omega
  have p:xs[i]? =some xs[i]:=xE b;have y:f.ps[i]? =some (f.ps[i]'(by omega)):=xE (by omega);rw[xq b,xq (l:=f.ps) (by omega)];generalize xs[i]=e at p;generalize f.ps[i]'(by omega)=q at y;have c:=iK h e (C e (xS p)) q.ty;obtain⟨w,x,j,v,z,n⟩:=e;rw[xI,aQ];revert c;cases bf (S.c.te S.fs) (.mk w x j v z n) [q.ty]with
  |out=>exact fun _=>trivial
  |bad u r=>exact fun c a X g k=>bA (BW h f xs i (by simpa [cg]using b) w x j v z n p q y u r c a X g k) (by simp)
  |ok t=>
   intro c;have o:=yu h f xs A s C m (i+1) (by omega) b;simp only[TR.bind,x9];revert o;cases aD (S.c.te S.fs) (xs.drop (i+1)) ((f.ps.drop (i+1)).map fun q=>[q.ty]) false with
   |out=>exact fun _=>trivial
   |bad u r=>exact fun o a X g k=>bM (BV h f xs i (by simpa [cg]using b) (by rw[cg];exact A) w x j v z n p q y t c a X g k) (o a X g k)
   |ok _=>exact fun o a X g k=>bM (BV h f xs i (by simpa [cg]using b) (by rw[cg];exact A) w x j v z n p q y t c a X g k) (o a X g k)
noncomputable def BX{S:CK}{f:Fn}{xs:List Ex}{x:au}{l':List (Nat×AV)}{a:List (Nat×aI)}(h:RL 63 (lO 103 6) (vE f xs 0) (kX S f) x l' a):jo Pg:=
 ⟨63,e5 Pg 103 6,vE f xs 0,fun _=>kX S f,x,l',fun _=>a,fun b X c d=>(h b X c d).aw⟩
section
variable{S:CK}(h:CKok S)(k o:Int)(a:List UInt8)(n p:Int)(xs:List Ex)
include h
theorem z8(b:cm a S.fs 0=none):HX 103 [an,d6 k o a n p xs] (ck S) (am p 6) (ck S):=
 qX {hint:=qT 103 [(17,j6 Pg a S.fs none b)],pans:=aU Pg [(103,2,1882,⟨3,some (cJ (a7 p 6)),[]⟩)]} 1000 (al h h rfl)
theorem sX(j:Nat)(f:Fn)(c:cm a S.fs 0=some (j,f))(b:S.fs[j]? =some f)(d:(((f.ps.map gU).length:Int)==((fo xs).length:Int))=false):HX 103 [an,d6 k o a n p xs] (ck S) (am p 9) (ck S):=
 qX {hint:=qT 103 [(17,j6 Pg a S.fs (some (j,f)) c),(30, .idx (S.fs.map cR) ((j:Nat):Int) (cR f) (by omega) (by simp[b])),(38,qB d)],calls:=tC [(103,23,2071,aL rfl (ay p 6))],pans:=aU Pg [(103,4,2701,⟨9,some (cJ (a7 p 9)),[]⟩)]} 1000 (al h h rfl)
theorem Aa(j:Nat)(f:Fn)(c:cm a S.fs 0=some (j,f))(b:S.fs[j]? =some f)(e:(((f.ps.map gU).length:Int)==((fo xs).length:Int))=true)
    (d:RL 63 (lO 103 6) (vE f xs 0) (kX S f) (.exit 0) (Dz f) (kX S f)):
    HC 103 [an,d6 k o a n p xs] (ck S) [dv f.res] (ck S):=
 qN {loops:=fun f q=>if f=103 then (if q=6 then some (BX d)else none)else none,hint:=qT 103 [(17,j6 Pg a S.fs (some (j,f)) c),(30, .idx (S.fs.map cR) ((j:Nat):Int) (cR f) (by omega) (by simp[b])),(38,qB e)],calls:=tC [(103,23,1496,aL rfl (ay p 6)),(103,41,2693,aL rfl (ay p 9))]} 425 (al h h rfl)
theorem v6(j:Nat)(f:Fn)(u r:Int)(c:cm a S.fs 0=some (j,f))(b:S.fs[j]? =some f)(e:(((f.ps.map gU).length:Int)==((fo xs).length:Int))=true)
    (d:RL 63 (lO 103 6) (vE f xs 0) (kX S f) (.panic (am u r)) [] (DA S)):
    HX 103 [an,d6 k o a n p xs] (ck S) (am u r) (ck S):=
 qX {loops:=fun f q=>if f=103 then (if q=6 then some (BX d)else none)else none,hint:=qT 103 [(17,j6 Pg a S.fs (some (j,f)) c),(30, .idx (S.fs.map cR) ((j:Nat):Int) (cR f) (by omega) (by simp[b])),(38,qB e)],calls:=tC [(103,23,1496,aL rfl (ay p 6)),(103,41,2693,aL rfl (ay p 9))]} 425 (al h h rfl)
end
theorem j7{x:List UInt8}:∀{l:List Fn}{i j:Nat}{f:Fn},cm x l i=some (j,f)→i≤j∧l[j-i]? =some f
 |[],_,_,_,h=>by cases h
 |e::r,i,j,f,h=>by
  simp only[cm]at h;cases a:(x==e.nm)with
  |true=>
   rw[a]at h;simp only[yJ,xA,xC]at h;obtain⟨rfl,rfl⟩:=h;simp
  |false=>
   rw[a]at h;obtain⟨b,h2⟩:=j7 (l:=r) h;refine⟨by omega, ?_⟩;rw[show j-i=(j-(i+1))+1 by omega,yZ];exact h2
abbrev uA(E:TE)(a:List UInt8)(p:Int)(xs:List Ex):TR Int:=match cm a E.fs 0 with
 |none=> .bad p 6
 |some (_,f)=>bif f.ps.length==xs.length then (aD E xs (f.ps.map fun q=>[q.ty]) false).bind fun _=> .ok f.res else .bad p 9
theorem BZ{S:CK}(h:CKok S)(k o:Int)(a:List UInt8)(n p:Int)(xs:List Ex)(w:∀e∈xs,TX S 98 [an, .d (e8 e)] (fun t=>[dv t]) (dq (S.c.te S.fs) e)):
    TX S 103 [an,d6 k o a n p xs] (fun t=>[dv t]) (uA (S.c.te S.fs) a p xs):=by
 show TX S _ _ _ (match cm a S.fs 0 with|none=> .bad p 6|some (_,f)=>bif f.ps.length==xs.length then (aD (S.c.te S.fs) xs (f.ps.map fun q=>[q.ty]) false).bind fun _=> .ok f.res else .bad p 9);cases i:cm a S.fs 0 with
 |none=>exact z8 h k o a n p xs i
 |some v=>
  obtain⟨j,f⟩:=v;have m:S.fs[j]? =some f:=(j7 i).2;simp only;cases s:(f.ps.length==xs.length)with
  |false=>
   refine sX h k o a n p xs j f i m ?_;rw[yh]at s ⊢;rw[xV,cg];intro e;exact s (by omega)
  |true=>
   have g:f.ps.length=xs.length:=eq_of_beq s
   have l:(((f.ps.map gU).length:Int)==((fo xs).length:Int))=true:=by
    rw[xV,cg,g];exact beq_self_eq_true _
   have x:=h.par f (xS m);have b:=yu h f xs (by omega) g w xs.length 0 (by omega) (by omega);simp only[yX]at b;simp only[yJ];revert b;cases aD (S.c.te S.fs) xs (f.ps.map fun q=>[q.ty]) false with
   |out=>exact fun _=>trivial
   |bad u r=>exact fun b=>v6 h k o a n p xs j f u r i m l b
   |ok _=>exact fun b=>Aa h k o a n p xs j f i m l b
end Go.Avm
namespace Go.Avm
open Go.Proofs
section
variable{S:CK}(h:CKok S)(k o:Int)(a:List UInt8)(n p:Int)
include h
theorem Ab(xs:List Ex)(h2:(k==2)=true):HC 98 [an,d6 k o a n p xs] (ck S) [dv 2] (ck S):=
 qN {hint:=qT 98 [(12,qB h2)]} 1000 (al h h rfl)
section
variable(xs:List Ex)(h2:(k==2)=false)
include xs h2
theorem Ad(b:(k==3)=true)(q r:Int)(c:HX 91 [an, .d (.str a),dI p] (ck S) (am q r) (ck S)):
    HX 98 [an,d6 k o a n p xs] (ck S) (am q r) (ck S):=
 qX {hint:=qT 98 [(12,qB h2),(14,qB b)],pans:=aU Pg [(98,5,1728,⟨5,some (cJ c),[]⟩)]} 1000 (al h h rfl)
theorem Ae(b:(k==3)=true)(i:Nat)(v:Vr)(c:HC 91 [an, .d (.str a),dI p] (ck S) [.int .i64 (i:Int),oR v] (ck S))(j:Nat)(e:a6 i S.c.sure.l 0=some j):
    HC 98 [an,d6 k o a n p xs] (ck S) [dv v.ty] (ck S):=
 qN {hint:=qT 98 [(12,qB h2),(14,qB b),(30,gH Pg i S.c.sure.l (some j) e)],calls:=tC [(98,21,2183,aL rfl c),(98,36,4094,aL rfl (ay p 10))]} 1000 (al h h rfl)
theorem Af(b:(k==3)=true)(i:Nat)(v:Vr)(c:HC 91 [an, .d (.str a),dI p] (ck S) [.int .i64 (i:Int),oR v] (ck S))(e:a6 i S.c.sure.l 0=none):
    HX 98 [an,d6 k o a n p xs] (ck S) (am p 10) (ck S):=
 qX {hint:=qT 98 [(12,qB h2),(14,qB b),(30,gH Pg i S.c.sure.l none e)],calls:=tC [(98,21,2183,aL rfl c)],pans:=aU Pg [(98,7,3821,⟨3,some (cJ (a7 p 10)),[]⟩)]} 1000 (al h h rfl)
theorem v7(b:(k==3)=false)(e:(k==4)=(4==4))(f:(k==7)=(7==4))(q r:Int)(c:HX 93 [an, .d (.str a),dI p] (ck S) (am q r) (ck S)):
    HX 98 [an,d6 k o a n p xs] (ck S) (am q r) (ck S):=
 qX {hint:=qT 98 [(12,qB h2),(14,qB b),(40,hB Pg (k==4) (4==4) e)],pans:=aU Pg [(98,10,1910,⟨5,some (cJ c),[]⟩)]} 1000 (al h h rfl)
theorem v8(b:(k==3)=false)(e:(k==4)=(4==7))(f:(k==7)=(7==7))(q r:Int)(c:HX 93 [an, .d (.str a),dI p] (ck S) (am q r) (ck S)):
    HX 98 [an,d6 k o a n p xs] (ck S) (am q r) (ck S):=
 qX {hint:=qT 98 [(12,qB h2),(14,qB b),(40,hB Pg (k==4) (4==7) e),(55,hB Pg (k==7) (7==7) f)],pans:=aU Pg [(98,13,2092,⟨5,some (cJ c),[]⟩)]} 1000 (al h h rfl)
theorem Ag(b:(k==3)=false)(e:(k==4)=false)(f:(k==7)=true)(c:HC 93 [an, .d (.str a),dI p] (ck S) [] (ck S)):
    HC 98 [an,d6 k o a n p xs] (ck S) [dv 1] (ck S):=
 qN {hint:=qT 98 [(12,qB h2),(14,qB b),(40,qB e),(55,qB f)],calls:=tC [(98,61,2547,aL rfl c)]} 1000 (al h h rfl)
end
section
variable(j i:Int)(e:List UInt8)(f g:Int)(b m:List Ex)(h2:(k==2)=false)(l:(k==3)=false)(s:(k==4)=true)
include j i e f g b m h2 l s
theorem wa(t:Int)(c:HC 93 [an, .d (.str a),dI p] (ck S) [] (ck S))(c1:gV S (.mk j i e f g b) [1] t):
    HC 98 [an,d6 k o a n p (.mk j i e f g b::m)] (ck S) [dv 1] (ck S):=
 qN {hint:=qT 98 [(12,qB h2),(14,qB l),(40,qB s)],calls:=tC [(98,46,2365,aL rfl c),(98,53,2911,aL rfl (wO c1 2872))]} 1000 (al h h rfl)
theorem wb(q r:Int)(c:HC 93 [an, .d (.str a),dI p] (ck S) [] (ck S))(c1:eL S (.mk j i e f g b) [1] q r):
    HX 98 [an,d6 k o a n p (.mk j i e f g b::m)] (ck S) (am q r) (ck S):=
 qX {hint:=qT 98 [(12,qB h2),(14,qB l),(40,qB s)],calls:=tC [(98,46,2365,aL rfl c)],pans:=aU Pg [(98,11,2365,⟨6,some (cJ (wP c1 2872)),[]⟩)]} 1000 (al h h rfl)
end
section
variable(xs:List Ex)(h2:(k==2)=false)(b:(k==3)=false)(d:(k==4)=false)(e:(k==7)=false)(f:(k==5)=true)
include xs h2 b d e f
theorem wc(t:Int)(c:HC 103 [an,d6 k o a n p xs] (ck S) [dv t] (ck S)):
    HC 98 [an,d6 k o a n p xs] (ck S) [dv t] (ck S):=
 qN {hint:=qT 98 [(12,qB h2),(14,qB b),(40,qB d),(55,qB e),(63,qB f)],calls:=tC [(98,66,2456,aL rfl c)]} 1000 (al h h rfl)
theorem wd(q r:Int)(c:HX 103 [an,d6 k o a n p xs] (ck S) (am q r) (ck S)):
    HX 98 [an,d6 k o a n p xs] (ck S) (am q r) (ck S):=
 qX {hint:=qT 98 [(12,qB h2),(14,qB b),(40,qB d),(55,qB e),(63,qB f)],pans:=aU Pg [(98,15,2274,⟨2,some (cJ c),[]⟩)]} 1000 (al h h rfl)
end
section
variable(g f:Int)(c:List UInt8)(d e:Int)(b l:List Ex)(h2:(k==2)=false)(i:(k==3)=false)(s:(k==4)=false)(m:(k==7)=false)(u:(k==5)=false)(j:(k==8)=true)
include g f c d e b l h2 i s m u j
theorem sY(q:(o==21)=true)(t:Int)(c1:gV S (.mk g f c d e b) [bif true then 2 else 1] t):
    HC 98 [an,d6 k o a n p (.mk g f c d e b::l)] (ck S) [dv t] (ck S):=
 qN {hint:=qT 98 [(12,qB h2),(14,qB i),(40,qB s),(55,qB m),(63,qB u),(68,qB j),(71,qB q)],calls:=tC [(98,78,3275,aL rfl (wO c1 3261))]} 1000 (al h h rfl)
theorem sZ(t:(o==21)=true)(q r:Int)(c1:eL S (.mk g f c d e b) [bif true then 2 else 1] q r):
    HX 98 [an,d6 k o a n p (.mk g f c d e b::l)] (ck S) (am q r) (ck S):=
 qX {hint:=qT 98 [(12,qB h2),(14,qB i),(40,qB s),(55,qB m),(63,qB u),(68,qB j),(71,qB t)],pans:=aU Pg [(98,18,2729,⟨6,some (cJ (wP c1 3261)),[]⟩)]} 1000 (al h h rfl)
theorem rl(q:(o==21)=false)(t:Int)(c1:gV S (.mk g f c d e b) [bif false then 2 else 1] t):
    HC 98 [an,d6 k o a n p (.mk g f c d e b::l)] (ck S) [dv t] (ck S):=
 qN {hint:=qT 98 [(12,qB h2),(14,qB i),(40,qB s),(55,qB m),(63,qB u),(68,qB j),(71,qB q)],calls:=tC [(98,85,3275,aL rfl (wO c1 3268))]} 1000 (al h h rfl)
theorem rm(t:(o==21)=false)(q r:Int)(c1:eL S (.mk g f c d e b) [bif false then 2 else 1] q r):
    HX 98 [an,d6 k o a n p (.mk g f c d e b::l)] (ck S) (am q r) (ck S):=
 qX {hint:=qT 98 [(12,qB h2),(14,qB i),(40,qB s),(55,qB m),(63,qB u),(68,qB j),(71,qB t)],pans:=aU Pg [(98,19,2729,⟨6,some (cJ (wP c1 3268)),[]⟩)]} 1000 (al h h rfl)
end
section
variable(xs:List Ex)(h2:(k==2)=false)(b:(k==3)=false)(f:(k==4)=false)(e:(k==7)=false)(g:(k==5)=false)(d:(k==8)=false)
include xs h2 b f e g d
theorem we(i:(k==9)=true)(t:Int)(c:HC 104 [an,d6 k o a n p xs] (ck S) [dv t] (ck S)):
    HC 98 [an,d6 k o a n p xs] (ck S) [dv t] (ck S):=
 qN {hint:=qT 98 [(12,qB h2),(14,qB b),(40,qB f),(55,qB e),(63,qB g),(68,qB d),(87,qB i)],calls:=tC [(98,90,2820,aL rfl c)]} 1000 (al h h rfl)
theorem wg(i:(k==9)=true)(q r:Int)(c:HX 104 [an,d6 k o a n p xs] (ck S) (am q r) (ck S)):
    HX 98 [an,d6 k o a n p xs] (ck S) (am q r) (ck S):=
 qX {hint:=qT 98 [(12,qB h2),(14,qB b),(40,qB f),(55,qB e),(63,qB g),(68,qB d),(87,qB i)],pans:=aU Pg [(98,21,2638,⟨2,some (cJ c),[]⟩)]} 1000 (al h h rfl)
theorem B0(c:(k==9)=false):
    HC 98 [an,d6 k o a n p xs] (ck S) [dv 1] (ck S):=
 qN {hint:=qT 98 [(12,qB h2),(14,qB b),(40,qB f),(55,qB e),(63,qB g),(68,qB d),(87,qB c)]} 1000 (al h h rfl)
end
end
theorem cq(E:TE)(l:List Ex)(a:Bool):aD E l [] a= .ok ():=by
 cases l<;>rfl
theorem yv{S:CK}(h:CKok S):∀(m:Nat)(e:Ex),SizeOf.sizeOf e≤m→TX S 98 [an, .d (e8 e)] (fun t=>[dv t]) (dq (S.c.te S.fs) e)
 |0, .mk _ _ _ _ _ _,hm=>by simp at hm
 |m+1, .mk k o a n p xs,hm=>by
  have A:∀e∈xs,TX S 98 [an, .d (e8 e)] (fun t=>[dv t]) (dq (S.c.te S.fs) e):=fun e J=>yv h m e (by
   have:=List.sizeOf_lt_of_mem J;simp at hm;omega)
  unfold dq;cases h2:(k==2)with
  |true=>exact Ab h k o a n p xs h2
  |false=>cases g:(k==3)with
  |true=>
   simp only[yJ,x9];have c:=zP h a p;revert c;cases mq (S.c.te S.fs) a p with
   |out=>exact fun _=>trivial
   |bad q r=>exact fun c=>Ad h k o a n p xs h2 g q r c
   |ok iv=>
    obtain⟨i,v⟩:=iv;intro c;show TX S _ _ _ (bif (a6 i S.c.sure.l 0).isSome then .ok v.ty else .bad p 10);cases I:a6 i S.c.sure.l 0 with
    |none=>exact Af h k o a n p xs h2 g i v c I
    |some j=>exact Ae h k o a n p xs h2 g i v c j I
  |false=>cases s:(k==4)with
  |true=>
   have K:=eq_of_beq s;simp only[yJ,x9];have c:=zR h a p;revert c;cases oz (S.c.te S.fs) a p with
   |out=>exact fun _=>trivial
   |bad q r=>exact fun c=>v7 h k o a n p xs h2 g s (by rw[K];rfl) q r c
   |ok _=>
    intro c;match xs,A with
    |[],_=>exact trivial
    | .mk w x b u y f::D,A=>
     have c1:=iK h _ (A (.mk w x b u y f) (by simp)) 1;simp only[TR.bind];rw[aQ];revert c1;cases bf (S.c.te S.fs) (.mk w x b u y f) [1]with
     |out=>exact fun _=>trivial
     |bad q r=>exact fun c1=>wb h k o a n p w x b u y f D h2 g s q r c c1
     |ok t=>
      intro c1;simp only[TR.bind,x9,cq];exact wa h k o a n p w x b u y f D h2 g s t c c1
  |false=>cases z:(k==7)with
  |true=>
   simp only[yJ,x9];have c:=zR h a p;revert c;cases oz (S.c.te S.fs) a p with
   |out=>exact fun _=>trivial
   |bad q r=>exact fun c=>v8 h k o a n p xs h2 g s z q r c
   |ok _=>exact fun c=>Ag h k o a n p xs h2 g s z c
  |false=>cases B:(k==5)with
  |true=>
   simp only[yJ,x9];have c:=BZ h k o a n p xs A;show TX S _ _ _ (uA (S.c.te S.fs) a p xs);revert c;cases uA (S.c.te S.fs) a p xs with
   |out=>exact fun _=>trivial
   |bad q r=>exact fun c=>wd h k o a n p xs h2 g s z B q r c
   |ok t=>exact fun c=>wc h k o a n p xs h2 g s z B t c
  |false=>cases C:(k==8)with
  |true=>
   simp only[yJ,x9];match xs,A with
   |[],_=>cases (o==21)<;>exact trivial
   | .mk w x b u y f::D,A=>
    cases F:(o==21)with
    |true=>
     have c1:=iK h _ (A (.mk w x b u y f) (by simp)) 2;simp only[yJ];rw[aQ];revert c1;cases H:bf (S.c.te S.fs) (.mk w x b u y f) [2]with
     |out=>exact fun _=>trivial
     |bad q r=>exact fun c1=>sZ h k o a n p w x b u y f D h2 g s z B C F q r c1
     |ok t=>
      intro c1;have E:=oD H;simp at E;obtain rfl:t=2:=by first|exact E|exact E.symm
      simp only[TR.bind,x9,cq];exact sY h k o a n p w x b u y f D h2 g s z B C F 2 c1
    |false=>
     have c1:=iK h _ (A (.mk w x b u y f) (by simp)) 1;simp only[x9];rw[aQ];revert c1;cases H:bf (S.c.te S.fs) (.mk w x b u y f) [1]with
     |out=>exact fun _=>trivial
     |bad q r=>exact fun c1=>rm h k o a n p w x b u y f D h2 g s z B C F q r c1
     |ok t=>
      intro c1;have E:=oD H;simp at E;obtain rfl:t=1:=by first|exact E|exact E.symm
      simp only[TR.bind,x9,cq];exact rl h k o a n p w x b u y f D h2 g s z B C F 1 c1
  |false=>cases G:(k==9)with
  |true=>
   simp only[yJ,x9];have c:=BT h k o a n p xs A;show TX S _ _ _ (rX (S.c.te S.fs) o xs);revert c;cases rX (S.c.te S.fs) o xs with
   |out=>exact fun _=>trivial
   |bad q r=>exact fun c=>wg h k o a n p xs h2 g s z B C G q r c
   |ok t=>exact fun c=>we h k o a n p xs h2 g s z B C G t c
  |false=>exact B0 h k o a n p xs h2 g s z B C G
theorem Dh{S:CK}(h:CKok S)(e:Ex):TX S 98 [an, .d (e8 e)] (fun t=>[dv t]) (dq (S.c.te S.fs) e):=yv h _ e (xO _)
theorem Ah{S:CK}(h:CKok S)(e:Ex)(a:Int):WX S e [a]:=iK h e (Dh h e) a
theorem E5{S:CK}(h:CKok S)(e:Ex)(a b:Int):WX S e [a,b]:=ux h e (Dh h e) a b
end Go.Avm
namespace Go.Avm
open Go.Proofs
abbrev cI(k id:Int)(c:List UInt8)(ty n p:Int)(es:List Ex)(a b:List cf):AV:= .d (oy (.mk k id c ty n p es a b))
abbrev hZ(s:cf):Prop:=HC 82 [.d (oy s)] [] [.bool (kW s)] []
abbrev ic(l:List cf):Prop:=HC 69 [.d (.ro (cZ l))] [] [.bool (cT l)] []
section
variable(k id:Int)(f:List UInt8)(ty n p:Int)(es:List Ex)(a e:List cf)
theorem EM(h:(k==6)=true):HC 82 [cI k id f ty n p es a e] [] [.bool true] []:=
 qN {hint:=qT 82 [(5,qB h)]} 1000
theorem EN(h:(k==6)=false)(b:(k==4)=false):HC 82 [cI k id f ty n p es a e] [] [.bool false] []:=
 qN {hint:=qT 82 [(5,qB h),(9,qB b)]} 1000
theorem EO(h:(k==6)=false)(b:(k==4)=true)(c:HC 69 [.d (.ro (cZ a))] [] [.bool false] []):HC 82 [cI k id f ty n p es a e] [] [.bool false] []:=
 qN {hint:=qT 82 [(5,qB h),(9,qB b)],calls:=tC [(82,13,1252,aL rfl c)]} 1000
theorem EP(h:(k==6)=false)(g:(k==4)=true)(b:Bool)(c:HC 69 [.d (.ro (cZ a))] [] [.bool true] [])(i:HC 69 [.d (.ro (cZ e))] [] [.bool b] []):HC 82 [cI k id f ty n p es a e] [] [.bool b] []:=
 qN {hint:=qT 82 [(5,qB h),(9,qB g)],calls:=tC [(82,13,1252,aL rfl c),(82,18,1336,aL rfl i)]} 1000
end
def DD(P:Program)(m:Nat)(a:0<m)(h:m<1000000):bj P:= .val (dI (IntKind.i64.wrap ((m:Int)-1))) (dI ((m-1:Nat):Int)) (by
 congr 2;rw[IntWalk.i64_in _ (by omega)];omega)
def Ai(P:Program)(l:List cf)(k id:Int)(c:List UInt8)(ty n p:Int)(es:List Ex)(a b:List cf)(d:l[l.length-1]? =some (.mk k id c ty n p es a b)):bj P:= .idx (cZ l) (((cZ l).length-1:Nat):Int) (oy (.mk k id c ty n p es a b)) (by omega) (by
 rw[yW,jz,k7,xK,d];rfl)
theorem B1:HC 69 [.d (.ro (cZ []))] [] [.bool false] []:=
 qN {} 1000
theorem Aj(l:List cf)(k id:Int)(e:List UInt8)(ty n p:Int)(es:List Ex)(a g:List cf)(b:Bool)(h:decide ((0:Int)<((cZ l).length:Int))=true)(f:(cZ l).length<1000000)(i:l[l.length-1]? =some (.mk k id e ty n p es a g))
    (c:HC 82 [cI k id e ty n p es a g] [] [.bool b] []):HC 69 [.d (.ro (cZ l))] [] [.bool b] []:=
 qN {hint:=qT 69 [(5,qB h),(10,DD Pg (cZ l).length (by have:=xw h;omega) f),(11,Ai Pg l k id e ty n p es a g i)],calls:=tC [(69,13,1165,aL rfl c)]} 1000
theorem mu:∀(l:List cf)(s:cf),l[l.length-1]? =some s→cT l=kW s
 |[],_,h=>by cases h
 |[a],s,h=>by
  simp at h;subst h;rfl
 |a::b::r,s,h=>by
  have:=mu (b::r) s (by simpa using h);exact this
def e6:Nat→List cf→Prop
 |0,_=>False
 |m+1,l=>l.length<1000000∧∀s∈l,match s with| .mk _ _ _ _ _ _ _ a b=>e6 m a∧e6 m b
theorem mw:∀(m:Nat)(l:List cf),e6 m l→ic l
 |0,_,h=>h.elim
 |m+1,l,h=>by
  by_cases q:l=[]
  ·subst q
   exact B1
  ·have f:0<l.length:=List.length_pos_iff.2 q
   have g:l[l.length-1]? =some (l[l.length-1]'(by omega)):=xE _;generalize l[l.length-1]'(by omega)=s at g;obtain⟨k,id,d,ty,n,p,es,b,a⟩:=s;have r:=h.2 _ (xS g);have e:=mu l _ g
   have o:hZ (.mk k id d ty n p es b a):=by
    unfold hZ kW;cases i:(k==6)with
    |true=>exact EM k id d ty n p es b a i
    |false=>cases j:(k==4)with
     |false=>exact EN k id d ty n p es b a i j
     |true=>
      have c:=mw m b r.1;revert c;unfold ic;cases cT b with
      |false=>exact fun c=>EO k id d ty n p es b a i j c
      |true=>exact fun c=>EP k id d ty n p es b a i j (cT a) c (mw m a r.2)
   unfold ic;rw[e];exact Aj l k id d ty n p es b a _ (by simpa [jz]using f) (by rw[jz];exact h.1) g o
theorem yx{m:Nat}{k id:Int}{d:List UInt8}{ty n p:Int}{es:List Ex}{a b:List cf}(g:e6 m a)(h:e6 m b):hZ (.mk k id d ty n p es a b):=by
 unfold hZ kW;cases e:(k==6)with
 |true=>exact EM k id d ty n p es a b e
 |false=>cases f:(k==4)with
  |false=>exact EN k id d ty n p es a b e f
  |true=>
   have c:=mw m a g;revert c;unfold ic;cases cT a with
   |false=>exact fun c=>EO k id d ty n p es a b e f c
   |true=>exact fun c=>EP k id d ty n p es a b e f (cT b) c (mw m b h)
end Go.Avm
namespace Go.Avm
open Go.Proofs
theorem nA:∀{l:eE}{i:Nat}{e:D×D×Nat},e∈br i l→∃p∈l,e.1= .str p.1∧e.2.1= .int .i64 (p.2:Int)∧i≤e.2.2∧e.2.2<i+l.length
 |[],_,_,h=>by cases h
 |p::r,i,e,h=>by
  simp only[br,xR]at h;rcases h with rfl|h
  ·exact⟨p,by simp,rfl,rfl,xO _,by simp⟩
  ·obtain⟨q,a,b,h2,c,d⟩:=nA h
   exact⟨q,by simp[a],b,h2,by omega,by simp only[x6];omega⟩
theorem my:∀(l:eE)(i:Nat),(br i l).map (·.1)=l.map fun p=>D.str p.1
 |[],_=>rfl
 |p::r,i=>by simp only[br,xI,my r (i+1)]
theorem mz:∀(l:eE)(i:Nat),(br i l).map (·.2.2)=List.range' i l.length
 |[],_=>rfl
 |p::r,i=>by simp only[br,xI,mz r (i+1),x6,y5]
theorem j8:∀(l:eE)(i:Nat),(br i l).length=l.length
 |[],_=>rfl
 |p::r,i=>by simp only[br,x6,j8 r (i+1)]
theorem mA:∀(l:eE)(i:Nat),jA (br i l)=(l.map (·.2)).map fun n:Nat=>(n:Int)
 |[],_=>rfl
 |p::r,i=>by
  show(p.2:Int)::jA (br (i+1) r)=_;rw[mA r (i+1)];rfl
theorem s2{c:List Int}(h:c.Pairwise (· < ·)):gE c=c:=by
 unfold gE;refine List.mergeSort_of_pairwise (h.imp fun {a b} d=> ?_);simp only[y6];omega
theorem pN{S:CK}(h:CKok S):uh (br 0 S.c.seen) S.c.seen.length:=by
 refine⟨fun e i=> ?_, ?_, ?_, ?_⟩
 ·obtain⟨p,hp,f,h2,_,k⟩:=nA i
  have m:=h.nml p hp;have l:=h.seen p hp;have j:=h.vars;exact⟨p.1,p.2,f,h2,by unfold maxLen;omega,by omega,by omega⟩
 ·rw[my]
  have:=h.nms;rw[List.nodup_iff_pairwise_ne,List.pairwise_map]at this ⊢;exact this.imp fun {a b} d e=>d (by simpa using e)
 ·rw[mz]
  exact List.nodup_range'
 ·rw[j8]
  have f:=List.Nodup.length_le_of_subset (l₁:=S.c.seen.map (·.2)) (l₂:=List.range 255) ((List.nodup_iff_pairwise_ne.2 (h.inc.imp fun {a b} d=>by omega))) (fun x g=>by
   obtain⟨p,hp,rfl⟩:=xf.1 g;have:=h.seen p hp;have:=h.vars;simp;omega)
  simp at f;omega
abbrev Ak(S:CK)(kb:Nat):List (Nat×aI):=[(kb,⟨1,some (.arr 1 [.mp 500003 S.vs])⟩),(500003,⟨S.vs,some (.map (br 0 S.c.seen) S.c.seen.length)⟩)]
theorem uB{S:CK}(h:CKok S)(kb:Nat)(i:kb≠500003)(f:aa):az Pg 99 [.fn 107 [.ptr kb 1 0 0 1]] (af (Ak S kb) f) ([.ro (cH (S.c.seen.map (·.2)))].map .d) (af (Ak S kb) f):=by
 have g:=vZ (h:=af (Ak S kb) f) (kb:=kb) (vb:=1) (k:=500003) (v:=S.vs) (by simp[af,aq]) (by simp[af,aq,Ne.symm i]) (pN h)
 have e:(gE (jA (br 0 S.c.seen))).map (D.int .i64)=cH (S.c.seen.map (·.2)):=by
  rw[mA,s2]
  ·simp[cH]
  ·rw[List.pairwise_map]
   exact h.inc.imp fun {a b} j=>by omega
 rw[e]at g;exact g
theorem dK{S S':CK}(h:CKok S)(h':CKok S'){a b:List (Nat×aI)}{ar:List AV}(j:(((ck S ++a).map (·.1)).all fun k=>Nat.blt k 1000000)=true)(g:b.map (·.1)=a.map (·.1))(e:([499904,500002,500003,500004,500005,500382,500191].map (cK ((ck S ++a).map (·.1)) 1000000))=[499904,500002,500003,500004,500005,500382,500191])
    (i:bz (cK ((ck S ++a).map (·.1)) 1000000) ar=ar) (l:(a.map fun p:Nat×aI=>bQ (cK ((ck S ++a).map (·.1)) 1000000) p.2)=a.map (·.2)) (d:(b.map fun p:Nat×aI=>bQ (cK ((ck S ++a).map (·.1)) 1000000) p.2)=b.map (·.2)):
    Cln ((ck S ++a).map (·.1)) 1000000 ar (ck S ++a) (ck S' ++b):=
 ⟨j,rfl,by rw[xM,xM,g];rfl,i,by
  have c:=dr h e;rw[xM,xM (f:=fun p:Nat×aI=>p.2),c,l],by
  have c:=dr h' e;rw[xM,xM (f:=fun p:Nat×aI=>p.2),c,d]⟩
abbrev wh(S:CK)(i:Nat):List (Nat×AV):=[(0,an),(2, .ptr 1562 1 0 0 1),(3, .ptr 2003 1 0 0 1),(20, .d (.ro (cH (S.c.seen.map (·.2))))),(21,dN (cH (S.c.seen.map (·.2))).length),(22,dN i)]
abbrev rY(S:CK)(v:Nat)(q:List D):List (Nat×aI):=ck S ++[(2003,⟨1,some (.arr 1 [dN S.fn, .d (.ro (cH (S.c.seen.map (·.2)))), .vec 2038 v 1 q])⟩),(2038,⟨v,none⟩),(1562,⟨1,some (.arr 1 [dI 0, .nils, .nils])⟩)]
section
variable{S:CK}(h:CKok S)(v i:Nat)(q:List D)
include h
theorem B2(a:decide (i<(cH (S.c.seen.map (·.2))).length)=false):RE 44 (lO 89 3) (wh S i) (rY S v q) (.exit 0) [(2, .ptr 1562 1 0 0 1),(3, .ptr 2003 1 0 0 1)] (rY S v q):=
 qE {hint:=qT 89 [(23,iM Pg i (cH (S.c.seen.map (·.2))).length false a)]} 89 2000 (dK h h rfl rfl rfl rfl rfl rfl)
theorem DE(x:Nat)(b:(S.c.seen.map (·.2))[i]? =some x)(a:decide (i<(cH (S.c.seen.map (·.2))).length)=true)(e:(cH (S.c.seen.map (·.2))).length<1000000)(d:a6 x S.c.sure.l 0=none):RE 44 (lO 89 3) (wh S i) (rY S v q) .normal (wh S (i+1)) (rY S v q):=
 qE {hint:=qT 89 [(23,iM Pg i (cH (S.c.seen.map (·.2))).length true a),(24, .idx (cH (S.c.seen.map (·.2))) ((i:Nat):Int) (.int .i64 (x:Int)) (by omega) (by rw[cH,xK,yW,b];rfl)),(32,gH Pg x S.c.sure.l none d),(42,jB Pg i (by have:=xw a;omega))]} 89 2000 (dK h h rfl rfl rfl rfl rfl rfl)
theorem DF(x j:Nat)(b:(S.c.seen.map (·.2))[i]? =some x)(a:decide (i<(cH (S.c.seen.map (·.2))).length)=true)(f:(cH (S.c.seen.map (·.2))).length<1000000)(e:q.length<1000000)(d:a6 x S.c.sure.l 0=some j):RE 44 (lO 89 3) (wh S i) (rY S v q) .normal (wh S (i+1)) (rY S (v+1) (q ++[.int .i64 (x:Int)])):=
 qE {hint:=qT 89 [(23,iM Pg i (cH (S.c.seen.map (·.2))).length true a),(24, .idx (cH (S.c.seen.map (·.2))) ((i:Nat):Int) (.int .i64 (x:Int)) (by omega) (by rw[cH,xK,yW,b];rfl)),(32,gH Pg x S.c.sure.l (some j) d),(40, .app q 1 (by omega)),(42,jB Pg i (by have:=xw a;omega))]} 89 2000 (dK h h rfl rfl rfl rfl rfl rfl)
end
theorem uC{S:CK}(h:CKok S):∀(m i v:Nat)(q:List Nat),(S.c.seen.map (·.2)).length-i=m→i≤(S.c.seen.map (·.2)).length→q.length≤i→∃r,RL 44 (lO 89 3) (wh S i) (rY S v (cH q)) (.exit 0) [(2, .ptr 1562 1 0 0 1),(3, .ptr 2003 1 0 0 1)] (rY S r (cH (q ++((S.c.seen.map (·.2)).drop i).filter S.c.sure.has)))
 |0,i,v,q,hm,D,A=>by
  have w:i=(S.c.seen.map (·.2)).length:=by omega
  subst w;refine⟨v,fun d X g k=> ?_⟩;rw[yl,List.filter_nil,yY];exact bA (B2 h v _ _ (by simp[cH]) d X g k) (by simp)
 |m+1,i,v,q,hm,D,A=>by
  have f:i<(S.c.seen.map (·.2)).length:=by omega
  have o:(S.c.seen.map (·.2)).length<1000000:=by
   have:=(pN h).len;rw[j8]at this;have h2:(S.c.seen.map (·.2)).length=S.c.seen.length:=xV _;have E:=h.vars
   have C:=List.Nodup.length_le_of_subset (l₁:=S.c.seen.map (·.2)) (l₂:=List.range 255) ((List.nodup_iff_pairwise_ne.2 (h.inc.imp fun {a b} B=>by omega))) (fun x n=>by
    obtain⟨p,hp,rfl⟩:=xf.1 n;have:=h.seen p hp;simp;omega)
   rw[List.length_range]at C;omega
  have n:(S.c.seen.map (·.2))[i]? =some (S.c.seen.map (·.2))[i]:=xE f;rw[xq f];generalize (S.c.seen.map (·.2))[i]=x at n
  have s:decide (i<(cH (S.c.seen.map (·.2))).length)=true:=by
   have:(cH (S.c.seen.map (·.2))).length=(S.c.seen.map (·.2)).length:=xV _;rw[this];simpa using f
  have t:(cH (S.c.seen.map (·.2))).length<1000000:=by
   have:(cH (S.c.seen.map (·.2))).length=(S.c.seen.map (·.2)).length:=xV _;rw[this];exact o
  cases u:a6 x S.c.sure.l 0 with
  |none=>
   obtain⟨r,y⟩:=uC h m (i+1) v q (by omega) f (by omega);have z:S.c.sure.has x=false:=by unfold SureL.has;rw[u];rfl
   rw[List.filter_cons,z];exact⟨r,fun d X g k=>bM (DE h v i (cH q) x n s t u d X g k) (y d X g k)⟩
  |some j=>
   obtain⟨r,y⟩:=uC h m (i+1) (v+1) (q ++[x]) (by omega) f (by simp;omega);have z:S.c.sure.has x=true:=by unfold SureL.has;rw[u];rfl
   rw[List.filter_cons,z];refine⟨r,fun d X g k=>bM (DF h v i (cH q) x j n s t (by simp[cH];omega) u d X g k) ?_⟩;have:=y d X g k;rw[x8]at this;have e:cH (q ++[x])=cH q ++[.int .i64 (x:Int)]:=by simp[cH]
   rw[e]at this;exact this
theorem B3(v:Nat):∀a:aa,az Pg 100 [.mp 500003 v] (af [(1941,⟨0,none⟩)] a) [.fn 107 [.ptr 1941 1 0 0 1]] (af [(1941,⟨1,some (.arr 1 [.mp 500003 v])⟩)] a):=fun a=>
 dn ed named {} 2000 1940 _ (by kernel_rfl)
noncomputable def DG{S:CK}{q:List D}{b:Nat}(h:RL 44 (lO 89 3) (wh S 0) (rY S 0 []) (.exit 0) [(2, .ptr 1562 1 0 0 1),(3, .ptr 2003 1 0 0 1)] (rY S b q)):jo Pg:=
 ⟨44,e5 Pg 89 3,wh S 0,fun _=>rY S 0 [], .exit 0,[(2, .ptr 1562 1 0 0 1),(3, .ptr 2003 1 0 0 1)],fun _=>rY S b q,fun a X c d=>(h a X c d).aw⟩
theorem uD{S:CK}(h:CKok S)(q:List D)(a:Nat)(b:RL 44 (lO 89 3) (wh S 0) (rY S 0 []) (.exit 0) [(2, .ptr 1562 1 0 0 1),(3, .ptr 2003 1 0 0 1)] (rY S a q)):
    HC 89 [an] (ck S) [.agg [.int .i64 (S.fn:Int), .ro (cH (S.c.seen.map (·.2))), .ro q]] (ck S):=
 qN {loops:=fun f q=>if f=89 then (if q=3 then some (DG b)else none)else none,nils:=fun f r=>if f=89 then (if r=2 then some {k:=2003,i:=2,K:=2038,sz:=1}else none)else none,calls:=tC [(89,16,1956,dh (B3 S.vs)),(89,17,1956,aL rfl (uB h 1941 (by omega)))]} 1560 (al h h rfl)
theorem Al{S:CK}(h:CKok S):HC 89 [an] (ck S) [w7 (S.c.pt S.fn)] (ck S):=by
 obtain⟨b,a⟩:=uC h _ 0 0 [] rfl (yd _) (yd _);rw[yX,yg]at a;exact uD h _ b a
end Go.Avm
namespace Go.Avm
open Go.Proofs
theorem pO:∀(l:List Vr)(i:Nat)(v:Vr),dJ i (l ++[v])=dJ i l ++[(.str v.nm, .agg [],i+l.length)]
 |[],_,_=>rfl
 |a::r,i,v=>by
  simp only[yB,dJ,pO r (i+1) v,x6];rw[show i+1+r.length=i+(r.length+1) by omega]
theorem nB:∀(l:eE)(i:Nat)(p:List UInt8×Nat),br i (l ++[p])=br i l ++[(.str p.1, .int .i64 (p.2:Int),i+l.length)]
 |[],_,_=>rfl
 |a::r,i,p=>by
  simp only[yB,br,nB r (i+1) p,x6];rw[show i+1+r.length=i+(r.length+1) by omega]
abbrev Am(S:CK)(a:List UInt8)(ty n b:Int):List (Nat×aI):=
 [(500000,⟨1,some (.arr 1 (rU S))⟩),(499904,⟨1,some (.map (fQ 0 S.fs) S.fs.length)⟩),(500002,⟨S.vh,some (.map (dJ 0 S.c.vars ++[(.str a, .agg [],S.c.vars.length)]) (S.c.vars.length+1))⟩),(500003,⟨S.vs,some (.map (br 0 S.c.seen ++[(.str a, .int .i64 (S.c.vars.length:Int),S.c.seen.length)]) (S.c.seen.length+1))⟩),
  (500004,⟨S.vq,some (.map (aF S.c.sure.l) S.c.sure.c)⟩),(500005,⟨S.vv+1,some (.arr 4 ((S.c.vars.map qa).take S.c.vars.length ++[.d (.agg [.str a, .int .u8 ty, .int .i64 n, .int .i64 b])]))⟩),(500382,⟨S.vp,some (.arr 3 (S.c.pts.map bn))⟩),(500191,⟨1,some (.arr 1 ((S.W.set S.fn (gG S.vv S.c.vars)).set (0+(S.fn:Int).toNat) (.sl 500005 (S.vv+1) 0 (S.c.vars.length+1) 4)))⟩)]
def CK.add(S:CK)(v:Vr):CK:={S with c:=S.c.add v,vv:=S.vv+1}
theorem rZ(S:CK)(a:List UInt8)(ty n b:Int):Am S a ty n b=ck (S.add ⟨a,ty,n,b⟩):=by
 have d:(S.c.vars.map qa).take S.c.vars.length=S.c.vars.map qa:=yR (by simp);simp only[Am,ck,rU,CK.add,CS.add,d,pO,nB,xZ,x6,xp,xM,xI,xg,xe,yW,List.set_set,gG];rfl
theorem mB{S:CK}(h:CKok S):∀a:aa,az Pg 80 [an] (af (ck S) a) [gG S.vv S.c.vars] (af (ck S) a):=fun a=>
 dn ed named {hint:=qT 80 [(12,Dv Pg h),(13,zN Pg h)]} 2000 1000 _ (by kernel_rfl)
theorem An{S:CK}(h:CKok S)(a:List UInt8)(ty n b:Int)(e:(S.c.vars.any fun v=>v.nm==a)=false)(f:dd a S.c.seen 0=none)(h':CKok (S.add ⟨a,ty,n,b⟩)):
    HC 67 [an, .d (.agg [.str a, .int .u8 ty, .int .i64 n, .int .i64 b])] (ck S) [.int .i64 (S.c.vars.length:Int)] (Am S a ty n b):=
 qN {hint:=qT 67 [(22, .apps (S.c.vars.map qa) S.c.vars.length 1 ⟨by simp,by have:=h.vars;omega⟩),(23,Dv Pg h),(102015,zN Pg h),(103007, .look (.str a) (dJ 0 S.c.vars) none (cU a _ 0 0 e)),(104007,ut Pg a S.c.seen none f)],calls:=tC [(67,7,1117,aL rfl (mB h)),(67,19,1585,aL rfl (mB h))]} 1000 (rZ S a ty n b▸al h h' rfl)
end Go.Avm
namespace Go.Avm
open Go.Proofs
theorem wl{S:CK}(h:CKok S)(a:List UInt8)(ty n b:Int)(e:(S.c.vars.any fun v=>v.nm==a)=false)(f:dd a S.c.seen 0=none)(h':CKok (S.add ⟨a,ty,n,b⟩)):
    HC 67 [an, .d (.agg [.str a, .int .u8 ty, .int .i64 n, .int .i64 b])] (ck S) [.int .i64 (S.c.vars.length:Int)] (ck (S.add ⟨a,ty,n,b⟩)):=by
 rw[←rZ];exact An h a ty n b e f h'
abbrev wm(S:CK)(b:List (D×D×Nat))(a:Nat):List (Nat×aI):=
 [(500000,⟨1,some (.arr 1 (rU S))⟩),(499904,⟨1,some (.map (fQ 0 S.fs) S.fs.length)⟩),(500002,⟨S.vh,some (.map (dJ 0 S.c.vars) S.c.vars.length)⟩),(500003,⟨S.vs,some (.map (br 0 S.c.seen) S.c.seen.length)⟩),
  (500004,⟨S.vq,some (.map b a)⟩),(500005,⟨S.vv,some (.arr 4 (S.c.vars.map qa))⟩),(500382,⟨S.vp,some (.arr 3 (S.c.pts.map bn))⟩),(500191,⟨1,some (.arr 1 (S.W.set S.fn (gG S.vv S.c.vars)))⟩)]
def CK.put(S:CK)(i:Nat):CK:={S with c:={S.c with sure:=S.c.sure.put i}}
theorem oE{S:CK}{i:Nat}(a:a6 i S.c.sure.l 0=none):wm S (aF S.c.sure.l ++[(.int .i64 (i:Int), .agg [],S.c.sure.c)]) (S.c.sure.c+1)=ck (S.put i):=by
 have e:S.c.sure.put i=⟨S.c.sure.l ++[(i,S.c.sure.c)],S.c.sure.c+1⟩:=by
  unfold SureL.put SureL.has;rw[a];rfl
 simp only[wm,ck,rU,CK.put,e,aF,xM,xI,xg]
theorem B4{S S':CK}(h:CKok S)(h':CKok S'){ar:List AV}(k:List (D×D×Nat))(d:Nat)(i:bz (cK ((ck S).map (·.1)) 1000000) ar=ar):Cln ((ck S).map (·.1)) 1000000 ar (ck S) (wm S' k d):=
 ⟨rfl,rfl,rfl,i,dr h rfl,by
  have a:=dr h' (ρ:=cK ((ck S).map (·.1)) 1000000) rfl;simp only[ck,xI,xg,List.cons.injEq,yp]at a;obtain⟨f,l,e,b,m,c,g,j⟩:=a;simp only[wm,xI,xg,f,l,e,b,c,g,j];rfl⟩
abbrev E6(k id:Int)(c:List UInt8)(ty n p:Int)(es:List Ex)(a b:List cf):List AV:=[Dg k,dI id, .d (.str c),Dg ty,dI n,dI p, .d (.ro (fo es)), .d (.ro (cZ a)), .d (.ro (cZ b))]
abbrev s3(k id:Int)(c:List UInt8)(ty n p:Int)(es:List Ex)(a b:List cf):Nat×aI:=(2003,⟨1,some (.arr 1 (E6 k id c ty n p es a b))⟩)
abbrev vF(es:List Ex)(i:Nat):List (Nat×AV):=[(0,an),(3, .ptr 2003 1 0 0 1),(11, .d (.ro (fo es))),(12,dN (fo es).length),(13,dN i)]
section
variable{S:CK}(h:CKok S)(k id:Int)(d:List UInt8)(ty n p:Int)(es:List Ex)(a b:List cf)(i:Nat)
include h
theorem B5(c:decide (i<(fo es).length)=false):RE 100 (lO 90 2) (vF es i) (ck S ++[s3 k id d ty n p es a b]) (.exit 0) [(0,an),(3, .ptr 2003 1 0 0 1)] (ck S ++[s3 k id d ty n p es a b]):=
 qE {hint:=qT 90 [(14,iM Pg i (fo es).length false c)]} 90 2000 (dK h h rfl rfl rfl rfl rfl rfl)
theorem B6(o:decide (i<(fo es).length)=true)(r:(fo es).length<1000000)(m l:Int)(f:List UInt8)(g j:Int)(e:List Ex)(q:es[i]? =some (.mk m l f g j e))(t:Int)(c:gV S (.mk m l f g j e) [ty] t):
    RE 100 (lO 90 2) (vF es i) (ck S ++[s3 k id d ty n p es a b]) .normal (vF es (i+1)) (ck S ++[s3 k id d ty n p es a b]):=
 qE {hint:=qT 90 [(14,iM Pg i (fo es).length true o),(15, .idx (fo es) ((i:Nat):Int) (e8 (.mk m l f g j e)) (by omega) (by simp[gQ,q])),(23,jB Pg i (by have:=xw o;omega))],calls:=tC [(90,22,3000,aL rfl (wO c 2921))]} 90 2000 (dK h h rfl rfl rfl rfl rfl rfl)
theorem B7(q:decide (i<(fo es).length)=true)(m l:Int)(f:List UInt8)(g j:Int)(e:List Ex)(o:es[i]? =some (.mk m l f g j e))(u r:Int)(c:eL S (.mk m l f g j e) [ty] u r):
    RE 100 (lO 90 2) (vF es i) (ck S ++[s3 k id d ty n p es a b]) (.panic (am u r)) [] (ck S ++[(2003,⟨1,none⟩)]):=
 qE {hint:=qT 90 [(14,iM Pg i (fo es).length true q),(15, .idx (fo es) ((i:Nat):Int) (e8 (.mk m l f g j e)) (by omega) (by simp[gQ,o]))],pans:=aU Pg [(90,4,2500,⟨5,some (cJ (wP c 2921)),[]⟩)]} 90 2000 (dK h h rfl rfl rfl rfl rfl rfl)
end
def DH(S:CK)(k id:Int)(c:List UInt8)(ty n p:Int)(es:List Ex)(a b:List cf)(i:Nat):TR Unit→Prop
 | .ok _=>RL 100 (lO 90 2) (vF es i) (ck S ++[s3 k id c ty n p es a b]) (.exit 0) [(0,an),(3, .ptr 2003 1 0 0 1)] (ck S ++[s3 k id c ty n p es a b])
 | .bad u r=>RL 100 (lO 90 2) (vF es i) (ck S ++[s3 k id c ty n p es a b]) (.panic (am u r)) [] (ck S ++[(2003,⟨1,none⟩)])
 | .out=>True
theorem yy{S:CK}(h:CKok S)(k id:Int)(o:List UInt8)(ty n p:Int)(es:List Ex)(l q:List cf)(A:es.length<1000000):
    ∀(m i:Nat),es.length-i=m→i≤es.length→DH S k id o ty n p es l q i (aD (S.c.te S.fs) (es.drop i) ((es.drop i).map fun _=>[ty]) false)
 |0,i,hm,C=>by
  have B:i=es.length:=by omega
  subst B;rw[yl];exact fun a X f j=>bA (B5 h k id o ty n p es l q es.length (by simp[cg]) a X f j) (by simp)
 |m+1,i,hm,C=>by
  have b:i<es.length:=by omega
  have v:es[i]? =some es[i]:=xE b;rw[xq b];generalize es[i]=e at v;have c:=Ah h e ty;obtain⟨z,y,g,w,x,d⟩:=e;rw[xI,aQ];revert c;unfold WX;cases bf (S.c.te S.fs) (.mk z y g w x d) [ty]with
  |out=>exact fun _=>trivial
  |bad u r=>exact fun c a X f j=>bA (B7 h k id o ty n p es l q i (by simpa [cg]using b) z y g w x d v u r c a X f j) (by simp)
  |ok t=>
   intro c;have s:=yy h k id o ty n p es l q A m (i+1) (by omega) b;simp only[TR.bind,x9];revert s;cases aD (S.c.te S.fs) (es.drop (i+1)) ((es.drop (i+1)).map fun _=>[ty]) false with
   |out=>exact fun _=>trivial
   |bad u r=>exact fun s a X f j=>bM (B6 h k id o ty n p es l q i (by simpa [cg]using b) (by rw[cg];exact A) z y g w x d v t c a X f j) (s a X f j)
   |ok _=>exact fun s a X f j=>bM (B6 h k id o ty n p es l q i (by simpa [cg]using b) (by rw[cg];exact A) z y g w x d v t c a X f j) (s a X f j)
noncomputable def m4{S:CK}{k id:Int}{d:List UInt8}{ty n p:Int}{es:List Ex}{c e:List cf}{x:au}{l':List (Nat×AV)}{a:List (Nat×aI)}(h:RL 100 (lO 90 2) (vF es 0) (ck S ++[s3 k id d ty n p es c e]) x l' a):jo Pg:=
 ⟨100,e5 Pg 90 2,vF es 0,fun _=>ck S ++[s3 k id d ty n p es c e],x,l',fun _=>a,fun b X f g=>(h b X f g).aw⟩
abbrev Ao(S:CK)(k id:Int)(c:List UInt8)(ty n p:Int)(es:List Ex)(a b:List cf):Prop:=RL 100 (lO 90 2) (vF es 0) (ck S ++[s3 k id c ty n p es a b]) (.exit 0) [(0,an),(3, .ptr 2003 1 0 0 1)] (ck S ++[s3 k id c ty n p es a b])
section
variable{S:CK}(h:CKok S)(k id:Int)(a:List UInt8)(ty n p:Int)(es:List Ex)(b d:List cf)
include h
section
variable(e:Ao S k id a ty n p es b d)
include e
theorem uE(q:Nat)(g:bJ (.str a) (dJ 0 S.c.vars) 0=some (some (q, .agg []))):
    HX 90 [an,cI k id a ty n p es b d] (ck S) (am p 7) (ck S):=
 qX {loops:=fun f q=>if f=90 then (if q=2 then some (m4 e)else none)else none,hint:=qT 90 [(31, .look (.str a) (dJ 0 S.c.vars) (some (q, .agg [])) g)],pans:=aU Pg [(90,7,3800,⟨4,some (cJ (a7 p 7)),[]⟩)]} 2000 (al h h rfl)
theorem wn(j:(S.c.vars.any fun v=>v.nm==a)=false)(g:(ty==3)=true)(i:(S.deep==0)=false):
    HX 90 [an,cI k id a ty n p es b d] (ck S) (am p 3) (ck S):=
 qX {loops:=fun f q=>if f=90 then (if q=2 then some (m4 e)else none)else none,hint:=qT 90 [(31, .look (.str a) (dJ 0 S.c.vars) none (cU a _ 0 0 j)),(41,qB g),(49,qB i)],calls:=tC [(90,38,4200,aL rfl (ay p 7))],pans:=aU Pg [(90,9,4600,⟨11,some (cJ (a7 p 3)),[]⟩)]} 2000 (al h h rfl)
theorem Ap(j:(S.c.vars.any fun v=>v.nm==a)=false)(g:(ty==3)=true)(i:(S.deep==0)=true)(l:decide (1≤n)=false):
    HX 90 [an,cI k id a ty n p es b d] (ck S) (am p 1) (ck S):=
 qX {loops:=fun f q=>if f=90 then (if q=2 then some (m4 e)else none)else none,hint:=qT 90 [(31, .look (.str a) (dJ 0 S.c.vars) none (cU a _ 0 0 j)),(41,qB g),(49,qB i),(59,qB l)],calls:=tC [(90,38,4200,aL rfl (ay p 7)),(90,53,5700,aL rfl (ay p 3))],pans:=aU Pg [(90,10,5700,⟨14,some (cJ (a7 p 1)),[]⟩)]} 2000 (al h h rfl)
theorem wo(j:(S.c.vars.any fun v=>v.nm==a)=false)(g:(ty==3)=true)(i:(S.deep==0)=true)(l:decide (1≤n)=true)(h2:decide (n≤256)=false):
    HX 90 [an,cI k id a ty n p es b d] (ck S) (am p 1) (ck S):=
 qX {loops:=fun f q=>if f=90 then (if q=2 then some (m4 e)else none)else none,hint:=qT 90 [(31, .look (.str a) (dJ 0 S.c.vars) none (cU a _ 0 0 j)),(41,qB g),(49,qB i),(59,qB l),(63,qB h2)],calls:=tC [(90,38,4200,aL rfl (ay p 7)),(90,53,5700,aL rfl (ay p 3))],pans:=aU Pg [(90,10,5700,⟨14,some (cJ (a7 p 1)),[]⟩)]} 2000 (al h h rfl)
theorem uF(i:(S.c.vars.any fun v=>v.nm==a)=false)(g:(ty==3)=true)(m:(S.deep==0)=true)(j:decide (1≤n)=true)(h2:decide (n≤256)=true)(l:decide ((S.c.vars.length:Int)<255)=false):
    HX 90 [an,cI k id a ty n p es b d] (ck S) (am p 2) (ck S):=
 qX {loops:=fun f q=>if f=90 then (if q=2 then some (m4 e)else none)else none,hint:=qT 90 [(31, .look (.str a) (dJ 0 S.c.vars) none (cU a _ 0 0 i)),(41,qB g),(49,qB m),(59,qB j),(63,qB h2),(72,qB l)],calls:=tC [(90,38,4200,aL rfl (ay p 7)),(90,53,5700,aL rfl (ay p 3)),(90,68,7100,aL rfl (ay p 1)),(90,70,7200,aL rfl (mB h))],pans:=aU Pg [(90,11,7100,⟨6,some (cJ (a7 p 2)),[]⟩)]} 2000 (al h h rfl)
theorem uG(i:(S.c.vars.any fun v=>v.nm==a)=false)(g:(ty==3)=false)(j:decide ((S.c.vars.length:Int)<255)=false):
    HX 90 [an,cI k id a ty n p es b d] (ck S) (am p 2) (ck S):=
 qX {loops:=fun f q=>if f=90 then (if q=2 then some (m4 e)else none)else none,hint:=qT 90 [(31, .look (.str a) (dJ 0 S.c.vars) none (cU a _ 0 0 i)),(41,qB g),(72,qB j)],calls:=tC [(90,38,4200,aL rfl (ay p 7)),(90,53,5200,aL rfl (ay p 3)),(90,68,5800,aL rfl (ay p 1)),(90,70,5900,aL rfl (mB h))],pans:=aU Pg [(90,11,5800,⟨6,some (cJ (a7 p 2)),[]⟩)]} 2000 (al h h rfl)
end
theorem B8(u r:Int)(c:RL 100 (lO 90 2) (vF es 0) (ck S ++[s3 k id a ty n p es b d]) (.panic (am u r)) [] (ck S ++[(2003,⟨1,none⟩)])):
    HX 90 [an,cI k id a ty n p es b d] (ck S) (am u r) (ck S):=
 qX ({loops:=fun f q=>if f=90 then (if q=2 then some (m4 c)else none)else none}) 2000 (al h h rfl)
section
variable(i:Ao S k id a ty n p es b d)(e:(S.c.vars.any fun v=>v.nm==a)=false)(j:dd a S.c.seen 0=none)(h':CKok (S.add ⟨a,ty,n,id⟩))(g:decide ((S.c.vars.length:Int)<255)=true)
include i e j h' g
theorem Aq(l:(ty==3)=false)(m:decide ((0:Int)<((fo es).length:Int))=false):
    HC 90 [an,cI k id a ty n p es b d] (ck S) [] (ck (S.add ⟨a,ty,n,id⟩)):=
 qN {loops:=fun f q=>if f=90 then (if q=2 then some (m4 i)else none)else none,hint:=qT 90 [(31, .look (.str a) (dJ 0 S.c.vars) none (cU a _ 0 0 e)),(41,qB l),(72,qB g),(92,qB m)],calls:=tC [(90,38,4200,aL rfl (ay p 7)),(90,53,5200,aL rfl (ay p 3)),(90,68,5800,aL rfl (ay p 1)),(90,70,5900,aL rfl (mB h)),(90,75,6300,aL rfl (ay p 2)),(90,86,7300,dh (wl h a ty n id e j h'))]} 2000 (al h h' rfl)
theorem Ar(m:(ty==3)=false)(r:decide ((0:Int)<((fo es).length:Int))=true)(o:a6 S.c.vars.length S.c.sure.l 0=none):
    HC 90 [an,cI k id a ty n p es b d] (ck S) [] (wm (S.add ⟨a,ty,n,id⟩) (aF S.c.sure.l ++[(.int .i64 (S.c.vars.length:Int), .agg [],S.c.sure.c)]) (S.c.sure.c+1)):=
 qN {loops:=fun f q=>if f=90 then (if q=2 then some (m4 i)else none)else none,hint:=qT 90 [(31, .look (.str a) (dJ 0 S.c.vars) none (cU a _ 0 0 e)),(41,qB m),(72,qB g),(92,qB r),(114006,gH Pg S.c.vars.length S.c.sure.l none o)],calls:=tC [(90,38,4200,aL rfl (ay p 7)),(90,53,5200,aL rfl (ay p 3)),(90,68,5800,aL rfl (ay p 1)),(90,70,5900,aL rfl (mB h)),(90,75,6300,aL rfl (ay p 2)),(90,86,7300,dh (wl h a ty n id e j h'))]} 2000 (B4 h h' _ _ rfl)
theorem Au(m:(ty==3)=true)(o:(S.deep==0)=true)(s:decide (1≤n)=true)(h2:decide (n≤256)=true)(r:a6 S.c.vars.length S.c.sure.l 0=none):
    HC 90 [an,cI k id a ty n p es b d] (ck S) [] (wm (S.add ⟨a,ty,n,id⟩) (aF S.c.sure.l ++[(.int .i64 (S.c.vars.length:Int), .agg [],S.c.sure.c)]) (S.c.sure.c+1)):=
 qN {loops:=fun f q=>if f=90 then (if q=2 then some (m4 i)else none)else none,hint:=qT 90 [(31, .look (.str a) (dJ 0 S.c.vars) none (cU a _ 0 0 e)),(41,qB m),(49,qB o),(59,qB s),(63,qB h2),(72,qB g),(114006,gH Pg S.c.vars.length S.c.sure.l none r)],calls:=tC [(90,38,4200,aL rfl (ay p 7)),(90,53,5700,aL rfl (ay p 3)),(90,68,7100,aL rfl (ay p 1)),(90,70,7200,aL rfl (mB h)),(90,75,7600,aL rfl (ay p 2)),(90,86,8600,dh (wl h a ty n id e j h'))]} 2000 (B4 h h' _ _ rfl)
end
end
end Go.Avm
namespace Go.Avm
open Go.Proofs
theorem jE(x:Ex)(a:List Ex):decide ((0:Int)<((fo (x::a)).length:Int))=true:=by
 rw[cg,x6];exact decide_eq_true (by omega)
section
variable{S:CK}(h:CKok S)(k id:Int)(o:List UInt8)(ty n p:Int)(i g:Int)(b:List UInt8)(e d:Int)(a j:List Ex)(m q:List cf)(f:Fn)(l:S.fs[S.fn]? =some f)
include h l
theorem Av(c:(f.res !=0)=false):HC 97 [an,cI k id o ty n p [] m q] (ck S) [] (ck S):=
 qN {hint:=qT 97 [(14, .idx (S.fs.map cR) (S.fn:Int) (cR f) (by omega) (by simp[l])),(19,qB c)]} 1000 (al h h rfl)
theorem Aw(c:(f.res !=0)=true):HX 97 [an,cI k id o ty n p [] m q] (ck S) (am p 8) (ck S):=
 qX {hint:=qT 97 [(14, .idx (S.fs.map cR) (S.fn:Int) (cR f) (by omega) (by simp[l])),(19,qB c)],pans:=aU Pg [(97,3,1901,⟨6,some (cJ (a7 p 8)),[]⟩)]} 1000 (al h h rfl)
theorem DI(r:(f.res !=0)=true)(t:Int)(c:gV S (.mk i g b e d a) [f.res] t):HC 97 [an,cI k id o ty n p (.mk i g b e d a::j) m q] (ck S) [] (ck S):=
 qN {hint:=qT 97 [(14, .idx (S.fs.map cR) (S.fn:Int) (cR f) (by omega) (by simp[l])),(19,qB r),(23,hB Pg (decide ((0:Int)<((fo (.mk i g b e d a::j)).length:Int))) true (jE _ _))],calls:=tC [(97,26,2219,aL rfl (ay p 8)),(97,34,2590,aL rfl (wO c 2570))]} 1000 (al h h rfl)
theorem B9(s:(f.res !=0)=true)(u r:Int)(c:eL S (.mk i g b e d a) [f.res] u r):HX 97 [an,cI k id o ty n p (.mk i g b e d a::j) m q] (ck S) (am u r) (ck S):=
 qX {hint:=qT 97 [(14, .idx (S.fs.map cR) (S.fn:Int) (cR f) (by omega) (by simp[l])),(19,qB s),(23,hB Pg (decide ((0:Int)<((fo (.mk i g b e d a::j)).length:Int))) true (jE _ _))],calls:=tC [(97,26,2219,aL rfl (ay p 8))],pans:=aU Pg [(97,4,2219,⟨7,some (cJ (wP c 2570)),[]⟩)]} 1000 (al h h rfl)
theorem wp(s:(f.res !=0)=false)(u r:Int)(c:HX 98 [an,d6 i g b e d a] (ck S) (am u r) (ck S)):HX 97 [an,cI k id o ty n p (.mk i g b e d a::j) m q] (ck S) (am u r) (ck S):=
 qX {hint:=qT 97 [(14, .idx (S.fs.map cR) (S.fn:Int) (cR f) (by omega) (by simp[l])),(19,qB s),(39,hB Pg (decide ((0:Int)<((fo (.mk i g b e d a::j)).length:Int))) true (jE _ _))],pans:=aU Pg [(97,6,2166,⟨5,some (cJ c),[]⟩)]} 1000 (al h h rfl)
theorem Ax(r:(f.res !=0)=false)(t:Int)(c:HC 98 [an,d6 i g b e d a] (ck S) [dv t] (ck S)):HX 97 [an,cI k id o ty n p (.mk i g b e d a::j) m q] (ck S) (am d 8) (ck S):=
 qX {hint:=qT 97 [(14, .idx (S.fs.map cR) (S.fn:Int) (cR f) (by omega) (by simp[l])),(19,qB r),(39,hB Pg (decide ((0:Int)<((fo (.mk i g b e d a::j)).length:Int))) true (jE _ _))],calls:=tC [(97,45,2431,aL rfl c)],pans:=aU Pg [(97,7,2431,⟨7,none,[]⟩)]} 1000 (al h h rfl)
end
def TS(S:CK)(f:Nat)(a:List AV):TR CS→Prop
 | .ok c=>c=S.c∧HC f a (ck S) [] (ck S)
 | .bad p e=>HX f a (ck S) (am p e) (ck S)
 | .out=>True
theorem Ca{S:CK}(h:CKok S)(k id:Int)(m:List UInt8)(ty n p:Int)(es:List Ex)(l o:List cf):TS S 97 [an,cI k id m ty n p es l o] (pI S.fs S.fn p es S.c):=by
 unfold pI;cases q:S.fs[S.fn]? with
 |none=>exact trivial
 |some f=>
  simp only;cases v:(f.res==0)with
  |true=>
   have j:(f.res !=0)=false:=by simp[bne,v]
   simp only[yJ];match es with
   |[]=>exact⟨rfl,Av h k id m ty n p l o f q j⟩
   | .mk i g b d e a::s=>
    have c:=Dh h (.mk i g b d e a);simp only;revert c;cases dq (S.c.te S.fs) (.mk i g b d e a)with
    |out=>exact fun _=>trivial
    |bad u r=>exact fun c=>wp h k id m ty n p i g b d e a s l o f q j u r c
    |ok t=>exact fun c=>Ax h k id m ty n p i g b d e a s l o f q j t c
  |false=>
   have j:(f.res !=0)=true:=by simp[bne,v]
   simp only[x9];match es with
   |[]=>exact Aw h k id m ty n p l o f q j
   | .mk i g b d e a::s=>
    have c:=Ah h (.mk i g b d e a) f.res;simp only;revert c;unfold WX;cases bf (S.c.te S.fs) (.mk i g b d e a) [f.res]with
    |out=>exact fun _=>trivial
    |bad u r=>exact fun c=>B9 h k id m ty n p i g b d e a s l o f q j u r c
    |ok t=>exact fun c=>⟨rfl,DI h k id m ty n p i g b d e a s l o f q j t c⟩
end Go.Avm
namespace Go.Avm
open Go.Proofs
theorem mC{x:List UInt8}:∀{l:eE}{j:Nat},(∀p∈l,p.1≠x)→dd x l j=none
 |[],_,_=>rfl
 |e::r,j,h=>by
  have a:(x==e.1)=false:=beq_eq_false_iff_ne.2 (Ne.symm (h e (by simp)));simp only[dd,a,x9];exact mC fun p hp=>h p (by simp[hp])
theorem fH{x:Nat}:∀{l:List (Nat×Nat)}{j:Nat},(∀p∈l,p.1≠x)→a6 x l j=none
 |[],_,_=>rfl
 |e::r,j,h=>by
  have a:(x==e.1)=false:=beq_eq_false_iff_ne.2 (Ne.symm (h e (by simp)));simp only[a6,a,x9];exact fH fun p hp=>h p (by simp[hp])
theorem pQ{S:CK}(h:CKok S){a:List UInt8}(b:(S.c.vars.any fun v=>v.nm==a)=false):dd a S.c.seen 0=none:=mC fun p hp e=>by
 have:=h.had p hp;rw[e,b]at this;cases this
theorem rn{S:CK}(h:CKok S){v:Vr}(i:v.nm.length≤1000000)(g:(S.c.vars.any fun w=>w.nm==v.nm)=false)(j:S.c.vars.length<255):CKok (S.add v) where
 fn:=h.fn
 W:=h.W
 dat:=h.dat
 len:=h.len
 par:=h.par
 vars:=by simp only[CK.add,CS.add,xZ,x6,xp];omega
 seen:=fun p hp=>by
  simp only[CK.add,CS.add,xZ,x6,xp,xJ,xH]at hp ⊢;rcases hp with hp|rfl
  ·have:=h.seen p hp;omega
  ·simp
 inc:=by
  simp only[CK.add,CS.add,xM,xI,xg];rw[List.pairwise_append];refine⟨h.inc,by simp,fun a f b d=> ?_⟩;obtain⟨p,hp,rfl⟩:=xf.1 f;simp only[xH]at d;subst d;exact h.seen p hp
 nms:=by
  simp only[CK.add,CS.add,xM,xI,xg];rw[List.nodup_append];refine⟨h.nms,by simp,fun a f b d=> ?_⟩;obtain⟨p,hp,rfl⟩:=xf.1 f;simp only[xH]at d;subst d;intro e;have:=h.had p hp;rw[e,g]at this;cases this
 nml:=fun p hp=>by
  simp only[CK.add,CS.add,xJ,xH]at hp;rcases hp with hp|rfl
  ·exact h.nml p hp
  ·exact i
 had:=fun p hp=>by
  simp only[CK.add,CS.add,xJ,xH,List.any_append,yC]at hp ⊢;rcases hp with hp|rfl
  ·exact .inl (h.had p hp)
  ·exact .inr (by simp)
 sk:=h.sk
 sb:=h.sb
 sc:=h.sc
 sv:=fun p hp=>by
  have:=h.sv p hp;simp only[CK.add,CS.add,xZ,x6,xp];omega
 pts:=h.pts
theorem mD{x:Nat}:∀{l:List (Nat×Nat)}{j:Nat},(∃p∈l,p.1=x)→(a6 x l j).isSome=true
 |[],_,h=>by simp at h
 |e::r,j,h=>by
  cases a:(x==e.1)with
  |true=>simp only[a6,a,yJ];rfl
  |false=>
   simp only[a6,a,x9];refine mD ?_;obtain⟨p,hp,b⟩:=h;rcases xR.1 hp with rfl|hp
   ·rw[b]at a;simp at a
   ·exact⟨p,hp,b⟩
theorem oF{S:CK}(h:CKok S)(i:Nat)(k:i<S.c.vars.length):CKok (S.put i):=by
 cases f:S.c.sure.has i with
 |true=>
  have e:S.put i=S:=by simp only[CK.put,SureL.put,f,yJ]
  rw[e];exact h
 |false=>
  have e:S.c.sure.put i=⟨S.c.sure.l ++[(i,S.c.sure.c)],S.c.sure.c+1⟩:=by simp only[SureL.put,f,x9]
  have m:∀p∈S.c.sure.l,p.1≠i:=fun p hp n=>by
   have:=mD (x:=i) (j:=0) ⟨p,hp,n⟩;unfold SureL.has at f;rw[f]at this;cases this
  exact{h with
   sk:=by
    simp only[CK.put,e,xM,xI,xg];rw[List.nodup_append];refine⟨h.sk,by simp,fun a g b d=> ?_⟩;obtain⟨p,hp,rfl⟩:=xf.1 g;simp only[xH]at d;subst d;exact m p hp
   sb:=by
    simp only[CK.put,e,xM,xI,xg];rw[List.nodup_append];refine⟨h.sb,by simp,fun a g b d=> ?_⟩;obtain⟨p,hp,rfl⟩:=xf.1 g;simp only[xH]at d;subst d;have:=h.sc p hp;omega
   sc:=fun p hp=>by
    simp only[CK.put,e,xJ,xH]at hp ⊢;rcases hp with hp|rfl
    ·have:=h.sc p hp;omega
    ·simp
   sv:=fun p hp=>by
    simp only[CK.put,e,xJ,xH]at hp;rcases hp with hp|rfl
    ·exact h.sv p hp
    ·exact k}
end Go.Avm
namespace Go.Avm
open Go.Proofs
structure Gv where
 vh:Nat
 vs:Nat
 vq:Nat
 vv:Nat
 vp:Nat
abbrev bo(g:Gv):List (Nat×aI):=[(500000,⟨1,none⟩),(499904,⟨1,none⟩),(500002,⟨g.vh,none⟩),(500003,⟨g.vs,none⟩),(500004,⟨g.vq,none⟩),(500005,⟨g.vv,none⟩),(500382,⟨g.vp,none⟩),(500191,⟨1,none⟩)]
def CK.gv(S:CK):Gv:=⟨S.vh,S.vs,S.vq,S.vv,S.vp⟩
theorem s4{P:Program}{g:Nat}{a:List AV}{x:AV}{h d h2:aa}(e:eY P g a h x d)(o:∀k,(h2 k).ver=(d k).ver∧((h2 k).ob=none∨(h2 k).ob=(d k).ob)):eY P g a h x h2:=
 ⟨e.1,fun G B w0 I0 w c i n b=>(e.2 G B w0 I0 w c i n b).mono fun _ _ ⟨v,j,l,m,p,f⟩=>⟨v,j,l,m,p.forget o,f⟩⟩
theorem pR(a:aa):∀(l:List (Nat×aI))(k:Nat),(af (l.map fun p=>(p.1,(⟨p.2.ver,none⟩:aI))) a k).ver=(af l a k).ver∧((af (l.map fun p=>(p.1,(⟨p.2.ver,none⟩:aI))) a k).ob=none∨(af (l.map fun p=>(p.1,(⟨p.2.ver,none⟩:aI))) a k).ob=(af l a k).ob)
 |[],_=>⟨rfl, .inr rfl⟩
 |(b,e)::r,k=>by
  simp only[xI,af,aq];split
  ·exact⟨rfl, .inl rfl⟩
  ·exact pR a r k
abbrev Ay(S:CK)(f:Nat)(a:List AV)(p e:Int):Prop:=∃g,HX f a (ck S) (am p e) (bo g)
theorem ef{S S':CK}{f:Nat}{b:List AV}{p e:Int}(h:HX f b (ck S) (am p e) (ck S')):Ay S f b p e:=
 ⟨S'.gv,fun a=>s4 (h a) (pR a (ck S'))⟩
structure Nx(S S':CK)(c:CS):Prop where
 ok:CKok S'
 c:S'.c=c
 fs:S'.fs=S.fs
 fn:S'.fn=S.fn
 deep:S'.deep=S.deep
 W:S'.W=S.W
 vars:S.c.vars<+:S'.c.vars
def TC(S:CK)(f:Nat)(a:List AV):TR CS→Prop
 | .ok c=>∃S',Nx S S' c∧HC f a (ck S) [] (ck S')
 | .bad p e=>Ay S f a p e
 | .out=>True
theorem CKok.nx{S:CK}(h:CKok S):Nx S S S.c:=⟨h,rfl,rfl,rfl,rfl,rfl,List.prefix_refl _⟩
theorem DJ{S:CK}(h:CKok S)(k id:Int)(a:List UInt8)(ty n p:Int)(es:List Ex)(b d:List cf):TC S 90 [an,cI k id a ty n p es b d] (vU S.fs S.deep a id ty n p es S.c):=by
 unfold vU;cases z:decide (1000000≤es.length)with
 |true=>exact trivial
 |false=>
  have A:=ym z;have c:=yy h k id a ty n p es b d (by omega) _ 0 rfl (yd _);rw[yX]at c;simp only[x9];revert c;cases aD (S.c.te S.fs) es (es.map fun _=>[ty]) false with
  |out=>exact fun _=>trivial
  |bad u r=>exact fun c=>ef (S':=S) (B8 h k id a ty n p es b d u r c)
  |ok _=>
   intro c;have c:Ao S k id a ty n p es b d:=c;simp only[TR.bind];cases x:decide (1000000<a.length)with
   |true=>exact trivial
   |false=>
   have y:=ym x;simp only[x9];cases f:S.c.vars.any fun v=>v.nm==a with
   |true=>
    obtain⟨q,j⟩:=nz a S.c.vars 0 0 f;exact ef (uE h k id a ty n p es b d c q j)
   |false=>
   have w:=pQ h f;simp only[x9];cases g:(ty==3)with
   |true=>
    simp only[Bool.true_and,Bool.true_or];cases o:(S.deep==0)with
    |false=>exact ef (wn h k id a ty n p es b d c f g o)
    |true=>
    simp only[Bool.not_true,x9];cases s:decide (1≤n)with
    |false=>exact ef (Ap h k id a ty n p es b d c f g o s)
    |true=>
    cases h2:decide (n≤256)with
    |false=>exact ef (wo h k id a ty n p es b d c f g o s h2)
    |true=>
    simp only[Bool.and_self,Bool.not_true,x9];cases m:decide (255≤S.c.vars.length)with
    |true=>exact ef (uF h k id a ty n p es b d c f g o s h2 (by have:=xw m;simp;omega))
    |false=>
    have t:=ym m;have h':=rn h (v:=⟨a,ty,n,id⟩) (by simp only;omega) f (by omega);have j:a6 S.c.vars.length S.c.sure.l 0=none:=fH fun p hp e=>by have:=h.sv p hp;omega
    refine⟨(S.add ⟨a,ty,n,id⟩).put S.c.vars.length,⟨oF h' _ (by simp[CK.add,CS.add]),rfl,rfl,rfl,rfl,rfl,List.prefix_append _ _⟩, ?_⟩;rw[←oE (S:=S.add ⟨a,ty,n,id⟩) (i:=S.c.vars.length) j];exact Au h k id a ty n p es b d c f w h' (by simp;omega) g o s h2 j
   |false=>
    simp only[Bool.false_and,x9,Bool.false_or];cases m:decide (255≤S.c.vars.length)with
    |true=>exact ef (uG h k id a ty n p es b d c f g (by have:=xw m;simp;omega))
    |false=>
    have t:=ym m;have h':=rn h (v:=⟨a,ty,n,id⟩) (by simp only;omega) f (by omega);have j:a6 S.c.vars.length S.c.sure.l 0=none:=fH fun p hp e=>by have:=h.sv p hp;omega
    cases es with
    |nil=>exact⟨S.add ⟨a,ty,n,id⟩,⟨h',rfl,rfl,rfl,rfl,rfl,List.prefix_append _ _⟩,Aq h k id a ty n p [] b d c f w h' (by simp;omega) g rfl⟩
    |cons e r=>
     refine⟨(S.add ⟨a,ty,n,id⟩).put S.c.vars.length,⟨oF h' _ (by simp[CK.add,CS.add]),rfl,rfl,rfl,rfl,rfl,List.prefix_append _ _⟩, ?_⟩;rw[←oE (S:=S.add ⟨a,ty,n,id⟩) (i:=S.c.vars.length) j];exact Ar h k id a ty n p (e::r) b d c f w h' (by simp;omega) g (jE _ _) j
end Go.Avm
namespace Go.Avm
open Go.Proofs
theorem rq:ch Pg 81:=⟨_,Tryz.func81,rfl,by decide⟩
theorem rt:ch Pg 95:=⟨_,Tryz.func95,rfl,by decide⟩
theorem uH(v:Nat)(es:List (D×D×Nat))(c:Nat):∀a:aa,az Pg 81 [.mp 500003 v] (af [(500003,⟨v,some (.map es c)⟩),(500013,⟨0,none⟩)] a) [.mp 500013 1] (af [(500003,⟨v,some (.map es c)⟩),(500013,⟨1,some (.map es c)⟩)] a):=fun a=>by
 have h:=kD rq (fun b es c w f=>AnyW.maps_Clone Tryz.lclonea b es c w f) (h:=af [(500003,⟨v,some (.map es c)⟩),(500013,⟨0,none⟩)] a) (k:=500003) (v:=v) 500013 (es:=es) (c:=c) rfl
 have e:aq (af [(500003,⟨v,some (.map es c)⟩),(500013,⟨0,none⟩)] a) 500013 ⟨1,some (.map es c)⟩=af [(500003,⟨v,some (.map es c)⟩),(500013,⟨1,some (.map es c)⟩)] a:=by
  funext k;simp only[af,aq];by_cases d:k=500013
  ·subst d;rfl
  ·simp only[d,ya]
 rw[←e];exact h
theorem iL(v:Nat)(es:List (D×D×Nat))(c:Nat):∀a:aa,az Pg 95 [.mp 500004 v] (af [(500004,⟨v,some (.map es c)⟩),(500014,⟨0,none⟩)] a) [.mp 500014 1] (af [(500004,⟨v,some (.map es c)⟩),(500014,⟨1,some (.map es c)⟩)] a):=fun a=>by
 have h:=kD rt (fun b es c w f=>AnyW.maps_Clone Tryz.lcloneb b es c w f) (h:=af [(500004,⟨v,some (.map es c)⟩),(500014,⟨0,none⟩)] a) (k:=500004) (v:=v) 500014 (es:=es) (c:=c) rfl
 have e:aq (af [(500004,⟨v,some (.map es c)⟩),(500014,⟨0,none⟩)] a) 500014 ⟨1,some (.map es c)⟩=af [(500004,⟨v,some (.map es c)⟩),(500014,⟨1,some (.map es c)⟩)] a:=by
  funext k;simp only[af,aq];by_cases d:k=500014
  ·subst d;rfl
  ·simp only[d,ya]
 rw[←e];exact h
theorem fI{S:CK}(h:CKok S){g:Gv}{ar:List AV}(a:bz (cK ((ck S).map (·.1)) 1000000) ar=ar):Cln ((ck S).map (·.1)) 1000000 ar (ck S) (bo g):=
 ⟨rfl,rfl,rfl,a,dr h rfl,rfl⟩
theorem gI{S:CK}(h:CKok S){g:Gv}{a b:List (Nat×aI)}{ar:List AV}(l:(((ck S ++a).map (·.1)).all fun k=>Nat.blt k 1000000)=true)(e:b.map (·.1)=a.map (·.1))(i:([499904,500002,500003,500004,500005,500382,500191].map (cK ((ck S ++a).map (·.1)) 1000000))=[499904,500002,500003,500004,500005,500382,500191])
    (j:bz (cK ((ck S ++a).map (·.1)) 1000000) ar=ar) (m:(a.map fun p:Nat×aI=>bQ (cK ((ck S ++a).map (·.1)) 1000000) p.2)=a.map (·.2)) (c:(b.map fun p:Nat×aI=>bQ (cK ((ck S ++a).map (·.1)) 1000000) p.2)=b.map (·.2)):
    Cln ((ck S ++a).map (·.1)) 1000000 ar (ck S ++a) (bo g ++b):=
 ⟨l,rfl,by rw[xM,xM,e];rfl,j,by
  have d:=dr h i;rw[xM,xM (f:=fun p:Nat×aI=>p.2),d,m],by
  rw[xM,xM (f:=fun p:Nat×aI=>p.2),c];rfl⟩
abbrev pS(es:List (D×D×Nat))(n:Nat):List (Nat×aI):=[(500013,⟨1,some (.map es n)⟩)]
abbrev r7(l:List cf)(i:Nat):List (Nat×AV):=[(0,an),(1, .d (.ro (cZ l))),(4, .mp 500013 1),(12, .d (.ro (cZ l))),(13,dN (cZ l).length),(14,dN i)]
abbrev DK:List (Nat×AV):=[(0,an),(4, .mp 500013 1)]
abbrev EQ(S S':CK)(x:cf):Prop:=HC 83 [an, .d (oy x)] (ck S) [] (ck S')
abbrev Cb(S:CK)(x:cf)(g:Gv)(p e:Int):Prop:=HX 83 [an, .d (oy x)] (ck S) (am p e) (bo g)
def uI(P:Program)(j:Nat)(h:j+1<1000000):bj P:= .val (dI (IntKind.i64.wrap (((j+1:Nat):Int)-1))) (dN j) (by
 congr 2;rw[IntWalk.i64_in _ (by omega)];omega)
def pT(P:Program)(l:List cf)(i:Nat)(x:cf)(a:l[i]? =some x):bj P:= .idx (cZ l) ((i:Nat):Int) (oy x) (by omega) (by rw[yW,k7,xK,a];rfl)
section
variable{S S':CK}(h:CKok S)(h':CKok S')(es:List (D×D×Nat))(n:Nat)(l:List cf)(i:Nat)
include h
theorem Cc(a:decide (i<(cZ l).length)=false):RE 41 (lO 68 2) (r7 l i) (ck S ++pS es n) (.exit 0) DK (ck S ++pS es n):=
 qE {hint:=qT 68 [(15,iM Pg i (cZ l).length false a)]} 68 2000 (dK h h rfl rfl rfl rfl rfl rfl)
section
variable(k id:Int)(e:List UInt8)(ty f p:Int)(xs:List Ex)(a b:List cf)
include k id e ty f p xs a b
theorem Az(d:l[0]? =some (.mk k id e ty f p xs a b))(j:decide (0<(cZ l).length)=true)(g:Gv)(u r:Int)(c:Cb S (.mk k id e ty f p xs a b) g u r):RE 41 (lO 68 2) (r7 l 0) (ck S ++pS es n) (.panic (am u r)) [] (bo g ++[(500013,⟨1,none⟩)]):=
 qE {hint:=qT 68 [(15,iM Pg 0 (cZ l).length true j),(17,pT Pg l 0 _ d)],calls:=tC [(68,32,2533,aL rfl (ay p 11))],pans:=aU Pg [(68,5,2533,⟨2,some (cJ c),[]⟩)]} 68 2000 (gI h rfl rfl rfl rfl rfl rfl)
theorem AA(j:Nat)(z:l[j+1]? =some (.mk k id e ty f p xs a b))(x m:Int)(t:List UInt8)(q v w:Int)(bO:List Ex)(s o:List cf)(y:l[j]? =some (.mk x m t q v w bO s o))(hm:j+1<1000000)(B:HC 82 [.d (oy (.mk x m t q v w bO s o))] [] [.bool false] [])(A:decide (j+1<(cZ l).length)=true)(g:Gv)(u r:Int)(c:Cb S (.mk k id e ty f p xs a b) g u r):RE 41 (lO 68 2) (r7 l (j+1)) (ck S ++pS es n) (.panic (am u r)) [] (bo g ++[(500013,⟨1,none⟩)]):=
 qE {hint:=qT 68 [(15,iM Pg (j+1) (cZ l).length true A),(17,pT Pg l (j+1) _ z),(24,uI Pg j hm),(25,pT Pg l j _ y)],calls:=tC [(68,27,2615,aL rfl B),(68,32,2779,aL rfl (ay p 11))],pans:=aU Pg [(68,5,2779,⟨2,some (cJ c),[]⟩)]} 68 2000 (gI h rfl rfl rfl rfl rfl rfl)
theorem wq(j:Nat)(v:l[j+1]? =some (.mk k id e ty f p xs a b))(t c:Int)(q:List UInt8)(m r s:Int)(bO:List Ex)(o g:List cf)(u:l[j]? =some (.mk t c q m r s bO o g))(hm:j+1<1000000)(x:HC 82 [.d (oy (.mk t c q m r s bO o g))] [] [.bool true] [])(w:decide (j+1<(cZ l).length)=true):RE 41 (lO 68 2) (r7 l (j+1)) (ck S ++pS es n) (.panic (am p 11)) [] (bo S.gv ++[(500013,⟨1,none⟩)]):=
 qE {hint:=qT 68 [(15,iM Pg (j+1) (cZ l).length true w),(17,pT Pg l (j+1) _ v),(24,uI Pg j hm),(25,pT Pg l j _ u)],calls:=tC [(68,27,2615,aL rfl x)],pans:=aU Pg [(68,4,2287,⟨13,some (cJ (a7 p 11)),[]⟩)]} 68 2000 (gI h rfl rfl rfl rfl rfl rfl)
end
include h'
theorem yz(k id:Int)(e:List UInt8)(ty b p:Int)(xs:List Ex)(d f:List cf)(g:l[0]? =some (.mk k id e ty b p xs d f))(o:decide (0<(cZ l).length)=true)(c:EQ S S' (.mk k id e ty b p xs d f)):∀(a:aa)(X:bD),X.P=Pg→X.N=41→AW X (lO 68 2) ⟨ag (r7 l 0),af (ck S ++pS es n) a⟩ fun m j=>m= .normal∧j=⟨ag (r7 l 1),af (ck S' ++pS es n) a⟩:=
 qE {hint:=qT 68 [(15,iM Pg 0 (cZ l).length true o),(17,pT Pg l 0 _ g)],calls:=tC [(68,32,2533,aL rfl (ay p 11)),(68,35,2615,dh c)]} 68 2000 (dK h h' rfl rfl rfl rfl rfl rfl)
theorem za(k id:Int)(q:List UInt8)(ty o p:Int)(xs:List Ex)(v u:List cf)(j:Nat)(A:l[j+1]? =some (.mk k id q ty o p xs v u))(s b:Int)(m:List UInt8)(g t r:Int)(bO:List Ex)(e f:List cf)(w:l[j]? =some (.mk s b m g t r bO e f))(hm:j+1<1000000)(z:HC 82 [.d (oy (.mk s b m g t r bO e f))] [] [.bool false] [])(y:decide (j+1<(cZ l).length)=true)(c:EQ S S' (.mk k id q ty o p xs v u)):∀(a:aa)(X:bD),X.P=Pg→X.N=41→AW X (lO 68 2) ⟨ag (r7 l (j+1)),af (ck S ++pS es n) a⟩ fun B x=>B= .normal∧x=⟨ag (r7 l (j+1+1)),af (ck S' ++pS es n) a⟩:=
 qE {hint:=qT 68 [(15,iM Pg (j+1) (cZ l).length true y),(17,pT Pg l (j+1) _ A),(24,uI Pg j hm),(25,pT Pg l j _ w),(36,jB Pg (j+1) (by omega))],calls:=tC [(68,27,2615,aL rfl z),(68,32,2779,aL rfl (ay p 11)),(68,35,2861,dh c)]} 68 2000 (dK h h' rfl rfl rfl rfl rfl rfl)
end
end Go.Avm
