/-
  The abstract machine, part A: immutable data, abstract values, what they stand for in a world, and what carries over from one world to the next.
-/
import Derived.Tactics
import Derived.Below
import Derived.Laws.Append
import Derived.Laws.World
import Derived.Laws.CopyOwn
set_option linter.unusedVariables false
set_option linter.unusedSimpArgs false
set_option linter.unusedSectionVars false
namespace Go.Avm
open Go.RowKit
theorem xA:type_of% @Option.some.injEq:= @Option.some.injEq
theorem xB:type_of% @Option.map_eq_some_iff:= @Option.map_eq_some_iff
theorem xC:type_of% @List.length_append:= @List.length_append
theorem xD:type_of% @List.length_cons:= @List.length_cons
theorem xE:type_of% @List.getElem?_eq_some_iff:= @List.getElem?_eq_some_iff
theorem xF:type_of% @List.length_nil:= @List.length_nil
theorem xG:type_of% @Prod.mk.injEq:= @Prod.mk.injEq
theorem xH:type_of% @List.getElem?_eq_getElem:= @List.getElem?_eq_getElem
theorem xI:type_of% @cond_false:= @cond_false
theorem xJ:type_of% @Array.getElem?_eq_getElem:= @Array.getElem?_eq_getElem
theorem xK:type_of% @List.mem_singleton:= @List.mem_singleton
theorem xL:type_of% @Bool.and_eq_true:= @Bool.and_eq_true
theorem xM:type_of% @List.append_assoc:= @List.append_assoc
theorem xN:type_of% @List.map_cons:= @List.map_cons
theorem xO:type_of% @List.length_map:= @List.length_map
theorem xP:type_of% @List.getElem?_map:= @List.getElem?_map
theorem xQ:type_of% @Array.getElem?_eq_some_iff:= @Array.getElem?_eq_some_iff
theorem xR:type_of% @cond_true:= @cond_true
theorem xS:type_of% @Nat.le_refl:= @Nat.le_refl
theorem xU:type_of% @List.getElem?_append_left:= @List.getElem?_append_left
theorem xV:type_of% @List.getElem?_append_right:= @List.getElem?_append_right
theorem xW:type_of% @List.mem_cons_of_mem:= @List.mem_cons_of_mem
theorem xX:type_of% @List.mem_cons:= @List.mem_cons
theorem xY:type_of% @List.map_append:= @List.map_append
theorem xZ:type_of% @List.mem_append:= @List.mem_append
theorem x0:type_of% @List.mem_cons_self:= @List.mem_cons_self
theorem x5:type_of% @List.mem_of_getElem? := @List.mem_of_getElem?
theorem x6:type_of% @decide_eq_true_eq:= @decide_eq_true_eq
theorem x7:type_of% @List.eq_nil_of_length_eq_zero:= @List.eq_nil_of_length_eq_zero
theorem x8:type_of% @List.cons_append:= @List.cons_append
theorem x9:type_of% @if_pos:= @if_pos
theorem xa:type_of% @List.all_eq_true:= @List.all_eq_true
theorem xb:type_of% @Nat.zero_add:= @Nat.zero_add
theorem xc:type_of% @Option.map_some:= @Option.map_some
theorem xe:type_of% @Array.getElem?_toList:= @Array.getElem?_toList
theorem xf:type_of% @List.getElem?_of_mem:= @List.getElem?_of_mem
theorem xg:type_of% @Array.length_toList:= @Array.length_toList
theorem xh:type_of% @decide_eq_false_iff_not:= @decide_eq_false_iff_not
theorem xi:type_of% @List.mem_map:= @List.mem_map
theorem xj:type_of% @if_neg:= @if_neg
theorem xk:type_of% @List.map_nil:= @List.map_nil
theorem xl:type_of% @List.getElem?_cons_zero:= @List.getElem?_cons_zero
theorem xm:type_of% @beq_iff_eq:= @beq_iff_eq
theorem xn:type_of% @List.nil_append:= @List.nil_append
theorem xo:type_of% @Int.toNat_natCast:= @Int.toNat_natCast
theorem xp:type_of% @Array.mem_toList_iff:= @Array.mem_toList_iff
theorem xq:type_of% @Array.getD_eq_getD_getElem? := @Array.getD_eq_getD_getElem?
theorem xt:type_of% @List.length_singleton:= @List.length_singleton
theorem xu:type_of% @List.mem_or_eq_of_mem_set:= @List.mem_or_eq_of_mem_set
theorem xw:type_of% @List.getElem?_drop:= @List.getElem?_drop
theorem xx:type_of% @Int.le_refl:= @Int.le_refl
theorem xy:type_of% @Bool.or_eq_true:= @Bool.or_eq_true
theorem xz:type_of% @Nat.zero_le:= @Nat.zero_le
theorem yA:type_of% @Option.bind_some:= @Option.bind_some
theorem yB:type_of% @List.flatMap_cons:= @List.flatMap_cons
theorem yC:type_of% @of_decide_eq_true:= @of_decide_eq_true
theorem yD:type_of% @List.not_mem_nil:= @List.not_mem_nil
theorem yE:type_of% @List.length_eq_one_iff:= @List.length_eq_one_iff
theorem yF:type_of% @List.append_nil:= @List.append_nil
theorem yG:type_of% @List.getElem?_take:= @List.getElem?_take
theorem yH:type_of% @Bool.not_eq_true':= @Bool.not_eq_true'
theorem yI:type_of% @List.drop_eq_nil_iff:= @List.drop_eq_nil_iff
theorem yJ:type_of% @Nat.lt_or_ge:= @Nat.lt_or_ge
theorem yK:type_of% @Nat.lt_of_lt_of_le:= @Nat.lt_of_lt_of_le
theorem yL:type_of% @List.drop_eq_getElem_cons:= @List.drop_eq_getElem_cons
theorem yM:type_of% @List.drop_zero:= @List.drop_zero
theorem yN:type_of% @Nat.eq_of_beq_eq_true:= @Nat.eq_of_beq_eq_true
theorem yO:type_of% @List.flatten_cons:= @List.flatten_cons
theorem yP:type_of% @List.mem_append_left:= @List.mem_append_left
theorem yQ:type_of% @of_decide_eq_false:= @of_decide_eq_false
theorem yR:type_of% @List.mem_of_mem_take:= @List.mem_of_mem_take
theorem yS:type_of% @if_true:= @if_true
theorem yT:type_of% @Array.getElem?_append_left:= @Array.getElem?_append_left
theorem yU:type_of% @List.flatten_nil:= @List.flatten_nil
theorem yV:type_of% @List.takeWhile_cons:= @List.takeWhile_cons
theorem yW:type_of% @List.length_drop:= @List.length_drop
theorem yX:type_of% @Nat.le_trans:= @Nat.le_trans
theorem yY:type_of% @List.getElem?_toArray:= @List.getElem?_toArray
theorem yZ:type_of% @beq_eq_false_iff_ne:= @beq_eq_false_iff_ne
theorem y7:type_of% @List.getElem_mem:= @List.getElem_mem
theorem y8:type_of% @List.nodup_nil:= @List.nodup_nil
theorem y9:type_of% @Nat.mul_le_mul_right:= @Nat.mul_le_mul_right
theorem ya:type_of% @Nat.add_assoc:= @Nat.add_assoc
theorem yb:type_of% @List.flatMap_append:= @List.flatMap_append
theorem yc:type_of% @List.map_congr_left:= @List.map_congr_left
theorem yd:type_of% @List.any_eq_true:= @List.any_eq_true
theorem ye:type_of% @Array.getElem_toList:= @Array.getElem_toList
theorem yf:type_of% @Nat.add_mul:= @Nat.add_mul
theorem yg:type_of% @List.mem_of_mem_drop:= @List.mem_of_mem_drop
theorem yh:type_of% @List.take_of_length_le:= @List.take_of_length_le
theorem yi:type_of% @List.drop_length:= @List.drop_length
theorem yj:type_of% @List.mem_append_right:= @List.mem_append_right
theorem yk:type_of% @List.getElem?_eq_none:= @List.getElem?_eq_none
theorem yl:type_of% @List.isEmpty_cons:= @List.isEmpty_cons
theorem ym:type_of% @List.getElem?_cons_succ:= @List.getElem?_cons_succ
theorem yn:type_of% @Option.bind_eq_some_iff:= @Option.bind_eq_some_iff
theorem yo:type_of% @Nat.lt_of_le_of_lt:= @Nat.lt_of_le_of_lt
theorem yp:type_of% @Nat.add_zero:= @Nat.add_zero
theorem yq:type_of% @List.map_map:= @List.map_map
theorem yr:type_of% @and_true:= @and_true
theorem yu:type_of% @List.getElem?_range:= @List.getElem?_range
theorem yv:type_of% @List.getElem_of_mem:= @List.getElem_of_mem
theorem yx:type_of% @Array.mem_of_getElem? := @Array.mem_of_getElem?
theorem yy:type_of% @Array.getElem?_map:= @Array.getElem?_map
theorem yz:type_of% @Bool.false_eq_true:= @Bool.false_eq_true
theorem zA:type_of% @Int.add_sub_cancel:= @Int.add_sub_cancel
theorem zB:type_of% @List.isEmpty_iff:= @List.isEmpty_iff
theorem zC:type_of% @Nat.lt_succ_self:= @Nat.lt_succ_self
theorem zE:type_of% @Bool.or_eq_false_iff:= @Bool.or_eq_false_iff
theorem zF:type_of% @List.contains_eq_mem:= @List.contains_eq_mem
theorem zG:type_of% @or_false:= @or_false
theorem zH:type_of% @Array.getElem_mem:= @Array.getElem_mem
theorem zI:type_of% @List.mem_map_of_mem:= @List.mem_map_of_mem
theorem zJ:type_of% @List.nodup_cons:= @List.nodup_cons
theorem zK:type_of% @List.mem_filter:= @List.mem_filter
theorem zL:type_of% @List.flatten_append:= @List.flatten_append
theorem zM:type_of% @not_or:= @not_or
theorem zN:type_of% @Option.getD_some:= @Option.getD_some
theorem zO:type_of% @List.length_take:= @List.length_take
theorem zP:type_of% @List.range'_succ:= @List.range'_succ
theorem zQ:type_of% @Array.toList_inj:= @Array.toList_inj
theorem zR:type_of% @List.isEmpty_nil:= @List.isEmpty_nil
theorem zS:type_of% @if_false:= @if_false
theorem zT:type_of% @Nat.le_of_lt:= @Nat.le_of_lt
theorem qt(s:ByteArray):∀(n i:Nat)(r:List UInt8),s.size-i=n→ByteArray.toList.loop s i r=r.reverse ++s.data.toList.drop i
 |0,i,r,h=>by
  rw[ByteArray.toList.loop,xj (by omega),List.drop_eq_nil_of_le (by simp only[xg];show s.size≤i;omega),yF]
 |n+1,i,r,h=>by
  have a:i<s.size:=by omega
  have b:i<s.data.toList.length:=by simpa using a
  rw[ByteArray.toList.loop,x9 a,qt s n (i+1) _ (by omega),yL b]
  have:s.get! i=s.data.toList[i]:=by
   simp only[ByteArray.get!,ye];exact getElem!_pos s.data i (by simpa using b)
  rw[this];simp
theorem uy(s:ByteArray):s.toList=s.data.toList:=by
 rw[ByteArray.toList,qt s s.size 0 [] (by omega)];simp
inductive D where
 |bool (b:Bool)
 |int (k:IntKind) (n:Int)
 |str (s:List UInt8)
 |agg (cs:List D)
 |ro (l:List D)
 |rp (cs:List D)
 |nilp
 |nili
 |ifc
 deriving Inhabited
def D.cells:D→List D
 | .agg cs=>cs
 |x=>[x]
def D.one:D→Bool
 | .agg _=>false
 |_=>true
def D.flat(l:List D):List D:=l.flatMap D.cells
inductive AV where
 |junk
 |d (x:D)
 |nils
 |es
 |vec (k v sz:Nat) (l:List D)
 |sl (k v off len sz:Nat)
 |ptr (k v i off sz:Nat)
 |agg (cs:List AV)
 |tup (vs:List AV)
 |fn (f:Nat) (caps:List AV)
 |mp (k v:Nat)
 |yld (k v:Nat)
 |itr (k v:Nat)
 |iv (t:TypeId) (x:AV)
 |vp (k v:Nat) (l:List D)
 deriving Inhabited
def AV.cells:AV→List AV
 | .agg cs=>cs
 | .d (.agg cs)=>cs.map .d
 |x=>[x]
def AV.one:AV→Bool
 | .junk| .agg _| .tup _| .d (.agg _)=>false
 |_=>true
def AV.stor:AV→Bool
 | .junk| .tup _=>false
 |_=>true
def AV.flat(l:List AV):List AV:=l.flatMap AV.cells
def AV.lone:AV→Bool
 | .agg _| .d (.agg _)=>false
 |_=>true
theorem AV.cells_lone{x:AV}(h:x.lone=true):x.cells=[x]:=by
 cases x with
 |d y=>cases y<;>first|rfl|(simp[AV.lone]at h)
 |agg _=>simp[AV.lone]at h
 |_=>rfl
def aJ{a:Type}(f:Nat→a)(k:Nat)(x:a):Nat→a:=fun t=>if t=k then x else f t
theorem ad{a:Type}(f:Nat→a)(k:Nat)(x:a):aJ f k x k=x:=by simp[aJ]
theorem ae{a:Type}(f:Nat→a){k t:Nat}(x:a)(h:t≠k):aJ f k x t=f t:=by simp[aJ,h]
theorem FW{a:Type}(f:Nat→a){k t:Nat}(x y:a)(h:t≠k):aJ (aJ f k x) t y=aJ (aJ f t y) k x:=by
 funext s;simp only[aJ];by_cases b:s=t<;>by_cases h2:s=k<;>simp_all
def ak:List (Nat×AV)→Nat→AV
 |[]=>fun _=> .junk
 |(k,x)::r=>aJ (ak r) k x
theorem m4(env:Nat→AV):∀(l:List (Nat×AV)),(∀p∈l,p.2=env p.1)→∀t,ak l t=env t∨ak l t= .junk
 |[],_,t=> .inr rfl
 |(k,x)::r,h,t=>by
  by_cases a:t=k
  ·subst a
   left;simp only[ak,ad];exact h (t,x) (by simp)
  ·simp only[ak,ae _ _ a]
   exact m4 env r (fun p hp=>h p (by simp[hp])) t
inductive LSt where
 |ready
 |busy
 |done (c:Code)
def LSt.state:LSt→LoopState
 | .ready=> .ready
 | .busy=> .busy
 | .done _=> .done
def LSt.pending:LSt→Option Code
 | .done c=>some c
 |_=>none
inductive Ob where
 |arr (sz:Nat) (es:List AV)
 |map (es:List (D×D×Nat)) (clock:Nat)
 |lp (fno N:Nat) (env:List (Nat×AV)) (ps:Array Nat) (Y0 bd:Code) (st:LSt)
 |itr (km vm since:Nat) (seen:List Nat)
 |typ (k v:Nat) (T:TypeId) (n:Option Nat)
 deriving Inhabited
def Ob.flex:Ob→Bool
 | .arr _ _=>true
 | .typ _ _ _ _=>true
 |_=>false
def jm:Option Ob→Bool
 |some o=> !o.flex
 |none=>false
theorem ip{o:Option Ob}(h:jm o=true):∃x,o=some x∧x.flex=false:=by
 cases o with
 |none=>cases h
 |some x=>exact⟨x,rfl,by simpa [jm]using h⟩
theorem jn:∀o:Ob,o.flex=false→none≠some o:=fun _ _ e=>by cases e
theorem FX{k v:Nat}{T:TypeId}{n:Option Nat}:∀o:Ob,o.flex=false→some (.typ k v T n)≠some o:=fun o h e=>by cases e;cases h
theorem kz{sz:Nat}{es:List AV}:∀o:Ob,o.flex=false→some (.arr sz es)≠some o:=fun o h e=>by cases e;cases h
structure aK where
 ver:Nat
 ob:Option Ob
 deriving Inhabited
abbrev aa:=Nat→aK
structure sQ where
 b:Nat
 sz:Nat
 cap:Nat
 fr:Nat
 ty:TypeId
structure Gh where
 imm:Nat→Nat→Prop
 loc:Nat→Nat→Option sQ
 lim:Nat→Nat
 mloc:Nat→Nat→Option Nat
inductive DRep(imm:Nat→Nat→Prop)(w:World):D→Value→Prop
 |bool (b:Bool):DRep imm w (.bool b) (.bool b)
 |int (k:IntKind) (n:Int):DRep imm w (.int k n) (.int k n)
 |str (l:List UInt8) (s:ByteArray) (h:s.data.toList=l):DRep imm w (.str l) (.string s)
 |nilp:DRep imm w .nilp (.pointer none)
 |nili:DRep imm w .nili .nilIface
 |ifc (t:TypeId) (v:Value):DRep imm w .ifc (.iface t v)
 |agg (cs:List D) (vs:Array Value) (hl:vs.size=cs.length) (h1:∀c∈cs,c.one=true)
     (h:∀(i:Nat)(c:D)(u:Value),cs[i]? =some c→vs[i]? =some u→DRep imm w c u):DRep imm w (.agg cs) (.agg vs)
 |roNil (ao:Option Addr) (c:Nat):DRep imm w (.ro []) (.slice ao 0 c)
 |ro (l:List D) (b o c sz:Nat) (U:Nat→Value) (hcap:l.length≤c) (hsz:∀e∈l,e.cells.length=sz) (h1:∀e∈D.flat l,e.one=true)
     (hi:∀(t:Nat)(c:D),(D.flat l)[t]? =some c→imm b (o+t)) (hc:∀(t:Nat)(c:D),(D.flat l)[t]? =some c→w.cell? ⟨b,o+t,none⟩=some (U t))
     (hr:∀(t:Nat)(c:D),(D.flat l)[t]? =some c→DRep imm w c (U t)):DRep imm w (.ro l) (.slice (some ⟨b,o,none⟩) l.length c)
 |rp (cs:List D) (b o:Nat) (U:Nat→Value) (h1:∀e∈cs,e.one=true) (hi:∀(t:Nat)(c:D),cs[t]? =some c→imm b (o+t)) (hc:∀(t:Nat)(c:D),cs[t]? =some c→w.cell? ⟨b,o+t,none⟩=some (U t))
     (hr:∀(t:Nat)(c:D),cs[t]? =some c→DRep imm w c (U t)):DRep imm w (.rp cs) (.pointer (some ⟨b,o,none⟩))
inductive Rep(G:Gh)(w:World):AV→Value→Prop
 |junk (v:Value):Rep G w .junk v
 |d {x:D} {v:Value} (h:DRep G.imm w x v):Rep G w (.d x) v
 |nils:Rep G w .nils (.slice none 0 0)
 |es (ao:Option Addr):Rep G w .es (.slice ao 0 0)
 |vecNil (k ver sz:Nat):Rep G w (.vec k ver sz []) (.slice none 0 0)
 |vec (k ver:Nat) (l:List D) (L:sQ) (hL:G.loc k ver=some L) (hfr:L.fr=l.length*L.sz) (hlen:l.length≤L.cap) (hsz:∀e∈l,e.cells.length=L.sz)
     (h:DRep G.imm w (.ro l) (.slice (some ⟨L.b,0,none⟩) l.length L.cap)):Rep G w (.vec k ver L.sz l) (.slice (some ⟨L.b,0,none⟩) l.length L.cap)
 |slNil (k ver sz:Nat) (ao:Option Addr):Rep G w (.sl k ver 0 0 sz) (.slice ao 0 0)
 |sl (k ver off len c:Nat) (L:sQ) (hL:G.loc k ver=some L) (hc:off+c≤L.cap) (hlen:len≤c):Rep G w (.sl k ver off len L.sz) (.slice (some ⟨L.b,off*L.sz,none⟩) len c)
 |ptr (k ver i off:Nat) (L:sQ) (hL:G.loc k ver=some L):Rep G w (.ptr k ver i off L.sz) (.pointer (some ⟨L.b,i*L.sz+off,none⟩))
 |agg (cs:List AV) (vs:Array Value) (hl:vs.size=cs.length) (h1:∀(i:Nat)(u:Value),vs[i]? =some u→u.oneCell'=true)
     (h:∀(i:Nat)(c:AV)(u:Value),cs[i]? =some c→vs[i]? =some u→Rep G w c u):Rep G w (.agg cs) (.agg vs)
 |tup (cs:List AV) (vs:Array Value) (hl:vs.size=cs.length)
     (h:∀(i:Nat)(c:AV)(u:Value),cs[i]? =some c→vs[i]? =some u→Rep G w c u):Rep G w (.tup cs) (.tuple vs)
 |fn (f:Nat) (caps:List AV) (vs:Array Value) (hl:vs.size=caps.length)
     (h:∀(i:Nat)(c:AV)(u:Value),caps[i]? =some c→vs[i]? =some u→Rep G w c u):Rep G w (.fn f caps) (.func (.func f) #[] vs)
 |mp (k ver b:Nat) (hL:G.mloc k ver=some b):Rep G w (.mp k ver) (.map (some b))
 |yld (k ver b:Nat) (hL:G.mloc k ver=some b):Rep G w (.yld k ver) (.func (.yield b) #[] #[])
 |itr (k ver b:Nat) (hL:G.mloc k ver=some b):Rep G w (.itr k ver) (.pointer (some ⟨b,0,none⟩))
 |iv (t:TypeId) {x:AV} (v:Value) (h:Rep G w x v):Rep G w (.iv t x) (.iface t v)
 |vp (k ver:Nat) (l:List D) (L:sQ) (hL:G.loc k ver=some L) (h1:L.sz=1) (hlen:l.length≤L.cap)
     (h:DRep G.imm w (.ro l) (.slice (some ⟨L.b,0,none⟩) l.length L.cap)):Rep G w (.vp k ver l) (.pointer (some ⟨L.b,0,none⟩))
theorem DRep.mono{imm d:Nat→Nat→Prop}{w m:World}{x:D}{v:Value}(h:DRep imm w x v)(p:∀b o,imm b o→d b o)
    (q:∀b o,imm b o→m.cell? ⟨b,o,none⟩=w.cell? ⟨b,o,none⟩):DRep d m x v:=by
 induction h with
 |bool b=>exact .bool b
 |int k n=>exact .int k n
 |str l s h=>exact .str l s h
 |nilp=>exact .nilp
 |nili=>exact .nili
 |ifc t v=>exact .ifc t v
 |agg cs vs u e _ f=>exact .agg cs vs u e f
 |roNil r c=>exact .roNil r c
 |ro l b o c sz U g i e a j _ f=>exact .ro l b o c sz U g i e (fun t c h=>p _ _ (a t c h)) (fun t c h=>(q _ _ (a t c h)).trans (j t c h)) f
 |rp cs b o U e a j _ f=>exact .rp cs b o U e (fun t c h=>p _ _ (a t c h)) (fun t c h=>(q _ _ (a t c h)).trans (j t c h)) f
theorem DRep.oneCell{imm:Nat→Nat→Prop}{w:World}{x:D}{v:Value}(h:DRep imm w x v)(a:x.one=true):v.oneCell'=true:=by
 cases h<;>first|rfl|(simp[D.one]at a)
def mt:Obj→Bool
 | .loop _=>true
 | .deferred _=>true
 | .mapIter _ _ _ _=>true
 |_=>false
def m5:Obj→Bool
 | .loop _=>true
 | .map _ _=>true
 | .mapIter _ _ _ _=>true
 |_=>false
def jb:Obj→Obj→Prop
 | .loop _,o'=>∃r,o'= .loop r
 | .mapIter _ _ _ _,o'=>∃m s q c,o'= .mapIter m s q c
 |o,o'=>o'=o
theorem eC(o:Obj):jb o o:=by cases o<;>first|rfl|exact⟨_,rfl⟩|exact⟨_,_,_,_,rfl⟩
theorem uz{a b c:Obj}(h:jb a b)(k:jb b c):jb a c:=by
 cases a with
 |loop r=>obtain⟨d,rfl⟩:=h;exact k
 |mapIter _ _ _ _=>obtain⟨_,_,_,_,rfl⟩:=h;exact k
 |_=>cases h;exact k
theorem Ey{a b:Obj}(h:jb a b)(k:mt a=true):mt b=true:=by
 cases a with
 |loop r=>obtain⟨c,rfl⟩:=h;rfl
 |mapIter _ _ _ _=>obtain⟨_,_,_,_,rfl⟩:=h;rfl
 |_=>cases h;exact k
structure Ext(G:Gh)(w:World)(G':Gh)(w':World):Prop where
 imm:∀b o,G.imm b o→G'.imm b o
 loc:∀k v L,G.loc k v=some L→G'.loc k v=some L
 cell:∀b o,G.imm b o→w'.cell? ⟨b,o,none⟩=w.cell? ⟨b,o,none⟩
 size:w.heap.size≤w'.heap.size
 lim:∀k,G.lim k≤G'.lim k
 nloc:∀k v,v≤G.lim k→G.loc k v=none→G'.loc k v=none
 mloc:∀k v b,G.mloc k v=some b→G'.mloc k v=some b
 kept:∀(b:Nat)(o:Obj),mt o=true→w.heap[b]? =some o→∃o',w'.heap[b]? =some o'∧jb o o'
theorem Ext.refl(G:Gh)(w:World):Ext G w G w:=⟨fun _ _ h=>h,fun _ _ _ h=>h,fun _ _ _=>rfl,xS _,fun _=>xS _,fun _ _ _ h=>h,fun _ _ _ h=>h,fun _ o _ h=>⟨o,h,eC o⟩⟩
theorem Ext.trans{G j c:Gh}{w e d:World}(h:Ext G w j e)(k:Ext j e c d):Ext G w c d:=
 ⟨fun b o x=>k.imm _ _ (h.imm _ _ x),fun a v L x=>k.loc _ _ _ (h.loc _ _ _ x),fun b o x=>(k.cell _ _ (h.imm _ _ x)).trans (h.cell _ _ x),yX h.size k.size,fun a=>yX (h.lim a) (k.lim a),
  fun a v f x=>k.nloc _ _ (yX f (h.lim a)) (h.nloc _ _ f x),fun a v b x=>k.mloc _ _ _ (h.mloc _ _ _ x),fun b o g x=>by
   obtain⟨p,n,i⟩:=h.kept b o g x;obtain⟨l,q,m⟩:=k.kept b p (Ey i g) n;exact⟨l,q,uz i m⟩⟩
theorem Rep.mono{G A:Gh}{w z:World}{x:AV}{v:Value}(h:Rep G w x v)(e:Ext G w A z):Rep A z x v:=by
 induction h with
 |junk v=>exact .junk v
 |d h=>exact .d (h.mono e.imm e.cell)
 |nils=>exact .nils
 |es u=>exact .es u
 |vecNil k a sz=>exact .vecNil k a sz
 |vec k a l L j r g s h=>exact .vec k a l L (e.loc _ _ _ j) r g s (h.mono e.imm e.cell)
 |slNil k a sz u=>exact .slNil k a sz u
 |sl k a n y c L j B g=>exact .sl k a n y c L (e.loc _ _ _ j) B g
 |ptr k a i n L j=>exact .ptr k a i n L (e.loc _ _ _ j)
 |agg cs vs p q _ m=>exact .agg cs vs p q m
 |tup cs vs p _ m=>exact .tup cs vs p m
 |fn f o vs p _ m=>exact .fn f o vs p m
 |mp k a b j=>exact .mp k a b (e.mloc _ _ _ j)
 |yld k a b j=>exact .yld k a b (e.mloc _ _ _ j)
 |itr k a b j=>exact .itr k a b (e.mloc _ _ _ j)
 |iv t v _ m=>exact .iv t v m
 |vp k a l L j q g h=>exact .vp k a l L (e.loc _ _ _ j) q g (h.mono e.imm e.cell)
theorem Rep.oneCell{G:Gh}{w:World}{x:AV}{v:Value}(h:Rep G w x v)(a:x.one=true):v.oneCell'=true:=by
 cases h with
 |d h=>exact h.oneCell (by cases h<;>simp_all [AV.one,D.one])
 |_=>first|rfl|(simp[AV.one]at a)
theorem Rep.cells{G:Gh}{w:World}{x:AV}{v:Value}(h:Rep G w x v)(M:x.stor=true):
    v.cells.size=x.cells.length∧(∀u∈v.cells.toList,u.oneCell'=true)∧∀(i:Nat)(c:AV)(u:Value),x.cells[i]? =some c→v.cells[i]? =some u→Rep G w c u:=by
 have a:∀(y:AV)(u:Value),Rep G w y u→u.oneCell'=true→y.cells=[y]→u.cells= #[u]→
     u.cells.size=y.cells.length∧(∀t∈u.cells.toList,t.oneCell'=true)∧∀(i:Nat)(c:AV)(t:Value),y.cells[i]? =some c→u.cells[i]? =some t→Rep G w c t:=by
  intro y u F p N q;rw[N,q];refine⟨rfl,fun t H=> ?_,fun i c t j H=> ?_⟩
  ·simp at H;subst H;exact p
  ·cases i with
   |zero=>simp at j H;subst j;subst H;exact F
   |succ i=>simp at j
 cases h with
 |junk=>simp[AV.stor]at M
 |tup=>simp[AV.stor]at M
 |d h=>
  cases h with
  |agg cs vs E p h=>
   refine⟨by simp[Value.cells,AV.cells,E],fun u q=> ?_,fun i c u j q=> ?_⟩
   ·simp only[Value.cells,xp]at q
    obtain⟨i,A,rfl⟩:=Array.mem_iff_getElem.1 q;have j:cs[i]? =some (cs[i]'(by omega)):=xH _;exact(h i _ _ j (xJ A)).oneCell (p _ (y7 _))
   ·simp only[AV.cells,xP,xB]at j
    obtain⟨c',I,rfl⟩:=j;exact .d (h i c' u I q)
  |bool b=>exact a _ _ (.d (.bool b)) rfl rfl rfl
  |int k n=>exact a _ _ (.d (.int k n)) rfl rfl rfl
  |str l s h=>exact a _ _ (.d (.str l s h)) rfl rfl rfl
  |nilp=>exact a _ _ (.d .nilp) rfl rfl rfl
  |nili=>exact a _ _ (.d .nili) rfl rfl rfl
  |ifc t v=>exact a _ _ (.d (.ifc t v)) rfl rfl rfl
  |roNil B c=>exact a _ _ (.d (.roNil B c)) rfl rfl rfl
  |ro l b o c sz U C r p A j F=>exact a _ _ (.d (.ro l b o c sz U C r p A j F)) rfl rfl rfl
  |rp cs b o U p A j F=>exact a _ _ (.d (.rp cs b o U p A j F)) rfl rfl rfl
 |nils=>exact a _ _ .nils rfl rfl rfl
 |es B=>exact a _ _ (.es B) rfl rfl rfl
 |vecNil k e sz=>exact a _ _ (.vecNil k e sz) rfl rfl rfl
 |vec k e l L m J g r h=>exact a _ _ (.vec k e l L m J g r h) rfl rfl rfl
 |slNil k e sz B=>exact a _ _ (.slNil k e sz B) rfl rfl rfl
 |sl k e z K c L m j g=>exact a _ _ (.sl k e z K c L m j g) rfl rfl rfl
 |ptr k e i z L m=>exact a _ _ (.ptr k e i z L m) rfl rfl rfl
 |agg cs vs E p h=>
  refine⟨by simp[Value.cells,AV.cells,E],fun u q=> ?_,fun i c u j q=>h i c u j q⟩;simp only[Value.cells,xp]at q;obtain⟨i,A,rfl⟩:=Array.mem_iff_getElem.1 q;exact p i _ (xJ A)
 |fn f D vs E h=>exact a _ _ (.fn f D vs E h) rfl rfl rfl
 |mp k e b m=>exact a _ _ (.mp k e b m) rfl rfl rfl
 |yld k e b m=>exact a _ _ (.yld k e b m) rfl rfl rfl
 |itr k e b m=>exact a _ _ (.itr k e b m) rfl rfl rfl
 |iv t v h=>exact a _ _ (.iv t v h) rfl rfl rfl
 |vp k e l L m p g h=>exact a _ _ (.vp k e l L m p g h) rfl rfl rfl
def frz:AV→AV
 | .vec _ _ _ l=> .d (.ro l)
 |x=>x
theorem Rep.frz{G:Gh}{w:World}{x:AV}{v:Value}(h:Rep G w x v):Rep G w (frz x) v:=by
 cases h with
 |vecNil k a sz=>exact .d (.roNil none 0)
 |vec k a l L g r e s h=>exact .d h
 |junk=>exact .junk _
 |d h=>exact .d h
 |nils=>exact .nils
 |es p=>exact .es p
 |slNil k a sz p=>exact .slNil k a sz p
 |sl k a j q c L g u e=>exact .sl k a j q c L g u e
 |ptr k a i j L g=>exact .ptr k a i j L g
 |agg cs vs n o h=>exact .agg cs vs n o h
 |tup cs vs n h=>exact .tup cs vs n h
 |fn f m vs n h=>exact .fn f m vs n h
 |mp k a b g=>exact .mp k a b g
 |yld k a b g=>exact .yld k a b g
 |itr k a b g=>exact .itr k a b g
 |iv t v h=>exact .iv t v h
 |vp k a l L g o e h=>exact .vp k a l L g o e h
theorem bM{b d:Type}(f:b→List d)(sz:Nat):∀(l:List b),(∀e∈l,(f e).length=sz)→∀i j,j<sz→(l.flatMap f)[i*sz+j]? =(l[i]?).bind fun e=>(f e)[j]?
 |[],_,i,j,_=>by simp
 |e::l,h,i,j,g=>by
  have a:=h e (by simp);cases i with
  |zero=>
   simp only[yB,Nat.zero_mul,xb,xl,yA];rw[xU (by omega)]
  |succ i=>
   simp only[yB,ym];rw[xV (by rw[a,Nat.succ_mul];omega),a];have:(i+1)*sz+j-sz=i*sz+j:=by rw[Nat.succ_mul];omega
   rw[this];exact bM f sz l (fun c h'=>h c (by simp[h'])) i j g
theorem cH{a c:Type}(f:a→List c)(sz:Nat):∀(l:List a),(∀e∈l,(f e).length=sz)→(l.flatMap f).length=l.length*sz
 |[],_=>by simp
 |e::l,h=>by
  simp only[yB,xC,xD,Nat.succ_mul];rw[h e (by simp),cH f sz l (fun b h'=>h b (by simp[h']))];omega
def UZ(G:Gh)(B:Nat)(w:World)(L:sQ):Prop:=
 B≤L.b∧(∃arr e,w.heap[L.b]? =some (.cells arr e (0,0))∧arr.size=L.cap*L.sz∧e=L.ty)∧(∀o,G.imm L.b o→o<L.fr)
def ObRep(G:Gh)(w:World)(k a:Nat):Ob→Prop
 | .arr sz es=>(es=[]∧G.loc k a=none)∨∃L,G.loc k a=some L∧L.sz=sz∧L.fr=0∧es.length≤L.cap∧(∀e∈es,e.cells.length=sz)∧(sz=1→∀e∈es,e.lone=true)∧
     ∀t c,(AV.flat es)[t]? =some c→∃u,w.cell? ⟨L.b,t,none⟩=some u∧u.oneCell'=true∧Rep G w c u
 | .map _ _=>True
 | .lp _ _ _ _ _ _ _=>True
 | .itr _ _ _ _=>True
 | .typ d f T n=>f≤G.lim d∧∀L,G.loc d f=some L→L.ty=T∧∀m,n=some m→L.cap*L.sz=m
inductive Ez where
 |indexByte
 |same
class aG where
 tab:Nat→Option (List D)
 once:Option Nat
 ext:Nat→Option Ez:=fun _=>none
variable[aG]
def Globs(imm:Nat→Nat→Prop)(w:World):Prop:=∀g cs,aG.tab g=some cs→DRep imm w (.rp cs) (.pointer (some ⟨g,0,none⟩))∧imm g cs.length∧w.cell? ⟨g,cs.length,none⟩=none
theorem Globs.mono{imm d:Nat→Nat→Prop}{w e:World}(h:Globs imm w)(f:∀b o,imm b o→d b o)(i:∀b o,imm b o→e.cell? ⟨b,o,none⟩=w.cell? ⟨b,o,none⟩):Globs d e:=fun g cs j=>let ⟨a,b,c⟩:=h g cs j;⟨a.mono f i,f _ _ b,(i _ _ b).trans c⟩
def EA(imm:Nat→Nat→Prop)(w:World)(b:Nat)(es:List (D×D×Nat))(c:Nat):Prop:=
 ∃a:Array MapEntry,w.heap[b]? =some (.map a c)∧a.size=es.length∧∀(i:Nat)(e:D×D×Nat)(m:MapEntry),es[i]? =some e→a[i]? =some m→DRep imm w e.1 m.key∧DRep imm w e.2.1 m.val∧m.born=e.2.2
structure LRep(G:Gh)(w:World)(N:Nat)(env:List (Nat×AV))(ps:Array Nat)(Y0 bd:Code)(st:LSt)(r:Loop):Prop where
 size:r.tmps.size=N
 rep:∀t,t<N→Rep G w (ak env t) (r.tmps.getD t undef)
 out:∀t,N≤t→ak env t= .junk
 ps:r.params=ps
 Y0:r.assign=Y0
 bd:r.body=bd
 state:r.state=st.state
 pending:r.pending=st.pending
theorem LRep.mono{G d:Gh}{w a:World}{N:Nat}{env:List (Nat×AV)}{ps:Array Nat}{Y0 b:Code}{c:LSt}{r:Loop}(h:LRep G w N env ps Y0 b c r)(e:Ext G w d a):LRep d a N env ps Y0 b c r:=
 ⟨h.size,fun t f=>(h.rep t f).mono e,h.out,h.ps,h.Y0,h.bd,h.state,h.pending⟩
structure MR(G:Gh)(B:Nat)(h:aa)(w:World):Prop where
 low:∀k v b,G.mloc k v=some b→B≤b∧(∃o,m5 o=true∧w.heap[b]? =some o)∧v≤(h k).ver
 inj:∀k k' b,jm (h k).ob=true→jm (h k').ob=true→G.mloc k (h k).ver=some b→G.mloc k' (h k').ver=some b→k=k'
 obj:∀k es c,(h k).ob=some (.map es c)→∃b,G.mloc k (h k).ver=some b∧EA G.imm w b es c
 loops:∀k fno N env ps Y0 bd st,(h k).ob=some (.lp fno N env ps Y0 bd st)→∃b r,G.mloc k (h k).ver=some b∧w.heap[b]? =some (.loop r)∧LRep G w N env ps Y0 bd st r
 iters:∀k km vm since seen,(h k).ob=some (.itr km vm since seen)→∃b bm sa c0,G.mloc k (h k).ver=some b∧G.mloc km vm=some bm∧w.heap[b]? =some (.mapIter (some bm) since sa c0)∧sa.toList=seen∧c0=since
 glob:Globs G.imm w
structure HR(G:Gh)(B:Nat)(w0:World)(I0:Nat→Nat→Prop)(h:aa)(w:World):Prop where
 below:Below B w0 w
 bsz:B≤w.heap.size
 immlt:∀b o,G.imm b o→b<w.heap.size
 i0:∀b o,I0 b o→G.imm b o
 immlow:∀b o,G.imm b o→b<B→I0 b o
 fresh:∀k v L,G.loc k v=some L→v≤(h k).ver
 own:∀k L,G.loc k (h k).ver=some L→UZ G B w L
 dis:∀k k' L L',G.loc k (h k).ver=some L→G.loc k' (h k').ver=some L'→L.b=L'.b→k=k'
 objs:∀k ob,(h k).ob=some ob→ObRep G w k (h k).ver ob
 lim:∀k,G.lim k=(h k).ver
 maps:MR G B h w
theorem MR.step{G A:Gh}{B:Nat}{h h':aa}{w y:World}(hm:MR G B h w)(e:Ext G w A y)(g:A.mloc=G.mloc)(t:∀(b:Nat) o,m5 o=true→w.heap[b]? =some o→y.heap[b]? =some o)
    (O:∀k,(h k).ver≤(h' k).ver) (d:∀(k:Nat)(o:Ob),o.flex=false→(h' k).ob=some o→h' k=h k):MR A B h' y:=by
 refine⟨fun k v b a=> ?_,fun k F b l l' a s=> ?_,fun k es c a=> ?_,fun k z N env ps Y0 J R a=> ?_,fun k T S j seen a=> ?_,hm.glob.mono e.imm e.cell⟩
 ·rw[g]at a
  obtain⟨n,⟨o,d,h2⟩,p⟩:=hm.low k v b a;exact⟨n,⟨o,d,t _ _ d h2⟩,yX p (O k)⟩
 ·obtain⟨o,l,f⟩:=ip l
  obtain⟨o',l',f'⟩:=ip l';have D:=d k o f l;have E:=d F o' f' l';rw[g,D]at a;rw[g,E]at s;exact hm.inj k F b (by rw[←D,l];simp[jm,f]) (by rw[←E,l'];simp[jm,f']) a s
 ·have q:=d k _ rfl a
  rw[q]at a ⊢;obtain⟨b,n,I,h2,p,u⟩:=hm.obj k es c a;refine⟨b,by rw[g];exact n,I,t _ _ rfl h2,p,fun i x m M C=> ?_⟩;obtain⟨K,L,H⟩:=u i x m M C;exact⟨K.mono e.imm e.cell,L.mono e.imm e.cell,H⟩
 ·have q:=d k _ rfl a
  rw[q]at a ⊢;obtain⟨b,r,n,h2,p⟩:=hm.loops k z N env ps Y0 J R a;exact⟨b,r,by rw[g];exact n,t _ _ rfl h2,p.mono e⟩
 ·have q:=d k _ rfl a
  rw[q]at a ⊢;obtain⟨b,P,Q,U,n,h2,p,u⟩:=hm.iters k T S j seen a;exact⟨b,P,Q,U,by rw[g];exact n,by rw[g];exact h2,t _ _ rfl p,u⟩
theorem HR.blt{G:Gh}{B:Nat}{w0 w:World}{I0:Nat→Nat→Prop}{h:aa}(d:HR G B w0 I0 h w){k:Nat}{L:sQ}(c:G.loc k (h k).ver=some L):L.b<w.heap.size:=by
 obtain⟨_,⟨arr,e,a,_⟩,_⟩:=d.own k L c;exact(xQ.1 a).1
end Go.Avm
namespace Go.Avm
variable[aG]
structure Out where
 val:AV
 wr:List (Nat×aK):=[]
 rd:List Nat:=[]
 ob:List (Nat×List D×List D):=[]
inductive Obl where
 |data (c:Nat×List D×List D)
 |heap (f:Nat) (args:List AV) (h:aa) (rs:List AV) (h':aa)
 |frame (f:Nat) (args:List AV) (pre:List (Nat×aK)) (rs:List AV) (post:List (Nat×aK))
 |yield (k v:Nat) (args:List AV) (h:aa) (rs:List AV) (h':aa)
 |exact(f:Nat) (args:List AV) (pre:List Nat) (h0:aa) (rs:List AV) (post:List Nat) (h1:aa)
inductive XI where
 |heap (rs:List AV) (h':aa) (tk:List Nat)
 |frame (pre:List (Nat×aK)) (rs:List AV) (post:List (Nat×aK))
 |exact(pre:List Nat) (h0:aa) (rs:List AV) (post:List Nat) (h1:aa)
structure hQ where
 ret:Nat→List D:=fun _=>[]
 obm:Nat→Bool:=fun _=>false
 hc:Nat→Option XI:=fun _=>none
 base:Nat→Nat:=fun _=>0
 deriving Inhabited
def cR(P:Program)(t:TypeId):Bool:=(P.info? t).isSome
def db(P:Program)(t:TypeId):Option Value:=(P.info? t).bind (·.zero)
def lU(P:Program)(t:TypeId):Option Bool:=(P.underlying t).map fun| .struct _| .array _ _=>true|_=>false
def EB:Value→AV
 | .bool b=> .d (.bool b)
 | .int k n=> .d (.int k n)
 | .string s=> .d (.str s.data.toList)
 | .pointer none=> .d .nilp
 | .nilIface=> .d .nili
 | .slice none 0 0=> .nils
 |_=> .junk
def m6:List AV→Option (List D)
 |[]=>some []
 | .d x::r=>if x.one then (m6 r).map (x:: ·)else none
 |_::_=>none
def iu(cs:List AV):AV:=match m6 cs with
 |some ds=> .d (.agg ds)
 |none=> .agg cs
def kA(cs:Array Value):Option (List AV):=if cs.toList.all (·.oneCell')then some (cs.toList.map EB)else none
def J0:Value→AV
 | .agg cs=>match kA cs with
  |some l=>iu l
  |none=> .junk
 |v=>EB v
def opd(env:Nat→AV):Operand→AV
 | .tmp t=>env t
 | .const v=>J0 v
 | .func f=> .fn f []
 | .global g=>match aG.tab g with
  |some cs=> .d (.rp cs)
  |none=> .junk
def eD(f:AV→Option (D×List Nat)):List AV→Option (List D×List Nat)
 |[]=>some ([],[])
 |x::r=>match f x,eD f r with
  |some a,some b=>some (a.1::b.1,a.2 ++b.2)
  |_,_=>none
def view:Nat→aa→AV→Option (D×List Nat)
 |0,_,_=>none
 |n+1,h,x=>
  match x with
  | .d y=>some (y,[])
  | .nils| .es=>some (.ro [],[])
  | .vec _ _ _ l=>some (.ro l,[])
  | .sl k v a b _=>
   match (h k).ob with
   |some (.arr _ es)=>if (h k).ver=v∧a+b≤es.length then (eD (view n h) ((es.drop a).take b)).map fun r=>(.ro r.1,k::r.2)else none
   |_=>none
  | .ptr k v i a _=>
   match (h k).ob with
   |some (.arr sz es)=>
    if (h k).ver=v∧sz=1∧a=0∧i≤es.length then (eD (view n h) (es.drop i)).map fun r=>(.rp r.1,k::r.2)else none
   |_=>none
  | .agg cs=>(eD (view n h) cs).map fun r=>(.agg r.1,r.2)
  |_=>none
abbrev view.go(n:Nat)(h:aa)(l:List AV):Option (List D×List Nat):=eD (view n h) l
def uA:AV→Option D
 | .d y=>some y
 | .nils| .es=>some (.ro [])
 | .vec _ _ _ l=>some (.ro l)
 | .agg cs=>(go cs).map .agg
 |_=>none
where go:List AV→Option (List D)
 |[]=>some []
 | .d y::r=>if y.one then (go r).map (y:: ·)else none
 | .nils::r| .es::r=>(go r).map (.ro []:: ·)
 | .vec _ _ _ l::r=>(go r).map (.ro l:: ·)
 |_::_=>none
def sS:List AV→Option (List D)
 |[]=>some []
 |x::r=>match uA x,sS r with
  |some a,some b=>some (a::b)
  |_,_=>none
def D.scal:D→Bool
 | .bool _| .int _ _| .str _| .nilp| .nili| .ifc=>true
 |_=>false
def kill(h:aa)(ks:List Nat):List (Nat×aK):=ks.map fun k=>(k,⟨(h k).ver+1,none⟩)
def kB:List D→AV
 |[x]=> .d x
 |l=> .tup (l.map .d)
def iZ(h:aa)(a:AV)(n:Nat):Option (List AV×List Nat):=
 match a with
 | .d (.rp cs)=>if n≤cs.length then some ((cs.take n).map .d,[])else none
 | .ptr k v i b _=>
  match (h k).ob with
  |some (.arr sz es)=>
   if (h k).ver=v then
    if sz=1 then (if b=0∧i+n≤es.length then some ((es.drop i).take n,[k])else none)
    else match es[i]? with
     |some e=>if b+n≤sz then some ((e.cells.drop b).take n,[k])else none
     |none=>none
   else none
  |_=>none
 |_=>none
def gu(P:Program)(t:TypeId)(a:AV)(h:aa):Option Out:=
 match lU P t with
 |some true=>(iZ h a (P.cellsOf t)).map fun r=>{val:=iu r.1,rd:=r.2}
 |some false=>match a with
  | .d (.rp (c::_))=>some {val:= .d c}
  | .ptr k v i b _=>
   match (h k).ob with
   |some (.arr sz es)=>
    if (h k).ver=v then
     if sz=1 then (if b=0 then (es[i]?).map fun x=>{val:=x,rd:=[k]}else none)
     else match es[i]? with
      |some e=>(e.cells[b]?).map fun x=>{val:=x,rd:=[k]}
      |none=>none
    else none
   |_=>none
  |_=>none
 |none=>none
def eM(P:Program)(t:TypeId)(a x:AV)(h:aa):Option Out:=
 match a with
 | .ptr k v i b _=>
  match (h k).ob with
  |some (.arr sz es)=>
   if (h k).ver=v∧x.stor=true∧x.cells.length=P.cellsOf t∧cR P t=true then
    if sz=1 then
     if b=0 then
      (if x.one then (if i<es.length then some {val:= .junk,rd:=[k],wr:=[(k,⟨v,some (.arr sz (es.set i x))⟩)]}else none)
       else if i+x.cells.length≤es.length then some {val:= .junk,rd:=[k],wr:=[(k,⟨v,some (.arr sz (es.take i ++x.cells ++es.drop (i+x.cells.length)))⟩)]}else none)
     else none
    else match es[i]? with
     |some e=>
      if b=0∧x.cells.length=sz then some {val:= .junk,rd:=[k],wr:=[(k,⟨v,some (.arr sz (es.set i x))⟩)]}
      else if b+x.cells.length≤sz then some {val:= .junk,rd:=[k],wr:=[(k,⟨v,some (.arr sz (es.set i (iu (e.cells.take b ++x.cells ++e.cells.drop (b+x.cells.length)))))⟩)]}else none
     |none=>none
   else none
  |_=>none
 |_=>none
def newOb(h:aa)(k sz:Nat)(es:List AV):Nat×aK:=(k,⟨(h k).ver+1,some (.arr sz es)⟩)
def mu(P:Program)(t:TypeId):Option (List AV):=(db P t).bind fun z=>kA z.cells
def fW(P:Program)(t:TypeId)(k:Nat)(h:aa):Option Out:=
 match mu P t with
 |some zs=>some {val:= .ptr k ((h k).ver+1) 0 0 1,rd:=[k],wr:=[newOb h k 1 zs]}
 |none=>none
def kC(x:AV)(k:Nat)(h:aa):Option Out:=
 if x.stor then some {val:= .ptr k ((h k).ver+1) 0 0 1,rd:=[k],wr:=[newOb h k 1 x.cells]}else none
def tv(a:Nat→Option (Nat×Nat))(cs:List AV):List (Nat×AV)→Option (List AV)
 |[]=>some cs
 |(i,x)::r=>
  match a i with
  |some (b,c)=>if x.stor=true∧x.cells.length=c∧b+x.cells.length≤cs.length then tv a (cs.take b ++x.cells ++cs.drop (b+x.cells.length)) r else none
  |none=>none
def fieldsOf(P:Program)(t:TypeId):Option (Array Field):=match P.underlying t with
 |some (.struct fs)=>some fs
 |_=>none
def hV(P:Program)(t:TypeId)(i:Nat):Option (Nat×Nat):=(fieldsOf P t).bind fun fs=>(fs[i]?).map fun f=>(f.offset,P.cellsOf f.type)
def kD(P:Program)(t:TypeId):Bool:=match fieldsOf P t with
 |some fs=>fs.toList.all fun f=>(P.info? f.type).isSome
 |none=>false
def qu(P:Program)(t:TypeId)(i:Nat):Option Bool:=(fieldsOf P t).bind fun fs=>(fs[i]?).bind fun f=>lU P f.type
def MN(P:Program)(t:TypeId):Option TypeId:=match P.underlying t with
 |some (.array _ e)=>if cR P e=true then some e else none
 |_=>none
def uB(P:Program)(t:TypeId)(a:List (Nat×AV)):Option Out:=
 match kD P t,mu P t with
 |true,some zs=>(tv (hV P t) zs a).map fun cs=>{val:=iu cs}
 |false,some zs=>match MN P t with
  |some e=>(tv (fun i=>some (i*P.cellsOf e,P.cellsOf e)) zs a).map fun cs=>{val:=iu cs}
  |none=>none
 |_,_=>none
def kF:Nat→List (Nat×AV)→Option (List AV)
 |_,[]=>some []
 |n,(i,x)::r=>if i=n then (kF (n+1) r).map (x:: ·)else none
def eN(P:Program)(obm:Bool)(t:TypeId)(a:Nat)(b:List (Nat×AV))(k:Nat)(h:aa):Option Out:=
 match P.underlying t with
 |some (.slice e)=>
  match kF 0 b with
  |some xs=>
   if xs.length=a∧a*P.cellsOf e≤65536∧(db P e).isSome=true∧xs.all (fun x=>x.stor&&x.cells.length==P.cellsOf e)=true then
    if obm then if P.cellsOf e=1∧xs.all AV.lone=false then none else some {val:= .sl k ((h k).ver+1) 0 a (P.cellsOf e),rd:=[k],wr:=[newOb h k (P.cellsOf e) xs]}
    else match view.go 3 h xs with
     |some r=>
      if k∈r.2 then none else
      some {val:= .vec k ((h k).ver+1) (P.cellsOf e) r.1,rd:=k::r.2,wr:=(k,⟨(h k).ver+1,none⟩)::kill h r.2}
     |none=>none
   else none
  |none=>none
 |_=>none
def fy(P:Program)(t:TypeId)(x c:AV)(h:aa):Option Out:=
 match P.underlying t,c with
 |some (.slice e), .d (.int _ i)=>
  match x with
  | .d (.ro l)| .vec _ _ _ l=>
   if 0≤i then match l[i.toNat]? with
    |some y=>if y.cells.length=P.cellsOf e∧cR P e=true then some {val:= .d (.rp y.cells)}else none
    |none=>none
   else none
  | .sl k v a b sz=>if sz=P.cellsOf e∧cR P e=true∧0≤i∧i.toNat<b then some {val:= .ptr k v (a+i.toNat) 0 sz}else none
  |_=>none
 |some (.array n e), .d (.int _ i)=>
  match x with
  | .ptr k v j a sz=>if sz=1∧a=0∧cR P e=true∧0≤i∧i.toNat<n then some {val:= .ptr k v (j+i.toNat*P.cellsOf e) 0 sz}else none
  | .d (.rp cs)=>if cR P e=true∧0≤i∧i.toNat<n then some {val:= .d (.rp (cs.drop (i.toNat*P.cellsOf e)))}else none
  |_=>none
 |_,_=>none
def kH(P:Program)(t:TypeId)(x:AV)(f:Nat)(h:aa):Option Out:=
 match hV P t f,kD P t with
 |some (b,fs),true=>
  if fs=0 then none else
  match x with
  | .d (.rp cs)=>some {val:= .d (.rp (cs.drop b))}
  | .ptr k v i a sz=>if sz=1 then (if a=0 then some {val:= .ptr k v (i+b) 0 sz}else none)else some {val:= .ptr k v i (a+b) sz}
  |_=>none
 |_,_=>none
def uC(P:Program)(t:TypeId)(x:AV)(f:Nat):Option Out:=
 match hV P t f,qu P t f,x with
 |some (a,fs),some true, .d (.agg cs)=>if a+fs≤cs.length then some {val:= .d (.agg ((cs.drop a).take fs))}else none
 |some (a,_),some false, .d (.agg cs)=>(cs[a]?).map fun c=>{val:= .d c}
 |some (a,fs),some true, .agg cs=>if a+fs≤cs.length then some {val:=iu ((cs.drop a).take fs)}else none
 |some (a,_),some false, .agg cs=>(cs[a]?).map fun c=>{val:=c}
 |_,_,_=>none
def CM(op:BinOp)(x y:AV):Option AV:=
 match x,y with
 | .d (.int k a), .d (.int c b)=>
  match op with
  | .shl=>if 0≤b then some (.d (.int k (k.wrap (a*2^(min b.toNat k.bits)))))else none
  | .shr=>if 0≤b then some (.d (.int k (a.fdiv (2^(min b.toNat k.bits)))))else none
  |_=>
   if k=c then
    match op with
    | .add=>some (.d (.int k (k.wrap (a+b))))
    | .sub=>some (.d (.int k (k.wrap (a-b))))
    | .mul=>some (.d (.int k (k.wrap (a*b))))
    | .quo=>if b=0 then none else some (.d (.int k (k.wrap (a.tdiv b))))
    | .rem=>if b=0 then none else some (.d (.int k (a.tmod b)))
    | .and=>some (.d (.int k (k.wrap (BitVec.ofInt k.bits a&&&BitVec.ofInt k.bits b).toNat)))
    | .or=>some (.d (.int k (k.wrap (BitVec.ofInt k.bits a|||BitVec.ofInt k.bits b).toNat)))
    | .xor=>some (.d (.int k (k.wrap (BitVec.ofInt k.bits a^^^BitVec.ofInt k.bits b).toNat)))
    | .eql=>some (.d (.bool (a==b)))
    | .neq=>some (.d (.bool (a !=b)))
    | .lss=>some (.d (.bool (decide (a<b))))
    | .leq=>some (.d (.bool (decide (a≤b))))
    | .gtr=>some (.d (.bool (decide (b<a))))
    | .geq=>some (.d (.bool (decide (b≤a))))
    |_=>none
   else none
 | .d (.str a), .d (.str b)=>
  match op with
  | .add=>if a.length+b.length≤9223372036854775807 then some (.d (.str (a ++b)))else none
  | .eql=>some (.d (.bool (a==b)))
  | .neq=>some (.d (.bool (!(a==b))))
  | .lss=>some (.d (.bool (Op.bytesLess a b)))
  | .leq=>some (.d (.bool (Op.bytesLess a b||a==b)))
  | .gtr=>some (.d (.bool (!(Op.bytesLess a b||a==b))))
  | .geq=>some (.d (.bool (!Op.bytesLess a b)))
  |_=>none
 |_,_=>none
def fk:List D→List D→Option Bool
 |[],[]=>some true
 | .int k a::r, .int c b::s=>if k=c then (fk r s).map fun t=>decide (a=b)&&t else none
 |_,_=>none
def ww(P:Program)(t:TypeId)(x y:D):Option Bool:=
 match P.underlying t,x,y with
 |some (.int _), .int k a, .int c b=>if k=c then some (a==b)else none
 |some .bool, .bool a, .bool b=>some (a==b)
 |some .string, .str a, .str b=>some (a==b)
 |_,_,_=>none
def di(P:Program):List Field→Nat→List D→List D→Option Bool
 |[],_,[],[]=>some true
 |f::fs,i,x::xs,y::ys=>
  if f.name≠ "_"∧f.offset=i∧lU P f.type=some false then
   match ww P f.type x y,di P fs (i+1) xs ys with
   |some a,some b=>some (a&&b)
   |_,_=>none
  else none
 |_,_,_,_=>none
def iw(P:Program)(e:TypeId):List D→List D→Option Bool
 |[],[]=>some true
 |x::xs,y::ys=>match ww P e x y,iw P e xs ys with
  |some a,some b=>some (a&&b)
  |_,_=>none
 |_,_=>none
def NS(P:Program)(t:TypeId)(x y:AV):Option Bool:=
 match P.underlying t,x,y with
 |some .bool, .d (.bool a), .d (.bool b)=>some (a==b)
 |some (.struct fs), .d (.agg xs), .d (.agg ys)=>if P.stoodInHeld t=false∧P.eqGuardType P.depth t=false then di P fs.toList 0 xs ys else none
 |some (.array n e), .d (.agg xs), .d (.agg ys)=>if xs.length=n∧P.cellsOf e=1∧lU P e=some false∧P.eqGuardType P.depth t=false then iw P e xs ys else none
 |_,_,_=>none
def FY:Operand→Bool
 | .const _=>true
 |_=>false
def FZ(P:Program)(e:TypeId)(x y:AV):Option Bool:=
 match x,y with
 | .d .nilp, .d .nilp=>some true
 | .ptr _ _ _ _ _, .d .nilp| .d .nilp, .ptr _ _ _ _ _| .d (.rp _), .d .nilp| .d .nilp, .d (.rp _)=>some false
 | .ptr k v i b sz, .ptr g f h a c=>if k=g∧v=f∧i*sz+b=h*c+a∧cR P e=true∧P.cellsOf e≠0 then some true else none
 |_,_=>none
def CN(P:Program)(t:TypeId)(b a:Operand)(x y:AV):Option Bool:=
 match FY b||FY a,P.underlying t,x,y with
 |true,some (.interface _), .d .nili, .d .nili=>some true
 |true,some (.interface _), .d .ifc, .d .nili=>some false
 |_,some (.interface _), .iv _ _, .d .nili=>some false
 |_,some (.pointer e),x,y=>FZ P e x y
 |_,_,_,_=>NS P t x y
def NT(op:UnOp)(x:AV):Option AV:=
 match op,x with
 | .not, .d (.bool b)=>some (.d (.bool (!b)))
 | .neg, .d (.int k n)=>some (.d (.int k (k.wrap (0-n))))
 | .xor, .d (.int k n)=>some (.d (.int k (k.wrap (BitVec.ofInt k.bits (if k.signed then -1 else k.max)^^^BitVec.ofInt k.bits n).toNat)))
 |_,_=>none
def oj(P:Program)(src dst:TypeId)(x:AV):Option AV:=
 match P.underlying src,P.underlying dst,x with
 |some (.int _),some (.int k), .d (.int _ n)=>some (.d (.int k (k.wrap n)))
 |_,_,_=>none
def kI(P:Program)(src dst:TypeId)(x:AV):Option Out:=
 match P.underlying src,P.underlying dst,x with
 |some .string,some (.slice e), .d (.str s)=>match P.underlying e with
  |some (.int .u8)=>some {val:= .d (.ro (s.map fun b=> .int .u8 (b.toNat:Int)))}
  |_=>none
 |_,_,_=>none
def mw:List D→Option (List UInt8)
 |[]=>some []
 | .int .u8 n::r=>(mw r).map (UInt8.ofNat n.toNat:: ·)
 |_::_=>none
def ol(P:Program)(src dst:TypeId)(x:AV):Option AV:=
 match P.underlying src,P.underlying dst with
 |some (.slice e),some .string=>match P.underlying e,x with
  |some (.int .u8), .d (.ro l)=>(mw l).map fun b=> .d (.str b)
  |some (.int .u8), .vec _ _ _ l=>(mw l).map fun b=> .d (.str b)
  |_,_=>none
 |_,_=>none
def uD(P:Program)(e:TypeId):Option AV:=
 match db P e with
 |some (.agg cs)=>(kA cs).map iu
 |some z=>if z.oneCell' then some (EB z)else none
 |none=>none
def dm(P:Program)(t:TypeId)(l c:AV)(k:Nat)(h:aa):Option Out:=
 match P.underlying t,l,c with
 |some (.slice e), .d (.int .i64 l), .d (.int .i64 c)=>
  match uD P e with
  |some z=>
   if 0≤l∧l≤c∧c≤1099511627776∧P.bytesOf e≤256∧z.cells.length=P.cellsOf e∧0<P.cellsOf e∧(P.cellsOf e=1→z.lone=true)then
    some {val:= .sl k ((h k).ver+1) 0 l.toNat (P.cellsOf e),rd:=[k],wr:=[newOb h k (P.cellsOf e) (List.replicate l.toNat z)]}
   else none
  |none=>none
 |_,_,_=>none
def dQ(b:Option AV)(a:Nat):Option Nat:=
 match b with
 |none=>some a
 |some (.d (.int _ i))=>if 0≤i then some i.toNat else none
 |_=>none
def jI(P:Program)(t:TypeId)(x:AV)(f c i:Option AV):Option Out:=
 match P.underlying t with
 |some (.slice e)=>
  if cR P e=false then none else
  match i with
  |none=>
   match x with
   | .d (.ro l)| .vec _ _ _ l=>
    match dQ f 0,dQ c l.length with
    |some a,some b=>if a≤b∧b≤l.length∧(a=0∨l.all (fun y=>y.cells.length==P.cellsOf e)=true)then some {val:= .d (.ro ((l.take b).drop a))}else none
    |_,_=>none
   | .nils=>
    match dQ f 0,dQ c 0 with
    |some 0,some 0=>some {val:= .nils}
    |_,_=>none
   | .sl k v h g sz=>
    match dQ f 0,dQ c g with
    |some a,some b=>if a=0∧b≤g then some {val:= .sl k v h b sz}else none
    |_,_=>none
   |_=>none
  |some m=>
   if dQ f 0=some 0∧dQ c 0=some 0∧dQ (some m) 0=some 0∧c.isSome=true then
    match x with
    | .d (.ro _)| .vec _ _ _ _| .sl _ _ _ _ _| .nils=>some {val:= .es}
    |_=>none
   else none
 |some .string=>
  match x,i with
  | .d (.str s),none=>
   match dQ f 0,dQ c s.length with
   |some a,some b=>if a≤b∧b≤s.length then some {val:= .d (.str ((s.take b).drop a))}else none
   |_,_=>none
  |_,_=>none
 |_=>none
def dY(P:Program)(src dst:TypeId)(x:AV)(h:aa):Option Out:=
 match P.underlying src,x with
 |some (.slice e), .vec k v 1 (y::l)=>
  if src=dst∧(h k).ver=v then match P.underlying e with
   |some (.int .u8)=>some {val:= .d (.ro (y::l)),rd:=[k],wr:=kill h [k]}
   |_=>none
  else none
 |_,_=>none
def F0:AV→Option Nat
 | .d (.ro l)| .vec _ _ _ l=>some l.length
 | .nils| .es=>some 0
 | .sl _ _ _ a _=>some a
 |_=>none
def F1(P:Program)(t:TypeId)(x:AV):Option Out:=
 match P.underlying t with
 |some (.slice _)=>match F0 x with
  |some n=>some {val:= .d (.int .i64 (n:Int))}
  |none=>none
 |some .string=>match x with
  | .d (.str s)=>some {val:= .d (.int .i64 (s.length:Int))}
  |_=>none
 |_=>none
def m7(c:Bool)(x y:AV):Option Out:=
 match x,y with
 | .d (.int k a), .d (.int _ b)=>some {val:= .d (.int k (if c then (if a<b then b else a)else (if b<a then b else a)))}
 |_,_=>none
def fQ(k:Nat):Nat:=k+4611686018427387904
def bx(b:UInt8):D:= .int .u8 (b.toNat:Int)
def hK(h:aa):AV→Option (List D×List Nat)
 | .d (.str s)=>some (s.map bx,[])
 | .d (.ro l)| .vec _ _ _ l=>some (l,[])
 | .nils| .es=>some ([],[])
 | .sl k v a b _=>
  match (h k).ob with
  |some (.arr _ es)=>if (h k).ver=v∧a+b≤es.length then (view.go 2 h ((es.drop a).take b)).bind fun r=>if r.2=[]then some (r.1,[k])else none else none
  |_=>none
 |_=>none
def bH(P:Program)(obm:Bool)(t:TypeId)(s x:AV)(k:Nat)(h:aa):Option Out:=
 match P.underlying t with
 |some (.slice e)=>
  match hK h x,db P e with
  |some (news,a),some z=>
   if news.all (fun y=>y.cells.length==P.cellsOf e)=true∧0<P.cellsOf e∧P.bytesOf e≤256∧z.cells.size=P.cellsOf e then
    match s with
    | .nils=>
     if k∈a∨549755813888<news.length then none else
     if obm then if P.cellsOf e=1∧news.all D.one=false then none else some {val:= .sl k ((h k).ver+1) 0 news.length (P.cellsOf e),rd:=k::a,wr:=[newOb h k (P.cellsOf e) (news.map .d)]}
     else some {val:= .vec k ((h k).ver+1) (P.cellsOf e) news,rd:=k::a,wr:=[(k,⟨(h k).ver+1,none⟩)]}
    | .es=>
     if k∈a∨549755813888<news.length then none else
     if obm then if P.cellsOf e=1∧news.all D.one=false then none else some {val:= .sl k ((h k).ver+1) 0 news.length (P.cellsOf e),rd:=k::a,wr:=[newOb h k (P.cellsOf e) (news.map .d)]}
     else some {val:= .d (.ro news),rd:=a}
    | .vec k v sz l=>
     if (h k).ver=v∧(h k).ob.isNone=true∧k∉a∧sz=P.cellsOf e∧l.length+news.length≤549755813888 then
      some {val:= .vec k (v+1) sz (l ++news),rd:=k::a,wr:=[(k,⟨v+1,none⟩)]}
     else none
    | .sl k v c b _=>
     match (h k).ob with
     |some (.arr sz es)=>
      if (h k).ver=v∧c=0∧b≤es.length∧sz=P.cellsOf e∧b+news.length≤549755813888∧(sz=1→news.all D.one=true)then
       some {val:= .sl k (v+1) 0 (b+news.length) sz,rd:=k::a,wr:=[(k,⟨v+1,some (.arr sz (es.take b ++news.map .d))⟩)]}
      else none
     |_=>none
    |_=>none
   else none
  |_,_=>none
 |_=>none
def pH(P:Program)(t a:TypeId):Bool:=t==a||match P.underlying a with
 |some .string=>true
 |_=>false
def kg(h:aa)(k v:Nat):Option (TypeId×Option Nat):=match (h (fQ k)).ob with
 |some (.typ a b T n)=>if a=k∧b=v then some (T,n)else none
 |_=>none
def cC(typ:Bool)(T:TypeId)(n:Option Nat)(k v:Nat)(h:aa)(out:Out):Out:=
 if typ=true∧fQ k∉out.wr.map (·.1)then {out with rd:=fQ k::out.rd,wr:=out.wr ++[(fQ k,⟨(h (fQ k)).ver,some (.typ k v T n)⟩)]}else out
def AV.isVec:AV→Bool
 | .vec _ _ _ _=>true
 |_=>false
def kJ(P:Program)(t:TypeId):Bool:=match P.underlying t with
 |some (.slice e)=>match P.underlying e with
  |some (.int .u8)=>true
  |_=>false
 |_=>false
def Rd(P:Program)(t:TypeId):Bool:=match P.info? t with
 |some i=>match i.desc with
  | .named n _=>n== "strings.Builder"
  |_=>false
 |none=>false
def Re(P:Program)(t:TypeId):Bool:=Rd P t||match P.underlying t with
 |some (.struct fs)=>fs.toList.any fun f=>Rd P f.type
 |_=>false
def cN(P:Program)(obm:Bool)(t:TypeId)(s x:AV)(k:Nat)(h:aa):Option Out:=
 match bH P obm t s x k h with
 |some out=>match kJ P t,P.underlying t,out.val with
  |true,some (.slice e), .vec a b _ _=>
   if b=(h a).ver+1∧(s.isVec=false∨kg h a (h a).ver=some (e,none))then some (cC true e none a b h {out with rd:=a::fQ a::out.rd})
   else some {out with rd:=a::fQ a::out.rd}
  |_,_,_=>some out
 |none=>none
def AV.isRef:AV→Bool
 | .sl _ _ _ _ _| .ptr _ _ _ _ _=>true
 |_=>false
theorem AV.isRef_lone{x:AV}(h:x.isRef=true):x.lone=true:=by cases x<;>first|rfl|cases h
theorem F2{x:AV}(c:x.isRef=true){n:Nat}{h:aa}{a:D×List Nat}(b:view n h x=some a):a.2≠[]:=by
 cases n with
 |zero=>simp only[view]at b;cases b
 |succ n=>
  cases x<;>first|(cases c;done)|skip
  all_goals
   simp only[view]at b;split at b
   ·split at b
    ·simp only[xB]at b
     obtain⟨r,_,rfl⟩:=b;simp
    ·cases b
   ·cases b
def ei(P:Program)(t:TypeId)(s x:AV)(h:aa):Option Out:=
 match P.underlying t with
 |some (.slice e)=>match db P e,s,x with
  |some z, .sl k v f a _, .sl d j c b _=>
   match (h k).ob,(h d).ob with
   |some (.arr sz es),some (.arr g [i])=>
    if (h k).ver=v∧f=0∧a≤es.length∧sz=1∧(h d).ver=j∧c=0∧b=1∧g=1∧P.cellsOf e=1∧P.bytesOf e≤256∧z.cells.size=1∧a+1≤549755813888∧i.isRef=true then
     some {val:= .sl k (v+1) 0 (a+1) 1,rd:=[k,d],wr:=[(k,⟨v+1,some (.arr 1 (es.take a ++[i]))⟩)]}
    else none
   |_,_=>none
  |_,_,_=>none
 |_=>none
def gw(P:Program)(t:TypeId)(s x:AV)(k:Nat)(h:aa):Option Out:=
 match P.underlying t with
 |some (.slice e)=>match db P e,s,x with
  |some z, .nils, .sl c g b a _=>
   match (h c).ob with
   |some (.arr d [f])=>
    if (h c).ver=g∧b=0∧a=1∧d=1∧P.cellsOf e=1∧P.bytesOf e≤256∧z.cells.size=1∧f.isRef=true then
     some {val:= .sl k ((h k).ver+1) 0 1 1,rd:=[k,c],wr:=[(k,⟨(h k).ver+1,some (.arr 1 [f])⟩)]}
    else none
   |_=>none
  |_,_,_=>none
 |_=>none
theorem A9{h:aa}{e j i d:Nat}{c:AV}(g:c.isRef=true)(b:(h e).ob=some (.arr d [c])):hK h (.sl e j 0 1 i)=none:=by
 simp only[hK,b];split;case isFalse=>rfl
 show(eD (view 2 h) [c]).bind _=none;simp only[eD];cases f:view 2 h c with
 |none=>rfl
 |some a=>
  have:=F2 g f;simp only[yA,yF];rw[xj this]
theorem iy{P:Program}{obm:Bool}{t:TypeId}{s:AV}{k:Nat}{h:aa}{b f d c:Nat}{g:AV}(i:g.isRef=true)(a:(h b).ob=some (.arr c [g])):cN P obm t s (.sl b f 0 1 d) k h=none:=by
 have e:bH P obm t s (.sl b f 0 1 d) k h=none:=by
  unfold bH;rw[A9 i a];split
  ·rfl
  ·rfl
 unfold cN;rw[e]
def fC(P:Program)(src dst:TypeId)(x:AV)(h:aa):Option Out:=
 match P.underlying src,P.underlying dst,x with
 |some (.pointer t),some .unsafePointer, .ptr k v i a sz=>
  match kg h k v with
  |some (_,some n)=>if (h k).ver=v∧cR P t=true∧P.cellsOf t≠0∧i*sz+a<n then some {val:= .ptr k v i a sz,rd:=[k,fQ k]}else none
  |_=>none
 |some .unsafePointer,some (.pointer u), .ptr k v i a sz=>
  match kg h k v with
  |some (T,some n)=>if (h k).ver=v∧cR P u=true∧liesAt P P.depth T (n/P.cellsOf T) (i*sz+a) u 1=true then some {val:= .ptr k v i a sz,rd:=[k,fQ k]}else none
  |_=>none
 |_,_,_=>none
def qv(P:Program)(src dst:TypeId)(x:AV)(h:aa):Option Out:=
 match kI P src dst x with
 |some out=>some out
 |none=>match ol P src dst x with
  |some v=>some {val:=v}
  |none=>match oj P src dst x with
   |some v=>some {val:=v}
   |none=>match dY P src dst x h with
    |some out=>some out
    |none=>fC P src dst x h
def kK(x:AV):Option AV:=
 match x with
 | .vec k v sz (y::l)=>if sz=1 then some (.vp k v (y::l))else none
 | .nils=>some (.d .nilp)
 |_=>none
def my:List D→Option (List UInt8)
 |[]=>some []
 | .int .u8 n::r=>if n=((UInt8.ofNat n.toNat).toNat:Int)then (my r).map (UInt8.ofNat n.toNat:: ·)else none
 |_::_=>none
def dc(P:Program)(a:TypeId)(x n:AV)(h:aa):Option Out:=
 match P.underlying a,x,n with
 |some (.pointer u), .vp k v l, .d (.int .i64 m)=>
  match kg h k v,my l with
  |some (T,none),some b=>
   if (h k).ver=v∧T=u∧l≠[]∧m=(l.length:Int)∧P.cellsOf u=1∧l.length≤9223372036854775807 then some {val:= .d (.str b),rd:=[k,fQ k],wr:=kill h [k]}else none
  |_,_=>none
 |_,_,_=>none
def kL(P:Program)(t:TypeId)(x:AV):Option AV:=
 match P.underlying t with
 |some (.interface _)=>none
 |some _=>some (.iv t x)
 |none=>none
def qw(P:Program)(a:TypeId)(ok:Bool)(x:AV):Option AV:=
 match P.underlying a,x with
 |some (.interface _),_=>none
 |some _, .iv t y=>
  if t=a then some (if ok=true then .tup [y, .d (.bool true)]else y)
  else if ok=true then (db P a).map fun z=> .tup [J0 z, .d (.bool false)]else none
 |some _, .d .nili=>if ok=true then (db P a).map fun z=> .tup [J0 z, .d (.bool false)]else none
 |_,_=>none
def jo:D→D→Option Bool
 | .int k a, .int c b=>if k=c then some (a==b)else none
 | .str a, .str b=>some (a==b)
 | .agg a, .agg b=>fk a b
 |_,_=>none
def cq(x:D):List (D×D×Nat)→Nat→Option (Option (Nat×D))
 |[],_=>some none
 |e::r,i=>match jo x e.1 with
  |some true=>some (some (i,e.2.1))
  |some false=>cq x r (i+1)
  |none=>none
def eE(x y:D):Nat→List (D×D×Nat)→List (D×D×Nat)
 |_,[]=>[]
 |0,e::r=>(x,y,e.2.2)::r
 |n+1,e::r=>e::eE x y n r
def dF(P:Program):List Field→Nat→List D→Bool
 |[],_,[]=>true
 |f::fs,i, .int k _::xs=>(decide (f.name≠ "_")&&(f.offset==i&&(lU P f.type==some false&&(match P.underlying f.type with
  |some (.int a)=>decide (k=a)
  |_=>false))))&&dF P fs (i+1) xs
 |_,_,_=>false
def jp(P:Program)(t:TypeId)(x:D):Bool:=match P.underlying t,x with
 |some (.int k), .int a _=>decide (k=a)
 |some .string, .str _=>true
 |some (.struct fs), .agg xs=>P.stoodInHeld t==false&&dF P fs.toList 0 xs
 |_,_=>false
def fD(k:Nat)(h:aa):Option Out:=some {val:= .mp k ((h k).ver+1),rd:=[k],wr:=[(k,⟨(h k).ver+1,some (.map [] 0)⟩)]}
def b9(P:Program)(t:TypeId)(m a x:AV)(h:aa):Option Out:=
 match P.underlying t,m,a,x with
 |some (.map kt _), .mp k v, .d kd, .d b=>
  match (h k).ob with
  |some (.map es c)=>
   if (h k).ver=v∧jp P kt kd=true then
    match cq kd es 0 with
    |some (some (i,_))=>some {val:= .junk,rd:=[k],wr:=[(k,⟨v,some (.map (eE kd b i es) c)⟩)]}
    |some none=>some {val:= .junk,rd:=[k],wr:=[(k,⟨v,some (.map (es ++[(kd,b,c)]) (c+1))⟩)]}
    |none=>none
   else none
  |_=>none
 |_,_,_,_=>none
def fc(P:Program)(t:TypeId)(m a:AV)(ok:Bool)(h:aa):Option Out:=
 match P.underlying t,m,a with
 |some (.map kt et), .mp k v, .d kd=>
  match (h k).ob with
  |some (.map es _)=>
   if (h k).ver=v∧jp P kt kd=true then
    match cq kd es 0 with
    |some (some (_,y))=>some {val:=if ok=true then .tup [.d y, .d (.bool true)]else .d y,rd:=[k]}
    |some none=>match db P et with
     |some z=>some {val:=if ok=true then .tup [J0 z, .d (.bool false)]else J0 z,rd:=[k]}
     |none=>none
    |none=>none
   else none
  |_=>none
 |_,_,_=>none
def fX(P:Program)(t:TypeId)(k v:Nat)(h:aa):Option Out:=
 match P.underlying t with
 |some (.map _ _)=>match (h k).ob with
  |some (.map es _)=>if (h k).ver=v then some {val:= .d (.int .i64 (es.length:Int)),rd:=[k]}else none
  |_=>none
 |_=>none
def p5(P:Program)(t:TypeId)(x a:AV):Option AV:=
 match P.underlying t,x,a with
 |some .string, .d (.str s), .d (.int _ i)=>if 0≤i then (s[i.toNat]?).map fun b=> .d (.int .u8 (b.toNat:Int))else none
 |_,_,_=>none
def hA(cfg:hQ)(i f:Nat)(args:List AV)(h:aa):Option Out:=
 match sS args with
 |some ds=>some {val:=kB (cfg.ret i),ob:=[(f,ds,cfg.ret i)]}
 |none=>match view.go 12 h args with
  |some r=>if (cfg.ret i).all D.scal=true then some {val:=kB (cfg.ret i),rd:=r.2,ob:=[(f,r.1,cfg.ret i)]}else none
  |none=>none
def m8(c:UInt8):List UInt8→Nat→Option Nat
 |[],_=>none
 |x::r,i=>if x==c then some i else m8 c r (i+1)
def NU(k:Ez)(ds:List D):Option D:=
 match k,ds with
 | .indexByte,[.str s, .int .u8 c]=>some (.int .i64 (match m8 c.toNat.toUInt8 s 0 with
  |some i=>(i:Int)
  |none=> -1))
 |_,_=>none
def a7(P:Program)(cfg:hQ)(i:Nat)(c:Call)(ρ:Operand→AV)(h:aa)(k:Nat):Option Out:=
 match c.callee with
 | .builtin .len=>match c.args.toList,c.argTypes.toList with
  |[x],[t]=>match ρ x with
   | .mp k v=>fX P t k v h
   |_=>F1 P t (ρ x)
  |_,_=>none
 | .builtin .min=>match c.args.toList with
  |[x,y]=>m7 false (ρ x) (ρ y)
  |_=>none
 | .builtin .max=>match c.args.toList with
  |[x,y]=>m7 true (ρ x) (ρ y)
  |_=>none
 | .builtin .append=>match c.args.toList,c.argTypes.toList with
  |[s,x],[t,b]=>if pH P t b=true then (match cN P (cfg.obm i) t (ρ s) (ρ x) k h with
   |some out=>some out
   |none=>match ei P t (ρ s) (ρ x) h with
    |some out=>some out
    |none=>gw P t (ρ s) (ρ x) k h)else none
  |_,_=>none
 | .builtin .unsafeSliceData=>match c.args.toList with
  |[x]=>(kK (ρ x)).map fun v=>{val:=v}
  |_=>none
 | .builtin .unsafeString=>match c.args.toList,c.argTypes.toList with
  |[x,n],[e,_]=>dc P e (ρ x) (ρ n) h
  |_,_=>none
 | .value f=>match ρ f with
  | .fn g a=>match aG.ext g with
   |some .same=>match c.args.toList.map ρ ++a with
    |[x]=>some {val:=x}
    |_=>none
   |some k=>match sS (c.args.toList.map ρ ++a)with
    |some ds=>(NU k ds).map fun d=>{val:= .d d}
    |none=>none
   |none=>hA cfg i g (c.args.toList.map ρ ++a) h
  |_=>none
 |_=>none
def bU(P:Program)(cfg:hQ)(i:Nat)(o:Oper)(ρ:Operand→AV)(h:aa):Option Out:=
 match o.op with
 | .move x| .assign x=>some {val:=ρ x}
 | .pick c a b=>match ρ c with
  | .d (.bool t)=>some {val:=if t=true then ρ a else ρ b}
  |_=>none
 | .alloc t=>(fW P t (cfg.base i+o.dst.getD 0) h).map (cC (Re P t) t ((mu P t).map List.length) (cfg.base i+o.dst.getD 0) ((h (cfg.base i+o.dst.getD 0)).ver+1) h)
 | .box t x=>(kC (ρ x) (cfg.base i+o.dst.getD 0) h).map (cC (Re P t) t (some (ρ x).cells.length) (cfg.base i+o.dst.getD 0) ((h (cfg.base i+o.dst.getD 0)).ver+1) h)
 | .makeInterface t x=>(kL P t (ρ x)).map fun v=>{val:=v}
 | .typeAssert x _ t ok=>(qw P t ok (ρ x)).map fun v=>{val:=v}
 | .build t e=>uB P t ((e.toList.map fun p=>(p.1,ρ p.2)).map fun p=>(p.1,frz p.2))
 | .buildSlice t r e=>eN P (cfg.obm i) t r (e.toList.map fun p=>(p.1,ρ p.2)) (cfg.base i+o.dst.getD 0) h
 | .load t a=>gu P t (ρ a) h
 | .store t a x=>eM P t (ρ a) (ρ x) h
 | .nilCheck x=>match ρ x with
  | .ptr k v j q sz=>some {val:= .ptr k v j q sz}
  | .d (.rp cs)=>some {val:= .d (.rp cs)}
  |_=>none
 | .binOp op t x y _=>match CM op (ρ x) (ρ y)with
  |some v=>some {val:=v}
  |none=>match op with
   | .eql=>(CN P t x y (ρ x) (ρ y)).map fun b=>{val:= .d (.bool b)}
   | .neq=>(CN P t x y (ρ x) (ρ y)).map fun b=>{val:= .d (.bool (!b))}
   |_=>none
 | .unOp op _ x=>(NT op (ρ x)).map fun v=>{val:=v}
 | .convert src dst x=>qv P src dst (ρ x) h
 | .makeFunc (.func f) first n=>if first.isEmpty then some {val:= .fn f (n.toList.map ρ)}else none
 | .makeSlice t l c=>dm P t (ρ l) (ρ c) (cfg.base i+o.dst.getD 0) h
 | .slice t x u s w=>jI P t (ρ x) (u.map ρ) (s.map ρ) (w.map ρ)
 | .fieldAddr t x f=>kH P t (ρ x) f h
 | .field t x f=>uC P t (ρ x) f
 | .indexAddr t x g=>fy P t (ρ x) (ρ g) h
 | .makeMap _ none=>fD (cfg.base i+o.dst.getD 0) h
 | .mapUpdate t m k x| .insert t m k x=>b9 P t (ρ m) (ρ k) (ρ x) h
 | .lookup t m k ok=>fc P t (ρ m) (ρ k) ok h
 | .index t x g=>(p5 P t (ρ x) (ρ g)).map fun v=>{val:=v}
 | .extract t g=>match ρ t with
  | .tup vs=>(vs[g]?).map fun v=>{val:=v}
  |_=>none
 | .call c=>a7 P cfg i c ρ h (cfg.base i+o.dst.getD 0)
 |_=>none
structure St where
 env:Nat→AV
 heap:aa
def ap(h:aa):List (Nat×aK)→aa
 |[]=>h
 |(k,e)::r=>ap (aJ h k e) r
def jJ(a:List Nat)(b:aa):List (Nat×aK):=a.map fun k=>(k,b k)
def ag:List (Nat×aK)→aa→aa
 |[],h=>h
 |(k,e)::r,h=>aJ (ag r h) k e
def lV(h:aa)(l:List (Nat×aK)):Prop:=∀p∈l,p.2.ver=(h p.1).ver∧(p.2.ob=none∨p.2.ob=(h p.1).ob)
def eO(N:Nat)(env:Nat→AV)(dst:Option Nat)(x:AV):Option (Nat→AV):=
 match dst with
 |some d=>if d<N then some (aJ env d x)else none
 |none=>some env
structure Foot where
 i:Nat
 rd:List Nat
 wr:List Nat
 all:Bool
def er(c:Array Oper)(o:Oper)(env:Nat→AV):Option Bool:=
 match o.guard with
 |none=>some true
 |some (j,a)=>match (c[j]?).bind (·.dst)with
  |some t=>match env t with
   | .d (.bool b)=>some (b==a)
   | .tup []=>some false
   |_=>none
  |none=>none
def iV:List AV→AV
 |[x]=>x
 |l=> .tup l
def dZ(o:Oper)(env:Nat→AV):Option (Nat×List AV):=
 match o.op with
 | .call c=>match c.callee with
  | .value f=>match opd env f with
   | .fn g a=>some (g,c.args.toList.map (opd env) ++a)
   |_=>none
  |_=>none
 |_=>none
def pb(o:Oper)(env:Nat→AV):Option (Nat×Nat×List AV):=
 match o.op with
 | .call c=>match c.callee with
  | .value f=>match opd env f with
   | .yld k v=>some (k,v,c.args.toList.map (opd env))
   |_=>none
  |_=>none
 |_=>none
open Classical in
noncomputable def cd(P:Program)(cfg:hQ)(N:Nat)(d:Array Oper)(i:Nat)(o:Oper)(S:St):Option (St×List Obl×Foot):=
 match er d o S.env with
 |some true=>
  match cfg.hc i with
  |some (.heap c h' tk)=>if (∀k,k∉tk→h' k=S.heap k)then match dZ o S.env with
   |some (g,args)=>(eO N S.env o.dst (iV c)).map fun env=>(⟨env,h'⟩,[.heap g args S.heap c h'],⟨i,[],tk,true⟩)
   |none=>match pb o S.env with
    |some (k,v,args)=>(eO N S.env o.dst (iV c)).map fun env=>(⟨env,h'⟩,[.yield k v args S.heap c h'],⟨i,[],tk,true⟩)
    |none=>none
   else none
  |some (.frame b c a)=>match dZ o S.env with
   |some (g,args)=>if lV S.heap b then (eO N S.env o.dst (iV c)).map fun env=>(⟨env,ap S.heap a.reverse⟩,[.frame g args b c a],⟨i,b.map (·.1),a.reverse.map (·.1),false⟩)else none
   |none=>none
  |some (.exact b f c a e)=>match dZ o S.env with
   |some (g,args)=>if (∀k∈b,S.heap k=f k)then (eO N S.env o.dst (iV c)).map fun env=>(⟨env,ap S.heap (jJ a e)⟩,[.exact g args b f c a e],⟨i,b,a,false⟩)else none
   |none=>none
  |none=>
  match bU P cfg i o (opd S.env) S.heap with
  |some out=>(eO N S.env o.dst out.val).map fun env=>(⟨env,ap S.heap out.wr⟩,out.ob.map .data,⟨i,out.rd,out.wr.map (·.1),false⟩)
  |none=>none
 |some false=>(eO N S.env o.dst (.tup [])).map fun env=>(⟨env,S.heap⟩,[],⟨i,[],[],false⟩)
 |none=>none
noncomputable def em(P:Program)(cfg:hQ)(N:Nat)(c:Array Oper):List Nat→St→Option (St×List Obl×List Foot)
 |[],S=>some (S,[],[])
 |i::r,S=>
  match c[i]? with
  |none=>none
  |some o=>match cd P cfg N c i o S with
   |none=>none
   |some a=>match em P cfg N c r a.1 with
    |none=>none
    |some b=>some (b.1,a.2.1 ++b.2.1,a.2.2::b.2.2)
end Go.Avm
namespace Go.Avm
open Go.RowKit
variable[aG]
section
variable{G:Gh}{B:Nat}{w0 w:World}{I0:Nat→Nat→Prop}{h:aa}
theorem cI{w:World}{o:Obj}{b i:Nat}(a:b<w.heap.size):(w.alloc o).cell? ⟨b,i,none⟩=w.cell? ⟨b,i,none⟩:=World.cell?_alloc_lt w o ⟨b,i,none⟩ a
theorem kM{w:World}{c:Array Value}{e:TypeId}{i:Nat}:(w.alloc (.cells c e)).cell? ⟨w.heap.size,i,none⟩=c[i]? :=by simp
theorem dw{w:World}{o:Obj}{b:Nat}(a:b<w.heap.size):(w.alloc o).heap[b]? =w.heap[b]? :=Below.heap_alloc w o b a
theorem jK(w:World)(o':Obj):∀(b:Nat)(o:Obj),mt o=true→w.heap[b]? =some o→∃a,(w.alloc o').heap[b]? =some a∧jb o a:=fun b o _ x=>⟨o,by
 rw[dw (xQ.1 x).1];exact x,eC o⟩
theorem ej{w a:World}(h:a.heap=w.heap):∀(b:Nat)(o:Obj),mt o=true→w.heap[b]? =some o→∃c,a.heap[b]? =some c∧jb o c:=fun b o _ x=>⟨o,by rw[h];exact x,eC o⟩
def Gh.at(G:Gh)(k v:Nat)(L:sQ):Gh:={G with loc:=fun a b=>if a=k∧b=v then some L else G.loc a b,lim:=aJ G.lim k v}
def Gh.more(G:Gh)(p:Nat→Nat→Prop):Gh:={G with imm:=fun b o=>G.imm b o∨p b o}
theorem Gh.at_same(G:Gh)(k v:Nat)(L:sQ):(G.at k v L).loc k v=some L:=by simp[Gh.at]
theorem Gh.at_ne(G:Gh){k v a b:Nat}(L:sQ)(c:¬(a=k∧b=v)):(G.at k v L).loc a b=G.loc a b:=by simp[Gh.at,c]
theorem Ext.at{k v:Nat}{L:sQ}(e:G.loc k v=none)(i:G.lim k<v)(w:World):Ext G w (G.at k v L) w:=
 ⟨fun _ _ x=>x,fun a c g x=>by
  by_cases d:a=k∧c=v
  ·obtain⟨rfl,rfl⟩:=d;rw[e]at x;cases x
  ·rw[Gh.at_ne _ _ d];exact x,fun _ _ _=>rfl,xS _,fun a=>by
  by_cases b:a=k
  ·subst b;show _≤aJ G.lim a v a;rw[ad];omega
  ·show _≤aJ G.lim k v a;rw[ae _ _ b];exact xS _,fun a c f x=>by
  rw[Gh.at_ne _ _ (by rintro⟨rfl,rfl⟩;omega)];exact x,fun _ _ _ x=>x,ej rfl⟩
theorem Ext.more(G:Gh)(p:Nat→Nat→Prop)(w:World):Ext G w (G.more p) w:=⟨fun _ _ x=> .inl x,fun _ _ _ x=>x,fun _ _ _=>rfl,xS _,fun _=>xS _,fun _ _ _ x=>x,fun _ _ _ x=>x,ej rfl⟩
theorem ObRep.mono{m:Gh}{i:World}{k a:Nat}{ob:Ob}(f:ObRep G w k a ob)(v:a≤G.lim k)(e:Ext G w m i)
    (A:∀L,G.loc k a=some L→∀t,i.cell? ⟨L.b,t,none⟩=w.cell? ⟨L.b,t,none⟩):ObRep m i k a ob:=by
 cases ob with
 |arr sz es=>
  rcases f with ⟨f,x⟩|⟨L,d,s,h2,z,q,r,D⟩
  ·exact .inl ⟨f,e.nloc _ _ v x⟩
  ·refine .inr ⟨L,e.loc _ _ _ d,s,h2,z,q,r,fun t c C=> ?_⟩
   obtain⟨u,y,j,l⟩:=D t c C;exact⟨u,(A L d t).trans y,j,l.mono e⟩
 |map es c=>trivial
 |lp _ _ _ _ _ _ _=>trivial
 |itr _ _ _ _=>trivial
 |typ o p T n=>
  refine⟨yX f.1 (e.lim o),fun L d=> ?_⟩;cases g:G.loc o p with
  |none=>rw[e.nloc _ _ f.1 g]at d;cases d
  |some L=>
   rw[e.loc _ _ _ g]at d;cases d;exact f.2 L g
theorem jL(w:World)(o:Obj):∀(b:Nat) o',m5 o'=true→w.heap[b]? =some o'→(w.alloc o).heap[b]? =some o':=fun _ _ _ a=>(dw (xQ.1 a).1).trans a
theorem kN{w:World}{d:Nat}{arr arr':Array Value}{e:TypeId}{fz:Nat×Nat}(g:w.heap[d]? =some (.cells arr e fz)):∀(b:Nat)(o:Obj),mt o=true→w.heap[b]? =some o→∃c,(w.setRow d arr').heap[b]? =some c∧jb o c:=fun b o f a=>
 ⟨o,(setRow_other w _ _ _ (by rintro rfl;rw[g]at a;cases a;cases f)).trans a,eC o⟩
theorem kO(w:World){c:Nat}{arr arr':Array Value}{e:TypeId}{fz:Nat×Nat}(d:w.heap[c]? =some (.cells arr e fz)):∀(b:Nat) o,m5 o=true→w.heap[b]? =some o→(w.setRow c arr').heap[b]? =some o:=fun b o f a=>
 (setRow_other w _ _ _ (by rintro rfl;rw[d]at a;cases a;cases f)).trans a
theorem MR.set{f:Gh}{c:World}(hm:MR G B h w)(e:Ext G w f c)(m:f.mloc=G.mloc)(l:∀(b:Nat) o,m5 o=true→w.heap[b]? =some o→c.heap[b]? =some o){k v:Nat}{ob:Option Ob}(j:(h k).ver≤v)(d:∀o:Ob,o.flex=false→ob≠some o):
    MR f B (aJ h k ⟨v,ob⟩) c:=by
 refine hm.step e m l (fun g=> ?_) (fun g o n i=> ?_)
 ·by_cases a:g=k
  ·subst a;rw[ad];exact j
  ·rw[ae _ _ a];exact xS _
 ·by_cases a:g=k
  ·subst a;rw[ad]at i;exact absurd i (d o n)
  ·exact ae _ _ a
theorem HR.le(a:HR G B w0 I0 h w)(k:Nat):(h k).ver≤G.lim k:=by rw[a.lim];exact xS _
theorem HR.none_next(b:HR G B w0 I0 h w)(k:Nat):G.loc k ((h k).ver+1)=none:=by
 cases a:G.loc k ((h k).ver+1)with
 |none=>rfl
 |some L=>have:=b.fresh _ _ _ a;omega
theorem HR.drew(a:HR G B w0 I0 h w):HR G B w0 I0 h w.drew:=by
 refine⟨a.below.drew,a.bsz,a.immlt,a.i0,a.immlow,a.fresh,a.own,a.dis,fun k ob b=>(a.objs k ob b).mono (a.le k) ⟨fun _ _ x=>x,fun _ _ _ x=>x,fun _ _ _=>rfl,xS _,fun _=>xS _,fun _ _ _ x=>x,fun _ _ _ x=>x,ej rfl⟩ (fun _ _ _=>rfl),a.lim,a.maps.step ⟨fun _ _ x=>x,fun _ _ _ x=>x,fun _ _ _=>rfl,xS _,fun _=>xS _,fun _ _ _ x=>x,fun _ _ _ x=>x,ej rfl⟩ rfl (fun _ _ _ x=>x) (fun _=>xS _) (fun _ _ _ _=>rfl)⟩
theorem Ext.drew(G:Gh)(w:World):Ext G w G w.drew:=⟨fun _ _ x=>x,fun _ _ _ x=>x,fun _ _ _=>rfl,xS _,fun _=>xS _,fun _ _ _ x=>x,fun _ _ _ x=>x,ej rfl⟩
theorem Ext.alloc(c:HR G B w0 I0 h w)(o:Obj):Ext G w G (w.alloc o):=
 ⟨fun _ _ x=>x,fun _ _ _ x=>x,fun b i a=>cI (c.immlt b i a),by simp,fun _=>xS _,fun _ _ _ x=>x,fun _ _ _ x=>x,jK w _⟩
def qx(G:Gh)(h:aa)(ks:List Nat):Nat→Nat→Prop:=fun b _=>∃k∈ks,∃L,G.loc k (h k).ver=some L∧L.b=b
theorem bz(h b:aa):∀(ks:List Nat)(k:Nat),ap b (kill h ks) k=if k∈ks then ⟨(h k).ver+1,none⟩else b k:=by
 intro ks;induction ks generalizing b with
 |nil=>intro k;simp[kill,ap]
 |cons a r e=>
  intro k;simp only[kill,xN,ap];have:=e (aJ b a ⟨(h a).ver+1,none⟩) k;simp only[kill]at this;rw[this];by_cases c:k∈r
  ·simp[c]
  ·by_cases d:k=a
   ·subst d;simp[aJ]
   ·simp[c,d,aJ]
def Gh.froz(G:Gh)(h:aa)(ks:List Nat):Gh:={G.more (qx G h ks)with lim:=fun k=>if k∈ks then G.lim k+1 else G.lim k}
theorem Ext.froz(a:HR G B w0 I0 h w)(ks:List Nat):Ext G w (G.froz h ks) w:=
 ⟨fun _ _ x=> .inl x,fun _ _ _ x=>x,fun _ _ _=>rfl,xS _,fun k=>by show _≤if k∈ks then _ else _;split<;>omega,fun _ _ _ x=>x,fun _ _ _ x=>x,ej rfl⟩
theorem HR.kill(a:HR G B w0 I0 h w)(ks:List Nat):HR (G.froz h ks) B w0 I0 (ap h (kill h ks)) w:=by
 have j:=bz h h ks
 refine⟨a.below,a.bsz, ?_,fun b o x=> .inl (a.i0 b o x), ?_, ?_, ?_, ?_, ?_,fun k=>by rw[j];show(if k∈ks then _ else _)=_;split<;>simp[a.lim],a.maps.step (Ext.froz a ks) rfl (fun _ _ _ x=>x) (fun k=>by rw[j];split<;>simp) (fun k es c i=>by
  rw[j]at i ⊢;split at i
  ·cases i
  ·rename_i f;rw[xj f])⟩
 ·rintro b o (x|⟨k,_,L,d,rfl⟩)
  ·exact a.immlt b o x
  ·exact a.blt d
 ·rintro b o (x|⟨k,_,L,d,rfl⟩) l
  ·exact a.immlow b o x l
  ·have:=(a.own k L d).1;omega
 ·intro k v L d
  have:=a.fresh k v L d;rw[j];split<;>simp_all;omega
 ·intro k L d
  rw[j]at d;by_cases f:k∈ks
  ·simp only[f,yS]at d
   have:=a.fresh k _ L d;omega
  ·simp only[f,zS]at d
   obtain⟨p,h2,q⟩:=a.own k L d;refine⟨p,h2, ?_⟩;rintro o (x|⟨m,g,n,e,l⟩)
   ·exact q o x
   ·have:=a.dis k m L n d e l.symm
    subst this;exact absurd g f
 ·intro k m L n d e l
  rw[j]at d e;by_cases f:k∈ks
  ·simp only[f,yS]at d
   have:=a.fresh k _ L d;omega
  ·by_cases g:m∈ks
   ·simp only[g,yS]at e
    have:=a.fresh m _ n e;omega
   ·simp only[f,g,zS]at d e
    exact a.dis k m L n d e l
 ·intro k ob i
  rw[j]at i ⊢;by_cases f:k∈ks
  ·simp[f]at i
  ·simp only[f,zS]at i ⊢
   exact(a.objs k ob i).mono (a.le k) (Ext.froz a ks) (fun _ _ _=>rfl)
theorem HR.newOb(a:HR G B w0 I0 h w)(k sz cap:Nat)(es:List AV)(arr:Array Value)(e:TypeId)(R:arr.size=cap*sz)(q:es.length≤cap)(C:∀x∈es,x.cells.length=sz)(z:sz=1→∀x∈es,x.lone=true)
    (U:∀(t:Nat)(c:AV),(AV.flat es)[t]? =some c→∃u:Value,arr[t]? =some u∧u.oneCell'=true∧Rep G w c u):
    HR (G.at k ((h k).ver+1) ⟨w.heap.size,sz,cap,0,e⟩) B w0 I0 (aJ h k ⟨(h k).ver+1,some (.arr sz es)⟩) (w.alloc (.cells arr e))∧
    Ext G w (G.at k ((h k).ver+1) ⟨w.heap.size,sz,cap,0,e⟩) (w.alloc (.cells arr e)):=by
 have F:=a.none_next k;have n:G.lim k<(h k).ver+1:=by rw[a.lim];omega
 have hex:Ext G w (G.at k ((h k).ver+1) ⟨w.heap.size,sz,cap,0,e⟩) (w.alloc (.cells arr e)):=
  ⟨fun _ _ x=>x,(Ext.at F n w).loc,fun b i r=>cI (a.immlt b i r),by simp,(Ext.at F n w).lim,(Ext.at F n w).nloc,fun _ _ _ x=>x,jK w _⟩
 have p:∀d m,(G.at k ((h k).ver+1) ⟨w.heap.size,sz,cap,0,e⟩).loc d (aJ h k ⟨(h k).ver+1,some (.arr sz es)⟩ d).ver=some m→
     (d=k∧m=⟨w.heap.size,sz,cap,0,e⟩)∨(d≠k∧G.loc d (h d).ver=some m):=by
  intro d m g;by_cases f:d=k
  ·subst f
   rw[ad,Gh.at_same]at g;exact .inl ⟨rfl,(Option.some.inj g).symm⟩
  ·rw[ae _ _ f,Gh.at_ne _ _ (by simp[f])]at g
   exact .inr ⟨f,g⟩
 refine⟨⟨a.below.alloc a.bsz _,by have:=a.bsz;simp;omega,fun b o x=>by have:=a.immlt b o x;simp;omega,a.i0,a.immlow, ?_, ?_, ?_, ?_,fun d=>by
  by_cases f:d=k
  ·subst f;rw[ad];exact ad _ _ _
  ·rw[ae _ _ f];exact(ae _ _ f).trans (a.lim d),a.maps.set hex rfl (jL w _) (by omega) (by first|exact jn|exact kz)⟩,hex⟩
 ·intro d v L g
  by_cases f:d=k∧v=(h k).ver+1
  ·obtain⟨rfl,rfl⟩:=f;simp[aJ]
  ·rw[Gh.at_ne _ _ f]at g
   have:=a.fresh d v L g;by_cases s:d=k
   ·subst s;rw[ad];show v≤_+1;omega
   ·rw[ae _ _ s];exact this
 ·intro d m g
  rcases p d m g with ⟨rfl,rfl⟩|⟨f,g⟩
  ·exact⟨a.bsz,⟨arr,e,heap_alloc_new w _,R,rfl⟩,fun o x=>absurd (a.immlt _ o x) (by simp)⟩
  ·obtain⟨Q,⟨arr',N,h2,T⟩,O⟩:=a.own d m g
   exact⟨Q,⟨arr',N,(dw (a.blt g)).trans h2,T⟩,O⟩
 ·intro M K I J j l r
  rcases p M I j with ⟨rfl,rfl⟩|⟨V,j⟩<;>rcases p K J l with ⟨E,H⟩|⟨P,l⟩
  ·exact E.symm
  ·have:=a.blt l;rw[←r]at this;simp at this
  ·subst H;have:=a.blt j;rw[r]at this;simp at this
  ·exact a.dis M K I J j l r
 ·intro d ob y
  by_cases f:d=k
  ·subst f
   rw[ad]at y ⊢;simp only[xA]at y;subst y;refine .inr ⟨_,Gh.at_same _ _ _ _,rfl,rfl,q,C,z,fun t c W=> ?_⟩;obtain⟨u,S,A,D⟩:=U t c W;exact⟨u,by rw[kM];exact S,A,D.mono hex⟩
  ·rw[ae _ _ f]at y ⊢
   exact(a.objs d ob y).mono (a.le d) hex (fun L g t=>cI (a.blt g))
theorem HR.newVecT(d:HR G B w0 I0 h w)(k sz cap:Nat)(l:List D)(arr:Array Value)(e:TypeId)(Z:arr.size=cap*sz)(s:l.length≤cap)(A:∀x∈l,x.cells.length=sz)
    (hc:∀(t:Nat)(c:D),(D.flat l)[t]? =some c→∃u:Value,arr[t]? =some u∧c.one=true∧DRep G.imm w c u):
    ∃j,HR j B w0 I0 (aJ h k ⟨(h k).ver+1,none⟩) (w.alloc (.cells arr e))∧Ext G w j (w.alloc (.cells arr e))∧
     Rep j (w.alloc (.cells arr e)) (.vec k ((h k).ver+1) sz l) (.slice (some ⟨w.heap.size,0,none⟩) l.length cap)∧
     ∀L,j.loc k ((h k).ver+1)=some L→L.ty=e:=by
 have K:=d.none_next k;have y:G.lim k<(h k).ver+1:=by rw[d.lim];omega
 have Y:(D.flat l).length=l.length*sz:=cH _ sz l A
 let L:sQ:=⟨w.heap.size,sz,cap,l.length*sz,e⟩
 let j:Gh:=(G.at k ((h k).ver+1) L).more (fun b o=>b=w.heap.size∧o<l.length*sz)
 have hex:Ext G w j (w.alloc (.cells arr e)):=
  ⟨fun _ _ x=> .inl x,(Ext.at (L:=L) K y w).loc,fun b i z=>cI (d.immlt b i z),by simp,(Ext.at (L:=L) K y w).lim,(Ext.at (L:=L) K y w).nloc,fun _ _ _ x=>x,jK w _⟩
 have n:j.loc k ((h k).ver+1)=some L:=Gh.at_same _ _ _ _
 have C:∀a m,j.loc a (aJ h k ⟨(h k).ver+1,none⟩ a).ver=some m→(a=k∧m=L)∨(a≠k∧G.loc a (h a).ver=some m):=by
  intro a m n;by_cases g:a=k
  ·subst g
   rw[ad]at n;rw[show j.loc a ((h a).ver+1)=some L from Gh.at_same _ _ _ _]at n;exact .inl ⟨rfl,(Option.some.inj n).symm⟩
  ·rw[ae _ _ g]at n
   exact .inr ⟨g,by rw[←Gh.at_ne G L (k:=k) (v:=(h k).ver+1) (by simp[g])];exact n⟩
 have E:∃U:Nat→Value,∀t c,(D.flat l)[t]? =some c→arr[t]? =some (U t)∧c.one=true∧DRep G.imm w c (U t):=by
  refine⟨fun t=>arr.getD t undef,fun t c r=> ?_⟩;obtain⟨u,O,J,h2⟩:=hc t c r;have N:arr.getD t undef=u:=by simp[xq,O]
  exact⟨O.trans (congrArg some N.symm),J,by simpa only[N]using h2⟩
 obtain⟨U,E⟩:=E
 refine⟨j,⟨d.below.alloc d.bsz _,by have:=d.bsz;simp;omega, ?_,fun b o x=> .inl (d.i0 b o x), ?_, ?_, ?_, ?_, ?_,fun a=>by
  by_cases g:a=k
  ·subst g;rw[ad];exact ad _ _ _
  ·rw[ae _ _ g];exact(ae _ _ g).trans (d.lim a),d.maps.set hex rfl (jL w _) (by omega) (by first|exact jn|exact kz)⟩,hex, ?_,fun m f=>by rw[n]at f;cases f;rfl⟩
 ·rintro b o (x|⟨rfl,_⟩)
  ·have:=d.immlt b o x;simp;omega
  ·simp
 ·rintro b o (x|⟨rfl,_⟩) z
  ·exact d.immlow b o x z
  ·have:=d.bsz;omega
 ·intro a v m f
  by_cases g:a=k∧v=(h k).ver+1
  ·obtain⟨rfl,rfl⟩:=g;simp[aJ]
  ·rw[show j.loc a v=G.loc a v from Gh.at_ne _ _ g]at f
   have:=d.fresh a v m f;by_cases F:a=k
   ·subst F;rw[ad];show v≤_+1;omega
   ·rw[ae _ _ F];exact this
 ·intro a m f
  rcases C a m f with ⟨rfl,rfl⟩|⟨g,f⟩
  ·refine⟨d.bsz,⟨arr,e,heap_alloc_new w _,Z,rfl⟩, ?_⟩
   rintro o (x|⟨_,x⟩)
   ·exact absurd (d.immlt _ o x) (by simp[L])
   ·exact x
  ·obtain⟨J,⟨arr',T,h2,h3⟩,V⟩:=d.own a m f
   refine⟨J,⟨arr',T,(dw (d.blt f)).trans h2,h3⟩, ?_⟩;rintro o (x|⟨x,_⟩)
   ·exact V o x
   ·have:=d.blt f;omega
 ·intro S R P Q p q z
  rcases C S P p with ⟨rfl,rfl⟩|⟨hk1,p⟩<;>rcases C R Q q with ⟨I,M⟩|⟨W,q⟩
  ·exact I.symm
  ·have:=d.blt q;rw[←z]at this;simp[L]at this
  ·subst M;have:=d.blt p;rw[z]at this;simp[L]at this
  ·exact d.dis S R P Q p q z
 ·intro a ob H
  by_cases g:a=k
  ·subst g;rw[ad]at H;cases H
  ·rw[ae _ _ g]at H ⊢
   exact(d.objs a ob H).mono (d.le a) hex (fun L n t=>cI (d.blt n))
 ·refine Rep.vec k ((h k).ver+1) l L n rfl s A (.ro l _ 0 cap sz U s A (fun x X=> ?_) ?_ ?_ ?_)
  ·obtain⟨t,r⟩:=xf X
   exact(E t x r).2.1
  ·intro t c r
   have:t<(D.flat l).length:=(xE.1 r).1;exact .inr ⟨rfl,by omega⟩
  ·intro t c r
   rw[xb,kM];exact(E t c r).1
  ·intro t c r
   exact(E t c r).2.2.mono hex.imm hex.cell
theorem HR.store(d:HR G B w0 I0 h w){k sz:Nat}{es es':List AV}{L:sQ}(ho:(h k).ob=some (.arr sz es))(p:G.loc k (h k).ver=some L)(y:L.sz=sz)(F:L.fr=0)
    {arr arr':Array Value} {e:TypeId} (q:w.heap[L.b]? =some (.cells arr e (0,0))) (Q:arr'.size=arr.size) (n:es'.length≤L.cap) (A:∀x∈es',x.cells.length=sz) (s:sz=1→∀x∈es',x.lone=true)
    (T:∀(t:Nat)(c:AV),(AV.flat es')[t]? =some c→∃u:Value,arr'[t]? =some u∧u.oneCell'=true∧Rep G w c u):
    HR G B w0 I0 (aJ h k ⟨(h k).ver,some (.arr sz es')⟩) (w.setRow L.b arr')∧Ext G w G (w.setRow L.b arr'):=by
 obtain⟨hB,⟨K,e0,m,r⟩,P⟩:=d.own k L p;rw[q]at m;simp only[xA,Obj.cells.injEq]at m;obtain⟨rfl,rfl,_⟩:=m
 have E:∀b o,G.imm b o→b≠L.b:=by
  rintro b o x rfl;have:=P o x;omega
 have hex:Ext G w G (w.setRow L.b arr'):=⟨fun _ _ x=>x,fun _ _ _ x=>x,fun b i x=>cell_setRow_other w L.b arr' ⟨b,i,none⟩ (E b i x),by simp,fun _=>xS _,fun _ _ _ x=>x,fun _ _ _ x=>x,kN q⟩
 have f:∀a,(aJ h k ⟨(h k).ver,some (.arr sz es')⟩ a).ver=(h a).ver:=by
  intro a;by_cases j:a=k
  ·subst j;rw[ad]
  ·rw[ae _ _ j]
 refine⟨⟨below_setRow d.below hB _,by simpa using d.bsz,fun b o x=>by simpa using d.immlt b o x,d.i0,d.immlow, ?_, ?_, ?_, ?_,fun a=>by rw[f];exact d.lim a,d.maps.set hex rfl (kO w q) (xS _) (by first|exact jn|exact kz)⟩,hex⟩
 ·intro a v l x;rw[f];exact d.fresh a v l x
 ·intro a l x
  rw[f]at x;obtain⟨N,⟨V,O,h2,S⟩,I⟩:=d.own a l x;by_cases j:l.b=L.b
  ·have:=d.dis a k l L x p j
   subst this;rw[p]at x;simp only[xA]at x;subst x;exact⟨N,⟨arr',e,setRow_heap w _ _ _ _ _ q,by rw[Q];exact r⟩,I⟩
  ·exact⟨N,⟨V,O,by rw[setRow_other w _ _ _ j];exact h2,S⟩,I⟩
 ·intro Z X U W M J;rw[f]at M J;exact d.dis Z X U W M J
 ·intro a ob g
  by_cases j:a=k
  ·subst j
   rw[ad]at g ⊢;simp only[xA]at g;subst g;refine .inr ⟨L,p,y,F,n,A,s,fun t c Y=> ?_⟩;obtain⟨u,R,z,C⟩:=T t c Y;exact⟨u,by rw[cell_setRow_same w L.b t _ _ _ _ q];exact R,z,C.mono hex⟩
  ·rw[ae _ _ j]at g ⊢
   refine(d.objs a ob g).mono (d.le a) hex (fun l D t=>cell_setRow_other w L.b arr' ⟨l.b,t,none⟩ (fun H=>j (d.dis a k l L D p H)))
theorem HR.regrow(f:HR G B w0 I0 h w){k sz:Nat}{es':List AV}{L:sQ}(r:G.loc k (h k).ver=some L)(C:L.sz=sz)(J:L.fr=0)
    {arr arr':Array Value} {e:TypeId} (s:w.heap[L.b]? =some (.cells arr e (0,0))) (T:arr'.size=arr.size) (q:es'.length≤L.cap) (E:∀x∈es',x.cells.length=sz) (A:sz=1→∀x∈es',x.lone=true)
    (W:∀(t:Nat)(c:AV),(AV.flat es')[t]? =some c→∃u:Value,arr'[t]? =some u∧u.oneCell'=true∧Rep G w c u):
    HR (G.at k ((h k).ver+1) L) B w0 I0 (aJ h k ⟨(h k).ver+1,some (.arr sz es')⟩) (w.setRow L.b arr')∧Ext G w (G.at k ((h k).ver+1) L) (w.setRow L.b arr'):=by
 obtain⟨hB,⟨N,e0,m,z⟩,S⟩:=f.own k L r;rw[s]at m;simp only[xA,Obj.cells.injEq]at m;obtain⟨rfl,rfl,_⟩:=m;have H:=f.none_next k;have n:G.lim k<(h k).ver+1:=by rw[f.lim];omega
 have I:∀b o,G.imm b o→b≠L.b:=by
  rintro b o x rfl;have:=S o x;omega
 have hex:Ext G w (G.at k ((h k).ver+1) L) (w.setRow L.b arr'):=⟨fun _ _ x=>x,(Ext.at H n w).loc,fun b i x=>cell_setRow_other w L.b arr' ⟨b,i,none⟩ (I b i x),by simp,(Ext.at H n w).lim,(Ext.at H n w).nloc,fun _ _ _ x=>x,kN s⟩
 have p:∀a g,(G.at k ((h k).ver+1) L).loc a (aJ h k ⟨(h k).ver+1,some (.arr sz es')⟩ a).ver=some g→G.loc a (h a).ver=some g:=by
  intro a g x;by_cases d:a=k
  ·subst d
   rw[ad,Gh.at_same]at x;rw[r];exact x
  ·rw[ae _ _ d,Gh.at_ne _ _ (by simp[d])]at x
   exact x
 refine⟨⟨below_setRow f.below hB _,by simpa using f.bsz,fun b o x=>by simpa using f.immlt b o x,f.i0,f.immlow, ?_, ?_, ?_, ?_,fun a=>by
  by_cases d:a=k
  ·subst d;rw[ad];exact ad _ _ _
  ·rw[ae _ _ d];exact(ae _ _ d).trans (f.lim a),f.maps.set hex rfl (kO w s) (by omega) (by first|exact jn|exact kz)⟩,hex⟩
 ·intro a v g l
  by_cases d:a=k∧v=(h k).ver+1
  ·obtain⟨rfl,rfl⟩:=d;simp[aJ]
  ·rw[Gh.at_ne _ _ d]at l
   have:=f.fresh a v g l;by_cases y:a=k
   ·subst y;rw[ad];show v≤_+1;omega
   ·rw[ae _ _ y];exact this
 ·intro a g x
  replace x:=p a g x
  obtain⟨O,⟨Y,R,h2,V⟩,M⟩:=f.own a g x;by_cases d:g.b=L.b
  ·have:=f.dis a k g L x r d
   subst this;rw[r]at x;simp only[xA]at x;subst x;exact⟨O,⟨arr',e,setRow_heap w _ _ _ _ _ s,by rw[T];exact z⟩,M⟩
  ·exact⟨O,⟨Y,R,by rw[setRow_other w _ _ _ d];exact h2,V⟩,M⟩
 ·intro k1 k2 X Z Q P;exact f.dis k1 k2 X Z (p _ _ Q) (p _ _ P)
 ·intro a ob j
  by_cases d:a=k
  ·subst d
   rw[ad]at j ⊢;simp only[xA]at j;subst j;refine .inr ⟨L,Gh.at_same _ _ _ _,C,J,q,E,A,fun t c ht=> ?_⟩;obtain⟨u,U,D,F⟩:=W t c ht;exact⟨u,by rw[cell_setRow_same w L.b t _ _ _ _ s];exact U,D,F.mono hex⟩
  ·rw[ae _ _ d]at j ⊢
   refine(f.objs a ob j).mono (f.le a) hex (fun g l t=>cell_setRow_other w L.b arr' ⟨g.b,t,none⟩ (fun K=>d (f.dis a k g L l r K)))
theorem HR.newVec(g:HR G B w0 I0 h w)(k sz cap:Nat)(l:List D)(arr:Array Value)(e:TypeId)(f:arr.size=cap*sz)(a:l.length≤cap)(d:∀x∈l,x.cells.length=sz)
    (n:∀(t:Nat)(c:D),(D.flat l)[t]? =some c→∃u:Value,arr[t]? =some u∧c.one=true∧DRep G.imm w c u):
    ∃b,HR b B w0 I0 (aJ h k ⟨(h k).ver+1,none⟩) (w.alloc (.cells arr e))∧Ext G w b (w.alloc (.cells arr e))∧
     Rep b (w.alloc (.cells arr e)) (.vec k ((h k).ver+1) sz l) (.slice (some ⟨w.heap.size,0,none⟩) l.length cap):=by
 obtain⟨b,i,m,j,_⟩:=g.newVecT k sz cap l arr e f a d n;exact⟨b,i,m,j⟩
theorem HR.note(c:HR G B w0 I0 h w)(d k v:Nat)(T:TypeId)(n:Option Nat)(p:v≤(h k).ver)(l:∀L,G.loc k v=some L→L.ty=T∧∀m,n=some m→L.cap*L.sz=m):
    HR G B w0 I0 (aJ h d ⟨(h d).ver,some (.typ k v T n)⟩) w:=by
 have a:∀b,(aJ h d ⟨(h d).ver,some (.typ k v T n)⟩ b).ver=(h b).ver:=fun b=>by
  by_cases e:b=d
  ·subst e;rw[ad]
  ·rw[ae _ _ e]
 refine⟨c.below,c.bsz,c.immlt,c.i0,c.immlow,fun b o L x=>by rw[a];exact c.fresh b o L x,fun b L x=>by rw[a]at x;exact c.own b L x,
  fun q j s r g i=>by rw[a]at g i;exact c.dis q j s r g i,fun b ob f=> ?_,fun b=>by rw[a];exact c.lim b,
  c.maps.set (Ext.refl G w) rfl (fun _ _ _ x=>x) (xS _) FX⟩
 rw[a];by_cases e:b=d
 ·subst e
  rw[ad]at f;cases f;exact⟨by rw[c.lim];exact p,l⟩
 ·rw[ae _ _ e]at f
  exact c.objs b ob f
theorem HR.growT(g:HR G B w0 I0 h w){k:Nat}{l news:List D}{L:sQ}(ho:(h k).ob=none)(p:G.loc k (h k).ver=some L)(hfr:L.fr=l.length*L.sz)
    {arr arr':Array Value} {e:TypeId} (J:w.heap[L.b]? =some (.cells arr e (0,0))) (hs:arr'.size=arr.size) (C:l.length+news.length≤L.cap) (Y:∀x∈l,x.cells.length=L.sz) (P:∀x∈news,x.cells.length=L.sz)
    (T:∀t,t<l.length*L.sz→arr'[t]? =arr[t]?)
    (hc:∀(t:Nat)(c:D),(D.flat (l ++news))[t]? =some c→∃u:Value,arr'[t]? =some u∧c.one=true∧DRep G.imm w c u):
    ∃r,HR r B w0 I0 (aJ h k ⟨(h k).ver+1,none⟩) (w.setRow L.b arr')∧Ext G w r (w.setRow L.b arr')∧
     Rep r (w.setRow L.b arr') (.vec k ((h k).ver+1) L.sz (l ++news)) (.slice (some ⟨L.b,0,none⟩) (l.length+news.length) L.cap)∧
     ∀j,r.loc k ((h k).ver+1)=some j→j.ty=L.ty:=by
 obtain⟨hB,⟨arr0,e0,E,K⟩,hi⟩:=g.own k L p;rw[J]at E;simp only[xA,Obj.cells.injEq]at E;obtain⟨rfl,rfl,_⟩:=E;have hn:=g.none_next k;have F:G.lim k<(h k).ver+1:=by rw[g.lim];omega
 have s:∀x∈l ++news,x.cells.length=L.sz:=by
  intro x I;rcases xZ.1 I with I|I
  ·exact Y x I
  ·exact P x I
 have hfl:(D.flat (l ++news)).length=(l.length+news.length)*L.sz:=by rw[D.flat,cH _ L.sz _ s,xC]
 let q:sQ:={L with fr:=(l.length+news.length)*L.sz}
 let r:Gh:=(G.at k ((h k).ver+1) q).more (fun b o=>b=L.b∧o<(l.length+news.length)*L.sz)
 have n:∀t,(w.setRow L.b arr').cell? ⟨L.b,t,none⟩=arr'[t]? :=fun t=>cell_setRow_same w L.b t _ _ _ _ J
 have y:∀t,w.cell? ⟨L.b,t,none⟩=arr[t]? :=fun t=>by simp[World.cell?,J]
 have hex:Ext G w r (w.setRow L.b arr'):=by
  refine⟨fun _ _ x=> .inl x,(Ext.at (L:=q) hn F w).loc,fun b i x=> ?_,by simp,(Ext.at (L:=q) hn F w).lim,(Ext.at (L:=q) hn F w).nloc,fun _ _ _ x=>x,kN J⟩;by_cases d:b=L.b
  ·subst d
   rw[n,y,T i (by have:=hi i x;omega)]
  ·exact cell_setRow_other w L.b arr' ⟨b,i,none⟩ d
 have M:r.loc k ((h k).ver+1)=some q:=Gh.at_same _ _ _ _
 have H:∀a j,r.loc a (aJ h k ⟨(h k).ver+1,none⟩ a).ver=some j→(a=k∧j=q)∨(a≠k∧G.loc a (h a).ver=some j):=by
  intro a j p;by_cases m:a=k
  ·subst m
   rw[ad]at p;rw[show r.loc a ((h a).ver+1)=some q from Gh.at_same _ _ _ _]at p;exact .inl ⟨rfl,(Option.some.inj p).symm⟩
  ·rw[ae _ _ m]at p
   exact .inr ⟨m,by rw[←Gh.at_ne G q (k:=k) (v:=(h k).ver+1) (by simp[m])];exact p⟩
 have O:∃U:Nat→Value,∀t c,(D.flat (l ++news))[t]? =some c→arr'[t]? =some (U t)∧c.one=true∧DRep G.imm w c (U t):=by
  refine⟨fun t=>arr'.getD t undef,fun t c A=> ?_⟩;obtain⟨u,hu,Z,h2⟩:=hc t c A;have hg:arr'.getD t undef=u:=by simp[xq,hu]
  exact⟨hu.trans (congrArg some hg.symm),Z,by simpa only[hg]using h2⟩
 obtain⟨U,O⟩:=O
 refine⟨r,⟨below_setRow g.below hB _,by simpa using g.bsz, ?_,fun b o x=> .inl (g.i0 b o x), ?_, ?_, ?_, ?_, ?_,fun a=>by
  by_cases m:a=k
  ·subst m;rw[ad];exact ad _ _ _
  ·rw[ae _ _ m];exact(ae _ _ m).trans (g.lim a),g.maps.set hex rfl (kO w J) (by omega) (by first|exact jn|exact kz)⟩,hex, ?_,fun j f=>by rw[M]at f;cases f;rfl⟩
 ·rintro b o (x|⟨rfl,_⟩)
  ·simpa using g.immlt b o x
  ·simpa using g.blt p
 ·rintro b o (x|⟨rfl,_⟩) hbB
  ·exact g.immlow b o x hbB
  ·omega
 ·intro a v j f
  by_cases m:a=k∧v=(h k).ver+1
  ·obtain⟨rfl,rfl⟩:=m;simp[aJ]
  ·rw[show r.loc a v=G.loc a v from Gh.at_ne _ _ m]at f
   have:=g.fresh a v j f;by_cases Q:a=k
   ·subst Q;rw[ad];show v≤_+1;omega
   ·rw[ae _ _ Q];exact this
 ·intro a j f
  rcases H a j f with ⟨rfl,rfl⟩|⟨m,f⟩
  ·refine⟨hB,⟨arr',e,setRow_heap w _ _ _ _ _ J,by rw[hs];exact K.1,K.2⟩, ?_⟩
   rintro o (x|⟨_,x⟩)
   ·have:=hi o x
    show o<(l.length+news.length)*L.sz;rw[yf];omega
   ·exact x
  ·have d:j.b≠L.b:=fun d=>m (g.dis a k j L f p d)
   obtain⟨Z,⟨a1,e1,h2,h3⟩,h4⟩:=g.own a j f;refine⟨Z,⟨a1,e1,by rw[setRow_other w _ _ _ d];exact h2,h3⟩, ?_⟩;rintro o (x|⟨x,_⟩)
   ·exact h4 o x
   ·exact absurd x d
 ·intro k1 k2 L2 W X hL3 d
  rcases H k1 L2 X with ⟨V,h1L⟩|⟨hk1,S⟩<;>rcases H k2 W hL3 with ⟨R,h2L⟩|⟨hk2,N⟩
  ·rw[V,R]
  ·subst h1L;rw[V];exact g.dis _ _ L W p N d
  ·subst h2L;rw[R];exact g.dis _ _ L2 L S p d
  ·exact g.dis k1 k2 L2 W S N d
 ·intro a ob z
  by_cases m:a=k
  ·subst m;rw[ad]at z;cases z
  ·rw[ae _ _ m]at z ⊢
   refine(g.objs a ob z).mono (g.le a) hex (fun j f t=>cell_setRow_other w L.b arr' ⟨j.b,t,none⟩ (fun d=>m (g.dis a k j L f p d)))
 ·have hv:=Rep.vec (w:=w.setRow L.b arr') k ((h k).ver+1) (l ++news) q M (by simp[q]) (by simpa [q]using C) s (.ro (l ++news) L.b 0 L.cap L.sz U (by simpa using C) s (fun x I=>by
      obtain⟨t,A⟩:=xf I
      exact(O t x A).2.1) (fun t c A=>by
       have:t<(D.flat (l ++news)).length:=(xE.1 A).1
       exact .inr ⟨rfl,by omega⟩) (fun t c A=>by
        rw[xb,n];exact(O t c A).1) (fun t c A=>(O t c A).2.2.mono hex.imm hex.cell))
  rw[xC]at hv;exact hv
theorem HR.newImm(a:HR G B w0 I0 h w)(l:List D)(sz cap:Nat)(arr:Array Value)(e:TypeId){fz:Nat×Nat}(k:l.length≤cap)(p:∀x∈l,x.cells.length=sz)
    (H:∀(t:Nat)(c:D),(D.flat l)[t]? =some c→∃u:Value,arr[t]? =some u∧c.one=true∧DRep G.imm w c u):
    ∃g,HR g B w0 I0 h (w.alloc (.cells arr e fz))∧Ext G w g (w.alloc (.cells arr e fz))∧DRep g.imm (w.alloc (.cells arr e fz)) (.ro l) (.slice (some ⟨w.heap.size,0,none⟩) l.length cap):=by
 let g:Gh:=G.more (fun b _=>b=w.heap.size)
 have hex:Ext G w g (w.alloc (.cells arr e fz)):=
  ⟨fun _ _ x=> .inl x,fun _ _ _ x=>x,fun b i n=>cI (a.immlt b i n),by simp,fun _=>xS _,fun _ _ _ x=>x,fun _ _ _ x=>x,jK w _⟩
 have j:∃U:Nat→Value,∀t c,(D.flat l)[t]? =some c→arr[t]? =some (U t)∧c.one=true∧DRep G.imm w c (U t):=by
  refine⟨fun t=>arr.getD t undef,fun t c d=> ?_⟩;obtain⟨u,s,q,h2⟩:=H t c d;have r:arr.getD t undef=u:=by simp[xq,s]
  exact⟨s.trans (congrArg some r.symm),q,by simpa only[r]using h2⟩
 obtain⟨U,j⟩:=j;refine⟨g,⟨a.below.alloc a.bsz _,by have:=a.bsz;simp;omega, ?_,fun b o x=> .inl (a.i0 b o x), ?_,a.fresh, ?_,a.dis, ?_,a.lim,a.maps.step hex rfl (jL w _) (fun _=>xS _) (fun _ _ _ _=>rfl)⟩,hex, ?_⟩
 ·rintro b o (x|rfl)
  ·have:=a.immlt b o x;simp;omega
  ·simp
 ·rintro b o (x|rfl) n
  ·exact a.immlow b o x n
  ·have:=a.bsz;omega
 ·intro m z f
  obtain⟨q,⟨arr',v,h2,F⟩,y⟩:=a.own m z f;refine⟨q,⟨arr',v,(dw (a.blt f)).trans h2,F⟩, ?_⟩;rintro o (x|x)
  ·exact y o x
  ·have:=a.blt f;omega
 ·intro m ob C
  exact(a.objs m ob C).mono (a.le m) hex (fun L A t=>cI (a.blt A))
 ·refine .ro l _ 0 cap sz U k p (fun x E=> ?_) (fun t c d=> .inr rfl) ?_ (fun t c d=>(j t c d).2.2.mono hex.imm hex.cell)
  ·obtain⟨t,d⟩:=xf E
   exact(j t x d).2.1
  ·intro t c d
   rw[xb,show(w.alloc (.cells arr e fz)).cell? ⟨w.heap.size,t,none⟩=arr[t]? from by rw[World.cell?,heap_alloc_new];rfl];exact(j t c d).1
theorem HR.bump(c:HR G B w0 I0 h w)(k:Nat)(ob:Option Ob)(j:∀o,ob=some o→∃sz,o= .arr sz []):
    ∃g,HR g B w0 I0 (aJ h k ⟨(h k).ver+1,ob⟩) w∧Ext G w g w∧g.loc k ((h k).ver+1)=none:=by
 have m:=c.none_next k
 have f:∀a d,G.loc a (aJ h k ⟨(h k).ver+1,ob⟩ a).ver=some d→a≠k∧G.loc a (h a).ver=some d:=by
  intro a d i;by_cases b:a=k
  ·subst b;rw[ad]at i;simp only[m]at i;cases i
  ·rw[ae _ _ b]at i;exact⟨b,i⟩
 let g:Gh:={G with lim:=aJ G.lim k ((h k).ver+1)}
 have hex:Ext G w g w:=⟨fun _ _ x=>x,fun _ _ _ x=>x,fun _ _ _=>rfl,xS _,fun a=>by
  by_cases b:a=k
  ·subst b;show _≤aJ G.lim a _ a;rw[ad,c.lim];omega
  ·show _≤aJ G.lim k _ a;rw[ae _ _ b];exact xS _,fun _ _ _ x=>x,fun _ _ _ x=>x,ej rfl⟩
 refine⟨g,⟨c.below,c.bsz,c.immlt,c.i0,c.immlow, ?_,fun a d x=>c.own a d (f a d x).2,fun p s t n q r=>c.dis p s t n (f _ _ q).2 (f _ _ r).2, ?_,fun a=>by
  by_cases b:a=k
  ·subst b;rw[ad];exact ad _ _ _
  ·rw[ae _ _ b];exact(ae _ _ b).trans (c.lim a),c.maps.set hex rfl (fun _ _ _ x=>x) (by omega) (fun o u e=>by obtain⟨sz,rfl⟩:=j _ e;cases u)⟩,hex,m⟩
 ·intro a v d x
  have:=c.fresh a v d x;by_cases b:a=k
  ·subst b;rw[ad];show v≤_+1;omega
  ·rw[ae _ _ b];exact this
 ·intro a o l
  by_cases b:a=k
  ·subst b
   rw[ad]at l ⊢;obtain⟨sz,rfl⟩:=j o l;exact .inl ⟨rfl,m⟩
  ·rw[ae _ _ b]at l ⊢
   exact(c.objs a o l).mono (c.le a) hex (fun _ _ _=>rfl)
end
end Go.Avm
namespace Go.Avm
open Go.RowKit
variable[aG]
section
variable{P:Program}{G:Gh}{B:Nat}{w0 w:World}{I0:Nat→Nat→Prop}{h:aa}
theorem Rep.lone{x:AV}{v:Value}(b:Rep G w x v)(a:v.oneCell'=true):x.lone=true:=by
 cases b with
 |d h=>cases h<;>first|rfl|(simp[Value.oneCell']at a)
 |agg=>simp[Value.oneCell']at a
 |_=>rfl
theorem m9(v:Value):Rep G w (EB v) v:=by
 unfold EB;split<;>first|exact .d (.bool _)|exact .d (.int _ _)|exact .d (.str _ _ rfl)|exact .d .nilp|exact .d .nili|exact .nils|exact .junk _
theorem fY{cs:Array Value}{l:List AV}(a:kA cs=some l):cs.size=l.length∧(∀(i:Nat)(u:Value),cs[i]? =some u→u.oneCell'=true)∧
    ∀(i:Nat)(c:AV)(u:Value),l[i]? =some c→cs[i]? =some u→Rep G w c u:=by
 unfold kA at a;split at a
 ·rename_i b
  simp only[xA]at a;subst a;refine⟨by simp,fun i u d=> ?_,fun i c u a d=> ?_⟩
  ·have:=xa.1 b u (by rw[xp];exact yx d)
   exact this
  ·simp only[xP,xe,d,xc,xA]at a
   subst a;exact m9 u
 ·cases a
theorem om:∀{cs:List AV}{ds:List D},m6 cs=some ds→cs=ds.map .d∧∀c∈ds,c.one=true
 |[],ds,h=>by simp only[m6,xA]at h;subst h;simp
 | .d x::r,ds,h=>by
  simp only[m6]at h;split at h
  ·rename_i b
   simp only[xB]at h;obtain⟨f,h',rfl⟩:=h;obtain⟨e,g⟩:=om h';refine⟨by simp[e],fun c a=> ?_⟩;rcases xX.1 a with rfl|a
   ·exact b
   ·exact g c a
  ·cases h
 | .junk::_,_,h=>by simp[m6]at h
 | .nils::_,_,h=>by simp[m6]at h
 | .es::_,_,h=>by simp[m6]at h
 | .vec _ _ _ _::_,_,h=>by simp[m6]at h
 | .sl _ _ _ _ _::_,_,h=>by simp[m6]at h
 | .ptr _ _ _ _ _::_,_,h=>by simp[m6]at h
 | .agg _::_,_,h=>by simp[m6]at h
 | .tup _::_,_,h=>by simp[m6]at h
 | .fn _ _::_,_,h=>by simp[m6]at h
theorem Rep.toDRep{x:D}{v:Value}(a:Rep G w (.d x) v):DRep G.imm w x v:=by cases a with|d h=>exact h
theorem jq{cs:List AV}{vs:Array Value}(e:vs.size=cs.length)(f:∀(i:Nat)(u:Value),vs[i]? =some u→u.oneCell'=true)
    (b:∀(i:Nat)(c:AV)(u:Value),cs[i]? =some c→vs[i]? =some u→Rep G w c u):Rep G w (iu cs) (.agg vs):=by
 unfold iu;split
 ·rename_i ds a
  obtain⟨rfl,k⟩:=om a;refine .d (.agg ds vs (by simpa using e) k (fun i c u j g=> ?_));exact(b i (.d c) u (by simp[j]) g).toDRep
 ·exact .agg cs vs e f b
theorem gQ{cs:List AV}:(iu cs).cells=cs:=by
 unfold iu;split
 ·rename_i ds a
  obtain⟨rfl,_⟩:=om a;rfl
 ·rfl
theorem na(v:Value):Rep G w (J0 v) v:=by
 cases v with
 |agg cs=>
  simp only[J0];split
  ·rename_i l c
   obtain⟨a,h2,b⟩:=fY (G:=G) (w:=w) c;exact jq a h2 b
  ·exact .junk _
 |_=>simp only[J0];exact m9 _
structure FR(G:Gh)(w:World)(N:Nat)(D:List Deferred)(env:Nat→AV)(a:Act):Prop where
 size:a.tmps.size=N
 nod:a.defers=D
 rep:∀t,t<N→Rep G w (env t) (a.tmps.getD t undef)
 out:∀t,N≤t→env t= .junk
theorem FR.opd{N:Nat}{D:List Deferred}{env:Nat→AV}{a:Act}(j:FR G w N D env a)(k:Globs G.imm w)(x:Operand):Rep G w (opd env x) (a.eval x):=by
 cases x with
 |tmp t=>
  by_cases e:t<N
  ·exact j.rep t e
  ·have l:Go.Avm.opd env (.tmp t)= .junk:=j.out t (Nat.le_of_not_lt e)
   rw[l];exact .junk _
 |const v=>exact na v
 |global g=>
  simp only[Go.Avm.opd];split
  ·rename_i cs b;exact .d (k g cs b).1
  ·exact .junk _
 |func f=>exact .fn f [] #[] rfl (fun i c u b _=>by simp at b)
theorem FR.mono{N:Nat}{D:List Deferred}{env:Nat→AV}{a:Act}{d:Gh}{c:World}(b:FR G w N D env a)(e:Ext G w d c):FR d c N D env a:=
 ⟨b.size,b.nod,fun t f=>(b.rep t f).mono e,b.out⟩
theorem FR.put{N:Nat}{D:List Deferred}{env env':Nat→AV}{a:Act}(c:FR G w N D env a){dst:Option Nat}{x:AV}{v:Value}(hp:eO N env dst x=some env')(g:Rep G w x v):FR G w N D env' (a.put dst v):=by
 cases dst with
 |none=>simp only[eO,xA]at hp;subst hp;exact c
 |some d=>
  simp only[eO]at hp;split at hp
  ·rename_i i
   simp only[xA]at hp;subst hp;refine⟨by simp[Act.put,c.size],c.nod,fun t f=> ?_,fun t f=> ?_⟩
   ·simp only[Act.put,xq,Array.getElem?_setIfInBounds]
    by_cases b:d=t
    ·subst b
     simp only[ad,yS,c.size,i,zN];exact g
    ·rw[xj b,ae _ _ (fun e=>b e.symm)]
     have:=c.rep t f;rwa [xq]at this
   ·rw[ae _ _ (by omega)];exact c.out t f
  ·cases hp
def Good(P:Program)(B:Nat)(w0:World)(I0:Nat→Nat→Prop)(G:Gh)(h:aa)(w:World)(r:Result Next)(out:Out):Prop:=
 ∃v a b,(r= .ok (.value v) a∨(r= .ok .skip a∧v=undef))∧Ext G w b a∧HR b B w0 I0 (ap h out.wr) a∧Rep b a out.val v
theorem Good.pure(c:HR G B w0 I0 h w){v:Value}{r:Result Next}{out:Out}(e:r= .ok (.value v) w)(a:out.wr=[])(b:Rep G w out.val v):Good P B w0 I0 G h w r out:=
 ⟨v,w,G, .inl e,Ext.refl G w,by rw[a];exact c,b⟩
theorem iz{t:TypeId}{d:TypeDesc}(a:P.underlying t=some d):∃i,P.info? t=some i:=by
 unfold Program.underlying at a;split at a<;>simp_all
theorem pc{t:TypeId}{d:TypeDesc}(b:P.underlying t=some d)(w:World):(sizeOf t).run P w= .ok (P.cellsOf t) w:=by
 obtain⟨i,a⟩:=iz b;simp[sizeOf,typeInfo,a,Program.cellsOf]
theorem jM{t:TypeId}{b:Bool}(a:lU P t=some b)(w:World):(isAgg t).run P w= .ok b w:=by
 simp only[lU,xB]at a;obtain⟨d,c,rfl⟩:=a;simp only[isAgg,Sem.run_bind,run_underlying c,Result.andThen_ok];cases d<;>rfl
theorem wx{t:TypeId}{b:Bool}(a:lU P t=some b):∃d,P.underlying t=some d:=by
 simp only[lU,xB]at a;obtain⟨d,c,_⟩:=a;exact⟨d,c⟩
theorem dd{t:TypeId}{z:Value}(a:db P t=some z)(w:World):(zeroValue t).run P w= .ok z w:=by
 unfold db at a;cases b:P.info? t with
 |none=>simp[b]at a
 |some i=>
  simp only[b,yA]at a;simp[zeroValue,typeInfo,b,a]
theorem dn(b o n:Nat):(⟨b,o,none⟩:Addr).add n=⟨b,o+n,none⟩:=by unfold Addr.add;split<;>simp_all
theorem sT(Z:HR G B w0 I0 h w){a:AV}{va:Value}(Q:Rep G w a va){n:Nat}{cs:List AV}{ks:List Nat}(f:iZ h a n=some (cs,ks)):
    ∃b o,va= .pointer (some ⟨b,o,none⟩)∧cs.length=n∧∀(j:Nat)(c:AV),cs[j]? =some c→∃u,w.cell? ⟨b,o+j,none⟩=some u∧u.oneCell'=true∧Rep G w c u:=by
 unfold iZ at f;split at f
 ·rename_i ds
  split at f
  ·rename_i hn
   simp only[xA,xG]at f;obtain⟨rfl,rfl⟩:=f;cases Q with
   |d W=>
    cases W with
    |rp _ b o U A hi f M=>
     refine⟨b,o,rfl,by simp;omega,fun j c g=> ?_⟩;simp only[xP,xB]at g;obtain⟨y,D,rfl⟩:=g
     have x:ds[j]? =some y:=by
      rw[yG]at D;split at D
      ·exact D
      ·cases D
     have:=M j y x;exact⟨U j,f j y x,this.oneCell (A y (x5 x)), .d this⟩
  ·cases f
 ·rename_i k v i q X
  split at f
  ·rename_i sz es E
   split at f
   ·rename_i Y
    subst Y;cases Q with
    |ptr _ _ _ _ L R=>
     have m:=Z.objs k _ E;split at f
     ·rename_i I
      subst I;split at f
      ·rename_i z
       obtain⟨rfl,z⟩:=z;simp only[xA,xG]at f;obtain⟨rfl,rfl⟩:=f;refine⟨L.b,i*L.sz+0,rfl,by simp;omega,fun j c g=> ?_⟩;rw[yG]at g;split at g
       ·rename_i J
        rw[xw]at g;rcases m with ⟨rfl,H⟩|⟨V,l,A,h2,h3,C,O,N⟩
        ·simp at g
        ·rw[R]at l
         simp only[xA]at l;subst l;have r:=O rfl c (x5 g)
         have t:(AV.flat es)[(i+j)*1+0]? =some c:=by
          rw[AV.flat,bM _ 1 es C (i+j) 0 (by omega),g,yA,AV.cells_lone r];rfl
         obtain⟨u,K,p,s⟩:=N _ c t;refine⟨u, ?_,p,s⟩;rw[←K,A];congr 2;omega
       ·cases g
      ·cases f
     ·split at f
      ·rename_i e F
       split at f
       ·rename_i S
        simp only[xA,xG]at f;obtain⟨rfl,rfl⟩:=f;rcases m with ⟨rfl,H⟩|⟨V,l,A,h2,h3,C,O,N⟩
        ·simp at F
        ·rw[R]at l
         simp only[xA]at l;subst l;have T:=C e (x5 F);refine⟨L.b,i*L.sz+q,rfl,by simp;omega,fun j c g=> ?_⟩;rw[yG]at g;split at g
         ·rename_i J
          rw[xw]at g
          have t:(AV.flat es)[i*sz+(q+j)]? =some c:=by
           rw[AV.flat,bM _ sz es C i (q+j) (by omega),F,yA,g]
          obtain⟨u,K,p,s⟩:=N _ c t;refine⟨u, ?_,p,s⟩;rw[←K,A];congr 2;omega
         ·cases g
       ·cases f
      ·cases f
   ·cases f
  ·cases f
 ·cases f
theorem pd{b:Type}{p:Nat→b→Prop}:∀(n:Nat),(∀i,i<n→∃x,p i x)→∃l:List b,l.length=n∧∀(i:Nat)(x:b),l[i]? =some x→p i x
 |0,_=>⟨[],rfl,by simp⟩
 |n+1,hp=>by
  obtain⟨l,d,f⟩:=pd n (fun i g=>hp i (by omega));obtain⟨x,c⟩:=hp n (by omega);refine⟨l ++[x],by simp[d],fun i y a=> ?_⟩;rw[List.getElem?_append]at a;split at a
  ·exact f i y a
  ·rename_i e
   have:i=n:=by
    have:=(xE.1 a).1;simp at this;omega
   subst this;simp[d]at a;subst a;exact c
theorem Ba{cs:List AV}{b o:Nat}(l:∀(j:Nat)(c:AV),cs[j]? =some c→∃u,w.cell? ⟨b,o+j,none⟩=some u∧u.oneCell'=true∧Rep G w c u):
    ∃a:List Value,a.length=cs.length∧(∀(j:Nat)(u:Value),a[j]? =some u→w.cell? ⟨b,o+j,none⟩=some u∧u.oneCell'=true)∧
     (∀(j:Nat)(c:AV)(u:Value),cs[j]? =some c→a[j]? =some u→Rep G w c u)∧(loadCells ⟨b,o,none⟩ cs.length).run P w= .ok a.toArray w:=by
 obtain⟨a,g,e⟩:=pd (p:=fun j u=>w.cell? ⟨b,o+j,none⟩=some u∧u.oneCell'=true∧∀c,cs[j]? =some c→Rep G w c u) cs.length (fun j f=>by
  obtain⟨u,i,h2,k⟩:=l j cs[j] (xH f);exact⟨u,i,h2,fun c d=>by rw[xH f]at d;simp at d;subst d;exact k⟩)
 refine⟨a,g,fun j u h=>⟨(e j u h).1,(e j u h).2.1⟩,fun j c u d h=>(e j u h).2.2 c d, ?_⟩;rw[←g];exact run_loadCells_list w ⟨b,o,none⟩ a (fun j u h=>by rw[dn];exact(e j u h).1)
theorem jN(S:HR G B w0 I0 h w){t:TypeId}{a:AV}{va:Value}(J:Rep G w a va){out:Out}(g:gu P t a h=some out):
    ∃v,(Instr.loadAt t va).run P w= .ok v w∧out.wr=[]∧out.ob=[]∧Rep G w out.val v:=by
 unfold gu at g;split at g
 ·rename_i j
  simp only[xB]at g;obtain⟨⟨cs,ks⟩,A,rfl⟩:=g;obtain⟨b,o,rfl,Z,C⟩:=sT S J A;obtain⟨X,H,K,r,l⟩:=Ba (P:=P) C;obtain⟨d,N⟩:=wx j;refine⟨.agg X.toArray, ?_,rfl,rfl,jq (by simpa using H) (fun i u y=>(K i u (by simpa using y)).2) (fun i c u M y=>r i c u M (by simpa using y))⟩;rw[Z]at l;simp[Instr.loadAt,Instr.sureAddr,loadVar,jM j,pc N,l]
 ·rename_i j
  have p:∀(b o:Nat)(u:Value),va= .pointer (some ⟨b,o,none⟩)→w.cell? ⟨b,o,none⟩=some u→(Instr.loadAt t va).run P w= .ok u w:=by
   rintro b o u rfl y;simp[Instr.loadAt,Instr.sureAddr,loadVar,jM j,y]
  split at g
  ·rename_i c cs
   simp only[xA]at g;subst g;cases J with
   |d N=>
    cases N with
    |rp _ b o U z hi A R=>
     exact⟨U 0,p b o _ rfl (A 0 c rfl),rfl,rfl, .d (R 0 c rfl)⟩
  ·rename_i k v i m Y
   split at g
   ·rename_i sz es I
    split at g
    ·rename_i hv
     subst hv
     have n:∀(c:AV),(sz=1∧m=0∧es[i]? =some c)∨(sz≠1∧∃e,es[i]? =some e∧e.cells[m]? =some c)→∃v,(Instr.loadAt t va).run P w= .ok v w∧Rep G w c v:=by
      intro c f;cases J with
      |ptr _ _ _ _ L W=>
       rcases S.objs k _ I with ⟨rfl,V⟩|⟨L',s,z,h2,h3,F,T,h5⟩
       ·rcases f with ⟨_,_,f⟩|⟨_,e,f,_⟩<;>simp at f
       ·rw[W]at s
        simp only[xA]at s;subst s
        have O:(AV.flat es)[i*sz+m]? =some c:=by
         rcases f with ⟨rfl,rfl,q⟩|⟨_,e,q,A⟩
         ·rw[AV.flat,bM _ 1 es F i 0 (by omega),q,yA,AV.cells_lone (T rfl c (x5 q))];rfl
         ·have D:=(xE.1 A).1
          rw[F e (x5 q)]at D;rw[AV.flat,bM _ sz es F i m D,q,yA,A]
        obtain⟨u,y,_,r⟩:=h5 _ c O;exact⟨u,p L.b (i*L.sz+m) u rfl (by rw[z];exact y),r⟩
     split at g
     ·split at g
      ·rename_i Q E
       simp only[xB]at g;obtain⟨x,C,rfl⟩:=g;obtain⟨v,z,h2⟩:=n x (.inl ⟨Q,E,C⟩);exact⟨v,z,rfl,rfl,h2⟩
      ·cases g
     ·split at g
      ·rename_i Q _ e q
       simp only[xB]at g;obtain⟨x,C,rfl⟩:=g;obtain⟨v,z,h2⟩:=n x (.inr ⟨Q,e,q,C⟩);exact⟨v,z,rfl,rfl,h2⟩
      ·cases g
    ·cases g
   ·cases g
  ·cases g
 ·cases g
end
end Go.Avm
