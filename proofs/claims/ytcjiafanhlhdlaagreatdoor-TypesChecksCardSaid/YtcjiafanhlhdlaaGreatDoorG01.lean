/-
  The abstract machine, part A: immutable data, abstract values, what they stand for in a world, and what carries over from one world to the next.
-/
import Derived.Tactics
import Derived.Below
import Derived.Laws.Append
import Derived.Laws.World
import Derived.Laws.CopyOwn
set_option linter.unusedVariables false
set_option linter.unusedSimpArgs false
set_option linter.unusedSectionVars false
namespace Go.Avm
open Go.RowKit
theorem xA:type_of% @Option.some.injEq:= @Option.some.injEq
theorem xB:type_of% @Option.map_eq_some_iff:= @Option.map_eq_some_iff
theorem xC:type_of% @List.getElem?_eq_some_iff:= @List.getElem?_eq_some_iff
theorem xD:type_of% @List.getElem?_eq_getElem:= @List.getElem?_eq_getElem
theorem xE:type_of% @Prod.mk.injEq:= @Prod.mk.injEq
theorem xF:type_of% @List.map_append:= @List.map_append
theorem xG:type_of% @List.length_cons:= @List.length_cons
theorem xH:type_of% @List.map_cons:= @List.map_cons
theorem xI:type_of% @Array.getElem?_eq_getElem:= @Array.getElem?_eq_getElem
theorem xJ:type_of% @Bool.and_eq_true:= @Bool.and_eq_true
theorem xK:type_of% @List.length_append:= @List.length_append
theorem xL:type_of% @Nat.le_refl:= @Nat.le_refl
theorem xM:type_of% @List.mem_singleton:= @List.mem_singleton
theorem xN:type_of% @List.getElem?_map:= @List.getElem?_map
theorem xO:type_of% @List.length_map:= @List.length_map
theorem xP:type_of% @cond_false:= @cond_false
theorem xQ:type_of% @List.getElem?_append_left:= @List.getElem?_append_left
theorem xR:type_of% @Array.getElem?_eq_some_iff:= @Array.getElem?_eq_some_iff
theorem xS:type_of% @List.length_nil:= @List.length_nil
theorem xU:type_of% @List.mem_append:= @List.mem_append
theorem xV:type_of% @List.getElem?_append_right:= @List.getElem?_append_right
theorem xW:type_of% @cond_true:= @cond_true
theorem xX:type_of% @List.mem_of_getElem? := @List.mem_of_getElem?
theorem xY:type_of% @List.map_nil:= @List.map_nil
theorem xZ:type_of% @List.drop_eq_getElem_cons:= @List.drop_eq_getElem_cons
theorem x0:type_of% @List.mem_cons:= @List.mem_cons
theorem x5:type_of% @Option.map_some:= @Option.map_some
theorem x6:type_of% @decide_eq_false_iff_not:= @decide_eq_false_iff_not
theorem x7:type_of% @List.eq_nil_of_length_eq_zero:= @List.eq_nil_of_length_eq_zero
theorem x8:type_of% @Nat.zero_add:= @Nat.zero_add
theorem x9:type_of% @List.mem_map:= @List.mem_map
theorem xa:type_of% @List.append_assoc:= @List.append_assoc
theorem xb:type_of% @Int.toNat_natCast:= @Int.toNat_natCast
theorem xc:type_of% @List.all_eq_true:= @List.all_eq_true
theorem xe:type_of% @of_decide_eq_true:= @of_decide_eq_true
theorem xf:type_of% @if_pos:= @if_pos
theorem xg:type_of% @List.getElem?_of_mem:= @List.getElem?_of_mem
theorem xh:type_of% @Array.length_toList:= @Array.length_toList
theorem xi:type_of% @Array.getElem?_toList:= @Array.getElem?_toList
theorem xj:type_of% @List.getElem?_cons_zero:= @List.getElem?_cons_zero
theorem xk:type_of% @List.cons_append:= @List.cons_append
theorem xl:type_of% @List.mem_or_eq_of_mem_set:= @List.mem_or_eq_of_mem_set
theorem xm:type_of% @Array.mem_toList_iff:= @Array.mem_toList_iff
theorem xn:type_of% @List.drop_zero:= @List.drop_zero
theorem xo:type_of% @if_neg:= @if_neg
theorem xp:type_of% @List.mem_cons_of_mem:= @List.mem_cons_of_mem
theorem xq:type_of% @Array.getD_eq_getD_getElem? := @Array.getD_eq_getD_getElem?
theorem xt:type_of% @List.length_singleton:= @List.length_singleton
theorem xu:type_of% @List.getElem?_drop:= @List.getElem?_drop
theorem xw:type_of% @decide_eq_true_eq:= @decide_eq_true_eq
theorem xx:type_of% @List.drop_eq_nil_iff:= @List.drop_eq_nil_iff
theorem xy:type_of% @Nat.lt_of_lt_of_le:= @Nat.lt_of_lt_of_le
theorem xz:type_of% @Nat.zero_le:= @Nat.zero_le
theorem yA:type_of% @Option.bind_some:= @Option.bind_some
theorem yB:type_of% @List.take_of_length_le:= @List.take_of_length_le
theorem yC:type_of% @List.append_nil:= @List.append_nil
theorem yD:type_of% @List.getElem?_take:= @List.getElem?_take
theorem yE:type_of% @List.mem_cons_self:= @List.mem_cons_self
theorem yF:type_of% @Nat.eq_of_beq_eq_true:= @Nat.eq_of_beq_eq_true
theorem yG:type_of% @List.nil_append:= @List.nil_append
theorem yH:type_of% @Nat.le_trans:= @Nat.le_trans
theorem yI:type_of% @beq_iff_eq:= @beq_iff_eq
theorem yJ:type_of% @List.length_eq_one_iff:= @List.length_eq_one_iff
theorem yK:type_of% @List.mem_append_left:= @List.mem_append_left
theorem yL:type_of% @List.mem_of_mem_take:= @List.mem_of_mem_take
theorem yM:type_of% @decide_eq_true:= @decide_eq_true
theorem yN:type_of% @Bool.not_eq_true':= @Bool.not_eq_true'
theorem yO:type_of% @List.getElem_mem:= @List.getElem_mem
theorem yP:type_of% @List.any_eq_true:= @List.any_eq_true
theorem yQ:type_of% @Bool.or_eq_true:= @Bool.or_eq_true
theorem yR:type_of% @Nat.lt_or_ge:= @Nat.lt_or_ge
theorem yS:type_of% @if_true:= @if_true
theorem yT:type_of% @List.flatMap_cons:= @List.flatMap_cons
theorem yU:type_of% @List.not_mem_nil:= @List.not_mem_nil
theorem yV:type_of% @List.nodup_nil:= @List.nodup_nil
theorem yW:type_of% @Array.getElem?_append_left:= @Array.getElem?_append_left
theorem yX:type_of% @List.getD_eq_getElem?_getD:= @List.getD_eq_getElem?_getD
theorem yY:type_of% @List.getElem_of_mem:= @List.getElem_of_mem
theorem yZ:type_of% @Nat.mul_le_mul_right:= @Nat.mul_le_mul_right
theorem y5:type_of% @List.map_congr_left:= @List.map_congr_left
theorem y6:type_of% @beq_eq_false_iff_ne:= @beq_eq_false_iff_ne
theorem y7:type_of% @Array.getElem_toList:= @Array.getElem_toList
theorem y8:type_of% @Nat.add_mul:= @Nat.add_mul
theorem y9:type_of% @List.mem_of_mem_drop:= @List.mem_of_mem_drop
theorem ya:type_of% @of_decide_eq_false:= @of_decide_eq_false
theorem yb:type_of% @List.length_take:= @List.length_take
theorem yc:type_of% @List.length_drop:= @List.length_drop
theorem yd:type_of% @List.flatMap_append:= @List.flatMap_append
theorem ye:type_of% @List.mem_append_right:= @List.mem_append_right
theorem yf:type_of% @List.getElem?_toArray:= @List.getElem?_toArray
theorem yg:type_of% @List.getElem?_eq_none:= @List.getElem?_eq_none
theorem yh:type_of% @List.getElem?_cons_succ:= @List.getElem?_cons_succ
theorem yi:type_of% @if_false:= @if_false
theorem yj:type_of% @Option.bind_eq_some_iff:= @Option.bind_eq_some_iff
theorem yk:type_of% @Nat.add_assoc:= @Nat.add_assoc
theorem yl:type_of% @Bool.false_eq_true:= @Bool.false_eq_true
theorem ym:type_of% @List.mem_filter:= @List.mem_filter
theorem yn:type_of% @List.any_cons:= @List.any_cons
theorem yo:type_of% @Nat.add_zero:= @Nat.add_zero
theorem yp:type_of% @List.prefix_refl:= @List.prefix_refl
theorem yq:type_of% @List.nodup_iff_pairwise_ne:= @List.nodup_iff_pairwise_ne
theorem yr:type_of% @List.mem_map_of_mem:= @List.mem_map_of_mem
theorem yu:type_of% @List.takeWhile_cons:= @List.takeWhile_cons
theorem yv:type_of% @Array.mem_of_getElem? := @Array.mem_of_getElem?
theorem yx:type_of% @List.map_map:= @List.map_map
theorem yy:type_of% @List.nodup_cons:= @List.nodup_cons
theorem yz:type_of% @Option.map_none:= @Option.map_none
theorem zA:type_of% @Array.getElem?_map:= @Array.getElem?_map
theorem zB:type_of% @and_true:= @and_true
theorem zC:type_of% @Array.getElem_mem:= @Array.getElem_mem
theorem zE:type_of% @List.getElem?_set:= @List.getElem?_set
theorem zF:type_of% @List.nodup_append:= @List.nodup_append
theorem zG:type_of% @not_or:= @not_or
theorem zH:type_of% @Option.getD_some:= @Option.getD_some
theorem zI:type_of% @List.range'_succ:= @List.range'_succ
theorem zJ:type_of% @Nat.lt_succ_self:= @Nat.lt_succ_self
theorem zK:type_of% @List.drop_length:= @List.drop_length
theorem zL:type_of% @Nat.le_add_right:= @Nat.le_add_right
theorem zM:type_of% @Nat.sub_self:= @Nat.sub_self
theorem zN:type_of% @Nat.le_of_lt:= @Nat.le_of_lt
theorem zO:type_of% @List.prefix_append:= @List.prefix_append
theorem zP:type_of% @List.length_set:= @List.length_set
theorem zQ:type_of% @true_and:= @true_and
theorem zR:type_of% @or_false:= @or_false
theorem qt(s:ByteArray):∀(n i:Nat)(r:List UInt8),s.size-i=n→ByteArray.toList.loop s i r=r.reverse ++s.data.toList.drop i
 |0,i,r,h=>by
  rw[ByteArray.toList.loop,xo (by omega),List.drop_eq_nil_of_le (by simp only[xh];show s.size≤i;omega),yC]
 |n+1,i,r,h=>by
  have a:i<s.size:=by omega
  have b:i<s.data.toList.length:=by simpa using a
  rw[ByteArray.toList.loop,xf a,qt s n (i+1) _ (by omega),xZ b]
  have:s.get! i=s.data.toList[i]:=by
   simp only[ByteArray.get!,y7];exact getElem!_pos s.data i (by simpa using b)
  rw[this];simp
theorem ut(s:ByteArray):s.toList=s.data.toList:=by
 rw[ByteArray.toList,qt s s.size 0 [] (by omega)];simp
inductive D where
 |bool (b:Bool)
 |int (k:IntKind) (n:Int)
 |str (s:List UInt8)
 |agg (cs:List D)
 |ro (l:List D)
 |rp (cs:List D)
 |nilp
 |nili
 |ifc
 deriving Inhabited
def D.cells:D→List D
 | .agg cs=>cs
 |x=>[x]
def D.one:D→Bool
 | .agg _=>false
 |_=>true
def D.flat(l:List D):List D:=l.flatMap D.cells
inductive AV where
 |junk
 |d (x:D)
 |nils
 |es
 |vec (k v sz:Nat) (l:List D)
 |sl (k v off len sz:Nat)
 |ptr (k v i off sz:Nat)
 |agg (cs:List AV)
 |tup (vs:List AV)
 |fn (f:Nat) (caps:List AV)
 |mp (k v:Nat)
 |yld (k v:Nat)
 |itr (k v:Nat)
 |iv (t:TypeId) (x:AV)
 |vp (k v:Nat) (l:List D)
 deriving Inhabited
def AV.cells:AV→List AV
 | .agg cs=>cs
 | .d (.agg cs)=>cs.map .d
 |x=>[x]
def AV.one:AV→Bool
 | .junk| .agg _| .tup _| .d (.agg _)=>false
 |_=>true
def AV.stor:AV→Bool
 | .junk| .tup _=>false
 |_=>true
def AV.flat(l:List AV):List AV:=l.flatMap AV.cells
def AV.lone:AV→Bool
 | .agg _| .d (.agg _)=>false
 |_=>true
theorem AV.cells_lone{x:AV}(h:x.lone=true):x.cells=[x]:=by
 cases x with
 |d y=>cases y<;>first|rfl|(simp[AV.lone]at h)
 |agg _=>simp[AV.lone]at h
 |_=>rfl
def aG{a:Type}(f:Nat→a)(k:Nat)(x:a):Nat→a:=fun t=>if t=k then x else f t
theorem af{a:Type}(f:Nat→a)(k:Nat)(x:a):aG f k x k=x:=by simp[aG]
theorem ag{a:Type}(f:Nat→a){k t:Nat}(x:a)(h:t≠k):aG f k x t=f t:=by simp[aG,h]
theorem Fa{a:Type}(f:Nat→a){k t:Nat}(x y:a)(h:t≠k):aG (aG f k x) t y=aG (aG f t y) k x:=by
 funext s;simp only[aG];by_cases b:s=t<;>by_cases h2:s=k<;>simp_all
def ah:List (Nat×AV)→Nat→AV
 |[]=>fun _=> .junk
 |(k,x)::r=>aG (ah r) k x
theorem mY(env:Nat→AV):∀(l:List (Nat×AV)),(∀p∈l,p.2=env p.1)→∀t,ah l t=env t∨ah l t= .junk
 |[],_,t=> .inr rfl
 |(k,x)::r,h,t=>by
  by_cases a:t=k
  ·subst a
   left;simp only[ah,af];exact h (t,x) (by simp)
  ·simp only[ah,ag _ _ a]
   exact mY env r (fun p hp=>h p (by simp[hp])) t
inductive LSt where
 |ready
 |busy
 |done (c:Code)
def LSt.state:LSt→LoopState
 | .ready=> .ready
 | .busy=> .busy
 | .done _=> .done
def LSt.pending:LSt→Option Code
 | .done c=>some c
 |_=>none
inductive Ob where
 |arr (sz:Nat) (es:List AV)
 |map (es:List (D×D×Nat)) (clock:Nat)
 |lp (fno N:Nat) (env:List (Nat×AV)) (ps:Array Nat) (YU bd:Code) (st:LSt)
 |itr (km vm since:Nat) (seen:List Nat)
 |typ (k v:Nat) (T:TypeId) (n:Option Nat)
 deriving Inhabited
def Ob.flex:Ob→Bool
 | .arr _ _=>true
 | .typ _ _ _ _=>true
 |_=>false
def je:Option Ob→Bool
 |some o=> !o.flex
 |none=>false
theorem hX{o:Option Ob}(h:je o=true):∃x,o=some x∧x.flex=false:=by
 cases o with
 |none=>cases h
 |some x=>exact⟨x,rfl,by simpa [je]using h⟩
theorem jf:∀o:Ob,o.flex=false→none≠some o:=fun _ _ e=>by cases e
theorem Fb{k v:Nat}{T:TypeId}{n:Option Nat}:∀o:Ob,o.flex=false→some (.typ k v T n)≠some o:=fun o h e=>by cases e;cases h
theorem ky{sz:Nat}{es:List AV}:∀o:Ob,o.flex=false→some (.arr sz es)≠some o:=fun o h e=>by cases e;cases h
structure aE where
 ver:Nat
 ob:Option Ob
 deriving Inhabited
abbrev aa:=Nat→aE
structure sI where
 b:Nat
 sz:Nat
 cap:Nat
 fr:Nat
 ty:TypeId
structure Gh where
 imm:Nat→Nat→Prop
 loc:Nat→Nat→Option sI
 lim:Nat→Nat
 mloc:Nat→Nat→Option Nat
inductive DRep(imm:Nat→Nat→Prop)(w:World):D→Value→Prop
 |bool (b:Bool):DRep imm w (.bool b) (.bool b)
 |int (k:IntKind) (n:Int):DRep imm w (.int k n) (.int k n)
 |str (l:List UInt8) (s:ByteArray) (h:s.data.toList=l):DRep imm w (.str l) (.string s)
 |nilp:DRep imm w .nilp (.pointer none)
 |nili:DRep imm w .nili .nilIface
 |ifc (t:TypeId) (v:Value):DRep imm w .ifc (.iface t v)
 |agg (cs:List D) (vs:Array Value) (hl:vs.size=cs.length) (h1:∀c∈cs,c.one=true)
     (h:∀(i:Nat)(c:D)(u:Value),cs[i]? =some c→vs[i]? =some u→DRep imm w c u):DRep imm w (.agg cs) (.agg vs)
 |roNil (ao:Option Addr) (c:Nat):DRep imm w (.ro []) (.slice ao 0 c)
 |ro (l:List D) (b o c sz:Nat) (U:Nat→Value) (hcap:l.length≤c) (hsz:∀e∈l,e.cells.length=sz) (h1:∀e∈D.flat l,e.one=true)
     (hi:∀(t:Nat)(c:D),(D.flat l)[t]? =some c→imm b (o+t)) (hc:∀(t:Nat)(c:D),(D.flat l)[t]? =some c→w.cell? ⟨b,o+t,none⟩=some (U t))
     (hr:∀(t:Nat)(c:D),(D.flat l)[t]? =some c→DRep imm w c (U t)):DRep imm w (.ro l) (.slice (some ⟨b,o,none⟩) l.length c)
 |rp (cs:List D) (b o:Nat) (U:Nat→Value) (h1:∀e∈cs,e.one=true) (hi:∀(t:Nat)(c:D),cs[t]? =some c→imm b (o+t)) (hc:∀(t:Nat)(c:D),cs[t]? =some c→w.cell? ⟨b,o+t,none⟩=some (U t))
     (hr:∀(t:Nat)(c:D),cs[t]? =some c→DRep imm w c (U t)):DRep imm w (.rp cs) (.pointer (some ⟨b,o,none⟩))
inductive Rep(G:Gh)(w:World):AV→Value→Prop
 |junk (v:Value):Rep G w .junk v
 |d {x:D} {v:Value} (h:DRep G.imm w x v):Rep G w (.d x) v
 |nils:Rep G w .nils (.slice none 0 0)
 |es (ao:Option Addr):Rep G w .es (.slice ao 0 0)
 |vecNil (k ver sz:Nat):Rep G w (.vec k ver sz []) (.slice none 0 0)
 |vec (k ver:Nat) (l:List D) (L:sI) (hL:G.loc k ver=some L) (hfr:L.fr=l.length*L.sz) (hlen:l.length≤L.cap) (hsz:∀e∈l,e.cells.length=L.sz)
     (h:DRep G.imm w (.ro l) (.slice (some ⟨L.b,0,none⟩) l.length L.cap)):Rep G w (.vec k ver L.sz l) (.slice (some ⟨L.b,0,none⟩) l.length L.cap)
 |slNil (k ver sz:Nat) (ao:Option Addr):Rep G w (.sl k ver 0 0 sz) (.slice ao 0 0)
 |sl (k ver off len c:Nat) (L:sI) (hL:G.loc k ver=some L) (hc:off+c≤L.cap) (hlen:len≤c):Rep G w (.sl k ver off len L.sz) (.slice (some ⟨L.b,off*L.sz,none⟩) len c)
 |ptr (k ver i off:Nat) (L:sI) (hL:G.loc k ver=some L):Rep G w (.ptr k ver i off L.sz) (.pointer (some ⟨L.b,i*L.sz+off,none⟩))
 |agg (cs:List AV) (vs:Array Value) (hl:vs.size=cs.length) (h1:∀(i:Nat)(u:Value),vs[i]? =some u→u.oneCell'=true)
     (h:∀(i:Nat)(c:AV)(u:Value),cs[i]? =some c→vs[i]? =some u→Rep G w c u):Rep G w (.agg cs) (.agg vs)
 |tup (cs:List AV) (vs:Array Value) (hl:vs.size=cs.length)
     (h:∀(i:Nat)(c:AV)(u:Value),cs[i]? =some c→vs[i]? =some u→Rep G w c u):Rep G w (.tup cs) (.tuple vs)
 |fn (f:Nat) (caps:List AV) (vs:Array Value) (hl:vs.size=caps.length)
     (h:∀(i:Nat)(c:AV)(u:Value),caps[i]? =some c→vs[i]? =some u→Rep G w c u):Rep G w (.fn f caps) (.func (.func f) #[] vs)
 |mp (k ver b:Nat) (hL:G.mloc k ver=some b):Rep G w (.mp k ver) (.map (some b))
 |yld (k ver b:Nat) (hL:G.mloc k ver=some b):Rep G w (.yld k ver) (.func (.yield b) #[] #[])
 |itr (k ver b:Nat) (hL:G.mloc k ver=some b):Rep G w (.itr k ver) (.pointer (some ⟨b,0,none⟩))
 |iv (t:TypeId) {x:AV} (v:Value) (h:Rep G w x v):Rep G w (.iv t x) (.iface t v)
 |vp (k ver:Nat) (l:List D) (L:sI) (hL:G.loc k ver=some L) (h1:L.sz=1) (hlen:l.length≤L.cap)
     (h:DRep G.imm w (.ro l) (.slice (some ⟨L.b,0,none⟩) l.length L.cap)):Rep G w (.vp k ver l) (.pointer (some ⟨L.b,0,none⟩))
theorem DRep.mono{imm d:Nat→Nat→Prop}{w p:World}{x:D}{v:Value}(h:DRep imm w x v)(m:∀b o,imm b o→d b o)
    (hw:∀b o,imm b o→p.cell? ⟨b,o,none⟩=w.cell? ⟨b,o,none⟩):DRep d p x v:=by
 induction h with
 |bool b=>exact .bool b
 |int k n=>exact .int k n
 |str l s h=>exact .str l s h
 |nilp=>exact .nilp
 |nili=>exact .nili
 |ifc t v=>exact .ifc t v
 |agg cs vs r g _ e=>exact .agg cs vs r g e
 |roNil q c=>exact .roNil q c
 |ro l b o c sz U f i g a j _ e=>exact .ro l b o c sz U f i g (fun t c h=>m _ _ (a t c h)) (fun t c h=>(hw _ _ (a t c h)).trans (j t c h)) e
 |rp cs b o U g a j _ e=>exact .rp cs b o U g (fun t c h=>m _ _ (a t c h)) (fun t c h=>(hw _ _ (a t c h)).trans (j t c h)) e
theorem DRep.oneCell{imm:Nat→Nat→Prop}{w:World}{x:D}{v:Value}(h:DRep imm w x v)(a:x.one=true):v.oneCell'=true:=by
 cases h<;>first|rfl|(simp[D.one]at a)
def mu:Obj→Bool
 | .loop _=>true
 | .deferred _=>true
 | .mapIter _ _ _ _=>true
 |_=>false
def mZ:Obj→Bool
 | .loop _=>true
 | .map _ _=>true
 | .mapIter _ _ _ _=>true
 |_=>false
def iV:Obj→Obj→Prop
 | .loop _,o'=>∃r,o'= .loop r
 | .mapIter _ _ _ _,o'=>∃m s q c,o'= .mapIter m s q c
 |o,o'=>o'=o
theorem ei(o:Obj):iV o o:=by cases o<;>first|rfl|exact⟨_,rfl⟩|exact⟨_,_,_,_,rfl⟩
theorem uv{a b c:Obj}(h:iV a b)(k:iV b c):iV a c:=by
 cases a with
 |loop r=>obtain⟨d,rfl⟩:=h;exact k
 |mapIter _ _ _ _=>obtain⟨_,_,_,_,rfl⟩:=h;exact k
 |_=>cases h;exact k
theorem DT{a b:Obj}(h:iV a b)(k:mu a=true):mu b=true:=by
 cases a with
 |loop r=>obtain⟨c,rfl⟩:=h;rfl
 |mapIter _ _ _ _=>obtain⟨_,_,_,_,rfl⟩:=h;rfl
 |_=>cases h;exact k
structure Ext(G:Gh)(w:World)(G':Gh)(w':World):Prop where
 imm:∀b o,G.imm b o→G'.imm b o
 loc:∀k v L,G.loc k v=some L→G'.loc k v=some L
 cell:∀b o,G.imm b o→w'.cell? ⟨b,o,none⟩=w.cell? ⟨b,o,none⟩
 size:w.heap.size≤w'.heap.size
 lim:∀k,G.lim k≤G'.lim k
 nloc:∀k v,v≤G.lim k→G.loc k v=none→G'.loc k v=none
 mloc:∀k v b,G.mloc k v=some b→G'.mloc k v=some b
 kept:∀(b:Nat)(o:Obj),mu o=true→w.heap[b]? =some o→∃o',w'.heap[b]? =some o'∧iV o o'
theorem Ext.refl(G:Gh)(w:World):Ext G w G w:=⟨fun _ _ h=>h,fun _ _ _ h=>h,fun _ _ _=>rfl,xL _,fun _=>xL _,fun _ _ _ h=>h,fun _ _ _ h=>h,fun _ o _ h=>⟨o,h,ei o⟩⟩
theorem Ext.trans{G i d:Gh}{w f c:World}(h:Ext G w i f)(k:Ext i f d c):Ext G w d c:=
 ⟨fun b o x=>k.imm _ _ (h.imm _ _ x),fun a v L x=>k.loc _ _ _ (h.loc _ _ _ x),fun b o x=>(k.cell _ _ (h.imm _ _ x)).trans (h.cell _ _ x),yH h.size k.size,fun a=>yH (h.lim a) (k.lim a),
  fun a v e x=>k.nloc _ _ (yH e (h.lim a)) (h.nloc _ _ e x),fun a v b x=>k.mloc _ _ _ (h.mloc _ _ _ x),fun b o g x=>by
   obtain⟨l,q,j⟩:=h.kept b o g x;obtain⟨p,n,m⟩:=k.kept b l (DT j g) q;exact⟨p,n,uv j m⟩⟩
theorem Rep.mono{G A:Gh}{w z:World}{x:AV}{v:Value}(h:Rep G w x v)(e:Ext G w A z):Rep A z x v:=by
 induction h with
 |junk v=>exact .junk v
 |d h=>exact .d (h.mono e.imm e.cell)
 |nils=>exact .nils
 |es q=>exact .es q
 |vecNil k a sz=>exact .vecNil k a sz
 |vec k a l L j s g r h=>exact .vec k a l L (e.loc _ _ _ j) s g r (h.mono e.imm e.cell)
 |slNil k a sz q=>exact .slNil k a sz q
 |sl k a n u c L j B g=>exact .sl k a n u c L (e.loc _ _ _ j) B g
 |ptr k a i n L j=>exact .ptr k a i n L (e.loc _ _ _ j)
 |agg cs vs p y _ m=>exact .agg cs vs p y m
 |tup cs vs p _ m=>exact .tup cs vs p m
 |fn f o vs p _ m=>exact .fn f o vs p m
 |mp k a b j=>exact .mp k a b (e.mloc _ _ _ j)
 |yld k a b j=>exact .yld k a b (e.mloc _ _ _ j)
 |itr k a b j=>exact .itr k a b (e.mloc _ _ _ j)
 |iv t v _ m=>exact .iv t v m
 |vp k a l L j y g h=>exact .vp k a l L (e.loc _ _ _ j) y g (h.mono e.imm e.cell)
theorem Rep.oneCell{G:Gh}{w:World}{x:AV}{v:Value}(h:Rep G w x v)(a:x.one=true):v.oneCell'=true:=by
 cases h with
 |d h=>exact h.oneCell (by cases h<;>simp_all [AV.one,D.one])
 |_=>first|rfl|(simp[AV.one]at a)
theorem Rep.cells{G:Gh}{w:World}{x:AV}{v:Value}(h:Rep G w x v)(M:x.stor=true):
    v.cells.size=x.cells.length∧(∀u∈v.cells.toList,u.oneCell'=true)∧∀(i:Nat)(c:AV)(u:Value),x.cells[i]? =some c→v.cells[i]? =some u→Rep G w c u:=by
 have a:∀(y:AV)(u:Value),Rep G w y u→u.oneCell'=true→y.cells=[y]→u.cells= #[u]→
     u.cells.size=y.cells.length∧(∀t∈u.cells.toList,t.oneCell'=true)∧∀(i:Nat)(c:AV)(t:Value),y.cells[i]? =some c→u.cells[i]? =some t→Rep G w c t:=by
  intro y u E q N p;rw[N,p];refine⟨rfl,fun t D=> ?_,fun i c t j D=> ?_⟩
  ·simp at D;subst D;exact q
  ·cases i with
   |zero=>simp at j D;subst j;subst D;exact E
   |succ i=>simp at j
 cases h with
 |junk=>simp[AV.stor]at M
 |tup=>simp[AV.stor]at M
 |d h=>
  cases h with
  |agg cs vs H q h=>
   refine⟨by simp[Value.cells,AV.cells,H],fun u p=> ?_,fun i c u j p=> ?_⟩
   ·simp only[Value.cells,xm]at p
    obtain⟨i,r,rfl⟩:=Array.mem_iff_getElem.1 p;have j:cs[i]? =some (cs[i]'(by omega)):=xD _;exact(h i _ _ j (xI r)).oneCell (q _ (yO _))
   ·simp only[AV.cells,xN,xB]at j
    obtain⟨c',J,rfl⟩:=j;exact .d (h i c' u J p)
  |bool b=>exact a _ _ (.d (.bool b)) rfl rfl rfl
  |int k n=>exact a _ _ (.d (.int k n)) rfl rfl rfl
  |str l s h=>exact a _ _ (.d (.str l s h)) rfl rfl rfl
  |nilp=>exact a _ _ (.d .nilp) rfl rfl rfl
  |nili=>exact a _ _ (.d .nili) rfl rfl rfl
  |ifc t v=>exact a _ _ (.d (.ifc t v)) rfl rfl rfl
  |roNil C c=>exact a _ _ (.d (.roNil C c)) rfl rfl rfl
  |ro l b o c sz U F z q r j E=>exact a _ _ (.d (.ro l b o c sz U F z q r j E)) rfl rfl rfl
  |rp cs b o U q r j E=>exact a _ _ (.d (.rp cs b o U q r j E)) rfl rfl rfl
 |nils=>exact a _ _ .nils rfl rfl rfl
 |es C=>exact a _ _ (.es C) rfl rfl rfl
 |vecNil k e sz=>exact a _ _ (.vecNil k e sz) rfl rfl rfl
 |vec k e l L m I g z h=>exact a _ _ (.vec k e l L m I g z h) rfl rfl rfl
 |slNil k e sz C=>exact a _ _ (.slNil k e sz C) rfl rfl rfl
 |sl k e A K c L m j g=>exact a _ _ (.sl k e A K c L m j g) rfl rfl rfl
 |ptr k e i A L m=>exact a _ _ (.ptr k e i A L m) rfl rfl rfl
 |agg cs vs H q h=>
  refine⟨by simp[Value.cells,AV.cells,H],fun u p=> ?_,fun i c u j p=>h i c u j p⟩;simp only[Value.cells,xm]at p;obtain⟨i,r,rfl⟩:=Array.mem_iff_getElem.1 p;exact q i _ (xI r)
 |fn f B vs H h=>exact a _ _ (.fn f B vs H h) rfl rfl rfl
 |mp k e b m=>exact a _ _ (.mp k e b m) rfl rfl rfl
 |yld k e b m=>exact a _ _ (.yld k e b m) rfl rfl rfl
 |itr k e b m=>exact a _ _ (.itr k e b m) rfl rfl rfl
 |iv t v h=>exact a _ _ (.iv t v h) rfl rfl rfl
 |vp k e l L m q g h=>exact a _ _ (.vp k e l L m q g h) rfl rfl rfl
def frz:AV→AV
 | .vec _ _ _ l=> .d (.ro l)
 |x=>x
theorem Rep.frz{G:Gh}{w:World}{x:AV}{v:Value}(h:Rep G w x v):Rep G w (frz x) v:=by
 cases h with
 |vecNil k a sz=>exact .d (.roNil none 0)
 |vec k a l L g u e r h=>exact .d h
 |junk=>exact .junk _
 |d h=>exact .d h
 |nils=>exact .nils
 |es o=>exact .es o
 |slNil k a sz o=>exact .slNil k a sz o
 |sl k a j p c L g s e=>exact .sl k a j p c L g s e
 |ptr k a i j L g=>exact .ptr k a i j L g
 |agg cs vs n q h=>exact .agg cs vs n q h
 |tup cs vs n h=>exact .tup cs vs n h
 |fn f m vs n h=>exact .fn f m vs n h
 |mp k a b g=>exact .mp k a b g
 |yld k a b g=>exact .yld k a b g
 |itr k a b g=>exact .itr k a b g
 |iv t v h=>exact .iv t v h
 |vp k a l L g q e h=>exact .vp k a l L g q e h
theorem bM{b c:Type}(f:b→List c)(sz:Nat):∀(l:List b),(∀e∈l,(f e).length=sz)→∀i j,j<sz→(l.flatMap f)[i*sz+j]? =(l[i]?).bind fun e=>(f e)[j]?
 |[],_,i,j,_=>by simp
 |e::l,h,i,j,g=>by
  have a:=h e (by simp);cases i with
  |zero=>
   simp only[yT,Nat.zero_mul,x8,xj,yA];rw[xQ (by omega)]
  |succ i=>
   simp only[yT,yh];rw[xV (by rw[a,Nat.succ_mul];omega),a];have:(i+1)*sz+j-sz=i*sz+j:=by rw[Nat.succ_mul];omega
   rw[this];exact bM f sz l (fun d h'=>h d (by simp[h'])) i j g
theorem cG{a b:Type}(f:a→List b)(sz:Nat):∀(l:List a),(∀e∈l,(f e).length=sz)→(l.flatMap f).length=l.length*sz
 |[],_=>by simp
 |e::l,h=>by
  simp only[yT,xK,xG,Nat.succ_mul];rw[h e (by simp),cG f sz l (fun c h'=>h c (by simp[h']))];omega
def T9(G:Gh)(B:Nat)(w:World)(L:sI):Prop:=
 B≤L.b∧(∃arr e,w.heap[L.b]? =some (.cells arr e (0,0))∧arr.size=L.cap*L.sz∧e=L.ty)∧(∀o,G.imm L.b o→o<L.fr)
def ObRep(G:Gh)(w:World)(k a:Nat):Ob→Prop
 | .arr sz es=>(es=[]∧G.loc k a=none)∨∃L,G.loc k a=some L∧L.sz=sz∧L.fr=0∧es.length≤L.cap∧(∀e∈es,e.cells.length=sz)∧(sz=1→∀e∈es,e.lone=true)∧
     ∀t c,(AV.flat es)[t]? =some c→∃u,w.cell? ⟨L.b,t,none⟩=some u∧u.oneCell'=true∧Rep G w c u
 | .map _ _=>True
 | .lp _ _ _ _ _ _ _=>True
 | .itr _ _ _ _=>True
 | .typ d v' T n=>v'≤G.lim d∧∀L,G.loc d v'=some L→L.ty=T∧∀m,n=some m→L.cap*L.sz=m
inductive DU where
 |indexByte
 |same
class aH where
 tab:Nat→Option (List D)
 once:Option Nat
 ext:Nat→Option DU:=fun _=>none
variable[aH]
def Globs(imm:Nat→Nat→Prop)(w:World):Prop:=∀g cs,aH.tab g=some cs→DRep imm w (.rp cs) (.pointer (some ⟨g,0,none⟩))
theorem Globs.mono{imm a:Nat→Nat→Prop}{w c:World}(h:Globs imm w)(d:∀b o,imm b o→a b o)(hw:∀b o,imm b o→c.cell? ⟨b,o,none⟩=w.cell? ⟨b,o,none⟩):Globs a c:=fun g cs e=>(h g cs e).mono d hw
def DV(imm:Nat→Nat→Prop)(w:World)(b:Nat)(es:List (D×D×Nat))(c:Nat):Prop:=
 ∃a:Array MapEntry,w.heap[b]? =some (.map a c)∧a.size=es.length∧∀(i:Nat)(e:D×D×Nat)(m:MapEntry),es[i]? =some e→a[i]? =some m→DRep imm w e.1 m.key∧DRep imm w e.2.1 m.val∧m.born=e.2.2
structure LRep(G:Gh)(w:World)(N:Nat)(env:List (Nat×AV))(ps:Array Nat)(YU bd:Code)(st:LSt)(r:Loop):Prop where
 size:r.tmps.size=N
 rep:∀t,t<N→Rep G w (ah env t) (r.tmps.getD t undef)
 out:∀t,N≤t→ah env t= .junk
 ps:r.params=ps
 YU:r.assign=YU
 bd:r.body=bd
 state:r.state=st.state
 pending:r.pending=st.pending
theorem LRep.mono{G b:Gh}{w c:World}{N:Nat}{env:List (Nat×AV)}{ps:Array Nat}{YU bd:Code}{a:LSt}{r:Loop}(h:LRep G w N env ps YU bd a r)(e:Ext G w b c):LRep b c N env ps YU bd a r:=
 ⟨h.size,fun t d=>(h.rep t d).mono e,h.out,h.ps,h.YU,h.bd,h.state,h.pending⟩
structure MR(G:Gh)(B:Nat)(h:aa)(w:World):Prop where
 low:∀k v b,G.mloc k v=some b→B≤b∧(∃o,mZ o=true∧w.heap[b]? =some o)∧v≤(h k).ver
 inj:∀k k' b,je (h k).ob=true→je (h k').ob=true→G.mloc k (h k).ver=some b→G.mloc k' (h k').ver=some b→k=k'
 obj:∀k es c,(h k).ob=some (.map es c)→∃b,G.mloc k (h k).ver=some b∧DV G.imm w b es c
 loops:∀k fno N env ps YU bd st,(h k).ob=some (.lp fno N env ps YU bd st)→∃b r,G.mloc k (h k).ver=some b∧w.heap[b]? =some (.loop r)∧LRep G w N env ps YU bd st r
 iters:∀k km vm since seen,(h k).ob=some (.itr km vm since seen)→∃b bm sa c0,G.mloc k (h k).ver=some b∧G.mloc km vm=some bm∧w.heap[b]? =some (.mapIter (some bm) since sa c0)∧sa.toList=seen∧c0=since
 glob:Globs G.imm w
structure HR(G:Gh)(B:Nat)(w0:World)(I0:Nat→Nat→Prop)(h:aa)(w:World):Prop where
 below:Below B w0 w
 bsz:B≤w.heap.size
 immlt:∀b o,G.imm b o→b<w.heap.size
 i0:∀b o,I0 b o→G.imm b o
 immlow:∀b o,G.imm b o→b<B→I0 b o
 fresh:∀k v L,G.loc k v=some L→v≤(h k).ver
 own:∀k L,G.loc k (h k).ver=some L→T9 G B w L
 dis:∀k k' L L',G.loc k (h k).ver=some L→G.loc k' (h k').ver=some L'→L.b=L'.b→k=k'
 objs:∀k ob,(h k).ob=some ob→ObRep G w k (h k).ver ob
 lim:∀k,G.lim k=(h k).ver
 maps:MR G B h w
theorem MR.step{G z:Gh}{B:Nat}{h h':aa}{w A:World}(hm:MR G B h w)(e:Ext G w z A)(n:z.mloc=G.mloc)(t:∀(b:Nat) o,mZ o=true→w.heap[b]? =some o→A.heap[b]? =some o)
    (P:∀k,(h k).ver≤(h' k).ver) (d:∀(k:Nat)(o:Ob),o.flex=false→(h' k).ob=some o→h' k=h k):MR z B h' A:=by
 refine⟨fun k v b a=> ?_,fun k E b l l' a q=> ?_,fun k es c a=> ?_,fun k u N env ps YU bd S a=> ?_,fun k K O g seen a=> ?_,hm.glob.mono e.imm e.cell⟩
 ·rw[n]at a
  obtain⟨p,⟨o,d,h2⟩,j⟩:=hm.low k v b a;exact⟨p,⟨o,d,t _ _ d h2⟩,yH j (P k)⟩
 ·obtain⟨o,l,f⟩:=hX l
  obtain⟨o',l',F⟩:=hX l';have H:=d k o f l;have D:=d E o' F l';rw[n,H]at a;rw[n,D]at q;exact hm.inj k E b (by rw[←H,l];simp[je,f]) (by rw[←D,l'];simp[je,F]) a q
 ·have s:=d k _ rfl a
  rw[s]at a ⊢;obtain⟨b,p,L,h2,j,y⟩:=hm.obj k es c a;refine⟨b,by rw[n];exact p,L,t _ _ rfl h2,j,fun i x m M C=> ?_⟩;obtain⟨J,I,R⟩:=y i x m M C;exact⟨J.mono e.imm e.cell,I.mono e.imm e.cell,R⟩
 ·have s:=d k _ rfl a
  rw[s]at a ⊢;obtain⟨b,r,p,h2,j⟩:=hm.loops k u N env ps YU bd S a;exact⟨b,r,by rw[n];exact p,t _ _ rfl h2,j.mono e⟩
 ·have s:=d k _ rfl a
  rw[s]at a ⊢;obtain⟨b,U,T,Q,p,h2,j,y⟩:=hm.iters k K O g seen a;exact⟨b,U,T,Q,by rw[n];exact p,by rw[n];exact h2,t _ _ rfl j,y⟩
theorem HR.blt{G:Gh}{B:Nat}{w0 w:World}{I0:Nat→Nat→Prop}{h:aa}(c:HR G B w0 I0 h w){k:Nat}{L:sI}(d:G.loc k (h k).ver=some L):L.b<w.heap.size:=by
 obtain⟨_,⟨arr,e,a,_⟩,_⟩:=c.own k L d;exact(xR.1 a).1
end Go.Avm
namespace Go.Avm
variable[aH]
structure Out where
 val:AV
 wr:List (Nat×aE):=[]
 rd:List Nat:=[]
 ob:List (Nat×List D×List D):=[]
inductive Obl where
 |data (c:Nat×List D×List D)
 |heap (f:Nat) (args:List AV) (h:aa) (rs:List AV) (h':aa)
 |frame (f:Nat) (args:List AV) (pre:List (Nat×aE)) (rs:List AV) (post:List (Nat×aE))
 |yield (k v:Nat) (args:List AV) (h:aa) (rs:List AV) (h':aa)
 |exact(f:Nat) (args:List AV) (pre:List Nat) (h0:aa) (rs:List AV) (post:List Nat) (h1:aa)
inductive W7 where
 |heap (rs:List AV) (h':aa) (tk:List Nat)
 |frame (pre:List (Nat×aE)) (rs:List AV) (post:List (Nat×aE))
 |exact(pre:List Nat) (h0:aa) (rs:List AV) (post:List Nat) (h1:aa)
structure ic where
 ret:Nat→List D:=fun _=>[]
 obm:Nat→Bool:=fun _=>false
 hc:Nat→Option W7:=fun _=>none
 base:Nat→Nat:=fun _=>0
 deriving Inhabited
def cy(P:Program)(t:TypeId):Bool:=(P.info? t).isSome
def df(P:Program)(t:TypeId):Option Value:=(P.info? t).bind (·.zero)
def lS(P:Program)(t:TypeId):Option Bool:=(P.underlying t).map fun| .struct _| .array _ _=>true|_=>false
def DW:Value→AV
 | .bool b=> .d (.bool b)
 | .int k n=> .d (.int k n)
 | .string s=> .d (.str s.data.toList)
 | .pointer none=> .d .nilp
 | .nilIface=> .d .nili
 | .slice none 0 0=> .nils
 |_=> .junk
def m3:List AV→Option (List D)
 |[]=>some []
 | .d x::r=>if x.one then (m3 r).map (x:: ·)else none
 |_::_=>none
def ig(cs:List AV):AV:=match m3 cs with
 |some ds=> .d (.agg ds)
 |none=> .agg cs
def kz(cs:Array Value):Option (List AV):=if cs.toList.all (·.oneCell')then some (cs.toList.map DW)else none
def I1:Value→AV
 | .agg cs=>match kz cs with
  |some l=>ig l
  |none=> .junk
 |v=>DW v
def opd(env:Nat→AV):Operand→AV
 | .tmp t=>env t
 | .const v=>I1 v
 | .func f=> .fn f []
 | .global g=>match aH.tab g with
  |some cs=> .d (.rp cs)
  |none=> .junk
def ej(f:AV→Option (D×List Nat)):List AV→Option (List D×List Nat)
 |[]=>some ([],[])
 |x::r=>match f x,ej f r with
  |some a,some b=>some (a.1::b.1,a.2 ++b.2)
  |_,_=>none
def view:Nat→aa→AV→Option (D×List Nat)
 |0,_,_=>none
 |n+1,h,x=>
  match x with
  | .d y=>some (y,[])
  | .nils| .es=>some (.ro [],[])
  | .vec _ _ _ l=>some (.ro l,[])
  | .sl k v a b _=>
   match (h k).ob with
   |some (.arr _ es)=>if (h k).ver=v∧a+b≤es.length then (ej (view n h) ((es.drop a).take b)).map fun r=>(.ro r.1,k::r.2)else none
   |_=>none
  | .ptr k v i a _=>
   match (h k).ob with
   |some (.arr sz es)=>
    if (h k).ver=v∧sz=1∧a=0∧i≤es.length then (ej (view n h) (es.drop i)).map fun r=>(.rp r.1,k::r.2)else none
   |_=>none
  | .agg cs=>(ej (view n h) cs).map fun r=>(.agg r.1,r.2)
  |_=>none
abbrev view.go(n:Nat)(h:aa)(l:List AV):Option (List D×List Nat):=ej (view n h) l
def uw:AV→Option D
 | .d y=>some y
 | .nils| .es=>some (.ro [])
 | .vec _ _ _ l=>some (.ro l)
 | .agg cs=>(go cs).map .agg
 |_=>none
where go:List AV→Option (List D)
 |[]=>some []
 | .d y::r=>if y.one then (go r).map (y:: ·)else none
 | .nils::r| .es::r=>(go r).map (.ro []:: ·)
 | .vec _ _ _ l::r=>(go r).map (.ro l:: ·)
 |_::_=>none
def sJ:List AV→Option (List D)
 |[]=>some []
 |x::r=>match uw x,sJ r with
  |some a,some b=>some (a::b)
  |_,_=>none
def D.scal:D→Bool
 | .bool _| .int _ _| .str _| .nilp| .nili| .ifc=>true
 |_=>false
def kill(h:aa)(ks:List Nat):List (Nat×aE):=ks.map fun k=>(k,⟨(h k).ver+1,none⟩)
def kA:List D→AV
 |[x]=> .d x
 |l=> .tup (l.map .d)
def iM(h:aa)(a:AV)(n:Nat):Option (List AV×List Nat):=
 match a with
 | .d (.rp cs)=>if n≤cs.length then some ((cs.take n).map .d,[])else none
 | .ptr k v i b _=>
  match (h k).ob with
  |some (.arr sz es)=>
   if (h k).ver=v then
    if sz=1 then (if b=0∧i+n≤es.length then some ((es.drop i).take n,[k])else none)
    else match es[i]? with
     |some e=>if b+n≤sz then some ((e.cells.drop b).take n,[k])else none
     |none=>none
   else none
  |_=>none
 |_=>none
def gr(P:Program)(t:TypeId)(a:AV)(h:aa):Option Out:=
 match lS P t with
 |some true=>(iM h a (P.cellsOf t)).map fun r=>{val:=ig r.1,rd:=r.2}
 |some false=>match a with
  | .d (.rp (c::_))=>some {val:= .d c}
  | .ptr k v i b _=>
   match (h k).ob with
   |some (.arr sz es)=>
    if (h k).ver=v then
     if sz=1 then (if b=0 then (es[i]?).map fun x=>{val:=x,rd:=[k]}else none)
     else match es[i]? with
      |some e=>(e.cells[b]?).map fun x=>{val:=x,rd:=[k]}
      |none=>none
    else none
   |_=>none
  |_=>none
 |none=>none
def ey(P:Program)(t:TypeId)(a x:AV)(h:aa):Option Out:=
 match a with
 | .ptr k v i b _=>
  match (h k).ob with
  |some (.arr sz es)=>
   if (h k).ver=v∧x.stor=true∧x.cells.length=P.cellsOf t∧cy P t=true then
    if sz=1 then
     if b=0 then
      (if x.one then (if i<es.length then some {val:= .junk,rd:=[k],wr:=[(k,⟨v,some (.arr sz (es.set i x))⟩)]}else none)
       else if i+x.cells.length≤es.length then some {val:= .junk,rd:=[k],wr:=[(k,⟨v,some (.arr sz (es.take i ++x.cells ++es.drop (i+x.cells.length)))⟩)]}else none)
     else none
    else match es[i]? with
     |some e=>
      if b=0∧x.cells.length=sz then some {val:= .junk,rd:=[k],wr:=[(k,⟨v,some (.arr sz (es.set i x))⟩)]}
      else if b+x.cells.length≤sz then some {val:= .junk,rd:=[k],wr:=[(k,⟨v,some (.arr sz (es.set i (ig (e.cells.take b ++x.cells ++e.cells.drop (b+x.cells.length)))))⟩)]}else none
     |none=>none
   else none
  |_=>none
 |_=>none
def newOb(h:aa)(k sz:Nat)(es:List AV):Nat×aE:=(k,⟨(h k).ver+1,some (.arr sz es)⟩)
def mv(P:Program)(t:TypeId):Option (List AV):=(df P t).bind fun z=>kz z.cells
def fL(P:Program)(t:TypeId)(k:Nat)(h:aa):Option Out:=
 match mv P t with
 |some zs=>some {val:= .ptr k ((h k).ver+1) 0 0 1,rd:=[k],wr:=[newOb h k 1 zs]}
 |none=>none
def kB(x:AV)(k:Nat)(h:aa):Option Out:=
 if x.stor then some {val:= .ptr k ((h k).ver+1) 0 0 1,rd:=[k],wr:=[newOb h k 1 x.cells]}else none
def tv(a:Nat→Option (Nat×Nat))(cs:List AV):List (Nat×AV)→Option (List AV)
 |[]=>some cs
 |(i,x)::r=>
  match a i with
  |some (b,c)=>if x.stor=true∧x.cells.length=c∧b+x.cells.length≤cs.length then tv a (cs.take b ++x.cells ++cs.drop (b+x.cells.length)) r else none
  |none=>none
def fieldsOf(P:Program)(t:TypeId):Option (Array Field):=match P.underlying t with
 |some (.struct fs)=>some fs
 |_=>none
def hE(P:Program)(t:TypeId)(i:Nat):Option (Nat×Nat):=(fieldsOf P t).bind fun fs=>(fs[i]?).map fun f=>(f.offset,P.cellsOf f.type)
def kC(P:Program)(t:TypeId):Bool:=match fieldsOf P t with
 |some fs=>fs.toList.all fun f=>(P.info? f.type).isSome
 |none=>false
def qu(P:Program)(t:TypeId)(i:Nat):Option Bool:=(fieldsOf P t).bind fun fs=>(fs[i]?).bind fun f=>lS P f.type
def Lr(P:Program)(t:TypeId):Option TypeId:=match P.underlying t with
 |some (.array _ e)=>if cy P e=true then some e else none
 |_=>none
def ux(P:Program)(t:TypeId)(a:List (Nat×AV)):Option Out:=
 match kC P t,mv P t with
 |true,some zs=>(tv (hE P t) zs a).map fun cs=>{val:=ig cs}
 |false,some zs=>match Lr P t with
  |some e=>(tv (fun i=>some (i*P.cellsOf e,P.cellsOf e)) zs a).map fun cs=>{val:=ig cs}
  |none=>none
 |_,_=>none
def kD:Nat→List (Nat×AV)→Option (List AV)
 |_,[]=>some []
 |n,(i,x)::r=>if i=n then (kD (n+1) r).map (x:: ·)else none
def ez(P:Program)(c:Bool)(t:TypeId)(b:Nat)(a:List (Nat×AV))(k:Nat)(h:aa):Option Out:=
 match P.underlying t with
 |some (.slice e)=>
  match kD 0 a with
  |some xs=>
   if xs.length=b∧b*P.cellsOf e≤65536∧(df P e).isSome=true∧xs.all (fun x=>x.stor&&x.cells.length==P.cellsOf e)=true then
    if c then if P.cellsOf e=1∧xs.all AV.lone=false then none else some {val:= .sl k ((h k).ver+1) 0 b (P.cellsOf e),rd:=[k],wr:=[newOb h k (P.cellsOf e) xs]}
    else match view.go 3 h xs with
     |some r=>
      if k∈r.2 then none else
      some {val:= .vec k ((h k).ver+1) (P.cellsOf e) r.1,rd:=k::r.2,wr:=(k,⟨(h k).ver+1,none⟩)::kill h r.2}
     |none=>none
   else none
  |none=>none
 |_=>none
def fq(P:Program)(t:TypeId)(x c:AV)(h:aa):Option Out:=
 match P.underlying t,c with
 |some (.slice e), .d (.int _ i)=>
  match x with
  | .d (.ro l)| .vec _ _ _ l=>
   if 0≤i then match l[i.toNat]? with
    |some y=>if y.cells.length=P.cellsOf e∧cy P e=true then some {val:= .d (.rp y.cells)}else none
    |none=>none
   else none
  | .sl k v a b sz=>if sz=P.cellsOf e∧cy P e=true∧0≤i∧i.toNat<b then some {val:= .ptr k v (a+i.toNat) 0 sz}else none
  |_=>none
 |some (.array n e), .d (.int _ i)=>
  match x with
  | .ptr k v j a sz=>if sz=1∧a=0∧cy P e=true∧0≤i∧i.toNat<n then some {val:= .ptr k v (j+i.toNat*P.cellsOf e) 0 sz}else none
  | .d (.rp cs)=>if cy P e=true∧0≤i∧i.toNat<n then some {val:= .d (.rp (cs.drop (i.toNat*P.cellsOf e)))}else none
  |_=>none
 |_,_=>none
def kF(P:Program)(t:TypeId)(x:AV)(f:Nat)(h:aa):Option Out:=
 match hE P t f,kC P t with
 |some (b,fs),true=>
  if fs=0 then none else
  match x with
  | .d (.rp cs)=>some {val:= .d (.rp (cs.drop b))}
  | .ptr k v i a sz=>if sz=1 then (if a=0 then some {val:= .ptr k v (i+b) 0 sz}else none)else some {val:= .ptr k v i (a+b) sz}
  |_=>none
 |_,_=>none
def uy(P:Program)(t:TypeId)(x:AV)(f:Nat):Option Out:=
 match hE P t f,qu P t f,x with
 |some (a,fs),some true, .d (.agg cs)=>if a+fs≤cs.length then some {val:= .d (.agg ((cs.drop a).take fs))}else none
 |some (a,_),some false, .d (.agg cs)=>(cs[a]?).map fun c=>{val:= .d c}
 |some (a,fs),some true, .agg cs=>if a+fs≤cs.length then some {val:=ig ((cs.drop a).take fs)}else none
 |some (a,_),some false, .agg cs=>(cs[a]?).map fun c=>{val:=c}
 |_,_,_=>none
def Cr(op:BinOp)(x y:AV):Option AV:=
 match x,y with
 | .d (.int k a), .d (.int c b)=>
  match op with
  | .shl=>if 0≤b then some (.d (.int k (k.wrap (a*2^(min b.toNat k.bits)))))else none
  | .shr=>if 0≤b then some (.d (.int k (a.fdiv (2^(min b.toNat k.bits)))))else none
  |_=>
   if k=c then
    match op with
    | .add=>some (.d (.int k (k.wrap (a+b))))
    | .sub=>some (.d (.int k (k.wrap (a-b))))
    | .mul=>some (.d (.int k (k.wrap (a*b))))
    | .quo=>if b=0 then none else some (.d (.int k (k.wrap (a.tdiv b))))
    | .rem=>if b=0 then none else some (.d (.int k (a.tmod b)))
    | .and=>some (.d (.int k (k.wrap (BitVec.ofInt k.bits a&&&BitVec.ofInt k.bits b).toNat)))
    | .or=>some (.d (.int k (k.wrap (BitVec.ofInt k.bits a|||BitVec.ofInt k.bits b).toNat)))
    | .xor=>some (.d (.int k (k.wrap (BitVec.ofInt k.bits a^^^BitVec.ofInt k.bits b).toNat)))
    | .eql=>some (.d (.bool (a==b)))
    | .neq=>some (.d (.bool (a !=b)))
    | .lss=>some (.d (.bool (decide (a<b))))
    | .leq=>some (.d (.bool (decide (a≤b))))
    | .gtr=>some (.d (.bool (decide (b<a))))
    | .geq=>some (.d (.bool (decide (b≤a))))
    |_=>none
   else none
 | .d (.str a), .d (.str b)=>
  match op with
  | .add=>if a.length+b.length≤9223372036854775807 then some (.d (.str (a ++b)))else none
  | .eql=>some (.d (.bool (a==b)))
  | .neq=>some (.d (.bool (!(a==b))))
  | .lss=>some (.d (.bool (Op.bytesLess a b)))
  | .leq=>some (.d (.bool (Op.bytesLess a b||a==b)))
  | .gtr=>some (.d (.bool (!(Op.bytesLess a b||a==b))))
  | .geq=>some (.d (.bool (!Op.bytesLess a b)))
  |_=>none
 |_,_=>none
def ff:List D→List D→Option Bool
 |[],[]=>some true
 | .int k a::r, .int c b::s=>if k=c then (ff r s).map fun t=>decide (a=b)&&t else none
 |_,_=>none
def wu(P:Program)(t:TypeId)(x y:D):Option Bool:=
 match P.underlying t,x,y with
 |some (.int _), .int k a, .int c b=>if k=c then some (a==b)else none
 |some .bool, .bool a, .bool b=>some (a==b)
 |some .string, .str a, .str b=>some (a==b)
 |_,_,_=>none
def cX(P:Program):List Field→Nat→List D→List D→Option Bool
 |[],_,[],[]=>some true
 |f::fs,i,x::xs,y::ys=>
  if f.name≠ "_"∧f.offset=i∧lS P f.type=some false then
   match wu P f.type x y,cX P fs (i+1) xs ys with
   |some a,some b=>some (a&&b)
   |_,_=>none
  else none
 |_,_,_,_=>none
def ii(P:Program)(e:TypeId):List D→List D→Option Bool
 |[],[]=>some true
 |x::xs,y::ys=>match wu P e x y,ii P e xs ys with
  |some a,some b=>some (a&&b)
  |_,_=>none
 |_,_=>none
def Mp(P:Program)(t:TypeId)(x y:AV):Option Bool:=
 match P.underlying t,x,y with
 |some .bool, .d (.bool a), .d (.bool b)=>some (a==b)
 |some (.struct fs), .d (.agg xs), .d (.agg ys)=>if P.stoodInHeld t=false∧P.eqGuardType P.depth t=false then cX P fs.toList 0 xs ys else none
 |some (.array n e), .d (.agg xs), .d (.agg ys)=>if xs.length=n∧P.cellsOf e=1∧lS P e=some false∧P.eqGuardType P.depth t=false then ii P e xs ys else none
 |_,_,_=>none
def Fc:Operand→Bool
 | .const _=>true
 |_=>false
def Fd(P:Program)(e:TypeId)(x y:AV):Option Bool:=
 match x,y with
 | .d .nilp, .d .nilp=>some true
 | .ptr _ _ _ _ _, .d .nilp| .d .nilp, .ptr _ _ _ _ _| .d (.rp _), .d .nilp| .d .nilp, .d (.rp _)=>some false
 | .ptr k v i c sz, .ptr g v' f a b=>if k=g∧v=v'∧i*sz+c=f*b+a∧cy P e=true∧P.cellsOf e≠0 then some true else none
 |_,_=>none
def Cs(P:Program)(t:TypeId)(a b:Operand)(x y:AV):Option Bool:=
 match Fc a||Fc b,P.underlying t,x,y with
 |true,some (.interface _), .d .nili, .d .nili=>some true
 |true,some (.interface _), .d .ifc, .d .nili=>some false
 |_,some (.interface _), .iv _ _, .d .nili=>some false
 |_,some (.pointer e),x,y=>Fd P e x y
 |_,_,_,_=>Mp P t x y
def Mq(op:UnOp)(x:AV):Option AV:=
 match op,x with
 | .not, .d (.bool b)=>some (.d (.bool (!b)))
 | .neg, .d (.int k n)=>some (.d (.int k (k.wrap (0-n))))
 | .xor, .d (.int k n)=>some (.d (.int k (k.wrap (BitVec.ofInt k.bits (if k.signed then -1 else k.max)^^^BitVec.ofInt k.bits n).toNat)))
 |_,_=>none
def om(P:Program)(src dst:TypeId)(x:AV):Option AV:=
 match P.underlying src,P.underlying dst,x with
 |some (.int _),some (.int k), .d (.int _ n)=>some (.d (.int k (k.wrap n)))
 |_,_,_=>none
def kH(P:Program)(src dst:TypeId)(x:AV):Option Out:=
 match P.underlying src,P.underlying dst,x with
 |some .string,some (.slice e), .d (.str s)=>match P.underlying e with
  |some (.int .u8)=>some {val:= .d (.ro (s.map fun b=> .int .u8 (b.toNat:Int)))}
  |_=>none
 |_,_,_=>none
def mw:List D→Option (List UInt8)
 |[]=>some []
 | .int .u8 n::r=>(mw r).map (UInt8.ofNat n.toNat:: ·)
 |_::_=>none
def oq(P:Program)(src dst:TypeId)(x:AV):Option AV:=
 match P.underlying src,P.underlying dst with
 |some (.slice e),some .string=>match P.underlying e,x with
  |some (.int .u8), .d (.ro l)=>(mw l).map fun b=> .d (.str b)
  |some (.int .u8), .vec _ _ _ l=>(mw l).map fun b=> .d (.str b)
  |_,_=>none
 |_,_=>none
def uz(P:Program)(e:TypeId):Option AV:=
 match df P e with
 |some (.agg cs)=>(kz cs).map ig
 |some z=>if z.oneCell' then some (DW z)else none
 |none=>none
def c8(P:Program)(t:TypeId)(l c:AV)(k:Nat)(h:aa):Option Out:=
 match P.underlying t,l,c with
 |some (.slice e), .d (.int .i64 l), .d (.int .i64 c)=>
  match uz P e with
  |some z=>
   if 0≤l∧l≤c∧c≤1099511627776∧P.bytesOf e≤256∧z.cells.length=P.cellsOf e∧0<P.cellsOf e∧(P.cellsOf e=1→z.lone=true)then
    some {val:= .sl k ((h k).ver+1) 0 l.toNat (P.cellsOf e),rd:=[k],wr:=[newOb h k (P.cellsOf e) (List.replicate l.toNat z)]}
   else none
  |none=>none
 |_,_,_=>none
def dF(b:Option AV)(a:Nat):Option Nat:=
 match b with
 |none=>some a
 |some (.d (.int _ i))=>if 0≤i then some i.toNat else none
 |_=>none
def jH(P:Program)(t:TypeId)(x:AV)(f c i:Option AV):Option Out:=
 match P.underlying t with
 |some (.slice e)=>
  if cy P e=false then none else
  match i with
  |none=>
   match x with
   | .d (.ro l)| .vec _ _ _ l=>
    match dF f 0,dF c l.length with
    |some a,some b=>if a≤b∧b≤l.length∧(a=0∨l.all (fun y=>y.cells.length==P.cellsOf e)=true)then some {val:= .d (.ro ((l.take b).drop a))}else none
    |_,_=>none
   | .nils=>
    match dF f 0,dF c 0 with
    |some 0,some 0=>some {val:= .nils}
    |_,_=>none
   | .sl k v h g sz=>
    match dF f 0,dF c g with
    |some a,some b=>if a=0∧b≤g then some {val:= .sl k v h b sz}else none
    |_,_=>none
   |_=>none
  |some m=>
   if dF f 0=some 0∧dF c 0=some 0∧dF (some m) 0=some 0∧c.isSome=true then
    match x with
    | .d (.ro _)| .vec _ _ _ _| .sl _ _ _ _ _| .nils=>some {val:= .es}
    |_=>none
   else none
 |some .string=>
  match x,i with
  | .d (.str s),none=>
   match dF f 0,dF c s.length with
   |some a,some b=>if a≤b∧b≤s.length then some {val:= .d (.str ((s.take b).drop a))}else none
   |_,_=>none
  |_,_=>none
 |_=>none
def dK(P:Program)(src dst:TypeId)(x:AV)(h:aa):Option Out:=
 match P.underlying src,x with
 |some (.slice e), .vec k v 1 (y::l)=>
  if src=dst∧(h k).ver=v then match P.underlying e with
   |some (.int .u8)=>some {val:= .d (.ro (y::l)),rd:=[k],wr:=kill h [k]}
   |_=>none
  else none
 |_,_=>none
def Fe:AV→Option Nat
 | .d (.ro l)| .vec _ _ _ l=>some l.length
 | .nils| .es=>some 0
 | .sl _ _ _ a _=>some a
 |_=>none
def Ff(P:Program)(t:TypeId)(x:AV):Option Out:=
 match P.underlying t with
 |some (.slice _)=>match Fe x with
  |some n=>some {val:= .d (.int .i64 (n:Int))}
  |none=>none
 |some .string=>match x with
  | .d (.str s)=>some {val:= .d (.int .i64 (s.length:Int))}
  |_=>none
 |_=>none
def m4(c:Bool)(x y:AV):Option Out:=
 match x,y with
 | .d (.int k a), .d (.int _ b)=>some {val:= .d (.int k (if c then (if a<b then b else a)else (if b<a then b else a)))}
 |_,_=>none
def kl(k:Nat):Nat:=k+4611686018427387904
def kI(b:UInt8):D:= .int .u8 (b.toNat:Int)
def ij(h:aa):AV→Option (List D×List Nat)
 | .d (.str s)=>some (s.map kI,[])
 | .d (.ro l)| .vec _ _ _ l=>some (l,[])
 | .nils| .es=>some ([],[])
 | .sl k v a b _=>
  match (h k).ob with
  |some (.arr _ es)=>if (h k).ver=v∧a+b≤es.length then (view.go 2 h ((es.drop a).take b)).bind fun r=>if r.2=[]then some (r.1,[k])else none else none
  |_=>none
 |_=>none
def bW(P:Program)(c:Bool)(t:TypeId)(s x:AV)(k:Nat)(h:aa):Option Out:=
 match P.underlying t with
 |some (.slice e)=>
  match ij h x,df P e with
  |some (news,a),some z=>
   if news.all (fun y=>y.cells.length==P.cellsOf e)=true∧0<P.cellsOf e∧P.bytesOf e≤256∧z.cells.size=P.cellsOf e then
    match s with
    | .nils=>
     if k∈a∨549755813888<news.length then none else
     if c then if P.cellsOf e=1∧news.all D.one=false then none else some {val:= .sl k ((h k).ver+1) 0 news.length (P.cellsOf e),rd:=k::a,wr:=[newOb h k (P.cellsOf e) (news.map .d)]}
     else some {val:= .vec k ((h k).ver+1) (P.cellsOf e) news,rd:=k::a,wr:=[(k,⟨(h k).ver+1,none⟩)]}
    | .es=>
     if k∈a∨549755813888<news.length then none else
     if c then if P.cellsOf e=1∧news.all D.one=false then none else some {val:= .sl k ((h k).ver+1) 0 news.length (P.cellsOf e),rd:=k::a,wr:=[newOb h k (P.cellsOf e) (news.map .d)]}
     else some {val:= .d (.ro news),rd:=a}
    | .vec k v sz l=>
     if (h k).ver=v∧(h k).ob.isNone=true∧k∉a∧sz=P.cellsOf e∧l.length+news.length≤549755813888 then
      some {val:= .vec k (v+1) sz (l ++news),rd:=k::a,wr:=[(k,⟨v+1,none⟩)]}
     else none
    | .sl k v f b _=>
     match (h k).ob with
     |some (.arr sz es)=>
      if (h k).ver=v∧f=0∧b≤es.length∧sz=P.cellsOf e∧b+news.length≤549755813888∧(sz=1→news.all D.one=true)then
       some {val:= .sl k (v+1) 0 (b+news.length) sz,rd:=k::a,wr:=[(k,⟨v+1,some (.arr sz (es.take b ++news.map .d))⟩)]}
      else none
     |_=>none
    |_=>none
   else none
  |_,_=>none
 |_=>none
def sK(P:Program)(t a:TypeId):Bool:=t==a||match P.underlying a with
 |some .string=>true
 |_=>false
def m5(h:aa)(k v:Nat):Option (TypeId×Option Nat):=match (h (kl k)).ob with
 |some (.typ a v' T n)=>if a=k∧v'=v then some (T,n)else none
 |_=>none
def cr(typ:Bool)(T:TypeId)(n:Option Nat)(k v:Nat)(h:aa)(out:Out):Out:=
 if typ=true∧kl k∉out.wr.map (·.1)then {out with rd:=kl k::out.rd,wr:=out.wr ++[(kl k,⟨(h (kl k)).ver,some (.typ k v T n)⟩)]}else out
def AV.isVec:AV→Bool
 | .vec _ _ _ _=>true
 |_=>false
def my(P:Program)(t:TypeId):Bool:=match P.underlying t with
 |some (.slice e)=>match P.underlying e with
  |some (.int .u8)=>true
  |_=>false
 |_=>false
def Qg(P:Program)(t:TypeId):Bool:=match P.info? t with
 |some i=>match i.desc with
  | .named n _=>n== "strings.Builder"
  |_=>false
 |none=>false
def Qh(P:Program)(t:TypeId):Bool:=Qg P t||match P.underlying t with
 |some (.struct fs)=>fs.toList.any fun f=>Qg P f.type
 |_=>false
def dq(P:Program)(b:Bool)(t:TypeId)(s x:AV)(k:Nat)(h:aa):Option Out:=
 match bW P b t s x k h with
 |some out=>match my P t,P.underlying t,out.val with
  |true,some (.slice e), .vec a v' _ _=>
   if v'=(h a).ver+1∧(s.isVec=false∨m5 h a (h a).ver=some (e,none))then some (cr true e none a v' h {out with rd:=a::kl a::out.rd})
   else some {out with rd:=a::kl a::out.rd}
  |_,_,_=>some out
 |none=>none
def fu(P:Program)(t:TypeId)(s x:AV)(h:aa):Option Out:=
 match P.underlying t with
 |some (.slice e)=>match df P e,s,x with
  |some z, .sl k v d a _, .sl g m c b _=>
   match (h k).ob,(h g).ob with
   |some (.arr sz es),some (.arr f [.sl l va j la i])=>
    if (h k).ver=v∧d=0∧a≤es.length∧sz=1∧(h g).ver=m∧c=0∧b=1∧f=1∧P.cellsOf e=1∧P.bytesOf e≤256∧z.cells.size=1∧a+1≤549755813888 then
     some {val:= .sl k (v+1) 0 (a+1) 1,rd:=[k,g],wr:=[(k,⟨v+1,some (.arr 1 (es.take a ++[.sl l va j la i]))⟩)]}
    else none
   |_,_=>none
  |_,_,_=>none
 |_=>none
theorem AX{h:aa}{i j k g e va f la d:Nat}(c:(h i).ob=some (.arr g [.sl e va f la d])):ij h (.sl i j 0 1 k)=none:=by
 simp only[ij,c];split;case isFalse=>rfl
 show(ej (view 2 h) [AV.sl e va f la d]).bind _=none;simp only[ej];cases b:view 2 h (.sl e va f la d)with
 |none=>rfl
 |some a=>
  have:a.2≠[]:=by
   simp only[view]at b;split at b
   ·split at b
    ·simp only[xB]at b
     obtain⟨r,_,rfl⟩:=b;simp
    ·cases b
   ·cases b
  simp only[yA,yC];rw[xo this]
theorem kJ{P:Program}{b:Bool}{t:TypeId}{s:AV}{k:Nat}{h:aa}{d f g c j va l la i:Nat}(a:(h d).ob=some (.arr c [.sl j va l la i])):dq P b t s (.sl d f 0 1 g) k h=none:=by
 have e:bW P b t s (.sl d f 0 1 g) k h=none:=by
  unfold bW;rw[AX a];split
  ·rfl
  ·rfl
 unfold dq;rw[e]
def fv(P:Program)(src dst:TypeId)(x:AV)(h:aa):Option Out:=
 match P.underlying src,P.underlying dst,x with
 |some (.pointer t),some .unsafePointer, .ptr k v i a sz=>
  match m5 h k v with
  |some (_,some n)=>if (h k).ver=v∧cy P t=true∧P.cellsOf t≠0∧i*sz+a<n then some {val:= .ptr k v i a sz,rd:=[k,kl k]}else none
  |_=>none
 |some .unsafePointer,some (.pointer u), .ptr k v i a sz=>
  match m5 h k v with
  |some (T,some n)=>if (h k).ver=v∧cy P u=true∧liesAt P P.depth T (n/P.cellsOf T) (i*sz+a) u 1=true then some {val:= .ptr k v i a sz,rd:=[k,kl k]}else none
  |_=>none
 |_,_,_=>none
def qv(P:Program)(src dst:TypeId)(x:AV)(h:aa):Option Out:=
 match kH P src dst x with
 |some out=>some out
 |none=>match oq P src dst x with
  |some v=>some {val:=v}
  |none=>match om P src dst x with
   |some v=>some {val:=v}
   |none=>match dK P src dst x h with
    |some out=>some out
    |none=>fv P src dst x h
def kK(x:AV):Option AV:=
 match x with
 | .vec k v sz (y::l)=>if sz=1 then some (.vp k v (y::l))else none
 | .nils=>some (.d .nilp)
 |_=>none
def qw:List D→Option (List UInt8)
 |[]=>some []
 | .int .u8 n::r=>if n=((UInt8.ofNat n.toNat).toNat:Int)then (qw r).map (UInt8.ofNat n.toNat:: ·)else none
 |_::_=>none
def dr(P:Program)(a:TypeId)(x n:AV)(h:aa):Option Out:=
 match P.underlying a,x,n with
 |some (.pointer u), .vp k v l, .d (.int .i64 m)=>
  match m5 h k v,qw l with
  |some (T,none),some b=>
   if (h k).ver=v∧T=u∧l≠[]∧m=(l.length:Int)∧P.cellsOf u=1∧l.length≤9223372036854775807 then some {val:= .d (.str b),rd:=[k,kl k],wr:=kill h [k]}else none
  |_,_=>none
 |_,_,_=>none
def kL(P:Program)(t:TypeId)(x:AV):Option AV:=
 match P.underlying t with
 |some (.interface _)=>none
 |some _=>some (.iv t x)
 |none=>none
def qx(P:Program)(a:TypeId)(ok:Bool)(x:AV):Option AV:=
 match P.underlying a,x with
 |some (.interface _),_=>none
 |some _, .iv t y=>
  if t=a then some (if ok=true then .tup [y, .d (.bool true)]else y)
  else if ok=true then (df P a).map fun z=> .tup [I1 z, .d (.bool false)]else none
 |some _, .d .nili=>if ok=true then (df P a).map fun z=> .tup [I1 z, .d (.bool false)]else none
 |_,_=>none
def jg:D→D→Option Bool
 | .int k a, .int c b=>if k=c then some (a==b)else none
 | .str a, .str b=>some (a==b)
 | .agg a, .agg b=>ff a b
 |_,_=>none
def cj(x:D):List (D×D×Nat)→Nat→Option (Option (Nat×D))
 |[],_=>some none
 |e::r,i=>match jg x e.1 with
  |some true=>some (some (i,e.2.1))
  |some false=>cj x r (i+1)
  |none=>none
def ek(x y:D):Nat→List (D×D×Nat)→List (D×D×Nat)
 |_,[]=>[]
 |0,e::r=>(x,y,e.2.2)::r
 |n+1,e::r=>e::ek x y n r
def dt(P:Program):List Field→Nat→List D→Bool
 |[],_,[]=>true
 |f::fs,i, .int k _::xs=>(decide (f.name≠ "_")&&(f.offset==i&&(lS P f.type==some false&&(match P.underlying f.type with
  |some (.int a)=>decide (k=a)
  |_=>false))))&&dt P fs (i+1) xs
 |_,_,_=>false
def jh(P:Program)(t:TypeId)(x:D):Bool:=match P.underlying t,x with
 |some (.int k), .int a _=>decide (k=a)
 |some .string, .str _=>true
 |some (.struct fs), .agg xs=>P.stoodInHeld t==false&&dt P fs.toList 0 xs
 |_,_=>false
def fw(k:Nat)(h:aa):Option Out:=some {val:= .mp k ((h k).ver+1),rd:=[k],wr:=[(k,⟨(h k).ver+1,some (.map [] 0)⟩)]}
def ce(P:Program)(t:TypeId)(m a x:AV)(h:aa):Option Out:=
 match P.underlying t,m,a,x with
 |some (.map kt _), .mp k v, .d kd, .d b=>
  match (h k).ob with
  |some (.map es c)=>
   if (h k).ver=v∧jh P kt kd=true then
    match cj kd es 0 with
    |some (some (i,_))=>some {val:= .junk,rd:=[k],wr:=[(k,⟨v,some (.map (ek kd b i es) c)⟩)]}
    |some none=>some {val:= .junk,rd:=[k],wr:=[(k,⟨v,some (.map (es ++[(kd,b,c)]) (c+1))⟩)]}
    |none=>none
   else none
  |_=>none
 |_,_,_,_=>none
def eY(P:Program)(t:TypeId)(m a:AV)(ok:Bool)(h:aa):Option Out:=
 match P.underlying t,m,a with
 |some (.map kt et), .mp k v, .d kd=>
  match (h k).ob with
  |some (.map es _)=>
   if (h k).ver=v∧jh P kt kd=true then
    match cj kd es 0 with
    |some (some (_,y))=>some {val:=if ok=true then .tup [.d y, .d (.bool true)]else .d y,rd:=[k]}
    |some none=>match df P et with
     |some z=>some {val:=if ok=true then .tup [I1 z, .d (.bool false)]else I1 z,rd:=[k]}
     |none=>none
    |none=>none
   else none
  |_=>none
 |_,_,_=>none
def fM(P:Program)(t:TypeId)(k v:Nat)(h:aa):Option Out:=
 match P.underlying t with
 |some (.map _ _)=>match (h k).ob with
  |some (.map es _)=>if (h k).ver=v then some {val:= .d (.int .i64 (es.length:Int)),rd:=[k]}else none
  |_=>none
 |_=>none
def p0(P:Program)(t:TypeId)(x a:AV):Option AV:=
 match P.underlying t,x,a with
 |some .string, .d (.str s), .d (.int _ i)=>if 0≤i then (s[i.toNat]?).map fun b=> .d (.int .u8 (b.toNat:Int))else none
 |_,_,_=>none
def gX(cfg:ic)(i f:Nat)(args:List AV)(h:aa):Option Out:=
 match sJ args with
 |some ds=>some {val:=kA (cfg.ret i),ob:=[(f,ds,cfg.ret i)]}
 |none=>match view.go 12 h args with
  |some r=>if (cfg.ret i).all D.scal=true then some {val:=kA (cfg.ret i),rd:=r.2,ob:=[(f,r.1,cfg.ret i)]}else none
  |none=>none
def m6(c:UInt8):List UInt8→Nat→Option Nat
 |[],_=>none
 |x::r,i=>if x==c then some i else m6 c r (i+1)
def Mr(k:DU)(ds:List D):Option D:=
 match k,ds with
 | .indexByte,[.str s, .int .u8 c]=>some (.int .i64 (match m6 c.toNat.toUInt8 s 0 with
  |some i=>(i:Int)
  |none=> -1))
 |_,_=>none
def br(P:Program)(cfg:ic)(i:Nat)(c:Call)(ρ:Operand→AV)(h:aa)(k:Nat):Option Out:=
 match c.callee with
 | .builtin .len=>match c.args.toList,c.argTypes.toList with
  |[x],[t]=>match ρ x with
   | .mp k v=>fM P t k v h
   |_=>Ff P t (ρ x)
  |_,_=>none
 | .builtin .min=>match c.args.toList with
  |[x,y]=>m4 false (ρ x) (ρ y)
  |_=>none
 | .builtin .max=>match c.args.toList with
  |[x,y]=>m4 true (ρ x) (ρ y)
  |_=>none
 | .builtin .append=>match c.args.toList,c.argTypes.toList with
  |[s,x],[t,b]=>if sK P t b=true then (match dq P (cfg.obm i) t (ρ s) (ρ x) k h with
   |some out=>some out
   |none=>fu P t (ρ s) (ρ x) h)else none
  |_,_=>none
 | .builtin .unsafeSliceData=>match c.args.toList with
  |[x]=>(kK (ρ x)).map fun v=>{val:=v}
  |_=>none
 | .builtin .unsafeString=>match c.args.toList,c.argTypes.toList with
  |[x,n],[e,_]=>dr P e (ρ x) (ρ n) h
  |_,_=>none
 | .value f=>match ρ f with
  | .fn g a=>match aH.ext g with
   |some .same=>match c.args.toList.map ρ ++a with
    |[x]=>some {val:=x}
    |_=>none
   |some k=>match sJ (c.args.toList.map ρ ++a)with
    |some ds=>(Mr k ds).map fun d=>{val:= .d d}
    |none=>none
   |none=>gX cfg i g (c.args.toList.map ρ ++a) h
  |_=>none
 |_=>none
def b6(P:Program)(cfg:ic)(i:Nat)(o:Oper)(ρ:Operand→AV)(h:aa):Option Out:=
 match o.op with
 | .move x| .assign x=>some {val:=ρ x}
 | .pick c a b=>match ρ c with
  | .d (.bool t)=>some {val:=if t=true then ρ a else ρ b}
  |_=>none
 | .alloc t=>(fL P t (cfg.base i+o.dst.getD 0) h).map (cr (Qh P t) t ((mv P t).map List.length) (cfg.base i+o.dst.getD 0) ((h (cfg.base i+o.dst.getD 0)).ver+1) h)
 | .box t x=>(kB (ρ x) (cfg.base i+o.dst.getD 0) h).map (cr (Qh P t) t (some (ρ x).cells.length) (cfg.base i+o.dst.getD 0) ((h (cfg.base i+o.dst.getD 0)).ver+1) h)
 | .makeInterface t x=>(kL P t (ρ x)).map fun v=>{val:=v}
 | .typeAssert x _ t ok=>(qx P t ok (ρ x)).map fun v=>{val:=v}
 | .build t e=>ux P t ((e.toList.map fun p=>(p.1,ρ p.2)).map fun p=>(p.1,frz p.2))
 | .buildSlice t r e=>ez P (cfg.obm i) t r (e.toList.map fun p=>(p.1,ρ p.2)) (cfg.base i+o.dst.getD 0) h
 | .load t a=>gr P t (ρ a) h
 | .store t a x=>ey P t (ρ a) (ρ x) h
 | .nilCheck x=>match ρ x with
  | .ptr k v j q sz=>some {val:= .ptr k v j q sz}
  | .d (.rp cs)=>some {val:= .d (.rp cs)}
  |_=>none
 | .binOp op t x y _=>match Cr op (ρ x) (ρ y)with
  |some v=>some {val:=v}
  |none=>match op with
   | .eql=>(Cs P t x y (ρ x) (ρ y)).map fun b=>{val:= .d (.bool b)}
   | .neq=>(Cs P t x y (ρ x) (ρ y)).map fun b=>{val:= .d (.bool (!b))}
   |_=>none
 | .unOp op _ x=>(Mq op (ρ x)).map fun v=>{val:=v}
 | .convert src dst x=>qv P src dst (ρ x) h
 | .makeFunc (.func f) first g=>if first.isEmpty then some {val:= .fn f (g.toList.map ρ)}else none
 | .makeSlice t l c=>c8 P t (ρ l) (ρ c) (cfg.base i+o.dst.getD 0) h
 | .slice t x w s u=>jH P t (ρ x) (w.map ρ) (s.map ρ) (u.map ρ)
 | .fieldAddr t x f=>kF P t (ρ x) f h
 | .field t x f=>uy P t (ρ x) f
 | .indexAddr t x n=>fq P t (ρ x) (ρ n) h
 | .makeMap _ none=>fw (cfg.base i+o.dst.getD 0) h
 | .mapUpdate t m k x| .insert t m k x=>ce P t (ρ m) (ρ k) (ρ x) h
 | .lookup t m k ok=>eY P t (ρ m) (ρ k) ok h
 | .index t x n=>(p0 P t (ρ x) (ρ n)).map fun v=>{val:=v}
 | .extract t n=>match ρ t with
  | .tup vs=>(vs[n]?).map fun v=>{val:=v}
  |_=>none
 | .call c=>br P cfg i c ρ h (cfg.base i+o.dst.getD 0)
 |_=>none
structure St where
 env:Nat→AV
 heap:aa
def ap(h:aa):List (Nat×aE)→aa
 |[]=>h
 |(k,e)::r=>ap (aG h k e) r
def jI(a:List Nat)(b:aa):List (Nat×aE):=a.map fun k=>(k,b k)
def ae:List (Nat×aE)→aa→aa
 |[],h=>h
 |(k,e)::r,h=>aG (ae r h) k e
def lT(h:aa)(l:List (Nat×aE)):Prop:=∀p∈l,p.2.ver=(h p.1).ver∧(p.2.ob=none∨p.2.ob=(h p.1).ob)
def eO(N:Nat)(env:Nat→AV)(dst:Option Nat)(x:AV):Option (Nat→AV):=
 match dst with
 |some d=>if d<N then some (aG env d x)else none
 |none=>some env
structure Foot where
 i:Nat
 rd:List Nat
 wr:List Nat
 all:Bool
def ea(c:Array Oper)(o:Oper)(env:Nat→AV):Option Bool:=
 match o.guard with
 |none=>some true
 |some (j,a)=>match (c[j]?).bind (·.dst)with
  |some t=>match env t with
   | .d (.bool b)=>some (b==a)
   | .tup []=>some false
   |_=>none
  |none=>none
def iG:List AV→AV
 |[x]=>x
 |l=> .tup l
def dL(o:Oper)(env:Nat→AV):Option (Nat×List AV):=
 match o.op with
 | .call c=>match c.callee with
  | .value f=>match opd env f with
   | .fn g a=>some (g,c.args.toList.map (opd env) ++a)
   |_=>none
  |_=>none
 |_=>none
def o9(o:Oper)(env:Nat→AV):Option (Nat×Nat×List AV):=
 match o.op with
 | .call c=>match c.callee with
  | .value f=>match opd env f with
   | .yld k v=>some (k,v,c.args.toList.map (opd env))
   |_=>none
  |_=>none
 |_=>none
open Classical in
noncomputable def cf(P:Program)(cfg:ic)(N:Nat)(e:Array Oper)(i:Nat)(o:Oper)(S:St):Option (St×List Obl×Foot):=
 match ea e o S.env with
 |some true=>
  match cfg.hc i with
  |some (.heap c h' d)=>if (∀k,k∉d→h' k=S.heap k)then match dL o S.env with
   |some (g,args)=>(eO N S.env o.dst (iG c)).map fun env=>(⟨env,h'⟩,[.heap g args S.heap c h'],⟨i,[],d,true⟩)
   |none=>match o9 o S.env with
    |some (k,v,args)=>(eO N S.env o.dst (iG c)).map fun env=>(⟨env,h'⟩,[.yield k v args S.heap c h'],⟨i,[],d,true⟩)
    |none=>none
   else none
  |some (.frame b c a)=>match dL o S.env with
   |some (g,args)=>if lT S.heap b then (eO N S.env o.dst (iG c)).map fun env=>(⟨env,ap S.heap a.reverse⟩,[.frame g args b c a],⟨i,b.map (·.1),a.reverse.map (·.1),false⟩)else none
   |none=>none
  |some (.exact b f c a h)=>match dL o S.env with
   |some (g,args)=>if (∀k∈b,S.heap k=f k)then (eO N S.env o.dst (iG c)).map fun env=>(⟨env,ap S.heap (jI a h)⟩,[.exact g args b f c a h],⟨i,b,a,false⟩)else none
   |none=>none
  |none=>
  match b6 P cfg i o (opd S.env) S.heap with
  |some out=>(eO N S.env o.dst out.val).map fun env=>(⟨env,ap S.heap out.wr⟩,out.ob.map .data,⟨i,out.rd,out.wr.map (·.1),false⟩)
  |none=>none
 |some false=>(eO N S.env o.dst (.tup [])).map fun env=>(⟨env,S.heap⟩,[],⟨i,[],[],false⟩)
 |none=>none
noncomputable def d7(P:Program)(cfg:ic)(N:Nat)(c:Array Oper):List Nat→St→Option (St×List Obl×List Foot)
 |[],S=>some (S,[],[])
 |i::r,S=>
  match c[i]? with
  |none=>none
  |some o=>match cf P cfg N c i o S with
   |none=>none
   |some a=>match d7 P cfg N c r a.1 with
    |none=>none
    |some b=>some (b.1,a.2.1 ++b.2.1,a.2.2::b.2.2)
end Go.Avm
namespace Go.Avm
open Go.RowKit
variable[aH]
section
variable{G:Gh}{B:Nat}{w0 w:World}{I0:Nat→Nat→Prop}{h:aa}
theorem co{w:World}{o:Obj}{b i:Nat}(a:b<w.heap.size):(w.alloc o).cell? ⟨b,i,none⟩=w.cell? ⟨b,i,none⟩:=World.cell?_alloc_lt w o ⟨b,i,none⟩ a
theorem kM{w:World}{c:Array Value}{e:TypeId}{i:Nat}:(w.alloc (.cells c e)).cell? ⟨w.heap.size,i,none⟩=c[i]? :=by simp
theorem dg{w:World}{o:Obj}{b:Nat}(a:b<w.heap.size):(w.alloc o).heap[b]? =w.heap[b]? :=Below.heap_alloc w o b a
theorem jJ(w:World)(o':Obj):∀(b:Nat)(o:Obj),mu o=true→w.heap[b]? =some o→∃a,(w.alloc o').heap[b]? =some a∧iV o a:=fun b o _ x=>⟨o,by
 rw[dg (xR.1 x).1];exact x,ei o⟩
theorem d5{w c:World}(h:c.heap=w.heap):∀(b:Nat)(o:Obj),mu o=true→w.heap[b]? =some o→∃a,c.heap[b]? =some a∧iV o a:=fun b o _ x=>⟨o,by rw[h];exact x,ei o⟩
def Gh.at(G:Gh)(k v:Nat)(L:sI):Gh:={G with loc:=fun a v'=>if a=k∧v'=v then some L else G.loc a v',lim:=aG G.lim k v}
def Gh.more(G:Gh)(p:Nat→Nat→Prop):Gh:={G with imm:=fun b o=>G.imm b o∨p b o}
theorem Gh.at_same(G:Gh)(k v:Nat)(L:sI):(G.at k v L).loc k v=some L:=by simp[Gh.at]
theorem Gh.at_ne(G:Gh){k v a v':Nat}(L:sI)(b:¬(a=k∧v'=v)):(G.at k v L).loc a v'=G.loc a v':=by simp[Gh.at,b]
theorem Ext.at{k v:Nat}{L:sI}(d:G.loc k v=none)(g:G.lim k<v)(w:World):Ext G w (G.at k v L) w:=
 ⟨fun _ _ x=>x,fun a v' f x=>by
  by_cases b:a=k∧v'=v
  ·obtain⟨rfl,rfl⟩:=b;rw[d]at x;cases x
  ·rw[Gh.at_ne _ _ b];exact x,fun _ _ _=>rfl,xL _,fun a=>by
  by_cases c:a=k
  ·subst c;show _≤aG G.lim a v a;rw[af];omega
  ·show _≤aG G.lim k v a;rw[ag _ _ c];exact xL _,fun a v' e x=>by
  rw[Gh.at_ne _ _ (by rintro⟨rfl,rfl⟩;omega)];exact x,fun _ _ _ x=>x,d5 rfl⟩
theorem Ext.more(G:Gh)(p:Nat→Nat→Prop)(w:World):Ext G w (G.more p) w:=⟨fun _ _ x=> .inl x,fun _ _ _ x=>x,fun _ _ _=>rfl,xL _,fun _=>xL _,fun _ _ _ x=>x,fun _ _ _ x=>x,d5 rfl⟩
theorem ObRep.mono{m:Gh}{j:World}{k a:Nat}{ob:Ob}(f:ObRep G w k a ob)(x:a≤G.lim k)(e:Ext G w m j)
    (p:∀L,G.loc k a=some L→∀t,j.cell? ⟨L.b,t,none⟩=w.cell? ⟨L.b,t,none⟩):ObRep m j k a ob:=by
 cases ob with
 |arr sz es=>
  rcases f with ⟨f,q⟩|⟨L,d,C,h2,s,r,z,A⟩
  ·exact .inl ⟨f,e.nloc _ _ x q⟩
  ·refine .inr ⟨L,e.loc _ _ _ d,C,h2,s,r,z,fun t c v=> ?_⟩
   obtain⟨u,y,l,g⟩:=A t c v;exact⟨u,(p L d t).trans y,l,g.mono e⟩
 |map es c=>trivial
 |lp _ _ _ _ _ _ _=>trivial
 |itr _ _ _ _=>trivial
 |typ o v' T n=>
  refine⟨yH f.1 (e.lim o),fun L d=> ?_⟩;cases i:G.loc o v' with
  |none=>rw[e.nloc _ _ f.1 i]at d;cases d
  |some L=>
   rw[e.loc _ _ _ i]at d;cases d;exact f.2 L i
theorem jK(w:World)(o:Obj):∀(b:Nat) o',mZ o'=true→w.heap[b]? =some o'→(w.alloc o).heap[b]? =some o':=fun _ _ _ a=>(dg (xR.1 a).1).trans a
theorem kN{w:World}{c:Nat}{arr arr':Array Value}{e:TypeId}{fz:Nat×Nat}(f:w.heap[c]? =some (.cells arr e fz)):∀(b:Nat)(o:Obj),mu o=true→w.heap[b]? =some o→∃d,(w.setRow c arr').heap[b]? =some d∧iV o d:=fun b o g a=>
 ⟨o,(setRow_other w _ _ _ (by rintro rfl;rw[f]at a;cases a;cases g)).trans a,ei o⟩
theorem kO(w:World){c:Nat}{arr arr':Array Value}{e:TypeId}{fz:Nat×Nat}(d:w.heap[c]? =some (.cells arr e fz)):∀(b:Nat) o,mZ o=true→w.heap[b]? =some o→(w.setRow c arr').heap[b]? =some o:=fun b o f a=>
 (setRow_other w _ _ _ (by rintro rfl;rw[d]at a;cases a;cases f)).trans a
theorem MR.set{d:Gh}{c:World}(hm:MR G B h w)(e:Ext G w d c)(l:d.mloc=G.mloc)(m:∀(b:Nat) o,mZ o=true→w.heap[b]? =some o→c.heap[b]? =some o){k v:Nat}{ob:Option Ob}(j:(h k).ver≤v)(f:∀o:Ob,o.flex=false→ob≠some o):
    MR d B (aG h k ⟨v,ob⟩) c:=by
 refine hm.step e l m (fun g=> ?_) (fun g o n i=> ?_)
 ·by_cases a:g=k
  ·subst a;rw[af];exact j
  ·rw[ag _ _ a];exact xL _
 ·by_cases a:g=k
  ·subst a;rw[af]at i;exact absurd i (f o n)
  ·exact ag _ _ a
theorem HR.le(a:HR G B w0 I0 h w)(k:Nat):(h k).ver≤G.lim k:=by rw[a.lim];exact xL _
theorem HR.none_next(a:HR G B w0 I0 h w)(k:Nat):G.loc k ((h k).ver+1)=none:=by
 cases b:G.loc k ((h k).ver+1)with
 |none=>rfl
 |some L=>have:=a.fresh _ _ _ b;omega
theorem HR.drew(a:HR G B w0 I0 h w):HR G B w0 I0 h w.drew:=by
 refine⟨a.below.drew,a.bsz,a.immlt,a.i0,a.immlow,a.fresh,a.own,a.dis,fun k ob b=>(a.objs k ob b).mono (a.le k) ⟨fun _ _ x=>x,fun _ _ _ x=>x,fun _ _ _=>rfl,xL _,fun _=>xL _,fun _ _ _ x=>x,fun _ _ _ x=>x,d5 rfl⟩ (fun _ _ _=>rfl),a.lim,a.maps.step ⟨fun _ _ x=>x,fun _ _ _ x=>x,fun _ _ _=>rfl,xL _,fun _=>xL _,fun _ _ _ x=>x,fun _ _ _ x=>x,d5 rfl⟩ rfl (fun _ _ _ x=>x) (fun _=>xL _) (fun _ _ _ _=>rfl)⟩
theorem Ext.drew(G:Gh)(w:World):Ext G w G w.drew:=⟨fun _ _ x=>x,fun _ _ _ x=>x,fun _ _ _=>rfl,xL _,fun _=>xL _,fun _ _ _ x=>x,fun _ _ _ x=>x,d5 rfl⟩
theorem Ext.alloc(c:HR G B w0 I0 h w)(o:Obj):Ext G w G (w.alloc o):=
 ⟨fun _ _ x=>x,fun _ _ _ x=>x,fun b i a=>co (c.immlt b i a),by simp,fun _=>xL _,fun _ _ _ x=>x,fun _ _ _ x=>x,jJ w _⟩
def qy(G:Gh)(h:aa)(ks:List Nat):Nat→Nat→Prop:=fun b _=>∃k∈ks,∃L,G.loc k (h k).ver=some L∧L.b=b
theorem bo(h b:aa):∀(ks:List Nat)(k:Nat),ap b (kill h ks) k=if k∈ks then ⟨(h k).ver+1,none⟩else b k:=by
 intro ks;induction ks generalizing b with
 |nil=>intro k;simp[kill,ap]
 |cons a r e=>
  intro k;simp only[kill,xH,ap];have:=e (aG b a ⟨(h a).ver+1,none⟩) k;simp only[kill]at this;rw[this];by_cases d:k∈r
  ·simp[d]
  ·by_cases c:k=a
   ·subst c;simp[aG]
   ·simp[d,c,aG]
def Gh.froz(G:Gh)(h:aa)(ks:List Nat):Gh:={G.more (qy G h ks)with lim:=fun k=>if k∈ks then G.lim k+1 else G.lim k}
theorem Ext.froz(a:HR G B w0 I0 h w)(ks:List Nat):Ext G w (G.froz h ks) w:=
 ⟨fun _ _ x=> .inl x,fun _ _ _ x=>x,fun _ _ _=>rfl,xL _,fun k=>by show _≤if k∈ks then _ else _;split<;>omega,fun _ _ _ x=>x,fun _ _ _ x=>x,d5 rfl⟩
theorem HR.kill(a:HR G B w0 I0 h w)(ks:List Nat):HR (G.froz h ks) B w0 I0 (ap h (kill h ks)) w:=by
 have j:=bo h h ks
 refine⟨a.below,a.bsz, ?_,fun b o x=> .inl (a.i0 b o x), ?_, ?_, ?_, ?_, ?_,fun k=>by rw[j];show(if k∈ks then _ else _)=_;split<;>simp[a.lim],a.maps.step (Ext.froz a ks) rfl (fun _ _ _ x=>x) (fun k=>by rw[j];split<;>simp) (fun k es c i=>by
  rw[j]at i ⊢;split at i
  ·cases i
  ·rename_i f;rw[xo f])⟩
 ·rintro b o (x|⟨k,_,L,d,rfl⟩)
  ·exact a.immlt b o x
  ·exact a.blt d
 ·rintro b o (x|⟨k,_,L,d,rfl⟩) l
  ·exact a.immlow b o x l
  ·have:=(a.own k L d).1;omega
 ·intro k v L d
  have:=a.fresh k v L d;rw[j];split<;>simp_all;omega
 ·intro k L d
  rw[j]at d;by_cases f:k∈ks
  ·simp only[f,yS]at d
   have:=a.fresh k _ L d;omega
  ·simp only[f,yi]at d
   obtain⟨p,h2,q⟩:=a.own k L d;refine⟨p,h2, ?_⟩;rintro o (x|⟨m,g,n,e,l⟩)
   ·exact q o x
   ·have:=a.dis k m L n d e l.symm
    subst this;exact absurd g f
 ·intro k m L n d e l
  rw[j]at d e;by_cases f:k∈ks
  ·simp only[f,yS]at d
   have:=a.fresh k _ L d;omega
  ·by_cases g:m∈ks
   ·simp only[g,yS]at e
    have:=a.fresh m _ n e;omega
   ·simp only[f,g,yi]at d e
    exact a.dis k m L n d e l
 ·intro k ob i
  rw[j]at i ⊢;by_cases f:k∈ks
  ·simp[f]at i
  ·simp only[f,yi]at i ⊢
   exact(a.objs k ob i).mono (a.le k) (Ext.froz a ks) (fun _ _ _=>rfl)
theorem HR.newOb(a:HR G B w0 I0 h w)(k sz cap:Nat)(es:List AV)(arr:Array Value)(e:TypeId)(Q:arr.size=cap*sz)(s:es.length≤cap)(E:∀x∈es,x.cells.length=sz)(A:sz=1→∀x∈es,x.lone=true)
    (O:∀(t:Nat)(c:AV),(AV.flat es)[t]? =some c→∃u:Value,arr[t]? =some u∧u.oneCell'=true∧Rep G w c u):
    HR (G.at k ((h k).ver+1) ⟨w.heap.size,sz,cap,0,e⟩) B w0 I0 (aG h k ⟨(h k).ver+1,some (.arr sz es)⟩) (w.alloc (.cells arr e))∧
    Ext G w (G.at k ((h k).ver+1) ⟨w.heap.size,sz,cap,0,e⟩) (w.alloc (.cells arr e)):=by
 have C:=a.none_next k;have m:G.lim k<(h k).ver+1:=by rw[a.lim];omega
 have hex:Ext G w (G.at k ((h k).ver+1) ⟨w.heap.size,sz,cap,0,e⟩) (w.alloc (.cells arr e)):=
  ⟨fun _ _ x=>x,(Ext.at C m w).loc,fun b i q=>co (a.immlt b i q),by simp,(Ext.at C m w).lim,(Ext.at C m w).nloc,fun _ _ _ x=>x,jJ w _⟩
 have p:∀d n,(G.at k ((h k).ver+1) ⟨w.heap.size,sz,cap,0,e⟩).loc d (aG h k ⟨(h k).ver+1,some (.arr sz es)⟩ d).ver=some n→
     (d=k∧n=⟨w.heap.size,sz,cap,0,e⟩)∨(d≠k∧G.loc d (h d).ver=some n):=by
  intro d n g;by_cases f:d=k
  ·subst f
   rw[af,Gh.at_same]at g;exact .inl ⟨rfl,(Option.some.inj g).symm⟩
  ·rw[ag _ _ f,Gh.at_ne _ _ (by simp[f])]at g
   exact .inr ⟨f,g⟩
 refine⟨⟨a.below.alloc a.bsz _,by have:=a.bsz;simp;omega,fun b o x=>by have:=a.immlt b o x;simp;omega,a.i0,a.immlow, ?_, ?_, ?_, ?_,fun d=>by
  by_cases f:d=k
  ·subst f;rw[af];exact af _ _ _
  ·rw[ag _ _ f];exact(ag _ _ f).trans (a.lim d),a.maps.set hex rfl (jK w _) (by omega) (by first|exact jf|exact ky)⟩,hex⟩
 ·intro d v L g
  by_cases f:d=k∧v=(h k).ver+1
  ·obtain⟨rfl,rfl⟩:=f;simp[aG]
  ·rw[Gh.at_ne _ _ f]at g
   have:=a.fresh d v L g;by_cases r:d=k
   ·subst r;rw[af];show v≤_+1;omega
   ·rw[ag _ _ r];exact this
 ·intro d n g
  rcases p d n g with ⟨rfl,rfl⟩|⟨f,g⟩
  ·exact⟨a.bsz,⟨arr,e,heap_alloc_new w _,Q,rfl⟩,fun o x=>absurd (a.immlt _ o x) (by simp)⟩
  ·obtain⟨W,⟨arr',V,h2,R⟩,P⟩:=a.own d n g
   exact⟨W,⟨arr',V,(dg (a.blt g)).trans h2,R⟩,P⟩
 ·intro J I M K l j q
  rcases p J M l with ⟨rfl,rfl⟩|⟨N,l⟩<;>rcases p I K j with ⟨H,D⟩|⟨S,j⟩
  ·exact H.symm
  ·have:=a.blt j;rw[←q]at this;simp at this
  ·subst D;have:=a.blt l;rw[q]at this;simp at this
  ·exact a.dis J I M K l j q
 ·intro d ob y
  by_cases f:d=k
  ·subst f
   rw[af]at y ⊢;simp only[xA]at y;subst y;refine .inr ⟨_,Gh.at_same _ _ _ _,rfl,rfl,s,E,A,fun t c T=> ?_⟩;obtain⟨u,U,F,z⟩:=O t c T;exact⟨u,by rw[kM];exact U,F,z.mono hex⟩
  ·rw[ag _ _ f]at y ⊢
   exact(a.objs d ob y).mono (a.le d) hex (fun L g t=>co (a.blt g))
theorem HR.newVecT(d:HR G B w0 I0 h w)(k sz cap:Nat)(l:List D)(arr:Array Value)(e:TypeId)(X:arr.size=cap*sz)(s:l.length≤cap)(z:∀x∈l,x.cells.length=sz)
    (V:∀(t:Nat)(c:D),(D.flat l)[t]? =some c→∃u:Value,arr[t]? =some u∧c.one=true∧DRep G.imm w c u):
    ∃j,HR j B w0 I0 (aG h k ⟨(h k).ver+1,none⟩) (w.alloc (.cells arr e))∧Ext G w j (w.alloc (.cells arr e))∧
     Rep j (w.alloc (.cells arr e)) (.vec k ((h k).ver+1) sz l) (.slice (some ⟨w.heap.size,0,none⟩) l.length cap)∧
     ∀L,j.loc k ((h k).ver+1)=some L→L.ty=e:=by
 have I:=d.none_next k;have A:G.lim k<(h k).ver+1:=by rw[d.lim];omega
 have hfl:(D.flat l).length=l.length*sz:=cG _ sz l z
 let L:sI:=⟨w.heap.size,sz,cap,l.length*sz,e⟩
 let j:Gh:=(G.at k ((h k).ver+1) L).more (fun b o=>b=w.heap.size∧o<l.length*sz)
 have hex:Ext G w j (w.alloc (.cells arr e)):=
  ⟨fun _ _ x=> .inl x,(Ext.at (L:=L) I A w).loc,fun b i y=>co (d.immlt b i y),by simp,(Ext.at (L:=L) I A w).lim,(Ext.at (L:=L) I A w).nloc,fun _ _ _ x=>x,jJ w _⟩
 have m:j.loc k ((h k).ver+1)=some L:=Gh.at_same _ _ _ _
 have C:∀a n,j.loc a (aG h k ⟨(h k).ver+1,none⟩ a).ver=some n→(a=k∧n=L)∨(a≠k∧G.loc a (h a).ver=some n):=by
  intro a n m;by_cases g:a=k
  ·subst g
   rw[af]at m;rw[show j.loc a ((h a).ver+1)=some L from Gh.at_same _ _ _ _]at m;exact .inl ⟨rfl,(Option.some.inj m).symm⟩
  ·rw[ag _ _ g]at m
   exact .inr ⟨g,by rw[←Gh.at_ne G L (k:=k) (v:=(h k).ver+1) (by simp[g])];exact m⟩
 have F:∃U:Nat→Value,∀t c,(D.flat l)[t]? =some c→arr[t]? =some (U t)∧c.one=true∧DRep G.imm w c (U t):=by
  refine⟨fun t=>arr.getD t undef,fun t c p=> ?_⟩;obtain⟨u,R,M,h2⟩:=V t c p;have P:arr.getD t undef=u:=by simp[xq,R]
  exact⟨R.trans (congrArg some P.symm),M,by simpa only[P]using h2⟩
 obtain⟨U,F⟩:=F
 refine⟨j,⟨d.below.alloc d.bsz _,by have:=d.bsz;simp;omega, ?_,fun b o x=> .inl (d.i0 b o x), ?_, ?_, ?_, ?_, ?_,fun a=>by
  by_cases g:a=k
  ·subst g;rw[af];exact af _ _ _
  ·rw[ag _ _ g];exact(ag _ _ g).trans (d.lim a),d.maps.set hex rfl (jK w _) (by omega) (by first|exact jf|exact ky)⟩,hex, ?_,fun n f=>by rw[m]at f;cases f;rfl⟩
 ·rintro b o (x|⟨rfl,_⟩)
  ·have:=d.immlt b o x;simp;omega
  ·simp
 ·rintro b o (x|⟨rfl,_⟩) y
  ·exact d.immlow b o x y
  ·have:=d.bsz;omega
 ·intro a v n f
  by_cases g:a=k∧v=(h k).ver+1
  ·obtain⟨rfl,rfl⟩:=g;simp[aG]
  ·rw[show j.loc a v=G.loc a v from Gh.at_ne _ _ g]at f
   have:=d.fresh a v n f;by_cases E:a=k
   ·subst E;rw[af];show v≤_+1;omega
   ·rw[ag _ _ E];exact this
 ·intro a n f
  rcases C a n f with ⟨rfl,rfl⟩|⟨g,f⟩
  ·refine⟨d.bsz,⟨arr,e,heap_alloc_new w _,X,rfl⟩, ?_⟩
   rintro o (x|⟨_,x⟩)
   ·exact absurd (d.immlt _ o x) (by simp[L])
   ·exact x
  ·obtain⟨M,⟨arr',e',h2,Y⟩,W⟩:=d.own a n f
   refine⟨M,⟨arr',e',(dg (d.blt f)).trans h2,Y⟩, ?_⟩;rintro o (x|⟨x,_⟩)
   ·exact W o x
   ·have:=d.blt f;omega
 ·intro O N S Q r q y
  rcases C O S r with ⟨rfl,rfl⟩|⟨T,r⟩<;>rcases C N Q q with ⟨K,J⟩|⟨Z,q⟩
  ·exact K.symm
  ·have:=d.blt q;rw[←y]at this;simp[L]at this
  ·subst J;have:=d.blt r;rw[y]at this;simp[L]at this
  ·exact d.dis O N S Q r q y
 ·intro a ob H
  by_cases g:a=k
  ·subst g;rw[af]at H;cases H
  ·rw[ag _ _ g]at H ⊢
   exact(d.objs a ob H).mono (d.le a) hex (fun L m t=>co (d.blt m))
 ·refine Rep.vec k ((h k).ver+1) l L m rfl s z (.ro l _ 0 cap sz U s z (fun x hx=> ?_) ?_ ?_ ?_)
  ·obtain⟨t,p⟩:=xg hx
   exact(F t x p).2.1
  ·intro t c p
   have:t<(D.flat l).length:=(xC.1 p).1;exact .inr ⟨rfl,by omega⟩
  ·intro t c p
   rw[x8,kM];exact(F t c p).1
  ·intro t c p
   exact(F t c p).2.2.mono hex.imm hex.cell
theorem HR.store(d:HR G B w0 I0 h w){k sz:Nat}{es es':List AV}{L:sI}(ho:(h k).ob=some (.arr sz es))(q:G.loc k (h k).ver=some L)(y:L.sz=sz)(z:L.fr=0)
    {arr arr':Array Value} {e:TypeId} (n:w.heap[L.b]? =some (.cells arr e (0,0))) (Q:arr'.size=arr.size) (p:es'.length≤L.cap) (C:∀x∈es',x.cells.length=sz) (s:sz=1→∀x∈es',x.lone=true)
    (O:∀(t:Nat)(c:AV),(AV.flat es')[t]? =some c→∃u:Value,arr'[t]? =some u∧u.oneCell'=true∧Rep G w c u):
    HR G B w0 I0 (aG h k ⟨(h k).ver,some (.arr sz es')⟩) (w.setRow L.b arr')∧Ext G w G (w.setRow L.b arr'):=by
 obtain⟨hB,⟨K,e0,m,A⟩,W⟩:=d.own k L q;rw[n]at m;simp only[xA,Obj.cells.injEq]at m;obtain⟨rfl,rfl,_⟩:=m
 have H:∀b o,G.imm b o→b≠L.b:=by
  rintro b o x rfl;have:=W o x;omega
 have hex:Ext G w G (w.setRow L.b arr'):=⟨fun _ _ x=>x,fun _ _ _ x=>x,fun b i x=>cell_setRow_other w L.b arr' ⟨b,i,none⟩ (H b i x),by simp,fun _=>xL _,fun _ _ _ x=>x,fun _ _ _ x=>x,kN n⟩
 have f:∀a,(aG h k ⟨(h k).ver,some (.arr sz es')⟩ a).ver=(h a).ver:=by
  intro a;by_cases j:a=k
  ·subst j;rw[af]
  ·rw[ag _ _ j]
 refine⟨⟨below_setRow d.below hB _,by simpa using d.bsz,fun b o x=>by simpa using d.immlt b o x,d.i0,d.immlow, ?_, ?_, ?_, ?_,fun a=>by rw[f];exact d.lim a,d.maps.set hex rfl (kO w n) (xL _) (by first|exact jf|exact ky)⟩,hex⟩
 ·intro a v l x;rw[f];exact d.fresh a v l x
 ·intro a l x
  rw[f]at x;obtain⟨N,⟨S,Z,h2,R⟩,I⟩:=d.own a l x;by_cases j:l.b=L.b
  ·have:=d.dis a k l L x q j
   subst this;rw[q]at x;simp only[xA]at x;subst x;exact⟨N,⟨arr',e,setRow_heap w _ _ _ _ _ n,by rw[Q];exact A⟩,I⟩
  ·exact⟨N,⟨S,Z,by rw[setRow_other w _ _ _ j];exact h2,R⟩,I⟩
 ·intro T P Y V J M;rw[f]at J M;exact d.dis T P Y V J M
 ·intro a ob g
  by_cases j:a=k
  ·subst j
   rw[af]at g ⊢;simp only[xA]at g;subst g;refine .inr ⟨L,q,y,z,p,C,s,fun t c U=> ?_⟩;obtain⟨u,X,D,r⟩:=O t c U;exact⟨u,by rw[cell_setRow_same w L.b t _ _ _ _ n];exact X,D,r.mono hex⟩
  ·rw[ag _ _ j]at g ⊢
   refine(d.objs a ob g).mono (d.le a) hex (fun l E t=>cell_setRow_other w L.b arr' ⟨l.b,t,none⟩ (fun F=>j (d.dis a k l L E q F)))
theorem HR.regrow(f:HR G B w0 I0 h w){k sz:Nat}{es':List AV}{L:sI}(y:G.loc k (h k).ver=some L)(C:L.sz=sz)(E:L.fr=0)
    {arr arr':Array Value} {e:TypeId} (q:w.heap[L.b]? =some (.cells arr e (0,0))) (R:arr'.size=arr.size) (s:es'.length≤L.cap) (H:∀x∈es',x.cells.length=sz) (A:sz=1→∀x∈es',x.lone=true)
    (P:∀(t:Nat)(c:AV),(AV.flat es')[t]? =some c→∃u:Value,arr'[t]? =some u∧u.oneCell'=true∧Rep G w c u):
    HR (G.at k ((h k).ver+1) L) B w0 I0 (aG h k ⟨(h k).ver+1,some (.arr sz es')⟩) (w.setRow L.b arr')∧Ext G w (G.at k ((h k).ver+1) L) (w.setRow L.b arr'):=by
 obtain⟨hB,⟨N,e0,m,F⟩,Y⟩:=f.own k L y;rw[q]at m;simp only[xA,Obj.cells.injEq]at m;obtain⟨rfl,rfl,_⟩:=m;have D:=f.none_next k;have n:G.lim k<(h k).ver+1:=by rw[f.lim];omega
 have K:∀b o,G.imm b o→b≠L.b:=by
  rintro b o x rfl;have:=Y o x;omega
 have hex:Ext G w (G.at k ((h k).ver+1) L) (w.setRow L.b arr'):=⟨fun _ _ x=>x,(Ext.at D n w).loc,fun b i x=>cell_setRow_other w L.b arr' ⟨b,i,none⟩ (K b i x),by simp,(Ext.at D n w).lim,(Ext.at D n w).nloc,fun _ _ _ x=>x,kN q⟩
 have p:∀a g,(G.at k ((h k).ver+1) L).loc a (aG h k ⟨(h k).ver+1,some (.arr sz es')⟩ a).ver=some g→G.loc a (h a).ver=some g:=by
  intro a g x;by_cases d:a=k
  ·subst d
   rw[af,Gh.at_same]at x;rw[y];exact x
  ·rw[ag _ _ d,Gh.at_ne _ _ (by simp[d])]at x
   exact x
 refine⟨⟨below_setRow f.below hB _,by simpa using f.bsz,fun b o x=>by simpa using f.immlt b o x,f.i0,f.immlow, ?_, ?_, ?_, ?_,fun a=>by
  by_cases d:a=k
  ·subst d;rw[af];exact af _ _ _
  ·rw[ag _ _ d];exact(ag _ _ d).trans (f.lim a),f.maps.set hex rfl (kO w q) (by omega) (by first|exact jf|exact ky)⟩,hex⟩
 ·intro a v g l
  by_cases d:a=k∧v=(h k).ver+1
  ·obtain⟨rfl,rfl⟩:=d;simp[aG]
  ·rw[Gh.at_ne _ _ d]at l
   have:=f.fresh a v g l;by_cases r:a=k
   ·subst r;rw[af];show v≤_+1;omega
   ·rw[ag _ _ r];exact this
 ·intro a g x
  replace x:=p a g x
  obtain⟨O,⟨T,e1,h2,S⟩,M⟩:=f.own a g x;by_cases d:g.b=L.b
  ·have:=f.dis a k g L x y d
   subst this;rw[y]at x;simp only[xA]at x;subst x;exact⟨O,⟨arr',e,setRow_heap w _ _ _ _ _ q,by rw[R];exact F⟩,M⟩
  ·exact⟨O,⟨T,e1,by rw[setRow_other w _ _ _ d];exact h2,S⟩,M⟩
 ·intro U Q L1 W X Z;exact f.dis U Q L1 W (p _ _ X) (p _ _ Z)
 ·intro a ob j
  by_cases d:a=k
  ·subst d
   rw[af]at j ⊢;simp only[xA]at j;subst j;refine .inr ⟨L,Gh.at_same _ _ _ _,C,E,s,H,A,fun t c V=> ?_⟩;obtain⟨u,hu,I,z⟩:=P t c V;exact⟨u,by rw[cell_setRow_same w L.b t _ _ _ _ q];exact hu,I,z.mono hex⟩
  ·rw[ag _ _ d]at j ⊢
   refine(f.objs a ob j).mono (f.le a) hex (fun g l t=>cell_setRow_other w L.b arr' ⟨g.b,t,none⟩ (fun J=>d (f.dis a k g L l y J)))
theorem HR.newVec(i:HR G B w0 I0 h w)(k sz cap:Nat)(l:List D)(arr:Array Value)(e:TypeId)(m:arr.size=cap*sz)(a:l.length≤cap)(d:∀x∈l,x.cells.length=sz)
    (f:∀(t:Nat)(c:D),(D.flat l)[t]? =some c→∃u:Value,arr[t]? =some u∧c.one=true∧DRep G.imm w c u):
    ∃b,HR b B w0 I0 (aG h k ⟨(h k).ver+1,none⟩) (w.alloc (.cells arr e))∧Ext G w b (w.alloc (.cells arr e))∧
     Rep b (w.alloc (.cells arr e)) (.vec k ((h k).ver+1) sz l) (.slice (some ⟨w.heap.size,0,none⟩) l.length cap):=by
 obtain⟨b,g,n,j,_⟩:=i.newVecT k sz cap l arr e m a d f;exact⟨b,g,n,j⟩
theorem HR.note(c:HR G B w0 I0 h w)(d k v:Nat)(T:TypeId)(n:Option Nat)(j:v≤(h k).ver)(o:∀L,G.loc k v=some L→L.ty=T∧∀m,n=some m→L.cap*L.sz=m):
    HR G B w0 I0 (aG h d ⟨(h d).ver,some (.typ k v T n)⟩) w:=by
 have a:∀b,(aG h d ⟨(h d).ver,some (.typ k v T n)⟩ b).ver=(h b).ver:=fun b=>by
  by_cases e:b=d
  ·subst e;rw[af]
  ·rw[ag _ _ e]
 refine⟨c.below,c.bsz,c.immlt,c.i0,c.immlow,fun b v' L x=>by rw[a];exact c.fresh b v' L x,fun b L x=>by rw[a]at x;exact c.own b L x,
  fun l p r q i g=>by rw[a]at i g;exact c.dis l p r q i g,fun b ob f=> ?_,fun b=>by rw[a];exact c.lim b,
  c.maps.set (Ext.refl G w) rfl (fun _ _ _ x=>x) (xL _) Fb⟩
 rw[a];by_cases e:b=d
 ·subst e
  rw[af]at f;cases f;exact⟨by rw[c.lim];exact j,o⟩
 ·rw[ag _ _ e]at f
  exact c.objs b ob f
theorem HR.growT(g:HR G B w0 I0 h w){k:Nat}{l news:List D}{L:sI}(ho:(h k).ob=none)(p:G.loc k (h k).ver=some L)(hfr:L.fr=l.length*L.sz)
    {arr arr':Array Value} {e:TypeId} (J:w.heap[L.b]? =some (.cells arr e (0,0))) (hs:arr'.size=arr.size) (C:l.length+news.length≤L.cap) (hsz:∀x∈l,x.cells.length=L.sz) (R:∀x∈news,x.cells.length=L.sz)
    (T:∀t,t<l.length*L.sz→arr'[t]? =arr[t]?)
    (hc:∀(t:Nat)(c:D),(D.flat (l ++news))[t]? =some c→∃u:Value,arr'[t]? =some u∧c.one=true∧DRep G.imm w c u):
    ∃q,HR q B w0 I0 (aG h k ⟨(h k).ver+1,none⟩) (w.setRow L.b arr')∧Ext G w q (w.setRow L.b arr')∧
     Rep q (w.setRow L.b arr') (.vec k ((h k).ver+1) L.sz (l ++news)) (.slice (some ⟨L.b,0,none⟩) (l.length+news.length) L.cap)∧
     ∀j,q.loc k ((h k).ver+1)=some j→j.ty=L.ty:=by
 obtain⟨hB,⟨arr0,e0,E,O⟩,hi⟩:=g.own k L p;rw[J]at E;simp only[xA,Obj.cells.injEq]at E;obtain⟨rfl,rfl,_⟩:=E;have W:=g.none_next k;have H:G.lim k<(h k).ver+1:=by rw[g.lim];omega
 have r:∀x∈l ++news,x.cells.length=L.sz:=by
  intro x F;rcases xU.1 F with F|F
  ·exact hsz x F
  ·exact R x F
 have hfl:(D.flat (l ++news)).length=(l.length+news.length)*L.sz:=by rw[D.flat,cG _ L.sz _ r,xK]
 let s:sI:={L with fr:=(l.length+news.length)*L.sz}
 let q:Gh:=(G.at k ((h k).ver+1) s).more (fun b o=>b=L.b∧o<(l.length+news.length)*L.sz)
 have n:∀t,(w.setRow L.b arr').cell? ⟨L.b,t,none⟩=arr'[t]? :=fun t=>cell_setRow_same w L.b t _ _ _ _ J
 have A:∀t,w.cell? ⟨L.b,t,none⟩=arr[t]? :=fun t=>by simp[World.cell?,J]
 have hex:Ext G w q (w.setRow L.b arr'):=by
  refine⟨fun _ _ x=> .inl x,(Ext.at (L:=s) W H w).loc,fun b i x=> ?_,by simp,(Ext.at (L:=s) W H w).lim,(Ext.at (L:=s) W H w).nloc,fun _ _ _ x=>x,kN J⟩;by_cases d:b=L.b
  ·subst d
   rw[n,A,T i (by have:=hi i x;omega)]
  ·exact cell_setRow_other w L.b arr' ⟨b,i,none⟩ d
 have S:q.loc k ((h k).ver+1)=some s:=Gh.at_same _ _ _ _
 have I:∀a j,q.loc a (aG h k ⟨(h k).ver+1,none⟩ a).ver=some j→(a=k∧j=s)∨(a≠k∧G.loc a (h a).ver=some j):=by
  intro a j p;by_cases m:a=k
  ·subst m
   rw[af]at p;rw[show q.loc a ((h a).ver+1)=some s from Gh.at_same _ _ _ _]at p;exact .inl ⟨rfl,(Option.some.inj p).symm⟩
  ·rw[ag _ _ m]at p
   exact .inr ⟨m,by rw[←Gh.at_ne G s (k:=k) (v:=(h k).ver+1) (by simp[m])];exact p⟩
 have N:∃U:Nat→Value,∀t c,(D.flat (l ++news))[t]? =some c→arr'[t]? =some (U t)∧c.one=true∧DRep G.imm w c (U t):=by
  refine⟨fun t=>arr'.getD t undef,fun t c y=> ?_⟩;obtain⟨u,hu,h1,h2⟩:=hc t c y;have hg:arr'.getD t undef=u:=by simp[xq,hu]
  exact⟨hu.trans (congrArg some hg.symm),h1,by simpa only[hg]using h2⟩
 obtain⟨U,N⟩:=N
 refine⟨q,⟨below_setRow g.below hB _,by simpa using g.bsz, ?_,fun b o x=> .inl (g.i0 b o x), ?_, ?_, ?_, ?_, ?_,fun a=>by
  by_cases m:a=k
  ·subst m;rw[af];exact af _ _ _
  ·rw[ag _ _ m];exact(ag _ _ m).trans (g.lim a),g.maps.set hex rfl (kO w J) (by omega) (by first|exact jf|exact ky)⟩,hex, ?_,fun j f=>by rw[S]at f;cases f;rfl⟩
 ·rintro b o (x|⟨rfl,_⟩)
  ·simpa using g.immlt b o x
  ·simpa using g.blt p
 ·rintro b o (x|⟨rfl,_⟩) hbB
  ·exact g.immlow b o x hbB
  ·omega
 ·intro a v j f
  by_cases m:a=k∧v=(h k).ver+1
  ·obtain⟨rfl,rfl⟩:=m;simp[aG]
  ·rw[show q.loc a v=G.loc a v from Gh.at_ne _ _ m]at f
   have:=g.fresh a v j f;by_cases K:a=k
   ·subst K;rw[af];show v≤_+1;omega
   ·rw[ag _ _ K];exact this
 ·intro a j f
  rcases I a j f with ⟨rfl,rfl⟩|⟨m,f⟩
  ·refine⟨hB,⟨arr',e,setRow_heap w _ _ _ _ _ J,by rw[hs];exact O.1,O.2⟩, ?_⟩
   rintro o (x|⟨_,x⟩)
   ·have:=hi o x
    show o<(l.length+news.length)*L.sz;rw[y8];omega
   ·exact x
  ·have d:j.b≠L.b:=fun d=>m (g.dis a k j L f p d)
   obtain⟨h1,⟨a1,e1,h2,h3⟩,h4⟩:=g.own a j f;refine⟨h1,⟨a1,e1,by rw[setRow_other w _ _ _ d];exact h2,h3⟩, ?_⟩;rintro o (x|⟨x,_⟩)
   ·exact h4 o x
   ·exact absurd x d
 ·intro k1 k2 Z L3 Y hL3 d
  rcases I k1 Z Y with ⟨P,X⟩|⟨hk1,Q⟩<;>rcases I k2 L3 hL3 with ⟨V,h2L⟩|⟨hk2,M⟩
  ·rw[P,V]
  ·subst X;rw[P];exact g.dis _ _ L L3 p M d
  ·subst h2L;rw[V];exact g.dis _ _ Z L Q p d
  ·exact g.dis k1 k2 Z L3 Q M d
 ·intro a ob z
  by_cases m:a=k
  ·subst m;rw[af]at z;cases z
  ·rw[ag _ _ m]at z ⊢
   refine(g.objs a ob z).mono (g.le a) hex (fun j f t=>cell_setRow_other w L.b arr' ⟨j.b,t,none⟩ (fun d=>m (g.dis a k j L f p d)))
 ·have hv:=Rep.vec (w:=w.setRow L.b arr') k ((h k).ver+1) (l ++news) s S (by simp[s]) (by simpa [s]using C) r (.ro (l ++news) L.b 0 L.cap L.sz U (by simpa using C) r (fun x F=>by
      obtain⟨t,y⟩:=xg F
      exact(N t x y).2.1) (fun t c y=>by
       have:t<(D.flat (l ++news)).length:=(xC.1 y).1
       exact .inr ⟨rfl,by omega⟩) (fun t c y=>by
        rw[x8,n];exact(N t c y).1) (fun t c y=>(N t c y).2.2.mono hex.imm hex.cell))
  rw[xK]at hv;exact hv
theorem HR.newImm(a:HR G B w0 I0 h w)(l:List D)(sz cap:Nat)(arr:Array Value)(e:TypeId){fz:Nat×Nat}(k:l.length≤cap)(p:∀x∈l,x.cells.length=sz)
    (v:∀(t:Nat)(c:D),(D.flat l)[t]? =some c→∃u:Value,arr[t]? =some u∧c.one=true∧DRep G.imm w c u):
    ∃g,HR g B w0 I0 h (w.alloc (.cells arr e fz))∧Ext G w g (w.alloc (.cells arr e fz))∧DRep g.imm (w.alloc (.cells arr e fz)) (.ro l) (.slice (some ⟨w.heap.size,0,none⟩) l.length cap):=by
 let g:Gh:=G.more (fun b _=>b=w.heap.size)
 have hex:Ext G w g (w.alloc (.cells arr e fz)):=
  ⟨fun _ _ x=> .inl x,fun _ _ _ x=>x,fun b i n=>co (a.immlt b i n),by simp,fun _=>xL _,fun _ _ _ x=>x,fun _ _ _ x=>x,jJ w _⟩
 have j:∃U:Nat→Value,∀t c,(D.flat l)[t]? =some c→arr[t]? =some (U t)∧c.one=true∧DRep G.imm w c (U t):=by
  refine⟨fun t=>arr.getD t undef,fun t c d=> ?_⟩;obtain⟨u,s,q,h2⟩:=v t c d;have r:arr.getD t undef=u:=by simp[xq,s]
  exact⟨s.trans (congrArg some r.symm),q,by simpa only[r]using h2⟩
 obtain⟨U,j⟩:=j;refine⟨g,⟨a.below.alloc a.bsz _,by have:=a.bsz;simp;omega, ?_,fun b o x=> .inl (a.i0 b o x), ?_,a.fresh, ?_,a.dis, ?_,a.lim,a.maps.step hex rfl (jK w _) (fun _=>xL _) (fun _ _ _ _=>rfl)⟩,hex, ?_⟩
 ·rintro b o (x|rfl)
  ·have:=a.immlt b o x;simp;omega
  ·simp
 ·rintro b o (x|rfl) n
  ·exact a.immlow b o x n
  ·have:=a.bsz;omega
 ·intro m H f
  obtain⟨q,⟨arr',F,h2,z⟩,y⟩:=a.own m H f;refine⟨q,⟨arr',F,(dg (a.blt f)).trans h2,z⟩, ?_⟩;rintro o (x|x)
  ·exact y o x
  ·have:=a.blt f;omega
 ·intro m ob C
  exact(a.objs m ob C).mono (a.le m) hex (fun L E t=>co (a.blt E))
 ·refine .ro l _ 0 cap sz U k p (fun x A=> ?_) (fun t c d=> .inr rfl) ?_ (fun t c d=>(j t c d).2.2.mono hex.imm hex.cell)
  ·obtain⟨t,d⟩:=xg A
   exact(j t x d).2.1
  ·intro t c d
   rw[x8,show(w.alloc (.cells arr e fz)).cell? ⟨w.heap.size,t,none⟩=arr[t]? from by rw[World.cell?,heap_alloc_new];rfl];exact(j t c d).1
theorem HR.bump(c:HR G B w0 I0 h w)(k:Nat)(ob:Option Ob)(j:∀o,ob=some o→∃sz,o= .arr sz []):
    ∃g,HR g B w0 I0 (aG h k ⟨(h k).ver+1,ob⟩) w∧Ext G w g w∧g.loc k ((h k).ver+1)=none:=by
 have m:=c.none_next k
 have f:∀a d,G.loc a (aG h k ⟨(h k).ver+1,ob⟩ a).ver=some d→a≠k∧G.loc a (h a).ver=some d:=by
  intro a d i;by_cases b:a=k
  ·subst b;rw[af]at i;simp only[m]at i;cases i
  ·rw[ag _ _ b]at i;exact⟨b,i⟩
 let g:Gh:={G with lim:=aG G.lim k ((h k).ver+1)}
 have hex:Ext G w g w:=⟨fun _ _ x=>x,fun _ _ _ x=>x,fun _ _ _=>rfl,xL _,fun a=>by
  by_cases b:a=k
  ·subst b;show _≤aG G.lim a _ a;rw[af,c.lim];omega
  ·show _≤aG G.lim k _ a;rw[ag _ _ b];exact xL _,fun _ _ _ x=>x,fun _ _ _ x=>x,d5 rfl⟩
 refine⟨g,⟨c.below,c.bsz,c.immlt,c.i0,c.immlow, ?_,fun a d x=>c.own a d (f a d x).2,fun p r n s u q=>c.dis p r n s (f _ _ u).2 (f _ _ q).2, ?_,fun a=>by
  by_cases b:a=k
  ·subst b;rw[af];exact af _ _ _
  ·rw[ag _ _ b];exact(ag _ _ b).trans (c.lim a),c.maps.set hex rfl (fun _ _ _ x=>x) (by omega) (fun o t e=>by obtain⟨sz,rfl⟩:=j _ e;cases t)⟩,hex,m⟩
 ·intro a v d x
  have:=c.fresh a v d x;by_cases b:a=k
  ·subst b;rw[af];show v≤_+1;omega
  ·rw[ag _ _ b];exact this
 ·intro a o l
  by_cases b:a=k
  ·subst b
   rw[af]at l ⊢;obtain⟨sz,rfl⟩:=j o l;exact .inl ⟨rfl,m⟩
  ·rw[ag _ _ b]at l ⊢
   exact(c.objs a o l).mono (c.le a) hex (fun _ _ _=>rfl)
end
end Go.Avm
namespace Go.Avm
open Go.RowKit
variable[aH]
section
variable{P:Program}{G:Gh}{B:Nat}{w0 w:World}{I0:Nat→Nat→Prop}{h:aa}
theorem Rep.lone{x:AV}{v:Value}(b:Rep G w x v)(a:v.oneCell'=true):x.lone=true:=by
 cases b with
 |d h=>cases h<;>first|rfl|(simp[Value.oneCell']at a)
 |agg=>simp[Value.oneCell']at a
 |_=>rfl
theorem m7(v:Value):Rep G w (DW v) v:=by
 unfold DW;split<;>first|exact .d (.bool _)|exact .d (.int _ _)|exact .d (.str _ _ rfl)|exact .d .nilp|exact .d .nili|exact .nils|exact .junk _
theorem fN{cs:Array Value}{l:List AV}(a:kz cs=some l):cs.size=l.length∧(∀(i:Nat)(u:Value),cs[i]? =some u→u.oneCell'=true)∧
    ∀(i:Nat)(c:AV)(u:Value),l[i]? =some c→cs[i]? =some u→Rep G w c u:=by
 unfold kz at a;split at a
 ·rename_i b
  simp only[xA]at a;subst a;refine⟨by simp,fun i u d=> ?_,fun i c u a d=> ?_⟩
  ·have:=xc.1 b u (by rw[xm];exact yv d)
   exact this
  ·simp only[xN,xi,d,x5,xA]at a
   subst a;exact m7 u
 ·cases a
theorem ot:∀{cs:List AV}{ds:List D},m3 cs=some ds→cs=ds.map .d∧∀c∈ds,c.one=true
 |[],ds,h=>by simp only[m3,xA]at h;subst h;simp
 | .d x::r,ds,h=>by
  simp only[m3]at h;split at h
  ·rename_i b
   simp only[xB]at h;obtain⟨f,h',rfl⟩:=h;obtain⟨e,g⟩:=ot h';refine⟨by simp[e],fun c a=> ?_⟩;rcases x0.1 a with rfl|a
   ·exact b
   ·exact g c a
  ·cases h
 | .junk::_,_,h=>by simp[m3]at h
 | .nils::_,_,h=>by simp[m3]at h
 | .es::_,_,h=>by simp[m3]at h
 | .vec _ _ _ _::_,_,h=>by simp[m3]at h
 | .sl _ _ _ _ _::_,_,h=>by simp[m3]at h
 | .ptr _ _ _ _ _::_,_,h=>by simp[m3]at h
 | .agg _::_,_,h=>by simp[m3]at h
 | .tup _::_,_,h=>by simp[m3]at h
 | .fn _ _::_,_,h=>by simp[m3]at h
theorem Rep.toDRep{x:D}{v:Value}(a:Rep G w (.d x) v):DRep G.imm w x v:=by cases a with|d h=>exact h
theorem ji{cs:List AV}{vs:Array Value}(e:vs.size=cs.length)(k:∀(i:Nat)(u:Value),vs[i]? =some u→u.oneCell'=true)
    (b:∀(i:Nat)(c:AV)(u:Value),cs[i]? =some c→vs[i]? =some u→Rep G w c u):Rep G w (ig cs) (.agg vs):=by
 unfold ig;split
 ·rename_i ds a
  obtain⟨rfl,j⟩:=ot a;refine .d (.agg ds vs (by simpa using e) j (fun i c u f g=> ?_));exact(b i (.d c) u (by simp[f]) g).toDRep
 ·exact .agg cs vs e k b
theorem gO{cs:List AV}:(ig cs).cells=cs:=by
 unfold ig;split
 ·rename_i ds a
  obtain⟨rfl,_⟩:=ot a;rfl
 ·rfl
theorem m8(v:Value):Rep G w (I1 v) v:=by
 cases v with
 |agg cs=>
  simp only[I1];split
  ·rename_i l a
   obtain⟨c,h2,b⟩:=fN (G:=G) (w:=w) a;exact ji c h2 b
  ·exact .junk _
 |_=>simp only[I1];exact m7 _
structure FR(G:Gh)(w:World)(N:Nat)(D:List Deferred)(env:Nat→AV)(a:Act):Prop where
 size:a.tmps.size=N
 nod:a.defers=D
 rep:∀t,t<N→Rep G w (env t) (a.tmps.getD t undef)
 out:∀t,N≤t→env t= .junk
theorem FR.opd{N:Nat}{D:List Deferred}{env:Nat→AV}{a:Act}(j:FR G w N D env a)(l:Globs G.imm w)(x:Operand):Rep G w (opd env x) (a.eval x):=by
 cases x with
 |tmp t=>
  by_cases e:t<N
  ·exact j.rep t e
  ·have k:Go.Avm.opd env (.tmp t)= .junk:=j.out t (Nat.le_of_not_lt e)
   rw[k];exact .junk _
 |const v=>exact m8 v
 |global g=>
  simp only[Go.Avm.opd];split
  ·rename_i cs b;exact .d (l g cs b)
  ·exact .junk _
 |func f=>exact .fn f [] #[] rfl (fun i c u b _=>by simp at b)
theorem FR.mono{N:Nat}{D:List Deferred}{env:Nat→AV}{a:Act}{c:Gh}{d:World}(b:FR G w N D env a)(e:Ext G w c d):FR c d N D env a:=
 ⟨b.size,b.nod,fun t f=>(b.rep t f).mono e,b.out⟩
theorem FR.put{N:Nat}{D:List Deferred}{env env':Nat→AV}{a:Act}(c:FR G w N D env a){dst:Option Nat}{x:AV}{v:Value}(hp:eO N env dst x=some env')(i:Rep G w x v):FR G w N D env' (a.put dst v):=by
 cases dst with
 |none=>simp only[eO,xA]at hp;subst hp;exact c
 |some d=>
  simp only[eO]at hp;split at hp
  ·rename_i g
   simp only[xA]at hp;subst hp;refine⟨by simp[Act.put,c.size],c.nod,fun t f=> ?_,fun t f=> ?_⟩
   ·simp only[Act.put,xq,Array.getElem?_setIfInBounds]
    by_cases b:d=t
    ·subst b
     simp only[af,yS,c.size,g,zH];exact i
    ·rw[xo b,ag _ _ (fun e=>b e.symm)]
     have:=c.rep t f;rwa [xq]at this
   ·rw[ag _ _ (by omega)];exact c.out t f
  ·cases hp
def Good(P:Program)(B:Nat)(w0:World)(I0:Nat→Nat→Prop)(G:Gh)(h:aa)(w:World)(r:Result Next)(out:Out):Prop:=
 ∃v a b,(r= .ok (.value v) a∨(r= .ok .skip a∧v=undef))∧Ext G w b a∧HR b B w0 I0 (ap h out.wr) a∧Rep b a out.val v
theorem Good.pure(b:HR G B w0 I0 h w){v:Value}{r:Result Next}{out:Out}(e:r= .ok (.value v) w)(hw:out.wr=[])(a:Rep G w out.val v):Good P B w0 I0 G h w r out:=
 ⟨v,w,G, .inl e,Ext.refl G w,by rw[hw];exact b,a⟩
theorem ik{t:TypeId}{d:TypeDesc}(a:P.underlying t=some d):∃i,P.info? t=some i:=by
 unfold Program.underlying at a;split at a<;>simp_all
theorem pa{t:TypeId}{d:TypeDesc}(b:P.underlying t=some d)(w:World):(sizeOf t).run P w= .ok (P.cellsOf t) w:=by
 obtain⟨i,a⟩:=ik b;simp[sizeOf,typeInfo,a,Program.cellsOf]
theorem jL{t:TypeId}{b:Bool}(a:lS P t=some b)(w:World):(isAgg t).run P w= .ok b w:=by
 simp only[lS,xB]at a;obtain⟨d,c,rfl⟩:=a;simp only[isAgg,Sem.run_bind,run_underlying c,Result.andThen_ok];cases d<;>rfl
theorem wv{t:TypeId}{b:Bool}(a:lS P t=some b):∃d,P.underlying t=some d:=by
 simp only[lS,xB]at a;obtain⟨d,c,_⟩:=a;exact⟨d,c⟩
theorem cQ{t:TypeId}{z:Value}(a:df P t=some z)(w:World):(zeroValue t).run P w= .ok z w:=by
 unfold df at a;cases b:P.info? t with
 |none=>simp[b]at a
 |some i=>
  simp only[b,yA]at a;simp[zeroValue,typeInfo,b,a]
theorem dn(b o n:Nat):(⟨b,o,none⟩:Addr).add n=⟨b,o+n,none⟩:=by unfold Addr.add;split<;>simp_all
theorem sL(W:HR G B w0 I0 h w){a:AV}{va:Value}(O:Rep G w a va){n:Nat}{cs:List AV}{ks:List Nat}(f:iM h a n=some (cs,ks)):
    ∃b o,va= .pointer (some ⟨b,o,none⟩)∧cs.length=n∧∀(j:Nat)(c:AV),cs[j]? =some c→∃u,w.cell? ⟨b,o+j,none⟩=some u∧u.oneCell'=true∧Rep G w c u:=by
 unfold iM at f;split at f
 ·rename_i ds
  split at f
  ·rename_i hn
   simp only[xA,xE]at f;obtain⟨rfl,rfl⟩:=f;cases O with
   |d Z=>
    cases Z with
    |rp _ b o U A hi f J=>
     refine⟨b,o,rfl,by simp;omega,fun j c g=> ?_⟩;simp only[xN,xB]at g;obtain⟨y,D,rfl⟩:=g
     have q:ds[j]? =some y:=by
      rw[yD]at D;split at D
      ·exact D
      ·cases D
     have:=J j y q;exact⟨U j,f j y q,this.oneCell (A y (xX q)), .d this⟩
  ·cases f
 ·rename_i k v i t Y
  split at f
  ·rename_i sz es H
   split at f
   ·rename_i X
    subst X;cases O with
    |ptr _ _ _ _ L R=>
     have m:=W.objs k _ H;split at f
     ·rename_i F
      subst F;split at f
      ·rename_i z
       obtain⟨rfl,z⟩:=z;simp only[xA,xE]at f;obtain⟨rfl,rfl⟩:=f;refine⟨L.b,i*L.sz+0,rfl,by simp;omega,fun j c g=> ?_⟩;rw[yD]at g;split at g
       ·rename_i M
        rw[xu]at g;rcases m with ⟨rfl,N⟩|⟨L',l,A,h2,T,C,Q,K⟩
        ·simp at g
        ·rw[R]at l
         simp only[xA]at l;subst l;have s:=Q rfl c (xX g)
         have r:(AV.flat es)[(i+j)*1+0]? =some c:=by
          rw[AV.flat,bM _ 1 es C (i+j) 0 (by omega),g,yA,AV.cells_lone s];rfl
         obtain⟨u,I,x,p⟩:=K _ c r;refine⟨u, ?_,x,p⟩;rw[←I,A];congr 2;omega
       ·cases g
      ·cases f
     ·split at f
      ·rename_i e E
       split at f
       ·rename_i S
        simp only[xA,xE]at f;obtain⟨rfl,rfl⟩:=f;rcases m with ⟨rfl,N⟩|⟨L',l,A,h2,T,C,Q,K⟩
        ·simp at E
        ·rw[R]at l
         simp only[xA]at l;subst l;have V:=C e (xX E);refine⟨L.b,i*L.sz+t,rfl,by simp;omega,fun j c g=> ?_⟩;rw[yD]at g;split at g
         ·rename_i M
          rw[xu]at g
          have r:(AV.flat es)[i*sz+(t+j)]? =some c:=by
           rw[AV.flat,bM _ sz es C i (t+j) (by omega),E,yA,g]
          obtain⟨u,I,x,p⟩:=K _ c r;refine⟨u, ?_,x,p⟩;rw[←I,A];congr 2;omega
         ·cases g
       ·cases f
      ·cases f
   ·cases f
  ·cases f
 ·cases f
theorem pc{b:Type}{p:Nat→b→Prop}:∀(n:Nat),(∀i,i<n→∃x,p i x)→∃l:List b,l.length=n∧∀(i:Nat)(x:b),l[i]? =some x→p i x
 |0,_=>⟨[],rfl,by simp⟩
 |n+1,hp=>by
  obtain⟨l,d,e⟩:=pc n (fun i g=>hp i (by omega));obtain⟨x,c⟩:=hp n (by omega);refine⟨l ++[x],by simp[d],fun i y a=> ?_⟩;rw[List.getElem?_append]at a;split at a
  ·exact e i y a
  ·rename_i f
   have:i=n:=by
    have:=(xC.1 a).1;simp at this;omega
   subst this;simp[d]at a;subst a;exact c
theorem AY{cs:List AV}{b o:Nat}(i:∀(j:Nat)(c:AV),cs[j]? =some c→∃u,w.cell? ⟨b,o+j,none⟩=some u∧u.oneCell'=true∧Rep G w c u):
    ∃a:List Value,a.length=cs.length∧(∀(j:Nat)(u:Value),a[j]? =some u→w.cell? ⟨b,o+j,none⟩=some u∧u.oneCell'=true)∧
     (∀(j:Nat)(c:AV)(u:Value),cs[j]? =some c→a[j]? =some u→Rep G w c u)∧(loadCells ⟨b,o,none⟩ cs.length).run P w= .ok a.toArray w:=by
 obtain⟨a,g,e⟩:=pc (p:=fun j u=>w.cell? ⟨b,o+j,none⟩=some u∧u.oneCell'=true∧∀c,cs[j]? =some c→Rep G w c u) cs.length (fun j f=>by
  obtain⟨u,l,h2,k⟩:=i j cs[j] (xD f);exact⟨u,l,h2,fun c d=>by rw[xD f]at d;simp at d;subst d;exact k⟩)
 refine⟨a,g,fun j u h=>⟨(e j u h).1,(e j u h).2.1⟩,fun j c u d h=>(e j u h).2.2 c d, ?_⟩;rw[←g];exact run_loadCells_list w ⟨b,o,none⟩ a (fun j u h=>by rw[dn];exact(e j u h).1)
theorem jM(S:HR G B w0 I0 h w){t:TypeId}{a:AV}{va:Value}(F:Rep G w a va){out:Out}(g:gr P t a h=some out):
    ∃v,(Instr.loadAt t va).run P w= .ok v w∧out.wr=[]∧out.ob=[]∧Rep G w out.val v:=by
 unfold gr at g;split at g
 ·rename_i j
  simp only[xB]at g;obtain⟨⟨cs,ks⟩,z,rfl⟩:=g;obtain⟨b,o,rfl,X,D⟩:=sL S F z;obtain⟨T,K,O,q,m⟩:=AY (P:=P) D;obtain⟨d,Q⟩:=wv j;refine⟨.agg T.toArray, ?_,rfl,rfl,ji (by simpa using K) (fun i u s=>(O i u (by simpa using s)).2) (fun i c u R s=>q i c u R (by simpa using s))⟩;rw[X]at m;simp[Instr.loadAt,Instr.sureAddr,loadVar,jL j,pa Q,m]
 ·rename_i j
  have p:∀(b o:Nat)(u:Value),va= .pointer (some ⟨b,o,none⟩)→w.cell? ⟨b,o,none⟩=some u→(Instr.loadAt t va).run P w= .ok u w:=by
   rintro b o u rfl s;simp[Instr.loadAt,Instr.sureAddr,loadVar,jL j,s]
  split at g
  ·rename_i c cs
   simp only[xA]at g;subst g;cases F with
   |d Q=>
    cases Q with
    |rp _ b o U A hi z N=>
     exact⟨U 0,p b o _ rfl (z 0 c rfl),rfl,rfl, .d (N 0 c rfl)⟩
  ·rename_i k v i n W
   split at g
   ·rename_i sz es M
    split at g
    ·rename_i V
     subst V
     have l:∀(c:AV),(sz=1∧n=0∧es[i]? =some c)∨(sz≠1∧∃e,es[i]? =some e∧e.cells[n]? =some c)→∃v,(Instr.loadAt t va).run P w= .ok v w∧Rep G w c v:=by
      intro c f;cases F with
      |ptr _ _ _ _ L Z=>
       rcases S.objs k _ M with ⟨rfl,hLn⟩|⟨L',y,A,h2,h3,H,Y,h5⟩
       ·rcases f with ⟨_,_,f⟩|⟨_,e,f,_⟩<;>simp at f
       ·rw[Z]at y
        simp only[xA]at y;subst y
        have J:(AV.flat es)[i*sz+n]? =some c:=by
         rcases f with ⟨rfl,rfl,r⟩|⟨_,e,r,z⟩
         ·rw[AV.flat,bM _ 1 es H i 0 (by omega),r,yA,AV.cells_lone (Y rfl c (xX r))];rfl
         ·have C:=(xC.1 z).1
          rw[H e (xX r)]at C;rw[AV.flat,bM _ sz es H i n C,r,yA,z]
        obtain⟨u,s,_,q⟩:=h5 _ c J;exact⟨u,p L.b (i*L.sz+n) u rfl (by rw[A];exact s),q⟩
     split at g
     ·split at g
      ·rename_i I E
       simp only[xB]at g;obtain⟨x,D,rfl⟩:=g;obtain⟨v,A,h2⟩:=l x (.inl ⟨I,E,D⟩);exact⟨v,A,rfl,rfl,h2⟩
      ·cases g
     ·split at g
      ·rename_i I _ e r
       simp only[xB]at g;obtain⟨x,D,rfl⟩:=g;obtain⟨v,A,h2⟩:=l x (.inr ⟨I,e,r,D⟩);exact⟨v,A,rfl,rfl,h2⟩
      ·cases g
    ·cases g
   ·cases g
  ·cases g
 ·cases g
end
end Go.Avm
