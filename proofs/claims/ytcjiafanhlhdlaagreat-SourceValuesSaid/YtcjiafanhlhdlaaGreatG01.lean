/-
  The abstract machine, part A: immutable data, abstract values, what they stand for in a world, and what carries over from one world to the next.
-/
import Derived.Tactics
import Derived.Below
import Derived.Laws.Append
import Derived.Laws.World
import Derived.Laws.CopyOwn
set_option linter.unusedVariables false
set_option linter.unusedSimpArgs false
set_option linter.unusedSectionVars false
namespace Go.Avm
open Go.RowKit
theorem xA:type_of% @Option.some.injEq:= @Option.some.injEq
theorem xB:type_of% @Option.map_eq_some_iff:= @Option.map_eq_some_iff
theorem xC:type_of% @Prod.mk.injEq:= @Prod.mk.injEq
theorem xD:type_of% @List.getElem?_eq_some_iff:= @List.getElem?_eq_some_iff
theorem xE:type_of% @List.getElem?_eq_getElem:= @List.getElem?_eq_getElem
theorem xF:type_of% @Array.getElem?_eq_getElem:= @Array.getElem?_eq_getElem
theorem xG:type_of% @Array.getElem?_eq_some_iff:= @Array.getElem?_eq_some_iff
theorem xH:type_of% @List.mem_singleton:= @List.mem_singleton
theorem xI:type_of% @List.map_cons:= @List.map_cons
theorem xJ:type_of% @List.mem_append:= @List.mem_append
theorem xK:type_of% @List.getElem?_map:= @List.getElem?_map
theorem xL:type_of% @List.getElem?_append_left:= @List.getElem?_append_left
theorem xM:type_of% @List.map_append:= @List.map_append
theorem xN:type_of% @List.getElem?_append_right:= @List.getElem?_append_right
theorem xO:type_of% @Nat.le_refl:= @Nat.le_refl
theorem xP:type_of% @Option.map_some:= @Option.map_some
theorem xQ:type_of% @List.eq_nil_of_length_eq_zero:= @List.eq_nil_of_length_eq_zero
theorem xR:type_of% @List.mem_cons:= @List.mem_cons
theorem xS:type_of% @List.mem_of_getElem? := @List.mem_of_getElem?
theorem xU:type_of% @Bool.and_eq_true:= @Bool.and_eq_true
theorem xV:type_of% @List.length_map:= @List.length_map
theorem xW:type_of% @if_pos:= @if_pos
theorem xX:type_of% @Array.getElem?_toList:= @Array.getElem?_toList
theorem xY:type_of% @List.all_eq_true:= @List.all_eq_true
theorem xZ:type_of% @List.length_append:= @List.length_append
theorem x0:type_of% @List.mem_append_left:= @List.mem_append_left
theorem x5:type_of% @Array.length_toList:= @Array.length_toList
theorem x6:type_of% @List.length_cons:= @List.length_cons
theorem x7:type_of% @List.getElem?_of_mem:= @List.getElem?_of_mem
theorem x8:type_of% @List.append_assoc:= @List.append_assoc
theorem x9:type_of% @cond_false:= @cond_false
theorem xa:type_of% @Array.mem_toList_iff:= @Array.mem_toList_iff
theorem xb:type_of% @Array.getD_eq_getD_getElem? := @Array.getD_eq_getD_getElem?
theorem xc:type_of% @List.mem_append_right:= @List.mem_append_right
theorem xe:type_of% @Nat.zero_add:= @Nat.zero_add
theorem xf:type_of% @List.mem_map:= @List.mem_map
theorem xg:type_of% @List.map_nil:= @List.map_nil
theorem xh:type_of% @Option.bind_some:= @Option.bind_some
theorem xi:type_of% @if_neg:= @if_neg
theorem xj:type_of% @List.mem_or_eq_of_mem_set:= @List.mem_or_eq_of_mem_set
theorem xk:type_of% @List.getElem?_cons_zero:= @List.getElem?_cons_zero
theorem xl:type_of% @List.getElem?_take:= @List.getElem?_take
theorem xm:type_of% @List.flatMap_cons:= @List.flatMap_cons
theorem xn:type_of% @Nat.eq_of_beq_eq_true:= @Nat.eq_of_beq_eq_true
theorem xo:type_of% @List.getElem?_drop:= @List.getElem?_drop
theorem xp:type_of% @List.length_nil:= @List.length_nil
theorem xq:type_of% @List.drop_eq_getElem_cons:= @List.drop_eq_getElem_cons
theorem xt:type_of% @List.mem_cons_of_mem:= @List.mem_cons_of_mem
theorem xu:type_of% @Bool.not_eq_true':= @Bool.not_eq_true'
theorem xw:type_of% @of_decide_eq_true:= @of_decide_eq_true
theorem xx:type_of% @List.mem_cons_self:= @List.mem_cons_self
theorem xy:type_of% @List.mem_of_mem_take:= @List.mem_of_mem_take
theorem xz:type_of% @if_true:= @if_true
theorem yA:type_of% @Array.getElem?_append_left:= @Array.getElem?_append_left
theorem yB:type_of% @List.cons_append:= @List.cons_append
theorem yC:type_of% @Bool.or_eq_true:= @Bool.or_eq_true
theorem yD:type_of% @List.not_mem_nil:= @List.not_mem_nil
theorem yE:type_of% @List.nodup_nil:= @List.nodup_nil
theorem yF:type_of% @Nat.mul_le_mul_right:= @Nat.mul_le_mul_right
theorem yG:type_of% @List.length_eq_one_iff:= @List.length_eq_one_iff
theorem yH:type_of% @List.flatMap_append:= @List.flatMap_append
theorem yI:type_of% @List.map_congr_left:= @List.map_congr_left
theorem yJ:type_of% @cond_true:= @cond_true
theorem yK:type_of% @Nat.add_assoc:= @Nat.add_assoc
theorem yL:type_of% @beq_iff_eq:= @beq_iff_eq
theorem yM:type_of% @Array.getElem_toList:= @Array.getElem_toList
theorem yN:type_of% @Nat.add_mul:= @Nat.add_mul
theorem yO:type_of% @List.mem_of_mem_drop:= @List.mem_of_mem_drop
theorem yP:type_of% @Nat.lt_of_lt_of_le:= @Nat.lt_of_lt_of_le
theorem yQ:type_of% @Bool.false_eq_true:= @Bool.false_eq_true
theorem yR:type_of% @List.take_of_length_le:= @List.take_of_length_le
theorem yS:type_of% @not_or:= @not_or
theorem yT:type_of% @List.any_eq_true:= @List.any_eq_true
theorem yU:type_of% @List.getElem?_toArray:= @List.getElem?_toArray
theorem yV:type_of% @List.getElem?_eq_none:= @List.getElem?_eq_none
theorem yW:type_of% @Int.toNat_natCast:= @Int.toNat_natCast
theorem yX:type_of% @List.drop_zero:= @List.drop_zero
theorem yY:type_of% @List.append_nil:= @List.append_nil
theorem yZ:type_of% @List.getElem?_cons_succ:= @List.getElem?_cons_succ
theorem y0:type_of% @Option.bind_eq_some_iff:= @Option.bind_eq_some_iff
theorem y5:type_of% @List.range'_succ:= @List.range'_succ
theorem y6:type_of% @decide_eq_true_eq:= @decide_eq_true_eq
theorem y7:type_of% @List.mem_map_of_mem:= @List.mem_map_of_mem
theorem y8:type_of% @Nat.le_trans:= @Nat.le_trans
theorem y9:type_of% @Nat.lt_or_ge:= @Nat.lt_or_ge
theorem ya:type_of% @if_false:= @if_false
theorem yb:type_of% @Array.getElem?_map:= @Array.getElem?_map
theorem yc:type_of% @List.getElem_mem:= @List.getElem_mem
theorem yd:type_of% @Nat.zero_le:= @Nat.zero_le
theorem ye:type_of% @List.range_eq_range':= @List.range_eq_range'
theorem yf:type_of% @Array.getElem_mem:= @Array.getElem_mem
theorem yg:type_of% @List.nil_append:= @List.nil_append
theorem yh:type_of% @beq_eq_false_iff_ne:= @beq_eq_false_iff_ne
theorem yi:type_of% @List.mem_filter:= @List.mem_filter
theorem yj:type_of% @Option.getD_some:= @Option.getD_some
theorem yk:type_of% @Array.toList_inj:= @Array.toList_inj
theorem yl:type_of% @List.drop_length:= @List.drop_length
theorem ym:type_of% @of_decide_eq_false:= @of_decide_eq_false
theorem yn:type_of% @List.nodup_cons:= @List.nodup_cons
theorem yo:type_of% @Nat.add_zero:= @Nat.add_zero
theorem yp:type_of% @and_true:= @and_true
theorem ld(s:ByteArray):∀(n i:Nat)(r:List UInt8),s.size-i=n→ByteArray.toList.loop s i r=r.reverse ++s.data.toList.drop i
 |0,i,r,h=>by
  rw[ByteArray.toList.loop,xi (by omega),List.drop_eq_nil_of_le (by simp only[x5];show s.size≤i;omega),yY]
 |n+1,i,r,h=>by
  have a:i<s.size:=by omega
  have b:i<s.data.toList.length:=by simpa using a
  rw[ByteArray.toList.loop,xW a,ld s n (i+1) _ (by omega),xq b]
  have:s.get! i=s.data.toList[i]:=by
   simp only[ByteArray.get!,yM];exact getElem!_pos s.data i (by simpa using b)
  rw[this];simp
theorem nF(s:ByteArray):s.toList=s.data.toList:=by
 rw[ByteArray.toList,ld s s.size 0 [] (by omega)];simp
inductive D where
 |bool (b:Bool)
 |int (k:IntKind) (n:Int)
 |str (s:List UInt8)
 |agg (cs:List D)
 |ro (l:List D)
 |rp (cs:List D)
 |nilp
 |nili
 |ifc
 deriving Inhabited
def D.cells:D→List D
 | .agg cs=>cs
 |x=>[x]
def D.one:D→Bool
 | .agg _=>false
 |_=>true
def D.flat(l:List D):List D:=l.flatMap D.cells
inductive AV where
 |junk
 |d (x:D)
 |nils
 |es
 |vec (k v sz:Nat) (l:List D)
 |sl (k v off len sz:Nat)
 |ptr (k v i off sz:Nat)
 |agg (cs:List AV)
 |tup (vs:List AV)
 |fn (f:Nat) (caps:List AV)
 |mp (k v:Nat)
 |yld (k v:Nat)
 |itr (k v:Nat)
 |iv (t:TypeId) (x:AV)
 |vp (k v:Nat) (l:List D)
 deriving Inhabited
def AV.cells:AV→List AV
 | .agg cs=>cs
 | .d (.agg cs)=>cs.map .d
 |x=>[x]
def AV.one:AV→Bool
 | .junk| .agg _| .tup _| .d (.agg _)=>false
 |_=>true
def AV.stor:AV→Bool
 | .junk| .tup _=>false
 |_=>true
def AV.flat(l:List AV):List AV:=l.flatMap AV.cells
def AV.lone:AV→Bool
 | .agg _| .d (.agg _)=>false
 |_=>true
theorem AV.cells_lone{x:AV}(h:x.lone=true):x.cells=[x]:=by
 cases x with
 |d y=>cases y<;>first|rfl|(simp[AV.lone]at h)
 |agg _=>simp[AV.lone]at h
 |_=>rfl
def aq{a:Type}(f:Nat→a)(k:Nat)(x:a):Nat→a:=fun t=>if t=k then x else f t
theorem ad{a:Type}(f:Nat→a)(k:Nat)(x:a):aq f k x k=x:=by simp[aq]
theorem ab{a:Type}(f:Nat→a){k t:Nat}(x:a)(h:t≠k):aq f k x t=f t:=by simp[aq,h]
theorem tn{a:Type}(f:Nat→a){k t:Nat}(x y:a)(h:t≠k):aq (aq f k x) t y=aq (aq f t y) k x:=by
 funext s;simp only[aq];by_cases b:s=t<;>by_cases h2:s=k<;>simp_all
def ag:List (Nat×AV)→Nat→AV
 |[]=>fun _=> .junk
 |(k,x)::r=>aq (ag r) k x
theorem iO(env:Nat→AV):∀(l:List (Nat×AV)),(∀p∈l,p.2=env p.1)→∀t,ag l t=env t∨ag l t= .junk
 |[],_,t=> .inr rfl
 |(k,x)::r,h,t=>by
  by_cases a:t=k
  ·subst a
   left;simp only[ag,ad];exact h (t,x) (by simp)
  ·simp only[ag,ab _ _ a]
   exact iO env r (fun p hp=>h p (by simp[hp])) t
inductive LSt where
 |ready
 |busy
 |done (c:Code)
def LSt.state:LSt→LoopState
 | .ready=> .ready
 | .busy=> .busy
 | .done _=> .done
def LSt.pending:LSt→Option Code
 | .done c=>some c
 |_=>none
inductive Ob where
 |arr (sz:Nat) (es:List AV)
 |map (es:List (D×D×Nat)) (clock:Nat)
 |lp (fno N:Nat) (env:List (Nat×AV)) (ps:Array Nat) (Fx bd:Code) (st:LSt)
 |itr (km vm since:Nat) (seen:List Nat)
 |typ (k v:Nat) (T:TypeId) (n:Option Nat)
 deriving Inhabited
def Ob.flex:Ob→Bool
 | .arr _ _=>true
 | .typ _ _ _ _=>true
 |_=>false
def fa:Option Ob→Bool
 |some o=> !o.flex
 |none=>false
theorem ei{o:Option Ob}(h:fa o=true):∃x,o=some x∧x.flex=false:=by
 cases o with
 |none=>cases h
 |some x=>exact⟨x,rfl,by simpa [fa]using h⟩
theorem fb:∀o:Ob,o.flex=false→none≠some o:=fun _ _ e=>by cases e
theorem tp{k v:Nat}{T:TypeId}{n:Option Nat}:∀o:Ob,o.flex=false→some (.typ k v T n)≠some o:=fun o h e=>by cases e;cases h
theorem fR{sz:Nat}{es:List AV}:∀o:Ob,o.flex=false→some (.arr sz es)≠some o:=fun o h e=>by cases e;cases h
structure aI where
 ver:Nat
 ob:Option Ob
 deriving Inhabited
abbrev aa:=Nat→aI
structure nG where
 b:Nat
 sz:Nat
 cap:Nat
 fr:Nat
 ty:TypeId
structure Gh where
 imm:Nat→Nat→Prop
 loc:Nat→Nat→Option nG
 lim:Nat→Nat
 mloc:Nat→Nat→Option Nat
inductive DRep(imm:Nat→Nat→Prop)(w:World):D→Value→Prop
 |bool (b:Bool):DRep imm w (.bool b) (.bool b)
 |int (k:IntKind) (n:Int):DRep imm w (.int k n) (.int k n)
 |str (l:List UInt8) (s:ByteArray) (h:s.data.toList=l):DRep imm w (.str l) (.string s)
 |nilp:DRep imm w .nilp (.pointer none)
 |nili:DRep imm w .nili .nilIface
 |ifc (t:TypeId) (v:Value):DRep imm w .ifc (.iface t v)
 |agg (cs:List D) (vs:Array Value) (hl:vs.size=cs.length) (h1:∀c∈cs,c.one=true)
     (h:∀(i:Nat)(c:D)(u:Value),cs[i]? =some c→vs[i]? =some u→DRep imm w c u):DRep imm w (.agg cs) (.agg vs)
 |roNil (ao:Option Addr) (c:Nat):DRep imm w (.ro []) (.slice ao 0 c)
 |ro (l:List D) (b o c sz:Nat) (U:Nat→Value) (hcap:l.length≤c) (hsz:∀e∈l,e.cells.length=sz) (h1:∀e∈D.flat l,e.one=true)
     (hi:∀(t:Nat)(c:D),(D.flat l)[t]? =some c→imm b (o+t)) (hc:∀(t:Nat)(c:D),(D.flat l)[t]? =some c→w.cell? ⟨b,o+t,none⟩=some (U t))
     (hr:∀(t:Nat)(c:D),(D.flat l)[t]? =some c→DRep imm w c (U t)):DRep imm w (.ro l) (.slice (some ⟨b,o,none⟩) l.length c)
 |rp (cs:List D) (b o:Nat) (U:Nat→Value) (h1:∀e∈cs,e.one=true) (hi:∀(t:Nat)(c:D),cs[t]? =some c→imm b (o+t)) (hc:∀(t:Nat)(c:D),cs[t]? =some c→w.cell? ⟨b,o+t,none⟩=some (U t))
     (hr:∀(t:Nat)(c:D),cs[t]? =some c→DRep imm w c (U t)):DRep imm w (.rp cs) (.pointer (some ⟨b,o,none⟩))
inductive Rep(G:Gh)(w:World):AV→Value→Prop
 |junk (v:Value):Rep G w .junk v
 |d {x:D} {v:Value} (h:DRep G.imm w x v):Rep G w (.d x) v
 |nils:Rep G w .nils (.slice none 0 0)
 |es (ao:Option Addr):Rep G w .es (.slice ao 0 0)
 |vecNil (k ver sz:Nat):Rep G w (.vec k ver sz []) (.slice none 0 0)
 |vec (k ver:Nat) (l:List D) (L:nG) (hL:G.loc k ver=some L) (hfr:L.fr=l.length*L.sz) (hlen:l.length≤L.cap) (hsz:∀e∈l,e.cells.length=L.sz)
     (h:DRep G.imm w (.ro l) (.slice (some ⟨L.b,0,none⟩) l.length L.cap)):Rep G w (.vec k ver L.sz l) (.slice (some ⟨L.b,0,none⟩) l.length L.cap)
 |slNil (k ver sz:Nat) (ao:Option Addr):Rep G w (.sl k ver 0 0 sz) (.slice ao 0 0)
 |sl (k ver off len c:Nat) (L:nG) (hL:G.loc k ver=some L) (hc:off+c≤L.cap) (hlen:len≤c):Rep G w (.sl k ver off len L.sz) (.slice (some ⟨L.b,off*L.sz,none⟩) len c)
 |ptr (k ver i off:Nat) (L:nG) (hL:G.loc k ver=some L):Rep G w (.ptr k ver i off L.sz) (.pointer (some ⟨L.b,i*L.sz+off,none⟩))
 |agg (cs:List AV) (vs:Array Value) (hl:vs.size=cs.length) (h1:∀(i:Nat)(u:Value),vs[i]? =some u→u.oneCell'=true)
     (h:∀(i:Nat)(c:AV)(u:Value),cs[i]? =some c→vs[i]? =some u→Rep G w c u):Rep G w (.agg cs) (.agg vs)
 |tup (cs:List AV) (vs:Array Value) (hl:vs.size=cs.length)
     (h:∀(i:Nat)(c:AV)(u:Value),cs[i]? =some c→vs[i]? =some u→Rep G w c u):Rep G w (.tup cs) (.tuple vs)
 |fn (f:Nat) (caps:List AV) (vs:Array Value) (hl:vs.size=caps.length)
     (h:∀(i:Nat)(c:AV)(u:Value),caps[i]? =some c→vs[i]? =some u→Rep G w c u):Rep G w (.fn f caps) (.func (.func f) #[] vs)
 |mp (k ver b:Nat) (hL:G.mloc k ver=some b):Rep G w (.mp k ver) (.map (some b))
 |yld (k ver b:Nat) (hL:G.mloc k ver=some b):Rep G w (.yld k ver) (.func (.yield b) #[] #[])
 |itr (k ver b:Nat) (hL:G.mloc k ver=some b):Rep G w (.itr k ver) (.pointer (some ⟨b,0,none⟩))
 |iv (t:TypeId) {x:AV} (v:Value) (h:Rep G w x v):Rep G w (.iv t x) (.iface t v)
 |vp (k ver:Nat) (l:List D) (L:nG) (hL:G.loc k ver=some L) (h1:L.sz=1) (hlen:l.length≤L.cap)
     (h:DRep G.imm w (.ro l) (.slice (some ⟨L.b,0,none⟩) l.length L.cap)):Rep G w (.vp k ver l) (.pointer (some ⟨L.b,0,none⟩))
theorem DRep.mono{imm d:Nat→Nat→Prop}{w m:World}{x:D}{v:Value}(h:DRep imm w x v)(q:∀b o,imm b o→d b o)
    (p:∀b o,imm b o→m.cell? ⟨b,o,none⟩=w.cell? ⟨b,o,none⟩):DRep d m x v:=by
 induction h with
 |bool b=>exact .bool b
 |int k n=>exact .int k n
 |str l s h=>exact .str l s h
 |nilp=>exact .nilp
 |nili=>exact .nili
 |ifc t v=>exact .ifc t v
 |agg cs vs r e _ g=>exact .agg cs vs r e g
 |roNil u c=>exact .roNil u c
 |ro l b o c sz U f i e a j _ g=>exact .ro l b o c sz U f i e (fun t c h=>q _ _ (a t c h)) (fun t c h=>(p _ _ (a t c h)).trans (j t c h)) g
 |rp cs b o U e a j _ g=>exact .rp cs b o U e (fun t c h=>q _ _ (a t c h)) (fun t c h=>(p _ _ (a t c h)).trans (j t c h)) g
theorem DRep.oneCell{imm:Nat→Nat→Prop}{w:World}{x:D}{v:Value}(h:DRep imm w x v)(a:x.one=true):v.oneCell'=true:=by
 cases h<;>first|rfl|(simp[D.one]at a)
def ii:Obj→Bool
 | .loop _=>true
 | .deferred _=>true
 | .mapIter _ _ _ _=>true
 |_=>false
def iP:Obj→Bool
 | .loop _=>true
 | .map _ _=>true
 | .mapIter _ _ _ _=>true
 |_=>false
def eV:Obj→Obj→Prop
 | .loop _,o'=>∃r,o'= .loop r
 | .mapIter _ _ _ _,o'=>∃m s q c,o'= .mapIter m s q c
 |o,o'=>o'=o
theorem cn(o:Obj):eV o o:=by cases o<;>first|rfl|exact⟨_,rfl⟩|exact⟨_,_,_,_,rfl⟩
theorem nH{a b c:Obj}(h:eV a b)(k:eV b c):eV a c:=by
 cases a with
 |loop r=>obtain⟨d,rfl⟩:=h;exact k
 |mapIter _ _ _ _=>obtain⟨_,_,_,_,rfl⟩:=h;exact k
 |_=>cases h;exact k
theorem su{a b:Obj}(h:eV a b)(k:ii a=true):ii b=true:=by
 cases a with
 |loop r=>obtain⟨c,rfl⟩:=h;rfl
 |mapIter _ _ _ _=>obtain⟨_,_,_,_,rfl⟩:=h;rfl
 |_=>cases h;exact k
structure Ext(G:Gh)(w:World)(G':Gh)(w':World):Prop where
 imm:∀b o,G.imm b o→G'.imm b o
 loc:∀k v L,G.loc k v=some L→G'.loc k v=some L
 cell:∀b o,G.imm b o→w'.cell? ⟨b,o,none⟩=w.cell? ⟨b,o,none⟩
 size:w.heap.size≤w'.heap.size
 lim:∀k,G.lim k≤G'.lim k
 nloc:∀k v,v≤G.lim k→G.loc k v=none→G'.loc k v=none
 mloc:∀k v b,G.mloc k v=some b→G'.mloc k v=some b
 kept:∀(b:Nat)(o:Obj),ii o=true→w.heap[b]? =some o→∃o',w'.heap[b]? =some o'∧eV o o'
theorem Ext.refl(G:Gh)(w:World):Ext G w G w:=⟨fun _ _ h=>h,fun _ _ _ h=>h,fun _ _ _=>rfl,xO _,fun _=>xO _,fun _ _ _ h=>h,fun _ _ _ h=>h,fun _ o _ h=>⟨o,h,cn o⟩⟩
theorem Ext.trans{G g c:Gh}{w e d:World}(h:Ext G w g e)(k:Ext g e c d):Ext G w c d:=
 ⟨fun b o x=>k.imm _ _ (h.imm _ _ x),fun a v L x=>k.loc _ _ _ (h.loc _ _ _ x),fun b o x=>(k.cell _ _ (h.imm _ _ x)).trans (h.cell _ _ x),y8 h.size k.size,fun a=>y8 (h.lim a) (k.lim a),
  fun a v f x=>k.nloc _ _ (y8 f (h.lim a)) (h.nloc _ _ f x),fun a v b x=>k.mloc _ _ _ (h.mloc _ _ _ x),fun b o j x=>by
   obtain⟨q,l,i⟩:=h.kept b o j x;obtain⟨n,m,p⟩:=k.kept b q (su i j) l;exact⟨n,m,nH i p⟩⟩
theorem Rep.mono{G A:Gh}{w z:World}{x:AV}{v:Value}(h:Rep G w x v)(e:Ext G w A z):Rep A z x v:=by
 induction h with
 |junk v=>exact .junk v
 |d h=>exact .d (h.mono e.imm e.cell)
 |nils=>exact .nils
 |es y=>exact .es y
 |vecNil k a sz=>exact .vecNil k a sz
 |vec k a l L j u g s h=>exact .vec k a l L (e.loc _ _ _ j) u g s (h.mono e.imm e.cell)
 |slNil k a sz y=>exact .slNil k a sz y
 |sl k a m q c L j B g=>exact .sl k a m q c L (e.loc _ _ _ j) B g
 |ptr k a i m L j=>exact .ptr k a i m L (e.loc _ _ _ j)
 |agg cs vs p r _ n=>exact .agg cs vs p r n
 |tup cs vs p _ n=>exact .tup cs vs p n
 |fn f o vs p _ n=>exact .fn f o vs p n
 |mp k a b j=>exact .mp k a b (e.mloc _ _ _ j)
 |yld k a b j=>exact .yld k a b (e.mloc _ _ _ j)
 |itr k a b j=>exact .itr k a b (e.mloc _ _ _ j)
 |iv t v _ n=>exact .iv t v n
 |vp k a l L j r g h=>exact .vp k a l L (e.loc _ _ _ j) r g (h.mono e.imm e.cell)
theorem Rep.oneCell{G:Gh}{w:World}{x:AV}{v:Value}(h:Rep G w x v)(a:x.one=true):v.oneCell'=true:=by
 cases h with
 |d h=>exact h.oneCell (by cases h<;>simp_all [AV.one,D.one])
 |_=>first|rfl|(simp[AV.one]at a)
theorem Rep.cells{G:Gh}{w:World}{x:AV}{v:Value}(h:Rep G w x v)(M:x.stor=true):
    v.cells.size=x.cells.length∧(∀u∈v.cells.toList,u.oneCell'=true)∧∀(i:Nat)(c:AV)(u:Value),x.cells[i]? =some c→v.cells[i]? =some u→Rep G w c u:=by
 have a:∀(y:AV)(u:Value),Rep G w y u→u.oneCell'=true→y.cells=[y]→u.cells= #[u]→
     u.cells.size=y.cells.length∧(∀t∈u.cells.toList,t.oneCell'=true)∧∀(i:Nat)(c:AV)(t:Value),y.cells[i]? =some c→u.cells[i]? =some t→Rep G w c t:=by
  intro y u E q N p;rw[N,p];refine⟨rfl,fun t H=> ?_,fun i c t j H=> ?_⟩
  ·simp at H;subst H;exact q
  ·cases i with
   |zero=>simp at j H;subst j;subst H;exact E
   |succ i=>simp at j
 cases h with
 |junk=>simp[AV.stor]at M
 |tup=>simp[AV.stor]at M
 |d h=>
  cases h with
  |agg cs vs C q h=>
   refine⟨by simp[Value.cells,AV.cells,C],fun u p=> ?_,fun i c u j p=> ?_⟩
   ·simp only[Value.cells,xa]at p
    obtain⟨i,z,rfl⟩:=Array.mem_iff_getElem.1 p;have j:cs[i]? =some (cs[i]'(by omega)):=xE _;exact(h i _ _ j (xF z)).oneCell (q _ (yc _))
   ·simp only[AV.cells,xK,xB]at j
    obtain⟨c',K,rfl⟩:=j;exact .d (h i c' u K p)
  |bool b=>exact a _ _ (.d (.bool b)) rfl rfl rfl
  |int k n=>exact a _ _ (.d (.int k n)) rfl rfl rfl
  |str l s h=>exact a _ _ (.d (.str l s h)) rfl rfl rfl
  |nilp=>exact a _ _ (.d .nilp) rfl rfl rfl
  |nili=>exact a _ _ (.d .nili) rfl rfl rfl
  |ifc t v=>exact a _ _ (.d (.ifc t v)) rfl rfl rfl
  |roNil D c=>exact a _ _ (.d (.roNil D c)) rfl rfl rfl
  |ro l b o c sz U F r q z j E=>exact a _ _ (.d (.ro l b o c sz U F r q z j E)) rfl rfl rfl
  |rp cs b o U q z j E=>exact a _ _ (.d (.rp cs b o U q z j E)) rfl rfl rfl
 |nils=>exact a _ _ .nils rfl rfl rfl
 |es D=>exact a _ _ (.es D) rfl rfl rfl
 |vecNil k e sz=>exact a _ _ (.vecNil k e sz) rfl rfl rfl
 |vec k e l L m I g r h=>exact a _ _ (.vec k e l L m I g r h) rfl rfl rfl
 |slNil k e sz D=>exact a _ _ (.slNil k e sz D) rfl rfl rfl
 |sl k e A J c L m j g=>exact a _ _ (.sl k e A J c L m j g) rfl rfl rfl
 |ptr k e i A L m=>exact a _ _ (.ptr k e i A L m) rfl rfl rfl
 |agg cs vs C q h=>
  refine⟨by simp[Value.cells,AV.cells,C],fun u p=> ?_,fun i c u j p=>h i c u j p⟩;simp only[Value.cells,xa]at p;obtain⟨i,z,rfl⟩:=Array.mem_iff_getElem.1 p;exact q i _ (xF z)
 |fn f B vs C h=>exact a _ _ (.fn f B vs C h) rfl rfl rfl
 |mp k e b m=>exact a _ _ (.mp k e b m) rfl rfl rfl
 |yld k e b m=>exact a _ _ (.yld k e b m) rfl rfl rfl
 |itr k e b m=>exact a _ _ (.itr k e b m) rfl rfl rfl
 |iv t v h=>exact a _ _ (.iv t v h) rfl rfl rfl
 |vp k e l L m q g h=>exact a _ _ (.vp k e l L m q g h) rfl rfl rfl
def frz:AV→AV
 | .vec _ _ _ l=> .d (.ro l)
 |x=>x
theorem Rep.frz{G:Gh}{w:World}{x:AV}{v:Value}(h:Rep G w x v):Rep G w (frz x) v:=by
 cases h with
 |vecNil k a sz=>exact .d (.roNil none 0)
 |vec k a l L g s e r h=>exact .d h
 |junk=>exact .junk _
 |d h=>exact .d h
 |nils=>exact .nils
 |es q=>exact .es q
 |slNil k a sz q=>exact .slNil k a sz q
 |sl k a j o c L g u e=>exact .sl k a j o c L g u e
 |ptr k a i j L g=>exact .ptr k a i j L g
 |agg cs vs n p h=>exact .agg cs vs n p h
 |tup cs vs n h=>exact .tup cs vs n h
 |fn f m vs n h=>exact .fn f m vs n h
 |mp k a b g=>exact .mp k a b g
 |yld k a b g=>exact .yld k a b g
 |itr k a b g=>exact .itr k a b g
 |iv t v h=>exact .iv t v h
 |vp k a l L g p e h=>exact .vp k a l L g p e h
theorem aW{a g:Type}(f:a→List g)(sz:Nat):∀(l:List a),(∀e∈l,(f e).length=sz)→∀i j,j<sz→(l.flatMap f)[i*sz+j]? =(l[i]?).bind fun e=>(f e)[j]?
 |[],_,i,j,_=>by simp
 |e::l,h,i,j,c=>by
  have b:=h e (by simp);cases i with
  |zero=>
   simp only[xm,Nat.zero_mul,xe,xk,xh];rw[xL (by omega)]
  |succ i=>
   simp only[xm,yZ];rw[xN (by rw[b,Nat.succ_mul];omega),b];have:(i+1)*sz+j-sz=i*sz+j:=by rw[Nat.succ_mul];omega
   rw[this];exact aW f sz l (fun d h'=>h d (by simp[h'])) i j c
theorem bg{a c:Type}(f:a→List c)(sz:Nat):∀(l:List a),(∀e∈l,(f e).length=sz)→(l.flatMap f).length=l.length*sz
 |[],_=>by simp
 |e::l,h=>by
  simp only[xm,xZ,x6,Nat.succ_mul];rw[h e (by simp),bg f sz l (fun b h'=>h b (by simp[h']))];omega
def Dq(G:Gh)(B:Nat)(w:World)(L:nG):Prop:=
 B≤L.b∧(∃arr e,w.heap[L.b]? =some (.cells arr e (0,0))∧arr.size=L.cap*L.sz∧e=L.ty)∧(∀o,G.imm L.b o→o<L.fr)
def ObRep(G:Gh)(w:World)(k a:Nat):Ob→Prop
 | .arr sz es=>(es=[]∧G.loc k a=none)∨∃L,G.loc k a=some L∧L.sz=sz∧L.fr=0∧es.length≤L.cap∧(∀e∈es,e.cells.length=sz)∧(sz=1→∀e∈es,e.lone=true)∧
     ∀t c,(AV.flat es)[t]? =some c→∃u,w.cell? ⟨L.b,t,none⟩=some u∧u.oneCell'=true∧Rep G w c u
 | .map _ _=>True
 | .lp _ _ _ _ _ _ _=>True
 | .itr _ _ _ _=>True
 | .typ d f T n=>f≤G.lim d∧∀L,G.loc d f=some L→L.ty=T∧∀m,n=some m→L.cap*L.sz=m
inductive vG where
 |indexByte
 |same
class ap where
 tab:Nat→Option (List D)
 once:Option Nat
 ext:Nat→Option vG:=fun _=>none
variable[ap]
def Globs(imm:Nat→Nat→Prop)(w:World):Prop:=∀g cs,ap.tab g=some cs→DRep imm w (.rp cs) (.pointer (some ⟨g,0,none⟩))
theorem Globs.mono{imm a:Nat→Nat→Prop}{w c:World}(h:Globs imm w)(e:∀b o,imm b o→a b o)(d:∀b o,imm b o→c.cell? ⟨b,o,none⟩=w.cell? ⟨b,o,none⟩):Globs a c:=fun g cs f=>(h g cs f).mono e d
def sx(imm:Nat→Nat→Prop)(w:World)(b:Nat)(es:List (D×D×Nat))(c:Nat):Prop:=
 ∃a:Array MapEntry,w.heap[b]? =some (.map a c)∧a.size=es.length∧∀(i:Nat)(e:D×D×Nat)(m:MapEntry),es[i]? =some e→a[i]? =some m→DRep imm w e.1 m.key∧DRep imm w e.2.1 m.val∧m.born=e.2.2
structure LRep(G:Gh)(w:World)(N:Nat)(env:List (Nat×AV))(ps:Array Nat)(Fx bd:Code)(st:LSt)(r:Loop):Prop where
 size:r.tmps.size=N
 rep:∀t,t<N→Rep G w (ag env t) (r.tmps.getD t undef)
 out:∀t,N≤t→ag env t= .junk
 ps:r.params=ps
 Fx:r.assign=Fx
 bd:r.body=bd
 state:r.state=st.state
 pending:r.pending=st.pending
theorem LRep.mono{G d:Gh}{w a:World}{N:Nat}{env:List (Nat×AV)}{f:Array Nat}{Fx c:Code}{b:LSt}{r:Loop}(h:LRep G w N env f Fx c b r)(e:Ext G w d a):LRep d a N env f Fx c b r:=
 ⟨h.size,fun t g=>(h.rep t g).mono e,h.out,h.ps,h.Fx,h.bd,h.state,h.pending⟩
structure MR(G:Gh)(B:Nat)(h:aa)(w:World):Prop where
 low:∀k v b,G.mloc k v=some b→B≤b∧(∃o,iP o=true∧w.heap[b]? =some o)∧v≤(h k).ver
 inj:∀k k' b,fa (h k).ob=true→fa (h k').ob=true→G.mloc k (h k).ver=some b→G.mloc k' (h k').ver=some b→k=k'
 obj:∀k es c,(h k).ob=some (.map es c)→∃b,G.mloc k (h k).ver=some b∧sx G.imm w b es c
 loops:∀k fno N env ps Fx bd st,(h k).ob=some (.lp fno N env ps Fx bd st)→∃b r,G.mloc k (h k).ver=some b∧w.heap[b]? =some (.loop r)∧LRep G w N env ps Fx bd st r
 iters:∀k km vm since seen,(h k).ob=some (.itr km vm since seen)→∃b bm sa c0,G.mloc k (h k).ver=some b∧G.mloc km vm=some bm∧w.heap[b]? =some (.mapIter (some bm) since sa c0)∧sa.toList=seen∧c0=since
 glob:Globs G.imm w
structure HR(G:Gh)(B:Nat)(w0:World)(I0:Nat→Nat→Prop)(h:aa)(w:World):Prop where
 below:Below B w0 w
 bsz:B≤w.heap.size
 immlt:∀b o,G.imm b o→b<w.heap.size
 i0:∀b o,I0 b o→G.imm b o
 immlow:∀b o,G.imm b o→b<B→I0 b o
 fresh:∀k v L,G.loc k v=some L→v≤(h k).ver
 own:∀k L,G.loc k (h k).ver=some L→Dq G B w L
 dis:∀k k' L L',G.loc k (h k).ver=some L→G.loc k' (h k').ver=some L'→L.b=L'.b→k=k'
 objs:∀k ob,(h k).ob=some ob→ObRep G w k (h k).ver ob
 lim:∀k,G.lim k=(h k).ver
 maps:MR G B h w
theorem MR.step{G u:Gh}{B:Nat}{h h':aa}{w A:World}(hm:MR G B h w)(e:Ext G w u A)(g:u.mloc=G.mloc)(t:∀(b:Nat) o,iP o=true→w.heap[b]? =some o→A.heap[b]? =some o)
    (T:∀k,(h k).ver≤(h' k).ver) (d:∀(k:Nat)(o:Ob),o.flex=false→(h' k).ob=some o→h' k=h k):MR u B h' A:=by
 refine⟨fun k v b a=> ?_,fun k D b l l' a q=> ?_,fun k es c a=> ?_,fun k C N env U Fx S J a=> ?_,fun k V M n seen a=> ?_,hm.glob.mono e.imm e.cell⟩
 ·rw[g]at a
  obtain⟨p,⟨o,d,h2⟩,j⟩:=hm.low k v b a;exact⟨p,⟨o,d,t _ _ d h2⟩,y8 j (T k)⟩
 ·obtain⟨o,l,f⟩:=ei l
  obtain⟨o',l',F⟩:=ei l';have E:=d k o f l;have H:=d D o' F l';rw[g,E]at a;rw[g,H]at q;exact hm.inj k D b (by rw[←E,l];simp[fa,f]) (by rw[←H,l'];simp[fa,F]) a q
 ·have s:=d k _ rfl a
  rw[s]at a ⊢;obtain⟨b,p,K,h2,j,y⟩:=hm.obj k es c a;refine⟨b,by rw[g];exact p,K,t _ _ rfl h2,j,fun i x m P z=> ?_⟩;obtain⟨R,L,W⟩:=y i x m P z;exact⟨R.mono e.imm e.cell,L.mono e.imm e.cell,W⟩
 ·have s:=d k _ rfl a
  rw[s]at a ⊢;obtain⟨b,r,p,h2,j⟩:=hm.loops k C N env U Fx S J a;exact⟨b,r,by rw[g];exact p,t _ _ rfl h2,j.mono e⟩
 ·have s:=d k _ rfl a
  rw[s]at a ⊢;obtain⟨b,O,I,Q,p,h2,j,y⟩:=hm.iters k V M n seen a;exact⟨b,O,I,Q,by rw[g];exact p,by rw[g];exact h2,t _ _ rfl j,y⟩
theorem HR.blt{G:Gh}{B:Nat}{w0 w:World}{I0:Nat→Nat→Prop}{h:aa}(a:HR G B w0 I0 h w){k:Nat}{L:nG}(d:G.loc k (h k).ver=some L):L.b<w.heap.size:=by
 obtain⟨_,⟨arr,e,c,_⟩,_⟩:=a.own k L d;exact(xG.1 c).1
end Go.Avm
namespace Go.Avm
variable[ap]
structure Out where
 val:AV
 wr:List (Nat×aI):=[]
 rd:List Nat:=[]
 ob:List (Nat×List D×List D):=[]
inductive Obl where
 |data (c:Nat×List D×List D)
 |heap (f:Nat) (args:List AV) (h:aa) (rs:List AV) (h':aa)
 |frame (f:Nat) (args:List AV) (pre:List (Nat×aI)) (rs:List AV) (post:List (Nat×aI))
 |yield (k v:Nat) (args:List AV) (h:aa) (rs:List AV) (h':aa)
 |exact(f:Nat) (args:List AV) (pre:List Nat) (h0:aa) (rs:List AV) (post:List Nat) (h1:aa)
inductive EH where
 |heap (rs:List AV) (h':aa) (tk:List Nat)
 |frame (pre:List (Nat×aI)) (rs:List AV) (post:List (Nat×aI))
 |exact(pre:List Nat) (h0:aa) (rs:List AV) (post:List Nat) (h1:aa)
structure d0 where
 ret:Nat→List D:=fun _=>[]
 obm:Nat→Bool:=fun _=>false
 hc:Nat→Option EH:=fun _=>none
 base:Nat→Nat:=fun _=>0
 deriving Inhabited
def bp(P:Program)(t:TypeId):Bool:=(P.info? t).isSome
def bC(P:Program)(t:TypeId):Option Value:=(P.info? t).bind (·.zero)
def gR(P:Program)(t:TypeId):Option Bool:=(P.underlying t).map fun| .struct _| .array _ _=>true|_=>false
def sy:Value→AV
 | .bool b=> .d (.bool b)
 | .int k n=> .d (.int k n)
 | .string s=> .d (.str s.data.toList)
 | .pointer none=> .d .nilp
 | .nilIface=> .d .nili
 | .slice none 0 0=> .nils
 |_=> .junk
def iQ:List AV→Option (List D)
 |[]=>some []
 | .d x::r=>if x.one then (iQ r).map (x:: ·)else none
 |_::_=>none
def ek(cs:List AV):AV:=match iQ cs with
 |some ds=> .d (.agg ds)
 |none=> .agg cs
def fS(cs:Array Value):Option (List AV):=if cs.toList.all (·.oneCell')then some (cs.toList.map sy)else none
def vC:Value→AV
 | .agg cs=>match fS cs with
  |some l=>ek l
  |none=> .junk
 |v=>sy v
def opd(env:Nat→AV):Operand→AV
 | .tmp t=>env t
 | .const v=>vC v
 | .func f=> .fn f []
 | .global g=>match ap.tab g with
  |some cs=> .d (.rp cs)
  |none=> .junk
def cN(f:AV→Option (D×List Nat)):List AV→Option (List D×List Nat)
 |[]=>some ([],[])
 |x::r=>match f x,cN f r with
  |some a,some b=>some (a.1::b.1,a.2 ++b.2)
  |_,_=>none
def view:Nat→aa→AV→Option (D×List Nat)
 |0,_,_=>none
 |n+1,h,x=>
  match x with
  | .d y=>some (y,[])
  | .nils| .es=>some (.ro [],[])
  | .vec _ _ _ l=>some (.ro l,[])
  | .sl k v a b _=>
   match (h k).ob with
   |some (.arr _ es)=>if (h k).ver=v∧a+b≤es.length then (cN (view n h) ((es.drop a).take b)).map fun r=>(.ro r.1,k::r.2)else none
   |_=>none
  | .ptr k v i a _=>
   match (h k).ob with
   |some (.arr sz es)=>
    if (h k).ver=v∧sz=1∧a=0∧i≤es.length then (cN (view n h) (es.drop i)).map fun r=>(.rp r.1,k::r.2)else none
   |_=>none
  | .agg cs=>(cN (view n h) cs).map fun r=>(.agg r.1,r.2)
  |_=>none
abbrev view.go(n:Nat)(h:aa)(l:List AV):Option (List D×List Nat):=cN (view n h) l
def nI:AV→Option D
 | .d y=>some y
 | .nils| .es=>some (.ro [])
 | .vec _ _ _ l=>some (.ro l)
 | .agg cs=>(go cs).map .agg
 |_=>none
where go:List AV→Option (List D)
 |[]=>some []
 | .d y::r=>if y.one then (go r).map (y:: ·)else none
 | .nils::r| .es::r=>(go r).map (.ro []:: ·)
 | .vec _ _ _ l::r=>(go r).map (.ro l:: ·)
 |_::_=>none
def kF:List AV→Option (List D)
 |[]=>some []
 |x::r=>match nI x,kF r with
  |some a,some b=>some (a::b)
  |_,_=>none
def D.scal:D→Bool
 | .bool _| .int _ _| .str _| .nilp| .nili| .ifc=>true
 |_=>false
def kill(h:aa)(ks:List Nat):List (Nat×aI):=ks.map fun k=>(k,⟨(h k).ver+1,none⟩)
def fc:List D→AV
 |[x]=> .d x
 |l=> .tup (l.map .d)
def d7(h:aa)(a:AV)(n:Nat):Option (List AV×List Nat):=
 match a with
 | .d (.rp cs)=>if n≤cs.length then some ((cs.take n).map .d,[])else none
 | .ptr k v i b _=>
  match (h k).ob with
  |some (.arr sz es)=>
   if (h k).ver=v then
    if sz=1 then (if b=0∧i+n≤es.length then some ((es.drop i).take n,[k])else none)
    else match es[i]? with
     |some e=>if b+n≤sz then some ((e.cells.drop b).take n,[k])else none
     |none=>none
   else none
  |_=>none
 |_=>none
def cV(P:Program)(t:TypeId)(a:AV)(h:aa):Option Out:=
 match gR P t with
 |some true=>(d7 h a (P.cellsOf t)).map fun r=>{val:=ek r.1,rd:=r.2}
 |some false=>match a with
  | .d (.rp (c::_))=>some {val:= .d c}
  | .ptr k v i b _=>
   match (h k).ob with
   |some (.arr sz es)=>
    if (h k).ver=v then
     if sz=1 then (if b=0 then (es[i]?).map fun x=>{val:=x,rd:=[k]}else none)
     else match es[i]? with
      |some e=>(e.cells[b]?).map fun x=>{val:=x,rd:=[k]}
      |none=>none
    else none
   |_=>none
  |_=>none
 |none=>none
def cw(P:Program)(t:TypeId)(a x:AV)(h:aa):Option Out:=
 match a with
 | .ptr k v i b _=>
  match (h k).ob with
  |some (.arr sz es)=>
   if (h k).ver=v∧x.stor=true∧x.cells.length=P.cellsOf t∧bp P t=true then
    if sz=1 then
     if b=0 then
      (if x.one then (if i<es.length then some {val:= .junk,rd:=[k],wr:=[(k,⟨v,some (.arr sz (es.set i x))⟩)]}else none)
       else if i+x.cells.length≤es.length then some {val:= .junk,rd:=[k],wr:=[(k,⟨v,some (.arr sz (es.take i ++x.cells ++es.drop (i+x.cells.length)))⟩)]}else none)
     else none
    else match es[i]? with
     |some e=>
      if b=0∧x.cells.length=sz then some {val:= .junk,rd:=[k],wr:=[(k,⟨v,some (.arr sz (es.set i x))⟩)]}
      else if b+x.cells.length≤sz then some {val:= .junk,rd:=[k],wr:=[(k,⟨v,some (.arr sz (es.set i (ek (e.cells.take b ++x.cells ++e.cells.drop (b+x.cells.length)))))⟩)]}else none
     |none=>none
   else none
  |_=>none
 |_=>none
def newOb(h:aa)(k sz:Nat)(es:List AV):Nat×aI:=(k,⟨(h k).ver+1,some (.arr sz es)⟩)
def ij(P:Program)(t:TypeId):Option (List AV):=(bC P t).bind fun z=>fS z.cells
def di(P:Program)(t:TypeId)(k:Nat)(h:aa):Option Out:=
 match ij P t with
 |some a=>some {val:= .ptr k ((h k).ver+1) 0 0 1,rd:=[k],wr:=[newOb h k 1 a]}
 |none=>none
def fT(x:AV)(k:Nat)(h:aa):Option Out:=
 if x.stor then some {val:= .ptr k ((h k).ver+1) 0 0 1,rd:=[k],wr:=[newOb h k 1 x.cells]}else none
def m6(a:Nat→Option (Nat×Nat))(cs:List AV):List (Nat×AV)→Option (List AV)
 |[]=>some cs
 |(i,x)::r=>
  match a i with
  |some (b,c)=>if x.stor=true∧x.cells.length=c∧b+x.cells.length≤cs.length then m6 a (cs.take b ++x.cells ++cs.drop (b+x.cells.length)) r else none
  |none=>none
def fieldsOf(P:Program)(t:TypeId):Option (Array Field):=match P.underlying t with
 |some (.struct fs)=>some fs
 |_=>none
def d8(P:Program)(t:TypeId)(i:Nat):Option (Nat×Nat):=(fieldsOf P t).bind fun fs=>(fs[i]?).map fun f=>(f.offset,P.cellsOf f.type)
def fU(P:Program)(t:TypeId):Bool:=match fieldsOf P t with
 |some fs=>fs.toList.all fun f=>(P.info? f.type).isSome
 |none=>false
def lf(P:Program)(t:TypeId)(i:Nat):Option Bool:=(fieldsOf P t).bind fun fs=>(fs[i]?).bind fun f=>gR P f.type
def wW(P:Program)(t:TypeId):Option TypeId:=match P.underlying t with
 |some (.array _ e)=>if bp P e=true then some e else none
 |_=>none
def nJ(P:Program)(t:TypeId)(a:List (Nat×AV)):Option Out:=
 match fU P t,ij P t with
 |true,some b=>(m6 (d8 P t) b a).map fun cs=>{val:=ek cs}
 |false,some b=>match wW P t with
  |some e=>(m6 (fun i=>some (i*P.cellsOf e,P.cellsOf e)) b a).map fun cs=>{val:=ek cs}
  |none=>none
 |_,_=>none
def fV:Nat→List (Nat×AV)→Option (List AV)
 |_,[]=>some []
 |n,(i,x)::r=>if i=n then (fV (n+1) r).map (x:: ·)else none
def cy(P:Program)(obm:Bool)(t:TypeId)(a:Nat)(b:List (Nat×AV))(k:Nat)(h:aa):Option Out:=
 match P.underlying t with
 |some (.slice e)=>
  match fV 0 b with
  |some xs=>
   if xs.length=a∧a*P.cellsOf e≤65536∧(bC P e).isSome=true∧xs.all (fun x=>x.stor&&x.cells.length==P.cellsOf e)=true then
    if obm then if P.cellsOf e=1∧xs.all AV.lone=false then none else some {val:= .sl k ((h k).ver+1) 0 a (P.cellsOf e),rd:=[k],wr:=[newOb h k (P.cellsOf e) xs]}
    else match view.go 3 h xs with
     |some r=>
      if k∈r.2 then none else
      some {val:= .vec k ((h k).ver+1) (P.cellsOf e) r.1,rd:=k::r.2,wr:=(k,⟨(h k).ver+1,none⟩)::kill h r.2}
     |none=>none
   else none
  |none=>none
 |_=>none
def c3(P:Program)(t:TypeId)(x c:AV)(h:aa):Option Out:=
 match P.underlying t,c with
 |some (.slice e), .d (.int _ i)=>
  match x with
  | .d (.ro l)| .vec _ _ _ l=>
   if 0≤i then match l[i.toNat]? with
    |some y=>if y.cells.length=P.cellsOf e∧bp P e=true then some {val:= .d (.rp y.cells)}else none
    |none=>none
   else none
  | .sl k v a b sz=>if sz=P.cellsOf e∧bp P e=true∧0≤i∧i.toNat<b then some {val:= .ptr k v (a+i.toNat) 0 sz}else none
  |_=>none
 |some (.array n e), .d (.int _ i)=>
  match x with
  | .ptr k v j a sz=>if sz=1∧a=0∧bp P e=true∧0≤i∧i.toNat<n then some {val:= .ptr k v (j+i.toNat*P.cellsOf e) 0 sz}else none
  | .d (.rp cs)=>if bp P e=true∧0≤i∧i.toNat<n then some {val:= .d (.rp (cs.drop (i.toNat*P.cellsOf e)))}else none
  |_=>none
 |_,_=>none
def fW(P:Program)(t:TypeId)(x:AV)(f:Nat)(h:aa):Option Out:=
 match d8 P t f,fU P t with
 |some (b,fs),true=>
  if fs=0 then none else
  match x with
  | .d (.rp cs)=>some {val:= .d (.rp (cs.drop b))}
  | .ptr k v i a sz=>if sz=1 then (if a=0 then some {val:= .ptr k v (i+b) 0 sz}else none)else some {val:= .ptr k v i (a+b) sz}
  |_=>none
 |_,_=>none
def nK(P:Program)(t:TypeId)(x:AV)(f:Nat):Option Out:=
 match d8 P t f,lf P t f,x with
 |some (a,fs),some true, .d (.agg cs)=>if a+fs≤cs.length then some {val:= .d (.agg ((cs.drop a).take fs))}else none
 |some (a,_),some false, .d (.agg cs)=>(cs[a]?).map fun c=>{val:= .d c}
 |some (a,fs),some true, .agg cs=>if a+fs≤cs.length then some {val:=ek ((cs.drop a).take fs)}else none
 |some (a,_),some false, .agg cs=>(cs[a]?).map fun c=>{val:=c}
 |_,_,_=>none
def rA(op:BinOp)(x y:AV):Option AV:=
 match x,y with
 | .d (.int k a), .d (.int c b)=>
  match op with
  | .shl=>if 0≤b then some (.d (.int k (k.wrap (a*2^(min b.toNat k.bits)))))else none
  | .shr=>if 0≤b then some (.d (.int k (a.fdiv (2^(min b.toNat k.bits)))))else none
  |_=>
   if k=c then
    match op with
    | .add=>some (.d (.int k (k.wrap (a+b))))
    | .sub=>some (.d (.int k (k.wrap (a-b))))
    | .mul=>some (.d (.int k (k.wrap (a*b))))
    | .quo=>if b=0 then none else some (.d (.int k (k.wrap (a.tdiv b))))
    | .rem=>if b=0 then none else some (.d (.int k (a.tmod b)))
    | .and=>some (.d (.int k (k.wrap (BitVec.ofInt k.bits a&&&BitVec.ofInt k.bits b).toNat)))
    | .or=>some (.d (.int k (k.wrap (BitVec.ofInt k.bits a|||BitVec.ofInt k.bits b).toNat)))
    | .xor=>some (.d (.int k (k.wrap (BitVec.ofInt k.bits a^^^BitVec.ofInt k.bits b).toNat)))
    | .eql=>some (.d (.bool (a==b)))
    | .neq=>some (.d (.bool (a !=b)))
    | .lss=>some (.d (.bool (decide (a<b))))
    | .leq=>some (.d (.bool (decide (a≤b))))
    | .gtr=>some (.d (.bool (decide (b<a))))
    | .geq=>some (.d (.bool (decide (b≤a))))
    |_=>none
   else none
 | .d (.str a), .d (.str b)=>
  match op with
  | .add=>if a.length+b.length≤9223372036854775807 then some (.d (.str (a ++b)))else none
  | .eql=>some (.d (.bool (a==b)))
  | .neq=>some (.d (.bool (!(a==b))))
  | .lss=>some (.d (.bool (Op.bytesLess a b)))
  | .leq=>some (.d (.bool (Op.bytesLess a b||a==b)))
  | .gtr=>some (.d (.bool (!(Op.bytesLess a b||a==b))))
  | .geq=>some (.d (.bool (!Op.bytesLess a b)))
  |_=>none
 |_,_=>none
def cW:List D→List D→Option Bool
 |[],[]=>some true
 | .int k a::r, .int c b::s=>if k=c then (cW r s).map fun t=>decide (a=b)&&t else none
 |_,_=>none
def oS(P:Program)(t:TypeId)(x y:D):Option Bool:=
 match P.underlying t,x,y with
 |some (.int _), .int k a, .int c b=>if k=c then some (a==b)else none
 |some .bool, .bool a, .bool b=>some (a==b)
 |some .string, .str a, .str b=>some (a==b)
 |_,_,_=>none
def bF(P:Program):List Field→Nat→List D→List D→Option Bool
 |[],_,[],[]=>some true
 |f::fs,i,x::xs,y::ys=>
  if f.name≠ "_"∧f.offset=i∧gR P f.type=some false then
   match oS P f.type x y,bF P fs (i+1) xs ys with
   |some a,some b=>some (a&&b)
   |_,_=>none
  else none
 |_,_,_,_=>none
def em(P:Program)(e:TypeId):List D→List D→Option Bool
 |[],[]=>some true
 |x::xs,y::ys=>match oS P e x y,em P e xs ys with
  |some a,some b=>some (a&&b)
  |_,_=>none
 |_,_=>none
def zq(P:Program)(t:TypeId)(x y:AV):Option Bool:=
 match P.underlying t,x,y with
 |some .bool, .d (.bool a), .d (.bool b)=>some (a==b)
 |some (.struct fs), .d (.agg xs), .d (.agg ys)=>if P.stoodInHeld t=false∧P.eqGuardType P.depth t=false then bF P fs.toList 0 xs ys else none
 |some (.array n e), .d (.agg xs), .d (.agg ys)=>if xs.length=n∧P.cellsOf e=1∧gR P e=some false∧P.eqGuardType P.depth t=false then em P e xs ys else none
 |_,_,_=>none
def tq:Operand→Bool
 | .const _=>true
 |_=>false
def tr(P:Program)(e:TypeId)(x y:AV):Option Bool:=
 match x,y with
 | .d .nilp, .d .nilp=>some true
 | .ptr _ _ _ _ _, .d .nilp| .d .nilp, .ptr _ _ _ _ _| .d (.rp _), .d .nilp| .d .nilp, .d (.rp _)=>some false
 | .ptr k v i b sz, .ptr h f g a c=>if k=h∧v=f∧i*sz+b=g*c+a∧bp P e=true∧P.cellsOf e≠0 then some true else none
 |_,_=>none
def rB(P:Program)(t:TypeId)(a b:Operand)(x y:AV):Option Bool:=
 match tq a||tq b,P.underlying t,x,y with
 |true,some (.interface _), .d .nili, .d .nili=>some true
 |true,some (.interface _), .d .ifc, .d .nili=>some false
 |_,some (.interface _), .iv _ _, .d .nili=>some false
 |_,some (.pointer e),x,y=>tr P e x y
 |_,_,_,_=>zq P t x y
def zr(op:UnOp)(x:AV):Option AV:=
 match op,x with
 | .not, .d (.bool b)=>some (.d (.bool (!b)))
 | .neg, .d (.int k n)=>some (.d (.int k (k.wrap (0-n))))
 | .xor, .d (.int k n)=>some (.d (.int k (k.wrap (BitVec.ofInt k.bits (if k.signed then -1 else k.max)^^^BitVec.ofInt k.bits n).toNat)))
 |_,_=>none
def jK(P:Program)(a dst:TypeId)(x:AV):Option AV:=
 match P.underlying a,P.underlying dst,x with
 |some (.int _),some (.int k), .d (.int _ n)=>some (.d (.int k (k.wrap n)))
 |_,_,_=>none
def fX(P:Program)(a dst:TypeId)(x:AV):Option Out:=
 match P.underlying a,P.underlying dst,x with
 |some .string,some (.slice e), .d (.str s)=>match P.underlying e with
  |some (.int .u8)=>some {val:= .d (.ro (s.map fun b=> .int .u8 (b.toNat:Int)))}
  |_=>none
 |_,_,_=>none
def ik:List D→Option (List UInt8)
 |[]=>some []
 | .int .u8 n::r=>(ik r).map (UInt8.ofNat n.toNat:: ·)
 |_::_=>none
def jL(P:Program)(a dst:TypeId)(x:AV):Option AV:=
 match P.underlying a,P.underlying dst with
 |some (.slice e),some .string=>match P.underlying e,x with
  |some (.int .u8), .d (.ro l)=>(ik l).map fun b=> .d (.str b)
  |some (.int .u8), .vec _ _ _ l=>(ik l).map fun b=> .d (.str b)
  |_,_=>none
 |_,_=>none
def nL(P:Program)(e:TypeId):Option AV:=
 match bC P e with
 |some (.agg cs)=>(fS cs).map ek
 |some z=>if z.oneCell' then some (sy z)else none
 |none=>none
def bI(P:Program)(t:TypeId)(l c:AV)(k:Nat)(h:aa):Option Out:=
 match P.underlying t,l,c with
 |some (.slice e), .d (.int .i64 l), .d (.int .i64 c)=>
  match nL P e with
  |some z=>
   if 0≤l∧l≤c∧c≤1099511627776∧P.bytesOf e≤256∧z.cells.length=P.cellsOf e∧0<P.cellsOf e∧(P.cellsOf e=1→z.lone=true)then
    some {val:= .sl k ((h k).ver+1) 0 l.toNat (P.cellsOf e),rd:=[k],wr:=[newOb h k (P.cellsOf e) (List.replicate l.toNat z)]}
   else none
  |none=>none
 |_,_,_=>none
def bZ(b:Option AV)(a:Nat):Option Nat:=
 match b with
 |none=>some a
 |some (.d (.int _ i))=>if 0≤i then some i.toNat else none
 |_=>none
def fp(P:Program)(t:TypeId)(x:AV)(g c i:Option AV):Option Out:=
 match P.underlying t with
 |some (.slice e)=>
  if bp P e=false then none else
  match i with
  |none=>
   match x with
   | .d (.ro l)| .vec _ _ _ l=>
    match bZ g 0,bZ c l.length with
    |some a,some b=>if a≤b∧b≤l.length∧(a=0∨l.all (fun y=>y.cells.length==P.cellsOf e)=true)then some {val:= .d (.ro ((l.take b).drop a))}else none
    |_,_=>none
   | .nils=>
    match bZ g 0,bZ c 0 with
    |some 0,some 0=>some {val:= .nils}
    |_,_=>none
   | .sl k v h f sz=>
    match bZ g 0,bZ c f with
    |some a,some b=>if a=0∧b≤f then some {val:= .sl k v h b sz}else none
    |_,_=>none
   |_=>none
  |some m=>
   if bZ g 0=some 0∧bZ c 0=some 0∧bZ (some m) 0=some 0∧c.isSome=true then
    match x with
    | .d (.ro _)| .vec _ _ _ _| .sl _ _ _ _ _| .nils=>some {val:= .es}
    |_=>none
   else none
 |some .string=>
  match x,i with
  | .d (.str s),none=>
   match bZ g 0,bZ c s.length with
   |some a,some b=>if a≤b∧b≤s.length then some {val:= .d (.str ((s.take b).drop a))}else none
   |_,_=>none
  |_,_=>none
 |_=>none
def b7(P:Program)(a dst:TypeId)(x:AV)(h:aa):Option Out:=
 match P.underlying a,x with
 |some (.slice e), .vec k v 1 (y::l)=>
  if a=dst∧(h k).ver=v then match P.underlying e with
   |some (.int .u8)=>some {val:= .d (.ro (y::l)),rd:=[k],wr:=kill h [k]}
   |_=>none
  else none
 |_,_=>none
def ts:AV→Option Nat
 | .d (.ro l)| .vec _ _ _ l=>some l.length
 | .nils| .es=>some 0
 | .sl _ _ _ a _=>some a
 |_=>none
def tt(P:Program)(t:TypeId)(x:AV):Option Out:=
 match P.underlying t with
 |some (.slice _)=>match ts x with
  |some n=>some {val:= .d (.int .i64 (n:Int))}
  |none=>none
 |some .string=>match x with
  | .d (.str s)=>some {val:= .d (.int .i64 (s.length:Int))}
  |_=>none
 |_=>none
def iR(c:Bool)(x y:AV):Option Out:=
 match x,y with
 | .d (.int k a), .d (.int _ b)=>some {val:= .d (.int k (if c then (if a<b then b else a)else (if b<a then b else a)))}
 |_,_=>none
def fO(k:Nat):Nat:=k+4611686018427387904
def fY(b:UInt8):D:= .int .u8 (b.toNat:Int)
def en(h:aa):AV→Option (List D×List Nat)
 | .d (.str s)=>some (s.map fY,[])
 | .d (.ro l)| .vec _ _ _ l=>some (l,[])
 | .nils| .es=>some ([],[])
 | .sl k v a b _=>
  match (h k).ob with
  |some (.arr _ es)=>if (h k).ver=v∧a+b≤es.length then (view.go 2 h ((es.drop a).take b)).bind fun r=>if r.2=[]then some (r.1,[k])else none else none
  |_=>none
 |_=>none
def aZ(P:Program)(obm:Bool)(t:TypeId)(s x:AV)(k:Nat)(h:aa):Option Out:=
 match P.underlying t with
 |some (.slice e)=>
  match en h x,bC P e with
  |some (news,a),some z=>
   if news.all (fun y=>y.cells.length==P.cellsOf e)=true∧0<P.cellsOf e∧P.bytesOf e≤256∧z.cells.size=P.cellsOf e then
    match s with
    | .nils=>
     if k∈a∨549755813888<news.length then none else
     if obm then if P.cellsOf e=1∧news.all D.one=false then none else some {val:= .sl k ((h k).ver+1) 0 news.length (P.cellsOf e),rd:=k::a,wr:=[newOb h k (P.cellsOf e) (news.map .d)]}
     else some {val:= .vec k ((h k).ver+1) (P.cellsOf e) news,rd:=k::a,wr:=[(k,⟨(h k).ver+1,none⟩)]}
    | .es=>
     if k∈a∨549755813888<news.length then none else
     if obm then if P.cellsOf e=1∧news.all D.one=false then none else some {val:= .sl k ((h k).ver+1) 0 news.length (P.cellsOf e),rd:=k::a,wr:=[newOb h k (P.cellsOf e) (news.map .d)]}
     else some {val:= .d (.ro news),rd:=a}
    | .vec k v sz l=>
     if (h k).ver=v∧(h k).ob.isNone=true∧k∉a∧sz=P.cellsOf e∧l.length+news.length≤549755813888 then
      some {val:= .vec k (v+1) sz (l ++news),rd:=k::a,wr:=[(k,⟨v+1,none⟩)]}
     else none
    | .sl k v c b _=>
     match (h k).ob with
     |some (.arr sz es)=>
      if (h k).ver=v∧c=0∧b≤es.length∧sz=P.cellsOf e∧b+news.length≤549755813888∧(sz=1→news.all D.one=true)then
       some {val:= .sl k (v+1) 0 (b+news.length) sz,rd:=k::a,wr:=[(k,⟨v+1,some (.arr sz (es.take b ++news.map .d))⟩)]}
      else none
     |_=>none
    |_=>none
   else none
  |_,_=>none
 |_=>none
def lg(P:Program)(t a:TypeId):Bool:=t==a||match P.underlying a with
 |some .string=>true
 |_=>false
def iS(h:aa)(k v:Nat):Option (TypeId×Option Nat):=match (h (fO k)).ob with
 |some (.typ a b T n)=>if a=k∧b=v then some (T,n)else none
 |_=>none
def bk(typ:Bool)(T:TypeId)(n:Option Nat)(k v:Nat)(h:aa)(out:Out):Out:=
 if typ=true∧fO k∉out.wr.map (·.1)then {out with rd:=fO k::out.rd,wr:=out.wr ++[(fO k,⟨(h (fO k)).ver,some (.typ k v T n)⟩)]}else out
def AV.isVec:AV→Bool
 | .vec _ _ _ _=>true
 |_=>false
def il(P:Program)(t:TypeId):Bool:=match P.underlying t with
 |some (.slice e)=>match P.underlying e with
  |some (.int .u8)=>true
  |_=>false
 |_=>false
def Bz(P:Program)(t:TypeId):Bool:=match P.info? t with
 |some i=>match i.desc with
  | .named n _=>n== "strings.Builder"
  |_=>false
 |none=>false
def BA(P:Program)(t:TypeId):Bool:=Bz P t||match P.underlying t with
 |some (.struct fs)=>fs.toList.any fun f=>Bz P f.type
 |_=>false
def bG(P:Program)(obm:Bool)(t:TypeId)(s x:AV)(k:Nat)(h:aa):Option Out:=
 match aZ P obm t s x k h with
 |some out=>match il P t,P.underlying t,out.val with
  |true,some (.slice e), .vec a b _ _=>
   if b=(h a).ver+1∧(s.isVec=false∨iS h a (h a).ver=some (e,none))then some (bk true e none a b h {out with rd:=a::fO a::out.rd})
   else some {out with rd:=a::fO a::out.rd}
  |_,_,_=>some out
 |none=>none
def AV.isRef:AV→Bool
 | .sl _ _ _ _ _| .ptr _ _ _ _ _=>true
 |_=>false
theorem AV.isRef_lone{x:AV}(h:x.isRef=true):x.lone=true:=by cases x<;>first|rfl|cases h
theorem tu{x:AV}(c:x.isRef=true){n:Nat}{h:aa}{a:D×List Nat}(b:view n h x=some a):a.2≠[]:=by
 cases n with
 |zero=>simp only[view]at b;cases b
 |succ n=>
  cases x<;>first|(cases c;done)|skip
  all_goals
   simp only[view]at b;split at b
   ·split at b
    ·simp only[xB]at b
     obtain⟨r,_,rfl⟩:=b;simp
    ·cases b
   ·cases b
def cj(P:Program)(t:TypeId)(s x:AV)(h:aa):Option Out:=
 match P.underlying t with
 |some (.slice e)=>match bC P e,s,x with
  |some z, .sl k v d a _, .sl f j c b _=>
   match (h k).ob,(h f).ob with
   |some (.arr sz es),some (.arr g [i])=>
    if (h k).ver=v∧d=0∧a≤es.length∧sz=1∧(h f).ver=j∧c=0∧b=1∧g=1∧P.cellsOf e=1∧P.bytesOf e≤256∧z.cells.size=1∧a+1≤549755813888∧i.isRef=true then
     some {val:= .sl k (v+1) 0 (a+1) 1,rd:=[k,f],wr:=[(k,⟨v+1,some (.arr 1 (es.take a ++[i]))⟩)]}
    else none
   |_,_=>none
  |_,_,_=>none
 |_=>none
def dy(P:Program)(t:TypeId)(s x:AV)(k:Nat)(h:aa):Option Out:=
 match P.underlying t with
 |some (.slice e)=>match bC P e,s,x with
  |some z, .nils, .sl c g b a _=>
   match (h c).ob with
   |some (.arr d [f])=>
    if (h c).ver=g∧b=0∧a=1∧d=1∧P.cellsOf e=1∧P.bytesOf e≤256∧z.cells.size=1∧f.isRef=true then
     some {val:= .sl k ((h k).ver+1) 0 1 1,rd:=[k,c],wr:=[(k,⟨(h k).ver+1,some (.arr 1 [f])⟩)]}
    else none
   |_=>none
  |_,_,_=>none
 |_=>none
theorem qe{h:aa}{e f j d:Nat}{c:AV}(g:c.isRef=true)(b:(h e).ob=some (.arr d [c])):en h (.sl e f 0 1 j)=none:=by
 simp only[en,b];split;case isFalse=>rfl
 show(cN (view 2 h) [c]).bind _=none;simp only[cN];cases i:view 2 h c with
 |none=>rfl
 |some a=>
  have:=tu g i;simp only[xh,yY];rw[xi this]
theorem eo{P:Program}{obm:Bool}{t:TypeId}{s:AV}{k:Nat}{h:aa}{b d g c:Nat}{f:AV}(i:f.isRef=true)(a:(h b).ob=some (.arr c [f])):bG P obm t s (.sl b d 0 1 g) k h=none:=by
 have e:aZ P obm t s (.sl b d 0 1 g) k h=none:=by
  unfold aZ;rw[qe i a];split
  ·rfl
  ·rfl
 unfold bG;rw[e]
def c4(P:Program)(b dst:TypeId)(x:AV)(h:aa):Option Out:=
 match P.underlying b,P.underlying dst,x with
 |some (.pointer t),some .unsafePointer, .ptr k v i a sz=>
  match iS h k v with
  |some (_,some n)=>if (h k).ver=v∧bp P t=true∧P.cellsOf t≠0∧i*sz+a<n then some {val:= .ptr k v i a sz,rd:=[k,fO k]}else none
  |_=>none
 |some .unsafePointer,some (.pointer u), .ptr k v i a sz=>
  match iS h k v with
  |some (T,some n)=>if (h k).ver=v∧bp P u=true∧liesAt P P.depth T (n/P.cellsOf T) (i*sz+a) u 1=true then some {val:= .ptr k v i a sz,rd:=[k,fO k]}else none
  |_=>none
 |_,_,_=>none
def lh(P:Program)(a dst:TypeId)(x:AV)(h:aa):Option Out:=
 match fX P a dst x with
 |some out=>some out
 |none=>match jL P a dst x with
  |some v=>some {val:=v}
  |none=>match jK P a dst x with
   |some v=>some {val:=v}
   |none=>match b7 P a dst x h with
    |some out=>some out
    |none=>c4 P a dst x h
def f0(x:AV):Option AV:=
 match x with
 | .vec k v sz (y::l)=>if sz=1 then some (.vp k v (y::l))else none
 | .nils=>some (.d .nilp)
 |_=>none
def li:List D→Option (List UInt8)
 |[]=>some []
 | .int .u8 n::r=>if n=((UInt8.ofNat n.toNat).toNat:Int)then (li r).map (UInt8.ofNat n.toNat:: ·)else none
 |_::_=>none
def bT(P:Program)(a:TypeId)(x n:AV)(h:aa):Option Out:=
 match P.underlying a,x,n with
 |some (.pointer u), .vp k v l, .d (.int .i64 m)=>
  match iS h k v,li l with
  |some (T,none),some b=>
   if (h k).ver=v∧T=u∧l≠[]∧m=(l.length:Int)∧P.cellsOf u=1∧l.length≤9223372036854775807 then some {val:= .d (.str b),rd:=[k,fO k],wr:=kill h [k]}else none
  |_,_=>none
 |_,_,_=>none
def f3(P:Program)(t:TypeId)(x:AV):Option AV:=
 match P.underlying t with
 |some (.interface _)=>none
 |some _=>some (.iv t x)
 |none=>none
def lj(P:Program)(a:TypeId)(ok:Bool)(x:AV):Option AV:=
 match P.underlying a,x with
 |some (.interface _),_=>none
 |some _, .iv t y=>
  if t=a then some (if ok=true then .tup [y, .d (.bool true)]else y)
  else if ok=true then (bC P a).map fun z=> .tup [vC z, .d (.bool false)]else none
 |some _, .d .nili=>if ok=true then (bC P a).map fun z=> .tup [vC z, .d (.bool false)]else none
 |_,_=>none
def fK:D→D→Option Bool
 | .int k a, .int c b=>if k=c then some (a==b)else none
 | .str a, .str b=>some (a==b)
 | .agg a, .agg b=>cW a b
 |_,_=>none
def bJ(x:D):List (D×D×Nat)→Nat→Option (Option (Nat×D))
 |[],_=>some none
 |e::r,i=>match fK x e.1 with
  |some true=>some (some (i,e.2.1))
  |some false=>bJ x r (i+1)
  |none=>none
def co(x y:D):Nat→List (D×D×Nat)→List (D×D×Nat)
 |_,[]=>[]
 |0,e::r=>(x,y,e.2.2)::r
 |n+1,e::r=>e::co x y n r
def bU(P:Program):List Field→Nat→List D→Bool
 |[],_,[]=>true
 |f::fs,i, .int k _::xs=>(decide (f.name≠ "_")&&(f.offset==i&&(gR P f.type==some false&&(match P.underlying f.type with
  |some (.int a)=>decide (k=a)
  |_=>false))))&&bU P fs (i+1) xs
 |_,_,_=>false
def fd(P:Program)(t:TypeId)(x:D):Bool:=match P.underlying t,x with
 |some (.int k), .int a _=>decide (k=a)
 |some .string, .str _=>true
 |some (.struct fs), .agg xs=>P.stoodInHeld t==false&&bU P fs.toList 0 xs
 |_,_=>false
def c6(k:Nat)(h:aa):Option Out:=some {val:= .mp k ((h k).ver+1),rd:=[k],wr:=[(k,⟨(h k).ver+1,some (.map [] 0)⟩)]}
def ba(P:Program)(t:TypeId)(m a x:AV)(h:aa):Option Out:=
 match P.underlying t,m,a,x with
 |some (.map kt _), .mp k v, .d kd, .d b=>
  match (h k).ob with
  |some (.map es c)=>
   if (h k).ver=v∧fd P kt kd=true then
    match bJ kd es 0 with
    |some (some (i,_))=>some {val:= .junk,rd:=[k],wr:=[(k,⟨v,some (.map (co kd b i es) c)⟩)]}
    |some none=>some {val:= .junk,rd:=[k],wr:=[(k,⟨v,some (.map (es ++[(kd,b,c)]) (c+1))⟩)]}
    |none=>none
   else none
  |_=>none
 |_,_,_,_=>none
def cO(P:Program)(t:TypeId)(m a:AV)(ok:Bool)(h:aa):Option Out:=
 match P.underlying t,m,a with
 |some (.map kt et), .mp k v, .d kd=>
  match (h k).ob with
  |some (.map es _)=>
   if (h k).ver=v∧fd P kt kd=true then
    match bJ kd es 0 with
    |some (some (_,y))=>some {val:=if ok=true then .tup [.d y, .d (.bool true)]else .d y,rd:=[k]}
    |some none=>match bC P et with
     |some z=>some {val:=if ok=true then .tup [vC z, .d (.bool false)]else vC z,rd:=[k]}
     |none=>none
    |none=>none
   else none
  |_=>none
 |_,_,_=>none
def dj(P:Program)(t:TypeId)(k v:Nat)(h:aa):Option Out:=
 match P.underlying t with
 |some (.map _ _)=>match (h k).ob with
  |some (.map es _)=>if (h k).ver=v then some {val:= .d (.int .i64 (es.length:Int)),rd:=[k]}else none
  |_=>none
 |_=>none
def kZ(P:Program)(t:TypeId)(x a:AV):Option AV:=
 match P.underlying t,x,a with
 |some .string, .d (.str s), .d (.int _ i)=>if 0≤i then (s[i.toNat]?).map fun b=> .d (.int .u8 (b.toNat:Int))else none
 |_,_,_=>none
def dz(cfg:d0)(i f:Nat)(a:List AV)(h:aa):Option Out:=
 match kF a with
 |some ds=>some {val:=fc (cfg.ret i),ob:=[(f,ds,cfg.ret i)]}
 |none=>match view.go 12 h a with
  |some r=>if (cfg.ret i).all D.scal=true then some {val:=fc (cfg.ret i),rd:=r.2,ob:=[(f,r.1,cfg.ret i)]}else none
  |none=>none
def k0(c:UInt8):List UInt8→Nat→Option Nat
 |[],_=>none
 |x::r,i=>if x==c then some i else k0 c r (i+1)
def zs(k:vG)(ds:List D):Option D:=
 match k,ds with
 | .indexByte,[.str s, .int .u8 c]=>some (.int .i64 (match k0 c.toNat.toUInt8 s 0 with
  |some i=>(i:Int)
  |none=> -1))
 |_,_=>none
def aK(P:Program)(cfg:d0)(i:Nat)(c:Call)(ρ:Operand→AV)(h:aa)(k:Nat):Option Out:=
 match c.callee with
 | .builtin .len=>match c.args.toList,c.argTypes.toList with
  |[x],[t]=>match ρ x with
   | .mp k v=>dj P t k v h
   |_=>tt P t (ρ x)
  |_,_=>none
 | .builtin .min=>match c.args.toList with
  |[x,y]=>iR false (ρ x) (ρ y)
  |_=>none
 | .builtin .max=>match c.args.toList with
  |[x,y]=>iR true (ρ x) (ρ y)
  |_=>none
 | .builtin .append=>match c.args.toList,c.argTypes.toList with
  |[s,x],[t,e]=>if lg P t e=true then (match bG P (cfg.obm i) t (ρ s) (ρ x) k h with
   |some out=>some out
   |none=>match cj P t (ρ s) (ρ x) h with
    |some out=>some out
    |none=>dy P t (ρ s) (ρ x) k h)else none
  |_,_=>none
 | .builtin .unsafeSliceData=>match c.args.toList with
  |[x]=>(f0 (ρ x)).map fun v=>{val:=v}
  |_=>none
 | .builtin .unsafeString=>match c.args.toList,c.argTypes.toList with
  |[x,n],[b,_]=>bT P b (ρ x) (ρ n) h
  |_,_=>none
 | .value f=>match ρ f with
  | .fn g a=>match ap.ext g with
   |some .same=>match c.args.toList.map ρ ++a with
    |[x]=>some {val:=x}
    |_=>none
   |some k=>match kF (c.args.toList.map ρ ++a)with
    |some ds=>(zs k ds).map fun d=>{val:= .d d}
    |none=>none
   |none=>dz cfg i g (c.args.toList.map ρ ++a) h
  |_=>none
 |_=>none
def aX(P:Program)(cfg:d0)(i:Nat)(o:Oper)(ρ:Operand→AV)(h:aa):Option Out:=
 match o.op with
 | .move x| .assign x=>some {val:=ρ x}
 | .pick c a b=>match ρ c with
  | .d (.bool t)=>some {val:=if t=true then ρ a else ρ b}
  |_=>none
 | .alloc t=>(di P t (cfg.base i+o.dst.getD 0) h).map (bk (BA P t) t ((ij P t).map List.length) (cfg.base i+o.dst.getD 0) ((h (cfg.base i+o.dst.getD 0)).ver+1) h)
 | .box t x=>(fT (ρ x) (cfg.base i+o.dst.getD 0) h).map (bk (BA P t) t (some (ρ x).cells.length) (cfg.base i+o.dst.getD 0) ((h (cfg.base i+o.dst.getD 0)).ver+1) h)
 | .makeInterface t x=>(f3 P t (ρ x)).map fun v=>{val:=v}
 | .typeAssert x _ t ok=>(lj P t ok (ρ x)).map fun v=>{val:=v}
 | .build t e=>nJ P t ((e.toList.map fun p=>(p.1,ρ p.2)).map fun p=>(p.1,frz p.2))
 | .buildSlice t s e=>cy P (cfg.obm i) t s (e.toList.map fun p=>(p.1,ρ p.2)) (cfg.base i+o.dst.getD 0) h
 | .load t a=>cV P t (ρ a) h
 | .store t a x=>cw P t (ρ a) (ρ x) h
 | .nilCheck x=>match ρ x with
  | .ptr k v j r sz=>some {val:= .ptr k v j r sz}
  | .d (.rp cs)=>some {val:= .d (.rp cs)}
  |_=>none
 | .binOp op t x y _=>match rA op (ρ x) (ρ y)with
  |some v=>some {val:=v}
  |none=>match op with
   | .eql=>(rB P t x y (ρ x) (ρ y)).map fun b=>{val:= .d (.bool b)}
   | .neq=>(rB P t x y (ρ x) (ρ y)).map fun b=>{val:= .d (.bool (!b))}
   |_=>none
 | .unOp op _ x=>(zr op (ρ x)).map fun v=>{val:=v}
 | .convert q dst x=>lh P q dst (ρ x) h
 | .makeFunc (.func f) first g=>if first.isEmpty then some {val:= .fn f (g.toList.map ρ)}else none
 | .makeSlice t l c=>bI P t (ρ l) (ρ c) (cfg.base i+o.dst.getD 0) h
 | .slice t x z w u=>fp P t (ρ x) (z.map ρ) (w.map ρ) (u.map ρ)
 | .fieldAddr t x f=>fW P t (ρ x) f h
 | .field t x f=>nK P t (ρ x) f
 | .indexAddr t x n=>c3 P t (ρ x) (ρ n) h
 | .makeMap _ none=>c6 (cfg.base i+o.dst.getD 0) h
 | .mapUpdate t m k x| .insert t m k x=>ba P t (ρ m) (ρ k) (ρ x) h
 | .lookup t m k ok=>cO P t (ρ m) (ρ k) ok h
 | .index t x n=>(kZ P t (ρ x) (ρ n)).map fun v=>{val:=v}
 | .extract t n=>match ρ t with
  | .tup vs=>(vs[n]?).map fun v=>{val:=v}
  |_=>none
 | .call c=>aK P cfg i c ρ h (cfg.base i+o.dst.getD 0)
 |_=>none
structure St where
 env:Nat→AV
 heap:aa
def ae(h:aa):List (Nat×aI)→aa
 |[]=>h
 |(k,e)::r=>ae (aq h k e) r
def dL(a:List Nat)(b:aa):List (Nat×aI):=a.map fun k=>(k,b k)
def af:List (Nat×aI)→aa→aa
 |[],h=>h
 |(k,e)::r,h=>aq (af r h) k e
def gS(h:aa)(l:List (Nat×aI)):Prop:=∀p∈l,p.2.ver=(h p.1).ver∧(p.2.ob=none∨p.2.ob=(h p.1).ob)
def bX(N:Nat)(env:Nat→AV)(dst:Option Nat)(x:AV):Option (Nat→AV):=
 match dst with
 |some d=>if d<N then some (aq env d x)else none
 |none=>some env
structure Foot where
 i:Nat
 rd:List Nat
 wr:List Nat
 all:Bool
def bK(c:Array Oper)(o:Oper)(env:Nat→AV):Option Bool:=
 match o.guard with
 |none=>some true
 |some (j,a)=>match (c[j]?).bind (·.dst)with
  |some t=>match env t with
   | .d (.bool b)=>some (b==a)
   | .tup []=>some false
   |_=>none
  |none=>none
def dW:List AV→AV
 |[x]=>x
 |l=> .tup l
def bV(o:Oper)(env:Nat→AV):Option (Nat×List AV):=
 match o.op with
 | .call c=>match c.callee with
  | .value f=>match opd env f with
   | .fn g a=>some (g,c.args.toList.map (opd env) ++a)
   |_=>none
  |_=>none
 |_=>none
def iU(o:Oper)(env:Nat→AV):Option (Nat×Nat×List AV):=
 match o.op with
 | .call c=>match c.callee with
  | .value f=>match opd env f with
   | .yld k v=>some (k,v,c.args.toList.map (opd env))
   |_=>none
  |_=>none
 |_=>none
open Classical in
noncomputable def aV(P:Program)(cfg:d0)(N:Nat)(e:Array Oper)(i:Nat)(o:Oper)(S:St):Option (St×List Obl×Foot):=
 match bK e o S.env with
 |some true=>
  match cfg.hc i with
  |some (.heap d h' tk)=>if (∀k,k∉tk→h' k=S.heap k)then match bV o S.env with
   |some (g,a)=>(bX N S.env o.dst (dW d)).map fun env=>(⟨env,h'⟩,[.heap g a S.heap d h'],⟨i,[],tk,true⟩)
   |none=>match iU o S.env with
    |some (k,v,a)=>(bX N S.env o.dst (dW d)).map fun env=>(⟨env,h'⟩,[.yield k v a S.heap d h'],⟨i,[],tk,true⟩)
    |none=>none
   else none
  |some (.frame c d b)=>match bV o S.env with
   |some (g,a)=>if gS S.heap c then (bX N S.env o.dst (dW d)).map fun env=>(⟨env,ae S.heap b.reverse⟩,[.frame g a c d b],⟨i,c.map (·.1),b.reverse.map (·.1),false⟩)else none
   |none=>none
  |some (.exact c h d b f)=>match bV o S.env with
   |some (g,a)=>if (∀k∈c,S.heap k=h k)then (bX N S.env o.dst (dW d)).map fun env=>(⟨env,ae S.heap (dL b f)⟩,[.exact g a c h d b f],⟨i,c,b,false⟩)else none
   |none=>none
  |none=>
  match aX P cfg i o (opd S.env) S.heap with
  |some out=>(bX N S.env o.dst out.val).map fun env=>(⟨env,ae S.heap out.wr⟩,out.ob.map .data,⟨i,out.rd,out.wr.map (·.1),false⟩)
  |none=>none
 |some false=>(bX N S.env o.dst (.tup [])).map fun env=>(⟨env,S.heap⟩,[],⟨i,[],[],false⟩)
 |none=>none
noncomputable def bP(P:Program)(cfg:d0)(N:Nat)(c:Array Oper):List Nat→St→Option (St×List Obl×List Foot)
 |[],S=>some (S,[],[])
 |i::r,S=>
  match c[i]? with
  |none=>none
  |some o=>match aV P cfg N c i o S with
   |none=>none
   |some a=>match bP P cfg N c r a.1 with
    |none=>none
    |some b=>some (b.1,a.2.1 ++b.2.1,a.2.2::b.2.2)
end Go.Avm
namespace Go.Avm
open Go.RowKit
variable[ap]
section
variable{G:Gh}{B:Nat}{w0 w:World}{I0:Nat→Nat→Prop}{h:aa}
theorem bh{w:World}{o:Obj}{b i:Nat}(a:b<w.heap.size):(w.alloc o).cell? ⟨b,i,none⟩=w.cell? ⟨b,i,none⟩:=World.cell?_alloc_lt w o ⟨b,i,none⟩ a
theorem f9{w:World}{c:Array Value}{e:TypeId}{i:Nat}:(w.alloc (.cells c e)).cell? ⟨w.heap.size,i,none⟩=c[i]? :=by simp
theorem bN{w:World}{o:Obj}{b:Nat}(a:b<w.heap.size):(w.alloc o).heap[b]? =w.heap[b]? :=Below.heap_alloc w o b a
theorem fq(w:World)(o':Obj):∀(b:Nat)(o:Obj),ii o=true→w.heap[b]? =some o→∃a,(w.alloc o').heap[b]? =some a∧eV o a:=fun b o _ x=>⟨o,by
 rw[bN (xG.1 x).1];exact x,cn o⟩
theorem cl{w a:World}(h:a.heap=w.heap):∀(b:Nat)(o:Obj),ii o=true→w.heap[b]? =some o→∃c,a.heap[b]? =some c∧eV o c:=fun b o _ x=>⟨o,by rw[h];exact x,cn o⟩
def Gh.at(G:Gh)(k v:Nat)(L:nG):Gh:={G with loc:=fun a b=>if a=k∧b=v then some L else G.loc a b,lim:=aq G.lim k v}
def Gh.more(G:Gh)(p:Nat→Nat→Prop):Gh:={G with imm:=fun b o=>G.imm b o∨p b o}
theorem Gh.at_same(G:Gh)(k v:Nat)(L:nG):(G.at k v L).loc k v=some L:=by simp[Gh.at]
theorem Gh.at_ne(G:Gh){k v a b:Nat}(L:nG)(c:¬(a=k∧b=v)):(G.at k v L).loc a b=G.loc a b:=by simp[Gh.at,c]
theorem Ext.at{k v:Nat}{L:nG}(e:G.loc k v=none)(g:G.lim k<v)(w:World):Ext G w (G.at k v L) w:=
 ⟨fun _ _ x=>x,fun a c i x=>by
  by_cases d:a=k∧c=v
  ·obtain⟨rfl,rfl⟩:=d;rw[e]at x;cases x
  ·rw[Gh.at_ne _ _ d];exact x,fun _ _ _=>rfl,xO _,fun a=>by
  by_cases b:a=k
  ·subst b;show _≤aq G.lim a v a;rw[ad];omega
  ·show _≤aq G.lim k v a;rw[ab _ _ b];exact xO _,fun a c f x=>by
  rw[Gh.at_ne _ _ (by rintro⟨rfl,rfl⟩;omega)];exact x,fun _ _ _ x=>x,cl rfl⟩
theorem Ext.more(G:Gh)(p:Nat→Nat→Prop)(w:World):Ext G w (G.more p) w:=⟨fun _ _ x=> .inl x,fun _ _ _ x=>x,fun _ _ _=>rfl,xO _,fun _=>xO _,fun _ _ _ x=>x,fun _ _ _ x=>x,cl rfl⟩
theorem ObRep.mono{m:Gh}{i:World}{k a:Nat}{ob:Ob}(f:ObRep G w k a ob)(x:a≤G.lim k)(e:Ext G w m i)
    (A:∀L,G.loc k a=some L→∀t,i.cell? ⟨L.b,t,none⟩=w.cell? ⟨L.b,t,none⟩):ObRep m i k a ob:=by
 cases ob with
 |arr sz es=>
  rcases f with ⟨f,p⟩|⟨L,d,D,h2,r,s,y,C⟩
  ·exact .inl ⟨f,e.nloc _ _ x p⟩
  ·refine .inr ⟨L,e.loc _ _ _ d,D,h2,r,s,y,fun t c z=> ?_⟩
   obtain⟨u,v,l,g⟩:=C t c z;exact⟨u,(A L d t).trans v,l,g.mono e⟩
 |map es c=>trivial
 |lp _ _ _ _ _ _ _=>trivial
 |itr _ _ _ _=>trivial
 |typ o q T n=>
  refine⟨y8 f.1 (e.lim o),fun L d=> ?_⟩;cases j:G.loc o q with
  |none=>rw[e.nloc _ _ f.1 j]at d;cases d
  |some L=>
   rw[e.loc _ _ _ j]at d;cases d;exact f.2 L j
theorem fu(w:World)(o:Obj):∀(b:Nat) o',iP o'=true→w.heap[b]? =some o'→(w.alloc o).heap[b]? =some o':=fun _ _ _ a=>(bN (xG.1 a).1).trans a
theorem ga{w:World}{c:Nat}{arr arr':Array Value}{e:TypeId}{fz:Nat×Nat}(g:w.heap[c]? =some (.cells arr e fz)):∀(b:Nat)(o:Obj),ii o=true→w.heap[b]? =some o→∃d,(w.setRow c arr').heap[b]? =some d∧eV o d:=fun b o f a=>
 ⟨o,(setRow_other w _ _ _ (by rintro rfl;rw[g]at a;cases a;cases f)).trans a,cn o⟩
theorem gc(w:World){c:Nat}{arr arr':Array Value}{e:TypeId}{fz:Nat×Nat}(f:w.heap[c]? =some (.cells arr e fz)):∀(b:Nat) o,iP o=true→w.heap[b]? =some o→(w.setRow c arr').heap[b]? =some o:=fun b o d a=>
 (setRow_other w _ _ _ (by rintro rfl;rw[f]at a;cases a;cases d)).trans a
theorem MR.set{f:Gh}{c:World}(hm:MR G B h w)(e:Ext G w f c)(j:f.mloc=G.mloc)(n:∀(b:Nat) o,iP o=true→w.heap[b]? =some o→c.heap[b]? =some o){k v:Nat}{ob:Option Ob}(l:(h k).ver≤v)(d:∀o:Ob,o.flex=false→ob≠some o):
    MR f B (aq h k ⟨v,ob⟩) c:=by
 refine hm.step e j n (fun g=> ?_) (fun g o m i=> ?_)
 ·by_cases a:g=k
  ·subst a;rw[ad];exact l
  ·rw[ab _ _ a];exact xO _
 ·by_cases a:g=k
  ·subst a;rw[ad]at i;exact absurd i (d o m)
  ·exact ab _ _ a
theorem HR.le(a:HR G B w0 I0 h w)(k:Nat):(h k).ver≤G.lim k:=by rw[a.lim];exact xO _
theorem HR.none_next(a:HR G B w0 I0 h w)(k:Nat):G.loc k ((h k).ver+1)=none:=by
 cases b:G.loc k ((h k).ver+1)with
 |none=>rfl
 |some L=>have:=a.fresh _ _ _ b;omega
theorem HR.drew(a:HR G B w0 I0 h w):HR G B w0 I0 h w.drew:=by
 refine⟨a.below.drew,a.bsz,a.immlt,a.i0,a.immlow,a.fresh,a.own,a.dis,fun k ob b=>(a.objs k ob b).mono (a.le k) ⟨fun _ _ x=>x,fun _ _ _ x=>x,fun _ _ _=>rfl,xO _,fun _=>xO _,fun _ _ _ x=>x,fun _ _ _ x=>x,cl rfl⟩ (fun _ _ _=>rfl),a.lim,a.maps.step ⟨fun _ _ x=>x,fun _ _ _ x=>x,fun _ _ _=>rfl,xO _,fun _=>xO _,fun _ _ _ x=>x,fun _ _ _ x=>x,cl rfl⟩ rfl (fun _ _ _ x=>x) (fun _=>xO _) (fun _ _ _ _=>rfl)⟩
theorem Ext.drew(G:Gh)(w:World):Ext G w G w.drew:=⟨fun _ _ x=>x,fun _ _ _ x=>x,fun _ _ _=>rfl,xO _,fun _=>xO _,fun _ _ _ x=>x,fun _ _ _ x=>x,cl rfl⟩
theorem Ext.alloc(a:HR G B w0 I0 h w)(o:Obj):Ext G w G (w.alloc o):=
 ⟨fun _ _ x=>x,fun _ _ _ x=>x,fun b i c=>bh (a.immlt b i c),by simp,fun _=>xO _,fun _ _ _ x=>x,fun _ _ _ x=>x,fq w _⟩
def lk(G:Gh)(h:aa)(ks:List Nat):Nat→Nat→Prop:=fun b _=>∃k∈ks,∃L,G.loc k (h k).ver=some L∧L.b=b
theorem aN(h b:aa):∀(ks:List Nat)(k:Nat),ae b (kill h ks) k=if k∈ks then ⟨(h k).ver+1,none⟩else b k:=by
 intro ks;induction ks generalizing b with
 |nil=>intro k;simp[kill,ae]
 |cons a r e=>
  intro k;simp only[kill,xI,ae];have:=e (aq b a ⟨(h a).ver+1,none⟩) k;simp only[kill]at this;rw[this];by_cases c:k∈r
  ·simp[c]
  ·by_cases d:k=a
   ·subst d;simp[aq]
   ·simp[c,d,aq]
def Gh.froz(G:Gh)(h:aa)(ks:List Nat):Gh:={G.more (lk G h ks)with lim:=fun k=>if k∈ks then G.lim k+1 else G.lim k}
theorem Ext.froz(a:HR G B w0 I0 h w)(ks:List Nat):Ext G w (G.froz h ks) w:=
 ⟨fun _ _ x=> .inl x,fun _ _ _ x=>x,fun _ _ _=>rfl,xO _,fun k=>by show _≤if k∈ks then _ else _;split<;>omega,fun _ _ _ x=>x,fun _ _ _ x=>x,cl rfl⟩
theorem HR.kill(a:HR G B w0 I0 h w)(ks:List Nat):HR (G.froz h ks) B w0 I0 (ae h (kill h ks)) w:=by
 have j:=aN h h ks
 refine⟨a.below,a.bsz, ?_,fun b o x=> .inl (a.i0 b o x), ?_, ?_, ?_, ?_, ?_,fun k=>by rw[j];show(if k∈ks then _ else _)=_;split<;>simp[a.lim],a.maps.step (Ext.froz a ks) rfl (fun _ _ _ x=>x) (fun k=>by rw[j];split<;>simp) (fun k es c i=>by
  rw[j]at i ⊢;split at i
  ·cases i
  ·rename_i f;rw[xi f])⟩
 ·rintro b o (x|⟨k,_,L,d,rfl⟩)
  ·exact a.immlt b o x
  ·exact a.blt d
 ·rintro b o (x|⟨k,_,L,d,rfl⟩) m
  ·exact a.immlow b o x m
  ·have:=(a.own k L d).1;omega
 ·intro k v L d
  have:=a.fresh k v L d;rw[j];split<;>simp_all;omega
 ·intro k L d
  rw[j]at d;by_cases f:k∈ks
  ·simp only[f,xz]at d
   have:=a.fresh k _ L d;omega
  ·simp only[f,ya]at d
   obtain⟨q,h2,p⟩:=a.own k L d;refine⟨q,h2, ?_⟩;rintro o (x|⟨l,g,n,e,m⟩)
   ·exact p o x
   ·have:=a.dis k l L n d e m.symm
    subst this;exact absurd g f
 ·intro k l L n d e m
  rw[j]at d e;by_cases f:k∈ks
  ·simp only[f,xz]at d
   have:=a.fresh k _ L d;omega
  ·by_cases g:l∈ks
   ·simp only[g,xz]at e
    have:=a.fresh l _ n e;omega
   ·simp only[f,g,ya]at d e
    exact a.dis k l L n d e m
 ·intro k ob i
  rw[j]at i ⊢;by_cases f:k∈ks
  ·simp[f]at i
  ·simp only[f,ya]at i ⊢
   exact(a.objs k ob i).mono (a.le k) (Ext.froz a ks) (fun _ _ _=>rfl)
theorem HR.newOb(a:HR G B w0 I0 h w)(k sz cap:Nat)(es:List AV)(arr:Array Value)(e:TypeId)(Q:arr.size=cap*sz)(s:es.length≤cap)(E:∀x∈es,x.cells.length=sz)(A:sz=1→∀x∈es,x.lone=true)
    (V:∀(t:Nat)(c:AV),(AV.flat es)[t]? =some c→∃u:Value,arr[t]? =some u∧u.oneCell'=true∧Rep G w c u):
    HR (G.at k ((h k).ver+1) ⟨w.heap.size,sz,cap,0,e⟩) B w0 I0 (aq h k ⟨(h k).ver+1,some (.arr sz es)⟩) (w.alloc (.cells arr e))∧
    Ext G w (G.at k ((h k).ver+1) ⟨w.heap.size,sz,cap,0,e⟩) (w.alloc (.cells arr e)):=by
 have z:=a.none_next k;have p:G.lim k<(h k).ver+1:=by rw[a.lim];omega
 have hex:Ext G w (G.at k ((h k).ver+1) ⟨w.heap.size,sz,cap,0,e⟩) (w.alloc (.cells arr e)):=
  ⟨fun _ _ x=>x,(Ext.at z p w).loc,fun b i y=>bh (a.immlt b i y),by simp,(Ext.at z p w).lim,(Ext.at z p w).nloc,fun _ _ _ x=>x,fq w _⟩
 have n:∀d m,(G.at k ((h k).ver+1) ⟨w.heap.size,sz,cap,0,e⟩).loc d (aq h k ⟨(h k).ver+1,some (.arr sz es)⟩ d).ver=some m→
     (d=k∧m=⟨w.heap.size,sz,cap,0,e⟩)∨(d≠k∧G.loc d (h d).ver=some m):=by
  intro d m g;by_cases f:d=k
  ·subst f
   rw[ad,Gh.at_same]at g;exact .inl ⟨rfl,(Option.some.inj g).symm⟩
  ·rw[ab _ _ f,Gh.at_ne _ _ (by simp[f])]at g
   exact .inr ⟨f,g⟩
 refine⟨⟨a.below.alloc a.bsz _,by have:=a.bsz;simp;omega,fun b o x=>by have:=a.immlt b o x;simp;omega,a.i0,a.immlow, ?_, ?_, ?_, ?_,fun d=>by
  by_cases f:d=k
  ·subst f;rw[ad];exact ad _ _ _
  ·rw[ab _ _ f];exact(ab _ _ f).trans (a.lim d),a.maps.set hex rfl (fu w _) (by omega) (by first|exact fb|exact fR)⟩,hex⟩
 ·intro d v L g
  by_cases f:d=k∧v=(h k).ver+1
  ·obtain⟨rfl,rfl⟩:=f;simp[aq]
  ·rw[Gh.at_ne _ _ f]at g
   have:=a.fresh d v L g;by_cases q:d=k
   ·subst q;rw[ad];show v≤_+1;omega
   ·rw[ab _ _ q];exact this
 ·intro d m g
  rcases n d m g with ⟨rfl,rfl⟩|⟨f,g⟩
  ·exact⟨a.bsz,⟨arr,e,heap_alloc_new w _,Q,rfl⟩,fun o x=>absurd (a.immlt _ o x) (by simp)⟩
  ·obtain⟨W,⟨arr',S,h2,N⟩,O⟩:=a.own d m g
   exact⟨W,⟨arr',S,(bN (a.blt g)).trans h2,N⟩,O⟩
 ·intro J K I M j l y
  rcases n J I j with ⟨rfl,rfl⟩|⟨T,j⟩<;>rcases n K M l with ⟨C,F⟩|⟨P,l⟩
  ·exact C.symm
  ·have:=a.blt l;rw[←y]at this;simp at this
  ·subst F;have:=a.blt j;rw[y]at this;simp at this
  ·exact a.dis J K I M j l y
 ·intro d ob r
  by_cases f:d=k
  ·subst f
   rw[ad]at r ⊢;simp only[xA]at r;subst r;refine .inr ⟨_,Gh.at_same _ _ _ _,rfl,rfl,s,E,A,fun t c U=> ?_⟩;obtain⟨u,R,H,D⟩:=V t c U;exact⟨u,by rw[f9];exact R,H,D.mono hex⟩
  ·rw[ab _ _ f]at r ⊢
   exact(a.objs d ob r).mono (a.le d) hex (fun L g t=>bh (a.blt g))
theorem HR.newVecT(d:HR G B w0 I0 h w)(k sz cap:Nat)(l:List D)(arr:Array Value)(e:TypeId)(Z:arr.size=cap*sz)(s:l.length≤cap)(y:∀x∈l,x.cells.length=sz)
    (hc:∀(t:Nat)(c:D),(D.flat l)[t]? =some c→∃u:Value,arr[t]? =some u∧c.one=true∧DRep G.imm w c u):
    ∃j,HR j B w0 I0 (aq h k ⟨(h k).ver+1,none⟩) (w.alloc (.cells arr e))∧Ext G w j (w.alloc (.cells arr e))∧
     Rep j (w.alloc (.cells arr e)) (.vec k ((h k).ver+1) sz l) (.slice (some ⟨w.heap.size,0,none⟩) l.length cap)∧
     ∀L,j.loc k ((h k).ver+1)=some L→L.ty=e:=by
 have I:=d.none_next k;have A:G.lim k<(h k).ver+1:=by rw[d.lim];omega
 have W:(D.flat l).length=l.length*sz:=bg _ sz l y
 let L:nG:=⟨w.heap.size,sz,cap,l.length*sz,e⟩
 let j:Gh:=(G.at k ((h k).ver+1) L).more (fun b o=>b=w.heap.size∧o<l.length*sz)
 have hex:Ext G w j (w.alloc (.cells arr e)):=
  ⟨fun _ _ x=> .inl x,(Ext.at (L:=L) I A w).loc,fun b i C=>bh (d.immlt b i C),by simp,(Ext.at (L:=L) I A w).lim,(Ext.at (L:=L) I A w).nloc,fun _ _ _ x=>x,fq w _⟩
 have n:j.loc k ((h k).ver+1)=some L:=Gh.at_same _ _ _ _
 have z:∀a m,j.loc a (aq h k ⟨(h k).ver+1,none⟩ a).ver=some m→(a=k∧m=L)∨(a≠k∧G.loc a (h a).ver=some m):=by
  intro a m n;by_cases g:a=k
  ·subst g
   rw[ad]at n;rw[show j.loc a ((h a).ver+1)=some L from Gh.at_same _ _ _ _]at n;exact .inl ⟨rfl,(Option.some.inj n).symm⟩
  ·rw[ab _ _ g]at n
   exact .inr ⟨g,by rw[←Gh.at_ne G L (k:=k) (v:=(h k).ver+1) (by simp[g])];exact n⟩
 have F:∃U:Nat→Value,∀t c,(D.flat l)[t]? =some c→arr[t]? =some (U t)∧c.one=true∧DRep G.imm w c (U t):=by
  refine⟨fun t=>arr.getD t undef,fun t c q=> ?_⟩;obtain⟨u,Q,M,h2⟩:=hc t c q;have R:arr.getD t undef=u:=by simp[xb,Q]
  exact⟨Q.trans (congrArg some R.symm),M,by simpa only[R]using h2⟩
 obtain⟨U,F⟩:=F
 refine⟨j,⟨d.below.alloc d.bsz _,by have:=d.bsz;simp;omega, ?_,fun b o x=> .inl (d.i0 b o x), ?_, ?_, ?_, ?_, ?_,fun a=>by
  by_cases g:a=k
  ·subst g;rw[ad];exact ad _ _ _
  ·rw[ab _ _ g];exact(ab _ _ g).trans (d.lim a),d.maps.set hex rfl (fu w _) (by omega) (by first|exact fb|exact fR)⟩,hex, ?_,fun m f=>by rw[n]at f;cases f;rfl⟩
 ·rintro b o (x|⟨rfl,_⟩)
  ·have:=d.immlt b o x;simp;omega
  ·simp
 ·rintro b o (x|⟨rfl,_⟩) C
  ·exact d.immlow b o x C
  ·have:=d.bsz;omega
 ·intro a v m f
  by_cases g:a=k∧v=(h k).ver+1
  ·obtain⟨rfl,rfl⟩:=g;simp[aq]
  ·rw[show j.loc a v=G.loc a v from Gh.at_ne _ _ g]at f
   have:=d.fresh a v m f;by_cases E:a=k
   ·subst E;rw[ad];show v≤_+1;omega
   ·rw[ab _ _ E];exact this
 ·intro a m f
  rcases z a m f with ⟨rfl,rfl⟩|⟨g,f⟩
  ·refine⟨d.bsz,⟨arr,e,heap_alloc_new w _,Z,rfl⟩, ?_⟩
   rintro o (x|⟨_,x⟩)
   ·exact absurd (d.immlt _ o x) (by simp[L])
   ·exact x
  ·obtain⟨M,⟨arr',e',h2,T⟩,X⟩:=d.own a m f
   refine⟨M,⟨arr',e',(bN (d.blt f)).trans h2,T⟩, ?_⟩;rintro o (x|⟨x,_⟩)
   ·exact X o x
   ·have:=d.blt f;omega
 ·intro O P N S p r C
  rcases z O N p with ⟨rfl,rfl⟩|⟨hk1,p⟩<;>rcases z P S r with ⟨J,K⟩|⟨Y,r⟩
  ·exact J.symm
  ·have:=d.blt r;rw[←C]at this;simp[L]at this
  ·subst K;have:=d.blt p;rw[C]at this;simp[L]at this
  ·exact d.dis O P N S p r C
 ·intro a ob H
  by_cases g:a=k
  ·subst g;rw[ad]at H;cases H
  ·rw[ab _ _ g]at H ⊢
   exact(d.objs a ob H).mono (d.le a) hex (fun L n t=>bh (d.blt n))
 ·refine Rep.vec k ((h k).ver+1) l L n rfl s y (.ro l _ 0 cap sz U s y (fun x V=> ?_) ?_ ?_ ?_)
  ·obtain⟨t,q⟩:=x7 V
   exact(F t x q).2.1
  ·intro t c q
   have:t<(D.flat l).length:=(xD.1 q).1;exact .inr ⟨rfl,by omega⟩
  ·intro t c q
   rw[xe,f9];exact(F t c q).1
  ·intro t c q
   exact(F t c q).2.2.mono hex.imm hex.cell
theorem HR.store(d:HR G B w0 I0 h w){k sz:Nat}{es es':List AV}{L:nG}(ho:(h k).ob=some (.arr sz es))(n:G.loc k (h k).ver=some L)(s:L.sz=sz)(z:L.fr=0)
    {arr arr':Array Value} {e:TypeId} (q:w.heap[L.b]? =some (.cells arr e (0,0))) (U:arr'.size=arr.size) (p:es'.length≤L.cap) (A:∀x∈es',x.cells.length=sz) (r:sz=1→∀x∈es',x.lone=true)
    (X:∀(t:Nat)(c:AV),(AV.flat es')[t]? =some c→∃u:Value,arr'[t]? =some u∧u.oneCell'=true∧Rep G w c u):
    HR G B w0 I0 (aq h k ⟨(h k).ver,some (.arr sz es')⟩) (w.setRow L.b arr')∧Ext G w G (w.setRow L.b arr'):=by
 obtain⟨hB,⟨J,e0,m,H⟩,P⟩:=d.own k L n;rw[q]at m;simp only[xA,Obj.cells.injEq]at m;obtain⟨rfl,rfl,_⟩:=m
 have C:∀b o,G.imm b o→b≠L.b:=by
  rintro b o x rfl;have:=P o x;omega
 have hex:Ext G w G (w.setRow L.b arr'):=⟨fun _ _ x=>x,fun _ _ _ x=>x,fun b i x=>cell_setRow_other w L.b arr' ⟨b,i,none⟩ (C b i x),by simp,fun _=>xO _,fun _ _ _ x=>x,fun _ _ _ x=>x,ga q⟩
 have f:∀a,(aq h k ⟨(h k).ver,some (.arr sz es')⟩ a).ver=(h a).ver:=by
  intro a;by_cases j:a=k
  ·subst j;rw[ad]
  ·rw[ab _ _ j]
 refine⟨⟨below_setRow d.below hB _,by simpa using d.bsz,fun b o x=>by simpa using d.immlt b o x,d.i0,d.immlow, ?_, ?_, ?_, ?_,fun a=>by rw[f];exact d.lim a,d.maps.set hex rfl (gc w q) (xO _) (by first|exact fb|exact fR)⟩,hex⟩
 ·intro a v l x;rw[f];exact d.fresh a v l x
 ·intro a l x
  rw[f]at x;obtain⟨K,⟨Z,T,h2,S⟩,I⟩:=d.own a l x;by_cases j:l.b=L.b
  ·have:=d.dis a k l L x n j
   subst this;rw[n]at x;simp only[xA]at x;subst x;exact⟨K,⟨arr',e,setRow_heap w _ _ _ _ _ q,by rw[U];exact H⟩,I⟩
  ·exact⟨K,⟨Z,T,by rw[setRow_other w _ _ _ j];exact h2,S⟩,I⟩
 ·intro Q R O Y M N;rw[f]at M N;exact d.dis Q R O Y M N
 ·intro a ob g
  by_cases j:a=k
  ·subst j
   rw[ad]at g ⊢;simp only[xA]at g;subst g;refine .inr ⟨L,n,s,z,p,A,r,fun t c W=> ?_⟩;obtain⟨u,V,F,y⟩:=X t c W;exact⟨u,by rw[cell_setRow_same w L.b t _ _ _ _ q];exact V,F,y.mono hex⟩
  ·rw[ab _ _ j]at g ⊢
   refine(d.objs a ob g).mono (d.le a) hex (fun l D t=>cell_setRow_other w L.b arr' ⟨l.b,t,none⟩ (fun E=>j (d.dis a k l L D n E)))
theorem HR.regrow(f:HR G B w0 I0 h w){k sz:Nat}{es':List AV}{L:nG}(r:G.loc k (h k).ver=some L)(C:L.sz=sz)(E:L.fr=0)
    {arr arr':Array Value} {e:TypeId} (y:w.heap[L.b]? =some (.cells arr e (0,0))) (V:arr'.size=arr.size) (s:es'.length≤L.cap) (F:∀x∈es',x.cells.length=sz) (A:sz=1→∀x∈es',x.lone=true)
    (Y:∀(t:Nat)(c:AV),(AV.flat es')[t]? =some c→∃u:Value,arr'[t]? =some u∧u.oneCell'=true∧Rep G w c u):
    HR (G.at k ((h k).ver+1) L) B w0 I0 (aq h k ⟨(h k).ver+1,some (.arr sz es')⟩) (w.setRow L.b arr')∧Ext G w (G.at k ((h k).ver+1) L) (w.setRow L.b arr'):=by
 obtain⟨hB,⟨N,e0,p,K⟩,Q⟩:=f.own k L r;rw[y]at p;simp only[xA,Obj.cells.injEq]at p;obtain⟨rfl,rfl,_⟩:=p;have z:=f.none_next k;have n:G.lim k<(h k).ver+1:=by rw[f.lim];omega
 have H:∀b o,G.imm b o→b≠L.b:=by
  rintro b o x rfl;have:=Q o x;omega
 have hex:Ext G w (G.at k ((h k).ver+1) L) (w.setRow L.b arr'):=⟨fun _ _ x=>x,(Ext.at z n w).loc,fun b i x=>cell_setRow_other w L.b arr' ⟨b,i,none⟩ (H b i x),by simp,(Ext.at z n w).lim,(Ext.at z n w).nloc,fun _ _ _ x=>x,ga y⟩
 have m:∀a g,(G.at k ((h k).ver+1) L).loc a (aq h k ⟨(h k).ver+1,some (.arr sz es')⟩ a).ver=some g→G.loc a (h a).ver=some g:=by
  intro a g x;by_cases d:a=k
  ·subst d
   rw[ad,Gh.at_same]at x;rw[r];exact x
  ·rw[ab _ _ d,Gh.at_ne _ _ (by simp[d])]at x
   exact x
 refine⟨⟨below_setRow f.below hB _,by simpa using f.bsz,fun b o x=>by simpa using f.immlt b o x,f.i0,f.immlow, ?_, ?_, ?_, ?_,fun a=>by
  by_cases d:a=k
  ·subst d;rw[ad];exact ad _ _ _
  ·rw[ab _ _ d];exact(ab _ _ d).trans (f.lim a),f.maps.set hex rfl (gc w y) (by omega) (by first|exact fb|exact fR)⟩,hex⟩
 ·intro a v g l
  by_cases d:a=k∧v=(h k).ver+1
  ·obtain⟨rfl,rfl⟩:=d;simp[aq]
  ·rw[Gh.at_ne _ _ d]at l
   have:=f.fresh a v g l;by_cases q:a=k
   ·subst q;rw[ad];show v≤_+1;omega
   ·rw[ab _ _ q];exact this
 ·intro a g x
  replace x:=m a g x
  obtain⟨O,⟨a1,U,h2,T⟩,M⟩:=f.own a g x;by_cases d:g.b=L.b
  ·have:=f.dis a k g L x r d
   subst this;rw[r]at x;simp only[xA]at x;subst x;exact⟨O,⟨arr',e,setRow_heap w _ _ _ _ _ y,by rw[V];exact K⟩,M⟩
  ·exact⟨O,⟨a1,U,by rw[setRow_other w _ _ _ d];exact h2,T⟩,M⟩
 ·intro R S P Z x1 x2;exact f.dis R S P Z (m _ _ x1) (m _ _ x2)
 ·intro a ob j
  by_cases d:a=k
  ·subst d
   rw[ad]at j ⊢;simp only[xA]at j;subst j;refine .inr ⟨L,Gh.at_same _ _ _ _,C,E,s,F,A,fun t c X=> ?_⟩;obtain⟨u,W,J,D⟩:=Y t c X;exact⟨u,by rw[cell_setRow_same w L.b t _ _ _ _ y];exact W,J,D.mono hex⟩
  ·rw[ab _ _ d]at j ⊢
   refine(f.objs a ob j).mono (f.le a) hex (fun g l t=>cell_setRow_other w L.b arr' ⟨g.b,t,none⟩ (fun I=>d (f.dis a k g L l r I)))
theorem HR.newVec(g:HR G B w0 I0 h w)(k sz cap:Nat)(l:List D)(arr:Array Value)(e:TypeId)(j:arr.size=cap*sz)(b:l.length≤cap)(d:∀x∈l,x.cells.length=sz)
    (m:∀(t:Nat)(c:D),(D.flat l)[t]? =some c→∃u:Value,arr[t]? =some u∧c.one=true∧DRep G.imm w c u):
    ∃a,HR a B w0 I0 (aq h k ⟨(h k).ver+1,none⟩) (w.alloc (.cells arr e))∧Ext G w a (w.alloc (.cells arr e))∧
     Rep a (w.alloc (.cells arr e)) (.vec k ((h k).ver+1) sz l) (.slice (some ⟨w.heap.size,0,none⟩) l.length cap):=by
 obtain⟨a,f,i,n,_⟩:=g.newVecT k sz cap l arr e j b d m;exact⟨a,f,i,n⟩
theorem HR.note(c:HR G B w0 I0 h w)(d k v:Nat)(T:TypeId)(n:Option Nat)(p:v≤(h k).ver)(q:∀L,G.loc k v=some L→L.ty=T∧∀m,n=some m→L.cap*L.sz=m):
    HR G B w0 I0 (aq h d ⟨(h d).ver,some (.typ k v T n)⟩) w:=by
 have a:∀b,(aq h d ⟨(h d).ver,some (.typ k v T n)⟩ b).ver=(h b).ver:=fun b=>by
  by_cases e:b=d
  ·subst e;rw[ad]
  ·rw[ab _ _ e]
 refine⟨c.below,c.bsz,c.immlt,c.i0,c.immlow,fun b o L x=>by rw[a];exact c.fresh b o L x,fun b L x=>by rw[a]at x;exact c.own b L x,
  fun s l j r i g=>by rw[a]at i g;exact c.dis s l j r i g,fun b ob f=> ?_,fun b=>by rw[a];exact c.lim b,
  c.maps.set (Ext.refl G w) rfl (fun _ _ _ x=>x) (xO _) tp⟩
 rw[a];by_cases e:b=d
 ·subst e
  rw[ad]at f;cases f;exact⟨by rw[c.lim];exact p,q⟩
 ·rw[ab _ _ e]at f
  exact c.objs b ob f
theorem HR.growT(g:HR G B w0 I0 h w){k:Nat}{l news:List D}{L:nG}(ho:(h k).ob=none)(p:G.loc k (h k).ver=some L)(hfr:L.fr=l.length*L.sz)
    {arr arr':Array Value} {e:TypeId} (J:w.heap[L.b]? =some (.cells arr e (0,0))) (hs:arr'.size=arr.size) (C:l.length+news.length≤L.cap) (Y:∀x∈l,x.cells.length=L.sz) (S:∀x∈news,x.cells.length=L.sz)
    (Q:∀t,t<l.length*L.sz→arr'[t]? =arr[t]?)
    (hc:∀(t:Nat)(c:D),(D.flat (l ++news))[t]? =some c→∃u:Value,arr'[t]? =some u∧c.one=true∧DRep G.imm w c u):
    ∃r,HR r B w0 I0 (aq h k ⟨(h k).ver+1,none⟩) (w.setRow L.b arr')∧Ext G w r (w.setRow L.b arr')∧
     Rep r (w.setRow L.b arr') (.vec k ((h k).ver+1) L.sz (l ++news)) (.slice (some ⟨L.b,0,none⟩) (l.length+news.length) L.cap)∧
     ∀j,r.loc k ((h k).ver+1)=some j→j.ty=L.ty:=by
 obtain⟨hB,⟨arr0,e0,I,V⟩,hi⟩:=g.own k L p;rw[J]at I;simp only[xA,Obj.cells.injEq]at I;obtain⟨rfl,rfl,_⟩:=I;have W:=g.none_next k;have H:G.lim k<(h k).ver+1:=by rw[g.lim];omega
 have s:∀x∈l ++news,x.cells.length=L.sz:=by
  intro x E;rcases xJ.1 E with E|E
  ·exact Y x E
  ·exact S x E
 have hfl:(D.flat (l ++news)).length=(l.length+news.length)*L.sz:=by rw[D.flat,bg _ L.sz _ s,xZ]
 let q:nG:={L with fr:=(l.length+news.length)*L.sz}
 let r:Gh:=(G.at k ((h k).ver+1) q).more (fun b o=>b=L.b∧o<(l.length+news.length)*L.sz)
 have n:∀t,(w.setRow L.b arr').cell? ⟨L.b,t,none⟩=arr'[t]? :=fun t=>cell_setRow_same w L.b t _ _ _ _ J
 have z:∀t,w.cell? ⟨L.b,t,none⟩=arr[t]? :=fun t=>by simp[World.cell?,J]
 have hex:Ext G w r (w.setRow L.b arr'):=by
  refine⟨fun _ _ x=> .inl x,(Ext.at (L:=q) W H w).loc,fun b i x=> ?_,by simp,(Ext.at (L:=q) W H w).lim,(Ext.at (L:=q) W H w).nloc,fun _ _ _ x=>x,ga J⟩;by_cases d:b=L.b
  ·subst d
   rw[n,z,Q i (by have:=hi i x;omega)]
  ·exact cell_setRow_other w L.b arr' ⟨b,i,none⟩ d
 have P:r.loc k ((h k).ver+1)=some q:=Gh.at_same _ _ _ _
 have F:∀a j,r.loc a (aq h k ⟨(h k).ver+1,none⟩ a).ver=some j→(a=k∧j=q)∨(a≠k∧G.loc a (h a).ver=some j):=by
  intro a j p;by_cases m:a=k
  ·subst m
   rw[ad]at p;rw[show r.loc a ((h a).ver+1)=some q from Gh.at_same _ _ _ _]at p;exact .inl ⟨rfl,(Option.some.inj p).symm⟩
  ·rw[ab _ _ m]at p
   exact .inr ⟨m,by rw[←Gh.at_ne G q (k:=k) (v:=(h k).ver+1) (by simp[m])];exact p⟩
 have T:∃U:Nat→Value,∀t c,(D.flat (l ++news))[t]? =some c→arr'[t]? =some (U t)∧c.one=true∧DRep G.imm w c (U t):=by
  refine⟨fun t=>arr'.getD t undef,fun t c A=> ?_⟩;obtain⟨u,hu,h1,h2⟩:=hc t c A;have hg:arr'.getD t undef=u:=by simp[xb,hu]
  exact⟨hu.trans (congrArg some hg.symm),h1,by simpa only[hg]using h2⟩
 obtain⟨U,T⟩:=T
 refine⟨r,⟨below_setRow g.below hB _,by simpa using g.bsz, ?_,fun b o x=> .inl (g.i0 b o x), ?_, ?_, ?_, ?_, ?_,fun a=>by
  by_cases m:a=k
  ·subst m;rw[ad];exact ad _ _ _
  ·rw[ab _ _ m];exact(ab _ _ m).trans (g.lim a),g.maps.set hex rfl (gc w J) (by omega) (by first|exact fb|exact fR)⟩,hex, ?_,fun j f=>by rw[P]at f;cases f;rfl⟩
 ·rintro b o (x|⟨rfl,_⟩)
  ·simpa using g.immlt b o x
  ·simpa using g.blt p
 ·rintro b o (x|⟨rfl,_⟩) hbB
  ·exact g.immlow b o x hbB
  ·omega
 ·intro a v j f
  by_cases m:a=k∧v=(h k).ver+1
  ·obtain⟨rfl,rfl⟩:=m;simp[aq]
  ·rw[show r.loc a v=G.loc a v from Gh.at_ne _ _ m]at f
   have:=g.fresh a v j f;by_cases N:a=k
   ·subst N;rw[ad];show v≤_+1;omega
   ·rw[ab _ _ N];exact this
 ·intro a j f
  rcases F a j f with ⟨rfl,rfl⟩|⟨m,f⟩
  ·refine⟨hB,⟨arr',e,setRow_heap w _ _ _ _ _ J,by rw[hs];exact V.1,V.2⟩, ?_⟩
   rintro o (x|⟨_,x⟩)
   ·have:=hi o x
    show o<(l.length+news.length)*L.sz;rw[yN];omega
   ·exact x
  ·have d:j.b≠L.b:=fun d=>m (g.dis a k j L f p d)
   obtain⟨h1,⟨a1,e1,h2,h3⟩,h4⟩:=g.own a j f;refine⟨h1,⟨a1,e1,by rw[setRow_other w _ _ _ d];exact h2,h3⟩, ?_⟩;rintro o (x|⟨x,_⟩)
   ·exact h4 o x
   ·exact absurd x d
 ·intro k1 k2 L2 L3 hL2 Z d
  rcases F k1 L2 hL2 with ⟨O,X⟩|⟨hk1,M⟩<;>rcases F k2 L3 Z with ⟨K,h2L⟩|⟨hk2,R⟩
  ·rw[O,K]
  ·subst X;rw[O];exact g.dis _ _ L L3 p R d
  ·subst h2L;rw[K];exact g.dis _ _ L2 L M p d
  ·exact g.dis k1 k2 L2 L3 M R d
 ·intro a ob y
  by_cases m:a=k
  ·subst m;rw[ad]at y;cases y
  ·rw[ab _ _ m]at y ⊢
   refine(g.objs a ob y).mono (g.le a) hex (fun j f t=>cell_setRow_other w L.b arr' ⟨j.b,t,none⟩ (fun d=>m (g.dis a k j L f p d)))
 ·have hv:=Rep.vec (w:=w.setRow L.b arr') k ((h k).ver+1) (l ++news) q P (by simp[q]) (by simpa [q]using C) s (.ro (l ++news) L.b 0 L.cap L.sz U (by simpa using C) s (fun x E=>by
      obtain⟨t,A⟩:=x7 E
      exact(T t x A).2.1) (fun t c A=>by
       have:t<(D.flat (l ++news)).length:=(xD.1 A).1
       exact .inr ⟨rfl,by omega⟩) (fun t c A=>by
        rw[xe,n];exact(T t c A).1) (fun t c A=>(T t c A).2.2.mono hex.imm hex.cell))
  rw[xZ]at hv;exact hv
theorem HR.newImm(a:HR G B w0 I0 h w)(l:List D)(sz cap:Nat)(arr:Array Value)(e:TypeId){fz:Nat×Nat}(j:l.length≤cap)(n:∀x∈l,x.cells.length=sz)
    (H:∀(t:Nat)(c:D),(D.flat l)[t]? =some c→∃u:Value,arr[t]? =some u∧c.one=true∧DRep G.imm w c u):
    ∃g,HR g B w0 I0 h (w.alloc (.cells arr e fz))∧Ext G w g (w.alloc (.cells arr e fz))∧DRep g.imm (w.alloc (.cells arr e fz)) (.ro l) (.slice (some ⟨w.heap.size,0,none⟩) l.length cap):=by
 let g:Gh:=G.more (fun b _=>b=w.heap.size)
 have hex:Ext G w g (w.alloc (.cells arr e fz)):=
  ⟨fun _ _ x=> .inl x,fun _ _ _ x=>x,fun b i q=>bh (a.immlt b i q),by simp,fun _=>xO _,fun _ _ _ x=>x,fun _ _ _ x=>x,fq w _⟩
 have k:∃U:Nat→Value,∀t c,(D.flat l)[t]? =some c→arr[t]? =some (U t)∧c.one=true∧DRep G.imm w c (U t):=by
  refine⟨fun t=>arr.getD t undef,fun t c d=> ?_⟩;obtain⟨u,r,p,h2⟩:=H t c d;have s:arr.getD t undef=u:=by simp[xb,r]
  exact⟨r.trans (congrArg some s.symm),p,by simpa only[s]using h2⟩
 obtain⟨U,k⟩:=k;refine⟨g,⟨a.below.alloc a.bsz _,by have:=a.bsz;simp;omega, ?_,fun b o x=> .inl (a.i0 b o x), ?_,a.fresh, ?_,a.dis, ?_,a.lim,a.maps.step hex rfl (fu w _) (fun _=>xO _) (fun _ _ _ _=>rfl)⟩,hex, ?_⟩
 ·rintro b o (x|rfl)
  ·have:=a.immlt b o x;simp;omega
  ·simp
 ·rintro b o (x|rfl) q
  ·exact a.immlow b o x q
  ·have:=a.bsz;omega
 ·intro m z f
  obtain⟨p,⟨arr',F,h2,v⟩,A⟩:=a.own m z f;refine⟨p,⟨arr',F,(bN (a.blt f)).trans h2,v⟩, ?_⟩;rintro o (x|x)
  ·exact A o x
  ·have:=a.blt f;omega
 ·intro m ob E
  exact(a.objs m ob E).mono (a.le m) hex (fun L C t=>bh (a.blt C))
 ·refine .ro l _ 0 cap sz U j n (fun x y=> ?_) (fun t c d=> .inr rfl) ?_ (fun t c d=>(k t c d).2.2.mono hex.imm hex.cell)
  ·obtain⟨t,d⟩:=x7 y
   exact(k t x d).2.1
  ·intro t c d
   rw[xe,show(w.alloc (.cells arr e fz)).cell? ⟨w.heap.size,t,none⟩=arr[t]? from by rw[World.cell?,heap_alloc_new];rfl];exact(k t c d).1
theorem HR.bump(c:HR G B w0 I0 h w)(k:Nat)(ob:Option Ob)(j:∀o,ob=some o→∃sz,o= .arr sz []):
    ∃g,HR g B w0 I0 (aq h k ⟨(h k).ver+1,ob⟩) w∧Ext G w g w∧g.loc k ((h k).ver+1)=none:=by
 have m:=c.none_next k
 have f:∀a d,G.loc a (aq h k ⟨(h k).ver+1,ob⟩ a).ver=some d→a≠k∧G.loc a (h a).ver=some d:=by
  intro a d i;by_cases b:a=k
  ·subst b;rw[ad]at i;simp only[m]at i;cases i
  ·rw[ab _ _ b]at i;exact⟨b,i⟩
 let g:Gh:={G with lim:=aq G.lim k ((h k).ver+1)}
 have hex:Ext G w g w:=⟨fun _ _ x=>x,fun _ _ _ x=>x,fun _ _ _=>rfl,xO _,fun a=>by
  by_cases b:a=k
  ·subst b;show _≤aq G.lim a _ a;rw[ad,c.lim];omega
  ·show _≤aq G.lim k _ a;rw[ab _ _ b];exact xO _,fun _ _ _ x=>x,fun _ _ _ x=>x,cl rfl⟩
 refine⟨g,⟨c.below,c.bsz,c.immlt,c.i0,c.immlow, ?_,fun a d x=>c.own a d (f a d x).2,fun t u n r p q=>c.dis t u n r (f _ _ p).2 (f _ _ q).2, ?_,fun a=>by
  by_cases b:a=k
  ·subst b;rw[ad];exact ad _ _ _
  ·rw[ab _ _ b];exact(ab _ _ b).trans (c.lim a),c.maps.set hex rfl (fun _ _ _ x=>x) (by omega) (fun o s e=>by obtain⟨sz,rfl⟩:=j _ e;cases s)⟩,hex,m⟩
 ·intro a v d x
  have:=c.fresh a v d x;by_cases b:a=k
  ·subst b;rw[ad];show v≤_+1;omega
  ·rw[ab _ _ b];exact this
 ·intro a o l
  by_cases b:a=k
  ·subst b
   rw[ad]at l ⊢;obtain⟨sz,rfl⟩:=j o l;exact .inl ⟨rfl,m⟩
  ·rw[ab _ _ b]at l ⊢
   exact(c.objs a o l).mono (c.le a) hex (fun _ _ _=>rfl)
end
end Go.Avm
namespace Go.Avm
open Go.RowKit
variable[ap]
section
variable{P:Program}{G:Gh}{B:Nat}{w0 w:World}{I0:Nat→Nat→Prop}{h:aa}
theorem Rep.lone{x:AV}{v:Value}(b:Rep G w x v)(a:v.oneCell'=true):x.lone=true:=by
 cases b with
 |d h=>cases h<;>first|rfl|(simp[Value.oneCell']at a)
 |agg=>simp[Value.oneCell']at a
 |_=>rfl
theorem iV(v:Value):Rep G w (sy v) v:=by
 unfold sy;split<;>first|exact .d (.bool _)|exact .d (.int _ _)|exact .d (.str _ _ rfl)|exact .d .nilp|exact .d .nili|exact .nils|exact .junk _
theorem dk{cs:Array Value}{l:List AV}(a:fS cs=some l):cs.size=l.length∧(∀(i:Nat)(u:Value),cs[i]? =some u→u.oneCell'=true)∧
    ∀(i:Nat)(c:AV)(u:Value),l[i]? =some c→cs[i]? =some u→Rep G w c u:=by
 unfold fS at a;split at a
 ·rename_i b
  simp only[xA]at a;subst a;refine⟨by simp,fun i u d=> ?_,fun i c u a d=> ?_⟩
  ·have:=xY.1 b u (by rw[xa];exact Array.mem_of_getElem? d)
   exact this
  ·simp only[xK,xX,d,xP,xA]at a
   subst a;exact iV u
 ·cases a
theorem jM:∀{cs:List AV}{ds:List D},iQ cs=some ds→cs=ds.map .d∧∀c∈ds,c.one=true
 |[],ds,h=>by simp only[iQ,xA]at h;subst h;simp
 | .d x::r,ds,h=>by
  simp only[iQ]at h;split at h
  ·rename_i f
   simp only[xB]at h;obtain⟨b,h',rfl⟩:=h;obtain⟨e,g⟩:=jM h';refine⟨by simp[e],fun c a=> ?_⟩;rcases xR.1 a with rfl|a
   ·exact f
   ·exact g c a
  ·cases h
 | .junk::_,_,h=>by simp[iQ]at h
 | .nils::_,_,h=>by simp[iQ]at h
 | .es::_,_,h=>by simp[iQ]at h
 | .vec _ _ _ _::_,_,h=>by simp[iQ]at h
 | .sl _ _ _ _ _::_,_,h=>by simp[iQ]at h
 | .ptr _ _ _ _ _::_,_,h=>by simp[iQ]at h
 | .agg _::_,_,h=>by simp[iQ]at h
 | .tup _::_,_,h=>by simp[iQ]at h
 | .fn _ _::_,_,h=>by simp[iQ]at h
theorem Rep.toDRep{x:D}{v:Value}(a:Rep G w (.d x) v):DRep G.imm w x v:=by cases a with|d h=>exact h
theorem fe{cs:List AV}{vs:Array Value}(b:vs.size=cs.length)(f:∀(i:Nat)(u:Value),vs[i]? =some u→u.oneCell'=true)
    (e:∀(i:Nat)(c:AV)(u:Value),cs[i]? =some c→vs[i]? =some u→Rep G w c u):Rep G w (ek cs) (.agg vs):=by
 unfold ek;split
 ·rename_i ds a
  obtain⟨rfl,g⟩:=jM a;refine .d (.agg ds vs (by simpa using b) g (fun i c u k j=> ?_));exact(e i (.d c) u (by simp[k]) j).toDRep
 ·exact .agg cs vs b f e
theorem dR{cs:List AV}:(ek cs).cells=cs:=by
 unfold ek;split
 ·rename_i ds a
  obtain⟨rfl,_⟩:=jM a;rfl
 ·rfl
theorem iW(v:Value):Rep G w (vC v) v:=by
 cases v with
 |agg cs=>
  simp only[vC];split
  ·rename_i l b
   obtain⟨c,h2,a⟩:=dk (G:=G) (w:=w) b;exact fe c h2 a
  ·exact .junk _
 |_=>simp only[vC];exact iV _
structure FR(G:Gh)(w:World)(N:Nat)(D:List Deferred)(env:Nat→AV)(a:Act):Prop where
 size:a.tmps.size=N
 nod:a.defers=D
 rep:∀t,t<N→Rep G w (env t) (a.tmps.getD t undef)
 out:∀t,N≤t→env t= .junk
theorem FR.opd{N:Nat}{D:List Deferred}{env:Nat→AV}{a:Act}(e:FR G w N D env a)(l:Globs G.imm w)(x:Operand):Rep G w (opd env x) (a.eval x):=by
 cases x with
 |tmp t=>
  by_cases j:t<N
  ·exact e.rep t j
  ·have k:Go.Avm.opd env (.tmp t)= .junk:=e.out t (Nat.le_of_not_lt j)
   rw[k];exact .junk _
 |const v=>exact iW v
 |global g=>
  simp only[Go.Avm.opd];split
  ·rename_i cs b;exact .d (l g cs b)
  ·exact .junk _
 |func f=>exact .fn f [] #[] rfl (fun i c u b _=>by simp at b)
theorem FR.mono{N:Nat}{D:List Deferred}{env:Nat→AV}{a:Act}{d:Gh}{c:World}(b:FR G w N D env a)(e:Ext G w d c):FR d c N D env a:=
 ⟨b.size,b.nod,fun t f=>(b.rep t f).mono e,b.out⟩
theorem FR.put{N:Nat}{D:List Deferred}{env env':Nat→AV}{a:Act}(c:FR G w N D env a){dst:Option Nat}{x:AV}{v:Value}(hp:bX N env dst x=some env')(g:Rep G w x v):FR G w N D env' (a.put dst v):=by
 cases dst with
 |none=>simp only[bX,xA]at hp;subst hp;exact c
 |some d=>
  simp only[bX]at hp;split at hp
  ·rename_i i
   simp only[xA]at hp;subst hp;refine⟨by simp[Act.put,c.size],c.nod,fun t f=> ?_,fun t f=> ?_⟩
   ·simp only[Act.put,xb,Array.getElem?_setIfInBounds]
    by_cases b:d=t
    ·subst b
     simp only[ad,xz,c.size,i,yj];exact g
    ·rw[xi b,ab _ _ (fun e=>b e.symm)]
     have:=c.rep t f;rwa [xb]at this
   ·rw[ab _ _ (by omega)];exact c.out t f
  ·cases hp
def Good(P:Program)(B:Nat)(w0:World)(I0:Nat→Nat→Prop)(G:Gh)(h:aa)(w:World)(r:Result Next)(out:Out):Prop:=
 ∃v a b,(r= .ok (.value v) a∨(r= .ok .skip a∧v=undef))∧Ext G w b a∧HR b B w0 I0 (ae h out.wr) a∧Rep b a out.val v
theorem Good.pure(a:HR G B w0 I0 h w){v:Value}{r:Result Next}{out:Out}(e:r= .ok (.value v) w)(b:out.wr=[])(c:Rep G w out.val v):Good P B w0 I0 G h w r out:=
 ⟨v,w,G, .inl e,Ext.refl G w,by rw[b];exact a,c⟩
theorem ep{t:TypeId}{d:TypeDesc}(a:P.underlying t=some d):∃i,P.info? t=some i:=by
 unfold Program.underlying at a;split at a<;>simp_all
theorem kh{t:TypeId}{d:TypeDesc}(a:P.underlying t=some d)(w:World):(sizeOf t).run P w= .ok (P.cellsOf t) w:=by
 obtain⟨i,b⟩:=ep a;simp[sizeOf,typeInfo,b,Program.cellsOf]
theorem fv{t:TypeId}{b:Bool}(a:gR P t=some b)(w:World):(isAgg t).run P w= .ok b w:=by
 simp only[gR,xB]at a;obtain⟨d,c,rfl⟩:=a;simp only[isAgg,Sem.run_bind,run_underlying c,Result.andThen_ok];cases d<;>rfl
theorem oT{t:TypeId}{b:Bool}(a:gR P t=some b):∃d,P.underlying t=some d:=by
 simp only[gR,xB]at a;obtain⟨d,c,_⟩:=a;exact⟨d,c⟩
theorem bw{t:TypeId}{z:Value}(a:bC P t=some z)(w:World):(zeroValue t).run P w= .ok z w:=by
 unfold bC at a;cases b:P.info? t with
 |none=>simp[b]at a
 |some i=>
  simp only[b,xh]at a;simp[zeroValue,typeInfo,b,a]
theorem bL(b o n:Nat):(⟨b,o,none⟩:Addr).add n=⟨b,o+n,none⟩:=by unfold Addr.add;split<;>simp_all
theorem mN(X:HR G B w0 I0 h w){a:AV}{va:Value}(Q:Rep G w a va){n:Nat}{cs:List AV}{ks:List Nat}(f:d7 h a n=some (cs,ks)):
    ∃b o,va= .pointer (some ⟨b,o,none⟩)∧cs.length=n∧∀(j:Nat)(c:AV),cs[j]? =some c→∃u,w.cell? ⟨b,o+j,none⟩=some u∧u.oneCell'=true∧Rep G w c u:=by
 unfold d7 at f;split at f
 ·rename_i ds
  split at f
  ·rename_i hn
   simp only[xA,xC]at f;obtain⟨rfl,rfl⟩:=f;cases Q with
   |d W=>
    cases W with
    |rp _ b o U A hi f M=>
     refine⟨b,o,rfl,by simp;omega,fun j c g=> ?_⟩;simp only[xK,xB]at g;obtain⟨y,C,rfl⟩:=g
     have x:ds[j]? =some y:=by
      rw[xl]at C;split at C
      ·exact C
      ·cases C
     have:=M j y x;exact⟨U j,f j y x,this.oneCell (A y (xS x)), .d this⟩
  ·cases f
 ·rename_i k v i s sz0
  split at f
  ·rename_i sz es H
   split at f
   ·rename_i Y
    subst Y;cases Q with
    |ptr _ _ _ _ L O=>
     have m:=X.objs k _ H;split at f
     ·rename_i F
      subst F;split at f
      ·rename_i z
       obtain⟨rfl,z⟩:=z;simp only[xA,xC]at f;obtain⟨rfl,rfl⟩:=f;refine⟨L.b,i*L.sz+0,rfl,by simp;omega,fun j c g=> ?_⟩;rw[xl]at g;split at g
       ·rename_i K
        rw[xo]at g;rcases m with ⟨rfl,E⟩|⟨V,l,A,h2,T,D,R,N⟩
        ·simp at g
        ·rw[O]at l
         simp only[xA]at l;subst l;have r:=R rfl c (xS g)
         have q:(AV.flat es)[(i+j)*1+0]? =some c:=by
          rw[AV.flat,aW _ 1 es D (i+j) 0 (by omega),g,xh,AV.cells_lone r];rfl
         obtain⟨u,J,t,p⟩:=N _ c q;refine⟨u, ?_,t,p⟩;rw[←J,A];congr 2;omega
       ·cases g
      ·cases f
     ·split at f
      ·rename_i e I
       split at f
       ·rename_i S
        simp only[xA,xC]at f;obtain⟨rfl,rfl⟩:=f;rcases m with ⟨rfl,E⟩|⟨V,l,A,h2,T,D,R,N⟩
        ·simp at I
        ·rw[O]at l
         simp only[xA]at l;subst l;have Z:=D e (xS I);refine⟨L.b,i*L.sz+s,rfl,by simp;omega,fun j c g=> ?_⟩;rw[xl]at g;split at g
         ·rename_i K
          rw[xo]at g
          have q:(AV.flat es)[i*sz+(s+j)]? =some c:=by
           rw[AV.flat,aW _ sz es D i (s+j) (by omega),I,xh,g]
          obtain⟨u,J,t,p⟩:=N _ c q;refine⟨u, ?_,t,p⟩;rw[←J,A];congr 2;omega
         ·cases g
       ·cases f
      ·cases f
   ·cases f
  ·cases f
 ·cases f
theorem ki{b:Type}{p:Nat→b→Prop}:∀(n:Nat),(∀i,i<n→∃x,p i x)→∃l:List b,l.length=n∧∀(i:Nat)(x:b),l[i]? =some x→p i x
 |0,_=>⟨[],rfl,by simp⟩
 |n+1,hp=>by
  obtain⟨l,d,e⟩:=ki n (fun i g=>hp i (by omega));obtain⟨x,c⟩:=hp n (by omega);refine⟨l ++[x],by simp[d],fun i y a=> ?_⟩;rw[List.getElem?_append]at a;split at a
  ·exact e i y a
  ·rename_i f
   have:i=n:=by
    have:=(xD.1 a).1;simp at this;omega
   subst this;simp[d]at a;subst a;exact c
theorem qf{cs:List AV}{b o:Nat}(k:∀(j:Nat)(c:AV),cs[j]? =some c→∃u,w.cell? ⟨b,o+j,none⟩=some u∧u.oneCell'=true∧Rep G w c u):
    ∃a:List Value,a.length=cs.length∧(∀(j:Nat)(u:Value),a[j]? =some u→w.cell? ⟨b,o+j,none⟩=some u∧u.oneCell'=true)∧
     (∀(j:Nat)(c:AV)(u:Value),cs[j]? =some c→a[j]? =some u→Rep G w c u)∧(loadCells ⟨b,o,none⟩ cs.length).run P w= .ok a.toArray w:=by
 obtain⟨a,f,e⟩:=ki (p:=fun j u=>w.cell? ⟨b,o+j,none⟩=some u∧u.oneCell'=true∧∀c,cs[j]? =some c→Rep G w c u) cs.length (fun j g=>by
  obtain⟨u,l,h2,i⟩:=k j cs[j] (xE g);exact⟨u,l,h2,fun c d=>by rw[xE g]at d;simp at d;subst d;exact i⟩)
 refine⟨a,f,fun j u h=>⟨(e j u h).1,(e j u h).2.1⟩,fun j c u d h=>(e j u h).2.2 c d, ?_⟩;rw[←f];exact run_loadCells_list w ⟨b,o,none⟩ a (fun j u h=>by rw[bL];exact(e j u h).1)
theorem fw(S:HR G B w0 I0 h w){t:TypeId}{a:AV}{va:Value}(N:Rep G w a va){out:Out}(g:cV P t a h=some out):
    ∃v,(Instr.loadAt t va).run P w= .ok v w∧out.wr=[]∧out.ob=[]∧Rep G w out.val v:=by
 unfold cV at g;split at g
 ·rename_i j
  simp only[xB]at g;obtain⟨⟨cs,ks⟩,z,rfl⟩:=g;obtain⟨b,o,rfl,V,D⟩:=mN S N z;obtain⟨W,M,Q,q,l⟩:=qf (P:=P) D;obtain⟨d,J⟩:=oT j;refine⟨.agg W.toArray, ?_,rfl,rfl,fe (by simpa using M) (fun i u y=>(Q i u (by simpa using y)).2) (fun i c u R y=>q i c u R (by simpa using y))⟩;rw[V]at l;simp[Instr.loadAt,Instr.sureAddr,loadVar,fv j,kh J,l]
 ·rename_i j
  have p:∀(b o:Nat)(u:Value),va= .pointer (some ⟨b,o,none⟩)→w.cell? ⟨b,o,none⟩=some u→(Instr.loadAt t va).run P w= .ok u w:=by
   rintro b o u rfl y;simp[Instr.loadAt,Instr.sureAddr,loadVar,fv j,y]
  split at g
  ·rename_i c cs
   simp only[xA]at g;subst g;cases N with
   |d J=>
    cases J with
    |rp _ b o U A hi z O=>
     exact⟨U 0,p b o _ rfl (z 0 c rfl),rfl,rfl, .d (O 0 c rfl)⟩
  ·rename_i k v i n sz0
   split at g
   ·rename_i sz es F
    split at g
    ·rename_i Y
     subst Y
     have m:∀(c:AV),(sz=1∧n=0∧es[i]? =some c)∨(sz≠1∧∃e,es[i]? =some e∧e.cells[n]? =some c)→∃v,(Instr.loadAt t va).run P w= .ok v w∧Rep G w c v:=by
      intro c f;cases N with
      |ptr _ _ _ _ L X=>
       rcases S.objs k _ F with ⟨rfl,T⟩|⟨L',r,A,h2,h3,I,Z,h5⟩
       ·rcases f with ⟨_,_,f⟩|⟨_,e,f,_⟩<;>simp at f
       ·rw[X]at r
        simp only[xA]at r;subst r
        have H:(AV.flat es)[i*sz+n]? =some c:=by
         rcases f with ⟨rfl,rfl,s⟩|⟨_,e,s,z⟩
         ·rw[AV.flat,aW _ 1 es I i 0 (by omega),s,xh,AV.cells_lone (Z rfl c (xS s))];rfl
         ·have C:=(xD.1 z).1
          rw[I e (xS s)]at C;rw[AV.flat,aW _ sz es I i n C,s,xh,z]
        obtain⟨u,y,_,q⟩:=h5 _ c H;exact⟨u,p L.b (i*L.sz+n) u rfl (by rw[A];exact y),q⟩
     split at g
     ·split at g
      ·rename_i K E
       simp only[xB]at g;obtain⟨x,D,rfl⟩:=g;obtain⟨v,A,h2⟩:=m x (.inl ⟨K,E,D⟩);exact⟨v,A,rfl,rfl,h2⟩
      ·cases g
     ·split at g
      ·rename_i K _ e s
       simp only[xB]at g;obtain⟨x,D,rfl⟩:=g;obtain⟨v,A,h2⟩:=m x (.inr ⟨K,e,s,D⟩);exact⟨v,A,rfl,rfl,h2⟩
      ·cases g
    ·cases g
   ·cases g
  ·cases g
 ·cases g
end
end Go.Avm
