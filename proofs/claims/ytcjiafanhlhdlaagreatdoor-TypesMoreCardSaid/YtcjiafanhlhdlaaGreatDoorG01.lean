/-
  The abstract machine, part A: immutable data, abstract values, what they stand for in a world, and what carries over from one world to the next.
-/
import Derived.Tactics
import Derived.Below
import Derived.Laws.Append
import Derived.Laws.World
import Derived.Laws.CopyOwn
set_option linter.unusedVariables false
set_option linter.unusedSimpArgs false
set_option linter.unusedSectionVars false
namespace Go.Avm
open Go.RowKit
theorem rC(s:ByteArray):∀(n i:Nat)(r:List UInt8),s.size-i=n→ByteArray.toList.loop s i r=r.reverse ++s.data.toList.drop i
 |0,i,r,h=>by
  rw[ByteArray.toList.loop,if_neg (by omega),List.drop_eq_nil_of_le (by simp only[Array.length_toList];show s.size≤i;omega),List.append_nil]
 |n+1,i,r,h=>by
  have hlt:i<s.size:=by omega
  have hl:i<s.data.toList.length:=by simpa using hlt
  rw[ByteArray.toList.loop,if_pos hlt,rC s n (i+1) _ (by omega),List.drop_eq_getElem_cons hl]
  have:s.get! i=s.data.toList[i]:=by
   simp only[ByteArray.get!,Array.getElem_toList];exact getElem!_pos s.data i (by simpa using hl)
  rw[this];simp
theorem vM(s:ByteArray):s.toList=s.data.toList:=by
 rw[ByteArray.toList,rC s s.size 0 [] (by omega)];simp
inductive D where
 |bool (b:Bool)
 |int (k:IntKind) (n:Int)
 |str (s:List UInt8)
 |agg (cs:List D)
 |ro (l:List D)
 |rp (cs:List D)
 |nilp
 |nili
 |ifc
 deriving Inhabited
def D.cells:D→List D
 | .agg cs=>cs
 |x=>[x]
def D.one:D→Bool
 | .agg _=>false
 |_=>true
def D.flat(l:List D):List D:=l.flatMap D.cells
inductive AV where
 |junk
 |d (x:D)
 |nils
 |es
 |vec (k v sz:Nat) (l:List D)
 |sl (k v off len sz:Nat)
 |ptr (k v i off sz:Nat)
 |agg (cs:List AV)
 |tup (vs:List AV)
 |fn (f:Nat) (caps:List AV)
 |mp (k v:Nat)
 |yld (k v:Nat)
 |itr (k v:Nat)
 |iv (t:TypeId) (x:AV)
 |vp (k v:Nat) (l:List D)
 deriving Inhabited
def AV.cells:AV→List AV
 | .agg cs=>cs
 | .d (.agg cs)=>cs.map .d
 |x=>[x]
def AV.one:AV→Bool
 | .junk| .agg _| .tup _| .d (.agg _)=>false
 |_=>true
def AV.stor:AV→Bool
 | .junk| .tup _=>false
 |_=>true
def AV.flat(l:List AV):List AV:=l.flatMap AV.cells
def AV.lone:AV→Bool
 | .agg _| .d (.agg _)=>false
 |_=>true
theorem AV.cells_lone{x:AV}(h:x.lone=true):x.cells=[x]:=by
 cases x with
 |d y=>cases y<;>first|rfl|(simp[AV.lone]at h)
 |agg _=>simp[AV.lone]at h
 |_=>rfl
def aM{α:Type}(f:Nat→α)(k:Nat)(x:α):Nat→α:=fun t=>if t=k then x else f t
theorem ak{α:Type}(f:Nat→α)(k:Nat)(x:α):aM f k x k=x:=by simp[aM]
theorem am{α:Type}(f:Nat→α){k t:Nat}(x:α)(h:t≠k):aM f k x t=f t:=by simp[aM,h]
theorem DT{α:Type}(f:Nat→α){k t:Nat}(x y:α)(h:t≠k):aM (aM f k x) t y=aM (aM f t y) k x:=by
 funext s;simp only[aM];by_cases h1:s=t<;>by_cases h2:s=k<;>simp_all
def an:List (Nat×AV)→Nat→AV
 |[]=>fun _=> .junk
 |(k,x)::r=>aM (an r) k x
theorem np(env:Nat→AV):∀(l:List (Nat×AV)),(∀p∈l,p.2=env p.1)→∀t,an l t=env t∨an l t= .junk
 |[],_,t=> .inr rfl
 |(k,x)::r,h,t=>by
  by_cases ht:t=k
  ·subst ht
   left;simp only[an,ak];exact h (t,x) (by simp)
  ·simp only[an,am _ _ ht]
   exact np env r (fun p hp=>h p (by simp[hp])) t
inductive LSt where
 |ready
 |busy
 |done (c:Code)
def LSt.state:LSt→LoopState
 | .ready=> .ready
 | .busy=> .busy
 | .done _=> .done
def LSt.pending:LSt→Option Code
 | .done c=>some c
 |_=>none
inductive Ob where
 |arr (sz:Nat) (es:List AV)
 |map (es:List (D×D×Nat)) (clock:Nat)
 |lp (fno N:Nat) (env:List (Nat×AV)) (ps:Array Nat) (Ua bd:Code) (st:LSt)
 |itr (km vm since:Nat) (seen:List Nat)
 |typ (k v:Nat) (T:TypeId) (n:Option Nat)
 deriving Inhabited
def Ob.flex:Ob→Bool
 | .arr _ _=>true
 | .typ _ _ _ _=>true
 |_=>false
def jw:Option Ob→Bool
 |some o=> !o.flex
 |none=>false
theorem iw{o:Option Ob}(h:jw o=true):∃x,o=some x∧x.flex=false:=by
 cases o with
 |none=>cases h
 |some x=>exact⟨x,rfl,by simpa [jw]using h⟩
theorem jz:∀o:Ob,o.flex=false→none≠some o:=fun _ _ e=>by cases e
theorem DU{k v:Nat}{T:TypeId}{n:Option Nat}:∀o:Ob,o.flex=false→some (.typ k v T n)≠some o:=fun o h e=>by cases e;cases h
theorem kH{sz:Nat}{es:List AV}:∀o:Ob,o.flex=false→some (.arr sz es)≠some o:=fun o h e=>by cases e;cases h
structure aN where
 ver:Nat
 ob:Option Ob
 deriving Inhabited
abbrev ab:=Nat→aN
structure t7 where
 b:Nat
 sz:Nat
 cap:Nat
 fr:Nat
 ty:TypeId
structure Gh where
 imm:Nat→Nat→Prop
 loc:Nat→Nat→Option t7
 lim:Nat→Nat
 mloc:Nat→Nat→Option Nat
inductive DRep(imm:Nat→Nat→Prop)(w:World):D→Value→Prop
 |bool (b:Bool):DRep imm w (.bool b) (.bool b)
 |int (k:IntKind) (n:Int):DRep imm w (.int k n) (.int k n)
 |str (l:List UInt8) (s:ByteArray) (h:s.data.toList=l):DRep imm w (.str l) (.string s)
 |nilp:DRep imm w .nilp (.pointer none)
 |nili:DRep imm w .nili .nilIface
 |ifc (t:TypeId) (v:Value):DRep imm w .ifc (.iface t v)
 |agg (cs:List D) (vs:Array Value) (hl:vs.size=cs.length) (h1:∀c∈cs,c.one=true)
     (h:∀(i:Nat)(c:D)(u:Value),cs[i]? =some c→vs[i]? =some u→DRep imm w c u):DRep imm w (.agg cs) (.agg vs)
 |roNil (ao:Option Addr) (c:Nat):DRep imm w (.ro []) (.slice ao 0 c)
 |ro (l:List D) (b o c sz:Nat) (U:Nat→Value) (hcap:l.length≤c) (hsz:∀e∈l,e.cells.length=sz) (h1:∀e∈D.flat l,e.one=true)
     (hi:∀(t:Nat)(c:D),(D.flat l)[t]? =some c→imm b (o+t)) (hc:∀(t:Nat)(c:D),(D.flat l)[t]? =some c→w.cell? ⟨b,o+t,none⟩=some (U t))
     (hr:∀(t:Nat)(c:D),(D.flat l)[t]? =some c→DRep imm w c (U t)):DRep imm w (.ro l) (.slice (some ⟨b,o,none⟩) l.length c)
 |rp (cs:List D) (b o:Nat) (U:Nat→Value) (h1:∀e∈cs,e.one=true) (hi:∀(t:Nat)(c:D),cs[t]? =some c→imm b (o+t)) (hc:∀(t:Nat)(c:D),cs[t]? =some c→w.cell? ⟨b,o+t,none⟩=some (U t))
     (hr:∀(t:Nat)(c:D),cs[t]? =some c→DRep imm w c (U t)):DRep imm w (.rp cs) (.pointer (some ⟨b,o,none⟩))
inductive Rep(G:Gh)(w:World):AV→Value→Prop
 |junk (v:Value):Rep G w .junk v
 |d {x:D} {v:Value} (h:DRep G.imm w x v):Rep G w (.d x) v
 |nils:Rep G w .nils (.slice none 0 0)
 |es (ao:Option Addr):Rep G w .es (.slice ao 0 0)
 |vecNil (k ver sz:Nat):Rep G w (.vec k ver sz []) (.slice none 0 0)
 |vec (k ver:Nat) (l:List D) (L:t7) (hL:G.loc k ver=some L) (hfr:L.fr=l.length*L.sz) (hlen:l.length≤L.cap) (hsz:∀e∈l,e.cells.length=L.sz)
     (h:DRep G.imm w (.ro l) (.slice (some ⟨L.b,0,none⟩) l.length L.cap)):Rep G w (.vec k ver L.sz l) (.slice (some ⟨L.b,0,none⟩) l.length L.cap)
 |slNil (k ver sz:Nat):Rep G w (.sl k ver 0 0 sz) (.slice none 0 0)
 |sl (k ver off len c:Nat) (L:t7) (hL:G.loc k ver=some L) (hc:off+c≤L.cap) (hlen:len≤c):Rep G w (.sl k ver off len L.sz) (.slice (some ⟨L.b,off*L.sz,none⟩) len c)
 |ptr (k ver i off:Nat) (L:t7) (hL:G.loc k ver=some L):Rep G w (.ptr k ver i off L.sz) (.pointer (some ⟨L.b,i*L.sz+off,none⟩))
 |agg (cs:List AV) (vs:Array Value) (hl:vs.size=cs.length) (h1:∀(i:Nat)(u:Value),vs[i]? =some u→u.oneCell'=true)
     (h:∀(i:Nat)(c:AV)(u:Value),cs[i]? =some c→vs[i]? =some u→Rep G w c u):Rep G w (.agg cs) (.agg vs)
 |tup (cs:List AV) (vs:Array Value) (hl:vs.size=cs.length)
     (h:∀(i:Nat)(c:AV)(u:Value),cs[i]? =some c→vs[i]? =some u→Rep G w c u):Rep G w (.tup cs) (.tuple vs)
 |fn (f:Nat) (caps:List AV) (vs:Array Value) (hl:vs.size=caps.length)
     (h:∀(i:Nat)(c:AV)(u:Value),caps[i]? =some c→vs[i]? =some u→Rep G w c u):Rep G w (.fn f caps) (.func (.func f) #[] vs)
 |mp (k ver b:Nat) (hL:G.mloc k ver=some b):Rep G w (.mp k ver) (.map (some b))
 |yld (k ver b:Nat) (hL:G.mloc k ver=some b):Rep G w (.yld k ver) (.func (.yield b) #[] #[])
 |itr (k ver b:Nat) (hL:G.mloc k ver=some b):Rep G w (.itr k ver) (.pointer (some ⟨b,0,none⟩))
 |iv (t:TypeId) {x:AV} (v:Value) (h:Rep G w x v):Rep G w (.iv t x) (.iface t v)
 |vp (k ver:Nat) (l:List D) (L:t7) (hL:G.loc k ver=some L) (h1:L.sz=1) (hlen:l.length≤L.cap)
     (h:DRep G.imm w (.ro l) (.slice (some ⟨L.b,0,none⟩) l.length L.cap)):Rep G w (.vp k ver l) (.pointer (some ⟨L.b,0,none⟩))
theorem DRep.mono{imm imm':Nat→Nat→Prop}{w w':World}{x:D}{v:Value}(h:DRep imm w x v)(hi:∀b o,imm b o→imm' b o)
    (hw:∀b o,imm b o→w'.cell? ⟨b,o,none⟩=w.cell? ⟨b,o,none⟩):DRep imm' w' x v:=by
 induction h with
 |bool b=>exact .bool b
 |int k n=>exact .int k n
 |str l s h=>exact .str l s h
 |nilp=>exact .nilp
 |nili=>exact .nili
 |ifc t v=>exact .ifc t v
 |agg cs vs hl h1 _ ih=>exact .agg cs vs hl h1 ih
 |roNil ao c=>exact .roNil ao c
 |ro l b o c sz U hcap hsz h1 him hc _ ih=>exact .ro l b o c sz U hcap hsz h1 (fun t c h=>hi _ _ (him t c h)) (fun t c h=>(hw _ _ (him t c h)).trans (hc t c h)) ih
 |rp cs b o U h1 him hc _ ih=>exact .rp cs b o U h1 (fun t c h=>hi _ _ (him t c h)) (fun t c h=>(hw _ _ (him t c h)).trans (hc t c h)) ih
theorem DRep.oneCell{imm:Nat→Nat→Prop}{w:World}{x:D}{v:Value}(h:DRep imm w x v)(h1:x.one=true):v.oneCell'=true:=by
 cases h<;>first|rfl|(simp[D.one]at h1)
def mQ:Obj→Bool
 | .loop _=>true
 | .deferred _=>true
 | .mapIter _ _ _ _=>true
 |_=>false
def nr:Obj→Bool
 | .loop _=>true
 | .map _ _=>true
 | .mapIter _ _ _ _=>true
 |_=>false
def jo:Obj→Obj→Prop
 | .loop _,o'=>∃r,o'= .loop r
 | .mapIter _ _ _ _,o'=>∃m s q c,o'= .mapIter m s q c
 |o,o'=>o'=o
theorem eu(o:Obj):jo o o:=by cases o<;>first|rfl|exact⟨_,rfl⟩|exact⟨_,_,_,_,rfl⟩
theorem vN{a b c:Obj}(h:jo a b)(k:jo b c):jo a c:=by
 cases a with
 |loop r=>obtain⟨r',rfl⟩:=h;exact k
 |mapIter _ _ _ _=>obtain⟨_,_,_,_,rfl⟩:=h;exact k
 |_=>cases h;exact k
theorem CB{a b:Obj}(h:jo a b)(k:mQ a=true):mQ b=true:=by
 cases a with
 |loop r=>obtain⟨r',rfl⟩:=h;rfl
 |mapIter _ _ _ _=>obtain⟨_,_,_,_,rfl⟩:=h;rfl
 |_=>cases h;exact k
structure Ext(G:Gh)(w:World)(G':Gh)(w':World):Prop where
 imm:∀b o,G.imm b o→G'.imm b o
 loc:∀k v L,G.loc k v=some L→G'.loc k v=some L
 cell:∀b o,G.imm b o→w'.cell? ⟨b,o,none⟩=w.cell? ⟨b,o,none⟩
 size:w.heap.size≤w'.heap.size
 lim:∀k,G.lim k≤G'.lim k
 nloc:∀k v,v≤G.lim k→G.loc k v=none→G'.loc k v=none
 mloc:∀k v b,G.mloc k v=some b→G'.mloc k v=some b
 kept:∀(b:Nat)(o:Obj),mQ o=true→w.heap[b]? =some o→∃o',w'.heap[b]? =some o'∧jo o o'
theorem Ext.refl(G:Gh)(w:World):Ext G w G w:=⟨fun _ _ h=>h,fun _ _ _ h=>h,fun _ _ _=>rfl,Nat.le_refl _,fun _=>Nat.le_refl _,fun _ _ _ h=>h,fun _ _ _ h=>h,fun _ o _ h=>⟨o,h,eu o⟩⟩
theorem Ext.trans{G G' G'':Gh}{w w' w'':World}(h:Ext G w G' w')(k:Ext G' w' G'' w''):Ext G w G'' w'':=
 ⟨fun b o x=>k.imm _ _ (h.imm _ _ x),fun a v L x=>k.loc _ _ _ (h.loc _ _ _ x),fun b o x=>(k.cell _ _ (h.imm _ _ x)).trans (h.cell _ _ x),Nat.le_trans h.size k.size,fun a=>Nat.le_trans (h.lim a) (k.lim a),
  fun a v hv x=>k.nloc _ _ (Nat.le_trans hv (h.lim a)) (h.nloc _ _ hv x),fun a v b x=>k.mloc _ _ _ (h.mloc _ _ _ x),fun b o hb x=>by
   obtain⟨o1,x1,t1⟩:=h.kept b o hb x;obtain⟨o2,x2,t2⟩:=k.kept b o1 (CB t1 hb) x1;exact⟨o2,x2,vN t1 t2⟩⟩
theorem Rep.mono{G G':Gh}{w w':World}{x:AV}{v:Value}(h:Rep G w x v)(e:Ext G w G' w'):Rep G' w' x v:=by
 induction h with
 |junk v=>exact .junk v
 |d h=>exact .d (h.mono e.imm e.cell)
 |nils=>exact .nils
 |es ao=>exact .es ao
 |vecNil k ver sz=>exact .vecNil k ver sz
 |vec k ver l L hL hfr hlen hsz h=>exact .vec k ver l L (e.loc _ _ _ hL) hfr hlen hsz (h.mono e.imm e.cell)
 |slNil k ver sz=>exact .slNil k ver sz
 |sl k ver off len c L hL hc hlen=>exact .sl k ver off len c L (e.loc _ _ _ hL) hc hlen
 |ptr k ver i off L hL=>exact .ptr k ver i off L (e.loc _ _ _ hL)
 |agg cs vs hl h1 _ ih=>exact .agg cs vs hl h1 ih
 |tup cs vs hl _ ih=>exact .tup cs vs hl ih
 |fn f caps vs hl _ ih=>exact .fn f caps vs hl ih
 |mp k ver b hL=>exact .mp k ver b (e.mloc _ _ _ hL)
 |yld k ver b hL=>exact .yld k ver b (e.mloc _ _ _ hL)
 |itr k ver b hL=>exact .itr k ver b (e.mloc _ _ _ hL)
 |iv t v _ ih=>exact .iv t v ih
 |vp k ver l L hL h1 hlen h=>exact .vp k ver l L (e.loc _ _ _ hL) h1 hlen (h.mono e.imm e.cell)
theorem Rep.oneCell{G:Gh}{w:World}{x:AV}{v:Value}(h:Rep G w x v)(h1:x.one=true):v.oneCell'=true:=by
 cases h with
 |d h=>exact h.oneCell (by cases h<;>simp_all [AV.one,D.one])
 |_=>first|rfl|(simp[AV.one]at h1)
theorem Rep.cells{G:Gh}{w:World}{x:AV}{v:Value}(h:Rep G w x v)(hs:x.stor=true):
    v.cells.size=x.cells.length∧(∀u∈v.cells.toList,u.oneCell'=true)∧∀(i:Nat)(c:AV)(u:Value),x.cells[i]? =some c→v.cells[i]? =some u→Rep G w c u:=by
 have single:∀(y:AV)(u:Value),Rep G w y u→u.oneCell'=true→y.cells=[y]→u.cells= #[u]→
     u.cells.size=y.cells.length∧(∀t∈u.cells.toList,t.oneCell'=true)∧∀(i:Nat)(c:AV)(t:Value),y.cells[i]? =some c→u.cells[i]? =some t→Rep G w c t:=by
  intro y u hr h1 hy hu;rw[hy,hu];refine⟨rfl,fun t ht=> ?_,fun i c t hc ht=> ?_⟩
  ·simp at ht;subst ht;exact h1
  ·cases i with
   |zero=>simp at hc ht;subst hc;subst ht;exact hr
   |succ i=>simp at hc
 cases h with
 |junk=>simp[AV.stor]at hs
 |tup=>simp[AV.stor]at hs
 |d h=>
  cases h with
  |agg cs vs hl h1 h=>
   refine⟨by simp[Value.cells,AV.cells,hl],fun u hu=> ?_,fun i c u hc hu=> ?_⟩
   ·simp only[Value.cells,Array.mem_toList_iff]at hu
    obtain⟨i,hi,rfl⟩:=Array.mem_iff_getElem.1 hu;have hc:cs[i]? =some (cs[i]'(by omega)):=List.getElem?_eq_getElem _;exact(h i _ _ hc (Array.getElem?_eq_getElem hi)).oneCell (h1 _ (List.getElem_mem _))
   ·simp only[AV.cells,List.getElem?_map,Option.map_eq_some_iff]at hc
    obtain⟨c',hc',rfl⟩:=hc;exact .d (h i c' u hc' hu)
  |bool b=>exact single _ _ (.d (.bool b)) rfl rfl rfl
  |int k n=>exact single _ _ (.d (.int k n)) rfl rfl rfl
  |str l s h=>exact single _ _ (.d (.str l s h)) rfl rfl rfl
  |nilp=>exact single _ _ (.d .nilp) rfl rfl rfl
  |nili=>exact single _ _ (.d .nili) rfl rfl rfl
  |ifc t v=>exact single _ _ (.d (.ifc t v)) rfl rfl rfl
  |roNil ao c=>exact single _ _ (.d (.roNil ao c)) rfl rfl rfl
  |ro l b o c sz U hcap hsz h1 hi hc hr=>exact single _ _ (.d (.ro l b o c sz U hcap hsz h1 hi hc hr)) rfl rfl rfl
  |rp cs b o U h1 hi hc hr=>exact single _ _ (.d (.rp cs b o U h1 hi hc hr)) rfl rfl rfl
 |nils=>exact single _ _ .nils rfl rfl rfl
 |es ao=>exact single _ _ (.es ao) rfl rfl rfl
 |vecNil k ver sz=>exact single _ _ (.vecNil k ver sz) rfl rfl rfl
 |vec k ver l L hL hfr hlen hsz h=>exact single _ _ (.vec k ver l L hL hfr hlen hsz h) rfl rfl rfl
 |slNil k ver sz=>exact single _ _ (.slNil k ver sz) rfl rfl rfl
 |sl k ver off len c L hL hc hlen=>exact single _ _ (.sl k ver off len c L hL hc hlen) rfl rfl rfl
 |ptr k ver i off L hL=>exact single _ _ (.ptr k ver i off L hL) rfl rfl rfl
 |agg cs vs hl h1 h=>
  refine⟨by simp[Value.cells,AV.cells,hl],fun u hu=> ?_,fun i c u hc hu=>h i c u hc hu⟩;simp only[Value.cells,Array.mem_toList_iff]at hu;obtain⟨i,hi,rfl⟩:=Array.mem_iff_getElem.1 hu;exact h1 i _ (Array.getElem?_eq_getElem hi)
 |fn f caps vs hl h=>exact single _ _ (.fn f caps vs hl h) rfl rfl rfl
 |mp k ver b hL=>exact single _ _ (.mp k ver b hL) rfl rfl rfl
 |yld k ver b hL=>exact single _ _ (.yld k ver b hL) rfl rfl rfl
 |itr k ver b hL=>exact single _ _ (.itr k ver b hL) rfl rfl rfl
 |iv t v h=>exact single _ _ (.iv t v h) rfl rfl rfl
 |vp k ver l L hL h1 hlen h=>exact single _ _ (.vp k ver l L hL h1 hlen h) rfl rfl rfl
def frz:AV→AV
 | .vec _ _ _ l=> .d (.ro l)
 |x=>x
theorem Rep.frz{G:Gh}{w:World}{x:AV}{v:Value}(h:Rep G w x v):Rep G w (frz x) v:=by
 cases h with
 |vecNil k ver sz=>exact .d (.roNil none 0)
 |vec k ver l L hL hfr hlen hsz h=>exact .d h
 |junk=>exact .junk _
 |d h=>exact .d h
 |nils=>exact .nils
 |es ao=>exact .es ao
 |slNil k ver sz=>exact .slNil k ver sz
 |sl k ver off len c L hL hc hlen=>exact .sl k ver off len c L hL hc hlen
 |ptr k ver i off L hL=>exact .ptr k ver i off L hL
 |agg cs vs hl h1 h=>exact .agg cs vs hl h1 h
 |tup cs vs hl h=>exact .tup cs vs hl h
 |fn f caps vs hl h=>exact .fn f caps vs hl h
 |mp k ver b hL=>exact .mp k ver b hL
 |yld k ver b hL=>exact .yld k ver b hL
 |itr k ver b hL=>exact .itr k ver b hL
 |iv t v h=>exact .iv t v h
 |vp k ver l L hL h1 hlen h=>exact .vp k ver l L hL h1 hlen h
theorem bJ{α β:Type}(f:α→List β)(sz:Nat):∀(l:List α),(∀e∈l,(f e).length=sz)→∀i j,j<sz→(l.flatMap f)[i*sz+j]? =(l[i]?).bind fun e=>(f e)[j]?
 |[],_,i,j,_=>by simp
 |e::l,h,i,j,hj=>by
  have he:=h e (by simp);cases i with
  |zero=>
   simp only[List.flatMap_cons,Nat.zero_mul,Nat.zero_add,List.getElem?_cons_zero,Option.bind_some];rw[List.getElem?_append_left (by omega)]
  |succ i=>
   simp only[List.flatMap_cons,List.getElem?_cons_succ];rw[List.getElem?_append_right (by rw[he,Nat.succ_mul];omega),he];have:(i+1)*sz+j-sz=i*sz+j:=by rw[Nat.succ_mul];omega
   rw[this];exact bJ f sz l (fun e' h'=>h e' (by simp[h'])) i j hj
theorem dH{α β:Type}(f:α→List β)(sz:Nat):∀(l:List α),(∀e∈l,(f e).length=sz)→(l.flatMap f).length=l.length*sz
 |[],_=>by simp
 |e::l,h=>by
  simp only[List.flatMap_cons,List.length_append,List.length_cons,Nat.succ_mul];rw[h e (by simp),dH f sz l (fun e' h'=>h e' (by simp[h']))];omega
def Qu(G:Gh)(B:Nat)(w:World)(L:t7):Prop:=
 B≤L.b∧(∃arr e,w.heap[L.b]? =some (.cells arr e (0,0))∧arr.size=L.cap*L.sz∧e=L.ty)∧(∀o,G.imm L.b o→o<L.fr)
def ObRep(G:Gh)(w:World)(k ver:Nat):Ob→Prop
 | .arr sz es=>(es=[]∧G.loc k ver=none)∨∃L,G.loc k ver=some L∧L.sz=sz∧L.fr=0∧es.length≤L.cap∧(∀e∈es,e.cells.length=sz)∧(sz=1→∀e∈es,e.lone=true)∧
     ∀t c,(AV.flat es)[t]? =some c→∃u,w.cell? ⟨L.b,t,none⟩=some u∧u.oneCell'=true∧Rep G w c u
 | .map _ _=>True
 | .lp _ _ _ _ _ _ _=>True
 | .itr _ _ _ _=>True
 | .typ k' v' T n=>v'≤G.lim k'∧∀L,G.loc k' v'=some L→L.ty=T∧∀m,n=some m→L.cap*L.sz=m
inductive CD where
 |indexByte
 |same
class aJ where
 tab:Nat→Option (List D)
 once:Option Nat
 ext:Nat→Option CD:=fun _=>none
variable[aJ]
def Globs(imm:Nat→Nat→Prop)(w:World):Prop:=∀g cs,aJ.tab g=some cs→DRep imm w (.rp cs) (.pointer (some ⟨g,0,none⟩))
theorem Globs.mono{imm imm':Nat→Nat→Prop}{w w':World}(h:Globs imm w)(hi:∀b o,imm b o→imm' b o)(hw:∀b o,imm b o→w'.cell? ⟨b,o,none⟩=w.cell? ⟨b,o,none⟩):Globs imm' w':=fun g cs hg=>(h g cs hg).mono hi hw
def CE(imm:Nat→Nat→Prop)(w:World)(b:Nat)(es:List (D×D×Nat))(c:Nat):Prop:=
 ∃ms:Array MapEntry,w.heap[b]? =some (.map ms c)∧ms.size=es.length∧∀(i:Nat)(e:D×D×Nat)(m:MapEntry),es[i]? =some e→ms[i]? =some m→DRep imm w e.1 m.key∧DRep imm w e.2.1 m.val∧m.born=e.2.2
structure LRep(G:Gh)(w:World)(N:Nat)(env:List (Nat×AV))(ps:Array Nat)(Ua bd:Code)(st:LSt)(r:Loop):Prop where
 size:r.tmps.size=N
 rep:∀t,t<N→Rep G w (an env t) (r.tmps.getD t undef)
 out:∀t,N≤t→an env t= .junk
 ps:r.params=ps
 Ua:r.assign=Ua
 bd:r.body=bd
 state:r.state=st.state
 pending:r.pending=st.pending
theorem LRep.mono{G G':Gh}{w w':World}{N:Nat}{env:List (Nat×AV)}{ps:Array Nat}{Ua bd:Code}{st:LSt}{r:Loop}(h:LRep G w N env ps Ua bd st r)(e:Ext G w G' w'):LRep G' w' N env ps Ua bd st r:=
 ⟨h.size,fun t ht=>(h.rep t ht).mono e,h.out,h.ps,h.Ua,h.bd,h.state,h.pending⟩
structure MR(G:Gh)(B:Nat)(h:ab)(w:World):Prop where
 low:∀k v b,G.mloc k v=some b→B≤b∧(∃o,nr o=true∧w.heap[b]? =some o)∧v≤(h k).ver
 inj:∀k k' b,jw (h k).ob=true→jw (h k').ob=true→G.mloc k (h k).ver=some b→G.mloc k' (h k').ver=some b→k=k'
 obj:∀k es c,(h k).ob=some (.map es c)→∃b,G.mloc k (h k).ver=some b∧CE G.imm w b es c
 loops:∀k fno N env ps Ua bd st,(h k).ob=some (.lp fno N env ps Ua bd st)→∃b r,G.mloc k (h k).ver=some b∧w.heap[b]? =some (.loop r)∧LRep G w N env ps Ua bd st r
 iters:∀k km vm since seen,(h k).ob=some (.itr km vm since seen)→∃b bm sa c0,G.mloc k (h k).ver=some b∧G.mloc km vm=some bm∧w.heap[b]? =some (.mapIter (some bm) since sa c0)∧sa.toList=seen∧c0=since
 glob:Globs G.imm w
structure HR(G:Gh)(B:Nat)(w0:World)(I0:Nat→Nat→Prop)(h:ab)(w:World):Prop where
 below:Below B w0 w
 bsz:B≤w.heap.size
 immlt:∀b o,G.imm b o→b<w.heap.size
 i0:∀b o,I0 b o→G.imm b o
 immlow:∀b o,G.imm b o→b<B→I0 b o
 fresh:∀k v L,G.loc k v=some L→v≤(h k).ver
 own:∀k L,G.loc k (h k).ver=some L→Qu G B w L
 dis:∀k k' L L',G.loc k (h k).ver=some L→G.loc k' (h k').ver=some L'→L.b=L'.b→k=k'
 objs:∀k ob,(h k).ob=some ob→ObRep G w k (h k).ver ob
 lim:∀k,G.lim k=(h k).ver
 maps:MR G B h w
theorem MR.step{G G':Gh}{B:Nat}{h h':ab}{w w':World}(hm:MR G B h w)(e:Ext G w G' w')(hl:G'.mloc=G.mloc)(hb:∀(b:Nat) o,nr o=true→w.heap[b]? =some o→w'.heap[b]? =some o)
    (hv:∀k,(h k).ver≤(h' k).ver) (ho:∀(k:Nat)(o:Ob),o.flex=false→(h' k).ob=some o→h' k=h k):MR G' B h' w':=by
 refine⟨fun k v b hk=> ?_,fun k k' b l l' hk hk'=> ?_,fun k es c hk=> ?_,fun k fno N env ps Ua bd st hk=> ?_,fun k km vm since seen hk=> ?_,hm.glob.mono e.imm e.cell⟩
 ·rw[hl]at hk
  obtain⟨h1,⟨o,ho,h2⟩,h3⟩:=hm.low k v b hk;exact⟨h1,⟨o,ho,hb _ _ ho h2⟩,Nat.le_trans h3 (hv k)⟩
 ·obtain⟨o,l,f⟩:=iw l
  obtain⟨o',l',f'⟩:=iw l';have e1:=ho k o f l;have e2:=ho k' o' f' l';rw[hl,e1]at hk;rw[hl,e2]at hk';exact hm.inj k k' b (by rw[←e1,l];simp[jw,f]) (by rw[←e2,l'];simp[jw,f']) hk hk'
 ·have he:=ho k _ rfl hk
  rw[he]at hk ⊢;obtain⟨b,h1,ms,h2,h3,h4⟩:=hm.obj k es c hk;refine⟨b,by rw[hl];exact h1,ms,hb _ _ rfl h2,h3,fun i x m hx hmm=> ?_⟩;obtain⟨g1,g2,g3⟩:=h4 i x m hx hmm;exact⟨g1.mono e.imm e.cell,g2.mono e.imm e.cell,g3⟩
 ·have he:=ho k _ rfl hk
  rw[he]at hk ⊢;obtain⟨b,r,h1,h2,h3⟩:=hm.loops k fno N env ps Ua bd st hk;exact⟨b,r,by rw[hl];exact h1,hb _ _ rfl h2,h3.mono e⟩
 ·have he:=ho k _ rfl hk
  rw[he]at hk ⊢;obtain⟨b,bm,sa,c0,h1,h2,h3,h4⟩:=hm.iters k km vm since seen hk;exact⟨b,bm,sa,c0,by rw[hl];exact h1,by rw[hl];exact h2,hb _ _ rfl h3,h4⟩
theorem HR.blt{G:Gh}{B:Nat}{w0 w:World}{I0:Nat→Nat→Prop}{h:ab}(hr:HR G B w0 I0 h w){k:Nat}{L:t7}(hL:G.loc k (h k).ver=some L):L.b<w.heap.size:=by
 obtain⟨_,⟨arr,e,hb,_⟩,_⟩:=hr.own k L hL;exact(Array.getElem?_eq_some_iff.1 hb).1
end Go.Avm
namespace Go.Avm
variable[aJ]
structure Out where
 val:AV
 wr:List (Nat×aN):=[]
 rd:List Nat:=[]
 ob:List (Nat×List D×List D):=[]
inductive Obl where
 |data (c:Nat×List D×List D)
 |heap (f:Nat) (args:List AV) (h:ab) (rs:List AV) (h':ab)
 |frame (f:Nat) (args:List AV) (pre:List (Nat×aN)) (rs:List AV) (post:List (Nat×aN))
 |yield (k v:Nat) (args:List AV) (h:ab) (rs:List AV) (h':ab)
 |exact(f:Nat) (args:List AV) (pre:List Nat) (h0:ab) (rs:List AV) (post:List Nat) (h1:ab)
inductive SS where
 |heap (rs:List AV) (h':ab) (tk:List Nat)
 |frame (pre:List (Nat×aN)) (rs:List AV) (post:List (Nat×aN))
 |exact(pre:List Nat) (h0:ab) (rs:List AV) (post:List Nat) (h1:ab)
structure iA where
 ret:Nat→List D:=fun _=>[]
 obm:Nat→Bool:=fun _=>false
 hc:Nat→Option SS:=fun _=>none
 base:Nat→Nat:=fun _=>0
 deriving Inhabited
def cA(P:Program)(t:TypeId):Bool:=(P.info? t).isSome
def eg(P:Program)(t:TypeId):Option Value:=(P.info? t).bind (·.zero)
def ml(P:Program)(t:TypeId):Option Bool:=(P.underlying t).map fun| .struct _| .array _ _=>true|_=>false
def CF:Value→AV
 | .bool b=> .d (.bool b)
 | .int k n=> .d (.int k n)
 | .string s=> .d (.str s.data.toList)
 | .pointer none=> .d .nilp
 | .nilIface=> .d .nili
 | .slice none 0 0=> .nils
 |_=> .junk
def nt:List AV→Option (List D)
 |[]=>some []
 | .d x::r=>if x.one then (nt r).map (x:: ·)else none
 |_::_=>none
def iB(cs:List AV):AV:=match nt cs with
 |some ds=> .d (.agg ds)
 |none=> .agg cs
def kI(cs:Array Value):Option (List AV):=if cs.toList.all (·.oneCell')then some (cs.toList.map CF)else none
def HF:Value→AV
 | .agg cs=>match kI cs with
  |some l=>iB l
  |none=> .junk
 |v=>CF v
def opd(env:Nat→AV):Operand→AV
 | .tmp t=>env t
 | .const v=>HF v
 | .func f=> .fn f []
 | .global g=>match aJ.tab g with
  |some cs=> .d (.rp cs)
  |none=> .junk
def fI(f:AV→Option (D×List Nat)):List AV→Option (List D×List Nat)
 |[]=>some ([],[])
 |x::r=>match f x,fI f r with
  |some a,some b=>some (a.1::b.1,a.2 ++b.2)
  |_,_=>none
def view:Nat→ab→AV→Option (D×List Nat)
 |0,_,_=>none
 |n+1,h,x=>
  match x with
  | .d y=>some (y,[])
  | .nils| .es=>some (.ro [],[])
  | .vec _ _ _ l=>some (.ro l,[])
  | .sl k v off len _=>
   match (h k).ob with
   |some (.arr _ es)=>if (h k).ver=v∧off+len≤es.length then (fI (view n h) ((es.drop off).take len)).map fun r=>(.ro r.1,k::r.2)else none
   |_=>none
  | .ptr k v i off _=>
   match (h k).ob with
   |some (.arr sz es)=>
    if (h k).ver=v∧sz=1∧off=0∧i≤es.length then (fI (view n h) (es.drop i)).map fun r=>(.rp r.1,k::r.2)else none
   |_=>none
  | .agg cs=>(fI (view n h) cs).map fun r=>(.agg r.1,r.2)
  |_=>none
abbrev view.go(n:Nat)(h:ab)(l:List AV):Option (List D×List Nat):=fI (view n h) l
def vO:AV→Option D
 | .d y=>some y
 | .nils| .es=>some (.ro [])
 | .vec _ _ _ l=>some (.ro l)
 | .agg cs=>(go cs).map .agg
 |_=>none
where go:List AV→Option (List D)
 |[]=>some []
 | .d y::r=>if y.one then (go r).map (y:: ·)else none
 | .nils::r| .es::r=>(go r).map (.ro []:: ·)
 | .vec _ _ _ l::r=>(go r).map (.ro l:: ·)
 |_::_=>none
def qu:List AV→Option (List D)
 |[]=>some []
 |x::r=>match vO x,qu r with
  |some a,some b=>some (a::b)
  |_,_=>none
def D.scal:D→Bool
 | .bool _| .int _ _| .str _| .nilp| .nili| .ifc=>true
 |_=>false
def kill(h:ab)(ks:List Nat):List (Nat×aN):=ks.map fun k=>(k,⟨(h k).ver+1,none⟩)
def jA:List D→AV
 |[x]=> .d x
 |l=> .tup (l.map .d)
def ii(h:ab)(a:AV)(n:Nat):Option (List AV×List Nat):=
 match a with
 | .d (.rp cs)=>if n≤cs.length then some ((cs.take n).map .d,[])else none
 | .ptr k v i off _=>
  match (h k).ob with
  |some (.arr sz es)=>
   if (h k).ver=v then
    if sz=1 then (if off=0∧i+n≤es.length then some ((es.drop i).take n,[k])else none)
    else match es[i]? with
     |some e=>if off+n≤sz then some ((e.cells.drop off).take n,[k])else none
     |none=>none
   else none
  |_=>none
 |_=>none
def fq(P:Program)(t:TypeId)(a:AV)(h:ab):Option Out:=
 match ml P t with
 |some true=>(ii h a (P.cellsOf t)).map fun r=>{val:=iB r.1,rd:=r.2}
 |some false=>match a with
  | .d (.rp (c::_))=>some {val:= .d c}
  | .ptr k v i off _=>
   match (h k).ob with
   |some (.arr sz es)=>
    if (h k).ver=v then
     if sz=1 then (if off=0 then (es[i]?).map fun x=>{val:=x,rd:=[k]}else none)
     else match es[i]? with
      |some e=>(e.cells[off]?).map fun x=>{val:=x,rd:=[k]}
      |none=>none
    else none
   |_=>none
  |_=>none
 |none=>none
def eF(P:Program)(t:TypeId)(a x:AV)(h:ab):Option Out:=
 match a with
 | .ptr k v i off _=>
  match (h k).ob with
  |some (.arr sz es)=>
   if (h k).ver=v∧x.stor=true∧x.cells.length=P.cellsOf t∧cA P t=true then
    if sz=1 then
     if off=0 then
      (if x.one then (if i<es.length then some {val:= .junk,rd:=[k],wr:=[(k,⟨v,some (.arr sz (es.set i x))⟩)]}else none)
       else if i+x.cells.length≤es.length then some {val:= .junk,rd:=[k],wr:=[(k,⟨v,some (.arr sz (es.take i ++x.cells ++es.drop (i+x.cells.length)))⟩)]}else none)
     else none
    else match es[i]? with
     |some e=>
      if off=0∧x.cells.length=sz then some {val:= .junk,rd:=[k],wr:=[(k,⟨v,some (.arr sz (es.set i x))⟩)]}
      else if off+x.cells.length≤sz then some {val:= .junk,rd:=[k],wr:=[(k,⟨v,some (.arr sz (es.set i (iB (e.cells.take off ++x.cells ++e.cells.drop (off+x.cells.length)))))⟩)]}else none
     |none=>none
   else none
  |_=>none
 |_=>none
def newOb(h:ab)(k sz:Nat)(es:List AV):Nat×aN:=(k,⟨(h k).ver+1,some (.arr sz es)⟩)
def mR(P:Program)(t:TypeId):Option (List AV):=(eg P t).bind fun z=>kI z.cells
def fY(P:Program)(t:TypeId)(k:Nat)(h:ab):Option Out:=
 match mR P t with
 |some zs=>some {val:= .ptr k ((h k).ver+1) 0 0 1,rd:=[k],wr:=[newOb h k 1 zs]}
 |none=>none
def kJ(x:AV)(k:Nat)(h:ab):Option Out:=
 if x.stor then some {val:= .ptr k ((h k).ver+1) 0 0 1,rd:=[k],wr:=[newOb h k 1 x.cells]}else none
def ux(place:Nat→Option (Nat×Nat))(cs:List AV):List (Nat×AV)→Option (List AV)
 |[]=>some cs
 |(i,x)::r=>
  match place i with
  |some (off,size)=>if x.stor=true∧x.cells.length=size∧off+x.cells.length≤cs.length then ux place (cs.take off ++x.cells ++cs.drop (off+x.cells.length)) r else none
  |none=>none
def fieldsOf(P:Program)(t:TypeId):Option (Array Field):=match P.underlying t with
 |some (.struct fs)=>some fs
 |_=>none
def ij(P:Program)(t:TypeId)(i:Nat):Option (Nat×Nat):=(fieldsOf P t).bind fun fs=>(fs[i]?).map fun f=>(f.offset,P.cellsOf f.type)
def kK(P:Program)(t:TypeId):Bool:=match fieldsOf P t with
 |some fs=>fs.toList.all fun f=>(P.info? f.type).isSome
 |none=>false
def rD(P:Program)(t:TypeId)(i:Nat):Option Bool:=(fieldsOf P t).bind fun fs=>(fs[i]?).bind fun f=>ml P f.type
def JP(P:Program)(t:TypeId):Option TypeId:=match P.underlying t with
 |some (.array _ e)=>if cA P e=true then some e else none
 |_=>none
def vP(P:Program)(t:TypeId)(parts:List (Nat×AV)):Option Out:=
 match kK P t,mR P t with
 |true,some zs=>(ux (ij P t) zs parts).map fun cs=>{val:=iB cs}
 |false,some zs=>match JP P t with
  |some e=>(ux (fun i=>some (i*P.cellsOf e,P.cellsOf e)) zs parts).map fun cs=>{val:=iB cs}
  |none=>none
 |_,_=>none
def kL:Nat→List (Nat×AV)→Option (List AV)
 |_,[]=>some []
 |n,(i,x)::r=>if i=n then (kL (n+1) r).map (x:: ·)else none
def eG(P:Program)(obm:Bool)(t:TypeId)(len:Nat)(parts:List (Nat×AV))(k:Nat)(h:ab):Option Out:=
 match P.underlying t with
 |some (.slice e)=>
  match kL 0 parts with
  |some xs=>
   if xs.length=len∧len*P.cellsOf e≤65536∧(eg P e).isSome=true∧xs.all (fun x=>x.stor&&x.cells.length==P.cellsOf e)=true then
    if obm then if P.cellsOf e=1∧xs.all AV.lone=false then none else some {val:= .sl k ((h k).ver+1) 0 len (P.cellsOf e),rd:=[k],wr:=[newOb h k (P.cellsOf e) xs]}
    else match view.go 3 h xs with
     |some r=>
      if k∈r.2 then none else
      some {val:= .vec k ((h k).ver+1) (P.cellsOf e) r.1,rd:=k::r.2,wr:=(k,⟨(h k).ver+1,none⟩)::kill h r.2}
     |none=>none
   else none
  |none=>none
 |_=>none
def fJ(P:Program)(t:TypeId)(x ix:AV)(h:ab):Option Out:=
 match P.underlying t,ix with
 |some (.slice e), .d (.int _ i)=>
  match x with
  | .d (.ro l)| .vec _ _ _ l=>
   if 0≤i then match l[i.toNat]? with
    |some y=>if y.cells.length=P.cellsOf e∧cA P e=true then some {val:= .d (.rp y.cells)}else none
    |none=>none
   else none
  | .sl k v off len sz=>if sz=P.cellsOf e∧cA P e=true∧0≤i∧i.toNat<len then some {val:= .ptr k v (off+i.toNat) 0 sz}else none
  |_=>none
 |some (.array n e), .d (.int _ i)=>
  match x with
  | .ptr k v j off sz=>if sz=1∧off=0∧cA P e=true∧0≤i∧i.toNat<n then some {val:= .ptr k v (j+i.toNat*P.cellsOf e) 0 sz}else none
  | .d (.rp cs)=>if cA P e=true∧0≤i∧i.toNat<n then some {val:= .d (.rp (cs.drop (i.toNat*P.cellsOf e)))}else none
  |_=>none
 |_,_=>none
def kM(P:Program)(t:TypeId)(x:AV)(f:Nat)(h:ab):Option Out:=
 match ij P t f,kK P t with
 |some (fo,fs),true=>
  if fs=0 then none else
  match x with
  | .d (.rp cs)=>some {val:= .d (.rp (cs.drop fo))}
  | .ptr k v i off sz=>if sz=1 then (if off=0 then some {val:= .ptr k v (i+fo) 0 sz}else none)else some {val:= .ptr k v i (off+fo) sz}
  |_=>none
 |_,_=>none
def vQ(P:Program)(t:TypeId)(x:AV)(f:Nat):Option Out:=
 match ij P t f,rD P t f,x with
 |some (fo,fs),some true, .d (.agg cs)=>if fo+fs≤cs.length then some {val:= .d (.agg ((cs.drop fo).take fs))}else none
 |some (fo,_),some false, .d (.agg cs)=>(cs[fo]?).map fun c=>{val:= .d c}
 |some (fo,fs),some true, .agg cs=>if fo+fs≤cs.length then some {val:=iB ((cs.drop fo).take fs)}else none
 |some (fo,_),some false, .agg cs=>(cs[fo]?).map fun c=>{val:=c}
 |_,_,_=>none
def Bg(op:BinOp)(x y:AV):Option AV:=
 match x,y with
 | .d (.int k a), .d (.int k' b)=>
  match op with
  | .shl=>if 0≤b then some (.d (.int k (k.wrap (a*2^(min b.toNat k.bits)))))else none
  | .shr=>if 0≤b then some (.d (.int k (a.fdiv (2^(min b.toNat k.bits)))))else none
  |_=>
   if k=k' then
    match op with
    | .add=>some (.d (.int k (k.wrap (a+b))))
    | .sub=>some (.d (.int k (k.wrap (a-b))))
    | .mul=>some (.d (.int k (k.wrap (a*b))))
    | .quo=>if b=0 then none else some (.d (.int k (k.wrap (a.tdiv b))))
    | .rem=>if b=0 then none else some (.d (.int k (a.tmod b)))
    | .and=>some (.d (.int k (k.wrap (BitVec.ofInt k.bits a&&&BitVec.ofInt k.bits b).toNat)))
    | .or=>some (.d (.int k (k.wrap (BitVec.ofInt k.bits a|||BitVec.ofInt k.bits b).toNat)))
    | .xor=>some (.d (.int k (k.wrap (BitVec.ofInt k.bits a^^^BitVec.ofInt k.bits b).toNat)))
    | .eql=>some (.d (.bool (a==b)))
    | .neq=>some (.d (.bool (a !=b)))
    | .lss=>some (.d (.bool (decide (a<b))))
    | .leq=>some (.d (.bool (decide (a≤b))))
    | .gtr=>some (.d (.bool (decide (b<a))))
    | .geq=>some (.d (.bool (decide (b≤a))))
    |_=>none
   else none
 | .d (.str a), .d (.str b)=>
  match op with
  | .add=>if a.length+b.length≤9223372036854775807 then some (.d (.str (a ++b)))else none
  | .eql=>some (.d (.bool (a==b)))
  | .neq=>some (.d (.bool (!(a==b))))
  | .lss=>some (.d (.bool (Op.bytesLess a b)))
  | .leq=>some (.d (.bool (Op.bytesLess a b||a==b)))
  | .gtr=>some (.d (.bool (!(Op.bytesLess a b||a==b))))
  | .geq=>some (.d (.bool (!Op.bytesLess a b)))
  |_=>none
 |_,_=>none
def fu:List D→List D→Option Bool
 |[],[]=>some true
 | .int k a::r, .int k' b::s=>if k=k' then (fu r s).map fun t=>decide (a=b)&&t else none
 |_,_=>none
def xx(P:Program)(t:TypeId)(x y:D):Option Bool:=
 match P.underlying t,x,y with
 |some (.int _), .int k a, .int k' b=>if k=k' then some (a==b)else none
 |some .bool, .bool a, .bool b=>some (a==b)
 |some .string, .str a, .str b=>some (a==b)
 |_,_,_=>none
def cY(P:Program):List Field→Nat→List D→List D→Option Bool
 |[],_,[],[]=>some true
 |f::fs,i,x::xs,y::ys=>
  if f.name≠ "_"∧f.offset=i∧ml P f.type=some false then
   match xx P f.type x y,cY P fs (i+1) xs ys with
   |some a,some b=>some (a&&b)
   |_,_=>none
  else none
 |_,_,_,_=>none
def iC(P:Program)(e:TypeId):List D→List D→Option Bool
 |[],[]=>some true
 |x::xs,y::ys=>match xx P e x y,iC P e xs ys with
  |some a,some b=>some (a&&b)
  |_,_=>none
 |_,_=>none
def KG(P:Program)(t:TypeId)(x y:AV):Option Bool:=
 match P.underlying t,x,y with
 |some .bool, .d (.bool a), .d (.bool b)=>some (a==b)
 |some (.struct fs), .d (.agg xs), .d (.agg ys)=>if P.stoodInHeld t=false∧P.eqGuardType P.depth t=false then cY P fs.toList 0 xs ys else none
 |some (.array n e), .d (.agg xs), .d (.agg ys)=>if xs.length=n∧P.cellsOf e=1∧ml P e=some false∧P.eqGuardType P.depth t=false then iC P e xs ys else none
 |_,_,_=>none
def DV:Operand→Bool
 | .const _=>true
 |_=>false
def DW(P:Program)(e:TypeId)(x y:AV):Option Bool:=
 match x,y with
 | .d .nilp, .d .nilp=>some true
 | .ptr _ _ _ _ _, .d .nilp| .d .nilp, .ptr _ _ _ _ _| .d (.rp _), .d .nilp| .d .nilp, .d (.rp _)=>some false
 | .ptr k v i off sz, .ptr k' v' i' off' sz'=>if k=k'∧v=v'∧i*sz+off=i'*sz'+off'∧cA P e=true∧P.cellsOf e≠0 then some true else none
 |_,_=>none
def Bh(P:Program)(t:TypeId)(ox oy:Operand)(x y:AV):Option Bool:=
 match DV ox||DV oy,P.underlying t,x,y with
 |true,some (.interface _), .d .nili, .d .nili=>some true
 |true,some (.interface _), .d .ifc, .d .nili=>some false
 |_,some (.interface _), .iv _ _, .d .nili=>some false
 |_,some (.pointer e),x,y=>DW P e x y
 |_,_,_,_=>KG P t x y
def KH(op:UnOp)(x:AV):Option AV:=
 match op,x with
 | .not, .d (.bool b)=>some (.d (.bool (!b)))
 | .neg, .d (.int k n)=>some (.d (.int k (k.wrap (0-n))))
 | .xor, .d (.int k n)=>some (.d (.int k (k.wrap (BitVec.ofInt k.bits (if k.signed then -1 else k.max)^^^BitVec.ofInt k.bits n).toNat)))
 |_,_=>none
def oW(P:Program)(src dst:TypeId)(x:AV):Option AV:=
 match P.underlying src,P.underlying dst,x with
 |some (.int _),some (.int k), .d (.int _ n)=>some (.d (.int k (k.wrap n)))
 |_,_,_=>none
def kN(P:Program)(src dst:TypeId)(x:AV):Option Out:=
 match P.underlying src,P.underlying dst,x with
 |some .string,some (.slice e), .d (.str s)=>match P.underlying e with
  |some (.int .u8)=>some {val:= .d (.ro (s.map fun b=> .int .u8 (b.toNat:Int)))}
  |_=>none
 |_,_,_=>none
def mS:List D→Option (List UInt8)
 |[]=>some []
 | .int .u8 n::r=>(mS r).map (UInt8.ofNat n.toNat:: ·)
 |_::_=>none
def oX(P:Program)(src dst:TypeId)(x:AV):Option AV:=
 match P.underlying src,P.underlying dst with
 |some (.slice e),some .string=>match P.underlying e,x with
  |some (.int .u8), .d (.ro l)=>(mS l).map fun b=> .d (.str b)
  |some (.int .u8), .vec _ _ _ l=>(mS l).map fun b=> .d (.str b)
  |_,_=>none
 |_,_=>none
def vR(P:Program)(e:TypeId):Option AV:=
 match eg P e with
 |some (.agg cs)=>(kI cs).map iB
 |some z=>if z.oneCell' then some (CF z)else none
 |none=>none
def da(P:Program)(t:TypeId)(l c:AV)(k:Nat)(h:ab):Option Out:=
 match P.underlying t,l,c with
 |some (.slice e), .d (.int .i64 l), .d (.int .i64 c)=>
  match vR P e with
  |some z=>
   if 0≤l∧l≤c∧c≤1099511627776∧P.bytesOf e≤256∧z.cells.length=P.cellsOf e∧0<P.cellsOf e∧(P.cellsOf e=1→z.lone=true)then
    some {val:= .sl k ((h k).ver+1) 0 l.toNat (P.cellsOf e),rd:=[k],wr:=[newOb h k (P.cellsOf e) (List.replicate l.toNat z)]}
   else none
  |none=>none
 |_,_,_=>none
def dJ(lo:Option AV)(dflt:Nat):Option Nat:=
 match lo with
 |none=>some dflt
 |some (.d (.int _ i))=>if 0≤i then some i.toNat else none
 |_=>none
def jU(P:Program)(t:TypeId)(x:AV)(lo hi mx:Option AV):Option Out:=
 match P.underlying t with
 |some (.slice e)=>
  if cA P e=false then none else
  match mx with
  |none=>
   match x with
   | .d (.ro l)| .vec _ _ _ l=>
    match dJ lo 0,dJ hi l.length with
    |some a,some b=>if a≤b∧b≤l.length∧(a=0∨l.all (fun y=>y.cells.length==P.cellsOf e)=true)then some {val:= .d (.ro ((l.take b).drop a))}else none
    |_,_=>none
   | .nils=>
    match dJ lo 0,dJ hi 0 with
    |some 0,some 0=>some {val:= .nils}
    |_,_=>none
   | .sl k v off len sz=>
    match dJ lo 0,dJ hi len with
    |some a,some b=>if a=0∧b≤len then some {val:= .sl k v off b sz}else none
    |_,_=>none
   |_=>none
  |some m=>
   if dJ lo 0=some 0∧dJ hi 0=some 0∧dJ (some m) 0=some 0∧hi.isSome=true then
    match x with
    | .d (.ro _)| .vec _ _ _ _| .sl _ _ _ _ _| .nils=>some {val:= .es}
    |_=>none
   else none
 |some .string=>
  match x,mx with
  | .d (.str s),none=>
   match dJ lo 0,dJ hi s.length with
   |some a,some b=>if a≤b∧b≤s.length then some {val:= .d (.str ((s.take b).drop a))}else none
   |_,_=>none
  |_,_=>none
 |_=>none
def dR(P:Program)(src dst:TypeId)(x:AV)(h:ab):Option Out:=
 match P.underlying src,x with
 |some (.slice e), .vec k v 1 (y::l)=>
  if src=dst∧(h k).ver=v then match P.underlying e with
   |some (.int .u8)=>some {val:= .d (.ro (y::l)),rd:=[k],wr:=kill h [k]}
   |_=>none
  else none
 |_,_=>none
def DX:AV→Option Nat
 | .d (.ro l)| .vec _ _ _ l=>some l.length
 | .nils| .es=>some 0
 | .sl _ _ _ len _=>some len
 |_=>none
def DY(P:Program)(t:TypeId)(x:AV):Option Out:=
 match P.underlying t with
 |some (.slice _)=>match DX x with
  |some n=>some {val:= .d (.int .i64 (n:Int))}
  |none=>none
 |some .string=>match x with
  | .d (.str s)=>some {val:= .d (.int .i64 (s.length:Int))}
  |_=>none
 |_=>none
def nu(mx:Bool)(x y:AV):Option Out:=
 match x,y with
 | .d (.int k a), .d (.int _ b)=>some {val:= .d (.int k (if mx then (if a<b then b else a)else (if b<a then b else a)))}
 |_,_=>none
def kB(k:Nat):Nat:=k+4611686018427387904
def kO(b:UInt8):D:= .int .u8 (b.toNat:Int)
def kP(h:ab):AV→Option (List D×List Nat)
 | .d (.str s)=>some (s.map kO,[])
 | .d (.ro l)| .vec _ _ _ l=>some (l,[])
 | .nils| .es=>some ([],[])
 | .sl k v off len _=>
  match (h k).ob with
  |some (.arr _ es)=>if (h k).ver=v∧off+len≤es.length then (view.go 2 h ((es.drop off).take len)).bind fun r=>if r.2=[]then some (r.1,[k])else none else none
  |_=>none
 |_=>none
def cN(P:Program)(obm:Bool)(t:TypeId)(s x:AV)(k:Nat)(h:ab):Option Out:=
 match P.underlying t with
 |some (.slice e)=>
  match kP h x,eg P e with
  |some (news,rs),some z=>
   if news.all (fun y=>y.cells.length==P.cellsOf e)=true∧0<P.cellsOf e∧P.bytesOf e≤256∧z.cells.size=P.cellsOf e then
    match s with
    | .nils=>
     if k∈rs∨549755813888<news.length then none else
     if obm then if P.cellsOf e=1∧news.all D.one=false then none else some {val:= .sl k ((h k).ver+1) 0 news.length (P.cellsOf e),rd:=k::rs,wr:=[newOb h k (P.cellsOf e) (news.map .d)]}
     else some {val:= .vec k ((h k).ver+1) (P.cellsOf e) news,rd:=k::rs,wr:=[(k,⟨(h k).ver+1,none⟩)]}
    | .es=>if 549755813888<news.length then none else some {val:= .d (.ro news),rd:=rs}
    | .vec k v sz l=>
     if (h k).ver=v∧(h k).ob.isNone=true∧k∉rs∧sz=P.cellsOf e∧l.length+news.length≤549755813888 then
      some {val:= .vec k (v+1) sz (l ++news),rd:=k::rs,wr:=[(k,⟨v+1,none⟩)]}
     else none
    | .sl k v off len _=>
     match (h k).ob with
     |some (.arr sz es)=>
      if (h k).ver=v∧off=0∧len≤es.length∧sz=P.cellsOf e∧len+news.length≤549755813888∧(sz=1→news.all D.one=true)then
       some {val:= .sl k (v+1) 0 (len+news.length) sz,rd:=k::rs,wr:=[(k,⟨v+1,some (.arr sz (es.take len ++news.map .d))⟩)]}
      else none
     |_=>none
    |_=>none
   else none
  |_,_=>none
 |_=>none
def vS(P:Program)(t t':TypeId):Bool:=t==t'||match P.underlying t' with
 |some .string=>true
 |_=>false
def nA(h:ab)(k v:Nat):Option (TypeId×Option Nat):=match (h (kB k)).ob with
 |some (.typ k' v' T n)=>if k'=k∧v'=v then some (T,n)else none
 |_=>none
def cr(typ:Bool)(T:TypeId)(n:Option Nat)(k v:Nat)(h:ab)(out:Out):Out:=
 if typ=true∧kB k∉out.wr.map (·.1)then {out with rd:=kB k::out.rd,wr:=out.wr ++[(kB k,⟨(h (kB k)).ver,some (.typ k v T n)⟩)]}else out
def AV.isVec:AV→Bool
 | .vec _ _ _ _=>true
 |_=>false
def oY(P:Program)(t:TypeId):Bool:=match P.underlying t with
 |some (.slice e)=>match P.underlying e with
  |some (.int .u8)=>true
  |_=>false
 |_=>false
def Nt(P:Program)(t:TypeId):Bool:=match P.info? t with
 |some i=>match i.desc with
  | .named n _=>n== "strings.Builder"
  |_=>false
 |none=>false
def Nu(P:Program)(t:TypeId):Bool:=Nt P t||match P.underlying t with
 |some (.struct fs)=>fs.toList.any fun f=>Nt P f.type
 |_=>false
def fK(P:Program)(obm:Bool)(t:TypeId)(s x:AV)(k:Nat)(h:ab):Option Out:=
 match cN P obm t s x k h with
 |some out=>match oY P t,P.underlying t,out.val with
  |true,some (.slice e), .vec k' v' _ _=>
   if v'=(h k').ver+1∧(s.isVec=false∨nA h k' (h k').ver=some (e,none))then some (cr true e none k' v' h {out with rd:=k'::kB k'::out.rd})
   else some {out with rd:=k'::kB k'::out.rd}
  |_,_,_=>some out
 |none=>none
def fL(P:Program)(src dst:TypeId)(x:AV)(h:ab):Option Out:=
 match P.underlying src,P.underlying dst,x with
 |some (.pointer t),some .unsafePointer, .ptr k v i off sz=>
  match nA h k v with
  |some (_,some n)=>if (h k).ver=v∧cA P t=true∧P.cellsOf t≠0∧i*sz+off<n then some {val:= .ptr k v i off sz,rd:=[k,kB k]}else none
  |_=>none
 |some .unsafePointer,some (.pointer u), .ptr k v i off sz=>
  match nA h k v with
  |some (T,some n)=>if (h k).ver=v∧cA P u=true∧liesAt P P.depth T (n/P.cellsOf T) (i*sz+off) u 1=true then some {val:= .ptr k v i off sz,rd:=[k,kB k]}else none
  |_=>none
 |_,_,_=>none
def rE(P:Program)(src dst:TypeId)(x:AV)(h:ab):Option Out:=
 match kN P src dst x with
 |some out=>some out
 |none=>match oX P src dst x with
  |some v=>some {val:=v}
  |none=>match oW P src dst x with
   |some v=>some {val:=v}
   |none=>match dR P src dst x h with
    |some out=>some out
    |none=>fL P src dst x h
def kQ(x:AV):Option AV:=
 match x with
 | .vec k v sz (y::l)=>if sz=1 then some (.vp k v (y::l))else none
 | .nils=>some (.d .nilp)
 |_=>none
def rF:List D→Option (List UInt8)
 |[]=>some []
 | .int .u8 n::r=>if n=((UInt8.ofNat n.toNat).toNat:Int)then (rF r).map (UInt8.ofNat n.toNat:: ·)else none
 |_::_=>none
def dp(P:Program)(pt:TypeId)(x n:AV)(h:ab):Option Out:=
 match P.underlying pt,x,n with
 |some (.pointer u), .vp k v l, .d (.int .i64 m)=>
  match nA h k v,rF l with
  |some (T,none),some b=>
   if (h k).ver=v∧T=u∧l≠[]∧m=(l.length:Int)∧P.cellsOf u=1∧l.length≤9223372036854775807 then some {val:= .d (.str b),rd:=[k,kB k],wr:=kill h [k]}else none
  |_,_=>none
 |_,_,_=>none
def kR(P:Program)(t:TypeId)(x:AV):Option AV:=
 match P.underlying t with
 |some (.interface _)=>none
 |some _=>some (.iv t x)
 |none=>none
def rG(P:Program)(asserted:TypeId)(ok:Bool)(x:AV):Option AV:=
 match P.underlying asserted,x with
 |some (.interface _),_=>none
 |some _, .iv t y=>
  if t=asserted then some (if ok=true then .tup [y, .d (.bool true)]else y)
  else if ok=true then (eg P asserted).map fun z=> .tup [HF z, .d (.bool false)]else none
 |some _, .d .nili=>if ok=true then (eg P asserted).map fun z=> .tup [HF z, .d (.bool false)]else none
 |_,_=>none
def jB:D→D→Option Bool
 | .int k a, .int k' b=>if k=k' then some (a==b)else none
 | .str a, .str b=>some (a==b)
 | .agg a, .agg b=>fu a b
 |_,_=>none
def b8(x:D):List (D×D×Nat)→Nat→Option (Option (Nat×D))
 |[],_=>some none
 |e::r,i=>match jB x e.1 with
  |some true=>some (some (i,e.2.1))
  |some false=>b8 x r (i+1)
  |none=>none
def ey(x y:D):Nat→List (D×D×Nat)→List (D×D×Nat)
 |_,[]=>[]
 |0,e::r=>(x,y,e.2.2)::r
 |n+1,e::r=>e::ey x y n r
def dq(P:Program):List Field→Nat→List D→Bool
 |[],_,[]=>true
 |f::fs,i, .int k _::xs=>(decide (f.name≠ "_")&&(f.offset==i&&(ml P f.type==some false&&(match P.underlying f.type with
  |some (.int k')=>decide (k=k')
  |_=>false))))&&dq P fs (i+1) xs
 |_,_,_=>false
def jC(P:Program)(t:TypeId)(x:D):Bool:=match P.underlying t,x with
 |some (.int k), .int k' _=>decide (k=k')
 |some .string, .str _=>true
 |some (.struct fs), .agg xs=>P.stoodInHeld t==false&&dq P fs.toList 0 xs
 |_,_=>false
def fM(k:Nat)(h:ab):Option Out:=some {val:= .mp k ((h k).ver+1),rd:=[k],wr:=[(k,⟨(h k).ver+1,some (.map [] 0)⟩)]}
def bX(P:Program)(t:TypeId)(m key x:AV)(h:ab):Option Out:=
 match P.underlying t,m,key,x with
 |some (.map kt _), .mp k v, .d kd, .d xd=>
  match (h k).ob with
  |some (.map es c)=>
   if (h k).ver=v∧jC P kt kd=true then
    match b8 kd es 0 with
    |some (some (i,_))=>some {val:= .junk,rd:=[k],wr:=[(k,⟨v,some (.map (ey kd xd i es) c)⟩)]}
    |some none=>some {val:= .junk,rd:=[k],wr:=[(k,⟨v,some (.map (es ++[(kd,xd,c)]) (c+1))⟩)]}
    |none=>none
   else none
  |_=>none
 |_,_,_,_=>none
def eY(P:Program)(t:TypeId)(m key:AV)(ok:Bool)(h:ab):Option Out:=
 match P.underlying t,m,key with
 |some (.map kt et), .mp k v, .d kd=>
  match (h k).ob with
  |some (.map es _)=>
   if (h k).ver=v∧jC P kt kd=true then
    match b8 kd es 0 with
    |some (some (_,y))=>some {val:=if ok=true then .tup [.d y, .d (.bool true)]else .d y,rd:=[k]}
    |some none=>match eg P et with
     |some z=>some {val:=if ok=true then .tup [HF z, .d (.bool false)]else HF z,rd:=[k]}
     |none=>none
    |none=>none
   else none
  |_=>none
 |_,_,_=>none
def f4(P:Program)(t:TypeId)(k v:Nat)(h:ab):Option Out:=
 match P.underlying t with
 |some (.map _ _)=>match (h k).ob with
  |some (.map es _)=>if (h k).ver=v then some {val:= .d (.int .i64 (es.length:Int)),rd:=[k]}else none
  |_=>none
 |_=>none
def qR(P:Program)(t:TypeId)(x ix:AV):Option AV:=
 match P.underlying t,x,ix with
 |some .string, .d (.str s), .d (.int _ i)=>if 0≤i then (s[i.toNat]?).map fun b=> .d (.int .u8 (b.toNat:Int))else none
 |_,_,_=>none
def gu(cfg:iA)(i f:Nat)(args:List AV)(h:ab):Option Out:=
 match qu args with
 |some ds=>some {val:=jA (cfg.ret i),ob:=[(f,ds,cfg.ret i)]}
 |none=>match view.go 12 h args with
  |some r=>if (cfg.ret i).all D.scal=true then some {val:=jA (cfg.ret i),rd:=r.2,ob:=[(f,r.1,cfg.ret i)]}else none
  |none=>none
def nB(c:UInt8):List UInt8→Nat→Option Nat
 |[],_=>none
 |x::r,i=>if x==c then some i else nB c r (i+1)
def KI(k:CD)(ds:List D):Option D:=
 match k,ds with
 | .indexByte,[.str s, .int .u8 c]=>some (.int .i64 (match nB c.toNat.toUInt8 s 0 with
  |some i=>(i:Int)
  |none=> -1))
 |_,_=>none
def bP(P:Program)(cfg:iA)(i:Nat)(c:Call)(ρ:Operand→AV)(h:ab)(k:Nat):Option Out:=
 match c.callee with
 | .builtin .len=>match c.args.toList,c.argTypes.toList with
  |[x],[t]=>match ρ x with
   | .mp k v=>f4 P t k v h
   |_=>DY P t (ρ x)
  |_,_=>none
 | .builtin .min=>match c.args.toList with
  |[x,y]=>nu false (ρ x) (ρ y)
  |_=>none
 | .builtin .max=>match c.args.toList with
  |[x,y]=>nu true (ρ x) (ρ y)
  |_=>none
 | .builtin .append=>match c.args.toList,c.argTypes.toList with
  |[s,x],[t,t']=>if vS P t t'=true then fK P (cfg.obm i) t (ρ s) (ρ x) k h else none
  |_,_=>none
 | .builtin .unsafeSliceData=>match c.args.toList with
  |[x]=>(kQ (ρ x)).map fun v=>{val:=v}
  |_=>none
 | .builtin .unsafeString=>match c.args.toList,c.argTypes.toList with
  |[x,n],[pt,_]=>dp P pt (ρ x) (ρ n) h
  |_,_=>none
 | .value f=>match ρ f with
  | .fn g caps=>match aJ.ext g with
   |some .same=>match c.args.toList.map ρ ++caps with
    |[x]=>some {val:=x}
    |_=>none
   |some k=>match qu (c.args.toList.map ρ ++caps)with
    |some ds=>(KI k ds).map fun d=>{val:= .d d}
    |none=>none
   |none=>gu cfg i g (c.args.toList.map ρ ++caps) h
  |_=>none
 |_=>none
def bN(P:Program)(cfg:iA)(i:Nat)(o:Oper)(ρ:Operand→AV)(h:ab):Option Out:=
 match o.op with
 | .move x| .assign x=>some {val:=ρ x}
 | .pick c a b=>match ρ c with
  | .d (.bool t)=>some {val:=if t=true then ρ a else ρ b}
  |_=>none
 | .alloc t=>(fY P t (cfg.base i+o.dst.getD 0) h).map (cr (Nu P t) t ((mR P t).map List.length) (cfg.base i+o.dst.getD 0) ((h (cfg.base i+o.dst.getD 0)).ver+1) h)
 | .box t x=>(kJ (ρ x) (cfg.base i+o.dst.getD 0) h).map (cr (Nu P t) t (some (ρ x).cells.length) (cfg.base i+o.dst.getD 0) ((h (cfg.base i+o.dst.getD 0)).ver+1) h)
 | .makeInterface t x=>(kR P t (ρ x)).map fun v=>{val:=v}
 | .typeAssert x _ t ok=>(rG P t ok (ρ x)).map fun v=>{val:=v}
 | .build t parts=>vP P t ((parts.toList.map fun p=>(p.1,ρ p.2)).map fun p=>(p.1,frz p.2))
 | .buildSlice t len parts=>eG P (cfg.obm i) t len (parts.toList.map fun p=>(p.1,ρ p.2)) (cfg.base i+o.dst.getD 0) h
 | .load t a=>fq P t (ρ a) h
 | .store t a x=>eF P t (ρ a) (ρ x) h
 | .nilCheck x=>match ρ x with
  | .ptr k v j off sz=>some {val:= .ptr k v j off sz}
  | .d (.rp cs)=>some {val:= .d (.rp cs)}
  |_=>none
 | .binOp op t x y _=>match Bg op (ρ x) (ρ y)with
  |some v=>some {val:=v}
  |none=>match op with
   | .eql=>(Bh P t x y (ρ x) (ρ y)).map fun b=>{val:= .d (.bool b)}
   | .neq=>(Bh P t x y (ρ x) (ρ y)).map fun b=>{val:= .d (.bool (!b))}
   |_=>none
 | .unOp op _ x=>(KH op (ρ x)).map fun v=>{val:=v}
 | .convert src dst x=>rE P src dst (ρ x) h
 | .makeFunc (.func f) first caps=>if first.isEmpty then some {val:= .fn f (caps.toList.map ρ)}else none
 | .makeSlice t l c=>da P t (ρ l) (ρ c) (cfg.base i+o.dst.getD 0) h
 | .slice t x lo hi mx=>jU P t (ρ x) (lo.map ρ) (hi.map ρ) (mx.map ρ)
 | .fieldAddr t x f=>kM P t (ρ x) f h
 | .field t x f=>vQ P t (ρ x) f
 | .indexAddr t x ix=>fJ P t (ρ x) (ρ ix) h
 | .makeMap _ none=>fM (cfg.base i+o.dst.getD 0) h
 | .mapUpdate t m k x| .insert t m k x=>bX P t (ρ m) (ρ k) (ρ x) h
 | .lookup t m k ok=>eY P t (ρ m) (ρ k) ok h
 | .index t x ix=>(qR P t (ρ x) (ρ ix)).map fun v=>{val:=v}
 | .extract t ix=>match ρ t with
  | .tup vs=>(vs[ix]?).map fun v=>{val:=v}
  |_=>none
 | .call c=>bP P cfg i c ρ h (cfg.base i+o.dst.getD 0)
 |_=>none
structure St where
 env:Nat→AV
 heap:ab
def aq(h:ab):List (Nat×aN)→ab
 |[]=>h
 |(k,e)::r=>aq (aM h k e) r
def gI(post:List Nat)(h1:ab):List (Nat×aN):=post.map fun k=>(k,h1 k)
def al:List (Nat×aN)→ab→ab
 |[],h=>h
 |(k,e)::r,h=>aM (al r h) k e
def mn(h:ab)(l:List (Nat×aN)):Prop:=∀p∈l,p.2.ver=(h p.1).ver∧(p.2.ob=none∨p.2.ob=(h p.1).ob)
def dS(N:Nat)(env:Nat→AV)(dst:Option Nat)(x:AV):Option (Nat→AV):=
 match dst with
 |some d=>if d<N then some (aM env d x)else none
 |none=>some env
structure Foot where
 i:Nat
 rd:List Nat
 wr:List Nat
 all:Bool
def db(ops:Array Oper)(o:Oper)(env:Nat→AV):Option Bool:=
 match o.guard with
 |none=>some true
 |some (j,want)=>match (ops[j]?).bind (·.dst)with
  |some t=>match env t with
   | .d (.bool b)=>some (b==want)
   | .tup []=>some false
   |_=>none
  |none=>none
def gY:List AV→AV
 |[x]=>x
 |l=> .tup l
def dr(o:Oper)(env:Nat→AV):Option (Nat×List AV):=
 match o.op with
 | .call c=>match c.callee with
  | .value f=>match opd env f with
   | .fn g caps=>some (g,c.args.toList.map (opd env) ++caps)
   |_=>none
  |_=>none
 |_=>none
def nC(o:Oper)(env:Nat→AV):Option (Nat×Nat×List AV):=
 match o.op with
 | .call c=>match c.callee with
  | .value f=>match opd env f with
   | .yld k v=>some (k,v,c.args.toList.map (opd env))
   |_=>none
  |_=>none
 |_=>none
open Classical in
noncomputable def bF(P:Program)(cfg:iA)(N:Nat)(ops:Array Oper)(i:Nat)(o:Oper)(S:St):Option (St×List Obl×Foot):=
 match db ops o S.env with
 |some true=>
  match cfg.hc i with
  |some (.heap rs h' tk)=>if (∀k,k∉tk→h' k=S.heap k)then match dr o S.env with
   |some (g,args)=>(dS N S.env o.dst (gY rs)).map fun env=>(⟨env,h'⟩,[.heap g args S.heap rs h'],⟨i,[],tk,true⟩)
   |none=>match nC o S.env with
    |some (k,v,args)=>(dS N S.env o.dst (gY rs)).map fun env=>(⟨env,h'⟩,[.yield k v args S.heap rs h'],⟨i,[],tk,true⟩)
    |none=>none
   else none
  |some (.frame pre rs post)=>match dr o S.env with
   |some (g,args)=>if mn S.heap pre then (dS N S.env o.dst (gY rs)).map fun env=>(⟨env,aq S.heap post.reverse⟩,[.frame g args pre rs post],⟨i,pre.map (·.1),post.reverse.map (·.1),false⟩)else none
   |none=>none
  |some (.exact pre h0 rs post h1)=>match dr o S.env with
   |some (g,args)=>if (∀k∈pre,S.heap k=h0 k)then (dS N S.env o.dst (gY rs)).map fun env=>(⟨env,aq S.heap (gI post h1)⟩,[.exact g args pre h0 rs post h1],⟨i,pre,post,false⟩)else none
   |none=>none
  |none=>
  match bN P cfg i o (opd S.env) S.heap with
  |some out=>(dS N S.env o.dst out.val).map fun env=>(⟨env,aq S.heap out.wr⟩,out.ob.map .data,⟨i,out.rd,out.wr.map (·.1),false⟩)
  |none=>none
 |some false=>(dS N S.env o.dst (.tup [])).map fun env=>(⟨env,S.heap⟩,[],⟨i,[],[],false⟩)
 |none=>none
noncomputable def dm(P:Program)(cfg:iA)(N:Nat)(ops:Array Oper):List Nat→St→Option (St×List Obl×List Foot)
 |[],S=>some (S,[],[])
 |i::r,S=>
  match ops[i]? with
  |none=>none
  |some o=>match bF P cfg N ops i o S with
   |none=>none
   |some a=>match dm P cfg N ops r a.1 with
    |none=>none
    |some b=>some (b.1,a.2.1 ++b.2.1,a.2.2::b.2.2)
end Go.Avm
namespace Go.Avm
open Go.RowKit
variable[aJ]
section
variable{G:Gh}{B:Nat}{w0 w:World}{I0:Nat→Nat→Prop}{h:ab}
theorem cj{w:World}{o:Obj}{b i:Nat}(hb:b<w.heap.size):(w.alloc o).cell? ⟨b,i,none⟩=w.cell? ⟨b,i,none⟩:=World.cell?_alloc_lt w o ⟨b,i,none⟩ hb
theorem kS{w:World}{c:Array Value}{e:TypeId}{i:Nat}:(w.alloc (.cells c e)).cell? ⟨w.heap.size,i,none⟩=c[i]? :=by simp
theorem dh{w:World}{o:Obj}{b:Nat}(hb:b<w.heap.size):(w.alloc o).heap[b]? =w.heap[b]? :=Below.heap_alloc w o b hb
theorem jV(w:World)(o':Obj):∀(b:Nat)(o:Obj),mQ o=true→w.heap[b]? =some o→∃o2,(w.alloc o').heap[b]? =some o2∧jo o o2:=fun b o _ x=>⟨o,by
 rw[dh (Array.getElem?_eq_some_iff.1 x).1];exact x,eu o⟩
theorem eH{w w':World}(h:w'.heap=w.heap):∀(b:Nat)(o:Obj),mQ o=true→w.heap[b]? =some o→∃o2,w'.heap[b]? =some o2∧jo o o2:=fun b o _ x=>⟨o,by rw[h];exact x,eu o⟩
def Gh.at(G:Gh)(k v:Nat)(L:t7):Gh:={G with loc:=fun k' v'=>if k'=k∧v'=v then some L else G.loc k' v',lim:=aM G.lim k v}
def Gh.more(G:Gh)(p:Nat→Nat→Prop):Gh:={G with imm:=fun b o=>G.imm b o∨p b o}
theorem Gh.at_same(G:Gh)(k v:Nat)(L:t7):(G.at k v L).loc k v=some L:=by simp[Gh.at]
theorem Gh.at_ne(G:Gh){k v k' v':Nat}(L:t7)(hn:¬(k'=k∧v'=v)):(G.at k v L).loc k' v'=G.loc k' v':=by simp[Gh.at,hn]
theorem Ext.at{k v:Nat}{L:t7}(hv:G.loc k v=none)(hl:G.lim k<v)(w:World):Ext G w (G.at k v L) w:=
 ⟨fun _ _ x=>x,fun k' v' L' x=>by
  by_cases hc:k'=k∧v'=v
  ·obtain⟨rfl,rfl⟩:=hc;rw[hv]at x;cases x
  ·rw[Gh.at_ne _ _ hc];exact x,fun _ _ _=>rfl,Nat.le_refl _,fun k'=>by
  by_cases hk:k'=k
  ·subst hk;show _≤aM G.lim k' v k';rw[ak];omega
  ·show _≤aM G.lim k v k';rw[am _ _ hk];exact Nat.le_refl _,fun k' v' hv' x=>by
  rw[Gh.at_ne _ _ (by rintro⟨rfl,rfl⟩;omega)];exact x,fun _ _ _ x=>x,eH rfl⟩
theorem Ext.more(G:Gh)(p:Nat→Nat→Prop)(w:World):Ext G w (G.more p) w:=⟨fun _ _ x=> .inl x,fun _ _ _ x=>x,fun _ _ _=>rfl,Nat.le_refl _,fun _=>Nat.le_refl _,fun _ _ _ x=>x,fun _ _ _ x=>x,eH rfl⟩
theorem ObRep.mono{G':Gh}{w':World}{k ver:Nat}{ob:Ob}(hr:ObRep G w k ver ob)(hv:ver≤G.lim k)(e:Ext G w G' w')
    (hc:∀L,G.loc k ver=some L→∀t,w'.cell? ⟨L.b,t,none⟩=w.cell? ⟨L.b,t,none⟩):ObRep G' w' k ver ob:=by
 cases ob with
 |arr sz es=>
  rcases hr with ⟨hr,hn⟩|⟨L,hL,h1,h2,h3,h4,h6,h5⟩
  ·exact .inl ⟨hr,e.nloc _ _ hv hn⟩
  ·refine .inr ⟨L,e.loc _ _ _ hL,h1,h2,h3,h4,h6,fun t c ht=> ?_⟩
   obtain⟨u,hu,hu1,hur⟩:=h5 t c ht;exact⟨u,(hc L hL t).trans hu,hu1,hur.mono e⟩
 |map es c=>trivial
 |lp _ _ _ _ _ _ _=>trivial
 |itr _ _ _ _=>trivial
 |typ k' v' T n=>
  refine⟨Nat.le_trans hr.1 (e.lim k'),fun L hL=> ?_⟩;cases hg:G.loc k' v' with
  |none=>rw[e.nloc _ _ hr.1 hg]at hL;cases hL
  |some L=>
   rw[e.loc _ _ _ hg]at hL;cases hL;exact hr.2 L hg
theorem jW(w:World)(o:Obj):∀(b:Nat) o',nr o'=true→w.heap[b]? =some o'→(w.alloc o).heap[b]? =some o':=fun _ _ _ hh=>(dh (Array.getElem?_eq_some_iff.1 hh).1).trans hh
theorem kU{w:World}{b0:Nat}{arr arr':Array Value}{e:TypeId}{fz:Nat×Nat}(hb:w.heap[b0]? =some (.cells arr e fz)):∀(b:Nat)(o:Obj),mQ o=true→w.heap[b]? =some o→∃o2,(w.setRow b0 arr').heap[b]? =some o2∧jo o o2:=fun b o hk hh=>
 ⟨o,(setRow_other w _ _ _ (by rintro rfl;rw[hb]at hh;cases hh;cases hk)).trans hh,eu o⟩
theorem kW(w:World){b0:Nat}{arr arr':Array Value}{e:TypeId}{fz:Nat×Nat}(hb:w.heap[b0]? =some (.cells arr e fz)):∀(b:Nat) o,nr o=true→w.heap[b]? =some o→(w.setRow b0 arr').heap[b]? =some o:=fun b o hf hh=>
 (setRow_other w _ _ _ (by rintro rfl;rw[hb]at hh;cases hh;cases hf)).trans hh
theorem MR.set{G':Gh}{w':World}(hm:MR G B h w)(e:Ext G w G' w')(hl:G'.mloc=G.mloc)(hb:∀(b:Nat) o,nr o=true→w.heap[b]? =some o→w'.heap[b]? =some o){k v:Nat}{ob:Option Ob}(hv:(h k).ver≤v)(hno:∀o:Ob,o.flex=false→ob≠some o):
    MR G' B (aM h k ⟨v,ob⟩) w':=by
 refine hm.step e hl hb (fun k'=> ?_) (fun k' o hf ho=> ?_)
 ·by_cases hk:k'=k
  ·subst hk;rw[ak];exact hv
  ·rw[am _ _ hk];exact Nat.le_refl _
 ·by_cases hk:k'=k
  ·subst hk;rw[ak]at ho;exact absurd ho (hno o hf)
  ·exact am _ _ hk
theorem HR.le(hr:HR G B w0 I0 h w)(k:Nat):(h k).ver≤G.lim k:=by rw[hr.lim];exact Nat.le_refl _
theorem HR.none_next(hr:HR G B w0 I0 h w)(k:Nat):G.loc k ((h k).ver+1)=none:=by
 cases hL:G.loc k ((h k).ver+1)with
 |none=>rfl
 |some L=>have:=hr.fresh _ _ _ hL;omega
theorem HR.drew(hr:HR G B w0 I0 h w):HR G B w0 I0 h w.drew:=by
 refine⟨hr.below.drew,hr.bsz,hr.immlt,hr.i0,hr.immlow,hr.fresh,hr.own,hr.dis,fun k ob ho=>(hr.objs k ob ho).mono (hr.le k) ⟨fun _ _ x=>x,fun _ _ _ x=>x,fun _ _ _=>rfl,Nat.le_refl _,fun _=>Nat.le_refl _,fun _ _ _ x=>x,fun _ _ _ x=>x,eH rfl⟩ (fun _ _ _=>rfl),hr.lim,hr.maps.step ⟨fun _ _ x=>x,fun _ _ _ x=>x,fun _ _ _=>rfl,Nat.le_refl _,fun _=>Nat.le_refl _,fun _ _ _ x=>x,fun _ _ _ x=>x,eH rfl⟩ rfl (fun _ _ _ x=>x) (fun _=>Nat.le_refl _) (fun _ _ _ _=>rfl)⟩
theorem Ext.drew(G:Gh)(w:World):Ext G w G w.drew:=⟨fun _ _ x=>x,fun _ _ _ x=>x,fun _ _ _=>rfl,Nat.le_refl _,fun _=>Nat.le_refl _,fun _ _ _ x=>x,fun _ _ _ x=>x,eH rfl⟩
theorem Ext.alloc(hr:HR G B w0 I0 h w)(o:Obj):Ext G w G (w.alloc o):=
 ⟨fun _ _ x=>x,fun _ _ _ x=>x,fun b i hb=>cj (hr.immlt b i hb),by simp,fun _=>Nat.le_refl _,fun _ _ _ x=>x,fun _ _ _ x=>x,jV w _⟩
def rH(G:Gh)(h:ab)(ks:List Nat):Nat→Nat→Prop:=fun b _=>∃k∈ks,∃L,G.loc k (h k).ver=some L∧L.b=b
theorem bz(h h0:ab):∀(ks:List Nat)(k:Nat),aq h0 (kill h ks) k=if k∈ks then ⟨(h k).ver+1,none⟩else h0 k:=by
 intro ks;induction ks generalizing h0 with
 |nil=>intro k;simp[kill,aq]
 |cons a r ih=>
  intro k;simp only[kill,List.map_cons,aq];have:=ih (aM h0 a ⟨(h a).ver+1,none⟩) k;simp only[kill]at this;rw[this];by_cases hk:k∈r
  ·simp[hk]
  ·by_cases ha:k=a
   ·subst ha;simp[aM]
   ·simp[hk,ha,aM]
def Gh.froz(G:Gh)(h:ab)(ks:List Nat):Gh:={G.more (rH G h ks)with lim:=fun k=>if k∈ks then G.lim k+1 else G.lim k}
theorem Ext.froz(hr:HR G B w0 I0 h w)(ks:List Nat):Ext G w (G.froz h ks) w:=
 ⟨fun _ _ x=> .inl x,fun _ _ _ x=>x,fun _ _ _=>rfl,Nat.le_refl _,fun k=>by show _≤if k∈ks then _ else _;split<;>omega,fun _ _ _ x=>x,fun _ _ _ x=>x,eH rfl⟩
theorem HR.kill(hr:HR G B w0 I0 h w)(ks:List Nat):HR (G.froz h ks) B w0 I0 (aq h (kill h ks)) w:=by
 have hh:=bz h h ks
 refine⟨hr.below,hr.bsz, ?_,fun b o x=> .inl (hr.i0 b o x), ?_, ?_, ?_, ?_, ?_,fun k=>by rw[hh];show(if k∈ks then _ else _)=_;split<;>simp[hr.lim],hr.maps.step (Ext.froz hr ks) rfl (fun _ _ _ x=>x) (fun k=>by rw[hh];split<;>simp) (fun k es c ho=>by
  rw[hh]at ho ⊢;split at ho
  ·cases ho
  ·rename_i hk;rw[if_neg hk])⟩
 ·rintro b o (x|⟨k,_,L,hL,rfl⟩)
  ·exact hr.immlt b o x
  ·exact hr.blt hL
 ·rintro b o (x|⟨k,_,L,hL,rfl⟩) hb
  ·exact hr.immlow b o x hb
  ·have:=(hr.own k L hL).1;omega
 ·intro k v L hL
  have:=hr.fresh k v L hL;rw[hh];split<;>simp_all;omega
 ·intro k L hL
  rw[hh]at hL;by_cases hk:k∈ks
  ·simp only[hk,if_true]at hL
   have:=hr.fresh k _ L hL;omega
  ·simp only[hk,if_false]at hL
   obtain⟨h1,h2,h3⟩:=hr.own k L hL;refine⟨h1,h2, ?_⟩;rintro o (x|⟨k',hk',L',hL',hb⟩)
   ·exact h3 o x
   ·have:=hr.dis k k' L L' hL hL' hb.symm
    subst this;exact absurd hk' hk
 ·intro k k' L L' hL hL' hb
  rw[hh]at hL hL';by_cases hk:k∈ks
  ·simp only[hk,if_true]at hL
   have:=hr.fresh k _ L hL;omega
  ·by_cases hk':k'∈ks
   ·simp only[hk',if_true]at hL'
    have:=hr.fresh k' _ L' hL';omega
   ·simp only[hk,hk',if_false]at hL hL'
    exact hr.dis k k' L L' hL hL' hb
 ·intro k ob ho
  rw[hh]at ho ⊢;by_cases hk:k∈ks
  ·simp[hk]at ho
  ·simp only[hk,if_false]at ho ⊢
   exact(hr.objs k ob ho).mono (hr.le k) (Ext.froz hr ks) (fun _ _ _=>rfl)
theorem HR.newOb(hr:HR G B w0 I0 h w)(k sz cap:Nat)(es:List AV)(arr:Array Value)(e:TypeId)(hs:arr.size=cap*sz)(hcap:es.length≤cap)(hsz:∀x∈es,x.cells.length=sz)(hlo:sz=1→∀x∈es,x.lone=true)
    (hc:∀(t:Nat)(c:AV),(AV.flat es)[t]? =some c→∃u:Value,arr[t]? =some u∧u.oneCell'=true∧Rep G w c u):
    HR (G.at k ((h k).ver+1) ⟨w.heap.size,sz,cap,0,e⟩) B w0 I0 (aM h k ⟨(h k).ver+1,some (.arr sz es)⟩) (w.alloc (.cells arr e))∧
    Ext G w (G.at k ((h k).ver+1) ⟨w.heap.size,sz,cap,0,e⟩) (w.alloc (.cells arr e)):=by
 have hn:=hr.none_next k;have hlk:G.lim k<(h k).ver+1:=by rw[hr.lim];omega
 have hex:Ext G w (G.at k ((h k).ver+1) ⟨w.heap.size,sz,cap,0,e⟩) (w.alloc (.cells arr e)):=
  ⟨fun _ _ x=>x,(Ext.at hn hlk w).loc,fun b i hb=>cj (hr.immlt b i hb),by simp,(Ext.at hn hlk w).lim,(Ext.at hn hlk w).nloc,fun _ _ _ x=>x,jV w _⟩
 have key:∀k' L',(G.at k ((h k).ver+1) ⟨w.heap.size,sz,cap,0,e⟩).loc k' (aM h k ⟨(h k).ver+1,some (.arr sz es)⟩ k').ver=some L'→
     (k'=k∧L'=⟨w.heap.size,sz,cap,0,e⟩)∨(k'≠k∧G.loc k' (h k').ver=some L'):=by
  intro k' L' hL;by_cases hk:k'=k
  ·subst hk
   rw[ak,Gh.at_same]at hL;exact .inl ⟨rfl,(Option.some.inj hL).symm⟩
  ·rw[am _ _ hk,Gh.at_ne _ _ (by simp[hk])]at hL
   exact .inr ⟨hk,hL⟩
 refine⟨⟨hr.below.alloc hr.bsz _,by have:=hr.bsz;simp;omega,fun b o x=>by have:=hr.immlt b o x;simp;omega,hr.i0,hr.immlow, ?_, ?_, ?_, ?_,fun k'=>by
  by_cases hk:k'=k
  ·subst hk;rw[ak];exact ak _ _ _
  ·rw[am _ _ hk];exact(am _ _ hk).trans (hr.lim k'),hr.maps.set hex rfl (jW w _) (by omega) (by first|exact jz|exact kH)⟩,hex⟩
 ·intro k' v L hL
  by_cases hk:k'=k∧v=(h k).ver+1
  ·obtain⟨rfl,rfl⟩:=hk;simp[aM]
  ·rw[Gh.at_ne _ _ hk]at hL
   have:=hr.fresh k' v L hL;by_cases hk':k'=k
   ·subst hk';rw[ak];show v≤_+1;omega
   ·rw[am _ _ hk'];exact this
 ·intro k' L' hL
  rcases key k' L' hL with ⟨rfl,rfl⟩|⟨hk,hL⟩
  ·exact⟨hr.bsz,⟨arr,e,heap_alloc_new w _,hs,rfl⟩,fun o x=>absurd (hr.immlt _ o x) (by simp)⟩
  ·obtain⟨h1,⟨arr',e',h2,h3⟩,h4⟩:=hr.own k' L' hL
   exact⟨h1,⟨arr',e',(dh (hr.blt hL)).trans h2,h3⟩,h4⟩
 ·intro k1 k2 L1 L2 hL1 hL2 hb
  rcases key k1 L1 hL1 with ⟨rfl,rfl⟩|⟨hk1,hL1⟩<;>rcases key k2 L2 hL2 with ⟨h2e,h2L⟩|⟨hk2,hL2⟩
  ·exact h2e.symm
  ·have:=hr.blt hL2;rw[←hb]at this;simp at this
  ·subst h2L;have:=hr.blt hL1;rw[hb]at this;simp at this
  ·exact hr.dis k1 k2 L1 L2 hL1 hL2 hb
 ·intro k' ob ho
  by_cases hk:k'=k
  ·subst hk
   rw[ak]at ho ⊢;simp only[Option.some.injEq]at ho;subst ho;refine .inr ⟨_,Gh.at_same _ _ _ _,rfl,rfl,hcap,hsz,hlo,fun t c ht=> ?_⟩;obtain⟨u,hu,hu1,hur⟩:=hc t c ht;exact⟨u,by rw[kS];exact hu,hu1,hur.mono hex⟩
  ·rw[am _ _ hk]at ho ⊢
   exact(hr.objs k' ob ho).mono (hr.le k') hex (fun L hL t=>cj (hr.blt hL))
theorem HR.newVecT(hr:HR G B w0 I0 h w)(k sz cap:Nat)(l:List D)(arr:Array Value)(e:TypeId)(hs:arr.size=cap*sz)(hcap:l.length≤cap)(hsz:∀x∈l,x.cells.length=sz)
    (hc:∀(t:Nat)(c:D),(D.flat l)[t]? =some c→∃u:Value,arr[t]? =some u∧c.one=true∧DRep G.imm w c u):
    ∃G',HR G' B w0 I0 (aM h k ⟨(h k).ver+1,none⟩) (w.alloc (.cells arr e))∧Ext G w G' (w.alloc (.cells arr e))∧
     Rep G' (w.alloc (.cells arr e)) (.vec k ((h k).ver+1) sz l) (.slice (some ⟨w.heap.size,0,none⟩) l.length cap)∧
     ∀L,G'.loc k ((h k).ver+1)=some L→L.ty=e:=by
 have hn:=hr.none_next k;have hlk:G.lim k<(h k).ver+1:=by rw[hr.lim];omega
 have hfl:(D.flat l).length=l.length*sz:=dH _ sz l hsz
 let L:t7:=⟨w.heap.size,sz,cap,l.length*sz,e⟩
 let G':Gh:=(G.at k ((h k).ver+1) L).more (fun b o=>b=w.heap.size∧o<l.length*sz)
 have hex:Ext G w G' (w.alloc (.cells arr e)):=
  ⟨fun _ _ x=> .inl x,(Ext.at (L:=L) hn hlk w).loc,fun b i hb=>cj (hr.immlt b i hb),by simp,(Ext.at (L:=L) hn hlk w).lim,(Ext.at (L:=L) hn hlk w).nloc,fun _ _ _ x=>x,jV w _⟩
 have hL:G'.loc k ((h k).ver+1)=some L:=Gh.at_same _ _ _ _
 have key:∀k' L',G'.loc k' (aM h k ⟨(h k).ver+1,none⟩ k').ver=some L'→(k'=k∧L'=L)∨(k'≠k∧G.loc k' (h k').ver=some L'):=by
  intro k' L' hL;by_cases hk:k'=k
  ·subst hk
   rw[ak]at hL;rw[show G'.loc k' ((h k').ver+1)=some L from Gh.at_same _ _ _ _]at hL;exact .inl ⟨rfl,(Option.some.inj hL).symm⟩
  ·rw[am _ _ hk]at hL
   exact .inr ⟨hk,by rw[←Gh.at_ne G L (k:=k) (v:=(h k).ver+1) (by simp[hk])];exact hL⟩
 have hU:∃U:Nat→Value,∀t c,(D.flat l)[t]? =some c→arr[t]? =some (U t)∧c.one=true∧DRep G.imm w c (U t):=by
  refine⟨fun t=>arr.getD t undef,fun t c ht=> ?_⟩;obtain⟨u,hu,h1,h2⟩:=hc t c ht;have hg:arr.getD t undef=u:=by simp[Array.getD_eq_getD_getElem?,hu]
  exact⟨hu.trans (congrArg some hg.symm),h1,by simpa only[hg]using h2⟩
 obtain⟨U,hU⟩:=hU
 refine⟨G',⟨hr.below.alloc hr.bsz _,by have:=hr.bsz;simp;omega, ?_,fun b o x=> .inl (hr.i0 b o x), ?_, ?_, ?_, ?_, ?_,fun k'=>by
  by_cases hk:k'=k
  ·subst hk;rw[ak];exact ak _ _ _
  ·rw[am _ _ hk];exact(am _ _ hk).trans (hr.lim k'),hr.maps.set hex rfl (jW w _) (by omega) (by first|exact jz|exact kH)⟩,hex, ?_,fun L' hL'=>by rw[hL]at hL';cases hL';rfl⟩
 ·rintro b o (x|⟨rfl,_⟩)
  ·have:=hr.immlt b o x;simp;omega
  ·simp
 ·rintro b o (x|⟨rfl,_⟩) hb
  ·exact hr.immlow b o x hb
  ·have:=hr.bsz;omega
 ·intro k' v L' hL'
  by_cases hk:k'=k∧v=(h k).ver+1
  ·obtain⟨rfl,rfl⟩:=hk;simp[aM]
  ·rw[show G'.loc k' v=G.loc k' v from Gh.at_ne _ _ hk]at hL'
   have:=hr.fresh k' v L' hL';by_cases hk':k'=k
   ·subst hk';rw[ak];show v≤_+1;omega
   ·rw[am _ _ hk'];exact this
 ·intro k' L' hL'
  rcases key k' L' hL' with ⟨rfl,rfl⟩|⟨hk,hL'⟩
  ·refine⟨hr.bsz,⟨arr,e,heap_alloc_new w _,hs,rfl⟩, ?_⟩
   rintro o (x|⟨_,x⟩)
   ·exact absurd (hr.immlt _ o x) (by simp[L])
   ·exact x
  ·obtain⟨h1,⟨arr',e',h2,h3⟩,h4⟩:=hr.own k' L' hL'
   refine⟨h1,⟨arr',e',(dh (hr.blt hL')).trans h2,h3⟩, ?_⟩;rintro o (x|⟨x,_⟩)
   ·exact h4 o x
   ·have:=hr.blt hL';omega
 ·intro k1 k2 L1 L2 hL1 hL2 hb
  rcases key k1 L1 hL1 with ⟨rfl,rfl⟩|⟨hk1,hL1⟩<;>rcases key k2 L2 hL2 with ⟨h2e,h2L⟩|⟨hk2,hL2⟩
  ·exact h2e.symm
  ·have:=hr.blt hL2;rw[←hb]at this;simp[L]at this
  ·subst h2L;have:=hr.blt hL1;rw[hb]at this;simp[L]at this
  ·exact hr.dis k1 k2 L1 L2 hL1 hL2 hb
 ·intro k' ob ho
  by_cases hk:k'=k
  ·subst hk;rw[ak]at ho;cases ho
  ·rw[am _ _ hk]at ho ⊢
   exact(hr.objs k' ob ho).mono (hr.le k') hex (fun L hL t=>cj (hr.blt hL))
 ·refine Rep.vec k ((h k).ver+1) l L hL rfl hcap hsz (.ro l _ 0 cap sz U hcap hsz (fun x hx=> ?_) ?_ ?_ ?_)
  ·obtain⟨t,ht⟩:=List.getElem?_of_mem hx
   exact(hU t x ht).2.1
  ·intro t c ht
   have:t<(D.flat l).length:=(List.getElem?_eq_some_iff.1 ht).1;exact .inr ⟨rfl,by omega⟩
  ·intro t c ht
   rw[Nat.zero_add,kS];exact(hU t c ht).1
  ·intro t c ht
   exact(hU t c ht).2.2.mono hex.imm hex.cell
theorem HR.store(hr:HR G B w0 I0 h w){k sz:Nat}{es es':List AV}{L:t7}(ho:(h k).ob=some (.arr sz es))(hL:G.loc k (h k).ver=some L)(hLs:L.sz=sz)(hfr:L.fr=0)
    {arr arr':Array Value} {e:TypeId} (hb:w.heap[L.b]? =some (.cells arr e (0,0))) (hs:arr'.size=arr.size) (hcap:es'.length≤L.cap) (hsz:∀x∈es',x.cells.length=sz) (hlo:sz=1→∀x∈es',x.lone=true)
    (hc:∀(t:Nat)(c:AV),(AV.flat es')[t]? =some c→∃u:Value,arr'[t]? =some u∧u.oneCell'=true∧Rep G w c u):
    HR G B w0 I0 (aM h k ⟨(h k).ver,some (.arr sz es')⟩) (w.setRow L.b arr')∧Ext G w G (w.setRow L.b arr'):=by
 obtain⟨hB,⟨arr0,e0,hb0,hs0⟩,hi⟩:=hr.own k L hL;rw[hb]at hb0;simp only[Option.some.injEq,Obj.cells.injEq]at hb0;obtain⟨rfl,rfl,_⟩:=hb0
 have hnb:∀b o,G.imm b o→b≠L.b:=by
  rintro b o x rfl;have:=hi o x;omega
 have hex:Ext G w G (w.setRow L.b arr'):=⟨fun _ _ x=>x,fun _ _ _ x=>x,fun b i x=>cell_setRow_other w L.b arr' ⟨b,i,none⟩ (hnb b i x),by simp,fun _=>Nat.le_refl _,fun _ _ _ x=>x,fun _ _ _ x=>x,kU hb⟩
 have hver:∀k',(aM h k ⟨(h k).ver,some (.arr sz es')⟩ k').ver=(h k').ver:=by
  intro k';by_cases hk:k'=k
  ·subst hk;rw[ak]
  ·rw[am _ _ hk]
 refine⟨⟨below_setRow hr.below hB _,by simpa using hr.bsz,fun b o x=>by simpa using hr.immlt b o x,hr.i0,hr.immlow, ?_, ?_, ?_, ?_,fun k'=>by rw[hver];exact hr.lim k',hr.maps.set hex rfl (kW w hb) (Nat.le_refl _) (by first|exact jz|exact kH)⟩,hex⟩
 ·intro k' v L' x;rw[hver];exact hr.fresh k' v L' x
 ·intro k' L' x
  rw[hver]at x;obtain⟨h1,⟨a1,e1,h2,h3⟩,h4⟩:=hr.own k' L' x;by_cases hk:L'.b=L.b
  ·have:=hr.dis k' k L' L x hL hk
   subst this;rw[hL]at x;simp only[Option.some.injEq]at x;subst x;exact⟨h1,⟨arr',e,setRow_heap w _ _ _ _ _ hb,by rw[hs];exact hs0⟩,h4⟩
  ·exact⟨h1,⟨a1,e1,by rw[setRow_other w _ _ _ hk];exact h2,h3⟩,h4⟩
 ·intro k1 k2 L1 L2 x1 x2;rw[hver]at x1 x2;exact hr.dis k1 k2 L1 L2 x1 x2
 ·intro k' ob ho'
  by_cases hk:k'=k
  ·subst hk
   rw[ak]at ho' ⊢;simp only[Option.some.injEq]at ho';subst ho';refine .inr ⟨L,hL,hLs,hfr,hcap,hsz,hlo,fun t c ht=> ?_⟩;obtain⟨u,hu,hu1,hur⟩:=hc t c ht;exact⟨u,by rw[cell_setRow_same w L.b t _ _ _ _ hb];exact hu,hu1,hur.mono hex⟩
  ·rw[am _ _ hk]at ho' ⊢
   refine(hr.objs k' ob ho').mono (hr.le k') hex (fun L' hL' t=>cell_setRow_other w L.b arr' ⟨L'.b,t,none⟩ (fun hbb=>hk (hr.dis k' k L' L hL' hL hbb)))
theorem HR.regrow(hr:HR G B w0 I0 h w){k sz:Nat}{es':List AV}{L:t7}(hL:G.loc k (h k).ver=some L)(hLs:L.sz=sz)(hfr:L.fr=0)
    {arr arr':Array Value} {e:TypeId} (hb:w.heap[L.b]? =some (.cells arr e (0,0))) (hs:arr'.size=arr.size) (hcap:es'.length≤L.cap) (hsz:∀x∈es',x.cells.length=sz) (hlo:sz=1→∀x∈es',x.lone=true)
    (hc:∀(t:Nat)(c:AV),(AV.flat es')[t]? =some c→∃u:Value,arr'[t]? =some u∧u.oneCell'=true∧Rep G w c u):
    HR (G.at k ((h k).ver+1) L) B w0 I0 (aM h k ⟨(h k).ver+1,some (.arr sz es')⟩) (w.setRow L.b arr')∧Ext G w (G.at k ((h k).ver+1) L) (w.setRow L.b arr'):=by
 obtain⟨hB,⟨arr0,e0,hb0,hs0⟩,hi⟩:=hr.own k L hL;rw[hb]at hb0;simp only[Option.some.injEq,Obj.cells.injEq]at hb0;obtain⟨rfl,rfl,_⟩:=hb0;have hn:=hr.none_next k;have hlk:G.lim k<(h k).ver+1:=by rw[hr.lim];omega
 have hnb:∀b o,G.imm b o→b≠L.b:=by
  rintro b o x rfl;have:=hi o x;omega
 have hex:Ext G w (G.at k ((h k).ver+1) L) (w.setRow L.b arr'):=⟨fun _ _ x=>x,(Ext.at hn hlk w).loc,fun b i x=>cell_setRow_other w L.b arr' ⟨b,i,none⟩ (hnb b i x),by simp,(Ext.at hn hlk w).lim,(Ext.at hn hlk w).nloc,fun _ _ _ x=>x,kU hb⟩
 have key:∀k' L',(G.at k ((h k).ver+1) L).loc k' (aM h k ⟨(h k).ver+1,some (.arr sz es')⟩ k').ver=some L'→G.loc k' (h k').ver=some L':=by
  intro k' L' x;by_cases hk:k'=k
  ·subst hk
   rw[ak,Gh.at_same]at x;rw[hL];exact x
  ·rw[am _ _ hk,Gh.at_ne _ _ (by simp[hk])]at x
   exact x
 refine⟨⟨below_setRow hr.below hB _,by simpa using hr.bsz,fun b o x=>by simpa using hr.immlt b o x,hr.i0,hr.immlow, ?_, ?_, ?_, ?_,fun k'=>by
  by_cases hk:k'=k
  ·subst hk;rw[ak];exact ak _ _ _
  ·rw[am _ _ hk];exact(am _ _ hk).trans (hr.lim k'),hr.maps.set hex rfl (kW w hb) (by omega) (by first|exact jz|exact kH)⟩,hex⟩
 ·intro k' v L' hL'
  by_cases hk:k'=k∧v=(h k).ver+1
  ·obtain⟨rfl,rfl⟩:=hk;simp[aM]
  ·rw[Gh.at_ne _ _ hk]at hL'
   have:=hr.fresh k' v L' hL';by_cases hk':k'=k
   ·subst hk';rw[ak];show v≤_+1;omega
   ·rw[am _ _ hk'];exact this
 ·intro k' L' x
  replace x:=key k' L' x
  obtain⟨h1,⟨a1,e1,h2,h3⟩,h4⟩:=hr.own k' L' x;by_cases hk:L'.b=L.b
  ·have:=hr.dis k' k L' L x hL hk
   subst this;rw[hL]at x;simp only[Option.some.injEq]at x;subst x;exact⟨h1,⟨arr',e,setRow_heap w _ _ _ _ _ hb,by rw[hs];exact hs0⟩,h4⟩
  ·exact⟨h1,⟨a1,e1,by rw[setRow_other w _ _ _ hk];exact h2,h3⟩,h4⟩
 ·intro k1 k2 L1 L2 x1 x2;exact hr.dis k1 k2 L1 L2 (key _ _ x1) (key _ _ x2)
 ·intro k' ob ho'
  by_cases hk:k'=k
  ·subst hk
   rw[ak]at ho' ⊢;simp only[Option.some.injEq]at ho';subst ho';refine .inr ⟨L,Gh.at_same _ _ _ _,hLs,hfr,hcap,hsz,hlo,fun t c ht=> ?_⟩;obtain⟨u,hu,hu1,hur⟩:=hc t c ht;exact⟨u,by rw[cell_setRow_same w L.b t _ _ _ _ hb];exact hu,hu1,hur.mono hex⟩
  ·rw[am _ _ hk]at ho' ⊢
   refine(hr.objs k' ob ho').mono (hr.le k') hex (fun L' hL' t=>cell_setRow_other w L.b arr' ⟨L'.b,t,none⟩ (fun hbb=>hk (hr.dis k' k L' L hL' hL hbb)))
theorem HR.newVec(hr:HR G B w0 I0 h w)(k sz cap:Nat)(l:List D)(arr:Array Value)(e:TypeId)(hs:arr.size=cap*sz)(hcap:l.length≤cap)(hsz:∀x∈l,x.cells.length=sz)
    (hc:∀(t:Nat)(c:D),(D.flat l)[t]? =some c→∃u:Value,arr[t]? =some u∧c.one=true∧DRep G.imm w c u):
    ∃G',HR G' B w0 I0 (aM h k ⟨(h k).ver+1,none⟩) (w.alloc (.cells arr e))∧Ext G w G' (w.alloc (.cells arr e))∧
     Rep G' (w.alloc (.cells arr e)) (.vec k ((h k).ver+1) sz l) (.slice (some ⟨w.heap.size,0,none⟩) l.length cap):=by
 obtain⟨G',g1,g2,g3,_⟩:=hr.newVecT k sz cap l arr e hs hcap hsz hc;exact⟨G',g1,g2,g3⟩
theorem HR.note(hr:HR G B w0 I0 h w)(k2 k v:Nat)(T:TypeId)(n:Option Nat)(hv:v≤(h k).ver)(hL:∀L,G.loc k v=some L→L.ty=T∧∀m,n=some m→L.cap*L.sz=m):
    HR G B w0 I0 (aM h k2 ⟨(h k2).ver,some (.typ k v T n)⟩) w:=by
 have hver:∀k',(aM h k2 ⟨(h k2).ver,some (.typ k v T n)⟩ k').ver=(h k').ver:=fun k'=>by
  by_cases hk:k'=k2
  ·subst hk;rw[ak]
  ·rw[am _ _ hk]
 refine⟨hr.below,hr.bsz,hr.immlt,hr.i0,hr.immlow,fun k' v' L x=>by rw[hver];exact hr.fresh k' v' L x,fun k' L x=>by rw[hver]at x;exact hr.own k' L x,
  fun k1 k3 L1 L3 x1 x3=>by rw[hver]at x1 x3;exact hr.dis k1 k3 L1 L3 x1 x3,fun k' ob ho=> ?_,fun k'=>by rw[hver];exact hr.lim k',
  hr.maps.set (Ext.refl G w) rfl (fun _ _ _ x=>x) (Nat.le_refl _) DU⟩
 rw[hver];by_cases hk:k'=k2
 ·subst hk
  rw[ak]at ho;cases ho;exact⟨by rw[hr.lim];exact hv,hL⟩
 ·rw[am _ _ hk]at ho
  exact hr.objs k' ob ho
theorem HR.growT(hr:HR G B w0 I0 h w){k:Nat}{l news:List D}{L:t7}(ho:(h k).ob=none)(hL:G.loc k (h k).ver=some L)(hfr:L.fr=l.length*L.sz)
    {arr arr':Array Value} {e:TypeId} (hb:w.heap[L.b]? =some (.cells arr e (0,0))) (hs:arr'.size=arr.size) (hcap:l.length+news.length≤L.cap) (hsz:∀x∈l,x.cells.length=L.sz) (hsz':∀x∈news,x.cells.length=L.sz)
    (hold:∀t,t<l.length*L.sz→arr'[t]? =arr[t]?)
    (hc:∀(t:Nat)(c:D),(D.flat (l ++news))[t]? =some c→∃u:Value,arr'[t]? =some u∧c.one=true∧DRep G.imm w c u):
    ∃G',HR G' B w0 I0 (aM h k ⟨(h k).ver+1,none⟩) (w.setRow L.b arr')∧Ext G w G' (w.setRow L.b arr')∧
     Rep G' (w.setRow L.b arr') (.vec k ((h k).ver+1) L.sz (l ++news)) (.slice (some ⟨L.b,0,none⟩) (l.length+news.length) L.cap)∧
     ∀L',G'.loc k ((h k).ver+1)=some L'→L'.ty=L.ty:=by
 obtain⟨hB,⟨arr0,e0,hb0,hs0⟩,hi⟩:=hr.own k L hL;rw[hb]at hb0;simp only[Option.some.injEq,Obj.cells.injEq]at hb0;obtain⟨rfl,rfl,_⟩:=hb0;have hn:=hr.none_next k;have hlk:G.lim k<(h k).ver+1:=by rw[hr.lim];omega
 have hszA:∀x∈l ++news,x.cells.length=L.sz:=by
  intro x hx;rcases List.mem_append.1 hx with hx|hx
  ·exact hsz x hx
  ·exact hsz' x hx
 have hfl:(D.flat (l ++news)).length=(l.length+news.length)*L.sz:=by rw[D.flat,dH _ L.sz _ hszA,List.length_append]
 let L1:t7:={L with fr:=(l.length+news.length)*L.sz}
 let G':Gh:=(G.at k ((h k).ver+1) L1).more (fun b o=>b=L.b∧o<(l.length+news.length)*L.sz)
 have hcellb:∀t,(w.setRow L.b arr').cell? ⟨L.b,t,none⟩=arr'[t]? :=fun t=>cell_setRow_same w L.b t _ _ _ _ hb
 have hcell0:∀t,w.cell? ⟨L.b,t,none⟩=arr[t]? :=fun t=>by simp[World.cell?,hb]
 have hex:Ext G w G' (w.setRow L.b arr'):=by
  refine⟨fun _ _ x=> .inl x,(Ext.at (L:=L1) hn hlk w).loc,fun b i x=> ?_,by simp,(Ext.at (L:=L1) hn hlk w).lim,(Ext.at (L:=L1) hn hlk w).nloc,fun _ _ _ x=>x,kU hb⟩;by_cases hbb:b=L.b
  ·subst hbb
   rw[hcellb,hcell0,hold i (by have:=hi i x;omega)]
  ·exact cell_setRow_other w L.b arr' ⟨b,i,none⟩ hbb
 have hL1:G'.loc k ((h k).ver+1)=some L1:=Gh.at_same _ _ _ _
 have key:∀k' L',G'.loc k' (aM h k ⟨(h k).ver+1,none⟩ k').ver=some L'→(k'=k∧L'=L1)∨(k'≠k∧G.loc k' (h k').ver=some L'):=by
  intro k' L' hL;by_cases hk:k'=k
  ·subst hk
   rw[ak]at hL;rw[show G'.loc k' ((h k').ver+1)=some L1 from Gh.at_same _ _ _ _]at hL;exact .inl ⟨rfl,(Option.some.inj hL).symm⟩
  ·rw[am _ _ hk]at hL
   exact .inr ⟨hk,by rw[←Gh.at_ne G L1 (k:=k) (v:=(h k).ver+1) (by simp[hk])];exact hL⟩
 have hU:∃U:Nat→Value,∀t c,(D.flat (l ++news))[t]? =some c→arr'[t]? =some (U t)∧c.one=true∧DRep G.imm w c (U t):=by
  refine⟨fun t=>arr'.getD t undef,fun t c ht=> ?_⟩;obtain⟨u,hu,h1,h2⟩:=hc t c ht;have hg:arr'.getD t undef=u:=by simp[Array.getD_eq_getD_getElem?,hu]
  exact⟨hu.trans (congrArg some hg.symm),h1,by simpa only[hg]using h2⟩
 obtain⟨U,hU⟩:=hU
 refine⟨G',⟨below_setRow hr.below hB _,by simpa using hr.bsz, ?_,fun b o x=> .inl (hr.i0 b o x), ?_, ?_, ?_, ?_, ?_,fun k'=>by
  by_cases hk:k'=k
  ·subst hk;rw[ak];exact ak _ _ _
  ·rw[am _ _ hk];exact(am _ _ hk).trans (hr.lim k'),hr.maps.set hex rfl (kW w hb) (by omega) (by first|exact jz|exact kH)⟩,hex, ?_,fun L' hL'=>by rw[hL1]at hL';cases hL';rfl⟩
 ·rintro b o (x|⟨rfl,_⟩)
  ·simpa using hr.immlt b o x
  ·simpa using hr.blt hL
 ·rintro b o (x|⟨rfl,_⟩) hbB
  ·exact hr.immlow b o x hbB
  ·omega
 ·intro k' v L' hL'
  by_cases hk:k'=k∧v=(h k).ver+1
  ·obtain⟨rfl,rfl⟩:=hk;simp[aM]
  ·rw[show G'.loc k' v=G.loc k' v from Gh.at_ne _ _ hk]at hL'
   have:=hr.fresh k' v L' hL';by_cases hk':k'=k
   ·subst hk';rw[ak];show v≤_+1;omega
   ·rw[am _ _ hk'];exact this
 ·intro k' L' hL'
  rcases key k' L' hL' with ⟨rfl,rfl⟩|⟨hk,hL'⟩
  ·refine⟨hB,⟨arr',e,setRow_heap w _ _ _ _ _ hb,by rw[hs];exact hs0.1,hs0.2⟩, ?_⟩
   rintro o (x|⟨_,x⟩)
   ·have:=hi o x
    show o<(l.length+news.length)*L.sz;rw[Nat.add_mul];omega
   ·exact x
  ·have hbb:L'.b≠L.b:=fun hbb=>hk (hr.dis k' k L' L hL' hL hbb)
   obtain⟨h1,⟨a1,e1,h2,h3⟩,h4⟩:=hr.own k' L' hL';refine⟨h1,⟨a1,e1,by rw[setRow_other w _ _ _ hbb];exact h2,h3⟩, ?_⟩;rintro o (x|⟨x,_⟩)
   ·exact h4 o x
   ·exact absurd x hbb
 ·intro k1 k2 L2 L3 hL2 hL3 hbb
  rcases key k1 L2 hL2 with ⟨h1e,h1L⟩|⟨hk1,hM2⟩<;>rcases key k2 L3 hL3 with ⟨h2e,h2L⟩|⟨hk2,hM3⟩
  ·rw[h1e,h2e]
  ·subst h1L;rw[h1e];exact hr.dis _ _ L L3 hL hM3 hbb
  ·subst h2L;rw[h2e];exact hr.dis _ _ L2 L hM2 hL hbb
  ·exact hr.dis k1 k2 L2 L3 hM2 hM3 hbb
 ·intro k' ob ho'
  by_cases hk:k'=k
  ·subst hk;rw[ak]at ho';cases ho'
  ·rw[am _ _ hk]at ho' ⊢
   refine(hr.objs k' ob ho').mono (hr.le k') hex (fun L' hL' t=>cell_setRow_other w L.b arr' ⟨L'.b,t,none⟩ (fun hbb=>hk (hr.dis k' k L' L hL' hL hbb)))
 ·have hv:=Rep.vec (w:=w.setRow L.b arr') k ((h k).ver+1) (l ++news) L1 hL1 (by simp[L1]) (by simpa [L1]using hcap) hszA (.ro (l ++news) L.b 0 L.cap L.sz U (by simpa using hcap) hszA (fun x hx=>by
      obtain⟨t,ht⟩:=List.getElem?_of_mem hx
      exact(hU t x ht).2.1) (fun t c ht=>by
       have:t<(D.flat (l ++news)).length:=(List.getElem?_eq_some_iff.1 ht).1
       exact .inr ⟨rfl,by omega⟩) (fun t c ht=>by
        rw[Nat.zero_add,hcellb];exact(hU t c ht).1) (fun t c ht=>(hU t c ht).2.2.mono hex.imm hex.cell))
  rw[List.length_append]at hv;exact hv
theorem HR.newImm(hr:HR G B w0 I0 h w)(l:List D)(sz cap:Nat)(arr:Array Value)(e:TypeId){fz:Nat×Nat}(hcap:l.length≤cap)(hsz:∀x∈l,x.cells.length=sz)
    (hc:∀(t:Nat)(c:D),(D.flat l)[t]? =some c→∃u:Value,arr[t]? =some u∧c.one=true∧DRep G.imm w c u):
    ∃G',HR G' B w0 I0 h (w.alloc (.cells arr e fz))∧Ext G w G' (w.alloc (.cells arr e fz))∧DRep G'.imm (w.alloc (.cells arr e fz)) (.ro l) (.slice (some ⟨w.heap.size,0,none⟩) l.length cap):=by
 let G':Gh:=G.more (fun b _=>b=w.heap.size)
 have hex:Ext G w G' (w.alloc (.cells arr e fz)):=
  ⟨fun _ _ x=> .inl x,fun _ _ _ x=>x,fun b i hb=>cj (hr.immlt b i hb),by simp,fun _=>Nat.le_refl _,fun _ _ _ x=>x,fun _ _ _ x=>x,jV w _⟩
 have hU:∃U:Nat→Value,∀t c,(D.flat l)[t]? =some c→arr[t]? =some (U t)∧c.one=true∧DRep G.imm w c (U t):=by
  refine⟨fun t=>arr.getD t undef,fun t c ht=> ?_⟩;obtain⟨u,hu,h1,h2⟩:=hc t c ht;have hg:arr.getD t undef=u:=by simp[Array.getD_eq_getD_getElem?,hu]
  exact⟨hu.trans (congrArg some hg.symm),h1,by simpa only[hg]using h2⟩
 obtain⟨U,hU⟩:=hU;refine⟨G',⟨hr.below.alloc hr.bsz _,by have:=hr.bsz;simp;omega, ?_,fun b o x=> .inl (hr.i0 b o x), ?_,hr.fresh, ?_,hr.dis, ?_,hr.lim,hr.maps.step hex rfl (jW w _) (fun _=>Nat.le_refl _) (fun _ _ _ _=>rfl)⟩,hex, ?_⟩
 ·rintro b o (x|rfl)
  ·have:=hr.immlt b o x;simp;omega
  ·simp
 ·rintro b o (x|rfl) hb
  ·exact hr.immlow b o x hb
  ·have:=hr.bsz;omega
 ·intro k' L' hL'
  obtain⟨h1,⟨arr',e',h2,h3⟩,h4⟩:=hr.own k' L' hL';refine⟨h1,⟨arr',e',(dh (hr.blt hL')).trans h2,h3⟩, ?_⟩;rintro o (x|x)
  ·exact h4 o x
  ·have:=hr.blt hL';omega
 ·intro k' ob ho
  exact(hr.objs k' ob ho).mono (hr.le k') hex (fun L hL t=>cj (hr.blt hL))
 ·refine .ro l _ 0 cap sz U hcap hsz (fun x hx=> ?_) (fun t c ht=> .inr rfl) ?_ (fun t c ht=>(hU t c ht).2.2.mono hex.imm hex.cell)
  ·obtain⟨t,ht⟩:=List.getElem?_of_mem hx
   exact(hU t x ht).2.1
  ·intro t c ht
   rw[Nat.zero_add,show(w.alloc (.cells arr e fz)).cell? ⟨w.heap.size,t,none⟩=arr[t]? from by rw[World.cell?,heap_alloc_new];rfl];exact(hU t c ht).1
theorem HR.bump(hr:HR G B w0 I0 h w)(k:Nat)(ob:Option Ob)(hob:∀o,ob=some o→∃sz,o= .arr sz []):
    ∃G',HR G' B w0 I0 (aM h k ⟨(h k).ver+1,ob⟩) w∧Ext G w G' w∧G'.loc k ((h k).ver+1)=none:=by
 have hn:=hr.none_next k
 have key:∀k' L',G.loc k' (aM h k ⟨(h k).ver+1,ob⟩ k').ver=some L'→k'≠k∧G.loc k' (h k').ver=some L':=by
  intro k' L' hL;by_cases hk:k'=k
  ·subst hk;rw[ak]at hL;simp only[hn]at hL;cases hL
  ·rw[am _ _ hk]at hL;exact⟨hk,hL⟩
 let G':Gh:={G with lim:=aM G.lim k ((h k).ver+1)}
 have hex:Ext G w G' w:=⟨fun _ _ x=>x,fun _ _ _ x=>x,fun _ _ _=>rfl,Nat.le_refl _,fun k'=>by
  by_cases hk:k'=k
  ·subst hk;show _≤aM G.lim k' _ k';rw[ak,hr.lim];omega
  ·show _≤aM G.lim k _ k';rw[am _ _ hk];exact Nat.le_refl _,fun _ _ _ x=>x,fun _ _ _ x=>x,eH rfl⟩
 refine⟨G',⟨hr.below,hr.bsz,hr.immlt,hr.i0,hr.immlow, ?_,fun k' L' x=>hr.own k' L' (key k' L' x).2,fun k1 k2 L1 L2 x1 x2=>hr.dis k1 k2 L1 L2 (key _ _ x1).2 (key _ _ x2).2, ?_,fun k'=>by
  by_cases hk:k'=k
  ·subst hk;rw[ak];exact ak _ _ _
  ·rw[am _ _ hk];exact(am _ _ hk).trans (hr.lim k'),hr.maps.set hex rfl (fun _ _ _ x=>x) (by omega) (fun o hf e=>by obtain⟨sz,rfl⟩:=hob _ e;cases hf)⟩,hex,hn⟩
 ·intro k' v L' x
  have:=hr.fresh k' v L' x;by_cases hk:k'=k
  ·subst hk;rw[ak];show v≤_+1;omega
  ·rw[am _ _ hk];exact this
 ·intro k' o ho
  by_cases hk:k'=k
  ·subst hk
   rw[ak]at ho ⊢;obtain⟨sz,rfl⟩:=hob o ho;exact .inl ⟨rfl,hn⟩
  ·rw[am _ _ hk]at ho ⊢
   exact(hr.objs k' o ho).mono (hr.le k') hex (fun _ _ _=>rfl)
end
end Go.Avm
namespace Go.Avm
open Go.RowKit
variable[aJ]
section
variable{P:Program}{G:Gh}{B:Nat}{w0 w:World}{I0:Nat→Nat→Prop}{h:ab}
theorem Rep.lone{x:AV}{v:Value}(hr:Rep G w x v)(h1:v.oneCell'=true):x.lone=true:=by
 cases hr with
 |d h=>cases h<;>first|rfl|(simp[Value.oneCell']at h1)
 |agg=>simp[Value.oneCell']at h1
 |_=>rfl
theorem nD(v:Value):Rep G w (CF v) v:=by
 unfold CF;split<;>first|exact .d (.bool _)|exact .d (.int _ _)|exact .d (.str _ _ rfl)|exact .d .nilp|exact .d .nili|exact .nils|exact .junk _
theorem f9{cs:Array Value}{l:List AV}(hc:kI cs=some l):cs.size=l.length∧(∀(i:Nat)(u:Value),cs[i]? =some u→u.oneCell'=true)∧
    ∀(i:Nat)(c:AV)(u:Value),l[i]? =some c→cs[i]? =some u→Rep G w c u:=by
 unfold kI at hc;split at hc
 ·rename_i hall
  simp only[Option.some.injEq]at hc;subst hc;refine⟨by simp,fun i u hu=> ?_,fun i c u hc hu=> ?_⟩
  ·have:=List.all_eq_true.1 hall u (by rw[Array.mem_toList_iff];exact Array.mem_of_getElem? hu)
   exact this
  ·simp only[List.getElem?_map,Array.getElem?_toList,hu,Option.map_some,Option.some.injEq]at hc
   subst hc;exact nD u
 ·cases hc
theorem oZ:∀{cs:List AV}{ds:List D},nt cs=some ds→cs=ds.map .d∧∀c∈ds,c.one=true
 |[],ds,h=>by simp only[nt,Option.some.injEq]at h;subst h;simp
 | .d x::r,ds,h=>by
  simp only[nt]at h;split at h
  ·rename_i hx
   simp only[Option.map_eq_some_iff]at h;obtain⟨ds',h',rfl⟩:=h;obtain⟨e,h1⟩:=oZ h';refine⟨by simp[e],fun c hc=> ?_⟩;rcases List.mem_cons.1 hc with rfl|hc
   ·exact hx
   ·exact h1 c hc
  ·cases h
 | .junk::_,_,h=>by simp[nt]at h
 | .nils::_,_,h=>by simp[nt]at h
 | .es::_,_,h=>by simp[nt]at h
 | .vec _ _ _ _::_,_,h=>by simp[nt]at h
 | .sl _ _ _ _ _::_,_,h=>by simp[nt]at h
 | .ptr _ _ _ _ _::_,_,h=>by simp[nt]at h
 | .agg _::_,_,h=>by simp[nt]at h
 | .tup _::_,_,h=>by simp[nt]at h
 | .fn _ _::_,_,h=>by simp[nt]at h
theorem Rep.toDRep{x:D}{v:Value}(hr:Rep G w (.d x) v):DRep G.imm w x v:=by cases hr with|d h=>exact h
theorem jD{cs:List AV}{vs:Array Value}(hl:vs.size=cs.length)(h1:∀(i:Nat)(u:Value),vs[i]? =some u→u.oneCell'=true)
    (hr:∀(i:Nat)(c:AV)(u:Value),cs[i]? =some c→vs[i]? =some u→Rep G w c u):Rep G w (iB cs) (.agg vs):=by
 unfold iB;split
 ·rename_i ds hds
  obtain⟨rfl,ho⟩:=oZ hds;refine .d (.agg ds vs (by simpa using hl) ho (fun i c u hc hu=> ?_));exact(hr i (.d c) u (by simp[hc]) hu).toDRep
 ·exact .agg cs vs hl h1 hr
theorem gO{cs:List AV}:(iB cs).cells=cs:=by
 unfold iB;split
 ·rename_i ds hds
  obtain⟨rfl,_⟩:=oZ hds;rfl
 ·rfl
theorem nE(v:Value):Rep G w (HF v) v:=by
 cases v with
 |agg cs=>
  simp only[HF];split
  ·rename_i l hl
   obtain⟨h1,h2,h3⟩:=f9 (G:=G) (w:=w) hl;exact jD h1 h2 h3
  ·exact .junk _
 |_=>simp only[HF];exact nD _
structure FR(G:Gh)(w:World)(N:Nat)(D:List Deferred)(env:Nat→AV)(a:Act):Prop where
 size:a.tmps.size=N
 nod:a.defers=D
 rep:∀t,t<N→Rep G w (env t) (a.tmps.getD t undef)
 out:∀t,N≤t→env t= .junk
theorem FR.opd{N:Nat}{D:List Deferred}{env:Nat→AV}{a:Act}(hf:FR G w N D env a)(hg:Globs G.imm w)(x:Operand):Rep G w (opd env x) (a.eval x):=by
 cases x with
 |tmp t=>
  by_cases ht:t<N
  ·exact hf.rep t ht
  ·have he:Go.Avm.opd env (.tmp t)= .junk:=hf.out t (Nat.le_of_not_lt ht)
   rw[he];exact .junk _
 |const v=>exact nE v
 |global g=>
  simp only[Go.Avm.opd];split
  ·rename_i cs hc;exact .d (hg g cs hc)
  ·exact .junk _
 |func f=>exact .fn f [] #[] rfl (fun i c u hc _=>by simp at hc)
theorem FR.mono{N:Nat}{D:List Deferred}{env:Nat→AV}{a:Act}{G':Gh}{w':World}(hf:FR G w N D env a)(e:Ext G w G' w'):FR G' w' N D env a:=
 ⟨hf.size,hf.nod,fun t ht=>(hf.rep t ht).mono e,hf.out⟩
theorem FR.put{N:Nat}{D:List Deferred}{env env':Nat→AV}{a:Act}(hf:FR G w N D env a){dst:Option Nat}{x:AV}{v:Value}(hp:dS N env dst x=some env')(hr:Rep G w x v):FR G w N D env' (a.put dst v):=by
 cases dst with
 |none=>simp only[dS,Option.some.injEq]at hp;subst hp;exact hf
 |some d=>
  simp only[dS]at hp;split at hp
  ·rename_i hd
   simp only[Option.some.injEq]at hp;subst hp;refine⟨by simp[Act.put,hf.size],hf.nod,fun t ht=> ?_,fun t ht=> ?_⟩
   ·simp only[Act.put,Array.getD_eq_getD_getElem?,Array.getElem?_setIfInBounds]
    by_cases htd:d=t
    ·subst htd
     simp only[ak,if_true,hf.size,hd,Option.getD_some];exact hr
    ·rw[if_neg htd,am _ _ (fun e=>htd e.symm)]
     have:=hf.rep t ht;rwa [Array.getD_eq_getD_getElem?]at this
   ·rw[am _ _ (by omega)];exact hf.out t ht
  ·cases hp
def Good(P:Program)(B:Nat)(w0:World)(I0:Nat→Nat→Prop)(G:Gh)(h:ab)(w:World)(r:Result Next)(out:Out):Prop:=
 ∃v w' G',(r= .ok (.value v) w'∨(r= .ok .skip w'∧v=undef))∧Ext G w G' w'∧HR G' B w0 I0 (aq h out.wr) w'∧Rep G' w' out.val v
theorem Good.pure(hr:HR G B w0 I0 h w){v:Value}{r:Result Next}{out:Out}(e:r= .ok (.value v) w)(hw:out.wr=[])(hv:Rep G w out.val v):Good P B w0 I0 G h w r out:=
 ⟨v,w,G, .inl e,Ext.refl G w,by rw[hw];exact hr,hv⟩
theorem iD{t:TypeId}{d:TypeDesc}(hu:P.underlying t=some d):∃i,P.info? t=some i:=by
 unfold Program.underlying at hu;split at hu<;>simp_all
theorem pQ{t:TypeId}{d:TypeDesc}(hu:P.underlying t=some d)(w:World):(sizeOf t).run P w= .ok (P.cellsOf t) w:=by
 obtain⟨i,hi⟩:=iD hu;simp[sizeOf,typeInfo,hi,Program.cellsOf]
theorem jX{t:TypeId}{b:Bool}(ha:ml P t=some b)(w:World):(isAgg t).run P w= .ok b w:=by
 simp only[ml,Option.map_eq_some_iff]at ha;obtain⟨d,hd,rfl⟩:=ha;simp only[isAgg,Sem.run_bind,run_underlying hd,Result.andThen_ok];cases d<;>rfl
theorem xy{t:TypeId}{b:Bool}(ha:ml P t=some b):∃d,P.underlying t=some d:=by
 simp only[ml,Option.map_eq_some_iff]at ha;obtain⟨d,hd,_⟩:=ha;exact⟨d,hd⟩
theorem cO{t:TypeId}{z:Value}(hz:eg P t=some z)(w:World):(zeroValue t).run P w= .ok z w:=by
 unfold eg at hz;cases hi:P.info? t with
 |none=>simp[hi]at hz
 |some i=>
  simp only[hi,Option.bind_some]at hz;simp[zeroValue,typeInfo,hi,hz]
theorem ei(b o n:Nat):(⟨b,o,none⟩:Addr).add n=⟨b,o+n,none⟩:=by unfold Addr.add;split<;>simp_all
theorem t8(hr:HR G B w0 I0 h w){a:AV}{va:Value}(ha:Rep G w a va){n:Nat}{cs:List AV}{ks:List Nat}(hc:ii h a n=some (cs,ks)):
    ∃b o,va= .pointer (some ⟨b,o,none⟩)∧cs.length=n∧∀(j:Nat)(c:AV),cs[j]? =some c→∃u,w.cell? ⟨b,o+j,none⟩=some u∧u.oneCell'=true∧Rep G w c u:=by
 unfold ii at hc;split at hc
 ·rename_i ds
  split at hc
  ·rename_i hn
   simp only[Option.some.injEq,Prod.mk.injEq]at hc;obtain⟨rfl,rfl⟩:=hc;cases ha with
   |d hd=>
    cases hd with
    |rp _ b o U h1 hi hc hr'=>
     refine⟨b,o,rfl,by simp;omega,fun j c hj=> ?_⟩;simp only[List.getElem?_map,Option.map_eq_some_iff]at hj;obtain⟨y,hy,rfl⟩:=hj
     have hy':ds[j]? =some y:=by
      rw[List.getElem?_take]at hy;split at hy
      ·exact hy
      ·cases hy
     have:=hr' j y hy';exact⟨U j,hc j y hy',this.oneCell (h1 y (List.mem_of_getElem? hy')), .d this⟩
  ·cases hc
 ·rename_i k v i off sz0
  split at hc
  ·rename_i sz es hob
   split at hc
   ·rename_i hv
    subst hv;cases ha with
    |ptr _ _ _ _ L hL=>
     have hobr:=hr.objs k _ hob;split at hc
     ·rename_i hsz
      subst hsz;split at hc
      ·rename_i hin
       obtain⟨rfl,hin⟩:=hin;simp only[Option.some.injEq,Prod.mk.injEq]at hc;obtain⟨rfl,rfl⟩:=hc;refine⟨L.b,i*L.sz+0,rfl,by simp;omega,fun j c hj=> ?_⟩;rw[List.getElem?_take]at hj;split at hj
       ·rename_i hjn
        rw[List.getElem?_drop]at hj;rcases hobr with ⟨rfl,hLn⟩|⟨L',hL',h1,h2,h3,h4,h6,h5⟩
        ·simp at hj
        ·rw[hL]at hL'
         simp only[Option.some.injEq]at hL';subst hL';have hlone:=h6 rfl c (List.mem_of_getElem? hj)
         have hfl:(AV.flat es)[(i+j)*1+0]? =some c:=by
          rw[AV.flat,bJ _ 1 es h4 (i+j) 0 (by omega),hj,Option.bind_some,AV.cells_lone hlone];rfl
         obtain⟨u,hu,hu1,hur⟩:=h5 _ c hfl;refine⟨u, ?_,hu1,hur⟩;rw[←hu,h1];congr 2;omega
       ·cases hj
      ·cases hc
     ·split at hc
      ·rename_i e he
       split at hc
       ·rename_i hoff
        simp only[Option.some.injEq,Prod.mk.injEq]at hc;obtain⟨rfl,rfl⟩:=hc;rcases hobr with ⟨rfl,hLn⟩|⟨L',hL',h1,h2,h3,h4,h6,h5⟩
        ·simp at he
        ·rw[hL]at hL'
         simp only[Option.some.injEq]at hL';subst hL';have hel:=h4 e (List.mem_of_getElem? he);refine⟨L.b,i*L.sz+off,rfl,by simp;omega,fun j c hj=> ?_⟩;rw[List.getElem?_take]at hj;split at hj
         ·rename_i hjn
          rw[List.getElem?_drop]at hj
          have hfl:(AV.flat es)[i*sz+(off+j)]? =some c:=by
           rw[AV.flat,bJ _ sz es h4 i (off+j) (by omega),he,Option.bind_some,hj]
          obtain⟨u,hu,hu1,hur⟩:=h5 _ c hfl;refine⟨u, ?_,hu1,hur⟩;rw[←hu,h1];congr 2;omega
         ·cases hj
       ·cases hc
      ·cases hc
   ·cases hc
  ·cases hc
 ·cases hc
theorem pR{α:Type}{p:Nat→α→Prop}:∀(n:Nat),(∀i,i<n→∃x,p i x)→∃l:List α,l.length=n∧∀(i:Nat)(x:α),l[i]? =some x→p i x
 |0,_=>⟨[],rfl,by simp⟩
 |n+1,hp=>by
  obtain⟨l,hl,hx⟩:=pR n (fun i hi=>hp i (by omega));obtain⟨x,hpx⟩:=hp n (by omega);refine⟨l ++[x],by simp[hl],fun i y hy=> ?_⟩;rw[List.getElem?_append]at hy;split at hy
  ·exact hx i y hy
  ·rename_i hlt
   have:i=n:=by
    have:=(List.getElem?_eq_some_iff.1 hy).1;simp at this;omega
   subst this;simp[hl]at hy;subst hy;exact hpx
theorem zz{cs:List AV}{b o:Nat}(hx:∀(j:Nat)(c:AV),cs[j]? =some c→∃u,w.cell? ⟨b,o+j,none⟩=some u∧u.oneCell'=true∧Rep G w c u):
    ∃us:List Value,us.length=cs.length∧(∀(j:Nat)(u:Value),us[j]? =some u→w.cell? ⟨b,o+j,none⟩=some u∧u.oneCell'=true)∧
     (∀(j:Nat)(c:AV)(u:Value),cs[j]? =some c→us[j]? =some u→Rep G w c u)∧(loadCells ⟨b,o,none⟩ cs.length).run P w= .ok us.toArray w:=by
 obtain⟨us,hl,hu⟩:=pR (p:=fun j u=>w.cell? ⟨b,o+j,none⟩=some u∧u.oneCell'=true∧∀c,cs[j]? =some c→Rep G w c u) cs.length (fun j hj=>by
  obtain⟨u,h1,h2,h3⟩:=hx j cs[j] (List.getElem?_eq_getElem hj);exact⟨u,h1,h2,fun c hc=>by rw[List.getElem?_eq_getElem hj]at hc;simp at hc;subst hc;exact h3⟩)
 refine⟨us,hl,fun j u h=>⟨(hu j u h).1,(hu j u h).2.1⟩,fun j c u hc h=>(hu j u h).2.2 c hc, ?_⟩;rw[←hl];exact run_loadCells_list w ⟨b,o,none⟩ us (fun j u h=>by rw[ei];exact(hu j u h).1)
theorem jY(hr:HR G B w0 I0 h w){t:TypeId}{a:AV}{va:Value}(ha:Rep G w a va){out:Out}(ho:fq P t a h=some out):
    ∃v,(Instr.loadAt t va).run P w= .ok v w∧out.wr=[]∧out.ob=[]∧Rep G w out.val v:=by
 unfold fq at ho;split at ho
 ·rename_i hagg
  simp only[Option.map_eq_some_iff]at ho;obtain⟨⟨cs,ks⟩,hc,rfl⟩:=ho;obtain⟨b,o,rfl,hl,hx⟩:=t8 hr ha hc;obtain⟨us,hul,hu1,hur,hload⟩:=zz (P:=P) hx;obtain⟨d,hd⟩:=xy hagg;refine⟨.agg us.toArray, ?_,rfl,rfl,jD (by simpa using hul) (fun i u hu=>(hu1 i u (by simpa using hu)).2) (fun i c u hc' hu=>hur i c u hc' (by simpa using hu))⟩;rw[hl]at hload;simp[Instr.loadAt,Instr.sureAddr,loadVar,jX hagg,pQ hd,hload]
 ·rename_i hagg
  have hrun:∀(b o:Nat)(u:Value),va= .pointer (some ⟨b,o,none⟩)→w.cell? ⟨b,o,none⟩=some u→(Instr.loadAt t va).run P w= .ok u w:=by
   rintro b o u rfl hu;simp[Instr.loadAt,Instr.sureAddr,loadVar,jX hagg,hu]
  split at ho
  ·rename_i c cs
   simp only[Option.some.injEq]at ho;subst ho;cases ha with
   |d hd=>
    cases hd with
    |rp _ b o U h1 hi hc hr'=>
     exact⟨U 0,hrun b o _ rfl (hc 0 c rfl),rfl,rfl, .d (hr' 0 c rfl)⟩
  ·rename_i k v i off sz0
   split at ho
   ·rename_i sz es hob
    split at ho
    ·rename_i hv
     subst hv
     have hcell:∀(c:AV),(sz=1∧off=0∧es[i]? =some c)∨(sz≠1∧∃e,es[i]? =some e∧e.cells[off]? =some c)→∃v,(Instr.loadAt t va).run P w= .ok v w∧Rep G w c v:=by
      intro c hcase;cases ha with
      |ptr _ _ _ _ L hL=>
       rcases hr.objs k _ hob with ⟨rfl,hLn⟩|⟨L',hL',h1,h2,h3,h4,h6,h5⟩
       ·rcases hcase with ⟨_,_,hcase⟩|⟨_,e,hcase,_⟩<;>simp at hcase
       ·rw[hL]at hL'
        simp only[Option.some.injEq]at hL';subst hL'
        have hfl:(AV.flat es)[i*sz+off]? =some c:=by
         rcases hcase with ⟨rfl,rfl,he⟩|⟨_,e,he,hc⟩
         ·rw[AV.flat,bJ _ 1 es h4 i 0 (by omega),he,Option.bind_some,AV.cells_lone (h6 rfl c (List.mem_of_getElem? he))];rfl
         ·have hlt:=(List.getElem?_eq_some_iff.1 hc).1
          rw[h4 e (List.mem_of_getElem? he)]at hlt;rw[AV.flat,bJ _ sz es h4 i off hlt,he,Option.bind_some,hc]
        obtain⟨u,hu,_,hur⟩:=h5 _ c hfl;exact⟨u,hrun L.b (i*L.sz+off) u rfl (by rw[h1];exact hu),hur⟩
     split at ho
     ·split at ho
      ·rename_i hs hoff
       simp only[Option.map_eq_some_iff]at ho;obtain⟨x,hx,rfl⟩:=ho;obtain⟨v,h1,h2⟩:=hcell x (.inl ⟨hs,hoff,hx⟩);exact⟨v,h1,rfl,rfl,h2⟩
      ·cases ho
     ·split at ho
      ·rename_i hs _ e he
       simp only[Option.map_eq_some_iff]at ho;obtain⟨x,hx,rfl⟩:=ho;obtain⟨v,h1,h2⟩:=hcell x (.inr ⟨hs,e,he,hx⟩);exact⟨v,h1,rfl,rfl,h2⟩
      ·cases ho
    ·cases ho
   ·cases ho
  ·cases ho
 ·cases ho
end
end Go.Avm
namespace Go.Avm
open Go.RowKit
variable[aJ]
section
variable{P:Program}{G:Gh}{B:Nat}{w0 w:World}{I0:Nat→Nat→Prop}{h:ab}
theorem DRep.one_of{imm:Nat→Nat→Prop}{x:D}{v:Value}(hd:DRep imm w x v)(h1:v.oneCell'=true):x.one=true:=by
 cases hd<;>first|rfl|(simp[Value.oneCell']at h1)
theorem DRep.cells{imm:Nat→Nat→Prop}{x:D}{v:Value}(hd:DRep imm w x v):x.cells.length=v.cells.size∧(∀c∈x.cells,c.one=true)∧
    ∀(i:Nat)(c:D)(u:Value),x.cells[i]? =some c→v.cells[i]? =some u→DRep imm w c u:=by
 have single:∀(y:D)(u:Value),DRep imm w y u→y.one=true→y.cells=[y]→u.cells= #[u]→
     y.cells.length=u.cells.size∧(∀c∈y.cells,c.one=true)∧∀(i:Nat)(c:D)(t:Value),y.cells[i]? =some c→u.cells[i]? =some t→DRep imm w c t:=by
  intro y u hr h1 hy hu;rw[hy,hu];refine⟨rfl,fun t ht=> ?_,fun i c t hc ht=> ?_⟩
  ·simp at ht;subst ht;exact h1
  ·cases i with
   |zero=>simp at hc ht;subst hc;subst ht;exact hr
   |succ i=>simp at hc
 cases hd with
 |agg cs vs hl h1 h=>exact⟨by simp[D.cells,Value.cells,hl],h1,h⟩
 |bool b=>exact single _ _ (.bool b) rfl rfl rfl
 |int k n=>exact single _ _ (.int k n) rfl rfl rfl
 |str l s h=>exact single _ _ (.str l s h) rfl rfl rfl
 |nilp=>exact single _ _ .nilp rfl rfl rfl
 |nili=>exact single _ _ .nili rfl rfl rfl
 |ifc t v=>exact single _ _ (.ifc t v) rfl rfl rfl
 |roNil ao c=>exact single _ _ (.roNil ao c) rfl rfl rfl
 |ro l b o c sz U hcap hsz h1 hi hc hr=>exact single _ _ (.ro l b o c sz U hcap hsz h1 hi hc hr) rfl rfl rfl
 |rp cs b o U h1 hi hc hr=>exact single _ _ (.rp cs b o U h1 hi hc hr) rfl rfl rfl
theorem eZ{v:Value}(h1:v.oneCell'=true):v.cells= #[v]:=by cases v<;>first|rfl|(simp[Value.oneCell']at h1)
theorem Rep.of_cells{e:AV}(us:Nat→Value)(hu:∀(j:Nat)(c:AV),e.cells[j]? =some c→(us j).oneCell'=true∧Rep G w c (us j)):
    ∃v,Rep G w e v∧v.cells.size=e.cells.length∧∀j,j<e.cells.length→v.cells[j]? =some (us j):=by
 by_cases hl:e.lone=true
 ·have hc:=AV.cells_lone hl
  obtain⟨h1,h2⟩:=hu 0 e (by simp[hc]);refine⟨us 0,h2,by rw[eZ h1,hc];rfl,fun j hj=> ?_⟩;rw[hc]at hj;have:j=0:=by simp at hj;omega
  subst this;rw[eZ h1];rfl
 ·have key:∀n,∃vs:Array Value,vs.size=n∧∀j,j<n→vs[j]? =some (us j):=fun n=>⟨((List.range n).map us).toArray,by simp,fun j hj=>by simp[List.getElem?_range hj]⟩
  obtain⟨vs,hvs,hvj⟩:=key e.cells.length;refine⟨.agg vs, ?_,by simp[Value.cells,hvs],by simpa [Value.cells]using hvj⟩;cases e with
  |agg cs=>
   refine .agg cs vs (by simpa [AV.cells]using hvs) (fun i u hi=> ?_) (fun i c u hc hi=> ?_)
   ·have hlt:i<vs.size:=(Array.getElem?_eq_some_iff.1 hi).1
    rw[hvs]at hlt;rw[hvj i hlt]at hi;simp only[Option.some.injEq]at hi;subst hi;exact(hu i _ (List.getElem?_eq_getElem hlt)).1
   ·have hlt:i<(AV.agg cs).cells.length:=(List.getElem?_eq_some_iff.1 hc).1
    rw[hvj i hlt]at hi;simp only[Option.some.injEq]at hi;subst hi;exact(hu i c hc).2
  |d y=>
   cases y with
   |agg cs=>
    refine .d (.agg cs vs (by simpa [AV.cells]using hvs) (fun c hc=> ?_) (fun i c u hc hi=> ?_))
    ·obtain⟨i,hi⟩:=List.getElem?_of_mem hc
     obtain⟨h1,h2⟩:=hu i (.d c) (by simp[AV.cells,hi]);exact h2.toDRep.one_of h1
    ·have hlt:i<(AV.d (.agg cs)).cells.length:=by simp[AV.cells];exact(List.getElem?_eq_some_iff.1 hc).1
     rw[hvj i hlt]at hi;simp only[Option.some.injEq]at hi;subst hi;exact(hu i (.d c) (by simp[AV.cells,hc])).2.toDRep
   |_=>simp[AV.lone]at hl
  |_=>simp[AV.lone]at hl
theorem jc{n:Nat}:∀{xs:List AV}{ys:List D}{ks:List Nat},view.go n h xs=some (ys,ks)→ys.length=xs.length∧
    ∀(i:Nat)(x:AV),xs[i]? =some x→∃y k',ys[i]? =some y∧view n h x=some (y,k')∧∀k∈k',k∈ks
 |[],ys,ks,hg=>by simp[fI]at hg;obtain⟨rfl,rfl⟩:=hg;simp
 |x::r,ys,ks,hg=>by
  simp only[fI]at hg;split at hg
  ·rename_i a b ha hb
   simp only[Option.some.injEq,Prod.mk.injEq]at hg;obtain⟨rfl,rfl⟩:=hg;obtain⟨hl,hi⟩:=jc (ys:=b.1) (ks:=b.2) hb;refine⟨by simp[hl],fun i x' hx=> ?_⟩;cases i with
   |zero=>
    simp only[List.getElem?_cons_zero,Option.some.injEq]at hx;subst hx;exact⟨a.1,a.2,rfl,ha,fun k hk=>List.mem_append_left _ hk⟩
   |succ i=>
    simp only[List.getElem?_cons_succ]at hx;obtain⟨y,k',h1,h2,h3⟩:=hi i x' hx;exact⟨y,k',by simpa using h1,h2,fun k hk=>List.mem_append_right _ (h3 k hk)⟩
  ·cases hg
def dn(G:Gh)(h:ab)(ks:List Nat):Nat→Nat→Prop:=fun b o=>G.imm b o∨rH G h ks b o
theorem ik{ks ks':List Nat}(hs:∀k∈ks,k∈ks'):∀b o,dn G h ks b o→dn G h ks' b o:=by
 rintro b o (x|⟨k,hk,L,hL,hb⟩)
 ·exact .inl x
 ·exact .inr ⟨k,hs k hk,L,hL,hb⟩
theorem D.flat_len{l:List D}{sz:Nat}(hs:∀e∈l,e.cells.length=sz):(D.flat l).length=l.length*sz:=dH _ sz l hs
theorem fw{α β:Type}{f:α→List β}{sz:Nat}{l:List α}(hs:∀e∈l,(f e).length=sz){t:Nat}{c:β}(ht:(l.flatMap f)[t]? =some c):
    ∃i j e,t=i*sz+j∧j<sz∧l[i]? =some e∧(f e)[j]? =some c:=by
 have hlt:=(List.getElem?_eq_some_iff.1 ht).1;rw[dH f sz l hs]at hlt
 have hpos:0<sz:=by
  rcases Nat.eq_zero_or_pos sz with rfl|hp
  ·simp at hlt
  ·exact hp
 have e1:t=(t/sz)*sz+t % sz:=by rw[Nat.mul_comm];exact(Nat.div_add_mod t sz).symm
 have hj:=Nat.mod_lt t hpos;rw[e1,bJ f sz l hs (t/sz) (t % sz) hj]at ht;cases he:l[t/sz]? with
 |none=>simp[he]at ht
 |some e=>rw[he]at ht;exact⟨t/sz,t % sz,e,e1,hj,he,ht⟩
theorem dT(hr:HR G B w0 I0 h w):∀(n:Nat)(x:AV)(v:Value)(y:D)(ks:List Nat),view n h x=some (y,ks)→Rep G w x v→DRep (dn G h ks) w y v:=by
 intro n;induction n with
 |zero=>intro x v y ks hv;simp[view]at hv
 |succ n ih=>
  intro x v y ks hv hx;have up:∀{y:D}{v:Value},DRep G.imm w y v→DRep (dn G h ks) w y v:=fun hd=>hd.mono (fun _ _ x=> .inl x) (fun _ _ _=>rfl)
  have elems:∀(k sz:Nat)(es xs:List AV)(i0:Nat)(L:t7)(ys:List D)(ks':List Nat),(h k).ob=some (.arr sz es)→G.loc k (h k).ver=some L→(∀i x,xs[i]? =some x→es[i0+i]? =some x)→
      view.go n h xs=some (ys,ks')→(∀k'∈ks',k'∈ks)→(xs≠[]→L.sz=sz)∧ys.length=xs.length∧(∀e∈ys,e.cells.length=sz)∧(∀e∈D.flat ys,e.one=true)∧
      ∃U:Nat→Value,∀(t:Nat)(c:D),(D.flat ys)[t]? =some c→w.cell? ⟨L.b,i0*sz+t,none⟩=some (U t)∧DRep (dn G h ks) w c (U t):=by
   intro k sz es xs i0 L ys ks' hob hL hxs hgo hks;obtain⟨hl,hi⟩:=jc hgo;rcases hr.objs k _ hob with ⟨rfl,hLn⟩|⟨L',hL',h1,h2,h3,h4,h6,h5⟩
   ·have hx0:xs=[]:=by
      cases xs with
      |nil=>rfl
      |cons x r=>have:=hxs 0 x rfl;simp at this
    subst hx0;have:ys=[]:=List.eq_nil_of_length_eq_zero (by simpa using hl);subst this;exact⟨fun hne=>absurd rfl hne,hl,by simp,by simp[D.flat],fun _=>undef,by simp[D.flat]⟩
   ·rw[hL]at hL'
    simp only[Option.some.injEq]at hL';subst hL'
    have main:∀(i:Nat)(y:D),ys[i]? =some y→y.cells.length=sz∧(∀c∈y.cells,c.one=true)∧∃us:Nat→Value,∀(j:Nat)(c:D),y.cells[j]? =some c→
        w.cell? ⟨L.b,(i0+i)*sz+j,none⟩=some (us j)∧DRep (dn G h ks) w c (us j):=by
     intro i y hy;have hilt:i<xs.length:=by rw[←hl];exact(List.getElem?_eq_some_iff.1 hy).1
     obtain⟨y',k',hy',hview,hk'⟩:=hi i xs[i] (List.getElem?_eq_getElem hilt);rw[hy]at hy';simp only[Option.some.injEq]at hy';subst hy';have hees:=hxs i _ (List.getElem?_eq_getElem hilt);have hcl:=h4 _ (List.mem_of_getElem? hees)
     obtain⟨us,hus⟩:∃us:Nat→Value,∀(j:Nat)(c:AV),xs[i].cells[j]? =some c→w.cell? ⟨L.b,(i0+i)*sz+j,none⟩=some (us j)∧(us j).oneCell'=true∧Rep G w c (us j):=by
      refine⟨fun j=>(w.cell? ⟨L.b,(i0+i)*sz+j,none⟩).getD undef,fun j c hc=> ?_⟩;have hj:j<sz:=by rw[←hcl];exact(List.getElem?_eq_some_iff.1 hc).1
      have hfl:(AV.flat es)[(i0+i)*sz+j]? =some c:=by rw[AV.flat,bJ _ sz es h4 (i0+i) j hj,hees,Option.bind_some,hc]
      obtain⟨u,hu,hu1,hur⟩:=h5 _ c hfl;simp only[hu,Option.getD_some];exact⟨trivial,hu1,hur⟩
     obtain⟨v,hv,hvs,hvj⟩:=Rep.of_cells (e:=xs[i]) us (fun j c hc=>(hus j c hc).2);have hd:=(ih _ _ _ _ hview hv).mono (ik (fun k hk=>hks k (hk' k hk))) (fun _ _ _=>rfl);obtain⟨hc1,hc2,hc3⟩:=hd.cells;refine⟨by rw[hc1,hvs,hcl],hc2,us,fun j c hc=> ?_⟩
     have hj:j<xs[i].cells.length:=by
      have:=(List.getElem?_eq_some_iff.1 hc).1;rw[hc1,hvs]at this;exact this
     exact⟨(hus j _ (List.getElem?_eq_getElem hj)).1,hc3 j c (us j) hc (hvj j hj)⟩
    have hsz:∀e∈ys,e.cells.length=sz:=fun e he=>by
     obtain⟨i,hi⟩:=List.getElem?_of_mem he;exact(main i e hi).1
    refine⟨fun _=>h1,hl,hsz,fun e he=> ?_,fun t=>(w.cell? ⟨L.b,i0*sz+t,none⟩).getD undef,fun t c ht=> ?_⟩
    ·obtain⟨y,hy,hc⟩:=List.mem_flatMap.1 he
     obtain⟨i,hi⟩:=List.getElem?_of_mem hy;exact(main i y hi).2.1 e hc
    ·obtain⟨i,j,e,rfl,hj,he,hc⟩:=fw hsz ht
     obtain⟨us,hus⟩:=(main i e he).2.2;obtain⟨h7,h8⟩:=hus j c hc;have e2:(i0+i)*sz+j=i0*sz+(i*sz+j):=by rw[Nat.add_mul];omega
     rw[e2]at h7;have hg:(w.cell? ⟨L.b,i0*sz+(i*sz+j),none⟩).getD undef=us j:=by rw[h7];rfl
     exact⟨h7.trans (congrArg some hg.symm),by show DRep _ w c ((w.cell? ⟨L.b,i0*sz+(i*sz+j),none⟩).getD undef);rw[hg];exact h8⟩
  have imm:∀(k:Nat)(L:t7),k∈ks→G.loc k (h k).ver=some L→∀o,dn G h ks L.b o:=fun k L hk hL o=> .inr ⟨k,hk,L,hL,rfl⟩
  unfold view at hv;split at hv
  ·simp only[Option.some.injEq,Prod.mk.injEq]at hv
   obtain⟨rfl,rfl⟩:=hv;exact up hx.toDRep
  ·simp only[Option.some.injEq,Prod.mk.injEq]at hv
   obtain⟨rfl,rfl⟩:=hv;cases hx;exact .roNil _ _
  ·simp only[Option.some.injEq,Prod.mk.injEq]at hv
   obtain⟨rfl,rfl⟩:=hv;cases hx;exact .roNil _ _
  ·simp only[Option.some.injEq,Prod.mk.injEq]at hv
   obtain⟨rfl,rfl⟩:=hv;cases hx with
   |vecNil=>exact .roNil _ _
   |vec k ver l L hL hfr hlen hsz hd=>exact up hd
  ·rename_i k v' off len sz0
   split at hv
   ·rename_i sz es hob
    split at hv
    ·rename_i hc
     obtain⟨rfl,hin⟩:=hc;simp only[Option.map_eq_some_iff,Prod.mk.injEq]at hv;obtain⟨⟨ys,ks'⟩,hgo,rfl,rfl⟩:=hv
     have hget:∀(i:Nat)(x:AV),((es.drop off).take len)[i]? =some x→es[off+i]? =some x:=by
      intro i x hx;rw[List.getElem?_take]at hx;split at hx
      ·rwa [List.getElem?_drop]at hx
      ·cases hx
     have hlen:((es.drop off).take len).length=len:=by simp;omega
     cases hx with
     |slNil=>
      have:=(jc hgo).1;rw[hlen]at this;have:ys=[]:=List.eq_nil_of_length_eq_zero this;subst this;exact .roNil _ _
     |sl _ _ _ _ c L hL hcap hlc=>
      obtain⟨hs,hl,hsz,h1,U,hU⟩:=elems k sz es _ off L ys ks' hob hL hget hgo (fun k' hk'=>List.mem_cons_of_mem _ hk');rw[hlen]at hl;rcases Nat.eq_zero_or_pos len with rfl|hpos
      ·have:ys=[]:=List.eq_nil_of_length_eq_zero hl
       subst this;exact .roNil _ _
      ·have hLs:=hs (by intro hnil;rw[hnil]at hlen;simp at hlen;omega)
       have hd:=DRep.ro (imm:=dn G h (k::ks')) (w:=w) ys L.b (off*L.sz) c sz U (by omega) hsz h1 (fun t d ht=>imm k L (by simp) hL _) (fun t d ht=>by rw[hLs];exact(hU t d ht).1) (fun t d ht=>(hU t d ht).2);rw[hl]at hd;exact hd
    ·cases hv
   ·cases hv
  ·rename_i k v' i off sz0
   split at hv
   ·rename_i sz es hob
    split at hv
    ·rename_i hc
     obtain⟨rfl,rfl,rfl,hin⟩:=hc;simp only[Option.map_eq_some_iff,Prod.mk.injEq]at hv;obtain⟨⟨ys,ks'⟩,hgo,rfl,rfl⟩:=hv;cases hx with
     |ptr _ _ _ _ L hL=>
      obtain⟨hs,hl,hsz,h1,U,hU⟩:=elems k 1 es _ i L ys ks' hob hL (fun j x hx=>by rwa [List.getElem?_drop]at hx) hgo (fun k' hk'=>List.mem_cons_of_mem _ hk')
      have h1':∀e∈ys,e.one=true:=by
       intro e he;cases e with
       |agg cs=>
        obtain⟨hlg,hgi⟩:=jc hgo;obtain⟨j,hj⟩:=List.getElem?_of_mem he;have hjl:j<(es.drop i).length:=by rw[←hlg];exact(List.getElem?_eq_some_iff.1 hj).1
        obtain⟨y',k',hy',hview,_⟩:=hgi j (es.drop i)[j] (List.getElem?_eq_getElem hjl);rw[hj]at hy';simp only[Option.some.injEq]at hy';subst hy';have hees:es[i+j]? =some (es.drop i)[j]:=by rw[←List.getElem?_drop];exact List.getElem?_eq_getElem hjl
        rcases hr.objs k _ hob with ⟨rfl,hLn⟩|⟨L',_,_,_,_,_,h6,_⟩
        ·simp at hees
        ·have hlone:=h6 rfl _ (List.mem_of_getElem? hees)
         exfalso;generalize (es.drop i)[j]=z at hview hlone;cases n with
         |zero=>simp[view]at hview
         |succ n=>
          cases z with
          |d y=>simp only[view,Option.some.injEq,Prod.mk.injEq]at hview;obtain⟨rfl,_⟩:=hview;simp[AV.lone]at hlone
          |agg _=>simp[AV.lone]at hlone
          |sl k v off len sz=>
           simp only[view]at hview;split at hview
           ·split at hview
            ·simp at hview
            ·cases hview
           ·cases hview
          |ptr k v off len sz=>
           simp only[view]at hview;split at hview
           ·split at hview
            ·simp at hview
            ·cases hview
           ·cases hview
          |_=>simp[view]at hview
       |_=>rfl
      have hfl:D.flat ys=ys:=by
       have:∀(l:List D),(∀e∈l,e.one=true)→D.flat l=l:=by
        intro l;induction l with
        |nil=>intro _;rfl
        |cons a r ihr=>
         intro hh;have ha:=hh a (by simp);have hca:a.cells=[a]:=by cases a<;>first|rfl|(simp[D.one]at ha)
         simp only[D.flat,List.flatMap_cons,hca,List.singleton_append]at ihr ⊢;rw[ihr (fun e he=>hh e (by simp[he]))]
       exact this ys h1'
      rw[hfl]at hU;rcases Nat.eq_zero_or_pos (es.drop i).length with hz|hpos
      ·have hy0:ys=[]:=List.eq_nil_of_length_eq_zero (by omega)
       subst hy0;exact .rp [] L.b _ (fun _=>undef) (by simp) (by simp) (by simp) (by simp)
      ·have hLs:=hs (by intro hnil;rw[hnil]at hpos;simp at hpos)
       refine .rp ys L.b (i*L.sz+0) U h1' (fun t d ht=>imm k L (by simp) hL _) (fun t d ht=> ?_) (fun t d ht=>(hU t d ht).2);have:=(hU t d ht).1;rw[hLs];exact this
    ·cases hv
   ·cases hv
  ·rename_i cs
   simp only[Option.map_eq_some_iff,Prod.mk.injEq]at hv;obtain⟨⟨ys,ks'⟩,hgo,rfl,rfl⟩:=hv;obtain⟨hl,hi⟩:=jc hgo;cases hx with
   |agg _ vs hvl h1 hcr=>
    have main:∀(i:Nat)(c:D)(u:Value),ys[i]? =some c→vs[i]? =some u→DRep (dn G h ks') w c u:=by
     intro i c u hc hu;have hilt:i<cs.length:=by rw[←hl];exact(List.getElem?_eq_some_iff.1 hc).1
     obtain⟨y',k',hy',hview,hk'⟩:=hi i cs[i] (List.getElem?_eq_getElem hilt);rw[hc]at hy';simp only[Option.some.injEq]at hy';subst hy';exact(ih _ _ _ _ hview (hcr i _ u (List.getElem?_eq_getElem hilt) hu)).mono (ik hk') (fun _ _ _=>rfl)
    refine .agg ys vs (by rw[hvl,hl]) (fun c hc=> ?_) main;obtain⟨i,hi'⟩:=List.getElem?_of_mem hc;have hilt:i<vs.size:=by rw[hvl,←hl];exact(List.getElem?_eq_some_iff.1 hi').1
    have hu:vs[i]? =some vs[i]:=Array.getElem?_eq_getElem hilt;exact(main i c _ hi' hu).one_of (h1 i _ hu)
  ·cases hv
theorem xz(hr:HR G B w0 I0 h w){n:Nat}{xs:List AV}{ys:List D}{ks:List Nat}(hg:view.go n h xs=some (ys,ks)){vs:Array Value}(hv:vs.size=xs.length)
    (hx:∀(i:Nat)(x:AV)(u:Value),xs[i]? =some x→vs[i]? =some u→Rep G w x u):vs.size=ys.length∧∀(i:Nat)(y:D)(u:Value),ys[i]? =some y→vs[i]? =some u→DRep (dn G h ks) w y u:=by
 obtain⟨hl,hi⟩:=jc hg;refine⟨by rw[hv,hl],fun i y u hy hu=> ?_⟩;have hilt:i<xs.length:=by rw[←hl];exact(List.getElem?_eq_some_iff.1 hy).1
 obtain⟨y',k',hy',hview,hk'⟩:=hi i xs[i] (List.getElem?_eq_getElem hilt);rw[hy]at hy';simp only[Option.some.injEq]at hy';subst hy';exact(dT hr n _ _ _ _ hview (hx i _ u (List.getElem?_eq_getElem hilt) hu)).mono (ik hk') (fun _ _ _=>rfl)
theorem CG{x:AV}{v:Value}{y:D}(ht:vO x=some y)(hx:Rep G w x v):DRep G.imm w y v:=by
 have lst:∀(l:List AV)(ys:List D),vO.go l=some ys→ys.length=l.length∧∀(i:Nat)(x:AV)(u:Value),l[i]? =some x→Rep G w x u→∃y,ys[i]? =some y∧y.one=true∧DRep G.imm w y u:=by
  intro l;induction l with
  |nil=>intro ys hg;simp[vO.go]at hg;subst hg;simp
  |cons a r ih=>
   intro ys hg
   have step:∀(y:D),vO.go (a::r)=(vO.go r).map (y:: ·)→y.one=true→(∀u,Rep G w a u→DRep G.imm w y u)→
       ys.length=(a::r).length∧∀(i:Nat)(x:AV)(u:Value),(a::r)[i]? =some x→Rep G w x u→∃y,ys[i]? =some y∧y.one=true∧DRep G.imm w y u:=by
    intro y he hy1 hyr;rw[he]at hg;simp only[Option.map_eq_some_iff]at hg;obtain⟨ys',hg',rfl⟩:=hg;obtain⟨hl,hi⟩:=ih ys' hg';refine⟨by simp[hl],fun i x u hx hr=> ?_⟩;cases i with
    |zero=>simp only[List.getElem?_cons_zero,Option.some.injEq]at hx;subst hx;exact⟨y,rfl,hy1,hyr u hr⟩
    |succ i=>simp only[List.getElem?_cons_succ]at hx;obtain⟨y',h1,h2⟩:=hi i x u hx hr;exact⟨y',by simpa using h1,h2⟩
   cases a with
   |d y=>
    by_cases hy:y.one=true
    ·exact step y (by simp[vO.go,hy]) hy (fun u hu=>hu.toDRep)
    ·simp[vO.go,hy]at hg
   |nils=>exact step (.ro []) (by simp[vO.go]) rfl (fun u hu=>by cases hu;exact .roNil _ _)
   |es=>exact step (.ro []) (by simp[vO.go]) rfl (fun u hu=>by cases hu;exact .roNil _ _)
   |vec k ver sz l=>exact step (.ro l) (by simp[vO.go]) rfl (fun u hu=>by cases hu with|vecNil=>exact .roNil _ _|vec _ _ _ L hL hfr hlen hsz hd=>exact hd)
   |_=>simp[vO.go]at hg
 cases x with
 |d y'=>simp only[vO,Option.some.injEq]at ht;subst ht;exact hx.toDRep
 |nils=>simp only[vO,Option.some.injEq]at ht;subst ht;cases hx;exact .roNil _ _
 |es=>simp only[vO,Option.some.injEq]at ht;subst ht;cases hx;exact .roNil _ _
 |vec k ver sz l=>simp only[vO,Option.some.injEq]at ht;subst ht;cases hx with|vecNil=>exact .roNil _ _|vec _ _ _ L hL hfr hlen hsz hd=>exact hd
 |agg cs=>
  simp only[vO,Option.map_eq_some_iff]at ht;obtain⟨ys,hg,rfl⟩:=ht;obtain⟨hl,hi⟩:=lst cs ys hg;cases hx with
  |agg _ vs hvl h1 hcr=>
   refine .agg ys vs (by rw[hvl,hl]) (fun c hc=> ?_) (fun i c u hc hu=> ?_)
   ·obtain⟨i,hi'⟩:=List.getElem?_of_mem hc
    have hilt:i<vs.size:=by rw[hvl,←hl];exact(List.getElem?_eq_some_iff.1 hi').1
    have hu:vs[i]? =some vs[i]:=Array.getElem?_eq_getElem hilt;obtain⟨y,hy,hy1,_⟩:=hi i cs[i] vs[i] (List.getElem?_eq_getElem (by rw[←hvl];exact hilt)) (hcr i _ _ (List.getElem?_eq_getElem (by rw[←hvl];exact hilt)) hu);rw[hi']at hy;simp only[Option.some.injEq]at hy;subst hy;exact hy1
   ·have hilt:i<cs.length:=by rw[←hl];exact(List.getElem?_eq_some_iff.1 hc).1
    obtain⟨y,hy,_,hyr⟩:=hi i cs[i] u (List.getElem?_eq_getElem hilt) (hcr i _ _ (List.getElem?_eq_getElem hilt) hu);rw[hc]at hy;simp only[Option.some.injEq]at hy;subst hy;exact hyr
 |_=>simp[vO]at ht
theorem rI:∀{xs:List AV}{ys:List D},qu xs=some ys→∀{vs:Array Value},vs.size=xs.length→(∀(i:Nat)(x:AV)(u:Value),xs[i]? =some x→vs[i]? =some u→Rep G w x u)→
    vs.size=ys.length∧∀(i:Nat)(y:D)(u:Value),ys[i]? =some y→vs[i]? =some u→DRep G.imm w y u:=by
 have key:∀(xs:List AV)(ys:List D),qu xs=some ys→ys.length=xs.length∧∀(i:Nat)(x:AV),xs[i]? =some x→∃y,ys[i]? =some y∧vO x=some y:=by
  intro xs;induction xs with
  |nil=>intro ys h;simp[qu]at h;subst h;simp
  |cons a r ih=>
   intro ys h;rw[qu]at h;split at h
   ·rename_i y ys' hy hys
    simp only[Option.some.injEq]at h;subst h;obtain⟨hl,hi⟩:=ih _ hys;refine⟨by simp[hl],fun i x hx=> ?_⟩;cases i with
    |zero=>simp only[List.getElem?_cons_zero,Option.some.injEq]at hx;subst hx;exact⟨y,rfl,hy⟩
    |succ i=>simp only[List.getElem?_cons_succ]at hx;obtain⟨y',h1,h2⟩:=hi i x hx;exact⟨y',by simpa using h1,h2⟩
   ·cases h
 intro xs ys hd vs hv hx;obtain⟨hl,hi⟩:=key xs ys hd;refine⟨by rw[hv,hl],fun i y u hy hu=> ?_⟩;have hilt:i<xs.length:=by rw[←hl];exact(List.getElem?_eq_some_iff.1 hy).1
 obtain⟨y',hy',ht⟩:=hi i xs[i] (List.getElem?_eq_getElem hilt);rw[hy]at hy';simp only[Option.some.injEq]at hy';subst hy';exact CG ht (hx i _ u (List.getElem?_eq_getElem hilt) hu)
end
end Go.Avm
