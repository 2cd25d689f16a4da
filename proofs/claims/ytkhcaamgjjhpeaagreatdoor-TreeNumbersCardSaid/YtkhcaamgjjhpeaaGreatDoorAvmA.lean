/-
  The abstract machine, part A: immutable data, abstract values, what they stand for in a world, and what carries over from one world to the next.
-/
import Derived.Tactics
import Derived.Below
import Derived.Laws.Append
import Derived.Laws.World
set_option linter.unusedSectionVars false
namespace Go.Avm
open Go.RowKit

theorem bytes_loop (s : ByteArray) : ∀ (n i : Nat) (r : List UInt8), s.size - i = n → ByteArray.toList.loop s i r = r.reverse ++ s.data.toList.drop i
  | 0, i, r, h => by
    rw [ByteArray.toList.loop, if_neg (by omega), List.drop_eq_nil_of_le (by simp only [Array.length_toList]; show s.size ≤ i; omega), List.append_nil]
  | n + 1, i, r, h => by
    have hlt : i < s.size := by omega
    have hl : i < s.data.toList.length := by simpa using hlt
    rw [ByteArray.toList.loop, if_pos hlt, bytes_loop s n (i + 1) _ (by omega), List.drop_eq_getElem_cons hl]
    have : s.get! i = s.data.toList[i] := by
      simp only [ByteArray.get!, Array.getElem_toList]
      exact getElem!_pos s.data i (by simpa using hl)
    rw [this]; simp
theorem bytes_toList (s : ByteArray) : s.toList = s.data.toList := by
  rw [ByteArray.toList, bytes_loop s s.size 0 [] (by omega)]; simp

/-- Immutable data. -/
inductive D where
  | bool (b : Bool)
  | int (k : IntKind) (n : Int)
  | str (s : List UInt8)
  | agg (cs : List D)
  | ro (l : List D)
  | rp (cs : List D)
  | nilp
  | nili
  /-- some interface value that isn't nil -/
  | ifc
  deriving Inhabited

def D.cells : D → List D
  | .agg cs => cs
  | x => [x]
def D.one : D → Bool
  | .agg _ => false
  | _ => true
def D.flat (l : List D) : List D := l.flatMap D.cells

/-- Abstract values. -/
inductive AV where
  | junk
  | d (x : D)
  | nils
  | es
  | vec (k v sz : Nat) (l : List D)
  | sl (k v off len sz : Nat)
  | ptr (k v i off sz : Nat)
  | agg (cs : List AV)
  | tup (vs : List AV)
  | fn (f : Nat) (caps : List AV)
  | mp (k v : Nat)
  /-- the function that a loop over a function hands its iterator -/
  | yld (k v : Nat)
  /-- what goes through a map -/
  | itr (k v : Nat)
  /-- an interface value of a known type -/
  | iv (t : TypeId) (x : AV)
  /-- where a growing list's first element lies -/
  | vp (k v : Nat) (l : List D)
  deriving Inhabited

def AV.cells : AV → List AV
  | .agg cs => cs
  | .d (.agg cs) => cs.map .d
  | x => [x]
/-- A value of one cell, for sure. -/
def AV.one : AV → Bool
  | .junk | .agg _ | .tup _ | .d (.agg _) => false
  | _ => true
/-- A value that may be stored. -/
def AV.stor : AV → Bool
  | .junk | .tup _ => false
  | _ => true
def AV.flat (l : List AV) : List AV := l.flatMap AV.cells
/-- Not a value of several cells (nor a struct of one). -/
def AV.lone : AV → Bool
  | .agg _ | .d (.agg _) => false
  | _ => true
theorem AV.cells_lone {x : AV} (h : x.lone = true) : x.cells = [x] := by
  cases x with
  | d y => cases y <;> first | rfl | (simp [AV.lone] at h)
  | agg _ => simp [AV.lone] at h
  | _ => rfl

def upd {α : Type} (f : Nat → α) (k : Nat) (x : α) : Nat → α := fun t => if t = k then x else f t
theorem upd_same {α : Type} (f : Nat → α) (k : Nat) (x : α) : upd f k x k = x := by simp [upd]
theorem upd_ne {α : Type} (f : Nat → α) {k t : Nat} (x : α) (h : t ≠ k) : upd f k x t = f t := by simp [upd, h]
theorem upd_comm {α : Type} (f : Nat → α) {k t : Nat} (x y : α) (h : t ≠ k) : upd (upd f k x) t y = upd (upd f t y) k x := by
  funext s
  simp only [upd]
  by_cases h1 : s = t <;> by_cases h2 : s = k <;> simp_all
/-- Some of a frame's slots, written out. -/
def envOf : List (Nat × AV) → Nat → AV
  | [] => fun _ => .junk
  | (k, x) :: r => upd (envOf r) k x
theorem envOf_le (env : Nat → AV) : ∀ (l : List (Nat × AV)), (∀ p ∈ l, p.2 = env p.1) → ∀ t, envOf l t = env t ∨ envOf l t = .junk
  | [], _, t => .inr rfl
  | (k, x) :: r, h, t => by
    by_cases ht : t = k
    · subst ht
      left
      simp only [envOf, upd_same]
      exact h (t, x) (by simp)
    · simp only [envOf, upd_ne _ _ ht]
      exact envOf_le env r (fun p hp => h p (by simp [hp])) t

/-- How a loop over a function stands. -/
inductive LSt where
  | ready
  | busy
  | done (c : Code)
def LSt.state : LSt → LoopState
  | .ready => .ready
  | .busy => .busy
  | .done _ => .done
def LSt.pending : LSt → Option Code
  | .done c => some c
  | _ => none
inductive Ob where
  | arr (sz : Nat) (es : List AV)
  | map (es : List (D × D × Nat)) (clock : Nat)
  | lp (fno N : Nat) (env : List (Nat × AV)) (ps : Array Nat) (as bd : Code) (st : LSt)
  /-- what goes through a map: the map's key and version, since when, what it has handed out -/
  | itr (km vm since : Nat) (seen : List Nat)
  /-- no object: of which type another key's block is, and of how many cells -/
  | typ (k v : Nat) (T : TypeId) (n : Option Nat)
  deriving Inhabited
def Ob.flex : Ob → Bool
  | .arr _ _ => true
  | .typ _ _ _ _ => true
  | _ => false
theorem flex_none : ∀ o : Ob, o.flex = false → none ≠ some o := fun _ _ e => by cases e
theorem flex_typ {k v : Nat} {T : TypeId} {n : Option Nat} : ∀ o : Ob, o.flex = false → some (.typ k v T n) ≠ some o := fun o h e => by cases e; cases h
theorem flex_arr {sz : Nat} {es : List AV} : ∀ o : Ob, o.flex = false → some (.arr sz es) ≠ some o := fun o h e => by cases e; cases h
structure Ent where
  ver : Nat
  ob : Option Ob
  deriving Inhabited
abbrev Heap := Nat → Ent
structure Loc where
  b : Nat
  sz : Nat
  cap : Nat
  fr : Nat
  ty : TypeId
structure Gh where
  imm : Nat → Nat → Prop
  loc : Nat → Nat → Option Loc
  lim : Nat → Nat
  mloc : Nat → Nat → Option Nat

inductive DRep (imm : Nat → Nat → Prop) (w : World) : D → Value → Prop
  | bool (b : Bool) : DRep imm w (.bool b) (.bool b)
  | int (k : IntKind) (n : Int) : DRep imm w (.int k n) (.int k n)
  | str (l : List UInt8) (s : ByteArray) (h : s.data.toList = l) : DRep imm w (.str l) (.string s)
  | nilp : DRep imm w .nilp (.pointer none)
  | nili : DRep imm w .nili .nilIface
  | ifc (t : TypeId) (v : Value) : DRep imm w .ifc (.iface t v)
  | agg (cs : List D) (vs : Array Value) (hl : vs.size = cs.length) (h1 : ∀ c ∈ cs, c.one = true)
      (h : ∀ (i : Nat) (c : D) (u : Value), cs[i]? = some c → vs[i]? = some u → DRep imm w c u) : DRep imm w (.agg cs) (.agg vs)
  | roNil (ao : Option Addr) (c : Nat) : DRep imm w (.ro []) (.slice ao 0 c)
  | ro (l : List D) (b o c sz : Nat) (U : Nat → Value) (hcap : l.length ≤ c) (hsz : ∀ e ∈ l, e.cells.length = sz) (h1 : ∀ e ∈ D.flat l, e.one = true)
      (hi : ∀ (t : Nat) (c : D), (D.flat l)[t]? = some c → imm b (o + t)) (hc : ∀ (t : Nat) (c : D), (D.flat l)[t]? = some c → w.cell? ⟨b, o + t, none⟩ = some (U t))
      (hr : ∀ (t : Nat) (c : D), (D.flat l)[t]? = some c → DRep imm w c (U t)) : DRep imm w (.ro l) (.slice (some ⟨b, o, none⟩) l.length c)
  | rp (cs : List D) (b o : Nat) (U : Nat → Value) (h1 : ∀ e ∈ cs, e.one = true) (hi : ∀ (t : Nat) (c : D), cs[t]? = some c → imm b (o + t)) (hc : ∀ (t : Nat) (c : D), cs[t]? = some c → w.cell? ⟨b, o + t, none⟩ = some (U t))
      (hr : ∀ (t : Nat) (c : D), cs[t]? = some c → DRep imm w c (U t)) : DRep imm w (.rp cs) (.pointer (some ⟨b, o, none⟩))

inductive Rep (G : Gh) (w : World) : AV → Value → Prop
  | junk (v : Value) : Rep G w .junk v
  | d {x : D} {v : Value} (h : DRep G.imm w x v) : Rep G w (.d x) v
  | nils : Rep G w .nils (.slice none 0 0)
  | es (ao : Option Addr) : Rep G w .es (.slice ao 0 0)
  | vecNil (k ver sz : Nat) : Rep G w (.vec k ver sz []) (.slice none 0 0)
  | vec (k ver : Nat) (l : List D) (L : Loc) (hL : G.loc k ver = some L) (hfr : L.fr = l.length * L.sz) (hlen : l.length ≤ L.cap) (hsz : ∀ e ∈ l, e.cells.length = L.sz)
      (h : DRep G.imm w (.ro l) (.slice (some ⟨L.b, 0, none⟩) l.length L.cap)) : Rep G w (.vec k ver L.sz l) (.slice (some ⟨L.b, 0, none⟩) l.length L.cap)
  | slNil (k ver sz : Nat) : Rep G w (.sl k ver 0 0 sz) (.slice none 0 0)
  | sl (k ver off len c : Nat) (L : Loc) (hL : G.loc k ver = some L) (hc : off + c ≤ L.cap) (hlen : len ≤ c) : Rep G w (.sl k ver off len L.sz) (.slice (some ⟨L.b, off * L.sz, none⟩) len c)
  | ptr (k ver i off : Nat) (L : Loc) (hL : G.loc k ver = some L) : Rep G w (.ptr k ver i off L.sz) (.pointer (some ⟨L.b, i * L.sz + off, none⟩))
  | agg (cs : List AV) (vs : Array Value) (hl : vs.size = cs.length) (h1 : ∀ (i : Nat) (u : Value), vs[i]? = some u → u.oneCell' = true)
      (h : ∀ (i : Nat) (c : AV) (u : Value), cs[i]? = some c → vs[i]? = some u → Rep G w c u) : Rep G w (.agg cs) (.agg vs)
  | tup (cs : List AV) (vs : Array Value) (hl : vs.size = cs.length)
      (h : ∀ (i : Nat) (c : AV) (u : Value), cs[i]? = some c → vs[i]? = some u → Rep G w c u) : Rep G w (.tup cs) (.tuple vs)
  | fn (f : Nat) (caps : List AV) (vs : Array Value) (hl : vs.size = caps.length)
      (h : ∀ (i : Nat) (c : AV) (u : Value), caps[i]? = some c → vs[i]? = some u → Rep G w c u) : Rep G w (.fn f caps) (.func (.func f) #[] vs)
  | mp (k ver b : Nat) (hL : G.mloc k ver = some b) : Rep G w (.mp k ver) (.map (some b))
  | yld (k ver b : Nat) (hL : G.mloc k ver = some b) : Rep G w (.yld k ver) (.func (.yield b) #[] #[])
  | itr (k ver b : Nat) (hL : G.mloc k ver = some b) : Rep G w (.itr k ver) (.pointer (some ⟨b, 0, none⟩))
  | iv (t : TypeId) {x : AV} (v : Value) (h : Rep G w x v) : Rep G w (.iv t x) (.iface t v)
  | vp (k ver : Nat) (l : List D) (L : Loc) (hL : G.loc k ver = some L) (h1 : L.sz = 1) (hlen : l.length ≤ L.cap)
      (h : DRep G.imm w (.ro l) (.slice (some ⟨L.b, 0, none⟩) l.length L.cap)) : Rep G w (.vp k ver l) (.pointer (some ⟨L.b, 0, none⟩))

theorem DRep.mono {imm imm' : Nat → Nat → Prop} {w w' : World} {x : D} {v : Value} (h : DRep imm w x v) (hi : ∀ b o, imm b o → imm' b o)
    (hw : ∀ b o, imm b o → w'.cell? ⟨b, o, none⟩ = w.cell? ⟨b, o, none⟩) : DRep imm' w' x v := by
  induction h with
  | bool b => exact .bool b
  | int k n => exact .int k n
  | str l s h => exact .str l s h
  | nilp => exact .nilp
  | nili => exact .nili
  | ifc t v => exact .ifc t v
  | agg cs vs hl h1 _ ih => exact .agg cs vs hl h1 ih
  | roNil ao c => exact .roNil ao c
  | ro l b o c sz U hcap hsz h1 him hc _ ih => exact .ro l b o c sz U hcap hsz h1 (fun t c h => hi _ _ (him t c h)) (fun t c h => (hw _ _ (him t c h)).trans (hc t c h)) ih
  | rp cs b o U h1 him hc _ ih => exact .rp cs b o U h1 (fun t c h => hi _ _ (him t c h)) (fun t c h => (hw _ _ (him t c h)).trans (hc t c h)) ih

theorem DRep.oneCell {imm : Nat → Nat → Prop} {w : World} {x : D} {v : Value} (h : DRep imm w x v) (h1 : x.one = true) : v.oneCell' = true := by
  cases h <;> first | rfl | (simp [D.one] at h1)

def isBook : Obj → Bool
  | .loop _ => true
  | .deferred _ => true
  | .mapIter _ _ _ _ => true
  | _ => false
def isFix : Obj → Bool
  | .loop _ => true
  | .map _ _ => true
  | .mapIter _ _ _ _ => true
  | _ => false
/-- What may become of a loop's record. -/
def bookTo : Obj → Obj → Prop
  | .loop _, o' => ∃ r, o' = .loop r
  | .mapIter _ _ _ _, o' => ∃ m s q c, o' = .mapIter m s q c
  | o, o' => o' = o
theorem bookTo_refl (o : Obj) : bookTo o o := by cases o <;> first | rfl | exact ⟨_, rfl⟩ | exact ⟨_, _, _, _, rfl⟩
theorem bookTo_trans {a b c : Obj} (h : bookTo a b) (k : bookTo b c) : bookTo a c := by
  cases a with
  | loop r => obtain ⟨r', rfl⟩ := h; exact k
  | mapIter _ _ _ _ => obtain ⟨_, _, _, _, rfl⟩ := h; exact k
  | _ => cases h; exact k
theorem bookTo_is {a b : Obj} (h : bookTo a b) (k : isBook a = true) : isBook b = true := by
  cases a with
  | loop r => obtain ⟨r', rfl⟩ := h; rfl
  | mapIter _ _ _ _ => obtain ⟨_, _, _, _, rfl⟩ := h; rfl
  | _ => cases h; exact k
/-- What carries over: immutable cells, and where things lie. -/
structure Ext (G : Gh) (w : World) (G' : Gh) (w' : World) : Prop where
  imm : ∀ b o, G.imm b o → G'.imm b o
  loc : ∀ k v L, G.loc k v = some L → G'.loc k v = some L
  cell : ∀ b o, G.imm b o → w'.cell? ⟨b, o, none⟩ = w.cell? ⟨b, o, none⟩
  size : w.heap.size ≤ w'.heap.size
  lim : ∀ k, G.lim k ≤ G'.lim k
  nloc : ∀ k v, v ≤ G.lim k → G.loc k v = none → G'.loc k v = none
  mloc : ∀ k v b, G.mloc k v = some b → G'.mloc k v = some b
  /-- the records of loops over functions lie where they lay -/
  kept : ∀ (b : Nat) (o : Obj), isBook o = true → w.heap[b]? = some o → ∃ o', w'.heap[b]? = some o' ∧ bookTo o o'

theorem Ext.refl (G : Gh) (w : World) : Ext G w G w := ⟨fun _ _ h => h, fun _ _ _ h => h, fun _ _ _ => rfl, Nat.le_refl _, fun _ => Nat.le_refl _, fun _ _ _ h => h, fun _ _ _ h => h, fun _ o _ h => ⟨o, h, bookTo_refl o⟩⟩
theorem Ext.trans {G G' G'' : Gh} {w w' w'' : World} (h : Ext G w G' w') (k : Ext G' w' G'' w'') : Ext G w G'' w'' :=
  ⟨fun b o x => k.imm _ _ (h.imm _ _ x), fun a v L x => k.loc _ _ _ (h.loc _ _ _ x), fun b o x => (k.cell _ _ (h.imm _ _ x)).trans (h.cell _ _ x), Nat.le_trans h.size k.size, fun a => Nat.le_trans (h.lim a) (k.lim a),
    fun a v hv x => k.nloc _ _ (Nat.le_trans hv (h.lim a)) (h.nloc _ _ hv x), fun a v b x => k.mloc _ _ _ (h.mloc _ _ _ x), fun b o hb x => by
      obtain ⟨o1, x1, t1⟩ := h.kept b o hb x
      obtain ⟨o2, x2, t2⟩ := k.kept b o1 (bookTo_is t1 hb) x1
      exact ⟨o2, x2, bookTo_trans t1 t2⟩⟩

theorem Rep.mono {G G' : Gh} {w w' : World} {x : AV} {v : Value} (h : Rep G w x v) (e : Ext G w G' w') : Rep G' w' x v := by
  induction h with
  | junk v => exact .junk v
  | d h => exact .d (h.mono e.imm e.cell)
  | nils => exact .nils
  | es ao => exact .es ao
  | vecNil k ver sz => exact .vecNil k ver sz
  | vec k ver l L hL hfr hlen hsz h => exact .vec k ver l L (e.loc _ _ _ hL) hfr hlen hsz (h.mono e.imm e.cell)
  | slNil k ver sz => exact .slNil k ver sz
  | sl k ver off len c L hL hc hlen => exact .sl k ver off len c L (e.loc _ _ _ hL) hc hlen
  | ptr k ver i off L hL => exact .ptr k ver i off L (e.loc _ _ _ hL)
  | agg cs vs hl h1 _ ih => exact .agg cs vs hl h1 ih
  | tup cs vs hl _ ih => exact .tup cs vs hl ih
  | fn f caps vs hl _ ih => exact .fn f caps vs hl ih
  | mp k ver b hL => exact .mp k ver b (e.mloc _ _ _ hL)
  | yld k ver b hL => exact .yld k ver b (e.mloc _ _ _ hL)
  | itr k ver b hL => exact .itr k ver b (e.mloc _ _ _ hL)
  | iv t v _ ih => exact .iv t v ih
  | vp k ver l L hL h1 hlen h => exact .vp k ver l L (e.loc _ _ _ hL) h1 hlen (h.mono e.imm e.cell)

theorem Rep.oneCell {G : Gh} {w : World} {x : AV} {v : Value} (h : Rep G w x v) (h1 : x.one = true) : v.oneCell' = true := by
  cases h with
  | d h => exact h.oneCell (by cases h <;> simp_all [AV.one, D.one])
  | _ => first | rfl | (simp [AV.one] at h1)

/-- The cells of a value that may be stored. -/
theorem Rep.cells {G : Gh} {w : World} {x : AV} {v : Value} (h : Rep G w x v) (hs : x.stor = true) :
    v.cells.size = x.cells.length ∧ (∀ u ∈ v.cells.toList, u.oneCell' = true) ∧ ∀ (i : Nat) (c : AV) (u : Value), x.cells[i]? = some c → v.cells[i]? = some u → Rep G w c u := by
  have single : ∀ (y : AV) (u : Value), Rep G w y u → u.oneCell' = true → y.cells = [y] → u.cells = #[u] →
      u.cells.size = y.cells.length ∧ (∀ t ∈ u.cells.toList, t.oneCell' = true) ∧ ∀ (i : Nat) (c : AV) (t : Value), y.cells[i]? = some c → u.cells[i]? = some t → Rep G w c t := by
    intro y u hr h1 hy hu
    rw [hy, hu]
    refine ⟨rfl, fun t ht => ?_, fun i c t hc ht => ?_⟩
    · simp at ht; subst ht; exact h1
    · cases i with
      | zero => simp at hc ht; subst hc; subst ht; exact hr
      | succ i => simp at hc
  cases h with
  | junk => simp [AV.stor] at hs
  | tup => simp [AV.stor] at hs
  | d h =>
    cases h with
    | agg cs vs hl h1 h =>
      refine ⟨by simp [Value.cells, AV.cells, hl], fun u hu => ?_, fun i c u hc hu => ?_⟩
      · simp only [Value.cells, Array.mem_toList_iff] at hu
        obtain ⟨i, hi, rfl⟩ := Array.mem_iff_getElem.1 hu
        have hc : cs[i]? = some (cs[i]'(by omega)) := List.getElem?_eq_getElem _
        exact (h i _ _ hc (Array.getElem?_eq_getElem hi)).oneCell (h1 _ (List.getElem_mem _))
      · simp only [AV.cells, List.getElem?_map, Option.map_eq_some_iff] at hc
        obtain ⟨c', hc', rfl⟩ := hc
        exact .d (h i c' u hc' hu)
    | bool b => exact single _ _ (.d (.bool b)) rfl rfl rfl
    | int k n => exact single _ _ (.d (.int k n)) rfl rfl rfl
    | str l s h => exact single _ _ (.d (.str l s h)) rfl rfl rfl
    | nilp => exact single _ _ (.d .nilp) rfl rfl rfl
    | nili => exact single _ _ (.d .nili) rfl rfl rfl
    | ifc t v => exact single _ _ (.d (.ifc t v)) rfl rfl rfl
    | roNil ao c => exact single _ _ (.d (.roNil ao c)) rfl rfl rfl
    | ro l b o c sz U hcap hsz h1 hi hc hr => exact single _ _ (.d (.ro l b o c sz U hcap hsz h1 hi hc hr)) rfl rfl rfl
    | rp cs b o U h1 hi hc hr => exact single _ _ (.d (.rp cs b o U h1 hi hc hr)) rfl rfl rfl
  | nils => exact single _ _ .nils rfl rfl rfl
  | es ao => exact single _ _ (.es ao) rfl rfl rfl
  | vecNil k ver sz => exact single _ _ (.vecNil k ver sz) rfl rfl rfl
  | vec k ver l L hL hfr hlen hsz h => exact single _ _ (.vec k ver l L hL hfr hlen hsz h) rfl rfl rfl
  | slNil k ver sz => exact single _ _ (.slNil k ver sz) rfl rfl rfl
  | sl k ver off len c L hL hc hlen => exact single _ _ (.sl k ver off len c L hL hc hlen) rfl rfl rfl
  | ptr k ver i off L hL => exact single _ _ (.ptr k ver i off L hL) rfl rfl rfl
  | agg cs vs hl h1 h =>
    refine ⟨by simp [Value.cells, AV.cells, hl], fun u hu => ?_, fun i c u hc hu => h i c u hc hu⟩
    simp only [Value.cells, Array.mem_toList_iff] at hu
    obtain ⟨i, hi, rfl⟩ := Array.mem_iff_getElem.1 hu
    exact h1 i _ (Array.getElem?_eq_getElem hi)
  | fn f caps vs hl h => exact single _ _ (.fn f caps vs hl h) rfl rfl rfl
  | mp k ver b hL => exact single _ _ (.mp k ver b hL) rfl rfl rfl
  | yld k ver b hL => exact single _ _ (.yld k ver b hL) rfl rfl rfl
  | itr k ver b hL => exact single _ _ (.itr k ver b hL) rfl rfl rfl
  | iv t v h => exact single _ _ (.iv t v h) rfl rfl rfl
  | vp k ver l L hL h1 hlen h => exact single _ _ (.vp k ver l L hL h1 hlen h) rfl rfl rfl

/-- A growing list, looked at as what it holds now. -/
def frz : AV → AV
  | .vec _ _ _ l => .d (.ro l)
  | x => x
theorem Rep.frz {G : Gh} {w : World} {x : AV} {v : Value} (h : Rep G w x v) : Rep G w (frz x) v := by
  cases h with
  | vecNil k ver sz => exact .d (.roNil none 0)
  | vec k ver l L hL hfr hlen hsz h => exact .d h
  | junk => exact .junk _
  | d h => exact .d h
  | nils => exact .nils
  | es ao => exact .es ao
  | slNil k ver sz => exact .slNil k ver sz
  | sl k ver off len c L hL hc hlen => exact .sl k ver off len c L hL hc hlen
  | ptr k ver i off L hL => exact .ptr k ver i off L hL
  | agg cs vs hl h1 h => exact .agg cs vs hl h1 h
  | tup cs vs hl h => exact .tup cs vs hl h
  | fn f caps vs hl h => exact .fn f caps vs hl h
  | mp k ver b hL => exact .mp k ver b hL
  | yld k ver b hL => exact .yld k ver b hL
  | itr k ver b hL => exact .itr k ver b hL
  | iv t v h => exact .iv t v h
  | vp k ver l L hL h1 hlen h => exact .vp k ver l L hL h1 hlen h

/-! ### Lists of elements of one size, laid out flat -/
theorem flatMap_get {α β : Type} (f : α → List β) (sz : Nat) : ∀ (l : List α), (∀ e ∈ l, (f e).length = sz) → ∀ i j, j < sz → (l.flatMap f)[i * sz + j]? = (l[i]?).bind fun e => (f e)[j]?
  | [], _, i, j, _ => by simp
  | e :: l, h, i, j, hj => by
    have he := h e (by simp)
    cases i with
    | zero =>
      simp only [List.flatMap_cons, Nat.zero_mul, Nat.zero_add, List.getElem?_cons_zero, Option.bind_some]
      rw [List.getElem?_append_left (by omega)]
    | succ i =>
      simp only [List.flatMap_cons, List.getElem?_cons_succ]
      rw [List.getElem?_append_right (by rw [he, Nat.succ_mul]; omega), he]
      have : (i + 1) * sz + j - sz = i * sz + j := by rw [Nat.succ_mul]; omega
      rw [this]
      exact flatMap_get f sz l (fun e' h' => h e' (by simp [h'])) i j hj
theorem flatMap_len {α β : Type} (f : α → List β) (sz : Nat) : ∀ (l : List α), (∀ e ∈ l, (f e).length = sz) → (l.flatMap f).length = l.length * sz
  | [], _ => by simp
  | e :: l, h => by
    simp only [List.flatMap_cons, List.length_append, List.length_cons, Nat.succ_mul]
    rw [h e (by simp), flatMap_len f sz l (fun e' h' => h e' (by simp [h']))]
    omega

/-! ### The heap relation -/
def OwnB (G : Gh) (B : Nat) (w : World) (L : Loc) : Prop :=
  B ≤ L.b ∧ (∃ arr e, w.heap[L.b]? = some (.cells arr e (0, 0)) ∧ arr.size = L.cap * L.sz ∧ e = L.ty) ∧ (∀ o, G.imm L.b o → o < L.fr)

def ObRep (G : Gh) (w : World) (k ver : Nat) : Ob → Prop
  | .arr sz es => (es = [] ∧ G.loc k ver = none) ∨ ∃ L, G.loc k ver = some L ∧ L.sz = sz ∧ L.fr = 0 ∧ es.length ≤ L.cap ∧ (∀ e ∈ es, e.cells.length = sz) ∧ (sz = 1 → ∀ e ∈ es, e.lone = true) ∧
      ∀ t c, (AV.flat es)[t]? = some c → ∃ u, w.cell? ⟨L.b, t, none⟩ = some u ∧ u.oneCell' = true ∧ Rep G w c u
  | .map _ _ => True
  | .lp _ _ _ _ _ _ _ => True
  | .itr _ _ _ _ => True
  | .typ k' v' T n => v' ≤ G.lim k' ∧ ∀ L, G.loc k' v' = some L → L.ty = T ∧ ∀ m, n = some m → L.cap * L.sz = m

/-- Functions that the model answers itself. -/
inductive ExtK where
  | indexByte
  /-- abi.NoEscape: it hands back what it is handed -/
  | same

/-- What package variables hold, where a law's text says so. -/
class GlobTab where
  tab : Nat → Option (List D)
  /-- the number of sync.Once's Do, where the program has it -/
  once : Option Nat
  /-- the numbers of functions without a body -/
  ext : Nat → Option ExtK := fun _ => none
variable [GlobTab]
def Globs (imm : Nat → Nat → Prop) (w : World) : Prop := ∀ g cs, GlobTab.tab g = some cs → DRep imm w (.rp cs) (.pointer (some ⟨g, 0, none⟩))
theorem Globs.mono {imm imm' : Nat → Nat → Prop} {w w' : World} (h : Globs imm w) (hi : ∀ b o, imm b o → imm' b o) (hw : ∀ b o, imm b o → w'.cell? ⟨b, o, none⟩ = w.cell? ⟨b, o, none⟩) : Globs imm' w' := fun g cs hg => (h g cs hg).mono hi hw

/-- A map in memory, and its entries as data. -/
def MRep (imm : Nat → Nat → Prop) (w : World) (b : Nat) (es : List (D × D × Nat)) (c : Nat) : Prop :=
  ∃ ms : Array MapEntry, w.heap[b]? = some (.map ms c) ∧ ms.size = es.length ∧ ∀ (i : Nat) (e : D × D × Nat) (m : MapEntry), es[i]? = some e → ms[i]? = some m → DRep imm w e.1 m.key ∧ DRep imm w e.2.1 m.val ∧ m.born = e.2.2
/-- The record of a loop over a function. -/
structure LRep (G : Gh) (w : World) (N : Nat) (env : List (Nat × AV)) (ps : Array Nat) (as bd : Code) (st : LSt) (r : Loop) : Prop where
  size : r.tmps.size = N
  rep : ∀ t, t < N → Rep G w (envOf env t) (r.tmps.getD t undef)
  out : ∀ t, N ≤ t → envOf env t = .junk
  ps : r.params = ps
  as : r.assign = as
  bd : r.body = bd
  state : r.state = st.state
  pending : r.pending = st.pending
theorem LRep.mono {G G' : Gh} {w w' : World} {N : Nat} {env : List (Nat × AV)} {ps : Array Nat} {as bd : Code} {st : LSt} {r : Loop} (h : LRep G w N env ps as bd st r) (e : Ext G w G' w') : LRep G' w' N env ps as bd st r :=
  ⟨h.size, fun t ht => (h.rep t ht).mono e, h.out, h.ps, h.as, h.bd, h.state, h.pending⟩
/-- The maps, and the loops over functions. -/
structure MR (G : Gh) (B : Nat) (h : Heap) (w : World) : Prop where
  low : ∀ k v b, G.mloc k v = some b → B ≤ b ∧ (∃ o, isFix o = true ∧ w.heap[b]? = some o) ∧ v ≤ (h k).ver
  inj : ∀ k v k' v' b, G.mloc k v = some b → G.mloc k' v' = some b → k = k' ∧ v = v'
  obj : ∀ k es c, (h k).ob = some (.map es c) → ∃ b, G.mloc k (h k).ver = some b ∧ MRep G.imm w b es c
  loops : ∀ k fno N env ps as bd st, (h k).ob = some (.lp fno N env ps as bd st) → ∃ b r, G.mloc k (h k).ver = some b ∧ w.heap[b]? = some (.loop r) ∧ LRep G w N env ps as bd st r
  iters : ∀ k km vm since seen, (h k).ob = some (.itr km vm since seen) → ∃ b bm sa c0, G.mloc k (h k).ver = some b ∧ G.mloc km vm = some bm ∧ w.heap[b]? = some (.mapIter (some bm) since sa c0) ∧ sa.toList = seen ∧ c0 = since
  glob : Globs G.imm w

structure HR (G : Gh) (B : Nat) (w0 : World) (I0 : Nat → Nat → Prop) (h : Heap) (w : World) : Prop where
  below : Below B w0 w
  bsz : B ≤ w.heap.size
  immlt : ∀ b o, G.imm b o → b < w.heap.size
  i0 : ∀ b o, I0 b o → G.imm b o
  immlow : ∀ b o, G.imm b o → b < B → I0 b o
  fresh : ∀ k v L, G.loc k v = some L → v ≤ (h k).ver
  own : ∀ k L, G.loc k (h k).ver = some L → OwnB G B w L
  dis : ∀ k k' L L', G.loc k (h k).ver = some L → G.loc k' (h k').ver = some L' → L.b = L'.b → k = k'
  objs : ∀ k ob, (h k).ob = some ob → ObRep G w k (h k).ver ob
  lim : ∀ k, G.lim k = (h k).ver
  maps : MR G B h w

theorem MR.step {G G' : Gh} {B : Nat} {h h' : Heap} {w w' : World} (hm : MR G B h w) (e : Ext G w G' w') (hl : G'.mloc = G.mloc) (hb : ∀ (b : Nat) o, isFix o = true → w.heap[b]? = some o → w'.heap[b]? = some o)
    (hv : ∀ k, (h k).ver ≤ (h' k).ver) (ho : ∀ (k : Nat) (o : Ob), o.flex = false → (h' k).ob = some o → h' k = h k) : MR G' B h' w' := by
  refine ⟨fun k v b hk => ?_, fun k v k' v' b hk hk' => ?_, fun k es c hk => ?_, fun k fno N env ps as bd st hk => ?_, fun k km vm since seen hk => ?_, hm.glob.mono e.imm e.cell⟩
  · rw [hl] at hk
    obtain ⟨h1, ⟨o, ho, h2⟩, h3⟩ := hm.low k v b hk
    exact ⟨h1, ⟨o, ho, hb _ _ ho h2⟩, Nat.le_trans h3 (hv k)⟩
  · rw [hl] at hk hk'
    exact hm.inj k v k' v' b hk hk'
  · have he := ho k _ rfl hk
    rw [he] at hk ⊢
    obtain ⟨b, h1, ms, h2, h3, h4⟩ := hm.obj k es c hk
    refine ⟨b, by rw [hl]; exact h1, ms, hb _ _ rfl h2, h3, fun i x m hx hmm => ?_⟩
    obtain ⟨g1, g2, g3⟩ := h4 i x m hx hmm
    exact ⟨g1.mono e.imm e.cell, g2.mono e.imm e.cell, g3⟩
  · have he := ho k _ rfl hk
    rw [he] at hk ⊢
    obtain ⟨b, r, h1, h2, h3⟩ := hm.loops k fno N env ps as bd st hk
    exact ⟨b, r, by rw [hl]; exact h1, hb _ _ rfl h2, h3.mono e⟩
  · have he := ho k _ rfl hk
    rw [he] at hk ⊢
    obtain ⟨b, bm, sa, c0, h1, h2, h3, h4⟩ := hm.iters k km vm since seen hk
    exact ⟨b, bm, sa, c0, by rw [hl]; exact h1, by rw [hl]; exact h2, hb _ _ rfl h3, h4⟩

theorem HR.blt {G : Gh} {B : Nat} {w0 w : World} {I0 : Nat → Nat → Prop} {h : Heap} (hr : HR G B w0 I0 h w) {k : Nat} {L : Loc} (hL : G.loc k (h k).ver = some L) : L.b < w.heap.size := by
  obtain ⟨_, ⟨arr, e, hb, _⟩, _⟩ := hr.own k L hL
  exact (Array.getElem?_eq_some_iff.1 hb).1

end Go.Avm
