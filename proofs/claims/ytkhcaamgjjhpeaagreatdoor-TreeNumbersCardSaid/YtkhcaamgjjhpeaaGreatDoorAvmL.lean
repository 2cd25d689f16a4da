/-
  The abstract machine, part L: one step of a region, calls of functions on data, and the steps of a region one behind the other.
-/
import Derived.Test.YtkhcaamgjjhpeaaGreatDoorAvmKb
import Derived.OrdersIn
import Derived.RangeFuncCalls
import Derived.Laws.StandIn
import Derived.Orders
set_option linter.unusedSectionVars false
namespace Go.Avm
open Go.RowKit
variable [GlobTab]

def Callable (P : Program) (f : Nat) : Prop := ∃ fn, P.funcs[f]? = some fn ∧ fn.body.isNone = false ∧ (fn.name == "runtime.NumGoroutine") = false

/-- Does the model answer such a function so? -/
def ExtOk (P : Program) (g : Nat) (k : ExtK) : Prop := ∃ fn, P.funcs[g]? = some fn ∧ (fn.name == "runtime.NumGoroutine") = false ∧ fn.body.isNone = true ∧ Extern.findNext fn = none ∧ match k with
  | .indexByte => Extern.find fn = some Extern.BytealgIndexByte.indexByte
  | .same => Extern.find fn = some Extern.AbiNoEscape.same
def ExtAll (P : Program) : Prop := ∀ g k, GlobTab.ext g = some k → ExtOk P g k
/-- What is asked of a program. -/
structure OkP (P : Program) : Prop where
  mixed : P.follows .mixedOrders = true
  ext : ExtAll P

/-- What a call hands back, as data. -/
def RetRep (I : Nat → Nat → Prop) (w : World) (rs : List D) (v : Value) : Prop :=
  (∃ x, rs = [x] ∧ DRep I w x v) ∨ (rs.length ≠ 1 ∧ ∃ vs, v = .tuple vs ∧ vs.size = rs.length ∧ ∀ (i : Nat) (x : D) (u : Value), rs[i]? = some x → vs[i]? = some u → DRep I w x u)

/-- The contract of a function on data: called with these data it hands back those, and turns nothing that was there. -/
def Pure (P : Program) (f : Nat) (args rs : List D) : Prop :=
  Callable P f ∧ ∀ (w : World) (I : Nat → Nat → Prop) (cargs : Array Value), (∀ b o, I b o → b < w.heap.size) → cargs.size = args.length →
    (∀ (i : Nat) (x : D) (u : Value), args[i]? = some x → cargs[i]? = some u → DRep I w x u) → Globs I w →
    Calls P f cargs w fun e w' => ∃ v I', e = .returned v ∧ Below w.heap.size w w' ∧ (∀ b o, I b o → I' b o) ∧ (∀ b o, I' b o → I b o ∨ w.heap.size ≤ b) ∧
      (∀ b o, I' b o → b < w'.heap.size) ∧ RetRep I' w' rs v

/-- The contract of a function that looks at the abstract heap, and may turn it. -/
def HCall (P : Program) (f : Nat) (args : List AV) (h : Heap) (rs : List AV) (h' : Heap) : Prop :=
  Callable P f ∧ ∀ (G : Gh) (B : Nat) (w0 : World) (I0 : Nat → Nat → Prop) (w : World) (cargs : Array Value), HR G B w0 I0 h w → cargs.size = args.length →
    (∀ (i : Nat) (x : AV) (u : Value), args[i]? = some x → cargs[i]? = some u → Rep G w x u) →
    Calls P f cargs w fun e w' => ∃ v G', e = .returned v ∧ Ext G w G' w' ∧ HR G' B w0 I0 h' w' ∧ Rep G' w' (retV rs) v

/-- Where code runs: in a function's frame, or in a round's of a loop over a function. -/
def FF (r : Option Nat) : Fence := { fn := fun _ => True, depth := none, alive := false, round := r }
/-- The contract of a round that an iterator asks for. -/
def YCall (P : Program) (k v : Nat) (args : List AV) (h : Heap) (rs : List AV) (h' : Heap) : Prop :=
  ∀ (G : Gh) (B : Nat) (w0 : World) (I0 : Nat → Nat → Prop) (w : World) (cargs : Array Value), HR G B w0 I0 h w → cargs.size = args.length →
    (∀ (i : Nat) (x : AV) (u : Value), args[i]? = some x → cargs[i]? = some u → Rep G w x u) → ∀ b, G.mloc k v = some b →
    ∃ (f : Nat) (tmps : Array Value) (as bd : Code), (Instr.yield b cargs).run P w = .ok (.round b f tmps as bd) w ∧
      ∀ r, RoundIn (FF r) 0 P b f tmps as bd w fun e w' => ∃ x G', e = .returned x ∧ Ext G w G' w' ∧ HR G' B w0 I0 h' w' ∧ Rep G' w' (retV rs) x

theorem ovl_append : ∀ (l m : List (Nat × Ent)) (h : Heap), ovl (l ++ m) h = ovl l (ovl m h)
  | [], _, _ => rfl
  | (k, e) :: r, m, h => by simp only [List.cons_append, ovl, ovl_append r m h]
theorem updAll_ovl : ∀ (l : List (Nat × Ent)) (h : Heap), updAll h l = ovl l.reverse h
  | [], _ => rfl
  | (k, e) :: r, h => by
    rw [updAll, updAll_ovl r, List.reverse_cons, ovl_append]
    rfl
theorem ovl_updAll (l : List (Nat × Ent)) (h : Heap) : updAll h l.reverse = ovl l h := by rw [updAll_ovl, List.reverse_reverse]
theorem ovl_sub (h : Heap) : ∀ (l : List (Nat × Ent)), (∀ p ∈ l, p.2.ver = (h p.1).ver ∧ (p.2.ob = none ∨ p.2.ob = (h p.1).ob)) → ∀ k, (ovl l h k).ver = (h k).ver ∧ ((ovl l h k).ob = none ∨ (ovl l h k).ob = (h k).ob)
  | [], _, _ => ⟨rfl, .inr rfl⟩
  | (k', e) :: r, hp, k => by
    simp only [ovl, upd]
    split
    · rename_i he; subst he; exact hp (k, e) (by simp)
    · exact ovl_sub h r (fun p hm => hp p (by simp [hm])) k

/-- What is known of objects may be forgotten. -/
theorem HR.forget {G : Gh} {B : Nat} {w0 w : World} {I0 : Nat → Nat → Prop} {h h' : Heap} (hr : HR G B w0 I0 h w) (hh : ∀ k, (h' k).ver = (h k).ver ∧ ((h' k).ob = none ∨ (h' k).ob = (h k).ob)) : HR G B w0 I0 h' w :=
  ⟨hr.below, hr.bsz, hr.immlt, hr.i0, hr.immlow, fun k v L hL => by rw [(hh k).1]; exact hr.fresh k v L hL, fun k L hL => by rw [(hh k).1] at hL; exact hr.own k L hL,
    fun k k' L L' hL hL' => by rw [(hh k).1] at hL; rw [(hh k').1] at hL'; exact hr.dis k k' L L' hL hL', fun k ob ho => by
      rw [(hh k).1]
      rcases (hh k).2 with h0 | h0
      · rw [h0] at ho; cases ho
      · rw [h0] at ho; exact hr.objs k ob ho, fun k => by rw [(hh k).1]; exact hr.lim k, ⟨fun k v b x => by rw [(hh k).1]; exact hr.maps.low k v b x, hr.maps.inj, fun k es c x => by
      rw [(hh k).1]
      rcases (hh k).2 with h0 | h0
      · rw [h0] at x; cases x
      · rw [h0] at x; exact hr.maps.obj k es c x, fun k fno N env ps as bd st x => by
      rw [(hh k).1]
      rcases (hh k).2 with h0 | h0
      · rw [h0] at x; cases x
      · rw [h0] at x; exact hr.maps.loops k fno N env ps as bd st x, fun k km vm since seen x => by
      rw [(hh k).1]
      rcases (hh k).2 with h0 | h0
      · rw [h0] at x; cases x
      · rw [h0] at x; exact hr.maps.iters k km vm since seen x, hr.maps.glob⟩⟩
theorem hcall_forget {P : Program} {g : Nat} {args rs : List AV} {h h1 h2 : Heap} (hc : HCall P g args h1 rs h2) (hh : ∀ k, (h1 k).ver = (h k).ver ∧ ((h1 k).ob = none ∨ (h1 k).ob = (h k).ob)) : HCall P g args h rs h2 :=
  ⟨hc.1, fun G B w0 I0 w cargs hr hs hargs => hc.2 G B w0 I0 w cargs (hr.forget hh) hs hargs⟩

def Obls0 (P : Program) (ob : List (Nat × List D × List D)) : Prop := ∀ c ∈ ob, Pure P c.1 c.2.1 c.2.2
def Obl.holds (P : Program) : Obl → Prop
  | .data c => Pure P c.1 c.2.1 c.2.2
  | .heap f args h rs h' => HCall P f args h rs h'
  | .frame f args pre rs post => ∀ h, Fits h pre → HCall P f args h rs (ovl post h)
  | .exact f args pre h0 rs post h1 => ∀ h, (∀ k ∈ pre, h k = h0 k) → HCall P f args h rs (updAll h (entries post h1))
  | .yield k v args h rs h' => YCall P k v args h rs h'
def Obls (P : Program) (ob : List Obl) : Prop := ∀ c ∈ ob, c.holds P

section
variable {P : Program} {G : Gh} {B : Nat} {w0 w : World} {I0 : Nat → Nat → Prop} {h : Heap}

theorem below_cell {w w' : World} (hb : Below w.heap.size w w') {b o : Nat} (hlt : b < w.heap.size) : w'.cell? ⟨b, o, none⟩ = w.cell? ⟨b, o, none⟩ := hb.cell (p := ⟨b, o, none⟩) hlt

/-- Behind a call that turned nothing: what it made is immutable from now on. -/
theorem HR.behind (hr : HR G B w0 I0 h w) {w' : World} (hb : Below w.heap.size w w') {I' : Nat → Nat → Prop} (hI : ∀ b o, I' b o → G.imm b o ∨ w.heap.size ≤ b) (hlt : ∀ b o, I' b o → b < w'.heap.size) :
    HR (G.more I') B w0 I0 h w' ∧ Ext G w (G.more I') w' := by
  have hex : Ext G w (G.more I') w' := ⟨fun _ _ x => .inl x, fun _ _ _ x => x, fun b i x => below_cell hb (hr.immlt b i x), hb.size, fun _ => Nat.le_refl _, fun _ _ _ x => x, fun _ _ _ x => x, fun b o _ x => ⟨o, by rw [hb.block b (Array.getElem?_eq_some_iff.1 x).1]; exact x, bookTo_refl o⟩⟩
  refine ⟨⟨hr.below.trans (hb.mono hr.bsz), Nat.le_trans hr.bsz hb.size, ?_, fun b o x => .inl (hr.i0 b o x), ?_, hr.fresh, ?_, hr.dis, ?_, hr.lim, hr.maps.step hex rfl (fun b o _ x => (hb.block b (Array.getElem?_eq_some_iff.1 x).1).trans x) (fun _ => Nat.le_refl _) (fun _ _ _ _ => rfl)⟩, hex⟩
  · rintro b o (x | x)
    · exact Nat.lt_of_lt_of_le (hr.immlt b o x) hb.size
    · exact hlt b o x
  · rintro b o (x | x) hbB
    · exact hr.immlow b o x hbB
    · rcases hI b o x with x | x
      · exact hr.immlow b o x hbB
      · have := hr.bsz; omega
  · intro k L hL
    obtain ⟨h1, ⟨arr, e, h2, h3⟩, h4⟩ := hr.own k L hL
    have hLt := hr.blt hL
    refine ⟨h1, ⟨arr, e, (hb.block L.b hLt).trans h2, h3⟩, ?_⟩
    rintro o (x | x)
    · exact h4 o x
    · rcases hI _ o x with x | x
      · exact h4 o x
      · omega
  · intro k ob ho
    exact (hr.objs k ob ho).mono (hr.le k) hex (fun L hL t => below_cell hb (hr.blt hL))

theorem scal_rep {x : D} (hs : x.scal = true) {I : Nat → Nat → Prop} {w : World} {v : Value} (hd : DRep I w x v) (I2 : Nat → Nat → Prop) (w2 : World) : DRep I2 w2 x v := by
  cases x <;> first | (cases hd; first | exact .bool _ | exact .int _ _ | exact .str _ _ ‹_› | exact .nilp | exact .nili | exact .ifc _ _) | (simp [D.scal] at hs)

theorem retAV_rep {rs : List D} {v : Value} (hr : RetRep G.imm w rs v) : Rep G w (retAV rs) v := by
  rcases hr with ⟨x, rfl, hd⟩ | ⟨hn, vs, rfl, hs, hd⟩
  · exact .d hd
  · have : retAV rs = .tup (rs.map .d) := by
      unfold retAV
      split
      · simp at hn
      · rfl
    rw [this]
    refine .tup _ vs (by simpa using hs) (fun i c u hc hu => ?_)
    simp only [List.getElem?_map, Option.map_eq_some_iff] at hc
    obtain ⟨x, hx, rfl⟩ := hc
    exact .d (hd i x u hx hu)

theorem run_callFunc {f : Nat} (hc : Callable P f) (args : Array Value) (w : World) : (callFunc f args).run P w = .ok (.enter f args) w := by
  obtain ⟨fn, hf, hb, hn⟩ := hc
  simp only [callFunc, Sem.run_bind, run_program, Result.andThen_ok, hf, hn, hb, Bool.false_eq_true, if_false, Sem.run_pure]

/-- A call. -/
theorem opCall_sound (hr : HR G B w0 I0 h w) {cfg : Cfg} {i f : Nat} {xs : List AV} {vs : Array Value} (hl : vs.size = xs.length) (hx : ∀ (i : Nat) (x : AV) (u : Value), xs[i]? = some x → vs[i]? = some u → Rep G w x u) {out : Out}
    (ho : opCall cfg i f xs h = some out) (hob : Obls0 P out.ob) :
    Callable P f ∧ Calls P f vs w fun e w' => ∃ v G', e = .returned v ∧ Ext G w G' w' ∧ HR G' B w0 I0 (updAll h out.wr) w' ∧ Rep G' w' out.val v := by
  unfold opCall at ho
  split at ho
  · rename_i ds hds
    simp only [Option.some.injEq] at ho
    subst ho
    obtain ⟨h1, h2⟩ := toDs_sound hds hl hx
    obtain ⟨hc, hcall⟩ := hob (f, ds, cfg.ret i) (by simp)
    refine ⟨hc, (hcall w G.imm vs hr.immlt h1 h2 hr.maps.glob).mono ?_⟩
    rintro e w' ⟨v, I', rfl, hb, hI1, hI2, hI3, hret⟩
    obtain ⟨g1, g2⟩ := hr.behind hb hI2 hI3
    refine ⟨v, _, rfl, g2, g1, retAV_rep ?_⟩
    have up : ∀ {x : D} {u : Value}, DRep I' w' x u → DRep (G.more I').imm w' x u := fun hd => hd.mono (fun _ _ x => .inr x) (fun _ _ _ => rfl)
    rcases hret with ⟨x, hx, hd⟩ | ⟨hn, us, hv, hs, hd⟩
    · exact .inl ⟨x, hx, up hd⟩
    · exact .inr ⟨hn, us, hv, hs, fun i x u a b => up (hd i x u a b)⟩
  · split at ho
    · rename_i r hview
      split at ho
      · rename_i hscal
        simp only [Option.some.injEq] at ho
        subst ho
        obtain ⟨ds, ks⟩ := r
        obtain ⟨h1, h2⟩ := views_sound hr hview hl hx
        obtain ⟨hc, hcall⟩ := hob (f, ds, cfg.ret i) (by simp)
        have hilt : ∀ b o, immWith G h ks b o → b < w.heap.size := by
          rintro b o (x | ⟨k, _, L, hL, rfl⟩)
          · exact hr.immlt b o x
          · exact hr.blt hL
        refine ⟨hc, (hcall w (immWith G h ks) vs hilt h1 h2 (hr.maps.glob.mono (fun _ _ x => .inl x) (fun _ _ _ => rfl))).mono ?_⟩
        rintro e w' ⟨v, I', rfl, hb, hI1, hI2, hI3, hret⟩
        obtain ⟨g1, g2⟩ := hr.behind hb (I' := fun _ _ => False) (fun _ _ x => x.elim) (fun _ _ x => x.elim)
        refine ⟨v, _, rfl, g2, g1, retAV_rep ?_⟩
        have sc : ∀ x ∈ cfg.ret i, x.scal = true := fun x hx => List.all_eq_true.1 hscal x hx
        rcases hret with ⟨x, hx, hd⟩ | ⟨hn, us, hv, hs, hd⟩
        · exact .inl ⟨x, hx, scal_rep (sc x (by have hx' : cfg.ret i = [x] := hx; rw [hx']; simp)) hd _ _⟩
        · exact .inr ⟨hn, us, hv, hs, fun i x u a b => scal_rep (sc x (List.mem_of_getElem? a)) (hd i x u a b) _ _⟩
      · cases ho
    · cases ho

/-- What an operation's run leads on to. -/
def Leads (P : Program) (B : Nat) (w0 : World) (I0 : Nat → Nat → Prop) (G : Gh) (h : Heap) (w : World) (out : Out) (r : Result Next) : Prop :=
  Good P B w0 I0 G h w r out ∨ ∃ f args, r = .ok (.enter f args) w ∧ Calls P f args w fun e w' => ∃ v G', e = .returned v ∧ Ext G w G' w' ∧ HR G' B w0 I0 (updAll h out.wr) w' ∧ Rep G' w' out.val v

theorem leads_value (hr : HR G B w0 I0 h w) {s : Sem Value} {out : Out} {v : Value} (hrun : s.run P w = .ok v w) (hw : out.wr = []) (hv : Rep G w out.val v) : Leads P B w0 I0 G h w out ((do pure (.value (← s)) : Sem Next).run P w) :=
  .inl (Good.pure hr (by simp [hrun]) hw hv)
theorem leads_new {s : Sem Value} {out : Out} (hh : ∃ v w' G', s.run P w = .ok v w' ∧ Ext G w G' w' ∧ HR G' B w0 I0 (updAll h out.wr) w' ∧ Rep G' w' out.val v) : Leads P B w0 I0 G h w out ((do pure (.value (← s)) : Sem Next).run P w) := by
  obtain ⟨v, w', G', hrun, h1, h2, h3⟩ := hh
  exact .inl ⟨v, w', G', .inl (by simp [hrun]), h1, h2, h3⟩

theorem run_builtin (c : Call) (b : Builtin) (ty : TypeId) (ρ : Operand → Value) (hc : c.callee = .builtin b) : (do let d ← resolve ρ c ty; invoke d.target d.args : Sem Next).run P w =
    (builtin b c.argTypes ty (c.args.map fun | .const _ => true | _ => false) (c.args.map ρ)).run P w := by
  simp only [resolve, hc, pure_bind, invoke]
  rfl

theorem call_args {c : Call} {ty : TypeId} {ρA : Operand → AV} {ρ : Operand → Value} (hρ : ∀ x, Rep G w (ρA x) (ρ x)) {f : Operand} (hcal : c.callee = .value f) {g : Nat} {caps : List AV} (hf : ρA f = .fn g caps) :
    ∃ vs : Array Value, (c.args.map ρ ++ vs).size = (c.args.toList.map ρA ++ caps).length ∧
      (∀ (i : Nat) (x : AV) (u : Value), (c.args.toList.map ρA ++ caps)[i]? = some x → (c.args.map ρ ++ vs)[i]? = some u → Rep G w x u) ∧
      (do let d ← resolve ρ c ty; invoke d.target d.args : Sem Next).run P w = (callFunc g (c.args.map ρ ++ vs)).run P w := by
  have hfr := hρ f
  rw [hf] at hfr
  obtain ⟨vs, hfv, hl, hcr⟩ : ∃ vs : Array Value, ρ f = .func (.func g) #[] vs ∧ vs.size = caps.length ∧ ∀ (i : Nat) (x : AV) (u : Value), caps[i]? = some x → vs[i]? = some u → Rep G w x u := by
    generalize ρ f = vf at hfr
    cases hfr with
    | fn _ _ vs hl hh => exact ⟨vs, rfl, hl, hh⟩
  have hsz : (c.args.map ρ ++ vs).size = (c.args.toList.map ρA ++ caps).length := by simp [hl]
  have hrep : ∀ (i : Nat) (x : AV) (u : Value), (c.args.toList.map ρA ++ caps)[i]? = some x → (c.args.map ρ ++ vs)[i]? = some u → Rep G w x u := by
    intro i x u hx hu
    by_cases hi : i < c.args.size
    · rw [List.getElem?_append_left (by simpa using hi)] at hx
      rw [Array.getElem?_append_left (by simpa using hi)] at hu
      simp only [List.getElem?_map, Array.getElem?_toList, Option.map_eq_some_iff] at hx
      simp only [Array.getElem?_map, Option.map_eq_some_iff] at hu
      obtain ⟨a, ha, rfl⟩ := hx
      obtain ⟨b, hb, rfl⟩ := hu
      rw [ha] at hb
      simp only [Option.some.injEq] at hb
      subst hb
      exact hρ a
    · rw [List.getElem?_append_right (by simp; omega)] at hx
      rw [Array.getElem?_append_right (by simp; omega)] at hu
      simp only [List.length_map, Array.length_toList] at hx
      simp only [Array.size_map] at hu
      exact hcr _ x u hx hu
  refine ⟨vs, hsz, hrep, ?_⟩
  have h0 : resolve ρ c ty = pure { target := .fn (.func g) vs, args := #[] ++ c.args.map ρ } := by
    simp only [resolve, hcal, hfv, Deferred.ofValue]
  rw [h0, pure_bind]
  simp only [invoke, Array.empty_append]

theorem firstAt_find (s : List UInt8) (c : UInt8) : ∀ (n i : Nat), s.length - i = n → i ≤ s.length → ((List.range' i n).find? fun j => s[j]! == c) = firstAt c (s.drop i) i
  | 0, i, h, hi => by
    rw [List.drop_eq_nil_of_le (by omega)]; rfl
  | n + 1, i, h, hi => by
    have hlt : i < s.length := by omega
    rw [List.range'_succ, List.find?_cons, List.drop_eq_getElem_cons hlt]
    simp only [firstAt]
    have hg : s[i]! = s[i] := getElem!_pos s i hlt
    rw [hg]
    by_cases hc : s[i] == c
    · simp [hc]
    · simp only [hc, Bool.false_eq_true, if_false]
      exact firstAt_find s c n (i + 1) (by omega) (by omega)
theorem extD_sound {k : ExtK} {g : Nat} (hk : ExtOk P g k) {ds : List D} {args : Array Value} (hs : args.size = ds.length) {imm : Nat → Nat → Prop} (hr : ∀ (i : Nat) (x : D) (u : Value), ds[i]? = some x → args[i]? = some u → DRep imm w x u) {d : D} (hd : extD k ds = some d) :
    ∃ v, (callFunc g args).run P w = .ok (.value v) w ∧ DRep imm w d v := by
  obtain ⟨fn, h1, h2, h3, h4, h5⟩ := hk
  unfold extD at hd
  split at hd
  · rename_i s c
    simp only [Option.some.injEq] at hd
    subst hd
    have l0 : args[0]? = some (args[0]'(by simp at hs; omega)) := Array.getElem?_eq_getElem _
    have l1 : args[1]? = some (args[1]'(by simp at hs; omega)) := Array.getElem?_eq_getElem _
    have r0 := hr 0 _ _ rfl l0
    have r1 := hr 1 _ _ rfl l1
    have ha : args = #[args[0]'(by simp at hs; omega), args[1]'(by simp at hs; omega)] := by
      apply Array.ext
      · simpa using hs
      · intro i hi1 hi2
        match i with
        | 0 => rfl
        | 1 => rfl
        | i + 2 => simp at hi2; omega
    generalize args[0]'(by simp at hs; omega) = v0 at ha r0
    generalize args[1]'(by simp at hs; omega) = v1 at ha r1
    subst ha
    cases r0 with
    | str _ sb hsb =>
    subst hsb
    cases r1
    refine ⟨_, ?_, .int .i64 _⟩
    rw [run_callFunc_indexByte h1 h2 h3 h4 h5, run_indexByte_string]
    simp only [Result.andThen_ok]
    congr 3
    unfold firstIdx
    have := firstAt_find sb.data.toList c.toNat.toUInt8 sb.size 0 (by simp) (by simp)
    rw [List.drop_zero] at this
    rw [← this, List.range_eq_range']
    have hg : (fun i : Nat => sb[i]! == c.toNat.toUInt8) = (fun j : Nat => sb.data.toList[j]! == c.toNat.toUInt8) := by
      funext j
      have : sb[j]! = sb.data.toList[j]! := by
        by_cases hj : j < sb.size
        · rw [getElem!_pos sb j hj, getElem!_pos sb.data.toList j (by simpa using hj)]
          simp only [Array.getElem_toList]; rfl
        · rw [getElem!_neg sb j hj, getElem!_neg sb.data.toList j (by simpa using hj)]
      rw [this]
    rw [hg]
    generalize List.find? _ _ = q
    cases q <;> rfl
  · cases hd

theorem coreCall_sound (hx : ExtAll P) (hr : HR G B w0 I0 h w) {cfg : Cfg} {i k : Nat} {c : Call} {ty : TypeId} {ρA : Operand → AV} {ρ : Operand → Value} (hρ : ∀ x, Rep G w (ρA x) (ρ x)) {out : Out} (ho : coreCall P cfg i c ρA h k = some out) (hob : Obls0 P out.ob) :
    Leads P B w0 I0 G h w out ((do let d ← resolve ρ c ty; invoke d.target d.args : Sem Next).run P w) := by
  have arr : ∀ {α : Type} (a : Array α) (l : List α), a.toList = l → a = l.toArray := fun a l e => by rw [← e]
  unfold coreCall at ho
  split at ho
  · rename_i hcal
    rw [run_builtin c .len ty ρ hcal]
    split at ho
    · rename_i x t hargs hty
      rw [arr _ _ hargs, arr _ _ hty, show Array.map ρ [x].toArray = #[ρ x] from by simp]
      split at ho
      · rename_i k0 v0 hx0
        obtain ⟨_, hw, v, hrun, hv⟩ := opLenMap_sound (P := P) hr (by rw [← hx0]; exact hρ x) ho
        exact leads_value hr (s := Builtin.len_ #[t] ty #[ρ x]) (hrun ty) hw hv
      · obtain ⟨_, hw, v, hrun, hv⟩ := opLen_sound (P := P) (hρ x) ho
        exact leads_value hr (s := Builtin.len_ #[t] ty #[ρ x]) (hrun ty) hw hv
    · cases ho
  · rename_i hcal
    rw [run_builtin c .min ty ρ hcal]
    split at ho
    · rename_i x y hargs
      obtain ⟨_, hw, v, hrun, hv⟩ := opMinMax_sound (P := P) (hρ x) (hρ y) ho
      rw [arr _ _ hargs, show Array.map ρ [x, y].toArray = #[ρ x, ρ y] from by simp]
      exact leads_value hr (s := Builtin.min_ c.argTypes ty #[ρ x, ρ y]) (by simpa using hrun c.argTypes ty) hw hv
    · cases ho
  · rename_i hcal
    rw [run_builtin c .max ty ρ hcal]
    split at ho
    · rename_i x y hargs
      obtain ⟨_, hw, v, hrun, hv⟩ := opMinMax_sound (P := P) (hρ x) (hρ y) ho
      rw [arr _ _ hargs, show Array.map ρ [x, y].toArray = #[ρ x, ρ y] from by simp]
      exact leads_value hr (s := Builtin.max_ c.argTypes ty #[ρ x, ρ y]) (by simpa using hrun c.argTypes ty) hw hv
    · cases ho
  · rename_i hcal
    rw [run_builtin c .append ty ρ hcal]
    split at ho
    · rename_i s x t t' hargs hty
      split at ho
      · rename_i htt
        rw [arr _ _ hargs, arr _ _ hty, show Array.map ρ [s, x].toArray = #[ρ s, ρ x] from by simp]
        exact leads_new (s := Builtin.append_ #[t, t'] ty #[ρ s, ρ x]) (opAppendT_sound hr htt (hρ s) (hρ x) ho).2
      · cases ho
    · cases ho
  · rename_i hcal
    rw [run_builtin c .unsafeSliceData ty ρ hcal]
    split at ho
    · rename_i x hargs
      simp only [Option.map_eq_some_iff] at ho
      obtain ⟨y, hy, rfl⟩ := ho
      rw [arr _ _ hargs, show Array.map ρ [x].toArray = #[ρ x] from by simp]
      obtain ⟨v, hrun, hv⟩ := opSliceData_sound (P := P) (hρ x) hy c.argTypes ty
      exact leads_value hr (s := Builtin.unsafeSliceData_ c.argTypes ty #[ρ x]) hrun rfl hv
    · cases ho
  · rename_i hcal
    rw [run_builtin c .unsafeString ty ρ hcal]
    split at ho
    · rename_i x n pt it hargs hty
      rw [arr _ _ hargs, arr _ _ hty, show Array.map ρ [x, n].toArray = #[ρ x, ρ n] from by simp]
      exact leads_new (s := Builtin.unsafeString_ #[pt, it] ty #[ρ x, ρ n]) (opUnsafeString_sound hr (hρ x) (hρ n) ho).2
    · cases ho
  · rename_i f hcal
    split at ho
    · rename_i g caps hf
      obtain ⟨vs, hsz, hrep, henter⟩ := call_args (P := P) (w := w) (ty := ty) hρ hcal hf
      split at ho
      · rename_i hk0
        split at ho
        · rename_i x hxs
          simp only [Option.some.injEq] at ho
          subst ho
          rw [hxs] at hsz hrep
          obtain ⟨fn, h1, h2, h3, h4, h5⟩ := hx g _ hk0
          have hargs : ∃ v, c.args.map ρ ++ vs = #[v] := by
            have : (c.args.map ρ ++ vs).size = 1 := hsz
            exact ⟨(c.args.map ρ ++ vs)[0], by apply Array.ext; · simpa using this
                                               · intro i hi1 hi2
                                                 have : i = 0 := by simp at hi2; omega
                                                 subst this; rfl⟩
          obtain ⟨v, hv⟩ := hargs
          rw [hv] at hrep henter
          refine .inl (Good.pure hr (v := v) ?_ rfl (hrep 0 x v rfl rfl))
          rw [henter, run_callFunc_extern h1 h2 h3 h4 h5]
          rfl
        · cases ho
      · rename_i k0 _ hk0
        split at ho
        · rename_i ds hds
          simp only [Option.map_eq_some_iff] at ho
          obtain ⟨d, hd, rfl⟩ := ho
          obtain ⟨t1, t2⟩ := toDs_sound hds hsz hrep
          obtain ⟨v, hv1, hv2⟩ := extD_sound (hx g k0 hk0) t1 t2 hd
          refine .inl (Good.pure hr (v := v) ?_ rfl (.d hv2))
          rw [henter]; exact hv1
        · cases ho
      · obtain ⟨hc, hcall⟩ := opCall_sound hr hsz hrep ho hob
        exact .inr ⟨g, c.args.map ρ ++ vs, by rw [henter]; exact run_callFunc hc _ w, hcall⟩
    · cases ho
  · cases ho

theorem core_sound (hx : ExtAll P) (hr : HR G B w0 I0 h w) {cfg : Cfg} {i : Nat} {o : Oper} {ρA : Operand → AV} {ρ : Operand → Value} (hρ : ∀ x, Rep G w (ρA x) (ρ x)) {out : Out} (ho : core P cfg i o ρA h = some out) (hob : Obls0 P out.ob) :
    Leads P B w0 I0 G h w out ((execOp ρ o).run P w) := by
  have parts : ∀ (ps : Array (Nat × Operand)), (ps.map fun p => (p.1, ρ p.2)).size = (ps.toList.map fun p => (p.1, ρA p.2)).length ∧
      ∀ (i : Nat) (p : Nat × AV) (q : Nat × Value), (ps.toList.map fun p => (p.1, ρA p.2))[i]? = some p → (ps.map fun p => (p.1, ρ p.2))[i]? = some q → p.1 = q.1 ∧ Rep G w p.2 q.2 := by
    intro ps
    refine ⟨by simp, fun i p q hp hq => ?_⟩
    simp only [List.getElem?_map, Array.getElem?_toList, Option.map_eq_some_iff] at hp
    simp only [Array.getElem?_map, Option.map_eq_some_iff] at hq
    obtain ⟨a, ha, rfl⟩ := hp
    obtain ⟨b, hb, rfl⟩ := hq
    rw [ha] at hb
    simp only [Option.some.injEq] at hb
    subst hb
    exact ⟨rfl, hρ _⟩
  have optR : ∀ (x : Option Operand), (∀ y, x.map ρA = some y → ∃ v, x.map ρ = some v ∧ Rep G w y v) ∧ (x.map ρA = none → x.map ρ = none) := by
    intro x
    cases x with
    | none => exact ⟨fun y hy => by simp at hy, fun _ => rfl⟩
    | some x => exact ⟨fun y hy => by simp at hy; subst hy; exact ⟨_, rfl, hρ x⟩, fun hn => by simp at hn⟩
  unfold core at ho
  unfold execOp
  split at ho
  · rename_i x hop; rw [hop]
    simp only [Option.some.injEq] at ho; subst ho
    exact .inl (Good.pure hr rfl rfl (hρ x))
  · rename_i x hop; rw [hop]
    simp only [Option.some.injEq] at ho; subst ho
    exact .inl (Good.pure hr rfl rfl (hρ x))
  · rename_i c a b hop; rw [hop]
    split at ho
    · rename_i t hc
      simp only [Option.some.injEq] at ho; subst ho
      have hcr := hρ c
      rw [hc] at hcr
      cases hcr with
      | d hd =>
        generalize hvc : ρ c = vc at hd
        cases hd
        refine .inl (Good.pure hr (v := if t = true then ρ a else ρ b) (by simp [hvc, asBool]) rfl ?_)
        cases t
        · exact hρ b
        · exact hρ a
    · cases ho
  · rename_i t hop; rw [hop]
    exact leads_new (opAllocT_sound hr _ ho).2
  · rename_i t x hop; rw [hop]
    exact leads_new (opBoxT_sound hr _ (hρ x) ho).2
  · rename_i t x hop; rw [hop]
    simp only [Option.map_eq_some_iff] at ho
    obtain ⟨y, hy, rfl⟩ := ho
    obtain ⟨v, hrun, hv⟩ := opMakeIface_sound (P := P) (hρ x) hy
    exact leads_value hr hrun rfl hv
  · rename_i x xT t ok hop; rw [hop]
    simp only [Option.map_eq_some_iff] at ho
    obtain ⟨y, hy, rfl⟩ := ho
    obtain ⟨v, hrun, hv⟩ := opAssert_sound (P := P) (xT := xT) (hρ x) hy
    exact leads_value hr hrun rfl hv
  · rename_i t ps hop; rw [hop]
    obtain ⟨h1, h2⟩ := parts ps
    obtain ⟨_, hw, v, hrun, hv⟩ := opBuild_sound ho (by rw [List.length_map]; exact h1) (fun i p q hp hq => by
      simp only [List.getElem?_map, Option.map_eq_some_iff] at hp
      obtain ⟨p', hp', rfl⟩ := hp
      have := h2 i p' q (by simpa only [List.getElem?_map, Option.map_eq_some_iff] using hp') hq
      exact ⟨this.1, this.2.frz⟩)
    exact leads_value hr hrun hw hv
  · rename_i t len ps hop; rw [hop]
    obtain ⟨h1, h2⟩ := parts ps
    exact leads_new (opBuildSlice_sound hr ho h1 h2).2
  · rename_i t a hop; rw [hop]
    obtain ⟨v, hrun, hw, _, hv⟩ := opLoad_sound hr (hρ a) ho
    exact leads_value hr hrun hw hv
  · rename_i t a x hop; rw [hop]
    obtain ⟨_, hval, w', hrun, h1, h2⟩ := opStore_sound hr (hρ a) (hρ x) ho
    exact .inl ⟨undef, w', G, .inr ⟨by simp [hrun], rfl⟩, h1, h2, by rw [hval]; exact .junk _⟩
  · rename_i x hop; rw [hop]
    split at ho
    · rename_i k v j off sz0 hx
      simp only [Option.some.injEq] at ho; subst ho
      have hxr := hρ x
      rw [hx] at hxr
      obtain ⟨a, ha⟩ : ∃ a, ρ x = .pointer (some a) := by
        generalize ρ x = vx at hxr
        cases hxr; exact ⟨_, rfl⟩
      exact .inl (Good.pure hr (v := ρ x) (by simp [ha]) rfl hxr)
    · rename_i cs hx
      simp only [Option.some.injEq] at ho; subst ho
      have hxr := hρ x
      rw [hx] at hxr
      obtain ⟨a, ha⟩ : ∃ a, ρ x = .pointer (some a) := by
        generalize ρ x = vx at hxr
        cases hxr with | d hd => cases hd; exact ⟨_, rfl⟩
      exact .inl (Good.pure hr (v := ρ x) (by simp [ha]) rfl hxr)
    · cases ho
  · rename_i op t x y yt hop; rw [hop]
    split at ho
    · rename_i r hb
      simp only [Option.some.injEq] at ho; subst ho
      obtain ⟨v, hg, hrun, hv⟩ := opBin_sound (P := P) (t := t) (hρ x) (hρ y) hb
      exact .inl (Good.pure hr (v := v) (by simp [hg x y, hrun]) rfl hv)
    · split at ho
      · simp only [Option.map_eq_some_iff] at ho
        obtain ⟨b, hb, rfl⟩ := ho
        obtain ⟨hg, hrun⟩ := opEqO_sound (op := .eql) (hρ x) (hρ y) hb (.inl rfl)
        exact .inl (Good.pure hr (v := .bool b) (by simp [hg, hrun]) rfl (.d (.bool _)))
      · simp only [Option.map_eq_some_iff] at ho
        obtain ⟨b, hb, rfl⟩ := ho
        obtain ⟨hg, hrun⟩ := opEqO_sound (op := .neq) (hρ x) (hρ y) hb (.inr rfl)
        exact .inl (Good.pure hr (v := .bool (!b)) (by simp [hg, hrun]) rfl (.d (.bool _)))
      · cases ho
  · rename_i op t x hop; rw [hop]
    simp only [Option.map_eq_some_iff] at ho
    obtain ⟨r, hb, rfl⟩ := ho
    obtain ⟨v, hrun, hv⟩ := opUn_sound (P := P) (hρ x) hb
    exact leads_value hr hrun rfl hv
  · rename_i src dst x hop; rw [hop]
    unfold opConv at ho
    split at ho
    · rename_i out' hout
      simp only [Option.some.injEq] at ho
      subst ho
      exact leads_new (opConvBytes_sound hr (hρ x) hout).2
    split at ho
    · rename_i v0 hv0
      simp only [Option.some.injEq] at ho
      subst ho
      obtain ⟨v, hrun, hv⟩ := opConvStr_sound (hρ x) hv0
      exact leads_value hr hrun rfl hv
    split at ho
    · rename_i r hb
      simp only [Option.some.injEq] at ho
      subst ho
      obtain ⟨v, hrun, hv⟩ := opConvert_sound (P := P) (hρ x) hb
      exact leads_value hr hrun rfl hv
    split at ho
    · rename_i out' hout
      simp only [Option.some.injEq] at ho
      subst ho
      exact leads_new (opConvSame_sound hr (hρ x) hout).2
    · obtain ⟨hw, v, hrun, hv⟩ := opConvPtr_sound hr (hρ x) ho
      exact leads_value hr hrun hw hv
  · rename_i f first caps hop; rw [hop]
    split at ho
    · rename_i hfe
      simp only [Option.some.injEq] at ho; subst ho
      have hf0 : first = #[] := by simpa using hfe
      subst hf0
      refine leads_value hr (v := .func (.func f) #[] (caps.map ρ)) (by simp [Instr.makeFunc]) rfl (.fn f _ _ (by simp) (fun i c u hc hu => ?_))
      simp only [List.getElem?_map, Array.getElem?_toList, Option.map_eq_some_iff] at hc
      simp only [Array.getElem?_map, Option.map_eq_some_iff] at hu
      obtain ⟨a, ha, rfl⟩ := hc
      obtain ⟨b, hb, rfl⟩ := hu
      rw [ha] at hb
      simp only [Option.some.injEq] at hb
      subst hb
      exact hρ a
    · cases ho
  · rename_i t l c hop; rw [hop]
    exact leads_new (opMakeSlice_sound hr (hρ l) (hρ c) ho).2
  · rename_i t x lo hi mx hop; rw [hop]
    obtain ⟨_, hw, v, hrun, hv⟩ := opSlice_sound (hρ x) (optR lo).1 (optR lo).2 (optR hi).1 (optR hi).2 (optR mx).1 (optR mx).2 ho
    exact leads_value hr hrun hw hv
  · rename_i t x f hop; rw [hop]
    obtain ⟨_, hw, v, hrun, hv⟩ := opFieldAddr_sound hr (hρ x) ho
    exact leads_value hr hrun hw hv
  · rename_i t x f hop; rw [hop]
    obtain ⟨_, hw, v, hrun, hv⟩ := opField_sound (P := P) (hρ x) ho
    exact leads_value hr hrun hw hv
  · rename_i t x ix hop; rw [hop]
    obtain ⟨_, hw, v, hrun, hv⟩ := opIndexAddr_sound hr (hρ x) (hρ ix) ho
    exact leads_value hr hrun hw hv
  · rename_i t hop; rw [hop]
    exact leads_new (opMakeMap_sound hr ho).2
  · rename_i t m k x hop; rw [hop]
    obtain ⟨_, hval, w', hrun, h1, h2⟩ := opMapUpdate_sound hr (hρ m) (hρ k) (hρ x) ho
    exact .inl ⟨undef, w', G, .inr ⟨by simp [hrun], rfl⟩, h1, h2, by rw [hval]; exact .junk _⟩
  · rename_i t m k x hop; rw [hop]
    obtain ⟨_, hval, w', hrun, h1, h2⟩ := opMapUpdate_sound hr (hρ m) (hρ k) (hρ x) ho
    exact .inl ⟨undef, w', G, .inr ⟨by simp [hrun], rfl⟩, h1, h2, by rw [hval]; exact .junk _⟩
  · rename_i t m k ok hop; rw [hop]
    obtain ⟨_, hw, v, hrun, hv⟩ := opLookup_sound hr (hρ m) (hρ k) ho
    exact leads_value hr hrun hw hv
  · rename_i t x ix hop; rw [hop]
    simp only [Option.map_eq_some_iff] at ho
    obtain ⟨r, hb, rfl⟩ := ho
    obtain ⟨v, hrun, hv⟩ := opIndex_sound (P := P) (hρ x) (hρ ix) hb
    exact leads_value hr hrun rfl hv
  · rename_i t ix hop; rw [hop]
    split at ho
    · rename_i vs ht
      simp only [Option.map_eq_some_iff] at ho
      obtain ⟨v, hv, rfl⟩ := ho
      have htr := hρ t
      rw [ht] at htr
      generalize hvt : ρ t = vt at htr
      cases htr with
      | tup _ us hl hh =>
        have hlt : ix < us.size := by rw [hl]; exact (List.getElem?_eq_some_iff.1 hv).1
        have hu : us[ix]? = some us[ix] := Array.getElem?_eq_getElem hlt
        exact leads_value hr (v := us[ix]) (by simp [Instr.extract, hvt, hu]) rfl (hh ix v _ hv hu)
    · cases ho
  · rename_i c hop; rw [hop]
    exact coreCall_sound hx hr hρ ho hob
  · cases ho

theorem yieldsA {N : Nat} {D : List Deferred} {ops : Array Oper} {o : Oper} {S : Nat → AV} {a : Act} (hf : FR G w N D S a) {b : Bool} (hw : wantedA ops o S = some b) : Region.wanted o (yielded ops a.tmps) = b := by
  unfold wantedA at hw
  unfold Region.wanted
  split at hw
  · simp only [Option.some.injEq] at hw; rename_i hg; rw [hg]; exact hw
  · rename_i j want hg
    rw [hg]
    split at hw
    · rename_i t ht
      split at hw
      · rename_i bb hb
        simp only [Option.some.injEq] at hw
        have htN : t < N := by
          rcases Nat.lt_or_ge t N with h9 | h9
          · exact h9
          · have := hf.out t h9; rw [this] at hb; cases hb
        have hr := hf.rep t htN
        rw [hb] at hr
        have hv : a.tmps[t]? = some (.bool bb) := by
          have hlt : t < a.tmps.size := by rw [hf.size]; exact htN
          rw [Array.getD_eq_getD_getElem?, Array.getElem?_eq_getElem hlt, Option.getD_some] at hr
          rw [Array.getElem?_eq_getElem hlt]
          generalize a.tmps[t] = v at hr
          cases hr with | d hd => cases hd; rfl
        simp only [yielded, ht, Option.bind_some, hv]
        rw [← hw]
        cases bb <;> cases want <;> rfl
      · rename_i hb
        simp only [Option.some.injEq] at hw
        have htN : t < N := by
          rcases Nat.lt_or_ge t N with h9 | h9
          · exact h9
          · have := hf.out t h9; rw [this] at hb; cases hb
        have hr := hf.rep t htN
        rw [hb] at hr
        have hv : a.tmps[t]? = some (.tuple #[]) := by
          have hlt : t < a.tmps.size := by rw [hf.size]; exact htN
          rw [Array.getD_eq_getD_getElem?, Array.getElem?_eq_getElem hlt, Option.getD_some] at hr
          rw [Array.getElem?_eq_getElem hlt]
          generalize a.tmps[t] = v at hr
          cases hr with
          | tup _ vs hl _ =>
            have : vs = #[] := by simpa using hl
            rw [this]
        simp only [yielded, ht, Option.bind_some, hv]
        rw [← hw]
        cases want <;> rfl
      · cases hw
    · cases hw

theorem callsFF {f : FuncId} {args : Array Value} {R : Ending → World → Prop} (r : Option Nat) (n : Nat) (h : Calls P f args w R) : CallsIn (FF r) n P f args w R := by
  have h' := (callsIn_wide (n := n)).2 h
  cases r with
  | none => exact h'
  | some l => exact CallsIn.inRound l h'
theorem core_not_defer {cfg : Cfg} {i : Nat} {o : Oper} {ρ : Operand → AV} {out : Out} (hc : core P cfg i o ρ h = some out) : ∀ c, o.op ≠ .defer c := fun c e => by
  unfold core at hc
  rw [e] at hc
  cases hc
theorem wpIn_value {o : Oper} {a : Act} {v : Value} {w' : World} {next : Act → World → Prop} {Q : Exit → Act → World → Prop} (r : Option Nat) (n : Nat) (hd : ∀ c, o.op ≠ .defer c) (hrun : (execOp a.eval o).run P w = .ok (.value v) w') (hn : next (a.put o.dst v) w') : o.wpIn (FF r) n P a w next Q :=
  ⟨fun _ _ => trivial, by rw [Oper.semAt_eq _ _ _ hd, hrun]; exact hn⟩
theorem wpIn_skipv {o : Oper} {a : Act} {w' : World} {next : Act → World → Prop} {Q : Exit → Act → World → Prop} (r : Option Nat) (n : Nat) (hd : ∀ c, o.op ≠ .defer c) (hrun : (execOp a.eval o).run P w = .ok .skip w') (hn : next (a.put o.dst undef) w') : o.wpIn (FF r) n P a w next Q :=
  ⟨fun _ _ => trivial, by rw [Oper.semAt_eq _ _ _ hd, hrun]; exact hn⟩
theorem wpIn_enter {o : Oper} {a : Act} {f : FuncId} {args : Array Value} {w' : World} {next : Act → World → Prop} {Q : Exit → Act → World → Prop} {R : Ending → World → Prop} (r : Option Nat) (n : Nat) (hd : ∀ c, o.op ≠ .defer c) (hrun : (execOp a.eval o).run P w = .ok (.enter f args) w')
    (hcall : Calls P f args w' R) (hn : ∀ e w2, R e w2 → ∃ v, e = .returned v ∧ next (a.put o.dst v) w2) : o.wpIn (FF r) n P a w next Q :=
  ⟨fun _ _ => trivial, by
    rw [Oper.semAt_eq _ _ _ hd, hrun, Oper.uponIn_enter]
    refine ⟨fun x => (by cases x), (callsFF r (n - 1) hcall).mono ?_⟩
    intro e w2 hr
    obtain ⟨v, rfl, h⟩ := hn e w2 hr
    exact h⟩

theorem wpIn_round {o : Oper} {a : Act} {l f : Nat} {tmps : Array Value} {as bd : Code} {w' : World} {next : Act → World → Prop} {Q : Exit → Act → World → Prop} {R : Ending → World → Prop} (r : Option Nat) (n : Nat) (hd : ∀ c, o.op ≠ .defer c) (hrun : (execOp a.eval o).run P w = .ok (.round l f tmps as bd) w')
    (hcall : RoundIn (FF r) 0 P l f tmps as bd w' R) (hn : ∀ e w2, R e w2 → ∃ v, e = .returned v ∧ next (a.put o.dst v) w2) : o.wpIn (FF r) n P a w next Q :=
  ⟨fun _ _ => trivial, by
    rw [Oper.semAt_eq _ _ _ hd, hrun, Oper.uponIn_round]
    refine ⟨fun x => (by cases x), ?_⟩
    have h2 : RoundIn (FF r) (n - 1) P l f tmps as bd w' R := ⟨hcall.1, fun c cs _ => hcall.2 c cs (fun d hd => by cases hd)⟩
    refine h2.mono ?_
    intro e w2 hr
    obtain ⟨v, rfl, h⟩ := hn e w2 hr
    exact h⟩
theorem yield_args {c : Call} {ty : TypeId} {ρA : Operand → AV} {ρ : Operand → Value} (hρ : ∀ x, Rep G w (ρA x) (ρ x)) {f : Operand} (hcal : c.callee = .value f) {k v : Nat} (hf : ρA f = .yld k v) :
    ∃ b, G.mloc k v = some b ∧ (c.args.map ρ).size = (c.args.toList.map ρA).length ∧
      (∀ (i : Nat) (x : AV) (u : Value), (c.args.toList.map ρA)[i]? = some x → (c.args.map ρ)[i]? = some u → Rep G w x u) ∧
      (do let d ← resolve ρ c ty; invoke d.target d.args : Sem Next).run P w = (Instr.yield b (c.args.map ρ)).run P w := by
  have hfr := hρ f
  rw [hf] at hfr
  obtain ⟨b, hfv, hb⟩ : ∃ b, ρ f = .func (.yield b) #[] #[] ∧ G.mloc k v = some b := by
    generalize ρ f = vf at hfr
    cases hfr with
    | yld _ _ b hb => exact ⟨b, rfl, hb⟩
  refine ⟨b, hb, by simp, fun i x u hx hu => ?_, ?_⟩
  · simp only [List.getElem?_map, Array.getElem?_toList, Option.map_eq_some_iff] at hx
    simp only [Array.getElem?_map, Option.map_eq_some_iff] at hu
    obtain ⟨a, ha, rfl⟩ := hx
    obtain ⟨b, hb, rfl⟩ := hu
    rw [ha] at hb
    simp only [Option.some.injEq] at hb
    subst hb
    exact hρ a
  · have h0 : resolve ρ c ty = pure { target := .fn (.yield b) #[], args := #[] ++ c.args.map ρ } := by
      simp only [resolve, hcal, hfv, Deferred.ofValue]
    rw [h0, pure_bind]
    simp [invoke]

/-- One step of a region. -/
theorem stepA_sound {S S' : St} {D : List Deferred} (hx : ExtAll P) (hr : HR G B w0 I0 S.heap w) {cfg : Cfg} {N i : Nat} {ops : Array Oper} {o : Oper} {a : Act} (hf : FR G w N D S.env a) {ob : List Obl} {ft : Foot}
    (hs : stepA P cfg N ops i o S = some (S', ob, ft)) (hob : Obls P ob) {next : Act → World → Prop} {Q : Exit → Act → World → Prop} (r : Option Nat) (n : Nat)
    (hnext : ∀ a' w' G', Ext G w G' w' → HR G' B w0 I0 S'.heap w' → FR G' w' N D S'.env a' → next a' w') :
    if Region.wanted o (yielded ops a.tmps) then o.wpIn (FF r) n P a w next Q else (∀ f, o.about P w a.eval = some f → (FF r).fn f) ∧ next (a.put o.dst undef) w := by
  unfold stepA at hs
  split at hs
  · rename_i hw
    rw [if_pos (yieldsA hf hw)]
    split at hs
    · rename_i rs h' tk hhc
      split at hs
      case isFalse => cases hs
      split at hs
      · rename_i g args hco
        simp only [Option.map_eq_some_iff, Prod.mk.injEq] at hs
        obtain ⟨env, hp, rfl, rfl, rfl⟩ := hs
        obtain ⟨hcb, hcall⟩ := hob _ (List.mem_singleton.2 rfl)
        unfold callOf at hco
        split at hco
        · rename_i c hop
          split at hco
          · rename_i f hcal
            split at hco
            · rename_i g' caps hfn
              simp only [Option.some.injEq, Prod.mk.injEq] at hco
              obtain ⟨rfl, rfl⟩ := hco
              obtain ⟨vs, hsz, hrep, henter⟩ := call_args (P := P) (ty := o.type) (ρ := a.eval) (fun x => hf.opd hr.maps.glob x) hcal hfn
              have hrun : (execOp a.eval o).run P w = .ok (.enter g' (c.args.map a.eval ++ vs)) w := by
                unfold execOp
                rw [hop]
                exact henter.trans (run_callFunc hcb _ w)
              refine wpIn_enter r n (fun c e => by rw [hop] at e; cases e) hrun (hcall G B w0 I0 w _ hr hsz hrep) ?_
              rintro e w' ⟨v, G', rfl, h1, h2, h3⟩
              exact ⟨v, rfl, hnext _ _ _ h1 h2 ((hf.mono h1).put hp h3)⟩
            · cases hco
          · cases hco
        · cases hco
      · split at hs
        · rename_i k v args hco
          simp only [Option.map_eq_some_iff, Prod.mk.injEq] at hs
          obtain ⟨env, hp, rfl, rfl, rfl⟩ := hs
          have hcall : YCall P k v args S.heap rs h' := hob _ (List.mem_singleton.2 rfl)
          unfold yldOf at hco
          split at hco
          · rename_i c hop
            split at hco
            · rename_i f hcal
              split at hco
              · rename_i k' v' hfn
                simp only [Option.some.injEq, Prod.mk.injEq] at hco
                obtain ⟨rfl, rfl, rfl⟩ := hco
                obtain ⟨b, hb, hsz, hrep, henter⟩ := yield_args (P := P) (ty := o.type) (ρ := a.eval) (fun x => hf.opd hr.maps.glob x) hcal hfn
                obtain ⟨f', tmps, as, bd, hy, hround⟩ := hcall G B w0 I0 w _ hr hsz hrep b hb
                have hrun : (execOp a.eval o).run P w = .ok (.round b f' tmps as bd) w := by
                  unfold execOp
                  rw [hop]
                  exact henter.trans hy
                refine wpIn_round r n (fun c e => by rw [hop] at e; cases e) hrun (hround r) ?_
                rintro e w' ⟨v, G', rfl, h1, h2, h3⟩
                exact ⟨v, rfl, hnext _ _ _ h1 h2 ((hf.mono h1).put hp h3)⟩
              · cases hco
            · cases hco
          · cases hco
        · cases hs
    · rename_i pre rs post hhc
      split at hs
      · rename_i g args hco
        split at hs
        case isFalse => cases hs
        rename_i hfits
        simp only [Option.map_eq_some_iff, Prod.mk.injEq] at hs
        obtain ⟨env, hp, rfl, rfl, rfl⟩ := hs
        obtain ⟨hcb, hcall⟩ := (show ∀ h, Fits h pre → HCall P g args h rs (ovl post h) from hob _ (List.mem_singleton.2 rfl)) S.heap hfits
        rw [← ovl_updAll] at hcall
        unfold callOf at hco
        split at hco
        · rename_i c hop
          split at hco
          · rename_i f hcal
            split at hco
            · rename_i g' caps hfn
              simp only [Option.some.injEq, Prod.mk.injEq] at hco
              obtain ⟨rfl, rfl⟩ := hco
              obtain ⟨vs, hsz, hrep, henter⟩ := call_args (P := P) (ty := o.type) (ρ := a.eval) (fun x => hf.opd hr.maps.glob x) hcal hfn
              have hrun : (execOp a.eval o).run P w = .ok (.enter g' (c.args.map a.eval ++ vs)) w := by
                unfold execOp
                rw [hop]
                exact henter.trans (run_callFunc hcb _ w)
              refine wpIn_enter r n (fun c e => by rw [hop] at e; cases e) hrun (hcall G B w0 I0 w _ hr hsz hrep) ?_
              rintro e w' ⟨v, G', rfl, h1, h2, h3⟩
              exact ⟨v, rfl, hnext _ _ _ h1 h2 ((hf.mono h1).put hp h3)⟩
            · cases hco
          · cases hco
        · cases hco
      · cases hs
    · rename_i pre h0 rs post h1 hhc
      split at hs
      · rename_i g args hco
        split at hs
        case isFalse => cases hs
        rename_i hfits
        simp only [Option.map_eq_some_iff, Prod.mk.injEq] at hs
        obtain ⟨env, hp, rfl, rfl, rfl⟩ := hs
        obtain ⟨hcb, hcall⟩ := (show ∀ h, (∀ k ∈ pre, h k = h0 k) → HCall P g args h rs (updAll h (entries post h1)) from hob _ (List.mem_singleton.2 rfl)) S.heap hfits
        unfold callOf at hco
        split at hco
        · rename_i c hop
          split at hco
          · rename_i f hcal
            split at hco
            · rename_i g' caps hfn
              simp only [Option.some.injEq, Prod.mk.injEq] at hco
              obtain ⟨rfl, rfl⟩ := hco
              obtain ⟨vs, hsz, hrep, henter⟩ := call_args (P := P) (ty := o.type) (ρ := a.eval) (fun x => hf.opd hr.maps.glob x) hcal hfn
              have hrun : (execOp a.eval o).run P w = .ok (.enter g' (c.args.map a.eval ++ vs)) w := by
                unfold execOp
                rw [hop]
                exact henter.trans (run_callFunc hcb _ w)
              refine wpIn_enter r n (fun c e => by rw [hop] at e; cases e) hrun (hcall G B w0 I0 w _ hr hsz hrep) ?_
              rintro e w' ⟨v, G', rfl, e1, e2, e3⟩
              exact ⟨v, rfl, hnext _ _ _ e1 e2 ((hf.mono e1).put hp e3)⟩
            · cases hco
          · cases hco
        · cases hco
      · cases hs
    split at hs
    · rename_i out hc
      simp only [Option.map_eq_some_iff, Prod.mk.injEq] at hs
      obtain ⟨env, hp, rfl, rfl, rfl⟩ := hs
      have hl := core_sound hx hr (fun x => hf.opd hr.maps.glob x) hc (fun c hc => hob _ (List.mem_map_of_mem hc))
      have hd := core_not_defer hc
      rcases hl with ⟨v, w', G', hrun | ⟨hrun, rfl⟩, h1, h2, h3⟩ | ⟨f, args, hrun, hcall⟩
      · exact wpIn_value r n hd hrun (hnext _ _ _ h1 h2 ((hf.mono h1).put hp h3))
      · exact wpIn_skipv r n hd hrun (hnext _ _ _ h1 h2 ((hf.mono h1).put hp h3))
      · refine wpIn_enter r n hd hrun hcall ?_
        rintro e w' ⟨v, G', rfl, h1, h2, h3⟩
        exact ⟨v, rfl, hnext _ _ _ h1 h2 ((hf.mono h1).put hp h3)⟩
    · cases hs
  · rename_i hw
    rw [if_neg (by rw [yieldsA hf hw]; simp)]
    simp only [Option.map_eq_some_iff, Prod.mk.injEq] at hs
    obtain ⟨env, hp, rfl, rfl, rfl⟩ := hs
    exact ⟨fun _ _ => trivial, hnext _ _ _ (Ext.refl G w) hr (hf.put hp (.tup [] #[] rfl (by simp)))⟩
  · cases hs

theorem runA_sound {D : List Deferred} (hx : ExtAll P) (r : Option Nat) (n : Nat) {cfg : Cfg} {N : Nat} {ops : Array Oper} {Q : Exit → Act → World → Prop} : ∀ (l : List Nat) {G : Gh} {w : World} {S S' : St} {a : Act} {ob : List Obl} {fts : List Foot},
    HR G B w0 I0 S.heap w → FR G w N D S.env a → runA P cfg N ops l S = some (S', ob, fts) → Obls P ob →
    (∀ a' w' G', Ext G w G' w' → HR G' B w0 I0 S'.heap w' → FR G' w' N D S'.env a' → Q .normal a' w') → wpOpsIn (FF r) n P ops Q l a w
  | [], G, w, S, S', a, ob, fts, hr, hf, hs, hob, hq => by
    simp only [runA, Option.some.injEq, Prod.mk.injEq] at hs
    obtain ⟨rfl, _, _⟩ := hs
    exact hq a w G (Ext.refl G w) hr hf
  | i :: rl, G, w, S, S', a, ob, fts, hr, hf, hs, hob, hq => by
    simp only [runA] at hs
    split at hs
    · cases hs
    · rename_i o ho
      split at hs
      · cases hs
      · rename_i st hst
        split at hs
        · cases hs
        · rename_i rs hrs
          simp only [Option.some.injEq, Prod.mk.injEq] at hs
          obtain ⟨rfl, rfl, rfl⟩ := hs
          obtain ⟨S1, ob1, ft1⟩ := st
          obtain ⟨S2, ob2, ft2⟩ := rs
          rw [wpOpsIn_cons]
          unfold wpOpIn
          simp only [ho]
          exact stepA_sound hx hr hf hst (fun c hc => hob c (List.mem_append_left _ hc)) r n (fun a' w' G' h1 h2 h3 =>
            runA_sound hx r n rl h2 h3 hrs (fun c hc => hob c (List.mem_append_right _ hc)) (fun a2 w2 G2 g1 g2 g3 => hq a2 w2 G2 (h1.trans g1) g2 g3))
end
end Go.Avm
