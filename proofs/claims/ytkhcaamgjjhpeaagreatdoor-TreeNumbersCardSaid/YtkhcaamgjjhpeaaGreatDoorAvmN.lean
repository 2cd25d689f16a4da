/-
  The abstract machine, part N: code on abstract states, rule by rule; the contract of a function out of its body.
-/
import Derived.Test.YtkhcaamgjjhpeaaGreatDoorAvmMc
import Derived.RangeFuncNested
import Derived.RangeFuncRecord
import Derived.RangeFuncLeaves
set_option linter.unusedSectionVars false
namespace Go.Avm
open Go.RowKit
variable [GlobTab]

/-- What stays fixed while a function runs: the program, its own blocks' first number, the world at its beginning, what was immutable then, the frame's size. -/
structure Fix where
  P : Program
  B : Nat
  w0 : World
  I0 : Nat → Nat → Prop
  N : Nat
  mixed : OkP P
  /-- a round's frame? -/
  rnd : Option Nat := none
  /-- how many blocks there were when the frame began -/
  s0 : Nat := 0
  /-- the frame's deferred calls, its loops' marks aside -/
  dl : List Deferred := []

def marks (bs : List Nat) : List Deferred := bs.map fun b => { target := .collected b, args := #[] }
/-- What is known beside: the marks of the frame's own loops over functions, the records of those round it. -/
structure Side0 (X : Fix) (w : World) (bs : List Nat) : Prop where
  nd : bs.Nodup
  low : ∀ b ∈ bs, X.s0 ≤ b
  live : ∀ b ∈ bs, w.heap[b]? = some (.deferred (some []))
  book : ∀ l, X.rnd = some l → ∃ r, w.heap[l]? = some (.loop r)
  s0 : X.s0 ≤ w.heap.size
theorem Side0.mono {X : Fix} {G G' : Gh} {w w' : World} {bs : List Nat} (h : Side0 X w bs) (e : Ext G w G' w') : Side0 X w' bs :=
  ⟨h.nd, h.low, fun b hb => by
    obtain ⟨o, h1, h2⟩ := e.kept b _ rfl (h.live b hb)
    cases h2
    exact h1, fun l hl => by
    obtain ⟨r, hr⟩ := h.book l hl
    obtain ⟨o, h1, r', rfl⟩ := e.kept l _ rfl hr
    exact ⟨r', h1⟩, Nat.le_trans h.s0 e.size⟩
def Holds (X : Fix) (G : Gh) (S : St) (a : Act) (w : World) : Prop := HR G X.B X.w0 X.I0 S.heap w ∧ ∃ bs, FR G w X.N (marks bs ++ X.dl) S.env a ∧ Side0 X w bs

/-- Ways out, as the abstract machine tells them: a panic with its value. -/
inductive AExit where
  | normal
  | exit (id : Nat)
  | ret
  | panic (x : AV)
def XRep (G : Gh) (w : World) : AExit → Exit → Prop
  | .normal, .normal => True
  | .exit i, .exit j => i = j
  | .ret, .ret => True
  | .panic x, .panic ch => ∃ v, ch = [{ v, recovered := false }] ∧ Rep G w x v
  | _, _ => False
theorem XRep.normal {G : Gh} {w : World} {e : Exit} (h : XRep G w .normal e) : e = .normal := by cases e <;> first | rfl | exact h.elim
theorem XRep.exit {G : Gh} {w : World} {i : Nat} {e : Exit} (h : XRep G w (.exit i) e) : e = .exit i := by cases e <;> first | exact h.elim | (cases h; rfl)
theorem XRep.ret {G : Gh} {w : World} {e : Exit} (h : XRep G w .ret e) : e = .ret := by cases e <;> first | rfl | exact h.elim
theorem XRep.panic {G : Gh} {w : World} {x : AV} {e : Exit} (h : XRep G w (.panic x) e) : ∃ v, e = .panic [{ v, recovered := false }] ∧ Rep G w x v := by
  cases e <;> first | exact h.elim | (obtain ⟨v, rfl, hr⟩ := h; exact ⟨v, rfl, hr⟩)
theorem XRep.mono {G G' : Gh} {w w' : World} {e' : AExit} {e : Exit} (h : XRep G w e' e) (x : Ext G w G' w') : XRep G' w' e' e := by
  cases e' <;> cases e <;> first | exact h | (obtain ⟨v, h1, h2⟩ := h; exact ⟨v, h1, h2.mono x⟩)
/-- Code on an abstract state: whatever frame and world it stands for, the code goes on to a way out of which Q is told. -/
def AW (X : Fix) (c : Code) (S : St) (Q : AExit → St → Prop) : Prop :=
  ∀ G a w, Holds X G S a w → c.wpIn (FF X.rnd) 0 X.P (fun e a' w' => ∃ e' S' G', XRep G' w' e' e ∧ Q e' S' ∧ Ext G w G' w' ∧ Holds X G' S' a' w') a w

/-- One abstract state says no more than another. -/
def Weak (X : Fix) (S S' : St) : Prop := ∀ G a w, Holds X G S a w → ∃ G', Ext G w G' w ∧ Holds X G' S' a w

def thenA (K : St → Prop) (Q : AExit → St → Prop) : AExit → St → Prop
  | .normal, S => K S
  | e, S => Q e S
def blockA (id : Nat) (Q : AExit → St → Prop) : AExit → St → Prop
  | .exit i, S => if i = id then Q .normal S else Q (.exit i) S
  | e, S => Q e S

theorem exists_least {p : Nat → Prop} (h : ∃ n, p n) : ∃ n, p n ∧ ∀ m, p m → n ≤ m := by
  obtain ⟨n, hn⟩ := h
  induction n using Nat.strongRecOn with
  | _ n ih =>
    by_cases hx : ∃ m, m < n ∧ p m
    · obtain ⟨m, hm, hp⟩ := hx
      exact ih m hm hp
    · refine ⟨n, hn, fun m hm => ?_⟩
      rcases Nat.lt_or_ge m n with hlt | hge
      · exact absurd ⟨m, hlt, hm⟩ hx
      · exact hge
noncomputable def least (p : Nat → Prop) : Nat := by
  classical
  exact if h : ∃ n, p n then (exists_least h).choose else 0
theorem least_spec {p : Nat → Prop} (h : ∃ n, p n) : p (least p) := by
  unfold least; rw [dif_pos h]; exact (exists_least h).choose_spec.1
theorem least_le {p : Nat → Prop} {m : Nat} (h : p m) : least p ≤ m := by
  unfold least; rw [dif_pos ⟨m, h⟩]; exact (exists_least ⟨m, h⟩).choose_spec.2 m h

section
variable {X : Fix} {S S' : St} {Q Q' : AExit → St → Prop}

theorem Weak.refl (S : St) : Weak X S S := fun G a w h => ⟨G, Ext.refl G w, h⟩
theorem Weak.trans {S'' : St} (h : Weak X S S') (k : Weak X S' S'') : Weak X S S'' := fun G a w hh => by
  obtain ⟨G1, e1, h1⟩ := h G a w hh
  obtain ⟨G2, e2, h2⟩ := k G1 a w h1
  exact ⟨G2, e1.trans e2, h2⟩

theorem AW.mono {c : Code} (h : AW X c S Q) (hq : ∀ e S, Q e S → Q' e S) : AW X c S Q' := fun G a w hh =>
  wpIn_mono (h G a w hh) fun e a' w' ⟨e', S', G', x, q, r⟩ => ⟨e', S', G', x, hq e' S' q, r⟩

theorem AW.weak {c : Code} (hw : Weak X S S') (h : AW X c S' Q) : AW X c S Q := fun G a w hh => by
  obtain ⟨G1, e1, h1⟩ := hw G a w hh
  exact wpIn_mono (h G1 a w h1) fun e a' w' ⟨e', S', G', x, q, e2, r⟩ => ⟨e', S', G', x, q, e1.trans e2, r⟩

theorem aw_seq {x y : Code} (h : AW X x S (thenA (fun S' => AW X y S' Q) Q)) : AW X (.seq x y) S Q := fun G a w hh => by
  refine wpIn_seq (wpIn_mono (h G a w hh) ?_)
  rintro e a' w' ⟨e', S', G', x, q, e1, r⟩
  cases e' with
  | normal =>
    obtain rfl := x.normal
    exact wpIn_mono (q G' a' w' r) fun e a2 w2 ⟨e3, S2, G2, x2, q2, e2, r2⟩ => ⟨e3, S2, G2, x2, q2, e1.trans e2, r2⟩
  | exit i => obtain rfl := x.exit; exact ⟨_, S', G', x, q, e1, r⟩
  | ret => obtain rfl := x.ret; exact ⟨_, S', G', x, q, e1, r⟩
  | panic d => obtain ⟨v, rfl, hv⟩ := x.panic; exact ⟨_, S', G', x, q, e1, r⟩

theorem aw_block {id : Nat} {c : Code} (h : AW X c S (blockA id Q)) : AW X (.block id c) S Q := fun G a w hh => by
  refine wpIn_block (wpIn_mono (h G a w hh) ?_)
  rintro e a' w' ⟨e', S', G', x, q, e1, r⟩
  cases e' with
  | exit i =>
    obtain rfl := x.exit
    simp only [blockA] at q
    simp only [Exit.inBlock]
    split at q
    · rename_i hi; rw [if_pos hi]; exact ⟨.normal, S', G', trivial, q, e1, r⟩
    · rename_i hi; rw [if_neg hi]; exact ⟨_, S', G', x, q, e1, r⟩
  | normal => obtain rfl := x.normal; exact ⟨_, S', G', x, q, e1, r⟩
  | ret => obtain rfl := x.ret; exact ⟨_, S', G', x, q, e1, r⟩
  | panic d => obtain ⟨v, rfl, hv⟩ := x.panic; exact ⟨_, S', G', x, q, e1, r⟩

theorem aw_skip (h : Q .normal S) : AW X .skip S Q := fun G a w hh => wpIn_skip ⟨.normal, S, G, trivial, h, Ext.refl G w, hh⟩
theorem aw_exit {id : Nat} (h : Q (.exit id) S) : AW X (.exit id) S Q := fun G a w hh => wpIn_exit ⟨.exit _, S, G, rfl, h, Ext.refl G w, hh⟩
theorem aw_ret (h : Q .ret S) : AW X .ret S Q := fun G a w hh => wpIn_ret ⟨.ret, S, G, trivial, h, Ext.refl G w, hh⟩

theorem aw_cond {c : Operand} {x y : Code} {b : Bool} (hc : opd S.env c = .d (.bool b)) (ht : b = true → AW X x S Q) (hf : b = false → AW X y S Q) : AW X (.cond c x y) S Q := fun G a w hh => by
  obtain ⟨bs, hf0, hs0⟩ := hh.2
  have hr := hf0.opd hh.1.maps.glob c
  rw [hc] at hr
  have hv : a.eval c = .bool b := by
    generalize a.eval c = v at hr
    cases hr with | d hd => cases hd; rfl
  exact wpIn_cond_split hv (fun h => ht h G a w hh) (fun h => hf h G a w hh)

theorem aw_region {id : Nat} {ops : Array Oper} {cfg : Cfg} {ob : List Obl} {fts : List Foot} (hr : runA X.P cfg X.N ops (List.range ops.size) S = some (S', ob, fts)) (hob : Obls X.P ob) (h : Q .normal S') :
    AW X (.region id ops false) S Q := fun G a w hh =>
  hh.2.elim fun bs hf => wpIn_region (runA_sound X.mixed.ext X.rnd 0 _ hh.1 hf.1 hr hob fun a' w' G' e1 h1 h2 => ⟨.normal, S', G', trivial, h, e1, h1, bs, h2, hf.2.mono e1⟩)

theorem aw_region_any {id : Nat} {ops : Array Oper} {cfg : Cfg} {ob : List Obl} {fts : List Foot} (hr : runA X.P cfg X.N ops (List.range ops.size) S = some (S', ob, fts)) (hl : lexOk ops fts = true) (hob : Obls X.P ob) (h : Q .normal S') :
    AW X (.region id ops true) S Q := fun G a w hh =>
  hh.2.elim fun bs hf => region_any_sound X.mixed X.rnd 0 hh.1 hf.1 hr hl hob fun a' w' G' e1 h1 h2 => ⟨.normal, S', G', trivial, h, e1, h1, bs, h2, hf.2.mono e1⟩

/-- A region that gives up. -/
theorem aw_region_pan {id p : Nat} {draw : Bool} {ops : Array Oper} {cfg : Cfg} {ob : List Obl} {fts : List Foot} {op : Oper} {Sp : St} {x : AV} {h' : Heap} (hp : ops[p]? = some op) (hr : runA X.P cfg X.N ops (List.range' 0 p) S = some (Sp, ob, fts)) (hob : Obls X.P ob)
    (hL : Leaf X.P ops p S.env x h' Sp) (hd : draw = false ∨ lexPok ops fts p = true) (h : Q (.panic x) ⟨envJ ops S.env, h'⟩) : AW X (.region id ops draw) S Q := fun G a w hh => by
  obtain ⟨bs, hf⟩ := hh.2
  have fin : ∀ v a' w' G', Ext G w G' w' → HR G' X.B X.w0 X.I0 h' w' → FR G' w' X.N (marks bs ++ X.dl) (envJ ops S.env) a' → Rep G' w' x v → ∃ e' S' G'', XRep G'' w' e' (.panic [{ v, recovered := false }]) ∧ Q e' S' ∧ Ext G w G'' w' ∧ Holds X G'' S' a' w' :=
    fun v a' w' G' e1 h1 h2 h3 => ⟨.panic x, _, G', ⟨v, rfl, h3⟩, h, e1, h1, bs, h2, hf.2.mono e1⟩
  cases draw with
  | false => exact region_pan X.mixed X.rnd 0 hh.1 hf.1 hp hr hob hL fin
  | true => exact region_any_pan X.mixed X.rnd 0 hh.1 hf.1 hp hr (hd.resolve_left (by simp)) hob hL fin

/-- A loop: an invariant on abstract states, a measure on them. -/
theorem aw_loop {c : Code} (I : St → Prop) (μ : St → Nat) (h0 : I S) (hI : ∀ S, I S → AW X c S (thenA (fun S' => ∃ S'', Weak X S' S'' ∧ I S'' ∧ μ S'' < μ S) Q)) : AW X (.loop c) S Q := fun G a w hh => by
  let p : Act → World → Nat → Prop := fun a' w' n => ∃ S' G', Ext G w G' w' ∧ Holds X G' S' a' w' ∧ I S' ∧ μ S' = n
  refine wpIn_loop (fun a' w' => ∃ n, p a' w' n) (fun a' w' => least (p a' w')) ⟨μ S, S, G, Ext.refl G w, hh, h0, rfl⟩ ?_
  intro a1 w1 hp
  obtain ⟨S1, G1, e1, h1, i1, m1⟩ := least_spec hp
  refine wpIn_mono (hI S1 i1 G1 a1 w1 h1) ?_
  rintro e a' w' ⟨e', S', G', x, q, e2, r⟩
  cases e' with
  | normal =>
    obtain rfl := x.normal
    obtain ⟨S'', hw, i2, hlt⟩ := q
    obtain ⟨G2, e3, h3⟩ := hw G' a' w' r
    have hp2 : p a' w' (μ S'') := ⟨S'', G2, (e1.trans e2).trans e3, h3, i2, rfl⟩
    refine ⟨⟨_, hp2⟩, ?_⟩
    have := least_le hp2
    omega
  | exit i => obtain rfl := x.exit; exact ⟨_, S', G', x, q, e1.trans e2, r⟩
  | ret => obtain rfl := x.ret; exact ⟨_, S', G', x, q, e1.trans e2, r⟩
  | panic d => obtain ⟨v, rfl, hv⟩ := x.panic; exact ⟨_, S', G', x, q, e1.trans e2, r⟩

/-- A loop over a family of states. -/
theorem aw_loopF {c : Code} {ι : Type} (F : ι → St) (J : ι → Prop) (μ : ι → Nat) (x0 : ι) (h0 : Weak X S (F x0)) (j0 : J x0)
    (hI : ∀ x, J x → AW X c (F x) (thenA (fun S' => ∃ y, Weak X S' (F y) ∧ J y ∧ μ y < μ x) Q)) : AW X (.loop c) S Q := by
  refine AW.weak h0 (fun G a w hh => ?_)
  let p : Act → World → Nat → Prop := fun a' w' n => ∃ y G', Ext G w G' w' ∧ Holds X G' (F y) a' w' ∧ J y ∧ μ y = n
  refine wpIn_loop (fun a' w' => ∃ n, p a' w' n) (fun a' w' => least (p a' w')) ⟨μ x0, x0, G, Ext.refl G w, hh, j0, rfl⟩ ?_
  intro a1 w1 hp
  obtain ⟨y1, G1, e1, h1, i1, m1⟩ := least_spec hp
  refine wpIn_mono (hI y1 i1 G1 a1 w1 h1) ?_
  rintro e a' w' ⟨e', S', G', x, q, e2, r⟩
  cases e' with
  | normal =>
    obtain rfl := x.normal
    obtain ⟨y, hw, i2, hlt⟩ := q
    obtain ⟨G2, e3, h3⟩ := hw G' a' w' r
    have hp2 : p a' w' (μ y) := ⟨y, G2, (e1.trans e2).trans e3, h3, i2, rfl⟩
    refine ⟨⟨_, hp2⟩, ?_⟩
    have := least_le hp2
    omega
  | exit i => obtain rfl := x.exit; exact ⟨_, S', G', x, q, e1.trans e2, r⟩
  | ret => obtain rfl := x.ret; exact ⟨_, S', G', x, q, e1.trans e2, r⟩
  | panic d => obtain ⟨v, rfl, hv⟩ := x.panic; exact ⟨_, S', G', x, q, e1.trans e2, r⟩

/-! ### What may be forgotten -/
/-- Slots may be forgotten. -/
theorem weak_env {env env' : Nat → AV} {heap : Heap} (h : ∀ t, env' t = env t ∨ env' t = .junk) : Weak X ⟨env, heap⟩ ⟨env', heap⟩ := fun G a w hh => by
  obtain ⟨hr, bs, hf, hs⟩ := hh
  exact ⟨G, Ext.refl G w, hr, bs, ⟨hf.size, hf.nod, fun t ht => by
    rcases h t with e | e
    · show Rep G w (env' t) _; rw [e]; exact hf.rep t ht
    · show Rep G w (env' t) _; rw [e]; exact .junk _, fun t ht => by
    rcases h t with e | e
    · show env' t = _; rw [e]; exact hf.out t ht
    · exact e⟩, hs⟩

theorem weak_envOf {env : Nat → AV} {heap : Heap} {l : List (Nat × AV)} (h : ∀ p ∈ l, p.2 = env p.1) : Weak X ⟨env, heap⟩ ⟨envOf l, heap⟩ := weak_env (envOf_le env l h)

/-- A nil slice is a growing list that is still empty. -/
theorem weak_nils {env : Nat → AV} {heap : Heap} (t k ver sz : Nat) (h : env t = .nils) : Weak X ⟨env, heap⟩ ⟨upd env t (.vec k ver sz []), heap⟩ := fun G a w hh => by
  obtain ⟨hr, bs, hf, hsd⟩ := hh
  exact ⟨G, Ext.refl G w, hr, bs, ⟨hf.size, hf.nod, fun s hs => by
    by_cases hst : s = t
    · subst hst
      have := hf.rep s hs
      rw [show (⟨env, heap⟩ : St).env s = .nils from h] at this
      show Rep G w (upd env s (.vec k ver sz []) s) _
      rw [upd_same]
      generalize a.tmps.getD s undef = v at this
      cases this; exact .vecNil _ _ _
    · show Rep G w (upd env t _ s) _
      rw [upd_ne _ _ hst]; exact hf.rep s hs, fun s hs => by
    by_cases hst : s = t
    · subst hst
      have := hf.out s hs
      rw [show (⟨env, heap⟩ : St).env s = .nils from h] at this
      cases this
    · show upd env t _ s = _
      rw [upd_ne _ _ hst]; exact hf.out s hs⟩, hsd⟩
end

/-! ### A frame's marks are shut when it is left -/
def isDef : Obj → Bool
  | .deferred _ => true
  | _ => false
/-- Blocks of deferred calls may have turned, from B on; nothing else. -/
structure Shut (B : Nat) (w w' : World) : Prop where
  os : w'.os = w.os
  tape : w'.tape = w.tape
  output : w'.output = w.output
  size : w'.heap.size = w.heap.size
  oth : ∀ (b : Nat) (o : Obj), isDef o = false → w.heap[b]? = some o → w'.heap[b]? = some o
  low : ∀ b, b < B → w'.heap[b]? = w.heap[b]?
  cell : ∀ p : Addr, w'.cell? p = w.cell? p
theorem Shut.refl (B : Nat) (w : World) : Shut B w w := ⟨rfl, rfl, rfl, rfl, fun _ _ _ h => h, fun _ _ => rfl, fun _ => rfl⟩
theorem Shut.trans {B : Nat} {w w' w'' : World} (h : Shut B w w') (k : Shut B w' w'') : Shut B w w'' :=
  ⟨k.os.trans h.os, k.tape.trans h.tape, k.output.trans h.output, k.size.trans h.size, fun b o hb x => k.oth b o hb (h.oth b o hb x), fun b hb => (k.low b hb).trans (h.low b hb), fun p => (k.cell p).trans (h.cell p)⟩
theorem Shut.put {B b : Nat} {w : World} {o o' : Obj} (hb : w.heap[b]? = some o) (hk : isDef o = true) (hk' : isDef o' = true) (hB : B ≤ b) : Shut B w (w.putObj b o') := by
  have hlt := (Array.getElem?_eq_some_iff.1 hb).1
  refine ⟨rfl, rfl, rfl, by simp, fun b' o'' hn x => ?_, fun b' hb' => World.putObj_heap_other (by omega), fun p => ?_⟩
  · have hne : b' ≠ b := by
      rintro rfl
      rw [hb] at x
      simp only [Option.some.injEq] at x
      subst x
      rw [hk] at hn
      cases hn
    rw [World.putObj_heap_other hne]; exact x
  · unfold World.cell?
    by_cases hp : p.block = b
    · rw [hp, World.putObj_heap_same hlt, hb]
      cases o <;> cases o' <;> first | rfl | (simp [isDef] at hk; done) | (simp [isDef] at hk'; done)
    · rw [World.putObj_heap_other hp]
theorem Rep.shut {G : Gh} {B : Nat} {w w' : World} {x : AV} {v : Value} (h : Rep G w x v) (e : Shut B w w') : Rep G w' x v := by
  induction h with
  | junk v => exact .junk v
  | d h => exact .d (h.mono (fun _ _ x => x) (fun _ _ _ => e.cell _))
  | nils => exact .nils
  | es ao => exact .es ao
  | vecNil k ver sz => exact .vecNil k ver sz
  | vec k ver l L hL hfr hlen hsz h => exact .vec k ver l L hL hfr hlen hsz (h.mono (fun _ _ x => x) (fun _ _ _ => e.cell _))
  | slNil k ver sz => exact .slNil k ver sz
  | sl k ver off len c L hL hc hlen => exact .sl k ver off len c L hL hc hlen
  | ptr k ver i off L hL => exact .ptr k ver i off L hL
  | agg cs vs hl h1 _ ih => exact .agg cs vs hl h1 ih
  | tup cs vs hl _ ih => exact .tup cs vs hl ih
  | fn f caps vs hl _ ih => exact .fn f caps vs hl ih
  | mp k ver b hL => exact .mp k ver b hL
  | yld k ver b hL => exact .yld k ver b hL
  | itr k ver b hL => exact .itr k ver b hL
  | iv t v _ ih => exact .iv t v ih
  | vp k ver l L hL h1 hlen h => exact .vp k ver l L hL h1 hlen (h.mono (fun _ _ x => x) (fun _ _ _ => e.cell _))
theorem HR.shut {G : Gh} {B : Nat} {w0 w w' : World} {I0 : Nat → Nat → Prop} {h : Heap} (hr : HR G B w0 I0 h w) (e : Shut B w w') : HR G B w0 I0 h w' := by
  refine ⟨hr.below.trans ⟨e.os, e.tape, e.output, by rw [e.size]; exact Nat.le_refl _, e.low⟩, by rw [e.size]; exact hr.bsz, fun b o x => by rw [e.size]; exact hr.immlt b o x, hr.i0, hr.immlow, hr.fresh, fun k L hL => ?_, hr.dis, fun k ob ho => ?_, hr.lim, ⟨fun k v b x => ?_, hr.maps.inj, fun k es c x => ?_, fun k fno N env ps as bd st x => ?_, fun k km vm since seen x => ?_, hr.maps.glob.mono (fun _ _ x => x) (fun _ _ _ => e.cell _)⟩⟩
  · obtain ⟨h1, ⟨arr, e', h2, h3⟩, h4⟩ := hr.own k L hL
    exact ⟨h1, ⟨arr, e', e.oth _ _ rfl h2, h3⟩, h4⟩
  · have h1 := hr.objs k ob ho
    cases ob with
    | map _ _ => trivial
    | lp _ _ _ _ _ _ _ => trivial
    | itr _ _ _ _ => trivial
    | typ _ _ _ _ => exact h1
    | arr sz es =>
      rcases h1 with h1 | ⟨L, g1, g2, g3, g4, g5, g6, g7⟩
      · exact .inl h1
      · exact .inr ⟨L, g1, g2, g3, g4, g5, g6, fun t c ht => by
          obtain ⟨u, k1, k2, k3⟩ := g7 t c ht
          exact ⟨u, (e.cell _).trans k1, k2, k3.shut e⟩⟩
  · obtain ⟨g1, ⟨o, g2, g2'⟩, g3⟩ := hr.maps.low k v b x
    exact ⟨g1, ⟨o, g2, e.oth _ _ (by cases o <;> first | rfl | cases g2) g2'⟩, g3⟩
  · obtain ⟨b, g1, ms, g2, g3, g4⟩ := hr.maps.obj k es c x
    exact ⟨b, g1, ms, e.oth _ _ rfl g2, g3, fun i q m hq hm => by
      obtain ⟨k1, k2, k3⟩ := g4 i q m hq hm
      exact ⟨k1.mono (fun _ _ x => x) (fun _ _ _ => e.cell _), k2.mono (fun _ _ x => x) (fun _ _ _ => e.cell _), k3⟩⟩
  · obtain ⟨b, r, g1, g2, g3⟩ := hr.maps.loops k fno N env ps as bd st x
    exact ⟨b, r, g1, e.oth _ _ rfl g2, g3.size, fun t ht => (g3.rep t ht).shut e, g3.out, g3.ps, g3.as, g3.bd, g3.state, g3.pending⟩
  · obtain ⟨b, bm, sa, c0, g1, g2, g3, g4⟩ := hr.maps.iters k km vm since seen x
    exact ⟨b, bm, sa, c0, g1, g2, e.oth _ _ rfl g3, g4⟩
theorem FR.shut {G : Gh} {B N : Nat} {DL : List Deferred} {w w' : World} {env : Nat → AV} {a : Act} (hf : FR G w N DL env a) (e : Shut B w w') : FR G w' N DL env a := ⟨hf.size, hf.nod, fun t ht => (hf.rep t ht).shut e, hf.out⟩
/-- A frame's marks, come to when it is left. -/
theorem leaves_marks {P : Program} {F : Fence} {n B : Nat} {fn : Func} {tmps : Array Value} {R : Ending → World → Prop} {rest : List Deferred} {u : FrameMode} (hu : u ≠ .run) : ∀ (bs : List Nat) (w : World), bs.Nodup → (∀ b ∈ bs, B ≤ b) → (∀ b ∈ bs, w.heap[b]? = some (.deferred (some []))) →
    (∀ w', Shut B w w' → (∀ b, b ∉ bs → w'.heap[b]? = w.heap[b]?) → LeavesInM F n P fn tmps R rest u w') → LeavesInM F n P fn tmps R (marks bs ++ rest) u w
  | [], w, _, _, _, h => h w (Shut.refl B w) (fun _ _ => rfl)
  | b :: bs, w, hnd, hlow, hlive, h => by
    have hb := hlive b (by simp)
    rw [List.nodup_cons] at hnd
    refine ⟨hu, .inl ⟨b, _, rfl, run_takeDeferred hb, leaves_marks hu bs _ hnd.2 (fun x hx => hlow x (by simp [hx])) (fun x hx => ?_) (fun w' hs ho => ?_)⟩⟩
    · have hne : x ≠ b := fun e => hnd.1 (e ▸ hx)
      rw [World.putObj_heap_other hne]; exact hlive x (by simp [hx])
    · refine h w' ((Shut.put hb rfl rfl (hlow b (by simp))).trans hs) (fun x hx => ?_)
      simp only [List.mem_cons, not_or] at hx
      rw [ho x hx.2, World.putObj_heap_other hx.1]

/-! ### Functions -/
def resD (P : Program) (S : St) : ResultVar → Option D
  | .tmp t => (view 12 S.heap (S.env t)).map (·.1)
  | .cell t ty => match opLoad P ty (S.env t) S.heap with
    | some out => (view 12 S.heap out.val).map (·.1)
    | none => none
def resDs (P : Program) (S : St) : List ResultVar → Option (List D)
  | [] => some []
  | r :: l => match resD P S r, resDs P S l with
    | some x, some xs => some (x :: xs)
    | _, _ => none

/-- All that has been made is immutable from the function's end on. -/
def immAll (G : Gh) (h : Heap) : Nat → Nat → Prop := fun b o => G.imm b o ∨ ∃ k L, G.loc k (h k).ver = some L ∧ L.b = b

def resV (tmps : Array Value) : ResultVar → Sem Value
  | .tmp t => pure (tmps.getD t undef)
  | .cell a t => do loadVar t (← asAddr (tmps.getD a undef))

theorem resD_sound {DL : List Deferred} {P : Program} {G : Gh} {B : Nat} {w0 w : World} {I0 : Nat → Nat → Prop} {N : Nat} {S : St} {a : Act} (hr : HR G B w0 I0 S.heap w) (hf : FR G w N DL S.env a) {rv : ResultVar} {x : D} (hx : resD P S rv = some x) :
    ∃ v, (resV a.tmps rv).run P w = .ok v w ∧ DRep (immAll G S.heap) w x v := by
  have up : ∀ {ks : List Nat} {y : D} {v : Value}, DRep (immWith G S.heap ks) w y v → DRep (immAll G S.heap) w y v := fun hd => hd.mono (by
    rintro b o (x | ⟨k, _, L, hL, hb⟩)
    · exact .inl x
    · exact .inr ⟨k, L, hL, hb⟩) (fun _ _ _ => rfl)
  cases rv with
  | tmp t =>
    simp only [resD, Option.map_eq_some_iff] at hx
    obtain ⟨⟨y, ks⟩, hv, rfl⟩ := hx
    exact ⟨_, rfl, up (view_sound hr 12 _ _ _ _ hv (hf.opd hr.maps.glob (.tmp t)))⟩
  | cell t ty =>
    simp only [resD] at hx
    split at hx
    · rename_i out ho
      simp only [Option.map_eq_some_iff] at hx
      obtain ⟨⟨y, ks⟩, hv, rfl⟩ := hx
      obtain ⟨v, hrun, _, _, hrep⟩ := opLoad_sound hr (hf.opd hr.maps.glob (.tmp t)) ho
      refine ⟨v, ?_, up (view_sound hr 12 _ _ _ _ hv hrep)⟩
      simp only [Instr.loadAt, Instr.sureAddr, Act.eval] at hrun
      simp only [resV]
      generalize a.tmps.getD t undef = u at hrun
      cases u with
      | pointer ao =>
        cases ao with
        | some ad => simpa [asAddr] using hrun
        | none => simp at hrun
      | _ => simp at hrun
    · cases hx

theorem results_sound {DL : List Deferred} {P : Program} {G : Gh} {B : Nat} {w0 w : World} {I0 : Nat → Nat → Prop} {N : Nat} {S : St} {a : Act} (hr : HR G B w0 I0 S.heap w) (hf : FR G w N DL S.env a) {fn : Func} {rs : List D} (hx : resDs P S fn.results.toList = some rs) :
    ∃ v, (results fn a.tmps).run P w = .ok v w ∧ RetRep (immAll G S.heap) w rs v := by
  have key : ∀ (l : List ResultVar) (rs : List D), resDs P S l = some rs → ∃ vs : List Value, vs.length = rs.length ∧
      (l.mapM (resV a.tmps)).run P w = .ok vs w ∧
      ∀ (i : Nat) (x : D) (u : Value), rs[i]? = some x → vs[i]? = some u → DRep (immAll G S.heap) w x u := by
    intro l
    induction l with
    | nil => intro rs h; simp [resDs] at h; subst h; exact ⟨[], rfl, rfl, by simp⟩
    | cons r l ih =>
      intro rs h
      simp only [resDs] at h
      split at h
      · rename_i x xs hx hxs
        simp only [Option.some.injEq] at h
        subst h
        obtain ⟨vs, h1, h2, h3⟩ := ih xs hxs
        obtain ⟨v, g1, g2⟩ := resD_sound hr hf hx
        refine ⟨v :: vs, by simp [h1], ?_, fun i y u hy hu => ?_⟩
        · rw [List.mapM_cons, Sem.run_bind]
          rw [g1, Result.andThen_ok, Sem.run_bind, h2, Result.andThen_ok]; rfl
        · cases i with
          | zero => simp at hy hu; subst hy; subst hu; exact g2
          | succ i => exact h3 i y u (by simpa using hy) (by simpa using hu)
      · cases h
  obtain ⟨vs, h1, h2, h3⟩ := key _ _ hx
  have hm : (fn.results.mapM (resV a.tmps)).run P w = .ok vs.toArray w := by
    rw [Array.mapM_eq_mapM_toList, Sem.run_map, h2]; rfl
  refine ⟨if h : vs.toArray.size = 1 then vs.toArray[0] else .tuple vs.toArray, ?_, ?_⟩
  · have hv : results fn a.tmps = (do let vs ← fn.results.mapM (resV a.tmps); pure (if h : vs.size = 1 then vs[0] else .tuple vs)) := by
      unfold results
      congr 1
    rw [hv, Sem.run_bind, hm]; rfl
  · by_cases hone : rs.length = 1
    · obtain ⟨x, hx1⟩ := List.length_eq_one_iff.1 hone
      have hvs : vs.length = 1 := by omega
      obtain ⟨v, hv⟩ := List.length_eq_one_iff.1 hvs
      subst hx1; subst hv
      exact .inl ⟨x, rfl, h3 0 x v rfl rfl⟩
    · have : ¬ (vs.toArray.size = 1) := by simp; omega
      rw [dif_neg this]
      exact .inr ⟨hone, _, rfl, by simp [h1], fun i x u a b => h3 i x u a (by simpa using b)⟩

/-- The frame at a function's beginning. -/
def startSt (args : List D) : St := ⟨fun t => match args[t]? with | some x => .d x | none => .junk, fun _ => ⟨0, none⟩⟩

theorem pure_of_aw {P : Program} (hm : OkP P) {f : Nat} {fn : Func} {c : Code} {args rs : List D} (hf : P.funcs[f]? = some fn) (hb : fn.body = some c) (hn : (fn.name == "runtime.NumGoroutine") = false) (hl : args.length ≤ fn.ntmps)
    (h : ∀ X : Fix, X.P = P → X.N = fn.ntmps → AW X c (startSt args) fun e S' => (e = .normal ∨ e = .ret) ∧ resDs P S' fn.results.toList = some rs) : Pure P f args rs := by
  refine ⟨⟨fn, hf, by rw [hb]; rfl, hn⟩, fun w I cargs hI hs hargs hglob => callsIn_wide.1 (callsIn_of_wp_marks (F := FF none) (n := 0) hf hb trivial ?_)⟩
  let X : Fix := ⟨P, w.heap.size, w, I, fn.ntmps, hm, none, w.heap.size, []⟩
  have hstart : Holds X ⟨I, fun _ _ => none, fun _ => 0, fun _ _ => none⟩ (startSt args) { tmps := cargs ++ Array.replicate (fn.ntmps - cargs.size) undef, defers := [] } w := by
    refine ⟨⟨Below.refl _ _, Nat.le_refl _, hI, fun _ _ x => x, fun _ _ x _ => x, fun k v L x => by simp at x, fun k L x => by simp at x, fun k k' L L' x => by simp at x, fun k ob x => by simp [startSt] at x, fun _ => rfl, ⟨fun k v b x => by simp at x, fun k v k' v' b x => by simp at x, fun k es c x => by simp [startSt] at x, fun k fno N env ps as bd st x => by simp [startSt] at x, fun k km vm since seen x => by simp [startSt] at x, hglob⟩⟩, [], ⟨?_, rfl, ?_, ?_⟩, List.nodup_nil, fun _ h => (by cases h), fun _ h => (by cases h), fun _ h => (by cases h), Nat.le_refl _⟩
    · show (cargs ++ Array.replicate (fn.ntmps - cargs.size) undef).size = fn.ntmps
      simp [hs]; omega
    · intro t _
      show Rep _ _ (match args[t]? with | some x => AV.d x | none => .junk) ((cargs ++ Array.replicate (fn.ntmps - cargs.size) undef).getD t undef)
      cases ha : args[t]? with
      | none => exact .junk _
      | some x =>
        have hlt : t < cargs.size := by rw [hs]; exact (List.getElem?_eq_some_iff.1 ha).1
        have hu : cargs[t]? = some cargs[t] := Array.getElem?_eq_getElem hlt
        rw [Array.getD_eq_getD_getElem?, Array.getElem?_append_left hlt, hu]
        exact .d (hargs t x _ ha hu)
    · intro t ht
      show (match args[t]? with | some x => AV.d x | none => .junk) = .junk
      rw [List.getElem?_eq_none (by have : X.N = fn.ntmps := rfl; omega)]
  refine wpIn_mono (h X rfl rfl _ _ _ hstart) ?_
  rintro e a' w' ⟨e', S', G', xr, ⟨he, hres⟩, hex, hr, bs, hfr, hside⟩
  have fin : ∀ R : Ending → World → Prop, (∀ v w2 I', Below w.heap.size w w2 → (∀ b o, I b o → I' b o) → (∀ b o, I' b o → I b o ∨ w.heap.size ≤ b) → (∀ b o, I' b o → b < w2.heap.size) → RetRep I' w2 rs v → R (.returned v) w2) →
      LeavesInM (FF none) 0 P fn a'.tmps R a'.defers .returning w' := fun R hR => by
    rw [hfr.nod]
    refine leaves_marks (B := w.heap.size) (by simp) bs w' hside.nd hside.low hside.live (fun w2 hsh _ => ?_)
    have hr2 := hr.shut hsh
    obtain ⟨v, hv, hret⟩ := results_sound hr2 (hfr.shut hsh) hres
    show ∃ v, (results fn a'.tmps).run P w2 = .ok v w2 ∧ R (.returned v) w2
    refine ⟨v, hv, hR v w2 (immAll G' S'.heap) hr2.below (fun b o x => .inl (hr.i0 b o x)) ?_ ?_ hret⟩
    · rintro b o (x | ⟨k, L, hL, rfl⟩)
      · rcases Nat.lt_or_ge b w.heap.size with hlt | hge
        · exact .inl (hr.immlow b o x hlt)
        · exact .inr hge
      · exact .inr (hr.own k L hL).1
    · rintro b o (x | ⟨k, L, hL, rfl⟩)
      · exact hr2.immlt b o x
      · exact hr2.blt hL
  rcases he with rfl | rfl
  · obtain rfl := xr.normal
    exact fin _ fun v w2 I' c1 c2 c3 c4 c5 => ⟨v, I', rfl, c1, c2, c3, c4, c5⟩
  · obtain rfl := xr.ret
    exact fin _ fun v w2 I' c1 c2 c3 c4 c5 => ⟨v, I', rfl, c1, c2, c3, c4, c5⟩

/-! ### Loops over functions -/
/-- A loop's parameters, put in. -/
def putPs (N : Nat) : (Nat → AV) → List Nat → List AV → Option (Nat → AV)
  | env, [], [] => some env
  | env, p :: ps, x :: xs => if p < N then putPs N (upd env p x) ps xs else none
  | _, _, _ => none
theorem putPs_len {N : Nat} : ∀ {ps : List Nat} {xs : List AV} {env env1 : Nat → AV}, putPs N env ps xs = some env1 → ps.length = xs.length
  | [], [], _, _, _ => rfl
  | p :: ps, x :: xs, env, env1, h => by
    simp only [putPs] at h
    split at h
    · simp [putPs_len h]
    · cases h
  | [], _ :: _, _, _, h => by simp [putPs] at h
  | _ :: _, [], _, _, h => by simp [putPs] at h
theorem putPs_rep {G : Gh} {w : World} {N : Nat} : ∀ {ps : List Nat} {xs : List AV} {env env1 : Nat → AV} (vs : List Value) (tmps : Array Value), putPs N env ps xs = some env1 → vs.length = xs.length → tmps.size = N →
    (∀ (i : Nat) (x : AV) (u : Value), xs[i]? = some x → vs[i]? = some u → Rep G w x u) → (∀ t, t < N → Rep G w (env t) (tmps.getD t undef)) → (∀ t, N ≤ t → env t = .junk) →
    ((ps.zip vs).foldl (fun tmps (p : Nat × Value) => tmps.setIfInBounds p.1 p.2) tmps).size = N ∧
    (∀ t, t < N → Rep G w (env1 t) (((ps.zip vs).foldl (fun tmps (p : Nat × Value) => tmps.setIfInBounds p.1 p.2) tmps).getD t undef)) ∧ (∀ t, N ≤ t → env1 t = .junk)
  | [], [], env, env1, vs, tmps, h, hl, hs, hv, hr, ho => by
    simp only [putPs, Option.some.injEq] at h
    subst h
    exact ⟨hs, hr, ho⟩
  | p :: ps, x :: xs, env, env1, [], tmps, h, hl, hs, hv, hr, ho => by simp at hl
  | p :: ps, x :: xs, env, env1, v :: vs, tmps, h, hl, hs, hv, hr, ho => by
    simp only [putPs] at h
    split at h
    · rename_i hp
      simp only [List.zip_cons_cons, List.foldl_cons]
      refine putPs_rep vs _ h (by simpa using hl) (by simpa using hs) (fun i y u hy hu => hv (i + 1) y u (by simpa using hy) (by simpa using hu)) (fun t ht => ?_) (fun t ht => ?_)
      · simp only [Array.getD_eq_getD_getElem?, Array.getElem?_setIfInBounds]
        by_cases htp : p = t
        · subst htp
          simp only [upd_same, if_true, hs, hp, Option.getD_some]
          exact hv 0 x v rfl rfl
        · rw [if_neg htp, upd_ne _ _ (fun e => htp e.symm)]
          have := hr t ht
          rwa [Array.getD_eq_getD_getElem?] at this
      · rw [upd_ne _ _ (by omega)]; exact ho t ht
    · cases h
  | [], _ :: _, _, _, _, _, h, _, _, _, _, _ => by simp [putPs] at h
  | _ :: _, [], _, _, _, _, h, _, _, _, _, _ => by simp [putPs] at h

/-- How a loop over a function goes on behind it. -/
def endQ (Q : AExit → St → Prop) (S : St) : LSt → Prop
  | .ready => Q .normal S
  | .done .ret => Q .ret S
  | .done (.exit id) => Q (.exit id) S
  | _ => False
theorem aw_rangeFunc {X : Fix} {S : St} {Q : AExit → St → Prop} {g : Operand} {ps : Array Nat} {as bd : Code} {gf k fno : Nat} {caps rs : List AV} {h2 : Heap} {f2 N2 : Nat} {env2 : List (Nat × AV)} {ps2 : Array Nat} {as2 bd2 : Code} {st : LSt}
    (hg : opd S.env g = .fn gf caps) {el : List (Nat × AV)} (hel : ∀ p ∈ el, p.2 = S.env p.1)
    (hc : HCall X.P gf (.yld k ((S.heap k).ver + 1) :: caps) (upd S.heap k ⟨(S.heap k).ver + 1, some (.lp fno X.N el ps as bd .ready)⟩) rs h2)
    (hk : (h2 k).ver = (S.heap k).ver + 1) (hl : (h2 k).ob = some (.lp f2 N2 env2 ps2 as2 bd2 st))
    (hq : endQ Q ⟨S.env, upd h2 k ⟨(h2 k).ver, none⟩⟩ st) : AW X (.rangeFunc g ps as bd) S Q := fun G a w ⟨hr, bs, hf, hs⟩ => by
  refine wpIn_rangeFunc (fun fn _ => ?_)
  have hfr := hf.opd hr.maps.glob g
  rw [hg] at hfr
  obtain ⟨vs, hfv, hvl, hcr⟩ : ∃ vs : Array Value, a.eval g = .func (.func gf) #[] vs ∧ vs.size = caps.length ∧ ∀ (i : Nat) (x : AV) (u : Value), caps[i]? = some x → vs[i]? = some u → Rep G w x u := by
    generalize a.eval g = vf at hfr
    cases hfr with
    | fn _ _ vs hl hh => exact ⟨vs, rfl, hl, hh⟩
  obtain ⟨hcb, hcall⟩ := hc
  have core : ∀ (l : Nat) (mark : List Deferred) (w1 : World) (rec : Loop) (bs' : List Nat), (Instr.enterLoop fn a.tmps ps as bd (FF X.rnd).round).run X.P w = .ok (l, mark) w1 → HR G X.B X.w0 X.I0 S.heap w1 → Ext G w G w1 → w1.heap[l]? = some (.loop rec) →
      rec.tmps = a.tmps → rec.params = ps → rec.assign = as → rec.body = bd → rec.state = .ready → rec.pending = none → X.B ≤ l → (∀ k v, G.mloc k v ≠ some l) → mark ++ marks bs = marks bs' → Side0 X w1 bs' →
      ∃ (l : Nat) (mark : List Deferred) (w₁ : World) (d : Deferred) (w₁' : World) (f : FuncId) (args : Array Value) (w₂ : World),
        (Instr.enterLoop fn a.tmps ps as bd (FF X.rnd).round).run X.P w = .ok (l, mark) w₁ ∧ (resolve a.eval (rangeCall g l) 0).run X.P w₁ = .ok d w₁' ∧ (∀ f', Target.leads X.P w₁' d.target d.args = some f' → (FF X.rnd).fn f') ∧
        (invoke d.target d.args).run X.P w₁' = .ok (.enter f args) w₂ ∧ ((FF X.rnd).depth.isSome = true → 1 ≤ 0) ∧
        CallsIn (FF X.rnd) (0 - 1) X.P f args w₂ (rangePost (FF X.rnd) 0 X.P l (fun e a' w' => ∃ e' S' G', XRep G' w' e' e ∧ Q e' S' ∧ Ext G w G' w' ∧ Holds X G' S' a' w') { a with defers := mark ++ a.defers }) := by
    intro l mark w1 rec bs' he hr1 e1 hrec r1 r2 r3 r4 r5 r6 hB hnew hmk hside
    obtain ⟨hr2, e2⟩ := hr1.newFix k (b := l) (ob := .lp fno X.N el ps as bd .ready) (o := .loop rec) rfl (fun _ _ _ _ e => by cases e) hB hnew rfl hrec (fun _ _ e => by cases e) (fun fno' N' env' ps' as' bd' st' e => by
      cases e
      exact ⟨rec, hrec, by rw [r1]; exact hf.size, fun t ht => by
        rw [r1]
        rcases envOf_le S.env el hel t with e | e
        · rw [e]; exact (hf.rep t ht).mono e1
        · rw [e]; exact .junk _, fun t ht => by
        rcases envOf_le S.env el hel t with e | e
        · rw [e]; exact hf.out t ht
        · exact e, r2, r3, r4, r5, r6⟩)
    have hml : (G.atMap k ((S.heap k).ver + 1) l).mloc k ((S.heap k).ver + 1) = some l := by simp [Gh.atMap]
    refine ⟨l, mark, w1, { target := .fn (.func gf) vs, args := #[.func (.yield l) #[] #[]] }, w1, gf, #[.func (.yield l) #[] #[]] ++ vs, w1, he, ?_, fun _ _ => trivial, ?_, fun x => (by cases x), ?_⟩
    · simp only [resolve, hfv]
      simp [go_sem]
    · have := run_callFunc hcb (#[.func (.yield l) #[] #[]] ++ vs) w1
      simpa [invoke] using this
    · have hsz2 : (#[Value.func (.yield l) #[] #[]] ++ vs).size = (AV.yld k ((S.heap k).ver + 1) :: caps).length := by simp [hvl]; omega
      have hrep2 : ∀ (i : Nat) (x : AV) (u : Value), (AV.yld k ((S.heap k).ver + 1) :: caps)[i]? = some x → (#[Value.func (.yield l) #[] #[]] ++ vs)[i]? = some u → Rep (G.atMap k ((S.heap k).ver + 1) l) w1 x u := by
        intro i x u hx hu
        cases i with
        | zero =>
          rw [Array.getElem?_append_left (by simp)] at hu
          simp at hx hu
          subst hx; subst hu
          exact .yld _ _ _ hml
        | succ i =>
          rw [Array.getElem?_append_right (by simp)] at hu
          simp at hx hu
          exact (hcr i x u hx hu).mono (e1.trans e2)
      have hcall2 := hcall _ X.B X.w0 X.I0 w1 _ hr2 hsz2 hrep2
      have hcall3 := callsFF X.rnd (0 - 1) hcall2
      refine hcall3.mono ?_
      · rintro e w' ⟨v, G', rfl, e3, hr3, _⟩
        obtain ⟨b, r, g1, g2, g3⟩ := hr3.maps.loops k f2 N2 env2 ps2 as2 bd2 st hl
        have hb : b = l := by
          rw [hk, e3.mloc _ _ _ hml] at g1
          exact (Option.some.inj g1).symm
        subst hb
        have hnb : r.state ≠ .busy := by
          rw [g3.state]
          cases st with
          | busy => exact absurd hq (by simp [endQ])
          | _ => simp [LSt.state]
        have hend := run_endLoop (P := X.P) g2 hnb
        have hpend := g3.pending
        obtain ⟨hr4, e4⟩ := hr3.setFix (k := k) (o' := .loop { r with state := .exhausted }) (ob' := none) g1 g2 rfl rfl (fun _ => ⟨_, rfl⟩) (fun x e => by cases e) (fun _ _ e => by cases e) (fun _ _ _ _ _ _ _ e => by cases e)
        obtain ⟨w4, hw4⟩ : ∃ w4, w'.putObj b (.loop { r with state := .exhausted }) = w4 := ⟨_, rfl⟩
        rw [hw4] at hend hr4 e4
        rw [hpend] at hend
        have ex : Ext G w G' w4 := ((e1.trans e2).trans e3).trans e4
        have hh : Holds X G' ⟨S.env, upd h2 k ⟨(h2 k).ver, none⟩⟩ { a with defers := mark ++ a.defers } w4 :=
          ⟨hr4, bs', ⟨hf.size, by show mark ++ a.defers = _; rw [hf.nod, ← List.append_assoc, hmk], fun t ht => (hf.rep t ht).mono ex, hf.out⟩, hside.mono ((e2.trans e3).trans e4)⟩
        refine ⟨st.pending, _, hend, ?_⟩
        cases st with
        | ready => exact ⟨.normal, _, G', trivial, hq, ex, hh⟩
        | busy => exact absurd hq (by simp [endQ])
        | done c =>
          cases c with
          | ret => exact wpIn_ret ⟨.ret, _, G', trivial, hq, ex, hh⟩
          | exit id => exact wpIn_exit ⟨.exit id, _, G', rfl, hq, ex, hh⟩
          | _ => exact absurd hq (by simp [endQ])
  have hmb : ∀ k v, ∀ b, G.mloc k v = some b → b < w.heap.size := fun k v b x => by
    obtain ⟨_, ⟨o, _, h2⟩, _⟩ := hr.maps.low _ _ _ x
    exact (Array.getElem?_eq_some_iff.1 h2).1
  cases hrnd : X.rnd with
  | none =>
    have ho := run_enterLoop_outer (P := X.P) (w := w) fn a.tmps ps as bd
    have hr1 := hr.allocAny (.deferred (some []))
    have e1 := Ext.alloc hr (.deferred (some []))
    have hr2 := hr1.allocAny (.loop { state := .ready, pending := none, fn, tmps := a.tmps, params := ps, assign := as, body := bd, defers := w.heap.size })
    have e2 := Ext.alloc hr1 (.loop { state := .ready, pending := none, fn, tmps := a.tmps, params := ps, assign := as, body := bd, defers := w.heap.size })
    have hloop := World.alloc_heap_new (w.alloc (.deferred (some []))) (.loop { state := .ready, pending := none, fn, tmps := a.tmps, params := ps, assign := as, body := bd, defers := w.heap.size })
    rw [World.size_alloc] at hloop
    have hdef : ((w.alloc (.deferred (some []))).alloc (.loop { state := .ready, pending := none, fn, tmps := a.tmps, params := ps, assign := as, body := bd, defers := w.heap.size })).heap[w.heap.size]? = some (.deferred (some [])) :=
      (heap_alloc_lt (by simp)).trans (World.alloc_heap_new w _)
    have hside := hs.mono (e1.trans e2)
    rw [← hrnd]
    refine core _ _ _ _ (w.heap.size :: bs) (by rw [show (FF X.rnd).round = none from hrnd]; exact ho) hr2 (e1.trans e2) hloop rfl rfl rfl rfl rfl rfl (by have := hr.bsz; omega) (fun k v x => by have := hmb _ _ _ x; omega) rfl
      ⟨List.nodup_cons.2 ⟨fun hx => ?_, hs.nd⟩, fun b hb => ?_, fun b hb => ?_, hside.book, hside.s0⟩
    · have := (Array.getElem?_eq_some_iff.1 (hs.live _ hx)).1
      omega
    · rcases List.mem_cons.1 hb with rfl | hb
      · exact hs.s0
      · exact hs.low b hb
    · rcases List.mem_cons.1 hb with rfl | hb
      · exact hdef
      · exact hside.live b hb
  | some l0 =>
    obtain ⟨r0, hr0⟩ := hs.book l0 hrnd
    have ho := run_enterLoop_inner (P := X.P) (w := w) hr0 fn a.tmps ps as bd
    have hr1 := hr.allocAny (.loop { state := .ready, pending := none, fn, tmps := a.tmps, params := ps, assign := as, body := bd, defers := r0.defers })
    have e1 := Ext.alloc hr (.loop { state := .ready, pending := none, fn, tmps := a.tmps, params := ps, assign := as, body := bd, defers := r0.defers })
    rw [← hrnd]
    exact core _ _ _ _ bs (by rw [show (FF X.rnd).round = some l0 from hrnd]; exact ho) hr1 e1 (World.alloc_heap_new w _) rfl rfl rfl rfl rfl rfl hr.bsz (fun k v x => by have := hmb _ _ _ x; omega) rfl (hs.mono e1)

/-- What a round hands its iterator, and how it leaves the loop. -/
def roundOut : AExit → Option (Bool × LSt)
  | .normal => some (true, .ready)
  | .ret => some (false, .done .ret)
  | .exit id => some (false, .done (.exit id))
  | _ => none
set_option maxHeartbeats 1000000 in
theorem ycall_of_aw {P : Program} (hm : OkP P) {k v : Nat} {args : List AV} {h : Heap} {fno N : Nat} {env : List (Nat × AV)} {env1 : Nat → AV} {ps : Array Nat} {as bd : Code} (hv : (h k).ver = v) (hob : (h k).ob = some (.lp fno N env ps as bd .ready))
    (henv : putPs N (envOf env) ps.toList args = some env1) {S1 : St} (h1 : ∀ X : Fix, X.P = P → X.N = N → AW X as ⟨env1, h⟩ fun e S' => e = .normal ∧ S' = S1)
    {f1 N1 : Nat} {e1 : List (Nat × AV)} {ps1 : Array Nat} {as1 bd1 : Code} (hv1 : (S1.heap k).ver = v) (hob1 : (S1.heap k).ob = some (.lp f1 N1 e1 ps1 as1 bd1 .ready)) {e : AExit} {S2 : St}
    (h2 : ∀ X : Fix, X.P = P → X.N = N → AW X bd ⟨S1.env, upd S1.heap k ⟨v, some (.lp f1 N1 e1 ps1 as1 bd1 .busy)⟩⟩ fun e' S' => e' = e ∧ S' = S2)
    {f2 N2 : Nat} {e2 : List (Nat × AV)} {ps2 : Array Nat} {as2 bd2 : Code} {st2 st : LSt} {b : Bool} (hv2 : (S2.heap k).ver = v) (hob2 : (S2.heap k).ob = some (.lp f2 N2 e2 ps2 as2 bd2 st2)) (ho : roundOut e = some (b, st)) :
    YCall P k v args h [.d (.bool b)] (upd S2.heap k ⟨v, some (.lp f2 N2 e2 ps2 as2 bd2 st)⟩) := fun G B w0 I0 w cargs hr hsz hargs l hl => by
  obtain ⟨l', r, g1, g2, g3⟩ := hr.maps.loops k fno N env ps as bd .ready hob
  have hll : l' = l := by
    rw [hv, hl] at g1
    exact (Option.some.inj g1).symm
  subst hll
  have hplen := putPs_len henv
  obtain ⟨q1, q2, q3⟩ := putPs_rep (G := G) (w := w) cargs.toList r.tmps henv (by simpa using hsz) g3.size (fun i x u hx hu => hargs i x u hx (by simpa using hu)) g3.rep g3.out
  have hfold : ((r.params.zip cargs).foldl (fun tmps (p : Nat × Value) => tmps.setIfInBounds p.1 p.2) r.tmps) = ((ps.toList.zip cargs.toList).foldl (fun tmps (p : Nat × Value) => tmps.setIfInBounds p.1 p.2) r.tmps) := by
    rw [g3.ps, ← Array.foldl_toList, Array.toList_zip]
  refine ⟨r.fn, _, r.assign, r.body, run_yield g2 (by rw [g3.ps, hsz, ← hplen]; simp), fun rr => ?_⟩
  rw [g3.as, g3.bd]
  have hfold2 : (Array.foldl (fun tmps x => match x with | (t, a) => tmps.setIfInBounds t a) r.tmps (r.params.zip cargs)) = ((ps.toList.zip cargs.toList).foldl (fun tmps (p : Nat × Value) => tmps.setIfInBounds p.1 p.2) r.tmps) := hfold
  rw [hfold2]
  refine roundIn_of_wpIn (F := FF rr) trivial ?_
  let X : Fix := ⟨P, B, w0, I0, N, hm, some l', w.heap.size, []⟩
  have hstart : Holds X G ⟨env1, h⟩ { tmps := ((ps.toList.zip cargs.toList).foldl (fun tmps (p : Nat × Value) => tmps.setIfInBounds p.1 p.2) r.tmps), defers := [] } w :=
    ⟨hr, [], ⟨q1, rfl, q2, q3⟩, List.nodup_nil, fun _ h => (by cases h), fun _ h => (by cases h), fun l hl => by cases hl; exact ⟨r, g2⟩, Nat.le_refl _⟩
  refine wpIn_mono (h1 X rfl rfl G _ w hstart) ?_
  rintro e' a' w' ⟨_, S', G', xr1, ⟨rfl, rfl⟩, x1, y1, bs1, z1, s1⟩
  obtain rfl := xr1.normal
  obtain ⟨l2, r2, k1, k2, k3⟩ := y1.maps.loops k f1 N1 e1 ps1 as1 bd1 .ready hob1
  have hll : l2 = l' := by
    rw [hv1, x1.mloc _ _ _ hl] at k1
    exact (Option.some.inj k1).symm
  subst hll
  refine ⟨_, run_beginRound k2 k3.state, ?_⟩
  obtain ⟨y2, x2⟩ := y1.setFix (k := k) (o' := .loop { r2 with state := .busy }) (ob' := some (.lp f1 N1 e1 ps1 as1 bd1 .busy)) k1 k2 rfl rfl (fun _ => ⟨_, rfl⟩) (fun x e => by cases e; rfl) (fun _ _ e => by cases e) (fun _ _ _ _ _ _ _ e => by
    cases e
    exact ⟨_, World.putObj_heap_same (Array.getElem?_eq_some_iff.1 k2).1, k3.size, k3.rep, k3.out, k3.ps, k3.as, k3.bd, rfl, k3.pending⟩)
  rw [hv1] at y2
  refine wpIn_mono (h2 X rfl rfl G' _ _ ⟨y2, bs1, z1.mono x2, s1.mono x2⟩) ?_
  rintro e' a'' w'' ⟨e9, S'', G'', xr2, ⟨rfl, rfl⟩, x3, y3, -⟩
  obtain ⟨l3, r3, m1, m2, m3⟩ := y3.maps.loops k f2 N2 e2 ps2 as2 bd2 st2 hob2
  have hll : l3 = l2 := by
    rw [hv2, x3.mloc _ _ _ (x2.mloc _ _ _ (x1.mloc _ _ _ hl))] at m1
    exact (Option.some.inj m1).symm
  subst hll
  have fin : ∀ (jump : Option Code), jump.isNone = b → (if jump.isNone = true then LoopState.ready else .done) = st.state → jump = st.pending → ∃ vv w3, (Instr.endRound l3 jump).run P w'' = .ok vv w3 ∧ ∃ x G', Ending.returned vv = .returned x ∧ Ext G w G' w3 ∧ HR G' B w0 I0 (upd S''.heap k ⟨v, some (.lp f2 N2 e2 ps2 as2 bd2 st)⟩) w3 ∧ Rep G' w3 (retV [.d (.bool b)]) x := by
    intro jump j1 j2 j3
    obtain ⟨y4, x4⟩ := y3.setFix (k := k) (o' := .loop { r3 with state := if jump.isNone then .ready else .done, pending := jump }) (ob' := some (.lp f2 N2 e2 ps2 as2 bd2 st)) m1 m2 rfl rfl (fun _ => ⟨_, rfl⟩) (fun x e => by cases e; rfl) (fun _ _ e => by cases e) (fun _ _ _ _ _ _ _ e => by
      cases e
      exact ⟨_, World.putObj_heap_same (Array.getElem?_eq_some_iff.1 m2).1, m3.size, m3.rep, m3.out, m3.ps, m3.as, m3.bd, j2, j3⟩)
    rw [hv2] at y4
    exact ⟨_, _, run_endRound jump m2, _, G'', rfl, (x1.trans x2).trans (x3.trans x4), y4, by rw [j1]; exact .d (.bool b)⟩
  cases e9 with
  | normal => obtain rfl := xr2.normal; cases ho; exact fin none rfl rfl rfl
  | ret => obtain rfl := xr2.ret; cases ho; exact fin (some .ret) rfl rfl rfl
  | exit id => obtain rfl := xr2.exit; cases ho; exact fin (some (.exit id)) rfl rfl rfl
  | panic x => cases ho
end Go.Avm
