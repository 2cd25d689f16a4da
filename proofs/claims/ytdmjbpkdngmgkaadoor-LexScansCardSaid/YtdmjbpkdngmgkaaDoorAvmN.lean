/-
  The abstract machine, part N: code on abstract states, rule by rule; the contract of a function out of its body.
-/
import Derived.Test.YtdmjbpkdngmgkaaDoorAvmMb
set_option linter.unusedSectionVars false
namespace Go.Avm
open Go.RowKit
variable [GlobTab]

/-- What stays fixed while a function runs: the program, its own blocks' first number, the world at its beginning, what was immutable then, the frame's size. -/
structure Fix where
  P : Program
  B : Nat
  w0 : World
  I0 : Nat → Nat → Prop
  N : Nat
  mixed : OkP P

def Holds (X : Fix) (G : Gh) (S : St) (a : Act) (w : World) : Prop := HR G X.B X.w0 X.I0 S.heap w ∧ FR G w X.N S.env a

/-- Code on an abstract state: whatever frame and world it stands for, the code goes on to a way out of which Q is told. -/
def AW (X : Fix) (c : Code) (S : St) (Q : Exit → St → Prop) : Prop :=
  ∀ G a w, Holds X G S a w → c.wp X.P (fun e a' w' => ∃ S' G', Q e S' ∧ Ext G w G' w' ∧ Holds X G' S' a' w') a w

/-- One abstract state says no more than another. -/
def Weak (X : Fix) (S S' : St) : Prop := ∀ G a w, Holds X G S a w → ∃ G', Ext G w G' w ∧ Holds X G' S' a w

def thenA (K : St → Prop) (Q : Exit → St → Prop) : Exit → St → Prop
  | .normal, S => K S
  | e, S => Q e S
def blockA (id : Nat) (Q : Exit → St → Prop) : Exit → St → Prop
  | .exit i, S => if i = id then Q .normal S else Q (.exit i) S
  | e, S => Q e S

theorem exists_least {p : Nat → Prop} (h : ∃ n, p n) : ∃ n, p n ∧ ∀ m, p m → n ≤ m := by
  obtain ⟨n, hn⟩ := h
  induction n using Nat.strongRecOn with
  | _ n ih =>
    by_cases hx : ∃ m, m < n ∧ p m
    · obtain ⟨m, hm, hp⟩ := hx
      exact ih m hm hp
    · refine ⟨n, hn, fun m hm => ?_⟩
      rcases Nat.lt_or_ge m n with hlt | hge
      · exact absurd ⟨m, hlt, hm⟩ hx
      · exact hge
noncomputable def least (p : Nat → Prop) : Nat := by
  classical
  exact if h : ∃ n, p n then (exists_least h).choose else 0
theorem least_spec {p : Nat → Prop} (h : ∃ n, p n) : p (least p) := by
  unfold least; rw [dif_pos h]; exact (exists_least h).choose_spec.1
theorem least_le {p : Nat → Prop} {m : Nat} (h : p m) : least p ≤ m := by
  unfold least; rw [dif_pos ⟨m, h⟩]; exact (exists_least ⟨m, h⟩).choose_spec.2 m h

section
variable {X : Fix} {S S' : St} {Q Q' : Exit → St → Prop}

theorem Weak.refl (S : St) : Weak X S S := fun G a w h => ⟨G, Ext.refl G w, h⟩
theorem Weak.trans {S'' : St} (h : Weak X S S') (k : Weak X S' S'') : Weak X S S'' := fun G a w hh => by
  obtain ⟨G1, e1, h1⟩ := h G a w hh
  obtain ⟨G2, e2, h2⟩ := k G1 a w h1
  exact ⟨G2, e1.trans e2, h2⟩

theorem AW.mono {c : Code} (h : AW X c S Q) (hq : ∀ e S, Q e S → Q' e S) : AW X c S Q' := fun G a w hh =>
  wp_mono (h G a w hh) fun e a' w' ⟨S', G', q, r⟩ => ⟨S', G', hq e S' q, r⟩

theorem AW.weak {c : Code} (hw : Weak X S S') (h : AW X c S' Q) : AW X c S Q := fun G a w hh => by
  obtain ⟨G1, e1, h1⟩ := hw G a w hh
  exact wp_mono (h G1 a w h1) fun e a' w' ⟨S', G', q, e2, r⟩ => ⟨S', G', q, e1.trans e2, r⟩

theorem aw_seq {x y : Code} (h : AW X x S (thenA (fun S' => AW X y S' Q) Q)) : AW X (.seq x y) S Q := fun G a w hh => by
  refine wp_seq (wp_mono (h G a w hh) ?_)
  rintro e a' w' ⟨S', G', q, e1, r⟩
  cases e with
  | normal => exact wp_mono (q G' a' w' r) fun e a2 w2 ⟨S2, G2, q2, e2, r2⟩ => ⟨S2, G2, q2, e1.trans e2, r2⟩
  | _ => exact ⟨S', G', q, e1, r⟩

theorem aw_block {id : Nat} {c : Code} (h : AW X c S (blockA id Q)) : AW X (.block id c) S Q := fun G a w hh => by
  refine wp_block (wp_mono (h G a w hh) ?_)
  rintro e a' w' ⟨S', G', q, e1, r⟩
  cases e with
  | exit i =>
    simp only [blockA] at q
    simp only [Exit.inBlock]
    split at q
    · rename_i hi; rw [if_pos hi]; exact ⟨S', G', q, e1, r⟩
    · rename_i hi; rw [if_neg hi]; exact ⟨S', G', q, e1, r⟩
  | _ => exact ⟨S', G', q, e1, r⟩

theorem aw_skip (h : Q .normal S) : AW X .skip S Q := fun G a w hh => wp_skip ⟨S, G, h, Ext.refl G w, hh⟩
theorem aw_exit {id : Nat} (h : Q (.exit id) S) : AW X (.exit id) S Q := fun G a w hh => wp_exit ⟨S, G, h, Ext.refl G w, hh⟩
theorem aw_ret (h : Q .ret S) : AW X .ret S Q := fun G a w hh => wp_ret ⟨S, G, h, Ext.refl G w, hh⟩

theorem aw_cond {c : Operand} {x y : Code} {b : Bool} (hc : opd S.env c = .d (.bool b)) (ht : b = true → AW X x S Q) (hf : b = false → AW X y S Q) : AW X (.cond c x y) S Q := fun G a w hh => by
  have hr := hh.2.opd hh.1.maps.glob c
  rw [hc] at hr
  have hv : a.eval c = .bool b := by
    generalize a.eval c = v at hr
    cases hr with | d hd => cases hd; rfl
  exact wp_cond_split hv (fun h => ht h G a w hh) (fun h => hf h G a w hh)

theorem aw_region {id : Nat} {ops : Array Oper} {cfg : Cfg} {ob : List Obl} {fts : List Foot} (hr : runA X.P cfg X.N ops (List.range ops.size) S = some (S', ob, fts)) (hob : Obls X.P ob) (h : Q .normal S') :
    AW X (.region id ops false) S Q := fun G a w hh =>
  wp_region (runA_sound X.mixed.ext _ hh.1 hh.2 hr hob fun a' w' G' e1 h1 h2 => ⟨S', G', h, e1, h1, h2⟩)

theorem aw_region_any {id : Nat} {ops : Array Oper} {cfg : Cfg} {ob : List Obl} {fts : List Foot} (hr : runA X.P cfg X.N ops (List.range ops.size) S = some (S', ob, fts)) (hl : lexOk ops fts = true) (hob : Obls X.P ob) (h : Q .normal S') :
    AW X (.region id ops true) S Q := fun G a w hh =>
  region_any_sound X.mixed hh.1 hh.2 hr hl hob fun a' w' G' e1 h1 h2 => ⟨S', G', h, e1, h1, h2⟩

/-- A loop: an invariant on abstract states, a measure on them. -/
theorem aw_loop {c : Code} (I : St → Prop) (μ : St → Nat) (h0 : I S) (hI : ∀ S, I S → AW X c S (thenA (fun S' => ∃ S'', Weak X S' S'' ∧ I S'' ∧ μ S'' < μ S) Q)) : AW X (.loop c) S Q := fun G a w hh => by
  let p : Act → World → Nat → Prop := fun a' w' n => ∃ S' G', Ext G w G' w' ∧ Holds X G' S' a' w' ∧ I S' ∧ μ S' = n
  refine wp_loop (fun a' w' => ∃ n, p a' w' n) (fun a' w' => least (p a' w')) ⟨μ S, S, G, Ext.refl G w, hh, h0, rfl⟩ ?_
  intro a1 w1 hp
  obtain ⟨S1, G1, e1, h1, i1, m1⟩ := least_spec hp
  refine wp_mono (hI S1 i1 G1 a1 w1 h1) ?_
  rintro e a' w' ⟨S', G', q, e2, r⟩
  cases e with
  | normal =>
    obtain ⟨S'', hw, i2, hlt⟩ := q
    obtain ⟨G2, e3, h3⟩ := hw G' a' w' r
    have hp2 : p a' w' (μ S'') := ⟨S'', G2, (e1.trans e2).trans e3, h3, i2, rfl⟩
    refine ⟨⟨_, hp2⟩, ?_⟩
    have := least_le hp2
    omega
  | _ => exact ⟨S', G', q, e1.trans e2, r⟩

/-- A loop over a family of states. -/
theorem aw_loopF {c : Code} {ι : Type} (F : ι → St) (J : ι → Prop) (μ : ι → Nat) (x0 : ι) (h0 : Weak X S (F x0)) (j0 : J x0)
    (hI : ∀ x, J x → AW X c (F x) (thenA (fun S' => ∃ y, Weak X S' (F y) ∧ J y ∧ μ y < μ x) Q)) : AW X (.loop c) S Q := by
  refine AW.weak h0 (fun G a w hh => ?_)
  let p : Act → World → Nat → Prop := fun a' w' n => ∃ y G', Ext G w G' w' ∧ Holds X G' (F y) a' w' ∧ J y ∧ μ y = n
  refine wp_loop (fun a' w' => ∃ n, p a' w' n) (fun a' w' => least (p a' w')) ⟨μ x0, x0, G, Ext.refl G w, hh, j0, rfl⟩ ?_
  intro a1 w1 hp
  obtain ⟨y1, G1, e1, h1, i1, m1⟩ := least_spec hp
  refine wp_mono (hI y1 i1 G1 a1 w1 h1) ?_
  rintro e a' w' ⟨S', G', q, e2, r⟩
  cases e with
  | normal =>
    obtain ⟨y, hw, i2, hlt⟩ := q
    obtain ⟨G2, e3, h3⟩ := hw G' a' w' r
    have hp2 : p a' w' (μ y) := ⟨y, G2, (e1.trans e2).trans e3, h3, i2, rfl⟩
    refine ⟨⟨_, hp2⟩, ?_⟩
    have := least_le hp2
    omega
  | _ => exact ⟨S', G', q, e1.trans e2, r⟩

/-! ### What may be forgotten -/
/-- Slots may be forgotten. -/
theorem weak_env {env env' : Nat → AV} {heap : Heap} (h : ∀ t, env' t = env t ∨ env' t = .junk) : Weak X ⟨env, heap⟩ ⟨env', heap⟩ := fun G a w hh =>
  ⟨G, Ext.refl G w, hh.1, ⟨hh.2.size, hh.2.nod, fun t ht => by
    rcases h t with e | e
    · show Rep G w (env' t) _; rw [e]; exact hh.2.rep t ht
    · show Rep G w (env' t) _; rw [e]; exact .junk _, fun t ht => by
    rcases h t with e | e
    · show env' t = _; rw [e]; exact hh.2.out t ht
    · exact e⟩⟩

/-- Some of a frame's slots, written out. -/
def envOf : List (Nat × AV) → Nat → AV
  | [] => fun _ => .junk
  | (k, x) :: r => upd (envOf r) k x
theorem envOf_le (env : Nat → AV) : ∀ (l : List (Nat × AV)), (∀ p ∈ l, p.2 = env p.1) → ∀ t, envOf l t = env t ∨ envOf l t = .junk
  | [], _, t => .inr rfl
  | (k, x) :: r, h, t => by
    by_cases ht : t = k
    · subst ht
      left
      simp only [envOf, upd_same]
      exact h (t, x) (by simp)
    · simp only [envOf, upd_ne _ _ ht]
      exact envOf_le env r (fun p hp => h p (by simp [hp])) t
theorem weak_envOf {env : Nat → AV} {heap : Heap} {l : List (Nat × AV)} (h : ∀ p ∈ l, p.2 = env p.1) : Weak X ⟨env, heap⟩ ⟨envOf l, heap⟩ := weak_env (envOf_le env l h)

/-- A nil slice is a growing list that is still empty. -/
theorem weak_nils {env : Nat → AV} {heap : Heap} (t k ver sz : Nat) (h : env t = .nils) : Weak X ⟨env, heap⟩ ⟨upd env t (.vec k ver sz []), heap⟩ := fun G a w hh =>
  ⟨G, Ext.refl G w, hh.1, ⟨hh.2.size, hh.2.nod, fun s hs => by
    by_cases hst : s = t
    · subst hst
      have := hh.2.rep s hs
      rw [show (⟨env, heap⟩ : St).env s = .nils from h] at this
      show Rep G w (upd env s (.vec k ver sz []) s) _
      rw [upd_same]
      generalize a.tmps.getD s undef = v at this
      cases this; exact .vecNil _ _ _
    · show Rep G w (upd env t _ s) _
      rw [upd_ne _ _ hst]; exact hh.2.rep s hs, fun s hs => by
    by_cases hst : s = t
    · subst hst
      have := hh.2.out s hs
      rw [show (⟨env, heap⟩ : St).env s = .nils from h] at this
      cases this
    · show upd env t _ s = _
      rw [upd_ne _ _ hst]; exact hh.2.out s hs⟩⟩
end

/-! ### Functions -/
def resD (P : Program) (S : St) : ResultVar → Option D
  | .tmp t => (view 12 S.heap (S.env t)).map (·.1)
  | .cell t ty => match opLoad P ty (S.env t) S.heap with
    | some out => (view 12 S.heap out.val).map (·.1)
    | none => none
def resDs (P : Program) (S : St) : List ResultVar → Option (List D)
  | [] => some []
  | r :: l => match resD P S r, resDs P S l with
    | some x, some xs => some (x :: xs)
    | _, _ => none

/-- All that has been made is immutable from the function's end on. -/
def immAll (G : Gh) (h : Heap) : Nat → Nat → Prop := fun b o => G.imm b o ∨ ∃ k L, G.loc k (h k).ver = some L ∧ L.b = b

def resV (tmps : Array Value) : ResultVar → Sem Value
  | .tmp t => pure (tmps.getD t undef)
  | .cell a t => do loadVar t (← asAddr (tmps.getD a undef))

theorem resD_sound {P : Program} {G : Gh} {B : Nat} {w0 w : World} {I0 : Nat → Nat → Prop} {N : Nat} {S : St} {a : Act} (hr : HR G B w0 I0 S.heap w) (hf : FR G w N S.env a) {rv : ResultVar} {x : D} (hx : resD P S rv = some x) :
    ∃ v, (resV a.tmps rv).run P w = .ok v w ∧ DRep (immAll G S.heap) w x v := by
  have up : ∀ {ks : List Nat} {y : D} {v : Value}, DRep (immWith G S.heap ks) w y v → DRep (immAll G S.heap) w y v := fun hd => hd.mono (by
    rintro b o (x | ⟨k, _, L, hL, hb⟩)
    · exact .inl x
    · exact .inr ⟨k, L, hL, hb⟩) (fun _ _ _ => rfl)
  cases rv with
  | tmp t =>
    simp only [resD, Option.map_eq_some_iff] at hx
    obtain ⟨⟨y, ks⟩, hv, rfl⟩ := hx
    exact ⟨_, rfl, up (view_sound hr 12 _ _ _ _ hv (hf.opd hr.maps.glob (.tmp t)))⟩
  | cell t ty =>
    simp only [resD] at hx
    split at hx
    · rename_i out ho
      simp only [Option.map_eq_some_iff] at hx
      obtain ⟨⟨y, ks⟩, hv, rfl⟩ := hx
      obtain ⟨v, hrun, _, _, hrep⟩ := opLoad_sound hr (hf.opd hr.maps.glob (.tmp t)) ho
      refine ⟨v, ?_, up (view_sound hr 12 _ _ _ _ hv hrep)⟩
      simp only [Instr.loadAt, Instr.sureAddr, Act.eval] at hrun
      simp only [resV]
      generalize a.tmps.getD t undef = u at hrun
      cases u with
      | pointer ao =>
        cases ao with
        | some ad => simpa [asAddr] using hrun
        | none => simp at hrun
      | _ => simp at hrun
    · cases hx

theorem results_sound {P : Program} {G : Gh} {B : Nat} {w0 w : World} {I0 : Nat → Nat → Prop} {N : Nat} {S : St} {a : Act} (hr : HR G B w0 I0 S.heap w) (hf : FR G w N S.env a) {fn : Func} {rs : List D} (hx : resDs P S fn.results.toList = some rs) :
    ∃ v, (results fn a.tmps).run P w = .ok v w ∧ RetRep (immAll G S.heap) w rs v := by
  have key : ∀ (l : List ResultVar) (rs : List D), resDs P S l = some rs → ∃ vs : List Value, vs.length = rs.length ∧
      (l.mapM (resV a.tmps)).run P w = .ok vs w ∧
      ∀ (i : Nat) (x : D) (u : Value), rs[i]? = some x → vs[i]? = some u → DRep (immAll G S.heap) w x u := by
    intro l
    induction l with
    | nil => intro rs h; simp [resDs] at h; subst h; exact ⟨[], rfl, rfl, by simp⟩
    | cons r l ih =>
      intro rs h
      simp only [resDs] at h
      split at h
      · rename_i x xs hx hxs
        simp only [Option.some.injEq] at h
        subst h
        obtain ⟨vs, h1, h2, h3⟩ := ih xs hxs
        obtain ⟨v, g1, g2⟩ := resD_sound hr hf hx
        refine ⟨v :: vs, by simp [h1], ?_, fun i y u hy hu => ?_⟩
        · rw [List.mapM_cons, Sem.run_bind]
          rw [g1, Result.andThen_ok, Sem.run_bind, h2, Result.andThen_ok]; rfl
        · cases i with
          | zero => simp at hy hu; subst hy; subst hu; exact g2
          | succ i => exact h3 i y u (by simpa using hy) (by simpa using hu)
      · cases h
  obtain ⟨vs, h1, h2, h3⟩ := key _ _ hx
  have hm : (fn.results.mapM (resV a.tmps)).run P w = .ok vs.toArray w := by
    rw [Array.mapM_eq_mapM_toList, Sem.run_map, h2]; rfl
  refine ⟨if h : vs.toArray.size = 1 then vs.toArray[0] else .tuple vs.toArray, ?_, ?_⟩
  · have hv : results fn a.tmps = (do let vs ← fn.results.mapM (resV a.tmps); pure (if h : vs.size = 1 then vs[0] else .tuple vs)) := by
      unfold results
      congr 1
    rw [hv, Sem.run_bind, hm]; rfl
  · by_cases hone : rs.length = 1
    · obtain ⟨x, hx1⟩ := List.length_eq_one_iff.1 hone
      have hvs : vs.length = 1 := by omega
      obtain ⟨v, hv⟩ := List.length_eq_one_iff.1 hvs
      subst hx1; subst hv
      exact .inl ⟨x, rfl, h3 0 x v rfl rfl⟩
    · have : ¬ (vs.toArray.size = 1) := by simp; omega
      rw [dif_neg this]
      exact .inr ⟨hone, _, rfl, by simp [h1], fun i x u a b => h3 i x u a (by simpa using b)⟩

/-- The frame at a function's beginning. -/
def startSt (args : List D) : St := ⟨fun t => match args[t]? with | some x => .d x | none => .junk, fun _ => ⟨0, none⟩⟩

theorem pure_of_aw {P : Program} (hm : OkP P) {f : Nat} {fn : Func} {c : Code} {args rs : List D} (hf : P.funcs[f]? = some fn) (hb : fn.body = some c) (hn : (fn.name == "runtime.NumGoroutine") = false) (hl : args.length ≤ fn.ntmps)
    (h : ∀ X : Fix, X.P = P → X.N = fn.ntmps → AW X c (startSt args) fun e S' => (e = .normal ∨ e = .ret) ∧ resDs P S' fn.results.toList = some rs) : Pure P f args rs := by
  refine ⟨⟨fn, hf, by rw [hb]; rfl, hn⟩, fun w I cargs hI hs hargs hglob => calls_of_wp hf hb ?_⟩
  let X : Fix := ⟨P, w.heap.size, w, I, fn.ntmps, hm⟩
  have hstart : Holds X ⟨I, fun _ _ => none, fun _ => 0, fun _ _ => none⟩ (startSt args) { tmps := cargs ++ Array.replicate (fn.ntmps - cargs.size) undef, defers := [] } w := by
    refine ⟨⟨Below.refl _ _, Nat.le_refl _, hI, fun _ _ x => x, fun _ _ x _ => x, fun k v L x => by simp at x, fun k L x => by simp at x, fun k k' L L' x => by simp at x, fun k ob x => by simp [startSt] at x, fun _ => rfl, ⟨fun k v b x => by simp at x, fun k v k' v' b x => by simp at x, fun k es c x => by simp [startSt] at x, hglob⟩⟩, ⟨?_, rfl, ?_, ?_⟩⟩
    · show (cargs ++ Array.replicate (fn.ntmps - cargs.size) undef).size = fn.ntmps
      simp [hs]; omega
    · intro t _
      show Rep _ _ (match args[t]? with | some x => AV.d x | none => .junk) ((cargs ++ Array.replicate (fn.ntmps - cargs.size) undef).getD t undef)
      cases ha : args[t]? with
      | none => exact .junk _
      | some x =>
        have hlt : t < cargs.size := by rw [hs]; exact (List.getElem?_eq_some_iff.1 ha).1
        have hu : cargs[t]? = some cargs[t] := Array.getElem?_eq_getElem hlt
        rw [Array.getD_eq_getD_getElem?, Array.getElem?_append_left hlt, hu]
        exact .d (hargs t x _ ha hu)
    · intro t ht
      show (match args[t]? with | some x => AV.d x | none => .junk) = .junk
      rw [List.getElem?_eq_none (by have : X.N = fn.ntmps := rfl; omega)]
  refine wp_mono (h X rfl rfl _ _ _ hstart) ?_
  rintro e a' w' ⟨S', G', ⟨he, hres⟩, hex, hr, hfr⟩
  obtain ⟨v, hv, hret⟩ := results_sound hr hfr hres
  have fin : a'.defers = [] ∧ ∃ v, (results fn a'.tmps).run P w' = .ok v w' ∧ ∃ v' I', Ending.returned v = .returned v' ∧ Below w.heap.size w w' ∧ (∀ b o, I b o → I' b o) ∧ (∀ b o, I' b o → I b o ∨ w.heap.size ≤ b) ∧
      (∀ b o, I' b o → b < w'.heap.size) ∧ RetRep I' w' rs v' := by
    refine ⟨hfr.nod, v, hv, v, immAll G' S'.heap, rfl, hr.below, fun b o x => .inl (hr.i0 b o x), ?_, ?_, hret⟩
    · rintro b o (x | ⟨k, L, hL, rfl⟩)
      · rcases Nat.lt_or_ge b w.heap.size with hlt | hge
        · exact .inl (hr.immlow b o x hlt)
        · exact .inr hge
      · exact .inr (hr.own k L hL).1
    · rintro b o (x | ⟨k, L, hL, rfl⟩)
      · exact hr.immlt b o x
      · exact hr.blt hL
  rcases he with rfl | rfl
  · exact fin
  · exact fin
end Go.Avm
