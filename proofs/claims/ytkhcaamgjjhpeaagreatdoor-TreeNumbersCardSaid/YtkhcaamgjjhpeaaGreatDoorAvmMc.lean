/-
  The abstract machine, part Mc: panics. A region's step that gives up; in whatever order a region draws its steps, it gives up with one value and one heap.
-/
import Derived.Test.YtkhcaamgjjhpeaaGreatDoorAvmMb
set_option linter.unusedSectionVars false
namespace Go.Avm
open Go.RowKit
variable [GlobTab]

/-- The contract of a function that gives up with a value. -/
def HPan (P : Program) (f : Nat) (args : List AV) (h : Heap) (x : AV) (h' : Heap) : Prop :=
  Callable P f ∧ ∀ (G : Gh) (B : Nat) (w0 : World) (I0 : Nat → Nat → Prop) (w : World) (cargs : Array Value), HR G B w0 I0 h w → cargs.size = args.length →
    (∀ (i : Nat) (x : AV) (u : Value), args[i]? = some x → cargs[i]? = some u → Rep G w x u) →
    Calls P f cargs w fun e w' => ∃ v G', e = .panicked [{ v, recovered := false }] ∧ Ext G w G' w' ∧ HR G' B w0 I0 h' w' ∧ Rep G' w' x v
/-- A step that gives up. -/
def PanA (P : Program) (o : Oper) (S : St) (x : AV) (h' : Heap) : Prop :=
  (∃ u t y, o.op = .panic u ∧ opd S.env u = x ∧ x = .iv t y ∧ h' = S.heap) ∨ (∃ g args, callOf o S.env = some (g, args) ∧ HPan P g args S.heap x h')
def dstsOf (ops : Array Oper) : List Nat := ops.toList.filterMap (·.dst)
def envJ (ops : Array Oper) (env : Nat → AV) : Nat → AV := fun t => if (dstsOf ops).contains t = true then .junk else env t

section
variable {P : Program} {cfg : Cfg} {N : Nat} {ops : Array Oper} {G : Gh} {B : Nat} {w0 w : World} {I0 : Nat → Nat → Prop}

theorem envJ_dst {p : Nat} {o : Oper} (ho : ops[p]? = some o) {t : Nat} (ht : (dstsOf ops).contains t = false) : o.dst ≠ some t := fun e => by
  have : t ∈ dstsOf ops := List.mem_filterMap.2 ⟨o, by rw [Array.mem_toList_iff]; exact Array.mem_of_getElem? ho, e⟩
  rw [List.contains_iff_mem.2 this] at ht
  cases ht

theorem panA_sound {D : List Deferred} {o : Oper} {S : St} {x : AV} {h' : Heap} (r : Option Nat) (n : Nat) {a : Act} {next : Act → World → Prop} {Q : Exit → Act → World → Prop} (hr : HR G B w0 I0 S.heap w) (hf : FR G w N D S.env a)
    (hp : PanA P o S x h') (hq : ∀ v w' G', Ext G w G' w' → HR G' B w0 I0 h' w' → FR G' w' N D S.env a → Rep G' w' x v → Q (.panic [{ v, recovered := false }]) a w') : o.wpIn (FF r) n P a w next Q := by
  rcases hp with ⟨u, t, y, hop, hx, rfl, rfl⟩ | ⟨g, args, hco, hcb, hcall⟩
  · have hru := hf.opd hr.maps.glob u
    rw [hx] at hru
    obtain ⟨v, hv, hrv⟩ : ∃ v, a.eval u = .iface t v ∧ Rep G w (.iv t y) (.iface t v) := by
      generalize a.eval u = vu at hru
      cases hru with
      | iv _ v h => exact ⟨v, rfl, .iv _ v h⟩
    have hrun : (execOp a.eval o).run P w = .halt (.panic (.iface t v)) w := by
      unfold execOp
      rw [hop]
      simp only [hv]
      rfl
    exact ⟨fun _ _ => trivial, by
      rw [Oper.semAt_eq _ _ _ (fun c e => by rw [hop] at e; cases e), hrun, Oper.uponIn_panic]
      exact hq _ w G (Ext.refl G w) hr hf hrv⟩
  · unfold callOf at hco
    split at hco
    · rename_i c hop
      split at hco
      · rename_i f hcal
        split at hco
        · rename_i g' caps hfn
          simp only [Option.some.injEq, Prod.mk.injEq] at hco
          obtain ⟨rfl, rfl⟩ := hco
          obtain ⟨vs, hsz, hrep, henter⟩ := call_args (P := P) (ty := o.type) (ρ := a.eval) (fun x => hf.opd hr.maps.glob x) hcal hfn
          have hrun : (execOp a.eval o).run P w = .ok (.enter g' (c.args.map a.eval ++ vs)) w := by
            unfold execOp
            rw [hop]
            exact henter.trans (run_callFunc hcb _ w)
          refine ⟨fun _ _ => trivial, ?_⟩
          rw [Oper.semAt_eq _ _ _ (fun c e => by rw [hop] at e; cases e), hrun, Oper.uponIn_enter]
          refine ⟨fun x => (by cases x), (callsFF r (n - 1) (hcall G B w0 I0 w _ hr hsz hrep)).mono ?_⟩
          rintro e w' ⟨v, G', rfl, h1, h2, h3⟩
          exact hq v w' G' h1 h2 (hf.mono h1) h3
        · cases hco
      · cases hco
    · cases hco

theorem FR.junk {D : List Deferred} {env env' : Nat → AV} {a : Act} (hf : FR G w N D env a) (h : ∀ t, env' t = env t ∨ env' t = .junk) : FR G w N D env' a :=
  ⟨hf.size, hf.nod, fun t ht => by
    rcases h t with e | e
    · rw [e]; exact hf.rep t ht
    · rw [e]; exact .junk _, fun t ht => by
    rcases h t with e | e
    · rw [e]; exact hf.out t ht
    · exact e⟩

/-- The step at which a region gives up. -/
def Leaf (P : Program) (ops : Array Oper) (p : Nat) (env0 : Nat → AV) (x : AV) (h' : Heap) (S : St) : Prop :=
  (∃ o, ops[p]? = some o ∧ wantedA ops o S.env = some true ∧ PanA P o S x h') ∧ ∀ t, (dstsOf ops).contains t = false → S.env t = env0 t

theorem leaf_op {D : List Deferred} {p : Nat} {env0 : Nat → AV} {x : AV} {h' : Heap} {S : St} (r : Option Nat) (n : Nat) {a : Act} {K : Act → World → Prop} {Q : Exit → Act → World → Prop} (hr : HR G B w0 I0 S.heap w) (hf : FR G w N D S.env a)
    (h : Leaf P ops p env0 x h' S) (hq : ∀ v w' G', Ext G w G' w' → HR G' B w0 I0 h' w' → FR G' w' N D (envJ ops env0) a → Rep G' w' x v → Q (.panic [{ v, recovered := false }]) a w') : wpOpIn (FF r) n P ops Q p K a w := by
  obtain ⟨⟨o, ho, hw, hp⟩, hj⟩ := h
  unfold wpOpIn
  simp only [ho]
  rw [if_pos (yieldsA hf hw)]
  refine panA_sound r n hr hf hp (fun v w' G' h1 h2 h3 h4 => hq v w' G' h1 h2 (h3.junk fun t => ?_) h4)
  unfold envJ
  split
  · exact .inr rfl
  · rename_i ht
    exact .inl (hj t (by simpa using ht)).symm

theorem leaf_back {p k : Nat} {ok op : Oper} {env0 : Nat → AV} {x : AV} {h' : Heap} {S S1 : St} {ob : List Obl} {f : Foot} (hk : ops[k]? = some ok) (hop : ops[p]? = some op) (hs : stepA P cfg N ops k ok S = some (S1, ob, f)) (hap : ok.apart ops op = true)
    (hall : f.all = false) (hwr : f.wr = []) (h : Leaf P ops p env0 x h' S1) : Leaf P ops p env0 x h' S := by
  obtain ⟨⟨o, ho, hw, hp⟩, hj⟩ := h
  rw [hop] at ho
  cases ho
  obtain ⟨g1, _, _⟩ := Oper.apart_spec hap
  obtain ⟨v, act, hpt, hh, hwi, _, _⟩ := stepA_local hs
  obtain ⟨wr, rfl, hkk⟩ := hwi hall
  have hnil : wr = [] := List.map_eq_nil_iff.1 (hkk.symm.trans hwr)
  subst hnil
  have hheap : S1.heap = S.heap := hh
  have hag : ∀ t ∈ op.looksAt ops, S.env t = S1.env t := fun t ht => (putA_ne hpt (fun e => g1 t e ht)).symm
  refine ⟨⟨op, hop, by rw [wantedA_local (o := op) (env := S1.env) (env' := S.env) hag]; exact hw, ?_⟩, fun t ht => by rw [← hj t ht, putA_ne hpt (envJ_dst hk ht)]⟩
  rcases hp with ⟨u, t, y, e1, e2, e3, e4⟩ | ⟨g, args, e1, e2⟩
  · refine .inl ⟨u, t, y, e1, ?_, e3, e4.trans hheap⟩
    rw [opd_local hag u (by rw [e1]; simp [Op.operands])]
    exact e2
  · refine .inr ⟨g, args, ?_, by rw [← hheap]; exact e2⟩
    rw [callOf_local hag]
    exact e1

/-- In whatever order the steps that are left are drawn, the region gives up at one step. -/
def anyP (P : Program) (cfg : Cfg) (N : Nat) (ops : Array Oper) (F : Nat → Foot) (p : Nat) (L : St → Prop) : Nat → Array Bool → St → Prop
  | 0, _, _ => False
  | fuel + 1, listed, S => Region.ready .any ops listed ≠ [] ∧
    ∀ i ∈ Region.ready .any ops listed, (i = p ∧ L S) ∨ (i < p ∧ ∃ o S1 ob, ops[i]? = some o ∧ stepA P cfg N ops i o S = some (S1, ob, F i) ∧ Obls P ob ∧ anyP P cfg N ops F p L fuel (listed.setIfInBounds i true) S1)

def freeP (ops : Array Oper) (F : Nat → Foot) (p : Nat) (listed : Array Bool) (k : Nat) : Bool :=
  match ops[k]?, ops[p]? with
  | some ok, some op => ((List.range p).all fun j => j == k || listed.getD j true || match ops[j]? with
      | some oj => oj.after.any (fun e => Region.binds .any e && e.on == k) || (ok.apart ops oj && (F k).apart (F j))
      | none => true) && (op.after.any (fun e => Region.binds .any e && e.on == k) || (ok.apart ops op && !(F k).all && (F k).wr.isEmpty))
  | _, _ => false

theorem anyP_first {F : Nat → Foot} {p k : Nat} {ok op : Oper} {env0 : Nat → AV} {x : AV} {h' : Heap} (hk : ops[k]? = some ok) (hp : ops[p]? = some op) (hkp : k < p) {ob : List Obl} (hob : Obls P ob) :
    ∀ (fuel : Nat) (listed : Array Bool) (S S1 : St),
      (∀ j oj, j < p → ops[j]? = some oj → j ≠ k → listed.getD j true = false → (∀ e ∈ oj.after, Region.binds .any e = true → e.on ≠ k) → ok.apart ops oj = true ∧ (F k).apart (F j) = true) →
      ((∀ e ∈ op.after, Region.binds .any e = true → e.on ≠ k) → ok.apart ops op = true ∧ (F k).all = false ∧ (F k).wr = []) →
      k ∈ Region.ready .any ops listed → stepA P cfg N ops k ok S = some (S1, ob, F k) →
      anyP P cfg N ops F p (Leaf P ops p env0 x h') fuel (listed.setIfInBounds k true) S1 → anyP P cfg N ops F p (Leaf P ops p env0 x h') (fuel + 1) listed S := by
  intro fuel
  induction fuel with
  | zero => intro listed S S1 _ _ _ _ H; exact H.elim
  | succ fuel ih =>
    intro listed S S1 hfree hpf hr hy H
    refine ⟨fun h => (by rw [h] at hr; cases hr), fun j hj => ?_⟩
    by_cases hjk : j = k
    · subst hjk; exact .inr ⟨hkp, ok, S1, ob, hk, hy, hob, H⟩
    · obtain ⟨hjun, oj, hoj, hall⟩ := mem_ready.1 hj
      have hnot : ∀ e ∈ oj.after, Region.binds .any e = true → e.on ≠ k := fun e he hb heq => by
        have h1 := hall e he hb
        have h0 := (mem_ready.1 hr).1
        rw [heq] at h1
        rcases Nat.lt_or_ge k listed.size with h' | h'
        · simp [h'] at h0 h1; rw [h0] at h1; cases h1
        · simp [Array.getElem?_eq_none h'] at h1
      rcases H.2 j (ready_mono hj hjk) with ⟨rfl, hl⟩ | ⟨hjp, oj', S2, obj, hoj', hstj, hobj, H2⟩
      · left
        have e : oj = op := by rw [hp] at hoj; exact (Option.some.inj hoj).symm
        subst e
        obtain ⟨q1, q2, q3⟩ := hpf hnot
        exact ⟨rfl, leaf_back hk hp hy q1 q2 q3 hl⟩
      · right
        have heq : oj' = oj := by rw [hoj] at hoj'; exact (Option.some.inj hoj').symm
        subst heq
        obtain ⟨a1, a2⟩ := hfree j oj' hjp hoj hjk hjun hnot
        obtain ⟨S1', k1, k2⟩ := stepA_swap a1 a2 hy hstj
        refine ⟨hjp, oj', S1', obj, hoj, k1, hobj, ih (listed.setIfInBounds j true) S1' S2 (fun i oi hip hi hik hun hno => ?_) hpf (ready_mono hr (Ne.symm hjk)) k2 ?_⟩
        · refine hfree i oi hip hi hik ?_ hno
          by_cases hji : j = i
          · subst hji; exact hjun
          · rw [getD_set_ne true hji] at hun; exact hun
        · rw [Array.setIfInBounds_comm _ _ hjk]
          exact H2

theorem freeP_spec {F : Nat → Foot} {p k : Nat} {ok op : Oper} {listed : Array Bool} (hk : ops[k]? = some ok) (hp : ops[p]? = some op) (h : freeP ops F p listed k = true) :
    (∀ j oj, j < p → ops[j]? = some oj → j ≠ k → listed.getD j true = false → (∀ e ∈ oj.after, Region.binds .any e = true → e.on ≠ k) → ok.apart ops oj = true ∧ (F k).apart (F j) = true) ∧
    ((∀ e ∈ op.after, Region.binds .any e = true → e.on ≠ k) → ok.apart ops op = true ∧ (F k).all = false ∧ (F k).wr = []) := by
  simp only [freeP, hk, hp, Bool.and_eq_true] at h
  obtain ⟨h1, h2⟩ := h
  refine ⟨fun j oj hjp hj hne hun hno => ?_, fun hno => ?_⟩
  · simp only [List.all_eq_true, List.mem_range] at h1
    have h1 := h1 j hjp
    simp only [hj, Bool.or_eq_true, beq_iff_eq, hne, false_or, hun, Bool.false_eq_true] at h1
    rcases h1 with h1 | h1
    · obtain ⟨e, he, hb⟩ := Array.any_eq_true'.1 h1
      simp only [Bool.and_eq_true, beq_iff_eq] at hb
      exact absurd hb.2 (hno e he hb.1)
    · simpa using h1
  · rw [Bool.or_eq_true] at h2
    rcases h2 with h2 | h2
    · obtain ⟨e, he, hb⟩ := Array.any_eq_true'.1 h2
      simp only [Bool.and_eq_true, beq_iff_eq] at hb
      exact absurd hb.2 (hno e he hb.1)
    · simp only [Bool.and_eq_true, Bool.not_eq_true', List.isEmpty_iff] at h2
      exact ⟨h2.1.1, h2.1.2, h2.2⟩

def lexPF (ops : Array Oper) (F : Nat → Foot) (p : Nat) : Nat → Nat → Array Bool → Bool
  | 0, _, listed => match Region.ready .any ops listed with
    | [i] => i == p
    | _ => false
  | n + 1, k, listed => (Region.ready .any ops listed).contains k && freeP ops F p listed k && lexPF ops F p n (k + 1) (listed.setIfInBounds k true)
def lexPok (ops : Array Oper) (fts : List Foot) (p : Nat) : Bool := lexPF ops (fun i => (fts[i]?).getD ⟨0, [], [], false⟩) p p 0 (Array.replicate ops.size false)

theorem anyP_lex {F : Nat → Foot} {p : Nat} {op : Oper} {env0 : Nat → AV} {x : AV} {h' : Heap} (hp : ops[p]? = some op) : ∀ (n k : Nat) (listed : Array Bool) (S Sf : St) (ob : List Obl) (fts : List Foot), k + n = p → runA P cfg N ops (List.range' k n) S = some (Sf, ob, fts) → Obls P ob →
    (∀ j f, fts[j]? = some f → F (k + j) = f) → lexPF ops F p n k listed = true → Leaf P ops p env0 x h' Sf → anyP P cfg N ops F p (Leaf P ops p env0 x h') (n + 1) listed S
  | 0, k, listed, S, Sf, ob, fts, hkn, hr, _, _, hl, hL => by
    simp only [List.range'_zero, runA, Option.some.injEq, Prod.mk.injEq] at hr
    obtain ⟨rfl, _, _⟩ := hr
    simp only [lexPF] at hl
    split at hl
    · rename_i i hri
      rw [beq_iff_eq] at hl
      subst hl
      exact ⟨by rw [hri]; simp, fun j hj => by
        rw [hri] at hj
        simp only [List.mem_singleton] at hj
        exact .inl ⟨hj, hL⟩⟩
    · cases hl
  | n + 1, k, listed, S, Sf, ob, fts, hkn, hr, hob, hF, hl, hL => by
    rw [List.range'_succ] at hr
    simp only [runA] at hr
    split at hr
    · cases hr
    · rename_i o ho
      split at hr
      · cases hr
      · rename_i st hst
        split at hr
        · cases hr
        · rename_i rs hrs
          simp only [Option.some.injEq, Prod.mk.injEq] at hr
          obtain ⟨rfl, rfl, rfl⟩ := hr
          obtain ⟨S1, ob1, ft1⟩ := st
          obtain ⟨S2, ob2, ft2⟩ := rs
          simp only [lexPF, Bool.and_eq_true] at hl
          obtain ⟨⟨h1, h2⟩, h3⟩ := hl
          have hft : F k = ft1 := by simpa using hF 0 ft1 (by simp)
          obtain ⟨f1, f2⟩ := freeP_spec ho hp h2
          refine anyP_first ho hp (by omega) (fun c hc => hob c (List.mem_append_left _ hc)) (n + 1) listed S S1 f1 f2 (by simpa using h1) (by rw [hft]; exact hst)
            (anyP_lex hp n (k + 1) _ S1 S2 ob2 ft2 (by omega) hrs (fun c hc => hob c (List.mem_append_right _ hc)) (fun j f hj => ?_) h3 hL)
          have := hF (j + 1) f (by simpa using hj)
          rw [← this]; congr 1; omega

theorem wpAny_of_anyP {D : List Deferred} (hx : ExtAll P) (r : Option Nat) (n : Nat) {F : Nat → Foot} {p : Nat} {env0 : Nat → AV} {x : AV} {h' : Heap} {Q : Exit → Act → World → Prop} : ∀ (fuel : Nat) (listed : Array Bool) (G : Gh) (w : World) (S : St) (a : Act), HR G B w0 I0 S.heap w → FR G w N D S.env a →
    anyP P cfg N ops F p (Leaf P ops p env0 x h') fuel listed S →
    (∀ v a' w' G', Ext G w G' w' → HR G' B w0 I0 h' w' → FR G' w' N D (envJ ops env0) a' → Rep G' w' x v → Q (.panic [{ v, recovered := false }]) a' w') → ∀ fuel', fuel ≤ fuel' → wpAnyIn (FF r) n P .any ops Q fuel' listed a w
  | 0, listed, G, w, S, a, hr, hf, h, hq, fuel', _ => h.elim
  | fuel + 1, listed, G, w, S, a, hr, hf, h, hq, 0, hle => absurd hle (by omega)
  | fuel + 1, listed, G, w, S, a, hr, hf, h, hq, fuel' + 1, hle => by
    refine ⟨fun hn => absurd hn h.1, fun i hi => ?_⟩
    rcases h.2 i hi with ⟨rfl, hL⟩ | ⟨_, o, S1, ob, ho, hst, hob, h2⟩
    · exact leaf_op r n hr hf hL (fun v w' G' g1 g2 g3 g4 => hq v a w' G' g1 g2 g3 g4)
    · unfold wpOpIn
      simp only [ho]
      exact stepA_sound hx hr hf hst hob r n (fun a' w' G' e1 h3 h4 => wpAny_of_anyP hx r n fuel _ G' w' S1 a' h3 h4 h2 (fun v a2 w2 G2 g1 g2 g3 g4 => hq v a2 w2 G2 (e1.trans g1) g2 g3 g4) fuel' (by omega))

/-- A region that draws its order gives up. -/
theorem region_any_pan {D : List Deferred} (hm : OkP P) (r : Option Nat) (n : Nat) {id p : Nat} {op : Oper} {S Sf : St} {a : Act} {ob : List Obl} {fts : List Foot} {x : AV} {h' : Heap} {Q : Exit → Act → World → Prop} (hr : HR G B w0 I0 S.heap w) (hf : FR G w N D S.env a)
    (hp : ops[p]? = some op) (hrun : runA P cfg N ops (List.range' 0 p) S = some (Sf, ob, fts)) (hl : lexPok ops fts p = true) (hob : Obls P ob) (hL : Leaf P ops p S.env x h' Sf)
    (hq : ∀ v a' w' G', Ext G w G' w' → HR G' B w0 I0 h' w' → FR G' w' N D (envJ ops S.env) a' → Rep G' w' x v → Q (.panic [{ v, recovered := false }]) a' w') : (Code.region id ops true).wpIn (FF r) n P Q a w := by
  refine wpIn_region_any hm.mixed ?_
  have hany := anyP_lex hp p 0 (Array.replicate ops.size false) S Sf ob fts (by omega) hrun hob (fun j f hj => by simp [hj]) hl hL
  exact wpAny_of_anyP hm.ext r n (p + 1) _ G w.drew S a hr.drew (hf.mono (Ext.drew G w)) hany (fun v a' w' G' e1 h1 h2 h3 => hq v a' w' G' ((Ext.drew G w).trans e1) h1 h2 h3) ops.size (Array.getElem?_eq_some_iff.1 hp).1

theorem runA_pan {D : List Deferred} (hx : ExtAll P) (r : Option Nat) (n : Nat) {Q : Exit → Act → World → Prop} {p : Nat} {rest : List Nat} {env0 : Nat → AV} {x : AV} {h' : Heap} : ∀ (l : List Nat) {G : Gh} {w : World} {S S' : St} {a : Act} {ob : List Obl} {fts : List Foot},
    HR G B w0 I0 S.heap w → FR G w N D S.env a → runA P cfg N ops l S = some (S', ob, fts) → Obls P ob → Leaf P ops p env0 x h' S' →
    (∀ v a' w' G', Ext G w G' w' → HR G' B w0 I0 h' w' → FR G' w' N D (envJ ops env0) a' → Rep G' w' x v → Q (.panic [{ v, recovered := false }]) a' w') → wpOpsIn (FF r) n P ops Q (l ++ p :: rest) a w
  | [], G, w, S, S', a, ob, fts, hr, hf, hs, hob, hL, hq => by
    simp only [runA, Option.some.injEq, Prod.mk.injEq] at hs
    obtain ⟨rfl, _, _⟩ := hs
    rw [List.nil_append, wpOpsIn_cons]
    exact leaf_op r n hr hf hL (fun v w' G' g1 g2 g3 g4 => hq v a w' G' g1 g2 g3 g4)
  | i :: rl, G, w, S, S', a, ob, fts, hr, hf, hs, hob, hL, hq => by
    simp only [runA] at hs
    split at hs
    · cases hs
    · rename_i o ho
      split at hs
      · cases hs
      · rename_i st hst
        split at hs
        · cases hs
        · rename_i rs hrs
          simp only [Option.some.injEq, Prod.mk.injEq] at hs
          obtain ⟨rfl, rfl, rfl⟩ := hs
          obtain ⟨S1, ob1, ft1⟩ := st
          obtain ⟨S2, ob2, ft2⟩ := rs
          rw [List.cons_append, wpOpsIn_cons]
          unfold wpOpIn
          simp only [ho]
          exact stepA_sound hx hr hf hst (fun c hc => hob c (List.mem_append_left _ hc)) r n (fun a' w' G' h1 h2 h3 =>
            runA_pan hx r n rl h2 h3 hrs (fun c hc => hob c (List.mem_append_right _ hc)) hL (fun v a2 w2 G2 g1 g2 g3 g4 => hq v a2 w2 G2 (h1.trans g1) g2 g3 g4))

theorem range_split {p m : Nat} (h : p < m) : List.range m = List.range' 0 p ++ p :: List.range' (p + 1) (m - p - 1) := by
  rw [List.range_eq_range', show m = p + (m - p) by omega, ← List.range'_append_1, show (p + (m - p)) - p - 1 = m - p - 1 by omega]
  congr 1
  rw [show m - p = (m - p - 1) + 1 by omega, List.range'_succ]
  simp

/-- A region in its written order gives up. -/
theorem region_pan {D : List Deferred} (hm : OkP P) (r : Option Nat) (n : Nat) {id p : Nat} {op : Oper} {S Sf : St} {a : Act} {ob : List Obl} {fts : List Foot} {x : AV} {h' : Heap} {Q : Exit → Act → World → Prop} (hr : HR G B w0 I0 S.heap w) (hf : FR G w N D S.env a)
    (hp : ops[p]? = some op) (hrun : runA P cfg N ops (List.range' 0 p) S = some (Sf, ob, fts)) (hob : Obls P ob) (hL : Leaf P ops p S.env x h' Sf)
    (hq : ∀ v a' w' G', Ext G w G' w' → HR G' B w0 I0 h' w' → FR G' w' N D (envJ ops S.env) a' → Rep G' w' x v → Q (.panic [{ v, recovered := false }]) a' w') : (Code.region id ops false).wpIn (FF r) n P Q a w := by
  refine wpIn_region ?_
  rw [range_split (Array.getElem?_eq_some_iff.1 hp).1]
  exact runA_pan hm.ext r n _ hr hf hrun hob hL hq
end
end Go.Avm
