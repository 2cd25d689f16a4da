/-
  The abstract machine, part Md: a region that draws its order gives up at one step, while others, that might come later, have come already, or not.
-/
import Derived.Test.YtkhcaamgjjhpeaaGreatDoorAvmN
set_option linter.unusedSectionVars false
namespace Go.Avm
open Go.RowKit
variable [GlobTab]

theorem ovl_neM : ∀ (l : List (Nat × Ent)) (h : Heap) {k : Nat}, k ∉ l.map (·.1) → ovl l h k = h k
  | [], _, _, _ => rfl
  | (k', e) :: r, h, k, hk => by
    simp only [List.map_cons, List.mem_cons, not_or] at hk
    simp only [ovl]
    rw [upd_ne _ _ hk.1]
    exact ovl_neM r h hk.2
theorem ovl_inM : ∀ (l : List (Nat × Ent)) (h h2 : Heap) {k : Nat}, k ∈ l.map (·.1) → ovl l h k = ovl l h2 k
  | [], _, _, _, hk => by simp at hk
  | (k', e) :: r, h, h2, k, hk => by
    simp only [ovl, upd]
    split
    · rfl
    · rename_i hne
      exact ovl_inM r h h2 (by simpa [hne] using hk)
/-- One heap says no more than another. -/
def UpH (h1 h2 : Heap) : Prop := ∀ k, h2 k = h1 k ∨ ((h2 k).ob = none ∧ (h1 k).ver ≤ (h2 k).ver)
theorem less_up {G : Gh} {B : Nat} {w0 w : World} {I0 : Nat → Nat → Prop} {h1 h2 : Heap} (hr : HR G B w0 I0 h1 w) (hu : UpH h1 h2) : ∃ G', Ext G w G' w ∧ HR G' B w0 I0 h2 w := by
  have hle : ∀ k, (h1 k).ver ≤ (h2 k).ver := fun k => by
    rcases hu k with e | ⟨_, e⟩
    · rw [e]; exact Nat.le_refl _
    · exact e
  have hob : ∀ k o, (h2 k).ob = some o → h2 k = h1 k := fun k o ho => by
    rcases hu k with e | ⟨e, _⟩
    · exact e
    · rw [e] at ho; cases ho
  have hloc : ∀ k L, G.loc k (h2 k).ver = some L → G.loc k (h1 k).ver = some L := fun k L hL => by
    have h3 := hr.fresh k _ L hL
    have h4 := hle k
    have : (h2 k).ver = (h1 k).ver := by omega
    rwa [this] at hL
  have hex : Ext G w { G with lim := fun k => (h2 k).ver } w :=
    ⟨fun _ _ x => x, fun _ _ _ x => x, fun _ _ _ => rfl, Nat.le_refl _, fun k => by rw [hr.lim]; exact hle k, fun _ _ _ x => x, fun _ _ _ x => x, kept_same rfl⟩
  refine ⟨_, hex, hr.below, hr.bsz, hr.immlt, hr.i0, hr.immlow, fun k v L hL => Nat.le_trans (hr.fresh k v L hL) (hle k), fun k L hL => hr.own k L (hloc k L hL), fun k k' L L' hL hL' => hr.dis k k' L L' (hloc k L hL) (hloc k' L' hL'), fun k ob ho => ?_, fun _ => rfl,
    hr.maps.step hex rfl (fun _ _ _ x => x) hle fun k o hf ho => hob k o ho⟩
  have he := hob k ob ho
  rw [he] at ho ⊢
  exact (hr.objs k ob ho).mono (hr.le k) hex (fun _ _ _ => rfl)

/-- The step at which a region gives up, in any state on the way. -/
def PanQ (P : Program) (o : Oper) (S : St) (x : AV) (h' : Heap) (W : List Nat) : Prop :=
  (∃ u t y, o.op = .panic u ∧ opd S.env u = x ∧ x = .iv t y ∧ UpH S.heap h') ∨
  (∃ g args pre post, callOf o S.env = some (g, args) ∧ (∀ h : Heap, Fits h pre → HPan P g args h x (ovl post h)) ∧ Fits S.heap pre ∧ (∀ k ∈ W, k ∉ pre.map (·.1) ∧ k ∉ post.map (·.1)) ∧ UpH (ovl post S.heap) h')
def LeafQ (P : Program) (ops : Array Oper) (p : Nat) (env0 : Nat → AV) (x : AV) (h' : Heap) (W : List Nat) (S : St) : Prop :=
  (∃ o, ops[p]? = some o ∧ wantedA ops o S.env = some true ∧ PanQ P o S x h' W) ∧ ∀ t, (dstsOf ops).contains t = false → S.env t = env0 t
/-- What a step may have written: keys W alone, and their versions grow. -/
def RW (W : List Nat) (S S1 : St) : Prop := ∀ k, S1.heap k = S.heap k ∨ (k ∈ W ∧ (S.heap k).ver ≤ (S1.heap k).ver)
theorem upH_back {W : List Nat} {h0 h1 h' : Heap} (hW : ∀ k ∈ W, (h' k).ob = none) (hr : ∀ k, h1 k = h0 k ∨ (k ∈ W ∧ (h0 k).ver ≤ (h1 k).ver)) (hu : UpH h1 h') : UpH h0 h' := fun k => by
  rcases hr k with e | ⟨hk, hle⟩
  · rw [← e]; exact hu k
  · refine .inr ⟨hW k hk, ?_⟩
    rcases hu k with e | ⟨_, e⟩
    · rw [e]; exact hle
    · exact Nat.le_trans hle e

section
variable {P : Program} {cfg : Cfg} {N : Nat} {ops : Array Oper} {G : Gh} {B : Nat} {w0 w : World} {I0 : Nat → Nat → Prop} {W : List Nat}

theorem panQ_A {o : Oper} {S : St} {x : AV} {h' : Heap} (h : PanQ P o S x h' W) : ∃ h1, PanA P o S x h1 ∧ UpH h1 h' := by
  rcases h with ⟨u, t, y, e1, e2, e3, e4⟩ | ⟨g, args, pre, post, e1, e2, e3, _, e5⟩
  · exact ⟨_, .inl ⟨u, t, y, e1, e2, e3, rfl⟩, e4⟩
  · exact ⟨_, .inr ⟨g, args, e1, e2 _ e3⟩, e5⟩
theorem leafQ_op {D : List Deferred} {p : Nat} {env0 : Nat → AV} {x : AV} {h' : Heap} {S : St} (r : Option Nat) (n : Nat) {a : Act} {K : Act → World → Prop} {Q : Exit → Act → World → Prop} (hr : HR G B w0 I0 S.heap w) (hf : FR G w N D S.env a)
    (h : LeafQ P ops p env0 x h' W S) (hq : ∀ v w' G', Ext G w G' w' → HR G' B w0 I0 h' w' → FR G' w' N D (envJ ops env0) a → Rep G' w' x v → Q (.panic [{ v, recovered := false }]) a w') : wpOpIn (FF r) n P ops Q p K a w := by
  obtain ⟨⟨o, ho, hw, hp⟩, hj⟩ := h
  obtain ⟨h1, hp1, hu⟩ := panQ_A hp
  refine leaf_op r n hr hf (env0 := env0) (x := x) (h' := h1) ⟨⟨o, ho, hw, hp1⟩, hj⟩ (fun v w' G' e1 e2 e3 e4 => ?_)
  obtain ⟨G2, e5, e6⟩ := less_up e2 hu
  exact hq v w' G2 (e1.trans e5) e6 (e3.mono e5) (e4.mono e5)
theorem leafQ_back {p k : Nat} {ok op : Oper} {env0 : Nat → AV} {x : AV} {h' : Heap} {S S1 : St} {ob : List Obl} {f : Foot} (hW : ∀ k ∈ W, (h' k).ob = none) (hk : ops[k]? = some ok) (hop : ops[p]? = some op) (hs : stepA P cfg N ops k ok S = some (S1, ob, f)) (hap : ok.apart ops op = true)
    (hrw : RW W S S1) (h : LeafQ P ops p env0 x h' W S1) : LeafQ P ops p env0 x h' W S := by
  obtain ⟨⟨o, ho, hw, hp⟩, hj⟩ := h
  rw [hop] at ho
  cases ho
  obtain ⟨g1, _, _⟩ := Oper.apart_spec hap
  obtain ⟨v, act, hpt, hh, hwi, _, _⟩ := stepA_local hs
  have hag : ∀ t ∈ op.looksAt ops, S.env t = S1.env t := fun t ht => (putA_ne hpt (fun e => g1 t e ht)).symm
  refine ⟨⟨op, hop, by rw [wantedA_local (o := op) (env := S1.env) (env' := S.env) hag]; exact hw, ?_⟩, fun t ht => by rw [← hj t ht, putA_ne hpt (envJ_dst hk ht)]⟩
  rcases hp with ⟨u, t, y, e1, e2, e3, e4⟩ | ⟨g, args, pre, post, e1, e2, e3, e4, e5⟩
  · refine .inl ⟨u, t, y, e1, ?_, e3, upH_back hW hrw e4⟩
    rw [opd_local hag u (by rw [e1]; simp [Op.operands])]
    exact e2
  · refine .inr ⟨g, args, pre, post, ?_, e2, fun q hq => ?_, e4, upH_back hW (fun k' => ?_) e5⟩
    · rw [callOf_local hag]
      exact e1
    · have hno : q.1 ∉ W := fun hx => (e4 q.1 hx).1 (List.mem_map_of_mem hq)
      have := (hrw q.1).resolve_right fun hx => hno hx.1
      rw [← this]
      exact e3 q hq
    · by_cases hkp : k' ∈ post.map (·.1)
      · exact .inl (ovl_inM post S1.heap S.heap hkp)
      · rw [ovl_neM post S1.heap hkp, ovl_neM post S.heap hkp]
        exact hrw k'

def bindsTo (o : Oper) (k : Nat) : Bool := o.after.any (fun e => Region.binds .any e && e.on == k)
theorem bindsTo_spec {o : Oper} {k : Nat} (h : bindsTo o k = true) : ¬ ∀ e ∈ o.after, Region.binds .any e = true → e.on ≠ k := fun hno => by
  obtain ⟨e, he, hb⟩ := Array.any_eq_true'.1 h
  simp only [Bool.and_eq_true, beq_iff_eq] at hb
  exact absurd hb.2 (hno e he hb.1)
/-- In whatever order the steps that are left are drawn, the region gives up at one step. -/
def anyQ (P : Program) (cfg : Cfg) (N : Nat) (ops : Array Oper) (F : Nat → Foot) (p : Nat) (O : List Nat) (L : St → Prop) : Nat → Array Bool → St → Prop
  | 0, _, _ => False
  | fuel + 1, listed, S => Region.ready .any ops listed ≠ [] ∧
    ∀ i ∈ Region.ready .any ops listed, (i = p ∧ L S) ∨ (i ∈ O ∧ ∃ o S1 ob, ops[i]? = some o ∧ stepA P cfg N ops i o S = some (S1, ob, F i) ∧ Obls P ob ∧ anyQ P cfg N ops F p O L fuel (listed.setIfInBounds i true) S1)
theorem step_off {i : Nat} {o : Oper} {S S1 : St} {ob : List Obl} {f : Foot} (hs : stepA P cfg N ops i o S = some (S1, ob, f)) (hall : f.all = false) {k : Nat} (hk : k ∉ f.wr) : S1.heap k = S.heap k := by
  obtain ⟨v, act, _, hh, hwi, _, _⟩ := stepA_local hs
  obtain ⟨wr, rfl, hkk⟩ := hwi hall
  rw [hh]
  exact updAll_ne wr _ (by rw [← hkk]; exact hk)
theorem rw_swap {i j : Nat} {oi oj : Oper} {S S1 S2 S1' : St} {obi obj : List Obl} {fi fj : Foot} (hf : fi.apart fj = true) (ai : fi.all = false) (aj : fj.all = false) (hj : stepA P cfg N ops j oj S1 = some (S2, obj, fj))
    (hj' : stepA P cfg N ops j oj S = some (S1', obj, fj)) (hi' : stepA P cfg N ops i oi S1' = some (S2, obi, fi)) (h : RW W S S1) : RW W S1' S2 := fun k => by
  by_cases hk : k ∈ fj.wr
  · left
    refine step_off hi' ai fun hx => ?_
    simp [Foot.apart, ai, aj] at hf
    exact (hf.1 k hx).2 hk
  · rw [step_off hj aj hk, step_off hj' aj hk]
    exact h k
theorem anyQ_first {F : Nat → Foot} {p k : Nat} {O : List Nat} {ok op : Oper} {env0 : Nat → AV} {x : AV} {h' : Heap} (hW : ∀ k ∈ W, (h' k).ob = none) (hk : ops[k]? = some ok) (hp : ops[p]? = some op) (hkO : k ∈ O) {ob : List Obl} (hob : Obls P ob) :
    ∀ (fuel : Nat) (listed : Array Bool) (S S1 : St),
      (∀ j oj, j ∈ O → ops[j]? = some oj → j ≠ k → listed.getD j true = false → (∀ e ∈ oj.after, Region.binds .any e = true → e.on ≠ k) → ok.apart ops oj = true ∧ (F k).apart (F j) = true ∧ (F j).all = false) →
      ((∀ e ∈ op.after, Region.binds .any e = true → e.on ≠ k) → ok.apart ops op = true ∧ (F k).all = false ∧ RW W S S1) →
      k ∈ Region.ready .any ops listed → stepA P cfg N ops k ok S = some (S1, ob, F k) →
      anyQ P cfg N ops F p O (LeafQ P ops p env0 x h' W) fuel (listed.setIfInBounds k true) S1 → anyQ P cfg N ops F p O (LeafQ P ops p env0 x h' W) (fuel + 1) listed S := by
  intro fuel
  induction fuel with
  | zero => intro listed S S1 _ _ _ _ H; exact H.elim
  | succ fuel ih =>
    intro listed S S1 hfree hpf hr hy H
    refine ⟨fun h => (by rw [h] at hr; cases hr), fun j hj => ?_⟩
    by_cases hjk : j = k
    · subst hjk; exact .inr ⟨hkO, ok, S1, ob, hk, hy, hob, H⟩
    · obtain ⟨hjun, oj, hoj, hall⟩ := mem_ready.1 hj
      have hnot : ∀ e ∈ oj.after, Region.binds .any e = true → e.on ≠ k := fun e he hb heq => by
        have h1 := hall e he hb
        have h0 := (mem_ready.1 hr).1
        rw [heq] at h1
        rcases Nat.lt_or_ge k listed.size with h' | h'
        · simp [h'] at h0 h1; rw [h0] at h1; cases h1
        · simp [Array.getElem?_eq_none h'] at h1
      rcases H.2 j (ready_mono hj hjk) with ⟨rfl, hl⟩ | ⟨hjp, oj', S2, obj, hoj', hstj, hobj, H2⟩
      · left
        have e : oj = op := by rw [hp] at hoj; exact (Option.some.inj hoj).symm
        subst e
        obtain ⟨q1, q2, q3⟩ := hpf hnot
        exact ⟨rfl, leafQ_back hW hk hp hy q1 q3 hl⟩
      · right
        have heq : oj' = oj := by rw [hoj] at hoj'; exact (Option.some.inj hoj').symm
        subst heq
        obtain ⟨a1, a2, a3⟩ := hfree j oj' hjp hoj hjk hjun hnot
        obtain ⟨S1', k1, k2⟩ := stepA_swap a1 a2 hy hstj
        refine ⟨hjp, oj', S1', obj, hoj, k1, hobj, ih (listed.setIfInBounds j true) S1' S2 (fun i oi hip hi hik hun hno => ?_) (fun hno => ?_) (ready_mono hr (Ne.symm hjk)) k2 ?_⟩
        · refine hfree i oi hip hi hik ?_ hno
          by_cases hji : j = i
          · subst hji; exact hjun
          · rw [getD_set_ne true hji] at hun; exact hun
        · obtain ⟨q1, q2, q3⟩ := hpf hno
          exact ⟨q1, q2, rw_swap a2 q2 a3 hstj k1 k2 q3⟩
        · rw [Array.setIfInBounds_comm _ _ hjk]
          exact H2
def freeQ (ops : Array Oper) (F : Nat → Foot) (p : Nat) (O W : List Nat) (listed : Array Bool) (k : Nat) : Bool :=
  match ops[k]?, ops[p]? with
  | some ok, some op => (O.all fun j => Nat.beq j k || listed.getD j true || match ops[j]? with
      | some oj => bindsTo oj k || (ok.apart ops oj && (F k).apart (F j) && !(F j).all)
      | none => true) && (bindsTo op k || (ok.apart ops op && !(F k).all && (F k).wr.all fun a => W.any (Nat.beq a)))
  | _, _ => false
theorem freeQ_spec {F : Nat → Foot} {p k : Nat} {O : List Nat} {ok op : Oper} {listed : Array Bool} (hk : ops[k]? = some ok) (hp : ops[p]? = some op) (h : freeQ ops F p O W listed k = true) :
    (∀ j oj, j ∈ O → ops[j]? = some oj → j ≠ k → listed.getD j true = false → (∀ e ∈ oj.after, Region.binds .any e = true → e.on ≠ k) → ok.apart ops oj = true ∧ (F k).apart (F j) = true ∧ (F j).all = false) ∧
    ((∀ e ∈ op.after, Region.binds .any e = true → e.on ≠ k) → ok.apart ops op = true ∧ (F k).all = false ∧ ∀ a ∈ (F k).wr, a ∈ W) := by
  simp only [freeQ, hk, hp, Bool.and_eq_true] at h
  obtain ⟨h1, h2⟩ := h
  refine ⟨fun j oj hjO hj hne hun hno => ?_, fun hno => ?_⟩
  · have h1 := List.all_eq_true.1 h1 j hjO
    rw [hj, hun] at h1
    have hb : Nat.beq j k = false := by
      cases hb : Nat.beq j k with
      | false => rfl
      | true => exact absurd (Nat.eq_of_beq_eq_true hb) hne
    rw [hb] at h1
    simp only [Bool.false_or, Bool.or_eq_true] at h1
    rcases h1 with h1 | h1
    · exact absurd hno (bindsTo_spec h1)
    · simp only [Bool.and_eq_true, Bool.not_eq_true'] at h1
      exact ⟨h1.1.1, h1.1.2, h1.2⟩
  · rw [Bool.or_eq_true] at h2
    rcases h2 with h2 | h2
    · exact absurd hno (bindsTo_spec h2)
    · simp only [Bool.and_eq_true, Bool.not_eq_true'] at h2
      refine ⟨h2.1.1, h2.1.2, fun a ha => ?_⟩
      have := List.all_eq_true.1 h2.2 a ha
      obtain ⟨b, hb, he⟩ := List.any_eq_true.1 this
      rw [Nat.eq_of_beq_eq_true he]
      exact hb
def lexQF (ops : Array Oper) (F : Nat → Foot) (p : Nat) (O W : List Nat) : List Nat → Array Bool → Bool
  | [], listed => match Region.ready .any ops listed with
    | [i] => Nat.beq i p
    | _ => false
  | k :: r, listed => (Region.ready .any ops listed).contains k && freeQ ops F p O W listed k && lexQF ops F p O W r (listed.setIfInBounds k true)
/-- Each step's footprint, and that versions grow. -/
def StepsOk (P : Program) (cfg : Cfg) (N : Nat) (ops : Array Oper) (F : Nat → Foot) (op : Oper) : List Nat → St → St → Prop
  | [], S, Sf => S = Sf
  | k :: r, S, Sf => ∃ o S1 ob, ops[k]? = some o ∧ stepA P cfg N ops k o S = some (S1, ob, F k) ∧ Obls P ob ∧ (bindsTo op k = true ∨ ∀ a ∈ (F k).wr, (S.heap a).ver ≤ (S1.heap a).ver) ∧ StepsOk P cfg N ops F op r S1 Sf
theorem anyQ_lex {F : Nat → Foot} {p : Nat} {op : Oper} {O : List Nat} {env0 : Nat → AV} {x : AV} {h' : Heap} (hW : ∀ k ∈ W, (h' k).ob = none) (hp : ops[p]? = some op) : ∀ (l : List Nat) (listed : Array Bool) (S Sf : St), (∀ k ∈ l, k ∈ O) → StepsOk P cfg N ops F op l S Sf →
    lexQF ops F p O W l listed = true → LeafQ P ops p env0 x h' W Sf → anyQ P cfg N ops F p O (LeafQ P ops p env0 x h' W) (l.length + 1) listed S
  | [], listed, S, Sf, _, hs, hl, hL => by
    simp only [StepsOk] at hs
    subst hs
    simp only [lexQF] at hl
    split at hl
    · rename_i i hri
      have := Nat.eq_of_beq_eq_true hl
      subst this
      exact ⟨by rw [hri]; simp, fun j hj => by
        rw [hri] at hj
        simp only [List.mem_singleton] at hj
        exact .inl ⟨hj, hL⟩⟩
    · cases hl
  | k :: r, listed, S, Sf, hO, hs, hl, hL => by
    obtain ⟨o, S1, ob, ho, hst, hob, hver, hs⟩ := hs
    simp only [lexQF, Bool.and_eq_true] at hl
    obtain ⟨⟨h1, h2⟩, h3⟩ := hl
    obtain ⟨f1, f2⟩ := freeQ_spec ho hp h2
    refine anyQ_first hW ho hp (hO k (by simp)) hob (r.length + 1) listed S S1 f1 (fun hno => ?_) (by simpa using h1) hst (anyQ_lex hW hp r _ S1 Sf (fun j hj => hO j (by simp [hj])) hs h3 hL)
    obtain ⟨q1, q2, q3⟩ := f2 hno
    refine ⟨q1, q2, fun a => ?_⟩
    by_cases ha : a ∈ (F k).wr
    · exact .inr ⟨q3 a ha, (hver.resolve_left fun hb => bindsTo_spec hb hno) a ha⟩
    · exact .inl (step_off hst q2 ha)
theorem wpAny_of_anyQ {D : List Deferred} (hx : ExtAll P) (r : Option Nat) (n : Nat) {F : Nat → Foot} {p : Nat} {O : List Nat} {env0 : Nat → AV} {x : AV} {h' : Heap} {Q : Exit → Act → World → Prop} : ∀ (fuel : Nat) (listed : Array Bool) (G : Gh) (w : World) (S : St) (a : Act), HR G B w0 I0 S.heap w → FR G w N D S.env a →
    anyQ P cfg N ops F p O (LeafQ P ops p env0 x h' W) fuel listed S →
    (∀ v a' w' G', Ext G w G' w' → HR G' B w0 I0 h' w' → FR G' w' N D (envJ ops env0) a' → Rep G' w' x v → Q (.panic [{ v, recovered := false }]) a' w') → ∀ fuel', fuel ≤ fuel' → wpAnyIn (FF r) n P .any ops Q fuel' listed a w
  | 0, listed, G, w, S, a, hr, hf, h, hq, fuel', _ => h.elim
  | fuel + 1, listed, G, w, S, a, hr, hf, h, hq, 0, hle => absurd hle (by omega)
  | fuel + 1, listed, G, w, S, a, hr, hf, h, hq, fuel' + 1, hle => by
    refine ⟨fun hn => absurd hn h.1, fun i hi => ?_⟩
    rcases h.2 i hi with ⟨rfl, hL⟩ | ⟨_, o, S1, ob, ho, hst, hob, h2⟩
    · exact leafQ_op r n hr hf hL (fun v w' G' g1 g2 g3 g4 => hq v a w' G' g1 g2 g3 g4)
    · unfold wpOpIn
      simp only [ho]
      exact stepA_sound hx hr hf hst hob r n (fun a' w' G' e1 h3 h4 => wpAny_of_anyQ hx r n fuel _ G' w' S1 a' h3 h4 h2 (fun v a2 w2 G2 g1 g2 g3 g4 => hq v a2 w2 G2 (e1.trans g1) g2 g3 g4) fuel' (by omega))
end
/-- A region that draws its order gives up. -/
theorem aw_region_panQ {X : Fix} {S Sp : St} {Q : AExit → St → Prop} {id p : Nat} {ops : Array Oper} {cfg : Cfg} {F : Nat → Foot} {op : Oper} {O W : List Nat} {x : AV} {h' : Heap} (hp : ops[p]? = some op) (hW : ∀ k ∈ W, (h' k).ob = none) (hr : StepsOk X.P cfg X.N ops F op O S Sp)
    (hl : lexQF ops F p O W O (Array.replicate ops.size false) = true) (hlen : O.length < ops.size) (hL : LeafQ X.P ops p S.env x h' W Sp) (h : Q (.panic x) ⟨envJ ops S.env, h'⟩) : AW X (.region id ops true) S Q := fun G a w hh => by
  obtain ⟨bs, hf⟩ := hh.2
  refine wpIn_region_any X.mixed.mixed ?_
  have hany := anyQ_lex hW hp O (Array.replicate ops.size false) S Sp (fun _ h => h) hr hl hL
  exact wpAny_of_anyQ X.mixed.ext X.rnd 0 (O.length + 1) _ G w.drew S a hh.1.drew (hf.1.mono (Ext.drew G w)) hany (fun v a' w' G' e1 h1 h2 h3 => ⟨.panic x, _, G', ⟨v, rfl, h3⟩, h, (Ext.drew G w).trans e1, h1, bs, h2, hf.2.mono ((Ext.drew G w).trans e1)⟩) ops.size (by omega)
end Go.Avm
