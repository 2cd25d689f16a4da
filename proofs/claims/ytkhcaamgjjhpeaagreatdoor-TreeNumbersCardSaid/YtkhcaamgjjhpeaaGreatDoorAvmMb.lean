/-
  The abstract machine, part Mb: in whatever order a region draws its steps, they end as they do one behind the other, if steps that may change places touch unlike things.
-/
import Derived.Test.YtkhcaamgjjhpeaaGreatDoorAvmM
set_option linter.unusedSectionVars false
namespace Go.Avm
open Go.RowKit
variable [GlobTab]

theorem updAll_ne : ∀ (wr : List (Nat × Ent)) (h : Heap) {k : Nat}, k ∉ wr.map (·.1) → updAll h wr k = h k
  | [], _, _, _ => rfl
  | (a, e) :: r, h, k, hk => by
    simp only [List.map_cons, List.mem_cons, not_or] at hk
    simp only [updAll]
    rw [updAll_ne r _ hk.2, upd_ne _ _ hk.1]
theorem updAll_in : ∀ (wr : List (Nat × Ent)) (h h2 : Heap) {k : Nat}, k ∈ wr.map (·.1) → updAll h wr k = updAll h2 wr k
  | [], _, _, _, hk => by simp at hk
  | (a, e) :: r, h, h2, k, hk => by
    simp only [updAll]
    by_cases hr : k ∈ r.map (·.1)
    · exact updAll_in r _ _ hr
    · rw [updAll_ne r _ hr, updAll_ne r _ hr]
      simp only [List.map_cons, List.mem_cons, hr, or_false] at hk
      subst hk
      rw [upd_same, upd_same]
theorem updAll_comm {a b : List (Nat × Ent)} (h : Heap) (hd : ∀ k, k ∈ a.map (·.1) → k ∉ b.map (·.1)) : updAll (updAll h a) b = updAll (updAll h b) a := by
  funext k
  by_cases ha : k ∈ a.map (·.1)
  · rw [updAll_ne b _ (hd k ha)]
    exact updAll_in a _ _ ha
  · rw [updAll_ne a _ ha]
    by_cases hb : k ∈ b.map (·.1)
    · exact updAll_in b _ _ hb
    · rw [updAll_ne b _ hb, updAll_ne b _ hb, updAll_ne a _ ha]

theorem putA_ne {N : Nat} {env env' : Nat → AV} {dst : Option Nat} {x : AV} (h : putA N env dst x = some env') {t : Nat} (ht : dst ≠ some t) : env' t = env t := by
  cases dst with
  | none => simp only [putA, Option.some.injEq] at h; rw [h]
  | some d =>
    simp only [putA] at h
    split at h
    · simp only [Option.some.injEq] at h
      subst h
      exact upd_ne _ _ (fun e => ht (by rw [e]))
    · cases h
theorem putA_comm {N : Nat} {env e1 e2 : Nat → AV} {d d' : Option Nat} {x y : AV} (hne : ∀ t, d = some t → d' ≠ some t) (h1 : putA N env d x = some e1) (h2 : putA N e1 d' y = some e2) :
    ∃ e1', putA N env d' y = some e1' ∧ putA N e1' d x = some e2 := by
  cases d with
  | none => simp only [putA, Option.some.injEq] at h1; subst h1; exact ⟨e2, h2, rfl⟩
  | some a =>
    cases d' with
    | none => simp only [putA, Option.some.injEq] at h2; subst h2; exact ⟨env, rfl, h1⟩
    | some b =>
      simp only [putA] at h1 h2 ⊢
      split at h1
      · rename_i ha
        split at h2
        · rename_i hb
          simp only [Option.some.injEq] at h1 h2
          subst h1; subst h2
          refine ⟨upd env b y, by rw [if_pos hb], ?_⟩
          rw [if_pos ha, upd_comm _ _ _ (fun e => hne b (by rw [e]) rfl)]
        · cases h2
      · cases h1

section
variable {P : Program} {cfg : Cfg} {N : Nat} {ops : Array Oper}

def Agree (ops : Array Oper) (o : Oper) (ft : Foot) (S S' : St) : Prop :=
  (∀ t ∈ o.looksAt ops, S'.env t = S.env t) ∧ (ft.all = true → S'.heap = S.heap) ∧ (ft.all = false → ∀ k ∈ ft.rd, S'.heap k = S.heap k)

theorem wantedA_local {o : Oper} {env env' : Nat → AV} (h : ∀ t ∈ o.looksAt ops, env' t = env t) : wantedA ops o env' = wantedA ops o env := by
  unfold wantedA
  cases hg : o.guard with
  | none => rfl
  | some gw =>
    obtain ⟨j, want⟩ := gw
    simp only
    cases ht : (ops[j]?).bind (·.dst) with
    | none => rfl
    | some t =>
      simp only
      rw [h t (by simp [Oper.looksAt, hg, ht])]

theorem opd_local {o : Oper} {env env' : Nat → AV} (h : ∀ t ∈ o.looksAt ops, env' t = env t) : ∀ x ∈ o.op.operands, opd env' x = opd env x := by
  intro x hx
  cases x with
  | tmp t => exact h t (List.mem_append_left _ (List.mem_filterMap.2 ⟨.tmp t, by simpa using hx, rfl⟩))
  | _ => rfl

theorem callOf_local {o : Oper} {env env' : Nat → AV} (h : ∀ t ∈ o.looksAt ops, env' t = env t) : callOf o env' = callOf o env := by
  have ho := opd_local h
  unfold callOf
  cases hop : o.op with
  | call c =>
    simp only
    rw [hop] at ho
    simp only [Op.operands] at ho
    cases hc : c.callee with
    | value f =>
      simp only
      have hargs : c.args.toList.map (opd env') = c.args.toList.map (opd env) := List.map_congr_left fun x hx => ho x (by simp [Call.operands, Array.mem_toList_iff.1 hx])
      rw [ho f (by simp [Call.operands, hc]), hargs]
    | _ => rfl
  | _ => rfl

theorem yldOf_local {o : Oper} {env env' : Nat → AV} (h : ∀ t ∈ o.looksAt ops, env' t = env t) : yldOf o env' = yldOf o env := by
  have ho := opd_local h
  unfold yldOf
  cases hop : o.op with
  | call c =>
    simp only
    rw [hop] at ho
    simp only [Op.operands] at ho
    cases hc : c.callee with
    | value f =>
      simp only
      have hargs : c.args.toList.map (opd env') = c.args.toList.map (opd env) := List.map_congr_left fun x hx => ho x (by simp [Call.operands, Array.mem_toList_iff.1 hx])
      rw [ho f (by simp [Call.operands, hc]), hargs]
    | _ => rfl
  | _ => rfl

theorem entries_keys (post : List Nat) (h1 : Heap) : (entries post h1).map (·.1) = post := by
  unfold entries
  rw [List.map_map]
  exact List.map_id' _
/-- What a step does hangs on what it looks at alone. -/
theorem stepA_local {i : Nat} {o : Oper} {S S1 : St} {ob : List Obl} {ft : Foot} (hs : stepA P cfg N ops i o S = some (S1, ob, ft)) :
    ∃ (v : AV) (act : Heap → Heap), putA N S.env o.dst v = some S1.env ∧ S1.heap = act S.heap ∧ (ft.all = false → ∃ wr, act = (fun hh => updAll hh wr) ∧ ft.wr = wr.map (·.1)) ∧ (ft.all = true → (∃ h', act = fun _ => h') ∧ ∀ k, k ∉ ft.wr → act S.heap k = S.heap k) ∧
      ∀ S' env', Agree ops o ft S S' → putA N S'.env o.dst v = some env' → stepA P cfg N ops i o S' = some (⟨env', act S'.heap⟩, ob, ft) := by
  unfold stepA at hs
  split at hs
  · rename_i hw
    split at hs
    · rename_i rs h' tk hhc
      split at hs
      case isFalse => cases hs
      rename_i htk
      split at hs
      · rename_i g args hco
        simp only [Option.map_eq_some_iff, Prod.mk.injEq] at hs
        obtain ⟨env, hp, rfl, rfl, rfl⟩ := hs
        refine ⟨retV rs, fun _ => h', hp, rfl, fun hx => (by simp at hx), fun _ => ⟨⟨h', rfl⟩, htk⟩, fun S' env' ha hp' => ?_⟩
        have hh : S'.heap = S.heap := ha.2.1 rfl
        unfold stepA
        rw [wantedA_local ha.1, hw]
        simp only [hhc]
        rw [callOf_local ha.1, hco, hh, if_pos htk]
        simp only [hp', Option.map_some]
      · rename_i hcn
        split at hs
        · rename_i k v args hco
          simp only [Option.map_eq_some_iff, Prod.mk.injEq] at hs
          obtain ⟨env, hp, rfl, rfl, rfl⟩ := hs
          refine ⟨retV rs, fun _ => h', hp, rfl, fun hx => (by simp at hx), fun _ => ⟨⟨h', rfl⟩, htk⟩, fun S' env' ha hp' => ?_⟩
          have hh : S'.heap = S.heap := ha.2.1 rfl
          unfold stepA
          rw [wantedA_local ha.1, hw]
          simp only [hhc]
          rw [callOf_local ha.1, hcn, yldOf_local ha.1, hco, hh, if_pos htk]
          simp only [hp', Option.map_some]
        · cases hs
    · rename_i pre rs post hhc
      split at hs
      · rename_i g args hco
        split at hs
        case isFalse => cases hs
        rename_i hfits
        simp only [Option.map_eq_some_iff, Prod.mk.injEq] at hs
        obtain ⟨env, hp, rfl, rfl, rfl⟩ := hs
        refine ⟨retV rs, fun hh => updAll hh post.reverse, hp, rfl, fun _ => ⟨post.reverse, rfl, rfl⟩, fun hx => (by simp at hx), fun S' env' ha hp' => ?_⟩
        unfold stepA
        rw [wantedA_local ha.1, hw]
        simp only [hhc]
        rw [callOf_local ha.1, hco]
        have hf2 : Fits S'.heap pre := fun p hp => by
          rw [ha.2.2 rfl p.1 (List.mem_map_of_mem hp)]
          exact hfits p hp
        simp only [hp', Option.map_some]
        rw [if_pos hf2]
      · cases hs
    · rename_i pre h0 rs post h1 hhc
      split at hs
      · rename_i g args hco
        split at hs
        case isFalse => cases hs
        rename_i hfits
        simp only [Option.map_eq_some_iff, Prod.mk.injEq] at hs
        obtain ⟨env, hp, rfl, rfl, rfl⟩ := hs
        refine ⟨retV rs, fun hh => updAll hh (entries post h1), hp, rfl, fun _ => ⟨entries post h1, rfl, (entries_keys post h1).symm⟩, fun hx => (by simp at hx), fun S' env' ha hp' => ?_⟩
        unfold stepA
        rw [wantedA_local ha.1, hw]
        simp only [hhc]
        rw [callOf_local ha.1, hco]
        have hf2 : ∀ k ∈ pre, S'.heap k = h0 k := fun k hk => by
          rw [ha.2.2 rfl k hk]
          exact hfits k hk
        simp only [hp', Option.map_some]
        rw [if_pos hf2]
      · cases hs
    · rename_i hhc
      split at hs
      · rename_i out hc
        simp only [Option.map_eq_some_iff, Prod.mk.injEq] at hs
        obtain ⟨env, hp, rfl, rfl, rfl⟩ := hs
        refine ⟨out.val, fun hh => updAll hh out.wr, hp, rfl, fun _ => ⟨out.wr, rfl, rfl⟩, fun hx => (by simp at hx), fun S' env' ha hp' => ?_⟩
        unfold stepA
        rw [wantedA_local ha.1, hw]
        simp only [hhc]
        have hc' : core P cfg i o (opd S'.env) S'.heap = some out := by
          rw [core_congr (opd_local ha.1)]
          exact core_local hc (ha.2.2 rfl)
        simp only [hc', hp', Option.map_some]
      · cases hs
  · rename_i hw
    simp only [Option.map_eq_some_iff, Prod.mk.injEq] at hs
    obtain ⟨env, hp, rfl, rfl, rfl⟩ := hs
    refine ⟨.tup [], fun hh => updAll hh [], hp, rfl, fun _ => ⟨[], rfl, rfl⟩, fun hx => (by simp at hx), fun S' env' ha hp' => ?_⟩
    unfold stepA
    rw [wantedA_local ha.1, hw]
    simp only [hp', Option.map_some, updAll]
  · cases hs

/-- Do two steps touch unlike keys? -/
def Foot.apart (x y : Foot) : Bool :=
  if x.all then !y.all && y.wr.isEmpty && y.rd.all (fun k => !x.wr.contains k)
  else if y.all then x.wr.isEmpty && x.rd.all (fun k => !y.wr.contains k)
  else x.wr.all (fun k => !y.rd.contains k && !y.wr.contains k) && y.wr.all (fun k => !x.rd.contains k)

theorem stepA_swap {i j : Nat} {oi oj : Oper} {S S1 S2 : St} {obi obj : List Obl} {fi fj : Foot} (hap : oi.apart ops oj = true) (hf : fi.apart fj = true) (hi : stepA P cfg N ops i oi S = some (S1, obi, fi))
    (hj : stepA P cfg N ops j oj S1 = some (S2, obj, fj)) : ∃ S1', stepA P cfg N ops j oj S = some (S1', obj, fj) ∧ stepA P cfg N ops i oi S1' = some (S2, obi, fi) := by
  obtain ⟨g1, g2, g3⟩ := Oper.apart_spec hap
  obtain ⟨vi, ai, hpi, hhi, hwi, hAi, hli⟩ := stepA_local hi
  obtain ⟨vj, aj, hpj, hhj, hwj, hAj, hlj⟩ := stepA_local hj
  obtain ⟨e1', hq1, hq2⟩ := putA_comm g2 hpi hpj
  have hnw : ∀ {f : Foot} {a : Heap → Heap}, (f.all = false → ∃ wr, a = (fun hh => updAll hh wr) ∧ f.wr = wr.map (·.1)) → f.all = false → f.wr = [] → ∀ hh, a hh = hh := by
    intro f a hw hall hnil hh
    obtain ⟨wr, rfl, hk⟩ := hw hall
    rw [hnil] at hk
    have : wr = [] := List.map_eq_nil_iff.1 hk.symm
    rw [this]; rfl
  have hne : ∀ {f : Foot} {a : Heap → Heap}, (f.all = false → ∃ wr, a = (fun hh => updAll hh wr) ∧ f.wr = wr.map (·.1)) → f.all = false → ∀ hh k, k ∉ f.wr → a hh k = hh k := by
    intro f a hw hall hh k hk
    obtain ⟨wr, rfl, hkk⟩ := hw hall
    exact updAll_ne wr _ (by rw [← hkk]; exact hk)
  have agj : Agree ops oj fj S1 S := by
    refine ⟨fun t ht => (putA_ne hpi (fun e => g1 t e ht)).symm, fun hall => ?_, fun hall k hk => ?_⟩
    · rw [hhi]
      cases hia : fi.all with
      | true => simp [Foot.apart, hia, hall] at hf
      | false =>
        simp [Foot.apart, hia, hall] at hf
        exact (hnw hwi hia hf.1 _).symm
    · rw [hhi]
      cases hia : fi.all with
      | true =>
        simp [Foot.apart, hia, hall] at hf
        exact ((hAi hia).2 k (hf.2 k hk)).symm
      | false =>
        simp [Foot.apart, hia, hall] at hf
        exact (hne hwi hia _ k (fun hx => (hf.1 k hx).1 hk)).symm
  have h1 := hlj S e1' agj hq1
  refine ⟨_, h1, ?_⟩
  have agi : Agree ops oi fi S ⟨e1', aj S.heap⟩ := by
    refine ⟨fun t ht => putA_ne hq1 (fun e => g3 t e ht), fun hall => ?_, fun hall k hk => ?_⟩
    · simp [Foot.apart, hall] at hf
      exact hnw hwj hf.1.1 hf.1.2 _
    · cases hja : fj.all with
      | true =>
        simp [Foot.apart, hall, hja] at hf
        obtain ⟨⟨h', rfl⟩, hkeep⟩ := hAj hja
        have hs1 : S1.heap = S.heap := by rw [hhi]; exact hnw hwi hall hf.1 _
        have := hkeep k (hf.2 k hk)
        rw [hs1] at this
        exact this
      | false =>
        simp [Foot.apart, hall, hja] at hf
        exact hne hwj hja _ k (fun hx => hf.2 k hx hk)
  have h2 := hli _ S2.env agi hq2
  rw [h2]
  have : ai (aj S.heap) = S2.heap := by
    rw [hhj, hhi]
    cases hia : fi.all with
    | true =>
      simp [Foot.apart, hia] at hf
      rw [hnw hwj hf.1.1 hf.1.2, hnw hwj hf.1.1 hf.1.2]
    | false =>
      cases hja : fj.all with
      | true =>
        simp [Foot.apart, hia, hja] at hf
        rw [hnw hwi hia hf.1, hnw hwi hia hf.1]
      | false =>
        simp [Foot.apart, hia, hja] at hf
        obtain ⟨wi, rfl, hki⟩ := hwi hia
        obtain ⟨wj, rfl, hkj⟩ := hwj hja
        exact updAll_comm _ (fun k hk hx => (hf.1 k (by rw [hki]; exact hx)).2 (by rw [hkj]; exact hk))
  rw [this]

/-- In whatever order the steps that are left are drawn, they end in one state. -/
def anyA (P : Program) (cfg : Cfg) (N : Nat) (ops : Array Oper) (F : Nat → Foot) : Nat → Array Bool → St → St → Prop
  | 0, listed, S, Sf => Region.ready .any ops listed = [] ∧ S = Sf
  | fuel + 1, listed, S, Sf => (Region.ready .any ops listed = [] → S = Sf) ∧
    ∀ i ∈ Region.ready .any ops listed, ∃ o S1 ob, ops[i]? = some o ∧ stepA P cfg N ops i o S = some (S1, ob, F i) ∧ Obls P ob ∧ anyA P cfg N ops F fuel (listed.setIfInBounds i true) S1 Sf

def freeF (ops : Array Oper) (F : Nat → Foot) (listed : Array Bool) (i : Nat) : Bool :=
  match ops[i]? with
  | none => false
  | some oi => (List.range ops.size).all fun j => j == i || listed.getD j true || match ops[j]? with
      | some oj => oj.after.any (fun e => Region.binds .any e && e.on == i) || (oi.apart ops oj && (F i).apart (F j))
      | none => true

theorem freeF_spec {F : Nat → Foot} {i : Nat} {oi : Oper} {listed : Array Bool} (hi : ops[i]? = some oi) (h : freeF ops F listed i = true) (j : Nat) (oj : Oper)
    (hj : ops[j]? = some oj) (hne : j ≠ i) (hun : listed.getD j true = false) (hno : ∀ e ∈ oj.after, Region.binds .any e = true → e.on ≠ i) :
    oi.apart ops oj = true ∧ (F i).apart (F j) = true := by
  simp only [freeF, hi, List.all_eq_true, List.mem_range] at h
  have h1 := h j (Array.getElem?_eq_some_iff.1 hj).1
  simp only [hj, Bool.or_eq_true, beq_iff_eq, hne, false_or, hun, Bool.false_eq_true] at h1
  rcases h1 with h1 | h1
  · obtain ⟨e, he, hb⟩ := Array.any_eq_true'.1 h1
    simp only [Bool.and_eq_true, beq_iff_eq] at hb
    exact absurd hb.2 (hno e he hb.1)
  · simpa using h1

/-- What cannot be drawn before i is: it waits for i, or for what waits for i. -/
def waitA (ops : Array Oper) (listed : Array Bool) (i : Nat) : Nat → Nat → Array Bool → Array Bool
  | 0, _, bl => bl
  | fuel + 1, k, bl => waitA ops listed i fuel (k + 1) (bl.push (match ops[k]? with
      | some ok => !(k == i) && (!(listed.getD k true) && ok.after.any fun e => Region.binds .any e && (e.on == i || bl.getD e.on false))
      | none => false))
def waits (ops : Array Oper) (listed : Array Bool) (i : Nat) (bl : Array Bool) (j : Nat) (oj : Oper) : Bool :=
  !(j == i) && (!(listed.getD j true) && oj.after.any fun e => Region.binds .any e && (e.on == i || (decide (e.on < ops.size) && bl.getD e.on false)))
def freeB (ops : Array Oper) (F : Nat → Foot) (listed : Array Bool) (i : Nat) (bl : Array Bool) : Bool :=
  match ops[i]? with
  | none => false
  | some oi => (List.range ops.size).all fun j => match ops[j]? with
      | some oj => match bl.getD j false with
        | true => waits ops listed i bl j oj
        | false => j == i || listed.getD j true || (oi.apart ops oj && (F i).apart (F j))
      | none => true
/-- Who may be drawn before i is apart from i. -/
def Free (ops : Array Oper) (F : Nat → Foot) (oi : Oper) (i : Nat) (listed : Array Bool) : Prop :=
  ∃ B : Nat → Bool, (∀ j oj, ops[j]? = some oj → B j = true → j ≠ i ∧ listed.getD j true = false ∧ ∃ e ∈ oj.after, Region.binds .any e = true ∧ (e.on = i ∨ ((∃ ok, ops[e.on]? = some ok) ∧ B e.on = true))) ∧
    ∀ j oj, ops[j]? = some oj → j ≠ i → listed.getD j true = false → B j = false → (∀ e ∈ oj.after, Region.binds .any e = true → e.on ≠ i) → oi.apart ops oj = true ∧ (F i).apart (F j) = true
theorem freeF_free {F : Nat → Foot} {i : Nat} {oi : Oper} {listed : Array Bool} (hi : ops[i]? = some oi) (h : freeF ops F listed i = true) : Free ops F oi i listed :=
  ⟨fun _ => false, fun _ _ _ h => (by cases h), fun j oj h1 h2 h3 _ h4 => freeF_spec hi h j oj h1 h2 h3 h4⟩
theorem freeB_free {F : Nat → Foot} {i : Nat} {oi : Oper} {listed : Array Bool} {bl : Array Bool} (hi : ops[i]? = some oi) (h : freeB ops F listed i bl = true) : Free ops F oi i listed := by
  simp only [freeB, hi, List.all_eq_true, List.mem_range] at h
  refine ⟨fun j => bl.getD j false, fun j oj hj hb => ?_, fun j oj hj hne hun hb _ => ?_⟩
  · have hb : bl.getD j false = true := hb
    have h1 := h j (Array.getElem?_eq_some_iff.1 hj).1
    rw [hj] at h1
    simp only [hb] at h1
    unfold waits at h1
    simp only [Bool.and_eq_true, Bool.not_eq_true', beq_eq_false_iff_ne, ne_eq] at h1
    obtain ⟨h2, h3, h4⟩ := h1
    obtain ⟨e, he, hb2⟩ := Array.any_eq_true'.1 h4
    simp only [Bool.and_eq_true, Bool.or_eq_true, beq_iff_eq, decide_eq_true_eq] at hb2
    refine ⟨h2, h3, e, he, hb2.1, ?_⟩
    rcases hb2.2 with h5 | h5
    · exact .inl h5
    · exact .inr ⟨⟨ops[e.on]'h5.1, Array.getElem?_eq_getElem h5.1⟩, h5.2⟩
  · have hb : bl.getD j false = false := hb
    have h1 := h j (Array.getElem?_eq_some_iff.1 hj).1
    rw [hj] at h1
    simp only [hb, Bool.or_eq_true, beq_iff_eq, hne, false_or, hun, Bool.false_eq_true, Bool.and_eq_true] at h1
    exact h1
theorem anyA_first {F : Nat → Foot} {i : Nat} {oi : Oper} (hi : ops[i]? = some oi) {ob : List Obl} (hob : Obls P ob) :
    ∀ (fuel : Nat) (listed : Array Bool) (S S1 Sf : St), Free ops F oi i listed →
      i ∈ Region.ready .any ops listed → stepA P cfg N ops i oi S = some (S1, ob, F i) →
      anyA P cfg N ops F fuel (listed.setIfInBounds i true) S1 Sf → anyA P cfg N ops F (fuel + 1) listed S Sf := by
  intro fuel
  induction fuel with
  | zero =>
    intro listed S S1 Sf _ hr hy H
    refine ⟨fun h => (by rw [h] at hr; cases hr), fun j hj => ?_⟩
    by_cases hji : j = i
    · subst hji; exact ⟨oi, S1, ob, hi, hy, hob, H⟩
    · have := ready_mono hj hji
      rw [H.1] at this
      cases this
  | succ fuel ih =>
    intro listed S S1 Sf hfree hr hy H
    refine ⟨fun h => (by rw [h] at hr; cases hr), fun j hj => ?_⟩
    by_cases hji : j = i
    · subst hji; exact ⟨oi, S1, ob, hi, hy, hob, H⟩
    · obtain ⟨oj', S2, obj, hoj', hstj, hobj, H2⟩ := H.2 j (ready_mono hj hji)
      obtain ⟨hjun, oj, hoj, hall⟩ := mem_ready.1 hj
      have heq : oj' = oj := by rw [hoj] at hoj'; exact (Option.some.inj hoj').symm
      subst heq
      have hlisted : ∀ t, listed.getD t true = false → ∀ e ∈ oj'.after, Region.binds .any e = true → e.on ≠ t := fun t h0 e he hb heq => by
        have h1 := hall e he hb
        rw [heq] at h1
        rcases Nat.lt_or_ge t listed.size with h' | h'
        · simp [h'] at h0 h1; rw [h0] at h1; cases h1
        · simp [Array.getElem?_eq_none h'] at h1
      have hnot := hlisted i (mem_ready.1 hr).1
      obtain ⟨B, hB1, hB2⟩ := hfree
      have hBj : B j = false := by
        cases hb : B j with
        | false => rfl
        | true =>
          obtain ⟨_, _, e, he, h1, h2⟩ := hB1 j oj' hoj hb
          rcases h2 with h2 | ⟨⟨ok, hok⟩, h2⟩
          · exact absurd h2 (hnot e he h1)
          · exact absurd rfl (hlisted e.on (hB1 e.on ok hok h2).2.1 e he h1)
      obtain ⟨a1, a2⟩ := hB2 j oj' hoj hji hjun hBj hnot
      obtain ⟨S1', k1, k2⟩ := stepA_swap a1 a2 hy hstj
      have hun' : ∀ k, (listed.setIfInBounds j true).getD k true = false → listed.getD k true = false := fun k hun => by
        by_cases hjk : j = k
        · subst hjk; exact hjun
        · rw [getD_set_ne true hjk] at hun; exact hun
      have hfree' : Free ops F oi i (listed.setIfInBounds j true) := ⟨B, fun k ok hk hb => by
        obtain ⟨g1, g2, g3⟩ := hB1 k ok hk hb
        have hjk : j ≠ k := fun e => by rw [e, hb] at hBj; cases hBj
        exact ⟨g1, by rw [getD_set_ne true hjk]; exact g2, g3⟩, fun k ok hk hki hun hb hno => hB2 k ok hk hki (hun' k hun) hb hno⟩
      refine ⟨oj', S1', obj, hoj, k1, hobj, ih (listed.setIfInBounds j true) S1' S2 Sf hfree' (ready_mono hr (Ne.symm hji)) k2 ?_⟩
      rw [Array.setIfInBounds_comm _ _ hji]
      exact H2

def lexF (ops : Array Oper) (F : Nat → Foot) : Nat → Nat → Array Bool → Bool
  | 0, _, listed => (Region.ready .any ops listed).isEmpty
  | fuel + 1, k, listed => (Region.ready .any ops listed).contains k && (freeF ops F listed k || freeB ops F listed k (waitA ops listed k ops.size 0 #[])) && lexF ops F fuel (k + 1) (listed.setIfInBounds k true)
def lexOk (ops : Array Oper) (fts : List Foot) : Bool := lexF ops (fun i => (fts[i]?).getD ⟨0, [], [], false⟩) ops.size 0 (Array.replicate ops.size false)

theorem anyA_lex {F : Nat → Foot} : ∀ (n k : Nat) (listed : Array Bool) (S Sf : St) (ob : List Obl) (fts : List Foot), runA P cfg N ops (List.range' k n) S = some (Sf, ob, fts) → Obls P ob →
    (∀ j f, fts[j]? = some f → F (k + j) = f) → lexF ops F n k listed = true → anyA P cfg N ops F n listed S Sf
  | 0, k, listed, S, Sf, ob, fts, hr, _, _, hl => by
    simp only [List.range'_zero, runA, Option.some.injEq, Prod.mk.injEq] at hr
    exact ⟨by simpa [lexF] using hl, hr.1⟩
  | n + 1, k, listed, S, Sf, ob, fts, hr, hob, hF, hl => by
    rw [List.range'_succ] at hr
    simp only [runA] at hr
    split at hr
    · cases hr
    · rename_i o ho
      split at hr
      · cases hr
      · rename_i st hst
        split at hr
        · cases hr
        · rename_i rs hrs
          simp only [Option.some.injEq, Prod.mk.injEq] at hr
          obtain ⟨rfl, rfl, rfl⟩ := hr
          obtain ⟨S1, ob1, ft1⟩ := st
          obtain ⟨S2, ob2, ft2⟩ := rs
          simp only [lexF, Bool.and_eq_true] at hl
          obtain ⟨⟨h1, h2⟩, h3⟩ := hl
          have hft : F k = ft1 := by simpa using hF 0 ft1 (by simp)
          refine anyA_first ho (fun c hc => hob c (List.mem_append_left _ hc)) n listed S S1 S2 ((Bool.or_eq_true _ _ ▸ h2).elim (freeF_free ho) (freeB_free ho)) (by simpa using h1) (by rw [hft]; exact hst)
            (anyA_lex n (k + 1) _ S1 S2 ob2 ft2 hrs (fun c hc => hob c (List.mem_append_right _ hc)) (fun j f hj => ?_) h3)
          have := hF (j + 1) f (by simpa using hj)
          rw [← this]; congr 1; omega

variable {G : Gh} {B : Nat} {w0 w : World} {I0 : Nat → Nat → Prop}

theorem wpAny_of_anyA {D : List Deferred} (hx : ExtAll P) (r : Option Nat) (n : Nat) {F : Nat → Foot} {Q : Exit → Act → World → Prop} {Sf : St} : ∀ (fuel : Nat) (listed : Array Bool) (G : Gh) (w : World) (S : St) (a : Act), HR G B w0 I0 S.heap w → FR G w N D S.env a → anyA P cfg N ops F fuel listed S Sf →
    (∀ a' w' G', Ext G w G' w' → HR G' B w0 I0 Sf.heap w' → FR G' w' N D Sf.env a' → Q .normal a' w') → wpAnyIn (FF r) n P .any ops Q fuel listed a w
  | 0, listed, G, w, S, a, hr, hf, h, hq => by
    obtain ⟨h1, rfl⟩ := h
    exact ⟨h1, hq a w G (Ext.refl G w) hr hf⟩
  | fuel + 1, listed, G, w, S, a, hr, hf, h, hq => by
    refine ⟨fun hn => ?_, fun i hi => ?_⟩
    · have := h.1 hn
      subst this
      exact hq a w G (Ext.refl G w) hr hf
    · obtain ⟨o, S1, ob, ho, hst, hob, h2⟩ := h.2 i hi
      unfold wpOpIn
      simp only [ho]
      exact stepA_sound hx hr hf hst hob r n (fun a' w' G' e1 h3 h4 => wpAny_of_anyA hx r n fuel _ G' w' S1 a' h3 h4 h2 (fun a2 w2 G2 g1 g2 g3 => hq a2 w2 G2 (e1.trans g1) g2 g3))

/-- A region that draws its order. -/
theorem region_any_sound {D : List Deferred} (hm : OkP P) (r : Option Nat) (n : Nat) {id : Nat} {S Sf : St} {a : Act} {ob : List Obl} {fts : List Foot} {Q : Exit → Act → World → Prop} (hr : HR G B w0 I0 S.heap w) (hf : FR G w N D S.env a)
    (hrun : runA P cfg N ops (List.range ops.size) S = some (Sf, ob, fts)) (hl : lexOk ops fts = true) (hob : Obls P ob)
    (hq : ∀ a' w' G', Ext G w G' w' → HR G' B w0 I0 Sf.heap w' → FR G' w' N D Sf.env a' → Q .normal a' w') : (Code.region id ops true).wpIn (FF r) n P Q a w := by
  refine wpIn_region_any hm.mixed ?_
  rw [List.range_eq_range'] at hrun
  have hany := anyA_lex ops.size 0 (Array.replicate ops.size false) S Sf ob fts hrun hob (fun j f hj => by simp [hj]) hl
  exact wpAny_of_anyA hm.ext r n ops.size _ G w.drew S a hr.drew (hf.mono (Ext.drew G w)) hany (fun a' w' G' e1 h1 h2 => hq a' w' G' ((Ext.drew G w).trans e1) h1 h2)
end
end Go.Avm
