/-
  The abstract machine, part M: regions that draw their order. What an operation does hangs on its operands and on the keys that it reads; so steps that touch unlike things change places.
-/
import Derived.Test.YtkhcaamgjjhpeaaGreatDoorAvmL
set_option linter.unusedSectionVars false
namespace Go.Avm
open Go.RowKit
variable [GlobTab]

section
variable {P : Program} {h h' : Heap}

theorem viewL_local {f g : AV → Option (D × List Nat)} : ∀ {l : List AV} {r : List D × List Nat}, viewL f l = some r → (∀ x y, f x = some y → (∀ k ∈ y.2, h' k = h k) → g x = some y) → (∀ k ∈ r.2, h' k = h k) → viewL g l = some r
  | [], r, he, _, _ => by simpa [viewL] using he
  | x :: l, r, he, hf, hk => by
    simp only [viewL] at he ⊢
    split at he
    · rename_i a b ha hb
      simp only [Option.some.injEq] at he
      subst he
      have h1 := hf x a ha (fun k hk' => hk k (List.mem_append_left _ hk'))
      have h2 := viewL_local (g := g) hb hf (fun k hk' => hk k (List.mem_append_right _ hk'))
      simp only [h1, h2]
    · cases he
theorem view_local : ∀ (n : Nat) (x : AV) (r : D × List Nat), view n h x = some r → (∀ k ∈ r.2, h' k = h k) → view n h' x = some r
  | 0, x, r, he, _ => by simp [view] at he
  | n + 1, x, r, he, hk => by
    have ih := view_local n
    have go : ∀ {l : List AV} {q : List D × List Nat}, viewL (view n h) l = some q → (∀ k ∈ q.2, h' k = h k) → viewL (view n h') l = some q := fun hq hk => viewL_local hq (fun x y hx hy => ih x y hx hy) hk
    cases x with
    | sl k v off len sz0 =>
      simp only [view] at he ⊢
      split at he
      · rename_i sz es ho
        split at he
        · rename_i hc
          simp only [Option.map_eq_some_iff] at he
          obtain ⟨q, hq, rfl⟩ := he
          have hkk : h' k = h k := hk k (by simp)
          have := go hq (fun k hk' => hk k (by simp [hk']))
          simp [hkk, ho, hc, this]
        · cases he
      · cases he
    | ptr k v i off sz0 =>
      simp only [view] at he ⊢
      split at he
      · rename_i sz es ho
        split at he
        · rename_i hc
          simp only [Option.map_eq_some_iff] at he
          obtain ⟨q, hq, rfl⟩ := he
          have hkk : h' k = h k := hk k (by simp)
          have := go hq (fun k hk' => hk k (by simp [hk']))
          simp [hkk, ho, hc, this]
        · cases he
      · cases he
    | agg cs =>
      simp only [view, Option.map_eq_some_iff] at he ⊢
      obtain ⟨q, hq, rfl⟩ := he
      exact ⟨q, go hq hk, rfl⟩
    | d y => simp only [view] at he ⊢; exact he
    | nils => simp only [view] at he ⊢; exact he
    | es => simp only [view] at he ⊢; exact he
    | vec a b c l => simp only [view] at he ⊢; exact he
    | _ => simp [view] at he
theorem go_local {n : Nat} {l : List AV} {q : List D × List Nat} (he : view.go n h l = some q) (hk : ∀ k ∈ q.2, h' k = h k) : view.go n h' l = some q :=
  viewL_local he (fun x y hx hy => view_local n x y hx hy) hk
theorem kill_local {ks : List Nat} (hk : ∀ k ∈ ks, h' k = h k) : kill h' ks = kill h ks := by
  unfold kill
  exact List.map_congr_left fun k hk' => by rw [hk k hk']

theorem cellsAt_local {a : AV} {n : Nat} {r : List AV × List Nat} (he : cellsAt h a n = some r) (hk : ∀ k ∈ r.2, h' k = h k) : cellsAt h' a n = some r := by
  unfold cellsAt at he ⊢
  cases a with
  | ptr k v i off sz0 =>
    simp only at he ⊢
    split at he
    · rename_i sz es ho
      have hkk : h' k = h k := by
        split at he
        · split at he
          · split at he
            · simp only [Option.some.injEq] at he; subst he; exact hk k (by simp)
            · cases he
          · split at he
            · split at he
              · simp only [Option.some.injEq] at he; subst he; exact hk k (by simp)
              · cases he
            · cases he
        · cases he
      rw [hkk, ho]; exact he
    · cases he
  | d y => cases y <;> first | exact he | (rename_i l; cases l <;> exact he)
  | _ => exact he

theorem opLoad_local {t : TypeId} {a : AV} {out : Out} (he : opLoad P t a h = some out) (hk : ∀ k ∈ out.rd, h' k = h k) : opLoad P t a h' = some out := by
  unfold opLoad at he ⊢
  split at he
  · rename_i ht
    simp only [Option.map_eq_some_iff] at he ⊢
    obtain ⟨r, hr, rfl⟩ := he
    exact ⟨r, cellsAt_local hr hk, rfl⟩
  · rename_i ht
    cases a with
    | ptr k v i off sz0 =>
      simp only at he ⊢
      split at he
      · rename_i sz es ho
        have hkk : h' k = h k := by
          split at he
          · split at he
            · split at he
              · simp only [Option.map_eq_some_iff] at he; obtain ⟨x, _, rfl⟩ := he; exact hk k (by simp)
              · cases he
            · split at he
              · simp only [Option.map_eq_some_iff] at he; obtain ⟨x, _, rfl⟩ := he; exact hk k (by simp)
              · cases he
          · cases he
        rw [hkk, ho]; exact he
      · cases he
    | d y => cases y <;> first | exact he | (rename_i l; cases l <;> exact he)
    | _ => exact he
  · cases he

/-- An operation that reads one key and no other. -/
theorem one_local {f : Heap → Option Out} {k : Nat} {out : Out} (hf : ∀ h h' : Heap, h' k = h k → f h' = f h) (hr : k ∈ out.rd) (he : f h = some out) (hk : ∀ k ∈ out.rd, h' k = h k) : f h' = some out := by
  rw [hf h h' (hk k hr)]; exact he

theorem opStore_local {t : TypeId} {a x : AV} {out : Out} (he : opStore P t a x h = some out) (hk : ∀ k ∈ out.rd, h' k = h k) : opStore P t a x h' = some out := by
  have he0 := he
  unfold opStore at he
  cases a with
  | ptr k v i off sz0 =>
    have hrd : k ∈ out.rd := by
      simp only at he
      repeat' split at he
      all_goals first | (cases he; done) | (simp only [Option.some.injEq] at he; subst he; simp)
    refine one_local (f := fun h => opStore P t (.ptr k v i off sz0) x h) (k := k) (fun h h' e => ?_) hrd he0 hk
    simp only [opStore, e]
  | _ => simp at he

theorem opAlloc_local {t : TypeId} {k : Nat} {out : Out} (he : opAlloc P t k h = some out) (hk : ∀ k ∈ out.rd, h' k = h k) : opAlloc P t k h' = some out := by
  have hrd : k ∈ out.rd := by
    unfold opAlloc at he; split at he
    · simp only [Option.some.injEq] at he; subst he; simp
    · cases he
  exact one_local (f := fun h => opAlloc P t k h) (fun h h' e => by simp only [opAlloc, newOb, e]) hrd he hk
theorem opBox_local {x : AV} {k : Nat} {out : Out} (he : opBox x k h = some out) (hk : ∀ k ∈ out.rd, h' k = h k) : opBox x k h' = some out := by
  have hrd : k ∈ out.rd := by
    unfold opBox at he; split at he
    · simp only [Option.some.injEq] at he; subst he; simp
    · cases he
  exact one_local (f := fun h => opBox x k h) (fun h h' e => by simp only [opBox, newOb, e]) hrd he hk
theorem opMakeSlice_local {t : TypeId} {l c : AV} {k : Nat} {out : Out} (he : opMakeSlice P t l c k h = some out) (hk : ∀ k ∈ out.rd, h' k = h k) : opMakeSlice P t l c k h' = some out := by
  have hrd : k ∈ out.rd := by
    unfold opMakeSlice at he
    split at he
    · split at he
      · split at he
        · simp only [Option.some.injEq] at he; subst he; simp
        · cases he
      · cases he
    · cases he
  exact one_local (f := fun h => opMakeSlice P t l c k h) (fun h h' e => by simp only [opMakeSlice, newOb, e]) hrd he hk
theorem opMakeMap_local {k : Nat} {out : Out} (he : opMakeMap k h = some out) (hk : ∀ k ∈ out.rd, h' k = h k) : opMakeMap k h' = some out := by
  have hrd : k ∈ out.rd := by
    simp only [opMakeMap, Option.some.injEq] at he; subst he; simp
  exact one_local (f := fun h => opMakeMap k h) (fun h h' e => by simp only [opMakeMap, e]) hrd he hk
theorem opMapUpdate_local {t : TypeId} {m key x : AV} {out : Out} (he : opMapUpdate P t m key x h = some out) (hk : ∀ k ∈ out.rd, h' k = h k) : opMapUpdate P t m key x h' = some out := by
  have he0 := he
  unfold opMapUpdate at he
  split at he
  case h_2 => cases he
  rename_i kt et k v kd xd hu
  have hrd : k ∈ out.rd := by
    repeat' split at he
    all_goals first | (cases he; done) | (simp only [Option.some.injEq] at he; subst he; simp)
  exact one_local (f := fun h => opMapUpdate P t (.mp k v) (.d kd) (.d xd) h) (k := k) (fun h h' e => by simp only [opMapUpdate, hu, e]) hrd he0 hk
theorem opLookup_local {t : TypeId} {m key : AV} {ok : Bool} {out : Out} (he : opLookup P t m key ok h = some out) (hk : ∀ k ∈ out.rd, h' k = h k) : opLookup P t m key ok h' = some out := by
  have he0 := he
  unfold opLookup at he
  split at he
  case h_2 => cases he
  rename_i kt et k v kd hu
  have hrd : k ∈ out.rd := by
    repeat' split at he
    all_goals first | (cases he; done) | (simp only [Option.some.injEq] at he; subst he; simp)
  exact one_local (f := fun h => opLookup P t (.mp k v) (.d kd) ok h) (k := k) (fun h h' e => by simp only [opLookup, hu, e]) hrd he0 hk
theorem opLenMap_local {t : TypeId} {k v : Nat} {out : Out} (he : opLenMap P t k v h = some out) (hk : ∀ k ∈ out.rd, h' k = h k) : opLenMap P t k v h' = some out := by
  have he0 := he
  have hrd : k ∈ out.rd := by
    unfold opLenMap at he
    repeat' split at he
    all_goals first | (cases he; done) | (simp only [Option.some.injEq] at he; subst he; simp)
  exact one_local (f := fun h => opLenMap P t k v h) (k := k) (fun h h' e => by simp only [opLenMap, e]) hrd he0 hk
theorem opConvSame_local {src dst : TypeId} {x : AV} {out : Out} (he : opConvSame P src dst x h = some out) (hk : ∀ k ∈ out.rd, h' k = h k) : opConvSame P src dst x h' = some out := by
  unfold opConvSame at he ⊢
  split at he
  case h_2 => cases he
  split at he
  case isFalse => cases he
  rename_i hc
  split at he
  case h_2 => cases he
  simp only [Option.some.injEq] at he
  subst he
  have hh := hk _ (List.mem_singleton.2 rfl)
  rw [if_pos (by rw [hh]; exact hc)]
  simp only [kill, List.map_cons, List.map_nil, hh]
theorem tagOf_local {k v : Nat} (hk : h' (tagK k) = h (tagK k)) : tagOf h' k v = tagOf h k v := by
  unfold tagOf; rw [hk]
theorem opConvPtr_same {src dst : TypeId} {x : AV} {out : Out} (he : opConvPtr P src dst x h = some out) : ∃ k v i off sz, x = .ptr k v i off sz := by
  unfold opConvPtr at he
  split at he
  · exact ⟨_, _, _, _, _, rfl⟩
  · exact ⟨_, _, _, _, _, rfl⟩
  · cases he
theorem opConvSame_none {src dst : TypeId} {x : AV} (he : ∃ k v i off sz, x = .ptr k v i off sz) : opConvSame P src dst x h' = none := by
  obtain ⟨k, v, i, off, sz, rfl⟩ := he
  unfold opConvSame
  split
  · rename_i hx; cases hx
  · rfl
theorem opConvPtr_local {src dst : TypeId} {x : AV} {out : Out} (he : opConvPtr P src dst x h = some out) (hk : ∀ k ∈ out.rd, h' k = h k) : opConvPtr P src dst x h' = some out := by
  unfold opConvPtr at he ⊢
  split at he
  · split at he
    · rename_i htag
      split at he
      · rename_i hc
        simp only [Option.some.injEq] at he
        subst he
        have h1 := hk _ (List.mem_cons_self ..)
        have h2 := hk _ (List.mem_cons_of_mem _ (List.mem_cons_self ..))
        rw [tagOf_local h2, htag]
        simp only [h1, if_pos hc]
      · cases he
    · cases he
  · split at he
    · rename_i htag
      split at he
      · rename_i hc
        simp only [Option.some.injEq] at he
        subst he
        have h1 := hk _ (List.mem_cons_self ..)
        have h2 := hk _ (List.mem_cons_of_mem _ (List.mem_cons_self ..))
        rw [tagOf_local h2, htag]
        simp only [h1, if_pos hc]
      · cases he
    · cases he
  · cases he
theorem opUnsafeString_local {pt : TypeId} {x n : AV} {out : Out} (he : opUnsafeString P pt x n h = some out) (hk : ∀ k ∈ out.rd, h' k = h k) : opUnsafeString P pt x n h' = some out := by
  unfold opUnsafeString at he ⊢
  split at he
  case h_2 => cases he
  split at he
  case h_2 => cases he
  rename_i htag hb
  split at he
  case isFalse => cases he
  rename_i hc
  simp only [Option.some.injEq] at he
  subst he
  have h1 := hk _ (List.mem_cons_self ..)
  have h2 := hk _ (List.mem_cons_of_mem _ (List.mem_cons_self ..))
  rw [tagOf_local h2, htag, hb]
  simp only [h1, if_pos hc, kill, List.map_cons, List.map_nil]
theorem withTag_rd {typ : Bool} {T : TypeId} {n : Option Nat} {k v : Nat} {o1 : Out} : ∀ j ∈ o1.rd, j ∈ (withTag typ T n k v h o1).rd := by
  intro j hj
  unfold withTag
  split
  · exact List.mem_cons_of_mem _ hj
  · exact hj
theorem withTag_local {typ : Bool} {T : TypeId} {n : Option Nat} {k v : Nat} {o1 : Out} (hk : ∀ j ∈ (withTag typ T n k v h o1).rd, h' j = h j) : withTag typ T n k v h' o1 = withTag typ T n k v h o1 := by
  unfold withTag at hk ⊢
  split
  · rename_i hc
    rw [if_pos hc] at hk
    rw [hk _ (List.mem_cons_self ..)]
  · rfl
theorem opAllocT_local {typ : Bool} {T t : TypeId} {n : Option Nat} {k : Nat} {out : Out} (he : (opAlloc P t k h).map (withTag typ T n k ((h k).ver + 1) h) = some out) (hk : ∀ k ∈ out.rd, h' k = h k) : (opAlloc P t k h').map (withTag typ T n k ((h' k).ver + 1) h') = some out := by
  rw [Option.map_eq_some_iff] at he ⊢
  obtain ⟨o1, ho, rfl⟩ := he
  have hrd : k ∈ o1.rd := by
    unfold opAlloc at ho; split at ho
    · simp only [Option.some.injEq] at ho; subst ho; simp
    · cases ho
  refine ⟨o1, opAlloc_local ho (fun j hj => hk j (withTag_rd j hj)), ?_⟩
  rw [hk k (withTag_rd k hrd)]
  exact withTag_local hk
theorem opBoxT_local {typ : Bool} {T : TypeId} {n : Option Nat} {x : AV} {k : Nat} {out : Out} (he : (opBox x k h).map (withTag typ T n k ((h k).ver + 1) h) = some out) (hk : ∀ k ∈ out.rd, h' k = h k) : (opBox x k h').map (withTag typ T n k ((h' k).ver + 1) h') = some out := by
  rw [Option.map_eq_some_iff] at he ⊢
  obtain ⟨o1, ho, rfl⟩ := he
  have hrd : k ∈ o1.rd := by
    unfold opBox at ho; split at ho
    · simp only [Option.some.injEq] at ho; subst ho; simp
    · cases ho
  refine ⟨o1, opBox_local ho (fun j hj => hk j (withTag_rd j hj)), ?_⟩
  rw [hk k (withTag_rd k hrd)]
  exact withTag_local hk
theorem opConv_local {src dst : TypeId} {x : AV} {out : Out} (he : opConv P src dst x h = some out) (hk : ∀ k ∈ out.rd, h' k = h k) : opConv P src dst x h' = some out := by
  unfold opConv at he ⊢
  split at he
  · exact he
  split at he
  · exact he
  split at he
  · exact he
  split at he
  · rename_i o1 ho1
    simp only [Option.some.injEq] at he
    subst he
    rw [opConvSame_local ho1 hk]
  · rename_i hn
    have hp := opConvPtr_same he
    rw [show opConvSame P src dst x h' = none from opConvSame_none hp, opConvPtr_local he hk]
theorem opIndexAddr_local {t : TypeId} {x ix : AV} {out : Out} (he : opIndexAddr P t x ix h = some out) : opIndexAddr P t x ix h' = some out := he
theorem opFieldAddr_local {t : TypeId} {x : AV} {f : Nat} {out : Out} (he : opFieldAddr P t x f h = some out) : opFieldAddr P t x f h' = some out := he
theorem opBuildSlice_local {obm : Bool} {t : TypeId} {len : Nat} {ps : List (Nat × AV)} {k : Nat} {out : Out} (he : opBuildSlice P obm t len ps k h = some out) (hk : ∀ k ∈ out.rd, h' k = h k) : opBuildSlice P obm t len ps k h' = some out := by
  unfold opBuildSlice at he ⊢
  split at he
  · rename_i e hu
    split at he
    · rename_i xs hxs
      split at he
      · rename_i hc
        split at he
        · split at he
          · cases he
          · rename_i hc2
            simp only [Option.some.injEq] at he
            subst he
            have hkk : h' k = h k := hk k (by simp)
            simp_all [newOb]
        · rename_i hob
          split at he
          · rename_i r hr
            split at he
            · cases he
            · rename_i hkr
              simp only [Option.some.injEq] at he
              subst he
              have hkk : h' k = h k := hk k (by simp)
              have h1 := go_local hr (fun k hk' => hk k (by simp [hk']))
              have h2 := kill_local (h := h) (h' := h') (ks := r.2) (fun k hk' => hk k (by simp [hk']))
              simp only [if_pos hc, h1, h2, hkk, if_neg hob, if_neg hkr]
          · cases he
      · cases he
    · cases he
  · cases he
theorem srcOf_local {x : AV} {r : List D × List Nat} (he : srcOf h x = some r) (hk : ∀ k ∈ r.2, h' k = h k) : srcOf h' x = some r := by
  unfold srcOf at he ⊢
  cases x with
  | sl k v off len sz0 =>
    simp only at he ⊢
    split at he
    · rename_i sz es ho
      split at he
      · rename_i hc
        simp only [Option.bind_eq_some_iff] at he
        obtain ⟨q, hq, hr⟩ := he
        split at hr
        · rename_i hn
          simp only [Option.some.injEq] at hr
          subst hr
          have hkk : h' k = h k := hk k (by simp)
          have := go_local (h' := h') hq (by rw [hn]; simp)
          simp [hkk, ho, hc, this, hn]
        · cases hr
      · cases he
    · cases he
  | d y => cases y <;> first | exact he | (rename_i l; cases l <;> exact he)
  | _ => exact he
theorem opAppend_local {obm : Bool} {t : TypeId} {s x : AV} {k : Nat} {out : Out} (he : opAppend P obm t s x k h = some out) (hk : ∀ k ∈ out.rd, h' k = h k) : opAppend P obm t s x k h' = some out := by
  unfold opAppend at he ⊢
  split at he
  · rename_i e hu
    split at he
    · rename_i news rs z hsrc hz
      split at he
      · rename_i hc
        have fin : (∀ k ∈ rs, h' k = h k) → srcOf h' x = some (news, rs) := fun hh => srcOf_local hsrc hh
        cases s with
        | nils =>
          simp only at he
          split at he
          · cases he
          · rename_i hc2
            split at he
            · rename_i ho
              split at he
              · cases he
              · rename_i hc3
                simp only [Option.some.injEq] at he
                subst he
                have hkk : h' k = h k := hk k (by simp)
                have h1 := fin (fun k hk' => hk k (by simp [hk']))
                simp only [h1, hz, if_pos hc, if_neg hc2, if_pos ho, if_neg hc3, hkk, newOb]
            · rename_i ho
              simp only [Option.some.injEq] at he
              subst he
              have hkk : h' k = h k := hk k (by simp)
              have h1 := fin (fun k hk' => hk k (by simp [hk']))
              simp only [h1, hz, if_pos hc, if_neg hc2, if_neg ho, hkk]
        | es =>
          simp only at he
          split at he
          · cases he
          · rename_i hc2
            simp only [Option.some.injEq] at he
            subst he
            have h1 := fin hk
            simp only [h1, hz, if_pos hc, if_neg hc2]
        | vec k1 v sz l =>
          simp only at he
          split at he
          · rename_i hc2
            simp only [Option.some.injEq] at he
            subst he
            have hkk : h' k1 = h k1 := hk k1 (by simp)
            have h1 := fin (fun k hk' => hk k (by simp [hk']))
            simp only [h1, hz, if_pos hc, hkk, if_pos hc2]
          · cases he
        | sl k1 v off len sz0 =>
          simp only at he
          split at he
          · rename_i sz es ho
            split at he
            · rename_i hc2
              simp only [Option.some.injEq] at he
              subst he
              have hkk : h' k1 = h k1 := hk k1 (by simp)
              have h1 := fin (fun k hk' => hk k (by simp [hk']))
              simp only [h1, hz, if_pos hc, hkk, ho, if_pos hc2]
            · cases he
          · cases he
        | _ => simp at he
      · cases he
    · cases he
  · cases he

theorem opAppendT_local {obm : Bool} {t : TypeId} {s x : AV} {k : Nat} {out : Out} (he : opAppendT P obm t s x k h = some out) (hk : ∀ k ∈ out.rd, h' k = h k) : opAppendT P obm t s x k h' = some out := by
  unfold opAppendT at he ⊢
  cases ho : opAppend P obm t s x k h with
  | none => simp [ho] at he
  | some o1 =>
    simp only [ho] at he
    obtain ⟨val, wr, rd, ob⟩ := o1
    split at he
    · rename_i e k' v' sz l hby hu hv
      simp only at hv
      subst hv
      split at he
      · rename_i hc
        simp only [Option.some.injEq] at he
        subst he
        have hk1 : ∀ j ∈ k' :: tagK k' :: rd, h' j = h j := fun j hj => hk j (withTag_rd j hj)
        rw [opAppend_local ho (fun j hj => hk1 j (by simp [hj]))]
        have h1 := hk1 k' (by simp)
        have h2 := withTag_local hk
        simp only [hu, hby]
        rw [if_pos (by rw [h1, tagOf_local (hk1 (tagK k') (by simp))]; exact hc), h2]
      · rename_i hc
        simp only [Option.some.injEq] at he
        subst he
        have hk1 : ∀ j ∈ k' :: tagK k' :: rd, h' j = h j := hk
        rw [opAppend_local ho (fun j hj => hk1 j (by simp [hj]))]
        have h1 := hk1 k' (by simp)
        simp only [hu, hby]
        rw [if_neg (by rw [h1, tagOf_local (hk1 (tagK k') (by simp))]; exact hc)]
    · rename_i hne
      simp only [Option.some.injEq] at he
      subst he
      rw [opAppend_local ho hk]
      simp only

theorem coreCall_local {cfg : Cfg} {i k : Nat} {c : Call} {ρ : Operand → AV} {out : Out} (he : coreCall P cfg i c ρ h k = some out) (hk : ∀ k ∈ out.rd, h' k = h k) : coreCall P cfg i c ρ h' k = some out := by
  unfold coreCall at he ⊢
  split at he
  · split at he
    · split at he
      · exact opLenMap_local he hk
      · exact he
    · exact he
  · exact he
  · exact he
  · split at he
    · split at he
      · rename_i ht
        rw [if_pos ht]
        exact opAppendT_local he hk
      · cases he
    · cases he
  · exact he
  · split at he
    · exact opUnsafeString_local he hk
    · cases he
  · split at he
    · split at he
      · exact he
      · exact he
      · unfold opCall at he ⊢
        split at he
        · exact he
        · split at he
          · rename_i r hr
            split at he
            · rename_i hs
              simp only [Option.some.injEq] at he
              subst he
              have := go_local hr hk
              simp only [this, if_pos hs]
            · cases he
          · cases he
    · cases he
  · cases he

theorem core_local {cfg : Cfg} {i : Nat} {o : Oper} {ρ : Operand → AV} {out : Out} (he : core P cfg i o ρ h = some out) (hk : ∀ k ∈ out.rd, h' k = h k) : core P cfg i o ρ h' = some out := by
  unfold core at he ⊢
  split at he
  all_goals first
    | exact he
    | exact opAllocT_local he hk
    | exact opBoxT_local he hk
    | exact opBuildSlice_local he hk
    | exact opLoad_local he hk
    | exact opStore_local he hk
    | exact opMakeSlice_local he hk
    | exact opMakeMap_local he hk
    | exact opConv_local he hk
    | exact opMapUpdate_local he hk
    | exact opLookup_local he hk
    | exact coreCall_local he hk

theorem core_congr {cfg : Cfg} {i : Nat} {o : Oper} {ρ ρ' : Operand → AV} (hρ : ∀ x ∈ o.op.operands, ρ' x = ρ x) : core P cfg i o ρ' h = core P cfg i o ρ h := by
  obtain ⟨dst, op, type, pos, after, guard⟩ := o
  have pairs : ∀ ps : Array (Nat × Operand), (∀ x ∈ (ps.toList.map (·.2)).toArray, ρ' x = ρ x) → (ps.toList.map fun p => (p.1, ρ' p.2)) = (ps.toList.map fun p => (p.1, ρ p.2)) := fun ps hp =>
    List.map_congr_left fun p hm => by
      obtain ⟨i, x⟩ := p
      have := hp x (by simpa using ⟨i, Array.mem_toList_iff.1 hm⟩)
      simp only [this]
  cases op <;> simp only [Op.operands] at hρ <;> simp only [core]
  case build t ps => rw [pairs ps hρ]
  case buildSlice t n ps => rw [pairs ps hρ]
  case makeFunc fn first captured =>
    cases fn with
    | func f =>
      simp only
      split
      · rw [List.map_congr_left (l := captured.toList) fun x hx => hρ x (by simp [Array.mem_toList_iff.1 hx])]
      · rfl
    | _ => rfl
  case call c =>
    have hargs : c.args.toList.map ρ' = c.args.toList.map ρ := List.map_congr_left fun x hx => hρ x (by simp [Call.operands, Array.mem_toList_iff.1 hx])
    have hmem : ∀ x, x ∈ c.args.toList → ρ' x = ρ x := fun x hx => hρ x (by simp [Call.operands, Array.mem_toList_iff.1 hx])
    unfold coreCall
    cases hc : c.callee with
    | value f =>
      have hf : ρ' f = ρ f := hρ f (by simp [Call.operands, hc])
      simp only [hf, hargs]
    | invoke r m => rfl
    | builtin b =>
      cases b <;> simp only
      all_goals first
        | rfl
        | (split
           · rename_i h1; simp only [h1, List.mem_cons, List.not_mem_nil, or_false, forall_eq_or_imp, forall_eq] at hmem; simp only [hmem]
           · rfl)
        | (split
           · rename_i h1 h2; simp only [h1, List.mem_cons, List.not_mem_nil, or_false, forall_eq_or_imp, forall_eq] at hmem; simp only [hmem]
           · rfl)
  case makeMap t r => cases r <;> rfl
  case slice t x lo hi mx => cases lo <;> cases hi <;> cases mx <;> simp_all
  all_goals (first | rfl | (simp_all; done))
end
end Go.Avm
