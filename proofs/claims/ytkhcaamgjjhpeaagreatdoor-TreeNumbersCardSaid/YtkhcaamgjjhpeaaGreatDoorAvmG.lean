/-
  The abstract machine, part G: stores, addresses, slices of slices.
-/
import Derived.Test.YtkhcaamgjjhpeaaGreatDoorAvmF
set_option linter.unusedSectionVars false
namespace Go.Avm
open Go.RowKit
variable [GlobTab]

section
variable {P : Program} {G : Gh} {B : Nat} {w0 w : World} {I0 : Nat → Nat → Prop} {h : Heap}

theorem seg_get {α : Type} (l us : List α) (p t : Nat) (hp : p + us.length ≤ l.length) :
    (l.take p ++ us ++ l.drop (p + us.length))[t]? = if t < p then l[t]? else if t < p + us.length then us[t - p]? else l[t]? := by
  by_cases h1 : t < p
  · rw [if_pos h1, List.append_assoc, List.getElem?_append_left (by simp; omega), List.getElem?_take, if_pos h1]
  · rw [if_neg h1]
    by_cases h2 : t < p + us.length
    · rw [if_pos h2, List.getElem?_append_left (by simp; omega), List.getElem?_append_right (by simp; omega)]
      congr 1; simp; omega
    · rw [if_neg h2, List.getElem?_append_right (by simp; omega), List.getElem?_drop]
      congr 1; simp; omega

theorem known_info {t : TypeId} (hk : knownT P t = true) (w : World) : (sizeOf t).run P w = .ok (P.cellsOf t) w := by
  obtain ⟨i, hi⟩ := Option.isSome_iff_exists.1 hk
  simp [sizeOf, typeInfo, hi, Program.cellsOf]

/-- A store of a value's cells at a cell of an object, whatever becomes of the object's elements. -/
theorem store_core (hr : HR G B w0 I0 h w) {t : TypeId} {k sz i off psz : Nat} {es es' : List AV} {x : AV} {va vx : Value} (ha : Rep G w (.ptr k (h k).ver i off psz) va) (hx : Rep G w x vx)
    (hob : (h k).ob = some (.arr sz es)) (hst : x.stor = true) (hcl : x.cells.length = P.cellsOf t) (hkn : knownT P t = true)
    (hpos : i * sz + off + x.cells.length ≤ es.length * sz) (hlen : es'.length = es.length) (hsz : (∀ e ∈ es, e.cells.length = sz) → ∀ e ∈ es', e.cells.length = sz)
    (hlo : sz = 1 → (∀ e ∈ es, e.lone = true) → (∀ c ∈ x.cells, c.lone = true) → ∀ e ∈ es', e.lone = true)
    (hflat : (∀ e ∈ es, e.cells.length = sz) → (sz = 1 → ∀ e ∈ es, e.lone = true) → (∀ c ∈ x.cells, c.lone = true) → ∀ (s : Nat) (c : AV), (AV.flat es')[s]? = some c →
      (s < i * sz + off ∧ (AV.flat es)[s]? = some c) ∨ (i * sz + off ≤ s ∧ x.cells[s - (i * sz + off)]? = some c) ∨ (i * sz + off + x.cells.length ≤ s ∧ (AV.flat es)[s]? = some c)) :
    ∃ w', (Instr.storeAt t va vx).run P w = .ok () w' ∧ Ext G w G w' ∧ HR G B w0 I0 (upd h k ⟨(h k).ver, some (.arr sz es')⟩) w' := by
  obtain ⟨e1, e2, e3⟩ := hx.cells hst
  have hcl' : ∀ c ∈ x.cells, c.lone = true := by
    intro c hc
    obtain ⟨j, hj⟩ := List.getElem?_of_mem hc
    have hlt : j < vx.cells.size := by rw [e1]; exact (List.getElem?_eq_some_iff.1 hj).1
    have hu : vx.cells[j]? = some vx.cells[j] := Array.getElem?_eq_getElem hlt
    exact (e3 j c _ hj hu).lone (e2 _ (by rw [Array.mem_toList_iff]; exact Array.getElem_mem hlt))
  cases ha with
  | ptr _ _ _ _ L hL =>
    rcases hr.objs k _ hob with ⟨rfl, hLn⟩ | ⟨L', hL', h1, h2, h3, h4, h6, h5⟩
    · -- an object without cells
      have hx0 : x.cells.length = 0 := by simp only [List.length_nil, Nat.zero_mul] at hpos; omega
      have hv0 : vx.cells.toList = [] := List.eq_nil_of_length_eq_zero (by simpa [hx0] using e1)
      have hes' : es' = [] := List.eq_nil_of_length_eq_zero (by simpa using hlen)
      subst hes'
      refine ⟨w, ?_, Ext.refl G w, ?_⟩
      · have hsz0 : vx.cells.size = P.cellsOf t := by rw [e1, hcl]
        simp [Instr.storeAt, Instr.sureAddr, storeVar, known_info hkn, hsz0, hv0, storeCells]
      · have : upd h k ⟨(h k).ver, some (.arr sz [])⟩ = h := by
          funext k'
          by_cases hk : k' = k
          · subst hk; rw [upd_same]; cases hh : h k' with | mk ver ob => rw [hh] at hob; simp only at hob; subst hob; rfl
          · rw [upd_ne _ _ hk]
        rw [this]; exact hr
    · rw [hL] at hL'
      simp only [Option.some.injEq] at hL'
      subst hL'
      obtain ⟨hB, ⟨arr, e, hb, hs⟩, _⟩ := hr.own k L hL
      have hfit : i * L.sz + off + vx.cells.toList.length ≤ arr.size := by
        rw [hs.1, h1, Array.length_toList, e1]
        have := Nat.mul_le_mul_right sz h3
        omega
      have hrun := run_storeCells_at P L.b (i * L.sz + off) e vx.cells.toList 0 arr w hb (by simpa using hfit) e2
      simp only [Nat.add_zero] at hrun
      have hlen2 : (arr.toList.take (i * L.sz + off) ++ vx.cells.toList ++ arr.toList.drop (i * L.sz + off + vx.cells.toList.length)).toArray.size = arr.size := by
        have : vx.cells.toList.length = vx.cells.size := Array.length_toList
        simp; simp at hfit; omega
      have hst' := hr.store hob hL h1 h2 hb hlen2 (by rw [hlen]; exact h3) (hsz h4) (fun hz => hlo hz (h6 hz) hcl') (fun s c hc => by
        have hold : ∀ {s : Nat} {c : AV}, (AV.flat es)[s]? = some c → ∃ u : Value, arr[s]? = some u ∧ u.oneCell' = true ∧ Rep G w c u := by
          intro s c hc
          obtain ⟨u, hu, hu1, hur⟩ := h5 s c hc
          exact ⟨u, by simpa [World.cell?, hb] using hu, hu1, hur⟩
        have hget := seg_get arr.toList vx.cells.toList (i * L.sz + off) s (by simpa using hfit)
        rcases hflat h4 h6 hcl' s c hc with ⟨hs1, hc1⟩ | ⟨hs1, hc1⟩ | ⟨hs1, hc1⟩
        · obtain ⟨u, hu, hu1, hur⟩ := hold hc1
          refine ⟨u, ?_, hu1, hur⟩
          rw [List.getElem?_toArray, hget, if_pos (by rw [h1]; exact hs1)]
          simpa using hu
        · have hlt : s - (i * sz + off) < vx.cells.size := by rw [e1]; exact (List.getElem?_eq_some_iff.1 hc1).1
          have hu : vx.cells[s - (i * sz + off)]? = some vx.cells[s - (i * sz + off)] := Array.getElem?_eq_getElem hlt
          refine ⟨_, ?_, e2 _ (by rw [Array.mem_toList_iff]; exact Array.getElem_mem hlt), e3 _ c _ hc1 hu⟩
          rw [List.getElem?_toArray, hget, if_neg (by rw [h1]; omega), if_pos (by rw [h1]; simp; omega), h1]
          simp
        · obtain ⟨u, hu, hu1, hur⟩ := hold hc1
          refine ⟨u, ?_, hu1, hur⟩
          rw [List.getElem?_toArray, hget, if_neg (by rw [h1]; omega), if_neg (by rw [h1]; simp; omega)]
          simpa using hu)
      refine ⟨_, ?_, hst'.2, hst'.1⟩
      have hsz0 : vx.cells.size = P.cellsOf t := by rw [e1, hcl]
      simp [Instr.storeAt, Instr.sureAddr, storeVar, known_info hkn, hsz0, hrun]

theorem opStore_sound (hr : HR G B w0 I0 h w) {t : TypeId} {a x : AV} {va vx : Value} (ha : Rep G w a va) (hx : Rep G w x vx) {out : Out} (ho : opStore P t a x h = some out) :
    out.ob = [] ∧ out.val = .junk ∧ ∃ w', (Instr.storeAt t va vx).run P w = .ok () w' ∧ Ext G w G w' ∧ HR G B w0 I0 (updAll h out.wr) w' := by
  unfold opStore at ho
  split at ho
  · rename_i k v i off sz0
    split at ho
    · rename_i sz es hob
      split at ho
      · rename_i hc
        obtain ⟨rfl, hst, hcl, hkn⟩ := hc
        split at ho
        · rename_i hs1
          subst hs1
          split at ho
          · rename_i hoff
            subst hoff
            split at ho
            · rename_i hone
              split at ho
              · rename_i hi
                simp only [Option.some.injEq] at ho
                subst ho
                have hxl : x.lone = true := by cases x with
                  | d y => cases y <;> first | rfl | (simp [AV.one] at hone)
                  | agg _ => simp [AV.one] at hone
                  | _ => rfl
                have hxc : x.cells = [x] := AV.cells_lone hxl
                refine ⟨rfl, rfl, store_core hr ha hx hob hst hcl hkn (by rw [hxc]; simp; omega) (by simp) (fun h4 e he => ?_) (fun _ h6 _ e he => ?_) (fun h4 h6 _ s c hsc => ?_)⟩
                · rcases List.mem_or_eq_of_mem_set he with he | rfl
                  · exact h4 e he
                  · rw [hxc]; rfl
                · rcases List.mem_or_eq_of_mem_set he with he | rfl
                  · exact h6 e he
                  · exact hxl
                · have hall : ∀ e ∈ es.set i x, e.lone = true := fun e he => by
                    rcases List.mem_or_eq_of_mem_set he with he | rfl
                    · exact h6 rfl e he
                    · exact hxl
                  rw [flat_lone hall, List.getElem?_set] at hsc
                  rw [flat_lone (h6 rfl)]
                  simp only [Nat.mul_one, Nat.add_zero]
                  by_cases hsi : i = s
                  · subst hsi
                    simp [hi] at hsc
                    subst hsc
                    exact .inr (.inl ⟨Nat.le_refl _, by simp [hxc]⟩)
                  · rw [if_neg hsi] at hsc
                    rcases Nat.lt_or_gt_of_ne hsi with hlt | hgt
                    · exact .inr (.inr ⟨by rw [hxc]; simp; omega, hsc⟩)
                    · exact .inl ⟨hgt, hsc⟩
              · cases ho
            · split at ho
              · rename_i hi
                simp only [Option.some.injEq] at ho
                subst ho
                have hseg := seg_get es x.cells i
                refine ⟨rfl, rfl, store_core hr ha hx hob hst hcl hkn (by omega) (by simp; omega) (fun h4 e he => ?_) (fun _ h6 hxl e he => ?_) (fun h4 h6 hxl s c hsc => ?_)⟩
                · simp only [List.append_assoc, List.mem_append] at he
                  rcases he with he | he | he
                  · exact h4 e (List.mem_of_mem_take he)
                  · have hxl : ∀ c ∈ x.cells, c.lone = true := by
                      obtain ⟨e1, e2, e3⟩ := hx.cells hst
                      intro c hc
                      obtain ⟨j, hj⟩ := List.getElem?_of_mem hc
                      have hlt : j < vx.cells.size := by rw [e1]; exact (List.getElem?_eq_some_iff.1 hj).1
                      have hu : vx.cells[j]? = some vx.cells[j] := Array.getElem?_eq_getElem hlt
                      exact (e3 j c _ hj hu).lone (e2 _ (by rw [Array.mem_toList_iff]; exact Array.getElem_mem hlt))
                    rw [AV.cells_lone (hxl e he)]; rfl
                  · exact h4 e (List.mem_of_mem_drop he)
                · simp only [List.append_assoc, List.mem_append] at he
                  rcases he with he | he | he
                  · exact h6 e (List.mem_of_mem_take he)
                  · exact hxl e he
                  · exact h6 e (List.mem_of_mem_drop he)
                · have hall : ∀ e ∈ es.take i ++ x.cells ++ es.drop (i + x.cells.length), e.lone = true := fun e he => by
                    simp only [List.append_assoc, List.mem_append] at he
                    rcases he with he | he | he
                    · exact h6 rfl e (List.mem_of_mem_take he)
                    · exact hxl e he
                    · exact h6 rfl e (List.mem_of_mem_drop he)
                  rw [flat_lone hall, hseg s hi] at hsc
                  rw [flat_lone (h6 rfl)]
                  simp only [Nat.mul_one, Nat.add_zero]
                  split at hsc
                  · rename_i hlt; exact .inl ⟨hlt, hsc⟩
                  · split at hsc
                    · exact .inr (.inl ⟨by omega, hsc⟩)
                    · exact .inr (.inr ⟨by omega, hsc⟩)
              · cases ho
          · cases ho
        · rename_i hs1
          split at ho
          · rename_i e he
            have hilt := (List.getElem?_eq_some_iff.1 he).1
            have hmul : i * sz + sz ≤ es.length * sz := by
              have : (i + 1) * sz ≤ es.length * sz := Nat.mul_le_mul_right sz hilt
              rw [Nat.add_mul, Nat.one_mul] at this; exact this
            -- the cells of an object of which one element is another one
            have hset : ∀ (y : AV), (∀ e ∈ es, e.cells.length = sz) → y.cells.length = sz → ∀ (s : Nat) (c : AV), (AV.flat (es.set i y))[s]? = some c →
                ((s < i * sz ∨ i * sz + sz ≤ s) ∧ (AV.flat es)[s]? = some c) ∨ (i * sz ≤ s ∧ s < i * sz + sz ∧ y.cells[s - i * sz]? = some c) := by
              intro y h4 hy s c hsc
              have hall : ∀ e ∈ es.set i y, e.cells.length = sz := fun e he => by
                rcases List.mem_or_eq_of_mem_set he with he | rfl
                · exact h4 e he
                · exact hy
              obtain ⟨i', j, e', rfl, hj, he', hc'⟩ := flat_split hall hsc
              rw [List.getElem?_set] at he'
              by_cases hii : i = i'
              · subst hii
                rw [if_pos rfl, if_pos hilt] at he'
                simp only [Option.some.injEq] at he'
                subst he'
                exact .inr ⟨by omega, by omega, by rw [show i * sz + j - i * sz = j from by omega]; exact hc'⟩
              · rw [if_neg hii] at he'
                refine .inl ⟨?_, by rw [AV.flat, flatMap_get _ sz es h4 i' j hj, he', Option.bind_some, hc']⟩
                rcases Nat.lt_or_gt_of_ne hii with hlt | hgt
                · right
                  have : (i + 1) * sz ≤ i' * sz := Nat.mul_le_mul_right sz hlt
                  rw [Nat.add_mul, Nat.one_mul] at this; omega
                · left
                  have : (i' + 1) * sz ≤ i * sz := Nat.mul_le_mul_right sz hgt
                  rw [Nat.add_mul, Nat.one_mul] at this; omega
            have hold : (∀ e ∈ es, e.cells.length = sz) → ∀ j, j < sz → (AV.flat es)[i * sz + j]? = e.cells[j]? := fun h4 j hj => by
              rw [AV.flat, flatMap_get _ sz es h4 i j hj, he, Option.bind_some]
            split at ho
            · rename_i hc2
              obtain ⟨rfl, hxs⟩ := hc2
              simp only [Option.some.injEq] at ho
              subst ho
              refine ⟨rfl, rfl, store_core hr ha hx hob hst hcl hkn (by omega) (by simp) (fun h4 e he => ?_) (fun hz => absurd hz hs1) (fun h4 _ _ s c hsc => ?_)⟩
              · rcases List.mem_or_eq_of_mem_set he with he | rfl
                · exact h4 e he
                · exact hxs
              · rcases hset x h4 hxs s c hsc with ⟨hs, hc'⟩ | ⟨h7, h8, hc'⟩
                · rcases hs with hs | hs
                  · exact .inl ⟨by omega, hc'⟩
                  · exact .inr (.inr ⟨by omega, hc'⟩)
                · exact .inr (.inl ⟨by omega, by simpa using hc'⟩)
            · split at ho
              · rename_i hoff
                simp only [Option.some.injEq] at ho
                subst ho
                refine ⟨rfl, rfl, store_core hr ha hx hob hst hcl hkn (by omega) (by simp) (fun h4 e' he' => ?_) (fun hz => absurd hz hs1) (fun h4 _ _ s c hsc => ?_)⟩
                · rcases List.mem_or_eq_of_mem_set he' with he' | rfl
                  · exact h4 e' he'
                  · rw [mkAgg_cells]
                    have := h4 e (List.mem_of_getElem? he)
                    simp; omega
                · have hel := h4 e (List.mem_of_getElem? he)
                  have hyl : (mkAgg (e.cells.take off ++ x.cells ++ e.cells.drop (off + x.cells.length))).cells.length = sz := by rw [mkAgg_cells]; simp; omega
                  rcases hset _ h4 hyl s c hsc with ⟨hs, hc'⟩ | ⟨h7, h8, hc'⟩
                  · rcases hs with hs | hs
                    · exact .inl ⟨by omega, hc'⟩
                    · exact .inr (.inr ⟨by omega, hc'⟩)
                  · rw [mkAgg_cells, seg_get e.cells x.cells off (s - i * sz) (by omega)] at hc'
                    have hs2 : s = i * sz + (s - i * sz) := by omega
                    split at hc'
                    · refine .inl ⟨by omega, ?_⟩
                      rw [hs2, hold h4 _ (by omega)]; exact hc'
                    · split at hc'
                      · exact .inr (.inl ⟨by omega, by rw [show s - (i * sz + off) = s - i * sz - off from by omega]; exact hc'⟩)
                      · refine .inr (.inr ⟨by omega, ?_⟩)
                        rw [hs2, hold h4 _ (by omega)]; exact hc'
              · cases ho
          · cases ho
      · cases ho
    · cases ho
  · cases ho
end
end Go.Avm
