/-
  The abstract machine, part F: new blocks, stores, addresses, numbers, lengths, appends.
-/
import Derived.Test.YtkhcaamgjjhpeaaGreatDoorAvmE
set_option linter.unusedSectionVars false
namespace Go.Avm
open Go.RowKit
variable [GlobTab]

section
variable {P : Program} {G : Gh} {B : Nat} {w0 w : World} {I0 : Nat → Nat → Prop} {h : Heap}

theorem flat_lone : ∀ {es : List AV}, (∀ x ∈ es, x.lone = true) → AV.flat es = es
  | [], _ => rfl
  | a :: r, hh => by
    have := flat_lone (es := r) (fun x hx => hh x (by simp [hx]))
    simp only [AV.flat, List.flatMap_cons, AV.cells_lone (hh a (by simp)), List.singleton_append] at this ⊢
    rw [this]

/-- A new variable. -/
theorem newVarT_sound (hr : HR G B w0 I0 h w) (k : Nat) (t : TypeId) (v : Value) (cs : List AV) (hl : v.cells.size = cs.length) (h1 : ∀ u ∈ v.cells.toList, u.oneCell' = true)
    (hc : ∀ (i : Nat) (c : AV) (u : Value), cs[i]? = some c → v.cells[i]? = some u → Rep G w c u) :
    ∃ w' G' a, (newVar t v).run P w = .ok a w' ∧ Ext G w G' w' ∧ HR G' B w0 I0 (upd h k ⟨(h k).ver + 1, some (.arr 1 cs)⟩) w' ∧ Rep G' w' (.ptr k ((h k).ver + 1) 0 0 1) (.pointer (some a)) ∧
      ∀ L, G'.loc k ((h k).ver + 1) = some L → L.ty = t ∧ L.cap * L.sz = cs.length := by
  have hlone : ∀ x ∈ cs, x.lone = true := by
    intro x hx
    obtain ⟨i, hi⟩ := List.getElem?_of_mem hx
    have hlt : i < v.cells.size := by rw [hl]; exact (List.getElem?_eq_some_iff.1 hi).1
    have hu : v.cells[i]? = some v.cells[i] := Array.getElem?_eq_getElem hlt
    exact (hc i x _ hi hu).lone (h1 _ (by rw [Array.mem_toList_iff]; exact Array.getElem_mem hlt))
  obtain ⟨hn, he⟩ := hr.newOb k 1 cs.length cs v.cells t (by rw [hl]; omega) (Nat.le_refl _) (fun x hx => by rw [AV.cells_lone (hlone x hx)]; rfl) (fun _ => hlone) (fun i c hi => by
    rw [flat_lone hlone] at hi
    have hlt : i < v.cells.size := by rw [hl]; exact (List.getElem?_eq_some_iff.1 hi).1
    have hu : v.cells[i]? = some v.cells[i] := Array.getElem?_eq_getElem hlt
    exact ⟨_, hu, h1 _ (by rw [Array.mem_toList_iff]; exact Array.getElem_mem hlt), hc i c _ hi hu⟩)
  refine ⟨_, _, ⟨w.heap.size, 0, none⟩, ?_, he, hn, ?_, fun L hL => by
    rw [Gh.at_same] at hL; cases hL; exact ⟨rfl, Nat.mul_one _⟩⟩
  · simp [newVar, newRow]
  · have := Rep.ptr (w := w.alloc (.cells v.cells t)) k ((h k).ver + 1) 0 0 _ (Gh.at_same G k ((h k).ver + 1) ⟨w.heap.size, 1, cs.length, 0, t⟩)
    simpa using this

theorem newVar_sound (hr : HR G B w0 I0 h w) (k : Nat) (t : TypeId) (v : Value) (cs : List AV) (hl : v.cells.size = cs.length) (h1 : ∀ u ∈ v.cells.toList, u.oneCell' = true)
    (hc : ∀ (i : Nat) (c : AV) (u : Value), cs[i]? = some c → v.cells[i]? = some u → Rep G w c u) :
    ∃ w' G' a, (newVar t v).run P w = .ok a w' ∧ Ext G w G' w' ∧ HR G' B w0 I0 (upd h k ⟨(h k).ver + 1, some (.arr 1 cs)⟩) w' ∧ Rep G' w' (.ptr k ((h k).ver + 1) 0 0 1) (.pointer (some a)) := by
  obtain ⟨w', G', a, g1, g2, g3, g4, _⟩ := newVarT_sound (P := P) hr k t v cs hl h1 hc
  exact ⟨w', G', a, g1, g2, g3, g4⟩

theorem updAll_append : ∀ (a b : List (Nat × Ent)) (h : Heap), updAll h (a ++ b) = updAll (updAll h a) b
  | [], _, _ => rfl
  | p :: r, b, h => by simp only [List.cons_append, updAll]; exact updAll_append r b _
theorem updAll_off : ∀ (wr : List (Nat × Ent)) (h : Heap) {k : Nat}, k ∉ wr.map (·.1) → updAll h wr k = h k
  | [], _, _, _ => rfl
  | (j, e) :: r, h, k, hk => by
    simp only [List.map_cons, List.mem_cons, not_or] at hk
    simp only [updAll]
    rw [updAll_off r _ hk.2, upd_ne _ _ hk.1]
/-- A type written down behind an operation. -/
theorem withTag_sound {G' : Gh} {w' : World} {out : Out} (hr' : HR G' B w0 I0 (updAll h out.wr) w') (typ : Bool) (T : TypeId) (n : Option Nat) (k v : Nat) (hv : v ≤ (updAll h out.wr k).ver)
    (hL : typ = true → ∀ L, G'.loc k v = some L → L.ty = T ∧ ∀ m, n = some m → L.cap * L.sz = m) : HR G' B w0 I0 (updAll h (withTag typ T n k v h out).wr) w' := by
  unfold withTag
  split
  · rename_i hc
    simp only [updAll_append, updAll]
    have := hr'.note (tagK k) k v T n hv (hL hc.1)
    rw [updAll_off _ _ hc.2] at this
    exact this
  · exact hr'
theorem withTag_val (typ : Bool) (T : TypeId) (n : Option Nat) (k v : Nat) (h : Heap) (out : Out) : (withTag typ T n k v h out).val = out.val ∧ (withTag typ T n k v h out).ob = out.ob := by
  unfold withTag; split <;> exact ⟨rfl, rfl⟩

theorem opAlloc_sound (hr : HR G B w0 I0 h w) {t : TypeId} {k : Nat} {out : Out} (ho : opAlloc P t k h = some out) :
    out.ob = [] ∧ ∃ v w' G', (Instr.alloc t true (.tuple #[])).run P w = .ok v w' ∧ Ext G w G' w' ∧ HR G' B w0 I0 (updAll h out.wr) w' ∧ Rep G' w' out.val v := by
  unfold opAlloc at ho
  split at ho
  · rename_i zs hzs
    simp only [zcells, Option.bind_eq_some_iff] at hzs
    obtain ⟨z, hz, hzs⟩ := hzs
    simp only [Option.some.injEq] at ho
    subst ho
    obtain ⟨h1, h2, h3⟩ := cstCells_rep (G := G) (w := w) hzs
    obtain ⟨w', G', a, hrun, he, hh, hrep⟩ := newVar_sound (P := P) hr k t z zs h1 (fun u hu => by
      obtain ⟨i, hi⟩ := List.getElem?_of_mem hu
      exact h2 i u (by simpa using hi)) h3
    exact ⟨rfl, _, w', G', by simp [Instr.alloc, run_zeroValue' hz, hrun], he, hh, hrep⟩
  · cases ho

theorem opBox_sound (hr : HR G B w0 I0 h w) {t : TypeId} {x : AV} {vx : Value} (hx : Rep G w x vx) {k : Nat} {out : Out} (ho : opBox x k h = some out) :
    out.ob = [] ∧ ∃ v w' G', (Instr.box t vx).run P w = .ok v w' ∧ Ext G w G' w' ∧ HR G' B w0 I0 (updAll h out.wr) w' ∧ Rep G' w' out.val v := by
  unfold opBox at ho
  split at ho
  · rename_i hs
    simp only [Option.some.injEq] at ho
    subst ho
    obtain ⟨h1, h2, h3⟩ := hx.cells hs
    obtain ⟨w', G', a, hrun, he, hh, hrep⟩ := newVar_sound (P := P) hr k t vx x.cells h1 h2 h3
    exact ⟨rfl, _, w', G', by simp [Instr.box, hrun], he, hh, hrep⟩
  · cases ho

theorem opAllocT_sound (hr : HR G B w0 I0 h w) (typ : Bool) {t : TypeId} {k : Nat} {out : Out} (ho : (opAlloc P t k h).map (withTag typ t ((zcells P t).map List.length) k ((h k).ver + 1) h) = some out) :
    out.ob = [] ∧ ∃ v w' G', (Instr.alloc t true (.tuple #[])).run P w = .ok v w' ∧ Ext G w G' w' ∧ HR G' B w0 I0 (updAll h out.wr) w' ∧ Rep G' w' out.val v := by
  rw [Option.map_eq_some_iff] at ho
  obtain ⟨o1, ho, rfl⟩ := ho
  rw [(withTag_val ..).1, (withTag_val ..).2]
  unfold opAlloc at ho
  split at ho
  · rename_i zs hzs
    simp only [Option.some.injEq] at ho
    subst ho
    rw [hzs]
    simp only [zcells, Option.bind_eq_some_iff] at hzs
    obtain ⟨z, hz, hzs⟩ := hzs
    obtain ⟨h1, h2, h3⟩ := cstCells_rep (G := G) (w := w) hzs
    obtain ⟨w', G', a, hrun, he, hh, hrep, hty⟩ := newVarT_sound (P := P) hr k t z zs h1 (fun u hu => by
      obtain ⟨i, hi⟩ := List.getElem?_of_mem hu
      exact h2 i u (by simpa using hi)) h3
    exact ⟨rfl, _, w', G', by simp [Instr.alloc, run_zeroValue' hz, hrun], he, withTag_sound hh typ t _ k _ (by simp [updAll, newOb, upd]) (fun _ L hL => ⟨(hty L hL).1, fun m hm => by
      simp only [Option.map_some, Option.some.injEq] at hm
      rw [(hty L hL).2, hm]⟩), hrep⟩
  · cases ho
theorem opBoxT_sound (hr : HR G B w0 I0 h w) (typ : Bool) {t : TypeId} {x : AV} {vx : Value} (hx : Rep G w x vx) {k : Nat} {out : Out} (ho : (opBox x k h).map (withTag typ t (some x.cells.length) k ((h k).ver + 1) h) = some out) :
    out.ob = [] ∧ ∃ v w' G', (Instr.box t vx).run P w = .ok v w' ∧ Ext G w G' w' ∧ HR G' B w0 I0 (updAll h out.wr) w' ∧ Rep G' w' out.val v := by
  rw [Option.map_eq_some_iff] at ho
  obtain ⟨o1, ho, rfl⟩ := ho
  rw [(withTag_val ..).1, (withTag_val ..).2]
  unfold opBox at ho
  split at ho
  · rename_i hs
    simp only [Option.some.injEq] at ho
    subst ho
    obtain ⟨h1, h2, h3⟩ := hx.cells hs
    obtain ⟨w', G', a, hrun, he, hh, hrep, hty⟩ := newVarT_sound (P := P) hr k t vx x.cells h1 h2 h3
    exact ⟨rfl, _, w', G', by simp [Instr.box, hrun], he, withTag_sound hh typ t _ k _ (by simp [updAll, newOb, upd]) (fun _ L hL => ⟨(hty L hL).1, fun m hm => by
      simp only [Option.some.injEq] at hm
      rw [(hty L hL).2, hm]⟩), hrep⟩
  · cases ho

/-! ### Structs put together -/
theorem set_seq : ∀ (us : List Value) (cs : Array Value) (off j : Nat), off + j + us.length ≤ cs.size →
    ((us.zipIdx j).foldl (fun (cs : Array Value) p => cs.setIfInBounds (off + p.2) p.1) cs).toList = cs.toList.take (off + j) ++ us ++ cs.toList.drop (off + j + us.length)
  | [], cs, off, j, _ => by simp
  | u :: r, cs, off, j, h => by
    simp only [List.zipIdx_cons, List.foldl_cons]
    rw [set_seq r (cs.setIfInBounds (off + j) u) off (j + 1) (by simp at h ⊢; omega)]
    have e := list_seg_step cs.toList (off + j) u r (by simp at h ⊢; omega)
    simpa [Array.toList_setIfInBounds, Nat.add_assoc] using e

theorem fill_sound (place : Nat → Option (Nat × Nat)) : ∀ (parts : List (Nat × AV)) (vparts : List (Nat × Value)) (cs : List AV) (vcs : Array Value) (out : List AV),
    fillA place cs parts = some out → vparts.length = parts.length → (∀ (i : Nat) (p : Nat × AV) (q : Nat × Value), parts[i]? = some p → vparts[i]? = some q → p.1 = q.1 ∧ Rep G w p.2 q.2) →
    vcs.size = cs.length → (∀ (i : Nat) (u : Value), vcs[i]? = some u → u.oneCell' = true) → (∀ (i : Nat) (c : AV) (u : Value), cs[i]? = some c → vcs[i]? = some u → Rep G w c u) →
    ∃ vout, Instr.fill place vcs vparts = some vout ∧ vout.size = out.length ∧ (∀ (i : Nat) (u : Value), vout[i]? = some u → u.oneCell' = true) ∧
      (∀ (i : Nat) (c : AV) (u : Value), out[i]? = some c → vout[i]? = some u → Rep G w c u)
  | [], vparts, cs, vcs, out, hf, hl, _, hs, h1, hc => by
    simp only [fillA, Option.some.injEq] at hf
    subst hf
    have : vparts = [] := List.eq_nil_of_length_eq_zero (by simpa using hl)
    subst this
    exact ⟨vcs, rfl, hs, h1, hc⟩
  | (i, x) :: r, vparts, cs, vcs, out, hf, hl, hp, hs, h1, hc => by
    cases vparts with
    | nil => simp at hl
    | cons q vr =>
      obtain ⟨qi, qv⟩ := q
      obtain ⟨hqi, hqr⟩ := hp 0 (i, x) (qi, qv) rfl rfl
      simp only at hqi hqr
      subst hqi
      simp only [fillA] at hf
      split at hf
      · rename_i off size hpl
        split at hf
        · rename_i hcnd
          obtain ⟨hst, hsz, hle⟩ := hcnd
          obtain ⟨e1, e2, e3⟩ := hqr.cells hst
          have hseq := set_seq qv.cells.toList vcs off 0 (by simp; omega)
          have hfold : (qv.cells.zipIdx.foldl (fun (cs : Array Value) p => cs.setIfInBounds (off + p.2) p.1) vcs).toList = vcs.toList.take off ++ qv.cells.toList ++ vcs.toList.drop (off + qv.cells.size) := by
            rw [← Array.foldl_toList]
            simpa using hseq
          refine fill_sound place r vr _ (qv.cells.zipIdx.foldl (fun (cs : Array Value) p => cs.setIfInBounds (off + p.2) p.1) vcs) out hf (by simpa using hl) (fun j p q hp' hq' => hp (j + 1) p q (by simpa using hp') (by simpa using hq')) ?_ ?_ ?_ |>.imp (fun vout hh => ?_)
          · rw [← Array.length_toList, hfold]; simp; omega
          · intro j u hu
            have hu' : u ∈ (qv.cells.zipIdx.foldl (fun (cs : Array Value) p => cs.setIfInBounds (off + p.2) p.1) vcs).toList := by rw [Array.mem_toList_iff]; exact Array.mem_of_getElem? hu
            rw [hfold] at hu'
            simp only [List.mem_append] at hu'
            rcases hu' with (hu' | hu') | hu'
            · obtain ⟨j', hj'⟩ := List.getElem?_of_mem (List.mem_of_mem_take hu')
              exact h1 j' u (by simpa using hj')
            · exact e2 u hu'
            · obtain ⟨j', hj'⟩ := List.getElem?_of_mem (List.mem_of_mem_drop hu')
              exact h1 j' u (by simpa using hj')
          · intro j c u hcj huj
            rw [← Array.getElem?_toList, hfold] at huj
            have hlen : qv.cells.toList.length = x.cells.length := by simpa using e1
            by_cases hj1 : j < off
            · rw [List.append_assoc, List.getElem?_append_left (by simp; omega), List.getElem?_take, if_pos hj1] at hcj
              rw [List.append_assoc, List.getElem?_append_left (by simp; omega), List.getElem?_take, if_pos hj1] at huj
              exact hc j c u hcj (by simpa using huj)
            · by_cases hj2 : j < off + x.cells.length
              · rw [List.getElem?_append_left (by simp; omega), List.getElem?_append_right (by simp; omega)] at hcj
                rw [List.getElem?_append_left (by simp; omega), List.getElem?_append_right (by simp; omega)] at huj
                have ea : min off cs.length = off := by omega
                have eb : min off vcs.size = off := by omega
                simp only [List.length_take, ea, Array.length_toList, eb] at hcj huj
                exact e3 _ c u hcj (by simpa using huj)
              · rw [List.getElem?_append_right (by simp; omega), List.getElem?_drop] at hcj
                rw [List.getElem?_append_right (by simp; omega), List.getElem?_drop] at huj
                have ea : min off cs.length = off := by omega
                have eb : min off vcs.size = off := by omega
                simp only [List.length_append, List.length_take, ea, Array.length_toList, eb, e1] at hcj huj
                exact hc _ c u hcj (by simpa using huj)
          · obtain ⟨g1, g2, g3, g4⟩ := hh
            refine ⟨?_, g2, g3, g4⟩
            simp only [Instr.fill, hpl]
            rw [if_neg (by simp; omega)]
            exact g1
        · cases hf
      · cases hf

theorem fieldsOf_und {t : TypeId} {fs : Array Field} (hf : fieldsOf P t = some fs) : P.underlying t = some (.struct fs) := by
  unfold fieldsOf at hf
  split at hf
  · rename_i h; simp only [Option.some.injEq] at hf; subst hf; exact h
  · cases hf

theorem places_all : ∀ (fs : List Field), (fs.all fun f => (P.info? f.type).isSome) = true → (fs.mapM fun f => (P.info? f.type).map fun i => (f.offset, i.size)) = some (fs.map fun f => (f.offset, P.cellsOf f.type))
  | [], _ => rfl
  | f :: r, h => by
    simp only [List.all_cons, Bool.and_eq_true] at h
    obtain ⟨i, hi⟩ := Option.isSome_iff_exists.1 h.1
    simp [List.mapM_cons, hi, places_all r h.2, Program.cellsOf]

theorem opBuild_sound {t : TypeId} {parts : List (Nat × AV)} {vparts : Array (Nat × Value)} {out : Out} (ho : opBuild P t parts = some out) (hl : vparts.size = parts.length)
    (hp : ∀ (i : Nat) (p : Nat × AV) (q : Nat × Value), parts[i]? = some p → vparts[i]? = some q → p.1 = q.1 ∧ Rep G w p.2 q.2) :
    out.ob = [] ∧ out.wr = [] ∧ ∃ v, (Instr.build t vparts).run P w = .ok v w ∧ Rep G w out.val v := by
  unfold opBuild at ho
  split at ho
  · rename_i zs hok hzs
    simp only [zcells, Option.bind_eq_some_iff] at hzs
    obtain ⟨z, hz, hzs⟩ := hzs
    simp only [Option.map_eq_some_iff] at ho
    obtain ⟨cs, hfill, rfl⟩ := ho
    obtain ⟨h1, h2, h3⟩ := cstCells_rep (G := G) (w := w) hzs
    obtain ⟨vout, g1, g2, g3, g4⟩ := fill_sound (G := G) (w := w) (placeOf P t) parts vparts.toList zs z.cells cs hfill (by simpa using hl) (fun i p q hp' hq' => hp i p q hp' (by simpa using hq')) h1 h2 h3
    refine ⟨rfl, rfl, .agg vout, ?_, mkAgg_rep g2 g3 g4⟩
    unfold structOk at hok
    split at hok
    · rename_i fs hfs
      have hu := fieldsOf_und hfs
      have hpl := run_places (P := P) w fs.toList _ (places_all fs.toList hok)
      have hplace : (fun (i : Nat) => ((fs.toList.map fun f => (f.offset, P.cellsOf f.type)).toArray : Array (Nat × Nat))[i]?) = placeOf P t := by
        funext i
        simp [placeOf, hfs]
      have hfill' : Instr.fill (fun (i : Nat) => ((fs.toList.map fun f => (f.offset, P.cellsOf f.type)).toArray : Array (Nat × Nat))[i]?) z.cells vparts.toList = some vout := by rw [hplace]; exact g1
      simp only [Instr.build, Sem.run_bind, run_zeroValue' hz, run_underlying hu, Result.andThen_ok]
      have hm : (fs.mapM fun f => (do pure (f.offset, ← sizeOf f.type) : Sem (Nat × Nat))).run P w = .ok (fs.toList.map fun f => (f.offset, P.cellsOf f.type)).toArray w := by
        rw [Array.mapM_eq_mapM_toList, Sem.run_map]
        have : (fs.toList.mapM fun f => (do pure (f.offset, ← sizeOf f.type) : Sem (Nat × Nat))) = (fs.toList.mapM fun f => Prod.mk f.offset <$> sizeOf f.type) := by
          congr 1
        rw [this, hpl]; rfl
      simp only [hm, Result.andThen_ok, hfill', Sem.run_pure]
    · cases hok
  · rename_i zs hok hzs
    simp only [zcells, Option.bind_eq_some_iff] at hzs
    obtain ⟨z, hz, hzs⟩ := hzs
    split at ho
    case h_2 => cases ho
    rename_i e he
    simp only [Option.map_eq_some_iff] at ho
    obtain ⟨cs, hfill, rfl⟩ := ho
    obtain ⟨h1, h2, h3⟩ := cstCells_rep (G := G) (w := w) hzs
    obtain ⟨vout, g1, g2, g3, g4⟩ := fill_sound (G := G) (w := w) _ parts vparts.toList zs z.cells cs hfill (by simpa using hl) (fun i p q hp' hq' => hp i p q hp' (by simpa using hq')) h1 h2 h3
    refine ⟨rfl, rfl, .agg vout, ?_, mkAgg_rep g2 g3 g4⟩
    unfold arrOf at he
    split at he
    · rename_i n e' hu
      split at he
      · rename_i hk
        cases he
        obtain ⟨i, hi⟩ := Option.isSome_iff_exists.1 (show (P.info? e).isSome = true from hk)
        have hsz : (sizeOf e).run P w = .ok (P.cellsOf e) w := by simp [sizeOf, typeInfo, hi, Program.cellsOf]
        simp only [Instr.build, Sem.run_bind, run_zeroValue' hz, run_underlying hu, Result.andThen_ok, hsz, g1, Sem.run_pure]
      · cases he
    · cases he
  · cases ho
end
end Go.Avm
