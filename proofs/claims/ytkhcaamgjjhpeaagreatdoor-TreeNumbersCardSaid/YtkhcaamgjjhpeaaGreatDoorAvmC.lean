/-
  The abstract machine, part C: how the relation between an abstract heap and a world goes on: a new block, a store, an append, a draw, an object that is frozen.
-/
import Derived.Test.YtkhcaamgjjhpeaaGreatDoorAvmB
import Derived.Laws.CopyOwn
set_option linter.unusedSectionVars false
namespace Go.Avm
open Go.RowKit
variable [GlobTab]

section
variable {G : Gh} {B : Nat} {w0 w : World} {I0 : Nat → Nat → Prop} {h : Heap}

theorem cell_alloc_old {w : World} {o : Obj} {b i : Nat} (hb : b < w.heap.size) : (w.alloc o).cell? ⟨b, i, none⟩ = w.cell? ⟨b, i, none⟩ := World.cell?_alloc_lt w o ⟨b, i, none⟩ hb
theorem cell_alloc_new {w : World} {c : Array Value} {e : TypeId} {i : Nat} : (w.alloc (.cells c e)).cell? ⟨w.heap.size, i, none⟩ = c[i]? := by simp
theorem heap_alloc_lt {w : World} {o : Obj} {b : Nat} (hb : b < w.heap.size) : (w.alloc o).heap[b]? = w.heap[b]? := Below.heap_alloc w o b hb

theorem kept_alloc (w : World) (o' : Obj) : ∀ (b : Nat) (o : Obj), isBook o = true → w.heap[b]? = some o → ∃ o2, (w.alloc o').heap[b]? = some o2 ∧ bookTo o o2 := fun b o _ x => ⟨o, by
  rw [heap_alloc_lt (Array.getElem?_eq_some_iff.1 x).1]; exact x, bookTo_refl o⟩
theorem kept_same {w w' : World} (h : w'.heap = w.heap) : ∀ (b : Nat) (o : Obj), isBook o = true → w.heap[b]? = some o → ∃ o2, w'.heap[b]? = some o2 ∧ bookTo o o2 := fun b o _ x => ⟨o, by rw [h]; exact x, bookTo_refl o⟩
/-- A new key's place. -/
def Gh.at (G : Gh) (k v : Nat) (L : Loc) : Gh := { G with loc := fun k' v' => if k' = k ∧ v' = v then some L else G.loc k' v', lim := upd G.lim k v }
def Gh.more (G : Gh) (p : Nat → Nat → Prop) : Gh := { G with imm := fun b o => G.imm b o ∨ p b o }

theorem Gh.at_same (G : Gh) (k v : Nat) (L : Loc) : (G.at k v L).loc k v = some L := by simp [Gh.at]
theorem Gh.at_ne (G : Gh) {k v k' v' : Nat} (L : Loc) (hn : ¬ (k' = k ∧ v' = v)) : (G.at k v L).loc k' v' = G.loc k' v' := by simp [Gh.at, hn]

theorem Ext.at {k v : Nat} {L : Loc} (hv : G.loc k v = none) (hl : G.lim k < v) (w : World) : Ext G w (G.at k v L) w :=
  ⟨fun _ _ x => x, fun k' v' L' x => by
    by_cases hc : k' = k ∧ v' = v
    · obtain ⟨rfl, rfl⟩ := hc; rw [hv] at x; cases x
    · rw [Gh.at_ne _ _ hc]; exact x, fun _ _ _ => rfl, Nat.le_refl _, fun k' => by
    by_cases hk : k' = k
    · subst hk; show _ ≤ upd G.lim k' v k'; rw [upd_same]; omega
    · show _ ≤ upd G.lim k v k'; rw [upd_ne _ _ hk]; exact Nat.le_refl _, fun k' v' hv' x => by
    rw [Gh.at_ne _ _ (by rintro ⟨rfl, rfl⟩; omega)]; exact x, fun _ _ _ x => x, kept_same rfl⟩
theorem Ext.more (G : Gh) (p : Nat → Nat → Prop) (w : World) : Ext G w (G.more p) w := ⟨fun _ _ x => .inl x, fun _ _ _ x => x, fun _ _ _ => rfl, Nat.le_refl _, fun _ => Nat.le_refl _, fun _ _ _ x => x, fun _ _ _ x => x, kept_same rfl⟩

theorem ObRep.mono {G' : Gh} {w' : World} {k ver : Nat} {ob : Ob} (hr : ObRep G w k ver ob) (hv : ver ≤ G.lim k) (e : Ext G w G' w')
    (hc : ∀ L, G.loc k ver = some L → ∀ t, w'.cell? ⟨L.b, t, none⟩ = w.cell? ⟨L.b, t, none⟩) : ObRep G' w' k ver ob := by
  cases ob with
  | arr sz es =>
    rcases hr with ⟨hr, hn⟩ | ⟨L, hL, h1, h2, h3, h4, h6, h5⟩
    · exact .inl ⟨hr, e.nloc _ _ hv hn⟩
    · refine .inr ⟨L, e.loc _ _ _ hL, h1, h2, h3, h4, h6, fun t c ht => ?_⟩
      obtain ⟨u, hu, hu1, hur⟩ := h5 t c ht
      exact ⟨u, (hc L hL t).trans hu, hu1, hur.mono e⟩
  | map es c => trivial
  | lp _ _ _ _ _ _ _ => trivial
  | itr _ _ _ _ => trivial
  | typ k' v' T n =>
    refine ⟨Nat.le_trans hr.1 (e.lim k'), fun L hL => ?_⟩
    cases hg : G.loc k' v' with
    | none => rw [e.nloc _ _ hr.1 hg] at hL; cases hL
    | some L =>
      rw [e.loc _ _ _ hg] at hL
      cases hL
      exact hr.2 L hg

theorem maps_alloc (w : World) (o : Obj) : ∀ (b : Nat) o', isFix o' = true → w.heap[b]? = some o' → (w.alloc o).heap[b]? = some o' := fun _ _ _ hh => (heap_alloc_lt (Array.getElem?_eq_some_iff.1 hh).1).trans hh
theorem kept_setRow {w : World} {b0 : Nat} {arr arr' : Array Value} {e : TypeId} {fz : Nat × Nat} (hb : w.heap[b0]? = some (.cells arr e fz)) : ∀ (b : Nat) (o : Obj), isBook o = true → w.heap[b]? = some o → ∃ o2, (w.setRow b0 arr').heap[b]? = some o2 ∧ bookTo o o2 := fun b o hk hh =>
  ⟨o, (setRow_other w _ _ _ (by rintro rfl; rw [hb] at hh; cases hh; cases hk)).trans hh, bookTo_refl o⟩
theorem maps_setRow (w : World) {b0 : Nat} {arr arr' : Array Value} {e : TypeId} {fz : Nat × Nat} (hb : w.heap[b0]? = some (.cells arr e fz)) : ∀ (b : Nat) o, isFix o = true → w.heap[b]? = some o → (w.setRow b0 arr').heap[b]? = some o := fun b o hf hh =>
  (setRow_other w _ _ _ (by rintro rfl; rw [hb] at hh; cases hh; cases hf)).trans hh
theorem MR.set {G' : Gh} {w' : World} (hm : MR G B h w) (e : Ext G w G' w') (hl : G'.mloc = G.mloc) (hb : ∀ (b : Nat) o, isFix o = true → w.heap[b]? = some o → w'.heap[b]? = some o) {k v : Nat} {ob : Option Ob} (hv : (h k).ver ≤ v) (hno : ∀ o : Ob, o.flex = false → ob ≠ some o) :
    MR G' B (upd h k ⟨v, ob⟩) w' := by
  refine hm.step e hl hb (fun k' => ?_) (fun k' o hf ho => ?_)
  · by_cases hk : k' = k
    · subst hk; rw [upd_same]; exact hv
    · rw [upd_ne _ _ hk]; exact Nat.le_refl _
  · by_cases hk : k' = k
    · subst hk; rw [upd_same] at ho; exact absurd ho (hno o hf)
    · exact upd_ne _ _ hk

theorem HR.le (hr : HR G B w0 I0 h w) (k : Nat) : (h k).ver ≤ G.lim k := by rw [hr.lim]; exact Nat.le_refl _
theorem HR.none_next (hr : HR G B w0 I0 h w) (k : Nat) : G.loc k ((h k).ver + 1) = none := by
  cases hL : G.loc k ((h k).ver + 1) with
  | none => rfl
  | some L => have := hr.fresh _ _ _ hL; omega

/-- A draw turns nothing. -/
theorem HR.drew (hr : HR G B w0 I0 h w) : HR G B w0 I0 h w.drew := by
  refine ⟨hr.below.drew, hr.bsz, hr.immlt, hr.i0, hr.immlow, hr.fresh, hr.own, hr.dis, fun k ob ho => (hr.objs k ob ho).mono (hr.le k) ⟨fun _ _ x => x, fun _ _ _ x => x, fun _ _ _ => rfl, Nat.le_refl _, fun _ => Nat.le_refl _, fun _ _ _ x => x, fun _ _ _ x => x, kept_same rfl⟩ (fun _ _ _ => rfl), hr.lim, hr.maps.step ⟨fun _ _ x => x, fun _ _ _ x => x, fun _ _ _ => rfl, Nat.le_refl _, fun _ => Nat.le_refl _, fun _ _ _ x => x, fun _ _ _ x => x, kept_same rfl⟩ rfl (fun _ _ _ x => x) (fun _ => Nat.le_refl _) (fun _ _ _ _ => rfl)⟩
theorem Ext.drew (G : Gh) (w : World) : Ext G w G w.drew := ⟨fun _ _ x => x, fun _ _ _ x => x, fun _ _ _ => rfl, Nat.le_refl _, fun _ => Nat.le_refl _, fun _ _ _ x => x, fun _ _ _ x => x, kept_same rfl⟩

theorem Ext.alloc (hr : HR G B w0 I0 h w) (o : Obj) : Ext G w G (w.alloc o) :=
  ⟨fun _ _ x => x, fun _ _ _ x => x, fun b i hb => cell_alloc_old (hr.immlt b i hb), by simp, fun _ => Nat.le_refl _, fun _ _ _ x => x, fun _ _ _ x => x, kept_alloc w _⟩

/-- Objects are frozen: their keys are given up, what they hold is immutable from now on. -/
def frozenAt (G : Gh) (h : Heap) (ks : List Nat) : Nat → Nat → Prop := fun b _ => ∃ k ∈ ks, ∃ L, G.loc k (h k).ver = some L ∧ L.b = b
theorem updAll_kill (h h0 : Heap) : ∀ (ks : List Nat) (k : Nat), updAll h0 (kill h ks) k = if k ∈ ks then ⟨(h k).ver + 1, none⟩ else h0 k := by
  intro ks
  induction ks generalizing h0 with
  | nil => intro k; simp [kill, updAll]
  | cons a r ih =>
    intro k
    simp only [kill, List.map_cons, updAll]
    have := ih (upd h0 a ⟨(h a).ver + 1, none⟩) k
    simp only [kill] at this
    rw [this]
    by_cases hk : k ∈ r
    · simp [hk]
    · by_cases ha : k = a
      · subst ha; simp [upd]
      · simp [hk, ha, upd]
def Gh.froz (G : Gh) (h : Heap) (ks : List Nat) : Gh := { G.more (frozenAt G h ks) with lim := fun k => if k ∈ ks then G.lim k + 1 else G.lim k }
theorem Ext.froz (hr : HR G B w0 I0 h w) (ks : List Nat) : Ext G w (G.froz h ks) w :=
  ⟨fun _ _ x => .inl x, fun _ _ _ x => x, fun _ _ _ => rfl, Nat.le_refl _, fun k => by show _ ≤ if k ∈ ks then _ else _; split <;> omega, fun _ _ _ x => x, fun _ _ _ x => x, kept_same rfl⟩
theorem HR.kill (hr : HR G B w0 I0 h w) (ks : List Nat) : HR (G.froz h ks) B w0 I0 (updAll h (kill h ks)) w := by
  have hh := updAll_kill h h ks
  refine ⟨hr.below, hr.bsz, ?_, fun b o x => .inl (hr.i0 b o x), ?_, ?_, ?_, ?_, ?_, fun k => by rw [hh]; show (if k ∈ ks then _ else _) = _; split <;> simp [hr.lim], hr.maps.step (Ext.froz hr ks) rfl (fun _ _ _ x => x) (fun k => by rw [hh]; split <;> simp) (fun k es c ho => by
    rw [hh] at ho ⊢
    split at ho
    · cases ho
    · rename_i hk; rw [if_neg hk])⟩
  · rintro b o (x | ⟨k, _, L, hL, rfl⟩)
    · exact hr.immlt b o x
    · exact hr.blt hL
  · rintro b o (x | ⟨k, _, L, hL, rfl⟩) hb
    · exact hr.immlow b o x hb
    · have := (hr.own k L hL).1; omega
  · intro k v L hL
    have := hr.fresh k v L hL
    rw [hh]
    split <;> simp_all; omega
  · intro k L hL
    rw [hh] at hL
    by_cases hk : k ∈ ks
    · simp only [hk, if_true] at hL
      have := hr.fresh k _ L hL; omega
    · simp only [hk, if_false] at hL
      obtain ⟨h1, h2, h3⟩ := hr.own k L hL
      refine ⟨h1, h2, ?_⟩
      rintro o (x | ⟨k', hk', L', hL', hb⟩)
      · exact h3 o x
      · have := hr.dis k k' L L' hL hL' hb.symm
        subst this; exact absurd hk' hk
  · intro k k' L L' hL hL' hb
    rw [hh] at hL hL'
    by_cases hk : k ∈ ks
    · simp only [hk, if_true] at hL
      have := hr.fresh k _ L hL; omega
    · by_cases hk' : k' ∈ ks
      · simp only [hk', if_true] at hL'
        have := hr.fresh k' _ L' hL'; omega
      · simp only [hk, hk', if_false] at hL hL'
        exact hr.dis k k' L L' hL hL' hb
  · intro k ob ho
    rw [hh] at ho ⊢
    by_cases hk : k ∈ ks
    · simp [hk] at ho
    · simp only [hk, if_false] at ho ⊢
      exact (hr.objs k ob ho).mono (hr.le k) (Ext.froz hr ks) (fun _ _ _ => rfl)

/-- A new block that holds an object. -/
theorem HR.newOb (hr : HR G B w0 I0 h w) (k sz cap : Nat) (es : List AV) (arr : Array Value) (e : TypeId) (hs : arr.size = cap * sz) (hcap : es.length ≤ cap) (hsz : ∀ x ∈ es, x.cells.length = sz) (hlo : sz = 1 → ∀ x ∈ es, x.lone = true)
    (hc : ∀ (t : Nat) (c : AV), (AV.flat es)[t]? = some c → ∃ u : Value, arr[t]? = some u ∧ u.oneCell' = true ∧ Rep G w c u) :
    HR (G.at k ((h k).ver + 1) ⟨w.heap.size, sz, cap, 0, e⟩) B w0 I0 (upd h k ⟨(h k).ver + 1, some (.arr sz es)⟩) (w.alloc (.cells arr e)) ∧
    Ext G w (G.at k ((h k).ver + 1) ⟨w.heap.size, sz, cap, 0, e⟩) (w.alloc (.cells arr e)) := by
  have hn := hr.none_next k
  have hlk : G.lim k < (h k).ver + 1 := by rw [hr.lim]; omega
  have hex : Ext G w (G.at k ((h k).ver + 1) ⟨w.heap.size, sz, cap, 0, e⟩) (w.alloc (.cells arr e)) :=
    ⟨fun _ _ x => x, (Ext.at hn hlk w).loc, fun b i hb => cell_alloc_old (hr.immlt b i hb), by simp, (Ext.at hn hlk w).lim, (Ext.at hn hlk w).nloc, fun _ _ _ x => x, kept_alloc w _⟩
  have key : ∀ k' L', (G.at k ((h k).ver + 1) ⟨w.heap.size, sz, cap, 0, e⟩).loc k' (upd h k ⟨(h k).ver + 1, some (.arr sz es)⟩ k').ver = some L' →
      (k' = k ∧ L' = ⟨w.heap.size, sz, cap, 0, e⟩) ∨ (k' ≠ k ∧ G.loc k' (h k').ver = some L') := by
    intro k' L' hL
    by_cases hk : k' = k
    · subst hk
      rw [upd_same, Gh.at_same] at hL
      exact .inl ⟨rfl, (Option.some.inj hL).symm⟩
    · rw [upd_ne _ _ hk, Gh.at_ne _ _ (by simp [hk])] at hL
      exact .inr ⟨hk, hL⟩
  refine ⟨⟨hr.below.alloc hr.bsz _, by have := hr.bsz; simp; omega, fun b o x => by have := hr.immlt b o x; simp; omega, hr.i0, hr.immlow, ?_, ?_, ?_, ?_, fun k' => by
    by_cases hk : k' = k
    · subst hk; rw [upd_same]; exact upd_same _ _ _
    · rw [upd_ne _ _ hk]; exact (upd_ne _ _ hk).trans (hr.lim k'), hr.maps.set hex rfl (maps_alloc w _) (by omega) (by first | exact flex_none | exact flex_arr)⟩, hex⟩
  · intro k' v L hL
    by_cases hk : k' = k ∧ v = (h k).ver + 1
    · obtain ⟨rfl, rfl⟩ := hk; simp [upd]
    · rw [Gh.at_ne _ _ hk] at hL
      have := hr.fresh k' v L hL
      by_cases hk' : k' = k
      · subst hk'; rw [upd_same]; show v ≤ _ + 1; omega
      · rw [upd_ne _ _ hk']; exact this
  · intro k' L' hL
    rcases key k' L' hL with ⟨rfl, rfl⟩ | ⟨hk, hL⟩
    · exact ⟨hr.bsz, ⟨arr, e, heap_alloc_new w _, hs, rfl⟩, fun o x => absurd (hr.immlt _ o x) (by simp)⟩
    · obtain ⟨h1, ⟨arr', e', h2, h3⟩, h4⟩ := hr.own k' L' hL
      exact ⟨h1, ⟨arr', e', (heap_alloc_lt (hr.blt hL)).trans h2, h3⟩, h4⟩
  · intro k1 k2 L1 L2 hL1 hL2 hb
    rcases key k1 L1 hL1 with ⟨rfl, rfl⟩ | ⟨hk1, hL1⟩ <;> rcases key k2 L2 hL2 with ⟨h2e, h2L⟩ | ⟨hk2, hL2⟩
    · exact h2e.symm
    · have := hr.blt hL2; rw [← hb] at this; simp at this
    · subst h2L; have := hr.blt hL1; rw [hb] at this; simp at this
    · exact hr.dis k1 k2 L1 L2 hL1 hL2 hb
  · intro k' ob ho
    by_cases hk : k' = k
    · subst hk
      rw [upd_same] at ho ⊢
      simp only [Option.some.injEq] at ho
      subst ho
      refine .inr ⟨_, Gh.at_same _ _ _ _, rfl, rfl, hcap, hsz, hlo, fun t c ht => ?_⟩
      obtain ⟨u, hu, hu1, hur⟩ := hc t c ht
      exact ⟨u, by rw [cell_alloc_new]; exact hu, hu1, hur.mono hex⟩
    · rw [upd_ne _ _ hk] at ho ⊢
      exact (hr.objs k' ob ho).mono (hr.le k') hex (fun L hL t => cell_alloc_old (hr.blt hL))

/-- A new block that holds a growing list. -/
theorem HR.newVecT (hr : HR G B w0 I0 h w) (k sz cap : Nat) (l : List D) (arr : Array Value) (e : TypeId) (hs : arr.size = cap * sz) (hcap : l.length ≤ cap) (hsz : ∀ x ∈ l, x.cells.length = sz)
    (hc : ∀ (t : Nat) (c : D), (D.flat l)[t]? = some c → ∃ u : Value, arr[t]? = some u ∧ c.one = true ∧ DRep G.imm w c u) :
    ∃ G', HR G' B w0 I0 (upd h k ⟨(h k).ver + 1, none⟩) (w.alloc (.cells arr e)) ∧ Ext G w G' (w.alloc (.cells arr e)) ∧
      Rep G' (w.alloc (.cells arr e)) (.vec k ((h k).ver + 1) sz l) (.slice (some ⟨w.heap.size, 0, none⟩) l.length cap) ∧
      ∀ L, G'.loc k ((h k).ver + 1) = some L → L.ty = e := by
  have hn := hr.none_next k
  have hlk : G.lim k < (h k).ver + 1 := by rw [hr.lim]; omega
  have hfl : (D.flat l).length = l.length * sz := flatMap_len _ sz l hsz
  let L : Loc := ⟨w.heap.size, sz, cap, l.length * sz, e⟩
  let G' : Gh := (G.at k ((h k).ver + 1) L).more (fun b o => b = w.heap.size ∧ o < l.length * sz)
  have hex : Ext G w G' (w.alloc (.cells arr e)) :=
    ⟨fun _ _ x => .inl x, (Ext.at (L := L) hn hlk w).loc, fun b i hb => cell_alloc_old (hr.immlt b i hb), by simp, (Ext.at (L := L) hn hlk w).lim, (Ext.at (L := L) hn hlk w).nloc, fun _ _ _ x => x, kept_alloc w _⟩
  have hL : G'.loc k ((h k).ver + 1) = some L := Gh.at_same _ _ _ _
  have key : ∀ k' L', G'.loc k' (upd h k ⟨(h k).ver + 1, none⟩ k').ver = some L' → (k' = k ∧ L' = L) ∨ (k' ≠ k ∧ G.loc k' (h k').ver = some L') := by
    intro k' L' hL
    by_cases hk : k' = k
    · subst hk
      rw [upd_same] at hL
      rw [show G'.loc k' ((h k').ver + 1) = some L from Gh.at_same _ _ _ _] at hL
      exact .inl ⟨rfl, (Option.some.inj hL).symm⟩
    · rw [upd_ne _ _ hk] at hL
      exact .inr ⟨hk, by rw [← Gh.at_ne G L (k := k) (v := (h k).ver + 1) (by simp [hk])]; exact hL⟩
  have hU : ∃ U : Nat → Value, ∀ t c, (D.flat l)[t]? = some c → arr[t]? = some (U t) ∧ c.one = true ∧ DRep G.imm w c (U t) := by
    refine ⟨fun t => arr.getD t undef, fun t c ht => ?_⟩
    obtain ⟨u, hu, h1, h2⟩ := hc t c ht
    have hg : arr.getD t undef = u := by simp [Array.getD_eq_getD_getElem?, hu]
    exact ⟨hu.trans (congrArg some hg.symm), h1, by simpa only [hg] using h2⟩
  obtain ⟨U, hU⟩ := hU
  refine ⟨G', ⟨hr.below.alloc hr.bsz _, by have := hr.bsz; simp; omega, ?_, fun b o x => .inl (hr.i0 b o x), ?_, ?_, ?_, ?_, ?_, fun k' => by
    by_cases hk : k' = k
    · subst hk; rw [upd_same]; exact upd_same _ _ _
    · rw [upd_ne _ _ hk]; exact (upd_ne _ _ hk).trans (hr.lim k'), hr.maps.set hex rfl (maps_alloc w _) (by omega) (by first | exact flex_none | exact flex_arr)⟩, hex, ?_, fun L' hL' => by rw [hL] at hL'; cases hL'; rfl⟩
  · rintro b o (x | ⟨rfl, _⟩)
    · have := hr.immlt b o x; simp; omega
    · simp
  · rintro b o (x | ⟨rfl, _⟩) hb
    · exact hr.immlow b o x hb
    · have := hr.bsz; omega
  · intro k' v L' hL'
    by_cases hk : k' = k ∧ v = (h k).ver + 1
    · obtain ⟨rfl, rfl⟩ := hk; simp [upd]
    · rw [show G'.loc k' v = G.loc k' v from Gh.at_ne _ _ hk] at hL'
      have := hr.fresh k' v L' hL'
      by_cases hk' : k' = k
      · subst hk'; rw [upd_same]; show v ≤ _ + 1; omega
      · rw [upd_ne _ _ hk']; exact this
  · intro k' L' hL'
    rcases key k' L' hL' with ⟨rfl, rfl⟩ | ⟨hk, hL'⟩
    · refine ⟨hr.bsz, ⟨arr, e, heap_alloc_new w _, hs, rfl⟩, ?_⟩
      rintro o (x | ⟨_, x⟩)
      · exact absurd (hr.immlt _ o x) (by simp [L])
      · exact x
    · obtain ⟨h1, ⟨arr', e', h2, h3⟩, h4⟩ := hr.own k' L' hL'
      refine ⟨h1, ⟨arr', e', (heap_alloc_lt (hr.blt hL')).trans h2, h3⟩, ?_⟩
      rintro o (x | ⟨x, _⟩)
      · exact h4 o x
      · have := hr.blt hL'; omega
  · intro k1 k2 L1 L2 hL1 hL2 hb
    rcases key k1 L1 hL1 with ⟨rfl, rfl⟩ | ⟨hk1, hL1⟩ <;> rcases key k2 L2 hL2 with ⟨h2e, h2L⟩ | ⟨hk2, hL2⟩
    · exact h2e.symm
    · have := hr.blt hL2; rw [← hb] at this; simp [L] at this
    · subst h2L; have := hr.blt hL1; rw [hb] at this; simp [L] at this
    · exact hr.dis k1 k2 L1 L2 hL1 hL2 hb
  · intro k' ob ho
    by_cases hk : k' = k
    · subst hk; rw [upd_same] at ho; cases ho
    · rw [upd_ne _ _ hk] at ho ⊢
      exact (hr.objs k' ob ho).mono (hr.le k') hex (fun L hL t => cell_alloc_old (hr.blt hL))
  · refine Rep.vec k ((h k).ver + 1) l L hL rfl hcap hsz (.ro l _ 0 cap sz U hcap hsz (fun x hx => ?_) ?_ ?_ ?_)
    · obtain ⟨t, ht⟩ := List.getElem?_of_mem hx
      exact (hU t x ht).2.1
    · intro t c ht
      have : t < (D.flat l).length := (List.getElem?_eq_some_iff.1 ht).1
      exact .inr ⟨rfl, by omega⟩
    · intro t c ht
      rw [Nat.zero_add, cell_alloc_new]; exact (hU t c ht).1
    · intro t c ht
      exact (hU t c ht).2.2.mono hex.imm hex.cell

/-- A store into an object's block: the same key and version, another content. -/
theorem HR.store (hr : HR G B w0 I0 h w) {k sz : Nat} {es es' : List AV} {L : Loc} (ho : (h k).ob = some (.arr sz es)) (hL : G.loc k (h k).ver = some L) (hLs : L.sz = sz) (hfr : L.fr = 0)
    {arr arr' : Array Value} {e : TypeId} (hb : w.heap[L.b]? = some (.cells arr e (0, 0))) (hs : arr'.size = arr.size) (hcap : es'.length ≤ L.cap) (hsz : ∀ x ∈ es', x.cells.length = sz) (hlo : sz = 1 → ∀ x ∈ es', x.lone = true)
    (hc : ∀ (t : Nat) (c : AV), (AV.flat es')[t]? = some c → ∃ u : Value, arr'[t]? = some u ∧ u.oneCell' = true ∧ Rep G w c u) :
    HR G B w0 I0 (upd h k ⟨(h k).ver, some (.arr sz es')⟩) (w.setRow L.b arr') ∧ Ext G w G (w.setRow L.b arr') := by
  obtain ⟨hB, ⟨arr0, e0, hb0, hs0⟩, hi⟩ := hr.own k L hL
  rw [hb] at hb0
  simp only [Option.some.injEq, Obj.cells.injEq] at hb0
  obtain ⟨rfl, rfl, _⟩ := hb0
  have hnb : ∀ b o, G.imm b o → b ≠ L.b := by
    rintro b o x rfl
    have := hi o x; omega
  have hex : Ext G w G (w.setRow L.b arr') := ⟨fun _ _ x => x, fun _ _ _ x => x, fun b i x => cell_setRow_other w L.b arr' ⟨b, i, none⟩ (hnb b i x), by simp, fun _ => Nat.le_refl _, fun _ _ _ x => x, fun _ _ _ x => x, kept_setRow hb⟩
  have hver : ∀ k', (upd h k ⟨(h k).ver, some (.arr sz es')⟩ k').ver = (h k').ver := by
    intro k'
    by_cases hk : k' = k
    · subst hk; rw [upd_same]
    · rw [upd_ne _ _ hk]
  refine ⟨⟨below_setRow hr.below hB _, by simpa using hr.bsz, fun b o x => by simpa using hr.immlt b o x, hr.i0, hr.immlow, ?_, ?_, ?_, ?_, fun k' => by rw [hver]; exact hr.lim k', hr.maps.set hex rfl (maps_setRow w hb) (Nat.le_refl _) (by first | exact flex_none | exact flex_arr)⟩, hex⟩
  · intro k' v L' x; rw [hver]; exact hr.fresh k' v L' x
  · intro k' L' x
    rw [hver] at x
    obtain ⟨h1, ⟨a1, e1, h2, h3⟩, h4⟩ := hr.own k' L' x
    by_cases hk : L'.b = L.b
    · have := hr.dis k' k L' L x hL hk
      subst this
      rw [hL] at x
      simp only [Option.some.injEq] at x
      subst x
      exact ⟨h1, ⟨arr', e, setRow_heap w _ _ _ _ _ hb, by rw [hs]; exact hs0⟩, h4⟩
    · exact ⟨h1, ⟨a1, e1, by rw [setRow_other w _ _ _ hk]; exact h2, h3⟩, h4⟩
  · intro k1 k2 L1 L2 x1 x2; rw [hver] at x1 x2; exact hr.dis k1 k2 L1 L2 x1 x2
  · intro k' ob ho'
    by_cases hk : k' = k
    · subst hk
      rw [upd_same] at ho' ⊢
      simp only [Option.some.injEq] at ho'
      subst ho'
      refine .inr ⟨L, hL, hLs, hfr, hcap, hsz, hlo, fun t c ht => ?_⟩
      obtain ⟨u, hu, hu1, hur⟩ := hc t c ht
      exact ⟨u, by rw [cell_setRow_same w L.b t _ _ _ _ hb]; exact hu, hu1, hur.mono hex⟩
    · rw [upd_ne _ _ hk] at ho' ⊢
      refine (hr.objs k' ob ho').mono (hr.le k') hex (fun L' hL' t => cell_setRow_other w L.b arr' ⟨L'.b, t, none⟩ (fun hbb => hk (hr.dis k' k L' L hL' hL hbb)))

/-- A new version of an object in its old block: an append that has room. -/
theorem HR.regrow (hr : HR G B w0 I0 h w) {k sz : Nat} {es' : List AV} {L : Loc} (hL : G.loc k (h k).ver = some L) (hLs : L.sz = sz) (hfr : L.fr = 0)
    {arr arr' : Array Value} {e : TypeId} (hb : w.heap[L.b]? = some (.cells arr e (0, 0))) (hs : arr'.size = arr.size) (hcap : es'.length ≤ L.cap) (hsz : ∀ x ∈ es', x.cells.length = sz) (hlo : sz = 1 → ∀ x ∈ es', x.lone = true)
    (hc : ∀ (t : Nat) (c : AV), (AV.flat es')[t]? = some c → ∃ u : Value, arr'[t]? = some u ∧ u.oneCell' = true ∧ Rep G w c u) :
    HR (G.at k ((h k).ver + 1) L) B w0 I0 (upd h k ⟨(h k).ver + 1, some (.arr sz es')⟩) (w.setRow L.b arr') ∧ Ext G w (G.at k ((h k).ver + 1) L) (w.setRow L.b arr') := by
  obtain ⟨hB, ⟨arr0, e0, hb0, hs0⟩, hi⟩ := hr.own k L hL
  rw [hb] at hb0
  simp only [Option.some.injEq, Obj.cells.injEq] at hb0
  obtain ⟨rfl, rfl, _⟩ := hb0
  have hn := hr.none_next k
  have hlk : G.lim k < (h k).ver + 1 := by rw [hr.lim]; omega
  have hnb : ∀ b o, G.imm b o → b ≠ L.b := by
    rintro b o x rfl
    have := hi o x; omega
  have hex : Ext G w (G.at k ((h k).ver + 1) L) (w.setRow L.b arr') := ⟨fun _ _ x => x, (Ext.at hn hlk w).loc, fun b i x => cell_setRow_other w L.b arr' ⟨b, i, none⟩ (hnb b i x), by simp, (Ext.at hn hlk w).lim, (Ext.at hn hlk w).nloc, fun _ _ _ x => x, kept_setRow hb⟩
  have key : ∀ k' L', (G.at k ((h k).ver + 1) L).loc k' (upd h k ⟨(h k).ver + 1, some (.arr sz es')⟩ k').ver = some L' → G.loc k' (h k').ver = some L' := by
    intro k' L' x
    by_cases hk : k' = k
    · subst hk
      rw [upd_same, Gh.at_same] at x
      rw [hL]; exact x
    · rw [upd_ne _ _ hk, Gh.at_ne _ _ (by simp [hk])] at x
      exact x
  refine ⟨⟨below_setRow hr.below hB _, by simpa using hr.bsz, fun b o x => by simpa using hr.immlt b o x, hr.i0, hr.immlow, ?_, ?_, ?_, ?_, fun k' => by
    by_cases hk : k' = k
    · subst hk; rw [upd_same]; exact upd_same _ _ _
    · rw [upd_ne _ _ hk]; exact (upd_ne _ _ hk).trans (hr.lim k'), hr.maps.set hex rfl (maps_setRow w hb) (by omega) (by first | exact flex_none | exact flex_arr)⟩, hex⟩
  · intro k' v L' hL'
    by_cases hk : k' = k ∧ v = (h k).ver + 1
    · obtain ⟨rfl, rfl⟩ := hk; simp [upd]
    · rw [Gh.at_ne _ _ hk] at hL'
      have := hr.fresh k' v L' hL'
      by_cases hk' : k' = k
      · subst hk'; rw [upd_same]; show v ≤ _ + 1; omega
      · rw [upd_ne _ _ hk']; exact this
  · intro k' L' x
    replace x := key k' L' x
    obtain ⟨h1, ⟨a1, e1, h2, h3⟩, h4⟩ := hr.own k' L' x
    by_cases hk : L'.b = L.b
    · have := hr.dis k' k L' L x hL hk
      subst this
      rw [hL] at x
      simp only [Option.some.injEq] at x
      subst x
      exact ⟨h1, ⟨arr', e, setRow_heap w _ _ _ _ _ hb, by rw [hs]; exact hs0⟩, h4⟩
    · exact ⟨h1, ⟨a1, e1, by rw [setRow_other w _ _ _ hk]; exact h2, h3⟩, h4⟩
  · intro k1 k2 L1 L2 x1 x2; exact hr.dis k1 k2 L1 L2 (key _ _ x1) (key _ _ x2)
  · intro k' ob ho'
    by_cases hk : k' = k
    · subst hk
      rw [upd_same] at ho' ⊢
      simp only [Option.some.injEq] at ho'
      subst ho'
      refine .inr ⟨L, Gh.at_same _ _ _ _, hLs, hfr, hcap, hsz, hlo, fun t c ht => ?_⟩
      obtain ⟨u, hu, hu1, hur⟩ := hc t c ht
      exact ⟨u, by rw [cell_setRow_same w L.b t _ _ _ _ hb]; exact hu, hu1, hur.mono hex⟩
    · rw [upd_ne _ _ hk] at ho' ⊢
      refine (hr.objs k' ob ho').mono (hr.le k') hex (fun L' hL' t => cell_setRow_other w L.b arr' ⟨L'.b, t, none⟩ (fun hbb => hk (hr.dis k' k L' L hL' hL hbb)))

theorem HR.newVec (hr : HR G B w0 I0 h w) (k sz cap : Nat) (l : List D) (arr : Array Value) (e : TypeId) (hs : arr.size = cap * sz) (hcap : l.length ≤ cap) (hsz : ∀ x ∈ l, x.cells.length = sz)
    (hc : ∀ (t : Nat) (c : D), (D.flat l)[t]? = some c → ∃ u : Value, arr[t]? = some u ∧ c.one = true ∧ DRep G.imm w c u) :
    ∃ G', HR G' B w0 I0 (upd h k ⟨(h k).ver + 1, none⟩) (w.alloc (.cells arr e)) ∧ Ext G w G' (w.alloc (.cells arr e)) ∧
      Rep G' (w.alloc (.cells arr e)) (.vec k ((h k).ver + 1) sz l) (.slice (some ⟨w.heap.size, 0, none⟩) l.length cap) := by
  obtain ⟨G', g1, g2, g3, _⟩ := hr.newVecT k sz cap l arr e hs hcap hsz hc
  exact ⟨G', g1, g2, g3⟩

/-- Of which type a key's block is, written down under another key. -/
theorem HR.note (hr : HR G B w0 I0 h w) (k2 k v : Nat) (T : TypeId) (n : Option Nat) (hv : v ≤ (h k).ver) (hL : ∀ L, G.loc k v = some L → L.ty = T ∧ ∀ m, n = some m → L.cap * L.sz = m) :
    HR G B w0 I0 (upd h k2 ⟨(h k2).ver, some (.typ k v T n)⟩) w := by
  have hver : ∀ k', (upd h k2 ⟨(h k2).ver, some (.typ k v T n)⟩ k').ver = (h k').ver := fun k' => by
    by_cases hk : k' = k2
    · subst hk; rw [upd_same]
    · rw [upd_ne _ _ hk]
  refine ⟨hr.below, hr.bsz, hr.immlt, hr.i0, hr.immlow, fun k' v' L x => by rw [hver]; exact hr.fresh k' v' L x, fun k' L x => by rw [hver] at x; exact hr.own k' L x,
    fun k1 k3 L1 L3 x1 x3 => by rw [hver] at x1 x3; exact hr.dis k1 k3 L1 L3 x1 x3, fun k' ob ho => ?_, fun k' => by rw [hver]; exact hr.lim k',
    hr.maps.set (Ext.refl G w) rfl (fun _ _ _ x => x) (Nat.le_refl _) flex_typ⟩
  rw [hver]
  by_cases hk : k' = k2
  · subst hk
    rw [upd_same] at ho
    cases ho
    exact ⟨by rw [hr.lim]; exact hv, hL⟩
  · rw [upd_ne _ _ hk] at ho
    exact hr.objs k' ob ho

/-- A growing list grows within its block. -/
theorem HR.growT (hr : HR G B w0 I0 h w) {k : Nat} {l news : List D} {L : Loc} (ho : (h k).ob = none) (hL : G.loc k (h k).ver = some L) (hfr : L.fr = l.length * L.sz)
    {arr arr' : Array Value} {e : TypeId} (hb : w.heap[L.b]? = some (.cells arr e (0, 0))) (hs : arr'.size = arr.size) (hcap : l.length + news.length ≤ L.cap) (hsz : ∀ x ∈ l, x.cells.length = L.sz) (hsz' : ∀ x ∈ news, x.cells.length = L.sz)
    (hold : ∀ t, t < l.length * L.sz → arr'[t]? = arr[t]?)
    (hc : ∀ (t : Nat) (c : D), (D.flat (l ++ news))[t]? = some c → ∃ u : Value, arr'[t]? = some u ∧ c.one = true ∧ DRep G.imm w c u) :
    ∃ G', HR G' B w0 I0 (upd h k ⟨(h k).ver + 1, none⟩) (w.setRow L.b arr') ∧ Ext G w G' (w.setRow L.b arr') ∧
      Rep G' (w.setRow L.b arr') (.vec k ((h k).ver + 1) L.sz (l ++ news)) (.slice (some ⟨L.b, 0, none⟩) (l.length + news.length) L.cap) ∧
      ∀ L', G'.loc k ((h k).ver + 1) = some L' → L'.ty = L.ty := by
  obtain ⟨hB, ⟨arr0, e0, hb0, hs0⟩, hi⟩ := hr.own k L hL
  rw [hb] at hb0
  simp only [Option.some.injEq, Obj.cells.injEq] at hb0
  obtain ⟨rfl, rfl, _⟩ := hb0
  have hn := hr.none_next k
  have hlk : G.lim k < (h k).ver + 1 := by rw [hr.lim]; omega
  have hszA : ∀ x ∈ l ++ news, x.cells.length = L.sz := by
    intro x hx
    rcases List.mem_append.1 hx with hx | hx
    · exact hsz x hx
    · exact hsz' x hx
  have hfl : (D.flat (l ++ news)).length = (l.length + news.length) * L.sz := by rw [D.flat, flatMap_len _ L.sz _ hszA, List.length_append]
  let L1 : Loc := { L with fr := (l.length + news.length) * L.sz }
  let G' : Gh := (G.at k ((h k).ver + 1) L1).more (fun b o => b = L.b ∧ o < (l.length + news.length) * L.sz)
  have hcellb : ∀ t, (w.setRow L.b arr').cell? ⟨L.b, t, none⟩ = arr'[t]? := fun t => cell_setRow_same w L.b t _ _ _ _ hb
  have hcell0 : ∀ t, w.cell? ⟨L.b, t, none⟩ = arr[t]? := fun t => by simp [World.cell?, hb]
  have hex : Ext G w G' (w.setRow L.b arr') := by
    refine ⟨fun _ _ x => .inl x, (Ext.at (L := L1) hn hlk w).loc, fun b i x => ?_, by simp, (Ext.at (L := L1) hn hlk w).lim, (Ext.at (L := L1) hn hlk w).nloc, fun _ _ _ x => x, kept_setRow hb⟩
    by_cases hbb : b = L.b
    · subst hbb
      rw [hcellb, hcell0, hold i (by have := hi i x; omega)]
    · exact cell_setRow_other w L.b arr' ⟨b, i, none⟩ hbb
  have hL1 : G'.loc k ((h k).ver + 1) = some L1 := Gh.at_same _ _ _ _
  have key : ∀ k' L', G'.loc k' (upd h k ⟨(h k).ver + 1, none⟩ k').ver = some L' → (k' = k ∧ L' = L1) ∨ (k' ≠ k ∧ G.loc k' (h k').ver = some L') := by
    intro k' L' hL
    by_cases hk : k' = k
    · subst hk
      rw [upd_same] at hL
      rw [show G'.loc k' ((h k').ver + 1) = some L1 from Gh.at_same _ _ _ _] at hL
      exact .inl ⟨rfl, (Option.some.inj hL).symm⟩
    · rw [upd_ne _ _ hk] at hL
      exact .inr ⟨hk, by rw [← Gh.at_ne G L1 (k := k) (v := (h k).ver + 1) (by simp [hk])]; exact hL⟩
  have hU : ∃ U : Nat → Value, ∀ t c, (D.flat (l ++ news))[t]? = some c → arr'[t]? = some (U t) ∧ c.one = true ∧ DRep G.imm w c (U t) := by
    refine ⟨fun t => arr'.getD t undef, fun t c ht => ?_⟩
    obtain ⟨u, hu, h1, h2⟩ := hc t c ht
    have hg : arr'.getD t undef = u := by simp [Array.getD_eq_getD_getElem?, hu]
    exact ⟨hu.trans (congrArg some hg.symm), h1, by simpa only [hg] using h2⟩
  obtain ⟨U, hU⟩ := hU
  refine ⟨G', ⟨below_setRow hr.below hB _, by simpa using hr.bsz, ?_, fun b o x => .inl (hr.i0 b o x), ?_, ?_, ?_, ?_, ?_, fun k' => by
    by_cases hk : k' = k
    · subst hk; rw [upd_same]; exact upd_same _ _ _
    · rw [upd_ne _ _ hk]; exact (upd_ne _ _ hk).trans (hr.lim k'), hr.maps.set hex rfl (maps_setRow w hb) (by omega) (by first | exact flex_none | exact flex_arr)⟩, hex, ?_, fun L' hL' => by rw [hL1] at hL'; cases hL'; rfl⟩
  · rintro b o (x | ⟨rfl, _⟩)
    · simpa using hr.immlt b o x
    · simpa using hr.blt hL
  · rintro b o (x | ⟨rfl, _⟩) hbB
    · exact hr.immlow b o x hbB
    · omega
  · intro k' v L' hL'
    by_cases hk : k' = k ∧ v = (h k).ver + 1
    · obtain ⟨rfl, rfl⟩ := hk; simp [upd]
    · rw [show G'.loc k' v = G.loc k' v from Gh.at_ne _ _ hk] at hL'
      have := hr.fresh k' v L' hL'
      by_cases hk' : k' = k
      · subst hk'; rw [upd_same]; show v ≤ _ + 1; omega
      · rw [upd_ne _ _ hk']; exact this
  · intro k' L' hL'
    rcases key k' L' hL' with ⟨rfl, rfl⟩ | ⟨hk, hL'⟩
    · refine ⟨hB, ⟨arr', e, setRow_heap w _ _ _ _ _ hb, by rw [hs]; exact hs0.1, hs0.2⟩, ?_⟩
      rintro o (x | ⟨_, x⟩)
      · have := hi o x
        show o < (l.length + news.length) * L.sz
        rw [Nat.add_mul]; omega
      · exact x
    · have hbb : L'.b ≠ L.b := fun hbb => hk (hr.dis k' k L' L hL' hL hbb)
      obtain ⟨h1, ⟨a1, e1, h2, h3⟩, h4⟩ := hr.own k' L' hL'
      refine ⟨h1, ⟨a1, e1, by rw [setRow_other w _ _ _ hbb]; exact h2, h3⟩, ?_⟩
      rintro o (x | ⟨x, _⟩)
      · exact h4 o x
      · exact absurd x hbb
  · intro k1 k2 L2 L3 hL2 hL3 hbb
    rcases key k1 L2 hL2 with ⟨h1e, h1L⟩ | ⟨hk1, hM2⟩ <;> rcases key k2 L3 hL3 with ⟨h2e, h2L⟩ | ⟨hk2, hM3⟩
    · rw [h1e, h2e]
    · subst h1L; rw [h1e]; exact hr.dis _ _ L L3 hL hM3 hbb
    · subst h2L; rw [h2e]; exact hr.dis _ _ L2 L hM2 hL hbb
    · exact hr.dis k1 k2 L2 L3 hM2 hM3 hbb
  · intro k' ob ho'
    by_cases hk : k' = k
    · subst hk; rw [upd_same] at ho'; cases ho'
    · rw [upd_ne _ _ hk] at ho' ⊢
      refine (hr.objs k' ob ho').mono (hr.le k') hex (fun L' hL' t => cell_setRow_other w L.b arr' ⟨L'.b, t, none⟩ (fun hbb => hk (hr.dis k' k L' L hL' hL hbb)))
  · have hv := Rep.vec (w := w.setRow L.b arr') k ((h k).ver + 1) (l ++ news) L1 hL1 (by simp [L1]) (by simpa [L1] using hcap) hszA (.ro (l ++ news) L.b 0 L.cap L.sz U (by simpa using hcap) hszA (fun x hx => by
        obtain ⟨t, ht⟩ := List.getElem?_of_mem hx
        exact (hU t x ht).2.1) (fun t c ht => by
          have : t < (D.flat (l ++ news)).length := (List.getElem?_eq_some_iff.1 ht).1
          exact .inr ⟨rfl, by omega⟩) (fun t c ht => by
            rw [Nat.zero_add, hcellb]; exact (hU t c ht).1) (fun t c ht => (hU t c ht).2.2.mono hex.imm hex.cell))
    rw [List.length_append] at hv
    exact hv

/-- A new block of immutable data, under no key. -/
theorem HR.newImm (hr : HR G B w0 I0 h w) (l : List D) (sz cap : Nat) (arr : Array Value) (e : TypeId) {fz : Nat × Nat} (hcap : l.length ≤ cap) (hsz : ∀ x ∈ l, x.cells.length = sz)
    (hc : ∀ (t : Nat) (c : D), (D.flat l)[t]? = some c → ∃ u : Value, arr[t]? = some u ∧ c.one = true ∧ DRep G.imm w c u) :
    ∃ G', HR G' B w0 I0 h (w.alloc (.cells arr e fz)) ∧ Ext G w G' (w.alloc (.cells arr e fz)) ∧ DRep G'.imm (w.alloc (.cells arr e fz)) (.ro l) (.slice (some ⟨w.heap.size, 0, none⟩) l.length cap) := by
  let G' : Gh := G.more (fun b _ => b = w.heap.size)
  have hex : Ext G w G' (w.alloc (.cells arr e fz)) :=
    ⟨fun _ _ x => .inl x, fun _ _ _ x => x, fun b i hb => cell_alloc_old (hr.immlt b i hb), by simp, fun _ => Nat.le_refl _, fun _ _ _ x => x, fun _ _ _ x => x, kept_alloc w _⟩
  have hU : ∃ U : Nat → Value, ∀ t c, (D.flat l)[t]? = some c → arr[t]? = some (U t) ∧ c.one = true ∧ DRep G.imm w c (U t) := by
    refine ⟨fun t => arr.getD t undef, fun t c ht => ?_⟩
    obtain ⟨u, hu, h1, h2⟩ := hc t c ht
    have hg : arr.getD t undef = u := by simp [Array.getD_eq_getD_getElem?, hu]
    exact ⟨hu.trans (congrArg some hg.symm), h1, by simpa only [hg] using h2⟩
  obtain ⟨U, hU⟩ := hU
  refine ⟨G', ⟨hr.below.alloc hr.bsz _, by have := hr.bsz; simp; omega, ?_, fun b o x => .inl (hr.i0 b o x), ?_, hr.fresh, ?_, hr.dis, ?_, hr.lim, hr.maps.step hex rfl (maps_alloc w _) (fun _ => Nat.le_refl _) (fun _ _ _ _ => rfl)⟩, hex, ?_⟩
  · rintro b o (x | rfl)
    · have := hr.immlt b o x; simp; omega
    · simp
  · rintro b o (x | rfl) hb
    · exact hr.immlow b o x hb
    · have := hr.bsz; omega
  · intro k' L' hL'
    obtain ⟨h1, ⟨arr', e', h2, h3⟩, h4⟩ := hr.own k' L' hL'
    refine ⟨h1, ⟨arr', e', (heap_alloc_lt (hr.blt hL')).trans h2, h3⟩, ?_⟩
    rintro o (x | x)
    · exact h4 o x
    · have := hr.blt hL'; omega
  · intro k' ob ho
    exact (hr.objs k' ob ho).mono (hr.le k') hex (fun L hL t => cell_alloc_old (hr.blt hL))
  · refine .ro l _ 0 cap sz U hcap hsz (fun x hx => ?_) (fun t c ht => .inr rfl) ?_ (fun t c ht => (hU t c ht).2.2.mono hex.imm hex.cell)
    · obtain ⟨t, ht⟩ := List.getElem?_of_mem hx
      exact (hU t x ht).2.1
    · intro t c ht
      rw [Nat.zero_add, show (w.alloc (.cells arr e fz)).cell? ⟨w.heap.size, t, none⟩ = arr[t]? from by rw [World.cell?, heap_alloc_new]; rfl]; exact (hU t c ht).1

/-- A new version without a place: a list that is still nil. -/
theorem HR.bump (hr : HR G B w0 I0 h w) (k : Nat) (ob : Option Ob) (hob : ∀ o, ob = some o → ∃ sz, o = .arr sz []) :
    ∃ G', HR G' B w0 I0 (upd h k ⟨(h k).ver + 1, ob⟩) w ∧ Ext G w G' w ∧ G'.loc k ((h k).ver + 1) = none := by
  have hn := hr.none_next k
  have key : ∀ k' L', G.loc k' (upd h k ⟨(h k).ver + 1, ob⟩ k').ver = some L' → k' ≠ k ∧ G.loc k' (h k').ver = some L' := by
    intro k' L' hL
    by_cases hk : k' = k
    · subst hk; rw [upd_same] at hL; simp only [hn] at hL; cases hL
    · rw [upd_ne _ _ hk] at hL; exact ⟨hk, hL⟩
  let G' : Gh := { G with lim := upd G.lim k ((h k).ver + 1) }
  have hex : Ext G w G' w := ⟨fun _ _ x => x, fun _ _ _ x => x, fun _ _ _ => rfl, Nat.le_refl _, fun k' => by
    by_cases hk : k' = k
    · subst hk; show _ ≤ upd G.lim k' _ k'; rw [upd_same, hr.lim]; omega
    · show _ ≤ upd G.lim k _ k'; rw [upd_ne _ _ hk]; exact Nat.le_refl _, fun _ _ _ x => x, fun _ _ _ x => x, kept_same rfl⟩
  refine ⟨G', ⟨hr.below, hr.bsz, hr.immlt, hr.i0, hr.immlow, ?_, fun k' L' x => hr.own k' L' (key k' L' x).2, fun k1 k2 L1 L2 x1 x2 => hr.dis k1 k2 L1 L2 (key _ _ x1).2 (key _ _ x2).2, ?_, fun k' => by
    by_cases hk : k' = k
    · subst hk; rw [upd_same]; exact upd_same _ _ _
    · rw [upd_ne _ _ hk]; exact (upd_ne _ _ hk).trans (hr.lim k'), hr.maps.set hex rfl (fun _ _ _ x => x) (by omega) (fun o hf e => by obtain ⟨sz, rfl⟩ := hob _ e; cases hf)⟩, hex, hn⟩
  · intro k' v L' x
    have := hr.fresh k' v L' x
    by_cases hk : k' = k
    · subst hk; rw [upd_same]; show v ≤ _ + 1; omega
    · rw [upd_ne _ _ hk]; exact this
  · intro k' o ho
    by_cases hk : k' = k
    · subst hk
      rw [upd_same] at ho ⊢
      obtain ⟨sz, rfl⟩ := hob o ho
      exact .inl ⟨rfl, hn⟩
    · rw [upd_ne _ _ hk] at ho ⊢
      exact (hr.objs k' o ho).mono (hr.le k') hex (fun _ _ _ => rfl)
end
end Go.Avm
