/-
  The abstract machine, part Kb: maps; a string's byte.
-/
import Derived.Test.YtkhcaamgjjhpeaaGreatDoorAvmK
import Derived.MapKept
import Derived.WideKeyRuns
import Derived.Laws.IdiomStrings
import Derived.Lib.UnsafeStr
import Derived.RangeFuncRecord
set_option linter.unusedSectionVars false
namespace Go.Avm
open Go.RowKit
variable [GlobTab]
variable {P : Program} {G : Gh} {B : Nat} {w0 w : World} {I0 : Nat → Nat → Prop} {h : Heap}

/-- A block that nobody looks into. -/
theorem HR.allocAny (hr : HR G B w0 I0 h w) (o : Obj) : HR G B w0 I0 h (w.alloc o) :=
  ⟨hr.below.alloc hr.bsz _, by have := hr.bsz; simp; omega, fun b o x => by have := hr.immlt b o x; simp; omega, hr.i0, hr.immlow, hr.fresh, fun k' L' hL' => by
    obtain ⟨h1, ⟨arr', e', h2, h3⟩, h4⟩ := hr.own k' L' hL'
    exact ⟨h1, ⟨arr', e', (heap_alloc_lt (hr.blt hL')).trans h2, h3⟩, h4⟩, hr.dis, fun k' ob ho => (hr.objs k' ob ho).mono (hr.le k') (Ext.alloc hr o) (fun L hL t => cell_alloc_old (hr.blt hL)), hr.lim,
    hr.maps.step (Ext.alloc hr o) rfl (maps_alloc w _) (fun _ => Nat.le_refl _) (fun _ _ _ _ => rfl)⟩

def Gh.atMap (G : Gh) (k v b : Nat) : Gh := { G with mloc := fun k' v' => if k' = k ∧ v' = v then some b else G.mloc k' v', lim := upd G.lim k v }
theorem HR.noneMap (hr : HR G B w0 I0 h w) (k : Nat) : G.mloc k ((h k).ver + 1) = none := by
  cases hL : G.mloc k ((h k).ver + 1) with
  | none => rfl
  | some L => have := (hr.maps.low _ _ _ hL).2.2; omega
/-- A new map, or a new loop over a function. -/
theorem HR.newFixO (hr : HR G B w0 I0 h w) (k : Nat) {b : Nat} {oo : Option Ob} {o : Obj} (hfl : ∀ o', oo = some o' → o'.flex = false) (hB : B ≤ b) (hnew : ∀ k v, G.mloc k v ≠ some b) (hfo : isFix o = true) (hbo : w.heap[b]? = some o)
    (hm : ∀ es c, oo = some (.map es c) → MRep G.imm w b es c) (hlp : ∀ fno N env ps as bd st, oo = some (.lp fno N env ps as bd st) → ∃ r, w.heap[b]? = some (.loop r) ∧ LRep G w N env ps as bd st r)
    (hit : ∀ km vm since seen, oo = some (.itr km vm since seen) → ∃ bm sa c0, G.mloc km vm = some bm ∧ w.heap[b]? = some (.mapIter (some bm) since sa c0) ∧ sa.toList = seen ∧ c0 = since) :
    HR (G.atMap k ((h k).ver + 1) b) B w0 I0 (upd h k ⟨(h k).ver + 1, oo⟩) w ∧ Ext G w (G.atMap k ((h k).ver + 1) b) w := by
  have hn := hr.noneMap k
  have hex : Ext G w (G.atMap k ((h k).ver + 1) b) w := ⟨fun _ _ x => x, fun _ _ _ x => x, fun _ _ _ => rfl, Nat.le_refl _, fun k' => by
    by_cases hk : k' = k
    · subst hk; show _ ≤ upd G.lim k' _ k'; rw [upd_same, hr.lim]; omega
    · show _ ≤ upd G.lim k _ k'; rw [upd_ne _ _ hk]; exact Nat.le_refl _, fun _ _ _ x => x, fun k' v' b' x => by
    show (if k' = k ∧ v' = (h k).ver + 1 then some b else G.mloc k' v') = some b'
    rw [if_neg (by rintro ⟨rfl, rfl⟩; rw [hn] at x; cases x)]; exact x, kept_same rfl⟩
  have key : ∀ k' L', G.loc k' (upd h k ⟨(h k).ver + 1, oo⟩ k').ver = some L' → k' ≠ k ∧ G.loc k' (h k').ver = some L' := by
    intro k' L' hL
    by_cases hk : k' = k
    · subst hk; rw [upd_same] at hL; simp only [hr.none_next k'] at hL; cases hL
    · rw [upd_ne _ _ hk] at hL; exact ⟨hk, hL⟩
  refine ⟨⟨hr.below, hr.bsz, hr.immlt, hr.i0, hr.immlow, ?_, fun k' L' x => hr.own k' L' (key k' L' x).2, fun k1 k2 L1 L2 x1 x2 => hr.dis k1 k2 L1 L2 (key _ _ x1).2 (key _ _ x2).2, ?_, fun k' => by
    by_cases hk : k' = k
    · subst hk; rw [upd_same]; exact upd_same _ _ _
    · rw [upd_ne _ _ hk]; exact (upd_ne _ _ hk).trans (hr.lim k'), ?_⟩, hex⟩
  · intro k' v L' x
    have := hr.fresh k' v L' x
    by_cases hk : k' = k
    · subst hk; rw [upd_same]; show v ≤ _ + 1; omega
    · rw [upd_ne _ _ hk]; exact this
  · intro k' o1 ho
    by_cases hk : k' = k
    · subst hk
      rw [upd_same] at ho ⊢
      have hfl' := hfl o1 ho
      cases o1 with
      | arr _ _ => cases hfl'
      | typ _ _ _ _ => cases hfl'
      | map _ _ => trivial
      | lp _ _ _ _ _ _ _ => trivial
      | itr _ _ _ _ => trivial
    · rw [upd_ne _ _ hk] at ho ⊢
      exact (hr.objs k' o1 ho).mono (hr.le k') hex (fun _ _ _ => rfl)
  · have hml : ∀ k' v' b', (G.atMap k ((h k).ver + 1) b).mloc k' v' = some b' → (k' = k ∧ v' = (h k).ver + 1 ∧ b' = b) ∨ G.mloc k' v' = some b' := by
      intro k' v' b' x
      replace x : (if k' = k ∧ v' = (h k).ver + 1 then some b else G.mloc k' v') = some b' := x
      split at x
      · rename_i hc; simp only [Option.some.injEq] at x; exact .inl ⟨hc.1, hc.2, x.symm⟩
      · exact .inr x
    refine ⟨fun k' v' b' x => ?_, fun k1 v1 k2 v2 b' x1 x2 => ?_, fun k' es' c' ho => ?_, fun k' fno N env ps as bd st ho => ?_, fun k' km vm since seen ho => ?_, hr.maps.glob⟩
    · rcases hml _ _ _ x with ⟨rfl, rfl, rfl⟩ | x
      · exact ⟨hB, ⟨o, hfo, hbo⟩, by rw [upd_same]; exact Nat.le_refl _⟩
      · obtain ⟨h1, h2, h3⟩ := hr.maps.low _ _ _ x
        refine ⟨h1, h2, ?_⟩
        by_cases hk : k' = k
        · subst hk; rw [upd_same]; show v' ≤ _ + 1; omega
        · rw [upd_ne _ _ hk]; exact h3
    · rcases hml _ _ _ x1 with ⟨g1, g2, g3⟩ | y1 <;> rcases hml _ _ _ x2 with ⟨h1, h2, h3⟩ | y2
      · exact ⟨g1.trans h1.symm, g2.trans h2.symm⟩
      · exact absurd (g3 ▸ y2) (hnew _ _)
      · exact absurd (h3 ▸ y1) (hnew _ _)
      · exact hr.maps.inj _ _ _ _ _ y1 y2
    · by_cases hk : k' = k
      · subst hk
        rw [upd_same] at ho ⊢
        exact ⟨b, by simp [Gh.atMap], hm _ _ ho⟩
      · rw [upd_ne _ _ hk] at ho ⊢
        obtain ⟨b', h1, h2⟩ := hr.maps.obj k' es' c' ho
        exact ⟨b', hex.mloc _ _ _ h1, h2⟩
    · by_cases hk : k' = k
      · subst hk
        rw [upd_same] at ho ⊢
        obtain ⟨r, h1, h2⟩ := hlp _ _ _ _ _ _ _ ho
        exact ⟨b, r, by simp [Gh.atMap], h1, h2.mono hex⟩
      · rw [upd_ne _ _ hk] at ho ⊢
        obtain ⟨b', r, h1, h2, h3⟩ := hr.maps.loops k' fno N env ps as bd st ho
        exact ⟨b', r, hex.mloc _ _ _ h1, h2, h3.mono hex⟩
    · by_cases hk : k' = k
      · subst hk
        rw [upd_same] at ho ⊢
        obtain ⟨bm, sa, c0, h1, h2⟩ := hit _ _ _ _ ho
        exact ⟨b, bm, sa, c0, by simp [Gh.atMap], hex.mloc _ _ _ h1, h2⟩
      · rw [upd_ne _ _ hk] at ho ⊢
        obtain ⟨b', bm, sa, c0, h1, h2, h3⟩ := hr.maps.iters k' km vm since seen ho
        exact ⟨b', bm, sa, c0, hex.mloc _ _ _ h1, hex.mloc _ _ _ h2, h3⟩
theorem HR.newFix (hr : HR G B w0 I0 h w) (k : Nat) {b : Nat} {ob : Ob} {o : Obj} (hfl : ob.flex = false) (hni : ∀ km vm since seen, ob ≠ .itr km vm since seen) (hB : B ≤ b) (hnew : ∀ k v, G.mloc k v ≠ some b) (hfo : isFix o = true) (hbo : w.heap[b]? = some o)
    (hm : ∀ es c, ob = .map es c → MRep G.imm w b es c) (hlp : ∀ fno N env ps as bd st, ob = .lp fno N env ps as bd st → ∃ r, w.heap[b]? = some (.loop r) ∧ LRep G w N env ps as bd st r) :
    HR (G.atMap k ((h k).ver + 1) b) B w0 I0 (upd h k ⟨(h k).ver + 1, some ob⟩) w ∧ Ext G w (G.atMap k ((h k).ver + 1) b) w :=
  hr.newFixO k (oo := some ob) (fun o' e => by cases e; exact hfl) hB hnew hfo hbo (fun es c e => by cases e; exact hm _ _ rfl) (fun fno N env ps as bd st e => by cases e; exact hlp _ _ _ _ _ _ _ rfl) (fun km vm since seen e => absurd (Option.some.inj e) (hni km vm since seen))
theorem HR.newMap (hr : HR G B w0 I0 h w) (k : Nat) {b c : Nat} {es : List (D × D × Nat)} (hB : B ≤ b) (hnew : ∀ k v, G.mloc k v ≠ some b) (hm : MRep G.imm w b es c) :
    HR (G.atMap k ((h k).ver + 1) b) B w0 I0 (upd h k ⟨(h k).ver + 1, some (.map es c)⟩) w ∧ Ext G w (G.atMap k ((h k).ver + 1) b) w := by
  have hm2 := hm
  obtain ⟨ms, hms, _, _⟩ := hm
  exact hr.newFix k rfl (fun _ _ _ _ e => by cases e) hB hnew (o := .map ms c) rfl hms (fun es' c' e => by cases e; exact hm2) (fun _ _ _ _ _ _ _ e => by cases e)

/-- A map, or a loop's record, is written. -/
theorem HR.setFix (hr : HR G B w0 I0 h w) {k b : Nat} {o o' : Obj} {ob' : Option Ob} (hL : G.mloc k (h k).ver = some b) (hb : w.heap[b]? = some o) (hfo : isFix o = true) (hfo' : isFix o' = true) (hbk : isBook o = true → bookTo o o') (hfl : ∀ x, ob' = some x → x.flex = false)
    (hm : ∀ es c, ob' = some (.map es c) → MRep G.imm (w.putObj b o') b es c) (hlp : ∀ fno N env ps as bd st, ob' = some (.lp fno N env ps as bd st) → ∃ r, (w.putObj b o').heap[b]? = some (.loop r) ∧ LRep G w N env ps as bd st r)
    (hit : ∀ km vm since seen, ob' = some (.itr km vm since seen) → ∃ bm sa c0, G.mloc km vm = some bm ∧ (w.putObj b o').heap[b]? = some (.mapIter (some bm) since sa c0) ∧ sa.toList = seen ∧ c0 = since := by intro _ _ _ _ e; cases e) :
    HR G B w0 I0 (upd h k ⟨(h k).ver, ob'⟩) (w.putObj b o') ∧ Ext G w G (w.putObj b o') := by
  have hlt : b < w.heap.size := (Array.getElem?_eq_some_iff.1 hb).1
  have hB : B ≤ b := (hr.maps.low _ _ _ hL).1
  have hcell : ∀ b' i, (w.putObj b o').cell? ⟨b', i, none⟩ = w.cell? ⟨b', i, none⟩ := by
    intro b' i
    by_cases hbb : b' = b
    · subst hbb
      simp only [World.cell?, World.putObj_heap_same hlt, hb]
      cases o <;> cases o' <;> first | rfl | (cases hfo; done) | (cases hfo'; done)
    · simp only [World.cell?, World.putObj_heap_other hbb]
  have hex : Ext G w G (w.putObj b o') := ⟨fun _ _ x => x, fun _ _ _ x => x, fun b' i _ => hcell b' i, by simp, fun _ => Nat.le_refl _, fun _ _ _ x => x, fun _ _ _ x => x, fun b' o1 hk x => by
    by_cases hne : b' = b
    · subst hne
      rw [hb] at x
      cases x
      exact ⟨o', World.putObj_heap_same hlt, hbk hk⟩
    · exact ⟨o1, by rw [World.putObj_heap_other hne]; exact x, bookTo_refl o1⟩⟩
  have hver : ∀ k', (upd h k ⟨(h k).ver, ob'⟩ k').ver = (h k').ver := by
    intro k'
    by_cases hk : k' = k
    · subst hk; rw [upd_same]
    · rw [upd_ne _ _ hk]
  refine ⟨⟨hr.below.trans ⟨rfl, rfl, rfl, by simp, fun k' hk' => World.putObj_heap_other (by omega)⟩, by simpa using hr.bsz, fun b o x => by simpa using hr.immlt b o x, hr.i0, hr.immlow, fun k' v L' x => by rw [hver]; exact hr.fresh k' v L' x, fun k' L' x => ?_,
    fun k1 k2 L1 L2 x1 x2 => by rw [hver] at x1 x2; exact hr.dis k1 k2 L1 L2 x1 x2, fun k' ob ho => ?_, fun k' => by rw [hver]; exact hr.lim k', ?_⟩, hex⟩
  · rw [hver] at x
    obtain ⟨h1, ⟨a1, e1, h2, h3⟩, h4⟩ := hr.own k' L' x
    exact ⟨h1, ⟨a1, e1, by rw [World.putObj_heap_other (by rintro rfl; rw [hb] at h2; cases h2; cases hfo)]; exact h2, h3⟩, h4⟩
  · by_cases hk : k' = k
    · subst hk
      rw [upd_same] at ho ⊢
      have := hfl _ ho
      cases ob with
      | arr _ _ => cases this
      | typ _ _ _ _ => cases this
      | map _ _ => trivial
      | lp _ _ _ _ _ _ _ => trivial
      | itr _ _ _ _ => trivial
    · rw [upd_ne _ _ hk] at ho ⊢
      exact (hr.objs k' ob ho).mono (hr.le k') hex (fun L hL t => hcell _ _)
  · refine ⟨fun k' v' b' x => ?_, hr.maps.inj, fun k' es1 c1 ho => ?_, fun k' fno N env ps as bd st ho => ?_, fun k' km vm since seen ho => ?_, hr.maps.glob.mono hex.imm hex.cell⟩
    · obtain ⟨h1, ⟨o1, h2, h2'⟩, h3⟩ := hr.maps.low _ _ _ x
      refine ⟨h1, ?_, by rw [hver]; exact h3⟩
      by_cases hbb : b' = b
      · subst hbb; exact ⟨_, hfo', World.putObj_heap_same hlt⟩
      · exact ⟨o1, h2, by rw [World.putObj_heap_other hbb]; exact h2'⟩
    · by_cases hk : k' = k
      · subst hk
        rw [upd_same] at ho ⊢
        exact ⟨b, hL, hm _ _ ho⟩
      · rw [upd_ne _ _ hk] at ho ⊢
        obtain ⟨b', h1, ms1, h2, h3, h4⟩ := hr.maps.obj k' es1 c1 ho
        have hbb : b' ≠ b := by
          rintro rfl
          exact hk (hr.maps.inj _ _ _ _ _ h1 hL).1
        exact ⟨b', h1, ms1, by rw [World.putObj_heap_other hbb]; exact h2, h3, fun i e m he hm => by
          obtain ⟨g1, g2, g3⟩ := h4 i e m he hm
          exact ⟨g1.mono hex.imm hex.cell, g2.mono hex.imm hex.cell, g3⟩⟩
    · by_cases hk : k' = k
      · subst hk
        rw [upd_same] at ho ⊢
        obtain ⟨r, h1, h2⟩ := hlp _ _ _ _ _ _ _ ho
        exact ⟨b, r, hL, h1, h2.mono hex⟩
      · rw [upd_ne _ _ hk] at ho ⊢
        obtain ⟨b', r, h1, h2, h3⟩ := hr.maps.loops k' fno N env ps as bd st ho
        have hbb : b' ≠ b := by
          rintro rfl
          exact hk (hr.maps.inj _ _ _ _ _ h1 hL).1
        exact ⟨b', r, h1, by rw [World.putObj_heap_other hbb]; exact h2, h3.mono hex⟩
    · by_cases hk : k' = k
      · subst hk
        rw [upd_same] at ho ⊢
        obtain ⟨bm, sa, c0, h1, h2⟩ := hit _ _ _ _ ho
        exact ⟨b, bm, sa, c0, hL, h1, h2⟩
      · rw [upd_ne _ _ hk] at ho ⊢
        obtain ⟨b', bm, sa, c0, h1, h2, h3, h4⟩ := hr.maps.iters k' km vm since seen ho
        have hbb : b' ≠ b := by
          rintro rfl
          exact hk (hr.maps.inj _ _ _ _ _ h1 hL).1
        exact ⟨b', bm, sa, c0, h1, h2, by rw [World.putObj_heap_other hbb]; exact h3, h4⟩
theorem HR.setMap (hr : HR G B w0 I0 h w) {k b c c' : Nat} {ms ms' : Array MapEntry} {es' : List (D × D × Nat)} (hL : G.mloc k (h k).ver = some b) (hb : w.heap[b]? = some (.map ms c)) (hsz : ms'.size = es'.length)
    (hent : ∀ (i : Nat) (e : D × D × Nat) (m : MapEntry), es'[i]? = some e → ms'[i]? = some m → DRep G.imm w e.1 m.key ∧ DRep G.imm w e.2.1 m.val ∧ m.born = e.2.2) :
    HR G B w0 I0 (upd h k ⟨(h k).ver, some (.map es' c')⟩) (w.putObj b (.map ms' c')) ∧ Ext G w G (w.putObj b (.map ms' c')) := by
  have hlt : b < w.heap.size := (Array.getElem?_eq_some_iff.1 hb).1
  refine hr.setFix hL hb rfl rfl (fun x => by cases x) (fun x e => by cases e; rfl) (fun es c e => ?_) (fun _ _ _ _ _ _ _ e => by cases e)
  cases e
  have hcell : ∀ b' i, (w.putObj b (.map ms' c')).cell? ⟨b', i, none⟩ = w.cell? ⟨b', i, none⟩ := by
    intro b' i
    by_cases hbb : b' = b
    · subst hbb
      simp only [World.cell?, World.putObj_heap_same hlt, hb]
    · simp only [World.cell?, World.putObj_heap_other hbb]
  exact ⟨ms', World.putObj_heap_same hlt, hsz, fun i e m he hm => by
    obtain ⟨g1, g2, g3⟩ := hent i e m he hm
    exact ⟨g1.mono (fun _ _ x => x) (fun _ _ _ => hcell _ _), g2.mono (fun _ _ x => x) (fun _ _ _ => hcell _ _), g3⟩⟩

theorem opMakeMap_sound (hr : HR G B w0 I0 h w) {k : Nat} {t : TypeId} {out : Out} (ho : opMakeMap k h = some out) :
    out.ob = [] ∧ ∃ v w' G', (Instr.makeMap t none).run P w = .ok v w' ∧ Ext G w G' w' ∧ HR G' B w0 I0 (updAll h out.wr) w' ∧ Rep G' w' out.val v := by
  simp only [opMakeMap, Option.some.injEq] at ho
  subst ho
  have hr1 := hr.allocAny (.map #[] 0)
  have e1 := Ext.alloc hr (.map #[] 0)
  obtain ⟨hr2, e2⟩ := hr1.newMap k (b := w.heap.size) (c := 0) (es := []) hr.bsz (fun k v x => by
    obtain ⟨_, ⟨o, _, h2⟩, _⟩ := hr.maps.low _ _ _ x
    have := (Array.getElem?_eq_some_iff.1 h2).1; omega) ⟨#[], heap_alloc_new w _, rfl, fun i e m he => by simp at he⟩
  exact ⟨rfl, _, _, _, rfl, e1.trans e2, hr2, .mp _ _ _ (by simp [Gh.atMap])⟩

/-- A block gets another mark: what its cells hold stays. -/
theorem HR.marked (hr : HR G B w0 I0 h w) {b : Nat} {C : Array Value} {e : TypeId} {fz fz' : Nat × Nat} (hb : w.heap[b]? = some (.cells C e fz)) (hB : B ≤ b) (hno : ∀ k L, G.loc k (h k).ver = some L → L.b ≠ b) {w' : World}
    (hw : w' = { w with heap := w.heap.setIfInBounds b (.cells C e fz') }) : HR G B w0 I0 h w' ∧ Ext G w G w' := by
  have hlt := (Array.getElem?_eq_some_iff.1 hb).1
  have hoth : ∀ i, i ≠ b → w'.heap[i]? = w.heap[i]? := fun i hi => by
    subst hw
    show (w.heap.setIfInBounds b _)[i]? = _
    rw [Array.getElem?_setIfInBounds_ne (Ne.symm hi)]
  have hself : w'.heap[b]? = some (.cells C e fz') := by
    subst hw
    show (w.heap.setIfInBounds b _)[b]? = _
    rw [Array.getElem?_setIfInBounds_self_of_lt hlt]
  have hcell : ∀ p : Addr, w'.cell? p = w.cell? p := fun p => by
    unfold World.cell?
    by_cases hp : p.block = b
    · rw [hp, hself, hb]
    · rw [hoth _ hp]
  have hsz : w'.heap.size = w.heap.size := by subst hw; show (w.heap.setIfInBounds b _).size = _; simp
  have hex : Ext G w G w' := ⟨fun _ _ x => x, fun _ _ _ x => x, fun _ _ _ => hcell _, by rw [hsz]; exact Nat.le_refl _, fun _ => Nat.le_refl _, fun _ _ _ x => x, fun _ _ _ x => x, fun b' o hk x => by
    have hne : b' ≠ b := by
      rintro rfl
      rw [hb] at x; cases x; cases hk
    exact ⟨o, by rw [hoth _ hne]; exact x, bookTo_refl o⟩⟩
  refine ⟨⟨?_, by rw [hsz]; exact hr.bsz, fun b o x => by rw [hsz]; exact hr.immlt b o x, hr.i0, hr.immlow, hr.fresh, fun k L hL => ?_, hr.dis, fun k ob ho => (hr.objs k ob ho).mono (hr.le k) hex (fun _ _ _ => hcell _), hr.lim, ?_⟩, hex⟩
  · exact hr.below.trans ⟨by subst hw; rfl, by subst hw; rfl, by subst hw; rfl, by rw [hsz]; exact Nat.le_refl _, fun k hk => hoth k (by omega)⟩
  · obtain ⟨h1, ⟨arr, e', h2, h3⟩, h4⟩ := hr.own k L hL
    exact ⟨h1, ⟨arr, e', by rw [hoth _ (hno k L hL)]; exact h2, h3⟩, h4⟩
  · exact hr.maps.step hex rfl (fun c o hfo x => by
      have hne : c ≠ b := by
        rintro rfl
        rw [hb] at x; cases x; cases hfo
      rw [hoth _ hne]; exact x) (fun _ => Nat.le_refl _) (fun _ _ _ _ => rfl)
theorem opConvSame_sound (hr : HR G B w0 I0 h w) {src dst : TypeId} {x : AV} {vx : Value} (hx : Rep G w x vx) {out : Out} (ho : opConvSame P src dst x h = some out) :
    out.ob = [] ∧ ∃ v w' G', (convert src dst vx).run P w = .ok v w' ∧ Ext G w G' w' ∧ HR G' B w0 I0 (updAll h out.wr) w' ∧ Rep G' w' out.val v := by
  unfold opConvSame at ho
  split at ho
  case h_2 => cases ho
  rename_i e k v y l hu
  split at ho
  case isFalse => cases ho
  rename_i hc
  obtain ⟨rfl, hv⟩ := hc
  split at ho
  case h_2 => cases ho
  rename_i hu8
  simp only [Option.some.injEq] at ho
  subst ho
  generalize hsz1 : (1 : Nat) = sz at hx
  generalize hll : y :: l = ll at hx
  cases hx with
  | vecNil => cases hll
  | vec _ _ _ L hL hfr hlen hszs hrep =>
  subst hll
  subst hv
  obtain ⟨hB, ⟨arr, et, hb, harr⟩, _⟩ := hr.own k L hL
  have hkill := hr.kill [k]
  have hexk := Ext.froz hr [k]
  have hno : ∀ k' L', (G.froz h [k]).loc k' ((updAll h (kill h [k])) k').ver = some L' → L'.b ≠ L.b := fun k' L' hL' hbb => by
    have hL'' : G.loc k' ((updAll h (kill h [k])) k').ver = some L' := hL'
    rw [updAll_kill] at hL''
    by_cases hk : k' ∈ [k]
    · rw [if_pos hk] at hL''
      have hk' : k' = k := by simpa using hk
      subst hk'
      have := hr.fresh _ _ _ hL''
      simp at this
      omega
    · rw [if_neg hk] at hL''
      have := hr.dis k' k L' L hL'' hL hbb
      subst this
      exact hk (by simp)
  obtain ⟨hr2, hex2⟩ := hkill.marked (b := L.b) (C := arr) (e := et) (fz := (0, 0)) (fz' := (arr.size, arr.size + 1)) hb hB hno rfl
  refine ⟨rfl, .slice (some ⟨L.b, 0, none⟩) (y :: l).length L.cap, _, _, ?_, hexk.trans hex2, hr2, .d ?_⟩
  · have hsh : w.shape? L.b = some (et, arr.size) := by unfold World.shape?; rw [hb]
    have hfz : w.freeze ⟨L.b, arr.size, none⟩ 1 = { w with heap := w.heap.setIfInBounds L.b (.cells arr et (arr.size, arr.size + 1)) } := by
      unfold World.freeze
      rw [if_neg (by decide)]
      congr 1
      have hlt := (Array.getElem?_eq_some_iff.1 hb).1
      apply Array.ext
      · simp
      · intro i h1 h2
        simp only [Array.getElem_modify, Array.getElem_setIfInBounds]
        split
        · rename_i hi
          subst hi
          have : w.heap[L.b] = .cells arr et (0, 0) := (Array.getElem?_eq_some_iff.1 hb).2
          simp [this]
        · rename_i hi
          rw [Array.getElem_setIfInBounds_ne _ hi]
    simp [convert, run_underlying hu, run_underlying hu8, markStringish, hsh]
    exact hfz
  · exact hrep.mono (fun b o x => .inl x) (fun b o hbo => hex2.cell b o (.inl hbo))

/-- What knows of no key's block stands on when one is given up. -/
theorem kill_apart (hr : HR G B w0 I0 h w) {k : Nat} {L : Loc} (hL : G.loc k (h k).ver = some L) : ∀ k' L', (G.froz h [k]).loc k' ((updAll h (kill h [k])) k').ver = some L' → L'.b ≠ L.b := fun k' L' hL' hbb => by
  have hL'' : G.loc k' ((updAll h (kill h [k])) k').ver = some L' := hL'
  rw [updAll_kill] at hL''
  by_cases hk : k' ∈ [k]
  · rw [if_pos hk] at hL''
    have hk' : k' = k := by simpa using hk
    subst hk'
    have := hr.fresh _ _ _ hL''
    simp at this
    omega
  · rw [if_neg hk] at hL''
    have := hr.dis k' k L' L hL'' hL hbb
    subst this
    exact hk (by simp)
theorem bytesX_spec : ∀ {l : List D} {b : List UInt8}, bytesX l = some b → l = b.map byteD
  | [], b, h => by simp only [bytesX, Option.some.injEq] at h; subst h; rfl
  | x :: r, b, h => by
    unfold bytesX at h
    split at h
    · rename_i heq; cases heq
    · rename_i n r' heq
      cases heq
      split at h
      · rename_i hn
        simp only [Option.map_eq_some_iff] at h
        obtain ⟨b', hb, rfl⟩ := h
        rw [bytesX_spec hb, List.map_cons, byteD, ← hn]
      · cases h
    · cases h
theorem freeze_at {w : World} {b n : Nat} {arr : Array Value} {e : TypeId} (hb : w.heap[b]? = some (.cells arr e (0, 0))) (hn : n ≠ 0) : w.freeze ⟨b, 0, none⟩ n = { w with heap := w.heap.setIfInBounds b (.cells arr e (0, 0 + n)) } := by
  unfold World.freeze
  rw [if_neg hn]
  congr 1
  have hlt := (Array.getElem?_eq_some_iff.1 hb).1
  apply Array.ext
  · simp
  · intro i h1 h2
    simp only [Array.getElem_modify, Array.getElem_setIfInBounds]
    split
    · rename_i hi
      subst hi
      have : w.heap[b] = .cells arr e (0, 0) := (Array.getElem?_eq_some_iff.1 hb).2
      simp [this]
    · rename_i hi
      rw [Array.getElem_setIfInBounds_ne _ hi]
theorem opUnsafeString_sound (hr : HR G B w0 I0 h w) {pt it ty : TypeId} {x n : AV} {vx vn : Value} (hx : Rep G w x vx) (hn : Rep G w n vn) {out : Out} (ho : opUnsafeString P pt x n h = some out) :
    out.ob = [] ∧ ∃ v w' G', (Builtin.unsafeString_ #[pt, it] ty #[vx, vn]).run P w = .ok v w' ∧ Ext G w G' w' ∧ HR G' B w0 I0 (updAll h out.wr) w' ∧ Rep G' w' out.val v := by
  unfold opUnsafeString at ho
  split at ho
  case h_2 => cases ho
  rename_i u k v l m hu
  split at ho
  case h_2 => cases ho
  rename_i T b htag hb
  split at ho
  case isFalse => cases ho
  rename_i hc
  obtain ⟨hv, rfl, hne, rfl, hc1, h63⟩ := hc
  simp only [Option.some.injEq] at ho
  subst ho
  subst hv
  cases hn with
  | d hn =>
  cases hn
  cases hx with
  | vp _ _ _ L hL h1 hlen hd =>
  have hty := (tagOf_sound hr htag L hL).1
  obtain ⟨hB, ⟨arr, et, hbk, harr, het⟩, _⟩ := hr.own k L hL
  have hl := bytesX_spec hb
  have hlb : l.length = b.length := by rw [hl, List.length_map]
  have hf : D.flat l = l := by
    rw [hl]
    unfold D.flat
    generalize b = bs
    induction bs with
    | nil => rfl
    | cons a r ih => simp only [List.map_cons, List.flatMap_cons, ih]; rfl
  have hcell : ∀ j x, b[j]? = some x → w.cell? ((⟨L.b, 0, none⟩ : Addr).add j) = some (.int .u8 x.toNat) := by
    intro j x hj
    have hg : (D.flat l)[j]? = some (byteD x) := by rw [hf, hl, List.getElem?_map, hj]; rfl
    generalize hvv : (Value.slice (some ⟨L.b, 0, none⟩) l.length L.cap) = vv at hd
    cases hd with
    | roNil => exact absurd rfl hne
    | ro _ bb o c sz U hcap hsz h1' hi hcc hrr =>
      cases hvv
      have h2 := hcc j _ hg
      have h3 := hrr j _ hg
      generalize U j = uu at h2 h3
      cases h3
      rw [add_lit]
      exact h2
  have hkill := hr.kill [k]
  have hexk := Ext.froz hr [k]
  have hsh : w.shape? L.b = some (T, arr.size) := by unfold World.shape?; rw [hbk, het, hty]
  have hbne : b ≠ [] := by rintro rfl; exact hne (by rw [hl]; rfl)
  have hrun := Lib.run_unsafeString_row (P := P) w pt it ty T hu hc1 L.b arr.size hsh b hbne (by rw [harr, h1, Nat.mul_one, ← hlb]; exact hlen) (by rw [← hlb]; exact h63) hcell
  rw [freeze_at hbk (by rw [← hlb]; intro h0; exact hne (List.eq_nil_of_length_eq_zero h0))] at hrun
  obtain ⟨hr2, hex2⟩ := hkill.marked (b := L.b) (C := arr) (e := et) (fz := (0, 0)) (fz' := (0, 0 + b.length)) hbk hB (kill_apart hr hL) rfl
  rw [hlb]
  exact ⟨rfl, _, _, _, hrun, hexk.trans hex2, hr2, .d (.str _ _ (by simp))⟩
theorem opSliceData_sound {x y : AV} {vx : Value} (hx : Rep G w x vx) (ho : opSliceData x = some y) (ts : Array TypeId) (ty : TypeId) : ∃ v, (Builtin.unsafeSliceData_ ts ty #[vx]).run P w = .ok v w ∧ Rep G w y v := by
  unfold opSliceData at ho
  split at ho
  · rename_i k v sz z l
    split at ho
    · rename_i h1
      simp only [Option.some.injEq] at ho
      subst ho
      generalize hll : z :: l = ll at hx
      cases hx with
      | vecNil => cases hll
      | vec _ _ _ L hL hfr hlen hszs hrep =>
      subst hll
      exact ⟨_, Lib.run_unsafeSliceData_row w ts ty _ _ _ (by simp at hlen; omega), .vp k v _ L hL h1 hlen hrep⟩
    · cases ho
  · simp only [Option.some.injEq] at ho
    subst ho
    cases hx
    exact ⟨_, rfl, .d .nilp⟩
  · cases ho
theorem opConvPtr_sound (hr : HR G B w0 I0 h w) {src dst : TypeId} {x : AV} {vx : Value} (hx : Rep G w x vx) {out : Out} (ho : opConvPtr P src dst x h = some out) :
    out.wr = [] ∧ ∃ v, (convert src dst vx).run P w = .ok v w ∧ Rep G w out.val v := by
  unfold opConvPtr at ho
  split at ho
  · rename_i t k v i off sz hs hd
    split at ho
    · rename_i T n htag
      split at ho
      · rename_i hc
        obtain ⟨hv, hk, hc0, hlt⟩ := hc
        simp only [Option.some.injEq] at ho
        subst ho
        subst hv
        cases hx with
        | ptr _ _ _ _ L hL =>
        obtain ⟨hty, hn⟩ := tagOf_sound hr htag L hL
        obtain ⟨hB, ⟨arr, et, hbk, harr, het⟩, _⟩ := hr.own k L hL
        have hsh : w.shape? L.b = some (et, arr.size) := by unfold World.shape?; rw [hbk]
        have hoff : ¬ (arr.size ≤ i * L.sz + off) := by rw [harr, hn n rfl]; omega
        unfold knownT at hk
        unfold Program.cellsOf at hc0
        cases hi : P.info? t with
        | none => rw [hi] at hk; cases hk
        | some j =>
          rw [hi] at hc0
          have hj : j.size ≠ 0 := hc0
          exact ⟨rfl, _, by simp [convert, run_underlying hs, run_underlying hd, Conv.unsafePointer, Conv.seenAt, viewAt, cellsIn, hsh, sizeOf, typeInfo, hi, hj, hoff], .ptr k _ i off L hL⟩
      · cases ho
    · cases ho
  · rename_i u k v i off sz hs hd
    split at ho
    · rename_i T n htag
      split at ho
      · rename_i hc
        obtain ⟨hv, hk, hlies⟩ := hc
        simp only [Option.some.injEq] at ho
        subst ho
        subst hv
        cases hx with
        | ptr _ _ _ _ L hL =>
        obtain ⟨hty, hn⟩ := tagOf_sound hr htag L hL
        obtain ⟨hB, ⟨arr, et, hbk, harr, het⟩, _⟩ := hr.own k L hL
        have hsz : arr.size = n := by rw [harr, hn n rfl]
        have hsh : w.shape? L.b = some (T, n) := by unfold World.shape?; rw [hbk, ← hsz, ← hty, ← het]
        unfold knownT at hk
        cases hi : P.info? u with
        | none => rw [hi] at hk; cases hk
        | some j =>
          exact ⟨rfl, _, by simp [convert, run_underlying hs, run_underlying hd, Conv.unsafePointer, Conv.seenAt, viewAt, hsh, variablesAt, hlies, sizeOf, typeInfo, hi], .ptr k _ i off L hL⟩
      · cases ho
    · cases ho
  · cases ho
theorem opMakeIface_sound {t : TypeId} {x y : AV} {vx : Value} (hx : Rep G w x vx) (ho : opMakeIface P t x = some y) : ∃ v, (Instr.makeInterface t vx).run P w = .ok v w ∧ Rep G w y v := by
  unfold opMakeIface at ho
  split at ho
  · cases ho
  · rename_i d hne hu
    simp only [Option.some.injEq] at ho
    subst ho
    refine ⟨.iface t vx, ?_, .iv t vx hx⟩
    simp only [Instr.makeInterface, Sem.run_bind, run_underlying hu, Result.andThen_ok]
    rfl
  · cases ho
theorem opAssert_sound {xT t : TypeId} {ok : Bool} {x y : AV} {vx : Value} (hx : Rep G w x vx) (ho : opAssert P t ok x = some y) : ∃ v, (Instr.typeAssert vx xT t ok).run P w = .ok v w ∧ Rep G w y v := by
  have pair : ∀ (a : AV) (u : Value) (b : Bool), Rep G w a u → Rep G w (.tup [a, .d (.bool b)]) (.tuple #[u, .bool b]) := fun a u b ha => .tup _ _ rfl fun i c v hc hv => by
    match i with
    | 0 => cases hc; cases hv; exact ha
    | 1 => cases hc; cases hv; exact .d (.bool b)
    | i + 2 => simp at hc
  unfold opAssert at ho
  split at ho
  · cases ho
  · rename_i d t' z hne hu
    cases hx with
    | iv _ v hv =>
    split at ho
    · rename_i hte
      subst hte
      simp only [Option.some.injEq] at ho
      subst ho
      cases ok
      · exact ⟨v, by simp [Instr.typeAssert, run_underlying hu], hv⟩
      · exact ⟨_, by simp [Instr.typeAssert, run_underlying hu], pair _ _ _ hv⟩
    · rename_i hte
      split at ho
      · rename_i hok
        subst hok
        simp only [Option.map_eq_some_iff] at ho
        obtain ⟨z, hz, rfl⟩ := ho
        exact ⟨_, by simp [Instr.typeAssert, run_underlying hu, hte, run_zeroValue' hz], pair _ _ _ (cst_rep _)⟩
      · cases ho
  · rename_i d hne hu
    cases hx with
    | d hx =>
    cases hx
    split at ho
    · rename_i hok
      subst hok
      simp only [Option.map_eq_some_iff] at ho
      obtain ⟨z, hz, rfl⟩ := ho
      exact ⟨_, by simp [Instr.typeAssert, run_underlying hu, run_zeroValue' hz], pair _ _ _ (cst_rep _)⟩
    · cases ho
  · cases ho

theorem opConvBytes_sound (hr : HR G B w0 I0 h w) {src dst : TypeId} {x : AV} {vx : Value} (hx : Rep G w x vx) {out : Out} (ho : opConvBytes P src dst x = some out) :
    out.ob = [] ∧ ∃ v w' G', (convert src dst vx).run P w = .ok v w' ∧ Ext G w G' w' ∧ HR G' B w0 I0 (updAll h out.wr) w' ∧ Rep G' w' out.val v := by
  unfold opConvBytes at ho
  split at ho
  case h_2 => cases ho
  rename_i e s hu1 hu2
  split at ho
  case h_2 => cases ho
  rename_i hu3
  simp only [Option.some.injEq] at ho
  subst ho
  cases hx with
  | d hx =>
  cases hx with
  | str _ sb hs =>
  subst hs
  have hrun := run_bytes_of_string (P := P) w src dst e sb hu1 hu2 hu3
  have hcap := grownCap_ge w sb.size 0 e
  have hlen : (sb.data.toList.map fun b => D.int .u8 (b.toNat : Int)).length = sb.size := by simp
  obtain ⟨G', g1, g2, g3⟩ := hr.drew.newImm (sb.data.toList.map fun b => D.int .u8 (b.toNat : Int)) 1 (grownCap w sb.size 0 e) (bytesRow sb (grownCap w sb.size 0 e)) e
    (fz := ((bytesRow sb (grownCap w sb.size 0 e)).size, (bytesRow sb (grownCap w sb.size 0 e)).size + 1)) (by rw [hlen]; exact hcap) (fun x hx => by
      obtain ⟨b, _, rfl⟩ := List.mem_map.1 hx; rfl) (fun t c ht => by
      have hf : D.flat (sb.data.toList.map fun b => D.int .u8 (b.toNat : Int)) = sb.data.toList.map fun b => D.int .u8 (b.toNat : Int) := by
        unfold D.flat
        generalize sb.data.toList = l
        induction l with
        | nil => rfl
        | cons a l ih => simp only [List.map_cons, List.flatMap_cons, ih]; rfl
      rw [hf] at ht
      simp only [List.getElem?_map, Array.getElem?_toList, Option.map_eq_some_iff] at ht
      obtain ⟨b, hb, rfl⟩ := ht
      have hlt : t < sb.data.size := (Array.getElem?_eq_some_iff.1 hb).1
      refine ⟨.int .u8 b.toNat, ?_, rfl, .int _ _⟩
      unfold bytesRow
      rw [Array.getElem?_append_left (by simpa using hlt), Array.getElem?_map, hb]
      rfl)
  rw [hlen] at g3
  exact ⟨rfl, _, _, G', hrun, (Ext.drew G w).trans g2, g1, .d g3⟩

theorem bytesD_ints : ∀ {l : List D} {b : List UInt8}, bytesD l = some b → ∃ ns : List Int, l = ns.map (D.int .u8) ∧ b = ns.map fun n => UInt8.ofNat n.toNat
  | [], b, h => by
    simp only [bytesD, Option.some.injEq] at h
    subst h
    exact ⟨[], rfl, rfl⟩
  | x :: r, b, h => by
    unfold bytesD at h
    split at h
    · rename_i heq; cases heq
    · rename_i n r' heq
      cases heq
      simp only [Option.map_eq_some_iff] at h
      obtain ⟨b', hb, rfl⟩ := h
      obtain ⟨ns, rfl, rfl⟩ := bytesD_ints hb
      exact ⟨n :: ns, rfl, rfl⟩
    · cases h
theorem push_all : ∀ (ns : List Int) (r : ByteArray), (ns.foldl (fun r n => r.push (UInt8.ofNat n.toNat)) r).data.toList = r.data.toList ++ ns.map fun n => UInt8.ofNat n.toNat
  | [], r => by simp
  | n :: ns, r => by
    rw [List.foldl_cons, push_all ns]
    simp [ByteArray.push]
theorem opConvStr_sound {src dst : TypeId} {x y : AV} {vx : Value} (hx : Rep G w x vx) (ho : opConvStr P src dst x = some y) : ∃ v, (convert src dst vx).run P w = .ok v w ∧ Rep G w y v := by
  have key : ∀ (e : TypeId) (l : List D) (b : List UInt8), P.underlying src = some (.slice e) → P.underlying dst = some .string → P.underlying e = some (.int .u8) → bytesD l = some b → DRep G.imm w (.ro l) vx → ∃ v, (convert src dst vx).run P w = .ok v w ∧ Rep G w (.d (.str b)) v := by
    intro e l b hu1 hu2 hu3 hb hd
    obtain ⟨ns, hl0, rfl⟩ := bytesD_ints hb
    cases hd with
    | roNil ao c =>
      have hns : ns = [] := by cases ns with | nil => rfl | cons a b => simp at hl0
      subst hns
      refine ⟨.string ByteArray.empty, ?_, .d (.str _ _ rfl)⟩
      rw [run_convert_bytes_string w src dst e ao 0 c hu1 hu3 hu2]
      cases ao with
      | none => rfl
      | some a =>
        rw [run_bytesToString w a 0 c [] (by simpa using run_loadCells_list (P := P) (w := w) a [] (fun j v hj => by simp at hj))]
        rfl
    | ro _ bb o c sz U hcap hsz h1 hi hc hr =>
      subst hl0
      have hf : D.flat (ns.map (D.int .u8)) = ns.map (D.int .u8) := by
        unfold D.flat
        generalize ns = l
        induction l with
        | nil => rfl
        | cons a l ih => simp only [List.map_cons, List.flatMap_cons, ih]; rfl
      have hl := run_loadCells_list (P := P) (w := w) ⟨bb, o, none⟩ (ns.map (Value.int .u8)) (fun j v hj => by
        rw [List.getElem?_map, Option.map_eq_some_iff] at hj
        obtain ⟨n, hn, rfl⟩ := hj
        have hg : (D.flat (ns.map (D.int .u8)))[j]? = some (.int .u8 n) := by rw [hf, List.getElem?_map, hn]; rfl
        have hcell := hc j _ hg
        have hrep := hr j _ hg
        generalize U j = u at hcell hrep
        cases hrep
        rw [show (⟨bb, o, none⟩ : Addr).add j = ⟨bb, o + j, none⟩ by simp [Addr.add]]
        exact hcell)
      simp only [List.length_map] at hl ⊢
      refine ⟨_, (run_convert_bytes_string w src dst e _ _ c hu1 hu3 hu2).trans (run_bytesToString w _ ns.length c ns hl), .d (.str _ _ ?_)⟩
      rw [push_all]; rfl
  unfold opConvStr at ho
  split at ho
  case h_2 => cases ho
  rename_i e hu1 hu2
  split at ho
  · rename_i l hu3
    simp only [Option.map_eq_some_iff] at ho
    obtain ⟨b, hb, rfl⟩ := ho
    cases hx with
    | d hx => exact key e l b hu1 hu2 hu3 hb hx
  · rename_i k v sz l hu3
    simp only [Option.map_eq_some_iff] at ho
    obtain ⟨b, hb, rfl⟩ := ho
    cases hx.frz with
    | d hx => exact key e l b hu1 hu2 hu3 hb hx
  · cases ho

/-! ### Keys -/
theorem sameD_sound {imm : Nat → Nat → Prop} {w : World} {x y : D} {u v : Value} (hx : DRep imm w x u) (hy : DRep imm w y v) {b : Bool} (h : sameD x y = some b) {t : TypeId} (hx1 : x.one = true) (hk : keyT P t x = true) :
    ∃ d, P.underlying t = some d ∧ Instr.sameNow d u v = some b ∧ (b = true → Instr.sameBits 10000 v u = true) := by
  unfold sameD at h
  split at h
  · rename_i k a k' a'
    split at h
    · rename_i hkk
      subst hkk
      simp only [Option.some.injEq] at h
      subst h
      cases hx; cases hy
      unfold keyT at hk
      split at hk
      · rename_i kk k2 n hu he
        cases he
        refine ⟨_, hu, by simp [Instr.sameNow], fun hb => ?_⟩
        simp only [beq_iff_eq] at hb
        subst hb
        simp [Instr.sameBits]
      · rename_i he; cases he
      · rename_i he; cases he
      · cases hk
    · cases h
  · rename_i a a'
    simp only [Option.some.injEq] at h
    subst h
    cases hx with
    | str _ sa ha =>
    cases hy with
    | str _ sb hb =>
    subst ha; subst hb
    unfold keyT at hk
    split at hk
    · rename_i he; cases he
    · rename_i s hu he
      have hbe : (sa == sb) = (sa.data.toList == sb.data.toList) := by
        show (sa.data == sb.data) = _
        by_cases hs : sa.data = sb.data
        · rw [hs]; simp
        · have : sa.data.toList ≠ sb.data.toList := fun e => hs (Array.toList_inj.1 e)
          simp [hs, this]
      refine ⟨_, hu, by simp only [Instr.sameNow, hbe], fun hb => ?_⟩
      simp only [beq_iff_eq] at hb
      have : sa = sb := by
        cases sa; cases sb
        simp only at hb
        rw [Array.toList_inj.1 hb]
      subst this
      simp [Instr.sameBits]
      show (sa.data == sa.data) = true
      simp
    · rename_i he; cases he
    · cases hk
  · cases hx1
  · cases h

theorem findD_sound {imm : Nat → Nat → Prop} {w : World} {x : D} {u : Value} (hx : DRep imm w x u) {t : TypeId} (hx1 : x.one = true) (hk : keyT P t x = true) : ∀ (es : List (D × D × Nat)) (ms : List MapEntry) (n : Nat) {r : Option (Nat × D)}, ms.length = es.length →
    (∀ (i : Nat) (e : D × D × Nat) (m : MapEntry), es[i]? = some e → ms[i]? = some m → DRep imm w e.1 m.key ∧ DRep imm w e.2.1 m.val ∧ m.born = e.2.2) → findD x es n = some r →
    ∃ d, P.underlying t = some d ∧ match r with
      | none => Instr.findNow d u ms n = some none
      | some (j, y) => ∃ v, Instr.findNow d u ms n = some (some (j, v)) ∧ DRep imm w y v ∧ n ≤ j ∧ ∃ m, ms[j - n]? = some m ∧ Instr.sameBits 10000 m.key u = true
  | [], ms, n, r, hl, _, h => by
    simp only [findD, Option.some.injEq] at h
    subst h
    have : ms = [] := List.length_eq_zero_iff.1 hl
    subst this
    unfold keyT at hk
    split at hk
    · rename_i kk k2 nn hu; exact ⟨_, hu, rfl⟩
    · rename_i ss hu; exact ⟨_, hu, rfl⟩
    · cases hx1
    · cases hk
  | e :: r0, [], n, r, hl, _, h => by simp at hl
  | e :: r0, m :: mr, n, r, hl, hent, h => by
    obtain ⟨g1, g2, g3⟩ := hent 0 e m rfl rfl
    simp only [findD] at h
    split at h
    · rename_i hs
      simp only [Option.some.injEq] at h
      subst h
      obtain ⟨d, hu, hsn, hsb⟩ := sameD_sound hx g1 hs hx1 hk
      exact ⟨d, hu, m.val, by simp [Instr.findNow, hsn], g2, Nat.le_refl _, m, by simp, hsb rfl⟩
    · rename_i hs
      obtain ⟨d, hu, hsn, _⟩ := sameD_sound hx g1 hs hx1 hk
      obtain ⟨d', hu', hr⟩ := findD_sound hx hx1 hk r0 mr (n + 1) (by simpa using hl) (fun i e' m' he hm => hent (i + 1) e' m' (by simpa using he) (by simpa using hm)) h
      rw [hu] at hu'
      cases hu'
      refine ⟨d, hu, ?_⟩
      cases r with
      | none => simp only at hr ⊢; simp [Instr.findNow, hsn, hr]
      | some jy =>
        obtain ⟨j, y⟩ := jy
        obtain ⟨v, h1, h2, h3, m', h4, h5⟩ := hr
        refine ⟨v, by simp [Instr.findNow, hsn, h1], h2, by omega, m', ?_, h5⟩
        rw [show j - n = (j - (n + 1)) + 1 by omega]
        simpa using h4
    · cases h
theorem intsEq_true : ∀ (xs ys : List D), intsEq xs ys = some true → xs = ys ∧ ∀ x ∈ xs, ∃ k a, x = .int k a
  | [], [], _ => ⟨rfl, by simp⟩
  | .int k a :: r, .int k' b :: q, h => by
    simp only [intsEq] at h
    split at h
    · rename_i hk
      simp only [Option.map_eq_some_iff, Bool.and_eq_true, decide_eq_true_eq] at h
      obtain ⟨t, ht, hab, rfl⟩ := h
      obtain ⟨h1, h2⟩ := intsEq_true r q ht
      subst hk; subst hab; subst h1
      exact ⟨rfl, fun x hx => by
        rcases List.mem_cons.1 hx with rfl | hx
        · exact ⟨_, _, rfl⟩
        · exact h2 x hx⟩
    · cases h
  | [], _ :: _, h => by simp [intsEq] at h
  | x :: r, [], h => by cases x <;> simp [intsEq] at h
  | .int _ _ :: _, .bool _ :: _, h | .int _ _ :: _, .str _ :: _, h | .int _ _ :: _, .agg _ :: _, h | .int _ _ :: _, .ro _ :: _, h | .int _ _ :: _, .rp _ :: _, h | .int _ _ :: _, .nilp :: _, h | .int _ _ :: _, .nili :: _, h | .int _ _ :: _, .ifc :: _, h => by simp [intsEq] at h
  | .bool _ :: _, _ :: _, h | .str _ :: _, _ :: _, h | .agg _ :: _, _ :: _, h | .ro _ :: _, _ :: _, h | .rp _ :: _, _ :: _, h | .nilp :: _, _ :: _, h | .nili :: _, _ :: _, h | .ifc :: _, _ :: _, h => by simp [intsEq] at h
theorem ints_fields : ∀ (fs : List Field) (i : Nat) (xs ys : List D) (b : Bool), keyFields P fs i xs = true → intsEq xs ys = some b → eqFieldsD P fs i xs ys = some b
  | [], i, [], ys, b, _, h => by
    cases ys with
    | nil => simpa [intsEq, eqFieldsD] using h
    | cons => simp [intsEq] at h
  | [], i, x :: xs, ys, b, hk, _ => by simp [keyFields] at hk
  | f :: fs, i, [], ys, b, hk, _ => by simp [keyFields] at hk
  | f :: fs, i, .int k a :: xs, ys, b, hk, h => by
    simp only [keyFields, Bool.and_eq_true, decide_eq_true_eq, beq_iff_eq] at hk
    obtain ⟨⟨h1, h2, h3, h4⟩, h5⟩ := hk
    split at h4
    case h_2 => cases h4
    rename_i k' hu
    simp only [decide_eq_true_eq] at h4
    subst h4
    cases ys with
    | nil => simp [intsEq] at h
    | cons y ys =>
      cases y with
      | int k2 a2 =>
        simp only [intsEq] at h
        split at h
        · rename_i hk2
          subst hk2
          simp only [Option.map_eq_some_iff] at h
          obtain ⟨t, ht, rfl⟩ := h
          have ih := ints_fields fs (i + 1) xs ys t h5 ht
          simp only [eqFieldsD, h1, h2, h3, ne_eq, not_false_eq_true, and_self, if_true, eqOne, hu, ih]
          rfl
        · cases h
      | _ => simp [intsEq] at h
  | f :: fs, i, .bool _ :: xs, ys, b, hk, _ | f :: fs, i, .str _ :: xs, ys, b, hk, _ | f :: fs, i, .agg _ :: xs, ys, b, hk, _ | f :: fs, i, .ro _ :: xs, ys, b, hk, _ | f :: fs, i, .rp _ :: xs, ys, b, hk, _ | f :: fs, i, .nilp :: xs, ys, b, hk, _ | f :: fs, i, .nili :: xs, ys, b, hk, _ | f :: fs, i, .ifc :: xs, ys, b, hk, _ => by simp [keyFields] at hk
theorem agg_equal {imm : Nat → Nat → Prop} {w : World} {xs : List D} {y : D} {u v : Value} (hx : DRep imm w (.agg xs) u) (hy : DRep imm w y v) {b : Bool} (h : sameD (.agg xs) y = some b) {t : TypeId} (hk : keyT P t (.agg xs) = true) :
    (Op.equal t u v).run P w = .ok b w ∧ (b = true → Instr.sameBits 10000 v u = true) := by
  cases y with
  | agg ys =>
    have h : intsEq xs ys = some b := h
    cases hx with
    | agg _ vs hl h1 hrep =>
    cases hy with
    | agg _ us hl' h1' hrep' =>
    unfold keyT at hk
    split at hk
    · rename_i he; cases he
    · rename_i he; cases he
    · rename_i fs xs' hu he
      cases he
      simp only [Bool.and_eq_true, beq_iff_eq] at hk
      have hf : P.fieldsOf t = fs := by unfold Program.fieldsOf; rw [hu]
      constructor
      · show (Op.equalIn 10000 t (.agg vs) (.agg us)).run P w = .ok b w
        rw [show (10000 : Nat) = 9999 + 1 from rfl, run_equalIn_struct w 9999 t vs us (by rw [hf]; exact hu) hk.1, hf]
        refine eqFieldsD_sound (I := imm) 9998 vs us fs.toList 0 xs ys b (ints_fields _ _ _ _ _ hk.2 h) (fun j x hj => ?_) (fun j x hj => ?_)
        · have hlt : j < vs.size := by rw [hl]; exact (List.getElem?_eq_some_iff.1 hj).1
          have : vs[j]? = some vs[j] := Array.getElem?_eq_getElem hlt
          exact ⟨_, by rw [Nat.zero_add]; exact this, hrep j x _ hj this⟩
        · have hlt : j < us.size := by rw [hl']; exact (List.getElem?_eq_some_iff.1 hj).1
          have : us[j]? = some us[j] := Array.getElem?_eq_getElem hlt
          exact ⟨_, by rw [Nat.zero_add]; exact this, hrep' j x _ hj this⟩
      · intro hb
        subst hb
        obtain ⟨rfl, hint⟩ := intsEq_true xs ys h
        rw [show (10000 : Nat) = 9999 + 1 from rfl, Instr.sameBits]
        simp only [Bool.and_eq_true, beq_iff_eq]
        refine ⟨by rw [hl, hl'], List.all_eq_true.2 fun p hp => ?_⟩
        obtain ⟨i, hi, rfl⟩ := List.mem_iff_getElem.1 hp
        rw [List.getElem_zip]
        have hlz : i < us.size ∧ i < vs.size := by
          simp only [List.length_zip, Array.length_toList] at hi
          omega
        have hxi : xs[i]? = some (xs[i]'(by omega)) := List.getElem?_eq_getElem _
        have r1 := hrep i _ _ hxi (Array.getElem?_eq_getElem hlz.2)
        have r2 := hrep' i _ _ hxi (Array.getElem?_eq_getElem hlz.1)
        obtain ⟨k, a, e⟩ := hint _ (List.mem_of_getElem? hxi)
        rw [e] at r1 r2
        simp only [Array.getElem_toList]
        generalize us[i]'hlz.1 = p1 at r2
        generalize vs[i]'hlz.2 = p2 at r1
        cases r1; cases r2
        simp [Instr.sameBits]
    · cases hk
  | _ => simp [sameD] at h
theorem findAsk_sound {imm : Nat → Nat → Prop} {w : World} {xs : List D} {u : Value} (hx : DRep imm w (.agg xs) u) {t : TypeId} (hk : keyT P t (.agg xs) = true) : ∀ (es : List (D × D × Nat)) (ms : List MapEntry) (n : Nat) {r : Option (Nat × D)}, ms.length = es.length →
    (∀ (i : Nat) (e : D × D × Nat) (m : MapEntry), es[i]? = some e → ms[i]? = some m → DRep imm w e.1 m.key ∧ DRep imm w e.2.1 m.val ∧ m.born = e.2.2) → findD (.agg xs) es n = some r →
    match r with
      | none => (Instr.findAsking t u ms n).run P w = .ok none w
      | some (j, y) => ∃ v, (Instr.findAsking t u ms n).run P w = .ok (some (j, v)) w ∧ DRep imm w y v ∧ n ≤ j ∧ ∃ m, ms[j - n]? = some m ∧ Instr.sameBits 10000 m.key u = true
  | [], ms, n, r, hl, _, h => by
    simp only [findD, Option.some.injEq] at h
    subst h
    have : ms = [] := List.length_eq_zero_iff.1 hl
    subst this
    simp [Instr.findAsking]
  | e :: r0, [], n, r, hl, _, h => by simp at hl
  | e :: r0, m :: mr, n, r, hl, hent, h => by
    obtain ⟨g1, g2, g3⟩ := hent 0 e m rfl rfl
    simp only [findD] at h
    split at h
    · rename_i hs
      simp only [Option.some.injEq] at h
      subst h
      obtain ⟨hq, hsb⟩ := agg_equal hx g1 hs hk
      exact ⟨m.val, by simp [Instr.findAsking, Sem.run_bind, hq], g2, Nat.le_refl _, m, by simp, hsb rfl⟩
    · rename_i hs
      obtain ⟨hq, _⟩ := agg_equal hx g1 hs hk
      have hr := findAsk_sound hx hk r0 mr (n + 1) (by simpa using hl) (fun i e' m' he hm => hent (i + 1) e' m' (by simpa using he) (by simpa using hm)) h
      cases r with
      | none => simp only at hr ⊢; simp [Instr.findAsking, Sem.run_bind, hq, hr]
      | some jy =>
        obtain ⟨j, y⟩ := jy
        obtain ⟨v, h1, h2, h3, m', h4, h5⟩ := hr
        refine ⟨v, by simp [Instr.findAsking, Sem.run_bind, hq, h1], h2, by omega, m', ?_, h5⟩
        rw [show j - n = (j - (n + 1)) + 1 by omega]
        simpa using h4
    · cases h
/-- A key is looked for. -/
theorem findKey_sound {imm : Nat → Nat → Prop} {w : World} {x : D} {u : Value} (hx : DRep imm w x u) {t : TypeId} (hk : keyT P t x = true) (es : List (D × D × Nat)) (ms : List MapEntry) {r : Option (Nat × D)} (hl : ms.length = es.length)
    (hent : ∀ (i : Nat) (e : D × D × Nat) (m : MapEntry), es[i]? = some e → ms[i]? = some m → DRep imm w e.1 m.key ∧ DRep imm w e.2.1 m.val ∧ m.born = e.2.2) (h : findD x es 0 = some r) :
    match r with
      | none => (Instr.findKey t u ms).run P w = .ok none w
      | some (j, y) => ∃ v, (Instr.findKey t u ms).run P w = .ok (some (j, v)) w ∧ DRep imm w y v ∧ ∃ m, ms[j]? = some m ∧ Instr.sameBits 10000 m.key u = true := by
  cases hx1 : x.one with
  | true =>
    obtain ⟨d, hd, hr⟩ := findD_sound hx hx1 hk es ms 0 hl hent h
    cases r with
    | none => exact Go.MapKept.run_findKey hd hr
    | some jy =>
      obtain ⟨j, y⟩ := jy
      obtain ⟨v, h1, h2, _, m, h4, h5⟩ := hr
      exact ⟨v, Go.MapKept.run_findKey hd h1, h2, m, by simpa using h4, h5⟩
  | false =>
    cases x with
    | agg xs =>
      have hw : (match P.underlying t with | some (.array _ _) | some (.struct _) => true | _ => false) = true := by
        unfold keyT at hk
        split at hk
        · rename_i he; cases he
        · rename_i he; cases he
        · rename_i fs xs' hu he; rw [hu]
        · cases hk
      have hr := findAsk_sound hx hk es ms 0 hl hent h
      rw [run_findKey_eq w hw u ms]
      cases r with
      | none => exact hr
      | some jy =>
        obtain ⟨j, y⟩ := jy
        obtain ⟨v, h1, h2, _, m, h4, h5⟩ := hr
        exact ⟨v, h1, h2, m, by simpa using h4, h5⟩
    | _ => simp [D.one] at hx1
theorem checkFields_run {imm : Nat → Nat → Prop} {w : World} (e : Bool) (vs : Array Value) (w' : World) : ∀ (fs : List Field) (i : Nat) (xs : List D), keyFields P fs i xs = true → (∀ (j : Nat) (x : D), xs[j]? = some x → ∃ u, vs[i + j]? = some u ∧ DRep imm w x u) →
    (forIn fs PUnit.unit fun f _ => if f.name ≠ "_" then do
        let a ← part f.type vs f.offset
        Instr.checkKey e 9999 f.type a
        pure (ForInStep.yield PUnit.unit)
      else pure (ForInStep.yield PUnit.unit) : Sem PUnit).run P w' = .ok PUnit.unit w'
  | [], i, xs, _, _ => by simp
  | f :: fs, i, [], hk, _ => by simp [keyFields] at hk
  | f :: fs, i, x :: xs, hk, h => by
    obtain ⟨u, hu, hr⟩ := h 0 x rfl
    rw [Nat.add_zero] at hu
    cases x with
    | int k a =>
      simp only [keyFields, Bool.and_eq_true, decide_eq_true_eq, beq_iff_eq] at hk
      obtain ⟨⟨h1, h2, h3, h4⟩, h5⟩ := hk
      split at h4
      case h_2 => cases h4
      rename_i k' hut
      cases hr
      have ih := checkFields_run e vs w' fs (i + 1) xs h5 (fun j x hj => by
        have := h (j + 1) x hj
        rwa [show i + (j + 1) = i + 1 + j by omega] at this)
      have hp := part_one (P := P) (w := w') h3 vs i _ hu
      have hc : (Instr.checkKey e 9999 f.type (.int k a)).run P w' = .ok () w' := by
        rw [show (9999 : Nat) = 9998 + 1 from rfl]
        unfold Instr.checkKey
        simp [run_underlying hut, Result.andThen]
      simp only [List.forIn_cons, Sem.run_bind, h1, h2, ne_eq, not_false_eq_true, if_true, Result.andThen_ok, hp, hc, Sem.run_pure]
      exact ih
    | _ => simp [keyFields] at hk
theorem isKey_of {imm : Nat → Nat → Prop} {w : World} {x : D} {u : Value} (hx : DRep imm w x u) {t : TypeId} (hk : keyT P t x = true) (e : Bool) (w' : World) : (Instr.checkKey e 10000 t u).run P w' = .ok () w' := by
  unfold keyT at hk
  rw [show (10000 : Nat) = 9999 + 1 from rfl]
  unfold Instr.checkKey
  split at hk
  · rename_i kk k2 n hu
    cases hx
    simp [run_underlying hu, Result.andThen]
  · rename_i s hu
    cases hx
    simp [run_underlying hu, Result.andThen]
  · rename_i fs xs hu
    simp only [Bool.and_eq_true, beq_iff_eq] at hk
    cases hx with
    | agg _ vs hl h1 hrep =>
    have hc := checkFields_run (P := P) (imm := imm) (w := w) e vs w' fs.toList 0 xs hk.2 (fun j x hj => by
      have hlt : j < vs.size := by rw [hl]; exact (List.getElem?_eq_some_iff.1 hj).1
      have : vs[j]? = some vs[j] := Array.getElem?_eq_getElem hlt
      exact ⟨_, by rw [Nat.zero_add]; exact this, hrep j x _ hj this⟩)
    simp only [Sem.run_bind, run_underlying hu, Result.andThen_ok]
    rw [← Array.forIn_toList]
    simp only [Sem.run_bind, hc, Result.andThen_ok, Sem.run_pure]
  · cases hk

theorem setAtD_get (x y : D) : ∀ (i : Nat) (es : List (D × D × Nat)) (j : Nat), (setAtD x y i es)[j]? = if j = i then (es[j]?).map fun e => (x, y, e.2.2) else es[j]?
  | i, [], j => by cases i <;> simp [setAtD]
  | 0, e :: r, 0 => by simp [setAtD]
  | 0, e :: r, j + 1 => by simp [setAtD]
  | i + 1, e :: r, 0 => by simp [setAtD]
  | i + 1, e :: r, j + 1 => by simp [setAtD, setAtD_get x y i r j]
theorem setAtD_len (x y : D) : ∀ (i : Nat) (es : List (D × D × Nat)), (setAtD x y i es).length = es.length
  | i, [] => by cases i <;> rfl
  | 0, e :: r => rfl
  | i + 1, e :: r => by simp [setAtD, setAtD_len x y i r]

theorem opMapUpdate_sound (hr : HR G B w0 I0 h w) {t : TypeId} {m key x : AV} {vm vk vx : Value} (hm : Rep G w m vm) (hk : Rep G w key vk) (hx : Rep G w x vx) {out : Out} (ho : opMapUpdate P t m key x h = some out) :
    out.ob = [] ∧ out.val = .junk ∧ ∃ w', (Instr.mapUpdate t vm vk vx).run P w = .ok () w' ∧ Ext G w G w' ∧ HR G B w0 I0 (updAll h out.wr) w' := by
  unfold opMapUpdate at ho
  split at ho
  case h_2 => cases ho
  rename_i kt et k v kd xd hu
  split at ho
  case h_2 => cases ho
  rename_i es c hob
  split at ho
  case isFalse => cases ho
  rename_i hc
  obtain ⟨hv, hkt⟩ := hc
  cases hm with
  | mp _ _ b hL =>
  subst hv
  cases hk with
  | d hkd =>
  cases hx with
  | d hxd =>
  obtain ⟨b', hL', ms, hb, hsz, hent⟩ := hr.maps.obj k es c hob
  rw [hL] at hL'
  cases hL'
  have hget := Go.MapKept.run_getObj_map (P := P) hb
  split at ho
  · rename_i i y hfind
    simp only [Option.some.injEq] at ho
    subst ho
    obtain ⟨v', hfk, _, m', hm', hbits⟩ := findKey_sound hkd hkt es ms.toList (by simpa using hsz) (fun i e m he hm => hent i e m he (by simpa using hm)) hfind
    have hck := isKey_of (P := P) hkd hkt false w
    have hmi : ms[i]? = some m' := by simpa using hm'
    obtain ⟨h1, h2⟩ := hr.setMap (k := k) (c' := c) (ms' := ms.modify i fun e => { e with key := vk, val := vx }) (es' := setAtD kd xd i es) hL hb (by simp [setAtD_len, hsz]) (fun j e m he hm => by
      rw [setAtD_get] at he
      rw [Array.getElem?_modify] at hm
      by_cases hj : j = i
      · subst hj
        simp only [if_true, Option.map_eq_some_iff] at he hm
        obtain ⟨e0, he0, rfl⟩ := he
        obtain ⟨m0, hm0, rfl⟩ := hm
        exact ⟨hkd, hxd, (hent j e0 m0 he0 hm0).2.2⟩
      · rw [if_neg hj] at he
        rw [if_neg (fun e => hj e.symm)] at hm
        exact hent j e m he hm)
    refine ⟨rfl, rfl, _, ?_, h2, h1⟩
    simp only [Instr.mapUpdate, Sem.run_bind, run_underlying hu, Result.andThen_ok, hget, hck, hfk]
    simp only [Instr.keyThatStays, hmi, Option.map_some, Option.getD_some, hbits, if_true, Sem.run_pure, Result.andThen_ok]
    exact Go.MapKept.run_setObj_map (P := P) _ hb
  · rename_i hfind
    simp only [Option.some.injEq] at ho
    subst ho
    have hfk := findKey_sound hkd hkt es ms.toList (by simpa using hsz) (fun i e m he hm => hent i e m he (by simpa using hm)) hfind
    have hck := isKey_of (P := P) hkd hkt false w
    obtain ⟨h1, h2⟩ := hr.setMap (k := k) (c' := c + 1) (ms' := ms.push { key := vk, val := vx, born := c }) (es' := es ++ [(kd, xd, c)]) hL hb (by simp [hsz]) (fun j e m he hm => by
      by_cases hj : j < es.length
      · rw [List.getElem?_append_left hj] at he
        rw [Array.getElem?_push, if_neg (by omega)] at hm
        exact hent j e m he hm
      · rw [List.getElem?_append_right (by omega)] at he
        have hj0 : j = es.length := by
          have := (List.getElem?_eq_some_iff.1 he).1
          simp at this; omega
        subst hj0
        simp only [Nat.sub_self, List.getElem?_cons_zero, Option.some.injEq] at he
        rw [Array.getElem?_push, if_pos hsz.symm] at hm
        simp only [Option.some.injEq] at hm
        subst he; subst hm
        exact ⟨hkd, hxd, rfl⟩)
    refine ⟨rfl, rfl, _, ?_, h2, h1⟩
    simp only [Instr.mapUpdate, Sem.run_bind, run_underlying hu, Result.andThen_ok, hget, hck, hfk]
    exact Go.MapKept.run_setObj_map (P := P) _ hb
  · cases ho

theorem opLookup_sound (hr : HR G B w0 I0 h w) {t : TypeId} {m key : AV} {ok : Bool} {vm vk : Value} (hm : Rep G w m vm) (hk : Rep G w key vk) {out : Out} (ho : opLookup P t m key ok h = some out) :
    out.ob = [] ∧ out.wr = [] ∧ ∃ v, (Instr.lookup t vm vk ok).run P w = .ok v w ∧ Rep G w out.val v := by
  unfold opLookup at ho
  split at ho
  case h_2 => cases ho
  rename_i kt et k v kd hu
  split at ho
  case h_2 => cases ho
  rename_i es c hob
  split at ho
  case isFalse => cases ho
  rename_i hc
  obtain ⟨hv, hkt⟩ := hc
  cases hm with
  | mp _ _ b hL =>
  subst hv
  cases hk with
  | d hkd =>
  obtain ⟨b', hL', ms, hb, hsz, hent⟩ := hr.maps.obj k es c hob
  rw [hL] at hL'
  cases hL'
  have hget := Go.MapKept.run_getObj_map (P := P) hb
  have two : ∀ (x : AV) (v : Value) (b : Bool), Rep G w x v → Rep G w (.tup [x, .d (.bool b)]) (.tuple #[v, .bool b]) := fun x v b hx => .tup _ _ rfl (fun i c u hc hu => by
    match i with
    | 0 => simp at hc hu; subst hc; subst hu; exact hx
    | 1 => simp at hc hu; subst hc; subst hu; exact .d (.bool b)
    | i + 2 => simp at hc)
  split at ho
  · rename_i i y hfind
    simp only [Option.some.injEq] at ho
    subst ho
    obtain ⟨v', hfk, hy, _⟩ := findKey_sound hkd hkt es ms.toList (by simpa using hsz) (fun i e m he hm => hent i e m he (by simpa using hm)) hfind
    have hck := isKey_of (P := P) hkd hkt ms.isEmpty w
    refine ⟨rfl, rfl, if ok = true then .tuple #[v', .bool true] else v', ?_, ?_⟩
    · simp only [Instr.lookup, Sem.run_bind, run_underlying hu, Result.andThen_ok, hget, Sem.run_pure, hck, hfk]
    · cases ok
      · exact .d hy
      · exact two _ _ _ (.d hy)
  · rename_i hfind
    split at ho
    case h_2 => cases ho
    rename_i z hz
    simp only [Option.some.injEq] at ho
    subst ho
    have hfk := findKey_sound hkd hkt es ms.toList (by simpa using hsz) (fun i e m he hm => hent i e m he (by simpa using hm)) hfind
    have hck := isKey_of (P := P) hkd hkt ms.isEmpty w
    refine ⟨rfl, rfl, if ok = true then .tuple #[z, .bool false] else z, ?_, ?_⟩
    · simp only [Instr.lookup, Sem.run_bind, run_underlying hu, Result.andThen_ok, hget, Sem.run_pure, hck, hfk, run_zeroValue' hz]
    · cases ok
      · exact cst_rep z
      · exact two _ _ _ (cst_rep z)
  · cases ho

theorem opLenMap_sound (hr : HR G B w0 I0 h w) {t : TypeId} {k v : Nat} {vm : Value} (hm : Rep G w (.mp k v) vm) {out : Out} (ho : opLenMap P t k v h = some out) :
    out.ob = [] ∧ out.wr = [] ∧ ∃ x, (∀ ty, (Builtin.len_ #[t] ty #[vm]).run P w = .ok x w) ∧ Rep G w out.val x := by
  unfold opLenMap at ho
  split at ho
  case h_2 => cases ho
  rename_i kt et hu
  split at ho
  case h_2 => cases ho
  rename_i es c hob
  split at ho
  case isFalse => cases ho
  rename_i hv
  simp only [Option.some.injEq] at ho
  subst ho
  cases hm with
  | mp _ _ b hL =>
  subst hv
  obtain ⟨b', hL', ms, hb, hsz, hent⟩ := hr.maps.obj k es c hob
  rw [hL] at hL'
  cases hL'
  refine ⟨rfl, rfl, _, fun ty => ?_, .d (.int .i64 (es.length : Int))⟩
  simp [Builtin.len_, run_underlying hu, Go.MapKept.run_getObj_map (P := P) hb, Result.andThen, goInt, hsz]

theorem opIndex_sound {t : TypeId} {x ix : AV} {vx vi : Value} (hx : Rep G w x vx) (hi : Rep G w ix vi) {y : AV} (ho : opIndex P t x ix = some y) : ∃ v, (Instr.index t vx vi).run P w = .ok v w ∧ Rep G w y v := by
  unfold opIndex at ho
  split at ho
  · rename_i s kd i hu
    split at ho
    · rename_i h0
      simp only [Option.map_eq_some_iff] at ho
      obtain ⟨b, hb, rfl⟩ := ho
      cases hx with
      | d hx =>
      cases hx with
      | str _ sb hs =>
      subst hs
      cases hi with
      | d hi =>
      cases hi
      have hsb : sb[i.toNat]? = some b := by
        obtain ⟨hlt, he⟩ := List.getElem?_eq_some_iff.1 hb
        have hlt' : i.toNat < sb.size := by simpa using hlt
        rw [getElem?_pos sb i.toNat hlt']
        simp only [Array.getElem_toList] at he
        rw [← he]; rfl
      refine ⟨_, ?_, .d (.int .u8 (b.toNat : Int))⟩
      simp [Instr.index, asIntOf, run_underlying hu, h0, hsb]
    · cases ho
  · cases ho
end Go.Avm
