/-
  The abstract machine, part Rn: keys are names alone. A call's contract under other names; a call leaves nothing behind but what its contract names ('clean').
-/
import Derived.Test.YtkhcaamgjjhpeaaGreatDoorAvmT
import Derived.Test.YtkhcaamgjjhpeaaGreatDoorAvmTe
set_option linter.unusedSectionVars false
namespace Go.Avm
open Go.RowKit
variable [GlobTab]

mutual
def renA (ρ : Nat → Nat) : AV → AV
  | .junk => .junk
  | .d x => .d x
  | .nils => .nils
  | .es => .es
  | .vec k v sz l => .vec (ρ k) v sz l
  | .sl k v o l sz => .sl (ρ k) v o l sz
  | .ptr k v i o sz => .ptr (ρ k) v i o sz
  | .agg cs => .agg (renL ρ cs)
  | .tup cs => .tup (renL ρ cs)
  | .fn f cs => .fn f (renL ρ cs)
  | .mp k v => .mp (ρ k) v
  | .yld k v => .yld (ρ k) v
  | .itr k v => .itr (ρ k) v
  | .iv t x => .iv t (renA ρ x)
  | .vp k v l => .vp (ρ k) v l
def renL (ρ : Nat → Nat) : List AV → List AV
  | [] => []
  | x :: l => renA ρ x :: renL ρ l
end
theorem renL_map (ρ : Nat → Nat) : ∀ l, renL ρ l = l.map (renA ρ)
  | [] => rfl
  | x :: l => by simp [renL, renL_map ρ l]
theorem renA_cells (ρ : Nat → Nat) (x : AV) : (renA ρ x).cells = x.cells.map (renA ρ) := by
  cases x with
  | d y => cases y <;> simp [renA, AV.cells]
  | agg cs => simp [renA, AV.cells, renL_map]
  | _ => simp [renA, AV.cells]
theorem renA_lone (ρ : Nat → Nat) (x : AV) : (renA ρ x).lone = x.lone := by
  cases x with
  | d y => cases y <;> simp [renA, AV.lone]
  | _ => simp [renA, AV.lone]
theorem renL_flat (ρ : Nat → Nat) (l : List AV) : AV.flat (renL ρ l) = (AV.flat l).map (renA ρ) := by
  induction l with
  | nil => rfl
  | cons x l ih =>
    simp only [AV.flat] at ih
    simp only [AV.flat, renL, List.flatMap_cons, List.map_append, renA_cells, ih]
def renO (ρ : Nat → Nat) : Ob → Ob
  | .arr sz es => .arr sz (renL ρ es)
  | .map es c => .map es c
  | .lp f N env ps as bd st => .lp f N (env.map fun p => (p.1, renA ρ p.2)) ps as bd st
  | .itr km vm s l => .itr (ρ km) vm s l
  | .typ k v T n => .typ (ρ k) v T n
def renE (ρ : Nat → Nat) (e : Ent) : Ent := ⟨e.ver, e.ob.map (renO ρ)⟩
theorem envOf_ren (ρ : Nat → Nat) (t : Nat) : ∀ l : List (Nat × AV), envOf (l.map fun p => (p.1, renA ρ p.2)) t = renA ρ (envOf l t)
  | [] => rfl
  | (k, x) :: r => by
    simp only [List.map_cons, envOf, upd]
    split
    · rfl
    · exact envOf_ren ρ t r

/-- One ghost state under the names of another one. -/
structure Ren (ρ : Nat → Nat) (G G2 : Gh) : Prop where
  imm : G2.imm = G.imm
  loc : ∀ k v, G2.loc (ρ k) v = G.loc k v
  lim : ∀ k, G2.lim (ρ k) = G.lim k
  mloc : ∀ k v, G2.mloc (ρ k) v = G.mloc k v
section
variable {ρ : Nat → Nat} {G G2 : Gh} {w : World} (hg : Ren ρ G G2)
include hg
theorem rep_ren {x : AV} {v : Value} (h : Rep G w x v) : Rep G2 w (renA ρ x) v := by
  induction h with
  | junk v => exact .junk v
  | d h => exact .d (by rw [hg.imm]; exact h)
  | nils => exact .nils
  | es ao => exact .es ao
  | vecNil k ver sz => exact .vecNil _ ver sz
  | vec k ver l L hL hfr hlen hsz h => exact .vec _ ver l L ((hg.loc k ver).trans hL) hfr hlen hsz (by rw [hg.imm]; exact h)
  | slNil k ver sz => exact .slNil _ ver sz
  | sl k ver off len c L hL hc hlen => exact .sl _ ver off len c L ((hg.loc k ver).trans hL) hc hlen
  | ptr k ver i off L hL => exact .ptr _ ver i off L ((hg.loc k ver).trans hL)
  | agg cs vs hl h1 _ ih =>
    simp only [renA, renL_map]
    refine .agg _ vs (by simpa using hl) h1 fun i c u hc hu => ?_
    rw [List.getElem?_map] at hc
    cases hci : cs[i]? with
    | none => rw [hci] at hc; cases hc
    | some c0 => rw [hci] at hc; cases hc; exact ih i c0 u hci hu
  | tup cs vs hl _ ih =>
    simp only [renA, renL_map]
    refine .tup _ vs (by simpa using hl) fun i c u hc hu => ?_
    rw [List.getElem?_map] at hc
    cases hci : cs[i]? with
    | none => rw [hci] at hc; cases hc
    | some c0 => rw [hci] at hc; cases hc; exact ih i c0 u hci hu
  | fn f cs vs hl _ ih =>
    simp only [renA, renL_map]
    refine .fn f _ vs (by simpa using hl) fun i c u hc hu => ?_
    rw [List.getElem?_map] at hc
    cases hci : cs[i]? with
    | none => rw [hci] at hc; cases hc
    | some c0 => rw [hci] at hc; cases hc; exact ih i c0 u hci hu
  | mp k ver b hL => exact .mp _ ver b ((hg.mloc k ver).trans hL)
  | yld k ver b hL => exact .yld _ ver b ((hg.mloc k ver).trans hL)
  | itr k ver b hL => exact .itr _ ver b ((hg.mloc k ver).trans hL)
  | iv t v _ ih => exact .iv t v ih
  | vp k ver l L hL h1 hlen h => exact .vp _ ver l L ((hg.loc k ver).trans hL) h1 hlen (by rw [hg.imm]; exact h)
theorem rep_unren {y : AV} {v : Value} (h : Rep G2 w y v) : ∀ x, renA ρ x = y → Rep G w x v := by
  induction h with
  | junk v => intro x hx; cases x <;> simp only [renA, reduceCtorEq] at hx; exact .junk v
  | d h => intro x hx; cases x <;> simp only [renA, reduceCtorEq] at hx; cases hx; exact .d (by rw [← hg.imm]; exact h)
  | nils => intro x hx; cases x <;> simp only [renA, reduceCtorEq] at hx; exact .nils
  | es ao => intro x hx; cases x <;> simp only [renA, reduceCtorEq] at hx; exact .es ao
  | vecNil k ver sz => intro x hx; cases x <;> simp only [renA, reduceCtorEq] at hx; cases hx; exact .vecNil _ ver sz
  | vec k ver l L hL hfr hlen hsz h => intro x hx; cases x <;> simp only [renA, reduceCtorEq] at hx; cases hx; exact .vec _ ver l L ((hg.loc _ ver).symm.trans hL) hfr hlen hsz (by rw [← hg.imm]; exact h)
  | slNil k ver sz => intro x hx; cases x <;> simp only [renA, reduceCtorEq] at hx; cases hx; exact .slNil _ ver sz
  | sl k ver off len c L hL hc hlen => intro x hx; cases x <;> simp only [renA, reduceCtorEq] at hx; cases hx; exact .sl _ ver off len c L ((hg.loc _ ver).symm.trans hL) hc hlen
  | ptr k ver i off L hL => intro x hx; cases x <;> simp only [renA, reduceCtorEq] at hx; cases hx; exact .ptr _ ver i off L ((hg.loc _ ver).symm.trans hL)
  | agg cs vs hl h1 _ ih =>
    intro x hx
    cases x <;> simp only [renA, reduceCtorEq] at hx
    rename_i cs0
    simp only [AV.agg.injEq] at hx
    subst hx
    rw [renL_map] at hl
    refine .agg _ vs (by simpa using hl) h1 fun i c u hc hu => ?_
    exact ih i (renA ρ c) u (by rw [renL_map, List.getElem?_map, hc]; rfl) hu c rfl
  | tup cs vs hl _ ih =>
    intro x hx
    cases x <;> simp only [renA, reduceCtorEq] at hx
    rename_i cs0
    simp only [AV.tup.injEq] at hx
    subst hx
    rw [renL_map] at hl
    refine .tup _ vs (by simpa using hl) fun i c u hc hu => ?_
    exact ih i (renA ρ c) u (by rw [renL_map, List.getElem?_map, hc]; rfl) hu c rfl
  | fn f cs vs hl _ ih =>
    intro x hx
    cases x <;> simp only [renA, reduceCtorEq] at hx
    rename_i f0 cs0
    simp only [AV.fn.injEq] at hx
    obtain ⟨rfl, rfl⟩ := hx
    rw [renL_map] at hl
    refine .fn _ _ vs (by simpa using hl) fun i c u hc hu => ?_
    exact ih i (renA ρ c) u (by rw [renL_map, List.getElem?_map, hc]; rfl) hu c rfl
  | mp k ver b hL => intro x hx; cases x <;> simp only [renA, reduceCtorEq] at hx; cases hx; exact .mp _ ver b ((hg.mloc _ ver).symm.trans hL)
  | yld k ver b hL => intro x hx; cases x <;> simp only [renA, reduceCtorEq] at hx; cases hx; exact .yld _ ver b ((hg.mloc _ ver).symm.trans hL)
  | itr k ver b hL => intro x hx; cases x <;> simp only [renA, reduceCtorEq] at hx; cases hx; exact .itr _ ver b ((hg.mloc _ ver).symm.trans hL)
  | iv t v _ ih =>
    intro x hx
    cases x <;> simp only [renA, reduceCtorEq] at hx
    simp only [AV.iv.injEq] at hx
    obtain ⟨rfl, hx⟩ := hx
    exact .iv _ v (ih _ hx)
  | vp k ver l L hL h1 hlen h => intro x hx; cases x <;> simp only [renA, reduceCtorEq] at hx; cases hx; exact .vp _ ver l L ((hg.loc _ ver).symm.trans hL) h1 hlen (by rw [← hg.imm]; exact h)
theorem ob_ren {k ver : Nat} {ob : Ob} (h : ObRep G w k ver ob) : ObRep G2 w (ρ k) ver (renO ρ ob) := by
  cases ob with
  | arr sz es =>
    rcases h with ⟨rfl, h⟩ | ⟨L, h1, h2, h3, h4, h5, h6, h7⟩
    · exact .inl ⟨rfl, (hg.loc k ver).trans h⟩
    · refine .inr ⟨L, (hg.loc k ver).trans h1, h2, h3, by simpa [renL_map] using h4, fun e he => ?_, fun hz e he => ?_, fun t c hc => ?_⟩
      · rw [renL_map] at he
        obtain ⟨x, hx, rfl⟩ := List.mem_map.1 he
        rw [renA_cells, List.length_map]
        exact h5 x hx
      · rw [renL_map] at he
        obtain ⟨x, hx, rfl⟩ := List.mem_map.1 he
        rw [renA_lone]
        exact h6 hz x hx
      · rw [renL_flat, List.getElem?_map] at hc
        cases hci : (AV.flat es)[t]? with
        | none => rw [hci] at hc; cases hc
        | some c0 =>
          rw [hci] at hc
          cases hc
          obtain ⟨u, g1, g2, g3⟩ := h7 t c0 hci
          exact ⟨u, g1, g2, rep_ren hg g3⟩
  | typ k' v' T n => exact ⟨by rw [hg.lim]; exact h.1, fun L hL => h.2 L ((hg.loc k' v').symm.trans hL)⟩
  | _ => exact trivial
theorem ob_unren {k ver : Nat} {ob : Ob} (h : ObRep G2 w (ρ k) ver (renO ρ ob)) : ObRep G w k ver ob := by
  cases ob with
  | arr sz es =>
    rcases h with ⟨h0, h⟩ | ⟨L, h1, h2, h3, h4, h5, h6, h7⟩
    · refine .inl ⟨?_, (hg.loc k ver).symm.trans h⟩
      rw [renL_map] at h0
      exact List.map_eq_nil_iff.1 h0
    · refine .inr ⟨L, (hg.loc k ver).symm.trans h1, h2, h3, by simpa [renL_map] using h4, fun e he => ?_, fun hz e he => ?_, fun t c hc => ?_⟩
      · have := h5 (renA ρ e) (by rw [renL_map]; exact List.mem_map_of_mem he)
        rwa [renA_cells, List.length_map] at this
      · have := h6 hz (renA ρ e) (by rw [renL_map]; exact List.mem_map_of_mem he)
        rwa [renA_lone] at this
      · obtain ⟨u, g1, g2, g3⟩ := h7 t (renA ρ c) (by rw [renL_flat, List.getElem?_map, hc]; rfl)
        exact ⟨u, g1, g2, rep_unren hg g3 c rfl⟩
  | typ k' v' T n => exact ⟨by rw [← hg.lim]; exact h.1, fun L hL => h.2 L ((hg.loc k' v').trans hL)⟩
  | _ => exact trivial
theorem lrep_ren {N : Nat} {env : List (Nat × AV)} {ps : Array Nat} {as bd : Code} {st : LSt} {r : Loop} (h : LRep G w N env ps as bd st r) : LRep G2 w N (env.map fun p => (p.1, renA ρ p.2)) ps as bd st r :=
  ⟨h.size, fun t ht => by rw [envOf_ren]; exact rep_ren hg (h.rep t ht), fun t ht => by rw [envOf_ren, h.out t ht]; rfl, h.ps, h.as, h.bd, h.state, h.pending⟩
theorem lrep_unren {N : Nat} {env : List (Nat × AV)} {ps : Array Nat} {as bd : Code} {st : LSt} {r : Loop} (h : LRep G2 w N (env.map fun p => (p.1, renA ρ p.2)) ps as bd st r) : LRep G w N env ps as bd st r :=
  ⟨h.size, fun t ht => rep_unren hg (h.rep t ht) _ (envOf_ren ρ t env).symm, fun t ht => by
    have := h.out t ht
    rw [envOf_ren] at this
    cases hx : envOf env t <;> rw [hx] at this <;> first | rfl | (simp only [renA, reduceCtorEq] at this), h.ps, h.as, h.bd, h.state, h.pending⟩
end
def renG (σ : Nat → Option Nat) (G : Gh) : Gh where
  imm := G.imm
  loc := fun j v => match σ j with | some k => G.loc k v | none => none
  lim := fun j => match σ j with | some k => G.lim k | none => 0
  mloc := fun j v => match σ j with | some k => G.mloc k v | none => none
def renH (ρ : Nat → Nat) (σ : Nat → Option Nat) (h : Heap) : Heap := fun j => match σ j with | some k => renE ρ (h k) | none => ⟨0, none⟩
def unG (ρ : Nat → Nat) (G : Gh) : Gh where
  imm := G.imm
  loc := fun k v => G.loc (ρ k) v
  lim := fun k => G.lim (ρ k)
  mloc := fun k v => G.mloc (ρ k) v
theorem unG_ren (ρ : Nat → Nat) (G : Gh) : Ren ρ (unG ρ G) G := ⟨rfl, fun _ _ => rfl, fun _ => rfl, fun _ _ => rfl⟩
structure Names (ρ : Nat → Nat) (σ : Nat → Option Nat) : Prop where
  to : ∀ k, σ (ρ k) = some k
  fro : ∀ j k, σ j = some k → ρ k = j
theorem Names.inj {ρ : Nat → Nat} {σ : Nat → Option Nat} (hn : Names ρ σ) {a b : Nat} (h : ρ a = ρ b) : a = b := by
  have h1 := hn.to a
  rw [h, hn.to b] at h1
  exact (Option.some.inj h1).symm
theorem renG_ren {ρ : Nat → Nat} {σ : Nat → Option Nat} (hn : Names ρ σ) (G : Gh) : Ren ρ G (renG σ G) := ⟨rfl, fun k v => by simp only [renG, hn.to], fun k => by simp only [renG, hn.to], fun k v => by simp only [renG, hn.to]⟩
section
variable {ρ : Nat → Nat} {σ : Nat → Option Nat} (hn : Names ρ σ) {G : Gh} {B : Nat} {w0 w : World} {I0 : Nat → Nat → Prop} {h : Heap}
include hn
theorem hr_ren (hr : HR G B w0 I0 h w) : HR (renG σ G) B w0 I0 (renH ρ σ h) w := by
  have hg := renG_ren hn G
  have loc : ∀ j v L, (renG σ G).loc j v = some L → ∃ k, σ j = some k ∧ G.loc k v = some L := fun j v L hL => by
    simp only [renG] at hL
    split at hL
    · rename_i k hk; exact ⟨k, hk, hL⟩
    · cases hL
  have mloc : ∀ j v L, (renG σ G).mloc j v = some L → ∃ k, σ j = some k ∧ G.mloc k v = some L := fun j v L hL => by
    simp only [renG] at hL
    split at hL
    · rename_i k hk; exact ⟨k, hk, hL⟩
    · cases hL
  have ver : ∀ j k, σ j = some k → (renH ρ σ h j).ver = (h k).ver := fun j k hj => by simp only [renH, hj, renE]
  have obs : ∀ j ob, (renH ρ σ h j).ob = some ob → ∃ k o, σ j = some k ∧ (h k).ob = some o ∧ ob = renO ρ o := fun j ob ho => by
    simp only [renH] at ho
    split at ho
    · rename_i k hk
      simp only [renE, Option.map_eq_some_iff] at ho
      obtain ⟨o, h1, h2⟩ := ho
      exact ⟨k, o, hk, h1, h2.symm⟩
    · cases ho
  refine ⟨hr.below, hr.bsz, hr.immlt, hr.i0, hr.immlow, ?_, ?_, ?_, ?_, ?_, ⟨?_, ?_, ?_, ?_, ?_, hr.maps.glob⟩⟩
  · intro j v L hL
    obtain ⟨k, hk, hL⟩ := loc j v L hL
    rw [ver j k hk]
    exact hr.fresh k v L hL
  · intro j L hL
    obtain ⟨k, hk, hL⟩ := loc j _ L hL
    rw [ver j k hk] at hL
    exact hr.own k L hL
  · intro j j' L L' hL hL' hb
    obtain ⟨k, hk, hL⟩ := loc j _ L hL
    obtain ⟨k', hk', hL'⟩ := loc j' _ L' hL'
    rw [ver j k hk] at hL
    rw [ver j' k' hk'] at hL'
    have := hr.dis k k' L L' hL hL' hb
    subst this
    exact (hn.fro j k hk).symm.trans (hn.fro j' k hk')
  · intro j ob ho
    obtain ⟨k, o, hk, h1, rfl⟩ := obs j ob ho
    rw [ver j k hk, ← hn.fro j k hk]
    exact ob_ren hg (hr.objs k o h1)
  · intro j
    simp only [renG, renH]
    split
    · rename_i k hk; exact hr.lim k
    · rfl
  · intro j v b hb
    obtain ⟨k, hk, hb⟩ := mloc j v b hb
    obtain ⟨h1, h2, h3⟩ := hr.maps.low k v b hb
    exact ⟨h1, h2, by rw [ver j k hk]; exact h3⟩
  · intro j v j' v' b hb hb'
    obtain ⟨k, hk, hb⟩ := mloc j v b hb
    obtain ⟨k', hk', hb'⟩ := mloc j' v' b hb'
    obtain ⟨h1, h2⟩ := hr.maps.inj k v k' v' b hb hb'
    subst h1
    exact ⟨(hn.fro j k hk).symm.trans (hn.fro j' k hk'), h2⟩
  · intro j es c ho
    obtain ⟨k, o, hk, h1, h2⟩ := obs j _ ho
    cases o <;> simp only [renO, reduceCtorEq] at h2
    cases h2
    obtain ⟨b, g1, g2⟩ := hr.maps.obj k _ _ h1
    rw [ver j k hk, ← hn.fro j k hk]
    exact ⟨b, (hg.mloc k _).trans g1, g2⟩
  · intro j fno N env ps as bd st ho
    obtain ⟨k, o, hk, h1, h2⟩ := obs j _ ho
    cases o <;> simp only [renO, reduceCtorEq] at h2
    cases h2
    obtain ⟨b, r, g1, g2, g3⟩ := hr.maps.loops k _ _ _ _ _ _ _ h1
    rw [ver j k hk, ← hn.fro j k hk]
    exact ⟨b, r, (hg.mloc k _).trans g1, g2, lrep_ren hg g3⟩
  · intro j km vm since seen ho
    obtain ⟨k, o, hk, h1, h2⟩ := obs j _ ho
    cases o <;> simp only [renO, reduceCtorEq] at h2
    cases h2
    obtain ⟨b, bm, sa, c0, g1, g2, g3, g4, g5⟩ := hr.maps.iters k _ _ _ _ h1
    rw [ver j k hk, ← hn.fro j k hk]
    exact ⟨b, bm, sa, c0, (hg.mloc k _).trans g1, (hg.mloc _ _).trans g2, g3, g4, g5⟩
theorem hr_unren {h2 : Heap} (hr : HR G B w0 I0 h2 w) (hh : ∀ k, h2 (ρ k) = renE ρ (h k)) : HR (unG ρ G) B w0 I0 h w := by
  have hg := unG_ren ρ G
  have ver : ∀ k, (h2 (ρ k)).ver = (h k).ver := fun k => by rw [hh]; rfl
  have obs : ∀ k o, (h k).ob = some o → (h2 (ρ k)).ob = some (renO ρ o) := fun k o ho => by rw [hh]; simp [renE, ho]
  refine ⟨hr.below, hr.bsz, hr.immlt, hr.i0, hr.immlow, ?_, ?_, ?_, ?_, ?_, ⟨?_, ?_, ?_, ?_, ?_, hr.maps.glob⟩⟩
  · intro k v L hL
    have := hr.fresh (ρ k) v L hL
    rwa [ver] at this
  · intro k L hL
    exact hr.own (ρ k) L (by rw [ver]; exact hL)
  · intro k k' L L' hL hL' hb
    exact hn.inj (hr.dis (ρ k) (ρ k') L L' (by rw [ver]; exact hL) (by rw [ver]; exact hL') hb)
  · intro k ob ho
    have := hr.objs (ρ k) _ (obs k ob ho)
    rw [ver] at this
    exact ob_unren hg this
  · intro k
    have := hr.lim (ρ k)
    rw [ver] at this
    exact this
  · intro k v b hb
    obtain ⟨h1, h3, h4⟩ := hr.maps.low (ρ k) v b hb
    exact ⟨h1, h3, by rw [← ver]; exact h4⟩
  · intro k v k' v' b hb hb'
    obtain ⟨h1, h3⟩ := hr.maps.inj (ρ k) v (ρ k') v' b hb hb'
    exact ⟨hn.inj h1, h3⟩
  · intro k es c ho
    obtain ⟨b, g1, g2⟩ := hr.maps.obj (ρ k) es c (obs k _ ho)
    rw [ver] at g1
    exact ⟨b, g1, g2⟩
  · intro k fno N env ps as bd st ho
    obtain ⟨b, r, g1, g2, g3⟩ := hr.maps.loops (ρ k) _ _ _ _ _ _ _ (obs k _ ho)
    rw [ver] at g1
    exact ⟨b, r, g1, g2, lrep_unren hg g3⟩
  · intro k km vm since seen ho
    obtain ⟨b, bm, sa, c0, g1, g2, g3⟩ := hr.maps.iters (ρ k) _ _ _ _ (obs k _ ho)
    rw [ver] at g1
    exact ⟨b, bm, sa, c0, g1, g2, g3⟩
theorem ext_unren {G2 : Gh} {w' : World} (e : Ext (renG σ G) w G2 w') : Ext G w (unG ρ G2) w' := by
  have hg := renG_ren hn G
  exact ⟨e.imm, fun k v L hL => e.loc (ρ k) v L ((hg.loc k v).trans hL), e.cell, e.size, fun k => by have := e.lim (ρ k); rwa [hg.lim] at this, fun k v hv hL => e.nloc (ρ k) v (by rw [hg.lim]; exact hv) ((hg.loc k v).trans hL), fun k v b hb => e.mloc (ρ k) v b ((hg.mloc k v).trans hb), e.kept⟩
/-- A call's contract under other names. -/
theorem hcall_ren {P : Program} {f : Nat} {args rs : List AV} {h' h2 : Heap} (hc : HCall P f (renL ρ args) (renH ρ σ h) (renL ρ rs) h2) (hh : ∀ k, h2 (ρ k) = renE ρ (h' k)) : HCall P f args h rs h' := by
  refine ⟨hc.1, fun G B w0 I0 w cargs hr hs hargs => (hc.2 (renG σ G) B w0 I0 w cargs (hr_ren hn hr) (by rw [renL_map]; simpa using hs) fun i x u hx hu => ?_).mono ?_⟩
  · rw [renL_map, List.getElem?_map] at hx
    cases hi : args[i]? with
    | none => rw [hi] at hx; cases hx
    | some y => rw [hi] at hx; cases hx; exact rep_ren (renG_ren hn G) (hargs i y u hi hu)
  · rintro e w' ⟨v, G2, rfl, e1, e2, e3⟩
    refine ⟨v, unG ρ G2, rfl, ext_unren hn e1, hr_unren hn e2 hh, rep_unren (unG_ren ρ G2) e3 _ ?_⟩
    match rs with
    | [] => rfl
    | [x] => rfl
    | x :: y :: l => rfl
theorem hpan_ren {P : Program} {f : Nat} {args : List AV} {x : AV} {h' h2 : Heap} (hc : HPan P f (renL ρ args) (renH ρ σ h) (renA ρ x) h2) (hh : ∀ k, h2 (ρ k) = renE ρ (h' k)) : HPan P f args h x h' := by
  refine ⟨hc.1, fun G B w0 I0 w cargs hr hs hargs => (hc.2 (renG σ G) B w0 I0 w cargs (hr_ren hn hr) (by rw [renL_map]; simpa using hs) fun i x u hx hu => ?_).mono ?_⟩
  · rw [renL_map, List.getElem?_map] at hx
    cases hi : args[i]? with
    | none => rw [hi] at hx; cases hx
    | some y => rw [hi] at hx; cases hx; exact rep_ren (renG_ren hn G) (hargs i y u hi hu)
  · rintro e w' ⟨v, G2, rfl, e1, e2, e3⟩
    exact ⟨v, unG ρ G2, rfl, ext_unren hn e1, hr_unren hn e2 hh, rep_unren (unG_ren ρ G2) e3 _ rfl⟩
end

/-- Results, looked at as data; which keys that takes. -/
def viewK (h : Heap) : List AV → Option (List D × List Nat)
  | [] => some ([], [])
  | x :: l => match view 12 h x, viewK h l with
    | some r, some rs => some (r.1 :: rs.1, r.2 ++ rs.2)
    | _, _ => none
theorem viewK_len {h : Heap} : ∀ {l : List AV} {r : List D × List Nat}, viewK h l = some r → l.length = r.1.length
  | [], r, e => by simp [viewK] at e; subst e; rfl
  | x :: l, r, e => by
    simp only [viewK] at e
    split at e
    · rename_i r1 rs hr hrs
      simp only [Option.some.injEq] at e
      subst e
      simp [viewK_len hrs]
    · cases e
theorem viewK_get {h : Heap} : ∀ {l : List AV} {r : List D × List Nat}, viewK h l = some r → ∀ (i : Nat) (d : D), r.1[i]? = some d → ∃ x ks, l[i]? = some x ∧ view 12 h x = some (d, ks) ∧ ∀ k ∈ ks, k ∈ r.2
  | [], r, e, i, d, hd => by simp [viewK] at e; subst e; simp at hd
  | x :: l, r, e, i, d, hd => by
    simp only [viewK] at e
    split at e
    · rename_i r1 rs hr hrs
      simp only [Option.some.injEq] at e
      subst e
      cases i with
      | zero => simp at hd; subst hd; exact ⟨x, r1.2, rfl, hr, fun k hk => by simp [hk]⟩
      | succ i =>
        obtain ⟨x', ks, h1, h2, h3⟩ := viewK_get hrs i d (by simpa using hd)
        exact ⟨x', ks, h1, h2, fun k hk => by simp [h3 k hk]⟩
    · cases e
theorem retV_ne {l : List AV} (h : l.length ≠ 1) : retV l = .tup l := by
  match l, h with
  | [], _ => rfl
  | [_], h => simp at h
  | _ :: _ :: _, _ => rfl
theorem hcall_view {P : Program} {f : Nat} {args rs : List AV} {h h' : Heap} {r : List D × List Nat} (hc : HCall P f args h rs h') (hv : viewK h' rs = some r) : HCall P f args h (r.1.map .d) (updAll h' (kill h' r.2)) := by
  refine ⟨hc.1, fun G B w0 I0 w cargs hr hs hargs => (hc.2 G B w0 I0 w cargs hr hs hargs).mono ?_⟩
  rintro e w' ⟨v, G', rfl, e1, e2, e3⟩
  refine ⟨v, G'.froz h' r.2, rfl, e1.trans (Ext.froz e2 r.2), e2.kill r.2, ?_⟩
  have one : ∀ (x : AV) (y : D) (ks : List Nat) (u : Value), view 12 h' x = some (y, ks) → (∀ k ∈ ks, k ∈ r.2) → Rep G' w' x u → Rep (G'.froz h' r.2) w' (.d y) u := fun x y ks u hx hks hu =>
    .d ((view_sound e2 12 _ _ _ _ hx hu).mono (by
      rintro b o (x | ⟨k, hk, L, hL, hb⟩)
      · exact .inl x
      · exact .inr ⟨k, hks k hk, L, hL, hb⟩) (fun _ _ _ => rfl))
  have hl := viewK_len hv
  by_cases h1 : rs.length = 1
  · obtain ⟨x, rfl⟩ := List.length_eq_one_iff.1 h1
    obtain ⟨l, ks0⟩ := r
    obtain ⟨y, rfl⟩ := List.length_eq_one_iff.1 (hl ▸ h1)
    obtain ⟨x', ks, hx', hy, hks⟩ := viewK_get hv 0 y rfl
    simp at hx'; subst hx'
    exact one _ _ _ _ hy hks e3
  · rw [retV_ne h1] at e3
    rw [retV_ne (l := r.1.map AV.d) (by rw [List.length_map, ← hl]; exact h1)]
    cases e3 with
    | tup _ vs hvl hrep =>
      refine .tup _ vs (by simp; omega) fun i c u hc hu => ?_
      rw [List.getElem?_map] at hc
      cases hi : r.1[i]? with
      | none => rw [hi] at hc; cases hc
      | some d =>
        rw [hi] at hc
        cases hc
        obtain ⟨x, ks, h4, h5, h6⟩ := viewK_get hv i d hi
        exact one _ _ _ _ h5 h6 (hrep i x u h4 hu)

/-! ### Clean calls -/
/-- Keys F keep their names, all others get greater ones. -/
def rnK (F : List Nat) (M : Nat) (k : Nat) : Nat := bif F.any (Nat.beq k) then k else k + M
def rnS (F : List Nat) (M : Nat) (j : Nat) : Option Nat := bif F.any (Nat.beq j) then some j else bif Nat.ble M j then (bif F.any (Nat.beq (j - M)) then none else some (j - M)) else none
theorem rn_mem {F : List Nat} {k : Nat} : F.any (Nat.beq k) = true ↔ k ∈ F := by
  rw [List.any_eq_true]
  constructor
  · rintro ⟨x, hx, h⟩
    rw [Nat.eq_of_beq_eq_true h]
    exact hx
  · intro h
    exact ⟨k, h, Nat.beq_refl k⟩
theorem rn_not {F : List Nat} {k : Nat} : F.any (Nat.beq k) = false ↔ k ∉ F := by
  rw [← rn_mem]
  cases F.any (Nat.beq k) <;> simp
theorem rn_in {F : List Nat} {M k : Nat} (h : k ∈ F) : rnK F M k = k ∧ rnS F M k = some k := by
  have := rn_mem.2 h
  simp [rnK, rnS, this]
theorem rn_out {F : List Nat} {M k : Nat} (hF : ∀ k ∈ F, k < M) (h : k ∉ F) : rnK F M k = k + M ∧ rnS F M (k + M) = some k := by
  have h1 := rn_not.2 h
  have h2 : F.any (Nat.beq (k + M)) = false := rn_not.2 fun h => by have := hF _ h; omega
  have h3 : Nat.ble M (k + M) = true := (by simp)
  simp [rnK, rnS, h1, h2, h3]
theorem rn_names {F : List Nat} {M : Nat} (hF : ∀ k ∈ F, k < M) : Names (rnK F M) (rnS F M) := by
  constructor
  · intro k
    by_cases h : k ∈ F
    · rw [(rn_in (M := M) h).1, (rn_in h).2]
    · rw [(rn_out hF h).1, (rn_out hF h).2]
  · intro j k hj
    by_cases h : j ∈ F
    · rw [(rn_in h).2] at hj
      cases hj
      exact (rn_in h).1
    · unfold rnS at hj
      rw [rn_not.2 h] at hj
      simp only [cond_false] at hj
      cases h2 : Nat.ble M j with
      | false => rw [h2] at hj; cases hj
      | true =>
        rw [h2] at hj
        simp only [cond_true] at hj
        cases h3 : F.any (Nat.beq (j - M)) with
        | true => rw [h3] at hj; cases hj
        | false =>
          rw [h3] at hj
          simp only [cond_false, Option.some.injEq] at hj
          subst hj
          have : M ≤ j := by simpa using h2
          rw [(rn_out hF (rn_not.1 h3)).1]
          omega
theorem ovl_mem (h : Heap) (k : Nat) : ∀ (l : List (Nat × Ent)), k ∈ l.map (·.1) → ∃ e, (k, e) ∈ l ∧ ovl l h k = e
  | [], hk => by simp at hk
  | (a, e) :: r, hk => by
    simp only [ovl]
    by_cases ha : k = a
    · subst ha
      exact ⟨e, by simp, upd_same _ _ _⟩
    · obtain ⟨e', h1, h2⟩ := ovl_mem h k r (by simpa [ha] using hk)
      exact ⟨e', by simp [h1], (upd_ne _ _ ha).trans h2⟩
theorem renL_d (ρ : Nat → Nat) (ds : List D) : renL ρ (ds.map .d) = ds.map .d := by
  rw [renL_map, List.map_map]
  exact List.map_congr_left fun _ _ => rfl
/-- Below M nothing lies. -/
def lowZ (M : Nat) (h : Heap) : Heap := fun k => bif Nat.blt k M then ⟨0, none⟩ else h k
theorem lowZ_ge {M k : Nat} (h : Heap) (hk : M ≤ k) : lowZ M h k = h k := by
  have : Nat.blt k M = false := by
    cases hb : Nat.blt k M with
    | false => rfl
    | true => have := (show k < M by simpa using hb); omega
  simp [lowZ, this]
theorem lowZ_lt {M k : Nat} (h : Heap) (hk : k < M) : lowZ M h k = ⟨0, none⟩ := by
  have : Nat.blt k M = true := by simpa using hk
  simp [lowZ, this]
theorem rn_low {F : List Nat} {M k : Nat} (h : k ∉ F) (hk : k < M) : rnS F M k = none := by
  have h1 := rn_not.2 h
  have h2 : Nat.ble M k = false := by
    cases hb : Nat.ble M k with
    | false => rfl
    | true => have := (show M ≤ k by simpa using hb); omega
  simp [rnS, h1, h2]
/-- What a clean contract names: nothing but keys F. -/
structure Cln (F : List Nat) (M : Nat) (args : List AV) (pre post : List (Nat × Ent)) : Prop where
  lt : (F.all fun k => Nat.blt k M) = true
  preK : pre.map (·.1) = F
  postK : post.map (·.1) = F
  argsK : renL (rnK F M) args = args
  preE : (pre.map fun p => renE (rnK F M) p.2) = pre.map (·.2)
  postE : (post.map fun p => renE (rnK F M) p.2) = post.map (·.2)
theorem cln_ent {ρ : Nat → Nat} : ∀ {l : List (Nat × Ent)}, (l.map fun p => renE ρ p.2) = l.map (·.2) → ∀ k e, (k, e) ∈ l → renE ρ e = e
  | [], _, k, e, h => by cases h
  | p :: r, hl, k, e, h => by
    simp only [List.map_cons, List.cons.injEq] at hl
    rcases List.mem_cons.1 h with rfl | h
    · exact hl.1
    · exact cln_ent hl.2 k e h
section
variable {F : List Nat} {M : Nat} {args : List AV} {pre post : List (Nat × Ent)} (c : Cln F M args pre post)
include c
theorem Cln.ltF : ∀ k ∈ F, k < M := fun k hk => by
  have := List.all_eq_true.1 c.lt k hk
  simpa using this
theorem Cln.heap (h : Heap) : renH (rnK F M) (rnS F M) (ovl pre h) = ovl pre (lowZ M (renH (rnK F M) (rnS F M) (ovl pre h))) := by
  funext k
  by_cases hk : k ∈ F
  · obtain ⟨e, h1, h2⟩ := ovl_mem h k pre (by rw [c.preK]; exact hk)
    have h3 := ovl_in pre h (lowZ M (renH (rnK F M) (rnS F M) (ovl pre h))) (k := k) (by rw [c.preK]; exact hk)
    rw [← h3]
    simp only [renH, (rn_in (M := M) hk).2, h2]
    exact cln_ent c.preE k e h1
  · rw [ovl_ne _ _ (by rw [c.preK]; exact hk)]
    rcases Nat.lt_or_ge k M with hlt | hge
    · rw [lowZ_lt _ hlt]
      simp only [renH, rn_low hk hlt]
    · rw [lowZ_ge _ hge]
theorem Cln.behind (h : Heap) {h2 : Heap} (hF : ∀ k, k ∈ F → h2 k = ovl post h2 k) (hM : ∀ k, M ≤ k → h2 k = ovl pre (lowZ M (renH (rnK F M) (rnS F M) (ovl pre h))) k) (k : Nat) : h2 (rnK F M k) = renE (rnK F M) (ovl post h k) := by
  by_cases hk : k ∈ F
  · obtain ⟨e, h1, h3⟩ := ovl_mem h k post (by rw [c.postK]; exact hk)
    rw [(rn_in hk).1, hF k hk, ovl_in post h2 h (by rw [c.postK]; exact hk), h3]
    exact (cln_ent c.postE k e h1).symm
  · have hlt := c.ltF
    rw [(rn_out hlt hk).1, hM _ (by omega), ← c.heap h]
    simp only [renH, (rn_out hlt hk).2]
    rw [ovl_ne _ _ (by rw [c.preK]; exact hk), ovl_ne _ _ (by rw [c.postK]; exact hk)]
theorem hcall_clean {P : Program} {f : Nat} {ds : List D} (hc : ∀ rest : Heap, ∃ h2, HCall P f args (ovl pre (lowZ M rest)) (ds.map .d) h2 ∧ (∀ k, k ∈ F → h2 k = ovl post h2 k) ∧ ∀ k, M ≤ k → h2 k = ovl pre (lowZ M rest) k) (rest : Heap) : HCall P f args (ovl pre rest) (ds.map .d) (ovl post rest) := by
  obtain ⟨h2, h3, h4, h5⟩ := hc (renH (rnK F M) (rnS F M) (ovl pre rest))
  rw [← c.heap rest] at h3
  refine hcall_ren (rn_names c.ltF) (h2 := h2) ?_ (c.behind rest h4 h5)
  rw [c.argsK, renL_d]
  exact h3
theorem hpan_clean {P : Program} {f : Nat} {x : AV} (hx : renA (rnK F M) x = x) (hc : ∀ rest : Heap, ∃ h2, HPan P f args (ovl pre (lowZ M rest)) x h2 ∧ (∀ k, k ∈ F → h2 k = ovl post h2 k) ∧ ∀ k, M ≤ k → h2 k = ovl pre (lowZ M rest) k) (rest : Heap) : HPan P f args (ovl pre rest) x (ovl post rest) := by
  obtain ⟨h2, h3, h4, h5⟩ := hc (renH (rnK F M) (rnS F M) (ovl pre rest))
  rw [← c.heap rest] at h3
  refine hpan_ren (rn_names c.ltF) (h2 := h2) ?_ (c.behind rest h4 h5)
  rw [c.argsK, hx]
  exact h3
end
/-- The contract of a clean call, by a run. -/
def cleanRun (r : Option (List AV × Heap × Nat × List Nat × Pairs)) (F : List Nat) (M : Nat) (ds : List D) (post : List (Nat × Ent)) : Option (AExit × Pairs) :=
  match r with
  | some (rs', h', _, tk, ps) => match viewK h' rs', heapPairs h' post with
    | some v, some q => match (v.2.all fun k => Nat.blt k M && !(F.any (Nat.beq k))) && tk.all fun k => Nat.blt k M with
      | true => some (.ret, (.ds v.1, .ds ds) :: (ps ++ q))
      | false => none
    | _, _ => none
  | none => none
theorem hclean_of_run {P : Program} (hm : OkP P) (hn : Named P) (pr : Par P) (n base g M : Nat) {args : List AV} {ds : List D} {pre post : List (Nat × Ent)} (c : Cln (pre.map (·.1)) M args pre post)
    (h : ∀ rest : Heap, outL (cleanRun (callHH P (execH P pr n) base g args (ovl pre (lowZ M rest))) (pre.map (·.1)) M ds post) = outR .ret (cleanRun (callHH P (execH P pr n) base g args (ovl pre (lowZ M rest))) (pre.map (·.1)) M ds post)) (rest : Heap) : HCall P g args (ovl pre rest) (ds.map .d) (ovl post rest) := by
  refine hcall_clean c (fun rest => ?_) rest
  obtain ⟨ps, h1, hs⟩ := out_spec (h rest)
  unfold cleanRun at h1
  split at h1
  case h_2 => cases h1
  rename_i rs' h' b' tk ps' hr
  split at h1
  case h_2 => cases h1
  rename_i v q hv hq
  split at h1
  case h_2 => cases h1
  rename_i hk
  simp only [Option.some.injEq, Prod.mk.injEq, true_and] at h1
  subst h1
  have g1 := hs.head
  simp only [Side.ds.injEq] at g1
  subst g1
  rw [Bool.and_eq_true] at hk
  have hv2 : ∀ k ∈ v.2, k < M ∧ k ∉ pre.map (·.1) := fun k hkv => by
    have := List.all_eq_true.1 hk.1 k hkv
    simp only [Bool.and_eq_true, Bool.not_eq_true'] at this
    exact ⟨by simpa using this.1, rn_not.1 this.2⟩
  have htk : ∀ k ∈ tk, k < M := fun k hkt => by
    have := List.all_eq_true.1 hk.2 k hkt
    simpa using this
  obtain ⟨c1, c2⟩ := callHH_sound hm hn (execH_right hm hn n) hr hs.tail.left
  have c3 := hcall_view c1 hv
  have hsub := ovl_sub h' post (heapPairs_spec hq hs.tail.right)
  refine ⟨ovl post (updAll h' (kill h' v.2)), ⟨c3.1, fun G B w0 I0 w cargs hr hsz hargs => (c3.2 G B w0 I0 w cargs hr hsz hargs).mono ?_⟩, fun k hkF => ?_, fun k hkM => ?_⟩
  · rintro e w' ⟨u, G', rfl, e1, e2, e3⟩
    refine ⟨u, G', rfl, e1, e2.forget fun k => ?_, e3⟩
    by_cases hkF : k ∈ post.map (·.1)
    · have hnv : k ∉ v.2 := fun hx => (hv2 k hx).2 (by rw [← c.postK]; exact hkF)
      rw [updAll_kill, if_neg hnv, ovl_in post _ h' hkF]
      exact hsub k
    · rw [ovl_ne _ _ hkF]
      exact ⟨rfl, .inr rfl⟩
  · exact ovl_in _ _ _ (by rw [c.postK]; exact hkF)
  · have hkF : k ∉ pre.map (·.1) := fun hx => by have := c.ltF k hx; omega
    rw [ovl_ne _ _ (by rw [c.postK]; exact hkF), updAll_kill, if_neg fun hx => by have := (hv2 k hx).1; omega]
    exact c2 k fun hx => by have := htk k hx; omega
def cleanPan (r : Option (AV × Heap × Nat × List Nat × Pairs)) (M : Nat) (x : AV) (post : List (Nat × Ent)) : Option (AExit × Pairs) :=
  match r with
  | some (x', h', _, tk, ps) => match heapPairs h' post with
    | some q => match tk.all fun k => Nat.blt k M with
      | true => some (.ret, (.av x', .av x) :: (ps ++ q))
      | false => none
    | _ => none
  | none => none
theorem hcleanP_of_run {P : Program} (hm : OkP P) (hn : Named P) (pr : Par P) (n base g M : Nat) {args : List AV} {x : AV} {pre post : List (Nat × Ent)} (c : Cln (pre.map (·.1)) M args pre post) (hx : renA (rnK (pre.map (·.1)) M) x = x)
    (h : ∀ rest : Heap, outL (cleanPan (callPH P (execH P pr n) base g args (ovl pre (lowZ M rest))) M x post) = outR .ret (cleanPan (callPH P (execH P pr n) base g args (ovl pre (lowZ M rest))) M x post)) (rest : Heap) : HPan P g args (ovl pre rest) x (ovl post rest) := by
  refine hpan_clean c hx (fun rest => ?_) rest
  obtain ⟨ps, h1, hs⟩ := out_spec (h rest)
  unfold cleanPan at h1
  split at h1
  case h_2 => cases h1
  rename_i rs' h' b' tk ps' hr
  split at h1
  case h_2 => cases h1
  rename_i q hq
  split at h1
  case h_2 => cases h1
  rename_i hk
  simp only [Option.some.injEq, Prod.mk.injEq, true_and] at h1
  subst h1
  have g1 := hs.head
  simp only [Side.av.injEq] at g1
  subst g1
  have htk : ∀ k ∈ tk, k < M := fun k hkt => by
    have := List.all_eq_true.1 hk k hkt
    simpa using this
  obtain ⟨c1, c2⟩ := callPH_sound hm hn (execH_right hm hn n) hr hs.tail.left
  have hsub := ovl_sub h' post (heapPairs_spec hq hs.tail.right)
  refine ⟨ovl post h', ⟨c1.1, fun G B w0 I0 w cargs hr hsz hargs => (c1.2 G B w0 I0 w cargs hr hsz hargs).mono ?_⟩, fun k hkF => ?_, fun k hkM => ?_⟩
  · rintro e w' ⟨u, G', rfl, e1, e2, e3⟩
    exact ⟨u, G', rfl, e1, e2.forget hsub, e3⟩
  · exact ovl_in _ _ _ (by rw [c.postK]; exact hkF)
  · have hkF : k ∉ pre.map (·.1) := fun hx => by have := c.ltF k hx; omega
    rw [ovl_ne _ _ (by rw [c.postK]; exact hkF)]
    exact c2 k fun hx => by have := htk k hx; omega
end Go.Avm
