/-
  The abstract machine, part U: an object gets another key; a cell's value is looked at otherwise; what a cell leads to is read alone from here on; contracts of the library that turn one row.
-/
import Derived.Test.YtkhcaamgjjhpeaaGreatDoorAvmT
import Derived.Sort.Grow
set_option linter.unusedSectionVars false
namespace Go.Avm
open Go.RowKit
variable [GlobTab]
section
variable {G : Gh} {B : Nat} {w0 w : World} {I0 : Nat → Nat → Prop} {h : Heap}

/-- An object gets another key. -/
theorem HR.rename (hr : HR G B w0 I0 h w) {A K sz : Nat} {es : List AV} (hne : A ≠ K) (hA : (h A).ob = some (.arr sz es)) :
    ∃ G', HR G' B w0 I0 (upd (upd h A ⟨(h A).ver + 1, none⟩) K ⟨(h K).ver + 1, some (.arr sz es)⟩) w ∧ Ext G w G' w ∧ ∀ L, G.loc A (h A).ver = some L → G'.loc K ((h K).ver + 1) = some L := by
  cases hL : G.loc A (h A).ver with
  | none =>
    have hes : es = [] := by
      rcases hr.objs A _ hA with ⟨rfl, _⟩ | ⟨L, hL', _⟩
      · rfl
      · rw [hL] at hL'; cases hL'
    subst hes
    obtain ⟨G1, h1, e1, _⟩ := hr.bump A none (fun o e => by cases e)
    obtain ⟨G2, h2, e2, _⟩ := h1.bump K (some (.arr sz [])) (fun o e => by cases e; exact ⟨sz, rfl⟩)
    rw [upd_ne _ _ (Ne.symm hne)] at h2
    exact ⟨G2, h2, e1.trans e2, fun L x => by cases x⟩
  | some L =>
    have hnA := hr.none_next A
    have hnK := hr.none_next K
    let G' : Gh := { G with loc := fun k' v' => if k' = K ∧ v' = (h K).ver + 1 then some L else G.loc k' v', lim := upd (upd G.lim A ((h A).ver + 1)) K ((h K).ver + 1) }
    have loc_ne : ∀ k v, ¬ (k = K ∧ v = (h K).ver + 1) → G'.loc k v = G.loc k v := fun k v hn => if_neg hn
    have loc_K : G'.loc K ((h K).ver + 1) = some L := if_pos ⟨rfl, rfl⟩
    have hlim : ∀ k, G.lim k ≤ G'.lim k := fun k => by
      show _ ≤ upd (upd G.lim A _) K _ k
      by_cases hk : k = K
      · subst hk; rw [upd_same, hr.lim]; omega
      · rw [upd_ne _ _ hk]
        by_cases hk2 : k = A
        · subst hk2; rw [upd_same, hr.lim]; omega
        · rw [upd_ne _ _ hk2]; exact Nat.le_refl _
    have hex : Ext G w G' w := ⟨fun _ _ x => x, fun k v L' x => by
      rw [loc_ne k v (by rintro ⟨rfl, rfl⟩; rw [hnK] at x; cases x)]; exact x, fun _ _ _ => rfl, Nat.le_refl _, hlim, fun k v hv x => by
      rw [loc_ne k v (by rintro ⟨rfl, rfl⟩; rw [hr.lim] at hv; omega)]; exact x, fun _ _ _ x => x, kept_same rfl⟩
    have hver : ∀ k, (h k).ver ≤ (upd (upd h A ⟨(h A).ver + 1, none⟩) K ⟨(h K).ver + 1, some (.arr sz es)⟩ k).ver := fun k => by
      by_cases hk : k = K
      · subst hk; rw [upd_same]; exact Nat.le_succ _
      · rw [upd_ne _ _ hk]
        by_cases hk2 : k = A
        · subst hk2; rw [upd_same]; exact Nat.le_succ _
        · rw [upd_ne _ _ hk2]; exact Nat.le_refl _
    have key : ∀ k L', G'.loc k (upd (upd h A ⟨(h A).ver + 1, none⟩) K ⟨(h K).ver + 1, some (.arr sz es)⟩ k).ver = some L' → (k = K ∧ L' = L) ∨ (k ≠ K ∧ k ≠ A ∧ G.loc k (h k).ver = some L') := by
      intro k L' x
      by_cases hk : k = K
      · subst hk
        rw [upd_same] at x
        rw [loc_K] at x
        exact .inl ⟨rfl, (Option.some.inj x).symm⟩
      · rw [upd_ne _ _ hk] at x
        by_cases hk2 : k = A
        · subst hk2
          rw [upd_same, loc_ne _ _ (by rintro ⟨rfl, _⟩; exact hk rfl), hnA] at x
          cases x
        · rw [upd_ne _ _ hk2, loc_ne _ _ (by rintro ⟨rfl, _⟩; exact hk rfl)] at x
          exact .inr ⟨hk, hk2, x⟩
    refine ⟨G', ⟨hr.below, hr.bsz, hr.immlt, hr.i0, hr.immlow, ?_, ?_, ?_, ?_, ?_, hr.maps.step hex rfl (fun _ _ _ x => x) hver (fun k o hf ho => ?_)⟩, hex, fun L' x => by cases x; exact loc_K⟩
    · intro k v L' x
      by_cases hk : k = K ∧ v = (h K).ver + 1
      · obtain ⟨rfl, rfl⟩ := hk; rw [upd_same]; exact Nat.le_refl _
      · rw [loc_ne _ _ hk] at x
        exact Nat.le_trans (hr.fresh k v L' x) (hver k)
    · intro k L' x
      rcases key k L' x with ⟨rfl, rfl⟩ | ⟨_, _, x⟩
      · exact hr.own A _ hL
      · exact hr.own k L' x
    · intro k1 k2 L1 L2 x1 x2 hb
      rcases key k1 L1 x1 with ⟨rfl, rfl⟩ | ⟨n1, m1, y1⟩ <;> rcases key k2 L2 x2 with ⟨e2, f2⟩ | ⟨n2, m2, y2⟩
      · exact e2.symm
      · exact absurd (hr.dis A k2 _ L2 hL y2 hb).symm m2
      · subst f2; exact absurd (hr.dis k1 A L1 _ y1 hL hb) m1
      · exact hr.dis k1 k2 L1 L2 y1 y2 hb
    · intro k ob ho
      by_cases hk : k = K
      · subst hk
        rw [upd_same] at ho ⊢
        simp only [Option.some.injEq] at ho
        subst ho
        rcases hr.objs A _ hA with ⟨_, hn⟩ | ⟨L', hL', g1, g2, g3, g4, g6, g5⟩
        · rw [hL] at hn; cases hn
        · rw [hL] at hL'
          cases hL'
          exact .inr ⟨L, loc_K, g1, g2, g3, g4, g6, fun t c ht => by
            obtain ⟨u, hu, hu1, hur⟩ := g5 t c ht
            exact ⟨u, hu, hu1, hur.mono hex⟩⟩
      · rw [upd_ne _ _ hk] at ho ⊢
        by_cases hk2 : k = A
        · subst hk2; rw [upd_same] at ho; cases ho
        · rw [upd_ne _ _ hk2] at ho ⊢
          exact (hr.objs k ob ho).mono (hr.le k) hex (fun _ _ _ => rfl)
    · intro k
      show upd (upd G.lim A _) K _ k = _
      by_cases hk : k = K
      · subst hk; rw [upd_same, upd_same]
      · rw [upd_ne _ _ hk, upd_ne _ _ hk]
        by_cases hk2 : k = A
        · subst hk2; rw [upd_same, upd_same]
        · rw [upd_ne _ _ hk2, upd_ne _ _ hk2]; exact hr.lim k
    · by_cases hk : k = K
      · subst hk; rw [upd_same] at ho; cases ho; cases hf
      · rw [upd_ne _ _ hk] at ho ⊢
        by_cases hk2 : k = A
        · subst hk2; rw [upd_same] at ho; cases ho
        · rw [upd_ne _ _ hk2]

theorem Rep.moved {G' : Gh} {A v K v' off len z : Nat} {u : Value} (hr : Rep G w (.sl A v off len z) u) (hl : ∀ L, G.loc A v = some L → G'.loc K v' = some L) : Rep G' w (.sl K v' off len z) u := by
  cases hr with
  | slNil => exact .slNil _ _ _
  | sl _ _ _ _ c L hL hc hlen => exact .sl K v' off len c L (hl L hL) hc hlen

end

/-- The object that a cell leads to gets another key. -/
theorem weak_move {X : Fix} {env : Nat → AV} {h : Heap} {C A K a sz off len z : Nat} {es ces : List AV} (hAK : A ≠ K) (hCA : C ≠ A) (hCK : C ≠ K) (hC : (h C).ob = some (.arr 1 ces)) (ha : ces[a]? = some (.sl A (h A).ver off len z)) (hA : (h A).ob = some (.arr sz es)) :
    Weak X ⟨env, h⟩ ⟨env, upd (upd (upd h A ⟨(h A).ver + 1, none⟩) K ⟨(h K).ver + 1, some (.arr sz es)⟩) C ⟨(h C).ver, some (.arr 1 (ces.set a (.sl K ((h K).ver + 1) off len z)))⟩⟩ := fun G ac w ⟨hr, bs, hf, hs⟩ => by
  obtain ⟨G', hr', e, hl⟩ := hr.rename hAK hA
  have hCe : (upd (upd h A ⟨(h A).ver + 1, none⟩) K ⟨(h K).ver + 1, some (.arr sz es)⟩ C) = h C := by rw [upd_ne _ _ hCK, upd_ne _ _ hCA]
  have h2 := hr'.recell (C := C) (a := a) (x := .sl A (h A).ver off len z) (y := .sl K ((h K).ver + 1) off len z) (by rw [hCe]; exact hC) ha rfl (fun u hu => hu.moved (fun L hL => ?_))
  · rw [hCe] at h2
    exact ⟨G', e, h2, bs, hf.mono e, hs.mono e⟩
  · cases hL0 : G.loc A (h A).ver with
    | none =>
      have := e.nloc A (h A).ver (by rw [hr.lim]; exact Nat.le_refl _) hL0
      rw [this] at hL; cases hL
    | some L0 =>
      rw [e.loc _ _ _ hL0] at hL
      cases hL
      exact hl _ hL0

section
variable {X : Fix} {c : Code} {S S' : St} {Q : AExit → St → Prop}
theorem LW.weak (hw : Weak X S S') (h : LW X c S' Q) : LW X c S Q := fun G a w hh => by
  obtain ⟨G1, e1, h1⟩ := hw G a w hh
  exact loopGoes_mono (h G1 a w h1) fun e a' w' ⟨e', S', G', x, q, e2, r⟩ => ⟨e', S', G', x, q, e1.trans e2, r⟩
theorem lw_seg {S1 : St} (h : AW X c S fun e' S' => e' = .normal ∧ Weak X S' S1) (hl : LW X c S1 Q) : LW X c S Q :=
  lw_round (h.mono fun e' S' ⟨he, hw⟩ => by subst he; exact hl.weak hw)
theorem lw_end {S2 : St} {e : AExit} (h : AW X c S fun e' S' => e' = e ∧ Weak X S' S2) (he : e ≠ .normal) : LW X c S fun e' S' => e' = e ∧ S' = S2 :=
  lw_round (aw_post (h.mono fun e' S' ⟨h1, hw⟩ => ⟨S2, hw, by
    subst h1
    cases e' with
    | normal => exact absurd rfl he
    | _ => exact ⟨rfl, rfl⟩⟩))
end
end Go.Avm
