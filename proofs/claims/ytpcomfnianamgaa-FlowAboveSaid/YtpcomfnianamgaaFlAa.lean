/-
  Flow: the nearest above, as the reference has it.
-/
import Derived.Test.YtpcomfnianamgaaFlTr
set_option linter.unusedSectionVars false
namespace Go.Avm
open Go.Proofs Go.Avm.Dom

def intsD (l : List Int) : List D := l.map fun x => .int .i64 x
noncomputable def ra4 (g : Graph) (vo : Nat) (o : List Int) (b : Nat) : List (Nat × AV) := [(0, .d (rowsN g)), (3, .d (.ro (trD g))), (4, .vec 62 vo 1 (intsD o)), (11, dN g.length), (12, dN b)]
noncomputable def ra8 (g : Graph) (vo : Nat) (o : List Int) (b : Nat) (best : Int) (a : Nat) : List (Nat × AV) := ra4 g vo o b ++ [(5, dN b), (6, dI best), (16, dN g.length), (17, dN a)]
section
variable (g : Graph) (vo : Nat) (o : List Int) (b : Nat) (best : Int) (a m : Nat)
theorem raSelf (ha : a < g.length) (hgl : g.length < 100000) (he : a = b) (rest : Heap) (X : Fix) (hP : X.P = Try.prog) (hN : X.N = 53) :
    AW X (loopOf Try.prog 51 8) ⟨envOf (ra8 g vo o b best a), ovl [] rest⟩ fun e' S' => e' = .normal ∧ Weak X S' ⟨envOf (ra8 g vo o b best (a + 1)), ovl [] rest⟩ :=
  seg okP named { hint := tabH Try.prog [(51, 18, hLt Try.prog a g.length true (by simpa using ha)), (51, 22, hNeq Try.prog (a : Int) (b : Int) false (by simp [he])), (51, 46, hSucc Try.prog a (by omega))] } 2000 51 500000 53 (by kernel_rfl) X hP hN
theorem raNot (ha : a < g.length) (hgl : g.length < 100000) (hne : a ≠ b) (h3 : (trD g)[a]? = some (rowB (domsL g a))) (h4 : (domsL g a)[b]? = some false) (rest : Heap) (X : Fix) (hP : X.P = Try.prog) (hN : X.N = 53) :
    AW X (loopOf Try.prog 51 8) ⟨envOf (ra8 g vo o b best a), ovl [] rest⟩ fun e' S' => e' = .normal ∧ Weak X S' ⟨envOf (ra8 g vo o b best (a + 1)), ovl [] rest⟩ :=
  seg okP named { hint := tabH Try.prog [(51, 18, hLt Try.prog a g.length true (by simpa using ha)), (51, 22, hNeq Try.prog (a : Int) (b : Int) true (by rw [int_ne hne]; rfl)), (51, 26, .idx (trD g) ((a : Nat) : Int) (rowB (domsL g a)) (by omega) h3), (51, 29, hIxB Try.prog (domsL g a) b false h4), (51, 46, hSucc Try.prog a (by omega))] } 2000 51 500000 53 (by kernel_rfl) X hP hN
theorem raFirst (ha : a < g.length) (hgl : g.length < 100000) (hne : a ≠ b) (h3 : (trD g)[a]? = some (rowB (domsL g a))) (h4 : (domsL g a)[b]? = some true) (rest : Heap) (X : Fix) (hP : X.P = Try.prog) (hN : X.N = 53) :
    AW X (loopOf Try.prog 51 8) ⟨envOf (ra8 g vo o b (-1) a), ovl [] rest⟩ fun e' S' => e' = .normal ∧ Weak X S' ⟨envOf (ra8 g vo o b (a : Int) (a + 1)), ovl [] rest⟩ :=
  seg okP named { hint := tabH Try.prog [(51, 18, hLt Try.prog a g.length true (by simpa using ha)), (51, 22, hNeq Try.prog (a : Int) (b : Int) true (by rw [int_ne hne]; rfl)), (51, 26, .idx (trD g) ((a : Nat) : Int) (rowB (domsL g a)) (by omega) h3), (51, 29, hIxB Try.prog (domsL g a) b true h4), (51, 46, hSucc Try.prog a (by omega))] } 2000 51 500000 53 (by kernel_rfl) X hP hN
theorem raDeep (ha : a < g.length) (hgl : g.length < 100000) (hne : a ≠ b) (h3 : (trD g)[a]? = some (rowB (domsL g a))) (h4 : (domsL g a)[b]? = some true) (h5 : (trD g)[m]? = some (rowB (domsL g m))) (h6 : (domsL g m)[a]? = some true) (rest : Heap) (X : Fix) (hP : X.P = Try.prog) (hN : X.N = 53) :
    AW X (loopOf Try.prog 51 8) ⟨envOf (ra8 g vo o b (m : Int) a), ovl [] rest⟩ fun e' S' => e' = .normal ∧ Weak X S' ⟨envOf (ra8 g vo o b (a : Int) (a + 1)), ovl [] rest⟩ :=
  seg okP named { hint := tabH Try.prog [(51, 18, hLt Try.prog a g.length true (by simpa using ha)), (51, 22, hNeq Try.prog (a : Int) (b : Int) true (by rw [int_ne hne]; rfl)), (51, 26, .idx (trD g) ((a : Nat) : Int) (rowB (domsL g a)) (by omega) h3), (51, 29, hIxB Try.prog (domsL g a) b true h4), (51, 38, .idx (trD g) ((m : Nat) : Int) (rowB (domsL g m)) (by omega) h5), (51, 41, hIxB Try.prog (domsL g m) a true h6), (51, 46, hSucc Try.prog a (by omega))] } 2000 51 500000 53 (by kernel_rfl) X hP hN
theorem raStay (ha : a < g.length) (hgl : g.length < 100000) (hne : a ≠ b) (h3 : (trD g)[a]? = some (rowB (domsL g a))) (h4 : (domsL g a)[b]? = some true) (h5 : (trD g)[m]? = some (rowB (domsL g m))) (h6 : (domsL g m)[a]? = some false) (rest : Heap) (X : Fix) (hP : X.P = Try.prog) (hN : X.N = 53) :
    AW X (loopOf Try.prog 51 8) ⟨envOf (ra8 g vo o b (m : Int) a), ovl [] rest⟩ fun e' S' => e' = .normal ∧ Weak X S' ⟨envOf (ra8 g vo o b (m : Int) (a + 1)), ovl [] rest⟩ :=
  seg okP named { hint := tabH Try.prog [(51, 18, hLt Try.prog a g.length true (by simpa using ha)), (51, 22, hNeq Try.prog (a : Int) (b : Int) true (by rw [int_ne hne]; rfl)), (51, 26, .idx (trD g) ((a : Nat) : Int) (rowB (domsL g a)) (by omega) h3), (51, 29, hIxB Try.prog (domsL g a) b true h4), (51, 38, .idx (trD g) ((m : Nat) : Int) (rowB (domsL g m)) (by omega) h5), (51, 41, hIxB Try.prog (domsL g m) a false h6), (51, 46, hSucc Try.prog a (by omega))] } 2000 51 500000 53 (by kernel_rfl) X hP hN
theorem ra8Stop (rest : Heap) (X : Fix) (hP : X.P = Try.prog) (hN : X.N = 53) :
    AW X (loopOf Try.prog 51 8) ⟨envOf (ra8 g vo o b best g.length), ovl [] rest⟩ fun e' S' => e' = .exit 2 ∧ Weak X S' ⟨envOf (ra4 g vo o b ++ [(6, dI best)]), ovl [] rest⟩ :=
  seg okP named { hint := tabH Try.prog [(51, 18, hLt Try.prog g.length g.length false (by simp))] } 2000 51 500000 53 (by kernel_rfl) X hP hN
theorem ra4Round (w : Nat) (hb : b < g.length) (hgl : g.length < 100000) (hol : o.length < 100000)
    (hl : ∀ (rest : Heap) (X : Fix), X.P = Try.prog → X.N = 53 → AW X (.loop (loopOf Try.prog 51 8)) ⟨envOf (ra8 g vo o b (-1) 0), ovl [] rest⟩ fun e' S' => e' = .exit 2 ∧ S' = ⟨envOf (ra4 g vo o b ++ [(6, dI best)]), ovl [] rest⟩)
    (rest : Heap) (X : Fix) (hP : X.P = Try.prog) (hN : X.N = 53) :
    AW X (loopOf Try.prog 51 4) ⟨envOf (ra4 g vo o b), ovl [(62, ⟨vo, none⟩), (500526, ⟨w, none⟩)] rest⟩ fun e' S' => e' = .normal ∧ Weak X S' ⟨envOf (ra4 g (vo + 1) (o ++ [best]) (b + 1)), ovl [(62, ⟨vo + 1, none⟩), (500526, ⟨w + 1, none⟩)] rest⟩ := by
  unfold ra4
  rw [show intsD (o ++ [best]) = intsD o ++ [.int .i64 best] by simp [intsD]]
  exact seg okP named { loops := fun f q => if f = 51 then (if q = 8 then some ⟨53, loopOf Try.prog 51 8, ra8 g vo o b (-1) 0, fun _ => [], .exit 2, ra4 g vo o b ++ [(6, dI best)], fun _ => [], hl⟩ else none) else none, hint := tabH Try.prog [(51, 13, hLt Try.prog b g.length true (by simpa using hb)), (51, 16, hLenG Try.prog g), (51, 50, .app (intsD o) 1 (by simp [intsD]; omega)), (51, 51, hSucc Try.prog b (by omega))] } 2000 51 500000 53 (by kernel_rfl) X hP hN
theorem ra4Stop (w : Nat) (rest : Heap) (X : Fix) (hP : X.P = Try.prog) (hN : X.N = 53) :
    AW X (loopOf Try.prog 51 4) ⟨envOf (ra4 g vo o g.length), ovl [(62, ⟨vo, none⟩), (500526, ⟨w, none⟩)] rest⟩ fun e' S' => e' = .exit 0 ∧ Weak X S' ⟨envOf [(4, .vec 62 vo 1 (intsD o))], ovl [(62, ⟨vo, none⟩), (500526, ⟨w, none⟩)] rest⟩ :=
  seg okP named { hint := tabH Try.prog [(51, 13, hLt Try.prog g.length g.length false (by simp))] } 2000 51 500000 53 (by kernel_rfl) X hP hN
theorem refAboveRun (v' w' : Nat) (h43 : Pure Try.prog 43 [rowsN g] [.ro (trD g)])
    (hl : ∀ (rest : Heap) (X : Fix), X.P = Try.prog → X.N = 53 → AW X (.loop (loopOf Try.prog 51 4)) ⟨envOf (ra4 g 0 [] 0), ovl [(62, ⟨0, none⟩), (500526, ⟨0, none⟩)] rest⟩ fun e' S' => e' = .exit 0 ∧ S' = ⟨envOf [(4, .vec 62 v' 1 (intsD o))], ovl [(62, ⟨v', none⟩), (500526, ⟨w', none⟩)] rest⟩) : Pure Try.prog 51 [rowsN g] [.ro (intsD o)] :=
  pure_of_run okP named { nils2 := fun f q => if f = 51 then (if q = 3 then [⟨0, 4, 62, 1, true, false⟩] else []) else [], loops := fun f q => if f = 51 then (if q = 4 then some ⟨53, loopOf Try.prog 51 4, ra4 g 0 [] 0, fun _ => [(62, ⟨0, none⟩), (500526, ⟨0, none⟩)], .exit 0, [(4, .vec 62 v' 1 (intsD o))], fun _ => [(62, ⟨v', none⟩), (500526, ⟨w', none⟩)], hl⟩ else none) else none, hint := tabH Try.prog [(51, 9, .call 43 _ _ h43), (51, 11, hLenG Try.prog g)] } 2000 (by kernel_rfl)
end
/-! ### The best one -/
def Best (g : Graph) (b k : Nat) (best : Int) : Prop := (best = -1 ∧ ∀ a, a < k → a ≠ b → ¬ Doms g a b) ∨ ∃ m : Nat, m < k ∧ best = (m : Int) ∧ m ≠ b ∧ Doms g m b ∧ ∀ a, a < k → a ≠ b → Doms g a b → Doms g a m
section
variable {g : Graph} (hg : Valid g) (hg0 : 0 < g.length) (hgl : g.length < 100000) {U : Nat → Nat} (hU : Fixed g U)
include hg hg0 hgl hU
theorem doms_lt {a b : Nat} (h : Doms g a b) : a < g.length ∧ b < g.length := ⟨Re.lt hg h.1 hg0, Re.lt hg h.2.1 hg0⟩
theorem best_is {b : Nat} (hb : b < g.length) {best : Int} (h : Best g b g.length best) : (outL2 g (allO U))[b]? = some best := by
  by_cases hr : Dom.Reached g b
  · obtain ⟨j, hj, rfl⟩ := nodeAt_ex hg hg0 hr
    by_cases h0 : j = 0
    · subst h0
      rw [outL_none hg hg0 hj (by simp [allO])]
      rcases h with ⟨rfl, _⟩ | ⟨m, hm, rfl, hne, hd, _⟩
      · rfl
      · exact absurd (doms_anti hg hg0 hU hd (by rw [nodeAt_zero hg0]; exact doms_zero hg hd.1)) hne
    · obtain ⟨h1, h2, h3, h4, h5⟩ := up_doms hg hg0 hU (by omega) hj
      rw [outL_node hg hj (by omega) (by unfold allO; rw [if_neg h0])]
      have hul := (doms_lt hg hg0 hgl hU h2).1
      rcases h with ⟨_, hn⟩ | ⟨m, hm, rfl, hne, hd, hall⟩
      · exact absurd h2 (hn _ hul h3)
      · rw [doms_anti hg hg0 hU (hall _ hul h3 h2) (h4 m hd hne)]
  · rw [(up_un hg hg0 hgl hU hb hr).1]
    rcases h with ⟨rfl, _⟩ | ⟨m, hm, rfl, hne, hd, _⟩
    · rfl
    · exact absurd hd.2.1 hr
theorem ra8Loop (vo : Nat) (o : List Int) (b : Nat) (hb : b < g.length) : ∀ (r a : Nat) (best : Int), g.length - a = r → a ≤ g.length → Best g b a best →
    ∃ best', Best g b g.length best' ∧ ∀ (rest : Heap) (X : Fix), X.P = Try.prog → X.N = 53 → LW X (loopOf Try.prog 51 8) ⟨envOf (ra8 g vo o b best a), ovl [] rest⟩ fun e' S' => e' = .exit 2 ∧ S' = ⟨envOf (ra4 g vo o b ++ [(6, dI best')]), ovl [] rest⟩
  | 0, a, best, hm, ha, hB => by
    have : a = g.length := by omega
    subst this
    exact ⟨best, hB, fun rest X hP hN => lw_end (ra8Stop g vo o b best rest X hP hN) (by simp)⟩
  | r + 1, a, best, hm, ha, hB => by
    have hlt : a < g.length := by omega
    have h3 : ∀ x, x < g.length → (trD g)[x]? = some (rowB (domsL g x)) := fun x hx => by simp [trD, hx]
    have h4 : ∀ x y, y < g.length → (domsL g x)[y]? = some (domB g x y) := fun x y hy => by simp [domsL, hy]
    by_cases hab : a = b
    · have hB' : Best g b (a + 1) best := by
        rcases hB with ⟨h1, h2⟩ | ⟨m, h1, h2, h5, h6, h7⟩
        · exact .inl ⟨h1, fun x hx hne => h2 x (by omega) hne⟩
        · exact .inr ⟨m, by omega, h2, h5, h6, fun x hx hne => h7 x (by omega) hne⟩
      obtain ⟨best', hb', hl⟩ := ra8Loop vo o b hb r (a + 1) best (by omega) (by omega) hB'
      exact ⟨best', hb', fun rest X hP hN => lw_seg (raSelf g vo o b best a hlt hgl hab rest X hP hN) (hl rest X hP hN)⟩
    · by_cases hd : Doms g a b
      · have hdt := h4 a b hb
        rw [domB_true hd] at hdt
        rcases hB with ⟨rfl, h2⟩ | ⟨m, h1, rfl, h5, h6, h7⟩
        · have hB' : Best g b (a + 1) (a : Int) := .inr ⟨a, by omega, rfl, hab, hd, fun x hx hne hx2 => by
            by_cases e : x = a
            · subst e; exact doms_refl hg hx2.1
            · exact absurd hx2 (h2 x (by omega) hne)⟩
          obtain ⟨best', hb', hl⟩ := ra8Loop vo o b hb r (a + 1) _ (by omega) (by omega) hB'
          exact ⟨best', hb', fun rest X hP hN => lw_seg (raFirst g vo o b a hlt hgl hab (h3 a hlt) hdt rest X hP hN) (hl rest X hP hN)⟩
        · have hma := h4 m a hlt
          have hml := (doms_lt hg hg0 hgl hU h6).1
          by_cases hm2 : Doms g m a
          · rw [domB_true hm2] at hma
            have hB' : Best g b (a + 1) (a : Int) := .inr ⟨a, by omega, rfl, hab, hd, fun x hx hne hx2 => by
              by_cases e : x = a
              · subst e; exact doms_refl hg hx2.1
              · exact doms_trans hg hg0 hU (h7 x (by omega) hne hx2) hm2⟩
            obtain ⟨best', hb', hl⟩ := ra8Loop vo o b hb r (a + 1) _ (by omega) (by omega) hB'
            exact ⟨best', hb', fun rest X hP hN => lw_seg (raDeep g vo o b a m hlt hgl hab (h3 a hlt) hdt (h3 m hml) hma rest X hP hN) (hl rest X hP hN)⟩
          · rw [domB_false hm2] at hma
            have hB' : Best g b (a + 1) (m : Int) := .inr ⟨m, by omega, rfl, h5, h6, fun x hx hne hx2 => by
              by_cases e : x = a
              · subst e; exact (doms_chain hg hg0 hU hd h6).resolve_right hm2
              · exact h7 x (by omega) hne hx2⟩
            obtain ⟨best', hb', hl⟩ := ra8Loop vo o b hb r (a + 1) _ (by omega) (by omega) hB'
            exact ⟨best', hb', fun rest X hP hN => lw_seg (raStay g vo o b a m hlt hgl hab (h3 a hlt) hdt (h3 m hml) hma rest X hP hN) (hl rest X hP hN)⟩
      · have hdf := h4 a b hb
        rw [domB_false hd] at hdf
        have hB' : Best g b (a + 1) best := by
          rcases hB with ⟨h1, h2⟩ | ⟨m, h1, h2, h5, h6, h7⟩
          · refine .inl ⟨h1, fun x hx hne => ?_⟩
            by_cases e : x = a
            · subst e; exact hd
            · exact h2 x (by omega) hne
          · refine .inr ⟨m, by omega, h2, h5, h6, fun x hx hne hx2 => ?_⟩
            by_cases e : x = a
            · subst e; exact absurd hx2 hd
            · exact h7 x (by omega) hne hx2
        obtain ⟨best', hb', hl⟩ := ra8Loop vo o b hb r (a + 1) best (by omega) (by omega) hB'
        exact ⟨best', hb', fun rest X hP hN => lw_seg (raNot g vo o b best a hlt hgl hab (h3 a hlt) hdf rest X hP hN) (hl rest X hP hN)⟩
theorem ra4Loop : ∀ (r b vo w : Nat), g.length - b = r → b ≤ g.length → ∃ v' w', ∀ (rest : Heap) (X : Fix), X.P = Try.prog → X.N = 53 →
    LW X (loopOf Try.prog 51 4) ⟨envOf (ra4 g vo ((outL2 g (allO U)).take b) b), ovl [(62, ⟨vo, none⟩), (500526, ⟨w, none⟩)] rest⟩ fun e' S' => e' = .exit 0 ∧ S' = ⟨envOf [(4, .vec 62 v' 1 (intsD (outL2 g (allO U))))], ovl [(62, ⟨v', none⟩), (500526, ⟨w', none⟩)] rest⟩
  | 0, b, vo, w, hm, hb => by
    have : b = g.length := by omega
    subst this
    rw [List.take_of_length_le (by rw [outL_len]; exact Nat.le_refl _)]
    exact ⟨vo, w, fun rest X hP hN => lw_end (ra4Stop g vo _ w rest X hP hN) (by simp)⟩
  | r + 1, b, vo, w, hm, hb => by
    have hlt : b < g.length := by omega
    obtain ⟨best, hB, hl⟩ := ra8Loop hg hg0 hgl hU vo ((outL2 g (allO U)).take b) b hlt _ 0 (-1) rfl (Nat.zero_le _) (.inl ⟨rfl, fun a h => by omega⟩)
    have hget := best_is hg hg0 hgl hU hlt hB
    have htk : (outL2 g (allO U)).take (b + 1) = (outL2 g (allO U)).take b ++ [best] := by
      rw [List.take_add_one, hget]
      rfl
    obtain ⟨v', w', h⟩ := ra4Loop r (b + 1) (vo + 1) (w + 1) (by omega) (by omega)
    rw [htk] at h
    exact ⟨v', w', fun rest X hP hN => lw_seg (ra4Round g vo _ b best w hlt hgl (by rw [List.length_take]; omega) (fun rest X hP hN => (hl rest X hP hN).aw) rest X hP hN) (h rest X hP hN)⟩
theorem refAboveC (hr : ∀ a, (succ g a).length < 1000000000) : Pure Try.prog 51 [rowsN g] [.ro (intsD (outL2 g (allO U)))] := by
  obtain ⟨v', w', h⟩ := ra4Loop hg hg0 hgl hU _ 0 0 0 rfl (Nat.zero_le _)
  exact refAboveRun g (outL2 g (allO U)) v' w' (domsC hg (by omega) hr) (fun rest X hP hN => (h rest X hP hN).aw)
end
end Go.Avm
