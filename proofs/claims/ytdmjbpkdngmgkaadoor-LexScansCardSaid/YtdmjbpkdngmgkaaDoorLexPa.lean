/-
  Plain facts of the scanner: what a token is, whatever stands behind it; where tokens stand.
-/
import Derived.Test.YtdmjbpkdngmgkaaDoorLexN
set_option linter.unusedSectionVars false
namespace Go.Avm
open Go.Proofs

/-! ### Blanks -/
theorem skipN_take : ∀ (c : Bool) (l : List UInt8), skipN c (l.take (skipN c l)) = skipN c l
  | _, [] => by simp [skipN]
  | true, b :: r => by
    have ih := skipN_take (notNl b) r
    simp only [skipN]
    rw [Nat.add_comm, List.take_succ_cons]
    simp only [skipN, ih]
    omega
  | false, b :: r => by
    have h1 := skipN_take false r
    have h2 := skipN_take true r
    simp only [skipN]
    split
    · rename_i hw
      rw [Nat.add_comm, List.take_succ_cons]
      simp only [skipN, hw, if_true, h1]
      omega
    · rename_i hw
      split
      · rename_i h35
        rw [Nat.add_comm, List.take_succ_cons]
        simp only [skipN, hw, h35, if_true, h2]
        simp only [Bool.false_eq_true, if_false]
        omega
      · simp [skipN]
theorem skipN_app : ∀ (c : Bool) (l m : List UInt8), skipN c l < l.length → skipN c (l ++ m) = skipN c l
  | _, [], m, h => by simp at h
  | true, b :: r, m, h => by
    simp only [skipN, List.length_cons] at h
    have ih := skipN_app (notNl b) r m (by omega)
    simp only [List.cons_append, skipN, ih]
  | false, b :: r, m, h => by
    simp only [List.cons_append, skipN] at h ⊢
    split
    · rename_i hw
      rw [if_pos hw, List.length_cons] at h
      rw [skipN_app false r m (by omega)]
    · rename_i hw
      rw [if_neg hw] at h
      split
      · rename_i h35
        rw [if_pos h35, List.length_cons] at h
        rw [skipN_app true r m (by omega)]
      · rfl

/-! ### A token, and what stands behind it -/
theorem tw_split (p : UInt8 → Bool) (q : List UInt8) (hq : ∀ c, q.head? = some c → p c = false) : ∀ (t : List UInt8), (∀ x ∈ t, p x = true) → (t ++ q).takeWhile p = t
  | [], _ => by
    cases q with
    | nil => rfl
    | cons c r => rw [List.nil_append, List.takeWhile_cons, if_neg (by rw [hq c rfl]; exact Bool.false_ne_true)]
  | x :: r, h => by rw [List.cons_append, List.takeWhile_cons, if_pos (h x (by simp)), tw_split p q hq r fun y hy => h y (by simp [hy])]
theorem tw_inv (p : UInt8 → Bool) (q : List UInt8) : ∀ (t : List UInt8), (t ++ q).takeWhile p = t → (∀ x ∈ t, p x = true) ∧ ∀ c, q.head? = some c → p c = false
  | [], h => by
    refine ⟨fun x hx => by simp at hx, fun c hc => ?_⟩
    cases q with
    | nil => simp at hc
    | cons d r =>
      simp at hc; subst hc
      rw [List.nil_append, List.takeWhile_cons] at h
      by_cases hp : p d = true
      · rw [if_pos hp] at h; cases h
      · simpa using hp
  | x :: r, h => by
    rw [List.cons_append, List.takeWhile_cons] at h
    by_cases hp : p x = true
    · rw [if_pos hp] at h
      have ih := tw_inv p q r (List.cons.inj h).2
      exact ⟨fun y hy => by
        rcases List.mem_cons.1 hy with rfl | hy
        · exact hp
        · exact ih.1 y hy, ih.2⟩
    · rw [if_neg hp] at h; cases h
/-- A token of these: what its text is, and what the byte behind it is not. -/
def GoodT (kd : Int) (t : List UInt8) (n : Int) (h : Option UInt8) : Prop :=
  (kd = 3 ∧ n = (dv 0 t : Int) ∧ t ≠ [] ∧ (∀ x ∈ t, isDig x = true) ∧ ¬ 9223372036854775808 ≤ dv 0 t ∧ (decide (1 < t.length) && (t.headD 0).toNat == 48) = false ∧ ∀ c, h = some c → isDig c = false ∧ isSm c = false ∧ great c = false) ∨
  (n = 0 ∧ isDig (t.headD 0) = false ∧ isSm (t.headD 0) = true ∧ t ≠ [] ∧ (∀ x ∈ t, isNm x = true) ∧ ((kd = 2 ∧ isWord t = true) ∨ (kd = 1 ∧ isWord t = false ∧ ¬ 12 < t.length)) ∧ ∀ c, h = some c → isNm c = false) ∨
  (kd = 4 ∧ n = 0 ∧ isDig (t.headD 0) = false ∧ isSm (t.headD 0) = false ∧ ((∃ b c, t = [b, c] ∧ prs.contains [b, c] = true) ∨ (∃ b, t = [b] ∧ sg1 b = true ∧ ∀ c, h = some c → prs.contains [b, c] = false)))
theorem headD_app (t q : List UInt8) (h : t ≠ []) : ∃ b r, t = b :: r ∧ t ++ q = b :: (r ++ q) ∧ t.headD 0 = b := by
  cases t with
  | nil => exact absurd rfl h
  | cons b r => exact ⟨b, r, rfl, rfl, rfl⟩
theorem letterN_iff (q : List UInt8) : letter q = false ↔ ∀ c, q.head? = some c → isSm c = false ∧ great c = false := by
  cases q with
  | nil => simp [letter]
  | cons c r => simp [letter]
theorem tok_good {t q : List UInt8} {kd n : Int} (ht : tokL (t ++ q) = .ok (kd, t, n)) (hne : t ≠ []) : GoodT kd t n q.head? := by
  obtain ⟨b, r, hb, hbq, hh⟩ := headD_app t q hne
  rw [hbq, tokL, ← hbq] at ht
  by_cases hd : isDig b = true
  · rw [if_pos hd] at ht
    split at ht
    · cases ht
    rename_i hv
    split at ht
    · cases ht
    rename_i hbad
    simp only [Except.ok.injEq, Prod.mk.injEq] at ht
    obtain ⟨rfl, h2, rfl⟩ := ht
    rw [h2] at hv hbad
    obtain ⟨g1, g2⟩ := tw_inv isDig q t h2
    rw [List.drop_append_of_le_length (Nat.le_refl _), List.drop_length, List.nil_append, Bool.not_eq_true, Bool.or_eq_false_iff] at hbad
    have hl := (letterN_iff q).1 hbad.2
    refine .inl ⟨rfl, by rw [h2], hne, g1, hv, by rw [hh]; exact hbad.1, fun c hc => ⟨g2 c hc, hl c hc⟩⟩
  · rw [if_neg hd] at ht
    by_cases hs : isSm b = true
    · rw [if_pos hs] at ht
      have key : ∀ kd' : Int, (.ok (kd', (t ++ q).takeWhile isNm, 0) : Except Int Tok) = .ok (kd, t, n) → kd = kd' ∧ (t ++ q).takeWhile isNm = t ∧ n = 0 := fun kd' h => by
        simp only [Except.ok.injEq, Prod.mk.injEq] at h
        exact ⟨h.1.symm, h.2.1, h.2.2.symm⟩
      split at ht
      · rename_i hw
        obtain ⟨rfl, h2, rfl⟩ := key _ ht
        rw [h2] at hw
        obtain ⟨g1, g2⟩ := tw_inv isNm q t h2
        exact .inr (.inl ⟨rfl, by rw [hh]; simpa using hd, by rw [hh]; exact hs, hne, g1, .inl ⟨rfl, hw⟩, g2⟩)
      · rename_i hw
        split at ht
        · cases ht
        rename_i h12
        obtain ⟨rfl, h2, rfl⟩ := key _ ht
        rw [h2] at hw h12
        obtain ⟨g1, g2⟩ := tw_inv isNm q t h2
        exact .inr (.inl ⟨rfl, by rw [hh]; simpa using hd, by rw [hh]; exact hs, hne, g1, .inr ⟨rfl, by simpa using hw, h12⟩, g2⟩)
    · rw [if_neg hs] at ht
      split at ht
      · cases ht
      simp only [Except.ok.injEq, Prod.mk.injEq] at ht
      obtain ⟨rfl, h2, rfl⟩ := ht
      refine .inr (.inr ⟨rfl, rfl, by rw [hh]; simpa using hd, by rw [hh]; simpa using hs, ?_⟩)
      unfold sgnL at h2
      cases hrq : r ++ q with
      | nil =>
        rw [hrq] at h2
        dsimp only at h2
        split at h2
        · rename_i hg
          refine .inr ⟨b, h2.symm, hg, fun c hc => ?_⟩
          have : q = [] := (List.append_eq_nil_iff.1 hrq).2
          rw [this] at hc; simp at hc
        · exact absurd h2.symm hne
      | cons c u =>
        rw [hrq] at h2
        dsimp only at h2
        split at h2
        · rename_i hp
          exact .inl ⟨b, c, h2.symm, hp⟩
        · rename_i hp
          split at h2
          · rename_i hg
            refine .inr ⟨b, h2.symm, hg, fun d hd' => ?_⟩
            have : r = [] := by rw [hb] at h2; exact (List.cons.inj h2).2.symm
            subst this
            rw [List.nil_append] at hrq
            rw [hrq] at hd'
            simp at hd'; subst hd'
            simpa using hp
          · exact absurd h2.symm hne
theorem good_tok {t q : List UInt8} {kd n : Int} (h : GoodT kd t n q.head?) : tokL (t ++ q) = .ok (kd, t, n) := by
  rcases h with ⟨rfl, rfl, hne, h1, h2, h3, h4⟩ | ⟨rfl, h1, h2, hne, h3, h4, h5⟩ | ⟨rfl, rfl, h1, h2, h3⟩
  · obtain ⟨b, r, hb, hbq, hh⟩ := headD_app t q hne
    have htw := tw_split isDig q (fun c hc => (h4 c hc).1) t h1
    have hl : letter q = false := (letterN_iff q).2 fun c hc => (h4 c hc).2
    rw [hh] at h3
    rw [hbq, tokL, ← hbq, if_pos (h1 b (by rw [hb]; simp)), htw, if_neg h2, List.drop_append_of_le_length (Nat.le_refl _), List.drop_length, List.nil_append, h3, hl]
    rfl
  · obtain ⟨b, r, hb, hbq, hh⟩ := headD_app t q hne
    have htw := tw_split isNm q h5 t h3
    rw [hh] at h1 h2
    rw [hbq, tokL, ← hbq, if_neg (by rw [h1]; exact Bool.false_ne_true), if_pos h2, htw]
    rcases h4 with ⟨rfl, hw⟩ | ⟨rfl, hw, h12⟩
    · rw [if_pos hw]
    · rw [if_neg (by rw [hw]; exact Bool.false_ne_true), if_neg h12]
  · rcases h3 with ⟨b, c, rfl, hp⟩ | ⟨b, rfl, hg, hno⟩
    · have hs : sgnL b (c :: q) = [b, c] := by unfold sgnL; dsimp only; rw [if_pos hp]
      show tokL (b :: c :: q) = _
      rw [tokL, if_neg (by simpa using h1), if_neg (by simpa using h2), hs]
      rfl
    · have hs : sgnL b q = [b] := by
        unfold sgnL
        cases q with
        | nil => dsimp only; rw [if_pos hg]
        | cons c u => dsimp only; rw [if_neg (by rw [hno c rfl]; exact Bool.false_ne_true), if_pos hg]
      show tokL (b :: q) = _
      rw [tokL, if_neg (by simpa using h1), if_neg (by simpa using h2), hs]
      rfl
/-- A byte that ends any token. -/
def ends (c : UInt8) : Prop := isNm c = false ∧ great c = false ∧ ∀ b, prs.contains [b, c] = false
theorem ends_dig {c : UInt8} (h : ends c) : isDig c = false ∧ isSm c = false := by
  have := h.1
  simp only [isNm, Bool.or_eq_false_iff] at this
  exact ⟨this.2, this.1⟩
theorem good_ends {kd n : Int} {t : List UInt8} {h : Option UInt8} {c : UInt8} (hg : GoodT kd t n h) (hc : ends c) : GoodT kd t n (some c) := by
  have hd := ends_dig hc
  rcases hg with ⟨h0, h1, h2, h3, h4, h5, _⟩ | ⟨h0, h1, h2, h3, h4, h5, _⟩ | ⟨h0, h1, h2, h3, h4⟩
  · exact .inl ⟨h0, h1, h2, h3, h4, h5, fun d hd' => by cases hd'; exact ⟨hd.1, hd.2, hc.2.1⟩⟩
  · exact .inr (.inl ⟨h0, h1, h2, h3, h4, h5, fun d hd' => by cases hd'; exact hc.1⟩)
  · refine .inr (.inr ⟨h0, h1, h2, h3, ?_⟩)
    rcases h4 with h4 | ⟨b, hb, hs, _⟩
    · exact .inl h4
    · exact .inr ⟨b, hb, hs, fun d hd' => by cases hd'; exact hc.2.2 b⟩
theorem prs_no (c : UInt8) (h : c = 10 ∨ c = 32 ∨ c = 9) (b : UInt8) : prs.contains [b, c] = false := by
  rcases h with rfl | rfl | rfl <;> simp [prs]
theorem ends10 : ends 10 := ⟨by decide, by decide, prs_no 10 (.inl rfl)⟩
theorem ends32 : ends 32 := ⟨by decide, by decide, prs_no 32 (.inr (.inl rfl))⟩
theorem ends9 : ends 9 := ⟨by decide, by decide, prs_no 9 (.inr (.inr rfl))⟩
end Go.Avm
