/-
  Numbers: the law's own loop, on data; what is scanned of digits and a byte behind them.
-/
import Derived.Test.YtdmjbpkdngmgkaaDoorLexN
set_option linter.unusedSectionVars false
namespace Go.Avm
open Go.Proofs

/-! ### Plain -/
def dg (x : UInt8) : Nat := x.toNat % 10
def digs : List UInt8 := [48, 49, 50, 51, 52, 53, 54, 55, 56, 57]
def dgT (c : Nat) : List UInt8 := (digs.take (c + 1)).drop c
theorem dg_lt (x : UInt8) : dg x < 10 := Nat.mod_lt _ (by decide)
theorem dgT_eq : ∀ c, c < 10 → dgT c = [UInt8.ofNat (48 + c)] := by decide
theorem dgT_dig : ∀ c, c < 10 → isDig (UInt8.ofNat (48 + c)) = true ∧ (UInt8.ofNat (48 + c)).toNat = 48 + c := by decide
def nStep (t : List UInt8) (W : Nat) (g : Bool) (c : Nat) : List UInt8 × Nat × Bool := (t ++ dgT c, (W * 10 + c) % 18446744073709551616, g || decide ((9223372036854775807 - c) / 10 < W))
def nAll (l : List UInt8) : Nat → List UInt8 × Nat × Bool
  | 0 => ([], 0, false)
  | i + 1 => match l[i]? with
    | some x => nStep (nAll l i).1 (nAll l i).2.1 (nAll l i).2.2 (dg x)
    | none => nAll l i
theorem dv_snoc (t : List UInt8) (y : UInt8) (acc : Nat) : dv acc (t ++ [y]) = dv acc t * 10 + (y.toNat - 48) := by
  simp only [dv, List.foldl_append, List.foldl_cons, List.foldl_nil]
theorem nAll_spec (l : List UInt8) : ∀ i, i ≤ l.length → (nAll l i).1.length = i ∧ (∀ x ∈ (nAll l i).1, isDig x = true) ∧ (nAll l i).2.1 < 18446744073709551616 ∧ ((nAll l i).2.2 = true ↔ 9223372036854775808 ≤ dv 0 (nAll l i).1) ∧ ((nAll l i).2.2 = false → (nAll l i).2.1 = dv 0 (nAll l i).1)
  | 0, _ => ⟨rfl, fun x hx => by simp [nAll] at hx, by show (0 : Nat) < 18446744073709551616; decide, by simp [nAll, dv_nil], fun _ => by simp [nAll, dv_nil]⟩
  | i + 1, h => by
    have hx := List.getElem?_eq_getElem (l := l) (i := i) (by omega)
    have hc := dg_lt l[i]
    obtain ⟨h1, h2, h3, h4, h5⟩ := nAll_spec l i (by omega)
    rw [nAll, hx]
    dsimp only
    revert h1 h2 h3 h4 h5
    generalize nAll l i = q
    obtain ⟨t, W, g⟩ := q
    dsimp only
    intro h1 h2 h3 h4 h5
    generalize dg l[i] = c at hc ⊢
    have hd := dgT_dig c hc
    simp only [nStep, dgT_eq c hc, List.length_append, List.length_singleton, dv_snoc, hd.2]
    have e : 48 + c - 48 = c := by omega
    rw [e]
    generalize hV : dv 0 t = V at *
    refine ⟨by omega, fun x hx => ?_, by omega, ?_, ?_⟩
    · rcases List.mem_append.1 hx with hx | hx
      · exact h2 x hx
      · rw [List.mem_singleton] at hx; subst hx; exact hd.1
    · rw [Bool.or_eq_true, h4, decide_eq_true_eq]
      cases g with
      | true => have := h4.1 rfl; constructor <;> intro _ <;> omega
      | false =>
        have := h5 rfl
        have h4' : ¬ 9223372036854775808 ≤ V := fun hx => by have := h4.2 hx; cases this
        subst this
        constructor
        · rintro (h | h) <;> omega
        · intro h; right; omega
    · intro hg
      rw [Bool.or_eq_false_iff] at hg
      obtain ⟨rfl, hg2⟩ := hg
      have h4' : ¬ 9223372036854775808 ≤ V := fun hx => by have := h4.2 hx; cases this
      have := h5 rfl
      have hg3 := of_decide_eq_false hg2
      subst this
      omega
theorem tw_app (p : UInt8 → Bool) (b : UInt8) (hb : p b = false) : ∀ (t : List UInt8), (∀ x ∈ t, p x = true) → (t ++ [b]).takeWhile p = t
  | [], _ => by simp [hb]
  | x :: r, h => by rw [List.cons_append, List.takeWhile_cons, if_pos (h x (by simp)), tw_app p b hb r fun y hy => h y (by simp [hy])]
theorem scanTail (b : UInt8) (hd : isDig b = false) (hs : isSm b = false) (n a : Nat) :
    (∃ ts, scanB (n + 2) ([b].drop (skipN false [b])) (a + skipN false [b]) = .ok ts) ∨ scanB (n + 2) ([b].drop (skipN false [b])) (a + skipN false [b]) = .error (a, 4) := by
  by_cases h0 : skipN false [b] = 0
  · rw [h0, List.drop_zero, Nat.add_zero, scanB]
    cases ht : tokL [b] with
    | error k =>
      have : k = 4 := by
        rw [tokL, if_neg (by simp [hd]), if_neg (by simp [hs])] at ht
        split at ht
        · cases ht; rfl
        · cases ht
      subst this
      exact .inr rfl
    | ok t =>
      obtain ⟨kd, t, k⟩ := t
      obtain ⟨hp, hne⟩ := tokL_pre ht
      have h1 : t.length = 1 := by
        have := hp.length_le
        have := List.length_pos_iff.2 hne
        simp at *; omega
      left
      dsimp only
      rw [h1]
      exact ⟨_, rfl⟩
  · have h1 : skipN false [b] = 1 := by
      have := skipN_le false [b]
      simp at this; omega
    rw [h1]
    exact .inl ⟨[], rfl⟩
theorem dig_not {x : UInt8} (h : isDig x = true) : wsp x = false ∧ (x == 35) = false := by
  have := (isDig_iff x).1 h
  have hn : ∀ k : UInt8, k.toNat < 48 → x ≠ k := fun k hk e => by subst e; omega
  refine ⟨?_, by simpa using hn 35 (by decide)⟩
  simp only [wsp, Bool.or_eq_false_iff, beq_eq_false_iff_ne]
  exact ⟨⟨⟨hn 32 (by decide), hn 9 (by decide)⟩, hn 10 (by decide)⟩, hn 13 (by decide)⟩
theorem scanNum (x : UInt8) (r : List UInt8) (b : UInt8) (h : ∀ y ∈ x :: r, isDig y = true) (hl : (x :: r).length ≤ 40) (hb : isDig b = false) :
    (9223372036854775808 ≤ dv 0 (x :: r) → scanRes (x :: r ++ [b]) = ([], 0, 2)) ∧
    (¬ 9223372036854775808 ≤ dv 0 (x :: r) → ((decide (1 < (x :: r).length) && x.toNat == 48) || letter [b]) = true → scanRes (x :: r ++ [b]) = ([], 0, 4)) ∧
    (¬ 9223372036854775808 ≤ dv 0 (x :: r) → ((decide (1 < (x :: r).length) && x.toNat == 48) || letter [b]) = false → (∃ L, scanRes (x :: r ++ [b]) = (tokD 3 0 (x :: r) (dv 0 (x :: r)) :: L, 0, 0)) ∨ scanRes (x :: r ++ [b]) = ([], (((x :: r).length : Nat) : Int), 4)) := by
  have hx := dig_not (h x (by simp))
  have hs : skipN false (x :: r ++ [b]) = 0 := by
    rw [List.cons_append]
    simp only [skipN, hx.1, hx.2]
    rfl
  have htw := tw_app isDig b hb (x :: r) h
  have hdr : (x :: r ++ [b]).drop (x :: r).length = [b] := by
    rw [List.drop_append_of_le_length (Nat.le_refl _), List.drop_length, List.nil_append]
  have hlen : (x :: r ++ [b]).length = (x :: r).length + 1 := by simp
  have ht : tokL (x :: r ++ [b]) = if 9223372036854775808 ≤ dv 0 (x :: r) then .error 2 else if ((decide (1 < (x :: r).length) && x.toNat == 48) || letter [b]) then .error 4 else .ok (3, x :: r, dv 0 (x :: r)) := by
    rw [List.cons_append, tokL, if_pos (h x (by simp)), ← List.cons_append, htw, hdr]
  have hsc : scanF (x :: r ++ [b]) = scanB ((x :: r).length + 2) (x :: r ++ [b]) 0 := by
    unfold scanF
    rw [hs, List.drop_zero, hlen]
  have hstep : scanB ((x :: r).length + 2) (x :: r ++ [b]) 0 = match tokL (x :: r ++ [b]) with
    | .error k => .error (0, k)
    | .ok t => match scanB ((x :: r).length + 1) (((x :: r ++ [b]).drop t.2.1.length).drop (skipN false ((x :: r ++ [b]).drop t.2.1.length))) (0 + t.2.1.length + skipN false ((x :: r ++ [b]).drop t.2.1.length)) with
      | .error e => .error e
      | .ok ts => .ok ((0, t) :: ts) := rfl
  have h20 : ¬ 20000 < (x :: r ++ [b]).length := by omega
  refine ⟨fun hv => ?_, fun hv hbad => ?_, fun hv hbad => ?_⟩
  · rw [scanRes, if_neg h20, hsc, hstep, ht, if_pos hv]; rfl
  · rw [scanRes, if_neg h20, hsc, hstep, ht, if_neg hv, if_pos hbad]; rfl
  · have hsm : isSm b = false := by
      rw [Bool.or_eq_false_iff] at hbad
      have := hbad.2
      simp only [letter, Bool.or_eq_false_iff] at this
      exact this.1
    have hst := scanTail b hb hsm r.length (0 + (x :: r).length)
    rw [scanRes, if_neg h20, hsc, hstep, ht, if_neg hv, if_neg (by rw [hbad]; exact Bool.false_ne_true)]
    dsimp only
    rw [hdr]
    rcases hst with ⟨ts, hst⟩ | hst
    · left
      rw [show (x :: r).length + 1 = r.length + 2 from rfl, hst]
      exact ⟨_, rfl⟩
    · right
      rw [show (x :: r).length + 1 = r.length + 2 from rfl, hst]
      dsimp only
      rw [Nat.zero_add]
end Go.Avm
