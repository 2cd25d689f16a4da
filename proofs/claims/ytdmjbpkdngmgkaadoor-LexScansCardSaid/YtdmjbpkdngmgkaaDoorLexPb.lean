/-
  Plain facts of the scanner: a text with more behind a line's end; each token at its place, blanks between.
-/
import Derived.Test.YtdmjbpkdngmgkaaDoorLexPa
set_option linter.unusedSectionVars false
namespace Go.Avm
open Go.Proofs

theorem tok_split {b : UInt8} {r : List UInt8} {kd n : Int} {t : List UInt8} (h : tokL (b :: r) = .ok (kd, t, n)) : ∃ q, b :: r = t ++ q ∧ t ≠ [] ∧ GoodT kd t n q.head? := by
  obtain ⟨⟨q, hq⟩, hne⟩ := tokL_pre h
  refine ⟨q, hq.symm, hne, tok_good (q := q) ?_ hne⟩
  rw [hq]; exact h
theorem drop_app (t q : List UInt8) : (t ++ q).drop t.length = q := by
  rw [List.drop_append_of_le_length (Nat.le_refl _), List.drop_length, List.nil_append]
theorem scanB_cons (n : Nat) (b : UInt8) (r : List UInt8) (a : Nat) : scanB (n + 1) (b :: r) a = match tokL (b :: r) with
    | .error k => .error (a, k)
    | .ok t => match scanB n (((b :: r).drop t.2.1.length).drop (skipN false ((b :: r).drop t.2.1.length))) (a + t.2.1.length + skipN false ((b :: r).drop t.2.1.length)) with
      | .error e => .error e
      | .ok ts => .ok ((a, t) :: ts) := rfl
theorem scanB_tok (n : Nat) (t q : List UInt8) (kd k : Int) (a : Nat) (hne : t ≠ []) (hg : GoodT kd t k q.head?) : scanB (n + 1) (t ++ q) a = match scanB n (q.drop (skipN false q)) (a + t.length + skipN false q) with
    | .error e => .error e
    | .ok ts => .ok ((a, (kd, t, k)) :: ts) := by
  have ht := good_tok hg
  obtain ⟨b, r, hb, hbq, _⟩ := headD_app t q hne
  rw [hbq, scanB_cons, ← hbq, ht]
  dsimp only
  rw [drop_app]
theorem scan_more (m : List UInt8) : ∀ (n N : Nat) (r : List UInt8) (a : Nat) (ts ts' : List (Nat × Tok)), scanB n r a = .ok ts → r.length < n → scanB N (r ++ 10 :: m) a = .ok ts' → (r ++ 10 :: m).length < N → ∃ u, ts' = ts ++ u
  | 0, _, _, _, _, _, _, h, _, _ => by omega
  | n + 1, N, [], a, ts, ts', h1, _, _, _ => by
    cases h1
    exact ⟨ts', rfl⟩
  | n + 1, 0, b :: r, a, ts, ts', _, _, _, h4 => by omega
  | n + 1, N + 1, b :: r, a, ts, ts', h1, h2, h3, h4 => by
    cases ht : tokL (b :: r) with
    | error k => rw [scanB_cons, ht] at h1; cases h1
    | ok t =>
      obtain ⟨kd, t, k⟩ := t
      obtain ⟨q, hq, hne, hg⟩ := tok_split ht
      have ht0 := List.length_pos_iff.2 hne
      rw [hq] at h1 h2 h3 h4
      rw [scanB_tok n t q kd k a hne hg] at h1
      have hg' : GoodT kd t k (q ++ 10 :: m).head? := by
        cases q with
        | nil => exact good_ends hg ends10
        | cons c u => exact hg
      rw [List.append_assoc, scanB_tok N t (q ++ 10 :: m) kd k a hne hg'] at h3
      simp only [List.length_append] at h2 h4
      cases hs : scanB n (q.drop (skipN false q)) (a + t.length + skipN false q) with
      | error e => rw [hs] at h1; cases h1
      | ok ts1 =>
        rw [hs] at h1
        cases h1
        cases hs' : scanB N ((q ++ 10 :: m).drop (skipN false (q ++ 10 :: m))) (a + t.length + skipN false (q ++ 10 :: m)) with
        | error e => rw [hs'] at h3; cases h3
        | ok ts2 =>
          rw [hs'] at h3
          cases h3
          have hle := skipN_le false q
          rcases Nat.lt_or_ge (skipN false q) q.length with hlt | hge
          · rw [skipN_app false q _ hlt, List.drop_append_of_le_length hle] at hs'
            obtain ⟨u, hu⟩ := scan_more m n N _ _ ts1 ts2 hs (by rw [List.length_drop]; omega) hs' (by simp only [List.length_append, List.length_drop]; omega)
            exact ⟨u, by rw [hu]; rfl⟩
          · have : q.drop (skipN false q) = [] := List.drop_eq_nil_iff.2 hge
            rw [this] at hs
            have : ts1 = [] := by cases n <;> (cases hs; rfl)
            subst this
            exact ⟨ts2, rfl⟩
theorem scanF_more {s m : List UInt8} {ts ts' : List (Nat × Tok)} (h : scanF s = .ok ts) (h' : scanF (s ++ 10 :: m) = .ok ts') : ∃ u, ts' = ts ++ u := by
  unfold scanF at h h'
  have hle := skipN_le false s
  rcases Nat.lt_or_ge (skipN false s) s.length with hlt | hge
  · rw [skipN_app false s _ hlt, List.drop_append_of_le_length hle] at h'
    exact scan_more m _ _ _ _ ts ts' h (by rw [List.length_drop]; omega) h' (by simp only [List.length_append, List.length_drop, List.length_cons]; omega)
  · have : s.drop (skipN false s) = [] := List.drop_eq_nil_iff.2 hge
    rw [this] at h
    cases h
    exact ⟨ts', rfl⟩

/-! ### Where tokens stand -/
def Laid (s : List UInt8) : Nat → List (Nat × Tok) → Prop
  | at0, [] => at0 + skipN false (s.drop at0) = s.length
  | at0, x :: ts => x.1 = at0 + skipN false (s.drop at0) ∧ x.1 + x.2.2.1.length ≤ s.length ∧ (s.drop x.1).take x.2.2.1.length = x.2.2.1 ∧ x.2.1 ≠ 0 ∧ x.2.2.1 ≠ [] ∧ Laid s (x.1 + x.2.2.1.length) ts
theorem good_kind {kd n : Int} {t : List UInt8} {h : Option UInt8} (hg : GoodT kd t n h) : kd ≠ 0 := by
  rcases hg with ⟨rfl, _⟩ | ⟨_, _, _, _, _, ⟨rfl, _⟩ | ⟨rfl, _⟩, _⟩ | ⟨rfl, _⟩ <;> decide
theorem scan_laid (s : List UInt8) : ∀ (n at0 a : Nat) (ts : List (Nat × Tok)), a = at0 + skipN false (s.drop at0) → at0 ≤ s.length → s.length < n + a → scanB n (s.drop a) a = .ok ts → Laid s at0 ts
  | 0, at0, a, ts, h1, h2, h3, _ => by
    have := skipN_le false (s.drop at0)
    rw [List.length_drop] at this
    omega
  | n + 1, at0, a, ts, h1, h2, h3, h4 => by
    have hle := skipN_le false (s.drop at0)
    rw [List.length_drop] at hle
    cases hr : s.drop a with
    | nil =>
      rw [hr] at h4
      cases h4
      have := List.drop_eq_nil_iff.1 hr
      show at0 + skipN false (s.drop at0) = s.length
      omega
    | cons b r =>
      rw [hr] at h4
      cases ht : tokL (b :: r) with
      | error k => rw [scanB_cons, ht] at h4; cases h4
      | ok t =>
        obtain ⟨kd, t, k⟩ := t
        obtain ⟨q, hq, hne, hg⟩ := tok_split ht
        rw [hq, scanB_tok n t q kd k a hne hg] at h4
        have hlen : (b :: r).length = s.length - a := by rw [← hr, List.length_drop]
        rw [hq, List.length_append] at hlen
        have hal : a < s.length := by
          rcases Nat.lt_or_ge a s.length with h | h
          · exact h
          · rw [List.drop_eq_nil_iff.2 h] at hr; cases hr
        have hd : s.drop (a + t.length) = q := by rw [← List.drop_drop, hr, hq, drop_app]
        have ht0 := List.length_pos_iff.2 hne
        cases hs : scanB n (q.drop (skipN false q)) (a + t.length + skipN false q) with
        | error e => rw [hs] at h4; cases h4
        | ok ts1 =>
          rw [hs] at h4
          cases h4
          refine ⟨h1, by show a + t.length ≤ s.length; omega, ?_, good_kind hg, hne, ?_⟩
          · show (s.drop a).take t.length = t
            rw [hr, hq, List.take_append_of_le_length (Nat.le_refl _), List.take_length]
          · have hd2 : s.drop (a + t.length + skipN false q) = q.drop (skipN false q) := by rw [← List.drop_drop, hd]
            exact scan_laid s n (a + t.length) (a + t.length + skipN false q) ts1 (by rw [hd]) (by omega) (by omega) (by rw [hd2]; exact hs)
theorem scanF_laid {s : List UInt8} {ts : List (Nat × Tok)} (h : scanF s = .ok ts) : Laid s 0 ts := by
  unfold scanF at h
  have := scan_laid s (s.length + 1) 0 (skipN false s) ts (by rw [List.drop_zero, Nat.zero_add]) (Nat.zero_le _) (by omega) h
  exact this
/-- What lies between two tokens is nothing to the scanner. -/
theorem scan_between (s : List UInt8) (at0 A : Nat) (hA : A = at0 + skipN false (s.drop at0)) (h : A ≤ s.length) (h20 : s.length ≤ 20000) : scanRes (sub s at0 A) = ([tokD 0 (A - at0) [] 0], 0, 0) := by
  have hsub : sub s at0 A = (s.drop at0).take (skipN false (s.drop at0)) := by
    unfold sub
    rw [List.drop_take, hA, Nat.add_sub_cancel_left]
  have hl : (sub s at0 A).length = A - at0 := sub_len s at0 A (by omega) h
  have hk : skipN false (sub s at0 A) = (sub s at0 A).length := by
    rw [hsub, skipN_take, List.length_take]
    have := skipN_le false (s.drop at0)
    omega
  unfold scanRes scanF
  rw [if_neg (by omega), hk, List.drop_length, hl]
  rfl
end Go.Avm
