/-
  Plain facts of the scanner: tokens written with blanks and remarks between are the same tokens.
-/
import Derived.Test.YtdmjbpkdngmgkaaDoorLexPb
set_option linter.unusedSectionVars false
namespace Go.Avm
open Go.Proofs

def gapT (c : Nat) : List UInt8 := match c with
  | 0 => [32]
  | 1 => [10]
  | 2 => [9, 32, 13]
  | _ => [32, 35, 32, 97, 32, 98, 32, 48, 48, 32, 33, 10]
def gapOf (gaps : List UInt8) (i : Nat) : List UInt8 := match gaps[i]? with
  | some g => gapT (g.toNat % 4)
  | none => gapT 0
/-- The text that is written: each token, a gap behind it; at last the end's gap. -/
def apart (gaps : List UInt8) : Nat → List (Nat × Tok) → List UInt8
  | i, [] => gapOf gaps i
  | i, x :: ts => x.2.2.1 ++ (gapOf gaps i ++ apart gaps (i + 1) ts)
theorem gap_cases (gaps : List UInt8) (i : Nat) : gapOf gaps i = gapT 0 ∨ gapOf gaps i = gapT 1 ∨ gapOf gaps i = gapT 2 ∨ gapOf gaps i = gapT 3 := by
  unfold gapOf
  split
  · rename_i g _
    have : g.toNat % 4 < 4 := Nat.mod_lt _ (by decide)
    generalize g.toNat % 4 = c at this
    match c, this with
    | 0, _ => simp
    | 1, _ => simp
    | 2, _ => simp
    | 3, _ => simp
  · simp
theorem gap_skip (gaps : List UInt8) (i : Nat) (r : List UInt8) : skipN false (gapOf gaps i ++ r) = (gapOf gaps i).length + skipN false r := by
  rcases gap_cases gaps i with h | h | h | h <;> rw [h]
  · show skipN false (32 :: r) = 1 + skipN false r
    rfl
  · show skipN false (10 :: r) = 1 + skipN false r
    rfl
  · show 1 + (1 + (1 + skipN false r)) = 3 + skipN false r
    omega
  · show 1 + (1 + (1 + (1 + (1 + (1 + (1 + (1 + (1 + (1 + (1 + (1 + skipN false r))))))))))) = 12 + skipN false r
    omega
theorem gap_head (gaps : List UInt8) (i : Nat) (r : List UInt8) : ∃ c, (gapOf gaps i ++ r).head? = some c ∧ ends c := by
  rcases gap_cases gaps i with h | h | h | h <;> rw [h]
  · exact ⟨32, rfl, ends32⟩
  · exact ⟨10, rfl, ends10⟩
  · exact ⟨9, rfl, ends9⟩
  · exact ⟨32, rfl, ends32⟩
def blankish (n : Nat) : Bool := (wsp (UInt8.ofNat n) || UInt8.ofNat n == 35) && (isDig (UInt8.ofNat n) || isSm (UInt8.ofNat n) || sg1 (UInt8.ofNat n))
theorem noBlankish : (List.range 256).all (fun n => !(blankish n)) = true := by kernel_rfl
theorem tok_not_blank {b : UInt8} (h : isDig b = true ∨ isSm b = true ∨ sg1 b = true) : wsp b = false ∧ (b == 35) = false := by
  have h1 := List.all_eq_true.1 noBlankish b.toNat (List.mem_range.2 b.toNat_lt)
  simp only [blankish, UInt8.ofNat_toNat, Bool.not_eq_true', Bool.and_eq_false_iff, Bool.or_eq_false_iff] at h1
  rcases h1 with h1 | ⟨⟨h2, h3⟩, h4⟩
  · exact h1
  · rcases h with h | h | h
    · rw [h2] at h; cases h
    · rw [h3] at h; cases h
    · rw [h4] at h; cases h
theorem pair_sg {b c : UInt8} (h : prs.contains [b, c] = true) : sg1 b = true := by
  simp only [prs, List.contains_eq_mem, decide_eq_true_eq, List.mem_cons, List.not_mem_nil, or_false, List.cons.injEq, and_true] at h
  rcases h with ⟨rfl, _⟩ | ⟨rfl, _⟩ | ⟨rfl, _⟩ | ⟨rfl, _⟩ | ⟨rfl, _⟩ | ⟨rfl, _⟩ | ⟨rfl, _⟩ | ⟨rfl, _⟩ <;> rfl
theorem good_skip {kd n : Int} {t : List UInt8} {h : Option UInt8} (hg : GoodT kd t n h) (hne : t ≠ []) (r : List UInt8) : skipN false (t ++ r) = 0 := by
  have key : isDig (t.headD 0) = true ∨ isSm (t.headD 0) = true ∨ sg1 (t.headD 0) = true := by
    rcases hg with ⟨_, _, h3, h4, _⟩ | ⟨_, _, h3, _⟩ | ⟨_, _, _, _, ⟨b, c, rfl, hp⟩ | ⟨b, rfl, hs, _⟩⟩
    · cases t with
      | nil => exact absurd rfl h3
      | cons b u => exact .inl (h4 b (by simp))
    · exact .inr (.inl h3)
    · exact .inr (.inr (pair_sg hp))
    · exact .inr (.inr hs)
  cases t with
  | nil => exact absurd rfl hne
  | cons b u =>
    have := tok_not_blank (b := b) key
    rw [List.cons_append]
    simp only [skipN, this.1, this.2]
    rfl
def AllGood (ts : List (Nat × Tok)) : Prop := ∀ x ∈ ts, x.2.2.1 ≠ [] ∧ ∃ h, GoodT x.2.1 x.2.2.1 x.2.2.2 h
theorem scanB_good : ∀ (n : Nat) (r : List UInt8) (a : Nat) (ts : List (Nat × Tok)), scanB n r a = .ok ts → AllGood ts
  | 0, r, a, ts, h => by cases h; intro x hx; cases hx
  | n + 1, [], a, ts, h => by cases h; intro x hx; cases hx
  | n + 1, b :: r, a, ts, h => by
    cases ht : tokL (b :: r) with
    | error k' => rw [scanB_cons, ht] at h; cases h
    | ok t =>
      obtain ⟨kd, t, k⟩ := t
      obtain ⟨q, hq, hne, hg⟩ := tok_split ht
      rw [hq, scanB_tok n t q kd k a hne hg] at h
      split at h
      · cases h
      · rename_i ts1 hs
        cases h
        have ih := scanB_good n _ _ ts1 hs
        intro x hx
        rcases List.mem_cons.1 hx with rfl | hx
        · exact ⟨hne, _, hg⟩
        · exact ih x hx
/-- Where the scanner stands in such a text, its blanks passed over. -/
def apartS (gaps : List UInt8) (i : Nat) : List (Nat × Tok) → List UInt8
  | [] => []
  | x :: ts => apart gaps i (x :: ts)
theorem apart_skip (gaps : List UInt8) (i : Nat) (ts : List (Nat × Tok)) (hg : AllGood ts) : (apart gaps i ts).drop (skipN false (apart gaps i ts)) = apartS gaps i ts := by
  cases ts with
  | nil =>
    have h := gap_skip gaps i []
    rw [List.append_nil] at h
    show (gapOf gaps i).drop (skipN false (gapOf gaps i)) = []
    rw [h]
    exact List.drop_eq_nil_iff.2 (by simp [skipN])
  | cons x ts =>
    obtain ⟨hne, h, hgood⟩ := hg x (by simp)
    have : skipN false (apart gaps i (x :: ts)) = 0 := good_skip hgood hne _
    rw [this]
    rfl
theorem scan_apart (gaps : List UInt8) : ∀ (ts : List (Nat × Tok)) (i n a : Nat), AllGood ts → ts.length < n → ∃ ts', scanB n (apartS gaps i ts) a = .ok ts' ∧ ts'.map (·.2) = ts.map (·.2)
  | [], i, n, a, _, h => by
    cases n with
    | zero => omega
    | succ n => exact ⟨[], rfl, rfl⟩
  | x :: ts, i, 0, a, _, h => by omega
  | x :: ts, i, n + 1, a, hg, h => by
    obtain ⟨hne, h0, hgood⟩ := hg x (by simp)
    obtain ⟨A, kd, t, k⟩ := x
    obtain ⟨c, hc, hend⟩ := gap_head gaps i (apart gaps (i + 1) ts)
    have hg2 : AllGood ts := fun y hy => hg y (by simp [hy])
    have hsk : (gapOf gaps i ++ apart gaps (i + 1) ts).drop (skipN false (gapOf gaps i ++ apart gaps (i + 1) ts)) = apartS gaps (i + 1) ts := by
      rw [gap_skip, ← List.drop_drop, drop_app, apart_skip gaps (i + 1) ts hg2]
    obtain ⟨ts', h1, h2⟩ := scan_apart gaps ts (i + 1) n (a + t.length + skipN false (gapOf gaps i ++ apart gaps (i + 1) ts)) hg2 (by simp only [List.length_cons] at h; omega)
    refine ⟨(a, (kd, t, k)) :: ts', ?_, ?_⟩
    · show scanB (n + 1) (t ++ (gapOf gaps i ++ apart gaps (i + 1) ts)) a = _
      rw [scanB_tok n t _ kd k a hne (by rw [hc]; exact good_ends hgood hend), hsk, h1]
    · simp only [List.map_cons, h2]
theorem apart_len (gaps : List UInt8) : ∀ (ts : List (Nat × Tok)) (i : Nat), AllGood ts → ts.length < (apart gaps i ts).length
  | [], i, _ => by
    show 0 < (gapOf gaps i).length
    rcases gap_cases gaps i with h | h | h | h <;> rw [h] <;> decide
  | x :: ts, i, hg => by
    have ih := apart_len gaps ts (i + 1) fun y hy => hg y (by simp [hy])
    have h1 := List.length_pos_iff.2 (hg x (by simp)).1
    simp only [apart, List.length_append, List.length_cons]
    omega
theorem scanF_apart {gaps : List UInt8} {ts : List (Nat × Tok)} (hg : AllGood ts) : ∃ ts', scanF (apart gaps 0 ts) = .ok ts' ∧ ts'.map (·.2) = ts.map (·.2) := by
  unfold scanF
  rw [apart_skip gaps 0 ts hg]
  have := apart_len gaps ts 0 hg
  exact scan_apart gaps ts 0 _ _ hg (by omega)
end Go.Avm
