/-
  The scanner of texts, part K: the next token, told of what is left of the text.
-/
import Derived.Test.YtdmjbpkdngmgkaaDoorLexJ
set_option linter.unusedSectionVars false
namespace Go.Avm
open Go.Proofs

abbrev Tok := Int × List UInt8 × Int
def great (b : UInt8) : Bool := ge8 65 b && le8 b 90
def letter : List UInt8 → Bool
  | [] => false
  | b :: _ => isSm b || great b
def sg1 (b : UInt8) : Bool := decide (0 ≤ idxB b)
def sgnL (b : UInt8) (r : List UInt8) : List UInt8 :=
  match r with
  | [] => if sg1 b then [b] else []
  | c :: _ => if prs.contains [b, c] then [b, c] else if sg1 b then [b] else []
/-- The token that begins here, or the error. -/
def tokL : List UInt8 → Except Int Tok
  | [] => .error 4
  | b :: r =>
    if isDig b then
      if 9223372036854775808 ≤ dv 0 ((b :: r).takeWhile isDig) then .error 2
      else if (decide (1 < ((b :: r).takeWhile isDig).length) && b.toNat == 48) || letter ((b :: r).drop ((b :: r).takeWhile isDig).length) then .error 4
      else .ok (3, (b :: r).takeWhile isDig, dv 0 ((b :: r).takeWhile isDig))
    else if isSm b then
      if isWord ((b :: r).takeWhile isNm) then .ok (2, (b :: r).takeWhile isNm, 0)
      else if 12 < ((b :: r).takeWhile isNm).length then .error 2 else .ok (1, (b :: r).takeWhile isNm, 0)
    else if sgnL b r = [] then .error 4 else .ok (4, sgnL b r, 0)

theorem tw_take (p : UInt8 → Bool) (l : List UInt8) : l.take (l.takeWhile p).length = l.takeWhile p := (List.prefix_iff_eq_take.1 (List.takeWhile_prefix p)).symm
theorem tw_le (p : UInt8 → Bool) (l : List UInt8) : (l.takeWhile p).length ≤ l.length := (List.takeWhile_sublist p).length_le
theorem sub_tw (p : UInt8 → Bool) (s : List UInt8) (a : Nat) : sub s a (a + runN p (s.drop a)) = (s.drop a).takeWhile p := by
  unfold sub runN
  rw [List.drop_take, Nat.add_sub_cancel_left, tw_take]
theorem rst_eq (s : List UInt8) (a : Nat) : rst s a = s.drop a := by rw [rst, List.take_length]
theorem pre2_eq (t : List UInt8) (k : Nat) : pre2 t k = t.take k := by rw [pre2, List.drop_zero]
theorem signT_eq (s : List UInt8) (a : Nat) (b : UInt8) (r : List UInt8) (h : s.drop a = b :: r) : signT s a b = sgnL b r := by
  unfold signT sgnL
  simp only [rst_eq, pre2_eq, h]
  cases r with
  | nil => simp [sg1]
  | cons c r =>
    have : decide (2 ≤ ((b :: c :: r).length : Int)) = true := by simp only [List.length_cons, decide_eq_true_eq]; omega
    rw [this, Bool.true_and]
    simp [sg1]
theorem tw_ne (p : UInt8 → Bool) (b : UInt8) (r : List UInt8) (h : p b = true) : ∃ t, (b :: r).takeWhile p = b :: t := ⟨r.takeWhile p, by simp [h]⟩
theorem tw_all (p : UInt8 → Bool) : ∀ (l : List UInt8), ∀ x ∈ l.takeWhile p, p x = true
  | [], x, hx => by simp at hx
  | b :: r, x, hx => by
    by_cases hb : p b = true
    · rw [List.takeWhile_cons, if_pos hb] at hx
      rcases List.mem_cons.1 hx with rfl | hx
      · exact hb
      · exact tw_all p r x hx
    · rw [List.takeWhile_cons, if_neg hb] at hx
      simp at hx
theorem isSm_isNm {b : UInt8} (h : isSm b = true) : isNm b = true := by simp [isNm, h]
theorem sgnL_pre (b : UInt8) (r : List UInt8) : sgnL b r <+: b :: r := by
  unfold sgnL
  cases r with
  | nil => dsimp only; split <;> simp
  | cons c r =>
    dsimp only
    split
    · exact ⟨r, rfl⟩
    · split
      · exact ⟨c :: r, rfl⟩
      · exact List.nil_prefix
theorem tokL_pre {b : UInt8} {r : List UInt8} {kd n : Int} {t : List UInt8} (h : tokL (b :: r) = .ok (kd, t, n)) : t <+: b :: r ∧ t ≠ [] := by
  rw [tokL] at h
  split at h
  · rename_i hd
    split at h
    · cases h
    · split at h
      · cases h
      · cases h
        refine ⟨List.takeWhile_prefix _, ?_⟩
        obtain ⟨u, hu⟩ := tw_ne isDig b r hd
        rw [hu]; simp
  · split at h
    · rename_i hs
      obtain ⟨u, hu⟩ := tw_ne isNm b r (isSm_isNm hs)
      split at h
      · cases h
        exact ⟨List.takeWhile_prefix _, by rw [hu]; simp⟩
      · split at h
        · cases h
        · cases h
          exact ⟨List.takeWhile_prefix _, by rw [hu]; simp⟩
    · split at h
      · cases h
      · rename_i hne
        cases h
        exact ⟨sgnL_pre b r, hne⟩

/-- What a contract of 'next' says. -/
def NextSays (w : Bool) (s : List UInt8) (a v m : Nat) (l : List D) : Except Int Tok → Prop
  | .error k => ∃ w' m', k ≠ 0 ∧ ∀ rest : Heap, HCall Tryd.prog 16 [scP] (ovl (stE w s a v m l) rest) [dI k] (ovl (stE w' s a v m' l) rest)
  | .ok (kd, t, n) => ∃ w' m', ∀ rest : Heap, HCall Tryd.prog 16 [scP] (ovl (stE w s a v m l) rest) [dI 0] (ovl (stE w' s (a + t.length) (v + 1) m' (l ++ [tokD kd a t n])) rest)
section
variable (w : Bool) (s : List UInt8) (a v m : Nat) (l : List D)
theorem nextDig (b : UInt8) (r : List UInt8) (ha : a < s.length) (hr : s.drop a = b :: r) (hb : s[((a : Nat) : Int).toNat]? = some b) (hlen : s.length ≤ 100000) (hl : l.length + 1 ≤ 549755813888) (hd : isDig b = true) : NextSays w s a v m l (tokL (b :: r)) := by
  have hT : digT s a = (b :: r).takeWhile isDig := by rw [digT, sub_tw, hr]
  obtain ⟨t, ht⟩ := tw_ne isDig b r hd
  have hall := tw_all isDig (b :: r)
  have hle := tw_le isDig (b :: r)
  have hrl : (b :: r).length = s.length - a := by rw [← hr, List.length_drop]
  have htl : a + (digT s a).length ≤ s.length := by rw [hT]; omega
  have h0 : (digT s a)[(0 : Int).toNat]? = some b := by rw [hT, ht]; rfl
  have hbeh : ∀ c, s[a + (digT s a).length]? = some c → (b :: r).drop ((b :: r).takeWhile isDig).length = c :: ((b :: r).drop ((b :: r).takeWhile isDig).length).tail := fun c hc => by
    have : ((b :: r).drop ((b :: r).takeWhile isDig).length).head? = some c := by
      rw [hT, ← hr] at hc
      rw [List.head?_drop, ← hr, List.getElem?_drop]
      exact hc
    cases hq : (b :: r).drop ((b :: r).takeWhile isDig).length with
    | nil => rw [hq] at this; simp at this
    | cons x y => rw [hq] at this; simp at this; subst this; rfl
  by_cases hv : 9223372036854775808 ≤ dv 0 ((b :: r).takeWhile isDig)
  · have e : tokL (b :: r) = .error 2 := by rw [tokL, if_pos hd, if_pos hv]
    rw [e]
    obtain ⟨c, hc⟩ : ∃ c, decide (((a + (digT s a).length : Nat) : Int) < (s.length : Int)) = true → s[((a + (digT s a).length : Nat) : Int).toNat]? = some c := by
      by_cases hx : a + (digT s a).length < s.length
      · exact ⟨s[a + (digT s a).length], fun _ => by simp only [Int.toNat_natCast]; exact List.getElem?_eq_getElem hx⟩
      · exact ⟨0, fun h => by have := of_decide_eq_true h; omega⟩
    refine ⟨w, m, by decide, nextNumErr w s a v m l b ha hb hd 2 (numGreat w s a v m l b c ha hlen h0 9223372036854775807 ?_ (by omega) hl hc)⟩
    rw [hT]
    rw [ht] at hv hall ⊢
    exact parseErr b t hall (by rw [← ht]; omega) hv
  · have hp : Pure Tryd.prog 32 [.str (digT s a), .int .i64 10, .int .i64 64] [.int .i64 (dv 0 (digT s a) : Int), .nili] := by
      rw [hT]
      rw [ht] at hv hall ⊢
      exact parseOk b t hall (by rw [← ht]; omega) (by omega)
    obtain ⟨c, x, hx, hxb, hlet⟩ : ∃ c x, decide (((a + (digT s a).length : Nat) : Int) < (s.length : Int)) = x ∧ (x = true → s[((a + (digT s a).length : Nat) : Int).toNat]? = some c) ∧ letter ((b :: r).drop ((b :: r).takeWhile isDig).length) = (x && (isSm c || (ge8 65 c && le8 c 90))) := by
      by_cases hx : a + (digT s a).length < s.length
      · have hg : s[a + (digT s a).length]? = some s[a + (digT s a).length] := List.getElem?_eq_getElem hx
        refine ⟨s[a + (digT s a).length], true, by simp only [decide_eq_true_eq]; omega, fun _ => by simp only [Int.toNat_natCast]; exact hg, ?_⟩
        rw [hbeh _ hg]; rfl
      · refine ⟨0, false, by simp only [decide_eq_false_iff_not]; omega, fun h => (by cases h), ?_⟩
        have : (b :: r).drop ((b :: r).takeWhile isDig).length = [] := List.drop_eq_nil_iff.2 (by rw [← hT]; omega)
        rw [this]; rfl
    have hz : decide (1 < ((digT s a).length : Int)) = decide (1 < ((b :: r).takeWhile isDig).length) := by rw [hT]; exact decide_eq_decide.2 (by omega)
    have hy : ((b.toNat : Int) == 48) = (b.toNat == 48) := by
      rw [Bool.eq_iff_iff]; simp only [beq_iff_eq]; omega
    by_cases hbad : numBad (decide (1 < ((b :: r).takeWhile isDig).length)) (b.toNat == 48) x (isSm c) (ge8 65 c) (le8 c 90) = true
    · have e : tokL (b :: r) = .error 4 := by
        rw [tokL, if_pos hd, if_neg hv, if_pos]
        rw [hlet]
        exact hbad
      rw [e]
      exact ⟨w, m, by decide, nextNumErr w s a v m l b ha hb hd 4 (numFour w s a v m l b c ha hlen h0 _ hp (by omega) hl _ _ _ _ _ _ hz hy hx hxb rfl rfl rfl hbad)⟩
    · have e : tokL (b :: r) = .ok (3, (b :: r).takeWhile isDig, dv 0 ((b :: r).takeWhile isDig)) := by
        rw [tokL, if_pos hd, if_neg hv, if_neg]
        rw [hlet]
        exact hbad
      rw [e, ← hT]
      exact ⟨w, m, nextNumOk w s a v m l b ha hb hd _ _ _ (numOk w s a v m l b c ha hlen h0 _ hp (by omega) hl _ _ _ _ _ _ hz hy hx hxb rfl rfl rfl (by simpa only [Bool.not_eq_true] using hbad))⟩
theorem nextC (b : UInt8) (r : List UInt8) (ha : a < s.length) (hr : s.drop a = b :: r) (hlen : s.length ≤ 100000) (hl : l.length + 1 ≤ 549755813888) : NextSays w s a v m l (tokL (b :: r)) := by
  have hb0 : s[a]? = some b := by
    have : (s.drop a)[0]? = some b := by rw [hr]; rfl
    rwa [List.getElem?_drop, Nat.add_zero] at this
  have hb : s[((a : Nat) : Int).toNat]? = some b := by simpa using hb0
  have hrl : (b :: r).length = s.length - a := by rw [← hr, List.length_drop]
  cases hd : isDig b with
  | true => exact nextDig w s a v m l b r ha hr hb hlen hl hd
  | false =>
    cases hs : isSm b with
    | true =>
      have hT : nmT s a = (b :: r).takeWhile isNm := by rw [nmT, sub_tw, hr]
      have hle := tw_le isNm (b :: r)
      have hta : a + (nmT s a).length ≤ 1099511627776 := by rw [hT]; omega
      have e : tokL (b :: r) = (if isWord (nmT s a) then .ok (2, nmT s a, 0) else if 12 < (nmT s a).length then .error 2 else .ok (1, nmT s a, 0)) := by
        rw [tokL, if_neg (by simp [hd]), if_pos hs, hT]
      rw [e]
      cases hu : isWord (nmT s a) with
      | true => exact ⟨_, _, nextWord w s a v m l b ha hb hlen hd hs hu hl hta⟩
      | false =>
        rw [if_neg (by simp)]
        by_cases h12 : 12 < (nmT s a).length
        · rw [if_pos h12]
          exact ⟨_, _, by decide, nextLong w s a v m l b ha hb hlen hd hs hu (by simp only [decide_eq_true_eq]; omega) hl hta⟩
        · rw [if_neg h12]
          exact ⟨_, _, nextName w s a v m l b ha hb hlen hd hs hu (by simp only [decide_eq_false_iff_not]; omega) hl hta⟩
    | false =>
      have e : tokL (b :: r) = (if sgnL b r = [] then .error 4 else .ok (4, sgnL b r, 0)) := by
        rw [tokL, if_neg (by simp [hd]), if_neg (by simp [hs])]
      have hT := signT_eq s a b r hr
      have hb' : (rst s a)[(0 : Int).toNat]? = some b := by rw [rst_eq, hr]; rfl
      have hle := (sgnL_pre b r).length_le
      rw [e]
      by_cases h0 : sgnL b r = []
      · rw [if_pos h0]
        exact ⟨_, _, by decide, nextNone w s a v m l b ha hb hb' hd hs _ hT (by rw [h0]; rfl) hl (by omega)⟩
      · rw [if_neg h0]
        exact ⟨_, _, nextSign w s a v m l b ha hb hb' hd hs _ hT (by simpa using h0) hl (by omega)⟩
end
end Go.Avm
