/-
  The scanner of texts, part M: the contract of lex.Scan.
-/
import Derived.Test.YtdmjbpkdngmgkaaDoorLexL
set_option linter.unusedSectionVars false
namespace Go.Avm
open Go.Proofs

/-- What the loop of Scan comes to. -/
def LoopSays (w : Bool) (s : List UInt8) (a v m : Nat) (l : List D) : Except (Nat × Int) (List (Nat × Tok)) → Prop
  | .error (p, k) => ∃ w' v' m' l', ∀ (rest : Heap) (X : Fix), X.P = Tryd.prog → X.N = 39 → LW X (loopOf Tryd.prog 9 5) ⟨envOf (scL s), ovl (stE w s a v m l) rest⟩ fun e' S' => e' = .ret ∧ S' = ⟨envOf [(2, .nils), (3, dN p), (4, dI k)], ovl (stE w' s p v' m' l') rest⟩
  | .ok ts => (l ++ ts.map tokOf).length ≤ s.length ∧ ∃ w' v' m', ∀ (rest : Heap) (X : Fix), X.P = Tryd.prog → X.N = 39 → LW X (loopOf Tryd.prog 9 5) ⟨envOf (scL s), ovl (stE w s a v m l) rest⟩ fun e' S' => e' = .exit 0 ∧ S' = ⟨envOf (scL s), ovl (stE w' s s.length v' m' (l ++ ts.map tokOf)) rest⟩
theorem scanLoop (s : List UInt8) (hlen : s.length ≤ 100000) : ∀ (n : Nat) (w : Bool) (a v m : Nat) (l : List D), a ≤ s.length → s.length < n + a → l.length ≤ a → LoopSays w s a v m l (scanB n (s.drop a) a)
  | 0, w, a, v, m, l, h1, h2, _ => by omega
  | n + 1, w, a, v, m, l, h1, h2, h3 => by
    cases hr : s.drop a with
    | nil =>
      have : a = s.length := by have := List.drop_eq_nil_iff.1 hr; omega
      subst this
      refine ⟨by simpa [scanB] using h3, w, v, m, fun rest X hP hN => ?_⟩
      simp only [scanB, List.map_nil, List.append_nil]
      exact lw_end (scanStop w s v m l rest X hP hN) (by simp)
    | cons b r =>
      have ha : a < s.length := by
        rcases Nat.lt_or_ge a s.length with h | h
        · exact h
        · rw [List.drop_eq_nil_iff.2 h] at hr; cases hr
      have hn := nextC w s a v m l b r ha hr hlen (by omega)
      rw [scanB]
      cases ht : tokL (b :: r) with
      | error k =>
        rw [ht] at hn
        obtain ⟨w1, m1, hk, hc⟩ := hn
        exact ⟨w1, v, m1, l, fun rest X hP hN => lw_end (scanErr w w1 s a v m l ha m1 k hk hlen hc rest X hP hN) (by simp)⟩
      | ok t =>
        obtain ⟨kd, t, k⟩ := t
        rw [ht] at hn
        obtain ⟨w1, m1, hc⟩ := hn
        obtain ⟨hpre, hne⟩ := tokL_pre ht
        have hrl : (b :: r).length = s.length - a := by rw [← hr, List.length_drop]
        have htl := hpre.length_le
        have ht0 : 0 < t.length := List.length_pos_iff.2 hne
        have ha1 : a + t.length ≤ s.length := by omega
        have hd1 : s.drop (a + t.length) = (b :: r).drop t.length := by rw [← hr, List.drop_drop]
        have hb : blankTo s (a + t.length) = a + t.length + skipN false ((b :: r).drop t.length) := by rw [blankTo, hd1]
        have hd2 : s.drop (blankTo s (a + t.length)) = ((b :: r).drop t.length).drop (skipN false ((b :: r).drop t.length)) := by rw [hb, ← List.drop_drop, hd1]
        have hbl := blankTo_le s (a + t.length) ha1
        have ih := scanLoop s hlen n w1 (blankTo s (a + t.length)) (v + 1) m1 (l ++ [tokD kd a t k]) hbl.2 (by omega) (by rw [List.length_append, List.length_singleton]; omega)
        rw [hd2, hb] at ih
        show LoopSays w s a v m l (match scanB n (((b :: r).drop t.length).drop (skipN false ((b :: r).drop t.length))) (a + t.length + skipN false ((b :: r).drop t.length)) with
          | .error e => .error e
          | .ok ts => .ok ((a, (kd, t, k)) :: ts))
        have hstep := fun rest X hP hN => scanNext w w1 s a v m l ha (a + t.length) (v + 1) m1 (l ++ [tokD kd a t k]) hlen ha1 hc rest X hP hN
        rw [hb] at hstep
        cases hs : scanB n (((b :: r).drop t.length).drop (skipN false ((b :: r).drop t.length))) (a + t.length + skipN false ((b :: r).drop t.length)) with
        | error e =>
          obtain ⟨p, k'⟩ := e
          rw [hs] at ih
          obtain ⟨w', v', m', l', hh⟩ := ih
          exact ⟨w', v', m', l', fun rest X hP hN => lw_seg (hstep rest X hP hN) (hh rest X hP hN)⟩
        | ok ts =>
          rw [hs] at ih
          obtain ⟨hle, w', v', m', hh⟩ := ih
          have e : l ++ [tokD kd a t k] ++ ts.map tokOf = l ++ ((a, (kd, t, k)) :: ts).map tokOf := by simp [tokOf]
          rw [e] at hle hh
          exact ⟨hle, w', v', m', fun rest X hP hN => lw_seg (hstep rest X hP hN) (hh rest X hP hN)⟩

section
variable (s : List UInt8)
def scPar (h : Option (LHint Tryd.prog)) (C : Option (CHint Tryd.prog)) (D : Option (CHint Tryd.prog)) (z : Bool) (hz : decide (20000 < (s.length : Int)) = z) : Par Tryd.prog :=
  { hint := fun f' k => if f' = 9 then (if k = 9 then some (hB Tryd.prog _ z hz) else none) else none
    nils := fun f' r => if f' = 9 then (if r = 4 then some { k := 324, i := 6, K := 1, sz := 4 } else none) else none
    calls := fun f' k _ => if f' = 9 then (if k = 14 then C else if k = 34 then D else none) else none
    loops := fun f' r => if f' = 9 then (if r = 5 then h else none) else none }
theorem scanLong (h : decide (20000 < (s.length : Int)) = true) : Pure Tryd.prog 9 [.str s] [.ro [], .int .i64 0, .int .i64 2] :=
  pure_of_run okP named (scPar s none none none true h) 1000 (by kernel_rfl)
noncomputable def scLH (w : Bool) (a v m : Nat) (l : List D) (e : Exit) (l' : List (Nat × AV)) (hp : List (Nat × Ent)) (h : ∀ (rest : Heap) (X : Fix), X.P = Tryd.prog → X.N = 39 → LW X (loopOf Tryd.prog 9 5) ⟨envOf (scL s), ovl (stE w s a v m l) rest⟩ fun e' S' => e' = e ∧ S' = ⟨envOf l', ovl hp rest⟩) : LHint Tryd.prog :=
  ⟨39, loopOf Tryd.prog 9 5, scL s, fun _ => stE w s a v m l, e, l', fun _ => hp, fun rest X hP hN => (h rest X hP hN).aw⟩
theorem scanBad (h : decide (20000 < (s.length : Int)) = false) (hlen : s.length ≤ 100000) (p : Nat) (k : Int) (w' : Bool) (v' m' : Nat) (l' : List D)
    (hl : ∀ (rest : Heap) (X : Fix), X.P = Tryd.prog → X.N = 39 → LW X (loopOf Tryd.prog 9 5) ⟨envOf (scL s), ovl (stE false s (blankTo s 0) 0 0 []) rest⟩ fun e' S' => e' = .ret ∧ S' = ⟨envOf [(2, .nils), (3, dN p), (4, dI k)], ovl (stE w' s p v' m' l') rest⟩) :
    Pure Tryd.prog 9 [.str s] [.ro [], .int .i64 (p : Int), .int .i64 k] := by
  cases w' with
  | false => exact pure_of_run okP named (scPar s (some (scLH s false (blankTo s 0) 0 0 [] _ _ _ hl)) (some (blankSt false s 0 0 [] hlen (Nat.zero_le _))) none false h) 1000 (by kernel_rfl)
  | true => exact pure_of_run okP named (scPar s (some (scLH s false (blankTo s 0) 0 0 [] _ _ _ hl)) (some (blankSt false s 0 0 [] hlen (Nat.zero_le _))) none false h) 1000 (by kernel_rfl)
theorem scanGood (h : decide (20000 < (s.length : Int)) = false) (hlen : s.length ≤ 100000) (w' : Bool) (v' m' : Nat) (l' : List D) (hl' : l'.length + 1 ≤ 549755813888)
    (hl : ∀ (rest : Heap) (X : Fix), X.P = Tryd.prog → X.N = 39 → LW X (loopOf Tryd.prog 9 5) ⟨envOf (scL s), ovl (stE false s (blankTo s 0) 0 0 []) rest⟩ fun e' S' => e' = .exit 0 ∧ S' = ⟨envOf (scL s), ovl (stE w' s s.length v' m' l') rest⟩) :
    Pure Tryd.prog 9 [.str s] [.ro (l' ++ [tokD 0 s.length [] 0]), .int .i64 0, .int .i64 0] := by
  cases w' with
  | false => exact pure_of_run okP named (scPar s (some (scLH s false (blankTo s 0) 0 0 [] _ _ _ hl)) (some (blankSt false s 0 0 [] hlen (Nat.zero_le _))) (some (putCH false s s.length v' m' l' 0 0 [] hl' (by simp only [List.length_nil]; omega))) false h) 1000 (by kernel_rfl)
  | true => exact pure_of_run okP named (scPar s (some (scLH s false (blankTo s 0) 0 0 [] _ _ _ hl)) (some (blankSt false s 0 0 [] hlen (Nat.zero_le _))) (some (putCH true s s.length v' m' l' 0 0 [] hl' (by simp only [List.length_nil]; omega))) false h) 1000 (by kernel_rfl)
end
/-- What lex.Scan hands back. -/
def scanRes (s : List UInt8) : List D × Int × Int :=
  if 20000 < s.length then ([], 0, 2) else match scanF s with
    | .error (p, k) => ([], p, k)
    | .ok ts => (ts.map tokOf ++ [tokD 0 s.length [] 0], 0, 0)
theorem scanC (s : List UInt8) : Pure Tryd.prog 9 [.str s] [.ro (scanRes s).1, .int .i64 (scanRes s).2.1, .int .i64 (scanRes s).2.2] := by
  unfold scanRes
  by_cases h : 20000 < s.length
  · rw [if_pos h]
    exact scanLong s (by simp only [decide_eq_true_eq]; omega)
  · rw [if_neg h]
    have hz : decide (20000 < (s.length : Int)) = false := by simp only [decide_eq_false_iff_not]; omega
    have hb := blankTo_le s 0 (Nat.zero_le _)
    have hl := scanLoop s (by omega) (s.length + 1) false (blankTo s 0) 0 0 [] hb.2 (by omega) (Nat.zero_le _)
    have he : scanB (s.length + 1) (s.drop (blankTo s 0)) (blankTo s 0) = scanF s := by
      unfold scanF blankTo
      rw [List.drop_zero, Nat.zero_add]
    rw [he] at hl
    cases hs : scanF s with
    | error e =>
      obtain ⟨p, k⟩ := e
      rw [hs] at hl
      obtain ⟨w', v', m', l', hh⟩ := hl
      exact scanBad s hz (by omega) p k w' v' m' l' hh
    | ok ts =>
      rw [hs] at hl
      obtain ⟨hle, w', v', m', hh⟩ := hl
      exact scanGood s hz (by omega) w' v' m' _ (by rw [List.nil_append] at hle; omega) hh
end Go.Avm
