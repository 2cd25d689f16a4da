/-
  The scanner of texts, part L: the rounds of lex.Scan.
-/
import Derived.Test.YtkhcaamgjjhpeaaGreatDoorH09
import Derived.Test.YtkhcaamgjjhpeaaGreatDoorH07
import Derived.Test.YtkhcaamgjjhpeaaGreatDoorRows
import Derived.Laws.StandIn
import Derived.LaidMore
import Derived.LaidSub
import Derived.Lay
import Derived.MakeChecks
import Derived.ChangeMaps5
import Derived.Lib.LaidTab
import Derived.Stop.LaidErr
import Derived.ChangeSlices
import Derived.OpenShut
import Derived.Deep.Slices
set_option linter.unusedSectionVars false
namespace Go.Avm
open Go.Proofs
def scanB : Nat → List UInt8 → Nat → Except (Nat × Int) (List (Nat × Tok))
 | 0, _, _ => .ok []
 | _ + 1, [], _ => .ok []
 | n + 1, b :: r, a => match tokL (b :: r) with
  | .error k => .error (a, k)
  | .ok t => match scanB n (((b :: r).drop t.2.1.length).drop (skipN false ((b :: r).drop t.2.1.length))) (a + t.2.1.length + skipN false ((b :: r).drop t.2.1.length)) with
   | .error e => .error e
   | .ok ts => .ok ((a, t) :: ts)
def scanF (s : List UInt8) : Except (Nat × Int) (List (Nat × Tok)) := scanB (s.length + 1) (s.drop (skipN false s)) (skipN false s)
def tokOf (x : Nat × Tok) : D := tokD x.2.1 x.1 x.2.2.1 x.2.2.2
def scL (s : List UInt8) : List (Nat × AV) := [(0, .d (.str s)), (5, scP)]
section
variable (w w1 : Bool) (s : List UInt8) (a v m : Nat) (l : List D)
noncomputable def rdPr (ha : a < s.length) (a1 v1 m1 : Nat) (l1 : List D) (k : Int) (z : Bool) (hz : (k != 0) = z) (hlen : s.length ≤ 100000) (ha1 : a1 ≤ s.length) (hc : ∀ rest : Heap, HCall Pg 32 [scP] (ovl (stE w s a v m l) rest) [dI k] (ovl (stE w1 s a1 v1 m1 l1) rest)) : Par Pg :=
 { hint := fun f' i => if f' = 19 then (if i = 21 then some (qL ha) else if i = 27 then some (hB Pg _ z hz) else none) else none
   calls := fun f' i _ => if f' = 19 then (if i = 25 then some ⟨32, [scP], stE w s a v m l, [dI k], stE w1 s a1 v1 m1 l1, fits_of hc⟩ else if i = 23 then some (blankSt w1 s a1 v1 l1 hlen ha1) else none) else none }
theorem scanNext (ha : a < s.length) (a1 v1 m1 : Nat) (l1 : List D) (hlen : s.length ≤ 100000) (ha1 : a1 ≤ s.length) (hc : ∀ rest : Heap, HCall Pg 32 [scP] (ovl (stE w s a v m l) rest) [dI 0] (ovl (stE w1 s a1 v1 m1 l1) rest)) (rest : Heap) (X : Fix) (hP : X.P = Pg) (hN : X.N = 39) :
    AW X (lO 19 5) ⟨envOf (scL s), ovl (stE w s a v m l) rest⟩ fun e' S' => e' = .normal ∧ Weak X S' ⟨envOf (scL s), ovl (stE w1 s (blankTo s a1) v1 m1 l1) rest⟩ := by
 cases w with
 | false => cases w1 with
  | false => exact seg okP named (rdPr false false s a v m l ha a1 v1 m1 l1 0 false rfl hlen ha1 hc) 1000 19 300000 39 (by kernel_rfl) X hP hN
  | true => exact seg okP named (rdPr false true s a v m l ha a1 v1 m1 l1 0 false rfl hlen ha1 hc) 1000 19 300000 39 (by kernel_rfl) X hP hN
 | true => cases w1 with
  | false => exact seg okP named (rdPr true false s a v m l ha a1 v1 m1 l1 0 false rfl hlen ha1 hc) 1000 19 300000 39 (by kernel_rfl) X hP hN
  | true => exact seg okP named (rdPr true true s a v m l ha a1 v1 m1 l1 0 false rfl hlen ha1 hc) 1000 19 300000 39 (by kernel_rfl) X hP hN
theorem scanErr (ha : a < s.length) (m1 : Nat) (k : Int) (hk : k ≠ 0) (hlen : s.length ≤ 100000) (hc : ∀ rest : Heap, HCall Pg 32 [scP] (ovl (stE w s a v m l) rest) [dI k] (ovl (stE w1 s a v m1 l) rest)) (rest : Heap) (X : Fix) (hP : X.P = Pg) (hN : X.N = 39) :
    AW X (lO 19 5) ⟨envOf (scL s), ovl (stE w s a v m l) rest⟩ fun e' S' => e' = .ret ∧ Weak X S' ⟨envOf [(2, .nils), (3, dN a), (4, dI k)], ovl (stE w1 s a v m1 l) rest⟩ := by
 cases w with
 | false => cases w1 with
  | false => exact seg okP named (rdPr false false s a v m l ha a v m1 l k true (by simpa using hk) hlen (by omega) hc) 1000 19 300000 39 (by kernel_rfl) X hP hN
  | true => exact seg okP named (rdPr false true s a v m l ha a v m1 l k true (by simpa using hk) hlen (by omega) hc) 1000 19 300000 39 (by kernel_rfl) X hP hN
 | true => cases w1 with
  | false => exact seg okP named (rdPr true false s a v m l ha a v m1 l k true (by simpa using hk) hlen (by omega) hc) 1000 19 300000 39 (by kernel_rfl) X hP hN
  | true => exact seg okP named (rdPr true true s a v m l ha a v m1 l k true (by simpa using hk) hlen (by omega) hc) 1000 19 300000 39 (by kernel_rfl) X hP hN
theorem scanStop (rest : Heap) (X : Fix) (hP : X.P = Pg) (hN : X.N = 39) :
    AW X (lO 19 5) ⟨envOf (scL s), ovl (stE w s s.length v m l) rest⟩ fun e' S' => e' = .exit 0 ∧ Weak X S' ⟨envOf (scL s), ovl (stE w s s.length v m l) rest⟩ := by
 cases w with
 | false => exact seg okP named { hint := fun f' k => if f' = 19 then (if k = 21 then some (qG s.length) else none) else none } 1000 19 300000 39 (by kernel_rfl) X hP hN
 | true => exact seg okP named { hint := fun f' k => if f' = 19 then (if k = 21 then some (qG s.length) else none) else none } 1000 19 300000 39 (by kernel_rfl) X hP hN
end
end Go.Avm
namespace Go.Avm
open Go.Proofs
def LoopSays (w : Bool) (s : List UInt8) (a v m : Nat) (l : List D) : Except (Nat × Int) (List (Nat × Tok)) → Prop
 | .error (p, k) => ∃ w' v' m' l', RL 39 (lO 19 5) (scL s) (stE w s a v m l) .ret [(2, .nils), (3, dN p), (4, dI k)] (stE w' s p v' m' l')
 | .ok ts => (l ++ ts.map tokOf).length ≤ s.length ∧ ∃ w' v' m', RL 39 (lO 19 5) (scL s) (stE w s a v m l) (.exit 0) (scL s) (stE w' s s.length v' m' (l ++ ts.map tokOf))
theorem scanLoop (s : List UInt8) (hlen : s.length ≤ 100000) : ∀ (n : Nat) (w : Bool) (a v m : Nat) (l : List D), a ≤ s.length → s.length < n + a → l.length ≤ a → LoopSays w s a v m l (scanB n (s.drop a) a)
 | 0, w, a, v, m, l, h1, h2, _ => by omega
 | n + 1, w, a, v, m, l, h1, h2, h3 => by
  cases hr : s.drop a with
  | nil =>
   have : a = s.length := by have := List.drop_eq_nil_iff.1 hr; omega
   subst this
   refine ⟨by simpa [scanB] using h3, w, v, m, fun rest X hP hN => ?_⟩
   simp only [scanB, List.map_nil, List.append_nil]
   exact lw_end (scanStop w s v m l rest X hP hN) (by simp)
  | cons b r =>
   have ha : a < s.length := by
    rcases Nat.lt_or_ge a s.length with h | h
    ·exact h
    ·rw [List.drop_eq_nil_iff.2 h] at hr; cases hr
   have hn := nextC w s a v m l b r ha hr hlen (by omega)
   rw [scanB]
   cases ht : tokL (b :: r) with
   | error k =>
    rw [ht] at hn
    obtain ⟨w1, m1, hk, hc⟩ := hn
    exact ⟨w1, v, m1, l, fun rest X hP hN => lw_end (scanErr w w1 s a v m l ha m1 k hk hlen hc rest X hP hN) (by simp)⟩
   | ok t =>
    obtain ⟨kd, t, k⟩ := t
    rw [ht] at hn
    obtain ⟨w1, m1, hc⟩ := hn
    obtain ⟨hpre, hne⟩ := tokL_pre ht
    have hrl : (b :: r).length = s.length - a := by rw [← hr, List.length_drop]
    have htl := hpre.length_le
    have ht0 : 0 < t.length := List.length_pos_iff.2 hne
    have ha1 : a + t.length ≤ s.length := by omega
    have hd1 : s.drop (a + t.length) = (b :: r).drop t.length := by rw [← hr, List.drop_drop]
    have hb : blankTo s (a + t.length) = a + t.length + skipN false ((b :: r).drop t.length) := by rw [blankTo, hd1]
    have hd2 : s.drop (blankTo s (a + t.length)) = ((b :: r).drop t.length).drop (skipN false ((b :: r).drop t.length)) := by rw [hb, ← List.drop_drop, hd1]
    have hbl := blankTo_le s (a + t.length) ha1
    have ih := scanLoop s hlen n w1 (blankTo s (a + t.length)) (v + 1) m1 (l ++ [tokD kd a t k]) hbl.2 (by omega) (by rw [List.length_append, List.length_singleton]; omega)
    rw [hd2, hb] at ih
    show LoopSays w s a v m l (match scanB n (((b :: r).drop t.length).drop (skipN false ((b :: r).drop t.length))) (a + t.length + skipN false ((b :: r).drop t.length)) with
     | .error e => .error e
     | .ok ts => .ok ((a, (kd, t, k)) :: ts))
    have hstep := fun rest X hP hN => scanNext w w1 s a v m l ha (a + t.length) (v + 1) m1 (l ++ [tokD kd a t k]) hlen ha1 hc rest X hP hN
    rw [hb] at hstep
    cases hs : scanB n (((b :: r).drop t.length).drop (skipN false ((b :: r).drop t.length))) (a + t.length + skipN false ((b :: r).drop t.length)) with
    | error e =>
     obtain ⟨p, k'⟩ := e
     rw [hs] at ih
     obtain ⟨w', v', m', l', hh⟩ := ih
     exact ⟨w', v', m', l', fun rest X hP hN => lw_seg (hstep rest X hP hN) (hh rest X hP hN)⟩
    | ok ts =>
     rw [hs] at ih
     obtain ⟨hle, w', v', m', hh⟩ := ih
     have e : l ++ [tokD kd a t k] ++ ts.map tokOf = l ++ ((a, (kd, t, k)) :: ts).map tokOf := by simp [tokOf]
     rw [e] at hle hh
     exact ⟨hle, w', v', m', fun rest X hP hN => lw_seg (hstep rest X hP hN) (hh rest X hP hN)⟩
section
variable (s : List UInt8)
noncomputable def scPar (h : Option (LHint Pg)) (C : Option (CHint Pg)) (D : Option (CHint Pg)) (z : Bool) (hz : decide (20000 < (s.length : Int)) = z) : Par Pg :=
 { hint := fun f' k => if f' = 19 then (if k = 9 then some (hB Pg _ z hz) else none) else none
   nils := fun f' r => if f' = 19 then (if r = 4 then some { k := 324, i := 6, K := 1, sz := 4 } else none) else none
   calls := fun f' k _ => if f' = 19 then (if k = 14 then C else if k = 34 then D else none) else none
   loops := fun f' r => if f' = 19 then (if r = 5 then h else none) else none }
theorem scanLong (h : decide (20000 < (s.length : Int)) = true) : Pure Pg 19 [.str s] [.ro [], .int .i64 0, .int .i64 2] :=
 pure_of_run okP named (scPar s none none none true h) 1000 (by kernel_rfl)
noncomputable def scLH (w : Bool) (a v m : Nat) (l : List D) (e : AExit) (l' : List (Nat × AV)) (hp : List (Nat × Ent)) (h : RL 39 (lO 19 5) (scL s) (stE w s a v m l) e l' hp) : LHint Pg :=
 ⟨39, loopOf Pg 19 5, scL s, fun _ => stE w s a v m l, e, l', fun _ => hp, fun rest X hP hN => (h rest X hP hN).aw⟩
theorem scanBad (h : decide (20000 < (s.length : Int)) = false) (hlen : s.length ≤ 100000) (p : Nat) (k : Int) (w' : Bool) (v' m' : Nat) (l' : List D)
    (hl : RL 39 (lO 19 5) (scL s) (stE false s (blankTo s 0) 0 0 []) .ret [(2, .nils), (3, dN p), (4, dI k)] (stE w' s p v' m' l')) :
    Pure Pg 19 [.str s] [.ro [], .int .i64 (p : Int), .int .i64 k] := by
 cases w' with
 | false => exact pure_of_run okP named (scPar s (some (scLH s false (blankTo s 0) 0 0 [] _ _ _ hl)) (some (blankSt false s 0 0 [] hlen (Nat.zero_le _))) none false h) 1000 (by kernel_rfl)
 | true => exact pure_of_run okP named (scPar s (some (scLH s false (blankTo s 0) 0 0 [] _ _ _ hl)) (some (blankSt false s 0 0 [] hlen (Nat.zero_le _))) none false h) 1000 (by kernel_rfl)
theorem scanGood (h : decide (20000 < (s.length : Int)) = false) (hlen : s.length ≤ 100000) (w' : Bool) (v' m' : Nat) (l' : List D) (hl' : l'.length + 1 ≤ 549755813888)
    (hl : RL 39 (lO 19 5) (scL s) (stE false s (blankTo s 0) 0 0 []) (.exit 0) (scL s) (stE w' s s.length v' m' l')) :
    Pure Pg 19 [.str s] [.ro (l' ++ [tokD 0 s.length [] 0]), .int .i64 0, .int .i64 0] := by
 cases w' with
 | false => exact pure_of_run okP named (scPar s (some (scLH s false (blankTo s 0) 0 0 [] _ _ _ hl)) (some (blankSt false s 0 0 [] hlen (Nat.zero_le _))) (some (putCH false s s.length v' m' l' 0 0 [] hl' (by simp only [List.length_nil]; omega))) false h) 1000 (by kernel_rfl)
 | true => exact pure_of_run okP named (scPar s (some (scLH s false (blankTo s 0) 0 0 [] _ _ _ hl)) (some (blankSt false s 0 0 [] hlen (Nat.zero_le _))) (some (putCH true s s.length v' m' l' 0 0 [] hl' (by simp only [List.length_nil]; omega))) false h) 1000 (by kernel_rfl)
end
def scanRes (s : List UInt8) : List D × Int × Int :=
 if 20000 < s.length then ([], 0, 2) else match scanF s with
  | .error (p, k) => ([], p, k)
  | .ok ts => (ts.map tokOf ++ [tokD 0 s.length [] 0], 0, 0)
theorem scanC (s : List UInt8) : Pure Pg 19 [.str s] [.ro (scanRes s).1, .int .i64 (scanRes s).2.1, .int .i64 (scanRes s).2.2] := by
 unfold scanRes
 by_cases h : 20000 < s.length
 ·rw [if_pos h]
  exact scanLong s (by simp only [decide_eq_true_eq]; omega)
 ·rw [if_neg h]
  have hz : decide (20000 < (s.length : Int)) = false := by simp only [decide_eq_false_iff_not]; omega
  have hb := blankTo_le s 0 (Nat.zero_le _)
  have hl := scanLoop s (by omega) (s.length + 1) false (blankTo s 0) 0 0 [] hb.2 (by omega) (Nat.zero_le _)
  have he : scanB (s.length + 1) (s.drop (blankTo s 0)) (blankTo s 0) = scanF s := by
   unfold scanF blankTo
   rw [List.drop_zero, Nat.zero_add]
  rw [he] at hl
  cases hs : scanF s with
  | error e =>
   obtain ⟨p, k⟩ := e
   rw [hs] at hl
   obtain ⟨w', v', m', l', hh⟩ := hl
   exact scanBad s hz (by omega) p k w' v' m' l' hh
  | ok ts =>
   rw [hs] at hl
   obtain ⟨hle, w', v', m', hh⟩ := hl
   exact scanGood s hz (by omega) w' v' m' _ (by rw [List.nil_append] at hle; omega) hh
end Go.Avm
namespace Go.Avm
open Go.Proofs
theorem scanB_cons (n : Nat) (b : UInt8) (r : List UInt8) (a : Nat) : scanB (n + 1) (b :: r) a = match tokL (b :: r) with
    | .error k => .error (a, k)
    | .ok t => match scanB n (((b :: r).drop t.2.1.length).drop (skipN false ((b :: r).drop t.2.1.length))) (a + t.2.1.length + skipN false ((b :: r).drop t.2.1.length)) with
     | .error e => .error e
     | .ok ts => .ok ((a, t) :: ts) := rfl
theorem tokL_err {r : List UInt8} {k : Int} (h : tokL r = .error k) : k ≠ 0 := by
 cases r with
 | nil => simp only [tokL, Except.error.injEq] at h; omega
 | cons b r =>
  rw [tokL] at h
  repeat' split at h
  all_goals first
   | (cases h; done)
   | (simp only [Except.error.injEq] at h; omega)
theorem scanB_err : ∀ (n : Nat) (r : List UInt8) (a p : Nat) (k : Int), scanB n r a = .error (p, k) → k ≠ 0
 | 0, r, a, p, k, h => by cases h
 | n + 1, [], a, p, k, h => by cases h
 | n + 1, b :: r, a, p, k, h => by
  rw [scanB_cons] at h
  cases ht : tokL (b :: r) with
  | error k' =>
   rw [ht] at h
   simp only [Except.error.injEq, Prod.mk.injEq] at h
   obtain ⟨_, rfl⟩ := h
   exact tokL_err ht
  | ok t =>
   rw [ht] at h
   dsimp only at h
   split at h
   ·rename_i e he
    cases h
    exact scanB_err n _ _ p k he
   ·cases h
theorem scanB_len : ∀ (n : Nat) (r : List UInt8) (a : Nat) (ts : List (Nat × Tok)), scanB n r a = .ok ts → ts.length ≤ n
 | 0, r, a, ts, h => by cases h; exact Nat.le_refl _
 | n + 1, [], a, ts, h => by cases h; exact Nat.zero_le _
 | n + 1, b :: r, a, ts, h => by
  rw [scanB_cons] at h
  cases ht : tokL (b :: r) with
  | error k' => rw [ht] at h; cases h
  | ok t =>
   rw [ht] at h
   dsimp only at h
   split at h
   ·cases h
   ·rename_i ts1 hs
    cases h
    have := scanB_len n _ _ ts1 hs
    simp only [List.length_cons]; omega
theorem toks_mk (l : List T) (e : T) (he : e.k = 0) (hl : l.length + 1 < 1000000) : Toks (l ++ [e]) :=
 ⟨by simpa using hl, fun i x hx hk => by
  rw [List.length_append, List.length_singleton]
  rcases Nat.lt_or_ge i l.length with h | h
  ·omega
  ·rw [List.getElem?_append_right h] at hx
   cases hi : i - l.length with
   | zero =>
    rw [hi] at hx
    simp only [List.getElem?_cons_zero, Option.some.injEq] at hx
    rw [← hx, he] at hk
    exact absurd rfl hk
   | succ j => rw [hi] at hx; simp at hx⟩
def tkT (x : Nat × Tok) : T := ⟨x.2.1, (x.1 : Int), x.2.2.1, x.2.2.2⟩
def toksOf (ts : List (Nat × Tok)) (n : Nat) : List T := ts.map tkT ++ [⟨0, (n : Int), [], 0⟩]
theorem toksD_of (ts : List (Nat × Tok)) (n : Nat) : toksD (toksOf ts n) = .ro (ts.map tokOf ++ [tokD 0 n [] 0]) := by
 simp only [toksD, toksOf, List.map_append, List.map_map]
 rfl
theorem toksOf_ok {ts : List (Nat × Tok)} {n : Nat} (h : ts.length + 1 < 1000000) : Toks (toksOf ts n) := toks_mk _ _ rfl (by simpa using h)
theorem toksOf_pos (ts : List (Nat × Tok)) (n : Nat) : 0 < (toksOf ts n).length := by simp [toksOf]
def treeOf (ts : List (Nat × Tok)) (n : Nat) : Res (List Fn) := sProg (toksOf ts n) (fuel (toksOf ts n))
def parseRes (s : List UInt8) : List D :=
 if 20000 < s.length then [.agg [.ro []], .int .i64 0, .int .i64 2] else match scanF s with
  | .error (p, k) => [.agg [.ro []], .int .i64 (p : Int), .int .i64 k]
  | .ok ts => prOut (treeOf ts s.length)
theorem scanF_len {s : List UInt8} {ts : List (Nat × Tok)} (h : scanF s = .ok ts) : ts.length ≤ s.length + 1 := scanB_len _ _ _ _ h
theorem parsePure (s : List UInt8) : Pure Pg 9 [.str s] (parseRes s) := by
 have hs := scanC s
 unfold parseRes
 unfold scanRes at hs
 by_cases h : 20000 < s.length
 ·rw [if_pos h] at hs ⊢
  exact parseE (by decide) hs
 ·rw [if_neg h] at hs ⊢
  cases he : scanF s with
  | error e =>
   obtain ⟨p, k⟩ := e
   rw [he] at hs
   have hk := scanB_err _ _ _ _ _ he
   exact parseE (by simpa using hk) hs
  | ok ts =>
   rw [he] at hs
   have hl := scanF_len he
   have hok := toksOf_ok (ts := ts) (n := s.length) (by omega)
   exact parseC hok (toksOf_pos _ _) (by rw [toksD_of]; exact hs) _ (prog_no hok (toksOf_pos _ _))
end Go.Avm
namespace Go.Avm
open Go.Proofs
theorem scanB_step {n : Nat} {b : UInt8} {r : List UInt8} {a : Nat} {t : Tok} {r2 : List UInt8} {a2 : Nat} {ts : List (Nat × Tok)} (ht : tokL (b :: r) = .ok t) (hr : ((b :: r).drop t.2.1.length).drop (skipN false ((b :: r).drop t.2.1.length)) = r2) (ha : a + t.2.1.length + skipN false ((b :: r).drop t.2.1.length) = a2) (h : scanB n r2 a2 = .ok ts) : scanB (n + 1) (b :: r) a = .ok ((a, t) :: ts) := by
 rw [scanB_cons, ht]
 dsimp only
 rw [hr, ha, h]
def pT (c : UInt8) : Nat → List UInt8
 | 0 => []
 | k + 1 => pT c k ++ [c]
theorem pT_cons (c : UInt8) : ∀ k, pT c (k + 1) = c :: pT c k
 | 0 => rfl
 | k + 1 => congrArg (· ++ [c]) (pT_cons c k)
theorem pT_len (c : UInt8) : ∀ k, (pT c k).length = k
 | 0 => rfl
 | k + 1 => by rw [pT, List.length_append, pT_len c k]; rfl
def brk (c : UInt8) : Nat → Nat → List (Nat × Tok)
 | _, 0 => []
 | a, k + 1 => (a, (4, [c], 0)) :: brk c (a + 1) k
theorem brk_len (c : UInt8) : ∀ (k a : Nat), (brk c a k).length = k
 | 0, _ => rfl
 | k + 1, a => by rw [brk, List.length_cons, brk_len c k]
theorem brk_get (c : UInt8) : ∀ (k a j : Nat), j < k → (brk c a k)[j]? = some (a + j, (4, [c], 0))
 | 0, _, _, h => by omega
 | k + 1, a, 0, _ => rfl
 | k + 1, a, j + 1, h => by
  rw [brk, List.getElem?_cons_succ, brk_get c k (a + 1) j (by omega)]
  congr 2; omega
theorem scan_open (n : Nat) (r : List UInt8) (ts : List (Nat × Tok)) : ∀ k a : Nat, scanB n (55 :: r) (a + k) = .ok ts → scanB (n + k) (pT 40 k ++ 55 :: r) a = .ok (brk 40 a k ++ ts)
 | 0, a, h => h
 | k + 1, a, h => by
  have ih := scan_open n r ts k (a + 1) (by rw [← h]; congr 1; omega)
  rw [pT_cons]
  cases k with
  | zero => exact scanB_step (n := n + 0) (r := 55 :: r) (t := (4, [40], 0)) (r2 := 55 :: r) (a2 := a + 1) rfl rfl rfl ih
  | succ k =>
   rw [pT_cons] at ih ⊢
   exact scanB_step (n := n + (k + 1)) (r := 40 :: (pT 40 k ++ 55 :: r)) (t := (4, [40], 0)) (r2 := 40 :: (pT 40 k ++ 55 :: r)) (a2 := a + 1) rfl rfl rfl ih
theorem scan_shut59 (n : Nat) (r : List UInt8) (ts : List (Nat × Tok)) : ∀ k a : Nat, scanB n (59 :: r) (a + k) = .ok ts → scanB (n + k) (pT 41 k ++ 59 :: r) a = .ok (brk 41 a k ++ ts)
 | 0, a, h => h
 | k + 1, a, h => by
  have ih := scan_shut59 n r ts k (a + 1) (by rw [← h]; congr 1; omega)
  rw [pT_cons]
  cases k with
  | zero => exact scanB_step (n := n + 0) (r := 59 :: r) (t := (4, [41], 0)) (r2 := 59 :: r) (a2 := a + 1) rfl rfl rfl ih
  | succ k =>
   rw [pT_cons] at ih ⊢
   exact scanB_step (n := n + (k + 1)) (r := 41 :: (pT 41 k ++ 59 :: r)) (t := (4, [41], 0)) (r2 := 41 :: (pT 41 k ++ 59 :: r)) (a2 := a + 1) rfl rfl rfl ih
theorem scan_num59 (n : Nat) (r : List UInt8) (ts : List (Nat × Tok)) (k a : Nat) (h : scanB (n + k) (pT 41 k ++ 59 :: r) (a + 1) = .ok ts) : scanB (n + k + 1) (55 :: (pT 41 k ++ 59 :: r)) a = .ok ((a, (3, [55], 7)) :: ts) := by
 cases k with
 | zero => exact scanB_step (n := n + 0) (r := 59 :: r) (t := (3, [55], 7)) (r2 := 59 :: r) (a2 := a + 1) rfl rfl rfl h
 | succ k =>
  rw [pT_cons] at h ⊢
  exact scanB_step (n := n + (k + 1)) (r := 41 :: (pT 41 k ++ 59 :: r)) (t := (3, [55], 7)) (r2 := 41 :: (pT 41 k ++ 59 :: r)) (a2 := a + 1) rfl rfl rfl h
theorem scan_shut93 (n : Nat) (r : List UInt8) (ts : List (Nat × Tok)) : ∀ k a : Nat, scanB n (93 :: r) (a + k) = .ok ts → scanB (n + k) (pT 41 k ++ 93 :: r) a = .ok (brk 41 a k ++ ts)
 | 0, a, h => h
 | k + 1, a, h => by
  have ih := scan_shut93 n r ts k (a + 1) (by rw [← h]; congr 1; omega)
  rw [pT_cons]
  cases k with
  | zero => exact scanB_step (n := n + 0) (r := 93 :: r) (t := (4, [41], 0)) (r2 := 93 :: r) (a2 := a + 1) rfl rfl rfl ih
  | succ k =>
   rw [pT_cons] at ih ⊢
   exact scanB_step (n := n + (k + 1)) (r := 41 :: (pT 41 k ++ 93 :: r)) (t := (4, [41], 0)) (r2 := 41 :: (pT 41 k ++ 93 :: r)) (a2 := a + 1) rfl rfl rfl ih
theorem scan_num93 (n : Nat) (r : List UInt8) (ts : List (Nat × Tok)) (k a : Nat) (h : scanB (n + k) (pT 41 k ++ 93 :: r) (a + 1) = .ok ts) : scanB (n + k + 1) (55 :: (pT 41 k ++ 93 :: r)) a = .ok ((a, (3, [55], 7)) :: ts) := by
 cases k with
 | zero => exact scanB_step (n := n + 0) (r := 93 :: r) (t := (3, [55], 7)) (r2 := 93 :: r) (a2 := a + 1) rfl rfl rfl h
 | succ k =>
  rw [pT_cons] at h ⊢
  exact scanB_step (n := n + (k + 1)) (r := 41 :: (pT 41 k ++ 93 :: r)) (t := (3, [55], 7)) (r2 := 41 :: (pT 41 k ++ 93 :: r)) (a2 := a + 1) rfl rfl rfl h
theorem scan_preP40 (n : Nat) (r : List UInt8) (ts : List (Nat × Tok)) (h : scanB n (40 :: r) 24 = .ok ts) : scanB (n + 8) (102 :: 110 :: 32 :: 109 :: 97 :: 105 :: 110 :: 40 :: 41 :: 58 :: 32 :: 105 :: 110 :: 116 :: 32 :: 123 :: 32 :: 114 :: 101 :: 116 :: 117 :: 114 :: 110 :: 32 :: 40 :: r) 0 = .ok ([(0, (2, [102, 110], 0)), (3, (1, [109, 97, 105, 110], 0)), (7, (4, [40], 0)), (8, (4, [41], 0)), (9, (4, [58], 0)), (11, (2, [105, 110, 116], 0)), (15, (4, [123], 0)), (17, (2, [114, 101, 116, 117, 114, 110], 0))] ++ ts) := by
 refine scanB_step (t := (2, [102, 110], 0)) (r2 := 109 :: 97 :: 105 :: 110 :: 40 :: 41 :: 58 :: 32 :: 105 :: 110 :: 116 :: 32 :: 123 :: 32 :: 114 :: 101 :: 116 :: 117 :: 114 :: 110 :: 32 :: 40 :: r) (a2 := 3) rfl rfl rfl ?_
 refine scanB_step (t := (1, [109, 97, 105, 110], 0)) (r2 := 40 :: 41 :: 58 :: 32 :: 105 :: 110 :: 116 :: 32 :: 123 :: 32 :: 114 :: 101 :: 116 :: 117 :: 114 :: 110 :: 32 :: 40 :: r) (a2 := 7) rfl rfl rfl ?_
 refine scanB_step (t := (4, [40], 0)) (r2 := 41 :: 58 :: 32 :: 105 :: 110 :: 116 :: 32 :: 123 :: 32 :: 114 :: 101 :: 116 :: 117 :: 114 :: 110 :: 32 :: 40 :: r) (a2 := 8) rfl rfl rfl ?_
 refine scanB_step (t := (4, [41], 0)) (r2 := 58 :: 32 :: 105 :: 110 :: 116 :: 32 :: 123 :: 32 :: 114 :: 101 :: 116 :: 117 :: 114 :: 110 :: 32 :: 40 :: r) (a2 := 9) rfl rfl rfl ?_
 refine scanB_step (t := (4, [58], 0)) (r2 := 105 :: 110 :: 116 :: 32 :: 123 :: 32 :: 114 :: 101 :: 116 :: 117 :: 114 :: 110 :: 32 :: 40 :: r) (a2 := 11) rfl rfl rfl ?_
 refine scanB_step (t := (2, [105, 110, 116], 0)) (r2 := 123 :: 32 :: 114 :: 101 :: 116 :: 117 :: 114 :: 110 :: 32 :: 40 :: r) (a2 := 15) rfl rfl rfl ?_
 refine scanB_step (t := (4, [123], 0)) (r2 := 114 :: 101 :: 116 :: 117 :: 114 :: 110 :: 32 :: 40 :: r) (a2 := 17) rfl rfl rfl ?_
 refine scanB_step (t := (2, [114, 101, 116, 117, 114, 110], 0)) (r2 := 40 :: r) (a2 := 24) rfl rfl rfl ?_
 exact h
theorem scan_preP55 (n : Nat) (r : List UInt8) (ts : List (Nat × Tok)) (h : scanB n (55 :: r) 24 = .ok ts) : scanB (n + 8) (102 :: 110 :: 32 :: 109 :: 97 :: 105 :: 110 :: 40 :: 41 :: 58 :: 32 :: 105 :: 110 :: 116 :: 32 :: 123 :: 32 :: 114 :: 101 :: 116 :: 117 :: 114 :: 110 :: 32 :: 55 :: r) 0 = .ok ([(0, (2, [102, 110], 0)), (3, (1, [109, 97, 105, 110], 0)), (7, (4, [40], 0)), (8, (4, [41], 0)), (9, (4, [58], 0)), (11, (2, [105, 110, 116], 0)), (15, (4, [123], 0)), (17, (2, [114, 101, 116, 117, 114, 110], 0))] ++ ts) := by
 refine scanB_step (t := (2, [102, 110], 0)) (r2 := 109 :: 97 :: 105 :: 110 :: 40 :: 41 :: 58 :: 32 :: 105 :: 110 :: 116 :: 32 :: 123 :: 32 :: 114 :: 101 :: 116 :: 117 :: 114 :: 110 :: 32 :: 55 :: r) (a2 := 3) rfl rfl rfl ?_
 refine scanB_step (t := (1, [109, 97, 105, 110], 0)) (r2 := 40 :: 41 :: 58 :: 32 :: 105 :: 110 :: 116 :: 32 :: 123 :: 32 :: 114 :: 101 :: 116 :: 117 :: 114 :: 110 :: 32 :: 55 :: r) (a2 := 7) rfl rfl rfl ?_
 refine scanB_step (t := (4, [40], 0)) (r2 := 41 :: 58 :: 32 :: 105 :: 110 :: 116 :: 32 :: 123 :: 32 :: 114 :: 101 :: 116 :: 117 :: 114 :: 110 :: 32 :: 55 :: r) (a2 := 8) rfl rfl rfl ?_
 refine scanB_step (t := (4, [41], 0)) (r2 := 58 :: 32 :: 105 :: 110 :: 116 :: 32 :: 123 :: 32 :: 114 :: 101 :: 116 :: 117 :: 114 :: 110 :: 32 :: 55 :: r) (a2 := 9) rfl rfl rfl ?_
 refine scanB_step (t := (4, [58], 0)) (r2 := 105 :: 110 :: 116 :: 32 :: 123 :: 32 :: 114 :: 101 :: 116 :: 117 :: 114 :: 110 :: 32 :: 55 :: r) (a2 := 11) rfl rfl rfl ?_
 refine scanB_step (t := (2, [105, 110, 116], 0)) (r2 := 123 :: 32 :: 114 :: 101 :: 116 :: 117 :: 114 :: 110 :: 32 :: 55 :: r) (a2 := 15) rfl rfl rfl ?_
 refine scanB_step (t := (4, [123], 0)) (r2 := 114 :: 101 :: 116 :: 117 :: 114 :: 110 :: 32 :: 55 :: r) (a2 := 17) rfl rfl rfl ?_
 refine scanB_step (t := (2, [114, 101, 116, 117, 114, 110], 0)) (r2 := 55 :: r) (a2 := 24) rfl rfl rfl ?_
 exact h
theorem scan_postP (n a : Nat) : scanB (n + 1 + 2) [59, 32, 125] a = .ok [(a + 0, (4, [59], 0)), (a + 2, (4, [125], 0))] := by
 refine scanB_step (t := (4, [59], 0)) (r2 := 125 :: ([] : List UInt8)) (a2 := a + 2) rfl rfl rfl ?_
 refine scanB_step (t := (4, [125], 0)) (r2 := ([] : List UInt8)) (a2 := a + 3) rfl rfl rfl ?_
 rfl
def deepP (k : Nat) : List UInt8 := [102, 110, 32, 109, 97, 105, 110, 40, 41, 58, 32, 105, 110, 116, 32, 123, 32, 114, 101, 116, 117, 114, 110, 32] ++ pT 40 k ++ [55] ++ pT 41 k ++ [59, 32, 125]
def dTsP (k : Nat) : List (Nat × Tok) := [(0, (2, [102, 110], 0)), (3, (1, [109, 97, 105, 110], 0)), (7, (4, [40], 0)), (8, (4, [41], 0)), (9, (4, [58], 0)), (11, (2, [105, 110, 116], 0)), (15, (4, [123], 0)), (17, (2, [114, 101, 116, 117, 114, 110], 0))] ++ (brk 40 24 k ++ ((24 + k, (3, [55], 7)) :: (brk 41 (24 + k + 1) k ++ [((24 + k + 1 + k) + 0, (4, [59], 0)), ((24 + k + 1 + k) + 2, (4, [125], 0))])))
theorem deepP_len (k : Nat) : (deepP k).length = 2 * k + 28 := by
 simp only [deepP, List.length_append, List.length_cons, List.length_nil, pT_len]; omega
theorem scanP (k : Nat) : scanF (deepP k) = .ok (dTsP k) := by
 have h1 := scan_postP 17 (24 + k + 1 + k)
 have h2 := scan_shut59 _ _ _ k (24 + k + 1) h1
 have h3 := scan_num59 _ _ _ k (24 + k) h2
 have h4 := scan_open _ _ _ k 24 h3
 have e : deepP k = 102 :: 110 :: 32 :: 109 :: 97 :: 105 :: 110 :: 40 :: 41 :: 58 :: 32 :: 105 :: 110 :: 116 :: 32 :: 123 :: 32 :: 114 :: 101 :: 116 :: 117 :: 114 :: 110 :: 32 :: (pT 40 k ++ 55 :: (pT 41 k ++ [59, 32, 125])) := by
  simp only [deepP, List.append_assoc, List.cons_append, List.nil_append]
 have hl := deepP_len k
 unfold scanF dTsP
 rw [hl, e]
 have h0 : ∀ x : List UInt8, skipN false (102 :: x) = 0 := fun _ => rfl
 rw [h0, List.drop_zero]
 cases k with
 | zero => exact scan_preP55 _ _ _ h4
 | succ k =>
  rw [pT_cons 40] at h4 ⊢
  have h5 := scan_preP40 _ _ _ h4
  rw [show 2 * (k + 1) + 28 + 1 = 17 + 1 + 2 + (k + 1) + 1 + (k + 1) + 8 by omega]
  exact h5
theorem scan_preQ40 (n : Nat) (r : List UInt8) (ts : List (Nat × Tok)) (h : scanB n (40 :: r) 19 = .ok ts) : scanB (n + 9) (102 :: 110 :: 32 :: 109 :: 97 :: 105 :: 110 :: 40 :: 41 :: 58 :: 32 :: 105 :: 110 :: 116 :: 32 :: 123 :: 32 :: 97 :: 91 :: 40 :: r) 0 = .ok ([(0, (2, [102, 110], 0)), (3, (1, [109, 97, 105, 110], 0)), (7, (4, [40], 0)), (8, (4, [41], 0)), (9, (4, [58], 0)), (11, (2, [105, 110, 116], 0)), (15, (4, [123], 0)), (17, (1, [97], 0)), (18, (4, [91], 0))] ++ ts) := by
 refine scanB_step (t := (2, [102, 110], 0)) (r2 := 109 :: 97 :: 105 :: 110 :: 40 :: 41 :: 58 :: 32 :: 105 :: 110 :: 116 :: 32 :: 123 :: 32 :: 97 :: 91 :: 40 :: r) (a2 := 3) rfl rfl rfl ?_
 refine scanB_step (t := (1, [109, 97, 105, 110], 0)) (r2 := 40 :: 41 :: 58 :: 32 :: 105 :: 110 :: 116 :: 32 :: 123 :: 32 :: 97 :: 91 :: 40 :: r) (a2 := 7) rfl rfl rfl ?_
 refine scanB_step (t := (4, [40], 0)) (r2 := 41 :: 58 :: 32 :: 105 :: 110 :: 116 :: 32 :: 123 :: 32 :: 97 :: 91 :: 40 :: r) (a2 := 8) rfl rfl rfl ?_
 refine scanB_step (t := (4, [41], 0)) (r2 := 58 :: 32 :: 105 :: 110 :: 116 :: 32 :: 123 :: 32 :: 97 :: 91 :: 40 :: r) (a2 := 9) rfl rfl rfl ?_
 refine scanB_step (t := (4, [58], 0)) (r2 := 105 :: 110 :: 116 :: 32 :: 123 :: 32 :: 97 :: 91 :: 40 :: r) (a2 := 11) rfl rfl rfl ?_
 refine scanB_step (t := (2, [105, 110, 116], 0)) (r2 := 123 :: 32 :: 97 :: 91 :: 40 :: r) (a2 := 15) rfl rfl rfl ?_
 refine scanB_step (t := (4, [123], 0)) (r2 := 97 :: 91 :: 40 :: r) (a2 := 17) rfl rfl rfl ?_
 refine scanB_step (t := (1, [97], 0)) (r2 := 91 :: 40 :: r) (a2 := 18) rfl rfl rfl ?_
 refine scanB_step (t := (4, [91], 0)) (r2 := 40 :: r) (a2 := 19) rfl rfl rfl ?_
 exact h
theorem scan_preQ55 (n : Nat) (r : List UInt8) (ts : List (Nat × Tok)) (h : scanB n (55 :: r) 19 = .ok ts) : scanB (n + 9) (102 :: 110 :: 32 :: 109 :: 97 :: 105 :: 110 :: 40 :: 41 :: 58 :: 32 :: 105 :: 110 :: 116 :: 32 :: 123 :: 32 :: 97 :: 91 :: 55 :: r) 0 = .ok ([(0, (2, [102, 110], 0)), (3, (1, [109, 97, 105, 110], 0)), (7, (4, [40], 0)), (8, (4, [41], 0)), (9, (4, [58], 0)), (11, (2, [105, 110, 116], 0)), (15, (4, [123], 0)), (17, (1, [97], 0)), (18, (4, [91], 0))] ++ ts) := by
 refine scanB_step (t := (2, [102, 110], 0)) (r2 := 109 :: 97 :: 105 :: 110 :: 40 :: 41 :: 58 :: 32 :: 105 :: 110 :: 116 :: 32 :: 123 :: 32 :: 97 :: 91 :: 55 :: r) (a2 := 3) rfl rfl rfl ?_
 refine scanB_step (t := (1, [109, 97, 105, 110], 0)) (r2 := 40 :: 41 :: 58 :: 32 :: 105 :: 110 :: 116 :: 32 :: 123 :: 32 :: 97 :: 91 :: 55 :: r) (a2 := 7) rfl rfl rfl ?_
 refine scanB_step (t := (4, [40], 0)) (r2 := 41 :: 58 :: 32 :: 105 :: 110 :: 116 :: 32 :: 123 :: 32 :: 97 :: 91 :: 55 :: r) (a2 := 8) rfl rfl rfl ?_
 refine scanB_step (t := (4, [41], 0)) (r2 := 58 :: 32 :: 105 :: 110 :: 116 :: 32 :: 123 :: 32 :: 97 :: 91 :: 55 :: r) (a2 := 9) rfl rfl rfl ?_
 refine scanB_step (t := (4, [58], 0)) (r2 := 105 :: 110 :: 116 :: 32 :: 123 :: 32 :: 97 :: 91 :: 55 :: r) (a2 := 11) rfl rfl rfl ?_
 refine scanB_step (t := (2, [105, 110, 116], 0)) (r2 := 123 :: 32 :: 97 :: 91 :: 55 :: r) (a2 := 15) rfl rfl rfl ?_
 refine scanB_step (t := (4, [123], 0)) (r2 := 97 :: 91 :: 55 :: r) (a2 := 17) rfl rfl rfl ?_
 refine scanB_step (t := (1, [97], 0)) (r2 := 91 :: 55 :: r) (a2 := 18) rfl rfl rfl ?_
 refine scanB_step (t := (4, [91], 0)) (r2 := 55 :: r) (a2 := 19) rfl rfl rfl ?_
 exact h
theorem scan_postQ (n a : Nat) : scanB (n + 1 + 5) [93, 32, 61, 32, 49, 59, 32, 125] a = .ok [(a + 0, (4, [93], 0)), (a + 2, (4, [61], 0)), (a + 4, (3, [49], 1)), (a + 5, (4, [59], 0)), (a + 7, (4, [125], 0))] := by
 refine scanB_step (t := (4, [93], 0)) (r2 := 61 :: 32 :: 49 :: 59 :: 32 :: 125 :: ([] : List UInt8)) (a2 := a + 2) rfl rfl rfl ?_
 refine scanB_step (t := (4, [61], 0)) (r2 := 49 :: 59 :: 32 :: 125 :: ([] : List UInt8)) (a2 := a + 4) rfl rfl rfl ?_
 refine scanB_step (t := (3, [49], 1)) (r2 := 59 :: 32 :: 125 :: ([] : List UInt8)) (a2 := a + 5) rfl rfl rfl ?_
 refine scanB_step (t := (4, [59], 0)) (r2 := 125 :: ([] : List UInt8)) (a2 := a + 7) rfl rfl rfl ?_
 refine scanB_step (t := (4, [125], 0)) (r2 := ([] : List UInt8)) (a2 := a + 8) rfl rfl rfl ?_
 rfl
def deepQ (k : Nat) : List UInt8 := [102, 110, 32, 109, 97, 105, 110, 40, 41, 58, 32, 105, 110, 116, 32, 123, 32, 97, 91] ++ pT 40 k ++ [55] ++ pT 41 k ++ [93, 32, 61, 32, 49, 59, 32, 125]
def dTsQ (k : Nat) : List (Nat × Tok) := [(0, (2, [102, 110], 0)), (3, (1, [109, 97, 105, 110], 0)), (7, (4, [40], 0)), (8, (4, [41], 0)), (9, (4, [58], 0)), (11, (2, [105, 110, 116], 0)), (15, (4, [123], 0)), (17, (1, [97], 0)), (18, (4, [91], 0))] ++ (brk 40 19 k ++ ((19 + k, (3, [55], 7)) :: (brk 41 (19 + k + 1) k ++ [((19 + k + 1 + k) + 0, (4, [93], 0)), ((19 + k + 1 + k) + 2, (4, [61], 0)), ((19 + k + 1 + k) + 4, (3, [49], 1)), ((19 + k + 1 + k) + 5, (4, [59], 0)), ((19 + k + 1 + k) + 7, (4, [125], 0))])))
theorem deepQ_len (k : Nat) : (deepQ k).length = 2 * k + 28 := by
 simp only [deepQ, List.length_append, List.length_cons, List.length_nil, pT_len]; omega
theorem scanQ (k : Nat) : scanF (deepQ k) = .ok (dTsQ k) := by
 have h1 := scan_postQ 13 (19 + k + 1 + k)
 have h2 := scan_shut93 _ _ _ k (19 + k + 1) h1
 have h3 := scan_num93 _ _ _ k (19 + k) h2
 have h4 := scan_open _ _ _ k 19 h3
 have e : deepQ k = 102 :: 110 :: 32 :: 109 :: 97 :: 105 :: 110 :: 40 :: 41 :: 58 :: 32 :: 105 :: 110 :: 116 :: 32 :: 123 :: 32 :: 97 :: 91 :: (pT 40 k ++ 55 :: (pT 41 k ++ [93, 32, 61, 32, 49, 59, 32, 125])) := by
  simp only [deepQ, List.append_assoc, List.cons_append, List.nil_append]
 have hl := deepQ_len k
 unfold scanF dTsQ
 rw [hl, e]
 have h0 : ∀ x : List UInt8, skipN false (102 :: x) = 0 := fun _ => rfl
 rw [h0, List.drop_zero]
 cases k with
 | zero => exact scan_preQ55 _ _ _ h4
 | succ k =>
  rw [pT_cons 40] at h4 ⊢
  have h5 := scan_preQ40 _ _ _ h4
  rw [show 2 * (k + 1) + 28 + 1 = 13 + 1 + 5 + (k + 1) + 1 + (k + 1) + 9 by omega]
  exact h5
end Go.Avm
namespace Go.Avm
open Go.Proofs
section
variable {L : List T} {s : RS} {p v : Int} {x : List UInt8}
theorem isT_at (h : cur L s = ⟨4, p, x, v⟩) (y : List UInt8) : isT L s y = (x == y) := by
 unfold isT; rw [h]; rfl
theorem w64_id {x : Int} (h1 : -2000 ≤ x) (h2 : x ≤ 2000) : w64 x = x := IntWalk.i64_in _ (by omega)
theorem want_at (h : cur L s = ⟨4, p, x, v⟩) (h1 : (x == [40] || x == [91] || x == [123]) = false) (h2 : (x == [41] || x == [93] || x == [125]) = false) : sWant L x s = .ok ⟨4, p, x, v⟩ s.nx := by
 unfold sWant
 rw [isT_at h, h1, h2, h]
 simp
theorem want_shut (h : cur L s = ⟨4, p, x, v⟩) (h1 : (x == [40] || x == [91] || x == [123]) = false) (h2 : (x == [41] || x == [93] || x == [125]) = true) (ho : -100 ≤ s.op ∧ s.op ≤ 1000) : sWant L x s = .ok ⟨4, p, x, v⟩ ⟨s.i + 1, s.op - 1, s.n⟩ := by
 unfold sWant
 rw [isT_at h, h1, h2, h, w64_id (x := s.op - 1) (by omega) (by omega)]
 simp
theorem want_open (h : cur L s = ⟨4, p, x, v⟩) (h1 : (x == [40] || x == [91] || x == [123]) = true) (ho : 0 ≤ s.op ∧ s.op ≤ 200) : sWant L x s = bif decide (200 < s.op + 1) then .bad p 5 ⟨s.i, s.op + 1, s.n⟩ else .ok ⟨4, p, x, v⟩ ⟨s.i + 1, s.op + 1, s.n⟩ := by
 unfold sWant
 rw [isT_at h, h1, h, w64_id (by omega) (by omega)]
 simp
theorem stop_sign {c : UInt8} (h : cur L s = ⟨4, p, [c], v⟩) (hc : c = 41 ∨ c = 59 ∨ c = 93) (k : Int) : sSign L k s = (0, 0) := by
 have hi := isT_at h
 unfold sSign signs
 rcases hc with rfl | rfl | rfl <;> simp only [signOf, hi] <;> simp
end
theorem deepE {L : List T} : ∀ (m i p : Nat) (o q p7 : Int) (N : Nat), 0 ≤ o → o ≤ 200 → (∀ j, j < m → L.getD (i + j) default = ⟨4, ((p + j : Nat) : Int), [40], 0⟩) → (∃ t v, L.getD (i + m) default = ⟨3, p7, t, v⟩) → (∀ j, j < m → ∃ pl, L.getD (i + m + 1 + j) default = ⟨4, pl, [41], 0⟩) →
    (∃ pl c, L.getD (i + 2 * m + 1) default = ⟨4, pl, [c], 0⟩ ∧ (c = 41 ∨ c = 59 ∨ c = 93)) → 4 * m + 4 ≤ N →
    (o + (m : Int) ≤ 200 → ∃ v, sExpr L N 1 ⟨i, o, q⟩ = .ok (.mk 1 0 [] v p7 []) ⟨i + 2 * m + 1, o, q⟩) ∧ (200 < o + (m : Int) → ∃ s', sExpr L N 1 ⟨i, o, q⟩ = .bad ((p : Int) + (200 - o)) 5 s')
 | 0, i, p, o, q, p7, N, h0, h200, _, h7, _, he, hN => by
  obtain ⟨N, rfl⟩ : ∃ x, N = x + 2 := ⟨N - 2, by omega⟩
  obtain ⟨t, v, h7⟩ := h7
  obtain ⟨pl, c, he, hc⟩ := he
  have hcur : cur L ⟨i, o, q⟩ = ⟨3, p7, t, v⟩ := h7
  have hT : ∀ x, isT L ⟨i, o, q⟩ x = false := fun x => by unfold isT; rw [hcur]; rfl
  have hs := stop_sign (L := L) (s := ⟨i + 1, o, q⟩) he hc 1
  refine ⟨fun _ => ⟨v, ?_⟩, fun h => by omega⟩
  simp only [sExpr, sOne, sMay, hT, cond_false, Res.bind, hcur]
  have : ((3 : Int) == 3) = true := rfl
  simp only [this, cond_true, RS.nx, sTail, hs]
  rfl
 | m + 1, i, p, o, q, p7, N, h0, h200, ho, h7, hsh, he, hN => by
  obtain ⟨N, rfl⟩ : ∃ x, N = x + 3 := ⟨N - 3, by omega⟩
  obtain ⟨pl, c, he, hc⟩ := he
  have hcur : cur L ⟨i, o, q⟩ = ⟨4, ((p : Nat) : Int), [40], 0⟩ := ho 0 (by omega)
  have hT := isT_at hcur
  have hw := want_open hcur rfl ⟨h0, h200⟩
  dsimp only at hw
  have one : sOne L (N + 2) ⟨i, o, q⟩ = (sWant L [40] ⟨i, o, q⟩).bind fun _ s2 => (sExpr L (N + 1) 1 s2).bind fun e s3 => (sWant L [41] s3).bind fun _ s4 => .ok e s4 := by
   have f : ∀ y : List UInt8, ([40] == y) = false → isT L ⟨i, o, q⟩ y = false := fun y hy => (hT y).trans hy
   have t : isT L ⟨i, o, q⟩ [40] = true := (hT _).trans rfl
   have k3 : ((4 : Int) == 3) = false := rfl
   simp only [sOne, sMay, f [45] rfl, f [126] rfl, f [33] rfl, f [116, 114, 117, 101] rfl, f [102, 97, 108, 115, 101] rfl, f [114, 101, 97, 100] rfl, f [108, 101, 110] rfl, cond_false, Res.bind, hcur, k3, t, cond_true]
  have ex : sExpr L (N + 3) 1 ⟨i, o, q⟩ = (sOne L (N + 2) ⟨i, o, q⟩).bind fun e s1 => sTail L (N + 2) 1 e s1 := by simp only [sExpr]
  simp only [ex, one, hw]
  by_cases h1 : o = 200
  ·subst h1
   refine ⟨fun h => by omega, fun _ => ⟨⟨i, 200 + 1, q⟩, ?_⟩⟩
   simp
   rfl
  ·have d : decide (200 < o + 1) = false := by simp; omega
   obtain ⟨ih1, ih2⟩ := deepE m (i + 1) (p + 1) (o + 1) q p7 (N + 1) (by omega) (by omega) (fun j hj => by have := ho (j + 1) (by omega); rw [show i + (j + 1) = i + 1 + j by omega, show p + (j + 1) = p + 1 + j by omega] at this; exact this) (by rw [show i + 1 + m = i + (m + 1) by omega]; exact h7)
    (fun j hj => by have := hsh j (by omega); rw [show i + 1 + m + 1 + j = i + (m + 1) + 1 + j by omega]; exact this)
    (by obtain ⟨pl2, h2⟩ := hsh m (by omega); exact ⟨pl2, 41, by rw [show i + 1 + 2 * m + 1 = i + (m + 1) + 1 + m by omega]; exact h2, .inl rfl⟩) (by omega)
   simp only [d, cond_false, Res.bind]
   refine ⟨fun h => ?_, fun h => ?_⟩
   ·obtain ⟨v, e⟩ := ih1 (by omega)
    obtain ⟨pl2, h2⟩ := hsh m (by omega)
    have h2 : cur L ⟨i + 1 + 2 * m + 1, o + 1, q⟩ = ⟨4, pl2, [41], 0⟩ := by rw [show i + (m + 1) + 1 + m = i + 1 + 2 * m + 1 by omega] at h2; exact h2
    have hw2 := want_shut h2 rfl rfl ⟨by show -100 ≤ o + 1; omega, by show o + 1 ≤ 1000; omega⟩
    dsimp only at hw2
    refine ⟨v, ?_⟩
    have he : cur L ⟨i + 1 + 2 * m + 1 + 1, o, q⟩ = ⟨4, pl, [c], 0⟩ := by rw [show i + 2 * (m + 1) + 1 = i + 1 + 2 * m + 1 + 1 by omega] at he; exact he
    have hs := stop_sign he hc 1
    simp only [e, hw2]
    rw [show (o + 1 - 1 : Int) = o by omega]
    simp only [sTail, hs]
    rw [show i + 2 * (m + 1) + 1 = i + 1 + 2 * m + 1 + 1 by omega]
    rfl
   ·obtain ⟨s', e⟩ := ih2 (by omega)
    refine ⟨s', ?_⟩
    simp only [e]
    congr 1
    omega
theorem toks_get {ts : List (Nat × Tok)} {n j : Nat} {x : Nat × Tok} (h : ts[j]? = some x) : (toksOf ts n).getD j default = tkT x := by
 have hj : j < ts.length := (List.getElem?_eq_some_iff.1 h).1
 simp only [toksOf, List.getD_eq_getElem?_getD]
 rw [List.getElem?_append_left (by simpa using hj), List.getElem?_map, h]
 rfl
theorem toks_end (ts : List (Nat × Tok)) (n : Nat) : (toksOf ts n).getD ts.length default = ⟨0, (n : Int), [], 0⟩ := by
 simp only [toksOf, List.getD_eq_getElem?_getD]
 rw [List.getElem?_append_right (by simp)]
 simp
section
variable (P Q : List (Nat × Tok)) (x : Nat × Tok) (a b k : Nat)
abbrev dpT : List (Nat × Tok) := P ++ (brk 40 a k ++ (x :: (brk 41 b k ++ Q)))
theorem dp_open (j : Nat) (h : j < k) : (dpT P Q x a b k)[P.length + j]? = some (a + j, (4, [40], 0)) := by
 rw [dpT, List.getElem?_append_right (by omega), Nat.add_sub_cancel_left, List.getElem?_append_left (by rw [brk_len]; exact h), brk_get _ _ _ _ h]
theorem dp_num : (dpT P Q x a b k)[P.length + k]? = some x := by
 rw [dpT, List.getElem?_append_right (by omega), Nat.add_sub_cancel_left, List.getElem?_append_right (by rw [brk_len]; omega), brk_len, Nat.sub_self]
 rfl
theorem dp_shut (j : Nat) (h : j < k) : (dpT P Q x a b k)[P.length + k + 1 + j]? = some (b + j, (4, [41], 0)) := by
 rw [dpT, List.getElem?_append_right (by omega), List.getElem?_append_right (by rw [brk_len]; omega), brk_len, show P.length + k + 1 + j - P.length - k = j + 1 by omega, List.getElem?_cons_succ, List.getElem?_append_left (by rw [brk_len]; exact h), brk_get _ _ _ _ h]
theorem dp_post (j : Nat) : (dpT P Q x a b k)[P.length + 2 * k + 1 + j]? = Q[j]? := by
 rw [dpT, List.getElem?_append_right (by omega), List.getElem?_append_right (by rw [brk_len]; omega), brk_len, show P.length + 2 * k + 1 + j - P.length - k = k + j + 1 by omega, List.getElem?_cons_succ, List.getElem?_append_right (by rw [brk_len]; omega), brk_len, Nat.add_sub_cancel_left]
theorem dp_len : (dpT P Q x a b k).length = P.length + 2 * k + 1 + Q.length := by
 simp only [dpT, List.length_append, List.length_cons, brk_len]; omega
end
end Go.Avm
namespace Go.Avm
open Go.Proofs
theorem stmts_stop {L : List T} {n : Nat} {l : List St'} {s : RS} (h : isT L s [125] = true) : sStmts L (n + 1) l s = .ok l s := by
 rw [sStmts, h]; rfl
theorem fns_stop {L : List T} {N n : Nat} {l : List Fn} {s : RS} (h : (cur L s).k = 0) : sFns L N (n + 1) l s = .ok l s := by
 rw [sFns, h]; rfl
def pP : List (Nat × Tok) := [(0, (2, [102, 110], 0)), (3, (1, [109, 97, 105, 110], 0)), (7, (4, [40], 0)), (8, (4, [41], 0)), (9, (4, [58], 0)), (11, (2, [105, 110, 116], 0)), (15, (4, [123], 0)), (17, (2, [114, 101, 116, 117, 114, 110], 0))]
def dGP (L : List T) (m : Nat) (r : Res Ex) : Res (List Fn) := ((((r.bind fun e s2 => (sWant L [59] s2).bind fun _ s3 => .ok (.mk 6 1 [] 0 0 17 [e] [] []) s3).bind fun x s1 => sStmts L (m + 58) ([] ++ [x]) s1).bind fun l s2 => (sWant L [125] s2).bind fun _ s3 => .ok l s3).bind fun l s6 => .ok ⟨[109, 97, 105, 110], [], 1, l, 0⟩ s6).bind fun f s1 => sFns L (m + 60) (m + 60) [f] s1
theorem dGoPo (A : Nat) (R : List (Nat × Tok)) (n m : Nat) : sProg (toksOf (pP ++ ((A, (4, [40], 0)) :: R)) n) (m + 60) = dGP (toksOf (pP ++ ((A, (4, [40], 0)) :: R)) n) m (sExpr (toksOf (pP ++ ((A, (4, [40], 0)) :: R)) n) (m + 57) 1 ⟨8, 1, 1⟩) := by kernel_rfl
theorem dGoPn (A : Nat) (R : List (Nat × Tok)) (n m : Nat) : sProg (toksOf (pP ++ ((A, (3, [55], 7)) :: R)) n) (m + 60) = dGP (toksOf (pP ++ ((A, (3, [55], 7)) :: R)) n) m (sExpr (toksOf (pP ++ ((A, (3, [55], 7)) :: R)) n) (m + 57) 1 ⟨8, 1, 1⟩) := by kernel_rfl
theorem dGoP' (k n m : Nat) : sProg (toksOf (dTsP k) n) (m + 60) = dGP (toksOf (dTsP k) n) m (sExpr (toksOf (dTsP k) n) (m + 57) 1 ⟨8, 1, 1⟩) := by
 cases k with
 | zero => exact dGoPn _ _ n m
 | succ k => exact dGoPo _ _ n m
theorem dReadP (k n : Nat) (m : Nat) (hm : 4 * k ≤ m) :
    (k ≤ 199 → ∃ v, sExpr (toksOf (dTsP k) n) (m + 57) 1 ⟨8, 1, 1⟩ = .ok (.mk 1 0 [] v ((24 + k : Nat) : Int) []) ⟨8 + 2 * k + 1, 1, 1⟩) ∧ (199 < k → ∃ s', sExpr (toksOf (dTsP k) n) (m + 57) 1 ⟨8, 1, 1⟩ = .bad 223 5 s') := by
 have h := deepE (L := (toksOf (dTsP k) n)) k 8 24 1 1 ((24 + k : Nat) : Int) (m + 57) (by decide) (by decide)
  (fun j hj => toks_get (dp_open pP _ _ _ _ k j hj)) ⟨_, _, toks_get (dp_num pP _ _ _ _ k)⟩ (fun j hj => ⟨_, toks_get (dp_shut pP _ _ _ _ k j hj)⟩)
  ⟨((24 + k + 1 + k + 0 : Nat) : Int), 59, toks_get (dp_post pP [((24 + k + 1 + k) + 0, (4, [59], 0)), ((24 + k + 1 + k) + 2, (4, [125], 0))] _ _ _ k 0), .inr (.inl rfl)⟩ (by omega)
 exact ⟨fun hk => h.1 (by omega), fun hk => by
  obtain ⟨s', e⟩ := h.2 (by omega)
  exact ⟨s', e.trans rfl⟩⟩
theorem dOkP {L : List T} {m : Nat} {e : Ex} {s s1 s2 s3 s4 : RS} {a0 a1 : T} {l : List St'} {r : List Fn} (w0 : sWant L [59] s = .ok a0 s1) (hS : sStmts L (m + 58) [.mk 6 1 [] 0 0 17 [e] [] []] s1 = .ok l s2) (w1 : sWant L [125] s2 = .ok a1 s3) (hF : sFns L (m + 60) (m + 60) [⟨[109, 97, 105, 110], [], 1, l, 0⟩] s3 = .ok r s4) : dGP L m (.ok e s) = .ok r s4 := by
 simp only [dGP, Res.bind, w0, List.nil_append, hS, w1, hF]
theorem dEndP (k n m : Nat) (hn : 40 ≤ m) (v p : Int) : ∃ l s', dGP (toksOf (dTsP k) n) m (.ok (.mk 1 0 [] v p []) ⟨8 + 2 * k + 1, 1, 1⟩) = .ok [⟨[109, 97, 105, 110], [], 1, [.mk 6 1 [] 0 0 17 (.mk 1 0 [] v p [] :: l) [] []], 0⟩] s' := by
 obtain ⟨m, rfl⟩ : ∃ x, m = x + 1 := ⟨m - 1, by omega⟩
 have t0 : (toksOf (dTsP k) n).getD (8 + 2 * k + 1 + 0) default = ⟨4, ((24 + k + 1 + k + 0 : Nat) : Int), [59], 0⟩ := toks_get (dp_post pP [((24 + k + 1 + k) + 0, (4, [59], 0)), ((24 + k + 1 + k) + 2, (4, [125], 0))] _ _ _ k 0)
 have t1 : (toksOf (dTsP k) n).getD (8 + 2 * k + 1 + 1) default = ⟨4, ((24 + k + 1 + k + 2 : Nat) : Int), [125], 0⟩ := toks_get (dp_post pP [((24 + k + 1 + k) + 0, (4, [59], 0)), ((24 + k + 1 + k) + 2, (4, [125], 0))] _ _ _ k 1)
 have te : (toksOf (dTsP k) n).getD (8 + 2 * k + 1 + 2) default = ⟨0, (n : Int), [], 0⟩ := by
  have := toks_end (dTsP k) n
  rw [show (dTsP k).length = 8 + 2 * k + 1 + 2 from dp_len pP _ _ _ _ k] at this
  exact this
 have w0 := want_at (s := ⟨8 + 2 * k + 1, 1, 1⟩) t0 rfl rfl
 have i1 := isT_at (s := ⟨8 + 2 * k + 1 + 1, 1, 1⟩) t1 [125]
 have w1 := want_shut (s := ⟨8 + 2 * k + 1 + 1, 1, 1⟩) t1 rfl rfl ⟨by simp, by simp⟩
 have e2 : cur (toksOf (dTsP k) n) ⟨8 + 2 * k + 1 + 1 + 1, 0, 1⟩ = ⟨0, (n : Int), [], 0⟩ := te
 exact ⟨[], _, dOkP w0 (stmts_stop (n := m + 58) i1) w1 (fns_stop (n := m + 60) (congrArg T.k e2))⟩
theorem deepP_parse (k : Nat) (hk : k < 260) : (k ≤ 199 → ∃ (v p : Int) (l : List Ex), Pure Pg 9 [.str (deepP k)] [.agg [.ro (([⟨[109, 97, 105, 110], [], 1, [.mk 6 1 [] 0 0 17 (.mk 1 0 [] v p [] :: l) [] []], 0⟩] : List Fn).map fnD)], .int .i64 0, .int .i64 0]) ∧
    (199 < k → Pure Pg 9 [.str (deepP k)] [.agg [.ro []], .int .i64 223, .int .i64 5]) := by
 have hl := deepP_len k
 have hsc := scanC (deepP k)
 unfold scanRes at hsc
 rw [if_neg (by omega), scanP k] at hsc
 have hlen : (dTsP k).length = 8 + 2 * k + 1 + 2 := dp_len pP _ _ _ _ k
 have hok := toksOf_ok (ts := dTsP k) (n := (deepP k).length) (by omega)
 have hp := parseC hok (toksOf_pos _ _) (by rw [toksD_of]; exact hsc) (4 * k + 40 + 60)
 have hd := dReadP k (deepP k).length (4 * k + 40) (by omega)
 refine ⟨fun h => ?_, fun h => ?_⟩
 ·obtain ⟨v, e⟩ := hd.1 h
  obtain ⟨l, s', e2⟩ := dEndP k (deepP k).length (4 * k + 40) (by omega) v ((24 + k : Nat) : Int)
  have e3 := (dGoP' k (deepP k).length (4 * k + 40)).trans ((congrArg _ e).trans e2)
  rw [e3] at hp
  exact ⟨v, _, l, hp (fun h => by cases h)⟩
 ·obtain ⟨s', e⟩ := hd.2 h
  have e3 := (dGoP' k (deepP k).length (4 * k + 40)).trans (congrArg _ e)
  rw [e3] at hp
  exact hp (fun h => by cases h)
def pQ : List (Nat × Tok) := [(0, (2, [102, 110], 0)), (3, (1, [109, 97, 105, 110], 0)), (7, (4, [40], 0)), (8, (4, [41], 0)), (9, (4, [58], 0)), (11, (2, [105, 110, 116], 0)), (15, (4, [123], 0)), (17, (1, [97], 0)), (18, (4, [91], 0))]
def dGQ (L : List T) (m : Nat) (r : Res Ex) : Res (List Fn) := ((((((r.bind fun e s2 => (sWant L [93] s2).bind fun _ s3 => .ok e s3).bind fun e s3 => (sWant L [61] s3).bind fun _ s4 => (sExpr L (m + 57) 1 s4).bind fun f s5 => (sWant L [59] s5).bind fun _ s6 => .ok (.mk 3 1 [97] 0 0 17 [e, f] [] []) s6).bind fun x s2 => .ok x s2).bind fun x s1 => sStmts L (m + 58) ([] ++ [x]) s1).bind fun l s2 => (sWant L [125] s2).bind fun _ s3 => .ok l s3).bind fun l s6 => .ok ⟨[109, 97, 105, 110], [], 1, l, 0⟩ s6).bind fun f s1 => sFns L (m + 60) (m + 60) [f] s1
theorem dGoQ (R : List (Nat × Tok)) (n m : Nat) : sProg (toksOf (pQ ++ R) n) (m + 60) = dGQ (toksOf (pQ ++ R) n) m (sExpr (toksOf (pQ ++ R) n) (m + 56) 1 ⟨9, 2, 1⟩) := by kernel_rfl
theorem dGoQ' (k n m : Nat) : sProg (toksOf (dTsQ k) n) (m + 60) = dGQ (toksOf (dTsQ k) n) m (sExpr (toksOf (dTsQ k) n) (m + 56) 1 ⟨9, 2, 1⟩) := by
 exact dGoQ _ n m
theorem dReadQ (k n : Nat) (m : Nat) (hm : 4 * k ≤ m) :
    (k ≤ 198 → ∃ v, sExpr (toksOf (dTsQ k) n) (m + 56) 1 ⟨9, 2, 1⟩ = .ok (.mk 1 0 [] v ((19 + k : Nat) : Int) []) ⟨9 + 2 * k + 1, 2, 1⟩) ∧ (198 < k → ∃ s', sExpr (toksOf (dTsQ k) n) (m + 56) 1 ⟨9, 2, 1⟩ = .bad 217 5 s') := by
 have h := deepE (L := (toksOf (dTsQ k) n)) k 9 19 2 1 ((19 + k : Nat) : Int) (m + 56) (by decide) (by decide)
  (fun j hj => toks_get (dp_open pQ _ _ _ _ k j hj)) ⟨_, _, toks_get (dp_num pQ _ _ _ _ k)⟩ (fun j hj => ⟨_, toks_get (dp_shut pQ _ _ _ _ k j hj)⟩)
  ⟨((19 + k + 1 + k + 0 : Nat) : Int), 93, toks_get (dp_post pQ [((19 + k + 1 + k) + 0, (4, [93], 0)), ((19 + k + 1 + k) + 2, (4, [61], 0)), ((19 + k + 1 + k) + 4, (3, [49], 1)), ((19 + k + 1 + k) + 5, (4, [59], 0)), ((19 + k + 1 + k) + 7, (4, [125], 0))] _ _ _ k 0), .inr (.inr rfl)⟩ (by omega)
 exact ⟨fun hk => h.1 (by omega), fun hk => by
  obtain ⟨s', e⟩ := h.2 (by omega)
  exact ⟨s', e.trans rfl⟩⟩
theorem dOkQ {L : List T} {m : Nat} {e f : Ex} {s sa sb sc s1 s2 s3 s4 : RS} {a0 a1 a2 a3 : T} {l : List St'} {r : List Fn} (w0 : sWant L [93] s = .ok a0 sa) (w1 : sWant L [61] sa = .ok a1 sb) (x2 : sExpr L (m + 57) 1 sb = .ok f sc) (w3 : sWant L [59] sc = .ok a2 s1) (hS : sStmts L (m + 58) [.mk 3 1 [97] 0 0 17 [e, f] [] []] s1 = .ok l s2) (w4 : sWant L [125] s2 = .ok a3 s3) (hF : sFns L (m + 60) (m + 60) [⟨[109, 97, 105, 110], [], 1, l, 0⟩] s3 = .ok r s4) : dGQ L m (.ok e s) = .ok r s4 := by
 simp only [dGQ, Res.bind, w0, w1, x2, w3, List.nil_append, hS, w4, hF]
theorem dEndQ (k n m : Nat) (hn : 40 ≤ m) (v p : Int) : ∃ l s', dGQ (toksOf (dTsQ k) n) m (.ok (.mk 1 0 [] v p []) ⟨9 + 2 * k + 1, 2, 1⟩) = .ok [⟨[109, 97, 105, 110], [], 1, [.mk 3 1 [97] 0 0 17 (.mk 1 0 [] v p [] :: l) [] []], 0⟩] s' := by
 obtain ⟨m, rfl⟩ : ∃ x, m = x + 1 := ⟨m - 1, by omega⟩
 have t0 : (toksOf (dTsQ k) n).getD (9 + 2 * k + 1 + 0) default = ⟨4, ((19 + k + 1 + k + 0 : Nat) : Int), [93], 0⟩ := toks_get (dp_post pQ [((19 + k + 1 + k) + 0, (4, [93], 0)), ((19 + k + 1 + k) + 2, (4, [61], 0)), ((19 + k + 1 + k) + 4, (3, [49], 1)), ((19 + k + 1 + k) + 5, (4, [59], 0)), ((19 + k + 1 + k) + 7, (4, [125], 0))] _ _ _ k 0)
 have t1 : (toksOf (dTsQ k) n).getD (9 + 2 * k + 1 + 1) default = ⟨4, ((19 + k + 1 + k + 2 : Nat) : Int), [61], 0⟩ := toks_get (dp_post pQ [((19 + k + 1 + k) + 0, (4, [93], 0)), ((19 + k + 1 + k) + 2, (4, [61], 0)), ((19 + k + 1 + k) + 4, (3, [49], 1)), ((19 + k + 1 + k) + 5, (4, [59], 0)), ((19 + k + 1 + k) + 7, (4, [125], 0))] _ _ _ k 1)
 have t2 : (toksOf (dTsQ k) n).getD (9 + 2 * k + 1 + 2) default = ⟨3, ((19 + k + 1 + k + 4 : Nat) : Int), [49], 1⟩ := toks_get (dp_post pQ [((19 + k + 1 + k) + 0, (4, [93], 0)), ((19 + k + 1 + k) + 2, (4, [61], 0)), ((19 + k + 1 + k) + 4, (3, [49], 1)), ((19 + k + 1 + k) + 5, (4, [59], 0)), ((19 + k + 1 + k) + 7, (4, [125], 0))] _ _ _ k 2)
 have t3 : (toksOf (dTsQ k) n).getD (9 + 2 * k + 1 + 3) default = ⟨4, ((19 + k + 1 + k + 5 : Nat) : Int), [59], 0⟩ := toks_get (dp_post pQ [((19 + k + 1 + k) + 0, (4, [93], 0)), ((19 + k + 1 + k) + 2, (4, [61], 0)), ((19 + k + 1 + k) + 4, (3, [49], 1)), ((19 + k + 1 + k) + 5, (4, [59], 0)), ((19 + k + 1 + k) + 7, (4, [125], 0))] _ _ _ k 3)
 have t4 : (toksOf (dTsQ k) n).getD (9 + 2 * k + 1 + 4) default = ⟨4, ((19 + k + 1 + k + 7 : Nat) : Int), [125], 0⟩ := toks_get (dp_post pQ [((19 + k + 1 + k) + 0, (4, [93], 0)), ((19 + k + 1 + k) + 2, (4, [61], 0)), ((19 + k + 1 + k) + 4, (3, [49], 1)), ((19 + k + 1 + k) + 5, (4, [59], 0)), ((19 + k + 1 + k) + 7, (4, [125], 0))] _ _ _ k 4)
 have te : (toksOf (dTsQ k) n).getD (9 + 2 * k + 1 + 5) default = ⟨0, (n : Int), [], 0⟩ := by
  have := toks_end (dTsQ k) n
  rw [show (dTsQ k).length = 9 + 2 * k + 1 + 5 from dp_len pQ _ _ _ _ k] at this
  exact this
 have w0 := want_shut (s := ⟨9 + 2 * k + 1, 2, 1⟩) t0 rfl rfl ⟨by simp, by simp⟩
 have w1 := want_at (s := ⟨9 + 2 * k + 1 + 1, 1, 1⟩) t1 rfl rfl
 have x2 := (deepE (L := (toksOf (dTsQ k) n)) 0 (9 + 2 * k + 1 + 1 + 1) 0 1 1 _ (m + 1 + 57) (by decide) (by decide) (fun j hj => absurd hj (by omega)) ⟨_, _, t2⟩ (fun j hj => absurd hj (by omega)) ⟨_, 59, t3, .inr (.inl rfl)⟩ (by omega)).1 (by decide)
 obtain ⟨v2, x2⟩ := x2
 have w3 := want_at (s := ⟨9 + 2 * k + 1 + 1 + 1 + 2 * 0 + 1, 1, 1⟩) t3 rfl rfl
 have i4 := isT_at (s := ⟨9 + 2 * k + 1 + 1 + 1 + 2 * 0 + 1 + 1, 1, 1⟩) t4 [125]
 have w4 := want_shut (s := ⟨9 + 2 * k + 1 + 1 + 1 + 2 * 0 + 1 + 1, 1, 1⟩) t4 rfl rfl ⟨by simp, by simp⟩
 have e5 : cur (toksOf (dTsQ k) n) ⟨9 + 2 * k + 1 + 1 + 1 + 2 * 0 + 1 + 1 + 1, 0, 1⟩ = ⟨0, (n : Int), [], 0⟩ := te
 exact ⟨_, _, dOkQ w0 w1 x2 w3 (stmts_stop (n := m + 58) i4) w4 (fns_stop (n := m + 60) (congrArg T.k e5))⟩
theorem deepQ_parse (k : Nat) (hk : k < 260) : (k ≤ 198 → ∃ (v p : Int) (l : List Ex), Pure Pg 9 [.str (deepQ k)] [.agg [.ro (([⟨[109, 97, 105, 110], [], 1, [.mk 3 1 [97] 0 0 17 (.mk 1 0 [] v p [] :: l) [] []], 0⟩] : List Fn).map fnD)], .int .i64 0, .int .i64 0]) ∧
    (198 < k → Pure Pg 9 [.str (deepQ k)] [.agg [.ro []], .int .i64 217, .int .i64 5]) := by
 have hl := deepQ_len k
 have hsc := scanC (deepQ k)
 unfold scanRes at hsc
 rw [if_neg (by omega), scanQ k] at hsc
 have hlen : (dTsQ k).length = 9 + 2 * k + 1 + 5 := dp_len pQ _ _ _ _ k
 have hok := toksOf_ok (ts := dTsQ k) (n := (deepQ k).length) (by omega)
 have hp := parseC hok (toksOf_pos _ _) (by rw [toksD_of]; exact hsc) (4 * k + 40 + 60)
 have hd := dReadQ k (deepQ k).length (4 * k + 40) (by omega)
 refine ⟨fun h => ?_, fun h => ?_⟩
 ·obtain ⟨v, e⟩ := hd.1 h
  obtain ⟨l, s', e2⟩ := dEndQ k (deepQ k).length (4 * k + 40) (by omega) v ((19 + k : Nat) : Int)
  have e3 := (dGoQ' k (deepQ k).length (4 * k + 40)).trans ((congrArg _ e).trans e2)
  rw [e3] at hp
  exact ⟨v, _, l, hp (fun h => by cases h)⟩
 ·obtain ⟨s', e⟩ := hd.2 h
  have e3 := (dGoQ' k (deepQ k).length (4 * k + 40)).trans (congrArg _ e)
  rw [e3] at hp
  exact hp (fun h => by cases h)
end Go.Avm
namespace Go.Avm
open Go.Proofs
set_option maxRecDepth 100000 in
theorem awP1 : Pure Pg 9 [.str [102, 110, 32, 109, 97, 105, 110, 40, 41, 58, 32, 105, 110, 116, 32, 123, 32, 114, 101, 116, 117, 114, 110, 32, 49, 32, 43, 32, 50, 32, 42, 32, 51, 59, 32, 125]] [.agg [.ro [.agg [.str [109, 97, 105, 110], .ro [], .int .u8 1, .ro [.agg [.int .u8 6, .int .i64 1, .str [], .int .u8 0, .int .i64 0, .int .i64 17, .ro [.agg [.int .u8 9, .int .u8 1, .str [], .int .i64 0, .int .i64 26, .ro [.agg [.int .u8 1, .int .u8 0, .str [], .int .i64 1, .int .i64 24, .ro []], .agg [.int .u8 9, .int .u8 3, .str [], .int .i64 0, .int .i64 30, .ro [.agg [.int .u8 1, .int .u8 0, .str [], .int .i64 2, .int .i64 28, .ro []], .agg [.int .u8 1, .int .u8 0, .str [], .int .i64 3, .int .i64 32, .ro []]]]]]], .ro [], .ro []]], .int .i64 0]]], .int .i64 0, .int .i64 0] := by
 have h := parsePure [102, 110, 32, 109, 97, 105, 110, 40, 41, 58, 32, 105, 110, 116, 32, 123, 32, 114, 101, 116, 117, 114, 110, 32, 49, 32, 43, 32, 50, 32, 42, 32, 51, 59, 32, 125]
 rw [show parseRes [102, 110, 32, 109, 97, 105, 110, 40, 41, 58, 32, 105, 110, 116, 32, 123, 32, 114, 101, 116, 117, 114, 110, 32, 49, 32, 43, 32, 50, 32, 42, 32, 51, 59, 32, 125] = [.agg [.ro [.agg [.str [109, 97, 105, 110], .ro [], .int .u8 1, .ro [.agg [.int .u8 6, .int .i64 1, .str [], .int .u8 0, .int .i64 0, .int .i64 17, .ro [.agg [.int .u8 9, .int .u8 1, .str [], .int .i64 0, .int .i64 26, .ro [.agg [.int .u8 1, .int .u8 0, .str [], .int .i64 1, .int .i64 24, .ro []], .agg [.int .u8 9, .int .u8 3, .str [], .int .i64 0, .int .i64 30, .ro [.agg [.int .u8 1, .int .u8 0, .str [], .int .i64 2, .int .i64 28, .ro []], .agg [.int .u8 1, .int .u8 0, .str [], .int .i64 3, .int .i64 32, .ro []]]]]]], .ro [], .ro []]], .int .i64 0]]], .int .i64 0, .int .i64 0] by kernel_rfl] at h
 exact h
set_option maxRecDepth 100000 in
theorem awP2 : Pure Pg 9 [.str [102, 110, 32, 102, 40, 32]] [.agg [.ro []], .int .i64 6, .int .i64 4] := by
 have h := parsePure [102, 110, 32, 102, 40, 32]
 rw [show parseRes [102, 110, 32, 102, 40, 32] = [.agg [.ro []], .int .i64 6, .int .i64 4] by kernel_rfl] at h
 exact h
set_option maxRecDepth 100000 in
theorem awP3 : Pure Pg 9 [.str [102, 110, 32, 109, 97, 105, 110, 40, 41, 58, 32, 105, 110, 116, 32, 123, 32, 114, 101, 116, 117, 114, 110, 32, 40, 49, 32, 45, 32, 50, 41, 32, 45, 32, 40, 51, 32, 45, 32, 52, 41, 59, 32, 125]] [.agg [.ro [.agg [.str [109, 97, 105, 110], .ro [], .int .u8 1, .ro [.agg [.int .u8 6, .int .i64 1, .str [], .int .u8 0, .int .i64 0, .int .i64 17, .ro [.agg [.int .u8 9, .int .u8 2, .str [], .int .i64 0, .int .i64 32, .ro [.agg [.int .u8 9, .int .u8 2, .str [], .int .i64 0, .int .i64 27, .ro [.agg [.int .u8 1, .int .u8 0, .str [], .int .i64 1, .int .i64 25, .ro []], .agg [.int .u8 1, .int .u8 0, .str [], .int .i64 2, .int .i64 29, .ro []]]], .agg [.int .u8 9, .int .u8 2, .str [], .int .i64 0, .int .i64 37, .ro [.agg [.int .u8 1, .int .u8 0, .str [], .int .i64 3, .int .i64 35, .ro []], .agg [.int .u8 1, .int .u8 0, .str [], .int .i64 4, .int .i64 39, .ro []]]]]]], .ro [], .ro []]], .int .i64 0]]], .int .i64 0, .int .i64 0] := by
 have h := parsePure [102, 110, 32, 109, 97, 105, 110, 40, 41, 58, 32, 105, 110, 116, 32, 123, 32, 114, 101, 116, 117, 114, 110, 32, 40, 49, 32, 45, 32, 50, 41, 32, 45, 32, 40, 51, 32, 45, 32, 52, 41, 59, 32, 125]
 rw [show parseRes [102, 110, 32, 109, 97, 105, 110, 40, 41, 58, 32, 105, 110, 116, 32, 123, 32, 114, 101, 116, 117, 114, 110, 32, 40, 49, 32, 45, 32, 50, 41, 32, 45, 32, 40, 51, 32, 45, 32, 52, 41, 59, 32, 125] = [.agg [.ro [.agg [.str [109, 97, 105, 110], .ro [], .int .u8 1, .ro [.agg [.int .u8 6, .int .i64 1, .str [], .int .u8 0, .int .i64 0, .int .i64 17, .ro [.agg [.int .u8 9, .int .u8 2, .str [], .int .i64 0, .int .i64 32, .ro [.agg [.int .u8 9, .int .u8 2, .str [], .int .i64 0, .int .i64 27, .ro [.agg [.int .u8 1, .int .u8 0, .str [], .int .i64 1, .int .i64 25, .ro []], .agg [.int .u8 1, .int .u8 0, .str [], .int .i64 2, .int .i64 29, .ro []]]], .agg [.int .u8 9, .int .u8 2, .str [], .int .i64 0, .int .i64 37, .ro [.agg [.int .u8 1, .int .u8 0, .str [], .int .i64 3, .int .i64 35, .ro []], .agg [.int .u8 1, .int .u8 0, .str [], .int .i64 4, .int .i64 39, .ro []]]]]]], .ro [], .ro []]], .int .i64 0]]], .int .i64 0, .int .i64 0] by kernel_rfl] at h
 exact h
end Go.Avm
namespace Go.Avm
open Go.Proofs
set_option maxRecDepth 100000 in
theorem awS1 : Pure Pg 25 [.agg [.ro [.agg [.str [109, 97, 105, 110], .ro [], .int .u8 1, .ro [.agg [.int .u8 6, .int .i64 1, .str [], .int .u8 0, .int .i64 0, .int .i64 17, .ro [.agg [.int .u8 9, .int .u8 1, .str [], .int .i64 0, .int .i64 26, .ro [.agg [.int .u8 1, .int .u8 0, .str [], .int .i64 1, .int .i64 24, .ro []], .agg [.int .u8 9, .int .u8 3, .str [], .int .i64 0, .int .i64 30, .ro [.agg [.int .u8 1, .int .u8 0, .str [], .int .i64 2, .int .i64 28, .ro []], .agg [.int .u8 1, .int .u8 0, .str [], .int .i64 3, .int .i64 32, .ro []]]]]]], .ro [], .ro []]], .int .i64 0]]]] [.str [102, 110, 32, 109, 97, 105, 110, 40, 41, 58, 32, 105, 110, 116, 32, 123, 10, 32, 32, 114, 101, 116, 117, 114, 110, 32, 49, 32, 43, 32, 50, 32, 42, 32, 51, 59, 10, 125, 10]] :=
 pure_of_exec okP named (fun _ _ => false) (fun g => g == 9) 100000 (by kernel_rfl)
set_option maxRecDepth 100000 in
theorem awS3 : Pure Pg 25 [.agg [.ro [.agg [.str [109, 97, 105, 110], .ro [], .int .u8 1, .ro [.agg [.int .u8 6, .int .i64 1, .str [], .int .u8 0, .int .i64 0, .int .i64 17, .ro [.agg [.int .u8 9, .int .u8 2, .str [], .int .i64 0, .int .i64 32, .ro [.agg [.int .u8 9, .int .u8 2, .str [], .int .i64 0, .int .i64 27, .ro [.agg [.int .u8 1, .int .u8 0, .str [], .int .i64 1, .int .i64 25, .ro []], .agg [.int .u8 1, .int .u8 0, .str [], .int .i64 2, .int .i64 29, .ro []]]], .agg [.int .u8 9, .int .u8 2, .str [], .int .i64 0, .int .i64 37, .ro [.agg [.int .u8 1, .int .u8 0, .str [], .int .i64 3, .int .i64 35, .ro []], .agg [.int .u8 1, .int .u8 0, .str [], .int .i64 4, .int .i64 39, .ro []]]]]]], .ro [], .ro []]], .int .i64 0]]]] [.str [102, 110, 32, 109, 97, 105, 110, 40, 41, 58, 32, 105, 110, 116, 32, 123, 10, 32, 32, 114, 101, 116, 117, 114, 110, 32, 49, 32, 45, 32, 50, 32, 45, 32, 40, 51, 32, 45, 32, 52, 41, 59, 10, 125, 10]] :=
 pure_of_exec okP named (fun _ _ => false) (fun g => g == 9) 100000 (by kernel_rfl)
set_option maxRecDepth 100000 in
theorem awake02 : Pure Pg 11 [] [.bool true] :=
 pure_of_run okP named { hint := qT 11 [(11, .call 9 _ _ awP1), (16, .call 9 _ _ awP2), (21, .call 9 _ _ awP3), (35, .call 25 _ _ awS1), (52, .call 25 _ _ awS3)] } 2000 (by kernel_rfl)
end Go.Avm
namespace Go.Avm
open Go.Proofs
def hUd (P : Program) (k : IntKind) (x y : Int) (h : x = y) : Hint P := .val (.d (.int k x)) (.d (.int k y)) (by rw [h])
def dpL (c k j : Nat) : List (Nat × AV) := [(1, .d (.int .u8 (c : Int))), (5, dN k), (6, .d (.str (pT 40 j))), (7, .d (.str (pT 41 j))), (18, dN k), (19, dN j)]
section
variable (c k j : Nat)
theorem dpStop : RE 85 (lO 4 6) (dpL c k k) ([]) (.exit 0) ([(1, .d (.int .u8 (c : Int))), (5, dN k), (6, .d (.str (pT 40 k))), (7, .d (.str (pT 41 k)))]) ([]) :=
 qE { hint := qT 4 [(20, qG k)] } 4 3000
theorem dpGo (hk : k < 1000) (hj : j < k) : RE 85 (lO 4 6) (dpL c k j) ([]) .normal (dpL c k (j + 1)) ([]) :=
 qE { hint := qT 4 [(20, qL hj), (22, .cat (pT 40 j) [40] (by rw [pT_len, List.length_singleton]; omega)), (24, .cat (pT 41 j) [41] (by rw [pT_len, List.length_singleton]; omega)), (25, hSucc Pg j (by omega))] } 4 3000
end
theorem dpLoop (c k : Nat) (hk : k < 1000) : ∀ m j : Nat, j + m = k → RL 85 (lO 4 6) (dpL c k j) ([]) (.exit 0) ([(1, .d (.int .u8 (c : Int))), (5, dN k), (6, .d (.str (pT 40 k))), (7, .d (.str (pT 41 k)))]) ([])
 | 0, j, h => by
  obtain rfl : j = k := by omega
  exact fun rest X hP hN => lw_stop (dpStop c j rest X hP hN) (by simp)
 | m + 1, j, h => by
  have g := dpLoop c k hk m (j + 1) (by omega)
  exact fun rest X hP hN => lw_step (dpGo c k j hk (by omega) rest X hP hN) (g rest X hP hN)
noncomputable def dpLH {c k : Nat} (h : RL 85 (lO 4 6) (dpL c k 0) ([]) (.exit 0) ([(1, .d (.int .u8 (c : Int))), (5, dN k), (6, .d (.str (pT 40 k))), (7, .d (.str (pT 41 k)))]) ([])) : LHint Pg :=
 ⟨85, loopOf Pg 4 6, dpL c k 0, fun _ => [], .exit 0, [(1, .d (.int .u8 (c : Int))), (5, dN k), (6, .d (.str (pT 40 k))), (7, .d (.str (pT 41 k)))], fun _ => [], fun rest X hP hN => (h rest X hP hN).aw⟩
section
variable {n c k : Nat} (hn : n < 65536) (hc : c < 256) (hk : n % 260 = k) (hk2 : k < 260) (h : RL 85 (lO 4 6) (dpL c k 0) ([]) (.exit 0) ([(1, .d (.int .u8 (c : Int))), (5, dN k), (6, .d (.str (pT 40 k))), (7, .d (.str (pT 41 k)))]) ([]))
include hn hc hk hk2 h
theorem dpBadP (hb : c % 2 = 0) (hg : decide (199 < (k : Int)) = true) (hp : Pure Pg 9 [.str (deepP k)] [.agg [.ro []], .int .i64 223, .int .i64 5]) : Pure Pg 4 [.int .u16 (n : Int), .int .u8 (c : Int)] [.bool true] :=
 qV { loops := fun f q => if f = 4 then (if q = 6 then some (dpLH h) else none) else none, hint := qT 4 [(13, .call 11 _ _ awake02), (16, hUd Pg .i64 (IntKind.i64.wrap (n : Int)) (n : Int) (by rw [IntWalk.i64_in _ (by omega)])), (17, hUd Pg .i64 ((n : Int).tmod 260) (k : Int) (by rw [Int.tmod_eq_emod_of_nonneg (by omega)]; omega)), (27, .cat [102, 110, 32, 109, 97, 105, 110, 40, 41, 58, 32, 105, 110, 116, 32, 123, 32, 114, 101, 116, 117, 114, 110, 32] (pT 40 k) (by simp only [List.length_append, List.length_cons, List.length_nil, pT_len]; omega)), (28, .cat ([102, 110, 32, 109, 97, 105, 110, 40, 41, 58, 32, 105, 110, 116, 32, 123, 32, 114, 101, 116, 117, 114, 110, 32] ++ pT 40 k) [55] (by simp only [List.length_append, List.length_cons, List.length_nil, pT_len]; omega)), (30, .cat ([102, 110, 32, 109, 97, 105, 110, 40, 41, 58, 32, 105, 110, 116, 32, 123, 32, 114, 101, 116, 117, 114, 110, 32] ++ pT 40 k ++ [55]) (pT 41 k) (by simp only [List.length_append, List.length_cons, List.length_nil, pT_len]; omega)), (31, .cat ([102, 110, 32, 109, 97, 105, 110, 40, 41, 58, 32, 105, 110, 116, 32, 123, 32, 114, 101, 116, 117, 114, 110, 32] ++ pT 40 k ++ [55] ++ pT 41 k) [59, 32, 125] (by simp only [List.length_append, List.length_cons, List.length_nil, pT_len]; omega)), (33, hUd Pg .u8 ((c : Int).tmod 2) (0 : Int) (by rw [Int.tmod_eq_emod_of_nonneg (by omega)]; omega)), (43, .call 9 _ _ hp), (49, qB hg), (57, hUd Pg .u8 ((c : Int).tmod 2) (0 : Int) (by rw [Int.tmod_eq_emod_of_nonneg (by omega)]; omega))] } 1000
theorem dpOkP (hb : c % 2 = 0) (hg : decide (199 < (k : Int)) = false) {v p : Int} {l : List Ex} (hp : Pure Pg 9 [.str (deepP k)] [.agg [.ro (([⟨[109, 97, 105, 110], [], 1, [.mk 6 1 [] 0 0 17 (.mk 1 0 [] v p [] :: l) [] []], 0⟩] : List Fn).map fnD)], .int .i64 0, .int .i64 0]) : Pure Pg 4 [.int .u16 (n : Int), .int .u8 (c : Int)] [.bool true] :=
 qV { loops := fun f q => if f = 4 then (if q = 6 then some (dpLH h) else none) else none, hint := qT 4 [(13, .call 11 _ _ awake02), (16, hUd Pg .i64 (IntKind.i64.wrap (n : Int)) (n : Int) (by rw [IntWalk.i64_in _ (by omega)])), (17, hUd Pg .i64 ((n : Int).tmod 260) (k : Int) (by rw [Int.tmod_eq_emod_of_nonneg (by omega)]; omega)), (27, .cat [102, 110, 32, 109, 97, 105, 110, 40, 41, 58, 32, 105, 110, 116, 32, 123, 32, 114, 101, 116, 117, 114, 110, 32] (pT 40 k) (by simp only [List.length_append, List.length_cons, List.length_nil, pT_len]; omega)), (28, .cat ([102, 110, 32, 109, 97, 105, 110, 40, 41, 58, 32, 105, 110, 116, 32, 123, 32, 114, 101, 116, 117, 114, 110, 32] ++ pT 40 k) [55] (by simp only [List.length_append, List.length_cons, List.length_nil, pT_len]; omega)), (30, .cat ([102, 110, 32, 109, 97, 105, 110, 40, 41, 58, 32, 105, 110, 116, 32, 123, 32, 114, 101, 116, 117, 114, 110, 32] ++ pT 40 k ++ [55]) (pT 41 k) (by simp only [List.length_append, List.length_cons, List.length_nil, pT_len]; omega)), (31, .cat ([102, 110, 32, 109, 97, 105, 110, 40, 41, 58, 32, 105, 110, 116, 32, 123, 32, 114, 101, 116, 117, 114, 110, 32] ++ pT 40 k ++ [55] ++ pT 41 k) [59, 32, 125] (by simp only [List.length_append, List.length_cons, List.length_nil, pT_len]; omega)), (33, hUd Pg .u8 ((c : Int).tmod 2) (0 : Int) (by rw [Int.tmod_eq_emod_of_nonneg (by omega)]; omega)), (43, .call 9 _ _ hp), (49, qB hg)] } 1000
theorem dpBadQ (hb : c % 2 = 1) (hg : decide (198 < (k : Int)) = true) (hp : Pure Pg 9 [.str (deepQ k)] [.agg [.ro []], .int .i64 217, .int .i64 5]) : Pure Pg 4 [.int .u16 (n : Int), .int .u8 (c : Int)] [.bool true] :=
 qV { loops := fun f q => if f = 4 then (if q = 6 then some (dpLH h) else none) else none, hint := qT 4 [(13, .call 11 _ _ awake02), (16, hUd Pg .i64 (IntKind.i64.wrap (n : Int)) (n : Int) (by rw [IntWalk.i64_in _ (by omega)])), (17, hUd Pg .i64 ((n : Int).tmod 260) (k : Int) (by rw [Int.tmod_eq_emod_of_nonneg (by omega)]; omega)), (27, .cat [102, 110, 32, 109, 97, 105, 110, 40, 41, 58, 32, 105, 110, 116, 32, 123, 32, 114, 101, 116, 117, 114, 110, 32] (pT 40 k) (by simp only [List.length_append, List.length_cons, List.length_nil, pT_len]; omega)), (28, .cat ([102, 110, 32, 109, 97, 105, 110, 40, 41, 58, 32, 105, 110, 116, 32, 123, 32, 114, 101, 116, 117, 114, 110, 32] ++ pT 40 k) [55] (by simp only [List.length_append, List.length_cons, List.length_nil, pT_len]; omega)), (30, .cat ([102, 110, 32, 109, 97, 105, 110, 40, 41, 58, 32, 105, 110, 116, 32, 123, 32, 114, 101, 116, 117, 114, 110, 32] ++ pT 40 k ++ [55]) (pT 41 k) (by simp only [List.length_append, List.length_cons, List.length_nil, pT_len]; omega)), (31, .cat ([102, 110, 32, 109, 97, 105, 110, 40, 41, 58, 32, 105, 110, 116, 32, 123, 32, 114, 101, 116, 117, 114, 110, 32] ++ pT 40 k ++ [55] ++ pT 41 k) [59, 32, 125] (by simp only [List.length_append, List.length_cons, List.length_nil, pT_len]; omega)), (33, hUd Pg .u8 ((c : Int).tmod 2) (1 : Int) (by rw [Int.tmod_eq_emod_of_nonneg (by omega)]; omega)), (36, .cat [102, 110, 32, 109, 97, 105, 110, 40, 41, 58, 32, 105, 110, 116, 32, 123, 32, 97, 91] (pT 40 k) (by simp only [List.length_append, List.length_cons, List.length_nil, pT_len]; omega)), (37, .cat ([102, 110, 32, 109, 97, 105, 110, 40, 41, 58, 32, 105, 110, 116, 32, 123, 32, 97, 91] ++ pT 40 k) [55] (by simp only [List.length_append, List.length_cons, List.length_nil, pT_len]; omega)), (39, .cat ([102, 110, 32, 109, 97, 105, 110, 40, 41, 58, 32, 105, 110, 116, 32, 123, 32, 97, 91] ++ pT 40 k ++ [55]) (pT 41 k) (by simp only [List.length_append, List.length_cons, List.length_nil, pT_len]; omega)), (40, .cat ([102, 110, 32, 109, 97, 105, 110, 40, 41, 58, 32, 105, 110, 116, 32, 123, 32, 97, 91] ++ pT 40 k ++ [55] ++ pT 41 k) [93, 32, 61, 32, 49, 59, 32, 125] (by simp only [List.length_append, List.length_cons, List.length_nil, pT_len]; omega)), (43, .call 9 _ _ hp), (49, qB hg), (57, hUd Pg .u8 ((c : Int).tmod 2) (1 : Int) (by rw [Int.tmod_eq_emod_of_nonneg (by omega)]; omega))] } 1000
theorem dpOkQ (hb : c % 2 = 1) (hg : decide (198 < (k : Int)) = false) {v p : Int} {l : List Ex} (hp : Pure Pg 9 [.str (deepQ k)] [.agg [.ro (([⟨[109, 97, 105, 110], [], 1, [.mk 3 1 [97] 0 0 17 (.mk 1 0 [] v p [] :: l) [] []], 0⟩] : List Fn).map fnD)], .int .i64 0, .int .i64 0]) : Pure Pg 4 [.int .u16 (n : Int), .int .u8 (c : Int)] [.bool true] :=
 qV { loops := fun f q => if f = 4 then (if q = 6 then some (dpLH h) else none) else none, hint := qT 4 [(13, .call 11 _ _ awake02), (16, hUd Pg .i64 (IntKind.i64.wrap (n : Int)) (n : Int) (by rw [IntWalk.i64_in _ (by omega)])), (17, hUd Pg .i64 ((n : Int).tmod 260) (k : Int) (by rw [Int.tmod_eq_emod_of_nonneg (by omega)]; omega)), (27, .cat [102, 110, 32, 109, 97, 105, 110, 40, 41, 58, 32, 105, 110, 116, 32, 123, 32, 114, 101, 116, 117, 114, 110, 32] (pT 40 k) (by simp only [List.length_append, List.length_cons, List.length_nil, pT_len]; omega)), (28, .cat ([102, 110, 32, 109, 97, 105, 110, 40, 41, 58, 32, 105, 110, 116, 32, 123, 32, 114, 101, 116, 117, 114, 110, 32] ++ pT 40 k) [55] (by simp only [List.length_append, List.length_cons, List.length_nil, pT_len]; omega)), (30, .cat ([102, 110, 32, 109, 97, 105, 110, 40, 41, 58, 32, 105, 110, 116, 32, 123, 32, 114, 101, 116, 117, 114, 110, 32] ++ pT 40 k ++ [55]) (pT 41 k) (by simp only [List.length_append, List.length_cons, List.length_nil, pT_len]; omega)), (31, .cat ([102, 110, 32, 109, 97, 105, 110, 40, 41, 58, 32, 105, 110, 116, 32, 123, 32, 114, 101, 116, 117, 114, 110, 32] ++ pT 40 k ++ [55] ++ pT 41 k) [59, 32, 125] (by simp only [List.length_append, List.length_cons, List.length_nil, pT_len]; omega)), (33, hUd Pg .u8 ((c : Int).tmod 2) (1 : Int) (by rw [Int.tmod_eq_emod_of_nonneg (by omega)]; omega)), (36, .cat [102, 110, 32, 109, 97, 105, 110, 40, 41, 58, 32, 105, 110, 116, 32, 123, 32, 97, 91] (pT 40 k) (by simp only [List.length_append, List.length_cons, List.length_nil, pT_len]; omega)), (37, .cat ([102, 110, 32, 109, 97, 105, 110, 40, 41, 58, 32, 105, 110, 116, 32, 123, 32, 97, 91] ++ pT 40 k) [55] (by simp only [List.length_append, List.length_cons, List.length_nil, pT_len]; omega)), (39, .cat ([102, 110, 32, 109, 97, 105, 110, 40, 41, 58, 32, 105, 110, 116, 32, 123, 32, 97, 91] ++ pT 40 k ++ [55]) (pT 41 k) (by simp only [List.length_append, List.length_cons, List.length_nil, pT_len]; omega)), (40, .cat ([102, 110, 32, 109, 97, 105, 110, 40, 41, 58, 32, 105, 110, 116, 32, 123, 32, 97, 91] ++ pT 40 k ++ [55] ++ pT 41 k) [93, 32, 61, 32, 49, 59, 32, 125] (by simp only [List.length_append, List.length_cons, List.length_nil, pT_len]; omega)), (43, .call 9 _ _ hp), (49, qB hg)] } 1000
end
theorem deepPure (n c : Nat) (hn : n < 65536) (hc : c < 256) : Pure Pg 4 [.int .u16 (n : Int), .int .u8 (c : Int)] [.bool true] := by
 have hk : n % 260 < 260 := Nat.mod_lt _ (by decide)
 generalize he : n % 260 = k at hk
 have hl := dpLoop c k (by omega) k 0 (by omega)
 rcases Nat.mod_two_eq_zero_or_one c with hb | hb
 ·have hd := deepP_parse k hk
  by_cases hg : k ≤ 199
  ·obtain ⟨v, p, l, hp⟩ := hd.1 hg
   exact dpOkP hn hc he hk hl hb (by simp only [decide_eq_false_iff_not]; omega) hp
  ·exact dpBadP hn hc he hk hl hb (by simp only [decide_eq_true_eq]; omega) (hd.2 (by omega))
 ·have hd := deepQ_parse k hk
  by_cases hg : k ≤ 198
  ·obtain ⟨v, p, l, hp⟩ := hd.1 hg
   exact dpOkQ hn hc he hk hl hb (by simp only [decide_eq_false_iff_not]; omega) hp
  ·exact dpBadQ hn hc he hk hl hb (by simp only [decide_eq_true_eq]; omega) (hd.2 (by omega))
end Go.Avm
namespace Go.Avm
open Go.ChangeShapes Go.WideShapes Go.ChangeAt Go.RowKit Go.ChangeMaps Go.Proofs Go.Proofs.YtkhcaamgjjhpeaaGreatDoor
def zs : List Int := (List.range 256).map fun n => if n = 9 ∨ n = 10 ∨ n = 11 ∨ n = 12 ∨ n = 13 ∨ n = 32 then 1 else 0
theorem tab_zs : asciiTab = zs.map fun z => .int .u8 z := by
 unfold asciiTab zs
 rw [List.map_map]
 rfl
theorem gTab : Pg.globalNamed "strings.asciiSpace" = some 0 := by kernel_rfl
theorem gTabType : (Pg.globals[0]?).map (·.type) = some 155 := by kernel_rfl
theorem gEr : Pg.globalNamed "strconv.ErrRange" = some 4 := by kernel_rfl
theorem gErType : (Pg.globals[4]?).map (·.type) = some 125 := by kernel_rfl
theorem cells131 : Pg.cellsOf 220 = 1 := by kernel_rfl
theorem cells9 : Pg.cellsOf 9 = 1 := by kernel_rfl
theorem star : "*" ++ "errors.errorString" = "*errors.errorString" := by decide
theorem row129 (u : TypeId) (h : Pg.typeName? 3 u = some "*errors.errorString") : u = 218 :=
 typeName_ptr_named (nm := "errors.errorString") (by rw [star]; kernel_rfl) (by kernel_rfl) (by decide) u (by rw [star]; exact h)
theorem cells78 : Pg.cellsOf 155 = 256 := by kernel_rfl
theorem cells5 : Pg.cellsOf 5 = 1 := by kernel_rfl
abbrev rowLaid : List (String × DataW Unit) := Rows.treeNumbersRow.laid
theorem only : (rowLaid.filter fun x => x.1 == "strings.asciiSpace") = [("strings.asciiSpace", Lib.tabData .u8 zs)] := by kernel_rfl
theorem onlyE : (rowLaid.filter fun x => x.1 == "strconv.ErrRange") = [("strconv.ErrRange", .iface "*errors.errorString" (.ptr (.agg [.lit (.string [118, 97, 108, 117, 101, 32, 111, 117, 116, 32, 111, 102, 32, 114, 97, 110, 103, 101])])))] := by kernel_rfl
structure LexMem (W : World) : Prop where
 tab : Lib.TabIs Pg W "strings.asciiSpace" .u8 zs
 err : ∃ t v, W.cell? ⟨4, 0, none⟩ = some (.iface t v)
theorem lexMem {W : World} (h : laidMetH Pg rowLaid W) : LexMem W := by
 constructor
 ·have h1 := h.filter fun x => x.1 == "strings.asciiSpace"
  rw [only, MakeChecks.laidMetH_plain _ _ _ (by kernel_rfl)] at h1
  exact Lib.tabIs_of_head gTab gTabType Tryz.underlying155 Tryz.underlying5 cells5 cells78 h1
 ·have h1 := h.filter fun x => x.1 == "strconv.ErrRange"
  rw [onlyE, MakeChecks.laidMetH_plain _ _ _ (by kernel_rfl)] at h1
  obtain ⟨a0, s0, hv0, -, -, -⟩ := laid_sentinel h1 gEr gErType Tryz.underlying125 row129 Tryz.underlying218 Tryz.underlying220 rfl rfl Tryz.underlying9 cells131 cells9
  exact ⟨_, _, by have h0 := World.var?_cell gEr hv0 0; simpa using h0⟩
def lexImm (b o : Nat) : Prop := (b = 0 ∧ o < 256) ∨ (b = 4 ∧ o = 0)
theorem lexGlobs {W : World} (h : LexMem W) : Globs lexImm W := fun g cs hg => by
 have hg' : (if g = 0 then some asciiTab else if g = 4 then some [.ifc] else none) = some cs := hg
 split at hg'
 case isTrue hg0 =>
  subst hg0
  cases hg'
  have hlen : zs.length = 256 := by simp [zs]
  have hget : ∀ (t : Nat) (c : D), asciiTab[t]? = some c → t < 256 ∧ c = .int .u8 (zs.getD t 0) := fun t c hc => by
   rw [tab_zs, List.getElem?_map, Option.map_eq_some_iff] at hc
   obtain ⟨z, hz, rfl⟩ := hc
   refine ⟨by rw [← hlen]; exact (List.getElem?_eq_some_iff.1 hz).1, ?_⟩
   rw [List.getD, hz]; rfl
  refine .rp asciiTab 0 0 (fun t => .int .u8 (zs.getD t 0)) (fun e he => ?_) (fun t c hc => .inl ⟨rfl, by rw [Nat.zero_add]; exact (hget t c hc).1⟩) (fun t c hc => ?_) (fun t c hc => ?_)
  ·obtain ⟨t, ht⟩ := List.getElem?_of_mem he
   rw [(hget t e ht).2]; rfl
  ·rw [Nat.zero_add]
   exact h.tab.cell gTab t (by rw [hlen]; exact (hget t c hc).1)
  ·rw [(hget t c hc).2]
   exact .int _ _
 case isFalse hg0 =>
  split at hg'
  case isFalse => cases hg'
  rename_i hg3
  subst hg3
  cases hg'
  obtain ⟨ty, v, hc⟩ := h.err
  have hget : ∀ (t : Nat) (c : D), [D.ifc][t]? = some c → t = 0 ∧ c = .ifc := fun t c hc => by
   cases t with
   | zero => simp at hc; exact ⟨rfl, hc.symm⟩
   | succ t => simp at hc
  refine .rp [.ifc] 4 0 (fun _ => .iface ty v) (fun e he => ?_) (fun t c hc' => .inr ⟨rfl, by rw [Nat.zero_add]; exact (hget t c hc').1⟩) (fun t c hc' => ?_) (fun t c hc' => ?_)
  ·simp at he; subst he; rfl
  ·rw [Nat.zero_add, (hget t c hc').1]
   exact hc
  ·rw [(hget t c hc').2]
   exact .ifc _ _
theorem lexLow {W : World} (h : LexMem W) : ∀ b o, lexImm b o → b < W.heap.size := fun b o hbo => by
 rcases hbo with ⟨rfl, ho⟩ | ⟨rfl, rfl⟩
 ·have hc := h.tab.cell gTab 0 (by simp [zs])
  unfold World.cell? at hc
  cases hh : W.heap[0]? with
  | none => rw [hh] at hc; cases hc
  | some o => exact (Array.getElem?_eq_some_iff.1 hh).1
 ·obtain ⟨ty, v, hc⟩ := h.err
  unfold World.cell? at hc
  cases hh : W.heap[4]? with
  | none => rw [hh] at hc; cases hc
  | some o => exact (Array.getElem?_eq_some_iff.1 hh).1
theorem flat_ones : ∀ (l : List D), (∀ x ∈ l, x.cells = [x]) → D.flat l = l
 | [], _ => rfl
 | x :: r, h => by
  have h1 := h x (by simp)
  have h2 := flat_ones r fun y hy => h y (by simp [hy])
  unfold D.flat at h2 ⊢
  rw [List.flatMap_cons, h1, h2]
  rfl
set_option maxRecDepth 100000 in
theorem bytesArg {H : Type} {enc : TypeId × Value → H} {W : World} {base : Nat} {v1 : Value} {d1 : DataW H} {p1 : List MemPlace} (hval : Value.okWide Pg W .any base 50 v1) (h1 : DataW.Trod enc Pg W 0 (fun _ => true) true 50 v1 d1 p1) :
    ∃ (l : List UInt8) (I' : Nat → Nat → Prop), DRep I' W (.ro (l.map bD)) v1 ∧ ∀ b o, I' b o → b < W.heap.size := by
 obtain ⟨a1, len, cap, rfl⟩ := okWide_slice Tryz.underlying50 hval
 obtain ⟨fuel, hf⟩ := h1
 rcases open_ints Tryz.underlying50 Tryz.underlying5 cells5 hf with ⟨hcs, hx⟩ | ⟨a, len', cap', zs, hcs, _, hl, hm, hz, hx, hcell, hwz⟩
 ·simp [Value.cells] at hcs
  obtain ⟨rfl, rfl, rfl⟩ := hcs
  exact ⟨[], fun _ _ => False, .roNil _ _, fun _ _ h => h.elim⟩
 ·simp [Value.cells] at hcs
  obtain ⟨rfl, rfl, rfl⟩ := hcs
  simp only [if_true] at hz
  have hel : ∀ (j : Nat), j < len → ∃ y : UInt8, W.cell? (a.add j) = some (.int .u8 (y.toNat : Int)) := fun j hj => by
   have hcj := hcell j (by omega)
   have hmem : zs.getD j 0 ∈ zs := by rw [List.getD_eq_getElem?_getD, List.getElem?_eq_getElem (show j < zs.length by omega)]; exact List.getElem_mem _
   have hw := hwz _ hmem
   simp [Lit.wf, IntKind.min, IntKind.max, IntKind.signed, IntKind.bits] at hw
   refine ⟨UInt8.ofNat (zs.getD j 0).toNat, ?_⟩
   rw [hcj]
   congr 2
   simp only [UInt8.toNat_ofNat']
   simp only [List.getD_eq_getElem?_getD] at hw ⊢
   omega
  let f : Nat → UInt8 := fun j => if h : j < len then Classical.choose (hel j h) else 0
  have hfj : ∀ j, j < len → W.cell? (a.add j) = some (.int .u8 ((f j).toNat : Int)) := fun j hj => by
   show W.cell? (a.add j) = some (.int .u8 ((if h : j < len then Classical.choose (hel j h) else 0 : UInt8).toNat : Int))
   rw [dif_pos hj]
   exact Classical.choose_spec (hel j hj)
  rcases Nat.eq_zero_or_pos len with rfl | hpos
  ·exact ⟨[], fun _ _ => False, .roNil _ _, fun _ _ h => h.elim⟩
  obtain ⟨ab, ao, spot⟩ := a
  have hspot : spot = none := by simpa [Addr.add] using World.cell?_spot (hfj 0 hpos)
  subst hspot
  have hlen : (((List.range len).map f).map bD).length = len := by simp
  have hget : ∀ (t : Nat) (c : D), (((List.range len).map f).map bD)[t]? = some c → t < len ∧ c = bD (f t) := fun t c hc => by
   rw [List.getElem?_map, List.getElem?_map] at hc
   rcases Nat.lt_or_ge t len with h | h
   ·rw [List.getElem?_range h] at hc
    simp only [Option.map_some, Option.some.injEq] at hc
    exact ⟨h, hc.symm⟩
   ·rw [List.getElem?_eq_none (by rw [List.length_range]; exact h)] at hc
    cases hc
  have hfl : D.flat (((List.range len).map f).map bD) = ((List.range len).map f).map bD := flat_ones _ fun x hx => by
   obtain ⟨y, _, rfl⟩ := List.mem_map.1 hx
   rfl
  have hro : DRep (fun b o => b = ab ∧ ao ≤ o ∧ o < ao + len) W (.ro (((List.range len).map f).map bD)) (.slice (some ⟨ab, ao, none⟩) (((List.range len).map f).map bD).length cap) :=
   .ro _ ab ao cap 1 (fun t => .int .u8 ((f t).toNat : Int)) (by rw [hlen]; exact hl) (fun e he => by
    obtain ⟨y, _, rfl⟩ := List.mem_map.1 he
    rfl) (fun e he => by
    rw [hfl] at he
    obtain ⟨y, _, rfl⟩ := List.mem_map.1 he
    rfl) (fun t c hc => by
    rw [hfl] at hc
    have := (hget t c hc).1
    exact ⟨rfl, by omega, by omega⟩) (fun t c hc => by
    rw [hfl] at hc
    have := hfj t (hget t c hc).1
    rwa [Addr.add_lit] at this) (fun t c hc => by
    rw [hfl] at hc
    rw [(hget t c hc).2]
    exact .int _ _)
  rw [hlen] at hro
  refine ⟨(List.range len).map f, _, hro, fun b o hb => ?_⟩
  obtain ⟨rfl, _, _⟩ := hb
  have hc := hfj 0 hpos
  rw [Addr.add_lit] at hc
  unfold World.cell? at hc
  cases hh : W.heap[b]? with
  | none => rw [hh] at hc; cases hc
  | some o => exact (Array.getElem?_eq_some_iff.1 hh).1
theorem argGlobs {W : World} (h : LexMem W) (I' : Nat → Nat → Prop) : Globs (fun b o => lexImm b o ∨ I' b o) W := (lexGlobs h).mono (fun _ _ x => .inl x) (fun _ _ _ => rfl)
end Go.Avm
namespace Go.Avm
open Go.Proofs
theorem tw_split (p : UInt8 → Bool) (q : List UInt8) (hq : ∀ c, q.head? = some c → p c = false) : ∀ (t : List UInt8), (∀ x ∈ t, p x = true) → (t ++ q).takeWhile p = t
 | [], _ => by
  cases q with
  | nil => rfl
  | cons c r => rw [List.nil_append, List.takeWhile_cons, if_neg (by rw [hq c rfl]; exact Bool.false_ne_true)]
 | x :: r, h => by rw [List.cons_append, List.takeWhile_cons, if_pos (h x (by simp)), tw_split p q hq r fun y hy => h y (by simp [hy])]
theorem tw_inv (p : UInt8 → Bool) (q : List UInt8) : ∀ (t : List UInt8), (t ++ q).takeWhile p = t → (∀ x ∈ t, p x = true) ∧ ∀ c, q.head? = some c → p c = false
 | [], h => by
  refine ⟨fun x hx => by simp at hx, fun c hc => ?_⟩
  cases q with
  | nil => simp at hc
  | cons d r =>
   simp at hc; subst hc
   rw [List.nil_append, List.takeWhile_cons] at h
   by_cases hp : p d = true
   ·rw [if_pos hp] at h; cases h
   ·simpa using hp
 | x :: r, h => by
  rw [List.cons_append, List.takeWhile_cons] at h
  by_cases hp : p x = true
  ·rw [if_pos hp] at h
   have ih := tw_inv p q r (List.cons.inj h).2
   exact ⟨fun y hy => by
    rcases List.mem_cons.1 hy with rfl | hy
    ·exact hp
    ·exact ih.1 y hy, ih.2⟩
  ·rw [if_neg hp] at h; cases h
def GoodT (kd : Int) (t : List UInt8) (n : Int) (h : Option UInt8) : Prop :=
 (kd = 3 ∧ n = (dv 0 t : Int) ∧ t ≠ [] ∧ (∀ x ∈ t, isDig x = true) ∧ ¬ 9223372036854775808 ≤ dv 0 t ∧ (decide (1 < t.length) && (t.headD 0).toNat == 48) = false ∧ ∀ c, h = some c → isDig c = false ∧ isSm c = false ∧ great c = false) ∨
 (n = 0 ∧ isDig (t.headD 0) = false ∧ isSm (t.headD 0) = true ∧ t ≠ [] ∧ (∀ x ∈ t, isNm x = true) ∧ ((kd = 2 ∧ isWord t = true) ∨ (kd = 1 ∧ isWord t = false ∧ ¬ 12 < t.length)) ∧ ∀ c, h = some c → isNm c = false) ∨
 (kd = 4 ∧ n = 0 ∧ isDig (t.headD 0) = false ∧ isSm (t.headD 0) = false ∧ ((∃ b c, t = [b, c] ∧ prs.contains [b, c] = true) ∨ (∃ b, t = [b] ∧ sg1 b = true ∧ ∀ c, h = some c → prs.contains [b, c] = false)))
theorem headD_app (t q : List UInt8) (h : t ≠ []) : ∃ b r, t = b :: r ∧ t ++ q = b :: (r ++ q) ∧ t.headD 0 = b := by
 cases t with
 | nil => exact absurd rfl h
 | cons b r => exact ⟨b, r, rfl, rfl, rfl⟩
theorem letterN_iff (q : List UInt8) : letter q = false ↔ ∀ c, q.head? = some c → isSm c = false ∧ great c = false := by
 cases q with
 | nil => simp [letter]
 | cons c r => simp [letter]
theorem tok_good {t q : List UInt8} {kd n : Int} (ht : tokL (t ++ q) = .ok (kd, t, n)) (hne : t ≠ []) : GoodT kd t n q.head? := by
 obtain ⟨b, r, hb, hbq, hh⟩ := headD_app t q hne
 rw [hbq, tokL, ← hbq] at ht
 by_cases hd : isDig b = true
 ·rw [if_pos hd] at ht
  split at ht
  ·cases ht
  rename_i hv
  split at ht
  ·cases ht
  rename_i hbad
  simp only [Except.ok.injEq, Prod.mk.injEq] at ht
  obtain ⟨rfl, h2, rfl⟩ := ht
  rw [h2] at hv hbad
  obtain ⟨g1, g2⟩ := tw_inv isDig q t h2
  rw [List.drop_append_of_le_length (Nat.le_refl _), List.drop_length, List.nil_append, Bool.not_eq_true, Bool.or_eq_false_iff] at hbad
  have hl := (letterN_iff q).1 hbad.2
  refine .inl ⟨rfl, by rw [h2], hne, g1, hv, by rw [hh]; exact hbad.1, fun c hc => ⟨g2 c hc, hl c hc⟩⟩
 ·rw [if_neg hd] at ht
  by_cases hs : isSm b = true
  ·rw [if_pos hs] at ht
   have key : ∀ kd' : Int, (.ok (kd', (t ++ q).takeWhile isNm, 0) : Except Int Tok) = .ok (kd, t, n) → kd = kd' ∧ (t ++ q).takeWhile isNm = t ∧ n = 0 := fun kd' h => by
    simp only [Except.ok.injEq, Prod.mk.injEq] at h
    exact ⟨h.1.symm, h.2.1, h.2.2.symm⟩
   split at ht
   ·rename_i hw
    obtain ⟨rfl, h2, rfl⟩ := key _ ht
    rw [h2] at hw
    obtain ⟨g1, g2⟩ := tw_inv isNm q t h2
    exact .inr (.inl ⟨rfl, by rw [hh]; simpa using hd, by rw [hh]; exact hs, hne, g1, .inl ⟨rfl, hw⟩, g2⟩)
   ·rename_i hw
    split at ht
    ·cases ht
    rename_i h12
    obtain ⟨rfl, h2, rfl⟩ := key _ ht
    rw [h2] at hw h12
    obtain ⟨g1, g2⟩ := tw_inv isNm q t h2
    exact .inr (.inl ⟨rfl, by rw [hh]; simpa using hd, by rw [hh]; exact hs, hne, g1, .inr ⟨rfl, by simpa using hw, h12⟩, g2⟩)
  ·rw [if_neg hs] at ht
   split at ht
   ·cases ht
   simp only [Except.ok.injEq, Prod.mk.injEq] at ht
   obtain ⟨rfl, h2, rfl⟩ := ht
   refine .inr (.inr ⟨rfl, rfl, by rw [hh]; simpa using hd, by rw [hh]; simpa using hs, ?_⟩)
   unfold sgnL at h2
   cases hrq : r ++ q with
   | nil =>
    rw [hrq] at h2
    dsimp only at h2
    split at h2
    ·rename_i hg
     refine .inr ⟨b, h2.symm, hg, fun c hc => ?_⟩
     have : q = [] := (List.append_eq_nil_iff.1 hrq).2
     rw [this] at hc; simp at hc
    ·exact absurd h2.symm hne
   | cons c u =>
    rw [hrq] at h2
    dsimp only at h2
    split at h2
    ·rename_i hp
     exact .inl ⟨b, c, h2.symm, hp⟩
    ·rename_i hp
     split at h2
     ·rename_i hg
      refine .inr ⟨b, h2.symm, hg, fun d hd' => ?_⟩
      have : r = [] := by rw [hb] at h2; exact (List.cons.inj h2).2.symm
      subst this
      rw [List.nil_append] at hrq
      rw [hrq] at hd'
      simp at hd'; subst hd'
      simpa using hp
     ·exact absurd h2.symm hne
theorem good_tok {t q : List UInt8} {kd n : Int} (h : GoodT kd t n q.head?) : tokL (t ++ q) = .ok (kd, t, n) := by
 rcases h with ⟨rfl, rfl, hne, h1, h2, h3, h4⟩ | ⟨rfl, h1, h2, hne, h3, h4, h5⟩ | ⟨rfl, rfl, h1, h2, h3⟩
 ·obtain ⟨b, r, hb, hbq, hh⟩ := headD_app t q hne
  have htw := tw_split isDig q (fun c hc => (h4 c hc).1) t h1
  have hl : letter q = false := (letterN_iff q).2 fun c hc => (h4 c hc).2
  rw [hh] at h3
  rw [hbq, tokL, ← hbq, if_pos (h1 b (by rw [hb]; simp)), htw, if_neg h2, List.drop_append_of_le_length (Nat.le_refl _), List.drop_length, List.nil_append, h3, hl]
  rfl
 ·obtain ⟨b, r, hb, hbq, hh⟩ := headD_app t q hne
  have htw := tw_split isNm q h5 t h3
  rw [hh] at h1 h2
  rw [hbq, tokL, ← hbq, if_neg (by rw [h1]; exact Bool.false_ne_true), if_pos h2, htw]
  rcases h4 with ⟨rfl, hw⟩ | ⟨rfl, hw, h12⟩
  ·rw [if_pos hw]
  ·rw [if_neg (by rw [hw]; exact Bool.false_ne_true), if_neg h12]
 ·rcases h3 with ⟨b, c, rfl, hp⟩ | ⟨b, rfl, hg, hno⟩
  ·have hs : sgnL b (c :: q) = [b, c] := by unfold sgnL; dsimp only; rw [if_pos hp]
   show tokL (b :: c :: q) = _
   rw [tokL, if_neg (by simpa using h1), if_neg (by simpa using h2), hs]
   rfl
  ·have hs : sgnL b q = [b] := by
     unfold sgnL
     cases q with
     | nil => dsimp only; rw [if_pos hg]
     | cons c u => dsimp only; rw [if_neg (by rw [hno c rfl]; exact Bool.false_ne_true), if_pos hg]
   show tokL (b :: q) = _
   rw [tokL, if_neg (by simpa using h1), if_neg (by simpa using h2), hs]
   rfl
def ends (c : UInt8) : Prop := isNm c = false ∧ great c = false ∧ ∀ b, prs.contains [b, c] = false
theorem ends_dig {c : UInt8} (h : ends c) : isDig c = false ∧ isSm c = false := by
 have := h.1
 simp only [isNm, Bool.or_eq_false_iff] at this
 exact ⟨this.2, this.1⟩
theorem good_ends {kd n : Int} {t : List UInt8} {h : Option UInt8} {c : UInt8} (hg : GoodT kd t n h) (hc : ends c) : GoodT kd t n (some c) := by
 have hd := ends_dig hc
 rcases hg with ⟨h0, h1, h2, h3, h4, h5, _⟩ | ⟨h0, h1, h2, h3, h4, h5, _⟩ | ⟨h0, h1, h2, h3, h4⟩
 ·exact .inl ⟨h0, h1, h2, h3, h4, h5, fun d hd' => by cases hd'; exact ⟨hd.1, hd.2, hc.2.1⟩⟩
 ·exact .inr (.inl ⟨h0, h1, h2, h3, h4, h5, fun d hd' => by cases hd'; exact hc.1⟩)
 ·refine .inr (.inr ⟨h0, h1, h2, h3, ?_⟩)
  rcases h4 with h4 | ⟨b, hb, hs, _⟩
  ·exact .inl h4
  ·exact .inr ⟨b, hb, hs, fun d hd' => by cases hd'; exact hc.2.2 b⟩
theorem prs_no (c : UInt8) (h : c = 10 ∨ c = 32 ∨ c = 9) (b : UInt8) : prs.contains [b, c] = false := by
 rcases h with rfl | rfl | rfl <;> simp [prs]
theorem ends10 : ends 10 := ⟨by decide, by decide, prs_no 10 (.inl rfl)⟩
theorem ends32 : ends 32 := ⟨by decide, by decide, prs_no 32 (.inr (.inl rfl))⟩
theorem ends9 : ends 9 := ⟨by decide, by decide, prs_no 9 (.inr (.inr rfl))⟩
end Go.Avm
namespace Go.Avm
open Go.Proofs
theorem tok_split {b : UInt8} {r : List UInt8} {kd n : Int} {t : List UInt8} (h : tokL (b :: r) = .ok (kd, t, n)) : ∃ q, b :: r = t ++ q ∧ t ≠ [] ∧ GoodT kd t n q.head? := by
 obtain ⟨⟨q, hq⟩, hne⟩ := tokL_pre h
 refine ⟨q, hq.symm, hne, tok_good (q := q) ?_ hne⟩
 rw [hq]; exact h
theorem drop_app (t q : List UInt8) : (t ++ q).drop t.length = q := by
 rw [List.drop_append_of_le_length (Nat.le_refl _), List.drop_length, List.nil_append]
theorem scanB_tok (n : Nat) (t q : List UInt8) (kd k : Int) (a : Nat) (hne : t ≠ []) (hg : GoodT kd t k q.head?) : scanB (n + 1) (t ++ q) a = match scanB n (q.drop (skipN false q)) (a + t.length + skipN false q) with
    | .error e => .error e
    | .ok ts => .ok ((a, (kd, t, k)) :: ts) := by
 have ht := good_tok hg
 obtain ⟨b, r, hb, hbq, _⟩ := headD_app t q hne
 rw [hbq, scanB_cons, ← hbq, ht]
 dsimp only
 rw [drop_app]
 try rfl
def Laid (s : List UInt8) : Nat → List (Nat × Tok) → Prop
 | at0, [] => at0 + skipN false (s.drop at0) = s.length
 | at0, x :: ts => x.1 = at0 + skipN false (s.drop at0) ∧ x.1 + x.2.2.1.length ≤ s.length ∧ (s.drop x.1).take x.2.2.1.length = x.2.2.1 ∧ x.2.1 ≠ 0 ∧ x.2.2.1 ≠ [] ∧ Laid s (x.1 + x.2.2.1.length) ts
theorem good_kind {kd n : Int} {t : List UInt8} {h : Option UInt8} (hg : GoodT kd t n h) : kd ≠ 0 := by
 rcases hg with ⟨rfl, _⟩ | ⟨_, _, _, _, _, ⟨rfl, _⟩ | ⟨rfl, _⟩, _⟩ | ⟨rfl, _⟩ <;> decide
theorem scan_laid (s : List UInt8) : ∀ (n at0 a : Nat) (ts : List (Nat × Tok)), a = at0 + skipN false (s.drop at0) → at0 ≤ s.length → s.length < n + a → scanB n (s.drop a) a = .ok ts → Laid s at0 ts
 | 0, at0, a, ts, h1, h2, h3, _ => by
  have := skipN_le false (s.drop at0)
  rw [List.length_drop] at this
  omega
 | n + 1, at0, a, ts, h1, h2, h3, h4 => by
  have hle := skipN_le false (s.drop at0)
  rw [List.length_drop] at hle
  cases hr : s.drop a with
  | nil =>
   rw [hr] at h4
   cases h4
   have := List.drop_eq_nil_iff.1 hr
   show at0 + skipN false (s.drop at0) = s.length
   omega
  | cons b r =>
   rw [hr] at h4
   cases ht : tokL (b :: r) with
   | error k => rw [scanB_cons, ht] at h4; cases h4
   | ok t =>
    obtain ⟨kd, t, k⟩ := t
    obtain ⟨q, hq, hne, hg⟩ := tok_split ht
    rw [hq, scanB_tok n t q kd k a hne hg] at h4
    have hlen : (b :: r).length = s.length - a := by rw [← hr, List.length_drop]
    rw [hq, List.length_append] at hlen
    have hal : a < s.length := by
     rcases Nat.lt_or_ge a s.length with h | h
     ·exact h
     ·rw [List.drop_eq_nil_iff.2 h] at hr; cases hr
    have hd : s.drop (a + t.length) = q := by rw [← List.drop_drop, hr, hq, drop_app]
    have ht0 := List.length_pos_iff.2 hne
    cases hs : scanB n (q.drop (skipN false q)) (a + t.length + skipN false q) with
    | error e => rw [hs] at h4; cases h4
    | ok ts1 =>
     rw [hs] at h4
     cases h4
     refine ⟨h1, by show a + t.length ≤ s.length; omega, ?_, good_kind hg, hne, ?_⟩
     ·show (s.drop a).take t.length = t
      rw [hr, hq, List.take_append_of_le_length (Nat.le_refl _), List.take_length]
     ·have hd2 : s.drop (a + t.length + skipN false q) = q.drop (skipN false q) := by rw [← List.drop_drop, hd]
      exact scan_laid s n (a + t.length) (a + t.length + skipN false q) ts1 (by rw [hd]) (by omega) (by omega) (by rw [hd2]; exact hs)
theorem scanF_laid {s : List UInt8} {ts : List (Nat × Tok)} (h : scanF s = .ok ts) : Laid s 0 ts := by
 unfold scanF at h
 have := scan_laid s (s.length + 1) 0 (skipN false s) ts (by rw [List.drop_zero, Nat.zero_add]) (Nat.zero_le _) (by omega) h
 exact this
end Go.Avm
namespace Go.Avm
open Go.Proofs
inductive NumL : List St' → Int → Int → Int → Int → Prop
 | nil (n a : Int) : NumL [] n a n a
 | cons {k id : Int} {nm : List UInt8} {ty v p : Int} {es : List Ex} {bd el r : List St'} {a n1 a1 n2 a2 n3 a3 : Int} (h : a < p) (lb : bd.length < 1000000) (le : el.length < 1000000) (hb : NumL bd (w64 (id + 1)) p n1 a1) (he : NumL el n1 a1 n2 a2) (hr : NumL r n2 a2 n3 a3) : NumL (.mk k id nm ty v p es bd el :: r) id a n3 a3
section
variable (f : List St') (i : Nat)
end
inductive NumF : List Fn → Int → Int → Prop
 | nil (n a : Int) : NumF [] n a
 | cons {nm : List UInt8} {ps : List Pm} {k : Int} {bd : List St'} {p : Int} {r : List Fn} {n a n1 a1 : Int} (lb : bd.length < 1000000) (hb : NumL bd n a n1 a1) (hr : NumF r n1 a1) : NumF (⟨nm, ps, k, bd, p⟩ :: r) n a
abbrev fnL (f : List Fn) : List D := f.map fnD
section
variable (f : List Fn) (i : Nat)
end
end Go.Avm
namespace Go.Avm
open Go.Proofs
def Kn {α : Type} (s : RS) (r : Res α) : Prop := ∀ a s', r = .ok a s' → s'.n = s.n
theorem Kn.bind {α β : Type} {s : RS} {r : Res α} {f : α → RS → Res β} (h : Kn s r) (hf : ∀ a s', Kn s' (f a s')) : Kn s (r.bind f) := fun b s2 e => by
 cases r with
 | ok a s1 => exact (hf a s1 b s2 e).trans (h a s1 rfl)
 | bad p q s1 => cases e
 | out => cases e
theorem Kn.ok {α : Type} (a : α) (s : RS) : Kn s (.ok a s) := fun _ _ e => by cases e; rfl
theorem Kn.out {α : Type} (s : RS) : Kn s (Res.out : Res α) := fun _ _ e => by cases e
theorem Kn.ite {α : Type} {c : Bool} {s : RS} {X Y : Res α} (hX : Kn s X) (hY : Kn s Y) : Kn s (bif c then X else Y) := by cases c <;> assumption
def Inc (L : List T) : Prop := ∀ i j, i < j → j < L.length → (L.getD i default).p < (L.getD j default).p
def Ps {α : Type} (Q : α → Prop) (r : Res α) : Prop := ∀ a s', r = .ok a s' → Q a
theorem Ps.bind {α β : Type} {Q : β → Prop} {r : Res α} {f : α → RS → Res β} (hf : ∀ a s', Ps Q (f a s')) : Ps Q (r.bind f) := fun b s2 e => by
 cases r with
 | ok a s1 => exact hf a s1 b s2 e
 | bad p q s1 => cases e
 | out => cases e
theorem Ps.ite {α : Type} {Q : α → Prop} {c : Bool} {X Y : Res α} (hX : Ps Q X) (hY : Ps Q Y) : Ps Q (bif c then X else Y) := by cases c <;> assumption
theorem Ps.ok {α : Type} {Q : α → Prop} {a : α} {s : RS} (h : Q a) : Ps Q (.ok a s) := fun _ _ e => by cases e; exact h
end Go.Avm
namespace Go.Avm
open Go.Proofs
def Rise : Nat → List (Nat × Tok) → Nat → Prop
 | lo, [], hi => lo ≤ hi
 | lo, x :: r, hi => lo ≤ x.1 ∧ Rise (x.1 + 1) r hi
theorem rise_mono : ∀ {ts : List (Nat × Tok)} {lo lo' hi : Nat}, lo ≤ lo' → Rise lo' ts hi → Rise lo ts hi
 | [], _, _, _, h, h1 => Nat.le_trans h h1
 | _ :: _, _, _, _, h, h1 => ⟨Nat.le_trans h h1.1, h1.2⟩
theorem scanB_rise : ∀ (n : Nat) (r : List UInt8) (a : Nat) (ts : List (Nat × Tok)), scanB n r a = .ok ts → Rise a ts (a + r.length)
 | 0, r, a, ts, h => by
  simp only [scanB, Except.ok.injEq] at h
  subst h
  exact Nat.le_add_right _ _
 | n + 1, [], a, ts, h => by
  simp only [scanB, Except.ok.injEq] at h
  subst h
  exact Nat.le_add_right _ _
 | n + 1, b :: r, a, ts, h => by
  rw [scanB_cons] at h
  split at h
  ·cases h
  rename_i t ht
  split at h
  ·cases h
  rename_i ts' hts
  cases h
  obtain ⟨kd, tx, k⟩ := t
  obtain ⟨hp, hne⟩ := tokL_pre ht
  have h1 : 0 < tx.length := List.length_pos_iff.2 hne
  have h2 : tx.length ≤ (b :: r).length := hp.length_le
  have ih := scanB_rise n _ _ _ hts
  have h3 := skipN_le false ((b :: r).drop tx.length)
  simp only [List.length_drop] at ih h3
  refine ⟨Nat.le_refl _, ?_⟩
  have e : a + tx.length + skipN false (List.drop tx.length (b :: r)) + ((b :: r).length - tx.length - skipN false (List.drop tx.length (b :: r))) = a + (b :: r).length := by omega
  rw [e] at ih
  exact rise_mono (show a + 1 ≤ a + tx.length + skipN false (List.drop tx.length (b :: r)) by omega) ih
theorem scanF_rise {s : List UInt8} {ts : List (Nat × Tok)} (h : scanF s = .ok ts) : Rise 0 ts s.length := by
 have h1 := scanB_rise _ _ _ _ h
 have h2 := skipN_le false s
 rw [List.length_drop, Nat.add_sub_cancel' h2] at h1
 exact rise_mono (Nat.zero_le _) h1
section
variable {L : List T} (hL : Toks L) (hI : Inc L)
include hL
include hI
end
end Go.Avm
namespace Go.Avm
open Go.Proofs
structure CutT (L L' : List T) (j : Nat) (pe : Int) : Prop where
 lt : ∀ s : RS, s.i < j → cur L' s = cur L s
 en : ∀ s : RS, s.i = j → cur L' s = ⟨0, pe, [], 0⟩
section
variable (j : Nat) (pe : Int) {α β γ δ : Type} (κ : α → γ)
def CE : Res α → Prop
 | .ok _ s => s.i = j
 | .bad p e _ => p = pe ∧ e = 4
 | .out => True
def CF : Res α → Prop
 | .ok _ _ => False
 | .bad p e _ => p = pe ∧ e = 4
 | .out => True
def CS : Res α → Res α → Prop
 | .ok a s, .ok a' s' => (κ a' = κ a ∧ s' = s ∧ s.i ≤ j) ∨ s'.i = j
 | .ok _ _, .bad p e _ => p = pe ∧ e = 4
 | _, _ => True
def CG : Res α → Res α → Prop
 | .ok a s, .ok a' s' => κ a' = κ a ∧ s' = s ∧ s.i ≤ j
 | .ok _ _, .bad p e _ => p = pe ∧ e = 4
 | _, _ => True
structure CtQ (s : RS) (r r' : Res α) : Prop where
 lt : s.i < j → CS j pe κ r r'
 en : s.i = j → CE j pe r'
structure CtG (s : RS) (r r' : Res α) : Prop where
 lt : s.i < j → CG j pe κ r r'
 en : s.i = j → CF pe r'
end
section
variable {j : Nat} {pe : Int} {α β γ δ : Type} {κ : α → γ} {κ2 : β → δ} {s s1 : RS} {r r' : Res α} {f f' : α → RS → Res β}
theorem CF.ce (h : CF pe r') : CE j pe r' := by cases r' with
 | ok a s => exact h.elim
 | bad p e s => exact h
 | out => trivial
theorem CE.cs (h : CE j pe r') : CS j pe κ r r' := by cases r with
 | ok a s => cases r' with
  | ok a' s' => exact .inr h
  | bad p e s => exact h
  | out => trivial
 | bad p e s => trivial
 | out => trivial
theorem CF.cg (h : CF pe r') : CG j pe κ r r' := by cases r with
 | ok a s => cases r' with
  | ok a' s' => exact h.elim
  | bad p e s => exact h
  | out => trivial
 | bad p e s => trivial
 | out => trivial
theorem CG.cs (h : CG j pe κ r r') : CS j pe κ r r' := by cases r with
 | ok a s => cases r' with
  | ok a' s' => exact .inl h
  | bad p e s => exact h
  | out => trivial
 | bad p e s => trivial
 | out => trivial
theorem CtG.le (h : CtG j pe κ s r r') : CtQ j pe κ s r r' := ⟨fun l => (h.lt l).cs, fun l => (h.en l).ce⟩
theorem CtQ.at (h : CtQ j pe κ s r r') (l : s.i ≤ j) : CS j pe κ r r' := by
 rcases Nat.lt_or_eq_of_le l with l | l
 ·exact h.lt l
 ·exact (h.en l).cs
theorem CtG.at (h : CtG j pe κ s r r') (l : s.i ≤ j) : CG j pe κ r r' := by
 rcases Nat.lt_or_eq_of_le l with l | l
 ·exact h.lt l
 ·exact (h.en l).cg
theorem CE.bind (h : CE j pe r') (hf : ∀ a s', s'.i = j → CE j pe (f' a s')) : CE j pe (r'.bind f') := by cases r' with
 | ok a s => exact hf a s h
 | bad p e s => exact h
 | out => trivial
theorem CE.bindF (h : CE j pe r') (hf : ∀ a s', s'.i = j → CF pe (f' a s')) : CF pe (r'.bind f') := by cases r' with
 | ok a s => exact hf a s h
 | bad p e s => exact h
 | out => trivial
theorem CF.bind (h : CF pe r') : CF pe (r'.bind f') := by cases r' with
 | ok a s => exact h.elim
 | bad p e s => exact h
 | out => trivial
theorem CtQ.bind (h : CtQ j pe κ s r r') (hf : ∀ a a' s', κ a' = κ a → s'.i ≤ j → CtQ j pe κ2 s' (f a s') (f' a' s')) : CtQ j pe κ2 s (r.bind f) (r'.bind f') := by
 refine ⟨fun l => ?_, fun l => (h.en l).bind fun a s' l' => (hf a a s' rfl (Nat.le_of_eq l')).en l'⟩
 have h := h.lt l
 cases r with
 | ok a s1 => cases r' with
  | ok a' s1' =>
   rcases h with ⟨e, rfl, l'⟩ | l'
   ·exact (hf a a' _ e l').at l'
   ·exact ((hf a' a' s1' rfl (Nat.le_of_eq l')).en l').cs
  | bad p e s => exact CE.cs (j := j) h
  | out => exact CE.cs (r' := .out) trivial
 | bad p e s => trivial
 | out => trivial
theorem CtQ.bindG (h : CtQ j pe κ s r r') (hf : ∀ a a' s', κ a' = κ a → s'.i ≤ j → CtG j pe κ2 s' (f a s') (f' a' s')) : CtG j pe κ2 s (r.bind f) (r'.bind f') := by
 refine ⟨fun l => ?_, fun l => (h.en l).bindF fun a s' l' => (hf a a s' rfl (Nat.le_of_eq l')).en l'⟩
 have h := h.lt l
 cases r with
 | ok a s1 => cases r' with
  | ok a' s1' =>
   rcases h with ⟨e, rfl, l'⟩ | l'
   ·exact (hf a a' _ e l').at l'
   ·exact ((hf a' a' s1' rfl (Nat.le_of_eq l')).en l').cg
  | bad p e s => exact CF.cg (j := j) h
  | out => exact CF.cg (r' := .out) trivial
 | bad p e s => trivial
 | out => trivial
theorem CtG.okk {g g' : α → β} (h : CtG j pe κ s r r') (hg : ∀ a a', κ a' = κ a → κ2 (g' a') = κ2 (g a)) : CtG j pe κ2 s (r.bind fun a s1 => .ok (g a) s1) (r'.bind fun a s1 => .ok (g' a) s1) := by
 refine ⟨fun l => ?_, fun l => (h.en l).bind⟩
 have h := h.lt l
 cases r with
 | ok a s1 => cases r' with
  | ok a' s1' => obtain ⟨e, rfl, l'⟩ := h; exact ⟨hg _ _ e, rfl, l'⟩
  | bad p e s => exact h
  | out => trivial
 | bad p e s => trivial
 | out => trivial
theorem CtQ.ok {a a' : α} (e : κ a' = κ a) : CtQ j pe κ s (.ok a s) (.ok a' s) := ⟨fun l => .inl ⟨e, rfl, Nat.le_of_lt l⟩, fun l => l⟩
end
section
variable {L L' : List T} {j : Nat} {pe : Int} (C : CutT L L' j pe) {α γ : Type} {κ : α → γ} {s : RS}
include C
theorem ct_isT (x : List UInt8) (l : s.i < j) : isT L' s x = isT L s x := by unfold isT; rw [C.lt s l]
theorem ct_no (x : List UInt8) (l : s.i = j) : isT L' s x = false := by unfold isT; rw [C.en s l]; rfl
theorem ct_wantE (x : List UInt8) (l : s.i < j) : sWant L' x s = sWant L x s := by
 unfold sWant fail
 rw [ct_isT C x l, C.lt s l]
theorem ct_want (x : List UInt8) : CtG j pe (fun _ => ()) s (sWant L x s) (sWant L' x s) := by
 refine ⟨fun l => ?_, fun l => ?_⟩
 ·rw [ct_wantE C x l]
  have g := want_gr L x s
  cases h : sWant L x s with
  | ok a s' =>
   refine ⟨rfl, rfl, ?_⟩
   have : s'.i = s.i + 1 := by
    unfold sWant at h
    cases h1 : isT L s x <;> rw [h1] at h
    ·cases h
    ·simp only [cond_true] at h
     cases h2 : (x == [40] || x == [91] || x == [123]) <;> rw [h2] at h
     ·simp only [cond_false] at h
      cases h3 : (x == [41] || x == [93] || x == [125]) <;> rw [h3] at h <;> cases h <;> rfl
     ·simp only [cond_true] at h
      cases h3 : decide (200 < w64 (s.op + 1)) <;> rw [h3] at h <;> cases h
      rfl
   omega
  | bad p e s' => trivial
  | out => trivial
 ·unfold sWant fail
  rw [ct_no C x l, C.en s l]
  exact ⟨rfl, rfl⟩
theorem ct_take (k : Int) (hk : k ≠ 0) : CtG j pe (fun _ => ()) s (sTake L k s) (sTake L' k s) := by
 refine ⟨fun l => ?_, fun l => ?_⟩
 ·unfold sTake fail
  rw [C.lt s l]
  cases ((cur L s).k == k) with
  | true => exact ⟨rfl, rfl, l⟩
  | false => trivial
 ·have : ((0 : Int) == k) = false := by simpa using fun e => hk e.symm
  unfold sTake fail
  rw [C.en s l, this]
  exact ⟨rfl, rfl⟩
theorem CtQ.may {x : List UInt8} {X Y X' Y' : RS → Res α} (hX : ∀ s', s'.i ≤ j → CtQ j pe κ s' (X s') (X' s')) (hY : CtQ j pe κ s (Y s) (Y' s)) :
    CtQ j pe κ s ((sMay L x s).bind fun b s1 => bif b then X s1 else Y s1) ((sMay L' x s).bind fun b s1 => bif b then X' s1 else Y' s1) := by
 unfold sMay
 refine ⟨fun l => ?_, fun l => ?_⟩
 ·rw [ct_isT C x l]
  cases isT L s x with
  | false => exact hY.lt l
  | true =>
   have h := (ct_want C x (s := s)).lt l
   rw [ct_wantE C x l] at h ⊢
   simp only [cond_true]
   revert h
   cases sWant L x s with
   | ok t s1 => exact fun h => (hX s1 h.2.2).at h.2.2
   | bad p e s1 => exact fun _ => trivial
   | out => exact fun _ => trivial
 ·rw [ct_no C x l]
  exact hY.en l
theorem CtG.may {x : List UInt8} {X Y X' Y' : RS → Res α} (hX : ∀ s', s'.i ≤ j → CtG j pe κ s' (X s') (X' s')) (hY : CtG j pe κ s (Y s) (Y' s)) :
    CtG j pe κ s ((sMay L x s).bind fun b s1 => bif b then X s1 else Y s1) ((sMay L' x s).bind fun b s1 => bif b then X' s1 else Y' s1) := by
 unfold sMay
 refine ⟨fun l => ?_, fun l => ?_⟩
 ·rw [ct_isT C x l]
  cases isT L s x with
  | false => exact hY.lt l
  | true =>
   have h := (ct_want C x (s := s)).lt l
   rw [ct_wantE C x l] at h ⊢
   simp only [cond_true]
   revert h
   cases sWant L x s with
   | ok t s1 => exact fun h => (hX s1 h.2.2).at h.2.2
   | bad p e s1 => exact fun _ => trivial
   | out => exact fun _ => trivial
 ·rw [ct_no C x l]
  exact hY.en l
theorem CtQ.ite {x : List UInt8} {X Y X' Y' : Res α} (hX : CtQ j pe κ s X X') (hY : CtQ j pe κ s Y Y') : CtQ j pe κ s (bif isT L s x then X else Y) (bif isT L' s x then X' else Y') := by
 refine ⟨fun l => ?_, fun l => ?_⟩
 ·rw [ct_isT C x l]
  cases isT L s x with
  | false => exact hY.lt l
  | true => exact hX.lt l
 ·rw [ct_no C x l]
  exact hY.en l
theorem CtQ.num {a a' : α} (e : κ a' = κ a) {Y Y' : Res α} (hY : CtQ j pe κ s Y Y') : CtQ j pe κ s (bif (cur L s).k == 3 then .ok a s.nx else Y) (bif (cur L' s).k == 3 then .ok a' s.nx else Y') := by
 refine ⟨fun l => ?_, fun l => ?_⟩
 ·rw [C.lt s l]
  cases ((cur L s).k == 3) with
  | true => exact .inl ⟨e, rfl, l⟩
  | false => exact hY.lt l
 ·rw [C.en s l]
  exact hY.en l
theorem ct_kind : ∀ (l : List Int) (s : RS), s.i ≤ j → CtG j pe (fun k : Int => k) s (sKind L l s) (sKind L' l s)
 | [], s, _ => by
  unfold sKind fail
  exact ⟨fun _ => trivial, fun l => by rw [C.en s l]; exact ⟨rfl, rfl⟩⟩
 | k :: r, s, hs => by
  have ih := ct_kind r s hs
  unfold sKind sMay
  refine ⟨fun l => ?_, fun l => ?_⟩
  ·rw [ct_isT C _ l]
   cases isT L s (tName k) with
   | false => exact ih.lt l
   | true =>
    have h := (ct_want C (tName k) (s := s)).lt l
    rw [ct_wantE C _ l] at h ⊢
    simp only [cond_true]
    revert h
    cases sWant L (tName k) s with
    | ok t s1 => exact fun h => ⟨rfl, rfl, h.2.2⟩
    | bad p e s1 => exact fun _ => trivial
    | out => exact fun _ => trivial
  ·rw [ct_no C _ l]
   exact ih.en l
theorem ct_sign (k : Int) (l : s.i < j) : sSign L' k s = sSign L k s := by
 have : ∀ m : List (Int × List UInt8 × Int), signOf L' s k m = signOf L s k m := fun m => by
  induction m with
  | nil => rfl
  | cons p m ih => obtain ⟨o, x, lv⟩ := p; simp only [signOf, ct_isT C x l, ih]
 exact this signs
theorem ct_sign0 (k : Int) (l : s.i = j) : sSign L' k s = (0, 0) := by
 have : ∀ m : List (Int × List UInt8 × Int), signOf L' s k m = (0, 0) := fun m => by
  induction m with
  | nil => rfl
  | cons p m ih => obtain ⟨o, x, lv⟩ := p; simp only [signOf, ct_no C x l, ih, Bool.and_false, cond_false]
 exact this signs
end
abbrev cu {α : Type} : α → Unit := fun _ => ()
structure CtA (L L' : List T) (j : Nat) (pe : Int) (n : Nat) : Prop where
 one : ∀ s : RS, s.i ≤ j → CtQ j pe cu s (sOne L n s) (sOne L' n s)
 place : ∀ s : RS, s.i ≤ j → CtQ j pe cu s (sPlace L n s) (sPlace L' n s)
 call : ∀ nm nm' p p' (s : RS), s.i ≤ j → CtQ j pe cu s (sCall L n nm p s) (sCall L' n nm' p' s)
 args : ∀ s : RS, s.i ≤ j → CtQ j pe cu s (sArgs L n s) (sArgs L' n s)
 more : ∀ l l' (s : RS), s.i ≤ j → CtQ j pe cu s (sMore L n l s) (sMore L' n l' s)
 expr : ∀ k (s : RS), s.i ≤ j → CtQ j pe cu s (sExpr L n k s) (sExpr L' n k s)
 tail : ∀ k e e' (s : RS), s.i ≤ j → CtQ j pe cu s (sTail L n k e s) (sTail L' n k e' s)
section
variable {L L' : List T} {j : Nat} {pe : Int} (C : CutT L L' j pe)
include C
theorem ctAll : ∀ n, CtA L L' j pe n
 | 0 => ⟨fun _ _ => ⟨fun _ => trivial, fun _ => trivial⟩, fun _ _ => ⟨fun _ => trivial, fun _ => trivial⟩, fun _ _ _ _ _ _ => ⟨fun _ => trivial, fun _ => trivial⟩, fun _ _ => ⟨fun _ => trivial, fun _ => trivial⟩, fun _ _ _ _ => ⟨fun _ => trivial, fun _ => trivial⟩, fun _ _ _ => ⟨fun _ => trivial, fun _ => trivial⟩, fun _ _ _ _ _ => ⟨fun _ => trivial, fun _ => trivial⟩⟩
 | n + 1 => by
  have ih := ctAll n
  have W := fun x s => (ct_want C x (s := s)).le
  refine ⟨fun s l => ?_, fun s l => ?_, fun nm nm' p p' s l => ?_, fun s l => ?_, fun r r' s l => ?_, fun k s l => ?_, fun k e e' s l => ?_⟩
  ·simp only [sOne]
   have un : ∀ (f f' : Ex → Ex) s', s'.i ≤ j → CtQ j pe cu s' ((sOne L n s').bind fun e s2 => .ok (f e) s2) ((sOne L' n s').bind fun e s2 => .ok (f' e) s2) := fun f f' s' h2 => (ih.one s' h2).bind fun _ _ _ _ _ => .ok rfl
   refine CtQ.may C (fun s' => un _ _ s') (CtQ.may C (fun s' => un _ _ s') (CtQ.may C (fun s' => un _ _ s') ?_))
   refine CtQ.num C (κ := cu) (by rfl) ?_
   refine CtQ.may C (fun s' _ => .ok rfl) (CtQ.may C (fun s' _ => .ok rfl) ?_)
   refine CtQ.may C (fun s' _ => (W _ s').bind fun _ _ s2 _ _ => (W _ s2).bind fun _ _ _ _ _ => .ok rfl) ?_
   refine CtQ.may C (fun s' _ => (W _ s').bind fun _ _ s2 _ _ => (ct_take C 1 (by decide)).le.bind fun _ _ s3 _ _ => (W _ s3).bind fun _ _ _ _ _ => .ok rfl) ?_
   refine CtQ.ite C ((W _ s).bind fun _ _ s2 _ h4 => (ih.expr _ s2 h4).bind fun _ _ s3 _ _ => (W _ s3).bind fun _ _ _ _ _ => .ok rfl) ?_
   exact (ct_take C 1 (by decide)).le.bind fun _ _ s2 _ h4 => CtQ.ite C ((ih.place s2 h4).bind fun _ _ _ _ _ => .ok rfl) (CtQ.ite C ((ih.call _ _ _ _ s2 h4).bind fun _ _ _ _ _ => .ok rfl) (.ok rfl))
  ·simp only [sPlace]
   exact (W _ s).bind fun _ _ s2 _ h4 => (ih.expr _ s2 h4).bind fun _ _ s3 _ _ => (W _ s3).bind fun _ _ _ _ _ => .ok rfl
  ·simp only [sCall]
   exact (ih.args s l).bind fun _ _ _ _ _ => .ok rfl
  ·simp only [sArgs]
   exact (W _ s).bind fun _ _ s2 _ h4 => CtQ.ite C ((W _ s2).bind fun _ _ _ _ _ => .ok rfl) ((ih.expr _ s2 h4).bind fun _ _ s3 _ h6 => (ih.more _ _ s3 h6).bind fun _ _ s4 _ _ => (W _ s4).bind fun _ _ _ _ _ => .ok rfl)
  ·simp only [sMore]
   exact CtQ.may C (fun s' h2 => (ih.expr _ s' h2).bind fun _ _ s3 _ h6 => ih.more _ _ s3 h6) (.ok rfl)
  ·simp only [sExpr]
   exact (ih.one s l).bind fun _ _ s2 _ h4 => ih.tail _ _ _ s2 h4
  ·simp only [sTail]
   refine ⟨fun h => ?_, fun h => ?_⟩
   ·rw [ct_sign C k h]
    cases hz : ((sSign L k s).1 == 0) with
    | true => exact .inl ⟨rfl, rfl, Nat.le_of_lt h⟩
    | false =>
     have hx : s.nx.i ≤ j := h
     exact ((ih.expr (w64 ((sSign L k s).2 + 1)) s.nx hx).bind fun _ _ s3 _ h6 => ih.tail k _ _ s3 h6).at hx
   ·rw [ct_sign0 C k h]
    exact h
theorem ct_let (n : Nat) (id p p' : Int) (s : RS) (l : s.i ≤ j) : CtQ j pe cu s (sLet L n id p s) (sLet L' n id p' s) := by
 have W := fun x s => (ct_want C x (s := s)).le
 unfold sLet
 refine (ct_take C 1 (by decide)).le.bind fun _ _ s2 _ h4 => (W _ s2).bind fun _ _ s3 _ h6 => (ct_kind C _ s3 h6).le.bind fun ty ty' s4 e h8 => ?_
 obtain rfl : ty' = ty := e
 cases ty' == 3 with
 | true => exact (W _ s4).bind fun _ _ s5 _ h9 => (ct_take C 3 (by decide)).le.bind fun _ _ s6 _ h10 => (W _ s6).bind fun _ _ s7 _ h11 => (W _ s7).bind fun _ _ _ _ _ => .ok rfl
 | false => exact CtQ.may C (fun s' h9 => ((ctAll C n).expr 1 s' h9).bind fun _ _ s6 _ _ => (W _ s6).bind fun _ _ _ _ _ => .ok rfl) ((W _ s4).bind fun _ _ _ _ _ => .ok rfl)
theorem ct_named (n : Nat) (id p p' : Int) (s : RS) (l : s.i ≤ j) : CtQ j pe cu s (sNamed L n id p s) (sNamed L' n id p' s) := by
 have W := fun x s => (ct_want C x (s := s)).le
 have A := ctAll C n
 unfold sNamed
 refine (ct_take C 1 (by decide)).le.bind fun _ _ s2 _ h4 => CtQ.ite C ((A.call _ _ _ _ s2 h4).bind fun _ _ s3 _ _ => (W _ s3).bind fun _ _ _ _ _ => .ok rfl) (CtQ.ite C ?_ ?_)
 ·exact (A.place s2 h4).bind fun _ _ s3 _ h6 => (W _ s3).bind fun _ _ s4 _ h8 => (A.expr 1 s4 h8).bind fun _ _ s5 _ _ => (W _ s5).bind fun _ _ _ _ _ => .ok rfl
 ·exact (W _ s2).bind fun _ _ s3 _ h6 => (A.expr 1 s3 h6).bind fun _ _ s4 _ _ => (W _ s4).bind fun _ _ _ _ _ => .ok rfl
theorem ct_stmt : ∀ n, (∀ s : RS, s.i ≤ j → CtG j pe cu s (sBlock L n s) (sBlock L' n s)) ∧ (∀ r r' (s : RS), s.i ≤ j → CtQ j pe cu s (sStmts L n r s) (sStmts L' n r' s)) ∧ (∀ s : RS, s.i ≤ j → CtQ j pe cu s (sStmt L n s) (sStmt L' n s))
 | 0 => ⟨fun _ _ => ⟨fun _ => trivial, fun _ => trivial⟩, fun _ _ _ _ => ⟨fun _ => trivial, fun _ => trivial⟩, fun _ _ => ⟨fun _ => trivial, fun _ => trivial⟩⟩
 | n + 1 => by
  obtain ⟨h1, h2, h3⟩ := ct_stmt n
  have W := fun x s => (ct_want C x (s := s)).le
  have A := ctAll C n
  refine ⟨fun s l => ?_, fun r r' s l => ?_, fun s l => ?_⟩
  ·simp only [sBlock]
   exact (W _ s).bindG fun _ _ s1 _ g2 => (h2 _ _ s1 g2).bindG fun _ _ s2 _ _ => (ct_want C [125]).okk fun _ _ _ => rfl
  ·simp only [sStmts]
   exact CtQ.ite C (.ok rfl) ((h3 s l).bind fun _ _ s1 _ g2 => h2 _ _ s1 g2)
  ·simp only [sStmt]
   have hi : s.st.i = s.i := rfl
   have l' : s.st.i ≤ j := l
   suffices h : CtQ j pe cu s.st (sStmt L (n + 1) s) (sStmt L' (n + 1) s) by
    simp only [sStmt] at h
    exact ⟨fun g => h.lt g, fun g => h.en g⟩
   simp only [sStmt]
   refine CtQ.may C (fun s' g2 => (ct_let C n _ _ _ s' g2).bind fun _ _ _ _ _ => .ok rfl) (CtQ.may C (fun s' g2 => ?_) (CtQ.may C (fun s' g2 => ?_) (CtQ.may C (fun s' g2 => ?_) (CtQ.may C (fun s' g2 => ?_) ?_))))
   ·exact (A.expr 1 s' g2).bind fun _ _ s2 _ g4 => (h1 s2 g4).le.bind fun _ _ s3 _ g6 => CtQ.may C (fun s4 g8 => (h1 s4 g8).le.bind fun _ _ _ _ _ => .ok rfl) (.ok rfl)
   ·exact (A.expr 1 s' g2).bind fun _ _ s2 _ g4 => (h1 s2 g4).le.bind fun _ _ _ _ _ => .ok rfl
   ·exact CtQ.ite C ((W _ s').bind fun _ _ _ _ _ => .ok rfl) ((A.expr 1 s' g2).bind fun _ _ s2 _ _ => (W _ s2).bind fun _ _ _ _ _ => .ok rfl)
   ·exact (A.expr 1 s' g2).bind fun _ _ s2 _ _ => (W _ s2).bind fun _ _ _ _ _ => .ok rfl
   ·exact (ct_named C n _ _ _ s.st l').bind fun _ _ _ _ _ => .ok rfl
theorem ct_param (s : RS) : CtQ j pe cu s (sParam L s) (sParam L' s) := (ct_take C 1 (by decide)).le.bind fun _ _ s1 _ _ => (ct_want C _).le.bind fun _ _ s2 _ h4 => (ct_kind C _ s2 h4).le.bind fun _ _ _ _ _ => .ok rfl
theorem ct_pmore : ∀ (n : Nat) (r r' : List Pm) (s : RS), s.i ≤ j → CtQ j pe cu s (sPMore L n r s) (sPMore L' n r' s)
 | 0, _, _, _, _ => ⟨fun _ => trivial, fun _ => trivial⟩
 | n + 1, r, r', s, l => by
  simp only [sPMore]
  exact CtQ.may C (fun s' _ => (ct_param C s').bind fun _ _ s2 _ h4 => ct_pmore n _ _ s2 h4) (.ok rfl)
theorem ct_params (n : Nat) (s : RS) : CtQ j pe cu s (sParams L n s) (sParams L' n s) := by
 have W := fun x s => (ct_want C x (s := s)).le
 unfold sParams
 exact (W _ s).bind fun _ _ s3 _ _ => CtQ.ite C ((W _ s3).bind fun _ _ _ _ _ => .ok rfl) ((ct_param C s3).bind fun _ _ s4 _ h8 => (ct_pmore C n _ _ s4 h8).bind fun _ _ s5 _ _ => (W _ s5).bind fun _ _ _ _ _ => .ok rfl)
theorem ct_fn (n : Nat) (s : RS) (l : s.i ≤ j) : CtG j pe cu s (sFn L n s) (sFn L' n s) := by
 have W := fun x s => (ct_want C x (s := s)).le
 have B := (ct_stmt C n).1
 unfold sFn
 exact (W _ s).bindG fun _ _ s1 _ _ => (ct_take C 1 (by decide)).le.bindG fun _ _ s2 _ _ => (ct_params C n s2).bindG fun _ _ s3 _ h6 => CtG.may C (fun s4 h8 => (ct_kind C _ s4 h8).le.bindG fun _ _ s5 _ h10 => (B s5 h10).okk fun _ _ _ => rfl) ((B s3 h6).okk fun _ _ _ => rfl)
theorem fns_len (L : List T) (N : Nat) : ∀ (n : Nat) (r : List Fn) (s : RS) (a : List Fn) (s' : RS), sFns L N n r s = .ok a s' → r.length ≤ a.length
 | 0, _, _, _, _, e => by cases e
 | n + 1, r, s, a, s', e => by
  simp only [sFns] at e
  cases hk : ((cur L s).k == 0) <;> rw [hk] at e
  ·simp only [cond_false] at e
   cases hf : sFn L N s <;> rw [hf] at e
   ·have := fns_len L N n _ _ a s' e
    simp only [List.length_append, List.length_cons, List.length_nil] at this
    omega
   ·cases e
   ·cases e
  ·cases e; exact Nat.le_refl _
def CutSays (pe : Int) (m : Nat) : Res (List Fn) → Prop
 | .ok a _ => a.length ≤ m
 | .bad p e _ => p = pe ∧ e = 4
 | .out => True
theorem cut_fns (N : Nat) : ∀ (n : Nat) (r r' : List Fn) (s : RS) (a : List Fn) (s' : RS), r'.length = r.length → s.i ≤ j → sFns L N n r s = .ok a s' → CutSays pe a.length (sFns L' N n r' s)
 | 0, _, _, _, _, _, _, _, e => by cases e
 | n + 1, r, r', s, a, s', hr, l, e => by
  have hl := fns_len C L N (n + 1) r s a s' e
  simp only [sFns] at e ⊢
  rcases Nat.lt_or_eq_of_le l with h | h
  ·rw [C.lt s h]
   cases hk : ((cur L s).k == 0) <;> rw [hk] at e
   ·simp only [cond_false] at e ⊢
    have g := (ct_fn C N s l).lt h
    revert e g
    cases sFn L N s with
    | ok f s1 =>
     cases sFn L' N s with
     | ok f' s1' =>
      rintro e ⟨_, rfl, l1⟩
      exact cut_fns N n (r ++ [f]) (r' ++ [f']) _ a s' (by simp [hr]) l1 e
     | bad p q s1' => exact fun _ g => g
     | out => exact fun _ _ => trivial
    | bad p q s1 => exact fun e => by cases e
    | out => exact fun e => by cases e
   ·show r'.length ≤ _
    omega
  ·rw [C.en s h]
   show r'.length ≤ _
   omega
theorem cut_prog (n : Nat) (a : List Fn) (s' : RS) (e : sProg L n = .ok a s') : CutSays pe a.length (sProg L' n) := by
 unfold sProg at e ⊢
 have g := (ct_fn C n ⟨0, 0, 0⟩ (Nat.zero_le _)).at (Nat.zero_le _)
 revert e g
 cases sFn L n ⟨0, 0, 0⟩ with
 | ok f s1 =>
  cases sFn L' n ⟨0, 0, 0⟩ with
  | ok f' s1' =>
   rintro e ⟨_, rfl, l1⟩
   exact cut_fns C n n [f] [f'] _ a s' rfl l1 e
  | bad p q s1' => exact fun _ g => g
  | out => exact fun _ _ => trivial
 | bad p q s1 => exact fun e => by cases e
 | out => exact fun e => by cases e
end
end Go.Avm
namespace Go.Avm
open Go.Proofs
theorem skipN_takeG : ∀ (c : Bool) (l : List UInt8) (m : Nat), skipN c l ≤ m → skipN c (l.take m) = skipN c l
 | _, [], m, _ => by simp [skipN]
 | true, b :: r, 0, h => by simp only [skipN] at h; omega
 | true, b :: r, m + 1, h => by
  simp only [skipN] at h
  have ih := skipN_takeG (notNl b) r m (by omega)
  simp only [List.take_succ_cons, skipN, ih]
 | false, b :: r, 0, h => by
  have h0 : skipN false (b :: r) = 0 := by omega
  rw [h0, List.take_zero]
  simp [skipN]
 | false, b :: r, m + 1, h => by
  simp only [skipN] at h
  simp only [List.take_succ_cons, skipN]
  split
  ·rename_i hw
   rw [if_pos hw] at h
   rw [skipN_takeG false r m (by omega)]
  ·rename_i hw
   rw [if_neg hw] at h
   split
   ·rename_i h35
    rw [if_pos h35] at h
    rw [skipN_takeG true r m (by omega)]
   ·rfl
theorem good_none {kd n : Int} {t : List UInt8} {h : Option UInt8} (hg : GoodT kd t n h) : GoodT kd t n none := by
 rcases hg with ⟨h0, h1, h2, h3, h4, h5, _⟩ | ⟨h0, h1, h2, h3, h4, h5, _⟩ | ⟨h0, h1, h2, h3, h4⟩
 ·exact .inl ⟨h0, h1, h2, h3, h4, h5, fun d hd' => by cases hd'⟩
 ·exact .inr (.inl ⟨h0, h1, h2, h3, h4, h5, fun d hd' => by cases hd'⟩)
 ·refine .inr (.inr ⟨h0, h1, h2, h3, ?_⟩)
  rcases h4 with h4 | ⟨b, hb, hs, _⟩
  ·exact .inl h4
  ·exact .inr ⟨b, hb, hs, fun d hd' => by cases hd'⟩
theorem good_take {kd n : Int} {t q : List UInt8} (m : Nat) (hg : GoodT kd t n q.head?) : GoodT kd t n (q.take m).head? := by
 cases m with
 | zero => rw [List.take_zero]; exact good_none hg
 | succ m => cases q with
  | nil => exact hg
  | cons b r => exact hg
theorem rise_get : ∀ {ts : List (Nat × Tok)} {lo hi j : Nat} {x : Nat × Tok}, Rise lo ts hi → ts[j]? = some x → lo ≤ x.1 ∧ x.1 < hi
 | [], _, _, _, _, _, h => by simp at h
 | y :: r, lo, hi, 0, x, hr, h => by
  simp only [Rise] at hr
  simp at h; subst h
  refine ⟨hr.1, ?_⟩
  have : ∀ {ts : List (Nat × Tok)} {lo hi : Nat}, Rise lo ts hi → lo ≤ hi := fun {ts} => by
   induction ts with
   | nil => intro lo hi h; simpa [Rise] using h
   | cons z r ih => intro lo hi h; simp only [Rise] at h; have := ih h.2; omega
  have := this hr.2
  omega
 | y :: r, lo, hi, j + 1, x, hr, h => by
  simp only [Rise] at hr
  simp at h
  have := rise_get hr.2 h
  omega
theorem scan_pre : ∀ (n N : Nat) (r : List UInt8) (a : Nat) (ts : List (Nat × Tok)) (j : Nat) (x : Nat × Tok), scanB n r a = .ok ts → r.length < n → (r.take (x.1 - a)).length < N → ts[j]? = some x → scanB N (r.take (x.1 - a)) a = .ok (ts.take j)
 | 0, _, _, _, _, _, _, _, h, _, _ => by omega
 | n + 1, N, [], a, ts, j, x, h, _, _, hx => by
  have : ts = [] := by cases h; rfl
  subst this
  simp at hx
 | n + 1, N, b :: r, a, ts, j, x, h, hn, hN, hx => by
  obtain ⟨N, rfl⟩ : ∃ k, N = k + 1 := ⟨N - 1, by omega⟩
  rw [scanB_cons] at h
  cases ht : tokL (b :: r) with
  | error k => rw [ht] at h; cases h
  | ok t =>
   obtain ⟨kd, T, m⟩ := t
   rw [ht] at h
   dsimp only at h
   obtain ⟨q, hq, hne, hg⟩ := tok_split ht
   have hTl : 0 < T.length := List.length_pos_iff.2 hne
   have hlen : (b :: r).length = T.length + q.length := by rw [hq, List.length_append]
   rw [hq, drop_app] at h
   split at h
   ·cases h
   ·rename_i ts1 hs
    cases h
    have hsk := skipN_le false q
    cases j with
    | zero =>
     simp at hx
     subst hx
     simp only [Nat.sub_self, List.take_zero]
     rfl
    | succ j =>
     have hx' : ts1[j]? = some x := by simpa using hx
     have hr := rise_get (scanB_rise _ _ _ _ hs) hx'
     have ih := scan_pre n N (q.drop (skipN false q)) _ ts1 j x hs (by rw [List.length_drop]; omega) (by rw [List.length_take, List.length_drop]; rw [List.length_take] at hN; omega) hx'
     have e1 : x.1 - a = T.length + (skipN false q + (x.1 - (a + T.length + skipN false q))) := by omega
     rw [hq, e1, List.take_length_add_append]
     have hk := skipN_takeG false q (skipN false q + (x.1 - (a + T.length + skipN false q))) (Nat.le_add_right _ _)
     rw [scanB_tok N T _ kd m a hne (good_take _ hg), hk, List.drop_take, Nat.add_sub_cancel_left, ih]
     try rfl
theorem scanF_pre {s : List UInt8} {ts : List (Nat × Tok)} (h : scanF s = .ok ts) {j : Nat} {x : Nat × Tok} (hx : ts[j]? = some x) : scanF (s.take x.1) = .ok (ts.take j) ∧ x.1 < s.length := by
 have hr := rise_get (scanF_rise h) hx
 refine ⟨?_, hr.2⟩
 unfold scanF at h ⊢
 have h1 := (rise_get (scanB_rise _ _ _ _ h) hx).1
 have hk := skipN_takeG false s x.1 h1
 have hsk := skipN_le false s
 rw [hk, List.drop_take]
 exact scan_pre _ _ _ _ ts j x h (by rw [List.length_drop]; omega) (by rw [List.length_take, List.length_take, List.length_drop]; omega) hx
theorem toksOf_cut {s : List UInt8} {ts : List (Nat × Tok)} {j : Nat} {x : Nat × Tok} (hx : ts[j]? = some x) : CutT (toksOf ts s.length) (toksOf (ts.take j) x.1) j (x.1 : Int) := by
 have hj : j < ts.length := by
  rcases Nat.lt_or_ge j ts.length with h | h
  ·exact h
  ·rw [List.getElem?_eq_none h] at hx; cases hx
 refine ⟨fun r hi => ?_, fun r hi => ?_⟩
 ·simp only [cur, toksOf, List.getD_eq_getElem?_getD]
  rw [List.getElem?_append_left (by simp; omega), List.getElem?_append_left (by simp; omega), List.map_take, List.getElem?_take, if_pos hi]
 ·simp only [cur, toksOf, List.getD_eq_getElem?_getD]
  rw [List.getElem?_append_right (by simp; omega)]
  have : r.i - ((ts.take j).map tkT).length = 0 := by simp; omega
  rw [this]
  rfl
theorem prog_noN {L : List T} (hL : Toks L) (h0 : 0 < L.length) {n : Nat} (hn : fuel L ≤ n) : sProg L n ≠ .out := by
 simp only [fuel] at hn
 exact ((g_fn hL n ⟨0, 0, 0⟩ h0 (by simp only; omega)).bind fun f s1 h1 h2 => g_fns hL n (by omega) n [f] s1 h2 (by omega)).1
theorem cut_parse {s : List UInt8} (hs : s.length ≤ 20000) {ts : List (Nat × Tok)} (h : scanF s = .ok ts) {l : List Fn} {s' : RS} (hp : treeOf ts s.length = .ok l s') {j : Nat} {x : Nat × Tok} (hx : ts[j]? = some x) :
    (Pure Pg 9 [.str (s.take x.1)] [.agg [.ro []], .int .i64 (x.1 : Int), .int .i64 4]) ∨ ∃ l2, Pure Pg 9 [.str (s.take x.1)] [.agg [.ro (fnL l2)], .int .i64 0, .int .i64 0] ∧ l2.length ≤ l.length := by
 obtain ⟨h1, h2⟩ := scanF_pre h hx
 have hsc := scanC (s.take x.1)
 unfold scanRes at hsc
 rw [if_neg (by rw [List.length_take]; omega), h1] at hsc
 have hl := scanF_len h
 have hlt : (s.take x.1).length = x.1 := by rw [List.length_take]; omega
 have hok := toksOf_ok (ts := ts.take j) (n := x.1) (by rw [List.length_take]; omega)
 have hf : fuel (toksOf (ts.take j) x.1) ≤ fuel (toksOf ts s.length) := by simp only [fuel, toksOf, List.length_append, List.length_map, List.length_take, List.length_singleton]; omega
 have hno := prog_noN hok (toksOf_pos _ _) hf
 have hc := parseC hok (toksOf_pos _ _) (by rw [toksD_of]; rw [hlt] at hsc; exact hsc) _ hno
 unfold treeOf at hp
 have hsay := cut_prog (toksOf_cut (s := s) hx) _ l s' hp
 revert hc hsay hno
 cases sProg (toksOf (ts.take j) x.1) (fuel (toksOf ts s.length)) with
 | ok l2 s2 => exact fun _ hc hsay => .inr ⟨l2, hc, hsay⟩
 | bad p e s2 =>
  rintro _ hc ⟨rfl, rfl⟩
  exact .inl hc
 | out => exact fun hno => absurd rfl hno
end Go.Avm
namespace Go.Avm
open Go.Proofs
def hU (P : Program) (k : IntKind) (x y : Int) (h : x = y) : Hint P := .val (.d (.int k x)) (.d (.int k y)) (by rw [h])
def classI (b : UInt8) : Int := if wsp b then 1 else if isSm b then 2 else if isDig b then 3 else if b == 35 then 5 else if great b then 6 else if sg1 b then 4 else 0
noncomputable def clsAt (q n : Nat) : Option (List D) := callDE Pg (execE Pg (fun _ _ => false) (fun _ => false) .none 1000) 27 [.int .u8 ((32 * q + n : Nat) : Int)]
set_option maxRecDepth 100000 in
theorem classAll_0 : ((List.range 32).map fun n => clsAt 0 n) = (List.range 32).map fun n => some [.int .i64 (classI (UInt8.ofNat (32 * 0 + n)))] := by kernel_rfl
set_option maxRecDepth 100000 in
theorem classAll_1 : ((List.range 32).map fun n => clsAt 1 n) = (List.range 32).map fun n => some [.int .i64 (classI (UInt8.ofNat (32 * 1 + n)))] := by kernel_rfl
set_option maxRecDepth 100000 in
theorem classAll_2 : ((List.range 32).map fun n => clsAt 2 n) = (List.range 32).map fun n => some [.int .i64 (classI (UInt8.ofNat (32 * 2 + n)))] := by kernel_rfl
set_option maxRecDepth 100000 in
theorem classAll_3 : ((List.range 32).map fun n => clsAt 3 n) = (List.range 32).map fun n => some [.int .i64 (classI (UInt8.ofNat (32 * 3 + n)))] := by kernel_rfl
set_option maxRecDepth 100000 in
theorem classAll_4 : ((List.range 32).map fun n => clsAt 4 n) = (List.range 32).map fun n => some [.int .i64 (classI (UInt8.ofNat (32 * 4 + n)))] := by kernel_rfl
set_option maxRecDepth 100000 in
theorem classAll_5 : ((List.range 32).map fun n => clsAt 5 n) = (List.range 32).map fun n => some [.int .i64 (classI (UInt8.ofNat (32 * 5 + n)))] := by kernel_rfl
set_option maxRecDepth 100000 in
theorem classAll_6 : ((List.range 32).map fun n => clsAt 6 n) = (List.range 32).map fun n => some [.int .i64 (classI (UInt8.ofNat (32 * 6 + n)))] := by kernel_rfl
set_option maxRecDepth 100000 in
theorem classAll_7 : ((List.range 32).map fun n => clsAt 7 n) = (List.range 32).map fun n => some [.int .i64 (classI (UInt8.ofNat (32 * 7 + n)))] := by kernel_rfl
theorem classC (b : UInt8) : Pure Pg 27 [bD b] [.int .i64 (classI b)] := by
 have key : ∀ q, q < 8 → ((List.range 32).map fun n => clsAt q n) = (List.range 32).map fun n => some [.int .i64 (classI (UInt8.ofNat (32 * q + n)))] := fun q hq => by
  match q, hq with
  | 0, _ => exact classAll_0
  | 1, _ => exact classAll_1
  | 2, _ => exact classAll_2
  | 3, _ => exact classAll_3
  | 4, _ => exact classAll_4
  | 5, _ => exact classAll_5
  | 6, _ => exact classAll_6
  | 7, _ => exact classAll_7
 have hb := b.toNat_lt
 have h := List.map_inj_left.1 (key (b.toNat / 32) (by omega)) (b.toNat % 32) (List.mem_range.2 (Nat.mod_lt _ (by decide)))
 rw [clsAt, Nat.div_add_mod, UInt8.ofNat_toNat] at h
 exact pure_of_exec okP named _ _ 1000 h
def classFits (n : Nat) : Bool :=
 ((classI (UInt8.ofNat n) == 1) == wsp (UInt8.ofNat n)) && ((classI (UInt8.ofNat n) == 2) == isSm (UInt8.ofNat n)) && ((classI (UInt8.ofNat n) == 3) == isDig (UInt8.ofNat n)) && ((classI (UInt8.ofNat n) == 5) == (UInt8.ofNat n == 35)) && ((classI (UInt8.ofNat n) == 6) == great (UInt8.ofNat n)) &&
  (!(sg1 (UInt8.ofNat n)) || (classI (UInt8.ofNat n) == 4)) && (!(classI (UInt8.ofNat n) == 4) || (sg1 (UInt8.ofNat n)))
theorem classAll2 : (List.range 256).all classFits = true := by kernel_rfl
theorem class_spec (b : UInt8) : (classI b == 1) = wsp b ∧ (classI b == 2) = isSm b ∧ (classI b == 3) = isDig b ∧ (classI b == 5) = (b == 35) ∧ (classI b == 6) = great b ∧ (classI b == 4) = sg1 b := by
 have h := List.all_eq_true.1 classAll2 b.toNat (List.mem_range.2 b.toNat_lt)
 unfold classFits at h
 rw [UInt8.ofNat_toNat] at h
 simp only [Bool.and_eq_true, beq_iff_eq] at h
 obtain ⟨⟨⟨⟨⟨⟨h1, h2⟩, h3⟩, h4⟩, h5⟩, h6⟩, h7⟩ := h
 refine ⟨h1, h2, h3, h4, h5, ?_⟩
 cases hs : sg1 b <;> cases hc : (classI b == 4) <;> simp [hs, hc] at h6 h7 ⊢
def eqI (b : UInt8) (k : Int) : Bool := (b.toNat : Int) == k
def pairM (e a61 a33 a60 a62 ab a38 a124 : Bool) : Bool := if e then (a61 || a33 || a60 || a62) else ab && (a38 || a124 || a60 || a62)
noncomputable def pairPr (a b : UInt8) (e a61 a33 a60 a62 ab a38 a124 : Bool) (h1 : eqI b 61 = e) (h2 : eqI a 61 = a61) (h3 : eqI a 33 = a33) (h4 : eqI a 60 = a60) (h5 : eqI a 62 = a62) (h6 : ((a.toNat : Int) == (b.toNat : Int)) = ab) (h7 : eqI a 38 = a38) (h8 : eqI a 124 = a124) : Par Pg :=
 { hint := fun f k => if f = 30 then (if k = 6 then some (hB Pg _ e h1) else if k = 8 then some (hB Pg _ a61 h2) else if k = 11 then some (hB Pg _ a33 h3) else if k = 15 then some (hB Pg _ a60 h4) else if k = 19 then some (hB Pg _ a62 h5) else if k = 23 then some (hB Pg _ ab h6)
     else if k = 26 then some (hB Pg _ a38 h7) else if k = 29 then some (hB Pg _ a124 h8) else if k = 33 then some (hB Pg _ a60 h4) else if k = 37 then some (hB Pg _ a62 h5) else none) else none }
theorem pairC0 (a b : UInt8) (e a61 a33 a60 a62 ab a38 a124 : Bool) (h1 : eqI b 61 = e) (h2 : eqI a 61 = a61) (h3 : eqI a 33 = a33) (h4 : eqI a 60 = a60) (h5 : eqI a 62 = a62) (h6 : ((a.toNat : Int) == (b.toNat : Int)) = ab) (h7 : eqI a 38 = a38) (h8 : eqI a 124 = a124) :
    Pure Pg 30 [bD a, bD b] [.bool (pairM e a61 a33 a60 a62 ab a38 a124)] := by
 cases e with
 | true => cases a61 <;> cases a33 <;> cases a60 <;> cases a62 <;> exact pure_of_run okP named (pairPr a b _ _ _ _ _ _ _ _ h1 h2 h3 h4 h5 h6 h7 h8) 1000 (by kernel_rfl)
 | false => cases ab <;> cases a38 <;> cases a124 <;> cases a60 <;> cases a62 <;> exact pure_of_run okP named (pairPr a b _ _ _ _ _ _ _ _ h1 h2 h3 h4 h5 h6 h7 h8) 1000 (by kernel_rfl)
theorem eqI_iff (b : UInt8) (k : Nat) : eqI b (k : Int) = true ↔ b.toNat = k := by
 simp only [eqI, beq_iff_eq]; omega
theorem u8_iff (a b : UInt8) : a = b ↔ a.toNat = b.toNat := ⟨fun h => by rw [h], fun h => UInt8.toNat_inj.1 h⟩
theorem pairC (a b : UInt8) : Pure Pg 30 [bD a, bD b] [.bool (prs.contains [a, b])] := by
 have h := pairC0 a b _ _ _ _ _ _ _ _ rfl rfl rfl rfl rfl rfl rfl rfl
 have e : pairM (eqI b 61) (eqI a 61) (eqI a 33) (eqI a 60) (eqI a 62) ((a.toNat : Int) == (b.toNat : Int)) (eqI a 38) (eqI a 124) = prs.contains [a, b] := by
  have g : ∀ k : Nat, eqI b k = true ↔ b.toNat = k := eqI_iff b
  have g' : ∀ k : Nat, eqI a k = true ↔ a.toNat = k := eqI_iff a
  have e1 := g 61
  have f1 := g' 61
  have f2 := g' 33
  have f3 := g' 60
  have f4 := g' 62
  have f5 := g' 38
  have f6 := g' 124
  rw [Bool.eq_iff_iff]
  simp only [prs, List.contains_eq_mem, decide_eq_true_eq, List.mem_cons, List.not_mem_nil, or_false, List.cons.injEq, and_true, u8_iff a, u8_iff b]
  unfold pairM
  split
  ·rename_i he
   have := e1.1 he
   simp only [Bool.or_eq_true]
   rw [show (eqI a 61 = true) = (a.toNat = 61) from propext f1, show (eqI a 33 = true) = (a.toNat = 33) from propext f2, show (eqI a 60 = true) = (a.toNat = 60) from propext f3, show (eqI a 62 = true) = (a.toNat = 62) from propext f4]
   simp only [show (61 : UInt8).toNat = 61 from rfl, show (33 : UInt8).toNat = 33 from rfl, show (60 : UInt8).toNat = 60 from rfl, show (62 : UInt8).toNat = 62 from rfl, show (38 : UInt8).toNat = 38 from rfl, show (124 : UInt8).toNat = 124 from rfl]
   omega
  ·rename_i he
   have hb : ¬ b.toNat = 61 := fun hx => he (e1.2 hx)
   simp only [Bool.and_eq_true, Bool.or_eq_true, beq_iff_eq]
   rw [show (eqI a 38 = true) = (a.toNat = 38) from propext f5, show (eqI a 124 = true) = (a.toNat = 124) from propext f6, show (eqI a 60 = true) = (a.toNat = 60) from propext f3, show (eqI a 62 = true) = (a.toNat = 62) from propext f4]
   simp only [show (61 : UInt8).toNat = 61 from rfl, show (33 : UInt8).toNat = 33 from rfl, show (60 : UInt8).toNat = 60 from rfl, show (62 : UInt8).toNat = 62 from rfl, show (38 : UInt8).toNat = 38 from rfl, show (124 : UInt8).toNat = 124 from rfl]
   omega
 rw [e] at h
 exact h
theorem dv_snoc (t : List UInt8) (y : UInt8) (acc : Nat) : dv acc (t ++ [y]) = dv acc t * 10 + (y.toNat - 48) := by
 simp only [dv, List.foldl_append, List.foldl_cons, List.foldl_nil]
def vaE (t : List UInt8) (V i : Nat) : List (Nat × AV) := [(0, .d (.str t)), (4, dN V), (5, dN i)]
section
variable (t : List UInt8) (V i : Nat)
noncomputable def vaPr (b : UInt8) (d : Nat) (hd : b.toNat = 48 + d) (hd9 : d ≤ 9) (hi : i < t.length) (hb : t[((i : Nat) : Int).toNat]? = some b) (hlen : t.length ≤ 100000) (u : Bool) (hu : decide ((9223372036854775807 - d) / 10 < V) = u) (hV : V < 9223372036854775808) : Par Pg :=
 { hint := fun f k => if f = 29 then (if k = 10 then some (qL hi) else if k = 15 then some (.sidx t (i : Int) b (by omega) hb) else if k = 16 then some (hU Pg .u8 (IntKind.u8.wrap ((b.toNat : Int) - 48)) (d : Int) (by rw [IntWalk.u8_in _ (by omega)]; omega))
     else if k = 17 then some (hU Pg .i64 (IntKind.i64.wrap (d : Int)) (d : Int) (by rw [IntWalk.i64_in _ (by omega)])) else if k = 20 then some (hU Pg .i64 (IntKind.i64.wrap (9223372036854775807 - (d : Int))) ((9223372036854775807 - d : Nat) : Int) (by rw [IntWalk.i64_in _ (by omega)]; omega))
     else if k = 21 then some (hU Pg .i64 (IntKind.i64.wrap (((9223372036854775807 - d : Nat) : Int).tdiv 10)) (((9223372036854775807 - d) / 10 : Nat) : Int) (by rw [IntWalk.i64_quo _ _ (by omega)]; omega))
     else if k = 22 then some (.val (dB (decide ((((9223372036854775807 - d) / 10 : Nat) : Int) < (V : Int)))) (dB u) (by rw [← hu]; congr 2; exact propext Int.ofNat_lt))
     else if k = 24 then (if h : u = false then some (hU Pg .i64 (IntKind.i64.wrap (10 * (V : Int))) ((10 * V : Nat) : Int) (by subst h; have := of_decide_eq_false hu; rw [IntWalk.i64_in _ (by omega)]; omega)) else none)
     else if k = 26 then (if h : u = false then some (hU Pg .i64 (IntKind.i64.wrap (((10 * V : Nat) : Int) + (d : Int))) ((V * 10 + d : Nat) : Int) (by subst h; have := of_decide_eq_false hu; rw [IntWalk.i64_in _ (by omega)]; omega)) else none)
     else if k = 12 then some (hSucc Pg i (by omega)) else none) else none }
section
variable (b : UInt8) (d : Nat) (hd : b.toNat = 48 + d) (hd9 : d ≤ 9) (hi : i < t.length) (hb : t[((i : Nat) : Int).toNat]? = some b) (hlen : t.length ≤ 100000)
include b d hd hd9 hi hb hlen
theorem vaNext (hu : decide ((9223372036854775807 - d) / 10 < V) = false) (hV : V < 9223372036854775808) (rest : Heap) (X : Fix) (hP : X.P = Pg) (hN : X.N = 28) :
    AW X (lO 29 3) ⟨envOf (vaE t V i), ovl [] rest⟩ fun e' S' => e' = .normal ∧ Weak X S' ⟨envOf (vaE t (V * 10 + d) (i + 1)), ovl [] rest⟩ :=
 seg okP named (vaPr t V i b d hd hd9 hi hb hlen false hu hV) 1000 29 700000 28 (by kernel_rfl) X hP hN
theorem vaGreat (hu : decide ((9223372036854775807 - d) / 10 < V) = true) (hV : V < 9223372036854775808) (rest : Heap) (X : Fix) (hP : X.P = Pg) (hN : X.N = 28) :
    AW X (lO 29 3) ⟨envOf (vaE t V i), ovl [] rest⟩ fun e' S' => e' = .ret ∧ Weak X S' ⟨envOf [(2, dI 0), (3, dB false)], ovl [] rest⟩ :=
 seg okP named (vaPr t V i b d hd hd9 hi hb hlen true hu hV) 1000 29 700000 28 (by kernel_rfl) X hP hN
end
theorem vaStop (rest : Heap) (X : Fix) (hP : X.P = Pg) (hN : X.N = 28) :
    AW X (lO 29 3) ⟨envOf (vaE t V t.length), ovl [] rest⟩ fun e' S' => e' = .exit 0 ∧ Weak X S' ⟨envOf [(4, dN V)], ovl [] rest⟩ :=
 seg okP named { hint := fun f k => if f = 29 then (if k = 10 then some (qG t.length) else none) else none } 1000 29 700000 28 (by kernel_rfl) X hP hN
end
theorem dv_app (acc : Nat) (x y : List UInt8) : dv acc (x ++ y) = dv (dv acc x) y := by simp only [dv, List.foldl_append]
theorem vaLoop (t : List UInt8) (hall : ∀ x ∈ t, isDig x = true) (hlen : t.length ≤ 100000) : ∀ (k i : Nat), i + k = t.length → dv 0 (t.take i) < 9223372036854775808 →
    (dv 0 t < 9223372036854775808 → RL 28 (lO 29 3) (vaE t (dv 0 (t.take i)) i) [] (.exit 0) [(4, dN (dv 0 t))] []) ∧
    (9223372036854775808 ≤ dv 0 t → RL 28 (lO 29 3) (vaE t (dv 0 (t.take i)) i) [] .ret [(2, dI 0), (3, dB false)] [])
 | 0, i, hik, hV => by
  have : i = t.length := by omega
  subst this
  rw [List.take_length] at hV ⊢
  exact ⟨fun _ rest X hP hN => lw_end (vaStop t _ rest X hP hN) (by simp), fun h => by omega⟩
 | k + 1, i, hik, hV => by
  have hi : i < t.length := by omega
  have hb := List.getElem?_eq_getElem hi
  have hdig := (isDig_iff _).1 (hall t[i] (List.getElem_mem hi))
  obtain ⟨d, hd, hd9⟩ : ∃ d, t[i].toNat = 48 + d ∧ d ≤ 9 := ⟨t[i].toNat - 48, by omega, by omega⟩
  have hsn : dv 0 (t.take (i + 1)) = dv 0 (t.take i) * 10 + d := by
   rw [List.take_add_one, hb, Option.toList_some, dv_snoc, hd]; omega
  have hmon : dv 0 (t.take (i + 1)) ≤ dv 0 t := by
   have h1 : dv 0 t = dv 0 (t.take (i + 1) ++ t.drop (i + 1)) := by rw [List.take_append_drop]
   rw [h1, dv_app]
   exact dv_le _ _
  cases hu : decide ((9223372036854775807 - d) / 10 < dv 0 (t.take i)) with
  | true =>
   have := of_decide_eq_true hu
   exact ⟨fun h => by omega, fun _ rest X hP hN => lw_end (vaGreat t _ i t[i] d hd hd9 hi (by rw [Int.toNat_natCast]; exact hb) hlen hu hV rest X hP hN) (by simp)⟩
  | false =>
   have := of_decide_eq_false hu
   have ih := vaLoop t hall hlen k (i + 1) (by omega) (by rw [hsn]; omega)
   rw [hsn] at ih
   exact ⟨fun h rest X hP hN => lw_seg (vaNext t _ i t[i] d hd hd9 hi (by rw [Int.toNat_natCast]; exact hb) hlen hu hV rest X hP hN) (ih.1 h rest X hP hN),
    fun h rest X hP hN => lw_seg (vaNext t _ i t[i] d hd hd9 hi (by rw [Int.toNat_natCast]; exact hb) hlen hu hV rest X hP hN) (ih.2 h rest X hP hN)⟩
theorem valueC (t : List UInt8) (hall : ∀ x ∈ t, isDig x = true) (hlen : t.length ≤ 100000) :
    (dv 0 t < 9223372036854775808 → Pure Pg 29 [.str t] [.int .i64 (dv 0 t : Int), .bool true]) ∧ (9223372036854775808 ≤ dv 0 t → Pure Pg 29 [.str t] [.int .i64 0, .bool false]) := by
 have h := vaLoop t hall hlen t.length 0 (by omega) (by rw [List.take_zero, dv_nil]; decide)
 rw [List.take_zero, dv_nil] at h
 exact ⟨fun hv => pure_of_run okP named { loops := fun f r => if f = 29 then (if r = 3 then some ⟨28, loopOf Pg 29 3, vaE t 0 0, fun _ => [], .exit 0, [(4, dN (dv 0 t))], fun _ => [], fun rest X hP hN => (h.1 hv rest X hP hN).aw⟩ else none) else none } 1000 (by kernel_rfl),
  fun hv => pure_of_run okP named { loops := fun f r => if f = 29 then (if r = 3 then some ⟨28, loopOf Pg 29 3, vaE t 0 0, fun _ => [], .ret, [(2, dI 0), (3, dB false)], fun _ => [], fun rest X hP hN => (h.2 hv rest X hP hN).aw⟩ else none) else none } 1000 (by kernel_rfl)⟩
end Go.Avm
