/-
  Scans: the document's scanner hands back what lex.Scan does; the law, on data.
-/
import Derived.Test.YtdmjbpkdngmgkaaDoorLexS
set_option linter.unusedSectionVars false
namespace Go.Avm
open Go.Proofs

section
variable (s : List UInt8)
noncomputable def rsPar (h : Option (LHint Tryd.prog)) (z : Bool) (hz : decide (20000 < (s.length : Int)) = z) (l : List D) (hl : l.length + 1 ≤ 549755813888) : Par Tryd.prog :=
  { hint := fun f' k => if f' = 10 then (if k = 13 then some (hB Tryd.prog _ z hz) else if k = 182 then some (.app l 1 hl) else none) else none
    nils := fun f' r => if f' = 10 then (if r = 4 then some { k := 0, i := 5, K := 1, sz := 4, slot := true } else none) else none
    loops := fun f' r => if f' = 10 then (if r = 5 then h else none) else none }
theorem refLong (h : decide (20000 < (s.length : Int)) = true) : Pure Tryd.prog 10 [.str s] [.ro [], .int .i64 0, .int .i64 2] :=
  pure_of_run okP named (rsPar s none true h [] (by decide)) 1000 (by kernel_rfl)
noncomputable def rsLH (e : Exit) (l' : List (Nat × AV)) (hp : List (Nat × Ent)) (h : ∀ (rest : Heap) (X : Fix), X.P = Tryd.prog → X.N = 183 → LW X (loopOf Tryd.prog 10 5) ⟨envOf (rfE s 0 0 []), ovl (rfHp 0 0) rest⟩ fun e' S' => e' = e ∧ S' = ⟨envOf l', ovl hp rest⟩) : LHint Tryd.prog :=
  ⟨183, loopOf Tryd.prog 10 5, rfE s 0 0 [], fun _ => rfHp 0 0, e, l', fun _ => hp, fun rest X hP hN => (h rest X hP hN).aw⟩
theorem refBadC (h : decide (20000 < (s.length : Int)) = false) (p : Nat) (k : Int) (v' x' : Nat)
    (hl : ∀ (rest : Heap) (X : Fix), X.P = Tryd.prog → X.N = 183 → LW X (loopOf Tryd.prog 10 5) ⟨envOf (rfE s 0 0 []), ovl (rfHp 0 0) rest⟩ fun e' S' => e' = .ret ∧ S' = ⟨envOf [(2, .nils), (3, dN p), (4, dI k)], ovl (rfHp v' x') rest⟩) :
    Pure Tryd.prog 10 [.str s] [.ro [], .int .i64 (p : Int), .int .i64 k] :=
  pure_of_run okP named (rsPar s (some (rsLH s _ _ _ hl)) false h [] (by decide)) 1000 (by kernel_rfl)
theorem refGood (h : decide (20000 < (s.length : Int)) = false) (v' x' : Nat) (l' : List D) (hl' : l'.length + 1 ≤ 549755813888)
    (hl : ∀ (rest : Heap) (X : Fix), X.P = Tryd.prog → X.N = 183 → LW X (loopOf Tryd.prog 10 5) ⟨envOf (rfE s 0 0 []), ovl (rfHp 0 0) rest⟩ fun e' S' => e' = .exit 0 ∧ S' = ⟨envOf (rfE s s.length v' l'), ovl (rfHp v' x') rest⟩) :
    Pure Tryd.prog 10 [.str s] [.ro (l' ++ [tokD 0 s.length [] 0]), .int .i64 0, .int .i64 0] :=
  pure_of_run okP named (rsPar s (some (rsLH s _ _ _ hl)) false h l' hl') 1000 (by kernel_rfl)
end
/-- The document's scanner. -/
theorem refScanC (s : List UInt8) : Pure Tryd.prog 10 [.str s] [.ro (scanRes s).1, .int .i64 (scanRes s).2.1, .int .i64 (scanRes s).2.2] := by
  unfold scanRes
  by_cases h : 20000 < s.length
  · rw [if_pos h]
    exact refLong s (by simp only [decide_eq_true_eq]; omega)
  · rw [if_neg h]
    have hz : decide (20000 < (s.length : Int)) = false := by simp only [decide_eq_false_iff_not]; omega
    have hl := refLoop s (by omega) (s.length + 1) (s.length + 1) 0 0 0 [] (by omega) (Nat.zero_le _) (by omega) (Nat.zero_le _)
    have he : scanB (s.length + 1) (s.drop (blankTo s 0)) (blankTo s 0) = scanF s := by
      unfold scanF blankTo
      rw [List.drop_zero, Nat.zero_add]
    rw [he] at hl
    cases hs : scanF s with
    | error e =>
      obtain ⟨p, k⟩ := e
      rw [hs] at hl
      obtain ⟨v', x', hh⟩ := hl
      exact refBadC s hz p k v' x' hh
    | ok ts =>
      rw [hs] at hl
      obtain ⟨hle, v', x', hh⟩ := hl
      exact refGood s hz v' x' _ (by rw [List.nil_append] at hle; omega) hh
theorem scanB_lenV : ∀ (n : Nat) (r : List UInt8) (a : Nat) (ts : List (Nat × Tok)), scanB n r a = .ok ts → ts.length ≤ n
  | 0, r, a, ts, h => by cases h; exact Nat.le_refl _
  | n + 1, [], a, ts, h => by cases h; exact Nat.zero_le _
  | n + 1, b :: r, a, ts, h => by
    rw [scanB_cons] at h
    cases ht : tokL (b :: r) with
    | error k' => rw [ht] at h; cases h
    | ok t =>
      rw [ht] at h
      dsimp only at h
      split at h
      · cases h
      · rename_i ts1 hs
        cases h
        have := scanB_lenV n _ _ ts1 hs
        simp only [List.length_cons]; omega
theorem scanRes_toks (s : List UInt8) : ∃ X : List (Nat × Tok), (scanRes s).1 = X.map tokOf ∧ X.length ≤ 1000000 := by
  unfold scanRes
  by_cases h : 20000 < s.length
  · rw [if_pos h]
    exact ⟨[], rfl, by simp⟩
  · rw [if_neg h]
    cases hs : scanF s with
    | error e => exact ⟨[], rfl, by simp⟩
    | ok ts =>
      have := scanB_lenV _ _ _ _ hs
      exact ⟨ts ++ [(s.length, (0, [], 0))], by rw [List.map_append]; rfl, by simp; omega⟩

noncomputable def slPr (s : List UInt8) (L : List D) (a e : Int) (h1 : Pure Tryd.prog 9 [.str s] [.ro L, .int .i64 a, .int .i64 e]) (h2 : Pure Tryd.prog 10 [.str s] [.ro L, .int .i64 a, .int .i64 e]) (h3 : Pure Tryd.prog 12 [.ro L, .ro L] [.bool true]) : Par Tryd.prog :=
  { hint := fun f k => if f = 3 then (if k = 11 then some (.call 9 _ _ h1) else if k = 17 then some (.call 10 _ _ h2) else if k = 21 then some (.call 11 [] [.bool true] awakeP) else if k = 25 then some (.call 12 _ _ h3) else if k = 30 then some (hB Tryd.prog (a == a) true (by simp)) else if k = 35 then some (hB Tryd.prog (e == e) true (by simp)) else none) else none }
theorem slRun (s : List UInt8) (L : List D) (a e : Int) (h1 : Pure Tryd.prog 9 [.str s] [.ro L, .int .i64 a, .int .i64 e]) (h2 : Pure Tryd.prog 10 [.str s] [.ro L, .int .i64 a, .int .i64 e]) (h3 : Pure Tryd.prog 12 [.ro L, .ro L] [.bool true]) : Pure Tryd.prog 3 [.str s] [.bool true] :=
  pure_of_run okP named (slPr s L a e h1 h2 h3) 1000 (by kernel_rfl)
theorem scansLaw (s : List UInt8) : Pure Tryd.prog 3 [.str s] [.bool true] := by
  obtain ⟨X, hX, hl⟩ := scanRes_toks s
  exact slRun s _ _ _ (scanC s) (refScanC s) (by rw [hX]; exact sameC X hl)
end Go.Avm
