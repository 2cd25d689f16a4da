/-
  Places: the law, on data.
-/
import Derived.Test.YtdmjbpkdngmgkaaDoorLexPc
set_option linter.unusedSectionVars false
namespace Go.Avm
open Go.Proofs

def endT (s : List UInt8) : D := tokD 0 s.length [] 0
/-- Where the rounds stand. -/
def plJ (s : List UInt8) (ts : List (Nat × Tok)) (x : Nat × Nat) : Prop :=
  (∃ us, ts.drop x.1 = us ∧ x.1 ≤ ts.length ∧ Laid s x.2 us ∧ x.2 ≤ s.length) ∨ x.1 = ts.length + 1
theorem plLoop (s m : List UInt8) (ts : List (Nat × Tok)) (hs : s.length ≤ 20000) (hl : ts.length ≤ 100000) (h0 : Laid s 0 ts) (rest : Heap) (X : Fix) (hP : X.P = Tryd.prog) (hN : X.N = 154) :
    AW X (.loop (loopOf Tryd.prog 6 10)) ⟨envOf (plE s m (ts.map tokOf ++ [endT s]) 0 0), ovl (plHp 0 rest) rest⟩ fun e' S' => e' = .exit 0 ∧ S' = ⟨envOf [(0, .d (.str s)), (1, .d (.str m)), (5, .d (.ro (ts.map tokOf ++ [endT s])))], ovl (plHp (ts.map tokOf ++ [endT s]).length rest) rest⟩ :=
  loop_of_segs (P := Tryd.prog) (N := 154) (c := loopOf Tryd.prog 6 10) (fun x : Nat × Nat => plE s m (ts.map tokOf ++ [endT s]) x.2 x.1) (fun x rest => plHp x.1 rest) (plJ s ts) (fun x => ts.length + 1 - x.1) (.exit 0) [(0, .d (.str s)), (1, .d (.str m)), (5, .d (.ro (ts.map tokOf ++ [endT s])))] (fun rest => plHp (ts.map tokOf ++ [endT s]).length rest) (0, 0)
    (.inl ⟨ts, rfl, Nat.zero_le _, h0, Nat.zero_le _⟩) (by simp)
    (fun rest x hx => by
      obtain ⟨i, at0⟩ := x
      have hlen : (ts.map tokOf ++ [endT s]).length = ts.length + 1 := by simp
      rcases hx with ⟨us, hus, hi, hlaid, hat⟩ | hx
      · cases us with
        | nil =>
          have hi' : i = ts.length := by
            have := List.drop_eq_nil_iff.1 hus
            have hi0 : i ≤ ts.length := hi
            omega
          subst hi'
          have hlaid' : at0 + skipN false (s.drop at0) = s.length := hlaid
          have hb := scan_between s at0 s.length hlaid'.symm (Nat.le_refl _) hs
          have hp := scanC (sub s at0 s.length)
          rw [hb] at hp
          refine .inl ⟨(ts.length + 1, s.length), .inr rfl, by show ts.length + 1 - (ts.length + 1) < ts.length + 1 - ts.length; omega, fun X hP hN => ?_⟩
          exact plNext s m (ts.map tokOf ++ [endT s]) at0 ts.length 0 s.length [] 0 true rfl (by rw [hlen]; omega) (by simp [endT]) (by omega) (by rw [hlen]; omega) (by have : at0 ≤ s.length := hat; exact this) (Nat.le_refl _) (by simp) (by rw [hlen]; simp) (fun h => by cases h) hp rest X hP hN
        | cons y us =>
          obtain ⟨A, kd, T, n⟩ := y
          obtain ⟨g1, g2, g3, g4, g5, g6⟩ := hlaid
          have hi' : i < ts.length := by
            rcases Nat.lt_or_ge i ts.length with h | h
            · exact h
            · have hus' : ts.drop i = _ := hus
              rw [List.drop_eq_nil_iff.2 h] at hus'; cases hus'
          have hget : ts[i]? = some (A, kd, T, n) := by
            have : (ts.drop i)[0]? = some (A, kd, T, n) := by rw [show ts.drop i = _ from hus]; rfl
            rwa [List.getElem?_drop, Nat.add_zero] at this
          have hx : (ts.map tokOf ++ [endT s])[((i : Nat) : Int).toNat]? = some (tokD kd A T n) := by
            rw [Int.toNat_natCast, List.getElem?_append_left (by rw [List.length_map]; exact hi'), List.getElem?_map, hget]; rfl
          have g2' : A + T.length ≤ s.length := g2
          have hb := scan_between s at0 A g1 (by omega) hs
          have hp := scanC (sub s at0 A)
          rw [hb] at hp
          have hAat : at0 ≤ A := by have : A = at0 + skipN false (s.drop at0) := g1; omega
          refine .inl ⟨(i + 1, A + T.length), .inl ⟨us, ?_, hi', g6, g2'⟩, by show ts.length + 1 - (i + 1) < ts.length + 1 - i; omega, fun X hP hN => ?_⟩
          · show ts.drop (i + 1) = us
            rw [← List.drop_drop, show ts.drop i = _ from hus]; rfl
          · exact plNext s m (ts.map tokOf ++ [endT s]) at0 i kd A T n false (by simpa using g4) (by rw [hlen]; omega) hx (by omega) (by rw [hlen]; omega) hAat g2' g3 (by rw [hlen]; simp; omega) (fun _ => g5) hp rest X hP hN
      · have hx' : i = ts.length + 1 := hx
        subst hx'
        refine .inr fun X hP hN => ?_
        have := plStop s m (ts.map tokOf ++ [endT s]) at0 rest X hP hN
        rw [hlen] at this ⊢
        exact this) rest X hP hN

/-! ### The law -/
def hMin (P : Program) (a b : Nat) : Hint P := .val (dI (if (b : Int) < (a : Int) then (b : Int) else (a : Int))) (dN (min a b)) (by
  congr 2
  split <;> omega)
def plS (s0 : List UInt8) : List UInt8 := pre2 s0 (min s0.length 3000)
def plM (m0 : List UInt8) : List UInt8 := pre2 m0 (min m0.length 1000)
section
variable (s0 m0 : List UInt8)
noncomputable def pwPr (L K : List D) (a e a2 e2 : Int) (hp : Pure Tryd.prog 9 [.str (plS s0)] [.ro L, .int .i64 a, .int .i64 e]) (z z2 : Bool) (hz : (e != 0) = z) (hz2 : (e2 != 0) = z2)
    (H : Option (LHint Tryd.prog)) (hc1 : (plS s0).length + [(10 : UInt8)].length ≤ 9223372036854775807) (hc2 : ((plS s0) ++ [10]).length + (plM m0).length ≤ 9223372036854775807) (hp2 : Pure Tryd.prog 9 [.str (((plS s0) ++ [10]) ++ (plM m0))] [.ro K, .int .i64 a2, .int .i64 e2])
    (hl1 : L.length ≤ 1000000) (hLK : z = false → z2 = false → 1 ≤ L.length ∧ L.length ≤ K.length ∧ Pure Tryd.prog 12 [.ro ((K.take (L.length - 1)).drop 0), .ro ((L.take (L.length - 1)).drop 0)] [.bool true]) : Par Tryd.prog :=
  { hint := fun f k => if f = 6 then (if k = 17 then some (.call 11 [] [.bool true] awakeP) else if k = 22 then some (hMin Tryd.prog s0.length 3000) else if k = 23 then some (.sub s0 0 (min s0.length 3000) ⟨Nat.zero_le _, Nat.min_le_left _ _⟩) else if k = 27 then some (hMin Tryd.prog m0.length 1000)
      else if k = 28 then some (.sub m0 0 (min m0.length 1000) ⟨Nat.zero_le _, Nat.min_le_left _ _⟩) else if k = 31 then some (.call 9 _ _ hp) else if k = 36 then some (hB Tryd.prog _ z hz) else if k = 124 then some (.cat (plS s0) [10] hc1) else if k = 126 then some (.cat ((plS s0) ++ [10]) (plM m0) hc2)
      else if k = 127 then some (.call 9 _ _ hp2) else if k = 132 then some (hB Tryd.prog _ z2 hz2)
      else if h : z = false ∧ z2 = false then (if k = 140 then some (hB Tryd.prog (decide ((L.length : Int) ≤ (K.length : Int))) true (by have := (hLK h.1 h.2).2.1; simp only [decide_eq_true_eq]; omega))
        else if k = 145 then some (hU Tryd.prog .i64 (IntKind.i64.wrap ((L.length : Int) - 1)) ((L.length - 1 : Nat) : Int) (by have := (hLK h.1 h.2).1; rw [IntWalk.i64_in _ (by omega)]; omega))
        else if k = 146 then some (.cutl K (L.length - 1) (by have := (hLK h.1 h.2).2.1; omega)) else if k = 150 then some (hU Tryd.prog .i64 (IntKind.i64.wrap ((L.length : Int) - 1)) ((L.length - 1 : Nat) : Int) (by have := (hLK h.1 h.2).1; rw [IntWalk.i64_in _ (by omega)]; omega))
        else if k = 151 then some (.cutl L (L.length - 1) (by omega)) else if k = 152 then some (.call 12 _ _ (hLK h.1 h.2).2.2) else none) else none) else none
    loops := fun f r => if f = 6 then (if r = 10 then H else none) else none }
theorem pwBad (a e : Int) (he : (e != 0) = true) (hp : Pure Tryd.prog 9 [.str (plS s0)] [.ro [], .int .i64 a, .int .i64 e]) (hc1 : (plS s0).length + [(10 : UInt8)].length ≤ 9223372036854775807) (hc2 : ((plS s0) ++ [10]).length + (plM m0).length ≤ 9223372036854775807) : Pure Tryd.prog 6 [.str s0, .str m0] [.bool true] :=
  pure_of_run okP named (pwPr s0 m0 [] _ a e _ _ hp true _ he rfl none hc1 hc2 (scanC _) (by simp) (fun h => by cases h)) 1000 (by kernel_rfl)
noncomputable def plLH (s m : List UInt8) (ts : List (Nat × Tok)) (hs : s.length ≤ 20000) (hl : ts.length ≤ 100000) (h0 : Laid s 0 ts) : LHint Tryd.prog :=
  ⟨154, loopOf Tryd.prog 6 10, plE s m (ts.map tokOf ++ [endT s]) 0 0, plHp 0, .exit 0, [(0, .d (.str s)), (1, .d (.str m)), (5, .d (.ro (ts.map tokOf ++ [endT s])))], plHp (ts.map tokOf ++ [endT s]).length, plLoop s m ts hs hl h0⟩
theorem pwFar (ts : List (Nat × Tok)) (a a2 e2 : Int) (he2 : (e2 != 0) = true) (hp : Pure Tryd.prog 9 [.str (plS s0)] [.ro (ts.map tokOf ++ [endT (plS s0)]), .int .i64 a, .int .i64 0]) (hc1 : (plS s0).length + [(10 : UInt8)].length ≤ 9223372036854775807) (hc2 : ((plS s0) ++ [10]).length + (plM m0).length ≤ 9223372036854775807)
    (hp2 : Pure Tryd.prog 9 [.str ((plS s0 ++ [10]) ++ plM m0)] [.ro [], .int .i64 a2, .int .i64 e2]) (hs : (plS s0).length ≤ 20000) (hl : ts.length ≤ 100000) (h0 : Laid (plS s0) 0 ts) : Pure Tryd.prog 6 [.str s0, .str m0] [.bool true] :=
  pure_of_run okP named (pwPr s0 m0 _ _ a 0 a2 e2 hp false true rfl he2 (some (plLH (plS s0) (plM m0) ts hs hl h0)) hc1 hc2 hp2 (by simp; omega) (fun _ h => by cases h)) 1000 (by kernel_rfl)
theorem pwOk (ts : List (Nat × Tok)) (K : List D) (a a2 : Int) (hp : Pure Tryd.prog 9 [.str (plS s0)] [.ro (ts.map tokOf ++ [endT (plS s0)]), .int .i64 a, .int .i64 0]) (hc1 : (plS s0).length + [(10 : UInt8)].length ≤ 9223372036854775807) (hc2 : ((plS s0) ++ [10]).length + (plM m0).length ≤ 9223372036854775807)
    (hp2 : Pure Tryd.prog 9 [.str ((plS s0 ++ [10]) ++ plM m0)] [.ro K, .int .i64 a2, .int .i64 0]) (hs : (plS s0).length ≤ 20000) (hl : ts.length ≤ 100000) (h0 : Laid (plS s0) 0 ts) (hK : (ts.map tokOf ++ [endT (plS s0)]).length ≤ K.length)
    (hsame : Pure Tryd.prog 12 [.ro ((K.take ((ts.map tokOf ++ [endT (plS s0)]).length - 1)).drop 0), .ro (((ts.map tokOf ++ [endT (plS s0)]).take ((ts.map tokOf ++ [endT (plS s0)]).length - 1)).drop 0)] [.bool true]) : Pure Tryd.prog 6 [.str s0, .str m0] [.bool true] :=
  pure_of_run okP named (pwPr s0 m0 _ K a 0 a2 0 hp false false rfl rfl (some (plLH (plS s0) (plM m0) ts hs hl h0)) hc1 hc2 hp2 (by simp; omega) (fun _ _ => ⟨by simp, hK, hsame⟩)) 1000 (by kernel_rfl)
end
theorem tokL_err {r : List UInt8} {k : Int} (h : tokL r = .error k) : k ≠ 0 := by
  cases r with
  | nil => simp only [tokL, Except.error.injEq] at h; omega
  | cons b r =>
    rw [tokL] at h
    repeat' split at h
    all_goals first
      | (cases h; done)
      | (simp only [Except.error.injEq] at h; omega)
theorem scanB_err : ∀ (n : Nat) (r : List UInt8) (a p : Nat) (k : Int), scanB n r a = .error (p, k) → k ≠ 0
  | 0, r, a, p, k, h => by cases h
  | n + 1, [], a, p, k, h => by cases h
  | n + 1, b :: r, a, p, k, h => by
    rw [scanB_cons] at h
    cases ht : tokL (b :: r) with
    | error k' =>
      rw [ht] at h
      simp only [Except.error.injEq, Prod.mk.injEq] at h
      obtain ⟨_, rfl⟩ := h
      exact tokL_err ht
    | ok t =>
      rw [ht] at h
      dsimp only at h
      split at h
      · rename_i e he
        cases h
        exact scanB_err n _ _ p k he
      · cases h
theorem scanB_len : ∀ (n : Nat) (r : List UInt8) (a : Nat) (ts : List (Nat × Tok)), scanB n r a = .ok ts → ts.length ≤ n
  | 0, r, a, ts, h => by cases h; exact Nat.le_refl _
  | n + 1, [], a, ts, h => by cases h; exact Nat.zero_le _
  | n + 1, b :: r, a, ts, h => by
    rw [scanB_cons] at h
    cases ht : tokL (b :: r) with
    | error k' => rw [ht] at h; cases h
    | ok t =>
      rw [ht] at h
      dsimp only at h
      split at h
      · cases h
      · rename_i ts1 hs
        cases h
        have := scanB_len n _ _ ts1 hs
        simp only [List.length_cons]; omega
theorem placesLaw (s0 m0 : List UInt8) : Pure Tryd.prog 6 [.str s0, .str m0] [.bool true] := by
  have hS : (plS s0).length ≤ 3000 := by
    unfold plS
    rw [pre2_eq, List.length_take]; omega
  have hM : (plM m0).length ≤ 1000 := by
    unfold plM
    rw [pre2_eq, List.length_take]; omega
  have hc1 : (plS s0).length + [(10 : UInt8)].length ≤ 9223372036854775807 := by simp; omega
  have hc2 : ((plS s0) ++ [10]).length + (plM m0).length ≤ 9223372036854775807 := by simp; omega
  have hp := scanC (plS s0)
  have hp2 := scanC ((plS s0 ++ [10]) ++ plM m0)
  have hl2 : ((plS s0 ++ [10]) ++ plM m0).length ≤ 20000 := by simp; omega
  unfold scanRes at hp hp2
  rw [if_neg (by omega)] at hp hp2
  cases h : scanF (plS s0) with
  | error e =>
    obtain ⟨p, k⟩ := e
    rw [h] at hp
    exact pwBad s0 m0 p k (by simpa using scanB_err _ _ _ _ _ h) hp hc1 hc2
  | ok ts =>
    rw [h] at hp
    have hlaid := scanF_laid h
    have hlen : ts.length ≤ 100000 := by have := scanB_len _ _ _ _ h; omega
    cases h2 : scanF ((plS s0 ++ [10]) ++ plM m0) with
    | error e =>
      obtain ⟨p, k⟩ := e
      rw [h2] at hp2
      exact pwFar s0 m0 ts 0 p k (by simpa using scanB_err _ _ _ _ _ h2) hp hc1 hc2 hp2 (by omega) hlen hlaid
    | ok ts2 =>
      rw [h2] at hp2
      have h3 : scanF (plS s0 ++ 10 :: plM m0) = .ok ts2 := by
        rw [← h2, List.append_assoc]; rfl
      obtain ⟨u, hu⟩ := scanF_more h h3
      have e1 : ((ts2.map tokOf ++ [tokD 0 ((plS s0 ++ [10]) ++ plM m0).length [] 0]).take ((ts.map tokOf ++ [endT (plS s0)]).length - 1)).drop 0 = ts.map tokOf := by
        have : (ts.map tokOf ++ [endT (plS s0)]).length - 1 = (ts.map tokOf).length := by simp
        rw [List.drop_zero, this, hu, List.map_append, List.append_assoc, List.take_append_of_le_length (Nat.le_refl _), List.take_length]
      have e2 : ((ts.map tokOf ++ [endT (plS s0)]).take ((ts.map tokOf ++ [endT (plS s0)]).length - 1)).drop 0 = ts.map tokOf := by
        have : (ts.map tokOf ++ [endT (plS s0)]).length - 1 = (ts.map tokOf).length := by simp
        rw [List.drop_zero, this, List.take_append_of_le_length (Nat.le_refl _), List.take_length]
      exact pwOk s0 m0 ts _ 0 0 hp hc1 hc2 hp2 (by omega) hlen hlaid (by rw [hu]; simp) (by rw [e1, e2]; exact sameC ts (by omega))
end Go.Avm
