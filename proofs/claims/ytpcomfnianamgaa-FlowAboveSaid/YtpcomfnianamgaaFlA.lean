/-
  Flow: lists alike; a graph's twin; a tame graph.
-/
import Derived.Test.YtpcomfnianamgaaPaB
set_option linter.unusedSectionVars false
namespace Go.Avm
open Go.Proofs

theorem sBase (a : Int) : (a != a) = false := by simp
/-! ### Same, SameLists -/
def smL (a : List Int) (i : Nat) : List (Nat × AV) := [(0, .d (rowD a)), (1, .d (rowD a)), (12, dN a.length), (13, dN i)]
theorem smRound (a : List Int) (i : Nat) (x : Int) (hi : i < a.length) (hs : i < 9223372036854775807) (hx : a[i] = x) (rest : Heap) (X : Fix) (hP : X.P = Try.prog) (hN : X.N = 26) :
    AW X (loopOf Try.prog 41 4) ⟨envOf (smL a i), ovl [] rest⟩ fun e' S' => e' = .normal ∧ Weak X S' ⟨envOf (smL a (i + 1)), ovl [] rest⟩ :=
  seg okP named { hint := fun f s => if f = 41 then (if s = 14 then some (hLt Try.prog i a.length true (by simpa using hi)) else if s = 18 ∨ s = 22 then some (.idx (a.map fun x => .int .i64 x) ((i : Nat) : Int) (.int .i64 x) (by omega) (by rw [← hx]; exact getI hi)) else if s = 24 then some (.val (dB (x != x)) (dB false) (by simp))
    else if s = 25 then some (hSucc Try.prog i hs) else none) else none } 1000 41 500000 26 (by kernel_rfl) X hP hN
theorem smStop (a : List Int) (rest : Heap) (X : Fix) (hP : X.P = Try.prog) (hN : X.N = 26) :
    AW X (loopOf Try.prog 41 4) ⟨envOf (smL a a.length), ovl [] rest⟩ fun e' S' => e' = .exit 0 ∧ Weak X S' ⟨envOf [], ovl [] rest⟩ :=
  seg okP named { hint := fun f s => if f = 41 then (if s = 14 then some (hLt Try.prog a.length a.length false (by simp)) else none) else none } 1000 41 500000 26 (by kernel_rfl) X hP hN
theorem smLoop (a : List Int) (hl : a.length < 1000000000) (rest : Heap) (X : Fix) (hP : X.P = Try.prog) (hN : X.N = 26) :
    AW X (.loop (loopOf Try.prog 41 4)) ⟨envOf (smL a 0), ovl [] rest⟩ fun e' S' => e' = .exit 0 ∧ S' = ⟨envOf [], ovl [] rest⟩ := by
  refine loop_of_segs (P := Try.prog) (N := 26) (c := loopOf Try.prog 41 4) (fun i => smL a i) (fun _ _ => []) (fun i => i ≤ a.length) (fun i => a.length - i) (.exit 0) [] (fun _ => []) 0 (Nat.zero_le _) (by simp) (fun rest i hi => ?_) rest X hP hN
  rcases Nat.lt_or_ge i a.length with h | h
  · exact .inl ⟨i + 1, h, by omega, fun X hP hN => smRound a i a[i] h (by omega) rfl rest X hP hN⟩
  · have : i = a.length := by omega
    subst this
    exact .inr fun X hP hN => smStop a rest X hP hN
/-- Same, of one list. -/
theorem sameC (a : List Int) (hl : a.length < 1000000000) : Pure Try.prog 41 [rowD a, rowD a] [.bool true] :=
  pure_of_run okP named { hint := fun f s => if f = 41 then (if s = 7 ∨ s = 9 ∨ s = 12 then some (hLen Try.prog a) else if s = 10 then some (.val (dB ((a.length : Int) != (a.length : Int))) (dB false) (by simp)) else none) else none
                          loops := fun f r => if f = 41 then (if r = 4 then some ⟨26, loopOf Try.prog 41 4, smL a 0, fun _ => [], .exit 0, [], fun _ => [], smLoop a hl⟩ else none) else none } 1000 (by kernel_rfl)

def slL (g : List (List Int)) (i : Nat) : List (Nat × AV) := [(0, .d (rowsD g)), (1, .d (rowsD g)), (12, dN g.length), (13, dN i)]
def hLenR (P : Program) (g : List (List Int)) : Hint P := .val (dN (g.map rowD).length) (dN g.length) (by simp)
theorem getR {g : List (List Int)} {i : Nat} (h : i < g.length) : (g.map rowD)[((i : Nat) : Int).toNat]? = some (rowD g[i]) := by simp [h]
theorem slRound (g : List (List Int)) (i : Nat) (x : List Int) (hi : i < g.length) (hs : i < 9223372036854775807) (hx : g[i] = x) (hl : x.length < 1000000000) (rest : Heap) (X : Fix) (hP : X.P = Try.prog) (hN : X.N = 27) :
    AW X (loopOf Try.prog 28 4) ⟨envOf (slL g i), ovl [] rest⟩ fun e' S' => e' = .normal ∧ Weak X S' ⟨envOf (slL g (i + 1)), ovl [] rest⟩ :=
  seg okP named { hint := fun f s => if f = 28 then (if s = 14 then some (hLt Try.prog i g.length true (by simpa using hi)) else if s = 18 ∨ s = 22 then some (.idx (g.map rowD) ((i : Nat) : Int) (rowD x) (by omega) (by rw [← hx]; exact getR hi)) else if s = 24 then some (.call 41 [rowD x, rowD x] [.bool true] (sameC x hl))
    else if s = 26 then some (hSucc Try.prog i hs) else none) else none } 1000 28 500000 27 (by kernel_rfl) X hP hN
theorem slStop (g : List (List Int)) (rest : Heap) (X : Fix) (hP : X.P = Try.prog) (hN : X.N = 27) :
    AW X (loopOf Try.prog 28 4) ⟨envOf (slL g g.length), ovl [] rest⟩ fun e' S' => e' = .exit 0 ∧ Weak X S' ⟨envOf [], ovl [] rest⟩ :=
  seg okP named { hint := fun f s => if f = 28 then (if s = 14 then some (hLt Try.prog g.length g.length false (by simp)) else none) else none } 1000 28 500000 27 (by kernel_rfl) X hP hN
theorem slLoop (g : List (List Int)) (hl : g.length < 1000000000) (hr : ∀ r ∈ g, r.length < 1000000000) (rest : Heap) (X : Fix) (hP : X.P = Try.prog) (hN : X.N = 27) :
    AW X (.loop (loopOf Try.prog 28 4)) ⟨envOf (slL g 0), ovl [] rest⟩ fun e' S' => e' = .exit 0 ∧ S' = ⟨envOf [], ovl [] rest⟩ := by
  refine loop_of_segs (P := Try.prog) (N := 27) (c := loopOf Try.prog 28 4) (fun i => slL g i) (fun _ _ => []) (fun i => i ≤ g.length) (fun i => g.length - i) (.exit 0) [] (fun _ => []) 0 (Nat.zero_le _) (by simp) (fun rest i hi => ?_) rest X hP hN
  rcases Nat.lt_or_ge i g.length with h | h
  · exact .inl ⟨i + 1, h, by omega, fun X hP hN => slRound g i g[i] h (by omega) rfl (hr _ (List.getElem_mem h)) rest X hP hN⟩
  · have : i = g.length := by omega
    subst this
    exact .inr fun X hP hN => slStop g rest X hP hN
/-- SameLists, of one list of lists. -/
theorem sameListsC (g : List (List Int)) (hl : g.length < 1000000000) (hr : ∀ r ∈ g, r.length < 1000000000) : Pure Try.prog 28 [rowsD g, rowsD g] [.bool true] :=
  pure_of_run okP named { hint := fun f s => if f = 28 then (if s = 7 ∨ s = 9 ∨ s = 12 then some (hLenR Try.prog g) else if s = 10 then some (.val (dB ((g.length : Int) != (g.length : Int))) (dB false) (by simp)) else none) else none
                          loops := fun f r => if f = 28 then (if r = 4 then some ⟨27, loopOf Try.prog 28 4, slL g 0, fun _ => [], .exit 0, [], fun _ => [], slLoop g hl hr⟩ else none) else none } 1000 (by kernel_rfl)

/-! ### Twin -/
theorem ints_all (r : List Int) : (r.map fun x => D.int .i64 x).all (fun y => y.cells.length == 1) = true := by simp [D.cells]
def twL (g : List (List Int)) (i : Nat) : List (Nat × AV) := [(3, .vec 12 i 1 ((g.take i).map rowD)), (6, .d (rowsD g)), (7, dN g.length), (8, dN i)]
def twE (v w1 w2 : Nat) : List (Nat × Ent) := [(12, ⟨v, none⟩), (500113, ⟨w1, none⟩), (500176, ⟨w2, none⟩)]
theorem twRound (g : List (List Int)) (i w1 w2 : Nat) (x : List Int) (hi : i < g.length) (hg : g.length < 1000000000) (hx : g[i] = x) (hl : x.length < 1000000000) (rest : Heap) (X : Fix) (hP : X.P = Try.prog) (hN : X.N = 20) :
    AW X (loopOf Try.prog 38 3) ⟨envOf (twL g i), ovl (twE i w1 w2) rest⟩ fun e' S' => e' = .normal ∧ Weak X S' ⟨envOf (twL g (i + 1)), ovl (twE (i + 1) (w1 + 2) (w2 + 1)) rest⟩ := by
  unfold twL
  rw [List.take_succ_eq_append_getElem hi, List.map_append, hx]
  exact seg okP named { hint := fun f s => if f = 38 then (if s = 9 then some (hLt Try.prog i g.length true (by simpa using hi)) else if s = 10 then some (.idx (g.map rowD) ((i : Nat) : Int) (rowD x) (by omega) (by rw [← hx]; exact getR hi)) else if s = 15 then some (.appl [] (x.map fun y => .int .i64 y) 1 ⟨by simp; omega, ints_all x⟩)
    else if s = 17 then some (.app ((g.take i).map rowD) 1 (by simp; omega)) else if s = 18 then some (hSucc Try.prog i (by omega)) else none) else none } 1000 38 500000 20 (by kernel_rfl) X hP hN
theorem twStop (g : List (List Int)) (w1 w2 : Nat) (rest : Heap) (X : Fix) (hP : X.P = Try.prog) (hN : X.N = 20) :
    AW X (loopOf Try.prog 38 3) ⟨envOf (twL g g.length), ovl (twE g.length w1 w2) rest⟩ fun e' S' => e' = .exit 0 ∧ Weak X S' ⟨envOf [(3, .vec 12 g.length 1 ((g.take g.length).map rowD))], ovl (twE g.length w1 w2) rest⟩ :=
  seg okP named { hint := fun f s => if f = 38 then (if s = 9 then some (hLt Try.prog g.length g.length false (by simp)) else none) else none } 1000 38 500000 20 (by kernel_rfl) X hP hN
def twH (j : Nat) (rest : Heap) : List (Nat × Ent) := twE j ((rest 500113).ver + 2 * j) ((rest 500176).ver + j)
theorem twLoop (g : List (List Int)) (hg : g.length < 1000000000) (hr : ∀ r ∈ g, r.length < 1000000000) (rest : Heap) (X : Fix) (hP : X.P = Try.prog) (hN : X.N = 20) :
    AW X (.loop (loopOf Try.prog 38 3)) ⟨envOf (twL g 0), ovl (twH 0 rest) rest⟩ fun e' S' => e' = .exit 0 ∧ S' = ⟨envOf [(3, .vec 12 g.length 1 ((g.take g.length).map rowD))], ovl (twH g.length rest) rest⟩ := by
  refine loop_of_segs (P := Try.prog) (N := 20) (c := loopOf Try.prog 38 3) (fun i => twL g i) (fun i rest => twH i rest) (fun i => i ≤ g.length) (fun i => g.length - i) (.exit 0) _ (fun rest => twH g.length rest) 0 (Nat.zero_le _) (by simp) (fun rest i hi => ?_) rest X hP hN
  rcases Nat.lt_or_ge i g.length with h | h
  · exact .inl ⟨i + 1, h, by omega, fun X hP hN => twRound g i _ _ g[i] h hg rfl (hr _ (List.getElem_mem h)) rest X hP hN⟩
  · have : i = g.length := by omega
    subst this
    exact .inr fun X hP hN => twStop g _ _ rest X hP hN
/-- Twin. -/
theorem twinC (g : List (List Int)) (hg : g.length < 1000000000) (hr : ∀ r ∈ g, r.length < 1000000000) : Pure Try.prog 38 [rowsD g] [rowsD g] := by
  have h : Pure Try.prog 38 [rowsD g] [.ro ((g.take g.length).map rowD)] :=
    pure_of_run okP named { hint := fun f s => if f = 38 then (if s = 7 then some (hLenR Try.prog g) else none) else none
                            nils2 := fun f r => if f = 38 then (if r = 2 then [⟨0, 3, 12, 1, true, false⟩] else []) else []
                            loops := fun f r => if f = 38 then (if r = 3 then some ⟨20, loopOf Try.prog 38 3, twL g 0, fun rest => twH 0 rest, .exit 0, _, fun rest => twH g.length rest, twLoop g hg hr⟩ else none) else none } 1000 (by kernel_rfl)
  rw [List.take_length] at h
  exact h

/-! ### tame -/
def tameF (g : List (List Int)) : List (List Int) := (g.take 24).map fun r => r.take 6
def tmAt (g : List (List Int)) (i : Nat) : List (List Int) := tameF (g.take i)
theorem tmAt_early {g : List (List Int)} {i : Nat} (hi : i < g.length) (h : i < 24) : tmAt g (i + 1) = tmAt g i ++ [g[i].take 6] := by
  unfold tmAt tameF
  rw [List.take_take, List.take_take, Nat.min_eq_right (by omega), Nat.min_eq_right (by omega), List.take_succ_eq_append_getElem hi, List.map_append]
  rfl
theorem tmAt_late {g : List (List Int)} {i : Nat} (h : 24 ≤ i) : tmAt g (i + 1) = tmAt g i := by
  unfold tmAt tameF
  rw [List.take_take, List.take_take, Nat.min_eq_left (by omega), Nat.min_eq_left (by omega)]
theorem tmAt_len (g : List (List Int)) (i : Nat) : (tmAt g i).length ≤ 24 := by
  simp [tmAt, tameF]
  omega
def tmL (g : List (List Int)) (l : List (List Int)) (v i : Nat) : List (Nat × AV) := [(3, .vec 12 v 1 (l.map rowD)), (6, .d (rowsD g)), (7, dN g.length), (8, dN i)]
def tmE (v w1 w2 : Nat) : List (Nat × Ent) := [(12, ⟨v, none⟩), (500259, ⟨w1, none⟩), (500455, ⟨w2, none⟩)]
section
variable (g l : List (List Int)) (v i w1 w2 : Nat) (x : List Int)
theorem tmEarly (hi : i < g.length) (hs : i < 9223372036854775807) (hx : g[i] = x) (h24 : decide ((i : Int) < 24) = true) (hll : l.length < 1000) (rest : Heap) (X : Fix) (hP : X.P = Try.prog) (hN : X.N = 27) :
    AW X (loopOf Try.prog 36 3) ⟨envOf (tmL g l v i), ovl (tmE v w1 w2) rest⟩ fun e' S' => e' = .normal ∧ Weak X S' ⟨envOf (tmL g (l ++ [x.take 6]) (v + 1) (i + 1)), ovl (tmE (v + 1) (w1 + 2) (w2 + 1)) rest⟩ := by
  have e : (x.take 6).map (fun y => D.int .i64 y) = ((x.map fun y => D.int .i64 y).take (min x.length 6)).drop 0 := by
    rw [List.drop_zero, List.map_take]
    rcases Nat.le_total x.length 6 with h | h
    · rw [Nat.min_eq_left h, List.take_of_length_le (by simpa using h), List.take_of_length_le (by simp)]
    · rw [Nat.min_eq_right h]
  have ha : (((x.map fun y => D.int .i64 y).take (min x.length 6)).drop 0).all (fun y => y.cells.length == 1) = true := by
    rw [← e]
    exact ints_all _
  have e2 : (l ++ [x.take 6]).map rowD = l.map rowD ++ [.ro (((x.map fun y => D.int .i64 y).take (min x.length 6)).drop 0)] := by
    rw [List.map_append, ← e]
    rfl
  unfold tmL
  rw [e2]
  exact seg okP named { hint := fun f s => if f = 36 then (if s = 9 then some (hLt Try.prog i g.length true (by simpa using hi)) else if s = 11 then some (.idx (g.map rowD) ((i : Nat) : Int) (rowD x) (by omega) (by rw [← hx]; exact getR hi)) else if s = 14 then some (.val (dB (decide ((i : Int) < 24))) (dB true) (by rw [h24]))
    else if s = 19 then some (hLen Try.prog x) else if s = 20 then some (.val (dI (if (6 : Int) < (x.length : Int) then 6 else (x.length : Int))) (dN (min x.length 6)) (by
      unfold dI
      congr 2
      split <;> omega)) else if s = 21 then some (.cutl (x.map fun y => .int .i64 y) (min x.length 6) (by simp; omega)) else if s = 22 then some (.appl [] (((x.map fun y => D.int .i64 y).take (min x.length 6)).drop 0) 1 ⟨by simp; omega, ha⟩)
    else if s = 24 then some (.app (l.map rowD) 1 (by simp; omega)) else if s = 25 then some (hSucc Try.prog i hs) else none) else none } 1000 36 500000 27 (by kernel_rfl) X hP hN
theorem tmLate (hi : i < g.length) (hs : i < 9223372036854775807) (hx : g[i] = x) (h24 : decide ((i : Int) < 24) = false) (rest : Heap) (X : Fix) (hP : X.P = Try.prog) (hN : X.N = 27) :
    AW X (loopOf Try.prog 36 3) ⟨envOf (tmL g l v i), ovl (tmE v w1 w2) rest⟩ fun e' S' => e' = .normal ∧ Weak X S' ⟨envOf (tmL g l v (i + 1)), ovl (tmE v w1 w2) rest⟩ :=
  seg okP named { hint := fun f s => if f = 36 then (if s = 9 then some (hLt Try.prog i g.length true (by simpa using hi)) else if s = 11 then some (.idx (g.map rowD) ((i : Nat) : Int) (rowD x) (by omega) (by rw [← hx]; exact getR hi)) else if s = 14 then some (.val (dB (decide ((i : Int) < 24))) (dB false) (by rw [h24]))
    else if s = 25 then some (hSucc Try.prog i hs) else none) else none } 1000 36 500000 27 (by kernel_rfl) X hP hN
theorem tmStop (rest : Heap) (X : Fix) (hP : X.P = Try.prog) (hN : X.N = 27) :
    AW X (loopOf Try.prog 36 3) ⟨envOf (tmL g l v g.length), ovl (tmE v w1 w2) rest⟩ fun e' S' => e' = .exit 0 ∧ Weak X S' ⟨envOf [(3, .vec 12 v 1 (l.map rowD))], ovl (tmE v w1 w2) rest⟩ :=
  seg okP named { hint := fun f s => if f = 36 then (if s = 9 then some (hLt Try.prog g.length g.length false (by simp)) else none) else none } 1000 36 500000 27 (by kernel_rfl) X hP hN
end
theorem tmLoop (g : List (List Int)) (hg : g.length ≤ 9223372036854775807) : ∀ (r i v w1 w2 : Nat), g.length - i = r → i ≤ g.length → ∃ v' w1' w2' : Nat, ∀ (rest : Heap) (X : Fix), X.P = Try.prog → X.N = 27 →
    LW X (loopOf Try.prog 36 3) ⟨envOf (tmL g (tmAt g i) v i), ovl (tmE v w1 w2) rest⟩ fun e' S' => e' = .exit 0 ∧ S' = ⟨envOf [(3, .vec 12 v' 1 ((tmAt g g.length).map rowD))], ovl (tmE v' w1' w2') rest⟩
  | 0, i, v, w1, w2, hr, hi => by
    have : i = g.length := by omega
    subst this
    exact ⟨v, w1, w2, fun rest X hP hN => lw_end (tmStop g _ v w1 w2 rest X hP hN) (by simp)⟩
  | r + 1, i, v, w1, w2, hr, hi => by
    have hlt : i < g.length := by omega
    rcases Nat.lt_or_ge i 24 with h | h
    · obtain ⟨a, b, c, q⟩ := tmLoop g hg r (i + 1) (v + 1) (w1 + 2) (w2 + 1) (by omega) (by omega)
      refine ⟨a, b, c, fun rest X hP hN => ?_⟩
      have hq := q rest X hP hN
      rw [tmAt_early hlt h] at hq
      exact lw_seg (tmEarly g (tmAt g i) v i w1 w2 g[i] hlt (by omega) rfl (by simp; omega) (by have := tmAt_len g i; omega) rest X hP hN) hq
    · obtain ⟨a, b, c, q⟩ := tmLoop g hg r (i + 1) v w1 w2 (by omega) (by omega)
      refine ⟨a, b, c, fun rest X hP hN => ?_⟩
      have hq := q rest X hP hN
      rw [tmAt_late h] at hq
      exact lw_seg (tmLate g (tmAt g i) v i w1 w2 g[i] hlt (by omega) rfl (by simp; omega) rest X hP hN) hq
/-- tame. -/
theorem tameC (g : List (List Int)) (hg : g.length ≤ 9223372036854775807) : Pure Try.prog 36 [rowsD g] [rowsD (tameF g)] := by
  obtain ⟨v, w1, w2, hl⟩ := tmLoop g hg g.length 0 0 0 0 rfl (Nat.zero_le _)
  have h : Pure Try.prog 36 [rowsD g] [rowsD (tmAt g g.length)] :=
    pure_of_run okP named { hint := fun f s => if f = 36 then (if s = 7 then some (hLenR Try.prog g) else none) else none
                            nils2 := fun f r => if f = 36 then (if r = 2 then [⟨0, 3, 12, 1, true, false⟩] else []) else []
                            loops := fun f r => if f = 36 then (if r = 3 then some ⟨27, loopOf Try.prog 36 3, tmL g [] 0 0, fun _ => tmE 0 0 0, .exit 0, _, fun _ => tmE v w1 w2, fun rest X hP hN => (hl rest X hP hN).aw⟩ else none) else none } 1000 (by kernel_rfl)
  have e : tmAt g g.length = tameF g := by rw [tmAt, List.take_length]
  rw [e] at h
  exact h
end Go.Avm
