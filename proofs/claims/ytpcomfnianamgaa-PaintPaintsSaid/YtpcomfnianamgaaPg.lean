/-
  PaintPaints: the walk, put together.
-/
import Derived.Test.YtpcomfnianamgaaPf
set_option linter.unusedSectionVars false
namespace Go.Avm
open Go.Proofs

section
variable (n n1 k : Int) (PP LL ps ls : List (Int × Int))
/-- What is known of the calls. -/
structure PpCalls (c : D) (e w : Int) : Prop where
  t1 : Pure Try.prog 31 [pairsD PP, .int .i64 2000] [pairsD ps]
  t2 : Pure Try.prog 31 [pairsD LL, .int .i64 500] [pairsD ls]
  t3 : Pure Try.prog 31 [pairsD ps, .int .i64 2000] [pairsD ps]
  t4 : Pure Try.prog 31 [pairsD ls, .int .i64 500] [pairsD ls]
  pc : Pure Try.prog 32 [.int .i64 n1, pairsD ps, pairsD ls, .int .i64 k] [c, .int .i64 e]
  ck : Pure Try.prog 33 [.int .i64 n1, pairsD ps, pairsD ls, .int .i64 k] [.int .i64 w]
  len : ps.length < 1000000
noncomputable def ppPr (c : D) (e w : Int) (hc : PpCalls n1 k PP LL ps ls c e w) (b21 b24 : Bool) (h21 : decide ((3000 : Int) < n) = b21) (h24 : decide (n ≤ (60000 : Int)) = b24) (h27 : Option (Hint Try.prog)) (hint2 : Nat → Option (Hint Try.prog)) (l2 : Option (LHint Try.prog)) : Par Try.prog :=
  { hint := fun f s => if f = 6 then (if s = 18 then some (.call 30 [] [.bool true] awake17) else if s = 21 then some (.val (dB (decide ((3000 : Int) < n))) (dB b21) (by rw [h21])) else if s = 24 then some (.val (dB (decide (n ≤ (60000 : Int)))) (dB b24) (by rw [h24])) else if s = 27 then h27
      else if s = 29 then some (.call 31 [pairsD PP, .int .i64 2000] [pairsD ps] hc.t1) else if s = 31 then some (.call 31 [pairsD LL, .int .i64 500] [pairsD ls] hc.t2) else if s = 33 then some (.call 31 [pairsD ps, .int .i64 2000] [pairsD ps] hc.t3) else if s = 35 then some (.call 31 [pairsD ls, .int .i64 500] [pairsD ls] hc.t4)
      else if s = 41 then some (.call 32 [.int .i64 n1, pairsD ps, pairsD ls, .int .i64 k] [c, .int .i64 e] hc.pc) else if s = 63 then some (.call 33 [.int .i64 n1, pairsD ps, pairsD ls, .int .i64 k] [.int .i64 w] hc.ck) else if s = 45 then some (.val (dN (ps.map pairD).length) (dN ps.length) (by simp)) else hint2 s) else none
    loops := fun f r => if f = 6 then (if r = 9 then some ⟨118, loopOf Try.prog 6 9, p1L n1 k ps ls c e 0, fun _ => [], .exit 0, p0L n1 k ps ls c e, fun _ => [], p1Loop n1 k ps ls c e hc.len⟩ else if r = 20 then l2 else none) else none }
end
def h27of (n n1 : Int) (h : n.tmod 3000 = n1) : Hint Try.prog := .val (dI (n.tmod 3000)) (dI n1) (by rw [h])
/-- Refused. -/
theorem ppRefused (n n1 k : Int) (PP LL ps ls : List (Int × Int)) (e : Int) (he : e = 1 ∨ e = 3) (hc : PpCalls n1 k PP LL ps ls (.ro []) e e) (b21 b24 : Bool) (h21 : decide ((3000 : Int) < n) = b21) (h24 : decide (n ≤ (60000 : Int)) = b24) (hm : (b21 && b24) = true → n.tmod 3000 = n1) (hno : (b21 && b24) = false → n1 = n) :
    Pure Try.prog 6 [.int .i64 n, pairsD PP, pairsD LL, .int .i64 k] [.bool true] := by
  rcases he with rfl | rfl
  · cases b21 with
    | false =>
      obtain rfl := hno rfl
      exact pure_of_run okP named (ppPr n1 n1 k PP LL ps ls _ _ _ hc false b24 h21 h24 none (fun _ => none) none) 1000 (by kernel_rfl)
    | true =>
      cases b24 with
      | false =>
        obtain rfl := hno rfl
        exact pure_of_run okP named (ppPr n1 n1 k PP LL ps ls _ _ _ hc true false h21 h24 none (fun _ => none) none) 1000 (by kernel_rfl)
      | true => exact pure_of_run okP named (ppPr n n1 k PP LL ps ls _ _ _ hc true true h21 h24 (some (h27of n n1 (hm rfl))) (fun _ => none) none) 1000 (by kernel_rfl)
  · cases b21 with
    | false =>
      obtain rfl := hno rfl
      exact pure_of_run okP named (ppPr n1 n1 k PP LL ps ls _ _ _ hc false b24 h21 h24 none (fun _ => none) none) 1000 (by kernel_rfl)
    | true =>
      cases b24 with
      | false =>
        obtain rfl := hno rfl
        exact pure_of_run okP named (ppPr n1 n1 k PP LL ps ls _ _ _ hc true false h21 h24 none (fun _ => none) none) 1000 (by kernel_rfl)
      | true => exact pure_of_run okP named (ppPr n n1 k PP LL ps ls _ _ _ hc true true h21 h24 (some (h27of n n1 (hm rfl))) (fun _ => none) none) 1000 (by kernel_rfl)
/-- Few nodes. -/
theorem ppFew (n n1 k : Int) (PP LL ps ls : List (Int × Int)) (c : List Int) (hc : PpCalls n1 k PP LL ps ls (cD c) 0 0) (h75 : decide ((60 : Int) < n1) = false) (hr : Pure Try.prog 34 [.int .i64 n1, pairsD ps, .int .i64 k, cD c] [.bool true]) (b21 b24 : Bool) (h21 : decide ((3000 : Int) < n) = b21) (h24 : decide (n ≤ (60000 : Int)) = b24) (hm : (b21 && b24) = true → n.tmod 3000 = n1) (hno : (b21 && b24) = false → n1 = n) :
    Pure Try.prog 6 [.int .i64 n, pairsD PP, pairsD LL, .int .i64 k] [.bool true] := by
  cases b21 with
  | false =>
    obtain rfl := hno rfl
    exact pure_of_run okP named (ppPr n1 n1 k PP LL ps ls _ _ _ hc false b24 h21 h24 none (fun s => if s = 75 then some (.val (dB (decide ((60 : Int) < n1))) (dB false) (by rw [h75])) else if s = 116 then some (.call 34 [.int .i64 n1, pairsD ps, .int .i64 k, cD c] [.bool true] hr) else none) none) 1000 (by kernel_rfl)
  | true =>
    cases b24 with
    | false =>
      obtain rfl := hno rfl
      exact pure_of_run okP named (ppPr n1 n1 k PP LL ps ls _ _ _ hc true false h21 h24 none (fun s => if s = 75 then some (.val (dB (decide ((60 : Int) < n1))) (dB false) (by rw [h75])) else if s = 116 then some (.call 34 [.int .i64 n1, pairsD ps, .int .i64 k, cD c] [.bool true] hr) else none) none) 1000 (by kernel_rfl)
    | true => exact pure_of_run okP named (ppPr n n1 k PP LL ps ls _ _ _ hc true true h21 h24 (some (h27of n n1 (hm rfl))) (fun s => if s = 75 then some (.val (dB (decide ((60 : Int) < n1))) (dB false) (by rw [h75])) else if s = 116 then some (.call 34 [.int .i64 n1, pairsD ps, .int .i64 k, cD c] [.bool true] hr) else none) none) 1000 (by kernel_rfl)
/-- Many nodes. -/
noncomputable def ppH2 (n1 k : Int) (ps : List (Int × Int)) (c : List Int) (m : Nat) (h75 : decide ((60 : Int) < n1) = true) (hlen : (c.length : Int) = n1) (b97 b100 : Bool) (h97 : ((m : Int) == 0) = b97) (h100 : (k == 0) = b100) (h106 : Option (Hint Try.prog)) : Nat → Option (Hint Try.prog) := fun s =>
  if s = 75 then some (.val (dB (decide ((60 : Int) < n1))) (dB true) (by rw [h75])) else if s = 77 then some (.val (dN (c.map fun z => D.int .i64 z).length) (dN c.length) (by simp)) else if s = 91 then some (.val (dN (c.map fun z => D.int .i64 z).length) (dI n1) (by rw [← hlen]; simp; rfl))
  else if s = 93 then some (.val (dB (n1 == n1)) (dB true) (by simp)) else if s = 97 then some (hEqI Try.prog (m : Int) 0 b97 h97) else if s = 100 then some (hEqI Try.prog k 0 b100 h100) else if s = 104 then some (.val (dN (ps.map pairD).length) (dN ps.length) (by simp))
  else if s = 106 then h106 else none
def h106of (k : Int) (ps : List (Int × Int)) (h : decide (k ≤ (ps.length : Int)) = true) : Hint Try.prog := .val (dB (decide (k ≤ (ps.length : Int)))) (dB true) (by rw [h])
noncomputable def ppL2 (n1 k : Int) (ps : List (Int × Int)) (c : List Int) (hl : c.length < 100000) : LHint Try.prog := ⟨118, loopOf Try.prog 6 20, p2L n1 k ps c 0 0, fun _ => [], .exit 2, p3L n1 k ps c (negF c c.length), fun _ => [], p2Loop n1 k ps c hl⟩
theorem ppAll (n n1 k : Int) (PP LL ps ls : List (Int × Int)) (c : List Int) (hc : PpCalls n1 k PP LL ps ls (cD c) 0 0) (h75 : decide ((60 : Int) < n1) = true) (hlen : (c.length : Int) = n1) (hl : c.length < 100000) (h97 : (((negF c c.length : Nat) : Int) == 0) = true) (b21 b24 : Bool) (h21 : decide ((3000 : Int) < n) = b21) (h24 : decide (n ≤ (60000 : Int)) = b24) (hm : (b21 && b24) = true → n.tmod 3000 = n1) (hno : (b21 && b24) = false → n1 = n) :
    Pure Try.prog 6 [.int .i64 n, pairsD PP, pairsD LL, .int .i64 k] [.bool true] := by
  cases b21 with
  | false =>
    obtain rfl := hno rfl
    exact pure_of_run okP named (ppPr n1 n1 k PP LL ps ls _ _ _ hc false b24 h21 h24 none (ppH2 n1 k ps c (negF c c.length) h75 hlen true _ h97 rfl none) (some (ppL2 n1 k ps c hl))) 1000 (by kernel_rfl)
  | true =>
    cases b24 with
    | false =>
      obtain rfl := hno rfl
      exact pure_of_run okP named (ppPr n1 n1 k PP LL ps ls _ _ _ hc true false h21 h24 none (ppH2 n1 k ps c (negF c c.length) h75 hlen true _ h97 rfl none) (some (ppL2 n1 k ps c hl))) 1000 (by kernel_rfl)
    | true => exact pure_of_run okP named (ppPr n n1 k PP LL ps ls _ _ _ hc true true h21 h24 (some (h27of n n1 (hm rfl))) (ppH2 n1 k ps c (negF c c.length) h75 hlen true _ h97 rfl none) (some (ppL2 n1 k ps c hl))) 1000 (by kernel_rfl)
theorem ppZero (n n1 k : Int) (PP LL ps ls : List (Int × Int)) (c : List Int) (hc : PpCalls n1 k PP LL ps ls (cD c) 0 0) (h75 : decide ((60 : Int) < n1) = true) (hlen : (c.length : Int) = n1) (hl : c.length < 100000) (h97 : (((negF c c.length : Nat) : Int) == 0) = false) (h100 : (k == 0) = true) (b21 b24 : Bool) (h21 : decide ((3000 : Int) < n) = b21) (h24 : decide (n ≤ (60000 : Int)) = b24) (hm : (b21 && b24) = true → n.tmod 3000 = n1) (hno : (b21 && b24) = false → n1 = n) :
    Pure Try.prog 6 [.int .i64 n, pairsD PP, pairsD LL, .int .i64 k] [.bool true] := by
  cases b21 with
  | false =>
    obtain rfl := hno rfl
    exact pure_of_run okP named (ppPr n1 n1 k PP LL ps ls _ _ _ hc false b24 h21 h24 none (ppH2 n1 k ps c (negF c c.length) h75 hlen false true h97 h100 none) (some (ppL2 n1 k ps c hl))) 1000 (by kernel_rfl)
  | true =>
    cases b24 with
    | false =>
      obtain rfl := hno rfl
      exact pure_of_run okP named (ppPr n1 n1 k PP LL ps ls _ _ _ hc true false h21 h24 none (ppH2 n1 k ps c (negF c c.length) h75 hlen false true h97 h100 none) (some (ppL2 n1 k ps c hl))) 1000 (by kernel_rfl)
    | true => exact pure_of_run okP named (ppPr n n1 k PP LL ps ls _ _ _ hc true true h21 h24 (some (h27of n n1 (hm rfl))) (ppH2 n1 k ps c (negF c c.length) h75 hlen false true h97 h100 none) (some (ppL2 n1 k ps c hl))) 1000 (by kernel_rfl)
theorem ppEnough (n n1 k : Int) (PP LL ps ls : List (Int × Int)) (c : List Int) (hc : PpCalls n1 k PP LL ps ls (cD c) 0 0) (h75 : decide ((60 : Int) < n1) = true) (hlen : (c.length : Int) = n1) (hl : c.length < 100000) (h97 : (((negF c c.length : Nat) : Int) == 0) = false) (h100 : (k == 0) = false) (h106 : decide (k ≤ (ps.length : Int)) = true) (b21 b24 : Bool) (h21 : decide ((3000 : Int) < n) = b21) (h24 : decide (n ≤ (60000 : Int)) = b24) (hm : (b21 && b24) = true → n.tmod 3000 = n1) (hno : (b21 && b24) = false → n1 = n) :
    Pure Try.prog 6 [.int .i64 n, pairsD PP, pairsD LL, .int .i64 k] [.bool true] := by
  cases b21 with
  | false =>
    obtain rfl := hno rfl
    exact pure_of_run okP named (ppPr n1 n1 k PP LL ps ls _ _ _ hc false b24 h21 h24 none (ppH2 n1 k ps c (negF c c.length) h75 hlen false false h97 h100 (some (h106of k ps h106))) (some (ppL2 n1 k ps c hl))) 1000 (by kernel_rfl)
  | true =>
    cases b24 with
    | false =>
      obtain rfl := hno rfl
      exact pure_of_run okP named (ppPr n1 n1 k PP LL ps ls _ _ _ hc true false h21 h24 none (ppH2 n1 k ps c (negF c c.length) h75 hlen false false h97 h100 (some (h106of k ps h106))) (some (ppL2 n1 k ps c hl))) 1000 (by kernel_rfl)
    | true => exact pure_of_run okP named (ppPr n n1 k PP LL ps ls _ _ _ hc true true h21 h24 (some (h27of n n1 (hm rfl))) (ppH2 n1 k ps c (negF c c.length) h75 hlen false false h97 h100 (some (h106of k ps h106))) (some (ppL2 n1 k ps c hl))) 1000 (by kernel_rfl)
/-- PaintPaints. -/
theorem paintsPure (n k : Int) (PP LL : List (Int × Int)) : Pure Try.prog 6 [.int .i64 n, pairsD PP, pairsD LL, .int .i64 k] [.bool true] := by
  obtain ⟨b21, h21⟩ : ∃ b, decide ((3000 : Int) < n) = b := ⟨_, rfl⟩
  obtain ⟨b24, h24⟩ : ∃ b, decide (n ≤ (60000 : Int)) = b := ⟨_, rfl⟩
  obtain ⟨n1, hm, hno⟩ : ∃ n1 : Int, ((b21 && b24) = true → n.tmod 3000 = n1) ∧ ((b21 && b24) = false → n1 = n) := by
    cases h : (b21 && b24) with
    | true => exact ⟨n.tmod 3000, fun _ => rfl, fun h => by cases h⟩
    | false => exact ⟨n, fun h => (by cases h), fun _ => rfl⟩
  have hps : (PP.take 2000).length ≤ 2000 := by simp; omega
  have hls : (LL.take 500).length ≤ 500 := by simp; omega
  have t1 := twinsC PP 2000 (by omega)
  have t2 := twinsC LL 500 (by omega)
  have t3 := twinsC (PP.take 2000) 2000 (by omega)
  have t4 := twinsC (LL.take 500) 500 (by omega)
  rw [List.take_of_length_le hps] at t3
  rw [List.take_of_length_le hls] at t4
  generalize PP.take 2000 = ps at hps t1 t3
  generalize LL.take 500 = ls at hls t2 t4
  by_cases hbad : n1 < 0 ∨ 60000 < n1 ∨ k < 0 ∨ 16 < k
  · exact ppRefused n n1 k PP LL ps ls 1 (.inl rfl) ⟨t1, t2, t3, t4, paintArg n1 k _ _ hbad, checkArg n1 k _ _ hbad, by omega⟩ b21 b24 h21 h24 hm hno
  · obtain ⟨N, rfl⟩ : ∃ N : Nat, n1 = (N : Int) := ⟨n1.toNat, by omega⟩
    obtain ⟨K, rfl⟩ : ∃ K : Nat, k = (K : Int) := ⟨k.toNat, by omega⟩
    have hN : N ≤ 60000 := by omega
    have hK : K ≤ 16 := by omega
    have hck := checkC N K hN hK ps ls (by omega) (by omega)
    cases hall : (ps.all (inP N) && ls.all (inP N)) with
    | false =>
      rw [hall, if_neg (by simp)] at hck
      exact ppRefused n N K PP LL ps ls 3 (.inr rfl) ⟨t1, t2, t3, t4, paintForm N K ps ls hN hK (by omega) (by omega) hall, hck, by omega⟩ b21 b24 h21 h24 hm hno
    | true =>
      rw [hall, if_pos rfl] at hck
      simp only [Bool.and_eq_true] at hall
      obtain ⟨O, hO, hP⟩ := paintC N K ps ls hN hK (by omega) (by omega) hall.1 hall.2
      have hc := paint_painted (n := N) (K := K) (pairs := ps) (likes := ls) (by omega) (by omega) hall.1 hall.2 hO
      generalize paintF N K ps ls O = c at hP hc
      have hlen := hc.len
      have hcalls : PpCalls (N : Int) (K : Int) PP LL ps ls (cD c) 0 0 := ⟨t1, t2, t3, t4, hP, hck, by omega⟩
      by_cases h60 : 60 < N
      · have h75 : decide ((60 : Int) < (N : Int)) = true := by simp; omega
        cases h97 : (((negF c c.length : Nat) : Int) == 0) with
        | true => exact ppAll n N K PP LL ps ls c hcalls h75 (by omega) (by omega) h97 b21 b24 h21 h24 hm hno
        | false =>
          cases h100 : ((K : Int) == 0) with
          | true => exact ppZero n N K PP LL ps ls c hcalls h75 (by omega) (by omega) h97 h100 b21 b24 h21 h24 hm hno
          | false =>
            have hex : ∃ x ∈ c, x < 0 := by
              apply Classical.byContradiction
              intro hnone
              have : negF c c.length = 0 := by
                rw [negF, List.take_length, List.countP_eq_zero]
                intro x hx
                have : ¬ x < 0 := fun h => hnone ⟨x, hx, h⟩
                simpa using this
              rw [this] at h97
              simp at h97
            obtain ⟨x, hx, hneg⟩ := hex
            have := many_pairs hc hK hx hneg
            exact ppEnough n N K PP LL ps ls c hcalls h75 (by omega) (by omega) h97 h100 (by simp; omega) b21 b24 h21 h24 hm hno
      · exact ppFew n N K PP LL ps ls c hcalls (by simp; omega) (rightC2 hN hK (by omega) hall.1 hc) b21 b24 h21 h24 hm hno
end Go.Avm
