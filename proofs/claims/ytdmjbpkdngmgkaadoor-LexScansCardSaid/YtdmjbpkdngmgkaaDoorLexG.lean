/-
  The scanner of texts, part G: signs.
-/
import Derived.Test.YtdmjbpkdngmgkaaDoorLexF
set_option linter.unusedSectionVars false
namespace Go.Avm
open Go.Proofs

def prs : List (List UInt8) := [[61, 61], [33, 61], [60, 61], [62, 61], [38, 38], [124, 124], [60, 60], [62, 62]]
def prsS : List UInt8 := [61, 61, 32, 33, 61, 32, 60, 61, 32, 62, 61, 32, 38, 38, 32, 124, 124, 32, 60, 60, 32, 62, 62]
def sgnS : List UInt8 := [40, 41, 123, 125, 91, 93, 44, 59, 58, 61, 60, 62, 43, 45, 42, 47, 37, 38, 124, 94, 33, 126]
def prsD : List D := prs.map .str
theorem prsD_get {i : Nat} {x : List UInt8} (h : prs[i]? = some x) : prsD[((i : Nat) : Int).toNat]? = some (.str x) := by
  simp [prsD, h]
set_option maxRecDepth 100000 in
theorem fieldsC : Pure Tryd.prog 31 [.str prsS] [.ro prsD] := pure_of_run okP named {} 100000 (by kernel_rfl)

/-! ### slices.Index over the signs of two bytes -/
def ixL (t : List UInt8) (i : Nat) : List (Nat × AV) := [(0, .d (.ro prsD)), (1, .d (.str t)), (7, dN 8), (8, dN i)]
noncomputable def ixPr (t x : List UInt8) (i : Nat) (hi : i < 8) (hx : prs[i]? = some x) (u : Bool) (he : (t == x) = u) : Par Tryd.prog :=
  { hint := fun f k => if f = 41 then (if k = 9 then some (hLt Tryd.prog i 8 true (by simpa using hi)) else if k = 14 then some (.idx prsD (i : Int) (.str x) (by omega) (prsD_get hx)) else if k = 16 then some (hEq Tryd.prog t x u he)
    else if k = 18 then some (hSucc Tryd.prog i (by omega)) else none) else none }
theorem ixNext (t x : List UInt8) (i : Nat) (hi : i < 8) (hx : prs[i]? = some x) (he : (t == x) = false) (rest : Heap) (X : Fix) (hP : X.P = Tryd.prog) (hN : X.N = 19) :
    AW X (loopOf Tryd.prog 41 2) ⟨envOf (ixL t i), ovl [] rest⟩ fun e' S' => e' = .normal ∧ Weak X S' ⟨envOf (ixL t (i + 1)), ovl [] rest⟩ :=
  seg okP named (ixPr t x i hi hx false he) 1000 41 1000 19 (by kernel_rfl) X hP hN
theorem ixHit (t x : List UInt8) (i : Nat) (hi : i < 8) (hx : prs[i]? = some x) (he : (t == x) = true) (rest : Heap) (X : Fix) (hP : X.P = Tryd.prog) (hN : X.N = 19) :
    AW X (loopOf Tryd.prog 41 2) ⟨envOf (ixL t i), ovl [] rest⟩ fun e' S' => e' = .ret ∧ Weak X S' ⟨envOf [(4, dN i)], ovl [] rest⟩ :=
  seg okP named (ixPr t x i hi hx true he) 1000 41 1000 19 (by kernel_rfl) X hP hN
theorem ixEnd (t : List UInt8) (rest : Heap) (X : Fix) (hP : X.P = Tryd.prog) (hN : X.N = 19) :
    AW X (loopOf Tryd.prog 41 2) ⟨envOf (ixL t 8), ovl [] rest⟩ fun e' S' => e' = .exit 0 ∧ Weak X S' ⟨envOf [], ovl [] rest⟩ :=
  seg okP named {} 1000 41 1000 19 (by kernel_rfl) X hP hN
theorem ixLoopT (t : List UInt8) (i0 : Nat) (h0 : prs[i0]? = some t) (hlt : ∀ (j : Nat) (x : List UInt8), j < i0 → prs[j]? = some x → (t == x) = false) (rest : Heap) (X : Fix) (hP : X.P = Tryd.prog) (hN : X.N = 19) :
    AW X (.loop (loopOf Tryd.prog 41 2)) ⟨envOf (ixL t 0), ovl [] rest⟩ fun e' S' => e' = .ret ∧ S' = ⟨envOf [(4, dN i0)], ovl [] rest⟩ := by
  have hi0 : i0 < 8 := (List.getElem?_eq_some_iff.1 h0).1
  exact loop_of_segs (P := Tryd.prog) (N := 19) (c := loopOf Tryd.prog 41 2) (ixL t) (fun _ _ => []) (fun i => i ≤ i0) (fun i => 8 - i) .ret [(4, dN i0)] (fun _ => []) 0 (Nat.zero_le _) (by simp)
    (fun rest i hi => by
      rcases Nat.lt_or_ge i i0 with h | h
      · obtain ⟨x, hx⟩ : ∃ x, prs[i]? = some x := ⟨_, List.getElem?_eq_getElem (show i < 8 by omega)⟩
        exact .inl ⟨i + 1, h, by omega, fun X hP hN => ixNext t x i (by omega) hx (hlt i x h hx) rest X hP hN⟩
      · have : i = i0 := by omega
        subst this
        exact .inr fun X hP hN => ixHit t t i hi0 h0 (by simp) rest X hP hN) rest X hP hN
theorem ixLoopF (t : List UInt8) (hno : ∀ (j : Nat) (x : List UInt8), prs[j]? = some x → (t == x) = false) (rest : Heap) (X : Fix) (hP : X.P = Tryd.prog) (hN : X.N = 19) :
    AW X (.loop (loopOf Tryd.prog 41 2)) ⟨envOf (ixL t 0), ovl [] rest⟩ fun e' S' => e' = .exit 0 ∧ S' = ⟨envOf [], ovl [] rest⟩ :=
  loop_of_segs (P := Tryd.prog) (N := 19) (c := loopOf Tryd.prog 41 2) (ixL t) (fun _ _ => []) (fun i => i ≤ 8) (fun i => 8 - i) (.exit 0) [] (fun _ => []) 0 (Nat.zero_le _) (by simp)
    (fun rest i hi => by
      rcases Nat.lt_or_ge i 8 with h | h
      · obtain ⟨x, hx⟩ : ∃ x, prs[i]? = some x := ⟨_, List.getElem?_eq_getElem (show i < 8 from h)⟩
        exact .inl ⟨i + 1, h, by omega, fun X hP hN => ixNext t x i h hx (hno i x hx) rest X hP hN⟩
      · have : i = 8 := by omega
        subst this
        exact .inr fun X hP hN => ixEnd t rest X hP hN) rest X hP hN
noncomputable def ixLT (t : List UInt8) (i0 : Nat) (h0 : prs[i0]? = some t) (hlt : ∀ (j : Nat) (x : List UInt8), j < i0 → prs[j]? = some x → (t == x) = false) : LHint Tryd.prog := ⟨19, loopOf Tryd.prog 41 2, ixL t 0, fun _ => [], .ret, [(4, dN i0)], fun _ => [], ixLoopT t i0 h0 hlt⟩
noncomputable def ixLF (t : List UInt8) (hno : ∀ (j : Nat) (x : List UInt8), prs[j]? = some x → (t == x) = false) : LHint Tryd.prog := ⟨19, loopOf Tryd.prog 41 2, ixL t 0, fun _ => [], .exit 0, [], fun _ => [], ixLoopF t hno⟩
theorem ctT (t : List UInt8) (i0 : Nat) (h0 : prs[i0]? = some t) (hlt : ∀ (j : Nat) (x : List UInt8), j < i0 → prs[j]? = some x → (t == x) = false) : Pure Tryd.prog 33 [.ro prsD, .str t] [.bool true] :=
  pure_of_run okP named { loops := fun f r => if f = 41 then (if r = 2 then some (ixLT t i0 h0 hlt) else none) else none } 1000 (by kernel_rfl)
theorem ctF (t : List UInt8) (hno : ∀ (j : Nat) (x : List UInt8), prs[j]? = some x → (t == x) = false) : Pure Tryd.prog 33 [.ro prsD, .str t] [.bool false] :=
  pure_of_run okP named { loops := fun f r => if f = 41 then (if r = 2 then some (ixLF t hno) else none) else none } 1000 (by kernel_rfl)
theorem first_hit (t : List UInt8) : ∀ (l : List (List UInt8)), t ∈ l → ∃ i : Nat, l[i]? = some t ∧ ∀ (j : Nat) (x : List UInt8), j < i → l[j]? = some x → (t == x) = false
  | [], h => by simp at h
  | y :: l, h => by
    by_cases hy : t = y
    · subst hy
      exact ⟨0, rfl, fun j x hj => by omega⟩
    · obtain ⟨i, h1, h2⟩ := first_hit t l (by simpa [hy] using h)
      refine ⟨i + 1, by simpa using h1, fun j x hj hx => ?_⟩
      cases j with
      | zero => simp at hx; subst hx; simpa using hy
      | succ j => exact h2 j x (by omega) (by simpa using hx)
theorem ctC (t : List UInt8) : Pure Tryd.prog 33 [.ro prsD, .str t] [.bool (prs.contains t)] := by
  by_cases h : t ∈ prs
  · obtain ⟨i, h1, h2⟩ := first_hit t prs h
    have : prs.contains t = true := by simpa using h
    rw [this]
    exact ctT t i h1 h2
  · have : prs.contains t = false := by simpa using h
    rw [this]
    refine ctF t fun j x hx => ?_
    have : x ∈ prs := List.mem_of_getElem? hx
    simp only [beq_eq_false_iff_ne, ne_eq]
    rintro rfl
    exact h this

/-! ### sign -/
def idxB (b : UInt8) : Int := match firstAt ((b.toNat : Int).toNat.toUInt8) sgnS 0 with
  | some i => (i : Int)
  | none => -1
theorem ibC (b : UInt8) : Pure Tryd.prog 34 [.str sgnS, bD b] [.int .i64 (idxB b)] := pure_of_run okP named {} 1000 (by kernel_rfl)
def rst (s : List UInt8) (a : Nat) : List UInt8 := (s.take s.length).drop a
def pre2 (t : List UInt8) (k : Nat) : List UInt8 := (t.take k).drop 0

section
variable (w : Bool) (s : List UInt8) (a v m : Nat) (l : List D)
noncomputable def signPr (b : UInt8) (ha : a < s.length) (hb : (rst s a)[(0 : Int).toNat]? = some b) (g : Bool) (hg : decide (2 ≤ ((rst s a).length : Int)) = g) (u : Bool) (hu : prs.contains (pre2 (rst s a) 2) = u) (z : Bool) (hz : decide (0 ≤ idxB b) = z)
    (h2 : g = true → 2 ≤ (rst s a).length) (h1 : 1 ≤ (rst s a).length) : Par Tryd.prog :=
  { hint := fun f' k => if f' = 28 then (if k = 12 then some (.sub s a s.length ⟨by omega, Nat.le_refl _⟩) else if k = 15 then some (hB Tryd.prog _ g hg) else if k = 17 then some (.call 31 [.str prsS] [.ro prsD] fieldsC)
      else if k = 19 then (if hgt : g = true then some (.sub (rst s a) 0 2 ⟨by omega, h2 hgt⟩) else none) else if k = 20 then some (.call 33 [.ro prsD, .str (pre2 (rst s a) 2)] [.bool u] (hu ▸ ctC _))
      else if k = 23 then (if hgt : g = true then some (.sub (rst s a) 0 2 ⟨by omega, h2 hgt⟩) else none) else if k = 25 then some (.sidx (rst s a) 0 b (by omega) hb)
      else if k = 26 then some (.call 34 [.str sgnS, bD b] [.int .i64 (idxB b)] (ibC b)) else if k = 27 then some (hB Tryd.prog _ z hz) else if k = 29 then some (.sub (rst s a) 0 1 ⟨by omega, h1⟩) else none) else none }
theorem signTwo (c0 c1 c2 c3 : AV) (b : UInt8) (ha : a < s.length) (hb : (rst s a)[(0 : Int).toNat]? = some b) (hg : decide (2 ≤ ((rst s a).length : Int)) = true) (hu : prs.contains (pre2 (rst s a) 2) = true) (h2 : 2 ≤ (rst s a).length) (rest : Heap) :
    HCall Tryd.prog 28 [scP] (ovl (runHp c0 c1 c2 c3 s a v l) rest) [.d (.str (pre2 (rst s a) 2))] (ovl (runHp c0 c1 c2 c3 s a v l) rest) :=
  hcall_of_run okP named (signPr s a b ha hb true hg true hu _ rfl (fun _ => h2) (by omega)) 1000 140000 28 (by kernel_rfl)
theorem signOne (c0 c1 c2 c3 : AV) (b : UInt8) (ha : a < s.length) (hb : (rst s a)[(0 : Int).toNat]? = some b) (g : Bool) (hg : decide (2 ≤ ((rst s a).length : Int)) = g) (hu : (g && prs.contains (pre2 (rst s a) 2)) = false) (h2 : g = true → 2 ≤ (rst s a).length) (h1 : 1 ≤ (rst s a).length) (hz : decide (0 ≤ idxB b) = true) (rest : Heap) :
    HCall Tryd.prog 28 [scP] (ovl (runHp c0 c1 c2 c3 s a v l) rest) [.d (.str (pre2 (rst s a) 1))] (ovl (runHp c0 c1 c2 c3 s a v l) rest) := by
  cases g with
  | false => exact hcall_of_run okP named (signPr s a b ha hb false hg _ rfl true hz h2 h1) 1000 140000 28 (by kernel_rfl)
  | true => exact hcall_of_run okP named (signPr s a b ha hb true hg false (by simpa using hu) true hz h2 h1) 1000 140000 28 (by kernel_rfl)
theorem signNone (c0 c1 c2 c3 : AV) (b : UInt8) (ha : a < s.length) (hb : (rst s a)[(0 : Int).toNat]? = some b) (g : Bool) (hg : decide (2 ≤ ((rst s a).length : Int)) = g) (hu : (g && prs.contains (pre2 (rst s a) 2)) = false) (h2 : g = true → 2 ≤ (rst s a).length) (h1 : 1 ≤ (rst s a).length) (hz : decide (0 ≤ idxB b) = false) (rest : Heap) :
    HCall Tryd.prog 28 [scP] (ovl (runHp c0 c1 c2 c3 s a v l) rest) [.d (.str [])] (ovl (runHp c0 c1 c2 c3 s a v l) rest) := by
  cases g with
  | false => exact hcall_of_run okP named (signPr s a b ha hb false hg _ rfl false hz h2 h1) 1000 140000 28 (by kernel_rfl)
  | true => exact hcall_of_run okP named (signPr s a b ha hb true hg false (by simpa using hu) false hz h2 h1) 1000 140000 28 (by kernel_rfl)
end
end Go.Avm
