/-
  The document's scanner: its rounds.
-/
import Derived.Test.YtdmjbpkdngmgkaaDoorLexR
set_option linter.unusedSectionVars false
namespace Go.Avm
open Go.Proofs

def iE (s : List UInt8) (a v : Nat) (l : List D) (k : Int) (to : Nat) : List (Nat × AV) := [(0, .d (.str s)), (5, .vec 1 v 4 l), (6, dN a), (7, dN to), (23, dI k)]
def rfE (s : List UInt8) (a v : Nat) (l : List D) : List (Nat × AV) := [(0, .d (.str s)), (5, .vec 1 v 4 l), (6, dN a)]
def rfHp (v x : Nat) : List (Nat × Ent) := [(1, ⟨v, none⟩), (2000000, ⟨x, none⟩)]
/-- How far bytes go that are so, behind the first. -/
def toN (p : UInt8 → Bool) (s : List UInt8) (a : Nat) : Nat := a + 1 + runN p (s.drop (a + 1))

/-! ### The inner loops -/
section
variable (s : List UInt8) (a v : Nat) (l : List D) (k : Int) (to : Nat)
theorem in11Step (b : UInt8) (hi : to < s.length) (hb : s[((to : Nat) : Int).toNat]? = some b) (hlen : s.length ≤ 100000) (hp : notNl b = true) (rest : Heap) (X : Fix) (hP : X.P = Tryd.prog) (hN : X.N = 183) :
    AW X (loopOf Tryd.prog 10 11) ⟨envOf (iE s a v l k to), ovl [] rest⟩ fun e' S' => e' = .normal ∧ Weak X S' ⟨envOf (iE s a v l k (to + 1)), ovl [] rest⟩ :=
  seg okP named { hint := fun f q => if f = 10 then (if q = 32 then some (hLt Tryd.prog to s.length true (by simpa using hi)) else if q = 36 then some (.sidx s (to : Int) b (by omega) hb) else if q = 37 then some (hB Tryd.prog (notNl b) true hp) else if q = 40 then some (hSucc Tryd.prog to (by omega)) else none) else none } 1000 10 900000 183 (by kernel_rfl) X hP hN
theorem in11Stop (b : UInt8) (hi : to < s.length) (hb : s[((to : Nat) : Int).toNat]? = some b) (hlen : s.length ≤ 100000) (hp : notNl b = false) (rest : Heap) (X : Fix) (hP : X.P = Tryd.prog) (hN : X.N = 183) :
    AW X (loopOf Tryd.prog 10 11) ⟨envOf (iE s a v l k to), ovl [] rest⟩ fun e' S' => e' = .exit 3 ∧ Weak X S' ⟨envOf (iE s a v l k to), ovl [] rest⟩ :=
  seg okP named { hint := fun f q => if f = 10 then (if q = 32 then some (hLt Tryd.prog to s.length true (by simpa using hi)) else if q = 36 then some (.sidx s (to : Int) b (by omega) hb) else if q = 37 then some (hB Tryd.prog (notNl b) false hp) else if q = 40 then some (hSucc Tryd.prog to (by omega)) else none) else none } 1000 10 900000 183 (by kernel_rfl) X hP hN
theorem in11End (rest : Heap) (X : Fix) (hP : X.P = Tryd.prog) (hN : X.N = 183) :
    AW X (loopOf Tryd.prog 10 11) ⟨envOf (iE s a v l k s.length), ovl [] rest⟩ fun e' S' => e' = .exit 3 ∧ Weak X S' ⟨envOf (iE s a v l k s.length), ovl [] rest⟩ :=
  seg okP named { hint := fun f q => if f = 10 then (if q = 32 then some (hLt Tryd.prog s.length s.length false (by simp)) else none) else none } 1000 10 900000 183 (by kernel_rfl) X hP hN
theorem in11Loop (ha : a < s.length) (hlen : s.length ≤ 100000) (rest : Heap) (X : Fix) (hP : X.P = Tryd.prog) (hN : X.N = 183) :
    AW X (.loop (loopOf Tryd.prog 10 11)) ⟨envOf (iE s a v l k (a + 1)), ovl [] rest⟩ fun e' S' => e' = .exit 3 ∧ S' = ⟨envOf (iE s a v l k (toN notNl s a)), ovl [] rest⟩ := by
  obtain ⟨h1, h2, h3⟩ := runN_spec notNl s (a + 1) (by omega)
  exact loop_of_segs (P := Tryd.prog) (N := 183) (c := loopOf Tryd.prog 10 11) (iE s a v l k) (fun _ _ => []) (fun i => a + 1 ≤ i ∧ i ≤ toN notNl s a) (fun i => toN notNl s a - i) (.exit 3) (iE s a v l k (toN notNl s a)) (fun _ => []) (a + 1) ⟨Nat.le_refl _, Nat.le_add_right _ _⟩ (by simp)
    (fun rest i hi => by
      have h1' : toN notNl s a ≤ s.length := h1
      rcases Nat.lt_or_ge i (toN notNl s a) with h | h
      · have hb := List.getElem?_eq_getElem (l := s) (i := i) (by omega)
        exact .inl ⟨i + 1, ⟨by omega, h⟩, by omega, fun X hP hN => in11Step s a v l k i s[i] (by omega) (by rw [Int.toNat_natCast]; exact hb) hlen (h2 i _ hi.1 h hb) rest X hP hN⟩
      · have : i = toN notNl s a := by omega
        subst this
        rcases Nat.lt_or_ge (toN notNl s a) s.length with hl | hl
        · have hb := List.getElem?_eq_getElem hl
          exact .inr fun X hP hN => in11Stop s a v l k _ s[toN notNl s a] hl (by rw [Int.toNat_natCast]; exact hb) hlen (h3 _ hb) rest X hP hN
        · have : toN notNl s a = s.length := by omega
          rw [this]
          exact .inr fun X hP hN => in11End s a v l k rest X hP hN) rest X hP hN
noncomputable def in11LH (ha : a < s.length) (hlen : s.length ≤ 100000) : LHint Tryd.prog := ⟨183, loopOf Tryd.prog 10 11, iE s a v l k (a + 1), fun _ => [], .exit 3, iE s a v l k (toN notNl s a), fun _ => [], in11Loop s a v l k ha hlen⟩
noncomputable def in14Pr (b : UInt8) (hi : to < s.length) (hb : s[((to : Nat) : Int).toNat]? = some b) (hlen : s.length ≤ 100000) (u w : Bool) (hu : isSm b = u) (hw : isDig b = w) : Par Tryd.prog :=
  { hint := fun f q => if f = 10 then (if q = 46 then some (hLt Tryd.prog to s.length true (by simpa using hi)) else if q = 50 then some (.sidx s (to : Int) b (by omega) hb) else if q = 51 then some (.call 18 _ _ (classC b)) else if q = 52 then some (hB Tryd.prog (classI b == 2) u (by rw [(class_spec b).2.1]; exact hu))
      else if q = 56 then some (.sidx s (to : Int) b (by omega) hb) else if q = 57 then some (.call 18 _ _ (classC b)) else if q = 58 then some (hB Tryd.prog (classI b == 3) w (by rw [(class_spec b).2.2.1]; exact hw)) else if q = 62 then some (hSucc Tryd.prog to (by omega)) else none) else none }
theorem in14Step (b : UInt8) (hi : to < s.length) (hb : s[((to : Nat) : Int).toNat]? = some b) (hlen : s.length ≤ 100000) (hp : isNm b = true) (rest : Heap) (X : Fix) (hP : X.P = Tryd.prog) (hN : X.N = 183) :
    AW X (loopOf Tryd.prog 10 14) ⟨envOf (iE s a v l k to), ovl [] rest⟩ fun e' S' => e' = .normal ∧ Weak X S' ⟨envOf (iE s a v l k (to + 1)), ovl [] rest⟩ := by
  cases hu : isSm b with
  | true => exact seg okP named (in14Pr s to b hi hb hlen true _ hu rfl) 1000 10 900000 183 (by kernel_rfl) X hP hN
  | false =>
    have hw : isDig b = true := by simpa [isNm, hu] using hp
    exact seg okP named (in14Pr s to b hi hb hlen false true hu hw) 1000 10 900000 183 (by kernel_rfl) X hP hN
theorem in14Stop (b : UInt8) (hi : to < s.length) (hb : s[((to : Nat) : Int).toNat]? = some b) (hlen : s.length ≤ 100000) (hp : isNm b = false) (rest : Heap) (X : Fix) (hP : X.P = Tryd.prog) (hN : X.N = 183) :
    AW X (loopOf Tryd.prog 10 14) ⟨envOf (iE s a v l k to), ovl [] rest⟩ fun e' S' => e' = .exit 5 ∧ Weak X S' ⟨envOf (iE s a v l k to), ovl [] rest⟩ := by
  simp only [isNm, Bool.or_eq_false_iff] at hp
  exact seg okP named (in14Pr s to b hi hb hlen false false hp.1 hp.2) 1000 10 900000 183 (by kernel_rfl) X hP hN
theorem in14End (rest : Heap) (X : Fix) (hP : X.P = Tryd.prog) (hN : X.N = 183) :
    AW X (loopOf Tryd.prog 10 14) ⟨envOf (iE s a v l k s.length), ovl [] rest⟩ fun e' S' => e' = .exit 5 ∧ Weak X S' ⟨envOf (iE s a v l k s.length), ovl [] rest⟩ :=
  seg okP named { hint := fun f q => if f = 10 then (if q = 46 then some (hLt Tryd.prog s.length s.length false (by simp)) else none) else none } 1000 10 900000 183 (by kernel_rfl) X hP hN
theorem in14Loop (ha : a < s.length) (hlen : s.length ≤ 100000) (rest : Heap) (X : Fix) (hP : X.P = Tryd.prog) (hN : X.N = 183) :
    AW X (.loop (loopOf Tryd.prog 10 14)) ⟨envOf (iE s a v l k (a + 1)), ovl [] rest⟩ fun e' S' => e' = .exit 5 ∧ S' = ⟨envOf (iE s a v l k (toN isNm s a)), ovl [] rest⟩ := by
  obtain ⟨h1, h2, h3⟩ := runN_spec isNm s (a + 1) (by omega)
  exact loop_of_segs (P := Tryd.prog) (N := 183) (c := loopOf Tryd.prog 10 14) (iE s a v l k) (fun _ _ => []) (fun i => a + 1 ≤ i ∧ i ≤ toN isNm s a) (fun i => toN isNm s a - i) (.exit 5) (iE s a v l k (toN isNm s a)) (fun _ => []) (a + 1) ⟨Nat.le_refl _, Nat.le_add_right _ _⟩ (by simp)
    (fun rest i hi => by
      have h1' : toN isNm s a ≤ s.length := h1
      rcases Nat.lt_or_ge i (toN isNm s a) with h | h
      · have hb := List.getElem?_eq_getElem (l := s) (i := i) (by omega)
        exact .inl ⟨i + 1, ⟨by omega, h⟩, by omega, fun X hP hN => in14Step s a v l k i s[i] (by omega) (by rw [Int.toNat_natCast]; exact hb) hlen (h2 i _ hi.1 h hb) rest X hP hN⟩
      · have : i = toN isNm s a := by omega
        subst this
        rcases Nat.lt_or_ge (toN isNm s a) s.length with hl | hl
        · have hb := List.getElem?_eq_getElem hl
          exact .inr fun X hP hN => in14Stop s a v l k _ s[toN isNm s a] hl (by rw [Int.toNat_natCast]; exact hb) hlen (h3 _ hb) rest X hP hN
        · have : toN isNm s a = s.length := by omega
          rw [this]
          exact .inr fun X hP hN => in14End s a v l k rest X hP hN) rest X hP hN
noncomputable def in14LH (ha : a < s.length) (hlen : s.length ≤ 100000) : LHint Tryd.prog := ⟨183, loopOf Tryd.prog 10 14, iE s a v l k (a + 1), fun _ => [], .exit 5, iE s a v l k (toN isNm s a), fun _ => [], in14Loop s a v l k ha hlen⟩
theorem in23Step (b : UInt8) (hi : to < s.length) (hb : s[((to : Nat) : Int).toNat]? = some b) (hlen : s.length ≤ 100000) (hp : isDig b = true) (rest : Heap) (X : Fix) (hP : X.P = Tryd.prog) (hN : X.N = 183) :
    AW X (loopOf Tryd.prog 10 23) ⟨envOf (iE s a v l k to), ovl [] rest⟩ fun e' S' => e' = .normal ∧ Weak X S' ⟨envOf (iE s a v l k (to + 1)), ovl [] rest⟩ :=
  seg okP named { hint := fun f q => if f = 10 then (if q = 88 then some (hLt Tryd.prog to s.length true (by simpa using hi)) else if q = 92 then some (.sidx s (to : Int) b (by omega) hb) else if q = 93 then some (.call 18 _ _ (classC b)) else if q = 94 then some (hB Tryd.prog (classI b == 3) true (by rw [(class_spec b).2.2.1]; exact hp)) else if q = 97 then some (hSucc Tryd.prog to (by omega)) else none) else none } 1000 10 900000 183 (by kernel_rfl) X hP hN
theorem in23Stop (b : UInt8) (hi : to < s.length) (hb : s[((to : Nat) : Int).toNat]? = some b) (hlen : s.length ≤ 100000) (hp : isDig b = false) (rest : Heap) (X : Fix) (hP : X.P = Tryd.prog) (hN : X.N = 183) :
    AW X (loopOf Tryd.prog 10 23) ⟨envOf (iE s a v l k to), ovl [] rest⟩ fun e' S' => e' = .exit 7 ∧ Weak X S' ⟨envOf (iE s a v l k to), ovl [] rest⟩ :=
  seg okP named { hint := fun f q => if f = 10 then (if q = 88 then some (hLt Tryd.prog to s.length true (by simpa using hi)) else if q = 92 then some (.sidx s (to : Int) b (by omega) hb) else if q = 93 then some (.call 18 _ _ (classC b)) else if q = 94 then some (hB Tryd.prog (classI b == 3) false (by rw [(class_spec b).2.2.1]; exact hp)) else if q = 97 then some (hSucc Tryd.prog to (by omega)) else none) else none } 1000 10 900000 183 (by kernel_rfl) X hP hN
theorem in23End (rest : Heap) (X : Fix) (hP : X.P = Tryd.prog) (hN : X.N = 183) :
    AW X (loopOf Tryd.prog 10 23) ⟨envOf (iE s a v l k s.length), ovl [] rest⟩ fun e' S' => e' = .exit 7 ∧ Weak X S' ⟨envOf (iE s a v l k s.length), ovl [] rest⟩ :=
  seg okP named { hint := fun f q => if f = 10 then (if q = 88 then some (hLt Tryd.prog s.length s.length false (by simp)) else none) else none } 1000 10 900000 183 (by kernel_rfl) X hP hN
theorem in23Loop (ha : a < s.length) (hlen : s.length ≤ 100000) (rest : Heap) (X : Fix) (hP : X.P = Tryd.prog) (hN : X.N = 183) :
    AW X (.loop (loopOf Tryd.prog 10 23)) ⟨envOf (iE s a v l k (a + 1)), ovl [] rest⟩ fun e' S' => e' = .exit 7 ∧ S' = ⟨envOf (iE s a v l k (toN isDig s a)), ovl [] rest⟩ := by
  obtain ⟨h1, h2, h3⟩ := runN_spec isDig s (a + 1) (by omega)
  exact loop_of_segs (P := Tryd.prog) (N := 183) (c := loopOf Tryd.prog 10 23) (iE s a v l k) (fun _ _ => []) (fun i => a + 1 ≤ i ∧ i ≤ toN isDig s a) (fun i => toN isDig s a - i) (.exit 7) (iE s a v l k (toN isDig s a)) (fun _ => []) (a + 1) ⟨Nat.le_refl _, Nat.le_add_right _ _⟩ (by simp)
    (fun rest i hi => by
      have h1' : toN isDig s a ≤ s.length := h1
      rcases Nat.lt_or_ge i (toN isDig s a) with h | h
      · have hb := List.getElem?_eq_getElem (l := s) (i := i) (by omega)
        exact .inl ⟨i + 1, ⟨by omega, h⟩, by omega, fun X hP hN => in23Step s a v l k i s[i] (by omega) (by rw [Int.toNat_natCast]; exact hb) hlen (h2 i _ hi.1 h hb) rest X hP hN⟩
      · have : i = toN isDig s a := by omega
        subst this
        rcases Nat.lt_or_ge (toN isDig s a) s.length with hl | hl
        · have hb := List.getElem?_eq_getElem hl
          exact .inr fun X hP hN => in23Stop s a v l k _ s[toN isDig s a] hl (by rw [Int.toNat_natCast]; exact hb) hlen (h3 _ hb) rest X hP hN
        · have : toN isDig s a = s.length := by omega
          rw [this]
          exact .inr fun X hP hN => in23End s a v l k rest X hP hN) rest X hP hN
noncomputable def in23LH (ha : a < s.length) (hlen : s.length ≤ 100000) : LHint Tryd.prog := ⟨183, loopOf Tryd.prog 10 23, iE s a v l k (a + 1), fun _ => [], .exit 7, iE s a v l k (toN isDig s a), fun _ => [], in23Loop s a v l k ha hlen⟩
end
theorem toN_le (p : UInt8 → Bool) (s : List UInt8) (a : Nat) (ha : a < s.length) : a + 1 ≤ toN p s a ∧ toN p s a ≤ s.length := ⟨Nat.le_add_right _ _, (runN_spec p s (a + 1) (by omega)).1⟩

/-! ### The rounds -/
section
variable (s : List UInt8) (a v x : Nat) (l : List D)
noncomputable def rfPr (b : UInt8) (ha : a < s.length) (hb : s[((a : Nat) : Int).toNat]? = some b) (hlen : s.length ≤ 100000) (k : Int) (hk : classI b = k) (more : Nat → Option (Hint Tryd.prog)) (H : Nat → Option (LHint Tryd.prog)) : Par Tryd.prog :=
  { hint := fun f q => if f = 10 then (if q = 17 then some (hLt Tryd.prog a s.length true (by simpa using ha)) else if q = 19 then some (hSucc Tryd.prog a (by omega)) else if q = 22 then some (.sidx s (a : Int) b (by omega) hb) else if q = 23 then some (.call 18 [bD b] [.int .i64 k] (hk ▸ classC b)) else more q) else none
    loops := fun f r => if f = 10 then H r else none }
theorem rfBlank (b : UInt8) (ha : a < s.length) (hb : s[((a : Nat) : Int).toNat]? = some b) (hlen : s.length ≤ 100000) (hk : classI b = 1) (rest : Heap) (X : Fix) (hP : X.P = Tryd.prog) (hN : X.N = 183) :
    AW X (loopOf Tryd.prog 10 5) ⟨envOf (rfE s a v l), ovl (rfHp v x) rest⟩ fun e' S' => e' = .normal ∧ Weak X S' ⟨envOf (rfE s (a + 1) v l), ovl (rfHp v x) rest⟩ :=
  seg okP named (rfPr s a b ha hb hlen 1 hk (fun _ => none) (fun _ => none)) 1000 10 900000 183 (by kernel_rfl) X hP hN
theorem rfRem (b : UInt8) (ha : a < s.length) (hb : s[((a : Nat) : Int).toNat]? = some b) (hlen : s.length ≤ 100000) (hk : classI b = 5) (rest : Heap) (X : Fix) (hP : X.P = Tryd.prog) (hN : X.N = 183) :
    AW X (loopOf Tryd.prog 10 5) ⟨envOf (rfE s a v l), ovl (rfHp v x) rest⟩ fun e' S' => e' = .normal ∧ Weak X S' ⟨envOf (rfE s (toN notNl s a) v l), ovl (rfHp v x) rest⟩ :=
  seg okP named (rfPr s a b ha hb hlen 5 hk (fun _ => none) (fun r => if r = 11 then some (in11LH s a v l 5 ha hlen) else none)) 1000 10 900000 183 (by kernel_rfl) X hP hN
theorem rfZero (b : UInt8) (ha : a < s.length) (hb : s[((a : Nat) : Int).toNat]? = some b) (hlen : s.length ≤ 100000) (hk : classI b = 0) (rest : Heap) (X : Fix) (hP : X.P = Tryd.prog) (hN : X.N = 183) :
    AW X (loopOf Tryd.prog 10 5) ⟨envOf (rfE s a v l), ovl (rfHp v x) rest⟩ fun e' S' => e' = .ret ∧ Weak X S' ⟨envOf [(2, .nils), (3, dN a), (4, dI 4)], ovl (rfHp v x) rest⟩ :=
  seg okP named (rfPr s a b ha hb hlen 0 hk (fun _ => none) (fun _ => none)) 1000 10 900000 183 (by kernel_rfl) X hP hN
theorem rfGreat (b : UInt8) (ha : a < s.length) (hb : s[((a : Nat) : Int).toNat]? = some b) (hlen : s.length ≤ 100000) (hk : classI b = 6) (rest : Heap) (X : Fix) (hP : X.P = Tryd.prog) (hN : X.N = 183) :
    AW X (loopOf Tryd.prog 10 5) ⟨envOf (rfE s a v l), ovl (rfHp v x) rest⟩ fun e' S' => e' = .ret ∧ Weak X S' ⟨envOf [(2, .nils), (3, dN a), (4, dI 4)], ovl (rfHp v x) rest⟩ :=
  seg okP named (rfPr s a b ha hb hlen 6 hk (fun _ => none) (fun _ => none)) 1000 10 900000 183 (by kernel_rfl) X hP hN
/-- words and names -/
noncomputable def nameM (hlen : s.length ≤ 100000) (ha : a < s.length) (w : Bool) (hw : Pure Tryd.prog 14 [.str (sub s a (toN isNm s a))] [.bool w]) (g : Bool) (hg : decide (12 < ((toN isNm s a - a : Nat) : Int)) = g) (hl : l.length + 1 ≤ 549755813888) (q : Nat) : Option (Hint Tryd.prog) :=
  if q = 66 then some (.sub s a (toN isNm s a) ⟨by have := toN_le isNm s a ha; omega, (toN_le isNm s a ha).2⟩) else if q = 67 then some (.call 14 _ _ hw) else if q = 70 then some (hU Tryd.prog .i64 (IntKind.i64.wrap (((toN isNm s a : Nat) : Int) - (a : Int))) ((toN isNm s a - a : Nat) : Int) (by have := toN_le isNm s a ha; rw [IntWalk.i64_in _ (by omega)]; omega))
  else if q = 71 then some (hB Tryd.prog _ g hg) else if q = 79 then some (.sub s a (toN isNm s a) ⟨by have := toN_le isNm s a ha; omega, (toN_le isNm s a ha).2⟩) else if q = 82 then some (.app l 1 hl) else none
theorem rfWord (b : UInt8) (ha : a < s.length) (hb : s[((a : Nat) : Int).toNat]? = some b) (hlen : s.length ≤ 100000) (hk : classI b = 2) (hw : Pure Tryd.prog 14 [.str (sub s a (toN isNm s a))] [.bool true]) (hl : l.length + 1 ≤ 549755813888) (rest : Heap) (X : Fix) (hP : X.P = Tryd.prog) (hN : X.N = 183) :
    AW X (loopOf Tryd.prog 10 5) ⟨envOf (rfE s a v l), ovl (rfHp v x) rest⟩ fun e' S' => e' = .normal ∧ Weak X S' ⟨envOf (rfE s (toN isNm s a) (v + 1) (l ++ [tokD 2 a (sub s a (toN isNm s a)) 0])), ovl (rfHp (v + 1) (x + 1)) rest⟩ :=
  seg okP named (rfPr s a b ha hb hlen 2 hk (nameM s a l hlen ha true hw _ rfl hl) (fun r => if r = 14 then some (in14LH s a v l 2 ha hlen) else none)) 1000 10 (2000000 - 81 - 183 * 30) 183 (by kernel_rfl) X hP hN
theorem rfName (b : UInt8) (ha : a < s.length) (hb : s[((a : Nat) : Int).toNat]? = some b) (hlen : s.length ≤ 100000) (hk : classI b = 2) (hw : Pure Tryd.prog 14 [.str (sub s a (toN isNm s a))] [.bool false]) (hg : decide (12 < ((toN isNm s a - a : Nat) : Int)) = false) (hl : l.length + 1 ≤ 549755813888) (rest : Heap) (X : Fix) (hP : X.P = Tryd.prog) (hN : X.N = 183) :
    AW X (loopOf Tryd.prog 10 5) ⟨envOf (rfE s a v l), ovl (rfHp v x) rest⟩ fun e' S' => e' = .normal ∧ Weak X S' ⟨envOf (rfE s (toN isNm s a) (v + 1) (l ++ [tokD 1 a (sub s a (toN isNm s a)) 0])), ovl (rfHp (v + 1) (x + 1)) rest⟩ :=
  seg okP named (rfPr s a b ha hb hlen 2 hk (nameM s a l hlen ha false hw false hg hl) (fun r => if r = 14 then some (in14LH s a v l 2 ha hlen) else none)) 1000 10 (2000000 - 81 - 183 * 33) 183 (by kernel_rfl) X hP hN
theorem rfLong (b : UInt8) (ha : a < s.length) (hb : s[((a : Nat) : Int).toNat]? = some b) (hlen : s.length ≤ 100000) (hk : classI b = 2) (hw : Pure Tryd.prog 14 [.str (sub s a (toN isNm s a))] [.bool false]) (hg : decide (12 < ((toN isNm s a - a : Nat) : Int)) = true) (hl : l.length + 1 ≤ 549755813888) (rest : Heap) (X : Fix) (hP : X.P = Tryd.prog) (hN : X.N = 183) :
    AW X (loopOf Tryd.prog 10 5) ⟨envOf (rfE s a v l), ovl (rfHp v x) rest⟩ fun e' S' => e' = .ret ∧ Weak X S' ⟨envOf [(2, .nils), (3, dN a), (4, dI 2)], ovl (rfHp v x) rest⟩ :=
  seg okP named (rfPr s a b ha hb hlen 2 hk (nameM s a l hlen ha false hw true hg hl) (fun r => if r = 14 then some (in14LH s a v l 2 ha hlen) else none)) 1000 10 900000 183 (by kernel_rfl) X hP hN
/-- numbers -/
noncomputable def numM (b : UInt8) (hb : s[((a : Nat) : Int).toNat]? = some b) (hlen : s.length ≤ 100000) (ha : a < s.length) (n : Int) (ok : Bool) (hv : Pure Tryd.prog 19 [.str (sub s a (toN isDig s a))] [.int .i64 n, .bool ok]) (y z xx u g : Bool) (hy : ((b.toNat : Int) == 48) = y) (hz : decide (((a + 1 : Nat) : Int) < ((toN isDig s a : Nat) : Int)) = z)
    (hx : decide (((toN isDig s a : Nat) : Int) < (s.length : Int)) = xx) (c : UInt8) (hc : xx = true → s[((toN isDig s a : Nat) : Int).toNat]? = some c) (hu : isSm c = u) (hg : great c = g) (hl : l.length + 1 ≤ 549755813888) (q : Nat) : Option (Hint Tryd.prog) :=
  if q = 102 then some (.sub s a (toN isDig s a) ⟨by have := toN_le isDig s a ha; omega, (toN_le isDig s a ha).2⟩) else if q = 103 then some (.call 19 _ _ hv) else if q = 111 then some (.sidx s (a : Int) b (by omega) hb) else if q = 112 then some (hB Tryd.prog _ y hy) else if q = 116 then some (hSucc Tryd.prog a (by omega))
  else if q = 117 then some (hB Tryd.prog _ z hz) else if q = 123 then some (hB Tryd.prog _ xx hx) else if q = 127 then (if h : xx = true then some (.sidx s ((toN isDig s a : Nat) : Int) c (by omega) (hc h)) else none) else if q = 128 then some (.call 18 _ _ (classC c)) else if q = 129 then some (hB Tryd.prog (classI c == 2) u (by rw [(class_spec c).2.1]; exact hu))
  else if q = 133 then (if h : xx = true then some (.sidx s ((toN isDig s a : Nat) : Int) c (by omega) (hc h)) else none) else if q = 134 then some (.call 18 _ _ (classC c)) else if q = 135 then some (hB Tryd.prog (classI c == 6) g (by rw [(class_spec c).2.2.2.2.1]; exact hg))
  else if q = 145 then some (.sub s a (toN isDig s a) ⟨by have := toN_le isDig s a ha; omega, (toN_le isDig s a ha).2⟩) else if q = 149 then some (.app l 1 hl) else none
def refBad (y z xx u g : Bool) : Bool := (y && z) || (xx && (u || g))
theorem rfGreatN (b : UInt8) (ha : a < s.length) (hb : s[((a : Nat) : Int).toNat]? = some b) (hlen : s.length ≤ 100000) (hk : classI b = 3) (n : Int) (hv : Pure Tryd.prog 19 [.str (sub s a (toN isDig s a))] [.int .i64 n, .bool false]) (y z xx u g : Bool) (hy : ((b.toNat : Int) == 48) = y) (hz : decide (((a + 1 : Nat) : Int) < ((toN isDig s a : Nat) : Int)) = z) (hx : decide (((toN isDig s a : Nat) : Int) < (s.length : Int)) = xx) (c : UInt8) (hc : xx = true → s[((toN isDig s a : Nat) : Int).toNat]? = some c) (hu : isSm c = u) (hg : great c = g) (hl : l.length + 1 ≤ 549755813888) (rest : Heap) (X : Fix) (hP : X.P = Tryd.prog) (hN : X.N = 183) :
    AW X (loopOf Tryd.prog 10 5) ⟨envOf (rfE s a v l), ovl (rfHp v x) rest⟩ fun e' S' => e' = .ret ∧ Weak X S' ⟨envOf [(2, .nils), (3, dN a), (4, dI 2)], ovl (rfHp v x) rest⟩ :=
  seg okP named (rfPr s a b ha hb hlen 3 hk (numM s a l b hb hlen ha n false hv y z xx u g hy hz hx c hc hu hg hl) (fun r => if r = 23 then some (in23LH s a v l 3 ha hlen) else none)) 1000 10 900000 183 (by kernel_rfl) X hP hN
theorem rfBadN (b : UInt8) (ha : a < s.length) (hb : s[((a : Nat) : Int).toNat]? = some b) (hlen : s.length ≤ 100000) (hk : classI b = 3) (n : Int) (hv : Pure Tryd.prog 19 [.str (sub s a (toN isDig s a))] [.int .i64 n, .bool true]) (y z xx u g : Bool) (hy : ((b.toNat : Int) == 48) = y) (hz : decide (((a + 1 : Nat) : Int) < ((toN isDig s a : Nat) : Int)) = z) (hx : decide (((toN isDig s a : Nat) : Int) < (s.length : Int)) = xx) (c : UInt8) (hc : xx = true → s[((toN isDig s a : Nat) : Int).toNat]? = some c) (hu : isSm c = u) (hg : great c = g) (hl : l.length + 1 ≤ 549755813888) (hbad : refBad y z xx u g = true) (rest : Heap) (X : Fix) (hP : X.P = Tryd.prog) (hN : X.N = 183) :
    AW X (loopOf Tryd.prog 10 5) ⟨envOf (rfE s a v l), ovl (rfHp v x) rest⟩ fun e' S' => e' = .ret ∧ Weak X S' ⟨envOf [(2, .nils), (3, dN a), (4, dI 4)], ovl (rfHp v x) rest⟩ := by
  cases y <;> cases z <;> cases xx <;> cases u <;> cases g <;> first | exact absurd hbad (by decide) | exact seg okP named (rfPr s a b ha hb hlen 3 hk (numM s a l b hb hlen ha n true hv _ _ _ _ _ hy hz hx c hc hu hg hl) (fun r => if r = 23 then some (in23LH s a v l 3 ha hlen) else none)) 1000 10 900000 183 (by kernel_rfl) X hP hN
theorem rfNum (b : UInt8) (ha : a < s.length) (hb : s[((a : Nat) : Int).toNat]? = some b) (hlen : s.length ≤ 100000) (hk : classI b = 3) (n : Int) (hv : Pure Tryd.prog 19 [.str (sub s a (toN isDig s a))] [.int .i64 n, .bool true]) (y z xx u g : Bool) (hy : ((b.toNat : Int) == 48) = y) (hz : decide (((a + 1 : Nat) : Int) < ((toN isDig s a : Nat) : Int)) = z) (hx : decide (((toN isDig s a : Nat) : Int) < (s.length : Int)) = xx) (c : UInt8) (hc : xx = true → s[((toN isDig s a : Nat) : Int).toNat]? = some c) (hu : isSm c = u) (hg : great c = g) (hl : l.length + 1 ≤ 549755813888) (hbad : refBad y z xx u g = false) (rest : Heap) (X : Fix) (hP : X.P = Tryd.prog) (hN : X.N = 183) :
    AW X (loopOf Tryd.prog 10 5) ⟨envOf (rfE s a v l), ovl (rfHp v x) rest⟩ fun e' S' => e' = .normal ∧ Weak X S' ⟨envOf (rfE s (toN isDig s a) (v + 1) (l ++ [tokD 3 a (sub s a (toN isDig s a)) n])), ovl (rfHp (v + 1) (x + 1)) rest⟩ := by
  cases y with
  | false => cases xx with
    | false => exact seg okP named (rfPr s a b ha hb hlen 3 hk (numM s a l b hb hlen ha n true hv false z false u g hy hz hx c hc hu hg hl) (fun r => if r = 23 then some (in23LH s a v l 3 ha hlen) else none)) 1000 10 (2000000 - 148 - 183 * 51) 183 (by kernel_rfl) X hP hN
    | true =>
      cases u with
      | true => exact absurd hbad (by cases z <;> cases g <;> decide)
      | false => cases g with
        | true => exact absurd hbad (by cases z <;> decide)
        | false => exact seg okP named (rfPr s a b ha hb hlen 3 hk (numM s a l b hb hlen ha n true hv false z true false false hy hz hx c hc hu hg hl) (fun r => if r = 23 then some (in23LH s a v l 3 ha hlen) else none)) 1000 10 (2000000 - 148 - 183 * 61) 183 (by kernel_rfl) X hP hN
  | true => cases z with
    | true => exact absurd hbad (by cases xx <;> cases u <;> cases g <;> decide)
    | false => cases xx with
      | false => exact seg okP named (rfPr s a b ha hb hlen 3 hk (numM s a l b hb hlen ha n true hv true false false u g hy hz hx c hc hu hg hl) (fun r => if r = 23 then some (in23LH s a v l 3 ha hlen) else none)) 1000 10 (2000000 - 148 - 183 * 55) 183 (by kernel_rfl) X hP hN
      | true =>
        cases u with
        | true => exact absurd hbad (by cases g <;> decide)
        | false => cases g with
          | true => exact absurd hbad (by decide)
          | false => exact seg okP named (rfPr s a b ha hb hlen 3 hk (numM s a l b hb hlen ha n true hv true false true false false hy hz hx c hc hu hg hl) (fun r => if r = 23 then some (in23LH s a v l 3 ha hlen) else none)) 1000 10 (2000000 - 148 - 183 * 65) 183 (by kernel_rfl) X hP hN
/-- signs -/
noncomputable def sgnM (b : UInt8) (hb : s[((a : Nat) : Int).toNat]? = some b) (hlen : s.length ≤ 100000) (ha : a < s.length) (xx : Bool) (hx : decide (((a + 1 : Nat) : Int) < (s.length : Int)) = xx) (c : UInt8) (hc : xx = true → s[((a + 1 : Nat) : Int).toNat]? = some c) (u : Bool) (hu : prs.contains [b, c] = u) (e : Nat) (he : a ≤ e ∧ e ≤ s.length) (hl : l.length + 1 ≤ 549755813888) (q : Nat) : Option (Hint Tryd.prog) :=
  if q = 155 then some (hB Tryd.prog _ xx hx) else if q = 159 then some (.sidx s (a : Int) b (by omega) hb) else if q = 162 then (if h : xx = true then some (.sidx s ((a + 1 : Nat) : Int) c (by omega) (hc h)) else none) else if q = 163 then some (.call 20 [bD b, bD c] [.bool u] (hu ▸ pairC b c))
  else if q = 166 then some (hSucc Tryd.prog (a + 1) (by omega)) else if q = 172 then some (.sub s a e he) else if q = 175 then some (.app l 1 hl) else none
theorem rfPair (b : UInt8) (ha : a < s.length) (hb : s[((a : Nat) : Int).toNat]? = some b) (hlen : s.length ≤ 100000) (hk : classI b = 4) (hx : decide (((a + 1 : Nat) : Int) < (s.length : Int)) = true) (c : UInt8) (hc : s[((a + 1 : Nat) : Int).toNat]? = some c) (hu : prs.contains [b, c] = true) (he : a ≤ a + 1 + 1 ∧ a + 1 + 1 ≤ s.length) (hl : l.length + 1 ≤ 549755813888) (rest : Heap) (X : Fix) (hP : X.P = Tryd.prog) (hN : X.N = 183) :
    AW X (loopOf Tryd.prog 10 5) ⟨envOf (rfE s a v l), ovl (rfHp v x) rest⟩ fun e' S' => e' = .normal ∧ Weak X S' ⟨envOf (rfE s (a + 1 + 1) (v + 1) (l ++ [tokD 4 a (sub s a (a + 1 + 1)) 0])), ovl (rfHp (v + 1) (x + 1)) rest⟩ :=
  seg okP named (rfPr s a b ha hb hlen 4 hk (sgnM s a l b hb hlen ha true hx c (fun _ => hc) true hu (a + 1 + 1) he hl) (fun _ => none)) 1000 10 (2000000 - 174 - 183 * 42) 183 (by kernel_rfl) X hP hN
theorem rfOne (b : UInt8) (ha : a < s.length) (hb : s[((a : Nat) : Int).toNat]? = some b) (hlen : s.length ≤ 100000) (hk : classI b = 4) (hx : decide (((a + 1 : Nat) : Int) < (s.length : Int)) = true) (c : UInt8) (hc : s[((a + 1 : Nat) : Int).toNat]? = some c) (hu : prs.contains [b, c] = false) (he : a ≤ a + 1 ∧ a + 1 ≤ s.length) (hl : l.length + 1 ≤ 549755813888) (rest : Heap) (X : Fix) (hP : X.P = Tryd.prog) (hN : X.N = 183) :
    AW X (loopOf Tryd.prog 10 5) ⟨envOf (rfE s a v l), ovl (rfHp v x) rest⟩ fun e' S' => e' = .normal ∧ Weak X S' ⟨envOf (rfE s (a + 1) (v + 1) (l ++ [tokD 4 a (sub s a (a + 1)) 0])), ovl (rfHp (v + 1) (x + 1)) rest⟩ :=
  seg okP named (rfPr s a b ha hb hlen 4 hk (sgnM s a l b hb hlen ha true hx c (fun _ => hc) false hu (a + 1) he hl) (fun _ => none)) 1000 10 (2000000 - 174 - 183 * 39) 183 (by kernel_rfl) X hP hN
theorem rfLast (b : UInt8) (ha : a < s.length) (hb : s[((a : Nat) : Int).toNat]? = some b) (hlen : s.length ≤ 100000) (hk : classI b = 4) (hx : decide (((a + 1 : Nat) : Int) < (s.length : Int)) = false) (he : a ≤ a + 1 ∧ a + 1 ≤ s.length) (hl : l.length + 1 ≤ 549755813888) (rest : Heap) (X : Fix) (hP : X.P = Tryd.prog) (hN : X.N = 183) :
    AW X (loopOf Tryd.prog 10 5) ⟨envOf (rfE s a v l), ovl (rfHp v x) rest⟩ fun e' S' => e' = .normal ∧ Weak X S' ⟨envOf (rfE s (a + 1) (v + 1) (l ++ [tokD 4 a (sub s a (a + 1)) 0])), ovl (rfHp (v + 1) (x + 1)) rest⟩ :=
  seg okP named (rfPr s a b ha hb hlen 4 hk (sgnM s a l b hb hlen ha false hx 0 (fun h => by cases h) _ rfl (a + 1) he hl) (fun _ => none)) 1000 10 (2000000 - 174 - 183 * 33) 183 (by kernel_rfl) X hP hN
theorem rfStop (rest : Heap) (X : Fix) (hP : X.P = Tryd.prog) (hN : X.N = 183) :
    AW X (loopOf Tryd.prog 10 5) ⟨envOf (rfE s s.length v l), ovl (rfHp v x) rest⟩ fun e' S' => e' = .exit 0 ∧ Weak X S' ⟨envOf (rfE s s.length v l), ovl (rfHp v x) rest⟩ :=
  seg okP named { hint := fun f q => if f = 10 then (if q = 17 then some (hLt Tryd.prog s.length s.length false (by simp)) else none) else none } 1000 10 900000 183 (by kernel_rfl) X hP hN
end
end Go.Avm
