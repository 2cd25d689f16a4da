/-
  The document's scanner: its rounds.
-/
import Derived.Test.YtkhcaamgjjhpeaaGreatDoorH10
import Derived.Test.YtkhcaamgjjhpeaaGreatDoorH07
set_option linter.unusedSectionVars false
namespace Go.Avm
open Go.Proofs
def iE (s : List UInt8) (a v : Nat) (l : List D) (k : Int) (to : Nat) : List (Nat × AV) := [(0, .d (.str s)), (5, .vec 1 v 4 l), (6, dN a), (7, dN to), (23, dI k)]
def rfE (s : List UInt8) (a v : Nat) (l : List D) : List (Nat × AV) := [(0, .d (.str s)), (5, .vec 1 v 4 l), (6, dN a)]
def rfHp (v x : Nat) : List (Nat × Ent) := [(1, ⟨v, none⟩), (2000000, ⟨x, none⟩)]
def toN (p : UInt8 → Bool) (s : List UInt8) (a : Nat) : Nat := a + 1 + runN p (s.drop (a + 1))
section
variable (s : List UInt8) (a v : Nat) (l : List D) (k : Int) (to : Nat)
theorem in11Step (b : UInt8) (hi : to < s.length) (hb : s[((to : Nat) : Int).toNat]? = some b) (hlen : s.length ≤ 100000) (hp : notNl b = true) (rest : Heap) (X : Fix) (hP : X.P = Pg) (hN : X.N = 183) :
    AW X (lO 18 11) ⟨envOf (iE s a v l k to), ovl [] rest⟩ fun e' S' => e' = .normal ∧ Weak X S' ⟨envOf (iE s a v l k (to + 1)), ovl [] rest⟩ :=
 seg okP named { hint := fun f q => if f = 18 then (if q = 32 then some (qL hi) else if q = 36 then some (.sidx s (to : Int) b (by omega) hb) else if q = 37 then some (qB hp) else if q = 40 then some (hSucc Pg to (by omega)) else none) else none } 1000 18 900000 183 (by kernel_rfl) X hP hN
theorem in11Stop (b : UInt8) (hi : to < s.length) (hb : s[((to : Nat) : Int).toNat]? = some b) (hlen : s.length ≤ 100000) (hp : notNl b = false) (rest : Heap) (X : Fix) (hP : X.P = Pg) (hN : X.N = 183) :
    AW X (lO 18 11) ⟨envOf (iE s a v l k to), ovl [] rest⟩ fun e' S' => e' = .exit 3 ∧ Weak X S' ⟨envOf (iE s a v l k to), ovl [] rest⟩ :=
 seg okP named { hint := fun f q => if f = 18 then (if q = 32 then some (qL hi) else if q = 36 then some (.sidx s (to : Int) b (by omega) hb) else if q = 37 then some (qB hp) else if q = 40 then some (hSucc Pg to (by omega)) else none) else none } 1000 18 900000 183 (by kernel_rfl) X hP hN
theorem in11End (rest : Heap) (X : Fix) (hP : X.P = Pg) (hN : X.N = 183) :
    AW X (lO 18 11) ⟨envOf (iE s a v l k s.length), ovl [] rest⟩ fun e' S' => e' = .exit 3 ∧ Weak X S' ⟨envOf (iE s a v l k s.length), ovl [] rest⟩ :=
 seg okP named { hint := fun f q => if f = 18 then (if q = 32 then some (qG s.length) else none) else none } 1000 18 900000 183 (by kernel_rfl) X hP hN
theorem in11Loop (ha : a < s.length) (hlen : s.length ≤ 100000) (rest : Heap) (X : Fix) (hP : X.P = Pg) (hN : X.N = 183) :
    AW X (.loop (lO 18 11)) ⟨envOf (iE s a v l k (a + 1)), ovl [] rest⟩ fun e' S' => e' = .exit 3 ∧ S' = ⟨envOf (iE s a v l k (toN notNl s a)), ovl [] rest⟩ := by
 obtain ⟨h1, h2, h3⟩ := runN_spec notNl s (a + 1) (by omega)
 exact loop_of_segs (P := Pg) (N := 183) (c := loopOf Pg 18 11) (iE s a v l k) (fun _ _ => []) (fun i => a + 1 ≤ i ∧ i ≤ toN notNl s a) (fun i => toN notNl s a - i) (.exit 3) (iE s a v l k (toN notNl s a)) (fun _ => []) (a + 1) ⟨Nat.le_refl _, Nat.le_add_right _ _⟩ (by simp)
  (fun rest i hi => by
   have h1' : toN notNl s a ≤ s.length := h1
   rcases Nat.lt_or_ge i (toN notNl s a) with h | h
   ·have hb := List.getElem?_eq_getElem (l := s) (i := i) (by omega)
    exact .inl ⟨i + 1, ⟨by omega, h⟩, by omega, fun X hP hN => in11Step s a v l k i s[i] (by omega) (by rw [Int.toNat_natCast]; exact hb) hlen (h2 i _ hi.1 h hb) rest X hP hN⟩
   ·have : i = toN notNl s a := by omega
    subst this
    rcases Nat.lt_or_ge (toN notNl s a) s.length with hl | hl
    ·have hb := List.getElem?_eq_getElem hl
     exact .inr fun X hP hN => in11Stop s a v l k _ s[toN notNl s a] hl (by rw [Int.toNat_natCast]; exact hb) hlen (h3 _ hb) rest X hP hN
    ·have : toN notNl s a = s.length := by omega
     rw [this]
     exact .inr fun X hP hN => in11End s a v l k rest X hP hN) rest X hP hN
noncomputable def in11LH (ha : a < s.length) (hlen : s.length ≤ 100000) : LHint Pg := ⟨183, loopOf Pg 18 11, iE s a v l k (a + 1), fun _ => [], .exit 3, iE s a v l k (toN notNl s a), fun _ => [], in11Loop s a v l k ha hlen⟩
noncomputable def in14Pr (b : UInt8) (hi : to < s.length) (hb : s[((to : Nat) : Int).toNat]? = some b) (hlen : s.length ≤ 100000) (u w : Bool) (hu : isSm b = u) (hw : isDig b = w) : Par Pg :=
 { hint := fun f q => if f = 18 then (if q = 46 then some (qL hi) else if q = 50 then some (.sidx s (to : Int) b (by omega) hb) else if q = 51 then some (.call 27 _ _ (classC b)) else if q = 52 then some (hB Pg (classI b == 2) u (by rw [(class_spec b).2.1]; exact hu))
     else if q = 56 then some (.sidx s (to : Int) b (by omega) hb) else if q = 57 then some (.call 27 _ _ (classC b)) else if q = 58 then some (hB Pg (classI b == 3) w (by rw [(class_spec b).2.2.1]; exact hw)) else if q = 62 then some (hSucc Pg to (by omega)) else none) else none }
theorem in14Step (b : UInt8) (hi : to < s.length) (hb : s[((to : Nat) : Int).toNat]? = some b) (hlen : s.length ≤ 100000) (hp : isNm b = true) (rest : Heap) (X : Fix) (hP : X.P = Pg) (hN : X.N = 183) :
    AW X (lO 18 14) ⟨envOf (iE s a v l k to), ovl [] rest⟩ fun e' S' => e' = .normal ∧ Weak X S' ⟨envOf (iE s a v l k (to + 1)), ovl [] rest⟩ := by
 cases hu : isSm b with
 | true => exact seg okP named (in14Pr s to b hi hb hlen true _ hu rfl) 1000 18 900000 183 (by kernel_rfl) X hP hN
 | false =>
  have hw : isDig b = true := by simpa [isNm, hu] using hp
  exact seg okP named (in14Pr s to b hi hb hlen false true hu hw) 1000 18 900000 183 (by kernel_rfl) X hP hN
theorem in14Stop (b : UInt8) (hi : to < s.length) (hb : s[((to : Nat) : Int).toNat]? = some b) (hlen : s.length ≤ 100000) (hp : isNm b = false) (rest : Heap) (X : Fix) (hP : X.P = Pg) (hN : X.N = 183) :
    AW X (lO 18 14) ⟨envOf (iE s a v l k to), ovl [] rest⟩ fun e' S' => e' = .exit 5 ∧ Weak X S' ⟨envOf (iE s a v l k to), ovl [] rest⟩ := by
 simp only [isNm, Bool.or_eq_false_iff] at hp
 exact seg okP named (in14Pr s to b hi hb hlen false false hp.1 hp.2) 1000 18 900000 183 (by kernel_rfl) X hP hN
theorem in14End (rest : Heap) (X : Fix) (hP : X.P = Pg) (hN : X.N = 183) :
    AW X (lO 18 14) ⟨envOf (iE s a v l k s.length), ovl [] rest⟩ fun e' S' => e' = .exit 5 ∧ Weak X S' ⟨envOf (iE s a v l k s.length), ovl [] rest⟩ :=
 seg okP named { hint := fun f q => if f = 18 then (if q = 46 then some (qG s.length) else none) else none } 1000 18 900000 183 (by kernel_rfl) X hP hN
theorem in14Loop (ha : a < s.length) (hlen : s.length ≤ 100000) (rest : Heap) (X : Fix) (hP : X.P = Pg) (hN : X.N = 183) :
    AW X (.loop (lO 18 14)) ⟨envOf (iE s a v l k (a + 1)), ovl [] rest⟩ fun e' S' => e' = .exit 5 ∧ S' = ⟨envOf (iE s a v l k (toN isNm s a)), ovl [] rest⟩ := by
 obtain ⟨h1, h2, h3⟩ := runN_spec isNm s (a + 1) (by omega)
 exact loop_of_segs (P := Pg) (N := 183) (c := loopOf Pg 18 14) (iE s a v l k) (fun _ _ => []) (fun i => a + 1 ≤ i ∧ i ≤ toN isNm s a) (fun i => toN isNm s a - i) (.exit 5) (iE s a v l k (toN isNm s a)) (fun _ => []) (a + 1) ⟨Nat.le_refl _, Nat.le_add_right _ _⟩ (by simp)
  (fun rest i hi => by
   have h1' : toN isNm s a ≤ s.length := h1
   rcases Nat.lt_or_ge i (toN isNm s a) with h | h
   ·have hb := List.getElem?_eq_getElem (l := s) (i := i) (by omega)
    exact .inl ⟨i + 1, ⟨by omega, h⟩, by omega, fun X hP hN => in14Step s a v l k i s[i] (by omega) (by rw [Int.toNat_natCast]; exact hb) hlen (h2 i _ hi.1 h hb) rest X hP hN⟩
   ·have : i = toN isNm s a := by omega
    subst this
    rcases Nat.lt_or_ge (toN isNm s a) s.length with hl | hl
    ·have hb := List.getElem?_eq_getElem hl
     exact .inr fun X hP hN => in14Stop s a v l k _ s[toN isNm s a] hl (by rw [Int.toNat_natCast]; exact hb) hlen (h3 _ hb) rest X hP hN
    ·have : toN isNm s a = s.length := by omega
     rw [this]
     exact .inr fun X hP hN => in14End s a v l k rest X hP hN) rest X hP hN
noncomputable def in14LH (ha : a < s.length) (hlen : s.length ≤ 100000) : LHint Pg := ⟨183, loopOf Pg 18 14, iE s a v l k (a + 1), fun _ => [], .exit 5, iE s a v l k (toN isNm s a), fun _ => [], in14Loop s a v l k ha hlen⟩
theorem in23Step (b : UInt8) (hi : to < s.length) (hb : s[((to : Nat) : Int).toNat]? = some b) (hlen : s.length ≤ 100000) (hp : isDig b = true) (rest : Heap) (X : Fix) (hP : X.P = Pg) (hN : X.N = 183) :
    AW X (lO 18 23) ⟨envOf (iE s a v l k to), ovl [] rest⟩ fun e' S' => e' = .normal ∧ Weak X S' ⟨envOf (iE s a v l k (to + 1)), ovl [] rest⟩ :=
 seg okP named { hint := fun f q => if f = 18 then (if q = 88 then some (qL hi) else if q = 92 then some (.sidx s (to : Int) b (by omega) hb) else if q = 93 then some (.call 27 _ _ (classC b)) else if q = 94 then some (hB Pg (classI b == 3) true (by rw [(class_spec b).2.2.1]; exact hp)) else if q = 97 then some (hSucc Pg to (by omega)) else none) else none } 1000 18 900000 183 (by kernel_rfl) X hP hN
theorem in23Stop (b : UInt8) (hi : to < s.length) (hb : s[((to : Nat) : Int).toNat]? = some b) (hlen : s.length ≤ 100000) (hp : isDig b = false) (rest : Heap) (X : Fix) (hP : X.P = Pg) (hN : X.N = 183) :
    AW X (lO 18 23) ⟨envOf (iE s a v l k to), ovl [] rest⟩ fun e' S' => e' = .exit 7 ∧ Weak X S' ⟨envOf (iE s a v l k to), ovl [] rest⟩ :=
 seg okP named { hint := fun f q => if f = 18 then (if q = 88 then some (qL hi) else if q = 92 then some (.sidx s (to : Int) b (by omega) hb) else if q = 93 then some (.call 27 _ _ (classC b)) else if q = 94 then some (hB Pg (classI b == 3) false (by rw [(class_spec b).2.2.1]; exact hp)) else if q = 97 then some (hSucc Pg to (by omega)) else none) else none } 1000 18 900000 183 (by kernel_rfl) X hP hN
theorem in23End (rest : Heap) (X : Fix) (hP : X.P = Pg) (hN : X.N = 183) :
    AW X (lO 18 23) ⟨envOf (iE s a v l k s.length), ovl [] rest⟩ fun e' S' => e' = .exit 7 ∧ Weak X S' ⟨envOf (iE s a v l k s.length), ovl [] rest⟩ :=
 seg okP named { hint := fun f q => if f = 18 then (if q = 88 then some (qG s.length) else none) else none } 1000 18 900000 183 (by kernel_rfl) X hP hN
theorem in23Loop (ha : a < s.length) (hlen : s.length ≤ 100000) (rest : Heap) (X : Fix) (hP : X.P = Pg) (hN : X.N = 183) :
    AW X (.loop (lO 18 23)) ⟨envOf (iE s a v l k (a + 1)), ovl [] rest⟩ fun e' S' => e' = .exit 7 ∧ S' = ⟨envOf (iE s a v l k (toN isDig s a)), ovl [] rest⟩ := by
 obtain ⟨h1, h2, h3⟩ := runN_spec isDig s (a + 1) (by omega)
 exact loop_of_segs (P := Pg) (N := 183) (c := loopOf Pg 18 23) (iE s a v l k) (fun _ _ => []) (fun i => a + 1 ≤ i ∧ i ≤ toN isDig s a) (fun i => toN isDig s a - i) (.exit 7) (iE s a v l k (toN isDig s a)) (fun _ => []) (a + 1) ⟨Nat.le_refl _, Nat.le_add_right _ _⟩ (by simp)
  (fun rest i hi => by
   have h1' : toN isDig s a ≤ s.length := h1
   rcases Nat.lt_or_ge i (toN isDig s a) with h | h
   ·have hb := List.getElem?_eq_getElem (l := s) (i := i) (by omega)
    exact .inl ⟨i + 1, ⟨by omega, h⟩, by omega, fun X hP hN => in23Step s a v l k i s[i] (by omega) (by rw [Int.toNat_natCast]; exact hb) hlen (h2 i _ hi.1 h hb) rest X hP hN⟩
   ·have : i = toN isDig s a := by omega
    subst this
    rcases Nat.lt_or_ge (toN isDig s a) s.length with hl | hl
    ·have hb := List.getElem?_eq_getElem hl
     exact .inr fun X hP hN => in23Stop s a v l k _ s[toN isDig s a] hl (by rw [Int.toNat_natCast]; exact hb) hlen (h3 _ hb) rest X hP hN
    ·have : toN isDig s a = s.length := by omega
     rw [this]
     exact .inr fun X hP hN => in23End s a v l k rest X hP hN) rest X hP hN
noncomputable def in23LH (ha : a < s.length) (hlen : s.length ≤ 100000) : LHint Pg := ⟨183, loopOf Pg 18 23, iE s a v l k (a + 1), fun _ => [], .exit 7, iE s a v l k (toN isDig s a), fun _ => [], in23Loop s a v l k ha hlen⟩
end
theorem toN_le (p : UInt8 → Bool) (s : List UInt8) (a : Nat) (ha : a < s.length) : a + 1 ≤ toN p s a ∧ toN p s a ≤ s.length := ⟨Nat.le_add_right _ _, (runN_spec p s (a + 1) (by omega)).1⟩
section
variable (s : List UInt8) (a v x : Nat) (l : List D)
noncomputable def rfPr (b : UInt8) (ha : a < s.length) (hb : s[((a : Nat) : Int).toNat]? = some b) (hlen : s.length ≤ 100000) (k : Int) (hk : classI b = k) (more : Nat → Option (Hint Pg)) (H : Nat → Option (LHint Pg)) : Par Pg :=
 { hint := fun f q => if f = 18 then (if q = 17 then some (qL ha) else if q = 19 then some (hSucc Pg a (by omega)) else if q = 22 then some (.sidx s (a : Int) b (by omega) hb) else if q = 23 then some (.call 27 [bD b] [.int .i64 k] (hk ▸ classC b)) else more q) else none
   loops := fun f r => if f = 18 then H r else none }
section
variable (b : UInt8) (ha : a < s.length) (hb : s[((a : Nat) : Int).toNat]? = some b) (hlen : s.length ≤ 100000)
include b ha hb hlen
theorem rfBlank (hk : classI b = 1) (rest : Heap) (X : Fix) (hP : X.P = Pg) (hN : X.N = 183) :
    AW X (lO 18 5) ⟨envOf (rfE s a v l), ovl (rfHp v x) rest⟩ fun e' S' => e' = .normal ∧ Weak X S' ⟨envOf (rfE s (a + 1) v l), ovl (rfHp v x) rest⟩ :=
 seg okP named (rfPr s a b ha hb hlen 1 hk (fun _ => none) (fun _ => none)) 1000 18 900000 183 (by kernel_rfl) X hP hN
theorem rfRem (hk : classI b = 5) (rest : Heap) (X : Fix) (hP : X.P = Pg) (hN : X.N = 183) :
    AW X (lO 18 5) ⟨envOf (rfE s a v l), ovl (rfHp v x) rest⟩ fun e' S' => e' = .normal ∧ Weak X S' ⟨envOf (rfE s (toN notNl s a) v l), ovl (rfHp v x) rest⟩ :=
 seg okP named (rfPr s a b ha hb hlen 5 hk (fun _ => none) (fun r => if r = 11 then some (in11LH s a v l 5 ha hlen) else none)) 1000 18 900000 183 (by kernel_rfl) X hP hN
theorem rfZero (hk : classI b = 0) (rest : Heap) (X : Fix) (hP : X.P = Pg) (hN : X.N = 183) :
    AW X (lO 18 5) ⟨envOf (rfE s a v l), ovl (rfHp v x) rest⟩ fun e' S' => e' = .ret ∧ Weak X S' ⟨envOf [(2, .nils), (3, dN a), (4, dI 4)], ovl (rfHp v x) rest⟩ :=
 seg okP named (rfPr s a b ha hb hlen 0 hk (fun _ => none) (fun _ => none)) 1000 18 900000 183 (by kernel_rfl) X hP hN
theorem rfGreat (hk : classI b = 6) (rest : Heap) (X : Fix) (hP : X.P = Pg) (hN : X.N = 183) :
    AW X (lO 18 5) ⟨envOf (rfE s a v l), ovl (rfHp v x) rest⟩ fun e' S' => e' = .ret ∧ Weak X S' ⟨envOf [(2, .nils), (3, dN a), (4, dI 4)], ovl (rfHp v x) rest⟩ :=
 seg okP named (rfPr s a b ha hb hlen 6 hk (fun _ => none) (fun _ => none)) 1000 18 900000 183 (by kernel_rfl) X hP hN
end
noncomputable def nameM (hlen : s.length ≤ 100000) (ha : a < s.length) (w : Bool) (hw : Pure Pg 28 [.str (sub s a (toN isNm s a))] [.bool w]) (g : Bool) (hg : decide (12 < ((toN isNm s a - a : Nat) : Int)) = g) (hl : l.length + 1 ≤ 549755813888) (q : Nat) : Option (Hint Pg) :=
 if q = 66 then some (.sub s a (toN isNm s a) ⟨by have := toN_le isNm s a ha; omega, (toN_le isNm s a ha).2⟩) else if q = 67 then some (.call 28 _ _ hw) else if q = 70 then some (hU Pg .i64 (IntKind.i64.wrap (((toN isNm s a : Nat) : Int) - (a : Int))) ((toN isNm s a - a : Nat) : Int) (by have := toN_le isNm s a ha; rw [IntWalk.i64_in _ (by omega)]; omega))
 else if q = 71 then some (hB Pg _ g hg) else if q = 79 then some (.sub s a (toN isNm s a) ⟨by have := toN_le isNm s a ha; omega, (toN_le isNm s a ha).2⟩) else if q = 82 then some (.app l 1 hl) else none
section
variable (b : UInt8) (ha : a < s.length) (hb : s[((a : Nat) : Int).toNat]? = some b) (hlen : s.length ≤ 100000) (hk : classI b = 2)
include b ha hb hlen hk
theorem rfWord (hw : Pure Pg 28 [.str (sub s a (toN isNm s a))] [.bool true]) (hl : l.length + 1 ≤ 549755813888) (rest : Heap) (X : Fix) (hP : X.P = Pg) (hN : X.N = 183) :
    AW X (lO 18 5) ⟨envOf (rfE s a v l), ovl (rfHp v x) rest⟩ fun e' S' => e' = .normal ∧ Weak X S' ⟨envOf (rfE s (toN isNm s a) (v + 1) (l ++ [tokD 2 a (sub s a (toN isNm s a)) 0])), ovl (rfHp (v + 1) (x + 1)) rest⟩ :=
 seg okP named (rfPr s a b ha hb hlen 2 hk (nameM s a l hlen ha true hw _ rfl hl) (fun r => if r = 14 then some (in14LH s a v l 2 ha hlen) else none)) 1000 18 (2000000 - 81 - 183 * 30) 183 (by kernel_rfl) X hP hN
theorem rfName (hw : Pure Pg 28 [.str (sub s a (toN isNm s a))] [.bool false]) (hg : decide (12 < ((toN isNm s a - a : Nat) : Int)) = false) (hl : l.length + 1 ≤ 549755813888) (rest : Heap) (X : Fix) (hP : X.P = Pg) (hN : X.N = 183) :
    AW X (lO 18 5) ⟨envOf (rfE s a v l), ovl (rfHp v x) rest⟩ fun e' S' => e' = .normal ∧ Weak X S' ⟨envOf (rfE s (toN isNm s a) (v + 1) (l ++ [tokD 1 a (sub s a (toN isNm s a)) 0])), ovl (rfHp (v + 1) (x + 1)) rest⟩ :=
 seg okP named (rfPr s a b ha hb hlen 2 hk (nameM s a l hlen ha false hw false hg hl) (fun r => if r = 14 then some (in14LH s a v l 2 ha hlen) else none)) 1000 18 (2000000 - 81 - 183 * 33) 183 (by kernel_rfl) X hP hN
theorem rfLong (hw : Pure Pg 28 [.str (sub s a (toN isNm s a))] [.bool false]) (hg : decide (12 < ((toN isNm s a - a : Nat) : Int)) = true) (hl : l.length + 1 ≤ 549755813888) (rest : Heap) (X : Fix) (hP : X.P = Pg) (hN : X.N = 183) :
    AW X (lO 18 5) ⟨envOf (rfE s a v l), ovl (rfHp v x) rest⟩ fun e' S' => e' = .ret ∧ Weak X S' ⟨envOf [(2, .nils), (3, dN a), (4, dI 2)], ovl (rfHp v x) rest⟩ :=
 seg okP named (rfPr s a b ha hb hlen 2 hk (nameM s a l hlen ha false hw true hg hl) (fun r => if r = 14 then some (in14LH s a v l 2 ha hlen) else none)) 1000 18 900000 183 (by kernel_rfl) X hP hN
end
noncomputable def numM (b : UInt8) (hb : s[((a : Nat) : Int).toNat]? = some b) (hlen : s.length ≤ 100000) (ha : a < s.length) (n : Int) (ok : Bool) (hv : Pure Pg 29 [.str (sub s a (toN isDig s a))] [.int .i64 n, .bool ok]) (y z xx u g : Bool) (hy : ((b.toNat : Int) == 48) = y) (hz : decide (((a + 1 : Nat) : Int) < ((toN isDig s a : Nat) : Int)) = z)
    (hx : decide (((toN isDig s a : Nat) : Int) < (s.length : Int)) = xx) (c : UInt8) (hc : xx = true → s[((toN isDig s a : Nat) : Int).toNat]? = some c) (hu : isSm c = u) (hg : great c = g) (hl : l.length + 1 ≤ 549755813888) (q : Nat) : Option (Hint Pg) :=
 if q = 102 then some (.sub s a (toN isDig s a) ⟨by have := toN_le isDig s a ha; omega, (toN_le isDig s a ha).2⟩) else if q = 103 then some (.call 29 _ _ hv) else if q = 111 then some (.sidx s (a : Int) b (by omega) hb) else if q = 112 then some (hB Pg _ y hy) else if q = 116 then some (hSucc Pg a (by omega))
 else if q = 117 then some (hB Pg _ z hz) else if q = 123 then some (hB Pg _ xx hx) else if q = 127 then (if h : xx = true then some (.sidx s ((toN isDig s a : Nat) : Int) c (by omega) (hc h)) else none) else if q = 128 then some (.call 27 _ _ (classC c)) else if q = 129 then some (hB Pg (classI c == 2) u (by rw [(class_spec c).2.1]; exact hu))
 else if q = 133 then (if h : xx = true then some (.sidx s ((toN isDig s a : Nat) : Int) c (by omega) (hc h)) else none) else if q = 134 then some (.call 27 _ _ (classC c)) else if q = 135 then some (hB Pg (classI c == 6) g (by rw [(class_spec c).2.2.2.2.1]; exact hg))
 else if q = 145 then some (.sub s a (toN isDig s a) ⟨by have := toN_le isDig s a ha; omega, (toN_le isDig s a ha).2⟩) else if q = 149 then some (.app l 1 hl) else none
def refBad (y z xx u g : Bool) : Bool := (y && z) || (xx && (u || g))
section
variable (b : UInt8) (ha : a < s.length) (hb : s[((a : Nat) : Int).toNat]? = some b) (hlen : s.length ≤ 100000) (hk : classI b = 3) (n : Int)
include b ha hb hlen hk n
theorem rfGreatN (hv : Pure Pg 29 [.str (sub s a (toN isDig s a))] [.int .i64 n, .bool false]) (y z xx u g : Bool) (hy : ((b.toNat : Int) == 48) = y) (hz : decide (((a + 1 : Nat) : Int) < ((toN isDig s a : Nat) : Int)) = z) (hx : decide (((toN isDig s a : Nat) : Int) < (s.length : Int)) = xx) (c : UInt8) (hc : xx = true → s[((toN isDig s a : Nat) : Int).toNat]? = some c) (hu : isSm c = u) (hg : great c = g) (hl : l.length + 1 ≤ 549755813888) (rest : Heap) (X : Fix) (hP : X.P = Pg) (hN : X.N = 183) :
    AW X (lO 18 5) ⟨envOf (rfE s a v l), ovl (rfHp v x) rest⟩ fun e' S' => e' = .ret ∧ Weak X S' ⟨envOf [(2, .nils), (3, dN a), (4, dI 2)], ovl (rfHp v x) rest⟩ :=
 seg okP named (rfPr s a b ha hb hlen 3 hk (numM s a l b hb hlen ha n false hv y z xx u g hy hz hx c hc hu hg hl) (fun r => if r = 23 then some (in23LH s a v l 3 ha hlen) else none)) 1000 18 900000 183 (by kernel_rfl) X hP hN
theorem rfBadN (hv : Pure Pg 29 [.str (sub s a (toN isDig s a))] [.int .i64 n, .bool true]) (y z xx u g : Bool) (hy : ((b.toNat : Int) == 48) = y) (hz : decide (((a + 1 : Nat) : Int) < ((toN isDig s a : Nat) : Int)) = z) (hx : decide (((toN isDig s a : Nat) : Int) < (s.length : Int)) = xx) (c : UInt8) (hc : xx = true → s[((toN isDig s a : Nat) : Int).toNat]? = some c) (hu : isSm c = u) (hg : great c = g) (hl : l.length + 1 ≤ 549755813888) (hbad : refBad y z xx u g = true) (rest : Heap) (X : Fix) (hP : X.P = Pg) (hN : X.N = 183) :
    AW X (lO 18 5) ⟨envOf (rfE s a v l), ovl (rfHp v x) rest⟩ fun e' S' => e' = .ret ∧ Weak X S' ⟨envOf [(2, .nils), (3, dN a), (4, dI 4)], ovl (rfHp v x) rest⟩ := by
 cases y <;> cases z <;> cases xx <;> cases u <;> cases g <;> first | exact absurd hbad (by decide) | exact seg okP named (rfPr s a b ha hb hlen 3 hk (numM s a l b hb hlen ha n true hv _ _ _ _ _ hy hz hx c hc hu hg hl) (fun r => if r = 23 then some (in23LH s a v l 3 ha hlen) else none)) 1000 18 900000 183 (by kernel_rfl) X hP hN
theorem rfNum (hv : Pure Pg 29 [.str (sub s a (toN isDig s a))] [.int .i64 n, .bool true]) (y z xx u g : Bool) (hy : ((b.toNat : Int) == 48) = y) (hz : decide (((a + 1 : Nat) : Int) < ((toN isDig s a : Nat) : Int)) = z) (hx : decide (((toN isDig s a : Nat) : Int) < (s.length : Int)) = xx) (c : UInt8) (hc : xx = true → s[((toN isDig s a : Nat) : Int).toNat]? = some c) (hu : isSm c = u) (hg : great c = g) (hl : l.length + 1 ≤ 549755813888) (hbad : refBad y z xx u g = false) (rest : Heap) (X : Fix) (hP : X.P = Pg) (hN : X.N = 183) :
    AW X (lO 18 5) ⟨envOf (rfE s a v l), ovl (rfHp v x) rest⟩ fun e' S' => e' = .normal ∧ Weak X S' ⟨envOf (rfE s (toN isDig s a) (v + 1) (l ++ [tokD 3 a (sub s a (toN isDig s a)) n])), ovl (rfHp (v + 1) (x + 1)) rest⟩ := by
 cases y with
 | false => cases xx with
  | false => exact seg okP named (rfPr s a b ha hb hlen 3 hk (numM s a l b hb hlen ha n true hv false z false u g hy hz hx c hc hu hg hl) (fun r => if r = 23 then some (in23LH s a v l 3 ha hlen) else none)) 1000 18 (2000000 - 148 - 183 * 51) 183 (by kernel_rfl) X hP hN
  | true =>
   cases u with
   | true => exact absurd hbad (by cases z <;> cases g <;> decide)
   | false => cases g with
    | true => exact absurd hbad (by cases z <;> decide)
    | false => exact seg okP named (rfPr s a b ha hb hlen 3 hk (numM s a l b hb hlen ha n true hv false z true false false hy hz hx c hc hu hg hl) (fun r => if r = 23 then some (in23LH s a v l 3 ha hlen) else none)) 1000 18 (2000000 - 148 - 183 * 61) 183 (by kernel_rfl) X hP hN
 | true => cases z with
  | true => exact absurd hbad (by cases xx <;> cases u <;> cases g <;> decide)
  | false => cases xx with
   | false => exact seg okP named (rfPr s a b ha hb hlen 3 hk (numM s a l b hb hlen ha n true hv true false false u g hy hz hx c hc hu hg hl) (fun r => if r = 23 then some (in23LH s a v l 3 ha hlen) else none)) 1000 18 (2000000 - 148 - 183 * 55) 183 (by kernel_rfl) X hP hN
   | true =>
    cases u with
    | true => exact absurd hbad (by cases g <;> decide)
    | false => cases g with
     | true => exact absurd hbad (by decide)
     | false => exact seg okP named (rfPr s a b ha hb hlen 3 hk (numM s a l b hb hlen ha n true hv true false true false false hy hz hx c hc hu hg hl) (fun r => if r = 23 then some (in23LH s a v l 3 ha hlen) else none)) 1000 18 (2000000 - 148 - 183 * 65) 183 (by kernel_rfl) X hP hN
end
noncomputable def sgnM (b : UInt8) (hb : s[((a : Nat) : Int).toNat]? = some b) (hlen : s.length ≤ 100000) (ha : a < s.length) (xx : Bool) (hx : decide (((a + 1 : Nat) : Int) < (s.length : Int)) = xx) (c : UInt8) (hc : xx = true → s[((a + 1 : Nat) : Int).toNat]? = some c) (u : Bool) (hu : prs.contains [b, c] = u) (e : Nat) (he : a ≤ e ∧ e ≤ s.length) (hl : l.length + 1 ≤ 549755813888) (q : Nat) : Option (Hint Pg) :=
 if q = 155 then some (hB Pg _ xx hx) else if q = 159 then some (.sidx s (a : Int) b (by omega) hb) else if q = 162 then (if h : xx = true then some (.sidx s ((a + 1 : Nat) : Int) c (by omega) (hc h)) else none) else if q = 163 then some (.call 30 [bD b, bD c] [.bool u] (hu ▸ pairC b c))
 else if q = 166 then some (hSucc Pg (a + 1) (by omega)) else if q = 172 then some (.sub s a e he) else if q = 175 then some (.app l 1 hl) else none
section
variable (b : UInt8) (ha : a < s.length) (hb : s[((a : Nat) : Int).toNat]? = some b) (hlen : s.length ≤ 100000) (hk : classI b = 4)
include b ha hb hlen hk
theorem rfPair (hx : decide (((a + 1 : Nat) : Int) < (s.length : Int)) = true) (c : UInt8) (hc : s[((a + 1 : Nat) : Int).toNat]? = some c) (hu : prs.contains [b, c] = true) (he : a ≤ a + 1 + 1 ∧ a + 1 + 1 ≤ s.length) (hl : l.length + 1 ≤ 549755813888) (rest : Heap) (X : Fix) (hP : X.P = Pg) (hN : X.N = 183) :
    AW X (lO 18 5) ⟨envOf (rfE s a v l), ovl (rfHp v x) rest⟩ fun e' S' => e' = .normal ∧ Weak X S' ⟨envOf (rfE s (a + 1 + 1) (v + 1) (l ++ [tokD 4 a (sub s a (a + 1 + 1)) 0])), ovl (rfHp (v + 1) (x + 1)) rest⟩ :=
 seg okP named (rfPr s a b ha hb hlen 4 hk (sgnM s a l b hb hlen ha true hx c (fun _ => hc) true hu (a + 1 + 1) he hl) (fun _ => none)) 1000 18 (2000000 - 174 - 183 * 42) 183 (by kernel_rfl) X hP hN
theorem rfOne (hx : decide (((a + 1 : Nat) : Int) < (s.length : Int)) = true) (c : UInt8) (hc : s[((a + 1 : Nat) : Int).toNat]? = some c) (hu : prs.contains [b, c] = false) (he : a ≤ a + 1 ∧ a + 1 ≤ s.length) (hl : l.length + 1 ≤ 549755813888) (rest : Heap) (X : Fix) (hP : X.P = Pg) (hN : X.N = 183) :
    AW X (lO 18 5) ⟨envOf (rfE s a v l), ovl (rfHp v x) rest⟩ fun e' S' => e' = .normal ∧ Weak X S' ⟨envOf (rfE s (a + 1) (v + 1) (l ++ [tokD 4 a (sub s a (a + 1)) 0])), ovl (rfHp (v + 1) (x + 1)) rest⟩ :=
 seg okP named (rfPr s a b ha hb hlen 4 hk (sgnM s a l b hb hlen ha true hx c (fun _ => hc) false hu (a + 1) he hl) (fun _ => none)) 1000 18 (2000000 - 174 - 183 * 39) 183 (by kernel_rfl) X hP hN
theorem rfLast (hx : decide (((a + 1 : Nat) : Int) < (s.length : Int)) = false) (he : a ≤ a + 1 ∧ a + 1 ≤ s.length) (hl : l.length + 1 ≤ 549755813888) (rest : Heap) (X : Fix) (hP : X.P = Pg) (hN : X.N = 183) :
    AW X (lO 18 5) ⟨envOf (rfE s a v l), ovl (rfHp v x) rest⟩ fun e' S' => e' = .normal ∧ Weak X S' ⟨envOf (rfE s (a + 1) (v + 1) (l ++ [tokD 4 a (sub s a (a + 1)) 0])), ovl (rfHp (v + 1) (x + 1)) rest⟩ :=
 seg okP named (rfPr s a b ha hb hlen 4 hk (sgnM s a l b hb hlen ha false hx 0 (fun h => by cases h) _ rfl (a + 1) he hl) (fun _ => none)) 1000 18 (2000000 - 174 - 183 * 33) 183 (by kernel_rfl) X hP hN
end
theorem rfStop (rest : Heap) (X : Fix) (hP : X.P = Pg) (hN : X.N = 183) :
    AW X (lO 18 5) ⟨envOf (rfE s s.length v l), ovl (rfHp v x) rest⟩ fun e' S' => e' = .exit 0 ∧ Weak X S' ⟨envOf (rfE s s.length v l), ovl (rfHp v x) rest⟩ :=
 seg okP named { hint := fun f q => if f = 18 then (if q = 17 then some (qG s.length) else none) else none } 1000 18 900000 183 (by kernel_rfl) X hP hN
end
end Go.Avm
namespace Go.Avm
open Go.Proofs
def gapT (c : Nat) : List UInt8 := match c with
 | 0 => [32]
 | 1 => [10]
 | 2 => [35, 32, 125, 10]
 | _ => [9, 9]
def gapOf (gaps : List UInt8) (i : Nat) : List UInt8 := match gaps[i]? with
 | some g => gapT (g.toNat % 4)
 | none => gapT 0
def apart (gaps : List UInt8) : Nat → List (Nat × Tok) → List UInt8
 | i, [] => gapOf gaps i
 | i, x :: ts => x.2.2.1 ++ (gapOf gaps i ++ apart gaps (i + 1) ts)
theorem gap_cases (gaps : List UInt8) (i : Nat) : gapOf gaps i = gapT 0 ∨ gapOf gaps i = gapT 1 ∨ gapOf gaps i = gapT 2 ∨ gapOf gaps i = gapT 3 := by
 unfold gapOf
 split
 ·rename_i g _
  have : g.toNat % 4 < 4 := Nat.mod_lt _ (by decide)
  generalize g.toNat % 4 = c at this
  match c, this with
  | 0, _ => simp
  | 1, _ => simp
  | 2, _ => simp
  | 3, _ => simp
 ·simp
theorem gap_skip (gaps : List UInt8) (i : Nat) (r : List UInt8) : skipN false (gapOf gaps i ++ r) = (gapOf gaps i).length + skipN false r := by
 rcases gap_cases gaps i with h | h | h | h <;> rw [h]
 ·show skipN false (32 :: r) = 1 + skipN false r
  rfl
 ·show skipN false (10 :: r) = 1 + skipN false r
  rfl
 ·show 1 + (1 + (1 + (1 + skipN false r))) = 4 + skipN false r
  omega
 ·show 1 + (1 + skipN false r) = 2 + skipN false r
  omega
theorem gap_head (gaps : List UInt8) (i : Nat) (r : List UInt8) : ∃ c, (gapOf gaps i ++ r).head? = some c ∧ ends c := by
 rcases gap_cases gaps i with h | h | h | h <;> rw [h]
 ·exact ⟨32, rfl, ends32⟩
 ·exact ⟨10, rfl, ends10⟩
 ·exact ⟨35, rfl, ⟨by decide, by decide, fun b => by simp [prs]⟩⟩
 ·exact ⟨9, rfl, ends9⟩
def blankish (n : Nat) : Bool := (wsp (UInt8.ofNat n) || UInt8.ofNat n == 35) && (isDig (UInt8.ofNat n) || isSm (UInt8.ofNat n) || sg1 (UInt8.ofNat n))
theorem noBlankish : (List.range 256).all (fun n => !(blankish n)) = true := by kernel_rfl
theorem tok_not_blank {b : UInt8} (h : isDig b = true ∨ isSm b = true ∨ sg1 b = true) : wsp b = false ∧ (b == 35) = false := by
 have h1 := List.all_eq_true.1 noBlankish b.toNat (List.mem_range.2 b.toNat_lt)
 simp only [blankish, UInt8.ofNat_toNat, Bool.not_eq_true', Bool.and_eq_false_iff, Bool.or_eq_false_iff] at h1
 rcases h1 with h1 | ⟨⟨h2, h3⟩, h4⟩
 ·exact h1
 ·rcases h with h | h | h
  ·rw [h2] at h; cases h
  ·rw [h3] at h; cases h
  ·rw [h4] at h; cases h
theorem pair_sg {b c : UInt8} (h : prs.contains [b, c] = true) : sg1 b = true := by
 simp only [prs, List.contains_eq_mem, decide_eq_true_eq, List.mem_cons, List.not_mem_nil, or_false, List.cons.injEq, and_true] at h
 rcases h with ⟨rfl, _⟩ | ⟨rfl, _⟩ | ⟨rfl, _⟩ | ⟨rfl, _⟩ | ⟨rfl, _⟩ | ⟨rfl, _⟩ | ⟨rfl, _⟩ | ⟨rfl, _⟩ <;> rfl
theorem good_skip {kd n : Int} {t : List UInt8} {h : Option UInt8} (hg : GoodT kd t n h) (hne : t ≠ []) (r : List UInt8) : skipN false (t ++ r) = 0 := by
 have key : isDig (t.headD 0) = true ∨ isSm (t.headD 0) = true ∨ sg1 (t.headD 0) = true := by
  rcases hg with ⟨_, _, h3, h4, _⟩ | ⟨_, _, h3, _⟩ | ⟨_, _, _, _, ⟨b, c, rfl, hp⟩ | ⟨b, rfl, hs, _⟩⟩
  ·cases t with
   | nil => exact absurd rfl h3
   | cons b u => exact .inl (h4 b (by simp))
  ·exact .inr (.inl h3)
  ·exact .inr (.inr (pair_sg hp))
  ·exact .inr (.inr hs)
 cases t with
 | nil => exact absurd rfl hne
 | cons b u =>
  have := tok_not_blank (b := b) key
  rw [List.cons_append]
  simp only [skipN, this.1, this.2]
  rfl
def AllGood (ts : List (Nat × Tok)) : Prop := ∀ x ∈ ts, x.2.2.1 ≠ [] ∧ ∃ h, GoodT x.2.1 x.2.2.1 x.2.2.2 h
theorem scanB_good : ∀ (n : Nat) (r : List UInt8) (a : Nat) (ts : List (Nat × Tok)), scanB n r a = .ok ts → AllGood ts
 | 0, r, a, ts, h => by cases h; intro x hx; cases hx
 | n + 1, [], a, ts, h => by cases h; intro x hx; cases hx
 | n + 1, b :: r, a, ts, h => by
  cases ht : tokL (b :: r) with
  | error k' => rw [scanB_cons, ht] at h; cases h
  | ok t =>
   obtain ⟨kd, t, k⟩ := t
   obtain ⟨q, hq, hne, hg⟩ := tok_split ht
   rw [hq, scanB_tok n t q kd k a hne hg] at h
   split at h
   ·cases h
   ·rename_i ts1 hs
    cases h
    have ih := scanB_good n _ _ ts1 hs
    intro x hx
    rcases List.mem_cons.1 hx with rfl | hx
    ·exact ⟨hne, _, hg⟩
    ·exact ih x hx
def apartS (gaps : List UInt8) (i : Nat) : List (Nat × Tok) → List UInt8
 | [] => []
 | x :: ts => apart gaps i (x :: ts)
theorem apart_skip (gaps : List UInt8) (i : Nat) (ts : List (Nat × Tok)) (hg : AllGood ts) : (apart gaps i ts).drop (skipN false (apart gaps i ts)) = apartS gaps i ts := by
 cases ts with
 | nil =>
  have h := gap_skip gaps i []
  rw [List.append_nil] at h
  show (gapOf gaps i).drop (skipN false (gapOf gaps i)) = []
  rw [h]
  exact List.drop_eq_nil_iff.2 (by simp [skipN])
 | cons x ts =>
  obtain ⟨hne, h, hgood⟩ := hg x (by simp)
  have : skipN false (apart gaps i (x :: ts)) = 0 := good_skip hgood hne _
  rw [this]
  rfl
theorem scan_apart (gaps : List UInt8) : ∀ (ts : List (Nat × Tok)) (i n a : Nat), AllGood ts → ts.length < n → ∃ ts', scanB n (apartS gaps i ts) a = .ok ts' ∧ ts'.map (·.2) = ts.map (·.2)
 | [], i, n, a, _, h => by
  cases n with
  | zero => omega
  | succ n => exact ⟨[], rfl, rfl⟩
 | x :: ts, i, 0, a, _, h => by omega
 | x :: ts, i, n + 1, a, hg, h => by
  obtain ⟨hne, h0, hgood⟩ := hg x (by simp)
  obtain ⟨A, kd, t, k⟩ := x
  obtain ⟨c, hc, hend⟩ := gap_head gaps i (apart gaps (i + 1) ts)
  have hg2 : AllGood ts := fun y hy => hg y (by simp [hy])
  have hsk : (gapOf gaps i ++ apart gaps (i + 1) ts).drop (skipN false (gapOf gaps i ++ apart gaps (i + 1) ts)) = apartS gaps (i + 1) ts := by
   rw [gap_skip, ← List.drop_drop, drop_app, apart_skip gaps (i + 1) ts hg2]
  obtain ⟨ts', h1, h2⟩ := scan_apart gaps ts (i + 1) n (a + t.length + skipN false (gapOf gaps i ++ apart gaps (i + 1) ts)) hg2 (by simp only [List.length_cons] at h; omega)
  refine ⟨(a, (kd, t, k)) :: ts', ?_, ?_⟩
  ·show scanB (n + 1) (t ++ (gapOf gaps i ++ apart gaps (i + 1) ts)) a = _
   rw [scanB_tok n t _ kd k a hne (by rw [hc]; exact good_ends hgood hend), hsk, h1]
  ·simp only [List.map_cons, h2]
theorem apart_len (gaps : List UInt8) : ∀ (ts : List (Nat × Tok)) (i : Nat), AllGood ts → ts.length < (apart gaps i ts).length
 | [], i, _ => by
  show 0 < (gapOf gaps i).length
  rcases gap_cases gaps i with h | h | h | h <;> rw [h] <;> decide
 | x :: ts, i, hg => by
  have ih := apart_len gaps ts (i + 1) fun y hy => hg y (by simp [hy])
  have h1 := List.length_pos_iff.2 (hg x (by simp)).1
  simp only [apart, List.length_append, List.length_cons]
  omega
theorem scanF_apart {gaps : List UInt8} {ts : List (Nat × Tok)} (hg : AllGood ts) : ∃ ts', scanF (apart gaps 0 ts) = .ok ts' ∧ ts'.map (·.2) = ts.map (·.2) := by
 unfold scanF
 rw [apart_skip gaps 0 ts hg]
 have := apart_len gaps ts 0 hg
 exact scan_apart gaps ts 0 _ _ hg (by omega)
end Go.Avm
namespace Go.Avm
open Go.Proofs
theorem refWordC (t : List UInt8) : Pure Pg 28 [.str t] [.bool (isWord t)] := by
 rcases findD_words t wl wordsE 0 rfl with ⟨i, g1, g2, g3⟩ | ⟨g1, g2⟩
 ·have : isWord t = true := by
    simp only [isWord, List.contains_eq_mem, decide_eq_true_eq]
    exact List.mem_of_getElem? g1
  rw [this]
  exact refT t i g1 g2
 ·have : isWord t = false := by
    simp only [isWord, List.contains_eq_mem, decide_eq_false_iff_not]
    intro hm
    obtain ⟨i, hi⟩ := List.getElem?_of_mem hm
    have := g1 i t hi
    simp at this
  rw [this]
  exact refF t g1
section
variable (p : UInt8 → Bool) (s : List UInt8) (a : Nat) (b : UInt8) (h : s.drop a = b :: s.drop (a + 1)) (hb : p b = true)
include p s a b h hb
theorem toN_eq : toN p s a = a + runN p (s.drop a) := by
 unfold toN runN
 rw [h, List.takeWhile_cons, if_pos hb, List.length_cons]
 omega
theorem toN_sub : sub s a (toN p s a) = (s.drop a).takeWhile p := by
 rw [toN_eq p s a b h hb, sub_tw]
end
theorem runN_len (p : UInt8 → Bool) (l : List UInt8) : runN p l = (l.takeWhile p).length := rfl
def RefSays (s : List UInt8) (a v x : Nat) (l : List D) : Except (Nat × Int) (List (Nat × Tok)) → Prop
 | .error (p, k) => ∃ v' x', RL 183 (lO 18 5) (rfE s a v l) (rfHp v x) .ret [(2, .nils), (3, dN p), (4, dI k)] (rfHp v' x')
 | .ok ts => (l ++ ts.map tokOf).length ≤ s.length ∧ ∃ v' x', RL 183 (lO 18 5) (rfE s a v l) (rfHp v x) (.exit 0) (rfE s s.length v' (l ++ ts.map tokOf)) (rfHp v' x')
def consR (y : Nat × Tok) (r : Except (Nat × Int) (List (Nat × Tok))) : Except (Nat × Int) (List (Nat × Tok)) := match r with
 | .error e => .error e
 | .ok ts => .ok (y :: ts)
section
variable {s : List UInt8} {a v x : Nat} {l : List D}
theorem says_step {a1 v1 x1 : Nat} {l1 : List D} {r : Except (Nat × Int) (List (Nat × Tok))} (h : RZ 183 (lO 18 5) (rfE s a v l) (rfHp v x) .normal (rfE s a1 v1 l1) (rfHp v1 x1))
    (hl : l1 = l) (ih : RefSays s a1 v1 x1 l1 r) : RefSays s a v x l r := by
 subst hl
 cases r with
 | error e =>
  obtain ⟨p, k⟩ := e
  obtain ⟨v', x', hh⟩ := ih
  exact ⟨v', x', fun rest X hP hN => lw_seg (h rest X hP hN) (hh rest X hP hN)⟩
 | ok ts =>
  obtain ⟨hle, v', x', hh⟩ := ih
  exact ⟨hle, v', x', fun rest X hP hN => lw_seg (h rest X hP hN) (hh rest X hP hN)⟩
theorem says_tok {a1 v1 x1 : Nat} {kd n : Int} {t : List UInt8} {r : Except (Nat × Int) (List (Nat × Tok))} (h : RZ 183 (lO 18 5) (rfE s a v l) (rfHp v x) .normal (rfE s a1 v1 (l ++ [tokD kd a t n])) (rfHp v1 x1))
    (ih : RefSays s a1 v1 x1 (l ++ [tokD kd a t n]) r) : RefSays s a v x l (consR (a, (kd, t, n)) r) := by
 cases r with
 | error e =>
  obtain ⟨p, k⟩ := e
  obtain ⟨v', x', hh⟩ := ih
  exact ⟨v', x', fun rest X hP hN => lw_seg (h rest X hP hN) (hh rest X hP hN)⟩
 | ok ts =>
  obtain ⟨hle, v', x', hh⟩ := ih
  have e : l ++ [tokD kd a t n] ++ ts.map tokOf = l ++ ((a, (kd, t, n)) :: ts).map tokOf := by simp [tokOf]
  rw [e] at hle hh
  exact ⟨hle, v', x', fun rest X hP hN => lw_seg (h rest X hP hN) (hh rest X hP hN)⟩
theorem says_err {k : Int} (h : RZ 183 (lO 18 5) (rfE s a v l) (rfHp v x) .ret [(2, .nils), (3, dN a), (4, dI k)] (rfHp v x)) : RefSays s a v x l (.error (a, k)) :=
 ⟨v, x, fun rest X hP hN => lw_end (h rest X hP hN) (by simp)⟩
end
theorem refLoop (s : List UInt8) (hlen : s.length ≤ 100000) : ∀ (μ n a v x : Nat) (l : List D), s.length - a < μ → a ≤ s.length → s.length < n + blankTo s a → l.length ≤ a → RefSays s a v x l (scanB n (s.drop (blankTo s a)) (blankTo s a))
 | 0, n, a, v, x, l, h, _, _, _ => by omega
 | μ + 1, n, a, v, x, l, h0, h1, h2, h3 => by
  rcases Nat.lt_or_ge a s.length with ha | ha
  ·have hd : s.drop a = s[a] :: s.drop (a + 1) := List.drop_eq_getElem_cons ha
   obtain ⟨b, hb, hcase⟩ := blank_cases s a ha
   have hsb : s[a] = b := by
    rw [Int.toNat_natCast, List.getElem?_eq_getElem ha] at hb
    exact Option.some.inj hb
   rw [hsb] at hd
   have hcs := class_spec b
   rcases hcase with ⟨hw, hbl⟩ | ⟨rfl, hbl, hpos⟩ | ⟨hno, hbl⟩
   ·have hws : wsp b = true := by rcases hw with rfl | rfl | rfl | rfl <;> rfl
    have hk : classI b = 1 := by have := hcs.1; rw [hws] at this; simpa using this
    have ih := refLoop s hlen μ n (a + 1) v x l (by omega) ha (by rw [hbl]; exact h2) (by omega)
    rw [hbl] at ih
    exact says_step (fun rest X hP hN => rfBlank s a v x l b ha hb hlen hk rest X hP hN) rfl ih
   ·have hk : classI 35 = 5 := rfl
    have hto : toN notNl s a = a + runN notNl (s.drop a) := toN_eq notNl s a 35 hd rfl
    have hle := toN_le notNl s a ha
    have ih := refLoop s hlen μ n (toN notNl s a) v x l (by omega) hle.2 (by rw [hto, hbl]; exact h2) (by omega)
    rw [hto, hbl, ← hto] at ih
    exact says_step (fun rest X hP hN => rfRem s a v x l 35 ha hb hlen hk rest X hP hN) rfl ih
   ·rw [hbl] at h2 ⊢
    obtain ⟨n, rfl⟩ : ∃ m, n = m + 1 := ⟨n - 1, by omega⟩
    rw [hd, scanB_cons, ← hd]
    have hl549 : l.length + 1 ≤ 549755813888 := by omega
    -- a token's end, and what comes behind it
    have hgo : ∀ (kd k : Int) (t : List UInt8), 0 < t.length → a + t.length ≤ s.length → RefSays s (a + t.length) (v + 1) (x + 1) (l ++ [tokD kd a t k]) (scanB n (((s.drop a).drop t.length).drop (skipN false ((s.drop a).drop t.length))) (a + t.length + skipN false ((s.drop a).drop t.length))) := fun kd k t ht hle => by
     have e1 : (s.drop a).drop t.length = s.drop (a + t.length) := by rw [List.drop_drop]
     have e2 : a + t.length + skipN false (s.drop (a + t.length)) = blankTo s (a + t.length) := rfl
     have e3 : (s.drop (a + t.length)).drop (skipN false (s.drop (a + t.length))) = s.drop (blankTo s (a + t.length)) := by rw [List.drop_drop]; rfl
     rw [e1, e2, e3]
     have hbt := blankTo_le s (a + t.length) hle
     exact refLoop s hlen μ n (a + t.length) (v + 1) (x + 1) _ (by omega) hle (by omega) (by rw [List.length_append, List.length_singleton]; omega)
    cases hdg : isDig b with
    | true =>
     have hk : classI b = 3 := by have := hcs.2.2.1; rw [hdg] at this; simpa using this
     have hsub := toN_sub isDig s a b hd hdg
     have hto := toN_eq isDig s a b hd hdg
     rw [runN_len] at hto
     have htl := toN_le isDig s a ha
     have hall := tw_all isDig (s.drop a)
     generalize hT : (s.drop a).takeWhile isDig = T at *
     have hTl : T.length ≤ 100000 := by omega
     have hv := valueC T hall hTl
     obtain ⟨c, xx, hx, hc, hlet⟩ : ∃ c xx, decide (((toN isDig s a : Nat) : Int) < (s.length : Int)) = xx ∧ (xx = true → s[((toN isDig s a : Nat) : Int).toNat]? = some c) ∧ letter ((s.drop a).drop T.length) = (xx && (isSm c || great c)) := by
      rw [List.drop_drop, ← hto]
      by_cases hx : toN isDig s a < s.length
      ·refine ⟨s[toN isDig s a], true, by simp only [decide_eq_true_eq]; omega, fun _ => by rw [Int.toNat_natCast]; exact List.getElem?_eq_getElem hx, ?_⟩
       rw [List.drop_eq_getElem_cons hx]; rfl
      ·refine ⟨0, false, by simp only [decide_eq_false_iff_not]; omega, fun h => (by cases h), ?_⟩
       rw [List.drop_eq_nil_iff.2 (by omega)]; rfl
     have ht : tokL (s.drop a) = if 9223372036854775808 ≤ dv 0 T then .error 2 else if (decide (1 < T.length) && b.toNat == 48) || letter ((s.drop a).drop T.length) then .error 4 else .ok (3, T, dv 0 T) := by
      rw [hd, tokL, if_pos hdg, ← hd, hT]
     have hy : ((b.toNat : Int) == 48) = (b.toNat == 48) := by rw [Bool.eq_iff_iff]; simp only [beq_iff_eq]; omega
     have hz : decide (((a + 1 : Nat) : Int) < ((toN isDig s a : Nat) : Int)) = decide (1 < T.length) := decide_eq_decide.2 (by omega)
     rw [ht]
     by_cases hgr : 9223372036854775808 ≤ dv 0 T
     ·rw [if_pos hgr]
      exact says_err fun rest X hP hN => rfGreatN s a v x l b ha hb hlen hk 0 (by rw [hsub]; exact hv.2 hgr) _ _ _ _ _ rfl rfl hx c hc rfl rfl hl549 rest X hP hN
     ·rw [if_neg hgr]
      cases hbad : refBad (b.toNat == 48) (decide (1 < T.length)) xx (isSm c) (great c) with
      | true =>
       rw [if_pos (by rw [hlet, Bool.and_comm]; exact hbad)]
       exact says_err fun rest X hP hN => rfBadN s a v x l b ha hb hlen hk _ (by rw [hsub]; exact hv.1 (by omega)) _ _ _ _ _ hy hz hx c hc rfl rfl hl549 hbad rest X hP hN
      | false =>
       rw [if_neg (by rw [hlet, Bool.and_comm]; show ¬ refBad (b.toNat == 48) (decide (1 < T.length)) xx (isSm c) (great c) = true; rw [hbad]; exact Bool.false_ne_true)]
       have hTpos : 0 < T.length := by omega
       dsimp only
       refine says_tok (fun rest X hP hN => ?_) (hgo 3 (dv 0 T) T hTpos (by omega))
       have hh := rfNum s a v x l b ha hb hlen hk (dv 0 T) (by rw [hsub]; exact hv.1 (by omega)) _ _ _ _ _ hy hz hx c hc rfl rfl hl549 hbad rest X hP hN
       rw [hsub, hto] at hh
       exact hh
    | false =>
     cases hsm : isSm b with
     | true =>
      have hk : classI b = 2 := by have := hcs.2.1; rw [hsm] at this; simpa using this
      have hnm := isSm_isNm hsm
      have hsub := toN_sub isNm s a b hd hnm
      have hto := toN_eq isNm s a b hd hnm
      rw [runN_len] at hto
      have htl := toN_le isNm s a ha
      generalize hT : (s.drop a).takeWhile isNm = T at *
      have ht : tokL (s.drop a) = if isWord T then .ok (2, T, 0) else if 12 < T.length then .error 2 else .ok (1, T, 0) := by
       rw [hd, tokL, if_neg (by rw [hdg]; exact Bool.false_ne_true), if_pos hsm, ← hd, hT]
      have hTpos : 0 < T.length := by omega
      have hW := refWordC (sub s a (toN isNm s a))
      rw [ht]
      cases hu : isWord T with
      | true =>
       rw [if_pos rfl]
       dsimp only
       refine says_tok (fun rest X hP hN => ?_) (hgo 2 0 T hTpos (by omega))
       have hh := rfWord s a v x l b ha hb hlen hk (by rw [hsub, hu] at hW; rw [hsub]; exact hW) hl549 rest X hP hN
       rw [hsub, hto] at hh
       exact hh
      | false =>
       rw [if_neg Bool.false_ne_true]
       have hW' : Pure Pg 28 [.str (sub s a (toN isNm s a))] [.bool false] := by rw [hsub, hu] at hW; rw [hsub]; exact hW
       by_cases h12 : 12 < T.length
       ·rw [if_pos h12]
        exact says_err fun rest X hP hN => rfLong s a v x l b ha hb hlen hk hW' (by simp only [decide_eq_true_eq]; omega) hl549 rest X hP hN
       ·rw [if_neg h12]
        dsimp only
        refine says_tok (fun rest X hP hN => ?_) (hgo 1 0 T hTpos (by omega))
        have hh := rfName s a v x l b ha hb hlen hk hW' (by simp only [decide_eq_false_iff_not]; omega) hl549 rest X hP hN
        rw [hsub, hto] at hh
        exact hh
     | false =>
      have ht : tokL (s.drop a) = if sgnL b (s.drop (a + 1)) = [] then .error 4 else .ok (4, sgnL b (s.drop (a + 1)), 0) := by
       rw [hd, tokL, if_neg (by rw [hdg]; exact Bool.false_ne_true), if_neg (by rw [hsm]; exact Bool.false_ne_true)]
      rw [ht]
      cases hsg : sg1 b with
      | false =>
       have hnil : sgnL b (s.drop (a + 1)) = [] := by
        unfold sgnL
        cases hr : s.drop (a + 1) with
        | nil => dsimp only; rw [if_neg (by rw [hsg]; exact Bool.false_ne_true)]
        | cons c u =>
         dsimp only
         rw [if_neg (fun hp => by rw [pair_sg hp] at hsg; cases hsg), if_neg (by rw [hsg]; exact Bool.false_ne_true)]
       rw [if_pos hnil]
       cases hg : great b with
       | true =>
        have hk : classI b = 6 := by have := hcs.2.2.2.2.1; rw [hg] at this; simpa using this
        exact says_err fun rest X hP hN => rfGreat s a v x l b ha hb hlen hk rest X hP hN
       | false =>
        have hw0 : wsp b = false := by
         simp only [wsp, Bool.or_eq_false_iff, beq_eq_false_iff_ne]
         exact ⟨⟨⟨fun e => hno.1 (by rw [e]; rfl), fun e => hno.2.1 (by rw [e]; rfl)⟩, fun e => hno.2.2.1 (by rw [e]; rfl)⟩, fun e => hno.2.2.2.1 (by rw [e]; rfl)⟩
        have h35 : (b == 35) = false := by
         simp only [beq_eq_false_iff_ne]
         exact fun e => hno.2.2.2.2 (by rw [e]; rfl)
        have hk : classI b = 0 := by
         unfold classI
         rw [hw0, hsm, hdg, h35, hg, hsg]
         rfl
        exact says_err fun rest X hP hN => rfZero s a v x l b ha hb hlen hk rest X hP hN
      | true =>
       have hk : classI b = 4 := by have := hcs.2.2.2.2.2; rw [hsg] at this; simpa using this
       have hdn : (s.drop a).take 1 = [b] := by rw [hd]; rfl
       have hsub1 : sub s a (a + 1) = [b] := by unfold sub; rw [List.drop_take, Nat.add_sub_cancel_left, hdn]
       cases hr : s.drop (a + 1) with
       | nil =>
        have hx : ¬ a + 1 < s.length := by have := List.drop_eq_nil_iff.1 hr; omega
        have hS : sgnL b [] = [b] := by unfold sgnL; dsimp only; rw [if_pos hsg]
        rw [hS, if_neg (by simp)]
        dsimp only
        refine says_tok (fun rest X hP hN => ?_) (hgo 4 0 [b] (by simp) (by simp; omega))
        have hh := rfLast s a v x l b ha hb hlen hk (by simp only [decide_eq_false_iff_not]; omega) ⟨by omega, by omega⟩ hl549 rest X hP hN
        rw [hsub1] at hh
        exact hh
       | cons c u =>
        have hx : a + 1 < s.length := by
         rcases Nat.lt_or_ge (a + 1) s.length with h | h
         ·exact h
         ·rw [List.drop_eq_nil_iff.2 h] at hr; cases hr
        have hc : s[((a + 1 : Nat) : Int).toNat]? = some c := by
         have : (s.drop (a + 1))[0]? = some c := by rw [hr]; rfl
         rw [List.getElem?_drop, Nat.add_zero] at this
         rw [Int.toNat_natCast]; exact this
        cases hp : prs.contains [b, c] with
        | true =>
         have hS : sgnL b (c :: u) = [b, c] := by unfold sgnL; dsimp only; rw [if_pos hp]
         have hsub2 : sub s a (a + 1 + 1) = [b, c] := by
          unfold sub
          rw [List.drop_take, show a + 1 + 1 - a = 2 by omega, hd, hr]; rfl
         rw [hS, if_neg (by simp)]
         dsimp only
         refine says_tok (fun rest X hP hN => ?_) (hgo 4 0 [b, c] (by simp) (by simp; omega))
         have hh := rfPair s a v x l b ha hb hlen hk (by simp only [decide_eq_true_eq]; omega) c hc hp ⟨by omega, by omega⟩ hl549 rest X hP hN
         rw [hsub2] at hh
         exact hh
        | false =>
         have hS : sgnL b (c :: u) = [b] := by unfold sgnL; dsimp only; rw [if_neg (by rw [hp]; exact Bool.false_ne_true), if_pos hsg]
         rw [hS, if_neg (by simp)]
         dsimp only
         refine says_tok (fun rest X hP hN => ?_) (hgo 4 0 [b] (by simp) (by simp; omega))
         have hh := rfOne s a v x l b ha hb hlen hk (by simp only [decide_eq_true_eq]; omega) c hc hp ⟨by omega, by omega⟩ hl549 rest X hP hN
         rw [hsub1] at hh
         exact hh
  ·have : a = s.length := by omega
   subst this
   have hb := blankTo_le s s.length (Nat.le_refl _)
   have e : blankTo s s.length = s.length := by omega
   rw [e, List.drop_length]
   have hn : scanB n [] s.length = .ok [] := by cases n <;> rfl
   rw [hn]
   refine ⟨by simpa using h3, v, x, fun rest X hP hN => ?_⟩
   simp only [List.map_nil, List.append_nil]
   exact lw_end (rfStop s v x l rest X hP hN) (by simp)
end Go.Avm
namespace Go.Avm
open Go.Proofs
section
variable (s : List UInt8)
noncomputable def rsPar (h : Option (LHint Pg)) (z : Bool) (hz : decide (20000 < (s.length : Int)) = z) (l : List D) (hl : l.length + 1 ≤ 549755813888) : Par Pg :=
 { hint := fun f' k => if f' = 18 then (if k = 13 then some (hB Pg _ z hz) else if k = 182 then some (.app l 1 hl) else none) else none
   nils := fun f' r => if f' = 18 then (if r = 4 then some { k := 0, i := 5, K := 1, sz := 4, slot := true } else none) else none
   loops := fun f' r => if f' = 18 then (if r = 5 then h else none) else none }
theorem refLong (h : decide (20000 < (s.length : Int)) = true) : Pure Pg 18 [.str s] [.ro [], .int .i64 0, .int .i64 2] :=
 pure_of_run okP named (rsPar s none true h [] (by decide)) 1000 (by kernel_rfl)
noncomputable def rsLH (e : AExit) (l' : List (Nat × AV)) (hp : List (Nat × Ent)) (h : RL 183 (lO 18 5) (rfE s 0 0 []) (rfHp 0 0) e l' hp) : LHint Pg :=
 ⟨183, loopOf Pg 18 5, rfE s 0 0 [], fun _ => rfHp 0 0, e, l', fun _ => hp, fun rest X hP hN => (h rest X hP hN).aw⟩
theorem refBadC (h : decide (20000 < (s.length : Int)) = false) (p : Nat) (k : Int) (v' x' : Nat)
    (hl : RL 183 (lO 18 5) (rfE s 0 0 []) (rfHp 0 0) .ret [(2, .nils), (3, dN p), (4, dI k)] (rfHp v' x')) :
    Pure Pg 18 [.str s] [.ro [], .int .i64 (p : Int), .int .i64 k] :=
 pure_of_run okP named (rsPar s (some (rsLH s _ _ _ hl)) false h [] (by decide)) 1000 (by kernel_rfl)
theorem refGood (h : decide (20000 < (s.length : Int)) = false) (v' x' : Nat) (l' : List D) (hl' : l'.length + 1 ≤ 549755813888)
    (hl : RL 183 (lO 18 5) (rfE s 0 0 []) (rfHp 0 0) (.exit 0) (rfE s s.length v' l') (rfHp v' x')) :
    Pure Pg 18 [.str s] [.ro (l' ++ [tokD 0 s.length [] 0]), .int .i64 0, .int .i64 0] :=
 pure_of_run okP named (rsPar s (some (rsLH s _ _ _ hl)) false h l' hl') 1000 (by kernel_rfl)
end
theorem refScanC (s : List UInt8) : Pure Pg 18 [.str s] [.ro (scanRes s).1, .int .i64 (scanRes s).2.1, .int .i64 (scanRes s).2.2] := by
 unfold scanRes
 by_cases h : 20000 < s.length
 ·rw [if_pos h]
  exact refLong s (by simp only [decide_eq_true_eq]; omega)
 ·rw [if_neg h]
  have hz : decide (20000 < (s.length : Int)) = false := by simp only [decide_eq_false_iff_not]; omega
  have hl := refLoop s (by omega) (s.length + 1) (s.length + 1) 0 0 0 [] (by omega) (Nat.zero_le _) (by omega) (Nat.zero_le _)
  have he : scanB (s.length + 1) (s.drop (blankTo s 0)) (blankTo s 0) = scanF s := by
   unfold scanF blankTo
   rw [List.drop_zero, Nat.zero_add]
  rw [he] at hl
  cases hs : scanF s with
  | error e =>
   obtain ⟨p, k⟩ := e
   rw [hs] at hl
   obtain ⟨v', x', hh⟩ := hl
   exact refBadC s hz p k v' x' hh
  | ok ts =>
   rw [hs] at hl
   obtain ⟨hle, v', x', hh⟩ := hl
   exact refGood s hz v' x' _ (by rw [List.nil_append] at hle; omega) hh
end Go.Avm
namespace Go.Avm
open Go.Proofs
def Bd {α : Type} (r : Res α) : Prop := ∀ p e s, r = .bad p e s → e ≠ 0
section
variable {α β : Type} {r : Res α} {f : α → RS → Res β} {s : RS} {L : List T}
theorem Bd.bind (h : Bd r) (hf : ∀ a s', Bd (f a s')) : Bd (r.bind f) := fun p e s2 q => by
 cases r with
 | ok a s1 => exact hf a s1 p e s2 q
 | bad p q2 s1 => cases q; exact h _ _ _ rfl
 | out => cases q
theorem Bd.ok {a : α} : Bd (.ok a s) := fun _ _ _ q => by cases q
theorem Bd.out : Bd (Res.out : Res α) := fun _ _ _ q => by cases q
theorem Bd.fail : Bd (fail L s : Res α) := fun _ _ _ q => by cases q; decide
theorem Bd.ite {c : Bool} {X Y : Res α} (hX : Bd X) (hY : Bd Y) : Bd (bif c then X else Y) := by cases c <;> assumption
theorem bd_want (x : List UInt8) : Bd (sWant L x s) := by
 unfold sWant
 refine Bd.ite (Bd.ite (Bd.ite (fun _ _ _ q => by cases q; decide) .ok) (Bd.ite .ok .ok)) .fail
theorem bd_take (k : Int) : Bd (sTake L k s) := by unfold sTake; exact Bd.ite .ok .fail
theorem bd_may (x : List UInt8) : Bd (sMay L x s) := by unfold sMay; exact Bd.ite ((bd_want x).bind fun _ _ => .ok) .ok
theorem bd_kind : ∀ (l : List Int) (s : RS), Bd (sKind L l s)
 | [], s => .fail
 | k :: r, s => by unfold sKind; exact (bd_may _).bind fun _ s' => Bd.ite .ok (bd_kind r s')
end
section
variable (L : List T)
theorem bdAll : ∀ n, (∀ s, Bd (sOne L n s)) ∧ (∀ s, Bd (sPlace L n s)) ∧ (∀ nm p s, Bd (sCall L n nm p s)) ∧ (∀ s, Bd (sArgs L n s)) ∧ (∀ l s, Bd (sMore L n l s)) ∧ (∀ k s, Bd (sExpr L n k s)) ∧ (∀ k e s, Bd (sTail L n k e s))
 | 0 => ⟨fun _ => .out, fun _ => .out, fun _ _ _ => .out, fun _ => .out, fun _ _ => .out, fun _ _ => .out, fun _ _ _ => .out⟩
 | n + 1 => by
  obtain ⟨h1, h2, h3, h4, h5, h6, h7⟩ := bdAll n
  refine ⟨fun s => ?_, fun s => ?_, fun nm p s => ?_, fun s => ?_, fun l s => ?_, fun k s => ?_, fun k e s => ?_⟩
  ·simp only [sOne]
   refine (bd_may _).bind fun _ s1 => Bd.ite ((h1 _).bind fun _ _ => .ok) ((bd_may _).bind fun _ s2 => Bd.ite ((h1 _).bind fun _ _ => .ok) ((bd_may _).bind fun _ s3 => Bd.ite ((h1 _).bind fun _ _ => .ok) (Bd.ite .ok ?_)))
   refine (bd_may _).bind fun _ s1 => Bd.ite .ok ((bd_may _).bind fun _ s2 => Bd.ite .ok ((bd_may _).bind fun _ s3 => Bd.ite ((bd_want _).bind fun _ _ => (bd_want _).bind fun _ _ => .ok) ?_))
   refine (bd_may _).bind fun _ s1 => Bd.ite ((bd_want _).bind fun _ _ => (bd_take _).bind fun _ _ => (bd_want _).bind fun _ _ => .ok) (Bd.ite ((bd_want _).bind fun _ _ => (h6 _ _).bind fun _ _ => (bd_want _).bind fun _ _ => .ok) ?_)
   exact (bd_take _).bind fun _ _ => Bd.ite ((h2 _).bind fun _ _ => .ok) (Bd.ite ((h3 _ _ _).bind fun _ _ => .ok) .ok)
  ·simp only [sPlace]
   exact (bd_want _).bind fun _ _ => (h6 _ _).bind fun _ _ => (bd_want _).bind fun _ _ => .ok
  ·simp only [sCall]
   exact (h4 _).bind fun _ _ => .ok
  ·simp only [sArgs]
   exact (bd_want _).bind fun _ _ => Bd.ite ((bd_want _).bind fun _ _ => .ok) ((h6 _ _).bind fun _ _ => (h5 _ _).bind fun _ _ => (bd_want _).bind fun _ _ => .ok)
  ·simp only [sMore]
   exact (bd_may _).bind fun _ _ => Bd.ite ((h6 _ _).bind fun _ _ => h5 _ _) .ok
  ·simp only [sExpr]
   exact (h1 _).bind fun _ _ => h7 _ _ _
  ·simp only [sTail]
   exact Bd.ite .ok ((h6 _ _).bind fun _ _ => h7 _ _ _)
theorem bd_expr (n : Nat) (k : Int) (s : RS) : Bd (sExpr L n k s) := (bdAll L n).2.2.2.2.2.1 k s
theorem bd_let (n : Nat) (id p : Int) (s : RS) : Bd (sLet L n id p s) := by
 unfold sLet
 exact (bd_take _).bind fun _ _ => (bd_want _).bind fun _ _ => (bd_kind _ _).bind fun _ _ => Bd.ite ((bd_want _).bind fun _ _ => (bd_take _).bind fun _ _ => (bd_want _).bind fun _ _ => (bd_want _).bind fun _ _ => .ok) ((bd_may _).bind fun _ _ => Bd.ite ((bd_expr L _ _ _).bind fun _ _ => (bd_want _).bind fun _ _ => .ok) ((bd_want _).bind fun _ _ => .ok))
theorem bd_named (n : Nat) (id p : Int) (s : RS) : Bd (sNamed L n id p s) := by
 obtain ⟨_, h2, h3, _⟩ := bdAll L n
 unfold sNamed
 exact (bd_take _).bind fun _ _ => Bd.ite ((h3 _ _ _).bind fun _ _ => (bd_want _).bind fun _ _ => .ok) (Bd.ite ((h2 _).bind fun _ _ => (bd_want _).bind fun _ _ => (bd_expr L _ _ _).bind fun _ _ => (bd_want _).bind fun _ _ => .ok) ((bd_want _).bind fun _ _ => (bd_expr L _ _ _).bind fun _ _ => (bd_want _).bind fun _ _ => .ok))
theorem bd_stmt : ∀ n, (∀ s, Bd (sBlock L n s)) ∧ (∀ l s, Bd (sStmts L n l s)) ∧ (∀ s, Bd (sStmt L n s))
 | 0 => ⟨fun _ => .out, fun _ _ => .out, fun _ => .out⟩
 | n + 1 => by
  obtain ⟨h1, h2, h3⟩ := bd_stmt n
  refine ⟨fun s => ?_, fun l s => ?_, fun s => ?_⟩
  ·simp only [sBlock]
   exact (bd_want _).bind fun _ _ => (h2 _ _).bind fun _ _ => (bd_want _).bind fun _ _ => .ok
  ·simp only [sStmts]
   exact Bd.ite .ok ((h3 _).bind fun _ _ => h2 _ _)
  ·simp only [sStmt]
   refine (bd_may _).bind fun _ _ => Bd.ite ((bd_let L _ _ _ _).bind fun _ _ => .ok) ((bd_may _).bind fun _ _ => Bd.ite ((bd_expr L _ _ _).bind fun _ _ => (h1 _).bind fun _ _ => (bd_may _).bind fun _ _ => Bd.ite ((h1 _).bind fun _ _ => .ok) .ok) ?_)
   refine (bd_may _).bind fun _ _ => Bd.ite ((bd_expr L _ _ _).bind fun _ _ => (h1 _).bind fun _ _ => .ok) ((bd_may _).bind fun _ _ => Bd.ite (Bd.ite ((bd_want _).bind fun _ _ => .ok) ((bd_expr L _ _ _).bind fun _ _ => (bd_want _).bind fun _ _ => .ok)) ?_)
   exact (bd_may _).bind fun _ _ => Bd.ite ((bd_expr L _ _ _).bind fun _ _ => (bd_want _).bind fun _ _ => .ok) ((bd_named L _ _ _ _).bind fun _ _ => .ok)
theorem bd_param (s : RS) : Bd (sParam L s) := (bd_take _).bind fun _ _ => (bd_want _).bind fun _ _ => (bd_kind _ _).bind fun _ _ => .ok
theorem bd_pmore : ∀ (n : Nat) (l : List Pm) (s : RS), Bd (sPMore L n l s)
 | 0, _, _ => .out
 | n + 1, l, s => by
  simp only [sPMore]
  exact (bd_may _).bind fun _ _ => Bd.ite ((bd_param L _).bind fun _ _ => bd_pmore n _ _) .ok
theorem bd_fn (n : Nat) (s : RS) : Bd (sFn L n s) := by
 have B := (bd_stmt L n).1
 unfold sFn sParams
 exact (bd_want _).bind fun _ _ => (bd_take _).bind fun _ _ => Bd.bind ((bd_want _).bind fun _ _ => Bd.ite ((bd_want _).bind fun _ _ => .ok) ((bd_param L _).bind fun _ _ => (bd_pmore L _ _ _).bind fun _ _ => (bd_want _).bind fun _ _ => .ok)) fun _ _ => (bd_may _).bind fun _ _ => Bd.ite ((bd_kind _ _).bind fun _ _ => (B _).bind fun _ _ => .ok) ((B _).bind fun _ _ => .ok)
theorem bd_fns (N : Nat) : ∀ (n : Nat) (l : List Fn) (s : RS), Bd (sFns L N n l s)
 | 0, _, _ => .out
 | n + 1, l, s => by
  simp only [sFns]
  exact Bd.ite .ok ((bd_fn L N s).bind fun _ _ => bd_fns N n _ _)
theorem bd_prog (n : Nat) : Bd (sProg L n) := by
 unfold sProg
 exact (bd_fn L n _).bind fun _ _ => bd_fns L n n _ _
end
end Go.Avm
namespace Go.Avm
open Go.Proofs
noncomputable def min2H (s : List UInt8) : Hint Pg := .val (dI (if false = true then (if (s.length : Int) < 2000 then 2000 else (s.length : Int)) else if (2000 : Int) < (s.length : Int) then 2000 else (s.length : Int))) (dN (min s.length 2000)) (by
 congr 2
 rw [if_neg (by decide)]
 split <;> omega)
section
variable {s : List UInt8} {q e : Int} {c : Nat}
theorem cutA (hp : Pure Pg 9 [.str (s.take (min s.length 2000))] [.agg [.ro []], .int .i64 q, .int .i64 e]) (he : (e != 0) = true) : Pure Pg 8 [.str s, .int .u16 c] [.bool true] :=
 qV { hint := qT 8 [(15, .call 11 _ _ awake02), (20, min2H s), (21, .sub s 0 (min s.length 2000) (by omega)), (24, .call 9 _ _ hp), (29, qB he)] } 709297
variable {l l2 : List Fn} {t0 : D} {tr : List D} {k A : Nat} {kd n : Int} {tx : List UInt8} (hc : c < 65536) (hp : Pure Pg 9 [.str (s.take (min s.length 2000))] [.agg [.ro (fnL l)], .int .i64 0, .int .i64 0]) (hs : Pure Pg 18 [.str (s.take (min s.length 2000))] [.ro (t0 :: tr), .int .i64 0, .int .i64 0]) (hk : c % (t0 :: tr).length = k) (hx : (t0 :: tr)[((k : Nat) : Int).toNat]? = some (tokD kd A tx n)) (hA : A ≤ (s.take (min s.length 2000)).length)
include hc hp hs hk hx hA
theorem cutB (hq : Pure Pg 9 [.str ((s.take (min s.length 2000)).take A)] [.agg [.ro []], .int .i64 (A : Int), .int .i64 4]) : Pure Pg 8 [.str s, .int .u16 c] [.bool true] :=
 qV { hint := qT 8 [(15, .call 11 _ _ awake02), (20, min2H s), (21, .sub s 0 (min s.length 2000) (by omega)), (24, .call 9 _ _ hp), (32, .call 18 _ _ hs), (39, .val (dI (IntKind.i64.wrap (c : Int))) (dN c) (by rw [IntWalk.i64_in _ (by omega)])), (42, .val (dI (((c : Nat) : Int).tmod (((t0 :: tr).length : Nat) : Int))) (dN k) (by rw [← hk]; rfl)), (43, .idx (t0 :: tr) ((k : Nat) : Int) (tokD kd A tx n) (by omega) hx), (46, .sub (s.take (min s.length 2000)) 0 A (by omega)), (49, .call 9 _ _ hq), (60, .val (dN ((s.take (min s.length 2000)).take A).length) (dN A) (by rw [List.length_take]; congr 3; omega)), (61, hB Pg (((A : Nat) : Int) == ((A : Nat) : Int)) true (by simp))] } 709297
theorem cutC (hq : Pure Pg 9 [.str ((s.take (min s.length 2000)).take A)] [.agg [.ro (fnL l2)], .int .i64 0, .int .i64 0]) (hl : l2.length ≤ l.length) : Pure Pg 8 [.str s, .int .u16 c] [.bool true] :=
 qV { hint := qT 8 [(15, .call 11 _ _ awake02), (20, min2H s), (21, .sub s 0 (min s.length 2000) (by omega)), (24, .call 9 _ _ hp), (32, .call 18 _ _ hs), (39, .val (dI (IntKind.i64.wrap (c : Int))) (dN c) (by rw [IntWalk.i64_in _ (by omega)])), (42, .val (dI (((c : Nat) : Int).tmod (((t0 :: tr).length : Nat) : Int))) (dN k) (by rw [← hk]; rfl)), (43, .idx (t0 :: tr) ((k : Nat) : Int) (tokD kd A tx n) (by omega) hx), (46, .sub (s.take (min s.length 2000)) 0 A (by omega)), (49, .call 9 _ _ hq), (71, .val (dN (fnL l2).length) (dN l2.length) (by simp)), (74, .val (dN (fnL l).length) (dN l.length) (by simp)), (75, hB Pg (decide (((l2.length : Nat) : Int) ≤ ((l.length : Nat) : Int))) true (by simpa using hl))] } 709297
end
theorem cutPure (s : List UInt8) (c : Nat) (hc : c < 65536) : Pure Pg 8 [.str s, .int .u16 c] [.bool true] := by
 have hp := parsePure (s.take (min s.length 2000))
 have hs := refScanC (s.take (min s.length 2000))
 have hlen : (s.take (min s.length 2000)).length ≤ 2000 := by rw [List.length_take]; omega
 unfold parseRes at hp
 unfold scanRes at hs
 rw [if_neg (by omega)] at hp hs
 cases he : scanF (s.take (min s.length 2000)) with
 | error e =>
  obtain ⟨p, k⟩ := e
  rw [he] at hp
  exact cutA hp (by simpa using scanB_err _ _ _ _ _ he)
 | ok ts =>
  rw [he] at hp hs
  have hl := scanF_len he
  have hok := toksOf_ok (ts := ts) (n := (s.take (min s.length 2000)).length) (by omega)
  have hno := prog_no hok (toksOf_pos _ _)
  cases ht : treeOf ts (s.take (min s.length 2000)).length with
  | out => exact absurd ht hno
  | bad p e s' =>
   unfold treeOf at ht
   dsimp only at hp
   unfold treeOf at hp
   rw [ht] at hp
   exact cutA hp (by simpa using bd_prog _ _ _ _ _ ht)
  | ok l s' =>
   dsimp only at hp hs
   rw [ht] at hp
   have hp : Pure Pg 9 [.str (s.take (min s.length 2000))] [.agg [.ro (fnL l)], .int .i64 0, .int .i64 0] := hp
   have hT : (ts.map tokOf ++ [tokD 0 (s.take (min s.length 2000)).length [] 0]).length = ts.length + 1 := by simp
   have hk : c % (ts.length + 1) < ts.length + 1 := Nat.mod_lt _ (by omega)
   generalize hkk : c % (ts.length + 1) = k at hk
   have hX0 : (ts.map tokOf ++ [tokD 0 (s.take (min s.length 2000)).length [] 0])[((ts.length : Nat) : Int).toNat]? = some (tokD 0 (s.take (min s.length 2000)).length [] 0) := by
    rw [Int.toNat_natCast, List.getElem?_append_right (by simp)]
    simp
   have hX1 : ∀ {A : Nat} {kd n : Int} {tx : List UInt8}, ts[k]? = some (A, kd, tx, n) → k < ts.length → (ts.map tokOf ++ [tokD 0 (s.take (min s.length 2000)).length [] 0])[((k : Nat) : Int).toNat]? = some (tokD kd A tx n) := fun hx hlt => by
    rw [Int.toNat_natCast, List.getElem?_append_left (by simpa using hlt), List.getElem?_map, hx]
    rfl
   have hn : (ts.map tokOf ++ [tokD 0 (s.take (min s.length 2000)).length [] 0]) ≠ [] := by simp
   revert hs hT hX0 hX1 hn
   generalize (ts.map tokOf ++ [tokD 0 (s.take (min s.length 2000)).length [] 0]) = toks
   intro hs hT hX0 hX1 hn
   obtain ⟨t0, tr, rfl⟩ := List.exists_cons_of_ne_nil hn
   rcases Nat.lt_or_ge k ts.length with hlt | hge
   ·have hx := List.getElem?_eq_getElem hlt
    revert hx
    generalize ts[k] = x
    obtain ⟨A, kd, tx, n⟩ := x
    intro hx
    have hAl := (scanF_pre he hx).2
    rcases cut_parse (by omega) he ht hx with hq | ⟨l2, hq, hl2⟩
    ·exact cutB hc hp hs (by rw [hT]; exact hkk) (hX1 hx hlt) (Nat.le_of_lt hAl) hq
    ·exact cutC hc hp hs (by rw [hT]; exact hkk) (hX1 hx hlt) (Nat.le_of_lt hAl) hq hl2
   ·have hke : k = ts.length := by omega
    subst hke
    exact cutC hc hp hs (by rw [hT]; exact hkk) hX0 (Nat.le_refl _) (by rw [List.take_length]; exact hp) (Nat.le_refl _)
end Go.Avm
namespace Go.Avm
open Go.Proofs
mutual
def exZ : Ex → Nat
 | .mk _ _ _ _ _ xs => 1 + exZL xs
def exZL : List Ex → Nat
 | [] => 0
 | x :: l => exZ x + exZL l
end
mutual
def exK (b : Bool) : Ex → Ex
 | .mk k o nm n p xs => .mk k o nm n (bif b then p else 0) (exKL b xs)
def exKL (b : Bool) : List Ex → List Ex
 | [] => []
 | x :: l => exK b x :: exKL b l
end
mutual
def stZ : St' → Nat
 | .mk _ _ _ _ _ _ es bd el => 1 + exZL es + stZL bd + stZL el
def stZL : List St' → Nat
 | [] => 0
 | x :: l => stZ x + stZL l
end
mutual
def stK (b : Bool) : St' → St'
 | .mk k id nm ty n p es bd el => .mk k id nm ty n (bif b then p else 0) (exKL b es) (stKL b bd) (stKL b el)
def stKL (b : Bool) : List St' → List St'
 | [] => []
 | x :: l => stK b x :: stKL b l
end
def pmK (b : Bool) (x : Pm) : Pm := { x with p := bif b then x.p else 0 }
def fnK (b : Bool) (x : Fn) : Fn := ⟨x.nm, x.ps.map (pmK b), x.res, stKL b x.bd, bif b then x.p else 0⟩
def fnZ (x : Fn) : Nat := 1 + x.ps.length + stZL x.bd
def fnZL : List Fn → Nat
 | [] => 0
 | x :: l => fnZ x + fnZL l
theorem exKL_map (b : Bool) : ∀ l, exKL b l = l.map (exK b)
 | [] => rfl
 | x :: l => by simp [exKL, exKL_map b l]
theorem stKL_map (b : Bool) : ∀ l, stKL b l = l.map (stK b)
 | [] => rfl
 | x :: l => by simp [stKL, stKL_map b l]
theorem exZ_pos : ∀ x, 1 ≤ exZ x
 | .mk _ _ _ _ _ _ => by simp only [exZ]; omega
theorem stZ_pos : ∀ x, 1 ≤ stZ x
 | .mk _ _ _ _ _ _ _ _ _ => by simp only [stZ]; omega
theorem exZL_len : ∀ l, l.length ≤ exZL l
 | [] => Nat.le_refl _
 | x :: l => by have := exZL_len l; have := exZ_pos x; simp only [exZL, List.length_cons]; omega
theorem stZL_len : ∀ l, l.length ≤ stZL l
 | [] => Nat.le_refl _
 | x :: l => by have := stZL_len l; have := stZ_pos x; simp only [stZL, List.length_cons]; omega
theorem fnZL_len : ∀ l, l.length ≤ fnZL l
 | [] => Nat.le_refl _
 | x :: l => by have := fnZL_len l; simp only [fnZL, fnZ, List.length_cons]; omega
theorem exZL_mem : ∀ {l : List Ex} {i : Nat} {x : Ex}, l[i]? = some x → exZ x ≤ exZL l
 | [], _, _, h => by simp at h
 | y :: l, 0, x, h => by simp at h; subst h; simp only [exZL]; omega
 | y :: l, i + 1, x, h => by simp at h; have := exZL_mem h; simp only [exZL]; omega
theorem stZL_mem : ∀ {l : List St'} {i : Nat} {x : St'}, l[i]? = some x → stZ x ≤ stZL l
 | [], _, _, h => by simp at h
 | y :: l, 0, x, h => by simp at h; subst h; simp only [stZL]; omega
 | y :: l, i + 1, x, h => by simp at h; have := stZL_mem h; simp only [stZL]; omega
theorem fnZL_mem : ∀ {l : List Fn} {i : Nat} {x : Fn}, l[i]? = some x → fnZ x ≤ fnZL l
 | [], _, _, h => by simp at h
 | y :: l, 0, x, h => by simp at h; subst h; simp only [fnZL]; omega
 | y :: l, i + 1, x, h => by simp at h; have := fnZL_mem h; simp only [fnZL]; omega
theorem exL_get {f : List Ex} {i : Nat} {x : Ex} (h : f[i]? = some x) : (exL f)[((i : Nat) : Int).toNat]? = some (exD x) := by
 rw [Int.toNat_natCast, exL_map, List.getElem?_map, h]; rfl
theorem stL_getS {f : List St'} {i : Nat} {x : St'} (h : f[i]? = some x) : (stL f)[((i : Nat) : Int).toNat]? = some (stD x) := by
 rw [Int.toNat_natCast, stL_map, List.getElem?_map, h]; rfl
theorem map_get {α : Type} {g : α → D} {f : List α} {i : Nat} {x : α} (h : f[i]? = some x) : (f.map g)[((i : Nat) : Int).toNat]? = some (g x) := by
 rw [Int.toNat_natCast, List.getElem?_map, h]; rfl
def seL (b : Bool) (f g : List Ex) (i : Nat) : List (Nat × AV) := [(0, .d (.ro (exL f))), (1, .d (.ro (exL g))), (2, dB b), (16, dN f.length), (17, dN i)]
section
variable (f g : List Ex) (i : Nat)
theorem seStop_true : RE 74 (lO 51 4) (seL true f g f.length) ([]) (.exit 0) ([]) ([]) :=
 qE { hint := qT 51 [(18, qG f.length)] } 51 3000
theorem seGo_true (hf : f.length < 1000000) (hi : i < f.length) {k o : Int} {nm : List UInt8} {n p p2 : Int} {xs ys : List Ex} (hx : f[i]? = some (.mk k o nm n p xs)) (hy : g[i]? = some (.mk k o nm n p ys)) (hc : Pure Pg 51 [.ro (exL xs), .ro (exL ys), .bool true] [.bool true]) :
    RE 74 (lO 51 4) (seL true f g i) ([]) .normal (seL true f g (i + 1)) ([]) :=
 qE { hint := qT 51 [(18, qL hi), (22, .idx (exL f) ((i : Nat) : Int) (exD (.mk k o nm n p xs)) (by omega) (exL_get hx)), (26, .idx (exL g) ((i : Nat) : Int) (exD (.mk k o nm n p ys)) (by omega) (exL_get hy)), (32, hB Pg (k != k) false (by simp)), (38, hB Pg (o != o) false (by simp)), (45, hB Pg (!(nm == nm)) false (by simp)), (52, hB Pg (n != n) false (by simp)), (61, hB Pg (p != p) false (by simp)), (70, .call 51 _ _ hc), (73, hSucc Pg i (by omega))] } 51 3000
theorem seStop_false : RE 74 (lO 51 4) (seL false f g f.length) ([]) (.exit 0) ([]) ([]) :=
 qE { hint := qT 51 [(18, qG f.length)] } 51 3000
theorem seGo_false (hf : f.length < 1000000) (hi : i < f.length) {k o : Int} {nm : List UInt8} {n p p2 : Int} {xs ys : List Ex} (hx : f[i]? = some (.mk k o nm n p xs)) (hy : g[i]? = some (.mk k o nm n p2 ys)) (hc : Pure Pg 51 [.ro (exL xs), .ro (exL ys), .bool false] [.bool true]) :
    RE 74 (lO 51 4) (seL false f g i) ([]) .normal (seL false f g (i + 1)) ([]) :=
 qE { hint := qT 51 [(18, qL hi), (22, .idx (exL f) ((i : Nat) : Int) (exD (.mk k o nm n p xs)) (by omega) (exL_get hx)), (26, .idx (exL g) ((i : Nat) : Int) (exD (.mk k o nm n p2 ys)) (by omega) (exL_get hy)), (32, hB Pg (k != k) false (by simp)), (38, hB Pg (o != o) false (by simp)), (45, hB Pg (!(nm == nm)) false (by simp)), (52, hB Pg (n != n) false (by simp)), (70, .call 51 _ _ hc), (73, hSucc Pg i (by omega))] } 51 3000
end
noncomputable def seLH {b : Bool} {f g : List Ex} (h : RL 74 (lO 51 4) (seL b f g 0) ([]) (.exit 0) ([]) ([])) : LHint Pg :=
 ⟨74, loopOf Pg 51 4, seL b f g 0, fun _ => [], .exit 0, [], fun _ => [], fun rest X hP hN => (h rest X hP hN).aw⟩
theorem seCall {b : Bool} {f g : List Ex} (hl : f.length = g.length) (h : RL 74 (lO 51 4) (seL b f g 0) ([]) (.exit 0) ([]) ([])) : Pure Pg 51 [.ro (exL f), .ro (exL g), .bool b] [.bool true] :=
 qV { loops := fun f q => if f = 51 then (if q = 4 then some (seLH h) else none) else none, hint := qT 51 [(11, .val (dN (exL f).length) (dN f.length) (by rw [exL_len])), (13, .val (dN (exL g).length) (dN f.length) (by rw [exL_len, hl])), (14, hB Pg (((f.length : Nat) : Int) != ((f.length : Nat) : Int)) false (by simp)), (16, .val (dN (exL f).length) (dN f.length) (by rw [exL_len]))] } 1000
theorem exKL_len {b : Bool} {f g : List Ex} (h : exKL b f = exKL b g) : f.length = g.length := by
 have := congrArg List.length h
 simpa [exKL_map] using this
theorem exKL_get {b : Bool} {f g : List Ex} (h : exKL b f = exKL b g) {i : Nat} {x y : Ex} (hx : f[i]? = some x) (hy : g[i]? = some y) : exK b x = exK b y := by
 rw [exKL_map, exKL_map] at h
 have := congrArg (fun l : List Ex => l[i]?) h
 simpa [hx, hy] using this
theorem sameEx (b : Bool) : ∀ (n : Nat) (f g : List Ex), exZL f < n → n ≤ 1000000 → exKL b f = exKL b g → Pure Pg 51 [.ro (exL f), .ro (exL g), .bool b] [.bool true]
 | 0, _, _, h, _, _ => by omega
 | n + 1, f, g, h, hn, he => by
  have hl := exKL_len he
  have hfl := exZL_len f
  refine seCall hl ?_
  have go : ∀ j i : Nat, i + j = f.length → RL 74 (lO 51 4) (seL b f g i) ([]) (.exit 0) ([]) ([]) := by
   intro j
   induction j with
   | zero =>
    intro i hi
    obtain rfl : i = f.length := by omega
    cases b with
    | true => exact fun rest X hP hN => lw_stop (seStop_true f g rest X hP hN) (by simp)
    | false => exact fun rest X hP hN => lw_stop (seStop_false f g rest X hP hN) (by simp)
   | succ j ih =>
    intro i hi
    have li : i < f.length := by omega
    have hx := List.getElem?_eq_getElem li
    have hy := List.getElem?_eq_getElem (show i < g.length by omega)
    have hk := exKL_get he hx hy
    have hz := exZL_mem hx
    revert hx hy hk hz
    generalize f[i] = x
    generalize g[i] = y
    obtain ⟨k, o, nm, m, p, xs⟩ := x
    obtain ⟨k2, o2, nm2, m2, p2, ys⟩ := y
    intro hx hy hk hz
    simp only [exK, Ex.mk.injEq] at hk
    obtain ⟨rfl, rfl, rfl, rfl, hp, hxs⟩ := hk
    simp only [exZ] at hz
    have hc := sameEx b n xs ys (by omega) (by omega) hxs
    have g2 := ih (i + 1) (by omega)
    cases b with
    | true =>
     simp only [cond_true] at hp
     subst hp
     exact fun rest X hP hN => lw_step (seGo_true f g i (by omega) li (p2 := 0) hx hy hc rest X hP hN) (g2 rest X hP hN)
    | false => exact fun rest X hP hN => lw_step (seGo_false f g i (by omega) li hx hy hc rest X hP hN) (g2 rest X hP hN)
  exact go f.length 0 (by omega)
def ssL (b : Bool) (f g : List St') (i : Nat) : List (Nat × AV) := [(0, .d (.ro (stL f))), (1, .d (.ro (stL g))), (2, dB b), (16, dN f.length), (17, dN i)]
section
variable (f g : List St') (i : Nat)
theorem ssStop_true : RE 97 (lO 26 4) (ssL true f g f.length) ([]) (.exit 0) ([]) ([]) :=
 qE { hint := qT 26 [(18, qG f.length)] } 26 3000
theorem ssGo_true (hf : f.length < 1000000) (hi : i < f.length) {k id : Int} {nm : List UInt8} {ty n p p2 : Int} {es es2 : List Ex} {bd bd2 el el2 : List St'} (hx : f[i]? = some (.mk k id nm ty n p es bd el)) (hy : g[i]? = some (.mk k id nm ty n p es2 bd2 el2)) (hc : Pure Pg 51 [.ro (exL es), .ro (exL es2), .bool true] [.bool true]) (hc1 : Pure Pg 26 [.ro (stL bd), .ro (stL bd2), .bool true] [.bool true]) (hc2 : Pure Pg 26 [.ro (stL el), .ro (stL el2), .bool true] [.bool true]) :
    RE 97 (lO 26 4) (ssL true f g i) ([]) .normal (ssL true f g (i + 1)) ([]) :=
 qE { hint := qT 26 [(18, qL hi), (22, .idx (stL f) ((i : Nat) : Int) (stD (.mk k id nm ty n p es bd el)) (by omega) (stL_getS hx)), (26, .idx (stL g) ((i : Nat) : Int) (stD (.mk k id nm ty n p es2 bd2 el2)) (by omega) (stL_getS hy)), (32, hB Pg (k != k) false (by simp)), (38, hB Pg (id != id) false (by simp)), (45, hB Pg (!(nm == nm)) false (by simp)), (52, hB Pg (ty != ty) false (by simp)), (59, hB Pg (n != n) false (by simp)), (68, hB Pg (p != p) false (by simp)), (76, .call 51 _ _ hc), (84, .call 26 _ _ hc1), (93, .call 26 _ _ hc2), (96, hSucc Pg i (by omega))] } 26 3000
theorem ssStop_false : RE 97 (lO 26 4) (ssL false f g f.length) ([]) (.exit 0) ([]) ([]) :=
 qE { hint := qT 26 [(18, qG f.length)] } 26 3000
theorem ssGo_false (hf : f.length < 1000000) (hi : i < f.length) {k id : Int} {nm : List UInt8} {ty n p p2 : Int} {es es2 : List Ex} {bd bd2 el el2 : List St'} (hx : f[i]? = some (.mk k id nm ty n p es bd el)) (hy : g[i]? = some (.mk k id nm ty n p2 es2 bd2 el2)) (hc : Pure Pg 51 [.ro (exL es), .ro (exL es2), .bool false] [.bool true]) (hc1 : Pure Pg 26 [.ro (stL bd), .ro (stL bd2), .bool false] [.bool true]) (hc2 : Pure Pg 26 [.ro (stL el), .ro (stL el2), .bool false] [.bool true]) :
    RE 97 (lO 26 4) (ssL false f g i) ([]) .normal (ssL false f g (i + 1)) ([]) :=
 qE { hint := qT 26 [(18, qL hi), (22, .idx (stL f) ((i : Nat) : Int) (stD (.mk k id nm ty n p es bd el)) (by omega) (stL_getS hx)), (26, .idx (stL g) ((i : Nat) : Int) (stD (.mk k id nm ty n p2 es2 bd2 el2)) (by omega) (stL_getS hy)), (32, hB Pg (k != k) false (by simp)), (38, hB Pg (id != id) false (by simp)), (45, hB Pg (!(nm == nm)) false (by simp)), (52, hB Pg (ty != ty) false (by simp)), (59, hB Pg (n != n) false (by simp)), (76, .call 51 _ _ hc), (84, .call 26 _ _ hc1), (93, .call 26 _ _ hc2), (96, hSucc Pg i (by omega))] } 26 3000
end
noncomputable def ssLH {b : Bool} {f g : List St'} (h : RL 97 (lO 26 4) (ssL b f g 0) ([]) (.exit 0) ([]) ([])) : LHint Pg :=
 ⟨97, loopOf Pg 26 4, ssL b f g 0, fun _ => [], .exit 0, [], fun _ => [], fun rest X hP hN => (h rest X hP hN).aw⟩
theorem ssCall {b : Bool} {f g : List St'} (hl : f.length = g.length) (h : RL 97 (lO 26 4) (ssL b f g 0) ([]) (.exit 0) ([]) ([])) : Pure Pg 26 [.ro (stL f), .ro (stL g), .bool b] [.bool true] :=
 qV { loops := fun f q => if f = 26 then (if q = 4 then some (ssLH h) else none) else none, hint := qT 26 [(11, .val (dN (stL f).length) (dN f.length) (by rw [stL_len])), (13, .val (dN (stL g).length) (dN f.length) (by rw [stL_len, hl])), (14, hB Pg (((f.length : Nat) : Int) != ((f.length : Nat) : Int)) false (by simp)), (16, .val (dN (stL f).length) (dN f.length) (by rw [stL_len]))] } 1000
theorem stKL_len {b : Bool} {f g : List St'} (h : stKL b f = stKL b g) : f.length = g.length := by
 have := congrArg List.length h
 simpa [stKL_map] using this
theorem stKL_get {b : Bool} {f g : List St'} (h : stKL b f = stKL b g) {i : Nat} {x y : St'} (hx : f[i]? = some x) (hy : g[i]? = some y) : stK b x = stK b y := by
 rw [stKL_map, stKL_map] at h
 have := congrArg (fun l : List St' => l[i]?) h
 simpa [hx, hy] using this
theorem sameSt (b : Bool) : ∀ (n : Nat) (f g : List St'), stZL f < n → n ≤ 1000000 → stKL b f = stKL b g → Pure Pg 26 [.ro (stL f), .ro (stL g), .bool b] [.bool true]
 | 0, _, _, h, _, _ => by omega
 | n + 1, f, g, h, hn, he => by
  have hl := stKL_len he
  have hfl := stZL_len f
  refine ssCall hl ?_
  have go : ∀ j i : Nat, i + j = f.length → RL 97 (lO 26 4) (ssL b f g i) ([]) (.exit 0) ([]) ([]) := by
   intro j
   induction j with
   | zero =>
    intro i hi
    obtain rfl : i = f.length := by omega
    cases b with
    | true => exact fun rest X hP hN => lw_stop (ssStop_true f g rest X hP hN) (by simp)
    | false => exact fun rest X hP hN => lw_stop (ssStop_false f g rest X hP hN) (by simp)
   | succ j ih =>
    intro i hi
    have li : i < f.length := by omega
    have hx := List.getElem?_eq_getElem li
    have hy := List.getElem?_eq_getElem (show i < g.length by omega)
    have hk := stKL_get he hx hy
    have hz := stZL_mem hx
    revert hx hy hk hz
    generalize f[i] = x
    generalize g[i] = y
    obtain ⟨k, id, nm, ty, m, p, es, bd, el⟩ := x
    obtain ⟨k2, id2, nm2, ty2, m2, p2, es2, bd2, el2⟩ := y
    intro hx hy hk hz
    simp only [stK, St'.mk.injEq] at hk
    obtain ⟨rfl, rfl, rfl, rfl, rfl, hp, h1, h2, h3⟩ := hk
    simp only [stZ] at hz
    have hc := sameEx b 1000000 es es2 (by omega) (Nat.le_refl _) h1
    have hc1 := sameSt b n bd bd2 (by omega) (by omega) h2
    have hc2 := sameSt b n el el2 (by omega) (by omega) h3
    have g2 := ih (i + 1) (by omega)
    cases b with
    | true =>
     simp only [cond_true] at hp
     subst hp
     exact fun rest X hP hN => lw_step (ssGo_true f g i (by omega) li (p2 := 0) hx hy hc hc1 hc2 rest X hP hN) (g2 rest X hP hN)
    | false => exact fun rest X hP hN => lw_step (ssGo_false f g i (by omega) li hx hy hc hc1 hc2 rest X hP hN) (g2 rest X hP hN)
  exact go f.length 0 (by omega)
end Go.Avm
namespace Go.Avm
open Go.Proofs
def tk3 (t : T) : Int × List UInt8 × Int := (t.k, t.t, t.n)
def AlikeT (L L' : List T) : Prop := ∀ s : RS, tk3 (cur L' s) = tk3 (cur L s)
def BQ {α γ : Type} (κ : α → γ) (r r' : Res α) : Prop := ∀ a s', r = .ok a s' → ∃ a', r' = .ok a' s' ∧ κ a' = κ a
section
variable {α β γ δ : Type} {κ : α → γ} {κ2 : β → δ} {r r' : Res α} {f f' : α → RS → Res β} {s : RS}
theorem BQ.bind (h : BQ κ r r') (hf : ∀ a a' s', κ a' = κ a → BQ κ2 (f a s') (f' a' s')) : BQ κ2 (r.bind f) (r'.bind f') := fun b s2 e => by
 cases r with
 | ok a s1 =>
  obtain ⟨a', rfl, hk⟩ := h a s1 rfl
  exact hf a a' s1 hk b s2 e
 | bad p q s1 => cases e
 | out => cases e
theorem BQ.ok {a a' : α} (h : κ a' = κ a) : BQ κ (.ok a s) (.ok a' s) := fun _ _ e => by cases e; exact ⟨a', rfl, h⟩
theorem BQ.out : BQ κ (Res.out : Res α) r' := fun _ _ e => by cases e
theorem BQ.ite {c : Bool} {X Y X' Y' : Res α} (hX : BQ κ X X') (hY : BQ κ Y Y') : BQ κ (bif c then X else Y) (bif c then X' else Y') := by cases c <;> assumption
end
section
variable {L L' : List T} (A : AlikeT L L') {α γ : Type} {κ : α → γ} {s : RS}
include A
theorem al_k : (cur L' s).k = (cur L s).k := congrArg (·.1) (A s)
theorem al_t : (cur L' s).t = (cur L s).t := congrArg (·.2.1) (A s)
theorem al_n : (cur L' s).n = (cur L s).n := congrArg (·.2.2) (A s)
theorem al_isT (x : List UInt8) : isT L' s x = isT L s x := by unfold isT; rw [al_k A, al_t A]
theorem al_want (x : List UInt8) : BQ tk3 (sWant L x s) (sWant L' x s) := fun a s' e => by
 have ha := A s
 unfold sWant at e ⊢
 rw [al_isT A]
 cases h : isT L s x <;> rw [h] at e
 ·cases e
 ·simp only [cond_true] at e ⊢
  cases h1 : (x == [40] || x == [91] || x == [123]) <;> rw [h1] at e
  ·simp only [cond_false] at e ⊢
   cases h2 : (x == [41] || x == [93] || x == [125]) <;> rw [h2] at e <;> cases e <;> exact ⟨_, rfl, ha⟩
  ·simp only [cond_true] at e ⊢
   cases h2 : decide (200 < w64 (s.op + 1)) <;> rw [h2] at e <;> cases e
   exact ⟨_, rfl, ha⟩
theorem al_take (k : Int) : BQ tk3 (sTake L k s) (sTake L' k s) := fun a s' e => by
 have ha := A s
 unfold sTake at e ⊢
 rw [al_k A]
 cases h : ((cur L s).k == k) <;> rw [h] at e <;> cases e
 exact ⟨_, rfl, ha⟩
theorem BQ.may {x : List UInt8} {X Y X' Y' : RS → Res α} (hX : ∀ s', BQ κ (X s') (X' s')) (hY : BQ κ (Y s) (Y' s)) :
    BQ κ ((sMay L x s).bind fun b s1 => bif b then X s1 else Y s1) ((sMay L' x s).bind fun b s1 => bif b then X' s1 else Y' s1) := by
 unfold sMay
 rw [al_isT A]
 cases isT L s x with
 | false => exact hY
 | true =>
  have := (al_want A x (s := s)).bind (κ2 := κ) (f := fun _ s1 => X s1) (f' := fun _ s1 => X' s1) fun _ _ s' _ => hX s'
  simp only [cond_true]
  intro a s' e
  revert e this
  cases sWant L x s with
  | ok t s1 =>
   intro this e
   obtain ⟨a', e2, hk⟩ := this a s' e
   revert e2
   cases sWant L' x s with
   | ok t' s1' => exact fun e2 => ⟨a', e2, hk⟩
   | bad p q s1' => exact fun e2 => by cases e2
   | out => exact fun e2 => by cases e2
  | bad p q s1 => exact fun _ e => by cases e
  | out => exact fun _ e => by cases e
theorem BQ.isT {x : List UInt8} {X Y X' Y' : Res α} (hX : BQ κ X X') (hY : BQ κ Y Y') : BQ κ (bif isT L s x then X else Y) (bif isT L' s x then X' else Y') := by
 rw [al_isT A]; exact hX.ite hY
theorem al_kind : ∀ (l : List Int) (s : RS), BQ (fun k : Int => k) (sKind L l s) (sKind L' l s)
 | [], s => fun _ _ e => by cases e
 | k :: r, s => by
  unfold sKind
  exact BQ.may A (fun s' => .ok rfl) (al_kind r s)
theorem al_sign (k : Int) : sSign L' k s = sSign L k s := by
 have : ∀ m : List (Int × List UInt8 × Int), signOf L' s k m = signOf L s k m := fun m => by
  induction m with
  | nil => rfl
  | cons p m ih => obtain ⟨o, x, lv⟩ := p; simp only [signOf, al_isT A x, ih]
 exact this signs
end
theorem exKL_app (b : Bool) (l m : List Ex) : exKL b (l ++ m) = exKL b l ++ exKL b m := by simp [exKL_map]
theorem stKL_app (b : Bool) (l m : List St') : stKL b (l ++ m) = stKL b l ++ stKL b m := by simp [stKL_map]
structure BqA (L L' : List T) (n : Nat) : Prop where
 one : ∀ s : RS, BQ (exK false) (sOne L n s) (sOne L' n s)
 place : ∀ s : RS, BQ (exK false) (sPlace L n s) (sPlace L' n s)
 call : ∀ nm p p' (s : RS), BQ (exK false) (sCall L n nm p s) (sCall L' n nm p' s)
 args : ∀ s : RS, BQ (exKL false) (sArgs L n s) (sArgs L' n s)
 more : ∀ l l' (s : RS), exKL false l' = exKL false l → BQ (exKL false) (sMore L n l s) (sMore L' n l' s)
 expr : ∀ k (s : RS), BQ (exK false) (sExpr L n k s) (sExpr L' n k s)
 tail : ∀ k e e' (s : RS), exK false e' = exK false e → BQ (exK false) (sTail L n k e s) (sTail L' n k e' s)
theorem tk3_t {a b : T} (h : tk3 a = tk3 b) : a.t = b.t := congrArg (·.2.1) h
theorem tk3_n {a b : T} (h : tk3 a = tk3 b) : a.n = b.n := congrArg (·.2.2) h
section
variable {L L' : List T} (A : AlikeT L L')
include A
theorem bqAll : ∀ n, BqA L L' n
 | 0 => ⟨fun _ => BQ.out, fun _ => BQ.out, fun _ _ _ _ => BQ.out, fun _ => BQ.out, fun _ _ _ _ => BQ.out, fun _ _ => BQ.out, fun _ _ _ _ _ => BQ.out⟩
 | n + 1 => by
  have ih := bqAll n
  have W := fun x s => al_want A x (s := s)
  refine ⟨fun s => ?_, fun s => ?_, fun nm p p' s => ?_, fun s => ?_, fun l l' s hl => ?_, fun k s => ?_, fun k e e' s he => ?_⟩
  ·simp only [sOne]
   have un : ∀ (o p p' : Int) s', BQ (exK false) ((sOne L n s').bind fun e s2 => .ok (.mk 8 o [] 0 p [e]) s2) ((sOne L' n s').bind fun e s2 => .ok (.mk 8 o [] 0 p' [e]) s2) := fun o p p' s' => (ih.one s').bind fun e e' s2 h => .ok (by simp only [exK, exKL, h, cond_false])
   refine BQ.may A (fun s' => un _ _ _ s') (BQ.may A (fun s' => un _ _ _ s') (BQ.may A (fun s' => un _ _ _ s') ?_))
   rw [al_k A, al_n A]
   refine BQ.ite (.ok (by simp only [exK, exKL, cond_false])) ?_
   refine BQ.may A (fun s' => .ok (by simp only [exK, exKL, cond_false])) (BQ.may A (fun s' => .ok (by simp only [exK, exKL, cond_false])) ?_)
   refine BQ.may A (fun s' => (W _ s').bind fun _ _ s2 _ => (W _ s2).bind fun _ _ _ _ => .ok (by simp only [exK, exKL, cond_false])) ?_
   refine BQ.may A (fun s' => (W _ s').bind fun _ _ s2 _ => (al_take A 1).bind fun _ _ s3 h => (W _ s3).bind fun _ _ _ _ => .ok (by simp only [exK, exKL, cond_false, tk3_t h])) ?_
   refine BQ.isT A ((W _ s).bind fun _ _ s2 _ => (ih.expr _ s2).bind fun _ _ s3 h => (W _ s3).bind fun _ _ _ _ => .ok h) ?_
   exact (al_take A 1).bind fun t t' s2 h => BQ.isT A ((ih.place s2).bind fun _ _ _ h2 => .ok (by simp only [exK, exKL, cond_false, tk3_t h, h2])) (BQ.isT A ((show BQ (exK false) (sCall L n t.t (cur L s).p s2) (sCall L' n t'.t (cur L' s).p s2) from tk3_t h ▸ ih.call t'.t (cur L s).p (cur L' s).p s2).bind fun _ _ _ h2 => .ok h2) (.ok (by simp only [exK, exKL, cond_false, tk3_t h])))
  ·simp only [sPlace]
   exact (W _ s).bind fun _ _ s2 _ => (ih.expr _ s2).bind fun _ _ s3 h => (W _ s3).bind fun _ _ _ _ => .ok h
  ·simp only [sCall]
   exact (ih.args s).bind fun _ _ _ h => .ok (by simp only [exK, cond_false, h])
  ·simp only [sArgs]
   exact (W _ s).bind fun _ _ s2 _ => BQ.isT A ((W _ s2).bind fun _ _ _ _ => .ok rfl) ((ih.expr _ s2).bind fun _ _ s3 h => (ih.more _ _ s3 (by simp only [exKL, h])).bind fun _ _ s4 h2 => (W _ s4).bind fun _ _ _ _ => .ok h2)
  ·simp only [sMore]
   exact BQ.may A (fun s' => (ih.expr _ s').bind fun _ _ s3 h => ih.more _ _ s3 (by simp only [exKL_app, exKL, h, hl])) (.ok hl)
  ·simp only [sExpr]
   exact (ih.one s).bind fun _ _ s2 h => ih.tail _ _ _ s2 h
  ·simp only [sTail]
   rw [al_sign A]
   exact BQ.ite (.ok he) ((ih.expr _ s.nx).bind fun _ _ s3 h => ih.tail k _ _ s3 (by simp only [exK, exKL, cond_false, he, h]))
theorem bq_let (n : Nat) (id p p' : Int) (s : RS) : BQ (stK false) (sLet L n id p s) (sLet L' n id p' s) := by
 have W := fun x s => al_want A x (s := s)
 unfold sLet
 refine (al_take A 1).bind fun t t' s2 ht => (W _ s2).bind fun _ _ s3 _ => (al_kind A _ s3).bind fun ty ty' s4 e => ?_
 obtain rfl : ty' = ty := e
 have ht := tk3_t ht
 cases ty' == 3 with
 | true => exact (W _ s4).bind fun _ _ s5 _ => (al_take A 3).bind fun _ _ s6 hm => (W _ s6).bind fun _ _ s7 _ => (W _ s7).bind fun _ _ _ _ => .ok (by simp only [stK, exKL, stKL, cond_false, ht, tk3_n hm])
 | false => exact BQ.may A (fun s' => ((bqAll A n).expr 1 s').bind fun _ _ s6 h => (W _ s6).bind fun _ _ _ _ => .ok (by simp only [stK, exKL, stKL, cond_false, ht, h])) ((W _ s4).bind fun _ _ _ _ => .ok (by simp only [stK, exKL, stKL, cond_false, ht]))
theorem bq_named (n : Nat) (id p p' : Int) (s : RS) : BQ (stK false) (sNamed L n id p s) (sNamed L' n id p' s) := by
 have W := fun x s => al_want A x (s := s)
 have B := bqAll A n
 unfold sNamed
 refine (al_take A 1).bind fun t t' s2 ht => ?_
 have ht := tk3_t ht
 refine BQ.isT A ((show BQ (exK false) (sCall L n t.t p s2) (sCall L' n t'.t p' s2) from ht ▸ B.call t'.t p p' s2).bind fun _ _ s3 h => (W _ s3).bind fun _ _ _ _ => .ok (by simp only [stK, exKL, stKL, cond_false, h])) (BQ.isT A ?_ ?_)
 ·exact (B.place s2).bind fun _ _ s3 h => (W _ s3).bind fun _ _ s4 _ => (B.expr 1 s4).bind fun _ _ s5 h2 => (W _ s5).bind fun _ _ _ _ => .ok (by simp only [stK, exKL, stKL, cond_false, ht, h, h2])
 ·exact (W _ s2).bind fun _ _ s3 _ => (B.expr 1 s3).bind fun _ _ s4 h => (W _ s4).bind fun _ _ _ _ => .ok (by simp only [stK, exKL, stKL, cond_false, ht, h])
theorem bq_stmt : ∀ n, (∀ s : RS, BQ (stKL false) (sBlock L n s) (sBlock L' n s)) ∧ (∀ r r' (s : RS), stKL false r' = stKL false r → BQ (stKL false) (sStmts L n r s) (sStmts L' n r' s)) ∧ (∀ s : RS, BQ (stK false) (sStmt L n s) (sStmt L' n s))
 | 0 => ⟨fun _ => BQ.out, fun _ _ _ _ => BQ.out, fun _ => BQ.out⟩
 | n + 1 => by
  obtain ⟨h1, h2, h3⟩ := bq_stmt n
  have W := fun x s => al_want A x (s := s)
  have B := bqAll A n
  refine ⟨fun s => ?_, fun r r' s hr => ?_, fun s => ?_⟩
  ·simp only [sBlock]
   exact (W _ s).bind fun _ _ s1 _ => (h2 _ _ s1 rfl).bind fun _ _ s2 h => (W _ s2).bind fun _ _ _ _ => .ok h
  ·simp only [sStmts]
   exact BQ.isT A (.ok hr) ((h3 s).bind fun _ _ s1 h => h2 _ _ s1 (by simp only [stKL_app, stKL, hr, h]))
  ·simp only [sStmt]
   refine BQ.may A (fun s' => (bq_let A n _ _ _ s').bind fun _ _ _ h => .ok h) (BQ.may A (fun s' => ?_) (BQ.may A (fun s' => ?_) (BQ.may A (fun s' => ?_) (BQ.may A (fun s' => ?_) ?_))))
   ·exact (B.expr 1 s').bind fun _ _ s2 h => (h1 s2).bind fun _ _ s3 hb => BQ.may A (fun s4 => (h1 s4).bind fun _ _ _ hc => .ok (by simp only [stK, exKL, stKL, cond_false, h, hb, hc])) (.ok (by simp only [stK, exKL, stKL, cond_false, h, hb]))
   ·exact (B.expr 1 s').bind fun _ _ s2 h => (h1 s2).bind fun _ _ _ hb => .ok (by simp only [stK, exKL, stKL, cond_false, h, hb])
   ·exact BQ.isT A ((W _ s').bind fun _ _ _ _ => .ok (by simp only [stK, exKL, stKL, cond_false])) ((B.expr 1 s').bind fun _ _ s2 h => (W _ s2).bind fun _ _ _ _ => .ok (by simp only [stK, exKL, stKL, cond_false, h]))
   ·exact (B.expr 1 s').bind fun _ _ s2 h => (W _ s2).bind fun _ _ _ _ => .ok (by simp only [stK, exKL, stKL, cond_false, h])
   ·exact (bq_named A n _ _ _ s.st).bind fun _ _ _ h => .ok h
theorem bq_param (s : RS) : BQ (pmK false) (sParam L s) (sParam L' s) := (al_take A 1).bind fun _ _ s1 h => (al_want A _).bind fun _ _ s2 _ => (al_kind A _ s2).bind fun k k' _ e => .ok (by obtain rfl : k' = k := e; simp only [pmK, cond_false, tk3_t h])
theorem bq_pmore : ∀ (n : Nat) (r r' : List Pm) (s : RS), r'.map (pmK false) = r.map (pmK false) → BQ (List.map (pmK false)) (sPMore L n r s) (sPMore L' n r' s)
 | 0, _, _, _, _ => BQ.out
 | n + 1, r, r', s, hr => by
  simp only [sPMore]
  exact BQ.may A (fun s' => (bq_param A s').bind fun _ _ s2 h => bq_pmore n _ _ s2 (by simp only [List.map_append, List.map_cons, List.map_nil, hr, h])) (.ok hr)
theorem bq_params (n : Nat) (s : RS) : BQ (List.map (pmK false)) (sParams L n s) (sParams L' n s) := by
 have W := fun x s => al_want A x (s := s)
 unfold sParams
 exact (W _ s).bind fun _ _ s3 _ => BQ.isT A ((W _ s3).bind fun _ _ _ _ => .ok rfl) ((bq_param A s3).bind fun _ _ s4 h => (bq_pmore A n _ _ s4 (by simp only [List.map_cons, List.map_nil, h])).bind fun _ _ s5 h2 => (W _ s5).bind fun _ _ _ _ => .ok h2)
theorem bq_fn (n : Nat) (s : RS) : BQ (fnK false) (sFn L n s) (sFn L' n s) := by
 have W := fun x s => al_want A x (s := s)
 have B := (bq_stmt A n).1
 unfold sFn
 exact (W _ s).bind fun _ _ s1 _ => (al_take A 1).bind fun _ _ s2 hu => (bq_params A n s2).bind fun _ _ s3 hp => BQ.may A (fun s4 => (al_kind A _ s4).bind fun k k' s5 e => (B s5).bind fun _ _ _ hb => .ok (by obtain rfl : k' = k := e; simp only [fnK, cond_false, tk3_t hu, hp, hb])) ((B s3).bind fun _ _ _ hb => .ok (by simp only [fnK, cond_false, tk3_t hu, hp, hb]))
theorem bq_fns (N : Nat) : ∀ (n : Nat) (r r' : List Fn) (s : RS), r'.map (fnK false) = r.map (fnK false) → BQ (List.map (fnK false)) (sFns L N n r s) (sFns L' N n r' s)
 | 0, _, _, _, _ => BQ.out
 | n + 1, r, r', s, hr => by
  simp only [sFns]
  rw [al_k A]
  exact BQ.ite (.ok hr) ((bq_fn A N s).bind fun _ _ s1 h => bq_fns N n _ _ s1 (by simp only [List.map_append, List.map_cons, List.map_nil, hr, h]))
theorem bq_prog (n : Nat) : BQ (List.map (fnK false)) (sProg L n) (sProg L' n) := by
 unfold sProg
 exact (bq_fn A n _).bind fun _ _ s1 h => bq_fns A n n _ _ s1 (by simp only [List.map_cons, List.map_nil, h])
end
theorem alike_toks {ts ts' : List (Nat × Tok)} (h : ts'.map (·.2) = ts.map (·.2)) (n n' : Nat) : AlikeT (toksOf ts n) (toksOf ts' n') := fun r => by
 have hl : ts'.length = ts.length := by simpa using congrArg List.length h
 simp only [cur, toksOf, List.getD_eq_getElem?_getD]
 rcases Nat.lt_or_ge r.i ts.length with hi | hi
 ·rw [List.getElem?_append_left (by simp; omega), List.getElem?_append_left (by simp; omega), List.getElem?_map, List.getElem?_map]
  have hg := congrArg (fun l : List Tok => l[r.i]?) h
  simp only [List.getElem?_map] at hg
  rw [List.getElem?_eq_getElem hi, List.getElem?_eq_getElem (show r.i < ts'.length by omega)] at hg ⊢
  simp only [Option.map_some, Option.some.injEq] at hg
  simp only [Option.map_some, Option.getD_some, tk3, tkT, hg]
 ·rw [List.getElem?_append_right (by simp; omega), List.getElem?_append_right (by simp; omega)]
  simp only [List.length_map, hl]
  cases r.i - ts.length with
  | zero => rfl
  | succ m => rfl
end Go.Avm
namespace Go.Avm
open Go.Proofs
abbrev sfE (f g : List Fn) : List (Nat × Ent) := [(1003, ⟨1, some (.arr 1 [.d (.ro (fnL f))])⟩), (1120, ⟨1, some (.arr 1 [.d (.ro (fnL g))])⟩)]
def sfL (b : Bool) (f : List Fn) (i : Nat) : List (Nat × AV) := [(2, dB b), (3, pC 1003), (4, pC 1120), (22, dN f.length), (23, dN i)]
def fnC (x : Fn) : List AV := [.d (.str x.nm), .d (.ro (x.ps.map pmD)), u8 x.res, .d (.ro (stL x.bd)), dI x.p]
abbrev spE (f g : List Fn) (x y : Fn) : List (Nat × Ent) := sfE f g ++ [(4516, ⟨1, some (.arr 1 (fnC x))⟩), (4633, ⟨1, some (.arr 1 (fnC y))⟩)]
abbrev spX (f g : List Fn) : List (Nat × Ent) := sfE f g ++ [(4516, ⟨1, none⟩), (4633, ⟨1, none⟩)]
def spL (b : Bool) (f : List Fn) (i m j : Nat) : List (Nat × AV) := [(2, dB b), (3, pC 1003), (4, pC 1120), (8, pC 4516), (9, pC 4633), (22, dN f.length), (23, dN i), (78, dN m), (79, dN j)]
section
variable (f g : List Fn) (i : Nat)
theorem spStop_true (nm : List UInt8) (ps ps2 : List Pm) (res : Int) (bd bd2 : List St') (p p2 : Int) : RE 116 (lO 12 10) (spL true f i ps.length ps.length) (spE f g ⟨nm, ps, res, bd, p⟩ ⟨nm, ps2, res, bd2, p⟩) (.exit 2) (sfL true f i) (spX f g) :=
 qE { hint := qT 12 [(80, qG ps.length)] } 12 5000
theorem spGo_true (nm : List UInt8) (ps ps2 : List Pm) (res : Int) (bd bd2 : List St') (p p2 : Int) (hf : ps.length < 1000000) {j : Nat} (hj : j < ps.length) {pn : List UInt8} {ty pp pp2 : Int} (hx : ps[j]? = some ⟨pn, ty, pp⟩) (hy : ps2[j]? = some ⟨pn, ty, pp⟩) :
    RE 116 (lO 12 10) (spL true f i ps.length j) (spE f g ⟨nm, ps, res, bd, p⟩ ⟨nm, ps2, res, bd2, p⟩) .normal (spL true f i ps.length (j + 1)) (spE f g ⟨nm, ps, res, bd, p⟩ ⟨nm, ps2, res, bd2, p⟩) :=
 qE { hint := qT 12 [(80, qL hj), (85, .idx (ps.map pmD) ((j : Nat) : Int) (pmD ⟨pn, ty, pp⟩) (by omega) (map_get hx)), (90, .idx (ps2.map pmD) ((j : Nat) : Int) (pmD ⟨pn, ty, pp⟩) (by omega) (map_get hy)), (96, hB Pg (!(pn == pn)) false (by simp)), (102, hB Pg (ty != ty) false (by simp)), (111, hB Pg (pp != pp) false (by simp)), (114, hSucc Pg j (by omega))] } 12 5000
noncomputable def spLH_true {f g : List Fn} {i : Nat} {nm : List UInt8} {ps ps2 : List Pm} {res : Int} {bd bd2 : List St'} {p : Int} (h : RL 116 (lO 12 10) (spL true f i ps.length 0) (spE f g ⟨nm, ps, res, bd, p⟩ ⟨nm, ps2, res, bd2, p⟩) (.exit 2) (sfL true f i) (spX f g)) : LHint Pg :=
 ⟨116, loopOf Pg 12 10, spL true f i ps.length 0, fun _ => spE f g ⟨nm, ps, res, bd, p⟩ ⟨nm, ps2, res, bd2, p⟩, .exit 2, sfL true f i, fun _ => spX f g, fun rest X hP hN => (h rest X hP hN).aw⟩
theorem sfStop_true : RE 116 (lO 12 4) (sfL true f f.length) (sfE f g) (.exit 0) ([]) ([(1003, ⟨1, none⟩), (1120, ⟨1, none⟩)]) :=
 qE { hint := qT 12 [(24, qG f.length)] } 12 3000
theorem sfGo_true (hf : f.length < 1000000) (hi : i < f.length) {nm : List UInt8} {ps ps2 : List Pm} {res : Int} {bd bd2 : List St'} {p p2 : Int} (hx : f[i]? = some ⟨nm, ps, res, bd, p⟩) (hy : g[i]? = some ⟨nm, ps2, res, bd2, p⟩) (hl : ps.length = ps2.length) (hb : Pure Pg 26 [.ro (stL bd), .ro (stL bd2), .bool true] [.bool true]) (h : RL 116 (lO 12 10) (spL true f i ps.length 0) (spE f g ⟨nm, ps, res, bd, p⟩ ⟨nm, ps2, res, bd2, p⟩) (.exit 2) (sfL true f i) (spX f g)) :
    RE 116 (lO 12 4) (sfL true f i) (sfE f g) .normal (sfL true f (i + 1)) (sfE f g) :=
 qE { loops := fun f q => if f = 12 then (if q = 10 then some (spLH_true h) else none) else none, hint := qT 12 [(24, qL hi), (29, .idx (fnL f) ((i : Nat) : Int) (fnD ⟨nm, ps, res, bd, p⟩) (by omega) (map_get hx)), (34, .idx (fnL g) ((i : Nat) : Int) (fnD ⟨nm, ps2, res, bd2, p⟩) (by omega) (map_get hy)), (40, hB Pg (!(nm == nm)) false (by simp)), (46, hB Pg (res != res) false (by simp)), (55, hB Pg (p != p) false (by simp)), (61, .val (dN (ps.map pmD).length) (dN ps.length) (by simp)), (64, .val (dN (ps2.map pmD).length) (dN ps.length) (by simp [hl])), (65, hB Pg (((ps.length : Nat) : Int) != ((ps.length : Nat) : Int)) false (by simp)), (73, .call 26 _ _ hb), (78, .val (dN (ps.map pmD).length) (dN ps.length) (by simp)), (115, hSucc Pg i (by omega))] } 12 3000
theorem spStop_false (nm : List UInt8) (ps ps2 : List Pm) (res : Int) (bd bd2 : List St') (p p2 : Int) : RE 116 (lO 12 10) (spL false f i ps.length ps.length) (spE f g ⟨nm, ps, res, bd, p⟩ ⟨nm, ps2, res, bd2, p2⟩) (.exit 2) (sfL false f i) (spX f g) :=
 qE { hint := qT 12 [(80, qG ps.length)] } 12 5000
theorem spGo_false (nm : List UInt8) (ps ps2 : List Pm) (res : Int) (bd bd2 : List St') (p p2 : Int) (hf : ps.length < 1000000) {j : Nat} (hj : j < ps.length) {pn : List UInt8} {ty pp pp2 : Int} (hx : ps[j]? = some ⟨pn, ty, pp⟩) (hy : ps2[j]? = some ⟨pn, ty, pp2⟩) :
    RE 116 (lO 12 10) (spL false f i ps.length j) (spE f g ⟨nm, ps, res, bd, p⟩ ⟨nm, ps2, res, bd2, p2⟩) .normal (spL false f i ps.length (j + 1)) (spE f g ⟨nm, ps, res, bd, p⟩ ⟨nm, ps2, res, bd2, p2⟩) :=
 qE { hint := qT 12 [(80, qL hj), (85, .idx (ps.map pmD) ((j : Nat) : Int) (pmD ⟨pn, ty, pp⟩) (by omega) (map_get hx)), (90, .idx (ps2.map pmD) ((j : Nat) : Int) (pmD ⟨pn, ty, pp2⟩) (by omega) (map_get hy)), (96, hB Pg (!(pn == pn)) false (by simp)), (102, hB Pg (ty != ty) false (by simp)), (114, hSucc Pg j (by omega))] } 12 5000
noncomputable def spLH_false {f g : List Fn} {i : Nat} {nm : List UInt8} {ps ps2 : List Pm} {res : Int} {bd bd2 : List St'} {p p2 : Int} (h : RL 116 (lO 12 10) (spL false f i ps.length 0) (spE f g ⟨nm, ps, res, bd, p⟩ ⟨nm, ps2, res, bd2, p2⟩) (.exit 2) (sfL false f i) (spX f g)) : LHint Pg :=
 ⟨116, loopOf Pg 12 10, spL false f i ps.length 0, fun _ => spE f g ⟨nm, ps, res, bd, p⟩ ⟨nm, ps2, res, bd2, p2⟩, .exit 2, sfL false f i, fun _ => spX f g, fun rest X hP hN => (h rest X hP hN).aw⟩
theorem sfStop_false : RE 116 (lO 12 4) (sfL false f f.length) (sfE f g) (.exit 0) ([]) ([(1003, ⟨1, none⟩), (1120, ⟨1, none⟩)]) :=
 qE { hint := qT 12 [(24, qG f.length)] } 12 3000
theorem sfGo_false (hf : f.length < 1000000) (hi : i < f.length) {nm : List UInt8} {ps ps2 : List Pm} {res : Int} {bd bd2 : List St'} {p p2 : Int} (hx : f[i]? = some ⟨nm, ps, res, bd, p⟩) (hy : g[i]? = some ⟨nm, ps2, res, bd2, p2⟩) (hl : ps.length = ps2.length) (hb : Pure Pg 26 [.ro (stL bd), .ro (stL bd2), .bool false] [.bool true]) (h : RL 116 (lO 12 10) (spL false f i ps.length 0) (spE f g ⟨nm, ps, res, bd, p⟩ ⟨nm, ps2, res, bd2, p2⟩) (.exit 2) (sfL false f i) (spX f g)) :
    RE 116 (lO 12 4) (sfL false f i) (sfE f g) .normal (sfL false f (i + 1)) (sfE f g) :=
 qE { loops := fun f q => if f = 12 then (if q = 10 then some (spLH_false h) else none) else none, hint := qT 12 [(24, qL hi), (29, .idx (fnL f) ((i : Nat) : Int) (fnD ⟨nm, ps, res, bd, p⟩) (by omega) (map_get hx)), (34, .idx (fnL g) ((i : Nat) : Int) (fnD ⟨nm, ps2, res, bd2, p2⟩) (by omega) (map_get hy)), (40, hB Pg (!(nm == nm)) false (by simp)), (46, hB Pg (res != res) false (by simp)), (61, .val (dN (ps.map pmD).length) (dN ps.length) (by simp)), (64, .val (dN (ps2.map pmD).length) (dN ps.length) (by simp [hl])), (65, hB Pg (((ps.length : Nat) : Int) != ((ps.length : Nat) : Int)) false (by simp)), (73, .call 26 _ _ hb), (78, .val (dN (ps.map pmD).length) (dN ps.length) (by simp)), (115, hSucc Pg i (by omega))] } 12 3000
end
noncomputable def sfLH {b : Bool} {f g : List Fn} (h : RL 116 (lO 12 4) (sfL b f 0) (sfE f g) (.exit 0) ([]) ([(1003, ⟨1, none⟩), (1120, ⟨1, none⟩)])) : LHint Pg :=
 ⟨116, loopOf Pg 12 4, sfL b f 0, fun _ => sfE f g, .exit 0, [], fun _ => [(1003, ⟨1, none⟩), (1120, ⟨1, none⟩)], fun rest X hP hN => (h rest X hP hN).aw⟩
theorem sfCall {b : Bool} {f g : List Fn} (hl : f.length = g.length) (h : RL 116 (lO 12 4) (sfL b f 0) (sfE f g) (.exit 0) ([]) ([(1003, ⟨1, none⟩), (1120, ⟨1, none⟩)])) : Pure Pg 12 [.agg [.ro (fnL f)], .agg [.ro (fnL g)], .bool b] [.bool true] :=
 qV { loops := fun f q => if f = 12 then (if q = 4 then some (sfLH h) else none) else none, hint := qT 12 [(15, .val (dN (fnL f).length) (dN f.length) (by simp)), (18, .val (dN (fnL g).length) (dN f.length) (by simp [hl])), (19, hB Pg (((f.length : Nat) : Int) != ((f.length : Nat) : Int)) false (by simp)), (22, .val (dN (fnL f).length) (dN f.length) (by simp))] } 1000
theorem sameFn (b : Bool) (f g : List Fn) (hz : fnZL f < 1000000) (he : f.map (fnK b) = g.map (fnK b)) : Pure Pg 12 [.agg [.ro (fnL f)], .agg [.ro (fnL g)], .bool b] [.bool true] := by
 have hl : f.length = g.length := by simpa using congrArg List.length he
 have hfl := fnZL_len f
 refine sfCall hl ?_
 have go : ∀ j i : Nat, i + j = f.length → RL 116 (lO 12 4) (sfL b f i) (sfE f g) (.exit 0) ([]) ([(1003, ⟨1, none⟩), (1120, ⟨1, none⟩)]) := by
  intro j
  induction j with
  | zero =>
   intro i hi
   obtain rfl : i = f.length := by omega
   cases b with
   | true => exact fun rest X hP hN => lw_stop (sfStop_true f g rest X hP hN) (by simp)
   | false => exact fun rest X hP hN => lw_stop (sfStop_false f g rest X hP hN) (by simp)
  | succ j ih =>
   intro i hi
   have li : i < f.length := by omega
   have hx := List.getElem?_eq_getElem li
   have hy := List.getElem?_eq_getElem (show i < g.length by omega)
   have hk : fnK b f[i] = fnK b g[i] := by
    have := congrArg (fun l : List Fn => l[i]?) he
    simpa [hx, hy] using this
   have hz := fnZL_mem hx
   revert hx hy hk hz
   generalize f[i] = x
   generalize g[i] = y
   obtain ⟨nm, ps, res, bd, p⟩ := x
   obtain ⟨nm2, ps2, res2, bd2, p2⟩ := y
   intro hx hy hk hz
   simp only [fnK, Fn.mk.injEq] at hk
   obtain ⟨rfl, h1, rfl, h2, hp⟩ := hk
   simp only [fnZ] at hz
   have hpl : ps.length = ps2.length := by simpa using congrArg List.length h1
   have hb := sameSt b 1000000 bd bd2 (by omega) (Nat.le_refl _) h2
   have g2 := ih (i + 1) (by omega)
   cases b with
   | true =>
    simp only [cond_true] at hp
    subst hp
    have inn : ∀ m j : Nat, j + m = ps.length → RL 116 (lO 12 10) (spL true f i ps.length j) (spE f g ⟨nm, ps, res, bd, p⟩ ⟨nm, ps2, res, bd2, p⟩) (.exit 2) (sfL true f i) (spX f g) := by
     intro m
     induction m with
     | zero =>
      intro j hj
      obtain rfl : j = ps.length := by omega
      exact fun rest X hP hN => lw_stop (spStop_true f g i nm ps ps2 res bd bd2 p 0 rest X hP hN) (by simp)
     | succ m ihm =>
      intro j hj
      have lj : j < ps.length := by omega
      have hx2 := List.getElem?_eq_getElem lj
      have hy2 := List.getElem?_eq_getElem (show j < ps2.length by omega)
      have hk2 : pmK true ps[j] = pmK true ps2[j] := by
       have := congrArg (fun l : List Pm => l[j]?) h1
       simpa [hx2, hy2] using this
      have g3 := ihm (j + 1) (by omega)
      revert hx2 hy2 hk2
      generalize ps[j] = u
      generalize ps2[j] = w
      obtain ⟨pn, ty, pp⟩ := u
      obtain ⟨pn2, ty2, pp2⟩ := w
      intro hx2 hy2 hk2
      simp only [pmK, Pm.mk.injEq] at hk2
      obtain ⟨rfl, rfl, hpp⟩ := hk2
      simp only [cond_true] at hpp
      subst hpp
      exact fun rest X hP hN => lw_step (spGo_true f g i nm ps ps2 res bd bd2 p 0 (by omega) lj (pp2 := 0) hx2 hy2 rest X hP hN) (g3 rest X hP hN)
    exact fun rest X hP hN => lw_step (sfGo_true f g i (by omega) li (p2 := 0) hx hy hpl hb (inn ps.length 0 (by omega)) rest X hP hN) (g2 rest X hP hN)
   | false =>
    have inn : ∀ m j : Nat, j + m = ps.length → RL 116 (lO 12 10) (spL false f i ps.length j) (spE f g ⟨nm, ps, res, bd, p⟩ ⟨nm, ps2, res, bd2, p2⟩) (.exit 2) (sfL false f i) (spX f g) := by
     intro m
     induction m with
     | zero =>
      intro j hj
      obtain rfl : j = ps.length := by omega
      exact fun rest X hP hN => lw_stop (spStop_false f g i nm ps ps2 res bd bd2 p p2 rest X hP hN) (by simp)
     | succ m ihm =>
      intro j hj
      have lj : j < ps.length := by omega
      have hx2 := List.getElem?_eq_getElem lj
      have hy2 := List.getElem?_eq_getElem (show j < ps2.length by omega)
      have hk2 : pmK false ps[j] = pmK false ps2[j] := by
       have := congrArg (fun l : List Pm => l[j]?) h1
       simpa [hx2, hy2] using this
      have g3 := ihm (j + 1) (by omega)
      revert hx2 hy2 hk2
      generalize ps[j] = u
      generalize ps2[j] = w
      obtain ⟨pn, ty, pp⟩ := u
      obtain ⟨pn2, ty2, pp2⟩ := w
      intro hx2 hy2 hk2
      simp only [pmK, Pm.mk.injEq] at hk2
      obtain ⟨rfl, rfl, hpp⟩ := hk2
      exact fun rest X hP hN => lw_step (spGo_false f g i nm ps ps2 res bd bd2 p p2 (by omega) lj hx2 hy2 rest X hP hN) (g3 rest X hP hN)
    exact fun rest X hP hN => lw_step (sfGo_false f g i (by omega) li hx hy hpl hb (inn ps.length 0 (by omega)) rest X hP hN) (g2 rest X hP hN)
 exact go f.length 0 (by omega)
end Go.Avm
namespace Go.Avm
open Go.Proofs
def Post {α : Type} (Q : α → RS → Prop) (r : Res α) : Prop := ∀ a s', r = .ok a s' → Q a s'
section
variable {α β : Type} {Q Q' : α → RS → Prop} {R : β → RS → Prop} {r : Res α} {f : α → RS → Res β} {s : RS}
theorem Post.bind (h : Post Q r) (hf : ∀ a s', Q a s' → Post R (f a s')) : Post R (r.bind f) := fun b s2 e => by
 cases r with
 | ok a s1 => exact hf a s1 (h a s1 rfl) b s2 e
 | bad p q s1 => cases e
 | out => cases e
theorem Post.ok {a : α} (h : Q a s) : Post Q (.ok a s) := fun _ _ e => by cases e; exact h
theorem Post.out : Post Q (Res.out : Res α) := fun _ _ e => by cases e
theorem Post.bad {p e : Int} : Post Q (Res.bad p e s : Res α) := fun _ _ e => by cases e
theorem Post.ite {c : Bool} {X Y : Res α} (hX : Post Q X) (hY : Post Q Y) : Post Q (bif c then X else Y) := by cases c <;> assumption
theorem Post.imp (h : Post Q r) (hq : ∀ a s', Q a s' → Q' a s') : Post Q' r := fun a s' e => hq a s' (h a s' e)
end
section
variable (L : List T)
theorem p_want (x : List UInt8) (s : RS) : Post (fun _ s' => s.i + 1 ≤ s'.i) (sWant L x s) := want_gr L x s
theorem p_take (k : Int) (s : RS) : Post (fun _ s' => s.i + 1 ≤ s'.i) (sTake L k s) := take_gr L k s
theorem p_kind (k : List Int) (s : RS) : Post (fun _ s' => s.i + 1 ≤ s'.i) (sKind L k s) := kind_gr L k s
theorem Post.may {L : List T} {α : Type} {Q : α → RS → Prop} {x : List UInt8} {s : RS} {X Y : RS → Res α} (hX : ∀ s', s.i + 1 ≤ s'.i → Post Q (X s')) (hY : Post Q (Y s)) : Post Q ((sMay L x s).bind fun b s1 => bif b then X s1 else Y s1) := by
 unfold sMay
 cases isT L s x with
 | false => exact hY
 | true =>
  have := (p_want L x s).bind (f := fun _ s1 => X s1) fun _ s' h => hX s' h
  simp only [cond_true]
  revert this
  cases sWant L x s <;> exact fun h => h
structure ZA (n : Nat) : Prop where
 one : ∀ s : RS, Post (fun a s' => exZ a + s.i ≤ s'.i) (sOne L n s)
 place : ∀ s : RS, Post (fun a s' => exZ a + 2 + s.i ≤ s'.i) (sPlace L n s)
 call : ∀ nm p (s : RS), Post (fun a s' => exZ a + 1 + s.i ≤ s'.i) (sCall L n nm p s)
 args : ∀ s : RS, Post (fun a s' => exZL a + 2 + s.i ≤ s'.i) (sArgs L n s)
 more : ∀ l (s : RS), Post (fun a s' => exZL a + s.i ≤ s'.i + exZL l) (sMore L n l s)
 expr : ∀ k (s : RS), Post (fun a s' => exZ a + s.i ≤ s'.i) (sExpr L n k s)
 tail : ∀ k e (s : RS), Post (fun a s' => exZ a + s.i ≤ s'.i + exZ e) (sTail L n k e s)
theorem exZL_app : ∀ l m : List Ex, exZL (l ++ m) = exZL l + exZL m
 | [], m => by simp [exZL]
 | x :: l, m => by simp only [List.cons_append, exZL, exZL_app l m]; omega
theorem stZL_app : ∀ l m : List St', stZL (l ++ m) = stZL l + stZL m
 | [], m => by simp [stZL]
 | x :: l, m => by simp only [List.cons_append, stZL, stZL_app l m]; omega
theorem fnZL_app : ∀ l m : List Fn, fnZL (l ++ m) = fnZL l + fnZL m
 | [], m => by simp [fnZL]
 | x :: l, m => by simp only [List.cons_append, fnZL, fnZL_app l m]; omega
theorem zAll : ∀ n, ZA L n
 | 0 => ⟨fun _ => Post.out, fun _ => Post.out, fun _ _ _ => Post.out, fun _ => Post.out, fun _ _ => Post.out, fun _ _ => Post.out, fun _ _ _ => Post.out⟩
 | n + 1 => by
  have ih := zAll n
  have W := p_want L
  refine ⟨fun s => ?_, fun s => ?_, fun nm p s => ?_, fun s => ?_, fun l s => ?_, fun k s => ?_, fun k e s => ?_⟩
  ·simp only [sOne]
   have un : ∀ (o p : Int) s', s.i + 1 ≤ s'.i → Post (fun a s2 => exZ a + s.i ≤ s2.i) ((sOne L n s').bind fun e s2 => .ok (.mk 8 o [] 0 p [e]) s2) := fun o p s' h => (ih.one s').bind fun e s2 h2 => .ok (by simp only [exZ, exZL]; omega)
   refine Post.may (fun s' => un _ _ s') (Post.may (fun s' => un _ _ s') (Post.may (fun s' => un _ _ s') (Post.ite (.ok (by simp only [exZ, exZL, RS.nx]; omega)) ?_)))
   refine Post.may (fun s' h => .ok (by simp only [exZ, exZL]; omega)) (Post.may (fun s' h => .ok (by simp only [exZ, exZL]; omega)) ?_)
   refine Post.may (fun s' h => (W _ s').bind fun _ s2 h2 => (W _ s2).bind fun _ _ h3 => .ok (by simp only [exZ, exZL]; omega)) ?_
   refine Post.may (fun s' h => (W _ s').bind fun _ s2 h2 => (p_take L 1 s2).bind fun _ s3 h3 => (W _ s3).bind fun _ _ h4 => .ok (by simp only [exZ, exZL]; omega)) ?_
   refine Post.ite ((W _ s).bind fun _ s2 h2 => (ih.expr _ s2).bind fun _ s3 h3 => (W _ s3).bind fun _ _ h4 => .ok (by omega)) ?_
   refine (p_take L 1 s).bind fun _ s2 h2 => Post.ite ((ih.place s2).bind fun _ _ h3 => .ok (by simp only [exZ, exZL]; omega)) (Post.ite ((ih.call _ _ s2).bind fun _ _ h3 => .ok (by omega)) (.ok (by simp only [exZ, exZL]; omega)))
  ·simp only [sPlace]
   exact (W _ s).bind fun _ s2 h2 => (ih.expr _ s2).bind fun _ s3 h3 => (W _ s3).bind fun _ _ h4 => .ok (by omega)
  ·simp only [sCall]
   exact (ih.args s).bind fun _ _ h => .ok (by simp only [exZ]; omega)
  ·simp only [sArgs]
   exact (W _ s).bind fun _ s2 h2 => Post.ite ((W _ s2).bind fun _ _ h3 => .ok (by simp only [exZL]; omega)) ((ih.expr _ s2).bind fun _ s3 h3 => (ih.more _ s3).bind fun _ s4 h4 => (W _ s4).bind fun _ _ h5 => .ok (by simp only [exZL] at h4; omega))
  ·simp only [sMore]
   exact Post.may (fun s' h => (ih.expr _ s').bind fun _ s3 h3 => (ih.more _ s3).imp fun _ _ h4 => by simp only [exZL_app, exZL] at h4; omega) (.ok (Nat.le_of_eq (Nat.add_comm _ _)))
  ·simp only [sExpr]
   exact (ih.one s).bind fun _ s2 h2 => (ih.tail _ _ s2).imp fun _ _ h3 => by omega
  ·simp only [sTail]
   exact Post.ite (.ok (Nat.le_of_eq (Nat.add_comm _ _))) ((ih.expr _ _).bind fun _ s2 h2 => (ih.tail _ _ s2).imp fun _ _ h3 => by simp only [exZ, exZL, RS.nx] at h2 h3; omega)
theorem z_let (n : Nat) (id p : Int) (s : RS) : Post (fun a s' => stZ a + s.i ≤ s'.i) (sLet L n id p s) := by
 have W := p_want L
 unfold sLet
 refine (p_take L 1 s).bind fun _ s2 h2 => (W _ s2).bind fun _ s3 h3 => (p_kind L _ s3).bind fun _ s4 h4 => Post.ite ?_ ?_
 ·exact (W _ s4).bind fun _ s5 h5 => (p_take L 3 s5).bind fun _ s6 h6 => (W _ s6).bind fun _ s7 h7 => (W _ s7).bind fun _ _ h8 => .ok (by simp only [stZ, stZL, exZL]; omega)
 ·exact Post.may (fun s' h => ((zAll L n).expr 1 s').bind fun _ s6 h6 => (W _ s6).bind fun _ _ h7 => .ok (by simp only [stZ, stZL, exZL]; omega)) ((W _ s4).bind fun _ _ h5 => .ok (by simp only [stZ, stZL, exZL]; omega))
theorem z_named (n : Nat) (id p : Int) (s : RS) : Post (fun a s' => stZ a + s.i ≤ s'.i) (sNamed L n id p s) := by
 have W := p_want L
 have A := zAll L n
 unfold sNamed
 refine (p_take L 1 s).bind fun _ s2 h2 => Post.ite ((A.call _ _ s2).bind fun _ s3 h3 => (W _ s3).bind fun _ _ h4 => .ok (by simp only [stZ, stZL, exZL]; omega)) (Post.ite ?_ ?_)
 ·exact (A.place s2).bind fun _ s3 h3 => (W _ s3).bind fun _ s4 h4 => (A.expr 1 s4).bind fun _ s5 h5 => (W _ s5).bind fun _ _ h6 => .ok (by simp only [stZ, stZL, exZL]; omega)
 ·exact (W _ s2).bind fun _ s3 h3 => (A.expr 1 s3).bind fun _ s4 h4 => (W _ s4).bind fun _ _ h5 => .ok (by simp only [stZ, stZL, exZL]; omega)
theorem z_stmt : ∀ n, (∀ s : RS, Post (fun a s' => stZL a + 2 + s.i ≤ s'.i) (sBlock L n s)) ∧ (∀ l (s : RS), Post (fun a s' => stZL a + s.i ≤ s'.i + stZL l) (sStmts L n l s)) ∧ (∀ s : RS, Post (fun a s' => stZ a + s.i ≤ s'.i) (sStmt L n s))
 | 0 => ⟨fun _ => Post.out, fun _ _ => Post.out, fun _ => Post.out⟩
 | n + 1 => by
  obtain ⟨h1, h2, h3⟩ := z_stmt n
  have W := p_want L
  have A := zAll L n
  refine ⟨fun s => ?_, fun l s => ?_, fun s => ?_⟩
  ·simp only [sBlock]
   exact (W _ s).bind fun _ s1 g1 => (h2 _ s1).bind fun _ s2 g2 => (W _ s2).bind fun _ _ g3 => .ok (by simp only [stZL] at g2; omega)
  ·simp only [sStmts]
   exact Post.ite (.ok (Nat.le_of_eq (Nat.add_comm _ _))) ((h3 s).bind fun _ s1 g1 => (h2 _ s1).imp fun _ _ g2 => by simp only [stZL_app, stZL] at g2; omega)
  ·simp only [sStmt]
   have hi : s.st.i = s.i := rfl
   refine Post.may (fun s' g => (z_let L n _ _ s').bind fun _ _ g2 => .ok (by omega)) (Post.may (fun s' g => ?_) (Post.may (fun s' g => ?_) (Post.may (fun s' g => ?_) (Post.may (fun s' g => ?_) ?_))))
   ·exact (A.expr 1 s').bind fun _ s2 g2 => (h1 s2).bind fun _ s3 g3 => Post.may (fun s4 g4 => (h1 s4).bind fun _ _ g5 => .ok (by simp only [stZ, stZL, exZL]; omega)) (.ok (by simp only [stZ, stZL, exZL]; omega))
   ·exact (A.expr 1 s').bind fun _ s2 g2 => (h1 s2).bind fun _ s3 g3 => .ok (by simp only [stZ, stZL, exZL]; omega)
   ·exact Post.ite ((W _ s').bind fun _ _ g2 => .ok (by simp only [stZ, stZL, exZL]; omega)) ((A.expr 1 s').bind fun _ s2 g2 => (W _ s2).bind fun _ _ g3 => .ok (by simp only [stZ, stZL, exZL]; omega))
   ·exact (A.expr 1 s').bind fun _ s2 g2 => (W _ s2).bind fun _ _ g3 => .ok (by simp only [stZ, stZL, exZL]; omega)
   ·exact (z_named L n _ _ _).bind fun _ _ g2 => .ok (by omega)
theorem z_param (s : RS) : Post (fun _ s' => 1 + s.i ≤ s'.i) (sParam L s) := (p_take L 1 s).bind fun _ s1 h1 => (p_want L _ s1).bind fun _ s2 h2 => (p_kind L _ s2).bind fun _ _ h3 => .ok (by omega)
theorem z_pmore : ∀ (n : Nat) (l : List Pm) (s : RS), Post (fun a s' => a.length + s.i ≤ s'.i + l.length) (sPMore L n l s)
 | 0, _, _ => Post.out
 | n + 1, l, s => by
  simp only [sPMore]
  exact Post.may (fun s' h => (z_param L s').bind fun _ s2 h2 => (z_pmore n _ s2).imp fun _ _ h3 => by simp only [List.length_append, List.length_cons, List.length_nil] at h3; omega) (.ok (Nat.le_of_eq (Nat.add_comm _ _)))
theorem z_params (n : Nat) (s : RS) : Post (fun a s' => a.length + 2 + s.i ≤ s'.i) (sParams L n s) := by
 have W := p_want L
 unfold sParams
 exact (W _ s).bind fun _ s3 h3 => Post.ite ((W _ s3).bind fun _ _ h4 => .ok (by simp only [List.length_nil]; omega)) ((z_param L s3).bind fun _ s4 h4 => (z_pmore L n _ s4).bind fun _ s5 h5 => (W _ s5).bind fun _ _ h6 => .ok (by simp only [List.length_cons, List.length_nil] at h5; omega))
theorem z_fn (n : Nat) (s : RS) : Post (fun a s' => fnZ a + s.i ≤ s'.i) (sFn L n s) := by
 have W := p_want L
 have B := (z_stmt L n).1
 unfold sFn
 exact (W _ s).bind fun _ s1 h1 => (p_take L 1 s1).bind fun _ s2 h2 => (z_params L n s2).bind fun _ s3 h3 => Post.may (fun s4 h4 => (p_kind L _ s4).bind fun _ s5 h5 => (B s5).bind fun _ _ h6 => .ok (by simp only [fnZ]; omega)) ((B s3).bind fun _ _ h6 => .ok (by simp only [fnZ]; omega))
theorem z_fns (N : Nat) : ∀ (n : Nat) (l : List Fn) (s : RS), Post (fun a s' => fnZL a + s.i ≤ s'.i + fnZL l) (sFns L N n l s)
 | 0, _, _ => Post.out
 | n + 1, l, s => by
  simp only [sFns]
  exact Post.ite (.ok (Nat.le_of_eq (Nat.add_comm _ _))) ((z_fn L N s).bind fun _ s1 h1 => (z_fns N n _ s1).imp fun _ _ h2 => by simp only [fnZL_app, fnZL] at h2; omega)
theorem z_prog (n : Nat) : Post (fun a s' => fnZL a ≤ s'.i) (sProg L n) := by
 unfold sProg
 exact (z_fn L n ⟨0, 0, 0⟩).bind fun _ s1 h1 => (z_fns L n n _ s1).imp fun _ _ h2 => by simp only [fnZL] at h1 h2; omega
end
theorem prog_small {L : List T} (hL : Toks L) (h0 : 0 < L.length) {l : List Fn} {s' : RS} (h : sProg L (fuel L) = .ok l s') : fnZL l < 1000000 := by
 have h1 := z_prog L (fuel L) l s' h
 have h2 := (((g_fn hL (fuel L) ⟨0, 0, 0⟩ h0 (by simp only [fuel]; omega)).bind fun f s1 h1 h2 => g_fns hL (fuel L) (Nat.le_refl _) (fuel L) [f] s1 h2 (by simp only [fuel]; omega)).2 l s' h).2
 have := hL.len
 omega
end Go.Avm
namespace Go.Avm
open Go.Proofs
abbrev bnE (l : List Fn) : List (Nat × Ent) := [(2058, ⟨1, some (.arr 1 [.d (.ro (fnL l))])⟩)]
def bnL (gaps : List UInt8) (toks : List D) (t : List UInt8) (i : Nat) : List (Nat × AV) := [(1, .d (.ro (gaps.map bD))), (5, pC 2058), (11, .d (.str t)), (39, .d (.ro toks)), (40, dN toks.length), (41, dN i)]
noncomputable def min2B (s : List UInt8) : Hint Pg := .val (dI (if false = true then (if (s.length : Int) < 2000 then 2000 else (s.length : Int)) else if (2000 : Int) < (s.length : Int) then 2000 else (s.length : Int))) (dN (min s.length 2000)) (by
 congr 2
 rw [if_neg (by decide)]
 split <;> omega)
section
variable (gaps : List UInt8) (toks : List D) (l : List Fn) (t : List UInt8) (i : Nat)
theorem bnStop : RE 81 (lO 7 10) (bnL gaps toks t toks.length) (bnE l) (.exit 0) ([(5, pC 2058), (11, .d (.str t))]) (bnE l) :=
 qE { hint := qT 7 [(42, qG toks.length)] } 7 3000
variable (hl : toks.length ≤ 1000000) (hi : i < toks.length) {kd n : Int} {A : Nat} {tx : List UInt8} (hx : toks[((i : Nat) : Int).toNat]? = some (tokD kd A tx n))
include hl hi hx
theorem bnOut (hu : decide ((i : Int) < ((gaps.map bD).length : Int)) = false) (h1 : tx.length + (gapT 0).length ≤ 9223372036854775807) (h2 : t.length + (tx ++ gapT 0).length ≤ 9223372036854775807) : RE 81 (lO 7 10) (bnL gaps toks t i) (bnE l) .normal (bnL gaps toks (t ++ (tx ++ gapT 0)) (i + 1)) (bnE l) :=
 qE { hint := qT 7 [(42, qL hi), (44, .idx toks ((i : Nat) : Int) (tokD kd A tx n) (by omega) hx), (49, qB hu), (62, .cat tx (gapT 0) h1), (63, .cat t (tx ++ gapT 0) h2), (64, hSucc Pg i (by omega))] } 7 3000
section
variable (hu : decide ((i : Int) < ((gaps.map bD).length : Int)) = true) (g : UInt8) (hg : gaps[i]? = some g)
include hu g hg
theorem bnIn0 (hc : g.toNat % 4 = 0) (h1 : tx.length + (gapT 0).length ≤ 9223372036854775807) (h2 : t.length + (tx ++ gapT 0).length ≤ 9223372036854775807) : RE 81 (lO 7 10) (bnL gaps toks t i) (bnE l) .normal (bnL gaps toks (t ++ (tx ++ gapT 0)) (i + 1)) (bnE l) :=
 qE { hint := qT 7 [(42, qL hi), (44, .idx toks ((i : Nat) : Int) (tokD kd A tx n) (by omega) hx), (49, qB hu), (52, .idx (gaps.map bD) ((i : Nat) : Int) (bD g) (by omega) (by rw [Int.toNat_natCast, List.getElem?_map, hg]; rfl)), (59, hU Pg .u8 ((g.toNat : Int).tmod 4) (0 : Int) (by rw [Int.tmod_eq_emod_of_nonneg (by omega)]; omega)), (62, .cat tx (gapT 0) h1), (63, .cat t (tx ++ gapT 0) h2), (64, hSucc Pg i (by omega))] } 7 3000
theorem bnIn1 (hc : g.toNat % 4 = 1) (h1 : tx.length + (gapT 1).length ≤ 9223372036854775807) (h2 : t.length + (tx ++ gapT 1).length ≤ 9223372036854775807) : RE 81 (lO 7 10) (bnL gaps toks t i) (bnE l) .normal (bnL gaps toks (t ++ (tx ++ gapT 1)) (i + 1)) (bnE l) :=
 qE { hint := qT 7 [(42, qL hi), (44, .idx toks ((i : Nat) : Int) (tokD kd A tx n) (by omega) hx), (49, qB hu), (52, .idx (gaps.map bD) ((i : Nat) : Int) (bD g) (by omega) (by rw [Int.toNat_natCast, List.getElem?_map, hg]; rfl)), (59, hU Pg .u8 ((g.toNat : Int).tmod 4) (1 : Int) (by rw [Int.tmod_eq_emod_of_nonneg (by omega)]; omega)), (62, .cat tx (gapT 1) h1), (63, .cat t (tx ++ gapT 1) h2), (64, hSucc Pg i (by omega))] } 7 3000
theorem bnIn2 (hc : g.toNat % 4 = 2) (h1 : tx.length + (gapT 2).length ≤ 9223372036854775807) (h2 : t.length + (tx ++ gapT 2).length ≤ 9223372036854775807) : RE 81 (lO 7 10) (bnL gaps toks t i) (bnE l) .normal (bnL gaps toks (t ++ (tx ++ gapT 2)) (i + 1)) (bnE l) :=
 qE { hint := qT 7 [(42, qL hi), (44, .idx toks ((i : Nat) : Int) (tokD kd A tx n) (by omega) hx), (49, qB hu), (52, .idx (gaps.map bD) ((i : Nat) : Int) (bD g) (by omega) (by rw [Int.toNat_natCast, List.getElem?_map, hg]; rfl)), (59, hU Pg .u8 ((g.toNat : Int).tmod 4) (2 : Int) (by rw [Int.tmod_eq_emod_of_nonneg (by omega)]; omega)), (62, .cat tx (gapT 2) h1), (63, .cat t (tx ++ gapT 2) h2), (64, hSucc Pg i (by omega))] } 7 3000
theorem bnIn3 (hc : g.toNat % 4 = 3) (h1 : tx.length + (gapT 3).length ≤ 9223372036854775807) (h2 : t.length + (tx ++ gapT 3).length ≤ 9223372036854775807) : RE 81 (lO 7 10) (bnL gaps toks t i) (bnE l) .normal (bnL gaps toks (t ++ (tx ++ gapT 3)) (i + 1)) (bnE l) :=
 qE { hint := qT 7 [(42, qL hi), (44, .idx toks ((i : Nat) : Int) (tokD kd A tx n) (by omega) hx), (49, qB hu), (52, .idx (gaps.map bD) ((i : Nat) : Int) (bD g) (by omega) (by rw [Int.toNat_natCast, List.getElem?_map, hg]; rfl)), (59, hU Pg .u8 ((g.toNat : Int).tmod 4) (3 : Int) (by rw [Int.tmod_eq_emod_of_nonneg (by omega)]; omega)), (62, .cat tx (gapT 3) h1), (63, .cat t (tx ++ gapT 3) h2), (64, hSucc Pg i (by omega))] } 7 3000
end
theorem bnStep (h1 : tx.length + 12 ≤ 9223372036854775807) (h2 : t.length + tx.length + 12 ≤ 9223372036854775807) : RE 81 (lO 7 10) (bnL gaps toks t i) (bnE l) .normal (bnL gaps toks (t ++ (tx ++ gapOf gaps i)) (i + 1)) (bnE l) := by
 unfold gapOf
 cases hg : gaps[i]? with
 | none =>
  have hu : decide ((i : Int) < ((gaps.map bD).length : Int)) = false := by
   have := List.getElem?_eq_none_iff.1 hg
   simp only [List.length_map, decide_eq_false_iff_not]; omega
  exact bnOut gaps toks l t i hl hi hx hu (by simp only [gapT, List.length_cons, List.length_nil]; omega) (by simp only [gapT, List.length_append, List.length_cons, List.length_nil]; omega)
 | some g =>
  have hu : decide ((i : Int) < ((gaps.map bD).length : Int)) = true := by
   have := (List.getElem?_eq_some_iff.1 hg).1
   simp only [List.length_map, decide_eq_true_eq]; omega
  have h4 : g.toNat % 4 < 4 := Nat.mod_lt _ (by decide)
  dsimp only
  generalize hc : g.toNat % 4 = c at h4
  match c, h4 with
  | 0, _ => exact bnIn0 gaps toks l t i hl hi hx hu g hg hc (by simp only [gapT, List.length_cons, List.length_nil]; omega) (by simp only [gapT, List.length_append, List.length_cons, List.length_nil]; omega)
  | 1, _ => exact bnIn1 gaps toks l t i hl hi hx hu g hg hc (by simp only [gapT, List.length_cons, List.length_nil]; omega) (by simp only [gapT, List.length_append, List.length_cons, List.length_nil]; omega)
  | 2, _ => exact bnIn2 gaps toks l t i hl hi hx hu g hg hc (by simp only [gapT, List.length_cons, List.length_nil]; omega) (by simp only [gapT, List.length_append, List.length_cons, List.length_nil]; omega)
  | 3, _ => exact bnIn3 gaps toks l t i hl hi hx hu g hg hc (by simp only [gapT, List.length_cons, List.length_nil]; omega) (by simp only [gapT, List.length_append, List.length_cons, List.length_nil]; omega)
end
abbrev tkL (ts : List (Nat × Tok)) (e : Nat) : List D := ts.map tokOf ++ [tokD 0 e [] 0]
theorem bnLoop (gaps : List UInt8) (full : List (Nat × Tok)) (e : Nat) (l : List Fn) (hf : full.length < 1000000) : ∀ (ts d : List (Nat × Tok)) (t tt : List UInt8), full = d ++ ts → t.length + (apart gaps d.length ts).length ≤ 1000000000 → tt = t ++ apart gaps d.length ts → RL 81 (lO 7 10) (bnL gaps (tkL full e) t d.length) (bnE l) (.exit 0) ([(5, pC 2058), (11, .d (.str tt))]) (bnE l)
 | [], d, t, tt, hd, hw, htt => by
  have hlen : (tkL full e).length = d.length + 1 := by rw [hd]; simp
  have hx : (tkL full e)[((d.length : Nat) : Int).toNat]? = some (tokD 0 e [] 0) := by
   rw [Int.toNat_natCast, hd]; simp
  have h1 := bnStep gaps (tkL full e) l t d.length (by rw [hlen]; rw [hd] at hf; simp at hf; omega) (by omega) hx (by simp) (by simp only [List.length_nil]; omega)
  subst htt
  intro rest X hP hN
  refine lw_step (h1 rest X hP hN) ?_
  have h2 := bnStop gaps (tkL full e) l (t ++ ([] ++ gapOf gaps d.length)) rest X hP hN
  rw [hlen] at h2
  exact lw_stop h2 (by simp)
 | x :: ts, d, t, tt, hd, hw, htt => by
  have hlen : (tkL full e).length = full.length + 1 := by simp
  have hi : d.length < full.length := by rw [hd]; simp
  have hx : (tkL full e)[((d.length : Nat) : Int).toNat]? = some (tokOf x) := by
   rw [Int.toNat_natCast, List.getElem?_append_left (by simpa using hi), hd]
   simp
  obtain ⟨A, kd, tx, n⟩ := x
  have hx : (tkL full e)[((d.length : Nat) : Int).toNat]? = some (tokD kd A tx n) := hx
  simp only [apart, List.length_append] at hw
  have h1 := bnStep gaps (tkL full e) l t d.length (by rw [hlen]; omega) (by omega) hx (by omega) (by omega)
  have h2 := bnLoop gaps full e l hf ts (d ++ [(A, kd, tx, n)]) (t ++ (tx ++ gapOf gaps d.length)) tt (by rw [hd]; simp) (by simp only [List.length_append, List.length_singleton]; omega) (by rw [htt]; simp only [apart, List.length_append, List.length_singleton, List.append_assoc])
  rw [List.length_append, List.length_singleton] at h2
  exact fun rest X hP hN => lw_step (h1 rest X hP hN) (h2 rest X hP hN)
noncomputable def bnLH {gaps : List UInt8} {toks : List D} {l : List Fn} {tt : List UInt8} (h : RL 81 (lO 7 10) (bnL gaps toks [] 0) (bnE l) (.exit 0) ([(5, pC 2058), (11, .d (.str tt))]) (bnE l)) : LHint Pg :=
 ⟨81, loopOf Pg 7 10, bnL gaps toks [] 0, fun _ => bnE l, .exit 0, [(5, pC 2058), (11, .d (.str tt))], fun _ => bnE l, fun rest X hP hN => (h rest X hP hN).aw⟩
theorem gap_lenB (gaps : List UInt8) (i : Nat) : (gapOf gaps i).length ≤ 12 := by
 rcases gap_cases gaps i with h | h | h | h <;> rw [h] <;> decide
theorem apart_boundB (gaps : List UInt8) (M : Nat) : ∀ (ts : List (Nat × Tok)) (i : Nat), (∀ x ∈ ts, x.2.2.1.length ≤ M) → (apart gaps i ts).length ≤ ts.length * (M + 12) + 12
 | [], i, _ => by
  show (gapOf gaps i).length ≤ _
  have := gap_lenB gaps i
  omega
 | x :: ts, i, h => by
  have ih := apart_boundB gaps M ts (i + 1) fun y hy => h y (by simp [hy])
  have h1 := h x (by simp)
  have h2 := gap_lenB gaps i
  simp only [apart, List.length_append, List.length_cons, Nat.succ_mul]
  omega
theorem laid_lenB (s : List UInt8) : ∀ (ts : List (Nat × Tok)) (at0 : Nat), Laid s at0 ts → ∀ x ∈ ts, x.2.2.1.length ≤ s.length
 | [], _, _, x, hx => by cases hx
 | y :: ts, at0, h, x, hx => by
  obtain ⟨_, h2, _, _, _, h6⟩ := h
  rcases List.mem_cons.1 hx with rfl | hx
  ·omega
  ·exact laid_lenB s ts _ h6 x hx
section
variable {s gaps : List UInt8} {q e : Int}
theorem blkA (hp : Pure Pg 9 [.str (s.take (min s.length 2000))] [.agg [.ro []], .int .i64 q, .int .i64 e]) (he : (e != 0) = true) : Pure Pg 7 [.str s, .ro (gaps.map bD)] [.bool true] :=
 qV { hint := qT 7 [(18, .call 11 _ _ awake02), (23, min2B s), (24, .sub s 0 (min s.length 2000) (by omega)), (27, .call 9 _ _ hp), (32, qB he)] } 1000
variable {l l2 : List Fn} {toks : List D} {tt : List UInt8} (hp : Pure Pg 9 [.str (s.take (min s.length 2000))] [.agg [.ro (fnL l)], .int .i64 0, .int .i64 0]) (hs : Pure Pg 18 [.str (s.take (min s.length 2000))] [.ro toks, .int .i64 0, .int .i64 0])
 (h : RL 81 (lO 7 10) (bnL gaps toks [] 0) (bnE l) (.exit 0) ([(5, pC 2058), (11, .d (.str tt))]) (bnE l))
include hp hs h
theorem blkB (hg : decide (20000 < (tt.length : Int)) = true) : Pure Pg 7 [.str s, .ro (gaps.map bD)] [.bool true] :=
 qV { loops := fun f q => if f = 7 then (if q = 10 then some (bnLH h) else none) else none, hint := qT 7 [(18, .call 11 _ _ awake02), (23, min2B s), (24, .sub s 0 (min s.length 2000) (by omega)), (27, .call 9 _ _ hp), (35, .call 18 _ _ hs), (67, qB hg)] } 1000
theorem blkC (hg : decide (20000 < (tt.length : Int)) = false) (hq : Pure Pg 9 [.str tt] [.agg [.ro (fnL l2)], .int .i64 0, .int .i64 0]) (hm : Pure Pg 12 [.agg [.ro (fnL l)], .agg [.ro (fnL l2)], .bool false] [.bool true]) : Pure Pg 7 [.str s, .ro (gaps.map bD)] [.bool true] :=
 qV { loops := fun f q => if f = 7 then (if q = 10 then some (bnLH h) else none) else none, hint := qT 7 [(18, .call 11 _ _ awake02), (23, min2B s), (24, .sub s 0 (min s.length 2000) (by omega)), (27, .call 9 _ _ hp), (35, .call 18 _ _ hs), (67, qB hg), (70, .call 9 _ _ hq), (79, .call 12 _ _ hm)] } 1000
end
theorem blanksPure (s gaps : List UInt8) : Pure Pg 7 [.str s, .ro (gaps.map bD)] [.bool true] := by
 have hp := parsePure (s.take (min s.length 2000))
 have hs := refScanC (s.take (min s.length 2000))
 have hlen : (s.take (min s.length 2000)).length ≤ 2000 := by rw [List.length_take]; omega
 unfold parseRes at hp
 unfold scanRes at hs
 rw [if_neg (by omega)] at hp hs
 cases he : scanF (s.take (min s.length 2000)) with
 | error e =>
  obtain ⟨p, k⟩ := e
  rw [he] at hp
  exact blkA hp (by simpa using scanB_err _ _ _ _ _ he)
 | ok ts =>
  rw [he] at hp hs
  have hl := scanF_len he
  have hok := toksOf_ok (ts := ts) (n := (s.take (min s.length 2000)).length) (by omega)
  have hno := prog_no hok (toksOf_pos _ _)
  cases ht : treeOf ts (s.take (min s.length 2000)).length with
  | out => exact absurd ht hno
  | bad p e s' =>
   unfold treeOf at ht
   dsimp only at hp
   unfold treeOf at hp
   rw [ht] at hp
   exact blkA hp (by simpa using bd_prog _ _ _ _ _ ht)
  | ok l s' =>
   dsimp only at hp hs
   rw [ht] at hp
   have hp : Pure Pg 9 [.str (s.take (min s.length 2000))] [.agg [.ro (fnL l)], .int .i64 0, .int .i64 0] := hp
   have hgood := scanB_good _ _ _ _ he
   have hw : (apart gaps 0 ts).length ≤ 1000000000 := by
    have h1 := apart_boundB gaps 2000 ts 0 fun x hx => Nat.le_trans (laid_lenB _ ts 0 (scanF_laid he) x hx) hlen
    have h2 : ts.length * (2000 + 12) ≤ 2001 * (2000 + 12) := Nat.mul_le_mul_right _ (by omega)
    omega
   have hloop := bnLoop gaps ts (s.take (min s.length 2000)).length l (by omega) ts [] [] (apart gaps 0 ts) rfl (by simpa using hw) (by simp)
   by_cases hg : 20000 < (apart gaps 0 ts).length
   ·exact blkB hp hs hloop (by simp only [decide_eq_true_eq]; omega)
   ·obtain ⟨ts', h1, h2⟩ := scanF_apart (gaps := gaps) hgood
    have hq := parsePure (apart gaps 0 ts)
    unfold parseRes at hq
    rw [if_neg hg, h1] at hq
    dsimp only at hq
    have hlt : ts'.length = ts.length := by simpa using congrArg List.length h2
    have hf : fuel (toksOf ts' (apart gaps 0 ts).length) = fuel (toksOf ts (s.take (min s.length 2000)).length) := by simp only [fuel, toksOf, List.length_append, List.length_map, List.length_singleton, hlt]
    unfold treeOf at ht
    obtain ⟨l2, h3, h4⟩ := bq_prog (alike_toks h2 (s.take (min s.length 2000)).length (apart gaps 0 ts).length) _ l s' ht
    unfold treeOf at hq
    rw [hf, h3] at hq
    exact blkC hp hs hloop (by simp only [decide_eq_false_iff_not]; omega) hq (sameFn false l l2 (prog_small hok (toksOf_pos _ _) ht) h4.symm)
end Go.Avm
