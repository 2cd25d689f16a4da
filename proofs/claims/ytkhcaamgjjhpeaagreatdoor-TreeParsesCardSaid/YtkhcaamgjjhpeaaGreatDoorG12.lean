/-
  The document's scanner: its rounds.
-/
import Derived.Test.YtkhcaamgjjhpeaaGreatDoorG11
import Derived.Test.YtkhcaamgjjhpeaaGreatDoorG07
import Derived.Test.YtkhcaamgjjhpeaaGreatDoorG10
import Derived.Test.YtkhcaamgjjhpeaaGreatDoorRows
import Derived.Laws.StandIn
import Derived.LaidMore
import Derived.LaidSub
import Derived.Lay
import Derived.MakeChecks
import Derived.ChangeMaps5
import Derived.Lib.LaidTab
import Derived.Stop.LaidErr
import Derived.ChangeSlices
import Derived.OpenShut
import Derived.Deep.Slices
set_option linter.unusedSectionVars false
namespace Go.Avm
open Go.Proofs
def iE (s : List UInt8) (a v : Nat) (l : List D) (k : Int) (to : Nat) : List (Nat × AV) := [(0, .d (.str s)), (5, .vec 1 v 4 l), (6, dN a), (7, dN to), (23, dI k)]
def rfE (s : List UInt8) (a v : Nat) (l : List D) : List (Nat × AV) := [(0, .d (.str s)), (5, .vec 1 v 4 l), (6, dN a)]
def rfHp (v x : Nat) : List (Nat × Ent) := [(1, ⟨v, none⟩), (2000000, ⟨x, none⟩)]
def toN (p : UInt8 → Bool) (s : List UInt8) (a : Nat) : Nat := a + 1 + runN p (s.drop (a + 1))
section
variable (s : List UInt8) (a v : Nat) (l : List D) (k : Int) (to : Nat)
theorem in11Step (b : UInt8) (hi : to < s.length) (hb : s[((to : Nat) : Int).toNat]? = some b) (hlen : s.length ≤ 100000) (hp : notNl b = true) (rest : Heap) (X : Fix) (hP : X.P = Pg) (hN : X.N = 183) :
    AW X (lO 18 11) ⟨envOf (iE s a v l k to), ovl [] rest⟩ fun e' S' => e' = .normal ∧ Weak X S' ⟨envOf (iE s a v l k (to + 1)), ovl [] rest⟩ :=
 seg okP named { hint := fun f q => if f = 18 then (if q = 32 then some (qL hi) else if q = 36 then some (.sidx s (to : Int) b (by omega) hb) else if q = 37 then some (qB hp) else if q = 40 then some (hSucc Pg to (by omega)) else none) else none } 1000 18 900000 183 (by kernel_rfl) X hP hN
theorem in11Stop (b : UInt8) (hi : to < s.length) (hb : s[((to : Nat) : Int).toNat]? = some b) (hlen : s.length ≤ 100000) (hp : notNl b = false) (rest : Heap) (X : Fix) (hP : X.P = Pg) (hN : X.N = 183) :
    AW X (lO 18 11) ⟨envOf (iE s a v l k to), ovl [] rest⟩ fun e' S' => e' = .exit 3 ∧ Weak X S' ⟨envOf (iE s a v l k to), ovl [] rest⟩ :=
 seg okP named { hint := fun f q => if f = 18 then (if q = 32 then some (qL hi) else if q = 36 then some (.sidx s (to : Int) b (by omega) hb) else if q = 37 then some (qB hp) else if q = 40 then some (hSucc Pg to (by omega)) else none) else none } 1000 18 900000 183 (by kernel_rfl) X hP hN
theorem in11End (rest : Heap) (X : Fix) (hP : X.P = Pg) (hN : X.N = 183) :
    AW X (lO 18 11) ⟨envOf (iE s a v l k s.length), ovl [] rest⟩ fun e' S' => e' = .exit 3 ∧ Weak X S' ⟨envOf (iE s a v l k s.length), ovl [] rest⟩ :=
 seg okP named { hint := fun f q => if f = 18 then (if q = 32 then some (qG s.length) else none) else none } 1000 18 900000 183 (by kernel_rfl) X hP hN
theorem in11Loop (ha : a < s.length) (hlen : s.length ≤ 100000) (rest : Heap) (X : Fix) (hP : X.P = Pg) (hN : X.N = 183) :
    AW X (.loop (lO 18 11)) ⟨envOf (iE s a v l k (a + 1)), ovl [] rest⟩ fun e' S' => e' = .exit 3 ∧ S' = ⟨envOf (iE s a v l k (toN notNl s a)), ovl [] rest⟩ := by
 obtain ⟨h1, h2, h3⟩ := runN_spec notNl s (a + 1) (by omega)
 exact loop_of_segs (P := Pg) (N := 183) (c := loopOf Pg 18 11) (iE s a v l k) (fun _ _ => []) (fun i => a + 1 ≤ i ∧ i ≤ toN notNl s a) (fun i => toN notNl s a - i) (.exit 3) (iE s a v l k (toN notNl s a)) (fun _ => []) (a + 1) ⟨Nat.le_refl _, Nat.le_add_right _ _⟩ (by simp)
  (fun rest i hi => by
   have h1' : toN notNl s a ≤ s.length := h1
   rcases Nat.lt_or_ge i (toN notNl s a) with h | h
   ·have hb := List.getElem?_eq_getElem (l := s) (i := i) (by omega)
    exact .inl ⟨i + 1, ⟨by omega, h⟩, by omega, fun X hP hN => in11Step s a v l k i s[i] (by omega) (by rw [Int.toNat_natCast]; exact hb) hlen (h2 i _ hi.1 h hb) rest X hP hN⟩
   ·have : i = toN notNl s a := by omega
    subst this
    rcases Nat.lt_or_ge (toN notNl s a) s.length with hl | hl
    ·have hb := List.getElem?_eq_getElem hl
     exact .inr fun X hP hN => in11Stop s a v l k _ s[toN notNl s a] hl (by rw [Int.toNat_natCast]; exact hb) hlen (h3 _ hb) rest X hP hN
    ·have : toN notNl s a = s.length := by omega
     rw [this]
     exact .inr fun X hP hN => in11End s a v l k rest X hP hN) rest X hP hN
noncomputable def in11LH (ha : a < s.length) (hlen : s.length ≤ 100000) : LHint Pg := ⟨183, loopOf Pg 18 11, iE s a v l k (a + 1), fun _ => [], .exit 3, iE s a v l k (toN notNl s a), fun _ => [], in11Loop s a v l k ha hlen⟩
noncomputable def in14Pr (b : UInt8) (hi : to < s.length) (hb : s[((to : Nat) : Int).toNat]? = some b) (hlen : s.length ≤ 100000) (u w : Bool) (hu : isSm b = u) (hw : isDig b = w) : Par Pg :=
 { hint := fun f q => if f = 18 then (if q = 46 then some (qL hi) else if q = 50 then some (.sidx s (to : Int) b (by omega) hb) else if q = 51 then some (.call 27 _ _ (classC b)) else if q = 52 then some (hB Pg (classI b == 2) u (by rw [(class_spec b).2.1]; exact hu))
     else if q = 56 then some (.sidx s (to : Int) b (by omega) hb) else if q = 57 then some (.call 27 _ _ (classC b)) else if q = 58 then some (hB Pg (classI b == 3) w (by rw [(class_spec b).2.2.1]; exact hw)) else if q = 62 then some (hSucc Pg to (by omega)) else none) else none }
theorem in14Step (b : UInt8) (hi : to < s.length) (hb : s[((to : Nat) : Int).toNat]? = some b) (hlen : s.length ≤ 100000) (hp : isNm b = true) (rest : Heap) (X : Fix) (hP : X.P = Pg) (hN : X.N = 183) :
    AW X (lO 18 14) ⟨envOf (iE s a v l k to), ovl [] rest⟩ fun e' S' => e' = .normal ∧ Weak X S' ⟨envOf (iE s a v l k (to + 1)), ovl [] rest⟩ := by
 cases hu : isSm b with
 | true => exact seg okP named (in14Pr s to b hi hb hlen true _ hu rfl) 1000 18 900000 183 (by kernel_rfl) X hP hN
 | false =>
  have hw : isDig b = true := by simpa [isNm, hu] using hp
  exact seg okP named (in14Pr s to b hi hb hlen false true hu hw) 1000 18 900000 183 (by kernel_rfl) X hP hN
theorem in14Stop (b : UInt8) (hi : to < s.length) (hb : s[((to : Nat) : Int).toNat]? = some b) (hlen : s.length ≤ 100000) (hp : isNm b = false) (rest : Heap) (X : Fix) (hP : X.P = Pg) (hN : X.N = 183) :
    AW X (lO 18 14) ⟨envOf (iE s a v l k to), ovl [] rest⟩ fun e' S' => e' = .exit 5 ∧ Weak X S' ⟨envOf (iE s a v l k to), ovl [] rest⟩ := by
 simp only [isNm, Bool.or_eq_false_iff] at hp
 exact seg okP named (in14Pr s to b hi hb hlen false false hp.1 hp.2) 1000 18 900000 183 (by kernel_rfl) X hP hN
theorem in14End (rest : Heap) (X : Fix) (hP : X.P = Pg) (hN : X.N = 183) :
    AW X (lO 18 14) ⟨envOf (iE s a v l k s.length), ovl [] rest⟩ fun e' S' => e' = .exit 5 ∧ Weak X S' ⟨envOf (iE s a v l k s.length), ovl [] rest⟩ :=
 seg okP named { hint := fun f q => if f = 18 then (if q = 46 then some (qG s.length) else none) else none } 1000 18 900000 183 (by kernel_rfl) X hP hN
theorem in14Loop (ha : a < s.length) (hlen : s.length ≤ 100000) (rest : Heap) (X : Fix) (hP : X.P = Pg) (hN : X.N = 183) :
    AW X (.loop (lO 18 14)) ⟨envOf (iE s a v l k (a + 1)), ovl [] rest⟩ fun e' S' => e' = .exit 5 ∧ S' = ⟨envOf (iE s a v l k (toN isNm s a)), ovl [] rest⟩ := by
 obtain ⟨h1, h2, h3⟩ := runN_spec isNm s (a + 1) (by omega)
 exact loop_of_segs (P := Pg) (N := 183) (c := loopOf Pg 18 14) (iE s a v l k) (fun _ _ => []) (fun i => a + 1 ≤ i ∧ i ≤ toN isNm s a) (fun i => toN isNm s a - i) (.exit 5) (iE s a v l k (toN isNm s a)) (fun _ => []) (a + 1) ⟨Nat.le_refl _, Nat.le_add_right _ _⟩ (by simp)
  (fun rest i hi => by
   have h1' : toN isNm s a ≤ s.length := h1
   rcases Nat.lt_or_ge i (toN isNm s a) with h | h
   ·have hb := List.getElem?_eq_getElem (l := s) (i := i) (by omega)
    exact .inl ⟨i + 1, ⟨by omega, h⟩, by omega, fun X hP hN => in14Step s a v l k i s[i] (by omega) (by rw [Int.toNat_natCast]; exact hb) hlen (h2 i _ hi.1 h hb) rest X hP hN⟩
   ·have : i = toN isNm s a := by omega
    subst this
    rcases Nat.lt_or_ge (toN isNm s a) s.length with hl | hl
    ·have hb := List.getElem?_eq_getElem hl
     exact .inr fun X hP hN => in14Stop s a v l k _ s[toN isNm s a] hl (by rw [Int.toNat_natCast]; exact hb) hlen (h3 _ hb) rest X hP hN
    ·have : toN isNm s a = s.length := by omega
     rw [this]
     exact .inr fun X hP hN => in14End s a v l k rest X hP hN) rest X hP hN
noncomputable def in14LH (ha : a < s.length) (hlen : s.length ≤ 100000) : LHint Pg := ⟨183, loopOf Pg 18 14, iE s a v l k (a + 1), fun _ => [], .exit 5, iE s a v l k (toN isNm s a), fun _ => [], in14Loop s a v l k ha hlen⟩
theorem in23Step (b : UInt8) (hi : to < s.length) (hb : s[((to : Nat) : Int).toNat]? = some b) (hlen : s.length ≤ 100000) (hp : isDig b = true) (rest : Heap) (X : Fix) (hP : X.P = Pg) (hN : X.N = 183) :
    AW X (lO 18 23) ⟨envOf (iE s a v l k to), ovl [] rest⟩ fun e' S' => e' = .normal ∧ Weak X S' ⟨envOf (iE s a v l k (to + 1)), ovl [] rest⟩ :=
 seg okP named { hint := fun f q => if f = 18 then (if q = 88 then some (qL hi) else if q = 92 then some (.sidx s (to : Int) b (by omega) hb) else if q = 93 then some (.call 27 _ _ (classC b)) else if q = 94 then some (hB Pg (classI b == 3) true (by rw [(class_spec b).2.2.1]; exact hp)) else if q = 97 then some (hSucc Pg to (by omega)) else none) else none } 1000 18 900000 183 (by kernel_rfl) X hP hN
theorem in23Stop (b : UInt8) (hi : to < s.length) (hb : s[((to : Nat) : Int).toNat]? = some b) (hlen : s.length ≤ 100000) (hp : isDig b = false) (rest : Heap) (X : Fix) (hP : X.P = Pg) (hN : X.N = 183) :
    AW X (lO 18 23) ⟨envOf (iE s a v l k to), ovl [] rest⟩ fun e' S' => e' = .exit 7 ∧ Weak X S' ⟨envOf (iE s a v l k to), ovl [] rest⟩ :=
 seg okP named { hint := fun f q => if f = 18 then (if q = 88 then some (qL hi) else if q = 92 then some (.sidx s (to : Int) b (by omega) hb) else if q = 93 then some (.call 27 _ _ (classC b)) else if q = 94 then some (hB Pg (classI b == 3) false (by rw [(class_spec b).2.2.1]; exact hp)) else if q = 97 then some (hSucc Pg to (by omega)) else none) else none } 1000 18 900000 183 (by kernel_rfl) X hP hN
theorem in23End (rest : Heap) (X : Fix) (hP : X.P = Pg) (hN : X.N = 183) :
    AW X (lO 18 23) ⟨envOf (iE s a v l k s.length), ovl [] rest⟩ fun e' S' => e' = .exit 7 ∧ Weak X S' ⟨envOf (iE s a v l k s.length), ovl [] rest⟩ :=
 seg okP named { hint := fun f q => if f = 18 then (if q = 88 then some (qG s.length) else none) else none } 1000 18 900000 183 (by kernel_rfl) X hP hN
theorem in23Loop (ha : a < s.length) (hlen : s.length ≤ 100000) (rest : Heap) (X : Fix) (hP : X.P = Pg) (hN : X.N = 183) :
    AW X (.loop (lO 18 23)) ⟨envOf (iE s a v l k (a + 1)), ovl [] rest⟩ fun e' S' => e' = .exit 7 ∧ S' = ⟨envOf (iE s a v l k (toN isDig s a)), ovl [] rest⟩ := by
 obtain ⟨h1, h2, h3⟩ := runN_spec isDig s (a + 1) (by omega)
 exact loop_of_segs (P := Pg) (N := 183) (c := loopOf Pg 18 23) (iE s a v l k) (fun _ _ => []) (fun i => a + 1 ≤ i ∧ i ≤ toN isDig s a) (fun i => toN isDig s a - i) (.exit 7) (iE s a v l k (toN isDig s a)) (fun _ => []) (a + 1) ⟨Nat.le_refl _, Nat.le_add_right _ _⟩ (by simp)
  (fun rest i hi => by
   have h1' : toN isDig s a ≤ s.length := h1
   rcases Nat.lt_or_ge i (toN isDig s a) with h | h
   ·have hb := List.getElem?_eq_getElem (l := s) (i := i) (by omega)
    exact .inl ⟨i + 1, ⟨by omega, h⟩, by omega, fun X hP hN => in23Step s a v l k i s[i] (by omega) (by rw [Int.toNat_natCast]; exact hb) hlen (h2 i _ hi.1 h hb) rest X hP hN⟩
   ·have : i = toN isDig s a := by omega
    subst this
    rcases Nat.lt_or_ge (toN isDig s a) s.length with hl | hl
    ·have hb := List.getElem?_eq_getElem hl
     exact .inr fun X hP hN => in23Stop s a v l k _ s[toN isDig s a] hl (by rw [Int.toNat_natCast]; exact hb) hlen (h3 _ hb) rest X hP hN
    ·have : toN isDig s a = s.length := by omega
     rw [this]
     exact .inr fun X hP hN => in23End s a v l k rest X hP hN) rest X hP hN
noncomputable def in23LH (ha : a < s.length) (hlen : s.length ≤ 100000) : LHint Pg := ⟨183, loopOf Pg 18 23, iE s a v l k (a + 1), fun _ => [], .exit 7, iE s a v l k (toN isDig s a), fun _ => [], in23Loop s a v l k ha hlen⟩
end
theorem toN_le (p : UInt8 → Bool) (s : List UInt8) (a : Nat) (ha : a < s.length) : a + 1 ≤ toN p s a ∧ toN p s a ≤ s.length := ⟨Nat.le_add_right _ _, (runN_spec p s (a + 1) (by omega)).1⟩
section
variable (s : List UInt8) (a v x : Nat) (l : List D)
noncomputable def rfPr (b : UInt8) (ha : a < s.length) (hb : s[((a : Nat) : Int).toNat]? = some b) (hlen : s.length ≤ 100000) (k : Int) (hk : classI b = k) (more : Nat → Option (Hint Pg)) (H : Nat → Option (LHint Pg)) : Par Pg :=
 { hint := fun f q => if f = 18 then (if q = 17 then some (qL ha) else if q = 19 then some (hSucc Pg a (by omega)) else if q = 22 then some (.sidx s (a : Int) b (by omega) hb) else if q = 23 then some (.call 27 [bD b] [.int .i64 k] (hk ▸ classC b)) else more q) else none
   loops := fun f r => if f = 18 then H r else none }
section
variable (b : UInt8) (ha : a < s.length) (hb : s[((a : Nat) : Int).toNat]? = some b) (hlen : s.length ≤ 100000)
include b ha hb hlen
theorem rfBlank (hk : classI b = 1) (rest : Heap) (X : Fix) (hP : X.P = Pg) (hN : X.N = 183) :
    AW X (lO 18 5) ⟨envOf (rfE s a v l), ovl (rfHp v x) rest⟩ fun e' S' => e' = .normal ∧ Weak X S' ⟨envOf (rfE s (a + 1) v l), ovl (rfHp v x) rest⟩ :=
 seg okP named (rfPr s a b ha hb hlen 1 hk (fun _ => none) (fun _ => none)) 1000 18 900000 183 (by kernel_rfl) X hP hN
theorem rfRem (hk : classI b = 5) (rest : Heap) (X : Fix) (hP : X.P = Pg) (hN : X.N = 183) :
    AW X (lO 18 5) ⟨envOf (rfE s a v l), ovl (rfHp v x) rest⟩ fun e' S' => e' = .normal ∧ Weak X S' ⟨envOf (rfE s (toN notNl s a) v l), ovl (rfHp v x) rest⟩ :=
 seg okP named (rfPr s a b ha hb hlen 5 hk (fun _ => none) (fun r => if r = 11 then some (in11LH s a v l 5 ha hlen) else none)) 1000 18 900000 183 (by kernel_rfl) X hP hN
theorem rfZero (hk : classI b = 0) (rest : Heap) (X : Fix) (hP : X.P = Pg) (hN : X.N = 183) :
    AW X (lO 18 5) ⟨envOf (rfE s a v l), ovl (rfHp v x) rest⟩ fun e' S' => e' = .ret ∧ Weak X S' ⟨envOf [(2, .nils), (3, dN a), (4, dI 4)], ovl (rfHp v x) rest⟩ :=
 seg okP named (rfPr s a b ha hb hlen 0 hk (fun _ => none) (fun _ => none)) 1000 18 900000 183 (by kernel_rfl) X hP hN
theorem rfGreat (hk : classI b = 6) (rest : Heap) (X : Fix) (hP : X.P = Pg) (hN : X.N = 183) :
    AW X (lO 18 5) ⟨envOf (rfE s a v l), ovl (rfHp v x) rest⟩ fun e' S' => e' = .ret ∧ Weak X S' ⟨envOf [(2, .nils), (3, dN a), (4, dI 4)], ovl (rfHp v x) rest⟩ :=
 seg okP named (rfPr s a b ha hb hlen 6 hk (fun _ => none) (fun _ => none)) 1000 18 900000 183 (by kernel_rfl) X hP hN
end
noncomputable def nameM (hlen : s.length ≤ 100000) (ha : a < s.length) (w : Bool) (hw : Pure Pg 28 [.str (sub s a (toN isNm s a))] [.bool w]) (g : Bool) (hg : decide (12 < ((toN isNm s a - a : Nat) : Int)) = g) (hl : l.length + 1 ≤ 549755813888) (q : Nat) : Option (Hint Pg) :=
 if q = 66 then some (.sub s a (toN isNm s a) ⟨by have := toN_le isNm s a ha; omega, (toN_le isNm s a ha).2⟩) else if q = 67 then some (.call 28 _ _ hw) else if q = 70 then some (hU Pg .i64 (IntKind.i64.wrap (((toN isNm s a : Nat) : Int) - (a : Int))) ((toN isNm s a - a : Nat) : Int) (by have := toN_le isNm s a ha; rw [IntWalk.i64_in _ (by omega)]; omega))
 else if q = 71 then some (hB Pg _ g hg) else if q = 79 then some (.sub s a (toN isNm s a) ⟨by have := toN_le isNm s a ha; omega, (toN_le isNm s a ha).2⟩) else if q = 82 then some (.app l 1 hl) else none
section
variable (b : UInt8) (ha : a < s.length) (hb : s[((a : Nat) : Int).toNat]? = some b) (hlen : s.length ≤ 100000) (hk : classI b = 2)
include b ha hb hlen hk
theorem rfWord (hw : Pure Pg 28 [.str (sub s a (toN isNm s a))] [.bool true]) (hl : l.length + 1 ≤ 549755813888) (rest : Heap) (X : Fix) (hP : X.P = Pg) (hN : X.N = 183) :
    AW X (lO 18 5) ⟨envOf (rfE s a v l), ovl (rfHp v x) rest⟩ fun e' S' => e' = .normal ∧ Weak X S' ⟨envOf (rfE s (toN isNm s a) (v + 1) (l ++ [tokD 2 a (sub s a (toN isNm s a)) 0])), ovl (rfHp (v + 1) (x + 1)) rest⟩ :=
 seg okP named (rfPr s a b ha hb hlen 2 hk (nameM s a l hlen ha true hw _ rfl hl) (fun r => if r = 14 then some (in14LH s a v l 2 ha hlen) else none)) 1000 18 (2000000 - 81 - 183 * 30) 183 (by kernel_rfl) X hP hN
theorem rfName (hw : Pure Pg 28 [.str (sub s a (toN isNm s a))] [.bool false]) (hg : decide (12 < ((toN isNm s a - a : Nat) : Int)) = false) (hl : l.length + 1 ≤ 549755813888) (rest : Heap) (X : Fix) (hP : X.P = Pg) (hN : X.N = 183) :
    AW X (lO 18 5) ⟨envOf (rfE s a v l), ovl (rfHp v x) rest⟩ fun e' S' => e' = .normal ∧ Weak X S' ⟨envOf (rfE s (toN isNm s a) (v + 1) (l ++ [tokD 1 a (sub s a (toN isNm s a)) 0])), ovl (rfHp (v + 1) (x + 1)) rest⟩ :=
 seg okP named (rfPr s a b ha hb hlen 2 hk (nameM s a l hlen ha false hw false hg hl) (fun r => if r = 14 then some (in14LH s a v l 2 ha hlen) else none)) 1000 18 (2000000 - 81 - 183 * 33) 183 (by kernel_rfl) X hP hN
theorem rfLong (hw : Pure Pg 28 [.str (sub s a (toN isNm s a))] [.bool false]) (hg : decide (12 < ((toN isNm s a - a : Nat) : Int)) = true) (hl : l.length + 1 ≤ 549755813888) (rest : Heap) (X : Fix) (hP : X.P = Pg) (hN : X.N = 183) :
    AW X (lO 18 5) ⟨envOf (rfE s a v l), ovl (rfHp v x) rest⟩ fun e' S' => e' = .ret ∧ Weak X S' ⟨envOf [(2, .nils), (3, dN a), (4, dI 2)], ovl (rfHp v x) rest⟩ :=
 seg okP named (rfPr s a b ha hb hlen 2 hk (nameM s a l hlen ha false hw true hg hl) (fun r => if r = 14 then some (in14LH s a v l 2 ha hlen) else none)) 1000 18 900000 183 (by kernel_rfl) X hP hN
end
noncomputable def numM (b : UInt8) (hb : s[((a : Nat) : Int).toNat]? = some b) (hlen : s.length ≤ 100000) (ha : a < s.length) (n : Int) (ok : Bool) (hv : Pure Pg 29 [.str (sub s a (toN isDig s a))] [.int .i64 n, .bool ok]) (y z xx u g : Bool) (hy : ((b.toNat : Int) == 48) = y) (hz : decide (((a + 1 : Nat) : Int) < ((toN isDig s a : Nat) : Int)) = z)
    (hx : decide (((toN isDig s a : Nat) : Int) < (s.length : Int)) = xx) (c : UInt8) (hc : xx = true → s[((toN isDig s a : Nat) : Int).toNat]? = some c) (hu : isSm c = u) (hg : great c = g) (hl : l.length + 1 ≤ 549755813888) (q : Nat) : Option (Hint Pg) :=
 if q = 102 then some (.sub s a (toN isDig s a) ⟨by have := toN_le isDig s a ha; omega, (toN_le isDig s a ha).2⟩) else if q = 103 then some (.call 29 _ _ hv) else if q = 111 then some (.sidx s (a : Int) b (by omega) hb) else if q = 112 then some (hB Pg _ y hy) else if q = 116 then some (hSucc Pg a (by omega))
 else if q = 117 then some (hB Pg _ z hz) else if q = 123 then some (hB Pg _ xx hx) else if q = 127 then (if h : xx = true then some (.sidx s ((toN isDig s a : Nat) : Int) c (by omega) (hc h)) else none) else if q = 128 then some (.call 27 _ _ (classC c)) else if q = 129 then some (hB Pg (classI c == 2) u (by rw [(class_spec c).2.1]; exact hu))
 else if q = 133 then (if h : xx = true then some (.sidx s ((toN isDig s a : Nat) : Int) c (by omega) (hc h)) else none) else if q = 134 then some (.call 27 _ _ (classC c)) else if q = 135 then some (hB Pg (classI c == 6) g (by rw [(class_spec c).2.2.2.2.1]; exact hg))
 else if q = 145 then some (.sub s a (toN isDig s a) ⟨by have := toN_le isDig s a ha; omega, (toN_le isDig s a ha).2⟩) else if q = 149 then some (.app l 1 hl) else none
def refBad (y z xx u g : Bool) : Bool := (y && z) || (xx && (u || g))
section
variable (b : UInt8) (ha : a < s.length) (hb : s[((a : Nat) : Int).toNat]? = some b) (hlen : s.length ≤ 100000) (hk : classI b = 3) (n : Int)
include b ha hb hlen hk n
theorem rfGreatN (hv : Pure Pg 29 [.str (sub s a (toN isDig s a))] [.int .i64 n, .bool false]) (y z xx u g : Bool) (hy : ((b.toNat : Int) == 48) = y) (hz : decide (((a + 1 : Nat) : Int) < ((toN isDig s a : Nat) : Int)) = z) (hx : decide (((toN isDig s a : Nat) : Int) < (s.length : Int)) = xx) (c : UInt8) (hc : xx = true → s[((toN isDig s a : Nat) : Int).toNat]? = some c) (hu : isSm c = u) (hg : great c = g) (hl : l.length + 1 ≤ 549755813888) (rest : Heap) (X : Fix) (hP : X.P = Pg) (hN : X.N = 183) :
    AW X (lO 18 5) ⟨envOf (rfE s a v l), ovl (rfHp v x) rest⟩ fun e' S' => e' = .ret ∧ Weak X S' ⟨envOf [(2, .nils), (3, dN a), (4, dI 2)], ovl (rfHp v x) rest⟩ :=
 seg okP named (rfPr s a b ha hb hlen 3 hk (numM s a l b hb hlen ha n false hv y z xx u g hy hz hx c hc hu hg hl) (fun r => if r = 23 then some (in23LH s a v l 3 ha hlen) else none)) 1000 18 900000 183 (by kernel_rfl) X hP hN
theorem rfBadN (hv : Pure Pg 29 [.str (sub s a (toN isDig s a))] [.int .i64 n, .bool true]) (y z xx u g : Bool) (hy : ((b.toNat : Int) == 48) = y) (hz : decide (((a + 1 : Nat) : Int) < ((toN isDig s a : Nat) : Int)) = z) (hx : decide (((toN isDig s a : Nat) : Int) < (s.length : Int)) = xx) (c : UInt8) (hc : xx = true → s[((toN isDig s a : Nat) : Int).toNat]? = some c) (hu : isSm c = u) (hg : great c = g) (hl : l.length + 1 ≤ 549755813888) (hbad : refBad y z xx u g = true) (rest : Heap) (X : Fix) (hP : X.P = Pg) (hN : X.N = 183) :
    AW X (lO 18 5) ⟨envOf (rfE s a v l), ovl (rfHp v x) rest⟩ fun e' S' => e' = .ret ∧ Weak X S' ⟨envOf [(2, .nils), (3, dN a), (4, dI 4)], ovl (rfHp v x) rest⟩ := by
 cases y <;> cases z <;> cases xx <;> cases u <;> cases g <;> first | exact absurd hbad (by decide) | exact seg okP named (rfPr s a b ha hb hlen 3 hk (numM s a l b hb hlen ha n true hv _ _ _ _ _ hy hz hx c hc hu hg hl) (fun r => if r = 23 then some (in23LH s a v l 3 ha hlen) else none)) 1000 18 900000 183 (by kernel_rfl) X hP hN
theorem rfNum (hv : Pure Pg 29 [.str (sub s a (toN isDig s a))] [.int .i64 n, .bool true]) (y z xx u g : Bool) (hy : ((b.toNat : Int) == 48) = y) (hz : decide (((a + 1 : Nat) : Int) < ((toN isDig s a : Nat) : Int)) = z) (hx : decide (((toN isDig s a : Nat) : Int) < (s.length : Int)) = xx) (c : UInt8) (hc : xx = true → s[((toN isDig s a : Nat) : Int).toNat]? = some c) (hu : isSm c = u) (hg : great c = g) (hl : l.length + 1 ≤ 549755813888) (hbad : refBad y z xx u g = false) (rest : Heap) (X : Fix) (hP : X.P = Pg) (hN : X.N = 183) :
    AW X (lO 18 5) ⟨envOf (rfE s a v l), ovl (rfHp v x) rest⟩ fun e' S' => e' = .normal ∧ Weak X S' ⟨envOf (rfE s (toN isDig s a) (v + 1) (l ++ [tokD 3 a (sub s a (toN isDig s a)) n])), ovl (rfHp (v + 1) (x + 1)) rest⟩ := by
 cases y with
 | false => cases xx with
  | false => exact seg okP named (rfPr s a b ha hb hlen 3 hk (numM s a l b hb hlen ha n true hv false z false u g hy hz hx c hc hu hg hl) (fun r => if r = 23 then some (in23LH s a v l 3 ha hlen) else none)) 1000 18 (2000000 - 148 - 183 * 51) 183 (by kernel_rfl) X hP hN
  | true =>
   cases u with
   | true => exact absurd hbad (by cases z <;> cases g <;> decide)
   | false => cases g with
    | true => exact absurd hbad (by cases z <;> decide)
    | false => exact seg okP named (rfPr s a b ha hb hlen 3 hk (numM s a l b hb hlen ha n true hv false z true false false hy hz hx c hc hu hg hl) (fun r => if r = 23 then some (in23LH s a v l 3 ha hlen) else none)) 1000 18 (2000000 - 148 - 183 * 61) 183 (by kernel_rfl) X hP hN
 | true => cases z with
  | true => exact absurd hbad (by cases xx <;> cases u <;> cases g <;> decide)
  | false => cases xx with
   | false => exact seg okP named (rfPr s a b ha hb hlen 3 hk (numM s a l b hb hlen ha n true hv true false false u g hy hz hx c hc hu hg hl) (fun r => if r = 23 then some (in23LH s a v l 3 ha hlen) else none)) 1000 18 (2000000 - 148 - 183 * 55) 183 (by kernel_rfl) X hP hN
   | true =>
    cases u with
    | true => exact absurd hbad (by cases g <;> decide)
    | false => cases g with
     | true => exact absurd hbad (by decide)
     | false => exact seg okP named (rfPr s a b ha hb hlen 3 hk (numM s a l b hb hlen ha n true hv true false true false false hy hz hx c hc hu hg hl) (fun r => if r = 23 then some (in23LH s a v l 3 ha hlen) else none)) 1000 18 (2000000 - 148 - 183 * 65) 183 (by kernel_rfl) X hP hN
end
noncomputable def sgnM (b : UInt8) (hb : s[((a : Nat) : Int).toNat]? = some b) (hlen : s.length ≤ 100000) (ha : a < s.length) (xx : Bool) (hx : decide (((a + 1 : Nat) : Int) < (s.length : Int)) = xx) (c : UInt8) (hc : xx = true → s[((a + 1 : Nat) : Int).toNat]? = some c) (u : Bool) (hu : prs.contains [b, c] = u) (e : Nat) (he : a ≤ e ∧ e ≤ s.length) (hl : l.length + 1 ≤ 549755813888) (q : Nat) : Option (Hint Pg) :=
 if q = 155 then some (hB Pg _ xx hx) else if q = 159 then some (.sidx s (a : Int) b (by omega) hb) else if q = 162 then (if h : xx = true then some (.sidx s ((a + 1 : Nat) : Int) c (by omega) (hc h)) else none) else if q = 163 then some (.call 30 [bD b, bD c] [.bool u] (hu ▸ pairC b c))
 else if q = 166 then some (hSucc Pg (a + 1) (by omega)) else if q = 172 then some (.sub s a e he) else if q = 175 then some (.app l 1 hl) else none
section
variable (b : UInt8) (ha : a < s.length) (hb : s[((a : Nat) : Int).toNat]? = some b) (hlen : s.length ≤ 100000) (hk : classI b = 4)
include b ha hb hlen hk
theorem rfPair (hx : decide (((a + 1 : Nat) : Int) < (s.length : Int)) = true) (c : UInt8) (hc : s[((a + 1 : Nat) : Int).toNat]? = some c) (hu : prs.contains [b, c] = true) (he : a ≤ a + 1 + 1 ∧ a + 1 + 1 ≤ s.length) (hl : l.length + 1 ≤ 549755813888) (rest : Heap) (X : Fix) (hP : X.P = Pg) (hN : X.N = 183) :
    AW X (lO 18 5) ⟨envOf (rfE s a v l), ovl (rfHp v x) rest⟩ fun e' S' => e' = .normal ∧ Weak X S' ⟨envOf (rfE s (a + 1 + 1) (v + 1) (l ++ [tokD 4 a (sub s a (a + 1 + 1)) 0])), ovl (rfHp (v + 1) (x + 1)) rest⟩ :=
 seg okP named (rfPr s a b ha hb hlen 4 hk (sgnM s a l b hb hlen ha true hx c (fun _ => hc) true hu (a + 1 + 1) he hl) (fun _ => none)) 1000 18 (2000000 - 174 - 183 * 42) 183 (by kernel_rfl) X hP hN
theorem rfOne (hx : decide (((a + 1 : Nat) : Int) < (s.length : Int)) = true) (c : UInt8) (hc : s[((a + 1 : Nat) : Int).toNat]? = some c) (hu : prs.contains [b, c] = false) (he : a ≤ a + 1 ∧ a + 1 ≤ s.length) (hl : l.length + 1 ≤ 549755813888) (rest : Heap) (X : Fix) (hP : X.P = Pg) (hN : X.N = 183) :
    AW X (lO 18 5) ⟨envOf (rfE s a v l), ovl (rfHp v x) rest⟩ fun e' S' => e' = .normal ∧ Weak X S' ⟨envOf (rfE s (a + 1) (v + 1) (l ++ [tokD 4 a (sub s a (a + 1)) 0])), ovl (rfHp (v + 1) (x + 1)) rest⟩ :=
 seg okP named (rfPr s a b ha hb hlen 4 hk (sgnM s a l b hb hlen ha true hx c (fun _ => hc) false hu (a + 1) he hl) (fun _ => none)) 1000 18 (2000000 - 174 - 183 * 39) 183 (by kernel_rfl) X hP hN
theorem rfLast (hx : decide (((a + 1 : Nat) : Int) < (s.length : Int)) = false) (he : a ≤ a + 1 ∧ a + 1 ≤ s.length) (hl : l.length + 1 ≤ 549755813888) (rest : Heap) (X : Fix) (hP : X.P = Pg) (hN : X.N = 183) :
    AW X (lO 18 5) ⟨envOf (rfE s a v l), ovl (rfHp v x) rest⟩ fun e' S' => e' = .normal ∧ Weak X S' ⟨envOf (rfE s (a + 1) (v + 1) (l ++ [tokD 4 a (sub s a (a + 1)) 0])), ovl (rfHp (v + 1) (x + 1)) rest⟩ :=
 seg okP named (rfPr s a b ha hb hlen 4 hk (sgnM s a l b hb hlen ha false hx 0 (fun h => by cases h) _ rfl (a + 1) he hl) (fun _ => none)) 1000 18 (2000000 - 174 - 183 * 33) 183 (by kernel_rfl) X hP hN
end
theorem rfStop (rest : Heap) (X : Fix) (hP : X.P = Pg) (hN : X.N = 183) :
    AW X (lO 18 5) ⟨envOf (rfE s s.length v l), ovl (rfHp v x) rest⟩ fun e' S' => e' = .exit 0 ∧ Weak X S' ⟨envOf (rfE s s.length v l), ovl (rfHp v x) rest⟩ :=
 seg okP named { hint := fun f q => if f = 18 then (if q = 17 then some (qG s.length) else none) else none } 1000 18 900000 183 (by kernel_rfl) X hP hN
end
end Go.Avm
namespace Go.Avm
open Go.Proofs
def ends (c : UInt8) : Prop := isNm c = false ∧ great c = false ∧ ∀ b, prs.contains [b, c] = false
end Go.Avm
namespace Go.Avm
open Go.Proofs
def gapT (c : Nat) : List UInt8 := match c with
 | 0 => [32]
 | 1 => [10]
 | 2 => [35, 32, 125, 10]
 | _ => [9, 9]
def gapOf (gaps : List UInt8) (i : Nat) : List UInt8 := match gaps[i]? with
 | some g => gapT (g.toNat % 4)
 | none => gapT 0
def apart (gaps : List UInt8) : Nat → List (Nat × Tok) → List UInt8
 | i, [] => gapOf gaps i
 | i, x :: ts => x.2.2.1 ++ (gapOf gaps i ++ apart gaps (i + 1) ts)
theorem pair_sg {b c : UInt8} (h : prs.contains [b, c] = true) : sg1 b = true := by
 simp only [prs, List.contains_eq_mem, decide_eq_true_eq, List.mem_cons, List.not_mem_nil, or_false, List.cons.injEq, and_true] at h
 rcases h with ⟨rfl, _⟩ | ⟨rfl, _⟩ | ⟨rfl, _⟩ | ⟨rfl, _⟩ | ⟨rfl, _⟩ | ⟨rfl, _⟩ | ⟨rfl, _⟩ | ⟨rfl, _⟩ <;> rfl
end Go.Avm
namespace Go.Avm
open Go.Proofs
theorem refWordC (t : List UInt8) : Pure Pg 28 [.str t] [.bool (isWord t)] := by
 rcases findD_words t wl wordsE 0 rfl with ⟨i, g1, g2, g3⟩ | ⟨g1, g2⟩
 ·have : isWord t = true := by
    simp only [isWord, List.contains_eq_mem, decide_eq_true_eq]
    exact List.mem_of_getElem? g1
  rw [this]
  exact refT t i g1 g2
 ·have : isWord t = false := by
    simp only [isWord, List.contains_eq_mem, decide_eq_false_iff_not]
    intro hm
    obtain ⟨i, hi⟩ := List.getElem?_of_mem hm
    have := g1 i t hi
    simp at this
  rw [this]
  exact refF t g1
section
variable (p : UInt8 → Bool) (s : List UInt8) (a : Nat) (b : UInt8) (h : s.drop a = b :: s.drop (a + 1)) (hb : p b = true)
include p s a b h hb
theorem toN_eq : toN p s a = a + runN p (s.drop a) := by
 unfold toN runN
 rw [h, List.takeWhile_cons, if_pos hb, List.length_cons]
 omega
theorem toN_sub : sub s a (toN p s a) = (s.drop a).takeWhile p := by
 rw [toN_eq p s a b h hb, sub_tw]
end
theorem runN_len (p : UInt8 → Bool) (l : List UInt8) : runN p l = (l.takeWhile p).length := rfl
def RefSays (s : List UInt8) (a v x : Nat) (l : List D) : Except (Nat × Int) (List (Nat × Tok)) → Prop
 | .error (p, k) => ∃ v' x', RL 183 (lO 18 5) (rfE s a v l) (rfHp v x) .ret [(2, .nils), (3, dN p), (4, dI k)] (rfHp v' x')
 | .ok ts => (l ++ ts.map tokOf).length ≤ s.length ∧ ∃ v' x', RL 183 (lO 18 5) (rfE s a v l) (rfHp v x) (.exit 0) (rfE s s.length v' (l ++ ts.map tokOf)) (rfHp v' x')
def consR (y : Nat × Tok) (r : Except (Nat × Int) (List (Nat × Tok))) : Except (Nat × Int) (List (Nat × Tok)) := match r with
 | .error e => .error e
 | .ok ts => .ok (y :: ts)
section
variable {s : List UInt8} {a v x : Nat} {l : List D}
theorem says_step {a1 v1 x1 : Nat} {l1 : List D} {r : Except (Nat × Int) (List (Nat × Tok))} (h : RZ 183 (lO 18 5) (rfE s a v l) (rfHp v x) .normal (rfE s a1 v1 l1) (rfHp v1 x1))
    (hl : l1 = l) (ih : RefSays s a1 v1 x1 l1 r) : RefSays s a v x l r := by
 subst hl
 cases r with
 | error e =>
  obtain ⟨p, k⟩ := e
  obtain ⟨v', x', hh⟩ := ih
  exact ⟨v', x', fun rest X hP hN => lw_seg (h rest X hP hN) (hh rest X hP hN)⟩
 | ok ts =>
  obtain ⟨hle, v', x', hh⟩ := ih
  exact ⟨hle, v', x', fun rest X hP hN => lw_seg (h rest X hP hN) (hh rest X hP hN)⟩
theorem says_tok {a1 v1 x1 : Nat} {kd n : Int} {t : List UInt8} {r : Except (Nat × Int) (List (Nat × Tok))} (h : RZ 183 (lO 18 5) (rfE s a v l) (rfHp v x) .normal (rfE s a1 v1 (l ++ [tokD kd a t n])) (rfHp v1 x1))
    (ih : RefSays s a1 v1 x1 (l ++ [tokD kd a t n]) r) : RefSays s a v x l (consR (a, (kd, t, n)) r) := by
 cases r with
 | error e =>
  obtain ⟨p, k⟩ := e
  obtain ⟨v', x', hh⟩ := ih
  exact ⟨v', x', fun rest X hP hN => lw_seg (h rest X hP hN) (hh rest X hP hN)⟩
 | ok ts =>
  obtain ⟨hle, v', x', hh⟩ := ih
  have e : l ++ [tokD kd a t n] ++ ts.map tokOf = l ++ ((a, (kd, t, n)) :: ts).map tokOf := by simp [tokOf]
  rw [e] at hle hh
  exact ⟨hle, v', x', fun rest X hP hN => lw_seg (h rest X hP hN) (hh rest X hP hN)⟩
theorem says_err {k : Int} (h : RZ 183 (lO 18 5) (rfE s a v l) (rfHp v x) .ret [(2, .nils), (3, dN a), (4, dI k)] (rfHp v x)) : RefSays s a v x l (.error (a, k)) :=
 ⟨v, x, fun rest X hP hN => lw_end (h rest X hP hN) (by simp)⟩
end
theorem refLoop (s : List UInt8) (hlen : s.length ≤ 100000) : ∀ (μ n a v x : Nat) (l : List D), s.length - a < μ → a ≤ s.length → s.length < n + blankTo s a → l.length ≤ a → RefSays s a v x l (scanB n (s.drop (blankTo s a)) (blankTo s a))
 | 0, n, a, v, x, l, h, _, _, _ => by omega
 | μ + 1, n, a, v, x, l, h0, h1, h2, h3 => by
  rcases Nat.lt_or_ge a s.length with ha | ha
  ·have hd : s.drop a = s[a] :: s.drop (a + 1) := List.drop_eq_getElem_cons ha
   obtain ⟨b, hb, hcase⟩ := blank_cases s a ha
   have hsb : s[a] = b := by
    rw [Int.toNat_natCast, List.getElem?_eq_getElem ha] at hb
    exact Option.some.inj hb
   rw [hsb] at hd
   have hcs := class_spec b
   rcases hcase with ⟨hw, hbl⟩ | ⟨rfl, hbl, hpos⟩ | ⟨hno, hbl⟩
   ·have hws : wsp b = true := by rcases hw with rfl | rfl | rfl | rfl <;> rfl
    have hk : classI b = 1 := by have := hcs.1; rw [hws] at this; simpa using this
    have ih := refLoop s hlen μ n (a + 1) v x l (by omega) ha (by rw [hbl]; exact h2) (by omega)
    rw [hbl] at ih
    exact says_step (fun rest X hP hN => rfBlank s a v x l b ha hb hlen hk rest X hP hN) rfl ih
   ·have hk : classI 35 = 5 := rfl
    have hto : toN notNl s a = a + runN notNl (s.drop a) := toN_eq notNl s a 35 hd rfl
    have hle := toN_le notNl s a ha
    have ih := refLoop s hlen μ n (toN notNl s a) v x l (by omega) hle.2 (by rw [hto, hbl]; exact h2) (by omega)
    rw [hto, hbl, ← hto] at ih
    exact says_step (fun rest X hP hN => rfRem s a v x l 35 ha hb hlen hk rest X hP hN) rfl ih
   ·rw [hbl] at h2 ⊢
    obtain ⟨n, rfl⟩ : ∃ m, n = m + 1 := ⟨n - 1, by omega⟩
    rw [hd, scanB_cons, ← hd]
    have hl549 : l.length + 1 ≤ 549755813888 := by omega
    -- a token's end, and what comes behind it
    have hgo : ∀ (kd k : Int) (t : List UInt8), 0 < t.length → a + t.length ≤ s.length → RefSays s (a + t.length) (v + 1) (x + 1) (l ++ [tokD kd a t k]) (scanB n (((s.drop a).drop t.length).drop (skipN false ((s.drop a).drop t.length))) (a + t.length + skipN false ((s.drop a).drop t.length))) := fun kd k t ht hle => by
     have e1 : (s.drop a).drop t.length = s.drop (a + t.length) := by rw [List.drop_drop]
     have e2 : a + t.length + skipN false (s.drop (a + t.length)) = blankTo s (a + t.length) := rfl
     have e3 : (s.drop (a + t.length)).drop (skipN false (s.drop (a + t.length))) = s.drop (blankTo s (a + t.length)) := by rw [List.drop_drop]; rfl
     rw [e1, e2, e3]
     have hbt := blankTo_le s (a + t.length) hle
     exact refLoop s hlen μ n (a + t.length) (v + 1) (x + 1) _ (by omega) hle (by omega) (by rw [List.length_append, List.length_singleton]; omega)
    cases hdg : isDig b with
    | true =>
     have hk : classI b = 3 := by have := hcs.2.2.1; rw [hdg] at this; simpa using this
     have hsub := toN_sub isDig s a b hd hdg
     have hto := toN_eq isDig s a b hd hdg
     rw [runN_len] at hto
     have htl := toN_le isDig s a ha
     have hall := tw_all isDig (s.drop a)
     generalize hT : (s.drop a).takeWhile isDig = T at *
     have hTl : T.length ≤ 100000 := by omega
     have hv := valueC T hall hTl
     obtain ⟨c, xx, hx, hc, hlet⟩ : ∃ c xx, decide (((toN isDig s a : Nat) : Int) < (s.length : Int)) = xx ∧ (xx = true → s[((toN isDig s a : Nat) : Int).toNat]? = some c) ∧ letter ((s.drop a).drop T.length) = (xx && (isSm c || great c)) := by
      rw [List.drop_drop, ← hto]
      by_cases hx : toN isDig s a < s.length
      ·refine ⟨s[toN isDig s a], true, by simp only [decide_eq_true_eq]; omega, fun _ => by rw [Int.toNat_natCast]; exact List.getElem?_eq_getElem hx, ?_⟩
       rw [List.drop_eq_getElem_cons hx]; rfl
      ·refine ⟨0, false, by simp only [decide_eq_false_iff_not]; omega, fun h => (by cases h), ?_⟩
       rw [List.drop_eq_nil_iff.2 (by omega)]; rfl
     have ht : tokL (s.drop a) = if 9223372036854775808 ≤ dv 0 T then .error 2 else if (decide (1 < T.length) && b.toNat == 48) || letter ((s.drop a).drop T.length) then .error 4 else .ok (3, T, dv 0 T) := by
      rw [hd, tokL, if_pos hdg, ← hd, hT]
     have hy : ((b.toNat : Int) == 48) = (b.toNat == 48) := by rw [Bool.eq_iff_iff]; simp only [beq_iff_eq]; omega
     have hz : decide (((a + 1 : Nat) : Int) < ((toN isDig s a : Nat) : Int)) = decide (1 < T.length) := decide_eq_decide.2 (by omega)
     rw [ht]
     by_cases hgr : 9223372036854775808 ≤ dv 0 T
     ·rw [if_pos hgr]
      exact says_err fun rest X hP hN => rfGreatN s a v x l b ha hb hlen hk 0 (by rw [hsub]; exact hv.2 hgr) _ _ _ _ _ rfl rfl hx c hc rfl rfl hl549 rest X hP hN
     ·rw [if_neg hgr]
      cases hbad : refBad (b.toNat == 48) (decide (1 < T.length)) xx (isSm c) (great c) with
      | true =>
       rw [if_pos (by rw [hlet, Bool.and_comm]; exact hbad)]
       exact says_err fun rest X hP hN => rfBadN s a v x l b ha hb hlen hk _ (by rw [hsub]; exact hv.1 (by omega)) _ _ _ _ _ hy hz hx c hc rfl rfl hl549 hbad rest X hP hN
      | false =>
       rw [if_neg (by rw [hlet, Bool.and_comm]; show ¬ refBad (b.toNat == 48) (decide (1 < T.length)) xx (isSm c) (great c) = true; rw [hbad]; exact Bool.false_ne_true)]
       have hTpos : 0 < T.length := by omega
       dsimp only
       refine says_tok (fun rest X hP hN => ?_) (hgo 3 (dv 0 T) T hTpos (by omega))
       have hh := rfNum s a v x l b ha hb hlen hk (dv 0 T) (by rw [hsub]; exact hv.1 (by omega)) _ _ _ _ _ hy hz hx c hc rfl rfl hl549 hbad rest X hP hN
       rw [hsub, hto] at hh
       exact hh
    | false =>
     cases hsm : isSm b with
     | true =>
      have hk : classI b = 2 := by have := hcs.2.1; rw [hsm] at this; simpa using this
      have hnm := isSm_isNm hsm
      have hsub := toN_sub isNm s a b hd hnm
      have hto := toN_eq isNm s a b hd hnm
      rw [runN_len] at hto
      have htl := toN_le isNm s a ha
      generalize hT : (s.drop a).takeWhile isNm = T at *
      have ht : tokL (s.drop a) = if isWord T then .ok (2, T, 0) else if 12 < T.length then .error 2 else .ok (1, T, 0) := by
       rw [hd, tokL, if_neg (by rw [hdg]; exact Bool.false_ne_true), if_pos hsm, ← hd, hT]
      have hTpos : 0 < T.length := by omega
      have hW := refWordC (sub s a (toN isNm s a))
      rw [ht]
      cases hu : isWord T with
      | true =>
       rw [if_pos rfl]
       dsimp only
       refine says_tok (fun rest X hP hN => ?_) (hgo 2 0 T hTpos (by omega))
       have hh := rfWord s a v x l b ha hb hlen hk (by rw [hsub, hu] at hW; rw [hsub]; exact hW) hl549 rest X hP hN
       rw [hsub, hto] at hh
       exact hh
      | false =>
       rw [if_neg Bool.false_ne_true]
       have hW' : Pure Pg 28 [.str (sub s a (toN isNm s a))] [.bool false] := by rw [hsub, hu] at hW; rw [hsub]; exact hW
       by_cases h12 : 12 < T.length
       ·rw [if_pos h12]
        exact says_err fun rest X hP hN => rfLong s a v x l b ha hb hlen hk hW' (by simp only [decide_eq_true_eq]; omega) hl549 rest X hP hN
       ·rw [if_neg h12]
        dsimp only
        refine says_tok (fun rest X hP hN => ?_) (hgo 1 0 T hTpos (by omega))
        have hh := rfName s a v x l b ha hb hlen hk hW' (by simp only [decide_eq_false_iff_not]; omega) hl549 rest X hP hN
        rw [hsub, hto] at hh
        exact hh
     | false =>
      have ht : tokL (s.drop a) = if sgnL b (s.drop (a + 1)) = [] then .error 4 else .ok (4, sgnL b (s.drop (a + 1)), 0) := by
       rw [hd, tokL, if_neg (by rw [hdg]; exact Bool.false_ne_true), if_neg (by rw [hsm]; exact Bool.false_ne_true)]
      rw [ht]
      cases hsg : sg1 b with
      | false =>
       have hnil : sgnL b (s.drop (a + 1)) = [] := by
        unfold sgnL
        cases hr : s.drop (a + 1) with
        | nil => dsimp only; rw [if_neg (by rw [hsg]; exact Bool.false_ne_true)]
        | cons c u =>
         dsimp only
         rw [if_neg (fun hp => by rw [pair_sg hp] at hsg; cases hsg), if_neg (by rw [hsg]; exact Bool.false_ne_true)]
       rw [if_pos hnil]
       cases hg : great b with
       | true =>
        have hk : classI b = 6 := by have := hcs.2.2.2.2.1; rw [hg] at this; simpa using this
        exact says_err fun rest X hP hN => rfGreat s a v x l b ha hb hlen hk rest X hP hN
       | false =>
        have hw0 : wsp b = false := by
         simp only [wsp, Bool.or_eq_false_iff, beq_eq_false_iff_ne]
         exact ⟨⟨⟨fun e => hno.1 (by rw [e]; rfl), fun e => hno.2.1 (by rw [e]; rfl)⟩, fun e => hno.2.2.1 (by rw [e]; rfl)⟩, fun e => hno.2.2.2.1 (by rw [e]; rfl)⟩
        have h35 : (b == 35) = false := by
         simp only [beq_eq_false_iff_ne]
         exact fun e => hno.2.2.2.2 (by rw [e]; rfl)
        have hk : classI b = 0 := by
         unfold classI
         rw [hw0, hsm, hdg, h35, hg, hsg]
         rfl
        exact says_err fun rest X hP hN => rfZero s a v x l b ha hb hlen hk rest X hP hN
      | true =>
       have hk : classI b = 4 := by have := hcs.2.2.2.2.2; rw [hsg] at this; simpa using this
       have hdn : (s.drop a).take 1 = [b] := by rw [hd]; rfl
       have hsub1 : sub s a (a + 1) = [b] := by unfold sub; rw [List.drop_take, Nat.add_sub_cancel_left, hdn]
       cases hr : s.drop (a + 1) with
       | nil =>
        have hx : ¬ a + 1 < s.length := by have := List.drop_eq_nil_iff.1 hr; omega
        have hS : sgnL b [] = [b] := by unfold sgnL; dsimp only; rw [if_pos hsg]
        rw [hS, if_neg (by simp)]
        dsimp only
        refine says_tok (fun rest X hP hN => ?_) (hgo 4 0 [b] (by simp) (by simp; omega))
        have hh := rfLast s a v x l b ha hb hlen hk (by simp only [decide_eq_false_iff_not]; omega) ⟨by omega, by omega⟩ hl549 rest X hP hN
        rw [hsub1] at hh
        exact hh
       | cons c u =>
        have hx : a + 1 < s.length := by
         rcases Nat.lt_or_ge (a + 1) s.length with h | h
         ·exact h
         ·rw [List.drop_eq_nil_iff.2 h] at hr; cases hr
        have hc : s[((a + 1 : Nat) : Int).toNat]? = some c := by
         have : (s.drop (a + 1))[0]? = some c := by rw [hr]; rfl
         rw [List.getElem?_drop, Nat.add_zero] at this
         rw [Int.toNat_natCast]; exact this
        cases hp : prs.contains [b, c] with
        | true =>
         have hS : sgnL b (c :: u) = [b, c] := by unfold sgnL; dsimp only; rw [if_pos hp]
         have hsub2 : sub s a (a + 1 + 1) = [b, c] := by
          unfold sub
          rw [List.drop_take, show a + 1 + 1 - a = 2 by omega, hd, hr]; rfl
         rw [hS, if_neg (by simp)]
         dsimp only
         refine says_tok (fun rest X hP hN => ?_) (hgo 4 0 [b, c] (by simp) (by simp; omega))
         have hh := rfPair s a v x l b ha hb hlen hk (by simp only [decide_eq_true_eq]; omega) c hc hp ⟨by omega, by omega⟩ hl549 rest X hP hN
         rw [hsub2] at hh
         exact hh
        | false =>
         have hS : sgnL b (c :: u) = [b] := by unfold sgnL; dsimp only; rw [if_neg (by rw [hp]; exact Bool.false_ne_true), if_pos hsg]
         rw [hS, if_neg (by simp)]
         dsimp only
         refine says_tok (fun rest X hP hN => ?_) (hgo 4 0 [b] (by simp) (by simp; omega))
         have hh := rfOne s a v x l b ha hb hlen hk (by simp only [decide_eq_true_eq]; omega) c hc hp ⟨by omega, by omega⟩ hl549 rest X hP hN
         rw [hsub1] at hh
         exact hh
  ·have : a = s.length := by omega
   subst this
   have hb := blankTo_le s s.length (Nat.le_refl _)
   have e : blankTo s s.length = s.length := by omega
   rw [e, List.drop_length]
   have hn : scanB n [] s.length = .ok [] := by cases n <;> rfl
   rw [hn]
   refine ⟨by simpa using h3, v, x, fun rest X hP hN => ?_⟩
   simp only [List.map_nil, List.append_nil]
   exact lw_end (rfStop s v x l rest X hP hN) (by simp)
end Go.Avm
namespace Go.Avm
open Go.Proofs
section
variable (s : List UInt8)
noncomputable def rsPar (h : Option (LHint Pg)) (z : Bool) (hz : decide (20000 < (s.length : Int)) = z) (l : List D) (hl : l.length + 1 ≤ 549755813888) : Par Pg :=
 { hint := fun f' k => if f' = 18 then (if k = 13 then some (hB Pg _ z hz) else if k = 182 then some (.app l 1 hl) else none) else none
   nils := fun f' r => if f' = 18 then (if r = 4 then some { k := 0, i := 5, K := 1, sz := 4, slot := true } else none) else none
   loops := fun f' r => if f' = 18 then (if r = 5 then h else none) else none }
theorem refLong (h : decide (20000 < (s.length : Int)) = true) : Pure Pg 18 [.str s] [.ro [], .int .i64 0, .int .i64 2] :=
 pure_of_run okP named (rsPar s none true h [] (by decide)) 1000 (by kernel_rfl)
noncomputable def rsLH (e : AExit) (l' : List (Nat × AV)) (hp : List (Nat × Ent)) (h : RL 183 (lO 18 5) (rfE s 0 0 []) (rfHp 0 0) e l' hp) : LHint Pg :=
 ⟨183, loopOf Pg 18 5, rfE s 0 0 [], fun _ => rfHp 0 0, e, l', fun _ => hp, fun rest X hP hN => (h rest X hP hN).aw⟩
theorem refBadC (h : decide (20000 < (s.length : Int)) = false) (p : Nat) (k : Int) (v' x' : Nat)
    (hl : RL 183 (lO 18 5) (rfE s 0 0 []) (rfHp 0 0) .ret [(2, .nils), (3, dN p), (4, dI k)] (rfHp v' x')) :
    Pure Pg 18 [.str s] [.ro [], .int .i64 (p : Int), .int .i64 k] :=
 pure_of_run okP named (rsPar s (some (rsLH s _ _ _ hl)) false h [] (by decide)) 1000 (by kernel_rfl)
theorem refGood (h : decide (20000 < (s.length : Int)) = false) (v' x' : Nat) (l' : List D) (hl' : l'.length + 1 ≤ 549755813888)
    (hl : RL 183 (lO 18 5) (rfE s 0 0 []) (rfHp 0 0) (.exit 0) (rfE s s.length v' l') (rfHp v' x')) :
    Pure Pg 18 [.str s] [.ro (l' ++ [tokD 0 s.length [] 0]), .int .i64 0, .int .i64 0] :=
 pure_of_run okP named (rsPar s (some (rsLH s _ _ _ hl)) false h l' hl') 1000 (by kernel_rfl)
end
theorem refScanC (s : List UInt8) : Pure Pg 18 [.str s] [.ro (scanRes s).1, .int .i64 (scanRes s).2.1, .int .i64 (scanRes s).2.2] := by
 unfold scanRes
 by_cases h : 20000 < s.length
 ·rw [if_pos h]
  exact refLong s (by simp only [decide_eq_true_eq]; omega)
 ·rw [if_neg h]
  have hz : decide (20000 < (s.length : Int)) = false := by simp only [decide_eq_false_iff_not]; omega
  have hl := refLoop s (by omega) (s.length + 1) (s.length + 1) 0 0 0 [] (by omega) (Nat.zero_le _) (by omega) (Nat.zero_le _)
  have he : scanB (s.length + 1) (s.drop (blankTo s 0)) (blankTo s 0) = scanF s := by
   unfold scanF blankTo
   rw [List.drop_zero, Nat.zero_add]
  rw [he] at hl
  cases hs : scanF s with
  | error e =>
   obtain ⟨p, k⟩ := e
   rw [hs] at hl
   obtain ⟨v', x', hh⟩ := hl
   exact refBadC s hz p k v' x' hh
  | ok ts =>
   rw [hs] at hl
   obtain ⟨hle, v', x', hh⟩ := hl
   exact refGood s hz v' x' _ (by rw [List.nil_append] at hle; omega) hh
end Go.Avm
namespace Go.Avm
open Go.Proofs
set_option maxRecDepth 100000 in
theorem awP1 : Pure Pg 9 [.str [102, 110, 32, 109, 97, 105, 110, 40, 41, 58, 32, 105, 110, 116, 32, 123, 32, 114, 101, 116, 117, 114, 110, 32, 49, 32, 43, 32, 50, 32, 42, 32, 51, 59, 32, 125]] [.agg [.ro [.agg [.str [109, 97, 105, 110], .ro [], .int .u8 1, .ro [.agg [.int .u8 6, .int .i64 1, .str [], .int .u8 0, .int .i64 0, .int .i64 17, .ro [.agg [.int .u8 9, .int .u8 1, .str [], .int .i64 0, .int .i64 26, .ro [.agg [.int .u8 1, .int .u8 0, .str [], .int .i64 1, .int .i64 24, .ro []], .agg [.int .u8 9, .int .u8 3, .str [], .int .i64 0, .int .i64 30, .ro [.agg [.int .u8 1, .int .u8 0, .str [], .int .i64 2, .int .i64 28, .ro []], .agg [.int .u8 1, .int .u8 0, .str [], .int .i64 3, .int .i64 32, .ro []]]]]]], .ro [], .ro []]], .int .i64 0]]], .int .i64 0, .int .i64 0] := by
 have h := parsePure [102, 110, 32, 109, 97, 105, 110, 40, 41, 58, 32, 105, 110, 116, 32, 123, 32, 114, 101, 116, 117, 114, 110, 32, 49, 32, 43, 32, 50, 32, 42, 32, 51, 59, 32, 125]
 rw [show parseRes [102, 110, 32, 109, 97, 105, 110, 40, 41, 58, 32, 105, 110, 116, 32, 123, 32, 114, 101, 116, 117, 114, 110, 32, 49, 32, 43, 32, 50, 32, 42, 32, 51, 59, 32, 125] = [.agg [.ro [.agg [.str [109, 97, 105, 110], .ro [], .int .u8 1, .ro [.agg [.int .u8 6, .int .i64 1, .str [], .int .u8 0, .int .i64 0, .int .i64 17, .ro [.agg [.int .u8 9, .int .u8 1, .str [], .int .i64 0, .int .i64 26, .ro [.agg [.int .u8 1, .int .u8 0, .str [], .int .i64 1, .int .i64 24, .ro []], .agg [.int .u8 9, .int .u8 3, .str [], .int .i64 0, .int .i64 30, .ro [.agg [.int .u8 1, .int .u8 0, .str [], .int .i64 2, .int .i64 28, .ro []], .agg [.int .u8 1, .int .u8 0, .str [], .int .i64 3, .int .i64 32, .ro []]]]]]], .ro [], .ro []]], .int .i64 0]]], .int .i64 0, .int .i64 0] by kernel_rfl] at h
 exact h
set_option maxRecDepth 100000 in
theorem awP2 : Pure Pg 9 [.str [102, 110, 32, 102, 40, 32]] [.agg [.ro []], .int .i64 6, .int .i64 4] := by
 have h := parsePure [102, 110, 32, 102, 40, 32]
 rw [show parseRes [102, 110, 32, 102, 40, 32] = [.agg [.ro []], .int .i64 6, .int .i64 4] by kernel_rfl] at h
 exact h
set_option maxRecDepth 100000 in
theorem awP3 : Pure Pg 9 [.str [102, 110, 32, 109, 97, 105, 110, 40, 41, 58, 32, 105, 110, 116, 32, 123, 32, 114, 101, 116, 117, 114, 110, 32, 40, 49, 32, 45, 32, 50, 41, 32, 45, 32, 40, 51, 32, 45, 32, 52, 41, 59, 32, 125]] [.agg [.ro [.agg [.str [109, 97, 105, 110], .ro [], .int .u8 1, .ro [.agg [.int .u8 6, .int .i64 1, .str [], .int .u8 0, .int .i64 0, .int .i64 17, .ro [.agg [.int .u8 9, .int .u8 2, .str [], .int .i64 0, .int .i64 32, .ro [.agg [.int .u8 9, .int .u8 2, .str [], .int .i64 0, .int .i64 27, .ro [.agg [.int .u8 1, .int .u8 0, .str [], .int .i64 1, .int .i64 25, .ro []], .agg [.int .u8 1, .int .u8 0, .str [], .int .i64 2, .int .i64 29, .ro []]]], .agg [.int .u8 9, .int .u8 2, .str [], .int .i64 0, .int .i64 37, .ro [.agg [.int .u8 1, .int .u8 0, .str [], .int .i64 3, .int .i64 35, .ro []], .agg [.int .u8 1, .int .u8 0, .str [], .int .i64 4, .int .i64 39, .ro []]]]]]], .ro [], .ro []]], .int .i64 0]]], .int .i64 0, .int .i64 0] := by
 have h := parsePure [102, 110, 32, 109, 97, 105, 110, 40, 41, 58, 32, 105, 110, 116, 32, 123, 32, 114, 101, 116, 117, 114, 110, 32, 40, 49, 32, 45, 32, 50, 41, 32, 45, 32, 40, 51, 32, 45, 32, 52, 41, 59, 32, 125]
 rw [show parseRes [102, 110, 32, 109, 97, 105, 110, 40, 41, 58, 32, 105, 110, 116, 32, 123, 32, 114, 101, 116, 117, 114, 110, 32, 40, 49, 32, 45, 32, 50, 41, 32, 45, 32, 40, 51, 32, 45, 32, 52, 41, 59, 32, 125] = [.agg [.ro [.agg [.str [109, 97, 105, 110], .ro [], .int .u8 1, .ro [.agg [.int .u8 6, .int .i64 1, .str [], .int .u8 0, .int .i64 0, .int .i64 17, .ro [.agg [.int .u8 9, .int .u8 2, .str [], .int .i64 0, .int .i64 32, .ro [.agg [.int .u8 9, .int .u8 2, .str [], .int .i64 0, .int .i64 27, .ro [.agg [.int .u8 1, .int .u8 0, .str [], .int .i64 1, .int .i64 25, .ro []], .agg [.int .u8 1, .int .u8 0, .str [], .int .i64 2, .int .i64 29, .ro []]]], .agg [.int .u8 9, .int .u8 2, .str [], .int .i64 0, .int .i64 37, .ro [.agg [.int .u8 1, .int .u8 0, .str [], .int .i64 3, .int .i64 35, .ro []], .agg [.int .u8 1, .int .u8 0, .str [], .int .i64 4, .int .i64 39, .ro []]]]]]], .ro [], .ro []]], .int .i64 0]]], .int .i64 0, .int .i64 0] by kernel_rfl] at h
 exact h
end Go.Avm
namespace Go.Avm
open Go.Proofs
set_option maxRecDepth 100000 in
theorem awS1 : Pure Pg 25 [.agg [.ro [.agg [.str [109, 97, 105, 110], .ro [], .int .u8 1, .ro [.agg [.int .u8 6, .int .i64 1, .str [], .int .u8 0, .int .i64 0, .int .i64 17, .ro [.agg [.int .u8 9, .int .u8 1, .str [], .int .i64 0, .int .i64 26, .ro [.agg [.int .u8 1, .int .u8 0, .str [], .int .i64 1, .int .i64 24, .ro []], .agg [.int .u8 9, .int .u8 3, .str [], .int .i64 0, .int .i64 30, .ro [.agg [.int .u8 1, .int .u8 0, .str [], .int .i64 2, .int .i64 28, .ro []], .agg [.int .u8 1, .int .u8 0, .str [], .int .i64 3, .int .i64 32, .ro []]]]]]], .ro [], .ro []]], .int .i64 0]]]] [.str [102, 110, 32, 109, 97, 105, 110, 40, 41, 58, 32, 105, 110, 116, 32, 123, 10, 32, 32, 114, 101, 116, 117, 114, 110, 32, 49, 32, 43, 32, 50, 32, 42, 32, 51, 59, 10, 125, 10]] :=
 pure_of_exec okP named (fun _ _ => false) (fun g => g == 9) 100000 (by kernel_rfl)
set_option maxRecDepth 100000 in
theorem awS3 : Pure Pg 25 [.agg [.ro [.agg [.str [109, 97, 105, 110], .ro [], .int .u8 1, .ro [.agg [.int .u8 6, .int .i64 1, .str [], .int .u8 0, .int .i64 0, .int .i64 17, .ro [.agg [.int .u8 9, .int .u8 2, .str [], .int .i64 0, .int .i64 32, .ro [.agg [.int .u8 9, .int .u8 2, .str [], .int .i64 0, .int .i64 27, .ro [.agg [.int .u8 1, .int .u8 0, .str [], .int .i64 1, .int .i64 25, .ro []], .agg [.int .u8 1, .int .u8 0, .str [], .int .i64 2, .int .i64 29, .ro []]]], .agg [.int .u8 9, .int .u8 2, .str [], .int .i64 0, .int .i64 37, .ro [.agg [.int .u8 1, .int .u8 0, .str [], .int .i64 3, .int .i64 35, .ro []], .agg [.int .u8 1, .int .u8 0, .str [], .int .i64 4, .int .i64 39, .ro []]]]]]], .ro [], .ro []]], .int .i64 0]]]] [.str [102, 110, 32, 109, 97, 105, 110, 40, 41, 58, 32, 105, 110, 116, 32, 123, 10, 32, 32, 114, 101, 116, 117, 114, 110, 32, 49, 32, 45, 32, 50, 32, 45, 32, 40, 51, 32, 45, 32, 52, 41, 59, 10, 125, 10]] :=
 pure_of_exec okP named (fun _ _ => false) (fun g => g == 9) 100000 (by kernel_rfl)
set_option maxRecDepth 100000 in
theorem awake02 : Pure Pg 11 [] [.bool true] :=
 pure_of_run okP named { hint := qT 11 [(11, .call 9 _ _ awP1), (16, .call 9 _ _ awP2), (21, .call 9 _ _ awP3), (35, .call 25 _ _ awS1), (52, .call 25 _ _ awS3)] } 2000 (by kernel_rfl)
end Go.Avm
namespace Go.Avm
open Go.Proofs
theorem refPure (s : List UInt8) : Pure Pg 10 [.str s] (parseRes s) := by
 have hs := refScanC s
 unfold parseRes
 unfold scanRes at hs
 by_cases h : 20000 < s.length
 ·rw [if_pos h] at hs ⊢
  exact refE (by decide) hs
 ·rw [if_neg h] at hs ⊢
  cases he : scanF s with
  | error e =>
   obtain ⟨p, k⟩ := e
   rw [he] at hs
   have hk := scanB_err _ _ _ _ _ he
   exact refE (by simpa using hk) hs
  | ok ts =>
   rw [he] at hs
   have hl := scanF_len he
   have hok := toksOf_ok (ts := ts) (n := s.length) (by omega)
   exact refC hok (toksOf_pos _ _) (by rw [toksD_of]; exact hs) _ (prog_no hok (toksOf_pos _ _))
theorem parse_cases (s : List UInt8) : (∃ q e : Int, parseRes s = [.agg [.ro []], .int .i64 q, .int .i64 e] ∧ e ≠ 0) ∨ ∃ l, parseRes s = [.agg [.ro (fnL l)], .int .i64 0, .int .i64 0] ∧ fnZL l < 1000000 := by
 unfold parseRes
 by_cases h : 20000 < s.length
 ·rw [if_pos h]
  exact .inl ⟨0, 2, rfl, by decide⟩
 ·rw [if_neg h]
  cases he : scanF s with
  | error e =>
   obtain ⟨p, k⟩ := e
   exact .inl ⟨p, k, rfl, scanB_err _ _ _ _ _ he⟩
  | ok ts =>
   have hl := scanF_len he
   have hok := toksOf_ok (ts := ts) (n := s.length) (by omega)
   have hno := prog_no hok (toksOf_pos _ _)
   have hr := pqProg hok (fuel (toksOf ts s.length)) (toksOf_pos _ _)
   dsimp only
   unfold treeOf
   cases hp : sProg (toksOf ts s.length) (fuel (toksOf ts s.length)) with
   | ok l s' => exact .inr ⟨l, rfl, prog_small hok (toksOf_pos _ _) hp⟩
   | bad p e s' =>
    rw [hp] at hr
    exact .inl ⟨p, e, rfl, by simpa using hr.1⟩
   | out => exact absurd hp hno
theorem parsesRun (s : List UInt8) (f : List Fn) (q e : Int) (h1 : Pure Pg 9 [.str s] [.agg [.ro (fnL f)], .int .i64 q, .int .i64 e]) (h2 : Pure Pg 10 [.str s] [.agg [.ro (fnL f)], .int .i64 q, .int .i64 e]) (h3 : Pure Pg 12 [.agg [.ro (fnL f)], .agg [.ro (fnL f)], .bool true] [.bool true]) : Pure Pg 3 [.str s] [.bool true] :=
 qV { hint := qT 3 [(11, .call 9 _ _ h1), (17, .call 10 _ _ h2), (21, .call 11 _ _ awake02), (25, .call 12 _ _ h3), (30, hB Pg (q == q) true (by simp)), (35, hB Pg (e == e) true (by simp))] } 709297
theorem parsesPure (s : List UInt8) : Pure Pg 3 [.str s] [.bool true] := by
 have h1 := parsePure s
 have h2 := refPure s
 rcases parse_cases s with ⟨q, e, h, _⟩ | ⟨l, h, hz⟩
 ·rw [h] at h1 h2
  exact parsesRun s [] q e h1 h2 (sameFn true [] [] (by decide) rfl)
 ·rw [h] at h1 h2
  exact parsesRun s l 0 0 h1 h2 (sameFn true l l hz rfl)
end Go.Avm
namespace Go.Avm
open Go.ChangeShapes Go.WideShapes Go.ChangeAt Go.RowKit Go.ChangeMaps Go.Proofs Go.Proofs.YtkhcaamgjjhpeaaGreatDoor
def zs : List Int := (List.range 256).map fun n => if n = 9 ∨ n = 10 ∨ n = 11 ∨ n = 12 ∨ n = 13 ∨ n = 32 then 1 else 0
theorem tab_zs : asciiTab = zs.map fun z => .int .u8 z := by
 unfold asciiTab zs
 rw [List.map_map]
 rfl
theorem gTab : Pg.globalNamed "strings.asciiSpace" = some 0 := by kernel_rfl
theorem gTabType : (Pg.globals[0]?).map (·.type) = some 155 := by kernel_rfl
theorem gEr : Pg.globalNamed "strconv.ErrRange" = some 4 := by kernel_rfl
theorem gErType : (Pg.globals[4]?).map (·.type) = some 125 := by kernel_rfl
theorem cells131 : Pg.cellsOf 220 = 1 := by kernel_rfl
theorem cells9 : Pg.cellsOf 9 = 1 := by kernel_rfl
theorem star : "*" ++ "errors.errorString" = "*errors.errorString" := by decide
theorem row129 (u : TypeId) (h : Pg.typeName? 3 u = some "*errors.errorString") : u = 218 :=
 typeName_ptr_named (nm := "errors.errorString") (by rw [star]; kernel_rfl) (by kernel_rfl) (by decide) u (by rw [star]; exact h)
theorem cells78 : Pg.cellsOf 155 = 256 := by kernel_rfl
theorem cells5 : Pg.cellsOf 5 = 1 := by kernel_rfl
abbrev rowLaid : List (String × DataW Unit) := Rows.treeNumbersRow.laid
theorem only : (rowLaid.filter fun x => x.1 == "strings.asciiSpace") = [("strings.asciiSpace", Lib.tabData .u8 zs)] := by kernel_rfl
theorem onlyE : (rowLaid.filter fun x => x.1 == "strconv.ErrRange") = [("strconv.ErrRange", .iface "*errors.errorString" (.ptr (.agg [.lit (.string [118, 97, 108, 117, 101, 32, 111, 117, 116, 32, 111, 102, 32, 114, 97, 110, 103, 101])])))] := by kernel_rfl
structure LexMem (W : World) : Prop where
 tab : Lib.TabIs Pg W "strings.asciiSpace" .u8 zs
 err : ∃ t v, W.cell? ⟨4, 0, none⟩ = some (.iface t v)
theorem lexMem {W : World} (h : laidMetH Pg rowLaid W) : LexMem W := by
 constructor
 ·have h1 := h.filter fun x => x.1 == "strings.asciiSpace"
  rw [only, MakeChecks.laidMetH_plain _ _ _ (by kernel_rfl)] at h1
  exact Lib.tabIs_of_head gTab gTabType Tryz.underlying155 Tryz.underlying5 cells5 cells78 h1
 ·have h1 := h.filter fun x => x.1 == "strconv.ErrRange"
  rw [onlyE, MakeChecks.laidMetH_plain _ _ _ (by kernel_rfl)] at h1
  obtain ⟨a0, s0, hv0, -, -, -⟩ := laid_sentinel h1 gEr gErType Tryz.underlying125 row129 Tryz.underlying218 Tryz.underlying220 rfl rfl Tryz.underlying9 cells131 cells9
  exact ⟨_, _, by have h0 := World.var?_cell gEr hv0 0; simpa using h0⟩
def lexImm (b o : Nat) : Prop := (b = 0 ∧ o < 256) ∨ (b = 4 ∧ o = 0)
theorem lexGlobs {W : World} (h : LexMem W) : Globs lexImm W := fun g cs hg => by
 have hg' : (if g = 0 then some asciiTab else if g = 4 then some [.ifc] else none) = some cs := hg
 split at hg'
 case isTrue hg0 =>
  subst hg0
  cases hg'
  have hlen : zs.length = 256 := by simp [zs]
  have hget : ∀ (t : Nat) (c : D), asciiTab[t]? = some c → t < 256 ∧ c = .int .u8 (zs.getD t 0) := fun t c hc => by
   rw [tab_zs, List.getElem?_map, Option.map_eq_some_iff] at hc
   obtain ⟨z, hz, rfl⟩ := hc
   refine ⟨by rw [← hlen]; exact (List.getElem?_eq_some_iff.1 hz).1, ?_⟩
   rw [List.getD, hz]; rfl
  refine .rp asciiTab 0 0 (fun t => .int .u8 (zs.getD t 0)) (fun e he => ?_) (fun t c hc => .inl ⟨rfl, by rw [Nat.zero_add]; exact (hget t c hc).1⟩) (fun t c hc => ?_) (fun t c hc => ?_)
  ·obtain ⟨t, ht⟩ := List.getElem?_of_mem he
   rw [(hget t e ht).2]; rfl
  ·rw [Nat.zero_add]
   exact h.tab.cell gTab t (by rw [hlen]; exact (hget t c hc).1)
  ·rw [(hget t c hc).2]
   exact .int _ _
 case isFalse hg0 =>
  split at hg'
  case isFalse => cases hg'
  rename_i hg3
  subst hg3
  cases hg'
  obtain ⟨ty, v, hc⟩ := h.err
  have hget : ∀ (t : Nat) (c : D), [D.ifc][t]? = some c → t = 0 ∧ c = .ifc := fun t c hc => by
   cases t with
   | zero => simp at hc; exact ⟨rfl, hc.symm⟩
   | succ t => simp at hc
  refine .rp [.ifc] 4 0 (fun _ => .iface ty v) (fun e he => ?_) (fun t c hc' => .inr ⟨rfl, by rw [Nat.zero_add]; exact (hget t c hc').1⟩) (fun t c hc' => ?_) (fun t c hc' => ?_)
  ·simp at he; subst he; rfl
  ·rw [Nat.zero_add, (hget t c hc').1]
   exact hc
  ·rw [(hget t c hc').2]
   exact .ifc _ _
theorem lexLow {W : World} (h : LexMem W) : ∀ b o, lexImm b o → b < W.heap.size := fun b o hbo => by
 rcases hbo with ⟨rfl, ho⟩ | ⟨rfl, rfl⟩
 ·have hc := h.tab.cell gTab 0 (by simp [zs])
  unfold World.cell? at hc
  cases hh : W.heap[0]? with
  | none => rw [hh] at hc; cases hc
  | some o => exact (Array.getElem?_eq_some_iff.1 hh).1
 ·obtain ⟨ty, v, hc⟩ := h.err
  unfold World.cell? at hc
  cases hh : W.heap[4]? with
  | none => rw [hh] at hc; cases hc
  | some o => exact (Array.getElem?_eq_some_iff.1 hh).1
end Go.Avm
