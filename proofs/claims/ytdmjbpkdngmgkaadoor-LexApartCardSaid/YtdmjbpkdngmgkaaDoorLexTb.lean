/-
  Apart: the rounds of the law's two loops.
-/
import Derived.Test.YtdmjbpkdngmgkaaDoorLexTa
import Derived.Test.YtdmjbpkdngmgkaaDoorLexQ
set_option linter.unusedSectionVars false
namespace Go.Avm
open Go.Proofs

/-! ### The text is written -/
def apE (gaps : List UInt8) (l : List D) (t : List UInt8) (i : Nat) : List (Nat × AV) := [(1, .d (.ro (gaps.map bD))), (5, .d (.ro l)), (8, .d (.str t)), (34, .d (.ro l)), (35, dN l.length), (36, dN i)]
def apHp (gaps : List UInt8) (i : Nat) (rest : Heap) : List (Nat × Ent) := [(800494, ⟨(rest 800494).ver + i, none⟩), (801867, ⟨(rest 801867).ver + (i - gaps.length), none⟩), (802472, ⟨(rest 802472).ver + min i gaps.length, none⟩)]
def apHpO (gaps : List UInt8) (i : Nat) (rest : Heap) : List (Nat × Ent) := [(800494, ⟨(rest 800494).ver + i + 1, none⟩), (801867, ⟨(rest 801867).ver + (i - gaps.length) + 1, none⟩), (802472, ⟨(rest 802472).ver + min i gaps.length, none⟩)]
def apHpI (gaps : List UInt8) (i : Nat) (rest : Heap) : List (Nat × Ent) := [(800494, ⟨(rest 800494).ver + i + 1, none⟩), (801867, ⟨(rest 801867).ver + (i - gaps.length), none⟩), (802472, ⟨(rest 802472).ver + min i gaps.length + 1, none⟩)]
section
variable (gaps : List UInt8) (l : List D) (t : List UInt8) (i : Nat)
noncomputable def apPr (kd : Int) (A : Nat) (T : List UInt8) (n : Int) (c : Nat) (hi : i < l.length) (hx : l[((i : Nat) : Int).toNat]? = some (tokD kd A T n)) (hl : l.length ≤ 1000000) (u : Bool) (hu : decide ((i : Int) < ((gaps.map bD).length : Int)) = u) (g : UInt8) (hg : u = true → gaps[i]? = some g ∧ g.toNat % 4 = c)
    (h1 : T.length + (gapT c).length ≤ 9223372036854775807) (h2 : t.length + (T ++ gapT c).length ≤ 9223372036854775807) : Par Tryd.prog :=
  { hint := fun f k => if f = 5 then (if k = 37 then some (hLt Tryd.prog i l.length true (by simpa using hi)) else if k = 39 then some (.idx l (i : Int) (tokD kd A T n) (by omega) hx) else if k = 44 then some (hB Tryd.prog _ u hu)
      else if k = 47 then (if h : u = true then some (.idx (gaps.map bD) (i : Int) (bD g) (by omega) (by rw [Int.toNat_natCast, List.getElem?_map, (hg h).1]; rfl)) else none)
      else if k = 54 then (if h : u = true then some (hU Tryd.prog .u8 ((g.toNat : Int).tmod 4) (c : Int) (by rw [Int.tmod_eq_emod_of_nonneg (by omega)]; have := (hg h).2; omega)) else none)
      else if k = 57 then some (.cat T (gapT c) h1) else if k = 58 then some (.cat t (T ++ gapT c) h2) else if k = 59 then some (hSucc Tryd.prog i (by omega)) else none) else none }
theorem apOut (kd : Int) (A : Nat) (T : List UInt8) (n : Int) (hi : i < l.length) (hx : l[((i : Nat) : Int).toNat]? = some (tokD kd A T n)) (hl : l.length ≤ 1000000) (hu : decide ((i : Int) < ((gaps.map bD).length : Int)) = false)
    (h1 : T.length + (gapT 0).length ≤ 9223372036854775807) (h2 : t.length + (T ++ gapT 0).length ≤ 9223372036854775807) (rest : Heap) (X : Fix) (hP : X.P = Tryd.prog) (hN : X.N = 121) :
    AW X (loopOf Tryd.prog 5 9) ⟨envOf (apE gaps l t i), ovl (apHp gaps i rest) rest⟩ fun e' S' => e' = .normal ∧ Weak X S' ⟨envOf (apE gaps l (t ++ (T ++ gapT 0)) (i + 1)), ovl (apHpO gaps i rest) rest⟩ :=
  seg okP named (apPr gaps l t i kd A T n 0 hi hx hl false hu 0 (fun h => by cases h) h1 h2) 1000 5 800000 121 (by kernel_rfl) X hP hN
theorem apIn (kd : Int) (A : Nat) (T : List UInt8) (n : Int) (c : Nat) (hc : c < 4) (hi : i < l.length) (hx : l[((i : Nat) : Int).toNat]? = some (tokD kd A T n)) (hl : l.length ≤ 1000000) (hu : decide ((i : Int) < ((gaps.map bD).length : Int)) = true) (g : UInt8) (hg : gaps[i]? = some g ∧ g.toNat % 4 = c)
    (h1 : T.length + (gapT c).length ≤ 9223372036854775807) (h2 : t.length + (T ++ gapT c).length ≤ 9223372036854775807) (rest : Heap) (X : Fix) (hP : X.P = Tryd.prog) (hN : X.N = 121) :
    AW X (loopOf Tryd.prog 5 9) ⟨envOf (apE gaps l t i), ovl (apHp gaps i rest) rest⟩ fun e' S' => e' = .normal ∧ Weak X S' ⟨envOf (apE gaps l (t ++ (T ++ gapT c)) (i + 1)), ovl (apHpI gaps i rest) rest⟩ := by
  match c, hc with
  | 0, _ => exact seg okP named (apPr gaps l t i kd A T n 0 hi hx hl true hu g (fun _ => hg) h1 h2) 1000 5 800000 121 (by kernel_rfl) X hP hN
  | 1, _ => exact seg okP named (apPr gaps l t i kd A T n 1 hi hx hl true hu g (fun _ => hg) h1 h2) 1000 5 800000 121 (by kernel_rfl) X hP hN
  | 2, _ => exact seg okP named (apPr gaps l t i kd A T n 2 hi hx hl true hu g (fun _ => hg) h1 h2) 1000 5 800000 121 (by kernel_rfl) X hP hN
  | 3, _ => exact seg okP named (apPr gaps l t i kd A T n 3 hi hx hl true hu g (fun _ => hg) h1 h2) 1000 5 800000 121 (by kernel_rfl) X hP hN
theorem apStop (rest : Heap) (X : Fix) (hP : X.P = Tryd.prog) (hN : X.N = 121) :
    AW X (loopOf Tryd.prog 5 9) ⟨envOf (apE gaps l t l.length), ovl (apHp gaps l.length rest) rest⟩ fun e' S' => e' = .exit 0 ∧ Weak X S' ⟨envOf [(5, .d (.ro l)), (8, .d (.str t))], ovl (apHp gaps l.length rest) rest⟩ :=
  seg okP named { hint := fun f k => if f = 5 then (if k = 37 then some (hLt Tryd.prog l.length l.length false (by simp)) else none) else none } 1000 5 800000 121 (by kernel_rfl) X hP hN
end
theorem apHp_in (gaps : List UInt8) (i : Nat) (rest : Heap) (h : i < gaps.length) : apHpI gaps i rest = apHp gaps (i + 1) rest := by
  unfold apHpI apHp
  rw [show i + 1 - gaps.length = i - gaps.length by omega, show min (i + 1) gaps.length = min i gaps.length + 1 by omega]
  rfl
theorem apHp_out (gaps : List UInt8) (i : Nat) (rest : Heap) (h : gaps.length ≤ i) : apHpO gaps i rest = apHp gaps (i + 1) rest := by
  unfold apHpO apHp
  rw [show i + 1 - gaps.length = i - gaps.length + 1 by omega, show min (i + 1) gaps.length = min i gaps.length by omega]
  rfl

/-! ### The tokens are compared -/
def cpE (l k : List D) (i : Nat) : List (Nat × AV) := [(5, .d (.ro l)), (12, .d (.ro k)), (79, dN k.length), (80, dN i)]
section
variable (l k : List D) (i : Nat)
theorem cpNext (kd : Int) (A A' : Nat) (T : List UInt8) (n : Int) (hi : i < k.length) (hx : l[((i : Nat) : Int).toNat]? = some (tokD kd A T n)) (hy : k[((i : Nat) : Int).toNat]? = some (tokD kd A' T n)) (hl : k.length ≤ 1000000) (rest : Heap) (X : Fix) (hP : X.P = Tryd.prog) (hN : X.N = 121) :
    AW X (loopOf Tryd.prog 5 22) ⟨envOf (cpE l k i), ovl [] rest⟩ fun e' S' => e' = .normal ∧ Weak X S' ⟨envOf (cpE l k (i + 1)), ovl [] rest⟩ :=
  seg okP named { hint := fun f q => if f = 5 then (if q = 81 then some (hLt Tryd.prog i k.length true (by simpa using hi)) else if q = 85 then some (.idx k (i : Int) (tokD kd A' T n) (by omega) hy) else if q = 97 then some (.idx k (i : Int) (tokD kd A' T n) (by omega) hy) else if q = 110 then some (.idx k (i : Int) (tokD kd A' T n) (by omega) hy)
    else if q = 90 then some (.idx l (i : Int) (tokD kd A T n) (by omega) hx) else if q = 102 then some (.idx l (i : Int) (tokD kd A T n) (by omega) hx) else if q = 115 then some (.idx l (i : Int) (tokD kd A T n) (by omega) hx)
    else if q = 93 then some (hB Tryd.prog (kd != kd) false (by simp)) else if q = 105 then some (hB Tryd.prog (!(T == T)) false (by simp)) else if q = 118 then some (hB Tryd.prog (n != n) false (by simp)) else if q = 120 then some (hSucc Tryd.prog i (by omega)) else none) else none } 1000 5 900000 121 (by kernel_rfl) X hP hN
theorem cpStop (rest : Heap) (X : Fix) (hP : X.P = Tryd.prog) (hN : X.N = 121) :
    AW X (loopOf Tryd.prog 5 22) ⟨envOf (cpE l k k.length), ovl [] rest⟩ fun e' S' => e' = .exit 2 ∧ Weak X S' ⟨envOf [], ovl [] rest⟩ :=
  seg okP named { hint := fun f q => if f = 5 then (if q = 81 then some (hLt Tryd.prog k.length k.length false (by simp)) else none) else none } 1000 5 900000 121 (by kernel_rfl) X hP hN
end
end Go.Avm
