/-
  Numbers: the law, on data.
-/
import Derived.Test.YtdmjbpkdngmgkaaDoorLexQ
set_option linter.unusedSectionVars false
namespace Go.Avm
open Go.Proofs

/-! ### The law -/
section
variable (bs : List UInt8) (b c : UInt8)
noncomputable def nlPr (g : Bool) (hg : (nFin bs).2.2 = g) (h0 : (nFin bs).1[(0 : Int).toNat]? = some c) (u0 : Bool) (he0 : ((nFin bs).1 == []) = u0) (hl : (nFin bs).1.length + 1 ≤ 1000) (L : List D) (a e : Int) (hp : Pure Tryd.prog 9 [.str ((nFin bs).1 ++ [b])] [.ro L, .int .i64 a, .int .i64 e])
    (p1 q1 p2 q2 r u z y : Bool) (h1 : ge8 97 b = p1) (h2 : le8 b 122 = q1) (h3 : ge8 65 b = p2) (h4 : le8 b 90 = q2) (h5 : ge8 48 b = r) (h6 : le8 b 57 = u) (hz : decide (1 < ((nFin bs).1.length : Int)) = z) (hy : ((c.toNat : Int) == 48) = y)
    (ea : Bool) (hea : (a == ((nFin bs).1.length : Int)) = ea) (V : Nat) (hV : V < 9223372036854775808) (ev : Bool) (hev : ((V : Int) == (((nFin bs).2.1 : Nat) : Int)) = ev) : Par Tryd.prog :=
  { hint := fun f k => if f = 7 then (if k = 14 then some (.call 11 [] [.bool true] awakeP) else if k = 51 then some (hB Tryd.prog _ u0 he0) else if k = 56 then some (hByte Tryd.prog b) else if k = 57 then some (.cat (nFin bs).1 [b] (by simp only [List.length_singleton]; omega))
      else if k = 58 then some (.call 9 [.str ((nFin bs).1 ++ [b])] [.ro L, .int .i64 a, .int .i64 e] hp) else if k = 63 then some (hB Tryd.prog _ p1 h1) else if k = 66 then some (hB Tryd.prog _ q1 h2) else if k = 70 then some (hB Tryd.prog _ p2 h3) else if k = 73 then some (hB Tryd.prog _ q2 h4)
      else if k = 78 then some (hB Tryd.prog _ r h5) else if k = 81 then some (hB Tryd.prog _ u h6) else if k = 94 then some (hB Tryd.prog _ z hz) else if k = 97 then some (.sidx (nFin bs).1 0 c (by omega) h0) else if k = 98 then some (hB Tryd.prog _ y hy)
      else if k = 118 then some (hB Tryd.prog _ ea hea) else if k = 131 then some (hB Tryd.prog ((nFin bs).1 == (nFin bs).1) true (by simp)) else if k = 138 then some (hU Tryd.prog .u64 (IntKind.u64.wrap (V : Int)) (V : Int) (by rw [IntWalk.u64_in _ (by omega)])) else if k = 140 then some (hB Tryd.prog _ ev hev) else none) else none
    loops := fun f r => if f = 7 then (if r = 5 then some (nbLH bs b g hg) else none) else none }
theorem nlNone (he0 : (nFin bs).1 = []) : Pure Tryd.prog 7 [.ro (bs.map bD), bD b] [.bool true] :=
  pure_of_run okP named { hint := fun f k => if f = 7 then (if k = 14 then some (.call 11 [] [.bool true] awakeP) else if k = 51 then some (hB Tryd.prog ((nFin bs).1 == []) true (by rw [he0]; rfl)) else none) else none, loops := fun f r => if f = 7 then (if r = 5 then some (nbLH bs b _ rfl) else none) else none } 1000 (by kernel_rfl)
def Cb0 (b : UInt8) : Prop := ge8 97 b = false ∧ le8 b 122 = true ∧ ge8 65 b = false ∧ le8 b 90 = true ∧ ge8 48 b = false ∧ le8 b 57 = true
def Cb1 (b : UInt8) : Prop := ge8 97 b = false ∧ le8 b 122 = true ∧ ge8 65 b = false ∧ le8 b 90 = true ∧ ge8 48 b = true ∧ le8 b 57 = true
def Cb2 (b : UInt8) : Prop := ge8 97 b = false ∧ le8 b 122 = true ∧ ge8 65 b = false ∧ le8 b 90 = true ∧ ge8 48 b = true ∧ le8 b 57 = false
def Cb3 (b : UInt8) : Prop := ge8 97 b = false ∧ le8 b 122 = true ∧ ge8 65 b = true ∧ le8 b 90 = true ∧ ge8 48 b = true ∧ le8 b 57 = false
def Cb4 (b : UInt8) : Prop := ge8 97 b = false ∧ le8 b 122 = true ∧ ge8 65 b = true ∧ le8 b 90 = false ∧ ge8 48 b = true ∧ le8 b 57 = false
def Cb5 (b : UInt8) : Prop := ge8 97 b = true ∧ le8 b 122 = true ∧ ge8 65 b = true ∧ le8 b 90 = false ∧ ge8 48 b = true ∧ le8 b 57 = false
def Cb6 (b : UInt8) : Prop := ge8 97 b = true ∧ le8 b 122 = false ∧ ge8 65 b = true ∧ le8 b 90 = false ∧ ge8 48 b = true ∧ le8 b 57 = false
theorem cls7 (b : UInt8) : Cb0 b ∨ Cb1 b ∨ Cb2 b ∨ Cb3 b ∨ Cb4 b ∨ Cb5 b ∨ Cb6 b := by
  simp only [Cb0, Cb1, Cb2, Cb3, Cb4, Cb5, Cb6, ge8, le8, decide_eq_true_eq, decide_eq_false_iff_not]
  omega
theorem nlDigit (h0 : (nFin bs).1[(0 : Int).toNat]? = some c) (he0 : ((nFin bs).1 == []) = false) (hl : (nFin bs).1.length + 1 ≤ 1000) (L : List D) (a e : Int) (hp : Pure Tryd.prog 9 [.str ((nFin bs).1 ++ [b])] [.ro L, .int .i64 a, .int .i64 e]) (hk : Cb1 b) : Pure Tryd.prog 7 [.ro (bs.map bD), bD b] [.bool true] := by
  obtain ⟨h1, h2, h3, h4, h5, h6⟩ := hk
  exact pure_of_run okP named (nlPr bs b c _ rfl h0 false he0 hl L a e hp _ _ _ _ _ _ _ _ h1 h2 h3 h4 h5 h6 rfl rfl _ rfl 0 (by decide) _ rfl) 1000 (by kernel_rfl)
theorem nlGreat (h0 : (nFin bs).1[(0 : Int).toNat]? = some c) (he0 : ((nFin bs).1 == []) = false) (hl : (nFin bs).1.length + 1 ≤ 1000) (hg : (nFin bs).2.2 = true) (hp : Pure Tryd.prog 9 [.str ((nFin bs).1 ++ [b])] [.ro [], .int .i64 0, .int .i64 2]) (hk : Cb0 b ∨ Cb2 b ∨ Cb3 b ∨ Cb4 b ∨ Cb5 b ∨ Cb6 b) : Pure Tryd.prog 7 [.ro (bs.map bD), bD b] [.bool true] := by
  rcases hk with ⟨h1, h2, h3, h4, h5, h6⟩ | ⟨h1, h2, h3, h4, h5, h6⟩ | ⟨h1, h2, h3, h4, h5, h6⟩ | ⟨h1, h2, h3, h4, h5, h6⟩ | ⟨h1, h2, h3, h4, h5, h6⟩ | ⟨h1, h2, h3, h4, h5, h6⟩
  · exact pure_of_run okP named (nlPr bs b c true hg h0 false he0 hl [] 0 2 hp _ _ _ _ _ _ _ _ h1 h2 h3 h4 h5 h6 rfl rfl _ rfl 0 (by decide) _ rfl) 1000 (by kernel_rfl)
  · exact pure_of_run okP named (nlPr bs b c true hg h0 false he0 hl [] 0 2 hp _ _ _ _ _ _ _ _ h1 h2 h3 h4 h5 h6 rfl rfl _ rfl 0 (by decide) _ rfl) 1000 (by kernel_rfl)
  · exact pure_of_run okP named (nlPr bs b c true hg h0 false he0 hl [] 0 2 hp _ _ _ _ _ _ _ _ h1 h2 h3 h4 h5 h6 rfl rfl _ rfl 0 (by decide) _ rfl) 1000 (by kernel_rfl)
  · exact pure_of_run okP named (nlPr bs b c true hg h0 false he0 hl [] 0 2 hp _ _ _ _ _ _ _ _ h1 h2 h3 h4 h5 h6 rfl rfl _ rfl 0 (by decide) _ rfl) 1000 (by kernel_rfl)
  · exact pure_of_run okP named (nlPr bs b c true hg h0 false he0 hl [] 0 2 hp _ _ _ _ _ _ _ _ h1 h2 h3 h4 h5 h6 rfl rfl _ rfl 0 (by decide) _ rfl) 1000 (by kernel_rfl)
  · exact pure_of_run okP named (nlPr bs b c true hg h0 false he0 hl [] 0 2 hp _ _ _ _ _ _ _ _ h1 h2 h3 h4 h5 h6 rfl rfl _ rfl 0 (by decide) _ rfl) 1000 (by kernel_rfl)
theorem nlLead (h0 : (nFin bs).1[(0 : Int).toNat]? = some c) (he0 : ((nFin bs).1 == []) = false) (hl : (nFin bs).1.length + 1 ≤ 1000) (hg : (nFin bs).2.2 = false) (hp : Pure Tryd.prog 9 [.str ((nFin bs).1 ++ [b])] [.ro [], .int .i64 0, .int .i64 4]) (hz : decide (1 < ((nFin bs).1.length : Int)) = true) (hy : ((c.toNat : Int) == 48) = true)  (hk : Cb0 b ∨ Cb2 b ∨ Cb3 b ∨ Cb4 b ∨ Cb5 b ∨ Cb6 b) : Pure Tryd.prog 7 [.ro (bs.map bD), bD b] [.bool true] := by
  rcases hk with ⟨h1, h2, h3, h4, h5, h6⟩ | ⟨h1, h2, h3, h4, h5, h6⟩ | ⟨h1, h2, h3, h4, h5, h6⟩ | ⟨h1, h2, h3, h4, h5, h6⟩ | ⟨h1, h2, h3, h4, h5, h6⟩ | ⟨h1, h2, h3, h4, h5, h6⟩
  · exact pure_of_run okP named (nlPr bs b c false hg h0 false he0 hl [] 0 4 hp _ _ _ _ _ _ true true h1 h2 h3 h4 h5 h6 hz hy _ rfl 0 (by decide) _ rfl) 1000 (by kernel_rfl)
  · exact pure_of_run okP named (nlPr bs b c false hg h0 false he0 hl [] 0 4 hp _ _ _ _ _ _ true true h1 h2 h3 h4 h5 h6 hz hy _ rfl 0 (by decide) _ rfl) 1000 (by kernel_rfl)
  · exact pure_of_run okP named (nlPr bs b c false hg h0 false he0 hl [] 0 4 hp _ _ _ _ _ _ true true h1 h2 h3 h4 h5 h6 hz hy _ rfl 0 (by decide) _ rfl) 1000 (by kernel_rfl)
  · exact pure_of_run okP named (nlPr bs b c false hg h0 false he0 hl [] 0 4 hp _ _ _ _ _ _ true true h1 h2 h3 h4 h5 h6 hz hy _ rfl 0 (by decide) _ rfl) 1000 (by kernel_rfl)
  · exact pure_of_run okP named (nlPr bs b c false hg h0 false he0 hl [] 0 4 hp _ _ _ _ _ _ true true h1 h2 h3 h4 h5 h6 hz hy _ rfl 0 (by decide) _ rfl) 1000 (by kernel_rfl)
  · exact pure_of_run okP named (nlPr bs b c false hg h0 false he0 hl [] 0 4 hp _ _ _ _ _ _ true true h1 h2 h3 h4 h5 h6 hz hy _ rfl 0 (by decide) _ rfl) 1000 (by kernel_rfl)
theorem nlLetA (h0 : (nFin bs).1[(0 : Int).toNat]? = some c) (he0 : ((nFin bs).1 == []) = false) (hl : (nFin bs).1.length + 1 ≤ 1000) (hg : (nFin bs).2.2 = false) (hp : Pure Tryd.prog 9 [.str ((nFin bs).1 ++ [b])] [.ro [], .int .i64 0, .int .i64 4]) (hz : decide (1 < ((nFin bs).1.length : Int)) = false)  (hk : Cb3 b ∨ Cb5 b) : Pure Tryd.prog 7 [.ro (bs.map bD), bD b] [.bool true] := by
  rcases hk with ⟨h1, h2, h3, h4, h5, h6⟩ | ⟨h1, h2, h3, h4, h5, h6⟩
  · exact pure_of_run okP named (nlPr bs b c false hg h0 false he0 hl [] 0 4 hp _ _ _ _ _ _ false _ h1 h2 h3 h4 h5 h6 hz rfl _ rfl 0 (by decide) _ rfl) 1000 (by kernel_rfl)
  · exact pure_of_run okP named (nlPr bs b c false hg h0 false he0 hl [] 0 4 hp _ _ _ _ _ _ false _ h1 h2 h3 h4 h5 h6 hz rfl _ rfl 0 (by decide) _ rfl) 1000 (by kernel_rfl)
theorem nlLetB (h0 : (nFin bs).1[(0 : Int).toNat]? = some c) (he0 : ((nFin bs).1 == []) = false) (hl : (nFin bs).1.length + 1 ≤ 1000) (hg : (nFin bs).2.2 = false) (hp : Pure Tryd.prog 9 [.str ((nFin bs).1 ++ [b])] [.ro [], .int .i64 0, .int .i64 4]) (hz : decide (1 < ((nFin bs).1.length : Int)) = true) (hy : ((c.toNat : Int) == 48) = false)  (hk : Cb3 b ∨ Cb5 b) : Pure Tryd.prog 7 [.ro (bs.map bD), bD b] [.bool true] := by
  rcases hk with ⟨h1, h2, h3, h4, h5, h6⟩ | ⟨h1, h2, h3, h4, h5, h6⟩
  · exact pure_of_run okP named (nlPr bs b c false hg h0 false he0 hl [] 0 4 hp _ _ _ _ _ _ true false h1 h2 h3 h4 h5 h6 hz hy _ rfl 0 (by decide) _ rfl) 1000 (by kernel_rfl)
  · exact pure_of_run okP named (nlPr bs b c false hg h0 false he0 hl [] 0 4 hp _ _ _ _ _ _ true false h1 h2 h3 h4 h5 h6 hz hy _ rfl 0 (by decide) _ rfl) 1000 (by kernel_rfl)
theorem nlFarA (h0 : (nFin bs).1[(0 : Int).toNat]? = some c) (he0 : ((nFin bs).1 == []) = false) (hl : (nFin bs).1.length + 1 ≤ 1000) (hg : (nFin bs).2.2 = false) (hp : Pure Tryd.prog 9 [.str ((nFin bs).1 ++ [b])] [.ro [], .int .i64 ((nFin bs).1.length : Int), .int .i64 4]) (hz : decide (1 < ((nFin bs).1.length : Int)) = false)  (hk : Cb0 b ∨ Cb2 b ∨ Cb4 b ∨ Cb6 b) : Pure Tryd.prog 7 [.ro (bs.map bD), bD b] [.bool true] := by
  rcases hk with ⟨h1, h2, h3, h4, h5, h6⟩ | ⟨h1, h2, h3, h4, h5, h6⟩ | ⟨h1, h2, h3, h4, h5, h6⟩ | ⟨h1, h2, h3, h4, h5, h6⟩
  · exact pure_of_run okP named (nlPr bs b c false hg h0 false he0 hl [] ((nFin bs).1.length : Int) 4 hp _ _ _ _ _ _ false _ h1 h2 h3 h4 h5 h6 hz rfl _ (show (((nFin bs).1.length : Int) == ((nFin bs).1.length : Int)) = true by simp) 0 (by decide) _ rfl) 1000 (by kernel_rfl)
  · exact pure_of_run okP named (nlPr bs b c false hg h0 false he0 hl [] ((nFin bs).1.length : Int) 4 hp _ _ _ _ _ _ false _ h1 h2 h3 h4 h5 h6 hz rfl _ (show (((nFin bs).1.length : Int) == ((nFin bs).1.length : Int)) = true by simp) 0 (by decide) _ rfl) 1000 (by kernel_rfl)
  · exact pure_of_run okP named (nlPr bs b c false hg h0 false he0 hl [] ((nFin bs).1.length : Int) 4 hp _ _ _ _ _ _ false _ h1 h2 h3 h4 h5 h6 hz rfl _ (show (((nFin bs).1.length : Int) == ((nFin bs).1.length : Int)) = true by simp) 0 (by decide) _ rfl) 1000 (by kernel_rfl)
  · exact pure_of_run okP named (nlPr bs b c false hg h0 false he0 hl [] ((nFin bs).1.length : Int) 4 hp _ _ _ _ _ _ false _ h1 h2 h3 h4 h5 h6 hz rfl _ (show (((nFin bs).1.length : Int) == ((nFin bs).1.length : Int)) = true by simp) 0 (by decide) _ rfl) 1000 (by kernel_rfl)
theorem nlFarB (h0 : (nFin bs).1[(0 : Int).toNat]? = some c) (he0 : ((nFin bs).1 == []) = false) (hl : (nFin bs).1.length + 1 ≤ 1000) (hg : (nFin bs).2.2 = false) (hp : Pure Tryd.prog 9 [.str ((nFin bs).1 ++ [b])] [.ro [], .int .i64 ((nFin bs).1.length : Int), .int .i64 4]) (hz : decide (1 < ((nFin bs).1.length : Int)) = true) (hy : ((c.toNat : Int) == 48) = false)  (hk : Cb0 b ∨ Cb2 b ∨ Cb4 b ∨ Cb6 b) : Pure Tryd.prog 7 [.ro (bs.map bD), bD b] [.bool true] := by
  rcases hk with ⟨h1, h2, h3, h4, h5, h6⟩ | ⟨h1, h2, h3, h4, h5, h6⟩ | ⟨h1, h2, h3, h4, h5, h6⟩ | ⟨h1, h2, h3, h4, h5, h6⟩
  · exact pure_of_run okP named (nlPr bs b c false hg h0 false he0 hl [] ((nFin bs).1.length : Int) 4 hp _ _ _ _ _ _ true false h1 h2 h3 h4 h5 h6 hz hy _ (show (((nFin bs).1.length : Int) == ((nFin bs).1.length : Int)) = true by simp) 0 (by decide) _ rfl) 1000 (by kernel_rfl)
  · exact pure_of_run okP named (nlPr bs b c false hg h0 false he0 hl [] ((nFin bs).1.length : Int) 4 hp _ _ _ _ _ _ true false h1 h2 h3 h4 h5 h6 hz hy _ (show (((nFin bs).1.length : Int) == ((nFin bs).1.length : Int)) = true by simp) 0 (by decide) _ rfl) 1000 (by kernel_rfl)
  · exact pure_of_run okP named (nlPr bs b c false hg h0 false he0 hl [] ((nFin bs).1.length : Int) 4 hp _ _ _ _ _ _ true false h1 h2 h3 h4 h5 h6 hz hy _ (show (((nFin bs).1.length : Int) == ((nFin bs).1.length : Int)) = true by simp) 0 (by decide) _ rfl) 1000 (by kernel_rfl)
  · exact pure_of_run okP named (nlPr bs b c false hg h0 false he0 hl [] ((nFin bs).1.length : Int) 4 hp _ _ _ _ _ _ true false h1 h2 h3 h4 h5 h6 hz hy _ (show (((nFin bs).1.length : Int) == ((nFin bs).1.length : Int)) = true by simp) 0 (by decide) _ rfl) 1000 (by kernel_rfl)
theorem nlOkA (h0 : (nFin bs).1[(0 : Int).toNat]? = some c) (he0 : ((nFin bs).1 == []) = false) (hl : (nFin bs).1.length + 1 ≤ 1000) (L : List D) (hg : (nFin bs).2.2 = false) (hV : (nFin bs).2.1 < 9223372036854775808) (hp : Pure Tryd.prog 9 [.str ((nFin bs).1 ++ [b])] [.ro (tokD 3 0 (nFin bs).1 ((nFin bs).2.1 : Int) :: L), .int .i64 0, .int .i64 0]) (hz : decide (1 < ((nFin bs).1.length : Int)) = false)  (hk : Cb0 b ∨ Cb2 b ∨ Cb4 b ∨ Cb6 b) : Pure Tryd.prog 7 [.ro (bs.map bD), bD b] [.bool true] := by
  rcases hk with ⟨h1, h2, h3, h4, h5, h6⟩ | ⟨h1, h2, h3, h4, h5, h6⟩ | ⟨h1, h2, h3, h4, h5, h6⟩ | ⟨h1, h2, h3, h4, h5, h6⟩
  · exact pure_of_run okP named (nlPr bs b c false hg h0 false he0 hl (tokD 3 0 (nFin bs).1 ((nFin bs).2.1 : Int) :: L) 0 0 hp _ _ _ _ _ _ false _ h1 h2 h3 h4 h5 h6 hz rfl _ rfl (nFin bs).2.1 hV _ (show (((nFin bs).2.1 : Int) == ((nFin bs).2.1 : Int)) = true by simp)) 1000 (by kernel_rfl)
  · exact pure_of_run okP named (nlPr bs b c false hg h0 false he0 hl (tokD 3 0 (nFin bs).1 ((nFin bs).2.1 : Int) :: L) 0 0 hp _ _ _ _ _ _ false _ h1 h2 h3 h4 h5 h6 hz rfl _ rfl (nFin bs).2.1 hV _ (show (((nFin bs).2.1 : Int) == ((nFin bs).2.1 : Int)) = true by simp)) 1000 (by kernel_rfl)
  · exact pure_of_run okP named (nlPr bs b c false hg h0 false he0 hl (tokD 3 0 (nFin bs).1 ((nFin bs).2.1 : Int) :: L) 0 0 hp _ _ _ _ _ _ false _ h1 h2 h3 h4 h5 h6 hz rfl _ rfl (nFin bs).2.1 hV _ (show (((nFin bs).2.1 : Int) == ((nFin bs).2.1 : Int)) = true by simp)) 1000 (by kernel_rfl)
  · exact pure_of_run okP named (nlPr bs b c false hg h0 false he0 hl (tokD 3 0 (nFin bs).1 ((nFin bs).2.1 : Int) :: L) 0 0 hp _ _ _ _ _ _ false _ h1 h2 h3 h4 h5 h6 hz rfl _ rfl (nFin bs).2.1 hV _ (show (((nFin bs).2.1 : Int) == ((nFin bs).2.1 : Int)) = true by simp)) 1000 (by kernel_rfl)
theorem nlOkB (h0 : (nFin bs).1[(0 : Int).toNat]? = some c) (he0 : ((nFin bs).1 == []) = false) (hl : (nFin bs).1.length + 1 ≤ 1000) (L : List D) (hg : (nFin bs).2.2 = false) (hV : (nFin bs).2.1 < 9223372036854775808) (hp : Pure Tryd.prog 9 [.str ((nFin bs).1 ++ [b])] [.ro (tokD 3 0 (nFin bs).1 ((nFin bs).2.1 : Int) :: L), .int .i64 0, .int .i64 0]) (hz : decide (1 < ((nFin bs).1.length : Int)) = true) (hy : ((c.toNat : Int) == 48) = false)  (hk : Cb0 b ∨ Cb2 b ∨ Cb4 b ∨ Cb6 b) : Pure Tryd.prog 7 [.ro (bs.map bD), bD b] [.bool true] := by
  rcases hk with ⟨h1, h2, h3, h4, h5, h6⟩ | ⟨h1, h2, h3, h4, h5, h6⟩ | ⟨h1, h2, h3, h4, h5, h6⟩ | ⟨h1, h2, h3, h4, h5, h6⟩
  · exact pure_of_run okP named (nlPr bs b c false hg h0 false he0 hl (tokD 3 0 (nFin bs).1 ((nFin bs).2.1 : Int) :: L) 0 0 hp _ _ _ _ _ _ true false h1 h2 h3 h4 h5 h6 hz hy _ rfl (nFin bs).2.1 hV _ (show (((nFin bs).2.1 : Int) == ((nFin bs).2.1 : Int)) = true by simp)) 1000 (by kernel_rfl)
  · exact pure_of_run okP named (nlPr bs b c false hg h0 false he0 hl (tokD 3 0 (nFin bs).1 ((nFin bs).2.1 : Int) :: L) 0 0 hp _ _ _ _ _ _ true false h1 h2 h3 h4 h5 h6 hz hy _ rfl (nFin bs).2.1 hV _ (show (((nFin bs).2.1 : Int) == ((nFin bs).2.1 : Int)) = true by simp)) 1000 (by kernel_rfl)
  · exact pure_of_run okP named (nlPr bs b c false hg h0 false he0 hl (tokD 3 0 (nFin bs).1 ((nFin bs).2.1 : Int) :: L) 0 0 hp _ _ _ _ _ _ true false h1 h2 h3 h4 h5 h6 hz hy _ rfl (nFin bs).2.1 hV _ (show (((nFin bs).2.1 : Int) == ((nFin bs).2.1 : Int)) = true by simp)) 1000 (by kernel_rfl)
  · exact pure_of_run okP named (nlPr bs b c false hg h0 false he0 hl (tokD 3 0 (nFin bs).1 ((nFin bs).2.1 : Int) :: L) 0 0 hp _ _ _ _ _ _ true false h1 h2 h3 h4 h5 h6 hz hy _ rfl (nFin bs).2.1 hV _ (show (((nFin bs).2.1 : Int) == ((nFin bs).2.1 : Int)) = true by simp)) 1000 (by kernel_rfl)
end
theorem letterCls {b : UInt8} (h : letter [b] = true) : Cb3 b ∨ Cb5 b := by
  simp only [letter, great, isSm, ge8, le8, Bool.or_eq_true, Bool.and_eq_true, decide_eq_true_eq] at h
  simp only [Cb3, Cb5, ge8, le8, decide_eq_true_eq, decide_eq_false_iff_not]
  omega
theorem noLetterCls {b : UInt8} (h : letter [b] = false) (hd : ¬ Cb1 b) : Cb0 b ∨ Cb2 b ∨ Cb4 b ∨ Cb6 b := by
  simp only [letter, great, isSm, ge8, le8, Bool.or_eq_false_iff, Bool.and_eq_false_iff, decide_eq_false_iff_not] at h
  simp only [Cb0, Cb1, Cb2, Cb4, Cb6, ge8, le8, decide_eq_true_eq, decide_eq_false_iff_not] at hd ⊢
  omega
theorem numbersLaw (bs : List UInt8) (b : UInt8) : Pure Tryd.prog 7 [.ro (bs.map bD), bD b] [.bool true] := by
  obtain ⟨k1, k2, k3, k4, k5⟩ := nAll_spec bs (min bs.length 40) (by omega)
  have k1 : (nFin bs).1.length = min bs.length 40 := k1
  have k2 : ∀ x ∈ (nFin bs).1, isDig x = true := k2
  have k4 : (nFin bs).2.2 = true ↔ 9223372036854775808 ≤ dv 0 (nFin bs).1 := k4
  have k5 : (nFin bs).2.2 = false → (nFin bs).2.1 = dv 0 (nFin bs).1 := k5
  cases hT : (nFin bs).1 with
  | nil => exact nlNone bs b hT
  | cons c r =>
    have h0 : (nFin bs).1[(0 : Int).toNat]? = some c := by rw [hT]; rfl
    have he0 : ((nFin bs).1 == []) = false := by rw [hT]; rfl
    have hl : (nFin bs).1.length + 1 ≤ 1000 := by omega
    have hsc := scanC ((nFin bs).1 ++ [b])
    have hcls := cls7 b
    cases hd : isDig b with
    | true =>
      have hk : Cb1 b := by
        have := (isDig_iff b).1 hd
        simp only [Cb1, ge8, le8, decide_eq_true_eq, decide_eq_false_iff_not]
        omega
      exact nlDigit bs b c h0 he0 hl _ _ _ hsc hk
    | false =>
      have hnd : ¬ Cb1 b := by
        intro hk
        have : isDig b = true := by
          rw [isDig, hk.2.2.2.2.1, hk.2.2.2.2.2]; rfl
        rw [hd] at this; cases this
      have six : Cb0 b ∨ Cb2 b ∨ Cb3 b ∨ Cb4 b ∨ Cb5 b ∨ Cb6 b := (by
          rcases hcls with h | h | h | h | h | h | h
          · exact .inl h
          · exact absurd h hnd
          · exact .inr (.inl h)
          · exact .inr (.inr (.inl h))
          · exact .inr (.inr (.inr (.inl h)))
          · exact .inr (.inr (.inr (.inr (.inl h))))
          · exact .inr (.inr (.inr (.inr (.inr h)))))
      have hnum := scanNum c r b (by rw [← hT]; exact k2) (by rw [← hT]; omega) hd
      rw [← hT] at hnum
      have hz : ∀ z, decide (1 < (nFin bs).1.length) = z → decide (1 < ((nFin bs).1.length : Int)) = z := fun z hz => by rw [← hz]; exact decide_eq_decide.2 (by omega)
      have hy : ∀ y, (c.toNat == 48) = y → ((c.toNat : Int) == 48) = y := fun y hy => by
        rw [← hy, Bool.eq_iff_iff]; simp only [beq_iff_eq]; omega
      cases hg : (nFin bs).2.2 with
      | true =>
        rw [hnum.1 (k4.1 hg)] at hsc
        exact nlGreat bs b c h0 he0 hl hg hsc six
      | false =>
        have hv : ¬ 9223372036854775808 ≤ dv 0 (nFin bs).1 := fun hx => by rw [k4.2 hx] at hg; cases hg
        have hW := k5 hg
        cases hbad : ((decide (1 < (nFin bs).1.length) && c.toNat == 48) || letter [b]) with
        | true =>
          rw [hnum.2.1 hv hbad] at hsc
          cases hz' : decide (1 < (nFin bs).1.length) with
          | false =>
            rw [hz', Bool.false_and, Bool.false_or] at hbad
            exact nlLetA bs b c h0 he0 hl hg hsc (hz _ hz') (letterCls hbad)
          | true =>
            cases hy' : (c.toNat == 48) with
            | true => exact nlLead bs b c h0 he0 hl hg hsc (hz _ hz') (hy _ hy') six
            | false =>
              rw [hy', Bool.and_false, Bool.false_or] at hbad
              exact nlLetB bs b c h0 he0 hl hg hsc (hz _ hz') (hy _ hy') (letterCls hbad)
        | false =>
          rw [Bool.or_eq_false_iff] at hbad
          have hcl := noLetterCls hbad.2 hnd
          have hnum3 := hnum.2.2 hv (by rw [hbad.1, hbad.2]; rfl)
          rw [← hW] at hnum3
          rcases hnum3 with ⟨L, hnum3⟩ | hnum3
          · rw [hnum3] at hsc
            cases hz' : decide (1 < (nFin bs).1.length) with
            | false => exact nlOkA bs b c h0 he0 hl L hg (by omega) hsc (hz _ hz') hcl
            | true =>
              have hy' : (c.toNat == 48) = false := by simpa [hz'] using hbad.1
              exact nlOkB bs b c h0 he0 hl L hg (by omega) hsc (hz _ hz') (hy _ hy') hcl
          · rw [hnum3] at hsc
            cases hz' : decide (1 < (nFin bs).1.length) with
            | false => exact nlFarA bs b c h0 he0 hl hg hsc (hz _ hz') hcl
            | true =>
              have hy' : (c.toNat == 48) = false := by simpa [hz'] using hbad.1
              exact nlFarB bs b c h0 he0 hl hg hsc (hz _ hz') (hy _ hy') hcl
end Go.Avm
