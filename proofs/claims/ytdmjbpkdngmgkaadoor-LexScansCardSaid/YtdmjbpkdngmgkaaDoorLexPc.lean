/-
  Places: lists compared; the law's own loop, on data.
-/
import Derived.Test.YtdmjbpkdngmgkaaDoorLexPb
import Derived.Test.YtdmjbpkdngmgkaaDoorLexQ
set_option linter.unusedSectionVars false
namespace Go.Avm
open Go.Proofs

/-! ### Two lists of tokens that are one -/
def smE (l : List D) (i : Nat) : List (Nat × AV) := [(0, .d (.ro l)), (1, .d (.ro l)), (12, dN l.length), (13, dN i)]
section
variable (l : List D) (i : Nat)
theorem smNext (kd : Int) (A : Nat) (T : List UInt8) (n : Int) (hi : i < l.length) (hx : l[((i : Nat) : Int).toNat]? = some (tokD kd A T n)) (hs : i < 1099511627776) (rest : Heap) (X : Fix) (hP : X.P = Tryd.prog) (hN : X.N = 26) :
    AW X (loopOf Tryd.prog 12 4) ⟨envOf (smE l i), ovl [] rest⟩ fun e' S' => e' = .normal ∧ Weak X S' ⟨envOf (smE l (i + 1)), ovl [] rest⟩ :=
  seg okP named { hint := fun f k => if f = 12 then (if k = 14 then some (hLt Tryd.prog i l.length true (by simpa using hi)) else if k = 18 then some (.idx l (i : Int) (tokD kd A T n) (by omega) hx) else if k = 22 then some (.idx l (i : Int) (tokD kd A T n) (by omega) hx)
    else if k = 24 then some (hB Tryd.prog (!((kd == kd) && (((A : Int) == (A : Int)) && ((T == T) && ((n == n) && true))))) false (by simp)) else if k = 25 then some (hSucc Tryd.prog i hs) else none) else none } 1000 12 900000 26 (by kernel_rfl) X hP hN
theorem smStop (rest : Heap) (X : Fix) (hP : X.P = Tryd.prog) (hN : X.N = 26) :
    AW X (loopOf Tryd.prog 12 4) ⟨envOf (smE l l.length), ovl [] rest⟩ fun e' S' => e' = .exit 0 ∧ Weak X S' ⟨envOf [], ovl [] rest⟩ :=
  seg okP named { hint := fun f k => if f = 12 then (if k = 14 then some (hLt Tryd.prog l.length l.length false (by simp)) else none) else none } 1000 12 900000 26 (by kernel_rfl) X hP hN
end
theorem smLoop (ts : List (Nat × Tok)) (hl : ts.length ≤ 1000000) (rest : Heap) (X : Fix) (hP : X.P = Tryd.prog) (hN : X.N = 26) :
    AW X (.loop (loopOf Tryd.prog 12 4)) ⟨envOf (smE (ts.map tokOf) 0), ovl [] rest⟩ fun e' S' => e' = .exit 0 ∧ S' = ⟨envOf [], ovl [] rest⟩ :=
  loop_of_segs (P := Tryd.prog) (N := 26) (c := loopOf Tryd.prog 12 4) (smE (ts.map tokOf)) (fun _ _ => []) (fun i => i ≤ (ts.map tokOf).length) (fun i => (ts.map tokOf).length - i) (.exit 0) [] (fun _ => []) 0 (Nat.zero_le _) (by simp)
    (fun rest i hi => by
      rcases Nat.lt_or_ge i (ts.map tokOf).length with h | h
      · have hlt : i < ts.length := by rw [List.length_map] at h; exact h
        have hx : (ts.map tokOf)[((i : Nat) : Int).toNat]? = some (tokOf ts[i]) := by
          rw [Int.toNat_natCast, List.getElem?_map, List.getElem?_eq_getElem hlt]; rfl
        exact .inl ⟨i + 1, h, by omega, fun X hP hN => smNext (ts.map tokOf) i _ _ _ _ h hx (by omega) rest X hP hN⟩
      · have : i = (ts.map tokOf).length := by omega
        subst this
        exact .inr fun X hP hN => smStop (ts.map tokOf) rest X hP hN) rest X hP hN
theorem sameC (ts : List (Nat × Tok)) (hl : ts.length ≤ 1000000) : Pure Tryd.prog 12 [.ro (ts.map tokOf), .ro (ts.map tokOf)] [.bool true] :=
  pure_of_run okP named { hint := fun f k => if f = 12 then (if k = 10 then some (hB Tryd.prog (((ts.map tokOf).length : Int) != ((ts.map tokOf).length : Int)) false (by simp)) else none) else none
                          loops := fun f r => if f = 12 then (if r = 4 then some ⟨26, loopOf Tryd.prog 12 4, smE (ts.map tokOf) 0, fun _ => [], .exit 0, [], fun _ => [], smLoop ts hl⟩ else none) else none } 1000 (by kernel_rfl)

/-! ### The rounds -/
def plE (s m : List UInt8) (l : List D) (at0 i : Nat) : List (Nat × AV) := [(0, .d (.str s)), (1, .d (.str m)), (5, .d (.ro l)), (8, dN at0), (40, .d (.ro l)), (41, dN l.length), (42, dN i)]
def plHp (i : Nat) (rest : Heap) : List (Nat × Ent) := [(800626, ⟨(rest 800626).ver + i, none⟩)]
section
variable (s m : List UInt8) (l : List D) (at0 i : Nat)
noncomputable def plPr (kd : Int) (A : Nat) (T : List UInt8) (n : Int) (z : Bool) (hz : (kd == 0) = z) (hi : i < l.length) (hx : l[((i : Nat) : Int).toNat]? = some (tokD kd A T n)) (hs : s.length ≤ 100000) (hl : l.length ≤ 1000000) (hat : at0 ≤ A) (hA : A + T.length ≤ s.length) (hT : (s.drop A).take T.length = T)
    (hlast : ((i : Int) == ((l.length - 1 : Nat) : Int)) = z) (hne : z = false → T ≠ []) (hp : Pure Tryd.prog 9 [.str ((s.take A).drop at0)] [.ro [tokD 0 (A - at0) [] 0], .int .i64 0, .int .i64 0]) : Par Tryd.prog :=
  { hint := fun f k => if f = 6 then (if k = 43 then some (hLt Tryd.prog i l.length true (by simpa using hi)) else if k = 45 then some (.idx l (i : Int) (tokD kd A T n) (by omega) hx) else if k = 50 then some (hB Tryd.prog (decide ((A : Int) < (at0 : Int))) false (by simp only [decide_eq_false_iff_not]; omega))
      else if k = 57 then some (hAdd Tryd.prog A T.length (by omega)) else if k = 60 then some (hB Tryd.prog (decide ((s.length : Int) < ((A + T.length : Nat) : Int))) false (by simp only [decide_eq_false_iff_not]; omega))
      else if k = 71 then some (hAdd Tryd.prog A T.length (by omega)) else if k = 72 then some (.sub s A (A + T.length) ⟨by omega, hA⟩) else if k = 75 then some (hB Tryd.prog (!(((s.take (A + T.length)).drop A) == T)) false (by rw [List.drop_take, Nat.add_sub_cancel_left, hT]; simp))
      else if k = 80 then some (hB Tryd.prog _ z hz) else if k = 84 then some (hU Tryd.prog .i64 (IntKind.i64.wrap ((l.length : Int) - 1)) ((l.length - 1 : Nat) : Int) (by rw [IntWalk.i64_in _ (by omega)]; omega)) else if k = 85 then some (hB Tryd.prog _ z hlast)
      else if k = 91 then some (hB Tryd.prog (kd != 0) (!z) (by rw [← hz]; rfl)) else if k = 95 then (if h : z = false then some (hB Tryd.prog (T == []) false (by simpa using hne h)) else none) else if k = 103 then some (.sub s at0 A ⟨hat, by omega⟩)
      else if k = 104 then some (.call 9 _ _ hp) else if k = 120 then some (hAdd Tryd.prog A T.length (by omega)) else if k = 121 then some (hSucc Tryd.prog i (by omega)) else none) else none }
theorem plNext (kd : Int) (A : Nat) (T : List UInt8) (n : Int) (z : Bool) (hz : (kd == 0) = z) (hi : i < l.length) (hx : l[((i : Nat) : Int).toNat]? = some (tokD kd A T n)) (hs : s.length ≤ 100000) (hl : l.length ≤ 1000000) (hat : at0 ≤ A) (hA : A + T.length ≤ s.length) (hT : (s.drop A).take T.length = T)
    (hlast : ((i : Int) == ((l.length - 1 : Nat) : Int)) = z) (hne : z = false → T ≠ []) (hp : Pure Tryd.prog 9 [.str ((s.take A).drop at0)] [.ro [tokD 0 (A - at0) [] 0], .int .i64 0, .int .i64 0]) (rest : Heap) (X : Fix) (hP : X.P = Tryd.prog) (hN : X.N = 154) :
    AW X (loopOf Tryd.prog 6 10) ⟨envOf (plE s m l at0 i), ovl (plHp i rest) rest⟩ fun e' S' => e' = .normal ∧ Weak X S' ⟨envOf (plE s m l (A + T.length) (i + 1)), ovl (plHp (i + 1) rest) rest⟩ := by
  cases z with
  | false => exact seg okP named (plPr s l at0 i kd A T n false hz hi hx hs hl hat hA hT hlast hne hp) 1000 6 800000 154 (by kernel_rfl) X hP hN
  | true => exact seg okP named (plPr s l at0 i kd A T n true hz hi hx hs hl hat hA hT hlast hne hp) 1000 6 800000 154 (by kernel_rfl) X hP hN
theorem plStop (rest : Heap) (X : Fix) (hP : X.P = Tryd.prog) (hN : X.N = 154) :
    AW X (loopOf Tryd.prog 6 10) ⟨envOf (plE s m l at0 l.length), ovl (plHp l.length rest) rest⟩ fun e' S' => e' = .exit 0 ∧ Weak X S' ⟨envOf [(0, .d (.str s)), (1, .d (.str m)), (5, .d (.ro l))], ovl (plHp l.length rest) rest⟩ :=
  seg okP named { hint := fun f k => if f = 6 then (if k = 43 then some (hLt Tryd.prog l.length l.length false (by simp)) else none) else none } 1000 6 800000 154 (by kernel_rfl) X hP hN
end
end Go.Avm
