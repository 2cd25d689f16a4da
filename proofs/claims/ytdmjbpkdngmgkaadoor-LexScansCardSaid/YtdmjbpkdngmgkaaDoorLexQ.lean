/-
  Numbers: the rounds of the law's loop, on data.
-/
import Derived.Test.YtdmjbpkdngmgkaaDoorLexO
set_option linter.unusedSectionVars false
namespace Go.Avm
open Go.Proofs

abbrev dU (n : Nat) : AV := .d (.int .u64 (n : Int))
def nmbE (bs : List UInt8) (b : UInt8) (t : List UInt8) (W : Nat) (g : Bool) (i : Nat) : List (Nat × AV) := [(1, .d (bD b)), (5, .d (.str t)), (6, dU W), (7, dB g), (16, .d (.ro (bs.map bD))), (17, dN (bs.map bD).length), (18, dN i)]
def nmbO (b : UInt8) (t : List UInt8) (W : Nat) (g : Bool) : List (Nat × AV) := [(1, .d (bD b)), (5, .d (.str t)), (6, dU W), (7, dB g)]
theorem tmod10 (x : UInt8) : (x.toNat : Int).tmod 10 = ((dg x : Nat) : Int) := by
  rw [Int.tmod_eq_emod_of_nonneg (by omega)]
  unfold dg
  omega
def hU (P : Program) (k : IntKind) (x y : Int) (h : x = y) : Hint P := .val (.d (.int k x)) (.d (.int k y)) (by rw [h])
section
variable (bs : List UInt8) (b : UInt8) (t : List UInt8) (W : Nat) (g : Bool) (i : Nat)
noncomputable def nbPr (x : UInt8) (c : Nat) (hc : dg x = c) (hi : i < bs.length) (hx : bs[i]? = some x) (hW : W < 18446744073709551616) (f40 : Bool) (h40 : decide (40 ≤ (i : Int)) = f40) (u : Bool) (hu : decide ((9223372036854775807 - c) / 10 < W) = u) (ht : t.length ≤ 1000) (hn : i ≤ 1000) : Par Tryd.prog :=
  { hint := fun f k => if f = 7 then (if k = 19 then some (hLt Tryd.prog i (bs.map bD).length true (by rw [List.length_map]; exact decide_eq_true hi)) else if k = 21 then some (.idx (bs.map bD) (i : Int) (bD x) (by omega) (by simp [hx])) else if k = 24 then some (hB Tryd.prog _ f40 h40)
      else if k = 27 then some (hU Tryd.prog .u8 ((x.toNat : Int).tmod 10) (c : Int) (by rw [tmod10, hc])) else if k = 29 then some (hU Tryd.prog .u8 ((x.toNat : Int).tmod 10) (c : Int) (by rw [tmod10, hc])) else if k = 30 then some (hU Tryd.prog .u8 (IntKind.u8.wrap ((c : Int) + 1)) ((c + 1 : Nat) : Int) (by have := dg_lt x; rw [IntWalk.u8_in _ (by omega)]; omega))
      else if k = 31 then some (.sub digs c (c + 1) (by have := dg_lt x; simp only [digs, List.length_cons, List.length_nil]; omega)) else if k = 32 then some (.cat t (dgT c) (by have := dg_lt x; rw [dgT_eq c (by omega)]; simp only [List.length_singleton]; omega))
      else if k = 37 then some (hU Tryd.prog .u8 ((x.toNat : Int).tmod 10) (c : Int) (by rw [tmod10, hc])) else if k = 38 then some (hU Tryd.prog .u64 (IntKind.u64.wrap (c : Int)) (c : Int) (by have := dg_lt x; rw [IntWalk.u64_in _ (by omega)]))
      else if k = 39 then some (hU Tryd.prog .u64 (IntKind.u64.wrap (9223372036854775807 - (c : Int))) ((9223372036854775807 - c : Nat) : Int) (by have := dg_lt x; rw [IntWalk.u64_in _ (by omega)]; omega))
      else if k = 40 then some (hU Tryd.prog .u64 (IntKind.u64.wrap (((9223372036854775807 - c : Nat) : Int).tdiv 10)) (((9223372036854775807 - c) / 10 : Nat) : Int) (by have := dg_lt x; rw [IntWalk.u64_quo _ _ (by omega)]; omega))
      else if k = 41 then some (.val (dB (decide ((((9223372036854775807 - c) / 10 : Nat) : Int) < (W : Int)))) (dB u) (by rw [← hu]; congr 2; exact propext Int.ofNat_lt))
      else if k = 44 then some (hU Tryd.prog .u64 (IntKind.u64.wrap ((W : Int) * 10)) ((W * 10 % 18446744073709551616 : Nat) : Int) (by rw [IntKind.wrap_u64]; omega)) else if k = 46 then some (hU Tryd.prog .u8 ((x.toNat : Int).tmod 10) (c : Int) (by rw [tmod10, hc]))
      else if k = 47 then some (hU Tryd.prog .u64 (IntKind.u64.wrap (c : Int)) (c : Int) (by have := dg_lt x; rw [IntWalk.u64_in _ (by omega)])) else if k = 48 then some (hU Tryd.prog .u64 (IntKind.u64.wrap (((W * 10 % 18446744073709551616 : Nat) : Int) + (c : Int))) (((W * 10 + c) % 18446744073709551616 : Nat) : Int) (by rw [IntKind.wrap_u64]; omega))
      else if k = 49 then some (hSucc Tryd.prog i (by omega)) else none) else none }
theorem nbRound (x : UInt8) (c : Nat) (hc : dg x = c) (hi : i < bs.length) (hx : bs[i]? = some x) (hW : W < 18446744073709551616) (h40 : decide (40 ≤ (i : Int)) = false) (u : Bool) (hu : decide ((9223372036854775807 - c) / 10 < W) = u) (ht : t.length ≤ 1000) (hn : i ≤ 1000) (rest : Heap) (X : Fix) (hP : X.P = Tryd.prog) (hN : X.N = 142) :
    AW X (loopOf Tryd.prog 7 5) ⟨envOf (nmbE bs b t W g i), ovl [] rest⟩ fun e' S' => e' = .normal ∧ Weak X S' ⟨envOf (nmbE bs b (t ++ dgT c) ((W * 10 + c) % 18446744073709551616) (g || u) (i + 1)), ovl [] rest⟩ := by
  cases g with
  | true => exact seg okP named (nbPr bs t W i x c hc hi hx hW false h40 u hu ht hn) 1000 7 700000 142 (by kernel_rfl) X hP hN
  | false => cases u with
    | true => exact seg okP named (nbPr bs t W i x c hc hi hx hW false h40 true hu ht hn) 1000 7 700000 142 (by kernel_rfl) X hP hN
    | false => exact seg okP named (nbPr bs t W i x c hc hi hx hW false h40 false hu ht hn) 1000 7 700000 142 (by kernel_rfl) X hP hN
theorem nbForty (x : UInt8) (hi : i < bs.length) (hx : bs[i]? = some x) (hW : W < 18446744073709551616) (h40 : decide (40 ≤ (i : Int)) = true) (ht : t.length ≤ 1000) (hn : i ≤ 1000) (rest : Heap) (X : Fix) (hP : X.P = Tryd.prog) (hN : X.N = 142) :
    AW X (loopOf Tryd.prog 7 5) ⟨envOf (nmbE bs b t W g i), ovl [] rest⟩ fun e' S' => e' = .exit 0 ∧ Weak X S' ⟨envOf (nmbO b t W g), ovl [] rest⟩ :=
  seg okP named (nbPr bs t W i x (dg x) rfl hi hx hW true h40 _ rfl ht hn) 1000 7 700000 142 (by kernel_rfl) X hP hN
theorem nbEnd (rest : Heap) (X : Fix) (hP : X.P = Tryd.prog) (hN : X.N = 142) :
    AW X (loopOf Tryd.prog 7 5) ⟨envOf (nmbE bs b t W g bs.length), ovl [] rest⟩ fun e' S' => e' = .exit 0 ∧ Weak X S' ⟨envOf (nmbO b t W g), ovl [] rest⟩ :=
  seg okP named { hint := fun f k => if f = 7 then (if k = 19 then some (hLt Tryd.prog bs.length (bs.map bD).length false (by simp)) else none) else none } 1000 7 700000 142 (by kernel_rfl) X hP hN
end
def nFin (bs : List UInt8) : List UInt8 × Nat × Bool := nAll bs (min bs.length 40)
theorem nbLoop (bs : List UInt8) (b : UInt8) (rest : Heap) (X : Fix) (hP : X.P = Tryd.prog) (hN : X.N = 142) :
    AW X (.loop (loopOf Tryd.prog 7 5)) ⟨envOf (nmbE bs b [] 0 false 0), ovl [] rest⟩ fun e' S' => e' = .exit 0 ∧ S' = ⟨envOf (nmbO b (nFin bs).1 (nFin bs).2.1 (nFin bs).2.2), ovl [] rest⟩ :=
  loop_of_segs (P := Tryd.prog) (N := 142) (c := loopOf Tryd.prog 7 5) (fun i => nmbE bs b (nAll bs i).1 (nAll bs i).2.1 (nAll bs i).2.2 i) (fun _ _ => []) (fun i => i ≤ min bs.length 40) (fun i => 40 - i) (.exit 0) (nmbO b (nFin bs).1 (nFin bs).2.1 (nFin bs).2.2) (fun _ => []) 0 (Nat.zero_le _) (by simp)
    (fun rest i hi => by
      obtain ⟨h1, h2, h3, h4, h5⟩ := nAll_spec bs i (by omega)
      rcases Nat.lt_or_ge i (min bs.length 40) with h | h
      · refine .inl ⟨i + 1, h, by omega, fun X hP hN => ?_⟩
        have hx := List.getElem?_eq_getElem (l := bs) (i := i) (by omega)
        have e : nAll bs (i + 1) = nStep (nAll bs i).1 (nAll bs i).2.1 (nAll bs i).2.2 (dg bs[i]) := by rw [nAll, hx]
        show AW X (loopOf Tryd.prog 7 5) ⟨envOf (nmbE bs b (nAll bs i).1 (nAll bs i).2.1 (nAll bs i).2.2 i), ovl [] rest⟩ fun e' S' => e' = .normal ∧ Weak X S' ⟨envOf (nmbE bs b (nAll bs (i + 1)).1 (nAll bs (i + 1)).2.1 (nAll bs (i + 1)).2.2 (i + 1)), ovl [] rest⟩
        rw [e]
        exact nbRound bs b _ _ _ i bs[i] _ rfl (by omega) hx h3 (by simp only [decide_eq_false_iff_not]; omega) _ rfl (by omega) (by omega) rest X hP hN
      · have hie : i = min bs.length 40 := by omega
        refine .inr fun X hP hN => ?_
        show AW X (loopOf Tryd.prog 7 5) ⟨envOf (nmbE bs b (nAll bs i).1 (nAll bs i).2.1 (nAll bs i).2.2 i), ovl [] rest⟩ fun e' S' => e' = .exit 0 ∧ Weak X S' ⟨envOf (nmbO b (nFin bs).1 (nFin bs).2.1 (nFin bs).2.2), ovl [] rest⟩
        rw [nFin, ← hie]
        rcases Nat.lt_or_ge i bs.length with hl | hl
        · have hx := List.getElem?_eq_getElem (l := bs) (i := i) hl
          exact nbForty bs b _ _ _ i bs[i] hl hx h3 (by simp only [decide_eq_true_eq]; omega) (by omega) (by omega) rest X hP hN
        · have : i = bs.length := by omega
          subst this
          exact nbEnd bs b _ _ _ rest X hP hN) rest X hP hN
noncomputable def nbLH (bs : List UInt8) (b : UInt8) (g : Bool) (hg : (nFin bs).2.2 = g) : LHint Tryd.prog := ⟨142, loopOf Tryd.prog 7 5, nmbE bs b [] 0 false 0, fun _ => [], .exit 0, nmbO b (nFin bs).1 (nFin bs).2.1 g, fun _ => [], by subst hg; exact nbLoop bs b⟩

end Go.Avm
