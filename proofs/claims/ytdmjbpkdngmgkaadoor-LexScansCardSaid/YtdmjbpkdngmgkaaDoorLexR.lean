/-
  The document's scanner: bytes' classes, pairs, the value of digits.
-/
import Derived.Test.YtdmjbpkdngmgkaaDoorLexQ
set_option linter.unusedSectionVars false
namespace Go.Avm
open Go.Proofs

/-! ### class -/
def classI (b : UInt8) : Int := if wsp b then 1 else if isSm b then 2 else if isDig b then 3 else if b == 35 then 5 else if great b then 6 else if sg1 b then 4 else 0
set_option maxRecDepth 100000 in
theorem classAll : ((List.range 256).map fun n => callDE Tryd.prog (execE Tryd.prog (fun _ _ => false) (fun _ => false) 1000) 18 [.int .u8 ((n : Nat) : Int)]) = (List.range 256).map fun n => some [.int .i64 (classI (UInt8.ofNat n))] := by kernel_rfl
theorem classC (b : UInt8) : Pure Tryd.prog 18 [bD b] [.int .i64 (classI b)] := by
  have h := List.map_inj_left.1 classAll b.toNat (List.mem_range.2 b.toNat_lt)
  rw [UInt8.ofNat_toNat] at h
  exact pure_of_exec okP named _ _ 1000 h
def classFits (n : Nat) : Bool :=
  ((classI (UInt8.ofNat n) == 1) == wsp (UInt8.ofNat n)) && ((classI (UInt8.ofNat n) == 2) == isSm (UInt8.ofNat n)) && ((classI (UInt8.ofNat n) == 3) == isDig (UInt8.ofNat n)) && ((classI (UInt8.ofNat n) == 5) == (UInt8.ofNat n == 35)) && ((classI (UInt8.ofNat n) == 6) == great (UInt8.ofNat n)) &&
    (!(sg1 (UInt8.ofNat n)) || (classI (UInt8.ofNat n) == 4)) && (!(classI (UInt8.ofNat n) == 4) || (sg1 (UInt8.ofNat n)))
theorem classAll2 : (List.range 256).all classFits = true := by kernel_rfl
theorem class_spec (b : UInt8) : (classI b == 1) = wsp b ∧ (classI b == 2) = isSm b ∧ (classI b == 3) = isDig b ∧ (classI b == 5) = (b == 35) ∧ (classI b == 6) = great b ∧ (classI b == 4) = sg1 b := by
  have h := List.all_eq_true.1 classAll2 b.toNat (List.mem_range.2 b.toNat_lt)
  unfold classFits at h
  rw [UInt8.ofNat_toNat] at h
  simp only [Bool.and_eq_true, beq_iff_eq] at h
  obtain ⟨⟨⟨⟨⟨⟨h1, h2⟩, h3⟩, h4⟩, h5⟩, h6⟩, h7⟩ := h
  refine ⟨h1, h2, h3, h4, h5, ?_⟩
  cases hs : sg1 b <;> cases hc : (classI b == 4) <;> simp [hs, hc] at h6 h7 ⊢

/-! ### pair -/
def eqI (b : UInt8) (k : Int) : Bool := (b.toNat : Int) == k
def pairM (e a61 a33 a60 a62 ab a38 a124 : Bool) : Bool := if e then (a61 || a33 || a60 || a62) else ab && (a38 || a124 || a60 || a62)
noncomputable def pairPr (a b : UInt8) (e a61 a33 a60 a62 ab a38 a124 : Bool) (h1 : eqI b 61 = e) (h2 : eqI a 61 = a61) (h3 : eqI a 33 = a33) (h4 : eqI a 60 = a60) (h5 : eqI a 62 = a62) (h6 : ((a.toNat : Int) == (b.toNat : Int)) = ab) (h7 : eqI a 38 = a38) (h8 : eqI a 124 = a124) : Par Tryd.prog :=
  { hint := fun f k => if f = 20 then (if k = 6 then some (hB Tryd.prog _ e h1) else if k = 8 then some (hB Tryd.prog _ a61 h2) else if k = 11 then some (hB Tryd.prog _ a33 h3) else if k = 15 then some (hB Tryd.prog _ a60 h4) else if k = 19 then some (hB Tryd.prog _ a62 h5) else if k = 23 then some (hB Tryd.prog _ ab h6)
      else if k = 26 then some (hB Tryd.prog _ a38 h7) else if k = 29 then some (hB Tryd.prog _ a124 h8) else if k = 33 then some (hB Tryd.prog _ a60 h4) else if k = 37 then some (hB Tryd.prog _ a62 h5) else none) else none }
theorem pairC0 (a b : UInt8) (e a61 a33 a60 a62 ab a38 a124 : Bool) (h1 : eqI b 61 = e) (h2 : eqI a 61 = a61) (h3 : eqI a 33 = a33) (h4 : eqI a 60 = a60) (h5 : eqI a 62 = a62) (h6 : ((a.toNat : Int) == (b.toNat : Int)) = ab) (h7 : eqI a 38 = a38) (h8 : eqI a 124 = a124) :
    Pure Tryd.prog 20 [bD a, bD b] [.bool (pairM e a61 a33 a60 a62 ab a38 a124)] := by
  cases e with
  | true => cases a61 <;> cases a33 <;> cases a60 <;> cases a62 <;> exact pure_of_run okP named (pairPr a b _ _ _ _ _ _ _ _ h1 h2 h3 h4 h5 h6 h7 h8) 1000 (by kernel_rfl)
  | false => cases ab <;> cases a38 <;> cases a124 <;> cases a60 <;> cases a62 <;> exact pure_of_run okP named (pairPr a b _ _ _ _ _ _ _ _ h1 h2 h3 h4 h5 h6 h7 h8) 1000 (by kernel_rfl)
theorem eqI_iff (b : UInt8) (k : Nat) : eqI b (k : Int) = true ↔ b.toNat = k := by
  simp only [eqI, beq_iff_eq]; omega
theorem u8_iff (a b : UInt8) : a = b ↔ a.toNat = b.toNat := ⟨fun h => by rw [h], fun h => UInt8.toNat_inj.1 h⟩
theorem pairC (a b : UInt8) : Pure Tryd.prog 20 [bD a, bD b] [.bool (prs.contains [a, b])] := by
  have h := pairC0 a b _ _ _ _ _ _ _ _ rfl rfl rfl rfl rfl rfl rfl rfl
  have e : pairM (eqI b 61) (eqI a 61) (eqI a 33) (eqI a 60) (eqI a 62) ((a.toNat : Int) == (b.toNat : Int)) (eqI a 38) (eqI a 124) = prs.contains [a, b] := by
    have g : ∀ k : Nat, eqI b k = true ↔ b.toNat = k := eqI_iff b
    have g' : ∀ k : Nat, eqI a k = true ↔ a.toNat = k := eqI_iff a
    have e1 := g 61
    have f1 := g' 61
    have f2 := g' 33
    have f3 := g' 60
    have f4 := g' 62
    have f5 := g' 38
    have f6 := g' 124
    rw [Bool.eq_iff_iff]
    simp only [prs, List.contains_eq_mem, decide_eq_true_eq, List.mem_cons, List.not_mem_nil, or_false, List.cons.injEq, and_true, u8_iff a, u8_iff b]
    unfold pairM
    split
    · rename_i he
      have := e1.1 he
      simp only [Bool.or_eq_true]
      rw [show (eqI a 61 = true) = (a.toNat = 61) from propext f1, show (eqI a 33 = true) = (a.toNat = 33) from propext f2, show (eqI a 60 = true) = (a.toNat = 60) from propext f3, show (eqI a 62 = true) = (a.toNat = 62) from propext f4]
      simp only [show (61 : UInt8).toNat = 61 from rfl, show (33 : UInt8).toNat = 33 from rfl, show (60 : UInt8).toNat = 60 from rfl, show (62 : UInt8).toNat = 62 from rfl, show (38 : UInt8).toNat = 38 from rfl, show (124 : UInt8).toNat = 124 from rfl]
      omega
    · rename_i he
      have hb : ¬ b.toNat = 61 := fun hx => he (e1.2 hx)
      simp only [Bool.and_eq_true, Bool.or_eq_true, beq_iff_eq]
      rw [show (eqI a 38 = true) = (a.toNat = 38) from propext f5, show (eqI a 124 = true) = (a.toNat = 124) from propext f6, show (eqI a 60 = true) = (a.toNat = 60) from propext f3, show (eqI a 62 = true) = (a.toNat = 62) from propext f4]
      simp only [show (61 : UInt8).toNat = 61 from rfl, show (33 : UInt8).toNat = 33 from rfl, show (60 : UInt8).toNat = 60 from rfl, show (62 : UInt8).toNat = 62 from rfl, show (38 : UInt8).toNat = 38 from rfl, show (124 : UInt8).toNat = 124 from rfl]
      omega
  rw [e] at h
  exact h

/-! ### value -/
def vaE (t : List UInt8) (V i : Nat) : List (Nat × AV) := [(0, .d (.str t)), (4, dN V), (5, dN i)]
section
variable (t : List UInt8) (V i : Nat)
noncomputable def vaPr (b : UInt8) (d : Nat) (hd : b.toNat = 48 + d) (hd9 : d ≤ 9) (hi : i < t.length) (hb : t[((i : Nat) : Int).toNat]? = some b) (hlen : t.length ≤ 100000) (u : Bool) (hu : decide ((9223372036854775807 - d) / 10 < V) = u) (hV : V < 9223372036854775808) : Par Tryd.prog :=
  { hint := fun f k => if f = 19 then (if k = 10 then some (hLt Tryd.prog i t.length true (by simpa using hi)) else if k = 15 then some (.sidx t (i : Int) b (by omega) hb) else if k = 16 then some (hU Tryd.prog .u8 (IntKind.u8.wrap ((b.toNat : Int) - 48)) (d : Int) (by rw [IntWalk.u8_in _ (by omega)]; omega))
      else if k = 17 then some (hU Tryd.prog .i64 (IntKind.i64.wrap (d : Int)) (d : Int) (by rw [IntWalk.i64_in _ (by omega)])) else if k = 20 then some (hU Tryd.prog .i64 (IntKind.i64.wrap (9223372036854775807 - (d : Int))) ((9223372036854775807 - d : Nat) : Int) (by rw [IntWalk.i64_in _ (by omega)]; omega))
      else if k = 21 then some (hU Tryd.prog .i64 (IntKind.i64.wrap (((9223372036854775807 - d : Nat) : Int).tdiv 10)) (((9223372036854775807 - d) / 10 : Nat) : Int) (by rw [IntWalk.i64_quo _ _ (by omega)]; omega))
      else if k = 22 then some (.val (dB (decide ((((9223372036854775807 - d) / 10 : Nat) : Int) < (V : Int)))) (dB u) (by rw [← hu]; congr 2; exact propext Int.ofNat_lt))
      else if k = 24 then (if h : u = false then some (hU Tryd.prog .i64 (IntKind.i64.wrap (10 * (V : Int))) ((10 * V : Nat) : Int) (by subst h; have := of_decide_eq_false hu; rw [IntWalk.i64_in _ (by omega)]; omega)) else none)
      else if k = 26 then (if h : u = false then some (hU Tryd.prog .i64 (IntKind.i64.wrap (((10 * V : Nat) : Int) + (d : Int))) ((V * 10 + d : Nat) : Int) (by subst h; have := of_decide_eq_false hu; rw [IntWalk.i64_in _ (by omega)]; omega)) else none)
      else if k = 12 then some (hSucc Tryd.prog i (by omega)) else none) else none }
theorem vaNext (b : UInt8) (d : Nat) (hd : b.toNat = 48 + d) (hd9 : d ≤ 9) (hi : i < t.length) (hb : t[((i : Nat) : Int).toNat]? = some b) (hlen : t.length ≤ 100000) (hu : decide ((9223372036854775807 - d) / 10 < V) = false) (hV : V < 9223372036854775808) (rest : Heap) (X : Fix) (hP : X.P = Tryd.prog) (hN : X.N = 28) :
    AW X (loopOf Tryd.prog 19 3) ⟨envOf (vaE t V i), ovl [] rest⟩ fun e' S' => e' = .normal ∧ Weak X S' ⟨envOf (vaE t (V * 10 + d) (i + 1)), ovl [] rest⟩ :=
  seg okP named (vaPr t V i b d hd hd9 hi hb hlen false hu hV) 1000 19 700000 28 (by kernel_rfl) X hP hN
theorem vaGreat (b : UInt8) (d : Nat) (hd : b.toNat = 48 + d) (hd9 : d ≤ 9) (hi : i < t.length) (hb : t[((i : Nat) : Int).toNat]? = some b) (hlen : t.length ≤ 100000) (hu : decide ((9223372036854775807 - d) / 10 < V) = true) (hV : V < 9223372036854775808) (rest : Heap) (X : Fix) (hP : X.P = Tryd.prog) (hN : X.N = 28) :
    AW X (loopOf Tryd.prog 19 3) ⟨envOf (vaE t V i), ovl [] rest⟩ fun e' S' => e' = .ret ∧ Weak X S' ⟨envOf [(2, dI 0), (3, dB false)], ovl [] rest⟩ :=
  seg okP named (vaPr t V i b d hd hd9 hi hb hlen true hu hV) 1000 19 700000 28 (by kernel_rfl) X hP hN
theorem vaStop (rest : Heap) (X : Fix) (hP : X.P = Tryd.prog) (hN : X.N = 28) :
    AW X (loopOf Tryd.prog 19 3) ⟨envOf (vaE t V t.length), ovl [] rest⟩ fun e' S' => e' = .exit 0 ∧ Weak X S' ⟨envOf [(4, dN V)], ovl [] rest⟩ :=
  seg okP named { hint := fun f k => if f = 19 then (if k = 10 then some (hLt Tryd.prog t.length t.length false (by simp)) else none) else none } 1000 19 700000 28 (by kernel_rfl) X hP hN
end
theorem dv_app (acc : Nat) (x y : List UInt8) : dv acc (x ++ y) = dv (dv acc x) y := by simp only [dv, List.foldl_append]
theorem vaLoop (t : List UInt8) (hall : ∀ x ∈ t, isDig x = true) (hlen : t.length ≤ 100000) : ∀ (k i : Nat), i + k = t.length → dv 0 (t.take i) < 9223372036854775808 →
    (dv 0 t < 9223372036854775808 → ∀ (rest : Heap) (X : Fix), X.P = Tryd.prog → X.N = 28 → LW X (loopOf Tryd.prog 19 3) ⟨envOf (vaE t (dv 0 (t.take i)) i), ovl [] rest⟩ fun e' S' => e' = .exit 0 ∧ S' = ⟨envOf [(4, dN (dv 0 t))], ovl [] rest⟩) ∧
    (9223372036854775808 ≤ dv 0 t → ∀ (rest : Heap) (X : Fix), X.P = Tryd.prog → X.N = 28 → LW X (loopOf Tryd.prog 19 3) ⟨envOf (vaE t (dv 0 (t.take i)) i), ovl [] rest⟩ fun e' S' => e' = .ret ∧ S' = ⟨envOf [(2, dI 0), (3, dB false)], ovl [] rest⟩)
  | 0, i, hik, hV => by
    have : i = t.length := by omega
    subst this
    rw [List.take_length] at hV ⊢
    exact ⟨fun _ rest X hP hN => lw_end (vaStop t _ rest X hP hN) (by simp), fun h => by omega⟩
  | k + 1, i, hik, hV => by
    have hi : i < t.length := by omega
    have hb := List.getElem?_eq_getElem hi
    have hdig := (isDig_iff _).1 (hall t[i] (List.getElem_mem hi))
    obtain ⟨d, hd, hd9⟩ : ∃ d, t[i].toNat = 48 + d ∧ d ≤ 9 := ⟨t[i].toNat - 48, by omega, by omega⟩
    have hsn : dv 0 (t.take (i + 1)) = dv 0 (t.take i) * 10 + d := by
      rw [List.take_add_one, hb, Option.toList_some, dv_snoc, hd]; omega
    have hmon : dv 0 (t.take (i + 1)) ≤ dv 0 t := by
      have h1 : dv 0 t = dv 0 (t.take (i + 1) ++ t.drop (i + 1)) := by rw [List.take_append_drop]
      rw [h1, dv_app]
      exact dv_le _ _
    cases hu : decide ((9223372036854775807 - d) / 10 < dv 0 (t.take i)) with
    | true =>
      have := of_decide_eq_true hu
      exact ⟨fun h => by omega, fun _ rest X hP hN => lw_end (vaGreat t _ i t[i] d hd hd9 hi (by rw [Int.toNat_natCast]; exact hb) hlen hu hV rest X hP hN) (by simp)⟩
    | false =>
      have := of_decide_eq_false hu
      have ih := vaLoop t hall hlen k (i + 1) (by omega) (by rw [hsn]; omega)
      rw [hsn] at ih
      exact ⟨fun h rest X hP hN => lw_seg (vaNext t _ i t[i] d hd hd9 hi (by rw [Int.toNat_natCast]; exact hb) hlen hu hV rest X hP hN) (ih.1 h rest X hP hN),
        fun h rest X hP hN => lw_seg (vaNext t _ i t[i] d hd hd9 hi (by rw [Int.toNat_natCast]; exact hb) hlen hu hV rest X hP hN) (ih.2 h rest X hP hN)⟩
theorem valueC (t : List UInt8) (hall : ∀ x ∈ t, isDig x = true) (hlen : t.length ≤ 100000) :
    (dv 0 t < 9223372036854775808 → Pure Tryd.prog 19 [.str t] [.int .i64 (dv 0 t : Int), .bool true]) ∧ (9223372036854775808 ≤ dv 0 t → Pure Tryd.prog 19 [.str t] [.int .i64 0, .bool false]) := by
  have h := vaLoop t hall hlen t.length 0 (by omega) (by rw [List.take_zero, dv_nil]; decide)
  rw [List.take_zero, dv_nil] at h
  exact ⟨fun hv => pure_of_run okP named { loops := fun f r => if f = 19 then (if r = 3 then some ⟨28, loopOf Tryd.prog 19 3, vaE t 0 0, fun _ => [], .exit 0, [(4, dN (dv 0 t))], fun _ => [], fun rest X hP hN => (h.1 hv rest X hP hN).aw⟩ else none) else none } 1000 (by kernel_rfl),
    fun hv => pure_of_run okP named { loops := fun f r => if f = 19 then (if r = 3 then some ⟨28, loopOf Tryd.prog 19 3, vaE t 0 0, fun _ => [], .ret, [(2, dI 0), (3, dB false)], fun _ => [], fun rest X hP hN => (h.2 hv rest X hP hN).aw⟩ else none) else none } 1000 (by kernel_rfl)⟩
end Go.Avm
