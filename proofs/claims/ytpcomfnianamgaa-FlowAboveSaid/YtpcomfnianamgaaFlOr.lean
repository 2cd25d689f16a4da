/-
  FlowOrders.
-/
import Derived.Test.YtpcomfnianamgaaFlThree
import Derived.Test.YtpcomfnianamgaaFlTwo
set_option linter.unusedSectionVars false
namespace Go.Avm
open Go.Proofs Go.Avm.Dom

/-! ### The functions that check first -/
section
variable {gs : List (List Int)}
theorem order46Bad (hc : Pure Try.prog 73 [rowsD gs] [.int .i64 3]) : Pure Try.prog 46 [rowsD gs] [.ro [], .int .i64 3] := pure_of_run okP named { hint := tabH Try.prog [(46, 6, .call 73 _ _ hc)] } 2000 (by kernel_rfl)
theorem into47Bad (hc : Pure Try.prog 73 [rowsD gs] [.int .i64 3]) : Pure Try.prog 47 [rowsD gs] [.ro [], .int .i64 3] := pure_of_run okP named { hint := tabH Try.prog [(47, 6, .call 73 _ _ hc)] } 2000 (by kernel_rfl)
theorem above42Bad (hc : Pure Try.prog 73 [rowsD gs] [.int .i64 3]) : Pure Try.prog 42 [rowsD gs] [.ro [], .int .i64 3] := pure_of_run okP named { hint := tabH Try.prog [(42, 6, .call 73 _ _ hc)] } 2000 (by kernel_rfl)
theorem order46 {l : List D} (hc : Pure Try.prog 73 [rowsD gs] [.int .i64 0]) (h : Pure Try.prog 78 [rowsD gs] [.ro l]) : Pure Try.prog 46 [rowsD gs] [.ro l, .int .i64 0] := pure_of_run okP named { hint := tabH Try.prog [(46, 6, .call 73 _ _ hc), (46, 11, .call 78 _ _ h)] } 2000 (by kernel_rfl)
theorem into47 {l : List D} (hc : Pure Try.prog 73 [rowsD gs] [.int .i64 0]) (h : Pure Try.prog 75 [rowsD gs] [.ro l]) : Pure Try.prog 47 [rowsD gs] [.ro l, .int .i64 0] := pure_of_run okP named { hint := tabH Try.prog [(47, 6, .call 73 _ _ hc), (47, 11, .call 75 _ _ h)] } 2000 (by kernel_rfl)
theorem above42 {l : List D} (hc : Pure Try.prog 73 [rowsD gs] [.int .i64 0]) (h : Pure Try.prog 74 [rowsD gs] [.ro l]) : Pure Try.prog 42 [rowsD gs] [.ro l, .int .i64 0] := pure_of_run okP named { hint := tabH Try.prog [(42, 6, .call 73 _ _ hc), (42, 11, .call 74 _ _ h)] } 2000 (by kernel_rfl)
end
/-- What is known of a graph that was tamed. -/
structure Tame (t : List (List Int)) : Prop where
  len : t.length ≤ 24
  row : ∀ r ∈ t, r.length ≤ 6
theorem tame_is (gs : List (List Int)) : Tame (tameF gs) where
  len := by unfold tameF; simp; omega
  row := fun r hr => by
    unfold tameF at hr
    obtain ⟨x, _, rfl⟩ := List.mem_map.1 hr
    simp
    omega
theorem tame_check {t : List (List Int)} (h : Tame t) (e : Int) (he : e = if okG t = true then 0 else 3) : Pure Try.prog 73 [rowsD t] [.int .i64 e] ∧ Pure Try.prog 39 [rowsD t] [.int .i64 e] := by
  subst he
  exact ⟨check73 t (by have := h.len; omega) (fun r hr => by have := h.row r hr; omega), check39 t (by have := h.len; omega) (fun r hr => by have := h.row r hr; omega)⟩
theorem tame_twin {t : List (List Int)} (h : Tame t) : Pure Try.prog 38 [rowsD t] [rowsD t] := twinC t (by have := h.len; omega) (fun r hr => by have := h.row r hr; omega)
theorem tame_nat {t : List (List Int)} (h : Tame t) (hk : okG t = true) : ∃ g : Graph, t = natG g ∧ Valid g ∧ g.length ≤ 24 ∧ ∀ l ∈ g, l.length ≤ 6 := by
  obtain ⟨g, rfl, hg⟩ := nat_of_ok hk
  refine ⟨g, rfl, hg, by simpa [natG] using h.len, fun l hl => ?_⟩
  have := h.row (natR l) (List.mem_map.2 ⟨l, hl, rfl⟩)
  simpa using this
theorem ordersBad {gs t : List (List Int)} (ht : Pure Try.prog 36 [rowsD gs] [rowsD t]) (h38 : Pure Try.prog 38 [rowsD t] [rowsD t]) (h46 : Pure Try.prog 46 [rowsD t] [.ro [], .int .i64 3]) (h47 : Pure Try.prog 47 [rowsD t] [.ro [], .int .i64 3]) (h39 : Pure Try.prog 39 [rowsD t] [.int .i64 3]) (h28 : Pure Try.prog 28 [rowsD t, rowsD t] [.bool true]) :
    Pure Try.prog 13 [rowsD gs] [.bool true] :=
  pure_of_run okP named { hint := tabH Try.prog [(13, 9, .call 35 _ _ awake05), (13, 12, .call 36 _ _ ht), (13, 14, .call 38 _ _ h38), (13, 17, .call 46 _ _ h46), (13, 22, .call 47 _ _ h47), (13, 26, .call 39 _ _ h39), (13, 38, .call 28 _ _ h28)] } 2000 (by kernel_rfl)
theorem ordersOk {gs t : List (List Int)} {l : List Int} {m : List (List Int)} (ht : Pure Try.prog 36 [rowsD gs] [rowsD t]) (h38 : Pure Try.prog 38 [rowsD t] [rowsD t]) (h46 : Pure Try.prog 46 [rowsD t] [rowD l, .int .i64 0]) (h47 : Pure Try.prog 47 [rowsD t] [rowsD m, .int .i64 0]) (h39 : Pure Try.prog 39 [rowsD t] [.int .i64 0]) (h28 : Pure Try.prog 28 [rowsD t, rowsD t] [.bool true])
    (h48 : Pure Try.prog 48 [rowsD t] [rowD l]) (h41 : Pure Try.prog 41 [rowD l, rowD l] [.bool true]) (h49 : Pure Try.prog 49 [rowsD t] [rowsD m]) (h28' : Pure Try.prog 28 [rowsD m, rowsD m] [.bool true]) :
    Pure Try.prog 13 [rowsD gs] [.bool true] :=
  pure_of_run okP named { hint := tabH Try.prog [(13, 9, .call 35 _ _ awake05), (13, 12, .call 36 _ _ ht), (13, 14, .call 38 _ _ h38), (13, 17, .call 46 _ _ h46), (13, 22, .call 47 _ _ h47), (13, 26, .call 39 _ _ h39), (13, 38, .call 28 _ _ h28), (13, 53, .call 48 _ _ h48), (13, 54, .call 41 _ _ h41), (13, 58, .call 49 _ _ h49), (13, 59, .call 28 _ _ h28')] } 2000 (by kernel_rfl)
theorem rowInts (l : List Nat) : D.ro (intsN l) = rowD (natR l) := by simp [rowD, intsN]
theorem ordersPure (gs : List (List Int)) (hl : gs.length ≤ 9223372036854775807) : Pure Try.prog 13 [rowsD gs] [.bool true] := by
  have hT := tame_is gs
  have ht := tameC gs hl
  generalize tameF gs = t at hT ht
  have h38 := tame_twin hT
  have h28 := sameListsC t (by have := hT.len; omega) (fun r hr => by have := hT.row r hr; omega)
  cases hk : okG t with
  | false =>
    obtain ⟨h73, h39⟩ := tame_check hT 3 (by rw [hk]; rfl)
    exact ordersBad ht h38 (order46Bad h73) (into47Bad h73) h39 h28
  | true =>
    obtain ⟨h73, h39⟩ := tame_check hT 0 (by rw [hk]; rfl)
    obtain ⟨g, rfl, hg, hgl, hr⟩ := tame_nat hT hk
    have hsr := succ_len (g := g) (fun l hl => by have := hr l hl; omega)
    have h78 := orderC hg (by omega) hsr
    have h75 := intoC hg (by omega) hsr
    have h48 := orderRefC hg (by omega) hsr
    have h49 := refIntoC (by omega) hsr
    rw [rowInts] at h78 h48
    rw [rowsInto] at h75 h49
    have hol : (orderOf g).length ≤ g.length := by
      rcases Nat.eq_zero_or_pos g.length with h0 | h0
      · have : g = [] := List.length_eq_zero_iff.1 h0
        subst this
        exact Nat.le_refl _
      · exact reachN_le hg h0
    have him : (natG (intoOf g)).length < 1000000000 := by simp [natG, intoOf]; omega
    have hir : ∀ r ∈ natG (intoOf g), r.length < 1000000000 := fun r hr' => by
      obtain ⟨l, hl, rfl⟩ := List.mem_map.1 hr'
      unfold intoOf at hl
      obtain ⟨b, _, rfl⟩ := List.mem_map.1 hl
      rw [List.length_map]
      have := List.length_filter_le (fun p => decide (b ∈ succ g p)) (List.range g.length)
      rw [List.length_range] at this
      omega
    exact ordersOk ht h38 (order46 h73 h78) (into47 h73 h75) h39 h28 h48 (sameC _ (by rw [List.length_map]; omega)) h49 (sameListsC _ him hir)
end Go.Avm
