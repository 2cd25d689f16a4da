/-
  FlowAbove.
-/
import Derived.Test.YtpcomfnianamgaaFlBh
set_option linter.unusedSectionVars false
namespace Go.Avm
open Go.Proofs Go.Avm.Dom Go.RowKit

open Classical in
theorem bordersC {g : Graph} (hg : Valid g) (hg0 : 0 < g.length) (hgl : g.length ≤ 24) (hr : ∀ a, (succ g a).length < 1000000000) {U : Nat → Nat} (hU : Fixed g U) (hc : Pure Try.prog 73 [rowsN g] [.int .i64 0]) (h74 : Pure Try.prog 74 [rowsN g] [rowD (outL2 g (allO U))]) :
    Pure Try.prog 50 [rowsN g] [rowsN (bordersOf g), .int .i64 0] := by
  have hin := intoC hg (by omega) hr
  have hor := orderC hg (by omega) hr
  rw [rowsInto] at hin
  have hol : (orderOf g).length ≤ g.length := reachN_le hg hg0
  have h0 : BdH g.length 1 (ovl [(974, ⟨1, some (.arr 1 (List.replicate g.length .nils))⟩)] fun _ => ⟨0, none⟩) (List.replicate g.length []) := ⟨_, rfl, RowsK.nils _ _ _⟩
  obtain ⟨h1, rows, M, hh, hM, hMl, hmem, hl8⟩ := bdNodes hg hg0 (by omega) hU 1 _ 0 _ _ 0 rfl (Nat.zero_le _) h0 (fun r hr => by rw [List.eq_of_mem_replicate hr]; exact Nat.le_refl _) (by omega)
  have hfin : ∀ t r, rows[t]? = some r → Go.Lib.compact (sortZ r) = natR (bordTo g t g.length) := fun t r hrt => by
    have ht : t < g.length := by have := (List.getElem?_eq_some_iff.1 hrt).1; rw [hh.len] at this; exact this
    refine compact_is fun x => ?_
    have h2 := hmem t x ht
    rw [List.getD_eq_getElem?_getD, hrt, List.drop_zero] at h2
    have h3 : x ∈ (List.replicate g.length ([] : List Int)).getD t [] ↔ False := by
      rw [List.getD_eq_getElem?_getD, List.getElem?_replicate, if_pos ht]
      simp
    rw [h3] at h2
    simp only [Option.getD_some, false_or] at h2
    rw [h2]
    constructor
    · rintro ⟨b, hb, h4, h5⟩
      exact ⟨b, h4, Re.lt hg ((order_mem hg b).1 hb).2 hg0, decide_eq_true h5⟩
    · rintro ⟨b, h4, _, h5⟩
      have h5 := of_decide_eq_true h5
      obtain ⟨⟨p, hp, hd⟩, _⟩ := id h5
      exact ⟨b, (order_mem hg b).2 ⟨hg0, .step hd.2.1 hp (by simp)⟩, h4, h5⟩
  have hso : SoH g.length 1 h1 rows (fun t => natR (bordTo g t g.length)) 0 := by
    obtain ⟨cs, hC, hR⟩ := hh.ex
    exact ⟨cs, hC, hR.1, hR.2.1, fun s hs => by omega, fun s _ hs => hR.2.2 s hs⟩
  obtain ⟨h2, hend, hl21⟩ := soLoop g.length 1 (by omega) (fun r hr => by have := hM r hr; omega) hfin _ 0 h1 rfl (Nat.zero_le _) hso
  have e : rowsN (bordersOf g) = .ro ((List.range g.length).map fun s => rowD (natR (bordTo g s g.length))) := by
    simp [rowsN, rowsD, natG, bordersOf]
  rw [e]
  exact bordersRun (by omega) _ (orderOf g) _ (by simp) (by simp [D.one]) h1 h2 hc h74 hin hor hl8 hl21 hend
theorem abBad {gs t : List (List Int)} (ht : Pure Try.prog 36 [rowsD gs] [rowsD t]) (h38 : Pure Try.prog 38 [rowsD t] [rowsD t]) (h42 : Pure Try.prog 42 [rowsD t] [.ro [], .int .i64 3]) (h50 : Pure Try.prog 50 [rowsD t] [.ro [], .int .i64 3]) (h39 : Pure Try.prog 39 [rowsD t] [.int .i64 3]) : Pure Try.prog 14 [rowsD gs] [.bool true] :=
  pure_of_run okP named { hint := tabH Try.prog [(14, 8, .call 35 _ _ awake05), (14, 11, .call 36 _ _ ht), (14, 14, .call 38 _ _ h38), (14, 15, .call 42 _ _ h42), (14, 20, .call 38 _ _ h38), (14, 21, .call 50 _ _ h50), (14, 25, .call 39 _ _ h39)] } 2000 (by kernel_rfl)
theorem abOk {gs t : List (List Int)} (l : List Int) (m : List (List Int)) (ht : Pure Try.prog 36 [rowsD gs] [rowsD t]) (h38 : Pure Try.prog 38 [rowsD t] [rowsD t]) (h42 : Pure Try.prog 42 [rowsD t] [rowD l, .int .i64 0]) (h50 : Pure Try.prog 50 [rowsD t] [rowsD m, .int .i64 0]) (h39 : Pure Try.prog 39 [rowsD t] [.int .i64 0])
    (h51 : Pure Try.prog 51 [rowsD t] [rowD l]) (h52 : Pure Try.prog 52 [rowsD t] [rowsD m]) (h41 : Pure Try.prog 41 [rowD l, rowD l] [.bool true]) (h28 : Pure Try.prog 28 [rowsD m, rowsD m] [.bool true]) : Pure Try.prog 14 [rowsD gs] [.bool true] :=
  pure_of_run okP named { hint := tabH Try.prog [(14, 8, .call 35 _ _ awake05), (14, 11, .call 36 _ _ ht), (14, 14, .call 38 _ _ h38), (14, 15, .call 42 _ _ h42), (14, 20, .call 38 _ _ h38), (14, 21, .call 50 _ _ h50), (14, 25, .call 39 _ _ h39), (14, 46, .call 51 _ _ h51), (14, 47, .call 41 _ _ h41), (14, 51, .call 52 _ _ h52), (14, 52, .call 28 _ _ h28)] } 2000 (by kernel_rfl)
theorem refAboveNil (h43 : Pure Try.prog 43 [rowsN []] [.ro []]) : Pure Try.prog 51 [rowsN []] [.ro []] := pure_of_run okP named { hint := tabH Try.prog [(51, 9, .call 43 _ _ h43)] } 2000 (by kernel_rfl)
theorem refBordersNil (h43 : Pure Try.prog 43 [rowsN []] [.ro []]) : Pure Try.prog 52 [rowsN []] [.ro []] := pure_of_run okP named { hint := tabH Try.prog [(52, 14, .call 43 _ _ h43)] } 2000 (by kernel_rfl)
theorem abovePure (gs : List (List Int)) (hl : gs.length ≤ 9223372036854775807) : Pure Try.prog 14 [rowsD gs] [.bool true] := by
  have hT := tame_is gs
  have ht := tameC gs hl
  generalize tameF gs = t at hT ht
  have h38 := tame_twin hT
  cases hk : okG t with
  | false =>
    obtain ⟨h73, h39⟩ := tame_check hT 3 (by rw [hk]; rfl)
    exact abBad ht h38 (above42Bad h73) (bordersBad h73) h39
  | true =>
    obtain ⟨h73, h39⟩ := tame_check hT 0 (by rw [hk]; rfl)
    obtain ⟨g, rfl, hg, hgl, hr⟩ := tame_nat hT hk
    have hsr := succ_len (g := g) (fun l hl => by have := hr l hl; omega)
    have hsr6 : ∀ a, (succ g a).length < 100000 := fun a => by
      unfold succ
      rw [List.getD_eq_getElem?_getD]
      cases h : g[a]? with
      | none => simp
      | some l => have := hr l (List.mem_of_getElem? h); simp; omega
    obtain ⟨U, hU, h74⟩ := aboveC hg (by omega) hsr
    have h42 := above42 h73 h74
    rcases Nat.eq_zero_or_pos g.length with h0 | h0
    · have : g = [] := List.length_eq_zero_iff.1 h0
      subst this
      have h43 := domsC hg (by omega) hsr
      exact abOk [] [] ht h38 h42 (bordersNil h73 h74 (intoC hg (by omega) hsr) (orderC hg (by omega) hsr)) h39 (refAboveNil h43) (refBordersNil h43) (sameC [] (by simp)) (sameListsC [] (by simp) (by simp))
    · have hlen : ∀ a, (bordTo g a g.length).length ≤ g.length := fun a => bordTo_len hg (by omega) hsr6 g a g.length
      refine abOk (outL2 g (allO U)) (natG (bordersOf g)) ht h38 h42 (bordersC hg h0 hgl hsr hU h73 h74) h39 (refAboveC hg h0 (by omega) hU hsr) (refBordersC hg (by omega) hsr6) (sameC _ (by rw [outL_len]; omega)) (sameListsC _ (by simp [natG, bordersOf]; omega) (fun r hr' => ?_))
      obtain ⟨l, hl, rfl⟩ := List.mem_map.1 hr'
      unfold bordersOf at hl
      obtain ⟨a, _, rfl⟩ := List.mem_map.1 hl
      rw [List.length_map]
      have := hlen a
      omega
end Go.Avm
