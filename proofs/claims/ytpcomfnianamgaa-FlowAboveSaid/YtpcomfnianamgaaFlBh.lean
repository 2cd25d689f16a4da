/-
  Flow: the program's borders.
-/
import Derived.Test.YtpcomfnianamgaaFlBg
set_option linter.unusedSectionVars false
namespace Go.Avm
open Go.Proofs Go.Avm.Dom Go.RowKit

theorem bordersBad {gs : List (List Int)} (hc : Pure Try.prog 73 [rowsD gs] [.int .i64 3]) : Pure Try.prog 50 [rowsD gs] [.ro [], .int .i64 3] := pure_of_run okP named { hint := tabH Try.prog [(50, 16, .call 73 _ _ hc)] } 2000 (by kernel_rfl)
theorem bordersNil (hc : Pure Try.prog 73 [rowsN []] [.int .i64 0]) (h74 : Pure Try.prog 74 [rowsN []] [.ro []]) (h75 : Pure Try.prog 75 [rowsN []] [.ro []]) (h78 : Pure Try.prog 78 [rowsN []] [.ro []]) : Pure Try.prog 50 [rowsN []] [.ro [], .int .i64 0] :=
  pure_of_run okP named { hint := tabH Try.prog [(50, 16, .call 73 _ _ hc), (50, 21, .call 74 _ _ h74), (50, 26, .call 75 _ _ h75), (50, 28, .call 78 _ _ h78)] } 2000 (by kernel_rfl)
theorem bordersRun {g : Graph} (hgl : g.length < 100000) (up : List Int) (ord : List Nat) (ds : List D) (hds : ds.length = g.length) (hone : ds.all D.one = true) (h1 h2 : Heap)
    (hc : Pure Try.prog 73 [rowsN g] [.int .i64 0]) (h74 : Pure Try.prog 74 [rowsN g] [rowD up]) (h75 : Pure Try.prog 75 [rowsN g] [rowsN (intoOf g)]) (h78 : Pure Try.prog 78 [rowsN g] [.ro (intsN ord)])
    (hl8 : ∀ X : Fix, X.P = Try.prog → X.N = 95 → LW X (loopOf Try.prog 50 8) ⟨envOf (bd8 up (intoOf g) ord g.length 1 0), ovl [(974, ⟨1, some (.arr 1 (List.replicate g.length .nils))⟩)] fun _ => ⟨0, none⟩⟩ fun e' S' => e' = .exit 0 ∧ S' = ⟨envOf [(6, .sl 974 1 0 g.length 1)], h1⟩)
    (hl21 : ∀ X : Fix, X.P = Try.prog → X.N = 95 → LW X (loopOf Try.prog 50 21) ⟨envOf (bd21 g.length 1 0), h1⟩ fun e' S' => e' = .exit 6 ∧ S' = ⟨envOf [(6, .sl 974 1 0 g.length 1)], h2⟩)
    (hend : h2 974 = ⟨1, some (.arr 1 (ds.map .d))⟩) :
    Pure Try.prog 50 [rowsN g] [.ro ds, .int .i64 0] := by
  have e3 : ovl [(974, ⟨1, some (.arr 1 (ds.map .d))⟩)] h2 = h2 := At.ovl fun p hp => by
    simp only [List.mem_singleton] at hp
    subst hp
    exact hend
  exact pureZ okP named { weaks := fun f q => if f = 50 then (if q = 26 then some (wD 6 974 g.length ds hds hone) else none) else none, hint := tabH Try.prog [(50, 16, .call 73 _ _ hc), (50, 21, .call 74 _ _ h74), (50, 23, hLenG Try.prog g), (50, 24, .mk ((g.length : Nat) : Int) (by omega) (by omega)), (50, 26, .call 75 _ _ h75), (50, 28, .call 78 _ _ h78), (50, 29, .val (dN (intsN ord).length) (dN ord.length) (by rw [intsN_len]))] } ({ loops := fun q => if q = 8 then some ⟨95, loopOf Try.prog 50 8, bd8 up (intoOf g) ord g.length 1 0, ovl [(974, ⟨1, some (.arr 1 (List.replicate g.length .nils))⟩)] fun _ => ⟨0, none⟩, .exit 0, [(6, .sl 974 1 0 g.length 1)], h1, fun X hP hN => (hl8 X hP hN).aw.mono fun e' S' hh => ⟨hh.1, hh.2 ▸ Weak.refl _⟩⟩ else if q = 21 then some ⟨95, loopOf Try.prog 50 21, bd21 g.length 1 0, h1, .exit 6, [(6, .sl 974 1 0 g.length 1)], ovl [(974, ⟨1, some (.arr 1 (ds.map .d))⟩)] h2, fun X hP hN => (hl21 X hP hN).aw.mono fun e' S' hh => ⟨hh.1, hh.2 ▸ (by rw [e3]; exact Weak.refl _)⟩⟩ else none }) 2000 (by kernel_rfl)
end Go.Avm
