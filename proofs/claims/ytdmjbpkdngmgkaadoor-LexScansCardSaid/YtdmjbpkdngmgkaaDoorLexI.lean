/-
  strconv.ParseInt at digits, on data.
-/
import Derived.Test.YtdmjbpkdngmgkaaDoorLexH
import Derived.Test.YtdmjbpkdngmgkaaDoorLexShelf
set_option linter.unusedSectionVars false
namespace Go.Avm
open Go.Proofs Go.RowKit

def dv (acc : Nat) (l : List UInt8) : Nat := l.foldl (fun a c => a * 10 + (c.toNat - 48)) acc
theorem dv_nil (acc : Nat) : dv acc [] = acc := by simp only [dv, List.foldl_nil]
theorem dv_cons (acc : Nat) (c : UInt8) (r : List UInt8) : dv acc (c :: r) = dv (acc * 10 + (c.toNat - 48)) r := by simp only [dv, List.foldl_cons]
theorem dv_le (l : List UInt8) : ∀ acc : Nat, acc ≤ dv acc l := by
  induction l with
  | nil => intro acc; rw [dv_nil]; exact Nat.le_refl _
  | cons c r ih =>
    intro acc
    have := ih (acc * 10 + (c.toNat - 48))
    rw [dv_cons]
    omega
theorem isDig_iff (b : UInt8) : isDig b = true ↔ 48 ≤ b.toNat ∧ b.toNat ≤ 57 := by
  simp only [isDig, ge8, le8, Bool.and_eq_true, decide_eq_true_eq]
  omega
theorem parseM (M : Nat) (hM : M = 18446744073709551615) : ∀ (l : List UInt8) (acc : Nat), (∀ c ∈ l, isDig c = true) → (dv acc l ≤ M → Lib.parseUintM M acc l = .ok (dv acc l)) ∧ (acc ≤ M → M < dv acc l → Lib.parseUintM M acc l = .range)
  | [], acc, _ => ⟨fun _ => by rw [dv_nil]; rfl, fun h1 h2 => by rw [dv_nil] at h2; omega⟩
  | c :: r, acc, h => by
    have hc := (isDig_iff c).1 (h c (by simp))
    have ih := parseM M hM r (acc * 10 + (c.toNat - 48)) (fun x hx => h x (by simp [hx]))
    have hle := dv_le r (acc * 10 + (c.toNat - 48))
    rw [dv_cons]
    generalize dv (acc * 10 + (c.toNat - 48)) r = V at *
    rw [Lib.parseUintM, if_pos hc]
    refine ⟨fun h0 => ?_, fun h0 h1 => ?_⟩
    · rw [if_neg (by omega), if_neg (by omega)]
      exact ih.1 h0
    · split
      · rfl
      · split
        · rfl
        · exact ih.2 (by omega) h1
theorem parseI (c : UInt8) (r : List UInt8) (h : ∀ x ∈ c :: r, isDig x = true) : (dv 0 (c :: r) < 9223372036854775808 → Lib.parseIntB 64 (c :: r) = .ok (dv 0 (c :: r) : Int)) ∧ (9223372036854775808 ≤ dv 0 (c :: r) → Lib.parseIntB 64 (c :: r) = .range) := by
  have hc := (isDig_iff c).1 (h c (by simp))
  have hm := parseM _ (show (2 ^ 64 - 1 : Nat) = 18446744073709551615 from rfl) (c :: r) 0 h
  have hb : Lib.parseUintB 64 (c :: r) = Lib.parseUintM (2 ^ 64 - 1) 0 (c :: r) := by rw [Lib.parseUintB, if_neg (by simp)]
  have hx : (if c.toNat = 43 ∨ c.toNat = 45 then r else c :: r) = c :: r := if_neg (by omega)
  unfold Lib.parseIntB
  simp only [hx, hb]
  generalize dv 0 (c :: r) = V at *
  have e1 : (2 ^ 64 - 1 : Nat) = 18446744073709551615 := rfl
  have e2 : (2 ^ (64 - 1) : Nat) = 9223372036854775808 := rfl
  rw [e1] at hm ⊢
  refine ⟨fun h0 => ?_, fun h0 => ?_⟩
  · rw [hm.1 (by omega)]
    simp only [e2]
    rw [if_neg (by omega), if_neg (by omega), if_neg (by omega)]
  · by_cases h1 : V ≤ 18446744073709551615
    · rw [hm.1 h1]
      simp only [e2]
      rw [if_pos (by omega)]
    · rw [hm.2 (by omega) (by omega)]

theorem callable32 : Callable Tryd.prog 32 := ⟨Tryd.f32, Tryd.func32, by kernel_rfl, by kernel_rfl⟩
theorem strArg {t : List UInt8} {I : Nat → Nat → Prop} {w : World} {u : Value} (h : DRep I w (.str t) u) : ∃ s : ByteArray, u = .string s ∧ s.data.toList = t := by
  cases h with
  | str _ s hs => exact ⟨s, rfl, hs⟩
theorem intArg {k : IntKind} {n : Int} {I : Nat → Nat → Prop} {w : World} {u : Value} (h : DRep I w (.int k n) u) : u = .int k n := by
  cases h; rfl
theorem args3 {t : List UInt8} {I : Nat → Nat → Prop} {w : World} {cargs : Array Value} (hs : cargs.size = 3) (h : ∀ (i : Nat) (x : D) (u : Value), [D.str t, .int .i64 10, .int .i64 64][i]? = some x → cargs[i]? = some u → DRep I w x u) :
    ∃ s : ByteArray, cargs = #[.string s, .int .i64 10, .int .i64 64] ∧ s.data.toList = t := by
  obtain ⟨l⟩ := cargs
  match l, hs with
  | [a, b, c], _ =>
    obtain ⟨s, rfl, hs⟩ := strArg (h 0 _ a rfl rfl)
    have hb := intArg (h 1 _ b rfl rfl)
    have hc := intArg (h 2 _ c rfl rfl)
    subst hb; subst hc
    exact ⟨s, rfl, hs⟩
theorem retTwo {I : Nat → Nat → Prop} {w : World} {a b : D} {x y : Value} (h1 : DRep I w a x) (h2 : DRep I w b y) : RetRep I w [a, b] (.tuple #[x, y]) :=
  .inr ⟨by simp, #[x, y], rfl, rfl, fun i d u hd hu => by
    match i with
    | 0 => simp at hd hu; subst hd; subst hu; exact h1
    | 1 => simp at hd hu; subst hd; subst hu; exact h2
    | i + 2 => simp at hd⟩
theorem parseOk (c : UInt8) (r : List UInt8) (h : ∀ x ∈ c :: r, isDig x = true) (hl : (c :: r).length ≤ 100000) (hv : dv 0 (c :: r) < 9223372036854775808) : Pure Tryd.prog 32 [.str (c :: r), .int .i64 10, .int .i64 64] [.int .i64 (dv 0 (c :: r) : Int), .nili] := by
  refine ⟨callable32, fun w I cargs hI hsz hargs hg => ?_⟩
  obtain ⟨s, rfl, hs⟩ := args3 hsz hargs
  have hp := (parseI c r h).1 hv
  rw [← hs] at hp
  have hlen : s.size ≤ 9223372036854775806 := by
    have : s.data.toList.length = (c :: r).length := by rw [hs]
    have h2 : s.data.toList.length = s.size := by rw [Array.length_toList]; rfl
    omega
  refine (Any.strconv_ParseInt_10_at64_ok Tryd.lays174 s hlen _ hp w).mono ?_
  rintro e w' ⟨rfl, hw⟩
  have hb : Below w.heap.size w w' := by
    rcases hw with rfl | ⟨t, rfl⟩
    · exact Below.refl _ _
    · exact Lib.bytesWorld_below _ _ _
  refine ⟨_, I, rfl, hb, fun _ _ x => x, fun _ _ x => .inl x, fun b o x => Nat.lt_of_lt_of_le (hI b o x) hb.size, retTwo ?_ .nili⟩
  rw [hs]
  exact .int _ _
theorem parseErr (c : UInt8) (r : List UInt8) (h : ∀ x ∈ c :: r, isDig x = true) (hl : (c :: r).length ≤ 100000) (hv : 9223372036854775808 ≤ dv 0 (c :: r)) : Pure Tryd.prog 32 [.str (c :: r), .int .i64 10, .int .i64 64] [.int .i64 9223372036854775807, .ifc] := by
  refine ⟨callable32, fun w I cargs hI hsz hargs hg => ?_⟩
  obtain ⟨s, rfl, hs⟩ := args3 hsz hargs
  have hp := (parseI c r h).2 hv
  rw [← hs] at hp
  have hlen : s.size ≤ 281474976710656 := by
    have : s.data.toList.length = (c :: r).length := by rw [hs]
    have h2 : s.data.toList.length = s.size := by rw [Array.length_toList]; rfl
    omega
  obtain ⟨ty, v, hc⟩ : ∃ ty v, w.cell? ⟨3, 0, none⟩ = some (.iface ty v) := by
    have h3 : DRep I w (.rp [.ifc]) (.pointer (some ⟨3, 0, none⟩)) := hg 3 [.ifc] rfl
    cases h3 with
    | rp cs b o U h1 hi hc hr =>
      have h4 := hr 0 .ifc rfl
      have h5 := hc 0 .ifc rfl
      generalize U 0 = u at h4 h5
      cases h4 with
      | ifc t v => exact ⟨t, v, h5⟩
  have hsat : Lib.intSat 64 s.data.toList = 9223372036854775807 := by
    have hd := (isDig_iff c).1 (h c (by simp))
    rw [hs, Lib.intSat, if_neg (by simp only [List.head?_cons, Option.map_some, Option.some.injEq]; omega)]
    rfl
  refine (Any.strconv_ParseInt_10_at64_range Tryd.lays174 s hlen hp (.iface ty v) w hc (.inr ⟨_, _, rfl⟩)).mono ?_
  rintro e w' ⟨N, rfl, hN, hcell, hb⟩
  refine ⟨_, I, rfl, hb, fun _ _ x => x, fun _ _ x => .inl x, fun b o x => Nat.lt_of_lt_of_le (hI b o x) hb.size, retTwo ?_ (.ifc _ _)⟩
  rw [hsat]
  exact .int _ _
end Go.Avm
