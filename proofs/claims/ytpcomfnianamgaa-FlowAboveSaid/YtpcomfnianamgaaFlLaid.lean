/-
  Flow: a slice of slices of ints that comes in, as data.
-/
import Derived.Test.YtpcomfnianamgaaRows
import Derived.Test.YtpcomfnianamgaaFlOne
import Derived.Test.YtpcomfnianamgaaAvmQ
import Derived.Laws.StandIn
import Derived.LaidMore
import Derived.MakeChecks
import Derived.ChangeMaps5
import Derived.ChangeSlices
import Derived.OpenShut
import Derived.Deep.Slices
set_option linter.unusedSectionVars false
namespace Go.Avm
open Go.ChangeShapes Go.WideShapes Go.ChangeAt Go.RowKit Go.Proofs Go.Proofs.Ytpcomfnianamgaa

theorem cellsOf3 : Try.prog.cellsOf 3 = 1 := by kernel_rfl
theorem cellsOf41 : Try.prog.cellsOf 41 = 1 := by kernel_rfl
theorem flat_lones : ∀ l : List D, (∀ d ∈ l, d.cells = [d]) → D.flat l = l
  | [], _ => rfl
  | p :: l, h => by
    have := flat_lones l (fun d hd => h d (by simp [hd]))
    unfold D.flat at this ⊢
    rw [List.flatMap_cons, this, h p (by simp)]
    rfl
theorem heap_lt {W : World} {b o : Nat} {v : Value} (h : W.cell? ⟨b, o, none⟩ = some v) : b < W.heap.size := by
  unfold World.cell? at h
  cases hh : W.heap[b]? with
  | none => rw [hh] at h; cases h
  | some o => exact (Array.getElem?_eq_some_iff.1 hh).1
/-- One-celled data that lie in a row. -/
theorem rep_row {W : World} {I : Nat → Nat → Prop} {ab ao cap : Nat} {l : List D} (hc : ∀ d ∈ l, d.cells = [d]) (h1 : ∀ d ∈ l, d.one = true) (f : Nat → Value) (hcap : l.length ≤ cap) (hI : ∀ t, t < l.length → I ab (ao + t)) (hcell : ∀ t, t < l.length → W.cell? ⟨ab, ao + t, none⟩ = some (f t)) (hrep : ∀ t d, l[t]? = some d → DRep I W d (f t)) :
    DRep I W (.ro l) (.slice (some ⟨ab, ao, none⟩) l.length cap) := by
  have hfl := flat_lones l hc
  refine .ro l ab ao cap 1 f hcap (fun e he => by rw [hc e he]; rfl) (fun e he => ?_) (fun t c h => ?_) (fun t c h => ?_) (fun t c h => ?_)
  · rw [hfl] at he; exact h1 e he
  · rw [hfl] at h; exact hI t (List.getElem?_eq_some_iff.1 h).1
  · rw [hfl] at h; exact hcell t (List.getElem?_eq_some_iff.1 h).1
  · rw [hfl] at h; exact hrep t c h
set_option maxRecDepth 100000 in
theorem intsCells {H : Type} {enc : TypeId × Value → H} {W : World} {fuel : Nat} {sp : Nat → Bool} {hd : Bool} {v : Value} {x : DataW H × List MemPlace} (h : DataW.trod enc Try.prog W 0 sp hd fuel 41 [v] = some x) :
    ∃ (l : List Int) (I' : Nat → Nat → Prop), DRep I' W (rowD l) v ∧ ∀ b o, I' b o → b < W.heap.size := by
  rcases Go.Deep.open_slice Try.underlying41 h with ⟨hcs, hx⟩ | ⟨a, len, cap, m, n, Dd, Pl, hcs, hb, hl, hm, hmm, hx, hel⟩
  · simp at hcs
    subst hcs
    exact ⟨[], fun _ _ => False, .roNil _ _, fun _ _ h => h.elim⟩
  · simp at hcs
    subst hcs
    have hlm : len ≤ m := by rw [hmm]; split <;> omega
    have key : ∀ i, i < len → ∃ q : Int, W.cell? (a.add i) = some (.int .i64 q) := fun i hi => by
      obtain ⟨cs', h1, h2⟩ := hel i (by omega)
      rw [cellsOf3, Nat.mul_one] at h1
      obtain ⟨_, hlen, hcell⟩ := World.cells?_some h1
      match cs', hlen with
      | [v0], _ =>
        obtain ⟨y, hy, _⟩ := DataW.trod_int Try.underlying3 h2
        simp at hy
        subst hy
        have e0 := hcell 0 (by omega)
        rw [Go.Deep.add_add] at e0
        exact ⟨y, by simpa using e0⟩
    obtain ⟨f, hf⟩ := Go.Deep.choose_lt key
    rcases Nat.eq_zero_or_pos len with rfl | hpos
    · exact ⟨[], fun _ _ => False, .roNil _ _, fun _ _ h => h.elim⟩
    obtain ⟨ab, ao, spot⟩ := a
    have hspot : spot = none := by simpa [Addr.add] using World.cell?_spot (hf 0 hpos)
    subst hspot
    have hlen : (((List.range len).map f).map fun x => D.int .i64 x).length = len := by simp
    have hro := rep_row (W := W) (I := fun b o => b = ab ∧ ao ≤ o ∧ o < ao + len) (ab := ab) (ao := ao) (cap := cap) (l := ((List.range len).map f).map fun x => D.int .i64 x) (fun d hd => by
      obtain ⟨y, _, rfl⟩ := List.mem_map.1 hd
      rfl) (fun d hd => by
      obtain ⟨y, _, rfl⟩ := List.mem_map.1 hd
      rfl) (fun t => .int .i64 (f t)) (by rw [hlen]; exact hl) (fun t ht => by rw [hlen] at ht; exact ⟨rfl, by omega, by omega⟩) (fun t ht => by
      rw [hlen] at ht
      have := hf t ht
      rwa [Addr.add_lit] at this) (fun t d hd => by
      have ht := (List.getElem?_eq_some_iff.1 hd).1
      rw [hlen] at ht
      simp [ht] at hd
      subst hd
      exact .int _ _)
    rw [hlen] at hro
    refine ⟨(List.range len).map f, _, hro, fun b o hb => ?_⟩
    obtain ⟨rfl, _, _⟩ := hb
    have hc := hf 0 hpos
    rw [Addr.add_lit] at hc
    exact heap_lt hc
set_option maxRecDepth 100000 in
/-- What a slice of slices of ints that came in is, as data. -/
theorem rowsArg {H : Type} {enc : TypeId × Value → H} {W : World} {base : Nat} {v1 : Value} {d1 : DataW H} {p1 : List MemPlace} (hval : Value.okWide Try.prog W .any base 47 v1) (h1 : DataW.Trod enc Try.prog W 0 (fun _ => true) true 47 v1 d1 p1) :
    ∃ (l : List (List Int)) (I' : Nat → Nat → Prop), l.length ≤ 9223372036854775807 ∧ DRep I' W (rowsD l) v1 ∧ ∀ b o, I' b o → b < W.heap.size := by
  obtain ⟨a1, len, cap, rfl⟩ := okWide_slice Try.underlying47 hval
  obtain ⟨fuel, hf⟩ := h1
  rcases Go.Deep.open_slice Try.underlying47 hf with ⟨hcs, hx⟩ | ⟨a, len', cap', m, n, Dd, Pl, hcs, hb, hl, hm, hmm, hx, hel⟩
  · simp [Value.cells] at hcs
    obtain ⟨rfl, rfl, rfl⟩ := hcs
    exact ⟨[], fun _ _ => False, by simp, .roNil _ _, fun _ _ h => h.elim⟩
  · simp [Value.cells] at hcs
    obtain ⟨rfl, rfl, rfl⟩ := hcs
    have hlm : len ≤ m := by rw [hmm]; split <;> omega
    have key : ∀ i, i < len → ∃ q : Value × List Int × (Nat → Nat → Prop), W.cell? (a.add i) = some q.1 ∧ DRep q.2.2 W (rowD q.2.1) q.1 ∧ ∀ b o, q.2.2 b o → b < W.heap.size := fun i hi => by
      obtain ⟨cs', h1, h2⟩ := hel i (by omega)
      rw [cellsOf41, Nat.mul_one] at h1
      obtain ⟨_, hlen, hcell⟩ := World.cells?_some h1
      match cs', hlen with
      | [v0], _ =>
        obtain ⟨l, I', h3, h4⟩ := intsCells h2
        have e0 := hcell 0 (by omega)
        rw [Go.Deep.add_add] at e0
        exact ⟨(v0, l, I'), by simpa using e0, h3, h4⟩
    obtain ⟨f, hfj⟩ := Go.Deep.choose_lt key
    rcases Nat.eq_zero_or_pos len with rfl | hpos
    · exact ⟨[], fun _ _ => False, by simp, .roNil _ _, fun _ _ h => h.elim⟩
    obtain ⟨ab, ao, spot⟩ := a
    have hspot : spot = none := by simpa [Addr.add] using World.cell?_spot (hfj 0 hpos).1
    subst hspot
    have hlen : (((List.range len).map fun i => (f i).2.1).map rowD).length = len := by simp
    have hro := rep_row (W := W) (I := fun b o => (b = ab ∧ ao ≤ o ∧ o < ao + len) ∨ ∃ i, i < len ∧ (f i).2.2 b o) (ab := ab) (ao := ao) (cap := cap) (l := ((List.range len).map fun i => (f i).2.1).map rowD) (fun d hd => by
      obtain ⟨y, _, rfl⟩ := List.mem_map.1 hd
      rfl) (fun d hd => by
      obtain ⟨y, _, rfl⟩ := List.mem_map.1 hd
      rfl) (fun t => (f t).1) (by rw [hlen]; exact hl) (fun t ht => by rw [hlen] at ht; exact .inl ⟨rfl, by omega, by omega⟩) (fun t ht => by
      rw [hlen] at ht
      have := (hfj t ht).1
      rwa [Addr.add_lit] at this) (fun t d hd => by
      have ht := (List.getElem?_eq_some_iff.1 hd).1
      rw [hlen] at ht
      simp [ht] at hd
      subst hd
      exact (hfj t ht).2.1.mono (fun _ _ x => .inr ⟨t, ht, x⟩) (fun _ _ _ => rfl))
    rw [hlen] at hro
    refine ⟨(List.range len).map fun i => (f i).2.1, _, by simp [maxLen] at hm ⊢; omega, hro, fun b o hb => ?_⟩
    rcases hb with ⟨rfl, _, _⟩ | ⟨i, hi, hb⟩
    · have hc := (hfj 0 hpos).1
      rw [Addr.add_lit] at hc
      exact heap_lt hc
    · exact (hfj i hi).2.2 b o hb
end Go.Avm
