/-
  Paint: a slice of pairs that comes in, as data.
-/
import Derived.Test.YtpcomfnianamgaaRows
import Derived.Test.YtpcomfnianamgaaPaA
import Derived.Test.YtpcomfnianamgaaAvmQ
import Derived.Laws.StandIn
import Derived.LaidMore
import Derived.MakeChecks
import Derived.ChangeMaps5
import Derived.ChangeSlices
import Derived.OpenShut
import Derived.Deep.Slices
set_option linter.unusedSectionVars false
namespace Go.Avm
open Go.ChangeShapes Go.WideShapes Go.ChangeAt Go.RowKit Go.Proofs Go.Proofs.Ytpcomfnianamgaa

theorem cells60 : Try.prog.cellsOf 60 = 2 := by kernel_rfl
theorem cells3 : Try.prog.cellsOf 3 = 1 := by kernel_rfl
theorem trod_pair {H : Type} {enc : TypeId × Value → H} {W : World} {base fuel : Nat} {sp : Nat → Bool} {hd : Bool} {v0 v1 : Value} {x : DataW H × List MemPlace} (h : DataW.trod enc Try.prog W base sp hd fuel 60 [v0, v1] = some x) : ∃ a b : Int, v0 = .int .i64 a ∧ v1 = .int .i64 b := by
  cases fuel with
  | zero => simp [DataW.trod] at h
  | succ n =>
    unfold DataW.trod at h
    simp only [Try.underlying60] at h
    rw [if_pos (by rw [cells60]; rfl), cells3] at h
    simp only [Option.map_eq_some_iff] at h
    obtain ⟨xs, hx, _⟩ := h
    have h2 : (List.range 2) = [0, 1] := rfl
    rw [h2, List.mapM_cons, List.mapM_cons] at hx
    simp only [Option.bind_eq_bind, Option.bind_eq_some_iff] at hx
    obtain ⟨y0, e0, ys, ⟨y1, e1, _⟩, _⟩ := hx
    obtain ⟨a, ha, _⟩ := DataW.trod_int Try.underlying3 e0
    obtain ⟨b, hb, _⟩ := DataW.trod_int Try.underlying3 e1
    simp at ha hb
    exact ⟨a, b, ha, hb⟩
theorem flat_pairs : ∀ l : List (Int × Int), D.flat (l.map fun p => D.agg [.int .i64 p.1, .int .i64 p.2]) = l.flatMap fun p => [D.int .i64 p.1, .int .i64 p.2]
  | [] => rfl
  | p :: l => by
    have := flat_pairs l
    unfold D.flat at this ⊢
    rw [List.map_cons, List.flatMap_cons, List.flatMap_cons, this]
    rfl
theorem pairs_get : ∀ (l : List (Int × Int)) (t : Nat) (c : D), (l.flatMap fun p => [D.int .i64 p.1, .int .i64 p.2])[t]? = some c → ∃ h : t / 2 < l.length, c = .int .i64 (if t % 2 = 0 then l[t / 2].1 else l[t / 2].2)
  | [], t, c, h => by simp at h
  | p :: l, 0, c, h => by
    simp at h
    exact ⟨by simp, by simp [h]⟩
  | p :: l, 1, c, h => by
    simp at h
    exact ⟨by simp, by simp [h]⟩
  | p :: l, t + 2, c, h => by
    rw [List.flatMap_cons] at h
    have h' : (l.flatMap fun p => [D.int .i64 p.1, .int .i64 p.2])[t]? = some c := h
    obtain ⟨h1, h2⟩ := pairs_get l t c h'
    have e : (t + 2) / 2 = t / 2 + 1 := by omega
    have e2 : (t + 2) % 2 = t % 2 := by omega
    refine ⟨by simp only [List.length_cons]; omega, ?_⟩
    rw [h2, e2]
    simp only [e, List.getElem_cons_succ]
set_option maxRecDepth 100000 in
/-- What a slice of pairs that came in is, as data. -/
theorem pairsArg {H : Type} {enc : TypeId × Value → H} {W : World} {base : Nat} {v1 : Value} {d1 : DataW H} {p1 : List MemPlace} (hval : Value.okWide Try.prog W .any base 56 v1) (h1 : DataW.Trod enc Try.prog W 0 (fun _ => true) true 56 v1 d1 p1) :
    ∃ (l : List (Int × Int)) (I' : Nat → Nat → Prop), l.length ≤ 9223372036854775807 ∧ DRep I' W (.ro (l.map fun p => D.agg [.int .i64 p.1, .int .i64 p.2])) v1 ∧ ∀ b o, I' b o → b < W.heap.size := by
  obtain ⟨a1, len, cap, rfl⟩ := okWide_slice Try.underlying56 hval
  obtain ⟨fuel, hf⟩ := h1
  rcases Go.Deep.open_slice Try.underlying56 hf with ⟨hcs, hx⟩ | ⟨a, len', cap', m, n, Dd, Pl, hcs, hb, hl, hm, hmm, hx, hel⟩
  · simp [Value.cells] at hcs
    obtain ⟨rfl, rfl, rfl⟩ := hcs
    exact ⟨[], fun _ _ => False, by simp, .roNil _ _, fun _ _ h => h.elim⟩
  · simp [Value.cells] at hcs
    obtain ⟨rfl, rfl, rfl⟩ := hcs
    have hlm : len ≤ m := by rw [hmm]; split <;> omega
    have key : ∀ i, i < len → ∃ q : Int × Int, W.cell? (a.add (i * 2)) = some (.int .i64 q.1) ∧ W.cell? (a.add (i * 2 + 1)) = some (.int .i64 q.2) := fun i hi => by
      obtain ⟨cs', h1, h2⟩ := hel i (by omega)
      rw [cells60] at h1
      obtain ⟨_, hlen, hcell⟩ := World.cells?_some h1
      match cs', hlen with
      | [v0, v1], _ =>
        obtain ⟨x, y, rfl, rfl⟩ := trod_pair h2
        have e0 := hcell 0 (by omega)
        have e1 := hcell 1 (by omega)
        rw [Go.Deep.add_add] at e0 e1
        exact ⟨(x, y), by simpa using e0, by simpa using e1⟩
    obtain ⟨f, hfj⟩ := Go.Deep.choose_lt key
    rcases Nat.eq_zero_or_pos len with rfl | hpos
    · exact ⟨[], fun _ _ => False, by simp, .roNil _ _, fun _ _ h => h.elim⟩
    obtain ⟨ab, ao, spot⟩ := a
    have hspot : spot = none := by simpa [Addr.add] using World.cell?_spot (hfj 0 hpos).1
    subst hspot
    have hlen : (((List.range len).map f).map fun p => D.agg [.int .i64 p.1, .int .i64 p.2]).length = len := by simp
    have hro : DRep (fun b o => b = ab ∧ ao ≤ o ∧ o < ao + 2 * len) W (.ro (((List.range len).map f).map fun p => D.agg [.int .i64 p.1, .int .i64 p.2])) (.slice (some ⟨ab, ao, none⟩) (((List.range len).map f).map fun p => D.agg [.int .i64 p.1, .int .i64 p.2]).length cap) :=
      .ro _ ab ao cap 2 (fun t => .int .i64 (if t % 2 = 0 then (f (t / 2)).1 else (f (t / 2)).2)) (by rw [hlen]; exact hl) (fun e he => by
        obtain ⟨y, _, rfl⟩ := List.mem_map.1 he
        rfl) (fun e he => by
        rw [flat_pairs] at he
        obtain ⟨y, _, hy⟩ := List.mem_flatMap.1 he
        simp at hy
        rcases hy with rfl | rfl <;> rfl) (fun t c hc => by
        rw [flat_pairs] at hc
        obtain ⟨h1, _⟩ := pairs_get _ t c hc
        simp at h1
        exact ⟨rfl, by omega, by omega⟩) (fun t c hc => by
        rw [flat_pairs] at hc
        obtain ⟨h1, _⟩ := pairs_get _ t c hc
        simp at h1
        have h2 := hfj (t / 2) h1
        rw [Addr.add_lit, Addr.add_lit] at h2
        rcases Nat.mod_two_eq_zero_or_one t with h | h
        · rw [if_pos h, ← h2.1]
          congr 2
          omega
        · rw [if_neg (by omega), ← h2.2]
          congr 2
          omega) (fun t c hc => by
        rw [flat_pairs] at hc
        obtain ⟨h1, h2⟩ := pairs_get _ t c hc
        rw [h2]
        simp only [List.getElem_map, List.getElem_range]
        exact .int _ _)
    rw [hlen] at hro
    refine ⟨(List.range len).map f, _, by simp [maxLen] at hm ⊢; omega, hro, fun b o hb => ?_⟩
    obtain ⟨rfl, _, _⟩ := hb
    have hc := (hfj 0 hpos).1
    rw [Addr.add_lit] at hc
    unfold World.cell? at hc
    cases hh : W.heap[b]? with
    | none => rw [hh] at hc; cases hc
    | some o => exact (Array.getElem?_eq_some_iff.1 hh).1
end Go.Avm
