/-
  The abstract machine, part W: rows whose keys are counted by a variable: one of them gets a written key, and its own again; or is read alone from here on.
-/
import Derived.Test.YtpcomfnianamgaaAvmV
set_option linter.unusedSectionVars false
namespace Go.Avm
open Go.RowKit
variable [GlobTab]

abbrev WeakH (h h' : Heap) : Prop := ∀ (X : Fix) (env : Nat → AV), Weak X ⟨env, h⟩ ⟨env, h'⟩
theorem WeakH.trans {h h' h'' : Heap} (a : WeakH h h') (b : WeakH h' h'') : WeakH h h'' := fun X env => (a X env).trans (b X env)
theorem WeakH.refl (h : Heap) : WeakH h h := fun X env => Weak.refl _

def At (h : Heap) (l : List (Nat × Ent)) : Prop := ∀ p ∈ l, h p.1 = p.2
theorem At.ovl {h : Heap} : ∀ {l : List (Nat × Ent)}, At h l → ovl l h = h
  | [], _ => rfl
  | (k, e) :: r, ha => by
    have h1 : h k = e := ha (k, e) (by simp)
    have h2 := At.ovl (l := r) (fun p hp => ha p (by simp [hp]))
    simp only [Go.Avm.ovl, h2]
    funext t
    simp only [upd]
    split
    · rename_i ht; rw [ht, h1]
    · rfl

/-- A row, under its own key, or nil. -/
def RowAt (h : Heap) (k : Nat) (c : AV) (r : List Int) : Prop :=
  (c = .nils ∧ r = []) ∨ ∃ v, c = .sl k v 0 r.length 1 ∧ h k = ⟨v, some (.arr 1 (r.map dI))⟩
theorem RowAt.congr {h h' : Heap} {k : Nat} {c : AV} {r : List Int} (hr : RowAt h k c r) (he : h' k = h k) : RowAt h' k c r := by
  unfold RowAt
  rw [he]
  exact hr
theorem RowAt.lone {h : Heap} {k : Nat} {c : AV} {r : List Int} (hr : RowAt h k c r) : c.lone = true := by
  rcases hr with ⟨rfl, _⟩ | ⟨v, rfl, _⟩ <;> rfl

theorem focus {h : Heap} {C K A a : Nat} {vC : Nat} {ces : List AV} {x : AV} {r : List Int} (hKA : K ≠ A) (hCK : C ≠ K) (hCA : C ≠ A) (hC : h C = ⟨vC, some (.arr 1 ces)⟩) (ha : ces[a]? = some x) (hr : RowAt h K x r) :
    ∃ vA h', WeakH h h' ∧ h' A = ⟨vA, some (.arr 1 (r.map dI))⟩ ∧ h' C = ⟨vC, some (.arr 1 (ces.set a (.sl A vA 0 r.length 1)))⟩ ∧ ∀ k, k ≠ A → k ≠ C → k ≠ K → h' k = h k := by
  have hob : (h C).ob = some (.arr 1 ces) := by rw [hC]
  rcases hr with ⟨rfl, rfl⟩ | ⟨v, rfl, hk⟩
  · refine ⟨(h A).ver + 1, _, fun X env => weak_moveNil (X := X) (env := env) (sz := 1) hCA hob ha, ?_, ?_, fun k h1 h2 h3 => ?_⟩
    · rw [upd_ne _ _ (Ne.symm hCA), upd_same]; rfl
    · rw [upd_same, hC]; rfl
    · rw [upd_ne _ _ h2, upd_ne _ _ h1]
  · have hkv : (h K).ver = v := by rw [hk]
    have hko : (h K).ob = some (.arr 1 (r.map dI)) := by rw [hk]
    refine ⟨(h A).ver + 1, _, fun X env => weak_move (X := X) (env := env) (A := K) (K := A) (off := 0) (len := r.length) (z := 1) hKA hCK hCA hob (by rw [hkv]; exact ha) hko, ?_, ?_, fun k h1 h2 h3 => ?_⟩
    · rw [upd_ne _ _ (Ne.symm hCA), upd_same]
    · rw [upd_same, hC]
    · rw [upd_ne _ _ h2, upd_ne _ _ h1, upd_ne _ _ h3]
theorem unfocus {h : Heap} {C K A a : Nat} {vC vA : Nat} {ces : List AV} {r : List Int} (hAK : A ≠ K) (hCK : C ≠ K) (hCA : C ≠ A) (hC : h C = ⟨vC, some (.arr 1 ces)⟩) (ha : ces[a]? = some (.sl A vA 0 r.length 1)) (hA : h A = ⟨vA, some (.arr 1 (r.map dI))⟩) :
    ∃ y h', WeakH h h' ∧ RowAt h' K y r ∧ h' C = ⟨vC, some (.arr 1 (ces.set a y))⟩ ∧ (∃ v, h' A = ⟨v, none⟩) ∧ ∀ k, k ≠ A → k ≠ C → k ≠ K → h' k = h k := by
  have hob : (h C).ob = some (.arr 1 ces) := by rw [hC]
  have hkv : (h A).ver = vA := by rw [hA]
  have hko : (h A).ob = some (.arr 1 (r.map dI)) := by rw [hA]
  refine ⟨_, _, fun X env => weak_move (X := X) (env := env) (A := A) (K := K) (off := 0) (len := r.length) (z := 1) hAK hCA hCK hob (by rw [hkv]; exact ha) hko, .inr ⟨(h K).ver + 1, rfl, ?_⟩, ?_, ⟨(h A).ver + 1, ?_⟩, fun k h1 h2 h3 => ?_⟩
  · rw [upd_ne _ _ (Ne.symm hCK), upd_same]
  · rw [upd_same, hC]
  · rw [upd_ne _ _ (Ne.symm hCA), upd_ne _ _ hAK, upd_same]
  · rw [upd_ne _ _ h2, upd_ne _ _ h3, upd_ne _ _ h1]
theorem freezeCell {h : Heap} {C A a n : Nat} {vC vA len : Nat} {ces es : List AV} {ds : List D} (hCA : C ≠ A) (hC : h C = ⟨vC, some (.arr 1 ces)⟩) (ha : ces[a]? = some (.sl A vA 0 len 1)) (hA : h A = ⟨vA, some (.arr 1 es)⟩) (hl : len ≤ es.length) (hv : viewL (view n h) (es.take len) = some (ds, [])) :
    ∃ h', WeakH h h' ∧ h' C = ⟨vC, some (.arr 1 (ces.set a (.d (.ro ds))))⟩ ∧ (∃ v, h' A = ⟨v, none⟩) ∧ ∀ k, k ≠ A → k ≠ C → h' k = h k := by
  have hob : (h C).ob = some (.arr 1 ces) := by rw [hC]
  have hkv : (h A).ver = vA := by rw [hA]
  have hko : (h A).ob = some (.arr 1 es) := by rw [hA]
  have hview : view (n + 1) h (.sl A vA 0 len 1) = some (.ro ds, [A]) := by
    rw [view_sl, hko]
    simp only
    rw [if_pos ⟨hkv, by omega⟩, List.drop_zero, hv]
    rfl
  have hk : updAll h (kill h [A]) = upd h A ⟨(h A).ver + 1, none⟩ := rfl
  refine ⟨_, fun X env => weak_freeze (X := X) (env := env) (ks := [A]) (by simpa using hCA) hob ha rfl hview, ?_, ⟨(h A).ver + 1, ?_⟩, fun k h1 h2 => ?_⟩
  · rw [upd_same, hC]
  · rw [upd_ne _ _ (Ne.symm hCA), hk, upd_same]
  · rw [upd_ne _ _ h2, hk, upd_ne _ _ h1]
theorem viewI (n : Nat) (h : Heap) : ∀ r : List Int, viewL (view (n + 1) h) (r.map dI) = some (r.map fun x => .int .i64 x, [])
  | [] => rfl
  | x :: r => by
    rw [List.map_cons, viewL, viewI n h r]
    rfl
theorem viewD (n : Nat) (h : Heap) : ∀ r : List D, (r.all fun x => x.one) = true → viewL (view (n + 1) h) (r.map .d) = some (r, [])
  | [], _ => rfl
  | x :: r, ha => by
    simp only [List.all_cons, Bool.and_eq_true] at ha
    rw [List.map_cons, viewL, viewD n h r ha.2]
    cases x <;> first | rfl | (simp [D.one] at ha)
/-- A row is read alone from here on. -/
theorem freezeRow {h : Heap} {C K a : Nat} {vC : Nat} {ces : List AV} {x : AV} {r : List Int} (hCK : C ≠ K) (hC : h C = ⟨vC, some (.arr 1 ces)⟩) (ha : ces[a]? = some x) (hr : RowAt h K x r) :
    ∃ h', WeakH h h' ∧ h' C = ⟨vC, some (.arr 1 (ces.set a (.d (.ro (r.map fun x => .int .i64 x)))))⟩ ∧ ∀ k, k ≠ C → k ≠ K → h' k = h k := by
  have hob : (h C).ob = some (.arr 1 ces) := by rw [hC]
  rcases hr with ⟨rfl, rfl⟩ | ⟨v, rfl, hk⟩
  · refine ⟨_, fun X env => weak_freeze (X := X) (env := env) (n := 1) (ks := []) (d := .ro []) (by simp) hob ha rfl rfl, ?_, fun k h1 _ => ?_⟩
    · rw [upd_same, hC]; rfl
    · rw [upd_ne _ _ h1]; rfl
  · obtain ⟨h', g1, g2, _, g4⟩ := freezeCell (n := 1) (ds := r.map fun x => .int .i64 x) hCK hC ha hk (by simp) (by
      rw [show r.length = (r.map dI).length by simp, List.take_length]
      exact viewI 0 h r)
    exact ⟨h', g1, g2, fun k h1 h2 => g4 k h2 h1⟩
end Go.Avm
