/-
  The abstract machine: functions that defer, and recover, whose results are data.
-/
import Derived.Test.YtkhcaamgjjhpeaaGreatDoorAvmO
set_option linter.unusedSectionVars false
namespace Go.Avm
open Go.RowKit
variable [GlobTab]

def hp0 : Heap := fun _ => ⟨0, none⟩
/-- Values, looked at as data. -/
def viewD (h : Heap) : List AV → Option (List D)
  | [] => some []
  | x :: l => match view 12 h x, viewD h l with
    | some r, some rs => some (r.1 :: rs)
    | _, _ => none
theorem viewD_len {h : Heap} : ∀ {l : List AV} {ds : List D}, viewD h l = some ds → l.length = ds.length
  | [], ds, e => by simp [viewD] at e; subst e; rfl
  | x :: l, ds, e => by
    simp only [viewD] at e
    split at e
    · rename_i r rs hr hrs
      simp only [Option.some.injEq] at e
      subst e
      simp [viewD_len hrs]
    · cases e
theorem viewD_get {h : Heap} : ∀ {l : List AV} {ds : List D}, viewD h l = some ds → ∀ (i : Nat) (d : D), ds[i]? = some d → ∃ x ks, l[i]? = some x ∧ view 12 h x = some (d, ks)
  | [], ds, e, i, d, hd => by simp [viewD] at e; subst e; simp at hd
  | x :: l, ds, e, i, d, hd => by
    simp only [viewD] at e
    split at e
    · rename_i r rs hr hrs
      simp only [Option.some.injEq] at e
      subst e
      cases i with
      | zero => simp at hd; subst hd; exact ⟨x, r.2, rfl, hr⟩
      | succ i => exact viewD_get hrs i d (by simpa using hd)
    · cases e
theorem pure_of_hcall {P : Program} {g : Nat} {ds rs' : List D} {rs : List AV} {h' : Heap} (hc : HCall P g (ds.map .d) hp0 rs h') (hv : viewD h' rs = some rs') : Pure P g ds rs' := by
  refine ⟨hc.1, fun w I cargs hI hs hargs hglob => ?_⟩
  have hr : HR ⟨I, fun _ _ => none, fun _ => 0, fun _ _ => none⟩ w.heap.size w I hp0 w :=
    ⟨Below.refl _ _, Nat.le_refl _, hI, fun _ _ x => x, fun _ _ x _ => x, fun k v L x => by simp at x, fun k L x => by simp at x, fun k k' L L' x => by simp at x, fun k ob x => by simp [hp0] at x, fun _ => rfl, ⟨fun k v b x => by simp at x, fun k v k' v' b x => by simp at x, fun k es c x => by simp [hp0] at x, fun k fno N env ps as bd st x => by simp [hp0] at x, fun k km vm since seen x => by simp [hp0] at x, hglob⟩⟩
  refine (hc.2 _ w.heap.size w I w cargs hr (by simpa using hs) (fun i x u hx hu => ?_)).mono ?_
  · rw [List.getElem?_map] at hx
    cases hd : ds[i]? with
    | none => rw [hd] at hx; simp at hx
    | some d => rw [hd] at hx; simp at hx; subst hx; exact .d (hargs i d u hd hu)
  rintro e w' ⟨v, G', rfl, e1, hr2, e3⟩
  have one : ∀ (x : AV) (y : D) (ks : List Nat) (u : Value), view 12 h' x = some (y, ks) → Rep G' w' x u → DRep (immAll G' h') w' y u := fun x y ks u hx hu =>
    (view_sound hr2 12 _ _ _ _ hx hu).mono (by
      rintro b o (x | ⟨k, _, L, hL, hb⟩)
      · exact .inl x
      · exact .inr ⟨k, L, hL, hb⟩) (fun _ _ _ => rfl)
  refine ⟨v, immAll G' h', rfl, hr2.below, fun b o x => .inl (hr2.i0 b o x), ?_, ?_, ?_⟩
  · rintro b o (x | ⟨k, L, hL, rfl⟩)
    · rcases Nat.lt_or_ge b w.heap.size with hlt | hge
      · exact .inl (hr2.immlow b o x hlt)
      · exact .inr hge
    · exact .inr (hr2.own k L hL).1
  · rintro b o (x | ⟨k, L, hL, rfl⟩)
    · exact hr2.immlt b o x
    · exact hr2.blt hL
  · have hl := viewD_len hv
    by_cases h1 : rs.length = 1
    · obtain ⟨x, rfl⟩ := List.length_eq_one_iff.1 h1
      obtain ⟨y, rfl⟩ := List.length_eq_one_iff.1 (hl ▸ h1)
      obtain ⟨x', ks, hx', hy⟩ := viewD_get hv 0 y rfl
      simp at hx'; subst hx'
      exact .inl ⟨y, rfl, one _ _ _ _ hy e3⟩
    · have : retV rs = .tup rs := by
        match rs, h1 with
        | [], _ => rfl
        | [_], h => simp at h
        | _ :: _ :: _, _ => rfl
      rw [this] at e3
      cases e3 with
      | tup _ vs hvl hrep =>
        refine .inr ⟨by omega, vs, rfl, by omega, fun i x u hx hu => ?_⟩
        obtain ⟨a, ks, ha, hb⟩ := viewD_get hv i x hx
        exact one _ _ _ _ hb (hrep i a u ha hu)
def callBD (P : Program) (ex : Exec) (g : Nat) (ds : List D) : Option (List D) := match callXE P ex 0 g (ds.map .d) hp0 with
  | some (.ret rs, h', _, _) => viewD h' rs
  | _ => none
/-- A whole run on data of a function that may defer. -/
theorem pure_of_execB {P : Program} (hm : OkP P) (hn : Named P) (obm : Nat → Nat → Bool) (hp : Nat → Bool) (mm : Memo P) (n : Nat) {g : Nat} {ds rs : List D} (h : callBD P (execE P obm hp mm n) g ds = some rs) : Pure P g ds rs := by
  unfold callBD at h
  split at h
  · rename_i rs1 h' b tk hx
    exact pure_of_hcall (callXE_sound hm hn (execE_right hm hn n) hx).1 h
  · cases h
end Go.Avm
