/-
  The abstract machine: what comes in as an argument (numbers, bools, texts, slices, structs, as deep as may be) is data.
-/
import Derived.Test.YtpcomfnianamgaaRows
import Derived.Test.YtpcomfnianamgaaG01
import Derived.Laws.StandIn
import Derived.LaidMore
import Derived.MakeChecks
import Derived.ChangeMaps5
import Derived.ChangeSlices
import Derived.OpenShut
import Derived.Deep.Slices
import Derived.Test.YtpcomfnianamgaaG09
import Derived.Test.YtpcomfnianamgaaG11
set_option linter.unusedSectionVars false
namespace Go.Avm
open Go.ChangeShapes Go.WideShapes Go.RowKit Go.Proofs.Ytpcomfnianamgaa
mutual
def D.bulk : D → Nat
 | .str s => s.length + 1
 | .agg cs => bulkL cs
 | .ro l => bulkL l + 1
 | .rp cs => bulkL cs + 1
 | _ => 1
def bulkL : List D → Nat
 | [] => 0
 | d :: r => d.bulk + bulkL r
end
theorem bulkL_app : ∀ a b : List D, bulkL (a ++ b) = bulkL a + bulkL b
 | [], b => by simp [bulkL]
 | d :: a, b => by rw [List.cons_append, bulkL, bulkL, bulkL_app a b, Nat.add_assoc]
def isAggT (P : Program) (t : TypeId) : Bool := match P.underlying t with
 | some (.struct _) => true
 | _ => false
def wrapT (P : Program) (e : TypeId) (x : List D) : D := if isAggT P e then .agg x else x.headD .nilp
def FitL (F : TypeId → List D → Prop) : List Field → List D → Prop
 | [], ds => ds = []
 | f :: fs, ds => ∃ a b, ds = a ++ b ∧ F f.type a ∧ FitL F fs b
def Fit (P : Program) : Nat → TypeId → List D → Prop
 | 0, _, _ => False
 | n + 1, t, ds => match P.underlying t with
  | some .bool => ∃ b, ds = [.bool b]
  | some (.int k) => ∃ x, ds = [.int k x] ∧ (Lit.int k x).wf = true
  | some .string => ∃ s : List UInt8, ds = [.str s] ∧ s.length ≤ maxLen
  | some (.slice e) => ∃ l : List (List D), ds = [.ro (l.map (wrapT P e))] ∧ l.length ≤ maxLen ∧ ∀ x ∈ l, Fit P n e x
  | some (.struct fs) => FitL (Fit P n) fs.toList ds
  | _ => False
def tidyL (P : Program) (T : TypeId → Bool) : List Field → Nat → Bool
 | [], _ => true
 | f :: fs, o => f.offset == o && (T f.type && tidyL P T fs (o + P.cellsOf f.type))
def tidy (P : Program) : Nat → TypeId → Bool
 | 0, _ => false
 | n + 1, t => match P.underlying t with
  | some .bool | some (.int _) | some .string => P.cellsOf t == 1
  | some (.slice e) => P.cellsOf t == 1 && (decide (0 < P.cellsOf e) && tidy P n e)
  | some (.struct fs) => tidyL P (tidy P n) fs.toList 0 && (fs.toList.map fun f => P.cellsOf f.type).sum == P.cellsOf t
  | _ => false
theorem flat_get {α : Type} {sz : Nat} : ∀ (l : List (List α)), (∀ x ∈ l, x.length = sz) → ∀ (t : Nat) (c : α), l.flatten[t]? = some c → ∃ x, l[t / sz]? = some x ∧ x[t % sz]? = some c
 | [], _, t, c, h => by simp at h
 | x :: l, hl, t, c, h => by
  have hx : x.length = sz := hl x (by simp)
  rw [List.flatten_cons] at h
  rcases Nat.lt_or_ge t sz with ht | ht
  ·rw [List.getElem?_append_left (by omega)] at h
   exact ⟨x, by rw [Nat.div_eq_of_lt ht]; rfl, by rw [Nat.mod_eq_of_lt ht]; exact h⟩
  ·rw [List.getElem?_append_right (by omega), hx] at h
   obtain ⟨y, h1, h2⟩ := flat_get l (fun y hy => hl y (by simp [hy])) (t - sz) c h
   have hpos : 0 < sz := by
    rcases Nat.eq_zero_or_pos sz with h0 | h0
    ·subst h0
     have : y = [] := List.length_eq_zero_iff.1 (hl y (by simp [List.mem_of_getElem? h1]))
     subst this
     simp at h2
    ·exact h0
   have e1 : t / sz = (t - sz) / sz + 1 := by
    conv => lhs; rw [show t = (t - sz) + sz by omega]
    rw [Nat.add_div_right _ hpos]
   have e2 : t % sz = (t - sz) % sz := by
    conv => lhs; rw [show t = (t - sz) + sz by omega]
    rw [Nat.add_mod_right]
   exact ⟨y, by rw [e1]; simpa using h1, by rw [e2]; exact h2⟩
theorem flat_wrap (w : List D → D) : ∀ l : List (List D), (∀ x ∈ l, (w x).cells = x) → D.flat (l.map w) = l.flatten
 | [], _ => rfl
 | x :: l, h => by
  have := flat_wrap w l (fun y hy => h y (by simp [hy]))
  unfold D.flat at this ⊢
  rw [List.map_cons, List.flatMap_cons, this, h x (by simp), List.flatten_cons]
theorem cell_lt {W : World} {b o : Nat} {v : Value} (h : W.cell? ⟨b, o, none⟩ = some v) : b < W.heap.size := by
 unfold World.cell? at h
 cases hh : W.heap[b]? with
 | none => rw [hh] at h; cases h
 | some o => exact (Array.getElem?_eq_some_iff.1 hh).1
section
variable {H : Type} {enc : TypeId × Value → H} {P : Program} {W : World} {sp : Nat → Bool} {hd : Bool}
def Told (P : Program) (W : World) (F : List D → Prop) (bk : Nat) (cs : List Value) : Prop := ∃ (ds : List D) (I : Nat → Nat → Prop), ds.length = cs.length ∧ (∀ d ∈ ds, d.one = true) ∧ (F ds ∧ bulkL ds ≤ bk) ∧ (∀ b o, I b o → b < W.heap.size) ∧ ∀ (i : Nat) (d : D) (u : Value), ds[i]? = some d → cs[i]? = some u → DRep I W d u
theorem Told.one {F : List D → Prop} {bk : Nat} {d : D} {v : Value} {I : Nat → Nat → Prop} (h1 : d.one = true) (hF : F [d]) (hb : d.bulk ≤ bk) (hI : ∀ b o, I b o → b < W.heap.size) (hr : DRep I W d v) : Told P W F bk [v] :=
 ⟨[d], I, rfl, fun x hx => by simp at hx; subst hx; exact h1, ⟨hF, by simpa [bulkL] using hb⟩, hI, fun i x u hx hu => by
  cases i with
  | zero => simp at hx hu; subst hx; subst hu; exact hr
  | succ i => simp at hx⟩
theorem fit_wrap {n : Nat} {e : TypeId} {x : List D} (h : Fit P n e x) (h1 : ∀ d ∈ x, d.one = true) : (wrapT P e x).cells = x := by
 cases n with
 | zero => exact h.elim
 | succ n =>
  unfold wrapT isAggT
  unfold Fit at h
  split at h
  ·rename_i hu; rw [hu]; obtain ⟨b, rfl⟩ := h; rfl
  ·rename_i hu; rw [hu]; obtain ⟨b, rfl, _⟩ := h; rfl
  ·rename_i hu; rw [hu]; obtain ⟨b, rfl, _⟩ := h; rfl
  ·rename_i hu; rw [hu]; obtain ⟨b, rfl, _⟩ := h; rfl
  ·rename_i hu; rw [hu]; rfl
  ·exact h.elim
theorem fit_bulk {n : Nat} {e : TypeId} {x : List D} (h : Fit P n e x) : (wrapT P e x).bulk = bulkL x := by
 cases n with
 | zero => exact h.elim
 | succ n =>
  unfold wrapT isAggT
  unfold Fit at h
  split at h
  ·rename_i hu; rw [hu]; obtain ⟨b, rfl⟩ := h; simp [bulkL]
  ·rename_i hu; rw [hu]; obtain ⟨b, rfl, _⟩ := h; simp [bulkL]
  ·rename_i hu; rw [hu]; obtain ⟨b, rfl, _⟩ := h; simp [bulkL]
  ·rename_i hu; rw [hu]; obtain ⟨b, rfl, _⟩ := h; simp [bulkL]
  ·rename_i hu; rw [hu]; simp [D.bulk]
  ·exact h.elim
theorem bulk_map {α : Type} : ∀ (l : List α) (f : α → D) (g : α → DataW H), (∀ i ∈ l, (f i).bulk ≤ Rows.uptoBulk (g i)) → bulkL (l.map f) ≤ Rows.uptoBulkAll (l.map g)
 | [], _, _, _ => Nat.le_refl _
 | a :: l, f, g, h => by
  have h1 := h a (by simp)
  have h2 := bulk_map l f g (fun i hi => h i (by simp [hi]))
  simp only [List.map_cons, bulkL, Rows.uptoBulkAll]
  omega
theorem told_fields {n : Nat} (ih : ∀ (t : TypeId) (cs : List Value) (fuel : Nat) (x : DataW H × List MemPlace), tidy P n t = true → DataW.trod enc P W 0 sp hd fuel t cs = some x → Told P W (Fit P n t) (Rows.uptoBulk x.1) cs) {fuel : Nat} {cs0 : List Value} :
    ∀ (fs : List Field) (xs : List (DataW H × List MemPlace)) (o : Nat), tidyL P (tidy P n) fs o = true → o + (fs.map fun f => P.cellsOf f.type).sum = cs0.length → fs.length = xs.length →
     (∀ (i : Nat) (f : Field), fs[i]? = some f → DataW.trod enc P W 0 sp hd fuel f.type ((cs0.drop f.offset).take (P.cellsOf f.type)) = xs[i]?) → Told P W (FitL (Fit P n) fs) (Rows.uptoBulkAll (xs.map (·.1))) (cs0.drop o)
 | [], xs, o, _, hl, _, _ => ⟨[], fun _ _ => False, by simp at hl ⊢; omega, by simp, ⟨rfl, Nat.zero_le _⟩, fun _ _ h => h.elim, fun i d u h => by simp at h⟩
 | f :: fs, [], o, ht, hl, hxl, hx => by simp at hxl
 | f :: fs, x :: xs, o, ht, hl, hxl, hx => by
  simp only [tidyL, Bool.and_eq_true, beq_iff_eq] at ht
  obtain ⟨h1, h2, h3⟩ := ht
  simp only [List.map_cons, List.sum_cons] at hl
  have hx0 := hx 0 f rfl
  rw [List.getElem?_cons_zero] at hx0
  obtain ⟨d1, I1, a1, b1, ⟨c1, g1⟩, e1, f1⟩ := ih f.type _ fuel x h2 hx0
  obtain ⟨d2, I2, a2, b2, ⟨c2, g2⟩, e2, f2⟩ := told_fields ih (fuel := fuel) (cs0 := cs0) fs xs (o + P.cellsOf f.type) h3 (by omega) (by simpa using hxl) (fun i g hg => by
   have := hx (i + 1) g (by simpa using hg)
   simpa using this)
  rw [h1] at a1 f1
  have hlen : d1.length = P.cellsOf f.type := by rw [a1, List.length_take, List.length_drop]; omega
  refine ⟨d1 ++ d2, fun b o => I1 b o ∨ I2 b o, ?_, fun d hd => ?_, ⟨⟨d1, d2, rfl, c1, c2⟩, by rw [bulkL_app, List.map_cons, Rows.uptoBulkAll]; omega⟩, fun b o h => h.elim (e1 b o) (e2 b o), fun i d u h3 h4 => ?_⟩
  ·rw [List.length_append, hlen, a2, List.length_drop, List.length_drop]; omega
  ·rcases List.mem_append.1 hd with h | h
   ·exact b1 d h
   ·exact b2 d h
  ·rcases Nat.lt_or_ge i d1.length with hi | hi
   ·rw [List.getElem?_append_left hi] at h3
    refine (f1 i d u h3 ?_).mono (fun _ _ x => .inl x) (fun _ _ _ => rfl)
    rw [List.getElem?_take, if_pos (by omega)]
    exact h4
   ·rw [List.getElem?_append_right hi] at h3
    refine (f2 (i - d1.length) d u h3 ?_).mono (fun _ _ x => .inr x) (fun _ _ _ => rfl)
    rw [List.getElem?_drop] at h4 ⊢
    rw [show o + P.cellsOf f.type + (i - d1.length) = o + i by omega]
    exact h4
theorem told_of_trod : ∀ (n : Nat) (t : TypeId) (cs : List Value) (fuel : Nat) (x : DataW H × List MemPlace), tidy P n t = true → DataW.trod enc P W 0 sp hd fuel t cs = some x → Told P W (Fit P n t) (Rows.uptoBulk x.1) cs
 | 0, t, cs, fuel, x, ht, _ => by simp [tidy] at ht
 | n + 1, t, cs, fuel, x, ht, h => by
  unfold tidy at ht
  split at ht
  ·rename_i hu
   obtain ⟨b, rfl, rfl⟩ := DataW.trod_bool hu h
   refine Told.one (d := .bool b) (I := fun _ _ => False) rfl ?_ (by simp [D.bulk, Rows.uptoBulk]) (fun _ _ h => h.elim) (.bool b)
   unfold Fit; rw [hu]; exact ⟨b, rfl⟩
  ·rename_i k hu
   obtain ⟨y, rfl, rfl, hw⟩ := DataW.trod_int hu h
   refine Told.one (d := .int k y) (I := fun _ _ => False) rfl ?_ (by simp [D.bulk, Rows.uptoBulk]) (fun _ _ h => h.elim) (.int k y)
   unfold Fit; rw [hu]; exact ⟨y, rfl, hw⟩
  ·rename_i hu
   obtain ⟨s, rfl, rfl, hs⟩ := DataW.trod_string hu h
   refine Told.one (d := .str s.data.toList) (I := fun _ _ => False) rfl ?_ (by simp [D.bulk, Rows.uptoBulk]) (fun _ _ h => h.elim) (.str _ s rfl)
   unfold Fit; rw [hu]; exact ⟨_, rfl, by simpa using hs⟩
  ·rename_i e hu
   simp only [Bool.and_eq_true, decide_eq_true_eq, beq_iff_eq] at ht
   obtain ⟨h0, hpos, hte⟩ := ht
   rcases Go.Deep.open_slice hu h with ⟨rfl, rfl⟩ | ⟨a, len, cap, m, n', Dd, Pl, rfl, hb, hl, hm, hmm, rfl, hel⟩
   ·refine Told.one (d := .ro []) (I := fun _ _ => False) rfl ?_ (by simp [D.bulk, bulkL, Rows.uptoBulk]) (fun _ _ h => h.elim) (.roNil _ _)
    unfold Fit; rw [hu]; exact ⟨[], rfl, by simp, by simp⟩
   ·have hlm : len ≤ m := by rw [hmm]; split <;> omega
    have key : ∀ i, i < len → ∃ q : List D × (Nat → Nat → Prop) × List Value, q.2.2.length = P.cellsOf e ∧ (∀ j v, q.2.2[j]? = some v → W.cell? (a.add (i * P.cellsOf e + j)) = some v) ∧ q.1.length = q.2.2.length ∧ (∀ d ∈ q.1, d.one = true) ∧ (Fit P n e q.1 ∧ bulkL q.1 ≤ Rows.uptoBulk (Dd i)) ∧ (∀ b o, q.2.1 b o → b < W.heap.size) ∧ ∀ (i : Nat) (d : D) (u : Value), q.1[i]? = some d → q.2.2[i]? = some u → DRep q.2.1 W d u := fun i hi => by
     obtain ⟨cs', h1, h2⟩ := hel i (by omega)
     obtain ⟨_, hlen, hcell⟩ := World.cells?_some h1
     obtain ⟨ds, I, b1, b2, b3, b4, b5⟩ := told_of_trod n e cs' n' _ hte h2
     refine ⟨(ds, I, cs'), hlen, fun j v hj => ?_, b1, b2, b3, b4, b5⟩
     have hjl : j < cs'.length := (List.getElem?_eq_some_iff.1 hj).1
     have := hcell j (by omega)
     rw [Go.Deep.add_add] at this
     rw [this, ← hj]
    obtain ⟨f, hf⟩ := Go.Deep.choose_lt key
    rcases Nat.eq_zero_or_pos len with rfl | hlp
    ·refine Told.one (d := .ro []) (I := fun _ _ => False) rfl ?_ (by simp [D.bulk, bulkL, Rows.uptoBulk]) (fun _ _ h => h.elim) (.roNil _ _)
     unfold Fit; rw [hu]; exact ⟨[], rfl, by simp, by simp⟩
    obtain ⟨ab, ao, spot⟩ := a
    obtain ⟨c0, hc0⟩ : ∃ c, (f 0).2.2[0]? = some c := ⟨(f 0).2.2[0]'(by rw [(hf 0 hlp).1]; exact hpos), List.getElem?_eq_getElem _⟩
    have hspot : spot = none := by simpa [Addr.add] using World.cell?_spot ((hf 0 hlp).2.1 0 c0 hc0)
    subst hspot
    let l : List (List D) := (List.range len).map fun i => (f i).1
    have hll : l.length = len := by simp [l]
    have hone : ∀ x ∈ l, ∀ d ∈ x, d.one = true := fun x hx => by
     obtain ⟨i, hi, rfl⟩ := List.mem_map.1 hx
     exact (hf i (List.mem_range.1 hi)).2.2.2.1
    have hfit : ∀ x ∈ l, Fit P n e x := fun x hx => by
     obtain ⟨i, hi, rfl⟩ := List.mem_map.1 hx
     exact (hf i (List.mem_range.1 hi)).2.2.2.2.1.1
    have hsz : ∀ x ∈ l, x.length = P.cellsOf e := fun x hx => by
     obtain ⟨i, hi, rfl⟩ := List.mem_map.1 hx
     rw [(hf i (List.mem_range.1 hi)).2.2.1]
     exact (hf i (List.mem_range.1 hi)).1
    have hflat : D.flat (l.map (wrapT P e)) = l.flatten := by
     exact flat_wrap (wrapT P e) l fun x hx => fit_wrap (hfit x hx) (hone x hx)
    let U : Nat → Value := fun t => ((f (t / P.cellsOf e)).2.2[t % P.cellsOf e]?).getD default
    have hro : DRep (fun b o => (b = ab ∧ ao ≤ o ∧ o < ao + len * P.cellsOf e) ∨ ∃ i, i < len ∧ (f i).2.1 b o) W (.ro (l.map (wrapT P e))) (.slice (some ⟨ab, ao, none⟩) (l.map (wrapT P e)).length cap) := by
     have main : ∀ (t : Nat) (c : D), l.flatten[t]? = some c → t < len * P.cellsOf e ∧ W.cell? ⟨ab, ao + t, none⟩ = some (U t) ∧ DRep (fun b o => (b = ab ∧ ao ≤ o ∧ o < ao + len * P.cellsOf e) ∨ ∃ i, i < len ∧ (f i).2.1 b o) W c (U t) := fun t c hc => by
      obtain ⟨y, h1, h2⟩ := flat_get l hsz t c hc
      have hi : t / P.cellsOf e < len := by have := (List.getElem?_eq_some_iff.1 h1).1; omega
      simp only [l, List.getElem?_map, List.getElem?_range hi, Option.map_some, Option.some.injEq] at h1
      subst h1
      obtain ⟨k1, k2, k3, k4, k5, k6, k7⟩ := hf _ hi
      have hm : t % P.cellsOf e < (f (t / P.cellsOf e)).2.2.length := by rw [k1]; exact Nat.mod_lt _ hpos
      have hU : (f (t / P.cellsOf e)).2.2[t % P.cellsOf e]? = some (U t) := by
       show _ = some (((f (t / P.cellsOf e)).2.2[t % P.cellsOf e]?).getD default)
       rw [List.getElem?_eq_getElem hm]; rfl
      have e1 : t / P.cellsOf e * P.cellsOf e + t % P.cellsOf e = t := by
       rw [Nat.mul_comm]; exact Nat.div_add_mod t (P.cellsOf e)
      refine ⟨?_, ?_, ?_⟩
      ·have : (t / P.cellsOf e + 1) * P.cellsOf e ≤ len * P.cellsOf e := Nat.mul_le_mul_right _ hi
       have h5 := Nat.mod_lt t hpos
       rw [Nat.add_mul] at this
       omega
      ·have := k2 _ _ hU
       rw [e1, Addr.add_lit] at this
       exact this
      ·exact (k7 _ c _ h2 hU).mono (fun _ _ x => .inr ⟨_, hi, x⟩) (fun _ _ _ => rfl)
     refine .ro _ ab ao cap (P.cellsOf e) U (by simpa [hll] using hl) (fun d hd => ?_) (fun d hd => ?_) (fun t c hc => ?_) (fun t c hc => ?_) (fun t c hc => ?_)
     ·obtain ⟨x, hx, rfl⟩ := List.mem_map.1 hd
      rw [fit_wrap (hfit x hx) (hone x hx)]
      exact hsz x hx
     ·rw [hflat] at hd
      obtain ⟨x, hx, h⟩ := List.mem_flatten.1 hd
      exact hone x hx d h
     ·rw [hflat] at hc
      have := (main t c hc).1
      exact .inl ⟨rfl, by omega, by omega⟩
     ·rw [hflat] at hc
      exact (main t c hc).2.1
     ·rw [hflat] at hc
      exact (main t c hc).2.2
    have hlen2 : (l.map (wrapT P e)).length = len := by simp [hll]
    rw [hlen2] at hro
    have hbulk : bulkL (l.map (wrapT P e)) ≤ Rows.uptoBulkAll ((List.range len).map Dd) := by
     have e1 : l.map (wrapT P e) = (List.range len).map fun i => wrapT P e (f i).1 := by simp [l]
     rw [e1]
     refine bulk_map (List.range len) _ _ fun i hi => ?_
     have h5 := (hf i (List.mem_range.1 hi)).2.2.2.2.1
     have h6 := fit_bulk h5.1
     omega
    refine Told.one (d := .ro (l.map (wrapT P e))) rfl ?_ (by simp only [D.bulk, Rows.uptoBulk]; omega) (fun b o hb => ?_) hro
    ·unfold Fit; rw [hu]
     exact ⟨l, rfl, by omega, hfit⟩
    ·rcases hb with ⟨rfl, _, _⟩ | ⟨i, hi, hb⟩
     ·have hc := (hf 0 hlp).2.1 0 c0 hc0
      rw [Addr.add_lit] at hc
      exact cell_lt hc
     ·exact (hf i hi).2.2.2.2.2.1 b o hb
  ·rename_i fs hu
   simp only [Bool.and_eq_true, beq_iff_eq] at ht
   obtain ⟨xs, n', _, rfl, hlen, hxl, hfl⟩ := DataW.trod_struct hu h
   have := told_fields (P := P) (W := W) (sp := sp) (hd := hd) (enc := enc) (n := n) (told_of_trod n) (fuel := n') (cs0 := cs) fs.toList xs 0 ht.1 (by rw [Nat.zero_add, ht.2, hlen]) (by simpa using hxl.symm) (fun i f hf => hfl i f (by simpa using hf))
   obtain ⟨ds, I, b1, b2, b3, b4, b5⟩ := this
   refine ⟨ds, I, by simpa using b1, b2, ⟨?_, ?_⟩, b4, by simpa using b5⟩
   ·unfold Fit; rw [hu]; exact b3.1
   ·have := b3.2
    simp only [Rows.uptoBulk]
    omega
  ·cases ht
end
end Go.Avm
namespace Go.Avm
open Go.ChangeShapes Go.WideShapes Go.RowKit Go.Proofs Go.Proofs.Ytpcomfnianamgaa
section
variable {P : Program} {n : Nat} {t : TypeId} {ds : List D}
set_option maxRecDepth 100000 in
theorem fit_slice {e : TypeId} (hu : P.underlying t = some (.slice e)) (h : Fit P (n + 1) t ds) : ∃ l : List (List D), ds = [.ro (l.map (wrapT P e))] ∧ l.length ≤ maxLen ∧ ∀ x ∈ l, Fit P n e x := by
 unfold Fit at h
 rw [hu] at h
 exact h
set_option maxRecDepth 100000 in
theorem fit_int {k : IntKind} (hu : P.underlying t = some (.int k)) (h : Fit P (n + 1) t ds) : ∃ x, ds = [.int k x] ∧ (Lit.int k x).wf = true := by
 unfold Fit at h
 rw [hu] at h
 exact h
set_option maxRecDepth 100000 in
theorem fit_struct {fs : Array Field} (hu : P.underlying t = some (.struct fs)) (h : Fit P (n + 1) t ds) : FitL (Fit P n) fs.toList ds := by
 unfold Fit at h
 rw [hu] at h
 exact h
end
theorem dec_list {R : Type} (enc : R → D) (good : R → Prop) (F : List D → Prop) (w : List D → D) (hd : ∀ x, F x → ∃ r, w x = enc r ∧ good r) : ∀ l : List (List D), (∀ x ∈ l, F x) → ∃ rs : List R, l.map w = rs.map enc ∧ ∀ r ∈ rs, good r
 | [], _ => ⟨[], rfl, fun r h => by simp at h⟩
 | x :: l, h => by
  obtain ⟨r, h1, h2⟩ := hd x (h x (by simp))
  obtain ⟨rs, h3, h4⟩ := dec_list enc good F w hd l (fun y hy => h y (by simp [hy]))
  exact ⟨r :: rs, by simp [h1, h3], fun q hq => by
   rcases List.mem_cons.1 hq with rfl | hq
   ·exact h2
   ·exact h4 q hq⟩
theorem byte_wf {x : Int} (h : (Lit.int .u8 x).wf = true) : byteZ x := by
 simp [Lit.wf, IntKind.min, IntKind.max, IntKind.signed, IntKind.bits] at h
 exact ⟨by omega, by omega⟩
theorem wrap_agg {t : TypeId} (h : isAggT Pg t = true) (ds : List D) : wrapT Pg t ds = .agg ds := by
 unfold wrapT
 rw [if_pos h]
theorem wrap_one {t : TypeId} (h : isAggT Pg t = false) (d : D) : wrapT Pg t [d] = d := by
 unfold wrapT
 rw [if_neg (by rw [h]; simp)]
 rfl
theorem agg55 : isAggT Pg 55 = true := by kernel_rfl
theorem agg44 : isAggT Pg 44 = true := by kernel_rfl
theorem agg40 : isAggT Pg 40 = true := by kernel_rfl
theorem agg36 : isAggT Pg 36 = true := by kernel_rfl
theorem agg52 : isAggT Pg 52 = true := by kernel_rfl
theorem agg3 : isAggT Pg 3 = false := by kernel_rfl
theorem agg50 : isAggT Pg 50 = false := by kernel_rfl
set_option maxRecDepth 100000 in
theorem fit_dbg {n : Nat} {ds : List D} (h : Fit Pg (n + 2) 55 ds) : ∃ d : DbgR, wrapT Pg 55 ds = dbgD d ∧ True := by
 obtain ⟨a1, b1, rfl, h1, a2, b2, rfl, h2, a3, b3, rfl, h3, a4, b4, rfl, h4, a5, b5, rfl, h5, a6, b6, rfl, h6, rfl⟩ := fit_struct Try.underlying55 h
 obtain ⟨x1, rfl, _⟩ := fit_int Try.underlying3 h1
 obtain ⟨x2, rfl, _⟩ := fit_int Try.underlying3 h2
 obtain ⟨x3, rfl, _⟩ := fit_int Try.underlying5 h3
 obtain ⟨x4, rfl, _⟩ := fit_int Try.underlying3 h4
 obtain ⟨x5, rfl, _⟩ := fit_int Try.underlying2 h5
 obtain ⟨x6, rfl, _⟩ := fit_int Try.underlying2 h6
 exact ⟨⟨x1, x2, x3, x4, x5, x6⟩, wrap_agg agg55 _, trivial⟩
set_option maxRecDepth 100000 in
theorem fit_ints {n : Nat} {ds : List D} (h : Fit Pg (n + 2) 41 ds) : ∃ l : List Int, ds = [rowD l] := by
 obtain ⟨l, rfl, _, hl⟩ := fit_slice Try.underlying41 h
 obtain ⟨rs, h1, _⟩ := dec_list (R := Int) intD (fun _ => True) _ _ (fun x hx => by
  obtain ⟨y, rfl, _⟩ := fit_int Try.underlying3 hx
  exact ⟨y, wrap_one agg3 _, trivial⟩) l hl
 exact ⟨rs, by rw [h1]; rfl⟩
set_option maxRecDepth 100000 in
theorem fit_dbgs {n : Nat} {ds : List D} (h : Fit Pg (n + 3) 42 ds) : ∃ l : List DbgR, ds = [dbgsD l] := by
 obtain ⟨l, rfl, _, hl⟩ := fit_slice Try.underlying42 h
 obtain ⟨rs, h1, _⟩ := dec_list (R := DbgR) dbgD (fun _ => True) _ _ (fun x hx => fit_dbg hx) l hl
 exact ⟨rs, by rw [h1]; rfl⟩
set_option maxRecDepth 100000 in
theorem fit_inst {n : Nat} {ds : List D} (h : Fit Pg (n + 4) 44 ds) : ∃ x : InstR, wrapT Pg 44 ds = instD x ∧ byteZ x.op := by
 obtain ⟨a1, b1, rfl, h1, a2, b2, rfl, h2, a3, b3, rfl, h3, a4, b4, rfl, h4, a5, b5, rfl, h5, a6, b6, rfl, h6, rfl⟩ := fit_struct Try.underlying44 h
 obtain ⟨x1, rfl, w1⟩ := fit_int Try.underlying5 h1
 obtain ⟨x2, rfl, _⟩ := fit_int Try.underlying3 h2
 obtain ⟨x3, rfl⟩ := fit_ints h3
 obtain ⟨x4, rfl, _⟩ := fit_int Try.underlying2 h4
 obtain ⟨x5, rfl, _⟩ := fit_int Try.underlying3 h5
 obtain ⟨x6, rfl⟩ := fit_dbgs h6
 exact ⟨⟨x1, x2, x3, x4, x5, x6⟩, wrap_agg agg44 _, byte_wf w1⟩
set_option maxRecDepth 100000 in
theorem fit_insts {n : Nat} {ds : List D} (h : Fit Pg (n + 5) 38 ds) : ∃ l : List InstR, ds = [instsD l] ∧ wfIs l := by
 obtain ⟨l, rfl, _, hl⟩ := fit_slice Try.underlying38 h
 obtain ⟨rs, h1, h2⟩ := dec_list (R := InstR) instD (fun x => byteZ x.op) _ _ (fun x hx => fit_inst hx) l hl
 exact ⟨rs, by rw [h1]; rfl, h2⟩
set_option maxRecDepth 100000 in
theorem fit_blk {n : Nat} {ds : List D} (h : Fit Pg (n + 6) 40 ds) : ∃ b : BlkR, wrapT Pg 40 ds = blkD b ∧ (wfIs b.phis ∧ wfIs b.insts ∧ byteZ b.fin) := by
 obtain ⟨a1, b1, rfl, h1, a2, b2, rfl, h2, a3, b3, rfl, h3, a4, b4, rfl, h4, a5, b5, rfl, h5, a6, b6, rfl, h6, rfl⟩ := fit_struct Try.underlying40 h
 obtain ⟨x1, rfl, w1⟩ := fit_insts h1
 obtain ⟨x2, rfl, w2⟩ := fit_insts h2
 obtain ⟨x3, rfl, w3⟩ := fit_int Try.underlying5 h3
 obtain ⟨x4, rfl, _⟩ := fit_int Try.underlying3 h4
 obtain ⟨x5, rfl, _⟩ := fit_int Try.underlying3 h5
 obtain ⟨x6, rfl, _⟩ := fit_int Try.underlying3 h6
 exact ⟨⟨x1, x2, x3, x4, x5, x6⟩, wrap_agg agg40 _, w1, w2, byte_wf w3⟩
set_option maxRecDepth 100000 in
theorem fit_fun {n : Nat} {ds : List D} (h : Fit Pg (n + 8) 36 ds) : ∃ f : FunR, wrapT Pg 36 ds = funD f ∧ wfF f := by
 obtain ⟨a1, b1, rfl, h1, a2, b2, rfl, h2, a3, b3, rfl, h3, a4, b4, rfl, h4, rfl⟩ := fit_struct Try.underlying36 h
 obtain ⟨x1, rfl, _⟩ := fit_int Try.underlying3 h1
 obtain ⟨x2, rfl, _⟩ := fit_int Try.underlying3 h2
 obtain ⟨x3, rfl, _⟩ := fit_int Try.underlying3 h3
 obtain ⟨l, rfl, _, hl⟩ := fit_slice Try.underlying34 h4
 obtain ⟨rs, e1, e2⟩ := dec_list (R := BlkR) blkD _ _ _ (fun x hx => fit_blk hx) l hl
 exact ⟨⟨x1, x2, x3, rs⟩, by rw [e1]; exact wrap_agg agg36 _, e2⟩
set_option maxRecDepth 100000 in
theorem fit_spot {n : Nat} {ds : List D} (h : Fit Pg (n + 2) 52 ds) : ∃ p : Int × Int, wrapT Pg 52 ds = spotD p ∧ True := by
 obtain ⟨a1, b1, rfl, h1, a2, b2, rfl, h2, rfl⟩ := fit_struct Try.underlying52 h
 obtain ⟨x1, rfl, _⟩ := fit_int Try.underlying3 h1
 obtain ⟨x2, rfl, _⟩ := fit_int Try.underlying3 h2
 exact ⟨(x1, x2), wrap_agg agg52 _, trivial⟩
set_option maxRecDepth 100000 in
theorem fit_spots {n : Nat} {ds : List D} (h : Fit Pg (n + 3) 50 ds) : ∃ l : List (Int × Int), wrapT Pg 50 ds = spotsD l ∧ True := by
 obtain ⟨l, rfl, _, hl⟩ := fit_slice Try.underlying50 h
 obtain ⟨rs, h1, _⟩ := dec_list (R := Int × Int) spotD (fun _ => True) _ _ (fun x hx => fit_spot hx) l hl
 exact ⟨rs, by rw [h1]; exact wrap_one agg50 _, trivial⟩
set_option maxRecDepth 100000 in
theorem fit_code {n : Nat} {ds : List D} (h : Fit Pg (n + 10) 25 ds) : ∃ c : CodeR, ds = (codeD c).cells ∧ ∀ f ∈ c.funs, wfF f := by
 obtain ⟨a1, b1, rfl, h1, a2, b2, rfl, h2, a3, b3, rfl, h3, rfl⟩ := fit_struct Try.underlying25 h
 obtain ⟨l, rfl, _, hl⟩ := fit_slice Try.underlying22 h1
 obtain ⟨fs, e1, e2⟩ := dec_list (R := FunR) funD _ _ _ (fun x hx => fit_fun hx) l hl
 obtain ⟨l2, rfl, _, hl2⟩ := fit_slice Try.underlying23 h2
 obtain ⟨ss, e3, _⟩ := dec_list (R := List (Int × Int)) spotsD (fun _ => True) _ _ (fun x hx => fit_spots hx) l2 hl2
 obtain ⟨x3, rfl, _⟩ := fit_int Try.underlying3 h3
 exact ⟨⟨fs, ss, x3⟩, by rw [e1, e3]; rfl, e2⟩
theorem bulk_sum {R : Type} (enc : R → D) (sz : R → Nat) (h : ∀ r, sz r ≤ (enc r).bulk) : ∀ rs : List R, (rs.map sz).sum ≤ bulkL (rs.map enc)
 | [] => Nat.zero_le _
 | r :: rs => by
  have h1 := h r
  have h2 := bulk_sum enc sz h rs
  simp only [List.map_cons, List.sum_cons, bulkL]
  omega
theorem sum_one {R : Type} (l : List R) (f : R → Nat) : (l.map fun r => f r + 1).sum = (l.map f).sum + l.length := by
 induction l with
 | nil => rfl
 | cons a l ih => simp only [List.map_cons, List.sum_cons, List.length_cons, ih]; omega
theorem sum_const1 {R : Type} (l : List R) : (l.map fun _ => 1).sum = l.length := by
 induction l with
 | nil => rfl
 | cons a l ih => simp only [List.map_cons, List.sum_cons, List.length_cons, ih]; omega
theorem bulk_row (l : List Int) : l.length ≤ (rowD l).bulk := by
 have := bulk_sum intD (fun _ => 1) (fun _ => Nat.le_refl _) l
 rw [sum_const1] at this
 show _ ≤ bulkL (l.map intD) + 1
 omega
theorem bulk_dbgs (l : List DbgR) : l.length ≤ (dbgsD l).bulk := by
 have := bulk_sum dbgD (fun _ => 1) (fun _ => by simp [dbgD, D.bulk, bulkL]) l
 rw [sum_const1] at this
 show _ ≤ bulkL (l.map dbgD) + 1
 omega
theorem bulk_inst (x : InstR) : szD x ≤ (instD x).bulk := by
 have h1 := bulk_row x.args
 have h2 := bulk_dbgs x.dbg
 show _ ≤ bulkL [.int .u8 x.op, .int .i64 x.dst, rowD x.args, .int .i64 x.imm, .int .i64 x.site, dbgsD x.dbg]
 simp only [bulkL]
 generalize (rowD x.args).bulk = a at *
 generalize (dbgsD x.dbg).bulk = b at *
 unfold szD
 simp only [D.bulk]
 omega
theorem bulk_insts (l : List InstR) : szIs l ≤ (instsD l).bulk := by
 have := bulk_sum instD szD bulk_inst l
 show _ ≤ bulkL (l.map instD) + 1
 unfold szIs
 omega
theorem bulk_blk (b : BlkR) : szBk b + 1 ≤ (blkD b).bulk := by
 have h1 := bulk_insts b.phis
 have h2 := bulk_insts b.insts
 show _ ≤ bulkL [instsD b.phis, instsD b.insts, .int .u8 b.fin, .int .i64 b.arg, .int .i64 b.to, .int .i64 b.els]
 simp only [bulkL]
 generalize (instsD b.phis).bulk = a at *
 generalize (instsD b.insts).bulk = d at *
 unfold szBk
 simp only [D.bulk]
 omega
theorem bulk_fun (f : FunR) : szFn f + 1 ≤ (funD f).bulk := by
 have h1 := bulk_sum blkD (fun b => szBk b + 1) bulk_blk f.blocks
 rw [sum_one] at h1
 unfold szFn funD blksD
 simp only [D.bulk, bulkL]
 omega
theorem bulk_spots (l : List (Int × Int)) : l.length + 1 ≤ (spotsD l).bulk := by
 have h1 := bulk_sum spotD (fun _ => 1) (fun _ => by simp [spotD, D.bulk, bulkL]) l
 rw [sum_const1] at h1
 show _ ≤ bulkL (l.map spotD) + 1
 omega
theorem bulk_code (c : CodeR) : szAll c ≤ bulkL (codeD c).cells := by
 have h1 := bulk_sum funD (fun f => szFn f + 1) bulk_fun c.funs
 have h2 := bulk_sum spotsD (fun l => l.length + 1) bulk_spots c.stops
 rw [sum_one] at h1 h2
 show _ ≤ bulkL [funsD c.funs, stopsD c.stops, .int .i64 c.main]
 unfold szAll funsD stopsD
 simp only [D.bulk, bulkL]
 omega
theorem szIs_len (l : List InstR) : l.length ≤ szIs l := by
 unfold szIs
 have : (l.map fun _ => 1).sum ≤ (l.map szD).sum := by
  induction l with
  | nil => exact Nat.le_refl _
  | cons a l ih =>
   simp only [List.map_cons, List.sum_cons]
   unfold szD at *
   omega
 rw [sum_const1] at this
 exact this
theorem szB_le (b : BlkR) : szB b ≤ szBk b := by
 have h1 := szIs_len b.phis
 have h2 := szIs_len b.insts
 unfold szB szBk
 omega
theorem sum_mono {R : Type} (l : List R) (a b : R → Nat) (h : ∀ r, a r ≤ b r) : (l.map a).sum ≤ (l.map b).sum := by
 induction l with
 | nil => exact Nat.le_refl _
 | cons r l ih =>
  have := h r
  simp only [List.map_cons, List.sum_cons]
  omega
theorem szF_le_fn (f : FunR) : szF f ≤ szFn f := by
 have := sum_mono f.blocks szB szBk szB_le
 unfold szF szFn
 omega
theorem szC_le_all (c : CodeR) : szC c ≤ szAll c := by
 have := sum_mono c.funs szF szFn szF_le_fn
 unfold szC szAll
 omega
theorem mem_sum {R : Type} (sz : R → Nat) {l : List R} {r : R} (h : r ∈ l) : sz r ≤ (l.map sz).sum := by
 obtain ⟨i, hi, rfl⟩ := List.mem_iff_getElem.1 h
 exact sum_get sz (get_of hi)
theorem small_of {l : List InstR} {n : Nat} (h : szIs l ≤ n) (hn : n < 4000000) : smallIs l := by
 have h1 := szIs_len l
 refine ⟨by omega, fun x hx => ?_⟩
 have h2 : szD x ≤ szIs l := mem_sum szD hx
 unfold szD at h2
 exact ⟨by omega, by omega⟩
theorem fine_of_all {c : CodeR} (h : szAll c ≤ 1048576) : c.Fine := by
 have h0 := h
 unfold szAll at h0
 refine ⟨by omega, by omega, fun s hs => ?_, fun f hf => ?_⟩
 ·have := mem_sum List.length hs
  omega
 ·have h1 := mem_sum szFn hf
  have h2 : szFn f ≤ 1048576 := by omega
  unfold szFn at h2
  refine ⟨by omega, fun b hb => ?_⟩
  have h3 := mem_sum szBk hb
  have h4 : szBk b ≤ 1048576 := by omega
  unfold szBk at h4
  exact ⟨small_of (n := 1048576) (by omega) (by omega), small_of (n := 1048576) (by omega) (by omega)⟩
theorem good_of_all {c : CodeR} (h : szAll c ≤ 1048576) (hw : ∀ f ∈ c.funs, wfF f) : c.Good := by
 have := szC_le_all c
 exact ⟨fine_of_all h, by omega, hw⟩
set_option maxRecDepth 100000 in
theorem codeArg {H : Type} {enc : TypeId × Value → H} {W : World} {r : Reach} {base : Nat} {sp : Nat → Bool} {hd : Bool} {v : Value} {d : DataW H} {p : List MemPlace} (hv : Value.okWide Pg W r base 25 v) (h : DataW.Trod enc Pg W 0 sp hd 25 v d p) (hk : Rows.uptoBulk d ≤ 1048576) :
    ∃ (c : CodeR) (I : Nat → Nat → Prop), (∀ f ∈ c.funs, wfF f) ∧ szAll c ≤ 1048576 ∧ DRep I W (codeD c) v ∧ ∀ b o, I b o → b < W.heap.size := by
 obtain ⟨cs, rfl, _⟩ := okWide_struct Try.underlying25 hv
 obtain ⟨fuel, h⟩ := h
 have ht : tidy Pg 12 25 = true := by kernel_rfl
 obtain ⟨ds, I, h1, h2, ⟨h3, h4⟩, h5, h6⟩ := told_of_trod 12 25 _ fuel _ ht h
 obtain ⟨c, rfl, hw⟩ := fit_code (n := 2) h3
 have hb := bulk_code c
 have h4' : bulkL (codeD c).cells ≤ Rows.uptoBulk d := h4
 refine ⟨c, I, hw, by omega, ?_, h5⟩
 have h1' : (codeD c).cells.length = cs.toList.length := h1
 exact .agg _ cs (by rw [← Array.length_toList]; exact h1'.symm) h2 (fun i x u hx hu => h6 i x u hx (by
  show cs.toList[i]? = some u
  simpa using hu))
end Go.Avm
namespace Go.Avm
open Go.Proofs Go.Avm.Dom
theorem checksNo (c : CodeR) (h16 : Pure Pg 16 [codeD c] [.bool false]) : Pure Pg 3 [codeD c] [.bool true] := qU { hint := qT 3 [(4, .call 15 _ _ awake06), (7, .call 16 _ _ h16)] }
theorem checksYes (c : CodeR) (h16 : Pure Pg 16 [codeD c] [.bool true]) (h17 : Pure Pg 17 [codeD c] [codeD c]) (z : Int) (h18 : Pure Pg 18 [codeD c] [.int .i64 z]) (h19 : Pure Pg 19 [codeD c] [.int .i64 z]) (t : Bool) (h20 : Pure Pg 20 [codeD c] [.bool t]) (h21 : Pure Pg 21 [codeD c] [.bool t]) (n : Int) (h22 : Pure Pg 22 [codeD c] [.int .i64 n]) (h23 : Pure Pg 23 [codeD c] [.int .i64 n]) (h24 : Pure Pg 24 [codeD c, codeD c] [.bool true]) : Pure Pg 3 [codeD c] [.bool true] :=
 qU { hint := qT 3 [(4, .call 15 _ _ awake06), (7, .call 16 _ _ h16), (10, .call 17 _ _ h17), (12, .call 18 _ _ h18), (14, .call 19 _ _ h19), (15, hB Pg (z == z) true (by simp)), (18, .call 20 _ _ h20), (20, .call 21 _ _ h21), (21, hB Pg (t == t) true (by simp)), (25, .call 22 _ _ h22), (27, .call 23 _ _ h23), (28, hB Pg (n == n) true (by simp)), (33, .call 24 _ _ h24)] }
theorem checksPure (c : CodeR) (hw : ∀ f ∈ c.funs, wfF f) (hz : szAll c ≤ 1048576) : Pure Pg 3 [codeD c] [.bool true] := by
 have hg := good_of_all hz hw
 have h16 := fewC c hg.fine (by omega)
 cases h : few c with
 | false => rw [h] at h16; exact checksNo c h16
 | true =>
  rw [h] at h16
  have hs := szC_le_all c
  have hb : ∀ f ∈ c.funs, f.blocks.length < 4000000 := fun f hf => (hg.fine.fn f hf).1
  exact checksYes c h16 (twinC17 c hg.fine) _ (check18 c hg) (check19 c hg) _ (plain20 c hg) (plain21 c hg) _ (size22 c hg.fine.funs hb (by omega)) (size23 c hg.fine.funs hb (by omega)) (same24 c hg.fine)
end Go.Avm
