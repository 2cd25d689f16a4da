/-
  The abstract machine, part E: what a value stands for as data (with and without a look at the heap); new blocks; stores.
-/
import Derived.Test.YtkhcaamgjjhpeaaGreatDoorAvmD
set_option linter.unusedSectionVars false
namespace Go.Avm
open Go.RowKit
variable [GlobTab]

section
variable {P : Program} {G : Gh} {B : Nat} {w0 w : World} {I0 : Nat → Nat → Prop} {h : Heap}

theorem DRep.one_of {imm : Nat → Nat → Prop} {x : D} {v : Value} (hd : DRep imm w x v) (h1 : v.oneCell' = true) : x.one = true := by
  cases hd <;> first | rfl | (simp [Value.oneCell'] at h1)

theorem DRep.cells {imm : Nat → Nat → Prop} {x : D} {v : Value} (hd : DRep imm w x v) : x.cells.length = v.cells.size ∧ (∀ c ∈ x.cells, c.one = true) ∧
    ∀ (i : Nat) (c : D) (u : Value), x.cells[i]? = some c → v.cells[i]? = some u → DRep imm w c u := by
  have single : ∀ (y : D) (u : Value), DRep imm w y u → y.one = true → y.cells = [y] → u.cells = #[u] →
      y.cells.length = u.cells.size ∧ (∀ c ∈ y.cells, c.one = true) ∧ ∀ (i : Nat) (c : D) (t : Value), y.cells[i]? = some c → u.cells[i]? = some t → DRep imm w c t := by
    intro y u hr h1 hy hu
    rw [hy, hu]
    refine ⟨rfl, fun t ht => ?_, fun i c t hc ht => ?_⟩
    · simp at ht; subst ht; exact h1
    · cases i with
      | zero => simp at hc ht; subst hc; subst ht; exact hr
      | succ i => simp at hc
  cases hd with
  | agg cs vs hl h1 h => exact ⟨by simp [D.cells, Value.cells, hl], h1, h⟩
  | bool b => exact single _ _ (.bool b) rfl rfl rfl
  | int k n => exact single _ _ (.int k n) rfl rfl rfl
  | str l s h => exact single _ _ (.str l s h) rfl rfl rfl
  | nilp => exact single _ _ .nilp rfl rfl rfl
  | nili => exact single _ _ .nili rfl rfl rfl
  | ifc t v => exact single _ _ (.ifc t v) rfl rfl rfl
  | roNil ao c => exact single _ _ (.roNil ao c) rfl rfl rfl
  | ro l b o c sz U hcap hsz h1 hi hc hr => exact single _ _ (.ro l b o c sz U hcap hsz h1 hi hc hr) rfl rfl rfl
  | rp cs b o U h1 hi hc hr => exact single _ _ (.rp cs b o U h1 hi hc hr) rfl rfl rfl

theorem cells_oneCell {v : Value} (h1 : v.oneCell' = true) : v.cells = #[v] := by cases v <;> first | rfl | (simp [Value.oneCell'] at h1)

/-- A value out of its cells. -/
theorem Rep.of_cells {e : AV} (us : Nat → Value) (hu : ∀ (j : Nat) (c : AV), e.cells[j]? = some c → (us j).oneCell' = true ∧ Rep G w c (us j)) :
    ∃ v, Rep G w e v ∧ v.cells.size = e.cells.length ∧ ∀ j, j < e.cells.length → v.cells[j]? = some (us j) := by
  by_cases hl : e.lone = true
  · have hc := AV.cells_lone hl
    obtain ⟨h1, h2⟩ := hu 0 e (by simp [hc])
    refine ⟨us 0, h2, by rw [cells_oneCell h1, hc]; rfl, fun j hj => ?_⟩
    rw [hc] at hj
    have : j = 0 := by simp at hj; omega
    subst this
    rw [cells_oneCell h1]; rfl
  · have key : ∀ n, ∃ vs : Array Value, vs.size = n ∧ ∀ j, j < n → vs[j]? = some (us j) := fun n => ⟨((List.range n).map us).toArray, by simp, fun j hj => by simp [List.getElem?_range hj]⟩
    obtain ⟨vs, hvs, hvj⟩ := key e.cells.length
    refine ⟨.agg vs, ?_, by simp [Value.cells, hvs], by simpa [Value.cells] using hvj⟩
    cases e with
    | agg cs =>
      refine .agg cs vs (by simpa [AV.cells] using hvs) (fun i u hi => ?_) (fun i c u hc hi => ?_)
      · have hlt : i < vs.size := (Array.getElem?_eq_some_iff.1 hi).1
        rw [hvs] at hlt
        rw [hvj i hlt] at hi
        simp only [Option.some.injEq] at hi
        subst hi
        exact (hu i _ (List.getElem?_eq_getElem hlt)).1
      · have hlt : i < (AV.agg cs).cells.length := (List.getElem?_eq_some_iff.1 hc).1
        rw [hvj i hlt] at hi
        simp only [Option.some.injEq] at hi
        subst hi
        exact (hu i c hc).2
    | d y =>
      cases y with
      | agg cs =>
        refine .d (.agg cs vs (by simpa [AV.cells] using hvs) (fun c hc => ?_) (fun i c u hc hi => ?_))
        · obtain ⟨i, hi⟩ := List.getElem?_of_mem hc
          obtain ⟨h1, h2⟩ := hu i (.d c) (by simp [AV.cells, hi])
          exact h2.toDRep.one_of h1
        · have hlt : i < (AV.d (.agg cs)).cells.length := by simp [AV.cells]; exact (List.getElem?_eq_some_iff.1 hc).1
          rw [hvj i hlt] at hi
          simp only [Option.some.injEq] at hi
          subst hi
          exact (hu i (.d c) (by simp [AV.cells, hc])).2.toDRep
      | _ => simp [AV.lone] at hl
    | _ => simp [AV.lone] at hl

theorem go_spec {n : Nat} : ∀ {xs : List AV} {ys : List D} {ks : List Nat}, view.go n h xs = some (ys, ks) → ys.length = xs.length ∧
    ∀ (i : Nat) (x : AV), xs[i]? = some x → ∃ y k', ys[i]? = some y ∧ view n h x = some (y, k') ∧ ∀ k ∈ k', k ∈ ks
  | [], ys, ks, hg => by simp [viewL] at hg; obtain ⟨rfl, rfl⟩ := hg; simp
  | x :: r, ys, ks, hg => by
    simp only [viewL] at hg
    split at hg
    · rename_i a b ha hb
      simp only [Option.some.injEq, Prod.mk.injEq] at hg
      obtain ⟨rfl, rfl⟩ := hg
      obtain ⟨hl, hi⟩ := go_spec (ys := b.1) (ks := b.2) hb
      refine ⟨by simp [hl], fun i x' hx => ?_⟩
      cases i with
      | zero =>
        simp only [List.getElem?_cons_zero, Option.some.injEq] at hx
        subst hx
        exact ⟨a.1, a.2, rfl, ha, fun k hk => List.mem_append_left _ hk⟩
      | succ i =>
        simp only [List.getElem?_cons_succ] at hx
        obtain ⟨y, k', h1, h2, h3⟩ := hi i x' hx
        exact ⟨y, k', by simpa using h1, h2, fun k hk => List.mem_append_right _ (h3 k hk)⟩
    · cases hg

def immWith (G : Gh) (h : Heap) (ks : List Nat) : Nat → Nat → Prop := fun b o => G.imm b o ∨ frozenAt G h ks b o
theorem immWith_mono {ks ks' : List Nat} (hs : ∀ k ∈ ks, k ∈ ks') : ∀ b o, immWith G h ks b o → immWith G h ks' b o := by
  rintro b o (x | ⟨k, hk, L, hL, hb⟩)
  · exact .inl x
  · exact .inr ⟨k, hs k hk, L, hL, hb⟩

theorem D.flat_len {l : List D} {sz : Nat} (hs : ∀ e ∈ l, e.cells.length = sz) : (D.flat l).length = l.length * sz := flatMap_len _ sz l hs
theorem flat_split {α β : Type} {f : α → List β} {sz : Nat} {l : List α} (hs : ∀ e ∈ l, (f e).length = sz) {t : Nat} {c : β} (ht : (l.flatMap f)[t]? = some c) :
    ∃ i j e, t = i * sz + j ∧ j < sz ∧ l[i]? = some e ∧ (f e)[j]? = some c := by
  have hlt := (List.getElem?_eq_some_iff.1 ht).1
  rw [flatMap_len f sz l hs] at hlt
  have hpos : 0 < sz := by
    rcases Nat.eq_zero_or_pos sz with rfl | hp
    · simp at hlt
    · exact hp
  have e1 : t = (t / sz) * sz + t % sz := by rw [Nat.mul_comm]; exact (Nat.div_add_mod t sz).symm
  have hj := Nat.mod_lt t hpos
  rw [e1, flatMap_get f sz l hs (t / sz) (t % sz) hj] at ht
  cases he : l[t / sz]? with
  | none => simp [he] at ht
  | some e => rw [he] at ht; exact ⟨t / sz, t % sz, e, e1, hj, he, ht⟩

theorem view_sound (hr : HR G B w0 I0 h w) : ∀ (n : Nat) (x : AV) (v : Value) (y : D) (ks : List Nat), view n h x = some (y, ks) → Rep G w x v → DRep (immWith G h ks) w y v := by
  intro n
  induction n with
  | zero => intro x v y ks hv; simp [view] at hv
  | succ n ih =>
    intro x v y ks hv hx
    have up : ∀ {y : D} {v : Value}, DRep G.imm w y v → DRep (immWith G h ks) w y v := fun hd => hd.mono (fun _ _ x => .inl x) (fun _ _ _ => rfl)
    -- the elements of an object, cell by cell
    have elems : ∀ (k sz : Nat) (es xs : List AV) (i0 : Nat) (L : Loc) (ys : List D) (ks' : List Nat), (h k).ob = some (.arr sz es) → G.loc k (h k).ver = some L → (∀ i x, xs[i]? = some x → es[i0 + i]? = some x) →
        view.go n h xs = some (ys, ks') → (∀ k' ∈ ks', k' ∈ ks) → (xs ≠ [] → L.sz = sz) ∧ ys.length = xs.length ∧ (∀ e ∈ ys, e.cells.length = sz) ∧ (∀ e ∈ D.flat ys, e.one = true) ∧
        ∃ U : Nat → Value, ∀ (t : Nat) (c : D), (D.flat ys)[t]? = some c → w.cell? ⟨L.b, i0 * sz + t, none⟩ = some (U t) ∧ DRep (immWith G h ks) w c (U t) := by
      intro k sz es xs i0 L ys ks' hob hL hxs hgo hks
      obtain ⟨hl, hi⟩ := go_spec hgo
      rcases hr.objs k _ hob with ⟨rfl, hLn⟩ | ⟨L', hL', h1, h2, h3, h4, h6, h5⟩
      · have hx0 : xs = [] := by
          cases xs with
          | nil => rfl
          | cons x r => have := hxs 0 x rfl; simp at this
        subst hx0
        have : ys = [] := List.eq_nil_of_length_eq_zero (by simpa using hl)
        subst this
        exact ⟨fun hne => absurd rfl hne, hl, by simp, by simp [D.flat], fun _ => undef, by simp [D.flat]⟩
      · rw [hL] at hL'
        simp only [Option.some.injEq] at hL'
        subst hL'
        have main : ∀ (i : Nat) (y : D), ys[i]? = some y → y.cells.length = sz ∧ (∀ c ∈ y.cells, c.one = true) ∧ ∃ us : Nat → Value, ∀ (j : Nat) (c : D), y.cells[j]? = some c →
            w.cell? ⟨L.b, (i0 + i) * sz + j, none⟩ = some (us j) ∧ DRep (immWith G h ks) w c (us j) := by
          intro i y hy
          have hilt : i < xs.length := by rw [← hl]; exact (List.getElem?_eq_some_iff.1 hy).1
          obtain ⟨y', k', hy', hview, hk'⟩ := hi i xs[i] (List.getElem?_eq_getElem hilt)
          rw [hy] at hy'
          simp only [Option.some.injEq] at hy'
          subst hy'
          have hees := hxs i _ (List.getElem?_eq_getElem hilt)
          have hcl := h4 _ (List.mem_of_getElem? hees)
          obtain ⟨us, hus⟩ : ∃ us : Nat → Value, ∀ (j : Nat) (c : AV), xs[i].cells[j]? = some c → w.cell? ⟨L.b, (i0 + i) * sz + j, none⟩ = some (us j) ∧ (us j).oneCell' = true ∧ Rep G w c (us j) := by
            refine ⟨fun j => (w.cell? ⟨L.b, (i0 + i) * sz + j, none⟩).getD undef, fun j c hc => ?_⟩
            have hj : j < sz := by rw [← hcl]; exact (List.getElem?_eq_some_iff.1 hc).1
            have hfl : (AV.flat es)[(i0 + i) * sz + j]? = some c := by rw [AV.flat, flatMap_get _ sz es h4 (i0 + i) j hj, hees, Option.bind_some, hc]
            obtain ⟨u, hu, hu1, hur⟩ := h5 _ c hfl
            simp only [hu, Option.getD_some]
            exact ⟨trivial, hu1, hur⟩
          obtain ⟨v, hv, hvs, hvj⟩ := Rep.of_cells (e := xs[i]) us (fun j c hc => (hus j c hc).2)
          have hd := (ih _ _ _ _ hview hv).mono (immWith_mono (fun k hk => hks k (hk' k hk))) (fun _ _ _ => rfl)
          obtain ⟨hc1, hc2, hc3⟩ := hd.cells
          refine ⟨by rw [hc1, hvs, hcl], hc2, us, fun j c hc => ?_⟩
          have hj : j < xs[i].cells.length := by
            have := (List.getElem?_eq_some_iff.1 hc).1
            rw [hc1, hvs] at this; exact this
          exact ⟨(hus j _ (List.getElem?_eq_getElem hj)).1, hc3 j c (us j) hc (hvj j hj)⟩
        have hsz : ∀ e ∈ ys, e.cells.length = sz := fun e he => by
          obtain ⟨i, hi⟩ := List.getElem?_of_mem he
          exact (main i e hi).1
        refine ⟨fun _ => h1, hl, hsz, fun e he => ?_, fun t => (w.cell? ⟨L.b, i0 * sz + t, none⟩).getD undef, fun t c ht => ?_⟩
        · obtain ⟨y, hy, hc⟩ := List.mem_flatMap.1 he
          obtain ⟨i, hi⟩ := List.getElem?_of_mem hy
          exact (main i y hi).2.1 e hc
        · obtain ⟨i, j, e, rfl, hj, he, hc⟩ := flat_split hsz ht
          obtain ⟨us, hus⟩ := (main i e he).2.2
          obtain ⟨h7, h8⟩ := hus j c hc
          have e2 : (i0 + i) * sz + j = i0 * sz + (i * sz + j) := by rw [Nat.add_mul]; omega
          rw [e2] at h7
          have hg : (w.cell? ⟨L.b, i0 * sz + (i * sz + j), none⟩).getD undef = us j := by rw [h7]; rfl
          exact ⟨h7.trans (congrArg some hg.symm), by show DRep _ w c ((w.cell? ⟨L.b, i0 * sz + (i * sz + j), none⟩).getD undef); rw [hg]; exact h8⟩
    have imm : ∀ (k : Nat) (L : Loc), k ∈ ks → G.loc k (h k).ver = some L → ∀ o, immWith G h ks L.b o := fun k L hk hL o => .inr ⟨k, hk, L, hL, rfl⟩
    unfold view at hv
    split at hv
    · simp only [Option.some.injEq, Prod.mk.injEq] at hv
      obtain ⟨rfl, rfl⟩ := hv
      exact up hx.toDRep
    · simp only [Option.some.injEq, Prod.mk.injEq] at hv
      obtain ⟨rfl, rfl⟩ := hv
      cases hx; exact .roNil _ _
    · simp only [Option.some.injEq, Prod.mk.injEq] at hv
      obtain ⟨rfl, rfl⟩ := hv
      cases hx; exact .roNil _ _
    · simp only [Option.some.injEq, Prod.mk.injEq] at hv
      obtain ⟨rfl, rfl⟩ := hv
      cases hx with
      | vecNil => exact .roNil _ _
      | vec k ver l L hL hfr hlen hsz hd => exact up hd
    · rename_i k v' off len sz0
      split at hv
      · rename_i sz es hob
        split at hv
        · rename_i hc
          obtain ⟨rfl, hin⟩ := hc
          simp only [Option.map_eq_some_iff, Prod.mk.injEq] at hv
          obtain ⟨⟨ys, ks'⟩, hgo, rfl, rfl⟩ := hv
          have hget : ∀ (i : Nat) (x : AV), ((es.drop off).take len)[i]? = some x → es[off + i]? = some x := by
            intro i x hx
            rw [List.getElem?_take] at hx
            split at hx
            · rwa [List.getElem?_drop] at hx
            · cases hx
          have hlen : ((es.drop off).take len).length = len := by simp; omega
          cases hx with
          | slNil =>
            have := (go_spec hgo).1
            rw [hlen] at this
            have : ys = [] := List.eq_nil_of_length_eq_zero this
            subst this
            exact .roNil _ _
          | sl _ _ _ _ c L hL hcap hlc =>
            obtain ⟨hs, hl, hsz, h1, U, hU⟩ := elems k sz es _ off L ys ks' hob hL hget hgo (fun k' hk' => List.mem_cons_of_mem _ hk')
            rw [hlen] at hl
            rcases Nat.eq_zero_or_pos len with rfl | hpos
            · have : ys = [] := List.eq_nil_of_length_eq_zero hl
              subst this
              exact .roNil _ _
            · have hLs := hs (by intro hnil; rw [hnil] at hlen; simp at hlen; omega)
              have hd := DRep.ro (imm := immWith G h (k :: ks')) (w := w) ys L.b (off * L.sz) c sz U (by omega) hsz h1 (fun t d ht => imm k L (by simp) hL _) (fun t d ht => by rw [hLs]; exact (hU t d ht).1) (fun t d ht => (hU t d ht).2)
              rw [hl] at hd
              exact hd
        · cases hv
      · cases hv
    · rename_i k v' i off sz0
      split at hv
      · rename_i sz es hob
        split at hv
        · rename_i hc
          obtain ⟨rfl, rfl, rfl, hin⟩ := hc
          simp only [Option.map_eq_some_iff, Prod.mk.injEq] at hv
          obtain ⟨⟨ys, ks'⟩, hgo, rfl, rfl⟩ := hv
          cases hx with
          | ptr _ _ _ _ L hL =>
            obtain ⟨hs, hl, hsz, h1, U, hU⟩ := elems k 1 es _ i L ys ks' hob hL (fun j x hx => by rwa [List.getElem?_drop] at hx) hgo (fun k' hk' => List.mem_cons_of_mem _ hk')
            have h1' : ∀ e ∈ ys, e.one = true := by
              intro e he
              cases e with
              | agg cs =>
                obtain ⟨hlg, hgi⟩ := go_spec hgo
                obtain ⟨j, hj⟩ := List.getElem?_of_mem he
                have hjl : j < (es.drop i).length := by rw [← hlg]; exact (List.getElem?_eq_some_iff.1 hj).1
                obtain ⟨y', k', hy', hview, _⟩ := hgi j (es.drop i)[j] (List.getElem?_eq_getElem hjl)
                rw [hj] at hy'
                simp only [Option.some.injEq] at hy'
                subst hy'
                have hees : es[i + j]? = some (es.drop i)[j] := by rw [← List.getElem?_drop]; exact List.getElem?_eq_getElem hjl
                rcases hr.objs k _ hob with ⟨rfl, hLn⟩ | ⟨L', _, _, _, _, _, h6, _⟩
                · simp at hees
                · have hlone := h6 rfl _ (List.mem_of_getElem? hees)
                  exfalso
                  generalize (es.drop i)[j] = z at hview hlone
                  cases n with
                  | zero => simp [view] at hview
                  | succ n =>
                    cases z with
                    | d y => simp only [view, Option.some.injEq, Prod.mk.injEq] at hview; obtain ⟨rfl, _⟩ := hview; simp [AV.lone] at hlone
                    | agg _ => simp [AV.lone] at hlone
                    | sl k v off len sz =>
                      simp only [view] at hview
                      split at hview
                      · split at hview
                        · simp at hview
                        · cases hview
                      · cases hview
                    | ptr k v off len sz =>
                      simp only [view] at hview
                      split at hview
                      · split at hview
                        · simp at hview
                        · cases hview
                      · cases hview
                    | _ => simp [view] at hview
              | _ => rfl
            have hfl : D.flat ys = ys := by
              have : ∀ (l : List D), (∀ e ∈ l, e.one = true) → D.flat l = l := by
                intro l
                induction l with
                | nil => intro _; rfl
                | cons a r ihr =>
                  intro hh
                  have ha := hh a (by simp)
                  have hca : a.cells = [a] := by cases a <;> first | rfl | (simp [D.one] at ha)
                  simp only [D.flat, List.flatMap_cons, hca, List.singleton_append] at ihr ⊢
                  rw [ihr (fun e he => hh e (by simp [he]))]
              exact this ys h1'
            rw [hfl] at hU
            rcases Nat.eq_zero_or_pos (es.drop i).length with hz | hpos
            · have hy0 : ys = [] := List.eq_nil_of_length_eq_zero (by omega)
              subst hy0
              exact .rp [] L.b _ (fun _ => undef) (by simp) (by simp) (by simp) (by simp)
            · have hLs := hs (by intro hnil; rw [hnil] at hpos; simp at hpos)
              refine .rp ys L.b (i * L.sz + 0) U h1' (fun t d ht => imm k L (by simp) hL _) (fun t d ht => ?_) (fun t d ht => (hU t d ht).2)
              have := (hU t d ht).1
              rw [hLs]; exact this
        · cases hv
      · cases hv
    · rename_i cs
      simp only [Option.map_eq_some_iff, Prod.mk.injEq] at hv
      obtain ⟨⟨ys, ks'⟩, hgo, rfl, rfl⟩ := hv
      obtain ⟨hl, hi⟩ := go_spec hgo
      cases hx with
      | agg _ vs hvl h1 hcr =>
        have main : ∀ (i : Nat) (c : D) (u : Value), ys[i]? = some c → vs[i]? = some u → DRep (immWith G h ks') w c u := by
          intro i c u hc hu
          have hilt : i < cs.length := by rw [← hl]; exact (List.getElem?_eq_some_iff.1 hc).1
          obtain ⟨y', k', hy', hview, hk'⟩ := hi i cs[i] (List.getElem?_eq_getElem hilt)
          rw [hc] at hy'
          simp only [Option.some.injEq] at hy'
          subst hy'
          exact (ih _ _ _ _ hview (hcr i _ u (List.getElem?_eq_getElem hilt) hu)).mono (immWith_mono hk') (fun _ _ _ => rfl)
        refine .agg ys vs (by rw [hvl, hl]) (fun c hc => ?_) main
        obtain ⟨i, hi'⟩ := List.getElem?_of_mem hc
        have hilt : i < vs.size := by rw [hvl, ← hl]; exact (List.getElem?_eq_some_iff.1 hi').1
        have hu : vs[i]? = some vs[i] := Array.getElem?_eq_getElem hilt
        exact (main i c _ hi' hu).one_of (h1 i _ hu)
    · cases hv

theorem views_sound (hr : HR G B w0 I0 h w) {n : Nat} {xs : List AV} {ys : List D} {ks : List Nat} (hg : view.go n h xs = some (ys, ks)) {vs : Array Value} (hv : vs.size = xs.length)
    (hx : ∀ (i : Nat) (x : AV) (u : Value), xs[i]? = some x → vs[i]? = some u → Rep G w x u) : vs.size = ys.length ∧ ∀ (i : Nat) (y : D) (u : Value), ys[i]? = some y → vs[i]? = some u → DRep (immWith G h ks) w y u := by
  obtain ⟨hl, hi⟩ := go_spec hg
  refine ⟨by rw [hv, hl], fun i y u hy hu => ?_⟩
  have hilt : i < xs.length := by rw [← hl]; exact (List.getElem?_eq_some_iff.1 hy).1
  obtain ⟨y', k', hy', hview, hk'⟩ := hi i xs[i] (List.getElem?_eq_getElem hilt)
  rw [hy] at hy'
  simp only [Option.some.injEq] at hy'
  subst hy'
  exact (view_sound hr n _ _ _ _ hview (hx i _ u (List.getElem?_eq_getElem hilt) hu)).mono (immWith_mono hk') (fun _ _ _ => rfl)

theorem toD_sound {x : AV} {v : Value} {y : D} (ht : toD x = some y) (hx : Rep G w x v) : DRep G.imm w y v := by
  have lst : ∀ (l : List AV) (ys : List D), toD.go l = some ys → ys.length = l.length ∧ ∀ (i : Nat) (x : AV) (u : Value), l[i]? = some x → Rep G w x u → ∃ y, ys[i]? = some y ∧ y.one = true ∧ DRep G.imm w y u := by
    intro l
    induction l with
    | nil => intro ys hg; simp [toD.go] at hg; subst hg; simp
    | cons a r ih =>
      intro ys hg
      have step : ∀ (y : D), toD.go (a :: r) = (toD.go r).map (y :: ·) → y.one = true → (∀ u, Rep G w a u → DRep G.imm w y u) →
          ys.length = (a :: r).length ∧ ∀ (i : Nat) (x : AV) (u : Value), (a :: r)[i]? = some x → Rep G w x u → ∃ y, ys[i]? = some y ∧ y.one = true ∧ DRep G.imm w y u := by
        intro y he hy1 hyr
        rw [he] at hg
        simp only [Option.map_eq_some_iff] at hg
        obtain ⟨ys', hg', rfl⟩ := hg
        obtain ⟨hl, hi⟩ := ih ys' hg'
        refine ⟨by simp [hl], fun i x u hx hr => ?_⟩
        cases i with
        | zero => simp only [List.getElem?_cons_zero, Option.some.injEq] at hx; subst hx; exact ⟨y, rfl, hy1, hyr u hr⟩
        | succ i => simp only [List.getElem?_cons_succ] at hx; obtain ⟨y', h1, h2⟩ := hi i x u hx hr; exact ⟨y', by simpa using h1, h2⟩
      cases a with
      | d y =>
        by_cases hy : y.one = true
        · exact step y (by simp [toD.go, hy]) hy (fun u hu => hu.toDRep)
        · simp [toD.go, hy] at hg
      | nils => exact step (.ro []) (by simp [toD.go]) rfl (fun u hu => by cases hu; exact .roNil _ _)
      | es => exact step (.ro []) (by simp [toD.go]) rfl (fun u hu => by cases hu; exact .roNil _ _)
      | vec k ver sz l => exact step (.ro l) (by simp [toD.go]) rfl (fun u hu => by cases hu with | vecNil => exact .roNil _ _ | vec _ _ _ L hL hfr hlen hsz hd => exact hd)
      | _ => simp [toD.go] at hg
  cases x with
  | d y' => simp only [toD, Option.some.injEq] at ht; subst ht; exact hx.toDRep
  | nils => simp only [toD, Option.some.injEq] at ht; subst ht; cases hx; exact .roNil _ _
  | es => simp only [toD, Option.some.injEq] at ht; subst ht; cases hx; exact .roNil _ _
  | vec k ver sz l => simp only [toD, Option.some.injEq] at ht; subst ht; cases hx with | vecNil => exact .roNil _ _ | vec _ _ _ L hL hfr hlen hsz hd => exact hd
  | agg cs =>
    simp only [toD, Option.map_eq_some_iff] at ht
    obtain ⟨ys, hg, rfl⟩ := ht
    obtain ⟨hl, hi⟩ := lst cs ys hg
    cases hx with
    | agg _ vs hvl h1 hcr =>
      refine .agg ys vs (by rw [hvl, hl]) (fun c hc => ?_) (fun i c u hc hu => ?_)
      · obtain ⟨i, hi'⟩ := List.getElem?_of_mem hc
        have hilt : i < vs.size := by rw [hvl, ← hl]; exact (List.getElem?_eq_some_iff.1 hi').1
        have hu : vs[i]? = some vs[i] := Array.getElem?_eq_getElem hilt
        obtain ⟨y, hy, hy1, _⟩ := hi i cs[i] vs[i] (List.getElem?_eq_getElem (by rw [← hvl]; exact hilt)) (hcr i _ _ (List.getElem?_eq_getElem (by rw [← hvl]; exact hilt)) hu)
        rw [hi'] at hy
        simp only [Option.some.injEq] at hy
        subst hy; exact hy1
      · have hilt : i < cs.length := by rw [← hl]; exact (List.getElem?_eq_some_iff.1 hc).1
        obtain ⟨y, hy, _, hyr⟩ := hi i cs[i] u (List.getElem?_eq_getElem hilt) (hcr i _ _ (List.getElem?_eq_getElem hilt) hu)
        rw [hc] at hy
        simp only [Option.some.injEq] at hy
        subst hy; exact hyr
  | _ => simp [toD] at ht

theorem toDs_sound : ∀ {xs : List AV} {ys : List D}, toDs xs = some ys → ∀ {vs : Array Value}, vs.size = xs.length → (∀ (i : Nat) (x : AV) (u : Value), xs[i]? = some x → vs[i]? = some u → Rep G w x u) →
    vs.size = ys.length ∧ ∀ (i : Nat) (y : D) (u : Value), ys[i]? = some y → vs[i]? = some u → DRep G.imm w y u := by
  have key : ∀ (xs : List AV) (ys : List D), toDs xs = some ys → ys.length = xs.length ∧ ∀ (i : Nat) (x : AV), xs[i]? = some x → ∃ y, ys[i]? = some y ∧ toD x = some y := by
    intro xs
    induction xs with
    | nil => intro ys h; simp [toDs] at h; subst h; simp
    | cons a r ih =>
      intro ys h
      rw [toDs] at h
      split at h
      · rename_i y ys' hy hys
        simp only [Option.some.injEq] at h
        subst h
        obtain ⟨hl, hi⟩ := ih _ hys
        refine ⟨by simp [hl], fun i x hx => ?_⟩
        cases i with
        | zero => simp only [List.getElem?_cons_zero, Option.some.injEq] at hx; subst hx; exact ⟨y, rfl, hy⟩
        | succ i => simp only [List.getElem?_cons_succ] at hx; obtain ⟨y', h1, h2⟩ := hi i x hx; exact ⟨y', by simpa using h1, h2⟩
      · cases h
  intro xs ys hd vs hv hx
  obtain ⟨hl, hi⟩ := key xs ys hd
  refine ⟨by rw [hv, hl], fun i y u hy hu => ?_⟩
  have hilt : i < xs.length := by rw [← hl]; exact (List.getElem?_eq_some_iff.1 hy).1
  obtain ⟨y', hy', ht⟩ := hi i xs[i] (List.getElem?_eq_getElem hilt)
  rw [hy] at hy'
  simp only [Option.some.injEq] at hy'
  subst hy'
  exact toD_sound ht (hx i _ u (List.getElem?_eq_getElem hilt) hu)
end
end Go.Avm
