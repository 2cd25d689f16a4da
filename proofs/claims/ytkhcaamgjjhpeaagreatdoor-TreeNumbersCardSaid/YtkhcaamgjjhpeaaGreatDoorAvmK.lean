/-
  The abstract machine, part K: append.
-/
import Derived.Test.YtkhcaamgjjhpeaaGreatDoorAvmJ
set_option linter.unusedSectionVars false
namespace Go.Avm
open Go.RowKit
variable [GlobTab]

section
variable {P : Program} {G : Gh} {B : Nat} {w0 w : World} {I0 : Nat → Nat → Prop} {h : Heap}

/-- The cells of a slice's first elements, as they are told by data. -/
def Cells (P : Program) (G : Gh) (w : World) (sz n : Nat) (v : Value) (l : List D) : Prop :=
  ∃ us : List Value, us.length = n * sz ∧ (∀ u ∈ us, u.oneCell' = true) ∧ (∀ (t : Nat) (c : D), (D.flat l)[t]? = some c → ∃ u : Value, us[t]? = some u ∧ c.one = true ∧ DRep G.imm w c u) ∧
    ∀ w2 : World, (∀ b o, w2.cell? ⟨b, o, none⟩ = w.cell? ⟨b, o, none⟩) → (Builtin.firstCells sz n v).run P w2 = .ok us.toArray w2

theorem cells_of_ro {l : List D} {v : Value} {sz : Nat} (hd : DRep G.imm w (.ro l) v) (hs : ∀ y ∈ l, y.cells.length = sz) : Cells P G w sz l.length v l := by
  cases hd with
  | roNil ao c =>
    refine ⟨[], by simp, by simp, by simp [D.flat], fun w2 _ => ?_⟩
    cases ao with
    | none => simp [Builtin.firstCells]
    | some a => simpa using run_firstCells_some (P := P) w2 sz 0 a 0 c [] (by simp) (by simp)
  | ro _ b o c sz' U hcap hsz h1 hi hc hr' =>
    have hlen : (D.flat l).length = l.length * sz := D.flat_len hs
    refine ⟨(List.range (D.flat l).length).map U, by simp [hlen], fun u hu => ?_, fun t c ht => ?_, fun w2 hw2 => ?_⟩
    · simp only [List.mem_map, List.mem_range] at hu
      obtain ⟨t, ht, rfl⟩ := hu
      have hg : (D.flat l)[t]? = some (D.flat l)[t] := List.getElem?_eq_getElem ht
      exact (hr' t _ hg).oneCell (h1 _ (List.getElem_mem ht))
    · have hlt := (List.getElem?_eq_some_iff.1 ht).1
      exact ⟨U t, by simp [List.getElem?_range hlt], h1 c (List.mem_of_getElem? ht), hr' t c ht⟩
    · refine run_firstCells_some (P := P) w2 sz l.length ⟨b, o, none⟩ l.length _ _ (by simp [hlen]) (fun j v hv => ?_)
      simp only [List.getElem?_map, Option.map_eq_some_iff] at hv
      obtain ⟨j', hj', rfl⟩ := hv
      have hlt : j < (D.flat l).length := by
        have := (List.getElem?_eq_some_iff.1 hj').1
        simpa using this
      rw [List.getElem?_range hlt] at hj'
      simp only [Option.some.injEq] at hj'
      subst hj'
      rw [add_lit, hw2]
      exact hc j _ (List.getElem?_eq_getElem hlt)

theorem cells_of_str (s : ByteArray) {sz : Nat} (hs : ∀ y ∈ s.data.toList.map byteD, y.cells.length = sz) : Cells P G w sz s.size (.string s) (s.data.toList.map byteD) := by
  have h1 : s.size * sz = s.size := by
    cases hl : s.data.toList with
    | nil =>
      have : s.size = 0 := by have := congrArg List.length hl; simpa using this
      simp [this]
    | cons b r =>
      have := hs (byteD b) (by simp [hl])
      rw [← this]; simp [byteD, D.cells]
  have hfl : D.flat (s.data.toList.map byteD) = s.data.toList.map byteD := by
    simp only [D.flat]
    induction s.data.toList with
    | nil => rfl
    | cons a r ih => simp only [List.map_cons, List.flatMap_cons, ih]; rfl
  refine ⟨s.data.toList.map fun b => .int .u8 (b.toNat : Int), by simp [h1], fun u hu => ?_, fun t c ht => ?_, fun w2 _ => ?_⟩
  · simp only [List.mem_map] at hu
    obtain ⟨b, _, rfl⟩ := hu
    rfl
  · rw [hfl, List.getElem?_map, Option.map_eq_some_iff] at ht
    obtain ⟨b, hb, rfl⟩ := ht
    exact ⟨.int .u8 (b.toNat : Int), by rw [List.getElem?_map, hb]; rfl, rfl, .int .u8 _⟩
  · have he : s.extract 0 s.size = s := by simp
    simp only [Builtin.firstCells, he, Sem.run_pure]
    congr 1
    apply Array.ext'
    simp

theorem immWith_nil : immWith G h [] = G.imm := by
  funext b o
  simp [immWith, frozenAt]

theorem srcOf_sound (hr : HR G B w0 I0 h w) {x : AV} {vx : Value} (hx : Rep G w x vx) {news : List D} {rs : List Nat} {sz : Nat} (hs : srcOf h x = some (news, rs)) (hsz : ∀ y ∈ news, y.cells.length = sz) :
    (∀ w2 : World, (Builtin.lenOf vx).run P w2 = .ok news.length w2) ∧ Cells P G w sz news.length vx news := by
  suffices hmain : (∃ sb : ByteArray, vx = .string sb ∧ news = sb.data.toList.map byteD) ∨ ((∃ ao c, vx = .slice ao news.length c) ∧ Cells P G w sz news.length vx news) by
    rcases hmain with ⟨sb, rfl, rfl⟩ | ⟨⟨ao, c, rfl⟩, hC⟩
    · exact ⟨fun w2 => by simp [Builtin.lenOf], by simpa using cells_of_str (P := P) (G := G) (w := w) sb hsz⟩
    · exact ⟨fun w2 => by simp [Builtin.lenOf], hC⟩
  unfold srcOf at hs
  split at hs
  · simp only [Option.some.injEq, Prod.mk.injEq] at hs
    obtain ⟨rfl, rfl⟩ := hs
    cases hx with
    | d hd => cases hd with | str _ sb hb => subst hb; exact .inl ⟨sb, rfl, rfl⟩
  all_goals refine .inr ?_
  · simp only [Option.some.injEq, Prod.mk.injEq] at hs
    obtain ⟨rfl, rfl⟩ := hs
    refine ⟨?_, cells_of_ro hx.toDRep hsz⟩
    cases hx with
    | d hd => cases hd <;> exact ⟨_, _, rfl⟩
  · simp only [Option.some.injEq, Prod.mk.injEq] at hs
    obtain ⟨rfl, rfl⟩ := hs
    cases hx with
    | vecNil => exact ⟨⟨_, _, rfl⟩, cells_of_ro (.roNil _ _) hsz⟩
    | vec _ _ _ L hL hfr hlen hsz' hd => exact ⟨⟨_, _, rfl⟩, cells_of_ro hd hsz⟩
  · simp only [Option.some.injEq, Prod.mk.injEq] at hs
    obtain ⟨rfl, rfl⟩ := hs
    cases hx; exact ⟨⟨_, _, rfl⟩, cells_of_ro (.roNil _ _) hsz⟩
  · simp only [Option.some.injEq, Prod.mk.injEq] at hs
    obtain ⟨rfl, rfl⟩ := hs
    cases hx; exact ⟨⟨_, _, rfl⟩, cells_of_ro (.roNil _ _) hsz⟩
  · rename_i k v off len sz0
    split at hs
    · rename_i sz' es hob
      split at hs
      · rename_i hc
        obtain ⟨rfl, hin⟩ := hc
        simp only [Option.bind_eq_some_iff] at hs
        obtain ⟨⟨ys, ks⟩, hgo, hs⟩ := hs
        split at hs
        · rename_i hks
          simp only at hks
          subst hks
          simp only [Option.some.injEq, Prod.mk.injEq] at hs
          obtain ⟨rfl, rfl⟩ := hs
          -- the object's cells, as data
          have hlen : ((es.drop off).take len).length = len := by simp; omega
          obtain ⟨hgl, hgi⟩ := go_spec hgo
          have hnl : ys.length = len := by rw [hgl, hlen]
          cases hx with
          | slNil =>
            have h0 : ys = [] := List.eq_nil_of_length_eq_zero (by omega)
            subst h0
            exact ⟨⟨_, _, rfl⟩, cells_of_ro (.roNil _ _) hsz⟩
          | sl _ _ _ _ c L hL hcap hlc =>
            refine ⟨⟨_, _, by rw [hnl]⟩, ?_⟩
            rw [hnl]
            rcases hr.objs k _ hob with ⟨rfl, hLn⟩ | ⟨L', hL', h1, h2, h3, h4, h6, h5⟩
            · have h0 : len = 0 := by simp at hin; omega
              subst h0
              have h0 : ys = [] := List.eq_nil_of_length_eq_zero hnl
              subst h0
              exact cells_of_ro (.roNil _ _) hsz
            · rw [hL] at hL'
              simp only [Option.some.injEq] at hL'
              subst hL'
              -- element by element
              have main : ∀ (i : Nat) (y : D), ys[i]? = some y → ∃ e, es[off + i]? = some e ∧ y.cells.length = e.cells.length ∧ (∀ c ∈ y.cells, c.one = true) ∧
                  ∀ (j : Nat) (c : D), y.cells[j]? = some c → ∃ u, w.cell? ⟨L.b, (off + i) * sz' + j, none⟩ = some u ∧ u.oneCell' = true ∧ DRep G.imm w c u := by
                intro i y hy
                have hilt : i < ((es.drop off).take len).length := by rw [← hgl]; exact (List.getElem?_eq_some_iff.1 hy).1
                obtain ⟨y', k', hy', hview, hk'⟩ := hgi i _ (List.getElem?_eq_getElem hilt)
                rw [hy] at hy'
                simp only [Option.some.injEq] at hy'
                subst hy'
                have hk0 : k' = [] := List.eq_nil_iff_forall_not_mem.2 (fun k hk => by have := hk' k hk; simp at this)
                subst hk0
                have hees : es[off + i]? = some ((es.drop off).take len)[i] := by
                  have h9 : ((es.drop off).take len)[i]? = some ((es.drop off).take len)[i] := List.getElem?_eq_getElem hilt
                  rw [List.getElem?_take, if_pos (by omega), List.getElem?_drop] at h9
                  exact h9
                generalize ((es.drop off).take len)[i] = e at hees hview
                have hcl := h4 e (List.mem_of_getElem? hees)
                have hus : ∃ us : Nat → Value, ∀ (j : Nat) (c : AV), e.cells[j]? = some c → w.cell? ⟨L.b, (off + i) * sz' + j, none⟩ = some (us j) ∧ (us j).oneCell' = true ∧ Rep G w c (us j) := by
                  refine ⟨fun j => (w.cell? ⟨L.b, (off + i) * sz' + j, none⟩).getD undef, fun j c hc => ?_⟩
                  have hj : j < sz' := by rw [← hcl]; exact (List.getElem?_eq_some_iff.1 hc).1
                  have hfl : (AV.flat es)[(off + i) * sz' + j]? = some c := by rw [AV.flat, flatMap_get _ sz' es h4 (off + i) j hj, hees, Option.bind_some, hc]
                  obtain ⟨u, hu, hu1, hur⟩ := h5 _ c hfl
                  simp only [hu, Option.getD_some]
                  exact ⟨trivial, hu1, hur⟩
                obtain ⟨us, hus⟩ := hus
                obtain ⟨v, hv, hvs, hvj⟩ := Rep.of_cells (e := e) us (fun j c hc => (hus j c hc).2)
                have hd := view_sound hr _ _ _ _ _ hview hv
                rw [immWith_nil] at hd
                obtain ⟨hc1, hc2, hc3⟩ := hd.cells
                refine ⟨e, hees, by rw [hc1, hvs], hc2, fun j c hc => ?_⟩
                have hj : j < e.cells.length := by
                  have := (List.getElem?_eq_some_iff.1 hc).1
                  rw [hc1, hvs] at this; exact this
                obtain ⟨g1, g2, _⟩ := hus j _ (List.getElem?_eq_getElem hj)
                exact ⟨us j, g1, g2, hc3 j c (us j) hc (hvj j hj)⟩
              have hse : ys ≠ [] → sz = sz' := by
                intro hne
                obtain ⟨y, r, rfl⟩ := List.exists_cons_of_ne_nil hne
                obtain ⟨e, he, hl', _⟩ := main 0 y rfl
                rw [← hsz y (by simp), hl', h4 e (List.mem_of_getElem? he)]
              have hflen : (D.flat ys).length = len * sz := by rw [D.flat_len hsz, hnl]
              have hcell : ∀ (t : Nat) (c : D), (D.flat ys)[t]? = some c → ∃ u, w.cell? ⟨L.b, off * L.sz + t, none⟩ = some u ∧ u.oneCell' = true ∧ c.one = true ∧ DRep G.imm w c u := by
                intro t c ht
                obtain ⟨i, j, y, rfl, hj, hy, hc⟩ := flat_split hsz ht
                obtain ⟨e, he, hl', ho1, hcc⟩ := main i y hy
                obtain ⟨u, hu, hu1, hud⟩ := hcc j c hc
                have hes : sz = sz' := hse (by rintro rfl; simp at hy)
                refine ⟨u, ?_, hu1, ho1 c (List.mem_of_getElem? hc), hud⟩
                rw [h1, hes, ← hu]
                congr 2
                rw [Nat.add_mul]; omega
              refine ⟨(List.range (len * sz)).map fun t => (w.cell? ⟨L.b, off * L.sz + t, none⟩).getD undef, by simp, fun u hu => ?_, fun t c ht => ?_, fun w2 hw2 => ?_⟩
              · simp only [List.mem_map, List.mem_range] at hu
                obtain ⟨t, ht, rfl⟩ := hu
                obtain ⟨u, hu, hu1, _⟩ := hcell t _ (List.getElem?_eq_getElem (by rw [hflen]; exact ht))
                rw [hu]; exact hu1
              · have hlt := (List.getElem?_eq_some_iff.1 ht).1
                rw [hflen] at hlt
                obtain ⟨u, hu, _, h8, h9⟩ := hcell t c ht
                exact ⟨u, by simp [List.getElem?_range hlt, hu], h8, h9⟩
              · have hrun := run_firstCells_some (P := P) w2 sz len ⟨L.b, off * L.sz, none⟩ len c ((List.range (len * sz)).map fun t => (w.cell? ⟨L.b, off * L.sz + t, none⟩).getD undef) (by simp) (fun j v hv => by
                  simp only [List.getElem?_map, Option.map_eq_some_iff] at hv
                  obtain ⟨j', hj', rfl⟩ := hv
                  have hlt : j < len * sz := by
                    have := (List.getElem?_eq_some_iff.1 hj').1
                    simpa using this
                  rw [List.getElem?_range hlt] at hj'
                  simp only [Option.some.injEq] at hj'
                  subst hj'
                  obtain ⟨u, hu, _⟩ := hcell j _ (List.getElem?_eq_getElem (by rw [hflen]; exact hlt))
                  rw [add_lit, hw2, hu]; rfl)
                exact hrun
        · cases hs
      · cases hs
    · cases hs
  · cases hs

theorem appT_cases {t t' : TypeId} (h : appT P t t' = true) : t' = t ∨ P.underlying t' = some .string := by
  unfold appT at h
  by_cases ht : t = t'
  · exact .inl ht.symm
  · right
    simp only [Bool.or_eq_true, beq_iff_eq, ht, false_or] at h
    split at h
    · assumption
    · cases h
theorem run_append_room' (t t' ty e e' : TypeId) (i : TypeInfo) (ht : P.underlying t = some (.slice e)) (hta : appT P t t' = true) (hi : P.info? e = some i) (g sLen sCap : Nat) (cur : Array Value) (hg : w.heap[g]? = some (.cells cur e' (0, 0)))
    (xv : Value) (m : Nat) (us : List Value) (hxl : (Builtin.lenOf xv).run P w = .ok m w) (hf : (Builtin.firstCells i.size m xv).run P w = .ok us.toArray w) (h1 : ∀ u ∈ us, u.oneCell' = true) (hroom : sLen + m ≤ sCap) (hfit : sLen * i.size + us.length ≤ cur.size) :
    (Builtin.append_ #[t, t'] ty #[.slice (some ⟨g, 0, none⟩) sLen sCap, xv]).run P w =
      .ok (.slice (some ⟨g, 0, none⟩) (sLen + m) sCap) (w.setRow g (cur.toList.take (sLen * i.size) ++ us ++ cur.toList.drop (sLen * i.size + us.length)).toArray) := by
  have hst := run_storeCells_at P g (sLen * i.size) e' us 0 cur w hg (by simpa using hfit) h1
  simp only [Nat.add_zero] at hst
  rcases appT_cases hta with rfl | hs
  · simp [Builtin.append_, run_underlying ht, sizeOf, typeInfo, hi, hxl, hroom, hf, add_lit, hst]
  · simp [Builtin.append_, run_underlying ht, run_underlying hs, sizeOf, typeInfo, hi, hxl, hroom, hf, add_lit, hst]

theorem run_append_grow' (t t' ty e : TypeId) (i : TypeInfo) (z : Value) (ht : P.underlying t = some (.slice e)) (hta : appT P t t' = true) (hi : P.info? e = some i) (hz : i.zero = some z)
    (bo : Option Addr) (sLen sCap : Nat) (olds : List Value) (hfo : (Builtin.firstCells i.size sLen (.slice bo sLen sCap)).run P w.drew = .ok olds.toArray w.drew)
    (xv : Value) (m : Nat) (us : List Value) (hxl : ∀ w2 : World, (Builtin.lenOf xv).run P w2 = .ok m w2) (hf : (Builtin.firstCells i.size m xv).run P w.drew = .ok us.toArray w.drew)
    (hg : sCap < sLen + m) (hle : sLen + m ≤ 549755813888) (hby : i.bytes ≤ 256) :
    (Builtin.append_ #[t, t'] ty #[.slice bo sLen sCap, xv]).run P w =
      .ok (.slice (some ⟨w.heap.size, 0, none⟩) (sLen + m) (grownCap w (sLen + m) sCap e)) (w.drew.alloc (.cells (olds.toArray ++ us.toArray ++ Builtin.zeroCells z.cells (grownCap w (sLen + m) sCap e - (sLen + m))) e)) := by
  have hn : ¬ (sLen + m ≤ sCap) := by omega
  have h63' : ¬ (9223372036854775807 < ((sLen : Int) + (m : Int))) := by omega
  have h48' : ¬ (281474976710656 < Builtin.nextslicecap (sLen + m) sCap * i.bytes) := by
    have h2 := nextslicecap_le hg
    have h3 : Builtin.nextslicecap (sLen + m) sCap * i.bytes ≤ (2 * 549755813888) * 256 := Nat.mul_le_mul (by omega) hby
    omega
  have hf' : (Builtin.firstCells i.size m xv).run P w.drew = .ok us.toArray w.drew := hf
  rcases appT_cases hta with rfl | hs
  · simp [Builtin.append_, run_underlying ht, sizeOf, typeInfo, zeroValue, hi, hz, hxl, hn, h63', h48', Question.forced, hf', hfo, newRow, grownCap]
    congr 2
    apply Array.ext'
    simp [List.append_assoc]
  · simp [Builtin.append_, run_underlying ht, run_underlying hs, sizeOf, typeInfo, zeroValue, hi, hz, hxl, hn, h63', h48', Question.forced, hf', hfo, newRow, grownCap]
    congr 2
    apply Array.ext'
    simp [List.append_assoc]

theorem size_zc (z : Array Value) (n : Nat) : (Builtin.zeroCells z n).size = n * z.size := by simp [Builtin.zeroCells]

theorem AV.cells_d (y : D) : (AV.d y).cells = y.cells.map .d := by cases y <;> rfl
theorem flat_map_d : ∀ (l : List D), AV.flat (l.map .d) = (D.flat l).map .d
  | [] => rfl
  | a :: r => by
    have ih := flat_map_d r
    simp only [AV.flat, D.flat] at ih ⊢
    simp only [List.map_cons, List.flatMap_cons, List.map_append, AV.cells_d, ih]

/-- The type of the row that an append hands back. -/
def TyOk (P : Program) (t : TypeId) (G G' : Gh) (h : Heap) (s x : AV) : Prop :=
  ∀ k v sz l L, x = .vec k v sz l → G'.loc k v = some L → P.underlying t = some (.slice L.ty) ∨ s.isVec = true ∧ ∃ L0, G.loc k (h k).ver = some L0 ∧ L.ty = L0.ty
theorem TyOk.non {P : Program} {t : TypeId} {G G' : Gh} {h : Heap} {s x : AV} (hx : x.isVec = false) : TyOk P t G G' h s x := by
  intro k v sz l L hv _
  rw [hv] at hx; cases hx
theorem TyOk.noLoc {P : Program} {t : TypeId} {G G' : Gh} {h : Heap} {s : AV} {k v sz : Nat} {l : List D} (hn : G'.loc k v = none) : TyOk P t G G' h s (.vec k v sz l) := by
  intro k v sz l L hv hL
  cases hv
  rw [hn] at hL; cases hL
theorem TyOk.new {P : Program} {t e : TypeId} {G G' : Gh} {h : Heap} {s : AV} {k v sz : Nat} {l : List D} (hu : P.underlying t = some (.slice e)) (hn : ∀ L, G'.loc k v = some L → L.ty = e) : TyOk P t G G' h s (.vec k v sz l) := by
  intro k v sz l L hv hL
  cases hv
  rw [hn L hL]; exact .inl hu
theorem opAppend_sound (hr : HR G B w0 I0 h w) {obm : Bool} {t t' ty : TypeId} (hta : appT P t t' = true) {s x : AV} {vs vx : Value} (hs : Rep G w s vs) (hx : Rep G w x vx) {k : Nat} {out : Out} (ho : opAppend P obm t s x k h = some out) :
    out.ob = [] ∧ ∃ v w' G', (Builtin.append_ #[t, t'] ty #[vs, vx]).run P w = .ok v w' ∧ Ext G w G' w' ∧ HR G' B w0 I0 (updAll h out.wr) w' ∧ Rep G' w' out.val v ∧ TyOk P t G G' h s out.val := by
  unfold opAppend at ho
  split at ho
  · rename_i e hu
    split at ho
    · rename_i news rs z hsrc hz
      split at ho
      · rename_i hc
        obtain ⟨hall, hpos, hby, hzs⟩ := hc
        obtain ⟨i, hi, hiz, hsz, hbe⟩ := info_zero hz
        have hnc : ∀ y ∈ news, y.cells.length = P.cellsOf e := fun y hy => by simpa using List.all_eq_true.1 hall y hy
        obtain ⟨hxl, us, hus1, hus2, hus3, hus4⟩ := srcOf_sound (P := P) hr hx hsrc hnc
        have hfw := hus4 w (fun _ _ => rfl)
        have hfd := hus4 w.drew (fun _ _ => rfl)
        rw [hsz] at hfw hfd
        rw [hbe] at hby
        have hfl : (D.flat news).length = news.length * P.cellsOf e := D.flat_len hnc
        -- what a new block holds
        have hnewcell : ∀ (olds : List Value) (rest : Array Value) (l : List D), olds.length = l.length * P.cellsOf e → (∀ y ∈ l, y.cells.length = P.cellsOf e) → (∀ (t : Nat) (c : D), (D.flat l)[t]? = some c → ∃ u : Value, olds[t]? = some u ∧ c.one = true ∧ DRep G.imm w c u) →
            ∀ (t : Nat) (c : D), (D.flat (l ++ news))[t]? = some c → ∃ u : Value, (olds.toArray ++ us.toArray ++ rest)[t]? = some u ∧ c.one = true ∧ DRep G.imm w c u := by
          intro olds rest l hol hlc hold t c ht
          have hfl2 : (D.flat l).length = l.length * P.cellsOf e := D.flat_len hlc
          have hsplit : D.flat (l ++ news) = D.flat l ++ D.flat news := List.flatMap_append
          rw [hsplit] at ht
          rw [← Array.getElem?_toList]
          simp only [Array.toList_append]
          by_cases htl : t < (D.flat l).length
          · rw [List.getElem?_append_left htl] at ht
            obtain ⟨u, hu, h1, h2⟩ := hold t c ht
            have : t < olds.length := by omega
            refine ⟨u, ?_, h1, h2⟩
            rw [List.append_assoc, List.getElem?_append_left (by simpa using this)]; exact hu
          · rw [List.getElem?_append_right (by omega)] at ht
            obtain ⟨u, hu, h1, h2⟩ := hus3 _ c ht
            have hlt := (List.getElem?_eq_some_iff.1 hu).1
            refine ⟨u, ?_, h1, h2⟩
            have e1 : (D.flat l).length = olds.length := by rw [hol]; exact hfl2
            rw [e1] at hu hlt
            rw [e1] at ht
            have htl' : ¬ t < olds.length := by omega
            rw [List.append_assoc, List.getElem?_append_right (by simpa using htl'), List.getElem?_append_left (by simpa using hlt)]
            simpa using hu
        have hex0 : Ext G w G w.drew := Ext.drew G w
        have hrd := hr.drew
        have hnd : ∀ y ∈ news.map AV.d, y.cells.length = P.cellsOf e := by
          intro y hy
          obtain ⟨y', hy', rfl⟩ := List.mem_map.1 hy
          rw [AV.cells_d, List.length_map]; exact hnc y' hy'
        have hlod : news.all D.one = true → ∀ y ∈ news.map AV.d, y.lone = true := by
          intro hall1 y hy
          obtain ⟨y', hy', rfl⟩ := List.mem_map.1 hy
          have := List.all_eq_true.1 hall1 y' hy'
          cases y' <;> first | rfl | (simp [D.one] at this)
        -- an append to a nil slice or to one without capacity
        have growArr : ∀ (sLen sCap : Nat) (olds : List Value), olds.length = sLen * P.cellsOf e →
            (olds.toArray ++ us.toArray ++ Builtin.zeroCells z.cells (grownCap w (sLen + news.length) sCap e - (sLen + news.length))).size = grownCap w (sLen + news.length) sCap e * P.cellsOf e := by
          intro sLen sCap olds hol
          have hge := grownCap_ge w (sLen + news.length) sCap e
          simp only [Array.size_append, size_zc, hzs, List.size_toArray, hus1, hol]
          rw [← Nat.add_mul, ← Nat.add_mul]
          congr 1; omega
        have avCell : ∀ (olds : List Value) (rest : Array Value) (xs : List AV), olds.length = xs.length * P.cellsOf e → (∀ y ∈ xs, y.cells.length = P.cellsOf e) → (∀ (t : Nat) (c : AV), (AV.flat xs)[t]? = some c → ∃ u : Value, olds[t]? = some u ∧ u.oneCell' = true ∧ Rep G w c u) →
            ∀ (t : Nat) (c : AV), (AV.flat (xs ++ news.map .d))[t]? = some c → ∃ u : Value, (olds.toArray ++ us.toArray ++ rest)[t]? = some u ∧ u.oneCell' = true ∧ Rep G w c u := by
          intro olds rest xs hol hxc hold t c ht
          have hfl2 : (AV.flat xs).length = xs.length * P.cellsOf e := flatMap_len _ _ xs hxc
          have hsplit : AV.flat (xs ++ news.map .d) = AV.flat xs ++ (D.flat news).map .d := by rw [← flat_map_d]; exact List.flatMap_append
          rw [hsplit] at ht
          rw [← Array.getElem?_toList]
          simp only [Array.toList_append]
          by_cases htl : t < (AV.flat xs).length
          · rw [List.getElem?_append_left htl] at ht
            obtain ⟨u, hu, h1, h2⟩ := hold t c ht
            have : t < olds.length := by omega
            exact ⟨u, by rw [List.append_assoc, List.getElem?_append_left (by simpa using this)]; exact hu, h1, h2⟩
          · rw [List.getElem?_append_right (by omega), List.getElem?_map, Option.map_eq_some_iff] at ht
            obtain ⟨c', hc', rfl⟩ := ht
            obtain ⟨u, hu, h1, h2⟩ := hus3 _ c' hc'
            have hlt := (List.getElem?_eq_some_iff.1 hu).1
            have e1 : (AV.flat xs).length = olds.length := by rw [hol]; exact hfl2
            rw [e1] at hu hlt
            refine ⟨u, ?_, h2.oneCell h1, .d h2⟩
            have htl' : ¬ t < olds.length := by omega
            rw [List.append_assoc, List.getElem?_append_right (by simpa using htl'), List.getElem?_append_left (by simpa using hlt)]
            simpa using hu
        have avCellD : ∀ (olds : List Value) (rest : Array Value) (xs : List AV), olds.length = xs.length * P.cellsOf e → (∀ y ∈ xs, y.cells.length = P.cellsOf e) → (∀ (t : Nat) (c : AV), (AV.flat xs)[t]? = some c → ∃ u : Value, olds[t]? = some u ∧ u.oneCell' = true ∧ Rep G w c u) →
            ∀ (t : Nat) (c : AV), (AV.flat (xs ++ news.map .d))[t]? = some c → ∃ u : Value, (olds.toArray ++ us.toArray ++ rest)[t]? = some u ∧ u.oneCell' = true ∧ Rep G w.drew c u := by
          intro olds rest xs a1 a2 a3 t c ht
          obtain ⟨u, h1, h2, h3⟩ := avCell olds rest xs a1 a2 a3 t c ht
          exact ⟨u, h1, h2, h3.mono hex0⟩
        have hnewcellD : ∀ (olds : List Value) (rest : Array Value) (l : List D), olds.length = l.length * P.cellsOf e → (∀ y ∈ l, y.cells.length = P.cellsOf e) → (∀ (t : Nat) (c : D), (D.flat l)[t]? = some c → ∃ u : Value, olds[t]? = some u ∧ c.one = true ∧ DRep G.imm w c u) →
            ∀ (t : Nat) (c : D), (D.flat (l ++ news))[t]? = some c → ∃ u : Value, (olds.toArray ++ us.toArray ++ rest)[t]? = some u ∧ c.one = true ∧ DRep G.imm w.drew c u := by
          intro olds rest l a1 a2 a3 t c ht
          obtain ⟨u, h1, h2, h3⟩ := hnewcell olds rest l a1 a2 a3 t c ht
          exact ⟨u, h1, h2, h3.mono hex0.imm hex0.cell⟩
        have roomNil : ∀ (ao' : Option Addr), news.length = 0 → (Builtin.append_ #[t, t'] ty #[.slice ao' 0 0, vx]).run P w = .ok (.slice ao' 0 0) w := by
          intro ao' hn0
          have hnil : news = [] := List.eq_nil_of_length_eq_zero hn0
          subst hnil
          have hus0 : us = [] := List.eq_nil_of_length_eq_zero (by simpa using hus1)
          subst hus0
          simp at hfw hxl
          rcases appT_cases hta with rfl | hs'
          · cases ao' with
            | none => simp [Builtin.append_, run_underlying hu, sizeOf, typeInfo, hi, hxl, hfw]
            | some a => simp [Builtin.append_, run_underlying hu, sizeOf, typeInfo, hi, hxl, hfw, storeCells]
          · cases ao' with
            | none => simp [Builtin.append_, run_underlying hu, run_underlying hs', sizeOf, typeInfo, hi, hxl, hfw]
            | some a => simp [Builtin.append_, run_underlying hu, run_underlying hs', sizeOf, typeInfo, hi, hxl, hfw, storeCells]
        have firstNone : (Builtin.firstCells i.size 0 (.slice none 0 0)).run P w.drew = .ok ([] : List Value).toArray w.drew := by simp [Builtin.firstCells]
        split at ho
        · -- a nil slice
          split at ho
          · cases ho
          · rename_i hk
            have hk2 : news.length ≤ 549755813888 := by
              rcases Nat.lt_or_ge 549755813888 news.length with h9 | h9
              · exact absurd (Or.inr h9) hk
              · exact h9
            cases hs
            by_cases hn0 : news.length = 0
            · have hrun := roomNil none hn0
              have hnil : news = [] := List.eq_nil_of_length_eq_zero hn0
              split at ho
              · split at ho
                · cases ho
                · simp only [Option.some.injEq] at ho
                  subst ho
                  obtain ⟨G', g1, g2, _⟩ := hr.bump k (some (.arr (P.cellsOf e) (news.map .d))) (fun o ho' => by rw [hnil] at ho'; simp at ho'; exact ⟨_, ho'.symm⟩)
                  rw [hn0]
                  try rw [hn0] at hrun
                  exact ⟨rfl, _, w, G', hrun, g2, g1, .slNil _ _ _, TyOk.non rfl⟩
              · simp only [Option.some.injEq] at ho
                subst ho
                obtain ⟨G', g1, g2, g9⟩ := hr.bump k none (fun o ho' => by cases ho')
                rw [hnil]
                try rw [hnil] at hrun
                exact ⟨rfl, _, w, G', hrun, g2, g1, .vecNil _ _ _, TyOk.noLoc g9⟩
            · have hrun := run_append_grow' (w := w) t t' ty e i z hu hta hi hiz none 0 0 [] firstNone vx news.length us hxl hfd (by omega) (by omega) hby
              have hge := grownCap_ge w (0 + news.length) 0 e
              have harr := growArr 0 0 [] (by simp)
              split at ho
              · split at ho
                · cases ho
                · rename_i hlo
                  simp only [Option.some.injEq] at ho
                  subst ho
                  obtain ⟨g1, g2⟩ := hrd.newOb k (P.cellsOf e) (grownCap w (0 + news.length) 0 e) (news.map .d) _ e harr (by rw [List.length_map]; omega) hnd (fun h1 => hlod (by
                    cases hxa : news.all D.one with
                    | true => rfl
                    | false => exact absurd ⟨h1, hxa⟩ hlo)) (by simpa using avCellD [] (Builtin.zeroCells z.cells (grownCap w (0 + news.length) 0 e - (0 + news.length))) [] (by simp) (by simp) (by simp [AV.flat]))
                  refine ⟨rfl, _, _, _, hrun, hex0.trans g2, g1, ?_, TyOk.non rfl⟩
                  have := Rep.sl (w := w.drew.alloc (.cells (([] : List Value).toArray ++ us.toArray ++ Builtin.zeroCells z.cells (grownCap w (0 + news.length) 0 e - (0 + news.length))) e)) k ((h k).ver + 1) 0 news.length (grownCap w (0 + news.length) 0 e) _ (Gh.at_same G k ((h k).ver + 1) ⟨w.heap.size, P.cellsOf e, grownCap w (0 + news.length) 0 e, 0, e⟩) (by simp) (by omega)
                  simpa using this
              · simp only [Option.some.injEq] at ho
                subst ho
                obtain ⟨G', g1, g2, g3, g9⟩ := hrd.newVecT k (P.cellsOf e) (grownCap w (0 + news.length) 0 e) news _ e harr (by omega) hnc (by simpa using hnewcellD [] (Builtin.zeroCells z.cells (grownCap w (0 + news.length) 0 e - (0 + news.length))) [] (by simp) (by simp) (by simp [D.flat]))
                refine ⟨rfl, _, _, G', hrun, hex0.trans g2, g1, ?_, TyOk.new hu g9⟩
                simpa using g3
        · -- no capacity
          split at ho
          · cases ho
          · rename_i hk2
            simp only [Option.some.injEq] at ho
            subst ho
            cases hs with
            | es ao' =>
              by_cases hn0 : news.length = 0
              · have hrun := roomNil ao' hn0
                have hnil : news = [] := List.eq_nil_of_length_eq_zero hn0
                refine ⟨rfl, _, w, G, hrun, Ext.refl G w, hr, ?_, TyOk.non rfl⟩
                rw [hnil]; exact .d (.roNil _ _)
              · have hf0 : (Builtin.firstCells i.size 0 (.slice ao' 0 0)).run P w.drew = .ok ([] : List Value).toArray w.drew := by
                  cases ao' with
                  | none => exact firstNone
                  | some a => exact run_firstCells_some (P := P) w.drew i.size 0 a 0 0 [] (by simp) (by simp)
                have hrun := run_append_grow' (w := w) t t' ty e i z hu hta hi hiz ao' 0 0 [] hf0 vx news.length us hxl hfd (by omega) (by omega) hby
                have hge := grownCap_ge w (0 + news.length) 0 e
                obtain ⟨G', g1, g2, g3⟩ := hrd.newImm news (P.cellsOf e) (grownCap w (0 + news.length) 0 e) (([] : List Value).toArray ++ us.toArray ++ Builtin.zeroCells z.cells (grownCap w (0 + news.length) 0 e - (0 + news.length))) e (by omega) hnc (by simpa using hnewcellD [] (Builtin.zeroCells z.cells (grownCap w (0 + news.length) 0 e - (0 + news.length))) [] (by simp) (by simp) (by simp [D.flat]))
                refine ⟨rfl, _, _, G', hrun, hex0.trans g2, g1, .d ?_, TyOk.non rfl⟩
                simpa using g3
        · -- a growing list
          rename_i k' v sz l
          split at ho
          · rename_i hc
            obtain ⟨rfl, hob, hkrs, hsze, hle⟩ := hc
            have hob : (h k').ob = none := by simpa using hob
            simp only [Option.some.injEq] at ho
            subst ho
            cases hs with
            | vecNil =>
              subst hsze
              by_cases hn0 : news.length = 0
              · have hrun := roomNil none hn0
                have hnil : news = [] := List.eq_nil_of_length_eq_zero hn0
                obtain ⟨G', g1, g2, g9⟩ := hr.bump k' none (fun o ho' => by cases ho')
                rw [hnil]
                try rw [hnil] at hrun
                exact ⟨rfl, _, w, G', hrun, g2, g1, .vecNil _ _ _, TyOk.noLoc g9⟩
              · simp at hle
                have hrun := run_append_grow' (w := w) t t' ty e i z hu hta hi hiz none 0 0 [] firstNone vx news.length us hxl hfd (by omega) (by omega) hby
                have hge := grownCap_ge w (0 + news.length) 0 e
                have harr := growArr 0 0 [] (by simp)
                obtain ⟨G', g1, g2, g3, g9⟩ := hrd.newVecT k' (P.cellsOf e) (grownCap w (0 + news.length) 0 e) news _ e harr (by omega) hnc (by simpa using hnewcellD [] (Builtin.zeroCells z.cells (grownCap w (0 + news.length) 0 e - (0 + news.length))) [] (by simp) (by simp) (by simp [D.flat]))
                refine ⟨rfl, _, _, G', hrun, hex0.trans g2, g1, ?_, TyOk.new hu g9⟩
                simpa using g3
            | vec _ _ _ L hL hfr hlen hlsz hd =>
              obtain ⟨olds, ho1, ho2, ho3, ho4⟩ := cells_of_ro (P := P) hd hlsz
              obtain ⟨hB, ⟨arr, e', hb, has⟩, _⟩ := hr.own k' L hL
              by_cases hroom : l.length + news.length ≤ L.cap
              · have hfit : l.length * i.size + us.length ≤ arr.size := by
                  rw [has.1, hsze, hus1, ← hsz, ← Nat.add_mul]; exact Nat.mul_le_mul_right _ hroom
                have hrun := run_append_room' t t' ty e e' i hu hta hi L.b l.length L.cap arr hb vx news.length us (hxl w) hfw hus2 hroom hfit
                have hseg := fun s => seg_get arr.toList us (l.length * i.size) s (by simpa using hfit)
                have hLs : L.sz = P.cellsOf e := hsze
                have hcelllist : ∀ (t : Nat) (c : D), (D.flat l)[t]? = some c → ∃ u : Value, arr[t]? = some u ∧ c.one = true ∧ DRep G.imm w c u := by
                  intro t c ht
                  cases hd with
                  | roNil => simp [D.flat] at ht
                  | ro _ b o c' sz' U hcap hsz' h1 hi' hc' hr' =>
                    have := hc' t c ht
                    rw [Nat.zero_add] at this
                    exact ⟨U t, by simpa [World.cell?, hb] using this, h1 c (List.mem_of_getElem? ht), hr' t c ht⟩
                have hfl2 : (D.flat l).length = l.length * P.cellsOf e := by rw [D.flat_len hlsz, hLs]
                obtain ⟨G', g1, g2, g3, g9⟩ := hr.growT (news := news) hob hL hfr hb (arr' := (arr.toList.take (l.length * i.size) ++ us ++ arr.toList.drop (l.length * i.size + us.length)).toArray) (by simp; omega) hroom hlsz (fun y hy => by rw [hLs]; exact hnc y hy) (fun s hs => by
                  rw [List.getElem?_toArray, hseg s, if_pos (by rw [← hsz, ← hLs]; exact hs)]; simp) (fun s c hs => by
                  have hsplit : D.flat (l ++ news) = D.flat l ++ D.flat news := List.flatMap_append
                  rw [hsplit] at hs
                  rw [List.getElem?_toArray, hseg s]
                  by_cases hsl : s < (D.flat l).length
                  · rw [List.getElem?_append_left hsl] at hs
                    obtain ⟨u, hu', h1, h2⟩ := hcelllist s c hs
                    refine ⟨u, ?_, h1, h2⟩
                    rw [if_pos (by rw [← hsz]; omega)]; simpa using hu'
                  · rw [List.getElem?_append_right (by omega)] at hs
                    obtain ⟨u, hu', h1, h2⟩ := hus3 _ c hs
                    have hlt := (List.getElem?_eq_some_iff.1 hu').1
                    refine ⟨u, ?_, h1, h2⟩
                    rw [if_neg (by rw [← hsz]; omega), if_pos (by rw [← hsz]; omega), ← hsz, ← hfl2]; exact hu')
                exact ⟨rfl, _, _, G', hrun, g2, g1, g3, fun _ _ _ _ L1 hv hL1 => by
                  cases hv
                  exact .inr ⟨rfl, L, hL, g9 L1 hL1⟩⟩
              · have hfo := ho4 w.drew (fun _ _ => rfl)
                have hLs : L.sz = P.cellsOf e := hsze
                rw [hLs, hsz] at hfo
                have hrun := run_append_grow' (w := w) t t' ty e i z hu hta hi hiz (some ⟨L.b, 0, none⟩) l.length L.cap olds hfo vx news.length us hxl hfd (by omega) hle hby
                have hge := grownCap_ge w (l.length + news.length) L.cap e
                have harr := growArr l.length L.cap olds (by rw [ho1, hLs])
                obtain ⟨G', g1, g2, g3, g9⟩ := hrd.newVecT k' (P.cellsOf e) (grownCap w (l.length + news.length) L.cap e) (l ++ news) _ e harr (by rw [List.length_append]; omega) (fun y hy => by
                  rcases List.mem_append.1 hy with hy | hy
                  · rw [← hLs]; exact hlsz y hy
                  · exact hnc y hy) (hnewcellD olds (Builtin.zeroCells z.cells (grownCap w (l.length + news.length) L.cap e - (l.length + news.length))) l (by rw [ho1, hLs]) (fun y hy => by rw [← hLs]; exact hlsz y hy) ho3)
                refine ⟨rfl, _, _, G', hrun, hex0.trans g2, g1, ?_, TyOk.new hu g9⟩
                rw [List.length_append, ← hLs] at g3
                exact g3
          · cases ho
        · -- an object
          rename_i k' v off len sz0
          split at ho
          · rename_i sz es hob
            split at ho
            · rename_i hc
              obtain ⟨rfl, rfl, hles, rfl, hle, hone⟩ := hc
              simp only [Option.some.injEq] at ho
              subst ho
              have htl : (es.take len).length = len := by simp; omega
              have hlo' : ∀ (hlo : P.cellsOf e = 1 → ∀ x ∈ es, x.lone = true), P.cellsOf e = 1 → ∀ x ∈ es.take len ++ news.map .d, x.lone = true := by
                intro hlo h1 x hx
                rcases List.mem_append.1 hx with hx | hx
                · exact hlo h1 x (List.mem_of_mem_take hx)
                · exact hlod (hone h1) x hx
              cases hs with
              | slNil =>
                by_cases hn0 : news.length = 0
                · have hrun := roomNil none hn0
                  have hnil : news = [] := List.eq_nil_of_length_eq_zero hn0
                  obtain ⟨G', g1, g2, _⟩ := hr.bump k' (some (.arr (P.cellsOf e) (es.take 0 ++ news.map .d))) (fun o ho' => by rw [hnil] at ho'; simp at ho'; exact ⟨_, ho'.symm⟩)
                  rw [hn0]
                  try rw [hn0] at hrun
                  exact ⟨rfl, _, w, G', hrun, g2, g1, .slNil _ _ _, TyOk.non rfl⟩
                · have hrun := run_append_grow' (w := w) t t' ty e i z hu hta hi hiz none 0 0 [] firstNone vx news.length us hxl hfd (by omega) (by omega) hby
                  have hge := grownCap_ge w (0 + news.length) 0 e
                  have harr := growArr 0 0 [] (by simp)
                  obtain ⟨g1, g2⟩ := hrd.newOb k' (P.cellsOf e) (grownCap w (0 + news.length) 0 e) (es.take 0 ++ news.map .d) _ e harr (by rw [List.length_append, List.length_map, List.length_take]; omega) (by simpa using hnd) (fun h1 => by simpa using hlod (hone h1)) (by simpa using avCellD [] (Builtin.zeroCells z.cells (grownCap w (0 + news.length) 0 e - (0 + news.length))) [] (by simp) (by simp) (by simp [AV.flat]))
                  refine ⟨rfl, _, _, _, hrun, hex0.trans g2, g1, ?_, TyOk.non rfl⟩
                  have := Rep.sl (w := w.drew.alloc (.cells (([] : List Value).toArray ++ us.toArray ++ Builtin.zeroCells z.cells (grownCap w (0 + news.length) 0 e - (0 + news.length))) e)) k' ((h k').ver + 1) 0 (0 + news.length) (grownCap w (0 + news.length) 0 e) _ (Gh.at_same G k' ((h k').ver + 1) ⟨w.heap.size, P.cellsOf e, grownCap w (0 + news.length) 0 e, 0, e⟩) (by simp) (by omega)
                  simpa using this
              | sl _ _ _ _ cc L hL hcap hlc =>
                rcases hr.objs k' _ hob with ⟨_, hLn⟩ | ⟨L', hL', h1, h2, h3, h4, h6, h5⟩
                · rw [hL] at hLn; cases hLn
                · rw [hL] at hL'
                  simp only [Option.some.injEq] at hL'
                  subst hL'
                  obtain ⟨hB, ⟨arr, e', hb, has⟩, _⟩ := hr.own k' L hL
                  have htc : ∀ y ∈ es.take len, y.cells.length = P.cellsOf e := fun y hy => h4 y (List.mem_of_mem_take hy)
                  have hall' : ∀ y ∈ es.take len ++ news.map .d, y.cells.length = P.cellsOf e := fun y hy => by
                    rcases List.mem_append.1 hy with hy | hy
                    · exact htc y hy
                    · exact hnd y hy
                  have hfl2 : (AV.flat (es.take len)).length = len * P.cellsOf e := by rw [AV.flat, flatMap_len _ _ _ htc, htl]
                  have hold : ∀ (t : Nat) (c : AV), (AV.flat (es.take len))[t]? = some c → ∃ u : Value, arr[t]? = some u ∧ u.oneCell' = true ∧ Rep G w c u := by
                    intro t c ht
                    have : AV.flat es = AV.flat (es.take len) ++ AV.flat (es.drop len) := by
                      show List.flatMap _ _ = List.flatMap _ _ ++ List.flatMap _ _
                      rw [← List.flatMap_append, List.take_append_drop]
                    have hlt := (List.getElem?_eq_some_iff.1 ht).1
                    obtain ⟨u, hu', hu1, hur⟩ := h5 t c (by rw [this, List.getElem?_append_left hlt]; exact ht)
                    exact ⟨u, by simpa [World.cell?, hb] using hu', hu1, hur⟩
                  have hz0 : (⟨L.b, 0 * L.sz, none⟩ : Addr) = ⟨L.b, 0, none⟩ := by simp
                  rw [hz0]
                  by_cases hroom : len + news.length ≤ cc
                  · have hfit : len * i.size + us.length ≤ arr.size := by
                      rw [has.1, h1, hus1, ← hsz, ← Nat.add_mul]; exact Nat.mul_le_mul_right _ (by omega)
                    have hrun := run_append_room' t t' ty e e' i hu hta hi L.b len cc arr hb vx news.length us (hxl w) hfw hus2 hroom hfit
                    have hseg := fun s => seg_get arr.toList us (len * i.size) s (by simpa using hfit)
                    obtain ⟨g1, g2⟩ := hr.regrow (es' := es.take len ++ news.map .d) hL h1 h2 hb (arr' := (arr.toList.take (len * i.size) ++ us ++ arr.toList.drop (len * i.size + us.length)).toArray) (by simp; omega) (by simp; omega) hall' (hlo' h6) (fun s c hs => by
                      have hsplit : AV.flat (es.take len ++ news.map .d) = AV.flat (es.take len) ++ (D.flat news).map .d := by rw [← flat_map_d]; exact List.flatMap_append
                      rw [hsplit] at hs
                      rw [List.getElem?_toArray, hseg s]
                      by_cases hsl : s < (AV.flat (es.take len)).length
                      · rw [List.getElem?_append_left hsl] at hs
                        obtain ⟨u, hu', h1', h2'⟩ := hold s c hs
                        refine ⟨u, ?_, h1', h2'⟩
                        rw [if_pos (by rw [← hsz]; omega)]; simpa using hu'
                      · rw [List.getElem?_append_right (by omega), List.getElem?_map, Option.map_eq_some_iff] at hs
                        obtain ⟨c', hc', rfl⟩ := hs
                        obtain ⟨u, hu', h1', h2'⟩ := hus3 _ c' hc'
                        have hlt := (List.getElem?_eq_some_iff.1 hu').1
                        refine ⟨u, ?_, h2'.oneCell h1', .d h2'⟩
                        rw [if_neg (by rw [← hsz]; omega), if_pos (by rw [← hsz]; omega), ← hsz, ← hfl2]; exact hu')
                    refine ⟨rfl, _, _, _, hrun, g2, g1, ?_, TyOk.non rfl⟩
                    have := Rep.sl (w := w.setRow L.b (arr.toList.take (len * i.size) ++ us ++ arr.toList.drop (len * i.size + us.length)).toArray) k' ((h k').ver + 1) 0 (len + news.length) cc L (Gh.at_same G k' ((h k').ver + 1) L) hcap hroom
                    rw [hz0, h1] at this; exact this
                  · have hfo : (Builtin.firstCells i.size len (.slice (some ⟨L.b, 0, none⟩) len cc)).run P w.drew = .ok (arr.toList.take (len * i.size)).toArray w.drew := by
                      refine run_firstCells_some (P := P) w.drew i.size len ⟨L.b, 0, none⟩ len cc _ ?_ (fun j v hj => ?_)
                      · have : len * i.size ≤ arr.size := by rw [has.1, h1, ← hsz]; exact Nat.mul_le_mul_right _ (by omega)
                        simp; omega
                      · rw [List.getElem?_take] at hj
                        split at hj
                        · rw [add_lit, Nat.zero_add]
                          show w.cell? _ = _
                          simpa [World.cell?, hb] using hj
                        · cases hj
                    have hol : (arr.toList.take (len * i.size)).length = len * P.cellsOf e := by
                      have : len * i.size ≤ arr.size := by rw [has.1, h1, ← hsz]; exact Nat.mul_le_mul_right _ (by omega)
                      rw [hsz]; simp; omega
                    have hrun := run_append_grow' (w := w) t t' ty e i z hu hta hi hiz (some ⟨L.b, 0, none⟩) len cc _ hfo vx news.length us hxl hfd (by omega) hle hby
                    have hge := grownCap_ge w (len + news.length) cc e
                    have harr := growArr len cc _ hol
                    obtain ⟨g1, g2⟩ := hrd.newOb k' (P.cellsOf e) (grownCap w (len + news.length) cc e) (es.take len ++ news.map .d) _ e harr (by rw [List.length_append, List.length_map, htl]; omega) hall' (hlo' h6) (avCellD (arr.toList.take (len * i.size)) (Builtin.zeroCells z.cells (grownCap w (len + news.length) cc e - (len + news.length))) (es.take len) (by rw [hol, htl]) htc (fun s c hs => by
                      obtain ⟨u, hu', h1', h2'⟩ := hold s c hs
                      have hlt := (List.getElem?_eq_some_iff.1 hs).1
                      refine ⟨u, ?_, h1', h2'⟩
                      rw [List.getElem?_take, if_pos (by rw [← hsz]; omega)]; simpa using hu'))
                    refine ⟨rfl, _, _, _, hrun, hex0.trans g2, g1, ?_, TyOk.non rfl⟩
                    have := Rep.sl (w := w.drew.alloc (.cells ((arr.toList.take (len * i.size)).toArray ++ us.toArray ++ Builtin.zeroCells z.cells (grownCap w (len + news.length) cc e - (len + news.length))) e)) k' ((h k').ver + 1) 0 (len + news.length) (grownCap w (len + news.length) cc e) _ (Gh.at_same G k' ((h k').ver + 1) ⟨w.heap.size, P.cellsOf e, grownCap w (len + news.length) cc e, 0, e⟩) (by simp) (by omega)
                    simpa using this
            · cases ho
          · cases ho
        · cases ho
      · cases ho
    · cases ho
  · cases ho
theorem opAppend_ver {obm : Bool} {t : TypeId} {s x : AV} {k : Nat} {out : Out} (ho : opAppend P obm t s x k h = some out) {k' v sz : Nat} {l : List D} (hv : out.val = .vec k' v sz l) : v ≤ (updAll h out.wr k').ver := by
  unfold opAppend at ho
  repeat' split at ho
  all_goals first
    | (cases ho; done)
    | (simp only [Option.some.injEq] at ho; subst ho; simp only at hv; cases hv <;> simp [updAll, upd])
/-- What is written down of a key's block. -/
theorem tagOf_sound (hr : HR G B w0 I0 h w) {k v : Nat} {T : TypeId} {n : Option Nat} (ht : tagOf h k v = some (T, n)) : ∀ L, G.loc k v = some L → L.ty = T ∧ ∀ m, n = some m → L.cap * L.sz = m := by
  unfold tagOf at ht
  split at ht
  · rename_i k' v' T' n' hob
    split at ht
    · rename_i hc
      obtain ⟨rfl, rfl⟩ := hc
      cases ht
      exact (hr.objs _ _ hob).2
    · cases ht
  · cases ht
theorem opAppendT_sound (hr : HR G B w0 I0 h w) {obm : Bool} {t t' ty : TypeId} (hta : appT P t t' = true) {s x : AV} {vs vx : Value} (hs : Rep G w s vs) (hx : Rep G w x vx) {k : Nat} {out : Out} (ho : opAppendT P obm t s x k h = some out) :
    out.ob = [] ∧ ∃ v w' G', (Builtin.append_ #[t, t'] ty #[vs, vx]).run P w = .ok v w' ∧ Ext G w G' w' ∧ HR G' B w0 I0 (updAll h out.wr) w' ∧ Rep G' w' out.val v := by
  unfold opAppendT at ho
  split at ho
  case h_2 => cases ho
  rename_i out1 hout
  obtain ⟨h0, v, w', G', h1, h2, h3, h4, h5⟩ := opAppend_sound hr (ty := ty) hta hs hx hout
  split at ho
  · rename_i e k' v' sz' l' hby hu hval
    split at ho
    · rename_i hc
      simp only [Option.some.injEq] at ho
      subst ho
      rw [(withTag_val ..).1, (withTag_val ..).2]
      refine ⟨h0, v, w', G', h1, h2, ?_, h4⟩
      refine withTag_sound (out := { out1 with rd := k' :: tagK k' :: out1.rd }) h3 true e none k' v' (opAppend_ver hout hval) (fun _ L hL => ⟨?_, fun m hm => by cases hm⟩)
      rcases h5 k' v' sz' l' L hval hL with h6 | ⟨h6, L0, h7, h8⟩
      · rw [hu] at h6; cases h6; rfl
      · rcases hc.2 with h9 | h9
        · rw [h6] at h9; cases h9
        · rw [h8]; exact (tagOf_sound hr h9 L0 h7).1
    · simp only [Option.some.injEq] at ho
      subst ho
      exact ⟨h0, v, w', G', h1, h2, h3, h4⟩
  · simp only [Option.some.injEq] at ho
    subst ho
    exact ⟨h0, v, w', G', h1, h2, h3, h4⟩
end
end Go.Avm
