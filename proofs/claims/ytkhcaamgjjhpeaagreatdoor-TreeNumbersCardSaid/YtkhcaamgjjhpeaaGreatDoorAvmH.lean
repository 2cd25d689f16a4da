/-
  The abstract machine, part H: literals of slices, addresses, numbers, make, cuts, lengths.
-/
import Derived.Test.YtkhcaamgjjhpeaaGreatDoorAvmG
set_option linter.unusedSectionVars false
namespace Go.Avm
open Go.RowKit
variable [GlobTab]

section
variable {P : Program} {G : Gh} {B : Nat} {w0 w : World} {I0 : Nat → Nat → Prop} {h : Heap}

/-! ### Slice literals -/
theorem litParts_spec : ∀ (n : Nat) (parts : List (Nat × AV)) (xs : List AV), litParts n parts = some xs → xs.length = parts.length ∧ ∀ (i : Nat) (p : Nat × AV), parts[i]? = some p → p.1 = n + i ∧ xs[i]? = some p.2
  | n, [], xs, h => by simp [litParts] at h; subst h; simp
  | n, (i, x) :: r, xs, h => by
    simp only [litParts] at h
    split at h
    · rename_i hi
      subst hi
      simp only [Option.map_eq_some_iff] at h
      obtain ⟨ys, hy, rfl⟩ := h
      obtain ⟨hl, hh⟩ := litParts_spec (i + 1) r ys hy
      refine ⟨by simp [hl], fun j p hp => ?_⟩
      cases j with
      | zero => simp only [List.getElem?_cons_zero, Option.some.injEq] at hp; subst hp; simp
      | succ j =>
        simp only [List.getElem?_cons_succ] at hp
        obtain ⟨h1, h2⟩ := hh j p hp
        exact ⟨by omega, by simpa using h2⟩
    · cases h

/-- Filling a row with all its elements, one behind the other. -/
theorem fill_row (sz : Nat) : ∀ (qs : List (Nat × Value)) (n : Nat) (cs : Array Value), (∀ (i : Nat) (q : Nat × Value), qs[i]? = some q → q.1 = n + i ∧ q.2.cells.size = sz) → n * sz + qs.length * sz ≤ cs.size →
    ∃ cs' : Array Value, Instr.fill (fun i => some (i * sz, sz)) cs qs = some cs' ∧ cs'.toList = cs.toList.take (n * sz) ++ qs.flatMap (fun q => q.2.cells.toList) ++ cs.toList.drop (n * sz + qs.length * sz)
  | [], n, cs, _, _ => ⟨cs, rfl, by simp⟩
  | (i, v) :: r, n, cs, hq, hle => by
    obtain ⟨hi, hv⟩ := hq 0 (i, v) rfl
    simp only [Nat.add_zero] at hi hv
    subst hi
    have hle' : i * sz + (r.length + 1) * sz ≤ cs.size := by simpa using hle
    rw [Nat.add_mul, Nat.one_mul] at hle'
    have hseq := set_seq v.cells.toList cs (i * sz) 0 (by simp; omega)
    have hfold : (v.cells.zipIdx.foldl (fun (cs : Array Value) p => cs.setIfInBounds (i * sz + p.2) p.1) cs).toList = cs.toList.take (i * sz) ++ v.cells.toList ++ cs.toList.drop (i * sz + v.cells.size) := by
      rw [← Array.foldl_toList]
      simpa using hseq
    have hsz : (v.cells.zipIdx.foldl (fun (cs : Array Value) p => cs.setIfInBounds (i * sz + p.2) p.1) cs).size = cs.size := by
      rw [← Array.length_toList, hfold]; simp; omega
    obtain ⟨cs', h1, h2⟩ := fill_row sz r (i + 1) (v.cells.zipIdx.foldl (fun (cs : Array Value) p => cs.setIfInBounds (i * sz + p.2) p.1) cs) (fun j q hj => by
      obtain ⟨e1, e2⟩ := hq (j + 1) q (by simpa using hj)
      exact ⟨by omega, e2⟩) (by rw [hsz, Nat.add_mul, Nat.one_mul]; omega)
    refine ⟨cs', ?_, ?_⟩
    · simp only [Instr.fill]
      rw [if_neg (by simp [hv]; omega)]
      exact h1
    · rw [h2, hfold]
      have e1 : (i + 1) * sz = i * sz + sz := by rw [Nat.add_mul, Nat.one_mul]
      have e2 : ((i, v) :: r).length * sz = r.length * sz + sz := by simp [Nat.add_mul]
      have e3 : (cs.toList.take (i * sz) ++ v.cells.toList).length = i * sz + sz := by simp [hv]; omega
      rw [e1, e2, List.take_left' e3, List.drop_append, e3, List.drop_eq_nil_of_le (by rw [e3]; omega)]
      simp only [List.flatMap_cons, List.nil_append, List.drop_drop, List.append_assoc]
      congr 4
      rw [hv]; omega

/-- The elements of a literal: their values, flat. -/
theorem flat_vals {xs : List AV} {vs : List Value} {sz : Nat} (hl : vs.length = xs.length) (hx : ∀ (i : Nat) (x : AV) (v : Value), xs[i]? = some x → vs[i]? = some v → Rep G w x v) (hs : ∀ x ∈ xs, x.stor = true ∧ x.cells.length = sz) :
    (∀ (i : Nat) (v : Value), vs[i]? = some v → v.cells.size = sz) ∧ ∀ (t : Nat) (c : AV), (AV.flat xs)[t]? = some c → ∃ u, (vs.flatMap fun v => v.cells.toList)[t]? = some u ∧ u.oneCell' = true ∧ Rep G w c u := by
  have hvs : ∀ (i : Nat) (v : Value), vs[i]? = some v → v.cells.size = sz := by
    intro i v hv
    have hlt : i < xs.length := by rw [← hl]; exact (List.getElem?_eq_some_iff.1 hv).1
    have hxi : xs[i]? = some xs[i] := List.getElem?_eq_getElem hlt
    obtain ⟨h1, h2⟩ := hs xs[i] (List.getElem_mem hlt)
    rw [((hx i _ v hxi hv).cells h1).1, h2]
  refine ⟨hvs, fun t c ht => ?_⟩
  obtain ⟨i, j, e, rfl, hj, he, hc⟩ := flat_split (fun x hx' => (hs x hx').2) ht
  have hlt : i < vs.length := by rw [hl]; exact (List.getElem?_eq_some_iff.1 he).1
  have hv : vs[i]? = some vs[i] := List.getElem?_eq_getElem hlt
  obtain ⟨h1, h2⟩ := hs e (List.mem_of_getElem? he)
  obtain ⟨e1, e2, e3⟩ := (hx i e _ he hv).cells h1
  have hjl : j < vs[i].cells.size := by rw [e1, h2]; exact hj
  have hu : vs[i].cells[j]? = some vs[i].cells[j] := Array.getElem?_eq_getElem hjl
  refine ⟨_, ?_, e2 _ (by rw [Array.mem_toList_iff]; exact Array.getElem_mem hjl), e3 j c _ hc hu⟩
  rw [flatMap_get (fun v : Value => v.cells.toList) sz vs (fun v hv' => by
    obtain ⟨i', hi'⟩ := List.getElem?_of_mem hv'
    simpa using hvs i' v hi') i j hj, hv, Option.bind_some]
  simp

theorem opBuildSlice_sound (hr : HR G B w0 I0 h w) {obm : Bool} {t : TypeId} {len : Nat} {parts : List (Nat × AV)} {vparts : Array (Nat × Value)} {k : Nat} {out : Out} (ho : opBuildSlice P obm t len parts k h = some out)
    (hl : vparts.size = parts.length) (hp : ∀ (i : Nat) (p : Nat × AV) (q : Nat × Value), parts[i]? = some p → vparts[i]? = some q → p.1 = q.1 ∧ Rep G w p.2 q.2) :
    out.ob = [] ∧ ∃ v w' G', (Instr.buildSlice t len vparts).run P w = .ok v w' ∧ Ext G w G' w' ∧ HR G' B w0 I0 (updAll h out.wr) w' ∧ Rep G' w' out.val v := by
  unfold opBuildSlice at ho
  split at ho
  · rename_i e hu
    split at ho
    · rename_i xs hxs
      split at ho
      · rename_i hc
        obtain ⟨hlen, hsmall, hz, hall⟩ := hc
        obtain ⟨z, hz⟩ := Option.isSome_iff_exists.1 hz
        obtain ⟨hpl, hpi⟩ := litParts_spec 0 parts xs hxs
        have hall' : ∀ x ∈ xs, x.stor = true ∧ x.cells.length = P.cellsOf e := fun x hx => by
          have := List.all_eq_true.1 hall x hx
          simpa using this
        have hvals := flat_vals (G := G) (w := w) (xs := xs) (vs := vparts.toList.map (·.2)) (sz := P.cellsOf e) (by simp [hl, hpl]) (fun i x v hx hv => by
          simp only [List.getElem?_map, Option.map_eq_some_iff] at hv
          obtain ⟨q, hq, rfl⟩ := hv
          have hlt : i < parts.length := by rw [← hpl]; exact (List.getElem?_eq_some_iff.1 hx).1
          have hpe : parts[i]? = some parts[i] := List.getElem?_eq_getElem hlt
          obtain ⟨_, h2⟩ := hpi i _ hpe
          rw [hx] at h2
          simp only [Option.some.injEq] at h2
          subst h2
          exact (hp i _ q hpe (by simpa using hq)).2) hall'
        obtain ⟨hv1, hv2⟩ := hvals
        have hrow : ∀ cs : Array Value, cs.size = len * P.cellsOf e → ∃ cs' : Array Value, Instr.fill (fun i => some (i * P.cellsOf e, P.cellsOf e)) cs vparts.toList = some cs' ∧ cs'.toList = (vparts.toList.map (·.2)).flatMap fun v => v.cells.toList := by
          intro cs hcs
          have hvl : vparts.toList.length = len := by simp [hl, ← hpl, hlen]
          obtain ⟨cs', h1, h2⟩ := fill_row (P.cellsOf e) vparts.toList 0 cs (fun i q hq => by
            have hlt : i < parts.length := by rw [← hl, ← Array.length_toList]; exact (List.getElem?_eq_some_iff.1 hq).1
            have hpe : parts[i]? = some parts[i] := List.getElem?_eq_getElem hlt
            refine ⟨?_, hv1 i q.2 (by simp [hq])⟩
            rw [← (hp i _ q hpe (by simpa using hq)).1, (hpi i _ hpe).1]) (by rw [hvl, hcs]; omega)
          refine ⟨cs', h1, ?_⟩
          rw [h2, hvl]
          simp [hcs, List.flatMap_map]
        have hkn : ∀ w, (sizeOf e).run P w = .ok (P.cellsOf e) w := by
          intro w
          unfold zeroOf at hz
          cases hi : P.info? e with
          | none => simp [hi] at hz
          | some i => simp [sizeOf, typeInfo, hi, Program.cellsOf]
        have hrun : ∃ cs' : Array Value, (Instr.buildSlice t len vparts).run P w = .ok (.slice (some ⟨w.heap.size, 0, none⟩) len len) (w.alloc (.cells cs' e)) ∧ cs'.toList = (vparts.toList.map (·.2)).flatMap fun v => v.cells.toList := by
          have hsm : ¬ (len * P.cellsOf e > 2 ^ 24) := by omega
          by_cases h0 : len * P.cellsOf e = 0
          · obtain ⟨cs', h1, h2⟩ := hrow #[] (by simp [h0])
            refine ⟨cs', ?_, h2⟩
            have h9 : Array.map (fun _ : Nat => (default : Value)) (Array.range 0) = #[] := by simp
            simp [Instr.buildSlice, run_underlying hu, hkn, h0, h9, h1, newRow]
          · obtain ⟨cs', h1, h2⟩ := hrow ((Array.range (len * P.cellsOf e)).map (fun i => z.cells[i % z.cells.size]!)) (by simp)
            refine ⟨cs', ?_, h2⟩
            simp only [Instr.buildSlice, Sem.run_bind, run_underlying hu, hkn, Result.andThen_ok, if_neg hsm, h0, if_false, run_zeroValue' hz, Sem.run_pure, Sem.run_ite, pure_bind]
            simp [h1, newRow]
        obtain ⟨cs', hrun, hcs⟩ := hrun
        have hcsz : cs'.size = len * P.cellsOf e := by
          rw [← Array.length_toList, hcs, flatMap_len (fun v : Value => v.cells.toList) (P.cellsOf e) _ (fun v hv' => by
            obtain ⟨i', hi'⟩ := List.getElem?_of_mem hv'
            simpa using hv1 i' v hi')]
          simp [hl, ← hpl, hlen]
        have hcell : ∀ (t : Nat) (c : AV), (AV.flat xs)[t]? = some c → ∃ u : Value, cs'[t]? = some u ∧ u.oneCell' = true ∧ Rep G w c u := fun t c ht => by
          obtain ⟨u, hu, h1, h2⟩ := hv2 t c ht
          exact ⟨u, by rw [← Array.getElem?_toList, hcs]; exact hu, h1, h2⟩
        split at ho
        · split at ho
          · cases ho
          · rename_i hlo
            simp only [Option.some.injEq] at ho
            subst ho
            obtain ⟨g1, g2⟩ := hr.newOb k (P.cellsOf e) len xs cs' e hcsz (by omega) (fun x hx => (hall' x hx).2) (fun h1 x hx => by
              cases hxa : xs.all AV.lone with
              | true => exact List.all_eq_true.1 hxa x hx
              | false => exact absurd ⟨h1, hxa⟩ hlo) hcell
            refine ⟨rfl, _, _, _, hrun, g2, g1, ?_⟩
            have := Rep.sl (w := w.alloc (.cells cs' e)) k ((h k).ver + 1) 0 len len _ (Gh.at_same G k ((h k).ver + 1) ⟨w.heap.size, P.cellsOf e, len, 0, e⟩) (by simp) (Nat.le_refl _)
            simpa using this
        · split at ho
          · rename_i r hview
            split at ho
            · cases ho
            · rename_i hk
              simp only [Option.some.injEq] at ho
              subst ho
              obtain ⟨ys, ks⟩ := r
              simp only at hk
              -- the objects that the elements lead to are frozen first
              have hr1 := hr.kill ks
              have hex1 := Ext.froz hr ks
              have hgs := go_spec hview
              have hys : ∀ (i : Nat) (y : D), ys[i]? = some y → ∃ x v, xs[i]? = some x ∧ (vparts.toList.map (·.2))[i]? = some v ∧ DRep (immWith G h ks) w y v := by
                intro i y hy
                have hlt : i < xs.length := by rw [← hgs.1]; exact (List.getElem?_eq_some_iff.1 hy).1
                obtain ⟨y', k', hy', hvw, hk'⟩ := hgs.2 i xs[i] (List.getElem?_eq_getElem hlt)
                rw [hy] at hy'
                simp only [Option.some.injEq] at hy'
                subst hy'
                have hltp : i < parts.length := by rw [← hpl]; exact hlt
                have hpe : parts[i]? = some parts[i] := List.getElem?_eq_getElem hltp
                have hltq : i < vparts.size := by rw [hl]; exact hltp
                have hqe : vparts[i]? = some vparts[i] := Array.getElem?_eq_getElem hltq
                have hx2 := (hpi i _ hpe).2
                rw [List.getElem?_eq_getElem hlt] at hx2
                simp only [Option.some.injEq] at hx2
                refine ⟨xs[i], vparts[i].2, List.getElem?_eq_getElem hlt, by simp [hqe], ?_⟩
                have hrp := (hp i _ _ hpe hqe).2
                rw [← hx2] at hrp
                exact (view_sound hr 3 _ _ _ _ hvw hrp).mono (immWith_mono hk') (fun _ _ _ => rfl)
              have hyc : ∀ y ∈ ys, y.cells.length = P.cellsOf e := by
                intro y hy
                obtain ⟨i, hi⟩ := List.getElem?_of_mem hy
                obtain ⟨x, v, hx, hv, hd⟩ := hys i y hi
                rw [hd.cells.1, hv1 i v hv]
              have hnew := hr1.newVec k (P.cellsOf e) len ys cs' e hcsz (by rw [hgs.1]; omega) hyc (fun t c ht => by
                obtain ⟨i, j, y, rfl, hj, hy, hc⟩ := flat_split hyc ht
                obtain ⟨x, v, hx, hv, hd⟩ := hys i y hy
                obtain ⟨d1, d2, d3⟩ := hd.cells
                have hjl : j < v.cells.size := by rw [hv1 i v hv]; exact hj
                have hu' : v.cells[j]? = some v.cells[j] := Array.getElem?_eq_getElem hjl
                refine ⟨_, ?_, d2 c (List.mem_of_getElem? hc), d3 j c _ hc hu'⟩
                rw [← Array.getElem?_toList, hcs, flatMap_get (fun v : Value => v.cells.toList) (P.cellsOf e) _ (fun v hv' => by
                  obtain ⟨i', hi'⟩ := List.getElem?_of_mem hv'
                  simpa using hv1 i' v hi') i j hj, hv, Option.bind_some]
                simp)
              obtain ⟨G', g1, g2, g3⟩ := hnew
              have hheap : updAll h (kill h ks) k = h k := by rw [updAll_kill, if_neg hk]
              rw [hheap] at g1 g3
              refine ⟨rfl, _, _, G', hrun, hex1.trans g2, ?_, ?_⟩
              · have : updAll h ((k, ⟨(h k).ver + 1, none⟩) :: kill h ks) = upd (updAll h (kill h ks)) k ⟨(h k).ver + 1, none⟩ := by
                  funext s
                  simp only [updAll]
                  rw [updAll_kill]
                  by_cases hsk : s = k
                  · subst hsk; simp [hk, upd]
                  · rw [upd_ne _ _ hsk, upd_ne _ _ hsk, updAll_kill]
                rw [this]; exact g1
              · have hyl : ys.length = len := by rw [hgs.1, hlen]
                rw [hyl] at g3
                exact g3
          · cases ho
      · cases ho
    · cases ho
  · cases ho

/-! ### Addresses -/
theorem opIndexAddr_sound (hr : HR G B w0 I0 h w) {t : TypeId} {x ix : AV} {vx vi : Value} (hx : Rep G w x vx) (hi : Rep G w ix vi) {out : Out} (ho : opIndexAddr P t x ix h = some out) :
    out.ob = [] ∧ out.wr = [] ∧ ∃ v, (Instr.indexAt t vx vi).run P w = .ok v w ∧ Rep G w out.val v := by
  unfold opIndexAddr at ho
  split at ho
  · rename_i e kd i hu
    cases hi with
    | d hid =>
      cases hid
      have slc : ∀ (l : List D), DRep G.imm w (.ro l) vx → (if 0 ≤ i then match l[i.toNat]? with
          | some y => if y.cells.length = P.cellsOf e ∧ knownT P e = true then some ({ val := .d (.rp y.cells) } : Out) else none
          | none => none else none) = some out → out.ob = [] ∧ out.wr = [] ∧ ∃ v, (Instr.indexAt t vx (.int kd i)).run P w = .ok v w ∧ Rep G w out.val v := by
        intro l hd hh
        split at hh
        · rename_i h0
          split at hh
          · rename_i y hy
            split at hh
            · rename_i hc
              obtain ⟨hcl, hkn⟩ := hc
              simp only [Option.some.injEq] at hh
              subst hh
              have hlt := (List.getElem?_eq_some_iff.1 hy).1
              cases hd with
              | roNil => simp at hlt
              | ro _ b o c sz U hcap hsz h1 hi hc hr' =>
                have hsze := hsz y (List.mem_of_getElem? hy)
                have hse : sz = P.cellsOf e := by rw [← hsze, hcl]
                refine ⟨rfl, rfl, .pointer (some ⟨b, o + i.toNat * sz, none⟩), ?_, .d (.rp y.cells b (o + i.toNat * sz) (fun j => U (i.toNat * sz + j)) (fun c hc' => ?_) ?_ ?_ ?_)⟩
                · have hilt : i < (l.length : Int) := by omega
                  simp [Instr.indexAt, asIntOf, run_underlying hu, h0, hilt, known_info hkn, add_lit, hse]
                · exact h1 c (List.mem_flatMap.2 ⟨y, List.mem_of_getElem? hy, hc'⟩)
                all_goals
                  intro j c hj
                  have hjl : j < sz := by rw [← hsze]; exact (List.getElem?_eq_some_iff.1 hj).1
                  have hfl : (D.flat l)[i.toNat * sz + j]? = some c := by rw [D.flat, flatMap_get _ sz l hsz _ j hjl, hy, Option.bind_some, hj]
                · have := hi _ c hfl; rwa [← Nat.add_assoc] at this
                · have := hc _ c hfl; rwa [← Nat.add_assoc] at this
                · exact hr' _ c hfl
            · cases hh
          · cases hh
        · cases hh
      split at ho
      · exact slc _ hx.toDRep ho
      · rename_i k ver sz l
        refine slc l ?_ ho
        cases hx with
        | vecNil => exact .roNil _ _
        | vec _ _ _ L hL hfr hlen hsz hd => exact hd
      · rename_i k v off len sz
        split at ho
        · rename_i hc
          obtain ⟨hse, hkn, h0, hilt⟩ := hc
          simp only [Option.some.injEq] at ho
          subst ho
          cases hx with
          | slNil => omega
          | sl _ _ _ _ c L hL hcap hlc =>
            refine ⟨rfl, rfl, .pointer (some ⟨L.b, (off + i.toNat) * L.sz + 0, none⟩), ?_, .ptr k _ _ 0 L hL⟩
            have hilt' : i < (len : Int) := by omega
            have : off * L.sz + i.toNat * P.cellsOf e = (off + i.toNat) * L.sz := by rw [Nat.add_mul, hse]
            simp [Instr.indexAt, asIntOf, run_underlying hu, h0, hilt', known_info hkn, add_lit, this]
        · cases ho
      · cases ho
  · rename_i n e kd i hu
    cases hi with
    | d hid =>
      cases hid
      split at ho
      · rename_i k v j off sz
        split at ho
        · rename_i hc
          obtain ⟨hes, rfl, hkn, h0, hilt⟩ := hc
          simp only [Option.some.injEq] at ho
          subst ho
          cases hx with
          | ptr _ _ _ _ L hL =>
            have hilt' : i < (n : Int) := by omega
            refine ⟨rfl, rfl, .pointer (some ⟨L.b, (j + i.toNat * P.cellsOf e) * L.sz + 0, none⟩), ?_, .ptr k _ _ 0 L hL⟩
            have : j * L.sz + i.toNat * P.cellsOf e = (j + i.toNat * P.cellsOf e) * L.sz := by rw [hes]; omega
            simp [Instr.indexAt, asIntOf, Instr.sureAddr, run_underlying hu, h0, hilt', known_info hkn, add_lit, this]
        · cases ho
      · rename_i cs
        split at ho
        · rename_i hc
          obtain ⟨hkn, h0, hilt⟩ := hc
          simp only [Option.some.injEq] at ho
          subst ho
          cases hx with
          | d hd =>
            cases hd with
            | rp _ b o U h1 hi hc hr' =>
              have hilt' : i < (n : Int) := by omega
              refine ⟨rfl, rfl, .pointer (some ⟨b, o + i.toNat * P.cellsOf e, none⟩), ?_, .d (.rp _ b _ (fun s => U (i.toNat * P.cellsOf e + s)) (fun c hc' => h1 c (List.mem_of_mem_drop hc')) ?_ ?_ ?_)⟩
              · simp [Instr.indexAt, asIntOf, Instr.sureAddr, run_underlying hu, h0, hilt', known_info hkn, add_lit]
              all_goals
                intro s c hs
                rw [List.getElem?_drop] at hs
              · have := hi _ c hs; rwa [← Nat.add_assoc] at this
              · have := hc _ c hs; rwa [← Nat.add_assoc] at this
              · exact hr' _ c hs
        · cases ho
      · cases ho
  · cases ho
end
end Go.Avm
