/-
  The abstract machine, part J: make, cuts, appends.
-/
import Derived.Test.YtkhcaamgjjhpeaaGreatDoorAvmI
set_option linter.unusedSectionVars false
namespace Go.Avm
open Go.RowKit
variable [GlobTab]

section
variable {P : Program} {G : Gh} {B : Nat} {w0 w : World} {I0 : Nat → Nat → Prop} {h : Heap}

theorem wrap_small {n : Int} (h0 : 0 ≤ n) (h1 : n < 9223372036854775808) : IntKind.i64.wrap n = n := by
  unfold IntKind.wrap
  simp [IntKind.bits, IntKind.signed]
  omega

theorem zeroEl_spec {e : TypeId} {zA : AV} (hz : zeroEl P e = some zA) : ∃ z, zeroOf P e = some z ∧ z.cells.size = zA.cells.length ∧ (∀ (i : Nat) (u : Value), z.cells[i]? = some u → u.oneCell' = true) ∧
    ∀ (i : Nat) (c : AV) (u : Value), zA.cells[i]? = some c → z.cells[i]? = some u → Rep G w c u := by
  unfold zeroEl at hz
  split at hz
  · rename_i cs hc
    simp only [Option.map_eq_some_iff] at hz
    obtain ⟨l, hl, rfl⟩ := hz
    obtain ⟨h1, h2, h3⟩ := cstCells_rep (G := G) (w := w) hl
    exact ⟨_, hc, by rw [mkAgg_cells]; exact h1, h2, fun i c u hi hu => h3 i c u (by rwa [mkAgg_cells] at hi) hu⟩
  · rename_i z hn hc
    split at hz
    · rename_i h1
      simp only [Option.some.injEq] at hz
      subst hz
      have hlo : (cst1 z).lone = true := (cst1_rep (G := G) (w := w) z).lone h1
      refine ⟨z, hc, by rw [cells_oneCell h1, AV.cells_lone hlo]; rfl, fun i u hu => ?_, fun i c u hi hu => ?_⟩
      · rw [cells_oneCell h1] at hu
        cases i with
        | zero => simp at hu; subst hu; exact h1
        | succ i => simp at hu
      · rw [cells_oneCell h1] at hu
        rw [AV.cells_lone hlo] at hi
        cases i with
        | zero => simp at hu hi; subst hu; subst hi; exact cst1_rep z
        | succ i => simp at hu
    · cases hz
  · cases hz

theorem info_zero {e : TypeId} {z : Value} (hz : zeroOf P e = some z) : ∃ i, P.info? e = some i ∧ i.zero = some z ∧ P.cellsOf e = i.size ∧ P.bytesOf e = i.bytes := by
  unfold zeroOf at hz
  cases hi : P.info? e with
  | none => simp [hi] at hz
  | some i =>
    simp only [hi, Option.bind_some] at hz
    exact ⟨i, rfl, hz, by simp [Program.cellsOf, hi], by simp [Program.bytesOf, hi]⟩

theorem opMakeSlice_sound (hr : HR G B w0 I0 h w) {t : TypeId} {l c : AV} {vl vc : Value} (hl : Rep G w l vl) (hc : Rep G w c vc) {k : Nat} {out : Out} (ho : opMakeSlice P t l c k h = some out) :
    out.ob = [] ∧ ∃ v w' G', (Instr.makeSlice t vl vc).run P w = .ok v w' ∧ Ext G w G' w' ∧ HR G' B w0 I0 (updAll h out.wr) w' ∧ Rep G' w' out.val v := by
  unfold opMakeSlice at ho
  split at ho
  · rename_i e l c hu
    split at ho
    · rename_i zA hzA
      split at ho
      · rename_i hcnd
        obtain ⟨h0, h1, h2, hby, hzc, hpos, hlo⟩ := hcnd
        simp only [Option.some.injEq] at ho
        subst ho
        obtain ⟨z, hz, hzs, hz1, hzr⟩ := zeroEl_spec (G := G) (w := w) hzA
        obtain ⟨ie, hie, hiz, hsz, hbe⟩ := info_zero hz
        cases hl with
        | d hl =>
          cases hl
          cases hc with
          | d hc =>
            cases hc
            obtain ⟨ln, rfl⟩ := Int.eq_ofNat_of_zero_le h0
            obtain ⟨cn, rfl⟩ := Int.eq_ofNat_of_zero_le (show 0 ≤ c by omega)
            have hwl := wrap_small (n := (ln : Int)) (by omega) (by omega)
            have hwc := wrap_small (n := (cn : Int)) (by omega) (by omega)
            have hb : ¬ (281474976710656 < (ie.bytes : Int) * (cn : Int)) := by
              rw [hbe] at hby
              have h5 : ie.bytes * cn ≤ 256 * 1099511627776 := Nat.mul_le_mul hby (by omega)
              have h6 : ((ie.bytes * cn : Nat) : Int) ≤ 281474976710656 := by omega
              rw [Int.natCast_mul] at h6
              omega
            have hcn0 : ¬ ((cn : Int) < 0) := by omega
            have hln0 : ¬ ((ln : Int) < 0) := by omega
            have hzsz : z.cells.size = P.cellsOf e := by rw [hzs, hzc]
            have hrun : ∃ arr : Array Value, (Instr.makeSlice t (.int .i64 ln) (.int .i64 cn)).run P w = .ok (.slice (some ⟨w.heap.size, 0, none⟩) ln cn) (w.alloc (.cells arr e)) ∧ arr.size = cn * P.cellsOf e ∧
                ∀ i j, i < cn → j < P.cellsOf e → arr[i * P.cellsOf e + j]? = z.cells[j]? := by
              by_cases hcn : cn * P.cellsOf e = 0
              · have hcn0 : cn = 0 := by
                  rcases Nat.mul_eq_zero.1 hcn with h | h
                  · exact h
                  · omega
                subst hcn0
                have hln0 : ln = 0 := by omega
                subst hln0
                refine ⟨#[], ?_, by simp, by omega⟩
                have h9 : Array.map (fun _ : Nat => (default : Value)) (Array.range 0) = #[] := by simp
                have hw0 : IntKind.i64.wrap 0 = 0 := wrap_small (by omega) (by omega)
                simp [Instr.makeSlice, run_underlying hu, asInt, asIntOf, typeInfo, hie, sizeOf, newRow, hw0, h9]
              · refine ⟨(Array.range (cn * P.cellsOf e)).map (fun i => z.cells[i % z.cells.size]!), ?_, by simp, fun i j hi hj => ?_⟩
                · have hcn' : ¬ (cn = 0) := by rintro rfl; simp at hcn
                  have hs0 : ¬ (ie.size = 0) := by omega
                  have hlc : ¬ ((cn : Int) < (ln : Int)) := by omega
                  simp [Instr.makeSlice, run_underlying hu, asInt, asIntOf, typeInfo, hie, sizeOf, newRow, hwl, hwc, hb, hlc, hcn0, hln0, zeroValue, hiz, hcn', hs0, hsz]
                  intro h9; rcases Nat.mul_eq_zero.1 h9 with h9 | h9
                  · exact absurd h9 hcn'
                  · exact absurd h9 hs0
                · have hlt : i * P.cellsOf e + j < cn * P.cellsOf e := by
                    have : (i + 1) * P.cellsOf e ≤ cn * P.cellsOf e := Nat.mul_le_mul_right _ hi
                    rw [Nat.add_mul, Nat.one_mul] at this; omega
                  have hmod : (i * P.cellsOf e + j) % z.cells.size = j := by
                    rw [hzsz, Nat.mul_comm, Nat.mul_add_mod, Nat.mod_eq_of_lt hj]
                  have hj' : j < z.cells.size := by omega
                  rw [Array.getElem?_map, Array.getElem?_range, if_pos hlt, Option.map_some, hmod]
                  simp [hj']
            obtain ⟨arr, hrun, has, hag⟩ := hrun
            have hcellrep : ∀ (s : Nat) (c : AV), (AV.flat (List.replicate ln zA))[s]? = some c → ∃ u : Value, arr[s]? = some u ∧ u.oneCell' = true ∧ Rep G w c u := by
              intro s c hs
              obtain ⟨i, j, e', rfl, hj, he', hc'⟩ := flat_split (sz := P.cellsOf e) (fun x hx => by rw [(List.mem_replicate.1 hx).2]; exact hzc) hs
              have hi : i < ln := by
                have := (List.getElem?_eq_some_iff.1 he').1
                simpa using this
              have he2 : e' = zA := (List.mem_replicate.1 (List.mem_of_getElem? he')).2
              subst he2
              have hj' : j < z.cells.size := by omega
              have hzj : z.cells[j]? = some z.cells[j] := Array.getElem?_eq_getElem hj'
              exact ⟨_, by rw [hag i j (by omega) hj, hzj], hz1 j _ hzj, hzr j c _ hc' hzj⟩
            obtain ⟨g1, g2⟩ := hr.newOb k (P.cellsOf e) cn (List.replicate ln zA) arr e has (by simp; omega) (fun x hx => by rw [(List.mem_replicate.1 hx).2]; exact hzc) (fun h1 x hx => by rw [(List.mem_replicate.1 hx).2]; exact hlo h1) hcellrep
            refine ⟨rfl, _, _, _, hrun, g2, g1, ?_⟩
            have := Rep.sl (w := w.alloc (.cells arr e)) k ((h k).ver + 1) 0 ln cn _ (Gh.at_same G k ((h k).ver + 1) ⟨w.heap.size, P.cellsOf e, cn, 0, e⟩) (by simp) (by omega)
            simpa using this
      · cases ho
    · cases ho
  · cases ho

/-! ### Cuts -/
theorem bound_sound {lo : Option AV} {vlo : Option Value} {dflt n : Nat} (hb : bound lo dflt = some n) (hlo : ∀ x, lo = some x → ∃ v, vlo = some v ∧ Rep G w x v) (hnone : lo = none → vlo = none) :
    (vlo = none ∧ n = dflt) ∨ (∃ k i, vlo = some (.int k i) ∧ 0 ≤ i ∧ i.toNat = n) := by
  unfold bound at hb
  split at hb
  · simp only [Option.some.injEq] at hb
    exact .inl ⟨hnone rfl, hb.symm⟩
  · rename_i k i
    split at hb
    · rename_i h0
      simp only [Option.some.injEq] at hb
      obtain ⟨v, hv, hr⟩ := hlo _ rfl
      cases hr with
      | d hd => cases hd; exact .inr ⟨k, i, hv, h0, hb⟩
    · cases hb
  · cases hb

theorem run_bound {k : IntKind} {i : Int} {y : Nat} {code : BoundsCode} (h0 : 0 ≤ i) (h1 : i.toNat ≤ y) (w : World) : (Instr.sliceBound (.int k i) y code).run P w = .ok i.toNat w := by
  have : 0 ≤ i ∧ i ≤ (y : Int) := ⟨h0, by omega⟩
  simp [Instr.sliceBound, asIntOf, this]

theorem run_sliceBounds {isSlice : Bool} {len cap a b : Nat} {vlo vhi : Option Value} (hlo : (vlo = none ∧ a = 0) ∨ (∃ k i, vlo = some (.int k i) ∧ 0 ≤ i ∧ i.toNat = a)) (hhi : (vhi = none ∧ b = len) ∨ (∃ k i, vhi = some (.int k i) ∧ 0 ≤ i ∧ i.toNat = b))
    (hab : a ≤ b) (hbc : b ≤ cap) (w : World) : (Instr.sliceBounds isSlice len cap vlo vhi none).run P w = .ok (a, b, cap) w := by
  rcases hlo with ⟨rfl, rfl⟩ | ⟨k, i, rfl, hi, rfl⟩ <;> rcases hhi with ⟨rfl, rfl⟩ | ⟨k', i', rfl, hi', rfl⟩
  · simp [Instr.sliceBounds]
  · simp [Instr.sliceBounds, run_bound hi' hbc]
  · simp [Instr.sliceBounds, run_bound hi hab]
  · simp [Instr.sliceBounds, run_bound hi' hbc, run_bound hi hab]

theorem optRep {lo : Option AV} {vlo : Option Value} (hl : ∀ x, lo = some x → ∃ v, vlo = some v ∧ Rep G w x v) (hn : lo = none → vlo = none) : (∀ x, lo = some x → ∃ v, vlo = some v ∧ Rep G w x v) ∧ (lo = none → vlo = none) := ⟨hl, hn⟩

theorem sub_get {l : List D} {a b i : Nat} {y : D} (hy : ((l.take b).drop a)[i]? = some y) : l[a + i]? = some y ∧ a + i < b := by
  rw [List.getElem?_drop, List.getElem?_take] at hy
  split at hy
  · rename_i h; exact ⟨hy, h⟩
  · cases hy

theorem opSlice_sound {t : TypeId} {x : AV} {vx : Value} {lo hi mx : Option AV} {vlo vhi vmx : Option Value} (hx : Rep G w x vx)
    (hlo : ∀ x, lo = some x → ∃ v, vlo = some v ∧ Rep G w x v) (hlo' : lo = none → vlo = none) (hhi : ∀ x, hi = some x → ∃ v, vhi = some v ∧ Rep G w x v) (hhi' : hi = none → vhi = none)
    (hmx : ∀ x, mx = some x → ∃ v, vmx = some v ∧ Rep G w x v) (hmx' : mx = none → vmx = none) {out : Out} (ho : opSlice P t x lo hi mx = some out) :
    out.ob = [] ∧ out.wr = [] ∧ ∃ v, (Instr.sliceAt t vx vlo vhi vmx).run P w = .ok v w ∧ Rep G w out.val v := by
  unfold opSlice at ho
  split at ho
  · rename_i e hu
    split at ho
    · cases ho
    · rename_i hkn
      have hkn : knownT P e = true := by simpa using hkn
      split at ho
      · have hm : vmx = none := hmx' rfl
        subst hm
        have slc : ∀ (l : List D), DRep G.imm w (.ro l) vx → (match bound lo 0, bound hi l.length with
            | some a, some b => if a ≤ b ∧ b ≤ l.length ∧ (a = 0 ∨ l.all (fun y => y.cells.length == P.cellsOf e) = true) then some ({ val := .d (.ro ((l.take b).drop a)) } : Out) else none
            | _, _ => none) = some out → out.ob = [] ∧ out.wr = [] ∧ ∃ v, (Instr.sliceAt t vx vlo vhi none).run P w = .ok v w ∧ Rep G w out.val v := by
          intro l hd hh
          split at hh
          · rename_i a b ha hb
            split at hh
            · rename_i hab
              obtain ⟨hab, hbl, hall⟩ := hab
              simp only [Option.some.injEq] at hh
              subst hh
              have hba := bound_sound ha hlo hlo'
              have hbb := bound_sound hb hhi hhi'
              cases hd with
              | roNil ao c =>
                have hb0 : b = 0 := by simpa using hbl
                subst hb0
                have ha0 : a = 0 := by omega
                subst ha0
                have hrb := run_sliceBounds (P := P) (isSlice := true) (cap := c) hba hbb (by omega) (by omega) w
                have hrb' : (Instr.sliceBounds true 0 c vlo vhi none).run P w = .ok (0, 0, c) w := by simpa using hrb
                refine ⟨rfl, rfl, .slice (if c = 0 then ao else ao.map (·.add (0 * P.cellsOf e))) (0 - 0) (c - 0), ?_, ?_⟩
                · simp [Instr.sliceAt, Instr.slice, run_underlying hu, hrb', known_info hkn]
                · simpa using Rep.d (G := G) (w := w) (.roNil (if c = 0 then ao else ao.map (·.add 0)) c)
              | ro _ b' o c sz U hcap hsz h1 hi' hc hr' =>
                have hrb := run_sliceBounds (P := P) (isSlice := true) (cap := c) hba hbb hab (by omega) w
                have hlen : ((l.take b).drop a).length = b - a := by simp; omega
                refine ⟨rfl, rfl, .slice (if c = a then some ⟨b', o, none⟩ else some ⟨b', o + a * P.cellsOf e, none⟩) (b - a) (c - a), ?_, ?_⟩
                · by_cases hca : c = a
                  · rw [hca] at hrb ⊢
                    simp [Instr.sliceAt, Instr.slice, run_underlying hu, hrb, known_info hkn]
                  · simp [Instr.sliceAt, Instr.slice, run_underlying hu, hrb, known_info hkn, hca, add_lit]
                · by_cases hba0 : b - a = 0
                  · have hnil : (l.take b).drop a = [] := List.eq_nil_of_length_eq_zero (by omega)
                    rw [hnil, hba0]
                    exact .d (.roNil _ _)
                  · rw [if_neg (by omega)]
                    have hmem : ∀ e ∈ (l.take b).drop a, e ∈ l := fun e he => List.mem_of_mem_take (List.mem_of_mem_drop he)
                    have hfl : ∀ (s : Nat) (c : D), (D.flat ((l.take b).drop a))[s]? = some c → (D.flat l)[a * sz + s]? = some c := by
                      intro s c hs
                      obtain ⟨i, j, e', rfl, hj, he', hc'⟩ := flat_split (fun e he => hsz e (hmem e he)) hs
                      obtain ⟨h5, _⟩ := sub_get he'
                      have : a * sz + (i * sz + j) = (a + i) * sz + j := by rw [Nat.add_mul]; omega
                      rw [this, D.flat, flatMap_get _ sz l hsz _ j hj, h5, Option.bind_some, hc']
                    have hszP : a = 0 ∨ sz = P.cellsOf e := by
                      rcases hall with h0 | h0
                      · exact .inl h0
                      · right
                        have hlt : 0 < l.length := by omega
                        have hm0 := List.getElem_mem hlt
                        have h7 := List.all_eq_true.1 h0 _ hm0
                        rw [← hsz _ hm0]
                        simpa using h7
                    have haddr : o + a * P.cellsOf e = o + a * sz := by
                      rcases hszP with rfl | rfl
                      · simp
                      · rfl
                    rw [haddr, ← hlen]
                    refine .d (.ro _ b' (o + a * sz) (c - a) sz (fun s => U (a * sz + s)) (by omega) (fun e he => hsz e (hmem e he)) (fun e he => ?_) ?_ ?_ ?_)
                    · obtain ⟨y, hy, hc'⟩ := List.mem_flatMap.1 he
                      exact h1 e (List.mem_flatMap.2 ⟨y, hmem y hy, hc'⟩)
                    · intro s c hs; have := hi' _ c (hfl s c hs); rwa [← Nat.add_assoc] at this
                    · intro s c hs; have := hc _ c (hfl s c hs); rwa [← Nat.add_assoc] at this
                    · intro s c hs; exact hr' _ c (hfl s c hs)
            · cases hh
          · cases hh
        split at ho
        · exact slc _ hx.toDRep ho
        · rename_i k ver sz l
          refine slc l ?_ ho
          cases hx with
          | vecNil => exact .roNil _ _
          | vec _ _ _ L hL hfr hlen hsz hd => exact hd
        · split at ho
          · rename_i ha hb
            simp only [Option.some.injEq] at ho
            subst ho
            cases hx
            have hrb := run_sliceBounds (P := P) (isSlice := true) (cap := 0) (bound_sound ha hlo hlo') (bound_sound hb hhi hhi') (by omega) (by omega) w
            exact ⟨rfl, rfl, .slice none 0 0, by simp [Instr.sliceAt, Instr.slice, run_underlying hu, hrb, known_info hkn], .nils⟩
          · cases ho
        · rename_i k v off len sz0
          split at ho
          · rename_i a b ha hb
            split at ho
            · rename_i hab
              obtain ⟨rfl, hbl⟩ := hab
              simp only [Option.some.injEq] at ho
              subst ho
              have hba := bound_sound ha hlo hlo'
              have hbb := bound_sound hb hhi hhi'
              cases hx with
              | slNil =>
                have hb0 : b = 0 := by omega
                subst hb0
                have hrb := run_sliceBounds (P := P) (isSlice := true) (cap := 0) hba hbb (by omega) (by omega) w
                exact ⟨rfl, rfl, .slice none 0 0, by simp [Instr.sliceAt, Instr.slice, run_underlying hu, hrb, known_info hkn], .slNil _ _ _⟩
              | sl _ _ _ _ c L hL hcap hlc =>
                have hrb := run_sliceBounds (P := P) (isSlice := true) (cap := c) hba hbb (by omega) (by omega) w
                refine ⟨rfl, rfl, .slice (some ⟨L.b, off * L.sz, none⟩) b c, ?_, .sl k v off b c L hL hcap (by omega)⟩
                by_cases hc0 : c = 0
                · subst hc0
                  simp [Instr.sliceAt, Instr.slice, run_underlying hu, hrb, known_info hkn]
                · simp [Instr.sliceAt, Instr.slice, run_underlying hu, hrb, known_info hkn, hc0, add_lit]
            · cases ho
          · cases ho
        · cases ho
      · rename_i m
        have fin : ∀ (ao : Option Addr) (len cap : Nat), vx = .slice ao len cap → bound lo 0 = some 0 → bound hi 0 = some 0 → bound (some m) 0 = some 0 → ({ val := .es } : Out) = out → hi ≠ none →
            out.ob = [] ∧ out.wr = [] ∧ ∃ v, (Instr.sliceAt t vx vlo vhi vmx).run P w = .ok v w ∧ Rep G w out.val v := by
          rintro ao len cap rfl ha hb hm rfl hne
          have hmb := bound_sound hm hmx hmx'
          have hbb := bound_sound hb hhi hhi'
          have hba := bound_sound ha hlo hlo'
          rcases hmb with ⟨hmn, _⟩ | ⟨km, im, rfl, him, him0⟩
          · obtain ⟨v, hv, _⟩ := hmx _ rfl; rw [hmn] at hv; cases hv
          · rcases hbb with ⟨hbn, _⟩ | ⟨kb, ib, rfl, hib, hib0⟩
            · cases hi with
              | none => exact absurd rfl hne
              | some y => obtain ⟨v, hv, _⟩ := hhi _ rfl; rw [hbn] at hv; cases hv
            · have e1 : ∀ code y, (Instr.sliceBound (.int km im) y code).run P w = .ok 0 w := fun code y => by rw [run_bound him (by omega)]; rw [him0]
              have e2 : ∀ code y, (Instr.sliceBound (.int kb ib) y code).run P w = .ok 0 w := fun code y => by rw [run_bound hib (by omega)]; rw [hib0]
              refine ⟨rfl, rfl, .slice ao 0 0, ?_, .es ao⟩
              rcases hba with ⟨rfl, _⟩ | ⟨ka, ia, rfl, hia, hia0⟩
              · simp [Instr.sliceAt, Instr.slice, run_underlying hu, Instr.sliceBounds, e1, e2, known_info hkn]
              · have e3 : ∀ code y, (Instr.sliceBound (.int ka ia) y code).run P w = .ok 0 w := fun code y => by rw [run_bound hia (by omega)]; rw [hia0]
                simp [Instr.sliceAt, Instr.slice, run_underlying hu, Instr.sliceBounds, e1, e2, e3, known_info hkn]
        split at ho
        · rename_i hb4
          obtain ⟨hb1, hb2, hb3, hb4⟩ := hb4
          have hne : hi ≠ none := by rintro rfl; simp at hb4
          split at ho
          · simp only [Option.some.injEq] at ho
            cases hx with
            | d hd => cases hd <;> exact fin _ _ _ rfl hb1 hb2 hb3 ho hne
          · simp only [Option.some.injEq] at ho
            cases hx <;> exact fin _ _ _ rfl hb1 hb2 hb3 ho hne
          · simp only [Option.some.injEq] at ho
            cases hx <;> exact fin _ _ _ rfl hb1 hb2 hb3 ho hne
          · simp only [Option.some.injEq] at ho
            cases hx; exact fin _ _ _ rfl hb1 hb2 hb3 ho hne
          · cases ho
        · cases ho
  · rename_i hu
    split at ho
    · rename_i s
      have hm : vmx = none := hmx' rfl
      subst hm
      cases hx with
      | d hd =>
        cases hd with
        | str _ sb hsb =>
        subst hsb
        rw [show sb.data.toList.length = sb.size by simp] at ho
        split at ho
        · rename_i a b ha hb
          split at ho
          · rename_i hab
            simp only [Option.some.injEq] at ho
            subst ho
            have hrb := run_sliceBounds (P := P) (isSlice := false) (cap := sb.size) (bound_sound ha hlo hlo') (bound_sound hb hhi hhi') hab.1 hab.2 w
            exact ⟨rfl, rfl, .string (sb.extract a b), by simp [Instr.sliceAt, Instr.slice, run_underlying hu, hrb], .d (.str _ _ (by rw [ByteArray.data_extract, Array.toList_extract, List.extract_eq_take_drop, List.drop_take]))⟩
          · cases ho
        · cases ho
    · cases ho
  · cases ho
end
end Go.Avm
