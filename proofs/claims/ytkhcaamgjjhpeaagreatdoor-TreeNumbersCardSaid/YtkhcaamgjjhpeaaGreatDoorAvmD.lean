/-
  The abstract machine, part D: each operation of the model does what the evaluator says.
-/
import Derived.Test.YtkhcaamgjjhpeaaGreatDoorAvmC
set_option linter.unusedSectionVars false
namespace Go.Avm
open Go.RowKit
variable [GlobTab]

section
variable {P : Program} {G : Gh} {B : Nat} {w0 w : World} {I0 : Nat → Nat → Prop} {h : Heap}

theorem Rep.lone {x : AV} {v : Value} (hr : Rep G w x v) (h1 : v.oneCell' = true) : x.lone = true := by
  cases hr with
  | d h => cases h <;> first | rfl | (simp [Value.oneCell'] at h1)
  | agg => simp [Value.oneCell'] at h1
  | _ => rfl

theorem cst1_rep (v : Value) : Rep G w (cst1 v) v := by
  unfold cst1
  split <;> first | exact .d (.bool _) | exact .d (.int _ _) | exact .d (.str _ _ rfl) | exact .d .nilp | exact .d .nili | exact .nils | exact .junk _

theorem cstCells_rep {cs : Array Value} {l : List AV} (hc : cstCells cs = some l) : cs.size = l.length ∧ (∀ (i : Nat) (u : Value), cs[i]? = some u → u.oneCell' = true) ∧
    ∀ (i : Nat) (c : AV) (u : Value), l[i]? = some c → cs[i]? = some u → Rep G w c u := by
  unfold cstCells at hc
  split at hc
  · rename_i hall
    simp only [Option.some.injEq] at hc
    subst hc
    refine ⟨by simp, fun i u hu => ?_, fun i c u hc hu => ?_⟩
    · have := List.all_eq_true.1 hall u (by rw [Array.mem_toList_iff]; exact Array.mem_of_getElem? hu)
      exact this
    · simp only [List.getElem?_map, Array.getElem?_toList, hu, Option.map_some, Option.some.injEq] at hc
      subst hc
      exact cst1_rep u
  · cases hc

theorem allD_some : ∀ {cs : List AV} {ds : List D}, allD cs = some ds → cs = ds.map .d ∧ ∀ c ∈ ds, c.one = true
  | [], ds, h => by simp only [allD, Option.some.injEq] at h; subst h; simp
  | .d x :: r, ds, h => by
    simp only [allD] at h
    split at h
    · rename_i hx
      simp only [Option.map_eq_some_iff] at h
      obtain ⟨ds', h', rfl⟩ := h
      obtain ⟨e, h1⟩ := allD_some h'
      refine ⟨by simp [e], fun c hc => ?_⟩
      rcases List.mem_cons.1 hc with rfl | hc
      · exact hx
      · exact h1 c hc
    · cases h
  | .junk :: _, _, h => by simp [allD] at h
  | .nils :: _, _, h => by simp [allD] at h
  | .es :: _, _, h => by simp [allD] at h
  | .vec _ _ _ _ :: _, _, h => by simp [allD] at h
  | .sl _ _ _ _ _ :: _, _, h => by simp [allD] at h
  | .ptr _ _ _ _ _ :: _, _, h => by simp [allD] at h
  | .agg _ :: _, _, h => by simp [allD] at h
  | .tup _ :: _, _, h => by simp [allD] at h
  | .fn _ _ :: _, _, h => by simp [allD] at h

theorem Rep.toDRep {x : D} {v : Value} (hr : Rep G w (.d x) v) : DRep G.imm w x v := by cases hr with | d h => exact h

theorem mkAgg_rep {cs : List AV} {vs : Array Value} (hl : vs.size = cs.length) (h1 : ∀ (i : Nat) (u : Value), vs[i]? = some u → u.oneCell' = true)
    (hr : ∀ (i : Nat) (c : AV) (u : Value), cs[i]? = some c → vs[i]? = some u → Rep G w c u) : Rep G w (mkAgg cs) (.agg vs) := by
  unfold mkAgg
  split
  · rename_i ds hds
    obtain ⟨rfl, ho⟩ := allD_some hds
    refine .d (.agg ds vs (by simpa using hl) ho (fun i c u hc hu => ?_))
    exact (hr i (.d c) u (by simp [hc]) hu).toDRep
  · exact .agg cs vs hl h1 hr

theorem mkAgg_cells {cs : List AV} : (mkAgg cs).cells = cs := by
  unfold mkAgg
  split
  · rename_i ds hds
    obtain ⟨rfl, _⟩ := allD_some hds
    rfl
  · rfl

theorem cst_rep (v : Value) : Rep G w (cst v) v := by
  cases v with
  | agg cs =>
    simp only [cst]
    split
    · rename_i l hl
      obtain ⟨h1, h2, h3⟩ := cstCells_rep (G := G) (w := w) hl
      exact mkAgg_rep h1 h2 h3
    · exact .junk _
  | _ => simp only [cst]; exact cst1_rep _

/-- The frame. -/
structure FR (G : Gh) (w : World) (N : Nat) (D : List Deferred) (env : Nat → AV) (a : Act) : Prop where
  size : a.tmps.size = N
  nod : a.defers = D
  rep : ∀ t, t < N → Rep G w (env t) (a.tmps.getD t undef)
  out : ∀ t, N ≤ t → env t = .junk

theorem FR.opd {N : Nat} {D : List Deferred} {env : Nat → AV} {a : Act} (hf : FR G w N D env a) (hg : Globs G.imm w) (x : Operand) : Rep G w (opd env x) (a.eval x) := by
  cases x with
  | tmp t =>
    by_cases ht : t < N
    · exact hf.rep t ht
    · have he : Go.Avm.opd env (.tmp t) = .junk := hf.out t (Nat.le_of_not_lt ht)
      rw [he]; exact .junk _
  | const v => exact cst_rep v
  | global g =>
    simp only [Go.Avm.opd]
    split
    · rename_i cs hc; exact .d (hg g cs hc)
    · exact .junk _
  | func f => exact .fn f [] #[] rfl (fun i c u hc _ => by simp at hc)

theorem FR.mono {N : Nat} {D : List Deferred} {env : Nat → AV} {a : Act} {G' : Gh} {w' : World} (hf : FR G w N D env a) (e : Ext G w G' w') : FR G' w' N D env a :=
  ⟨hf.size, hf.nod, fun t ht => (hf.rep t ht).mono e, hf.out⟩

theorem FR.put {N : Nat} {D : List Deferred} {env env' : Nat → AV} {a : Act} (hf : FR G w N D env a) {dst : Option Nat} {x : AV} {v : Value} (hp : putA N env dst x = some env') (hr : Rep G w x v) : FR G w N D env' (a.put dst v) := by
  cases dst with
  | none => simp only [putA, Option.some.injEq] at hp; subst hp; exact hf
  | some d =>
    simp only [putA] at hp
    split at hp
    · rename_i hd
      simp only [Option.some.injEq] at hp
      subst hp
      refine ⟨by simp [Act.put, hf.size], hf.nod, fun t ht => ?_, fun t ht => ?_⟩
      · simp only [Act.put, Array.getD_eq_getD_getElem?, Array.getElem?_setIfInBounds]
        by_cases htd : d = t
        · subst htd
          simp only [upd_same, if_true, hf.size, hd, Option.getD_some]; exact hr
        · rw [if_neg htd, upd_ne _ _ (fun e => htd e.symm)]
          have := hf.rep t ht
          rwa [Array.getD_eq_getD_getElem?] at this
      · rw [upd_ne _ _ (by omega)]; exact hf.out t ht
    · cases hp

/-- What an operation comes to. -/
def Good (P : Program) (B : Nat) (w0 : World) (I0 : Nat → Nat → Prop) (G : Gh) (h : Heap) (w : World) (r : Result Next) (out : Out) : Prop :=
  ∃ v w' G', (r = .ok (.value v) w' ∨ (r = .ok .skip w' ∧ v = undef)) ∧ Ext G w G' w' ∧ HR G' B w0 I0 (updAll h out.wr) w' ∧ Rep G' w' out.val v

theorem Good.pure (hr : HR G B w0 I0 h w) {v : Value} {r : Result Next} {out : Out} (e : r = .ok (.value v) w) (hw : out.wr = []) (hv : Rep G w out.val v) : Good P B w0 I0 G h w r out :=
  ⟨v, w, G, .inl e, Ext.refl G w, by rw [hw]; exact hr, hv⟩

/-! ### Types -/
theorem info_of_underlying {t : TypeId} {d : TypeDesc} (hu : P.underlying t = some d) : ∃ i, P.info? t = some i := by
  unfold Program.underlying at hu
  split at hu <;> simp_all
theorem run_sizeOf' {t : TypeId} {d : TypeDesc} (hu : P.underlying t = some d) (w : World) : (sizeOf t).run P w = .ok (P.cellsOf t) w := by
  obtain ⟨i, hi⟩ := info_of_underlying hu
  simp [sizeOf, typeInfo, hi, Program.cellsOf]
theorem run_isAgg' {t : TypeId} {b : Bool} (ha : aggT P t = some b) (w : World) : (isAgg t).run P w = .ok b w := by
  simp only [aggT, Option.map_eq_some_iff] at ha
  obtain ⟨d, hd, rfl⟩ := ha
  simp only [isAgg, Sem.run_bind, run_underlying hd, Result.andThen_ok]
  cases d <;> rfl
theorem aggT_und {t : TypeId} {b : Bool} (ha : aggT P t = some b) : ∃ d, P.underlying t = some d := by
  simp only [aggT, Option.map_eq_some_iff] at ha
  obtain ⟨d, hd, _⟩ := ha
  exact ⟨d, hd⟩
theorem run_zeroValue' {t : TypeId} {z : Value} (hz : zeroOf P t = some z) (w : World) : (zeroValue t).run P w = .ok z w := by
  unfold zeroOf at hz
  cases hi : P.info? t with
  | none => simp [hi] at hz
  | some i =>
    simp only [hi, Option.bind_some] at hz
    simp [zeroValue, typeInfo, hi, hz]

theorem add_lit (b o n : Nat) : (⟨b, o, none⟩ : Addr).add n = ⟨b, o + n, none⟩ := by unfold Addr.add; split <;> simp_all

/-! ### What a pointer leads to -/
theorem cellsAt_sound (hr : HR G B w0 I0 h w) {a : AV} {va : Value} (ha : Rep G w a va) {n : Nat} {cs : List AV} {ks : List Nat} (hc : cellsAt h a n = some (cs, ks)) :
    ∃ b o, va = .pointer (some ⟨b, o, none⟩) ∧ cs.length = n ∧ ∀ (j : Nat) (c : AV), cs[j]? = some c → ∃ u, w.cell? ⟨b, o + j, none⟩ = some u ∧ u.oneCell' = true ∧ Rep G w c u := by
  unfold cellsAt at hc
  split at hc
  · rename_i ds
    split at hc
    · rename_i hn
      simp only [Option.some.injEq, Prod.mk.injEq] at hc
      obtain ⟨rfl, rfl⟩ := hc
      cases ha with
      | d hd =>
        cases hd with
        | rp _ b o U h1 hi hc hr' =>
          refine ⟨b, o, rfl, by simp; omega, fun j c hj => ?_⟩
          simp only [List.getElem?_map, Option.map_eq_some_iff] at hj
          obtain ⟨y, hy, rfl⟩ := hj
          have hy' : ds[j]? = some y := by
            rw [List.getElem?_take] at hy
            split at hy
            · exact hy
            · cases hy
          have := hr' j y hy'
          exact ⟨U j, hc j y hy', this.oneCell (h1 y (List.mem_of_getElem? hy')), .d this⟩
    · cases hc
  · rename_i k v i off sz0
    split at hc
    · rename_i sz es hob
      split at hc
      · rename_i hv
        subst hv
        cases ha with
        | ptr _ _ _ _ L hL =>
          have hobr := hr.objs k _ hob
          split at hc
          · rename_i hsz
            subst hsz
            split at hc
            · rename_i hin
              obtain ⟨rfl, hin⟩ := hin
              simp only [Option.some.injEq, Prod.mk.injEq] at hc
              obtain ⟨rfl, rfl⟩ := hc
              refine ⟨L.b, i * L.sz + 0, rfl, by simp; omega, fun j c hj => ?_⟩
              rw [List.getElem?_take] at hj
              split at hj
              · rename_i hjn
                rw [List.getElem?_drop] at hj
                rcases hobr with ⟨rfl, hLn⟩ | ⟨L', hL', h1, h2, h3, h4, h6, h5⟩
                · simp at hj
                · rw [hL] at hL'
                  simp only [Option.some.injEq] at hL'
                  subst hL'
                  have hlone := h6 rfl c (List.mem_of_getElem? hj)
                  have hfl : (AV.flat es)[(i + j) * 1 + 0]? = some c := by
                    rw [AV.flat, flatMap_get _ 1 es h4 (i + j) 0 (by omega), hj, Option.bind_some, AV.cells_lone hlone]
                    rfl
                  obtain ⟨u, hu, hu1, hur⟩ := h5 _ c hfl
                  refine ⟨u, ?_, hu1, hur⟩
                  rw [← hu, h1]
                  congr 2; omega
              · cases hj
            · cases hc
          · split at hc
            · rename_i e he
              split at hc
              · rename_i hoff
                simp only [Option.some.injEq, Prod.mk.injEq] at hc
                obtain ⟨rfl, rfl⟩ := hc
                rcases hobr with ⟨rfl, hLn⟩ | ⟨L', hL', h1, h2, h3, h4, h6, h5⟩
                · simp at he
                · rw [hL] at hL'
                  simp only [Option.some.injEq] at hL'
                  subst hL'
                  have hel := h4 e (List.mem_of_getElem? he)
                  refine ⟨L.b, i * L.sz + off, rfl, by simp; omega, fun j c hj => ?_⟩
                  rw [List.getElem?_take] at hj
                  split at hj
                  · rename_i hjn
                    rw [List.getElem?_drop] at hj
                    have hfl : (AV.flat es)[i * sz + (off + j)]? = some c := by
                      rw [AV.flat, flatMap_get _ sz es h4 i (off + j) (by omega), he, Option.bind_some, hj]
                    obtain ⟨u, hu, hu1, hur⟩ := h5 _ c hfl
                    refine ⟨u, ?_, hu1, hur⟩
                    rw [← hu, h1]
                    congr 2; omega
                  · cases hj
              · cases hc
            · cases hc
      · cases hc
    · cases hc
  · cases hc

theorem exists_list {α : Type} {p : Nat → α → Prop} : ∀ (n : Nat), (∀ i, i < n → ∃ x, p i x) → ∃ l : List α, l.length = n ∧ ∀ (i : Nat) (x : α), l[i]? = some x → p i x
  | 0, _ => ⟨[], rfl, by simp⟩
  | n + 1, hp => by
    obtain ⟨l, hl, hx⟩ := exists_list n (fun i hi => hp i (by omega))
    obtain ⟨x, hpx⟩ := hp n (by omega)
    refine ⟨l ++ [x], by simp [hl], fun i y hy => ?_⟩
    rw [List.getElem?_append] at hy
    split at hy
    · exact hx i y hy
    · rename_i hlt
      have : i = n := by
        have := (List.getElem?_eq_some_iff.1 hy).1
        simp at this; omega
      subst this
      simp [hl] at hy
      subst hy; exact hpx

/-- Cells loaded, as they are told. -/
theorem cells_list {cs : List AV} {b o : Nat} (hx : ∀ (j : Nat) (c : AV), cs[j]? = some c → ∃ u, w.cell? ⟨b, o + j, none⟩ = some u ∧ u.oneCell' = true ∧ Rep G w c u) :
    ∃ us : List Value, us.length = cs.length ∧ (∀ (j : Nat) (u : Value), us[j]? = some u → w.cell? ⟨b, o + j, none⟩ = some u ∧ u.oneCell' = true) ∧
      (∀ (j : Nat) (c : AV) (u : Value), cs[j]? = some c → us[j]? = some u → Rep G w c u) ∧ (loadCells ⟨b, o, none⟩ cs.length).run P w = .ok us.toArray w := by
  obtain ⟨us, hl, hu⟩ := exists_list (p := fun j u => w.cell? ⟨b, o + j, none⟩ = some u ∧ u.oneCell' = true ∧ ∀ c, cs[j]? = some c → Rep G w c u) cs.length (fun j hj => by
    obtain ⟨u, h1, h2, h3⟩ := hx j cs[j] (List.getElem?_eq_getElem hj)
    exact ⟨u, h1, h2, fun c hc => by rw [List.getElem?_eq_getElem hj] at hc; simp at hc; subst hc; exact h3⟩)
  refine ⟨us, hl, fun j u h => ⟨(hu j u h).1, (hu j u h).2.1⟩, fun j c u hc h => (hu j u h).2.2 c hc, ?_⟩
  rw [← hl]
  exact run_loadCells_list w ⟨b, o, none⟩ us (fun j u h => by rw [add_lit]; exact (hu j u h).1)

theorem opLoad_sound (hr : HR G B w0 I0 h w) {t : TypeId} {a : AV} {va : Value} (ha : Rep G w a va) {out : Out} (ho : opLoad P t a h = some out) :
    ∃ v, (Instr.loadAt t va).run P w = .ok v w ∧ out.wr = [] ∧ out.ob = [] ∧ Rep G w out.val v := by
  unfold opLoad at ho
  split at ho
  · rename_i hagg
    simp only [Option.map_eq_some_iff] at ho
    obtain ⟨⟨cs, ks⟩, hc, rfl⟩ := ho
    obtain ⟨b, o, rfl, hl, hx⟩ := cellsAt_sound hr ha hc
    obtain ⟨us, hul, hu1, hur, hload⟩ := cells_list (P := P) hx
    obtain ⟨d, hd⟩ := aggT_und hagg
    refine ⟨.agg us.toArray, ?_, rfl, rfl, mkAgg_rep (by simpa using hul) (fun i u hu => (hu1 i u (by simpa using hu)).2) (fun i c u hc' hu => hur i c u hc' (by simpa using hu))⟩
    rw [hl] at hload
    simp [Instr.loadAt, Instr.sureAddr, loadVar, run_isAgg' hagg, run_sizeOf' hd, hload]
  · rename_i hagg
    have hrun : ∀ (b o : Nat) (u : Value), va = .pointer (some ⟨b, o, none⟩) → w.cell? ⟨b, o, none⟩ = some u → (Instr.loadAt t va).run P w = .ok u w := by
      rintro b o u rfl hu
      simp [Instr.loadAt, Instr.sureAddr, loadVar, run_isAgg' hagg, hu]
    split at ho
    · rename_i c cs
      simp only [Option.some.injEq] at ho
      subst ho
      cases ha with
      | d hd =>
        cases hd with
        | rp _ b o U h1 hi hc hr' =>
          exact ⟨U 0, hrun b o _ rfl (hc 0 c rfl), rfl, rfl, .d (hr' 0 c rfl)⟩
    · rename_i k v i off sz0
      split at ho
      · rename_i sz es hob
        split at ho
        · rename_i hv
          subst hv
          have hcell : ∀ (c : AV), (sz = 1 ∧ off = 0 ∧ es[i]? = some c) ∨ (sz ≠ 1 ∧ ∃ e, es[i]? = some e ∧ e.cells[off]? = some c) → ∃ v, (Instr.loadAt t va).run P w = .ok v w ∧ Rep G w c v := by
            intro c hcase
            cases ha with
            | ptr _ _ _ _ L hL =>
              rcases hr.objs k _ hob with ⟨rfl, hLn⟩ | ⟨L', hL', h1, h2, h3, h4, h6, h5⟩
              · rcases hcase with ⟨_, _, hcase⟩ | ⟨_, e, hcase, _⟩ <;> simp at hcase
              · rw [hL] at hL'
                simp only [Option.some.injEq] at hL'
                subst hL'
                have hfl : (AV.flat es)[i * sz + off]? = some c := by
                  rcases hcase with ⟨rfl, rfl, he⟩ | ⟨_, e, he, hc⟩
                  · rw [AV.flat, flatMap_get _ 1 es h4 i 0 (by omega), he, Option.bind_some, AV.cells_lone (h6 rfl c (List.mem_of_getElem? he))]; rfl
                  · have hlt := (List.getElem?_eq_some_iff.1 hc).1
                    rw [h4 e (List.mem_of_getElem? he)] at hlt
                    rw [AV.flat, flatMap_get _ sz es h4 i off hlt, he, Option.bind_some, hc]
                obtain ⟨u, hu, _, hur⟩ := h5 _ c hfl
                exact ⟨u, hrun L.b (i * L.sz + off) u rfl (by rw [h1]; exact hu), hur⟩
          split at ho
          · split at ho
            · rename_i hs hoff
              simp only [Option.map_eq_some_iff] at ho
              obtain ⟨x, hx, rfl⟩ := ho
              obtain ⟨v, h1, h2⟩ := hcell x (.inl ⟨hs, hoff, hx⟩)
              exact ⟨v, h1, rfl, rfl, h2⟩
            · cases ho
          · split at ho
            · rename_i hs _ e he
              simp only [Option.map_eq_some_iff] at ho
              obtain ⟨x, hx, rfl⟩ := ho
              obtain ⟨v, h1, h2⟩ := hcell x (.inr ⟨hs, e, he, hx⟩)
              exact ⟨v, h1, rfl, rfl, h2⟩
            · cases ho
        · cases ho
      · cases ho
    · cases ho
  · cases ho
end
end Go.Avm
