/-
  What the laws' texts say of package variables, for the abstract machine: the table of blanks, and that strconv.ErrRange is an error.
-/
import Derived.Test.YtkhcaamgjjhpeaaGreatDoorRows
import Derived.Test.YtkhcaamgjjhpeaaGreatDoorTlOne
import Derived.Laws.StandIn
import Derived.LaidMore
import Derived.LaidSub
import Derived.Lay
import Derived.MakeChecks
import Derived.ChangeMaps5
import Derived.Lib.LaidTab
import Derived.Stop.LaidErr
import Derived.ChangeSlices
import Derived.OpenShut
import Derived.Deep.Slices
set_option linter.unusedSectionVars false
namespace Go.Avm
open Go.ChangeShapes Go.WideShapes Go.ChangeAt Go.RowKit Go.ChangeMaps Go.Proofs Go.Proofs.YtkhcaamgjjhpeaaGreatDoor

def zs : List Int := (List.range 256).map fun n => if n = 9 ∨ n = 10 ∨ n = 11 ∨ n = 12 ∨ n = 13 ∨ n = 32 then 1 else 0
theorem tab_zs : asciiTab = zs.map fun z => .int .u8 z := by
  unfold asciiTab zs
  rw [List.map_map]
  rfl
theorem gTab : Tryz.prog.globalNamed "strings.asciiSpace" = some 0 := by kernel_rfl
theorem gTabType : (Tryz.prog.globals[0]?).map (·.type) = some 155 := by kernel_rfl
theorem gEr : Tryz.prog.globalNamed "strconv.ErrRange" = some 4 := by kernel_rfl
theorem gErType : (Tryz.prog.globals[4]?).map (·.type) = some 125 := by kernel_rfl
theorem cells131 : Tryz.prog.cellsOf 220 = 1 := by kernel_rfl
theorem cells9 : Tryz.prog.cellsOf 9 = 1 := by kernel_rfl
theorem star : "*" ++ "errors.errorString" = "*errors.errorString" := by decide
theorem row129 (u : TypeId) (h : Tryz.prog.typeName? 3 u = some "*errors.errorString") : u = 218 :=
  typeName_ptr_named (nm := "errors.errorString") (by rw [star]; kernel_rfl) (by kernel_rfl) (by decide) u (by rw [star]; exact h)
theorem cells78 : Tryz.prog.cellsOf 155 = 256 := by kernel_rfl
theorem cells5 : Tryz.prog.cellsOf 5 = 1 := by kernel_rfl
abbrev rowLaid : List (String × DataW Unit) := Rows.treeNumbersRow.laid
theorem only : (rowLaid.filter fun x => x.1 == "strings.asciiSpace") = [("strings.asciiSpace", Lib.tabData .u8 zs)] := by kernel_rfl
theorem onlyE : (rowLaid.filter fun x => x.1 == "strconv.ErrRange") = [("strconv.ErrRange", .iface "*errors.errorString" (.ptr (.agg [.lit (.string [118, 97, 108, 117, 101, 32, 111, 117, 116, 32, 111, 102, 32, 114, 97, 110, 103, 101])])))] := by kernel_rfl
/-- What is said of memory, for the machine. -/
structure LexMem (W : World) : Prop where
  tab : Lib.TabIs Tryz.prog W "strings.asciiSpace" .u8 zs
  err : ∃ t v, W.cell? ⟨4, 0, none⟩ = some (.iface t v)
theorem lexMem {W : World} (h : laidMetH Tryz.prog rowLaid W) : LexMem W := by
  constructor
  · have h1 := h.filter fun x => x.1 == "strings.asciiSpace"
    rw [only, MakeChecks.laidMetH_plain _ _ _ (by kernel_rfl)] at h1
    exact Lib.tabIs_of_head gTab gTabType Tryz.underlying155 Tryz.underlying5 cells5 cells78 h1
  · have h1 := h.filter fun x => x.1 == "strconv.ErrRange"
    rw [onlyE, MakeChecks.laidMetH_plain _ _ _ (by kernel_rfl)] at h1
    obtain ⟨a0, s0, hv0, -, -, -⟩ := laid_sentinel h1 gEr gErType Tryz.underlying125 row129 Tryz.underlying218 Tryz.underlying220 rfl rfl Tryz.underlying9 cells131 cells9
    exact ⟨_, _, by have h0 := World.var?_cell gEr hv0 0; simpa using h0⟩
def lexImm (b o : Nat) : Prop := (b = 0 ∧ o < 256) ∨ (b = 4 ∧ o = 0)
theorem lexGlobs {W : World} (h : LexMem W) : Globs lexImm W := fun g cs hg => by
  have hg' : (if g = 0 then some asciiTab else if g = 4 then some [.ifc] else none) = some cs := hg
  split at hg'
  case isTrue hg0 =>
    subst hg0
    cases hg'
    have hlen : zs.length = 256 := by simp [zs]
    have hget : ∀ (t : Nat) (c : D), asciiTab[t]? = some c → t < 256 ∧ c = .int .u8 (zs.getD t 0) := fun t c hc => by
      rw [tab_zs, List.getElem?_map, Option.map_eq_some_iff] at hc
      obtain ⟨z, hz, rfl⟩ := hc
      refine ⟨by rw [← hlen]; exact (List.getElem?_eq_some_iff.1 hz).1, ?_⟩
      rw [List.getD, hz]; rfl
    refine .rp asciiTab 0 0 (fun t => .int .u8 (zs.getD t 0)) (fun e he => ?_) (fun t c hc => .inl ⟨rfl, by rw [Nat.zero_add]; exact (hget t c hc).1⟩) (fun t c hc => ?_) (fun t c hc => ?_)
    · obtain ⟨t, ht⟩ := List.getElem?_of_mem he
      rw [(hget t e ht).2]; rfl
    · rw [Nat.zero_add]
      exact h.tab.cell gTab t (by rw [hlen]; exact (hget t c hc).1)
    · rw [(hget t c hc).2]
      exact .int _ _
  case isFalse hg0 =>
    split at hg'
    case isFalse => cases hg'
    rename_i hg3
    subst hg3
    cases hg'
    obtain ⟨ty, v, hc⟩ := h.err
    have hget : ∀ (t : Nat) (c : D), [D.ifc][t]? = some c → t = 0 ∧ c = .ifc := fun t c hc => by
      cases t with
      | zero => simp at hc; exact ⟨rfl, hc.symm⟩
      | succ t => simp at hc
    refine .rp [.ifc] 4 0 (fun _ => .iface ty v) (fun e he => ?_) (fun t c hc' => .inr ⟨rfl, by rw [Nat.zero_add]; exact (hget t c hc').1⟩) (fun t c hc' => ?_) (fun t c hc' => ?_)
    · simp at he; subst he; rfl
    · rw [Nat.zero_add, (hget t c hc').1]
      exact hc
    · rw [(hget t c hc').2]
      exact .ifc _ _
theorem lexLow {W : World} (h : LexMem W) : ∀ b o, lexImm b o → b < W.heap.size := fun b o hbo => by
  rcases hbo with ⟨rfl, ho⟩ | ⟨rfl, rfl⟩
  · have hc := h.tab.cell gTab 0 (by simp [zs])
    unfold World.cell? at hc
    cases hh : W.heap[0]? with
    | none => rw [hh] at hc; cases hc
    | some o => exact (Array.getElem?_eq_some_iff.1 hh).1
  · obtain ⟨ty, v, hc⟩ := h.err
    unfold World.cell? at hc
    cases hh : W.heap[4]? with
    | none => rw [hh] at hc; cases hc
    | some o => exact (Array.getElem?_eq_some_iff.1 hh).1

theorem flat_ones : ∀ (l : List D), (∀ x ∈ l, x.cells = [x]) → D.flat l = l
  | [], _ => rfl
  | x :: r, h => by
    have h1 := h x (by simp)
    have h2 := flat_ones r fun y hy => h y (by simp [hy])
    unfold D.flat at h2 ⊢
    rw [List.flatMap_cons, h1, h2]
    rfl
set_option maxRecDepth 100000 in
/-- What a slice of bytes that came in is, as data. -/
theorem bytesArg {H : Type} {enc : TypeId × Value → H} {W : World} {base : Nat} {v1 : Value} {d1 : DataW H} {p1 : List MemPlace} (hval : Value.okWide Tryz.prog W .any base 50 v1) (h1 : DataW.Trod enc Tryz.prog W 0 (fun _ => true) true 50 v1 d1 p1) :
    ∃ (l : List UInt8) (I' : Nat → Nat → Prop), DRep I' W (.ro (l.map bD)) v1 ∧ ∀ b o, I' b o → b < W.heap.size := by
  obtain ⟨a1, len, cap, rfl⟩ := okWide_slice Tryz.underlying50 hval
  obtain ⟨fuel, hf⟩ := h1
  rcases open_ints Tryz.underlying50 Tryz.underlying5 cells5 hf with ⟨hcs, hx⟩ | ⟨a, len', cap', zs, hcs, _, hl, hm, hz, hx, hcell, hwz⟩
  · simp [Value.cells] at hcs
    obtain ⟨rfl, rfl, rfl⟩ := hcs
    exact ⟨[], fun _ _ => False, .roNil _ _, fun _ _ h => h.elim⟩
  · simp [Value.cells] at hcs
    obtain ⟨rfl, rfl, rfl⟩ := hcs
    simp only [if_true] at hz
    have hel : ∀ (j : Nat), j < len → ∃ y : UInt8, W.cell? (a.add j) = some (.int .u8 (y.toNat : Int)) := fun j hj => by
      have hcj := hcell j (by omega)
      have hmem : zs.getD j 0 ∈ zs := by rw [List.getD_eq_getElem?_getD, List.getElem?_eq_getElem (show j < zs.length by omega)]; exact List.getElem_mem _
      have hw := hwz _ hmem
      simp [Lit.wf, IntKind.min, IntKind.max, IntKind.signed, IntKind.bits] at hw
      refine ⟨UInt8.ofNat (zs.getD j 0).toNat, ?_⟩
      rw [hcj]
      congr 2
      simp only [UInt8.toNat_ofNat']
      simp only [List.getD_eq_getElem?_getD] at hw ⊢
      omega
    let f : Nat → UInt8 := fun j => if h : j < len then Classical.choose (hel j h) else 0
    have hfj : ∀ j, j < len → W.cell? (a.add j) = some (.int .u8 ((f j).toNat : Int)) := fun j hj => by
      show W.cell? (a.add j) = some (.int .u8 ((if h : j < len then Classical.choose (hel j h) else 0 : UInt8).toNat : Int))
      rw [dif_pos hj]
      exact Classical.choose_spec (hel j hj)
    rcases Nat.eq_zero_or_pos len with rfl | hpos
    · exact ⟨[], fun _ _ => False, .roNil _ _, fun _ _ h => h.elim⟩
    obtain ⟨ab, ao, spot⟩ := a
    have hspot : spot = none := by simpa [Addr.add] using World.cell?_spot (hfj 0 hpos)
    subst hspot
    have hlen : (((List.range len).map f).map bD).length = len := by simp
    have hget : ∀ (t : Nat) (c : D), (((List.range len).map f).map bD)[t]? = some c → t < len ∧ c = bD (f t) := fun t c hc => by
      rw [List.getElem?_map, List.getElem?_map] at hc
      rcases Nat.lt_or_ge t len with h | h
      · rw [List.getElem?_range h] at hc
        simp only [Option.map_some, Option.some.injEq] at hc
        exact ⟨h, hc.symm⟩
      · rw [List.getElem?_eq_none (by rw [List.length_range]; exact h)] at hc
        cases hc
    have hfl : D.flat (((List.range len).map f).map bD) = ((List.range len).map f).map bD := flat_ones _ fun x hx => by
      obtain ⟨y, _, rfl⟩ := List.mem_map.1 hx
      rfl
    have hro : DRep (fun b o => b = ab ∧ ao ≤ o ∧ o < ao + len) W (.ro (((List.range len).map f).map bD)) (.slice (some ⟨ab, ao, none⟩) (((List.range len).map f).map bD).length cap) :=
      .ro _ ab ao cap 1 (fun t => .int .u8 ((f t).toNat : Int)) (by rw [hlen]; exact hl) (fun e he => by
        obtain ⟨y, _, rfl⟩ := List.mem_map.1 he
        rfl) (fun e he => by
        rw [hfl] at he
        obtain ⟨y, _, rfl⟩ := List.mem_map.1 he
        rfl) (fun t c hc => by
        rw [hfl] at hc
        have := (hget t c hc).1
        exact ⟨rfl, by omega, by omega⟩) (fun t c hc => by
        rw [hfl] at hc
        have := hfj t (hget t c hc).1
        rwa [Addr.add_lit] at this) (fun t c hc => by
        rw [hfl] at hc
        rw [(hget t c hc).2]
        exact .int _ _)
    rw [hlen] at hro
    refine ⟨(List.range len).map f, _, hro, fun b o hb => ?_⟩
    obtain ⟨rfl, _, _⟩ := hb
    have hc := hfj 0 hpos
    rw [Addr.add_lit] at hc
    unfold World.cell? at hc
    cases hh : W.heap[b]? with
    | none => rw [hh] at hc; cases hc
    | some o => exact (Array.getElem?_eq_some_iff.1 hh).1
/-- What is known of memory at a call, with an argument's memory beside it. -/
theorem argGlobs {W : World} (h : LexMem W) (I' : Nat → Nat → Prop) : Globs (fun b o => lexImm b o ∨ I' b o) W := (lexGlobs h).mono (fun _ _ x => .inl x) (fun _ _ _ => rfl)
end Go.Avm
