/-
  What the laws' texts say of package variables, for the abstract machine: the table of blanks, and that strconv.ErrRange is an error.
-/
import Derived.Test.YtdmjbpkdngmgkaaDoorRows
import Derived.Test.YtdmjbpkdngmgkaaDoorLexA
import Derived.Laws.StandIn
import Derived.LaidMore
import Derived.LaidSub
import Derived.Lay
import Derived.MakeChecks
import Derived.ChangeMaps5
import Derived.Lib.LaidTab
import Derived.Stop.LaidErr
set_option linter.unusedSectionVars false
namespace Go.Avm
open Go.ChangeShapes Go.WideShapes Go.ChangeAt Go.RowKit Go.ChangeMaps Go.Proofs Go.Proofs.YtdmjbpkdngmgkaaDoor

def zs : List Int := (List.range 256).map fun n => if n = 9 ∨ n = 10 ∨ n = 11 ∨ n = 12 ∨ n = 13 ∨ n = 32 then 1 else 0
theorem tab_zs : asciiTab = zs.map fun z => .int .u8 z := by
  unfold asciiTab zs
  rw [List.map_map]
  rfl
theorem gTab : Tryd.prog.globalNamed "strings.asciiSpace" = some 0 := by kernel_rfl
theorem gTabType : (Tryd.prog.globals[0]?).map (·.type) = some 78 := by kernel_rfl
theorem gEr : Tryd.prog.globalNamed "strconv.ErrRange" = some 3 := by kernel_rfl
theorem gErType : (Tryd.prog.globals[3]?).map (·.type) = some 72 := by kernel_rfl
theorem cells131 : Tryd.prog.cellsOf 131 = 1 := by kernel_rfl
theorem cells9 : Tryd.prog.cellsOf 9 = 1 := by kernel_rfl
theorem star : "*" ++ "errors.errorString" = "*errors.errorString" := by decide
theorem row129 (u : TypeId) (h : Tryd.prog.typeName? 3 u = some "*errors.errorString") : u = 129 :=
  typeName_ptr_named (nm := "errors.errorString") (by rw [star]; kernel_rfl) (by kernel_rfl) (by decide) u (by rw [star]; exact h)
theorem cells78 : Tryd.prog.cellsOf 78 = 256 := by kernel_rfl
theorem cells5 : Tryd.prog.cellsOf 5 = 1 := by kernel_rfl
abbrev rowLaid : List (String × DataW Unit) := Rows.lexWordsRow.laid
theorem only : (rowLaid.filter fun x => x.1 == "strings.asciiSpace") = [("strings.asciiSpace", Lib.tabData .u8 zs)] := by kernel_rfl
theorem onlyE : (rowLaid.filter fun x => x.1 == "strconv.ErrRange") = [("strconv.ErrRange", .iface "*errors.errorString" (.ptr (.agg [.lit (.string [118, 97, 108, 117, 101, 32, 111, 117, 116, 32, 111, 102, 32, 114, 97, 110, 103, 101])])))] := by kernel_rfl
/-- What is said of memory, for the machine. -/
structure LexMem (W : World) : Prop where
  tab : Lib.TabIs Tryd.prog W "strings.asciiSpace" .u8 zs
  err : ∃ t v, W.cell? ⟨3, 0, none⟩ = some (.iface t v)
theorem lexMem {W : World} (h : laidMetH Tryd.prog rowLaid W) : LexMem W := by
  constructor
  · have h1 := h.filter fun x => x.1 == "strings.asciiSpace"
    rw [only, MakeChecks.laidMetH_plain _ _ _ (by kernel_rfl)] at h1
    exact Lib.tabIs_of_head gTab gTabType Tryd.underlying78 Tryd.underlying5 cells5 cells78 h1
  · have h1 := h.filter fun x => x.1 == "strconv.ErrRange"
    rw [onlyE, MakeChecks.laidMetH_plain _ _ _ (by kernel_rfl)] at h1
    obtain ⟨a0, s0, hv0, -, -, -⟩ := laid_sentinel h1 gEr gErType Tryd.underlying72 row129 Tryd.underlying129 Tryd.underlying131 rfl rfl Tryd.underlying9 cells131 cells9
    exact ⟨_, _, by have h0 := World.var?_cell gEr hv0 0; simpa using h0⟩
def lexImm (b o : Nat) : Prop := (b = 0 ∧ o < 256) ∨ (b = 3 ∧ o = 0)
theorem lexGlobs {W : World} (h : LexMem W) : Globs lexImm W := fun g cs hg => by
  have hg' : (if g = 0 then some asciiTab else if g = 3 then some [.ifc] else none) = some cs := hg
  split at hg'
  case isTrue hg0 =>
    subst hg0
    cases hg'
    have hlen : zs.length = 256 := by simp [zs]
    have hget : ∀ (t : Nat) (c : D), asciiTab[t]? = some c → t < 256 ∧ c = .int .u8 (zs.getD t 0) := fun t c hc => by
      rw [tab_zs, List.getElem?_map, Option.map_eq_some_iff] at hc
      obtain ⟨z, hz, rfl⟩ := hc
      refine ⟨by rw [← hlen]; exact (List.getElem?_eq_some_iff.1 hz).1, ?_⟩
      rw [List.getD, hz]; rfl
    refine .rp asciiTab 0 0 (fun t => .int .u8 (zs.getD t 0)) (fun e he => ?_) (fun t c hc => .inl ⟨rfl, by rw [Nat.zero_add]; exact (hget t c hc).1⟩) (fun t c hc => ?_) (fun t c hc => ?_)
    · obtain ⟨t, ht⟩ := List.getElem?_of_mem he
      rw [(hget t e ht).2]; rfl
    · rw [Nat.zero_add]
      exact h.tab.cell gTab t (by rw [hlen]; exact (hget t c hc).1)
    · rw [(hget t c hc).2]
      exact .int _ _
  case isFalse hg0 =>
    split at hg'
    case isFalse => cases hg'
    rename_i hg3
    subst hg3
    cases hg'
    obtain ⟨ty, v, hc⟩ := h.err
    have hget : ∀ (t : Nat) (c : D), [D.ifc][t]? = some c → t = 0 ∧ c = .ifc := fun t c hc => by
      cases t with
      | zero => simp at hc; exact ⟨rfl, hc.symm⟩
      | succ t => simp at hc
    refine .rp [.ifc] 3 0 (fun _ => .iface ty v) (fun e he => ?_) (fun t c hc' => .inr ⟨rfl, by rw [Nat.zero_add]; exact (hget t c hc').1⟩) (fun t c hc' => ?_) (fun t c hc' => ?_)
    · simp at he; subst he; rfl
    · rw [Nat.zero_add, (hget t c hc').1]
      exact hc
    · rw [(hget t c hc').2]
      exact .ifc _ _
theorem lexLow {W : World} (h : LexMem W) : ∀ b o, lexImm b o → b < W.heap.size := fun b o hbo => by
  rcases hbo with ⟨rfl, ho⟩ | ⟨rfl, rfl⟩
  · have hc := h.tab.cell gTab 0 (by simp [zs])
    unfold World.cell? at hc
    cases hh : W.heap[0]? with
    | none => rw [hh] at hc; cases hc
    | some o => exact (Array.getElem?_eq_some_iff.1 hh).1
  · obtain ⟨ty, v, hc⟩ := h.err
    unfold World.cell? at hc
    cases hh : W.heap[3]? with
    | none => rw [hh] at hc; cases hc
    | some o => exact (Array.getElem?_eq_some_iff.1 hh).1
end Go.Avm
