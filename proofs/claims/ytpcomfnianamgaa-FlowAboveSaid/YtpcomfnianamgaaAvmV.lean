/-
  The abstract machine, part V: contracts of the library that turn one row of integers in place, as contracts of calls that turn the abstract heap.
-/
import Derived.Test.YtpcomfnianamgaaAvmU
import Derived.Sort.Row
set_option linter.unusedSectionVars false
namespace Go.Avm
open Go.RowKit
open Go.Sort (putRow putCells mapBlock onCells)
variable [GlobTab]
section
variable {G : Gh} {B : Nat} {w0 w : World} {I0 : Nat → Nat → Prop} {h : Heap}

theorem HR.aheadN (hr : HR G B w0 I0 h w) : ∀ n, HR G B w0 I0 h (Go.Sort.ahead w n) ∧ Ext G w G (Go.Sort.ahead w n)
  | 0 => ⟨hr, Ext.refl G w⟩
  | n + 1 => by
    obtain ⟨h1, e1⟩ := hr.aheadN n
    rw [← Go.Sort.ahead_drew]
    exact ⟨h1.drew, e1.trans (Ext.drew G _)⟩
theorem HR.growL : ∀ (l : List Obj) {w : World}, HR G B w0 I0 h w → HR G B w0 I0 h (Go.Sort.grow w l.toArray) ∧ Ext G w G (Go.Sort.grow w l.toArray)
  | [], w, hr => by
    rw [show Go.Sort.grow w ([] : List Obj).toArray = w from Go.Sort.grow_empty w]
    exact ⟨hr, Ext.refl G w⟩
  | o :: l, w, hr => by
    have e : Go.Sort.grow w (o :: l).toArray = Go.Sort.grow (w.alloc o) l.toArray := by
      rw [Go.Sort.alloc_eq_grow, Go.Sort.grow_grow]
      congr 1
      simp
    rw [e]
    obtain ⟨h2, e2⟩ := HR.growL l (hr.allocAny o)
    exact ⟨h2, (Ext.alloc hr o).trans e2⟩
theorem putRow_setRow {α : Type} [Inhabited α] {w : World} {blk : Nat} {arr : Array Value} {e : TypeId} {fz : Nat × Nat} (hb : w.heap[blk]? = some (.cells arr e fz)) (enc : α → Value) (off : Nat) (d : Array α) : putRow enc w blk off d = w.setRow blk (putCells enc off d arr) := by
  unfold putRow mapBlock World.setRow
  congr 1
  apply Array.ext_getElem?
  intro k
  simp only [Array.getElem?_modify]
  by_cases hk : blk = k
  · subst hk
    simp [hb, onCells]
  · simp [hk]
end

def dI (x : Int) : AV := .d (.int .i64 x)
theorem dI_lone (l : List Int) : ∀ e ∈ l.map dI, e.lone = true := fun e he => by
  obtain ⟨x, _, rfl⟩ := List.mem_map.1 he
  rfl

theorem hcall_row {P : Program} {f : Nat} (hcb : Callable P f) {k v : Nat} {zs ys : List Int} (hlen : ys.length = zs.length) {rs : List AV} {ret : Nat → Nat → Value} {retN : Value} {h : Heap} (hk : h k = ⟨v, some (.arr 1 (zs.map dI))⟩)
    (hC : ∀ blk cap w, Go.Sort.Holds (Value.int .i64) w blk 0 zs.toArray → blk < w.heap.size → zs.length ≤ cap → Calls P f #[.slice (some ⟨blk, 0, none⟩) zs.length cap] w fun e w' => e = .returned (ret blk cap) ∧ ∃ n os, w' = Go.Sort.grow (putRow (Value.int .i64) (Go.Sort.ahead w n) blk 0 ys.toArray) os)
    (hN : zs = [] → ∀ w, Calls P f #[.slice none 0 0] w fun e w' => e = .returned retN ∧ ∃ n, w' = Go.Sort.ahead w n)
    (hret : ∀ (G : Gh) (w : World) (L : Loc) (cap : Nat), G.loc k v = some L → L.sz = 1 → zs.length ≤ cap → cap ≤ L.cap → Rep G w (retV rs) (ret L.b cap))
    (hretN : zs = [] → ∀ (G : Gh) (w : World), Rep G w (retV rs) retN) :
    HCall P f [.sl k v 0 zs.length 1] h rs (upd h k ⟨v, some (.arr 1 (ys.map dI))⟩) := by
  refine ⟨hcb, fun G B w0 I0 w cargs hr hs hargs => ?_⟩
  obtain ⟨u, rfl⟩ : ∃ u, cargs = #[u] := by
    have h1 : cargs.size = 1 := hs
    refine ⟨cargs[0], Array.ext (by simp [h1]) (fun i hi _ => ?_)⟩
    have : i = 0 := by omega
    subst this
    rfl
  have hu := hargs 0 _ u rfl rfl
  have hver : (h k).ver = v := by rw [hk]
  have hob : (h k).ob = some (.arr 1 (zs.map dI)) := by rw [hk]
  generalize hlz : zs.length = n at hu
  generalize hzz : (1 : Nat) = z at hu
  cases hu with
  | slNil =>
    subst hzz
    have hz : zs = [] := List.length_eq_zero_iff.1 hlz
    have hy : ys = [] := List.length_eq_zero_iff.1 (by omega)
    refine (hN hz w).mono ?_
    rintro e w' ⟨rfl, n, rfl⟩
    obtain ⟨h1, e1⟩ := hr.aheadN n
    have hh : upd h k ⟨v, some (.arr 1 (ys.map dI))⟩ = h := by
      funext t
      simp only [upd]
      split
      · rename_i ht; rw [ht, hk, hy, hz]
      · rfl
    rw [hh]
    exact ⟨retN, G, rfl, e1, h1, hretN hz _ _⟩
  | sl _ _ _ _ c L hL hc hln =>
    simp only [← hzz]
    rw [← hver] at hL
    rcases hr.objs k _ hob with ⟨_, hn⟩ | ⟨L', hL', g1, g2, g3, g4, g6, g5⟩
    · rw [hL] at hn; cases hn
    rw [hL] at hL'
    cases hL'
    obtain ⟨hB, ⟨arr, e0, hb, hsz⟩, _⟩ := hr.own k L hL
    have hHolds : Go.Sort.Holds (Value.int .i64) w L.b 0 zs.toArray := by
      intro j hj
      have hj' : j < zs.length := by simpa using hj
      obtain ⟨u, hu, _, hur⟩ := g5 j (dI zs[j]) (by rw [flat_lone (dI_lone zs)]; simp [hj'])
      have : u = .int .i64 zs[j] := by
        cases hur with | d hd => cases hd; rfl
      refine ⟨by rw [Nat.zero_add, hu, this]; simp [hj'], ?_⟩
      simp [World.frozen?, hb]
    have hblk : L.b < w.heap.size := (Array.getElem?_eq_some_iff.1 hb).1
    subst hlz
    have hcall := hC L.b c w hHolds hblk hln
    rw [show 0 * 1 = 0 from rfl]
    refine hcall.mono ?_
    rintro e w' ⟨rfl, n, os, rfl⟩
    obtain ⟨h1, e1⟩ := hr.aheadN n
    have hb1 : (Go.Sort.ahead w n).heap[L.b]? = some (.cells arr e0 (0, 0)) := hb
    rw [putRow_setRow hb1]
    obtain ⟨h2, e2⟩ := h1.store (es' := ys.map dI) (arr' := putCells (Value.int .i64) 0 ys.toArray arr) hob hL g1 g2 hb1 (by simp [putCells]) (by simp at g3 ⊢; omega) (fun x hx => by rw [AV.cells_lone (dI_lone ys x hx)]; rfl) (fun _ => dI_lone ys) (fun t c' ht => by
      rw [flat_lone (dI_lone ys)] at ht
      have htl : t < ys.length := by simpa using (List.getElem?_eq_some_iff.1 ht).1
      have hta : t < arr.size := by
        rw [hsz.1, g1]
        have : zs.length ≤ L.cap := by simpa using g3
        omega
      refine ⟨.int .i64 ys[t], ?_, rfl, ?_⟩
      · simp [putCells, hta, htl]
      · simp [htl] at ht
        subst ht
        exact .d (.int _ _))
    obtain ⟨h3, e3⟩ := HR.growL os.toList h2
    rw [hver] at h3
    rw [Array.toArray_toList] at h3 e3
    exact ⟨_, G, rfl, (e1.trans e2).trans e3, h3, hret G _ L c (by rw [← hver]; exact hL) g1 hln (by omega)⟩
end Go.Avm
