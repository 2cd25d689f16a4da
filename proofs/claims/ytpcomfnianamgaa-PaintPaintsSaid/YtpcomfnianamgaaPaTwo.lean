/-
  Paint: IsSorted, Sort and Compact at a row.
-/
import Derived.Test.YtpcomfnianamgaaPaOne
import Derived.Test.YtpcomfnianamgaaAvmW
import Derived.Test.YtpcomfnianamgaaPaShelf
set_option linter.unusedSectionVars false
namespace Go.Avm
open Go.Proofs
open Go.RowKit

theorem drewN_ahead (w : World) (q : Nat) : w.drewN q = Go.Sort.ahead w q := rfl
theorem mem_compact {zs : List Int} {x : Int} : x ∈ Go.Lib.compact zs ↔ x ∈ zs := by
  unfold Go.Lib.compact Go.Lib.compactUpTo
  constructor
  · intro h
    obtain ⟨i, hi, rfl⟩ := List.mem_map.1 h
    have hi' : i < zs.length := List.mem_range.1 (List.mem_filter.1 hi).1
    simp [getElem!_pos, hi']
  · intro h
    obtain ⟨i, hi, rfl⟩ := List.getElem_of_mem h
    rw [List.mem_map]
    induction i with
    | zero => exact ⟨0, List.mem_filter.2 ⟨List.mem_range.2 hi, Go.Lib.keeps_lt_one _ 0 (by omega)⟩, by simp [getElem!_pos, hi]⟩
    | succ i ih =>
      by_cases hk : zs.toArray[i + 1]! = zs.toArray[i + 1 - 1]!
      · have e : zs[i + 1] = zs[i] := by
          have h1 : i < zs.length := by omega
          simpa [getElem!_pos, hi, h1] using hk
        obtain ⟨j, h1, h2⟩ := ih (by omega) (List.getElem_mem _)
        exact ⟨j, h1, by rw [h2, e]⟩
      · exact ⟨i + 1, List.mem_filter.2 ⟨List.mem_range.2 hi, Go.Lib.keeps_pos hk⟩, by simp [getElem!_pos, hi]⟩
theorem compact_len (zs : List Int) : (Go.Lib.compact zs).length ≤ zs.length := by
  unfold Go.Lib.compact Go.Lib.compactUpTo
  rw [List.length_map]
  refine Nat.le_trans (List.length_filter_le _ _) ?_
  simp
def sortZ (zs : List Int) : List Int := zs.mergeSort fun x y => decide (x ≤ y)
def compZ (zs : List Int) : List Int := Go.Lib.compact zs ++ List.replicate (zs.length - (Go.Lib.compact zs).length) 0
theorem compZ_len (zs : List Int) : (compZ zs).length = zs.length := by
  have := compact_len zs
  simp [compZ]
  omega
theorem callable97 : Callable Try.prog 97 := ⟨_, Try.func97, rfl, by decide⟩
theorem callable79 : Callable Try.prog 79 := ⟨_, Try.func79, rfl, by decide⟩
theorem callable81 : Callable Try.prog 81 := ⟨_, Try.func81, rfl, by decide⟩
theorem sortC {k v : Nat} {zs : List Int} (hne : zs ≠ []) (hl : zs.length < 1000000000) {h : Heap} (hk : h k = ⟨v, some (.arr 1 (zs.map dI))⟩) :
    HCall Try.prog 79 [.sl k v 0 zs.length 1] h [] (upd h k ⟨v, some (.arr 1 ((sortZ zs).map dI))⟩) :=
  hcall_row callable79 (by simp [sortZ]) hk (ret := fun _ _ => .tuple #[]) (retN := .tuple #[]) (fun blk cap w hH hb hc => Go.Proofs.Any.slices_Sort_int Try.laysort blk 0 cap zs w hH hb (by omega)) (fun h => absurd h hne) (fun G w L cap _ _ _ _ => .tup [] #[] rfl (fun i c u h => by cases h)) (fun h => absurd h hne)
theorem compC {k v : Nat} {zs : List Int} (hl : zs.length < 1000000000) {h : Heap} (hk : h k = ⟨v, some (.arr 1 (zs.map dI))⟩) :
    HCall Try.prog 81 [.sl k v 0 zs.length 1] h [.sl k v 0 (Go.Lib.compact zs).length 1] (upd h k ⟨v, some (.arr 1 ((compZ zs).map dI))⟩) :=
  hcall_row callable81 (compZ_len zs) hk (ret := fun blk cap => .slice (some ⟨blk, 0, none⟩) (Go.Lib.compact zs).length cap) (retN := .slice none 0 0) (fun blk cap w hH hb hc => (Go.Proofs.Any.slices_Compact_int Try.laycomp blk 0 cap zs w hH (by omega) hc).mono fun e w' ⟨h1, q, h2⟩ => ⟨h1, q, #[], by rw [h2, Go.Sort.grow_empty]; rfl⟩)
    (fun h w => (Go.Proofs.Any.slices_Compact_int_empty Try.laycomp none 0 w).mono fun e w' ⟨h1, h2⟩ => ⟨h1, 0, by rw [h2]; rfl⟩) (fun G w L cap hL hs hl1 hl2 => by
      have h1 := Rep.sl (G := G) (w := w) k v 0 (Go.Lib.compact zs).length cap L hL (by omega) (by have := compact_len zs; omega)
      rw [Nat.zero_mul, hs] at h1
      exact h1) (fun h G w => by subst h; exact .slNil _ _ _)
def sortedB (zs : List Int) : Bool := Go.Lib.downOK (fun x y => decide (x < y)) zs.toArray (zs.toArray.size - 1)
/-- A row, when it is laid. -/
def finR (r : List Int) : List Int := if sortedB r then Go.Lib.compact r else Go.Lib.compact (sortZ r)
theorem issC {k v : Nat} {zs : List Int} (hl : zs.length < 1000000000) : (sortedB zs = false → zs ≠ []) ∧ ∀ {h : Heap}, h k = ⟨v, some (.arr 1 (zs.map dI))⟩ →
    HCall Try.prog 97 [.sl k v 0 zs.length 1] h [dB (sortedB zs)] h := by
  refine ⟨fun h e => (by subst e; cases h), fun {h} hk => ?_⟩
  have hh : upd h k ⟨v, some (.arr 1 (zs.map dI))⟩ = h := by
    funext t
    simp only [upd]
    split
    · rename_i ht; rw [ht, hk]
    · rfl
  have := hcall_row (f := 97) (rs := [dB (sortedB zs)]) callable97 (ys := zs) rfl hk (ret := fun _ _ => .bool (sortedB zs)) (retN := .bool true)
    (fun blk cap w hH hb hc => (Go.Proofs.AnyO.slices_IsSorted_int Try.layiss blk 0 cap zs.toArray w (fun i hi => (hH i hi).1) (by simp; omega)).mono fun e w' ⟨h1, q, h2⟩ => ⟨h1, q, #[], by
      rw [h2, Go.Sort.grow_empty, drewN_ahead, Go.Sort.putRow_self]
      exact hH⟩)
    (fun h w => (Go.Proofs.AnyO.slices_IsSorted_int_none Try.layiss none 0 w).mono fun e w' ⟨h1, h2⟩ => ⟨h1, 0, by rw [h2]; rfl⟩) (fun G w L cap _ _ _ _ => .d (.bool _)) (fun h G w => by subst h; exact .d (.bool _))
  rw [hh] at this
  exact this
end Go.Avm
/-
  Paint: the graph is laid: its rows made.
-/
set_option linter.unusedSectionVars false
namespace Go.Avm
open Go.Proofs

def seqL : Code → Code
  | .seq x _ => x
  | c => c
def seqR : Code → Code
  | .seq _ y => y
  | c => c
abbrev pairD (p : Int × Int) : D := .agg [.int .i64 p.1, .int .i64 p.2]
abbrev pairsD (l : List (Int × Int)) : D := .ro (l.map pairD)
abbrev lyP (vp : Nat) : AV := .ptr 702344 vp 0 0 1
def lyE (n vp vN vK vl vd vo : Nat) (cs ks left deg out : List AV) : List (Nat × Ent) :=
  [(702344, ⟨vp, some (.arr 1 [.sl 700404 vN 0 n 1, .sl 700792 vK 0 n 1, .sl 701180 vl 0 n 1, .sl 701568 vd 0 n 1, .sl 701956 vo 0 n 1])⟩), (700404, ⟨vN, some (.arr 1 cs)⟩), (700792, ⟨vK, some (.arr 1 ks)⟩),
    (701180, ⟨vl, some (.arr 1 left)⟩), (701568, ⟨vd, some (.arr 1 deg)⟩), (701956, ⟨vo, some (.arr 1 out)⟩)]
def ly0 (vp vN vK vl vd vo : Nat) : List (Nat × Ent) :=
  [(702344, ⟨vp, none⟩), (700404, ⟨vN, none⟩), (700792, ⟨vK, none⟩), (701180, ⟨vl, none⟩), (701568, ⟨vd, none⟩), (701956, ⟨vo, none⟩)]
section
variable (n vp vN vK vl vd vo : Nat) (pairs likes : List (Int × Int))
def lyA : List (Nat × AV) := [(0, dN n), (1, .d (pairsD pairs)), (2, .d (pairsD likes))]
def lyB (vp : Nat) : List (Nat × AV) := [(0, dN n), (1, .d (pairsD pairs)), (2, .d (pairsD likes)), (7, lyP vp)]
theorem lyMake (hn : n ≤ 60000) (rest : Heap) (X : Fix) (hP : X.P = Try.prog) (hN : X.N = 193) :
    AW X (seqL (seqR (bodyOf Try.prog 68))) ⟨envOf (lyA n pairs likes), ovl (ly0 vp vN vK vl vd vo) rest⟩ fun e' S' => e' = .normal ∧
      Weak X S' ⟨envOf (lyB n pairs likes (vp + 1)), ovl (lyE n (vp + 1) (vN + 1) (vK + 1) (vl + 1) (vd + 1) (vo + 1) (List.replicate n .nils) (List.replicate n .nils) (List.replicate n (dB false)) (List.replicate n (dI 0)) (List.replicate n (dI 0))) rest⟩ :=
  seg okP named { hint := fun f s => if f = 68 then (if s = 18 ∨ s = 20 ∨ s = 22 ∨ s = 24 ∨ s = 26 then some (.mk (n : Int) (by omega) (by omega)) else none) else none } 1000 68 (700000 + 193) 193 (by kernel_rfl) X hP hN
def l1L (vp : Nat) (i : Nat) : List (Nat × AV) := [(0, dN n), (1, .d (pairsD pairs)), (2, .d (pairsD likes)), (7, lyP vp), (29, dN n), (30, dN i)]
theorem l1Start (rest : Heap) (X : Fix) (hP : X.P = Try.prog) (hN : X.N = 193) :
    AW X (seqL (seqL (seqR (seqR (bodyOf Try.prog 68))))) ⟨envOf (lyB n pairs likes vp), ovl [] rest⟩ fun e' S' => e' = .normal ∧
      Weak X S' ⟨envOf (l1L n pairs likes vp 0), ovl [] rest⟩ :=
  seg okP named {} 1000 68 700000 193 (by kernel_rfl) X hP hN
variable (cs ks left deg out : List AV) (i : Nat)
noncomputable def l1Pr (hi : i < n) (hs : i < 9223372036854775807) (hl : left[0 + i]? = some (dB false)) (ho : out[0 + i]? = some (dI 0)) : Par Try.prog :=
  { hint := fun f s => if f = 68 then (if s = 31 then some (hLt Try.prog i n true (by simpa using hi)) else if s = 43 ∨ s = 44 then some (.inb ((i : Nat) : Int) n (by omega) (by simpa using hi)) else if s = 105011 then some (.elt left (0 + i) (dB false) hl) else if s = 105013 then some (.elt out (0 + i) (dI 0) ho)
      else if s = 45 then some (hSucc Try.prog i hs) else none) else none }
theorem l1Round (hi : i < n) (hs : i < 9223372036854775807) (hl : left[0 + i]? = some (dB false)) (ho : out[0 + i]? = some (dI 0)) (rest : Heap) (X : Fix) (hP : X.P = Try.prog) (hN : X.N = 193) :
    AW X (loopOf Try.prog 68 3) ⟨envOf (l1L n pairs likes vp i), ovl (lyE n vp vN vK vl vd vo cs ks left deg out) rest⟩ fun e' S' => e' = .normal ∧
      Weak X S' ⟨envOf (l1L n pairs likes vp (i + 1)), ovl (lyE n vp vN vK vl vd vo cs ks (left.set (0 + i) (dB true)) deg (out.set (0 + i) (dI (-1)))) rest⟩ :=
  seg okP named (l1Pr n left out i hi hs hl ho) 1000 68 700000 193 (by kernel_rfl) X hP hN
theorem l1Stop (rest : Heap) (X : Fix) (hP : X.P = Try.prog) (hN : X.N = 193) :
    AW X (loopOf Try.prog 68 3) ⟨envOf (l1L n pairs likes vp n), ovl (lyE n vp vN vK vl vd vo cs ks left deg out) rest⟩ fun e' S' => e' = .exit 0 ∧
      Weak X S' ⟨envOf (lyB n pairs likes vp), ovl (lyE n vp vN vK vl vd vo cs ks left deg out) rest⟩ :=
  seg okP named { hint := fun f s => if f = 68 then (if s = 31 then some (hLt Try.prog n n false (by simp)) else none) else none } 1000 68 700000 193 (by kernel_rfl) X hP hN
/-! ### pairs -/
def l2L (vp : Nat) (i : Nat) : List (Nat × AV) := [(0, dN n), (1, .d (pairsD pairs)), (2, .d (pairsD likes)), (7, lyP vp), (46, .d (pairsD pairs)), (47, dN pairs.length), (48, dN i)]
theorem l2Start (rest : Heap) (X : Fix) (hP : X.P = Try.prog) (hN : X.N = 193) :
    AW X (seqL (seqL (seqR (seqR (seqR (bodyOf Try.prog 68)))))) ⟨envOf (lyB n pairs likes vp), ovl [] rest⟩ fun e' S' => e' = .normal ∧ Weak X S' ⟨envOf (l2L n pairs likes vp 0), ovl [] rest⟩ :=
  seg okP named { hint := fun f s => if f = 68 then (if s = 47 then some (.val (dN (pairs.map pairD).length) (dN pairs.length) (by simp)) else none) else none } 1000 68 700000 193 (by kernel_rfl) X hP hN
def hNe (P : Program) (a b : Int) (t : Bool) (h : (!(a == b)) = t) : Hint P := .val (dB (!(a == b))) (dB t) (by rw [h])
def l2E (n vp vN vK vl vd vo : Nat) (cs ks left deg out : List AV) (vE b1 b2 v1 v2 : Nat) (r1 r2 : List Int) : List (Nat × Ent) :=
  (700589, ⟨vE, none⟩) :: (706253, ⟨b1, none⟩) :: (708193, ⟨b2, none⟩) :: (21, ⟨v1, some (.arr 1 (r1.map dI))⟩) :: (22, ⟨v2, some (.arr 1 (r2.map dI))⟩) :: lyE n vp vN vK vl vd vo cs ks left deg out
theorem getP {l : List (Int × Int)} {i : Nat} (h : i < l.length) : (l.map pairD)[((i : Nat) : Int).toNat]? = some (pairD l[i]) := by simp [h]
variable (vE b1 b2 v1 v2 : Nat) (r1 r2 : List Int) (x y : Int)
noncomputable def l2Pr (hi : i < pairs.length) (hs : i < 9223372036854775807) (hp : pairs[i] = (x, y)) (t : Bool) (ht : (!(x == y)) = t) (hint2 : Nat → Option (Hint Try.prog)) : Par Try.prog :=
  { hint := fun f s => if f = 68 then (if s = 49 then some (hLt Try.prog i pairs.length true (by simpa using hi)) else if s = 50 then some (.idx (pairs.map pairD) ((i : Nat) : Int) (pairD (x, y)) (by omega) (by rw [← hp]; exact getP hi))
      else if s = 58 then some (hNe Try.prog x y t ht) else if s = 91 then some (hSucc Try.prog i hs) else hint2 s) else none }
theorem l2Same (hi : i < pairs.length) (hs : i < 9223372036854775807) (hp : pairs[i] = (x, y)) (ht : (!(x == y)) = false) (rest : Heap) (X : Fix) (hP : X.P = Try.prog) (hN : X.N = 193) :
    AW X (loopOf Try.prog 68 8) ⟨envOf (l2L n pairs likes vp i), ovl ((700589, ⟨vE, none⟩) :: lyE n vp vN vK vl vd vo cs ks left deg out) rest⟩ fun e' S' => e' = .normal ∧
      Weak X S' ⟨envOf (l2L n pairs likes vp (i + 1)), ovl ((700589, ⟨vE + 1, none⟩) :: lyE n vp vN vK vl vd vo cs ks left deg out) rest⟩ :=
  seg okP named (l2Pr pairs i x y hi hs hp false ht fun _ => none) 1000 68 700000 193 (by kernel_rfl) X hP hN
theorem appR (r : List Int) (x : Int) : (r.map dI).take r.length ++ [D.int .i64 x].map AV.d = (r ++ [x]).map dI := by
  rw [List.map_append, List.take_of_length_le (by simp)]
  rfl
noncomputable def l2Hx (h0 : 0 ≤ x) (h1 : x.toNat < n) (g0 : 0 ≤ y) (g1 : y.toNat < n) (hr1 : r1.length < 1000000000) (hr2 : r2.length < 1000000000) (hx : cs[0 + x.toNat]? = some (.sl 21 v1 0 r1.length 1)) (hy : cs[0 + y.toNat]? = some (.sl 22 v2 0 r2.length 1))
    (hy2 : (cs.set (0 + x.toNat) (.sl 21 (v1 + 1) 0 (r1.length + 1) 1))[0 + y.toNat]? = some (.sl 22 v2 0 r2.length 1)) : Nat → Option (Hint Try.prog) := fun s =>
  if s = 74 ∨ s = 89 then some (.inb x n h0 h1) else if s = 84 ∨ s = 90 then some (.inb y n g0 g1) else if s = 75 ∨ s = 112031 then some (.elt cs (0 + x.toNat) (.sl 21 v1 0 r1.length 1) hx) else if s = 85 then some (.elt cs (0 + y.toNat) (.sl 22 v2 0 r2.length 1) hy)
  else if s = 112033 then some (.elt (cs.set (0 + x.toNat) (.sl 21 (v1 + 1) 0 (r1.length + 1) 1)) (0 + y.toNat) (.sl 22 v2 0 r2.length 1) hy2)
  else if s = 78 then some (.apps (r1.map dI) r1.length 1 ⟨by simp, by omega⟩) else if s = 88 then some (.apps (r2.map dI) r2.length 1 ⟨by simp, by omega⟩) else none
theorem l2Pair (hi : i < pairs.length) (hs : i < 9223372036854775807) (hp : pairs[i] = (x, y)) (ht : (!(x == y)) = true) (h0 : 0 ≤ x) (h1 : x.toNat < n) (g0 : 0 ≤ y) (g1 : y.toNat < n) (hr1 : r1.length < 1000000000) (hr2 : r2.length < 1000000000) (hx : cs[0 + x.toNat]? = some (.sl 21 v1 0 r1.length 1)) (hy : cs[0 + y.toNat]? = some (.sl 22 v2 0 r2.length 1)) (rest : Heap) (X : Fix) (hP : X.P = Try.prog) (hN : X.N = 193) :
    AW X (loopOf Try.prog 68 8) ⟨envOf (l2L n pairs likes vp i), ovl (l2E n vp vN vK vl vd vo cs ks left deg out vE b1 b2 v1 v2 r1 r2) rest⟩ fun e' S' => e' = .normal ∧
      Weak X S' ⟨envOf (l2L n pairs likes vp (i + 1)), ovl (l2E n vp vN vK vl vd vo ((cs.set (0 + x.toNat) (.sl 21 (v1 + 1) 0 (r1.length + 1) 1)).set (0 + y.toNat) (.sl 22 (v2 + 1) 0 (r2.length + 1) 1)) ks left deg out (vE + 1) (b1 + 1) (b2 + 1) (v1 + 1) (v2 + 1) (r1 ++ [y]) (r2 ++ [x])) rest⟩ := by
  have hne : x ≠ y := by simpa using ht
  have hy2 : (cs.set (0 + x.toNat) (.sl 21 (v1 + 1) 0 (r1.length + 1) 1))[0 + y.toNat]? = some (.sl 22 v2 0 r2.length 1) := by
    rw [List.getElem?_set_ne (by omega)]
    exact hy
  unfold l2E
  rw [← appR, ← appR]
  exact seg okP named (l2Pr pairs i x y hi hs hp true ht (l2Hx n cs v1 v2 r1 r2 x y h0 h1 g0 g1 hr1 hr2 hx hy hy2)) 1000 68 700000 193 (by kernel_rfl) X hP hN
theorem l2Stop (rest : Heap) (X : Fix) (hP : X.P = Try.prog) (hN : X.N = 193) :
    AW X (loopOf Try.prog 68 8) ⟨envOf (l2L n pairs likes vp pairs.length), ovl [] rest⟩ fun e' S' => e' = .exit 2 ∧
      Weak X S' ⟨envOf (lyB n pairs likes vp), ovl [] rest⟩ :=
  seg okP named { hint := fun f s => if f = 68 then (if s = 49 then some (hLt Try.prog pairs.length pairs.length false (by simp)) else none) else none } 1000 68 700000 193 (by kernel_rfl) X hP hN
end
end Go.Avm
/-
  Paint: the graph is laid: pairs, round by round.
-/
set_option linter.unusedSectionVars false
namespace Go.Avm
open Go.Proofs

theorem weak_fits {h : Heap} {l : List (Nat × Ent)} (hf : Fits h l) : WeakH h (ovl l h) := fun X env => weak_heap (ovl_sub h l hf)
/-- The rows, counted from key K. -/
def Rows (K n : Nat) (h : Heap) (cs : List AV) (rows : List (List Int)) : Prop :=
  cs.length = n ∧ rows.length = n ∧ ∀ a, a < n → ∃ c r, cs[a]? = some c ∧ rows[a]? = some r ∧ RowAt h (K + a) c r
theorem Rows.nils (K n : Nat) (h : Heap) : Rows K n h (List.replicate n .nils) (List.replicate n []) :=
  ⟨by simp, by simp, fun a ha => ⟨.nils, [], by simp [ha], by simp [ha], .inl ⟨rfl, rfl⟩⟩⟩
/-- What lay writes. -/
def Own (k : Nat) : Prop := k ∈ [21, 22, 700589, 706253, 708193, 700594, 704203, 708082, 702344, 700404, 700792, 701180, 701568, 701956] ∨ (800000 ≤ k ∧ k < 1000000)
abbrev Rest (h h' : Heap) : Prop := ∀ k, ¬ Own k → h' k = h k
/-- The graph that is being laid. -/
structure LyAt (n vp vN vK vl vd vo : Nat) (cs ks left deg out : List AV) (h : Heap) : Prop where
  p : h 702344 = ⟨vp, some (.arr 1 [.sl 700404 vN 0 n 1, .sl 700792 vK 0 n 1, .sl 701180 vl 0 n 1, .sl 701568 vd 0 n 1, .sl 701956 vo 0 n 1])⟩
  N : h 700404 = ⟨vN, some (.arr 1 cs)⟩
  K : h 700792 = ⟨vK, some (.arr 1 ks)⟩
  l : h 701180 = ⟨vl, some (.arr 1 left)⟩
  d : h 701568 = ⟨vd, some (.arr 1 deg)⟩
  o : h 701956 = ⟨vo, some (.arr 1 out)⟩
section
variable {n vp vN vK vl vd vo : Nat} {cs ks left deg out : List AV} {h h' : Heap}
theorem LyAt.fits (a : LyAt n vp vN vK vl vd vo cs ks left deg out h) : Fits h (lyE n vp vN vK vl vd vo cs ks left deg out) := by
  intro p hp
  simp only [lyE, List.mem_cons, List.not_mem_nil, or_false] at hp
  rcases hp with rfl | rfl | rfl | rfl | rfl | rfl
  · exact ⟨by rw [a.p], .inr (by rw [a.p])⟩
  · exact ⟨by rw [a.N], .inr (by rw [a.N])⟩
  · exact ⟨by rw [a.K], .inr (by rw [a.K])⟩
  · exact ⟨by rw [a.l], .inr (by rw [a.l])⟩
  · exact ⟨by rw [a.d], .inr (by rw [a.d])⟩
  · exact ⟨by rw [a.o], .inr (by rw [a.o])⟩
theorem LyAt.near (a : LyAt n vp vN vK vl vd vo cs ks left deg out h) {cs' : List AV} (hN : h' 700404 = ⟨vN, some (.arr 1 cs')⟩) (he : ∀ k, 700000 ≤ k → k ≠ 700404 → k < 800000 → h' k = h k) : LyAt n vp vN vK vl vd vo cs' ks left deg out h' :=
  ⟨(he _ (by omega) (by omega) (by omega)).trans a.p, hN, (he _ (by omega) (by omega) (by omega)).trans a.K, (he _ (by omega) (by omega) (by omega)).trans a.l, (he _ (by omega) (by omega) (by omega)).trans a.d, (he _ (by omega) (by omega) (by omega)).trans a.o⟩
theorem LyAt.likes (a : LyAt n vp vN vK vl vd vo cs ks left deg out h) {ks' : List AV} (hN : h' 700792 = ⟨vK, some (.arr 1 ks')⟩) (he : ∀ k, 700000 ≤ k → k ≠ 700792 → k < 800000 → h' k = h k) : LyAt n vp vN vK vl vd vo cs ks' left deg out h' :=
  ⟨(he _ (by omega) (by omega) (by omega)).trans a.p, (he _ (by omega) (by omega) (by omega)).trans a.N, hN, (he _ (by omega) (by omega) (by omega)).trans a.l, (he _ (by omega) (by omega) (by omega)).trans a.d, (he _ (by omega) (by omega) (by omega)).trans a.o⟩
end
section
variable (n vp vN vK vl vd vo : Nat) (pairs likes : List (Int × Int)) (ks left deg out : List AV)
theorem pairStep (i : Nat) (h : Heap) (cs : List AV) (rows : List (List Int)) (hA : LyAt n vp vN vK vl vd vo cs ks left deg out h) (hR : Rows 800000 n h cs rows) (hn : n ≤ 60000) (hlen : ∀ r ∈ rows, r.length < 1000000000) (hi : i < pairs.length) (hs : i < 9223372036854775807) (a b : Nat) (hp : pairs[i] = ((a : Int), (b : Int))) (hab : a ≠ b) (ha : a < n) (hb : b < n) :
    ∃ h' cs', LyAt n vp vN vK vl vd vo cs' ks left deg out h' ∧ Rows 800000 n h' cs' ((rows.set a ((rows[a]?).getD [] ++ [(b : Int)])).set b ((rows[b]?).getD [] ++ [(a : Int)])) ∧ Rest h h' ∧
      ∀ X : Fix, X.P = Try.prog → X.N = 193 → AW X (loopOf Try.prog 68 8) ⟨envOf (l2L n pairs likes vp i), h⟩ fun e' S' => e' = .normal ∧ Weak X S' ⟨envOf (l2L n pairs likes vp (i + 1)), h'⟩ := by
  obtain ⟨hcl, hrl, hR⟩ := hR
  obtain ⟨ca, ra, hca, hra, hRa⟩ := hR a ha
  obtain ⟨cb, rb, hcb, hrb, hRb⟩ := hR b hb
  have hla : ra.length < 1000000000 := hlen _ (List.mem_of_getElem? hra)
  have hlb : rb.length < 1000000000 := hlen _ (List.mem_of_getElem? hrb)
  have hC := hA.N
  obtain ⟨vA, h1, w1, f1, c1, o1⟩ := focus (A := 21) (by omega) (by omega) (by omega) hC hca hRa
  obtain ⟨vB, h2, w2, f2, c2, o2⟩ := focus (A := 22) (K := 800000 + b) (a := b) (x := cb) (r := rb) (by omega) (by omega) (by omega) c1 (by rw [List.getElem?_set_ne hab]; exact hcb) (hRb.congr (o1 _ (by omega) (by omega) (by omega)))
  have f1' : h2 21 = ⟨vA, some (.arr 1 (ra.map dI))⟩ := (o2 21 (by omega) (by omega) (by omega)).trans f1
  have ho2 : ∀ k, k ≠ 21 → k ≠ 22 → k ≠ 700404 → k ≠ 800000 + a → k ≠ 800000 + b → h2 k = h k := fun k k1 k2 k3 k4 k5 => (o2 k k2 k3 k5).trans (o1 k k1 k3 k4)
  have hga : (((cs.set a (.sl 21 vA 0 ra.length 1)).set b (.sl 22 vB 0 rb.length 1)))[0 + (a : Int).toNat]? = some (.sl 21 vA 0 ra.length 1) := by
    rw [Nat.zero_add, Int.toNat_natCast, List.getElem?_set_ne (Ne.symm hab), List.getElem?_set_self (by omega)]
  have hgb : (((cs.set a (.sl 21 vA 0 ra.length 1)).set b (.sl 22 vB 0 rb.length 1)))[0 + (b : Int).toNat]? = some (.sl 22 vB 0 rb.length 1) := by
    rw [Nat.zero_add, Int.toNat_natCast, List.getElem?_set_self (by rw [List.length_set]; omega)]
  have hA2 : LyAt n vp vN vK vl vd vo ((cs.set a (.sl 21 vA 0 ra.length 1)).set b (.sl 22 vB 0 rb.length 1)) ks left deg out h2 := hA.near c2 (fun k k1 k2 k3 => ho2 k (by omega) (by omega) k2 (by omega) (by omega))
  have hfit : Fits h2 (l2E n vp vN vK vl vd vo ((cs.set a (.sl 21 vA 0 ra.length 1)).set b (.sl 22 vB 0 rb.length 1)) ks left deg out (h2 700589).ver (h2 706253).ver (h2 708193).ver vA vB ra rb) := by
    intro p hp
    simp only [l2E, List.mem_cons] at hp
    rcases hp with rfl | rfl | rfl | rfl | rfl | hp
    · exact ⟨rfl, .inl rfl⟩
    · exact ⟨rfl, .inl rfl⟩
    · exact ⟨rfl, .inl rfl⟩
    · exact ⟨by rw [f1'], .inr (by rw [f1'])⟩
    · exact ⟨by rw [f2], .inr (by rw [f2])⟩
    · exact hA2.fits p hp
  have hseg := fun X hP hN => l2Pair n vp vN vK vl vd vo pairs likes ((cs.set a (.sl 21 vA 0 ra.length 1)).set b (.sl 22 vB 0 rb.length 1)) ks left deg out i (h2 700589).ver (h2 706253).ver (h2 708193).ver vA vB ra rb a b hi hs hp (by simp; omega) (by omega) (by simpa using ha) (by omega) (by simpa using hb) hla hlb hga hgb h2 X hP hN
  generalize hcs3 : (((cs.set a (.sl 21 vA 0 ra.length 1)).set b (.sl 22 vB 0 rb.length 1)).set (0 + (a : Int).toNat) (.sl 21 (vA + 1) 0 (ra.length + 1) 1)).set (0 + (b : Int).toNat) (.sl 22 (vB + 1) 0 (rb.length + 1) 1) = cs3 at hseg
  have hcs3a : cs3[a]? = some (.sl 21 (vA + 1) 0 (ra ++ [(b : Int)]).length 1) := by
    rw [← hcs3, List.length_append, List.getElem?_set_ne (by simp; omega), Nat.zero_add, Int.toNat_natCast, List.getElem?_set_self (by simp; omega)]
    rfl
  have hcs3b : cs3[b]? = some (.sl 22 (vB + 1) 0 (rb ++ [(a : Int)]).length 1) := by
    rw [← hcs3, List.length_append, Nat.zero_add, Nat.zero_add, Int.toNat_natCast, Int.toNat_natCast, List.getElem?_set_self (by simp; omega)]
    rfl
  have hcs3o : ∀ t, t ≠ a → t ≠ b → cs3[t]? = cs[t]? := fun t h1 h2 => by
    rw [← hcs3, List.getElem?_set_ne (by simp; omega), List.getElem?_set_ne (by simp; omega), List.getElem?_set_ne (by omega), List.getElem?_set_ne (by omega)]
  have hcs3l : cs3.length = n := by rw [← hcs3]; simpa using hcl
  generalize hh3 : ovl (l2E n vp vN vK vl vd vo cs3 ks left deg out ((h2 700589).ver + 1) ((h2 706253).ver + 1) ((h2 708193).ver + 1) (vA + 1) (vB + 1) (ra ++ [(b : Int)]) (rb ++ [(a : Int)])) h2 = h3 at hseg
  have e21 : h3 21 = ⟨vA + 1, some (.arr 1 ((ra ++ [(b : Int)]).map dI))⟩ := by rw [← hh3]; rfl
  have e22 : h3 22 = ⟨vB + 1, some (.arr 1 ((rb ++ [(a : Int)]).map dI))⟩ := by rw [← hh3]; rfl
  have hA3 : LyAt n vp vN vK vl vd vo cs3 ks left deg out h3 := by rw [← hh3]; exact ⟨rfl, rfl, rfl, rfl, rfl, rfl⟩
  have ho3 : ∀ k, k ∉ [21, 22, 700589, 706253, 708193, 702344, 700404, 700792, 701180, 701568, 701956] → h3 k = h2 k := fun k hk => by
    rw [← hh3]
    refine ovl_ne _ _ (fun hx => hk ?_)
    simp only [l2E, lyE, List.map_cons, List.map_nil, List.mem_cons, List.not_mem_nil, or_false] at hx ⊢
    omega
  obtain ⟨y1, h4, w4, r4, c4, _, o4⟩ := unfocus (A := 21) (K := 800000 + a) (a := a) (r := ra ++ [(b : Int)]) (by omega) (by omega) (by omega) hA3.N hcs3a e21
  obtain ⟨y2, h5, w5, r5, c5, _, o5⟩ := unfocus (A := 22) (K := 800000 + b) (a := b) (r := rb ++ [(a : Int)]) (by omega) (by omega) (by omega) c4 (by rw [List.getElem?_set_ne hab]; exact hcs3b) ((o4 22 (by omega) (by omega) (by omega)).trans e22)
  have ho5 : ∀ k, k ≠ 21 → k ≠ 22 → k ≠ 700404 → k ≠ 800000 + a → k ≠ 800000 + b → h5 k = h3 k := fun k k1 k2 k3 k4 k5 => (o5 k k2 k3 k5).trans (o4 k k1 k3 k4)
  refine ⟨h5, (cs3.set a y1).set b y2, hA3.near c5 (fun k k1 k2 k3 => ho5 k (by omega) (by omega) k2 (by omega) (by omega)), ⟨by simpa using hcs3l, by simpa using hrl, fun t ht => ?_⟩, fun k hk => ?_, fun X hP hN => ?_⟩
  · by_cases hta : t = a
    · subst hta
      refine ⟨y1, ra ++ [(b : Int)], ?_, ?_, r4.congr (o5 _ (by omega) (by omega) (by omega))⟩
      · rw [List.getElem?_set_ne (Ne.symm hab), List.getElem?_set_self (by omega)]
      · rw [List.getElem?_set_ne (Ne.symm hab), List.getElem?_set_self (by omega), hra]
        rfl
    · by_cases htb : t = b
      · subst htb
        refine ⟨y2, rb ++ [(a : Int)], ?_, ?_, r5⟩
        · rw [List.getElem?_set_self (by rw [List.length_set]; omega)]
        · rw [List.getElem?_set_self (by rw [List.length_set]; omega), hrb]
          rfl
      · obtain ⟨c, r, g1, g2, g3⟩ := hR t ht
        refine ⟨c, r, ?_, ?_, g3.congr ?_⟩
        · rw [List.getElem?_set_ne (Ne.symm htb), List.getElem?_set_ne (Ne.symm hta), hcs3o t hta htb]
          exact g1
        · rw [List.getElem?_set_ne (Ne.symm htb), List.getElem?_set_ne (Ne.symm hta)]
          exact g2
        · rw [ho5 _ (by omega) (by omega) (by omega) (by omega) (by omega), ho3 _ (by simp; omega), ho2 _ (by omega) (by omega) (by omega) (by omega) (by omega)]
  · have h1 : k ∉ [21, 22, 700589, 706253, 708193, 702344, 700404, 700792, 701180, 701568, 701956] := fun hx => hk (.inl (by
      simp only [List.mem_cons, List.not_mem_nil, or_false] at hx ⊢
      omega))
    have h2 : ¬ (800000 ≤ k ∧ k < 1000000) := fun hx => hk (.inr hx)
    have h1' := h1
    simp only [List.mem_cons, List.not_mem_nil, or_false, not_or] at h1'
    rw [ho5 _ (by omega) (by omega) (by omega) (by omega) (by omega), ho3 _ h1, ho2 _ (by omega) (by omega) (by omega) (by omega) (by omega)]
  · refine AW.weak (((w1.trans w2).trans (weak_fits hfit)) X _) ((hseg X hP hN).mono ?_)
    rintro e' S' ⟨he, hw⟩
    exact ⟨he, (hw.trans (w4 X _)).trans (w5 X _)⟩
def addP (rows : List (List Int)) (p : Int × Int) : List (List Int) :=
  if p.1 = p.2 then rows else (rows.set p.1.toNat ((rows[p.1.toNat]?).getD [] ++ [p.2])).set p.2.toNat ((rows[p.2.toNat]?).getD [] ++ [p.1])
theorem addP_len {rows : List (List Int)} {p : Int × Int} {m : Nat} (h : ∀ r ∈ rows, r.length ≤ m) : ∀ r ∈ addP rows p, r.length ≤ m + 1 := by
  have hg : ∀ t : Nat, ((rows[t]?).getD []).length ≤ m := fun t => by
    cases ht : rows[t]? with
    | none => exact Nat.zero_le _
    | some r => exact h r (List.mem_of_getElem? ht)
  intro r hr
  unfold addP at hr
  split at hr
  · have := h r hr; omega
  · rcases List.mem_or_eq_of_mem_set hr with hr | rfl
    · rcases List.mem_or_eq_of_mem_set hr with hr | rfl
      · have := h r hr; omega
      · rw [List.length_append]; have := hg p.1.toNat; simp; omega
    · rw [List.length_append]; have := hg p.2.toNat; simp; omega
theorem l2Loop (hn : n ≤ 60000) (hl : pairs.length ≤ 100000000) (hr : ∀ p ∈ pairs, (0 ≤ p.1 ∧ p.1.toNat < n) ∧ 0 ≤ p.2 ∧ p.2.toNat < n) : ∀ (m i : Nat) (h : Heap) (cs : List AV) (rows : List (List Int)), pairs.length - i = m → i ≤ pairs.length → LyAt n vp vN vK vl vd vo cs ks left deg out h → Rows 800000 n h cs rows → (∀ r ∈ rows, r.length ≤ i) →
    ∃ h' cs', LyAt n vp vN vK vl vd vo cs' ks left deg out h' ∧ Rows 800000 n h' cs' ((pairs.drop i).foldl addP rows) ∧ Rest h h' ∧
      ∀ X : Fix, X.P = Try.prog → X.N = 193 → LW X (loopOf Try.prog 68 8) ⟨envOf (l2L n pairs likes vp i), h⟩ fun e' S' => e' = .exit 2 ∧ S' = ⟨envOf (lyB n pairs likes vp), h'⟩
  | 0, i, h, cs, rows, hm, hi, hA, hR, hlen => by
    have : i = pairs.length := by omega
    subst this
    exact ⟨h, cs, hA, by rw [List.drop_length]; exact hR, fun _ _ => rfl, fun X hP hN => lw_end (l2Stop n vp pairs likes h X hP hN) (by simp)⟩
  | m + 1, i, h, cs, rows, hm, hi, hA, hR, hlen => by
    have hlt : i < pairs.length := by omega
    obtain ⟨⟨h0, h1⟩, g0, g1⟩ := hr pairs[i] (List.getElem_mem hlt)
    rw [List.drop_eq_getElem_cons hlt, List.foldl_cons]
    by_cases he : pairs[i].1 = pairs[i].2
    · obtain ⟨x, hx⟩ : ∃ x, pairs[i] = (x, x) := ⟨pairs[i].1, Prod.ext rfl he.symm⟩
      have hadd : addP rows pairs[i] = rows := by rw [addP, if_pos he]
      rw [hadd]
      have hseg := fun X hP hN => l2Same n vp vN vK vl vd vo pairs likes cs ks left deg out i (h 700589).ver x x hlt (by omega) hx (by simp) h X hP hN
      have hfit : Fits h ((700589, ⟨(h 700589).ver, none⟩) :: lyE n vp vN vK vl vd vo cs ks left deg out) := by
        intro p hp
        rcases List.mem_cons.1 hp with rfl | hp
        · exact ⟨rfl, .inl rfl⟩
        · exact hA.fits p hp
      generalize hh2 : ovl ((700589, ⟨(h 700589).ver + 1, none⟩) :: lyE n vp vN vK vl vd vo cs ks left deg out) h = h2 at hseg
      have hA2 : LyAt n vp vN vK vl vd vo cs ks left deg out h2 := by rw [← hh2]; exact ⟨rfl, rfl, rfl, rfl, rfl, rfl⟩
      have ho2 : ∀ k, k ∉ [700589, 702344, 700404, 700792, 701180, 701568, 701956] → h2 k = h k := fun k hk => by
        rw [← hh2]
        refine ovl_ne _ _ (fun hx => hk ?_)
        simp only [lyE, List.map_cons, List.map_nil, List.mem_cons, List.not_mem_nil, or_false] at hx ⊢
        omega
      obtain ⟨h', cs', q1, q2, q3, q4⟩ := l2Loop hn hl hr m (i + 1) h2 cs rows (by omega) (by omega) hA2 ⟨hR.1, hR.2.1, fun a ha => by
        obtain ⟨c, r, e1, e2, e3⟩ := hR.2.2 a ha
        exact ⟨c, r, e1, e2, e3.congr (ho2 _ (by simp; omega))⟩⟩ (fun r hr => by have := hlen r hr; omega)
      refine ⟨h', cs', q1, q2, fun k hk => (q3 k hk).trans (ho2 k (fun hx => hk (.inl ?_))), fun X hP hN => LW.weak (weak_fits hfit X _) (lw_seg (hseg X hP hN) (q4 X hP hN))⟩
      simp only [List.mem_cons, List.not_mem_nil, or_false] at hx ⊢
      omega
    · have hp : pairs[i] = (((pairs[i].1.toNat : Nat) : Int), ((pairs[i].2.toNat : Nat) : Int)) := Prod.ext (by simp only; omega) (by simp only; omega)
      obtain ⟨h2, cs2, s1, s2, s3, s4⟩ := pairStep n vp vN vK vl vd vo pairs likes ks left deg out i h cs rows hA hR hn (fun r hr => by have := hlen r hr; omega) hlt (by omega) pairs[i].1.toNat pairs[i].2.toNat hp (by omega) h1 g1
      have hadd : addP rows pairs[i] = (rows.set pairs[i].1.toNat ((rows[pairs[i].1.toNat]?).getD [] ++ [((pairs[i].2.toNat : Nat) : Int)])).set pairs[i].2.toNat ((rows[pairs[i].2.toNat]?).getD [] ++ [((pairs[i].1.toNat : Nat) : Int)]) := by
        rw [addP, if_neg he, Int.toNat_of_nonneg h0, Int.toNat_of_nonneg g0]
      rw [← hadd] at s2
      obtain ⟨h', cs', q1, q2, q3, q4⟩ := l2Loop hn hl hr m (i + 1) h2 cs2 _ (by omega) (by omega) s1 s2 (addP_len hlen)
      exact ⟨h', cs', q1, q2, fun k hk => (q3 k hk).trans (s3 k hk), fun X hP hN => lw_seg (s4 X hP hN) (q4 X hP hN)⟩
end
end Go.Avm
/-
  Paint: the graph is laid: rows sorted, each neighbour once.
-/
set_option linter.unusedSectionVars false
namespace Go.Avm
open Go.Proofs

theorem fits_one {h : Heap} {k v : Nat} {ob : Ob} (hf : Fits h [(k, ⟨v, some ob⟩)]) : h k = ⟨v, some ob⟩ := by
  have h1 := hf (k, _) (List.mem_cons_self ..)
  obtain ⟨a, b⟩ := h1
  have b' := b.resolve_left (by simp)
  have e : h k = ⟨(h k).ver, (h k).ob⟩ := rfl
  rw [e, ← a, ← b']
section
variable (n vp vN vK vl vd vo : Nat) (pairs likes : List (Int × Int)) (cs ks left deg out : List AV) (i v1 : Nat) (r : List Int)
def l3L (vp : Nat) (i : Nat) : List (Nat × AV) := [(0, dN n), (1, .d (pairsD pairs)), (2, .d (pairsD likes)), (7, lyP vp), (92, dN n), (93, dN i)]
theorem l3Start (rest : Heap) (X : Fix) (hP : X.P = Try.prog) (hN : X.N = 193) :
    AW X (seqL (seqL (seqR (seqR (seqR (seqR (bodyOf Try.prog 68))))))) ⟨envOf (lyB n pairs likes vp), ovl [] rest⟩ fun e' S' => e' = .normal ∧ Weak X S' ⟨envOf (l3L n pairs likes vp 0), ovl [] rest⟩ :=
  seg okP named {} 1000 68 700000 193 (by kernel_rfl) X hP hN
theorem l3Stop (rest : Heap) (X : Fix) (hP : X.P = Try.prog) (hN : X.N = 193) :
    AW X (loopOf Try.prog 68 15) ⟨envOf (l3L n pairs likes vp n), ovl [] rest⟩ fun e' S' => e' = .exit 4 ∧ Weak X S' ⟨envOf (lyB n pairs likes vp), ovl [] rest⟩ :=
  seg okP named { hint := fun f s => if f = 68 then (if s = 94 then some (hLt Try.prog n n false (by simp)) else none) else none } 1000 68 700000 193 (by kernel_rfl) X hP hN
def l3E (n vp vN vK vl vd vo : Nat) (cs ks left deg out : List AV) (v1 : Nat) (es : List AV) : List (Nat × Ent) := (21, ⟨v1, some (.arr 1 es)⟩) :: lyE n vp vN vK vl vd vo cs ks left deg out
def l3C (v1 : Nat) (r : List Int) (b : Bool) (r2 : List Int) (h97 : ∀ h : Heap, h 21 = ⟨v1, some (.arr 1 (r.map dI))⟩ → HCall Try.prog 97 [.sl 21 v1 0 r.length 1] h [dB b] h) (h79 : b = false → ∀ h : Heap, h 21 = ⟨v1, some (.arr 1 (r.map dI))⟩ → HCall Try.prog 79 [.sl 21 v1 0 r.length 1] h [] (upd h 21 ⟨v1, some (.arr 1 (r2.map dI))⟩))
    (h81 : ∀ h : Heap, h 21 = ⟨v1, some (.arr 1 (r2.map dI))⟩ → HCall Try.prog 81 [.sl 21 v1 0 r.length 1] h [.sl 21 v1 0 (Go.Lib.compact r2).length 1] (upd h 21 ⟨v1, some (.arr 1 ((compZ r2).map dI))⟩)) (hb : b = false) : Nat → Nat → Nat → Option (CHint Try.prog) := fun f s _ =>
  if f = 68 then (if s = 103 then some ⟨97, [.sl 21 v1 0 r.length 1], [(21, ⟨v1, some (.arr 1 (r.map dI))⟩)], [dB b], [], fun h hf => h97 h (fits_one hf)⟩
    else if s = 112 then some ⟨79, [.sl 21 v1 0 r.length 1], [(21, ⟨v1, some (.arr 1 (r.map dI))⟩)], [], [(21, ⟨v1, some (.arr 1 (r2.map dI))⟩)], fun h hf => h79 hb h (fits_one hf)⟩
    else if s = 125 then some ⟨81, [.sl 21 v1 0 r.length 1], [(21, ⟨v1, some (.arr 1 (r2.map dI))⟩)], [.sl 21 v1 0 (Go.Lib.compact r2).length 1], [(21, ⟨v1, some (.arr 1 ((compZ r2).map dI))⟩)], fun h hf => h81 h (fits_one hf)⟩ else none) else none
def l3C1 (v1 : Nat) (r : List Int) (h97 : ∀ h : Heap, h 21 = ⟨v1, some (.arr 1 (r.map dI))⟩ → HCall Try.prog 97 [.sl 21 v1 0 r.length 1] h [dB true] h)
    (h81 : ∀ h : Heap, h 21 = ⟨v1, some (.arr 1 (r.map dI))⟩ → HCall Try.prog 81 [.sl 21 v1 0 r.length 1] h [.sl 21 v1 0 (Go.Lib.compact r).length 1] (upd h 21 ⟨v1, some (.arr 1 ((compZ r).map dI))⟩)) : Nat → Nat → Nat → Option (CHint Try.prog) := fun f s _ =>
  if f = 68 then (if s = 103 then some ⟨97, [.sl 21 v1 0 r.length 1], [(21, ⟨v1, some (.arr 1 (r.map dI))⟩)], [dB true], [], fun h hf => h97 h (fits_one hf)⟩
    else if s = 125 then some ⟨81, [.sl 21 v1 0 r.length 1], [(21, ⟨v1, some (.arr 1 (r.map dI))⟩)], [.sl 21 v1 0 (Go.Lib.compact r).length 1], [(21, ⟨v1, some (.arr 1 ((compZ r).map dI))⟩)], fun h hf => h81 h (fits_one hf)⟩ else none) else none
noncomputable def l3Pr (hi : i < n) (hs : i < 9223372036854775807) (hc : cs[0 + i]? = some (.sl 21 v1 0 r.length 1)) (cl : Nat → Nat → Nat → Option (CHint Try.prog)) : Par Try.prog :=
  { hint := fun f s => if f = 68 then (if s = 94 then some (hLt Try.prog i n true (by simpa using hi)) else if s = 101 ∨ s = 110 ∨ s = 123 ∨ s = 126 then some (.inb ((i : Nat) : Int) n (by omega) (by simpa using hi)) else if s = 102 ∨ s = 111 ∨ s = 124 ∨ s = 119014 then some (.elt cs (0 + i) (.sl 21 v1 0 r.length 1) hc)
      else if s = 127 then some (hSucc Try.prog i hs) else none) else none
    calls := cl }
theorem l3True (hi : i < n) (hs : i < 9223372036854775807) (hc : cs[0 + i]? = some (.sl 21 v1 0 r.length 1)) (hl : r.length < 1000000000) (h97 : ∀ h : Heap, h 21 = ⟨v1, some (.arr 1 (r.map dI))⟩ → HCall Try.prog 97 [.sl 21 v1 0 r.length 1] h [dB true] h) (rest : Heap) (X : Fix) (hP : X.P = Try.prog) (hN : X.N = 193) :
    AW X (loopOf Try.prog 68 15) ⟨envOf (l3L n pairs likes vp i), ovl (l3E n vp vN vK vl vd vo cs ks left deg out v1 (r.map dI)) rest⟩ fun e' S' => e' = .normal ∧
      Weak X S' ⟨envOf (l3L n pairs likes vp (i + 1)), ovl (l3E n vp vN vK vl vd vo (cs.set (0 + i) (.sl 21 v1 0 (Go.Lib.compact r).length 1)) ks left deg out v1 ((compZ r).map dI)) rest⟩ :=
  seg okP named (l3Pr n cs i v1 r hi hs hc (l3C1 v1 r h97 fun h hk => compC hl hk)) 1000 68 700000 193 (by kernel_rfl) X hP hN
theorem l3False (hi : i < n) (hs : i < 9223372036854775807) (hc : cs[0 + i]? = some (.sl 21 v1 0 r.length 1)) (hl : r.length < 1000000000) (hne : r ≠ []) (h97 : ∀ h : Heap, h 21 = ⟨v1, some (.arr 1 (r.map dI))⟩ → HCall Try.prog 97 [.sl 21 v1 0 r.length 1] h [dB false] h) (rest : Heap) (X : Fix) (hP : X.P = Try.prog) (hN : X.N = 193) :
    AW X (loopOf Try.prog 68 15) ⟨envOf (l3L n pairs likes vp i), ovl (l3E n vp vN vK vl vd vo cs ks left deg out v1 (r.map dI)) rest⟩ fun e' S' => e' = .normal ∧
      Weak X S' ⟨envOf (l3L n pairs likes vp (i + 1)), ovl (l3E n vp vN vK vl vd vo (cs.set (0 + i) (.sl 21 v1 0 (Go.Lib.compact (sortZ r)).length 1)) ks left deg out v1 ((compZ (sortZ r)).map dI)) rest⟩ :=
  seg okP named (l3Pr n cs i v1 r hi hs hc (l3C v1 r false (sortZ r) h97 (fun _ h hk => sortC hne hl hk) (fun h hk => by
    have e : r.length = (sortZ r).length := by simp [sortZ]
    rw [e]
    exact compC (by rw [← e]; exact hl) hk) rfl)) 1000 68 700000 193 (by kernel_rfl) X hP hN
end
def Same (r' r : List Int) : Prop := (∀ x, x ∈ r' ↔ x ∈ r) ∧ r'.length ≤ r.length
theorem Same.compact (r : List Int) : Same (Go.Lib.compact r) r := ⟨fun _ => mem_compact, compact_len r⟩
theorem Same.sort (r : List Int) : Same (Go.Lib.compact (sortZ r)) r := ⟨fun x => by rw [mem_compact, sortZ, List.mem_mergeSort], by
  have := compact_len (sortZ r)
  simpa [sortZ] using this⟩
theorem Same.fin (r : List Int) : Same (finR r) r := by
  unfold finR
  split
  · exact Same.compact r
  · exact Same.sort r
section
variable (n vp vN vK vl vd vo : Nat) (pairs likes : List (Int × Int)) (ks left deg out : List AV)
theorem l3Step (i : Nat) (h : Heap) (cs : List AV) (c : AV) (r : List Int) (hA : LyAt n vp vN vK vl vd vo cs ks left deg out h) (hcl : cs.length = n) (hn : n ≤ 60000) (hl : r.length < 1000000000) (hi : i < n) (hc : cs[i]? = some c) (hr : RowAt h (800000 + i) c r) :
    ∃ h', LyAt n vp vN vK vl vd vo (cs.set i (.d (rowD (finR r)))) ks left deg out h' ∧ (∀ k, ¬ Own k ∨ (800000 ≤ k ∧ k ≠ 800000 + i) → h' k = h k) ∧
      ∀ X : Fix, X.P = Try.prog → X.N = 193 → AW X (loopOf Try.prog 68 15) ⟨envOf (l3L n pairs likes vp i), h⟩ fun e' S' => e' = .normal ∧ Weak X S' ⟨envOf (l3L n pairs likes vp (i + 1)), h'⟩ := by
  obtain ⟨vA, h1, w1, f1, c1, o1⟩ := focus (A := 21) (by omega) (by omega) (by omega) hA.N hc hr
  have hA1 : LyAt n vp vN vK vl vd vo (cs.set i (.sl 21 vA 0 r.length 1)) ks left deg out h1 := hA.near c1 (fun k k1 k2 k3 => o1 k (by omega) k2 (by omega))
  have hfit : Fits h1 (l3E n vp vN vK vl vd vo (cs.set i (.sl 21 vA 0 r.length 1)) ks left deg out vA (r.map dI)) := by
    intro p hp
    rcases List.mem_cons.1 hp with rfl | hp
    · exact ⟨by rw [f1], .inr (by rw [f1])⟩
    · exact hA1.fits p hp
  have hg : (cs.set i (.sl 21 vA 0 r.length 1))[0 + i]? = some (.sl 21 vA 0 r.length 1) := by
    rw [Nat.zero_add, List.getElem?_set_self (by omega)]
  obtain ⟨hb, h97⟩ := issC (k := 21) (v := vA) hl
  obtain ⟨r2, hr2, hr2l, hseg⟩ : ∃ r2 : List Int, Go.Lib.compact r2 = finR r ∧ r2.length = r.length ∧ ∀ X : Fix, X.P = Try.prog → X.N = 193 → AW X (loopOf Try.prog 68 15) ⟨envOf (l3L n pairs likes vp i), ovl (l3E n vp vN vK vl vd vo (cs.set i (.sl 21 vA 0 r.length 1)) ks left deg out vA (r.map dI)) h1⟩ fun e' S' => e' = .normal ∧
      Weak X S' ⟨envOf (l3L n pairs likes vp (i + 1)), ovl (l3E n vp vN vK vl vd vo ((cs.set i (.sl 21 vA 0 r.length 1)).set (0 + i) (.sl 21 vA 0 (Go.Lib.compact r2).length 1)) ks left deg out vA ((compZ r2).map dI)) h1⟩ := by
    cases hbb : sortedB r with
    | true =>
      rw [hbb] at h97
      exact ⟨r, by rw [finR, hbb]; rfl, rfl, fun X hP hN => l3True n vp vN vK vl vd vo pairs likes _ ks left deg out i vA r hi (by omega) hg hl (fun h hk => h97 hk) h1 X hP hN⟩
    | false =>
      rw [hbb] at h97
      exact ⟨sortZ r, by rw [finR, hbb]; rfl, by simp [sortZ], fun X hP hN => l3False n vp vN vK vl vd vo pairs likes _ ks left deg out i vA r hi (by omega) hg hl (hb hbb) (fun h hk => h97 hk) h1 X hP hN⟩
  rw [Nat.zero_add, List.set_set] at hseg
  generalize hh2 : ovl (l3E n vp vN vK vl vd vo (cs.set i (.sl 21 vA 0 (Go.Lib.compact r2).length 1)) ks left deg out vA ((compZ r2).map dI)) h1 = h2 at hseg
  have e21 : h2 21 = ⟨vA, some (.arr 1 ((compZ r2).map dI))⟩ := by rw [← hh2]; rfl
  have hA2 : LyAt n vp vN vK vl vd vo (cs.set i (.sl 21 vA 0 (Go.Lib.compact r2).length 1)) ks left deg out h2 := by rw [← hh2]; exact ⟨rfl, rfl, rfl, rfl, rfl, rfl⟩
  have ho2 : ∀ k, k ∉ [21, 702344, 700404, 700792, 701180, 701568, 701956] → h2 k = h1 k := fun k hk => by
    rw [← hh2]
    refine ovl_ne _ _ (fun hx => hk ?_)
    simp only [l3E, lyE, List.map_cons, List.map_nil, List.mem_cons, List.not_mem_nil, or_false] at hx ⊢
    omega
  obtain ⟨h3, w3, c3, _, o3⟩ := freezeCell (n := 1) (A := 21) (a := i) (len := (Go.Lib.compact r2).length) (ds := (Go.Lib.compact r2).map fun x => .int .i64 x) (by omega) hA2.N (by rw [List.getElem?_set_self (by omega)]) e21 (by simp [compZ_len]; exact compact_len r2) (by
    rw [compZ, List.map_append, List.take_left' (by simp)]
    exact viewI 0 h2 _)
  rw [List.set_set] at c3
  rw [hr2] at c3
  refine ⟨h3, hA2.near c3 (fun k k1 k2 k3 => o3 k (by omega) k2), fun k hk => ?_, fun X hP hN => AW.weak ((w1.trans (weak_fits hfit)) X _) ((hseg X hP hN).mono ?_)⟩
  · have hk2 : k ∉ [21, 702344, 700404, 700792, 701180, 701568, 701956] ∧ k ≠ 800000 + i := by
      rcases hk with hk | hk
      · refine ⟨fun hx => hk (.inl ?_), fun hx => hk (.inr (by omega))⟩
        simp only [List.mem_cons, List.not_mem_nil, or_false] at hx ⊢
        omega
      · exact ⟨by simp; omega, hk.2⟩
    have hk3 := hk2.1
    simp only [List.mem_cons, List.not_mem_nil, or_false, not_or] at hk3
    rw [o3 k (by omega) (by omega), ho2 k hk2.1, o1 k (by omega) (by omega) hk2.2]
  · rintro e' S' ⟨he, hw⟩
    exact ⟨he, hw.trans (w3 X _)⟩
theorem l3Loop (hn : n ≤ 60000) (rows : List (List Int)) (hrl : rows.length = n) (hrr : ∀ r ∈ rows, r.length < 1000000000) : ∀ (m i : Nat) (h : Heap) (cs : List AV), n - i = m → i ≤ n → LyAt n vp vN vK vl vd vo cs ks left deg out h → cs.length = n →
      (∀ t, t < i → ∃ r, rows[t]? = some r ∧ cs[t]? = some (.d (rowD (finR r)))) → (∀ t, i ≤ t → t < n → ∃ c r, cs[t]? = some c ∧ rows[t]? = some r ∧ RowAt h (800000 + t) c r) →
    ∃ h' cs', LyAt n vp vN vK vl vd vo cs' ks left deg out h' ∧ cs'.length = n ∧ (∀ t, t < n → ∃ r, rows[t]? = some r ∧ cs'[t]? = some (.d (rowD (finR r)))) ∧ Rest h h' ∧
      ∀ X : Fix, X.P = Try.prog → X.N = 193 → LW X (loopOf Try.prog 68 15) ⟨envOf (l3L n pairs likes vp i), h⟩ fun e' S' => e' = .exit 4 ∧ S' = ⟨envOf (lyB n pairs likes vp), h'⟩
  | 0, i, h, cs, hm, hi, hA, hcl, hd, hR => by
    have : i = n := by omega
    subst this
    exact ⟨h, cs, hA, hcl, hd, fun _ _ => rfl, fun X hP hN => lw_end (l3Stop i vp pairs likes h X hP hN) (by simp)⟩
  | m + 1, i, h, cs, hm, hi, hA, hcl, hd, hR => by
    have hlt : i < n := by omega
    obtain ⟨c, r, g1, g2, g3⟩ := hR i (Nat.le_refl _) hlt
    obtain ⟨h2, s2, s3, s4⟩ := l3Step n vp vN vK vl vd vo pairs likes ks left deg out i h cs c r hA hcl hn (hrr _ (List.mem_of_getElem? g2)) hlt g1 g3
    obtain ⟨h', cs', q1, q2, q3, q4, q5⟩ := l3Loop hn rows hrl hrr m (i + 1) h2 (cs.set i (.d (rowD (finR r)))) (by omega) (by omega) s2 (by simpa using hcl) (fun t ht => by
      by_cases hti : t = i
      · subst hti
        exact ⟨r, g2, by rw [List.getElem?_set_self (by omega)]⟩
      · obtain ⟨a, e1, e3⟩ := hd t (by omega)
        exact ⟨a, e1, by rw [List.getElem?_set_ne (Ne.symm hti)]; exact e3⟩) (fun t ht1 ht2 => by
      obtain ⟨c2, r2, e1, e2, e3⟩ := hR t (by omega) ht2
      exact ⟨c2, r2, by rw [List.getElem?_set_ne (by omega)]; exact e1, e2, e3.congr (s3 _ (.inr (by omega)))⟩)
    exact ⟨h', cs', q1, q2, q3, fun k hk => (q4 k hk).trans (s3 k (.inl hk)), fun X hP hN => lw_seg (s4 X hP hN) (q5 X hP hN)⟩
end
end Go.Avm
/-
  Paint: the graph is laid: likes, a round.
-/
set_option linter.unusedSectionVars false
namespace Go.Avm
open Go.Proofs

section
variable (n vp vN vK vl vd vo : Nat) (pairs likes : List (Int × Int)) (cs ks left deg out : List AV) (i : Nat)
def l4L (vp : Nat) (i : Nat) : List (Nat × AV) := [(0, dN n), (1, .d (pairsD pairs)), (2, .d (pairsD likes)), (7, lyP vp), (128, .d (pairsD likes)), (129, dN likes.length), (130, dN i)]
theorem l4Start (rest : Heap) (X : Fix) (hP : X.P = Try.prog) (hN : X.N = 193) :
    AW X (seqL (seqL (seqR (seqR (seqR (seqR (seqR (bodyOf Try.prog 68)))))))) ⟨envOf (lyB n pairs likes vp), ovl [] rest⟩ fun e' S' => e' = .normal ∧ Weak X S' ⟨envOf (l4L n pairs likes vp 0), ovl [] rest⟩ :=
  seg okP named { hint := fun f s => if f = 68 then (if s = 129 then some (.val (dN (likes.map pairD).length) (dN likes.length) (by simp)) else none) else none } 1000 68 700000 193 (by kernel_rfl) X hP hN
theorem l4Stop (rest : Heap) (X : Fix) (hP : X.P = Try.prog) (hN : X.N = 193) :
    AW X (loopOf Try.prog 68 22) ⟨envOf (l4L n pairs likes vp likes.length), ovl [] rest⟩ fun e' S' => e' = .exit 6 ∧ Weak X S' ⟨envOf (lyB n pairs likes vp), ovl [] rest⟩ :=
  seg okP named { hint := fun f s => if f = 68 then (if s = 131 then some (hLt Try.prog likes.length likes.length false (by simp)) else none) else none } 1000 68 700000 193 (by kernel_rfl) X hP hN
def l4T (vE b1 b2 : Nat) : List (Nat × Ent) := [(700594, ⟨vE, none⟩), (704203, ⟨b1, none⟩), (708082, ⟨b2, none⟩)]
def l4E (n vp vN vK vl vd vo : Nat) (cs ks left deg out : List AV) (vE b1 b2 v1 v2 : Nat) (e1 e2 : List AV) : List (Nat × Ent) :=
  (700594, ⟨vE, none⟩) :: (704203, ⟨b1, none⟩) :: (708082, ⟨b2, none⟩) :: (21, ⟨v1, some (.arr 1 e1)⟩) :: (22, ⟨v2, some (.arr 1 e2)⟩) :: lyE n vp vN vK vl vd vo cs ks left deg out
def l4F (n vp vN vK vl vd vo : Nat) (cs ks left deg out : List AV) (vE b1 b2 v1 : Nat) (e1 : List AV) : List (Nat × Ent) :=
  (700594, ⟨vE, none⟩) :: (704203, ⟨b1, none⟩) :: (708082, ⟨b2, none⟩) :: (21, ⟨v1, some (.arr 1 e1)⟩) :: lyE n vp vN vK vl vd vo cs ks left deg out
variable (vE b1 b2 v1 v2 : Nat) (r1 r2 : List Int) (x y : Int)
noncomputable def l4Pr (hi : i < likes.length) (hs : i < 9223372036854775807) (hp : likes[i] = (x, y)) (hint2 : Nat → Option (Hint Try.prog)) : Par Try.prog :=
  { hint := fun f s => if f = 68 then (if s = 131 then some (hLt Try.prog i likes.length true (by simpa using hi)) else if s = 132 then some (.idx (likes.map pairD) ((i : Nat) : Int) (pairD (x, y)) (by omega) (by rw [← hp]; exact getP hi))
      else if s = 172 then some (hSucc Try.prog i hs) else hint2 s) else none }
noncomputable def l4Hx (h0 : 0 ≤ x) (h1 : x.toNat < n) (g0 : 0 ≤ y) (g1 : y.toNat < n) (hr1 : r1.length < 1000000000) (hr2 : r2.length < 1000000000) (hx : ks[0 + x.toNat]? = some (.sl 21 v1 0 r1.length 1))
    (hy2 : (ks.set (0 + x.toNat) (.sl 21 (v1 + 1) 0 (r1.length + 1) 1))[0 + y.toNat]? = some (.sl 22 v2 0 r2.length 1)) : Nat → Option (Hint Try.prog) := fun s =>
  if s = 146 ∨ s = 152 then some (.inb x n h0 h1) else if s = 165 ∨ s = 171 then some (.inb y n g0 g1) else if s = 147 ∨ s = 124019 then some (.elt ks (0 + x.toNat) (.sl 21 v1 0 r1.length 1) hx)
  else if s = 166 ∨ s = 125019 then some (.elt (ks.set (0 + x.toNat) (.sl 21 (v1 + 1) 0 (r1.length + 1) 1)) (0 + y.toNat) (.sl 22 v2 0 r2.length 1) hy2)
  else if s = 151 then some (.apps (r1.map dI) r1.length 1 ⟨by simp, by omega⟩) else if s = 170 then some (.apps (r2.map dI) r2.length 1 ⟨by simp, by omega⟩) else none
theorem l4Pair (hi : i < likes.length) (hs : i < 9223372036854775807) (hp : likes[i] = (x, y)) (hne : x ≠ y) (h0 : 0 ≤ x) (h1 : x.toNat < n) (g0 : 0 ≤ y) (g1 : y.toNat < n) (hr1 : r1.length < 1000000000) (hr2 : r2.length < 1000000000) (hx : ks[0 + x.toNat]? = some (.sl 21 v1 0 r1.length 1)) (hy : ks[0 + y.toNat]? = some (.sl 22 v2 0 r2.length 1)) (rest : Heap) (X : Fix) (hP : X.P = Try.prog) (hN : X.N = 193) :
    AW X (loopOf Try.prog 68 22) ⟨envOf (l4L n pairs likes vp i), ovl (l4E n vp vN vK vl vd vo cs ks left deg out vE b1 b2 v1 v2 (r1.map dI) (r2.map dI)) rest⟩ fun e' S' => e' = .normal ∧
      Weak X S' ⟨envOf (l4L n pairs likes vp (i + 1)), ovl (l4E n vp vN vK vl vd vo cs ((ks.set (0 + x.toNat) (.sl 21 (v1 + 1) 0 (r1.length + 1) 1)).set (0 + y.toNat) (.sl 22 (v2 + 1) 0 (r2.length + 1) 1)) left deg out (vE + 1) (b1 + 1) (b2 + 1) (v1 + 1) (v2 + 1) ((r1 ++ [y]).map dI) ((r2 ++ [x]).map dI)) rest⟩ := by
  have hy2 : (ks.set (0 + x.toNat) (.sl 21 (v1 + 1) 0 (r1.length + 1) 1))[0 + y.toNat]? = some (.sl 22 v2 0 r2.length 1) := by
    rw [List.getElem?_set_ne (by omega)]
    exact hy
  rw [← appR, ← appR]
  exact seg okP named (l4Pr likes i x y hi hs hp (l4Hx n ks v1 v2 r1 r2 x y h0 h1 g0 g1 hr1 hr2 hx hy2)) 1000 68 700000 193 (by kernel_rfl) X hP hN
noncomputable def l4Hy (h0 : 0 ≤ x) (h1 : x.toNat < n) (hr1 : r1.length < 1000000000) (hx : ks[0 + x.toNat]? = some (.sl 21 v1 0 r1.length 1))
    (hy2 : (ks.set (0 + x.toNat) (.sl 21 (v1 + 1) 0 (r1.length + 1) 1))[0 + x.toNat]? = some (.sl 21 (v1 + 1) 0 (r1.length + 1) 1)) : Nat → Option (Hint Try.prog) := fun s =>
  if s = 146 ∨ s = 152 ∨ s = 165 ∨ s = 171 then some (.inb x n h0 h1) else if s = 147 ∨ s = 124019 then some (.elt ks (0 + x.toNat) (.sl 21 v1 0 r1.length 1) hx)
  else if s = 166 ∨ s = 125019 then some (.elt (ks.set (0 + x.toNat) (.sl 21 (v1 + 1) 0 (r1.length + 1) 1)) (0 + x.toNat) (.sl 21 (v1 + 1) 0 (r1.length + 1) 1) hy2)
  else if s = 151 then some (.apps (r1.map dI) r1.length 1 ⟨by simp, by omega⟩) else if s = 170 then some (.apps ((r1.map dI).take r1.length ++ [D.int .i64 x].map AV.d) (r1.length + 1) 1 ⟨by simp, by omega⟩) else none
theorem appR2 (r : List Int) (x : Int) : ((r.map dI).take r.length ++ [D.int .i64 x].map AV.d).take (r.length + 1) ++ [D.int .i64 x].map AV.d = (r ++ [x, x]).map dI := by
  rw [appR, List.take_of_length_le (by simp)]
  simp
  rfl
theorem l4Self (hi : i < likes.length) (hs : i < 9223372036854775807) (hp : likes[i] = (x, x)) (h0 : 0 ≤ x) (h1 : x.toNat < n) (hr1 : r1.length < 1000000000) (hx : ks[0 + x.toNat]? = some (.sl 21 v1 0 r1.length 1)) (rest : Heap) (X : Fix) (hP : X.P = Try.prog) (hN : X.N = 193) :
    AW X (loopOf Try.prog 68 22) ⟨envOf (l4L n pairs likes vp i), ovl (l4F n vp vN vK vl vd vo cs ks left deg out vE b1 b2 v1 (r1.map dI)) rest⟩ fun e' S' => e' = .normal ∧
      Weak X S' ⟨envOf (l4L n pairs likes vp (i + 1)), ovl (l4F n vp vN vK vl vd vo cs ((ks.set (0 + x.toNat) (.sl 21 (v1 + 1) 0 (r1.length + 1) 1)).set (0 + x.toNat) (.sl 21 (v1 + 1 + 1) 0 (r1.length + 1 + 1) 1)) left deg out (vE + 1) (b1 + 1) (b2 + 1) (v1 + 1 + 1) ((r1 ++ [x, x]).map dI)) rest⟩ := by
  have hy2 : (ks.set (0 + x.toNat) (.sl 21 (v1 + 1) 0 (r1.length + 1) 1))[0 + x.toNat]? = some (.sl 21 (v1 + 1) 0 (r1.length + 1) 1) := by
    rw [List.getElem?_set_self (List.getElem?_eq_some_iff.1 hx).1]
  rw [← appR2]
  exact seg okP named (l4Pr likes i x x hi hs hp (l4Hy n ks v1 r1 x h0 h1 hr1 hx hy2)) 1000 68 700000 193 (by kernel_rfl) X hP hN
end
end Go.Avm
/-
  Paint: the graph is laid: likes.
-/
set_option linter.unusedSectionVars false
namespace Go.Avm
open Go.Proofs

section
variable (n vp vN vK vl vd vo : Nat) (pairs likes : List (Int × Int)) (cs left deg out : List AV)
theorem likeStep (i : Nat) (h : Heap) (ks : List AV) (rows : List (List Int)) (hA : LyAt n vp vN vK vl vd vo cs ks left deg out h) (hR : Rows 900000 n h ks rows) (hn : n ≤ 60000) (hlen : ∀ r ∈ rows, r.length < 1000000000) (hi : i < likes.length) (hs : i < 9223372036854775807) (a b : Nat) (hp : likes[i] = ((a : Int), (b : Int))) (hab : a ≠ b) (ha : a < n) (hb : b < n) :
    ∃ h' ks', LyAt n vp vN vK vl vd vo cs ks' left deg out h' ∧ Rows 900000 n h' ks' ((rows.set a ((rows[a]?).getD [] ++ [(b : Int)])).set b ((rows[b]?).getD [] ++ [(a : Int)])) ∧ Rest h h' ∧
      ∀ X : Fix, X.P = Try.prog → X.N = 193 → AW X (loopOf Try.prog 68 22) ⟨envOf (l4L n pairs likes vp i), h⟩ fun e' S' => e' = .normal ∧ Weak X S' ⟨envOf (l4L n pairs likes vp (i + 1)), h'⟩ := by
  obtain ⟨hcl, hrl, hR⟩ := hR
  obtain ⟨ca, ra, hca, hra, hRa⟩ := hR a ha
  obtain ⟨cb, rb, hcb, hrb, hRb⟩ := hR b hb
  have hla : ra.length < 1000000000 := hlen _ (List.mem_of_getElem? hra)
  have hlb : rb.length < 1000000000 := hlen _ (List.mem_of_getElem? hrb)
  have hC := hA.K
  obtain ⟨vA, h1, w1, f1, c1, o1⟩ := focus (A := 21) (by omega) (by omega) (by omega) hC hca hRa
  obtain ⟨vB, h2, w2, f2, c2, o2⟩ := focus (A := 22) (K := 900000 + b) (a := b) (x := cb) (r := rb) (by omega) (by omega) (by omega) c1 (by rw [List.getElem?_set_ne hab]; exact hcb) (hRb.congr (o1 _ (by omega) (by omega) (by omega)))
  have f1' : h2 21 = ⟨vA, some (.arr 1 (ra.map dI))⟩ := (o2 21 (by omega) (by omega) (by omega)).trans f1
  have ho2 : ∀ k, k ≠ 21 → k ≠ 22 → k ≠ 700792 → k ≠ 900000 + a → k ≠ 900000 + b → h2 k = h k := fun k k1 k2 k3 k4 k5 => (o2 k k2 k3 k5).trans (o1 k k1 k3 k4)
  have hga : (((ks.set a (.sl 21 vA 0 ra.length 1)).set b (.sl 22 vB 0 rb.length 1)))[0 + (a : Int).toNat]? = some (.sl 21 vA 0 ra.length 1) := by
    rw [Nat.zero_add, Int.toNat_natCast, List.getElem?_set_ne (Ne.symm hab), List.getElem?_set_self (by omega)]
  have hgb : (((ks.set a (.sl 21 vA 0 ra.length 1)).set b (.sl 22 vB 0 rb.length 1)))[0 + (b : Int).toNat]? = some (.sl 22 vB 0 rb.length 1) := by
    rw [Nat.zero_add, Int.toNat_natCast, List.getElem?_set_self (by rw [List.length_set]; omega)]
  have hA2 : LyAt n vp vN vK vl vd vo cs ((ks.set a (.sl 21 vA 0 ra.length 1)).set b (.sl 22 vB 0 rb.length 1)) left deg out h2 := hA.likes c2 (fun k k1 k2 k3 => ho2 k (by omega) (by omega) k2 (by omega) (by omega))
  have hfit : Fits h2 (l4E n vp vN vK vl vd vo cs ((ks.set a (.sl 21 vA 0 ra.length 1)).set b (.sl 22 vB 0 rb.length 1)) left deg out (h2 700594).ver (h2 704203).ver (h2 708082).ver vA vB (ra.map dI) (rb.map dI)) := by
    intro p hp
    simp only [l4E, List.mem_cons] at hp
    rcases hp with rfl | rfl | rfl | rfl | rfl | hp
    · exact ⟨rfl, .inl rfl⟩
    · exact ⟨rfl, .inl rfl⟩
    · exact ⟨rfl, .inl rfl⟩
    · exact ⟨by rw [f1'], .inr (by rw [f1'])⟩
    · exact ⟨by rw [f2], .inr (by rw [f2])⟩
    · exact hA2.fits p hp
  have hseg := fun X hP hN => l4Pair n vp vN vK vl vd vo pairs likes cs ((ks.set a (.sl 21 vA 0 ra.length 1)).set b (.sl 22 vB 0 rb.length 1)) left deg out i (h2 700594).ver (h2 704203).ver (h2 708082).ver vA vB ra rb a b hi hs hp (by omega) (by omega) (by simpa using ha) (by omega) (by simpa using hb) hla hlb hga hgb h2 X hP hN
  generalize hks3 : (((ks.set a (.sl 21 vA 0 ra.length 1)).set b (.sl 22 vB 0 rb.length 1)).set (0 + (a : Int).toNat) (.sl 21 (vA + 1) 0 (ra.length + 1) 1)).set (0 + (b : Int).toNat) (.sl 22 (vB + 1) 0 (rb.length + 1) 1) = ks3 at hseg
  have hks3a : ks3[a]? = some (.sl 21 (vA + 1) 0 (ra ++ [(b : Int)]).length 1) := by
    rw [← hks3, List.length_append, List.getElem?_set_ne (by simp; omega), Nat.zero_add, Int.toNat_natCast, List.getElem?_set_self (by simp; omega)]
    rfl
  have hks3b : ks3[b]? = some (.sl 22 (vB + 1) 0 (rb ++ [(a : Int)]).length 1) := by
    rw [← hks3, List.length_append, Nat.zero_add, Nat.zero_add, Int.toNat_natCast, Int.toNat_natCast, List.getElem?_set_self (by simp; omega)]
    rfl
  have hks3o : ∀ t, t ≠ a → t ≠ b → ks3[t]? = ks[t]? := fun t h1 h2 => by
    rw [← hks3, List.getElem?_set_ne (by simp; omega), List.getElem?_set_ne (by simp; omega), List.getElem?_set_ne (by omega), List.getElem?_set_ne (by omega)]
  have hks3l : ks3.length = n := by rw [← hks3]; simpa using hcl
  generalize hh3 : ovl (l4E n vp vN vK vl vd vo cs ks3 left deg out ((h2 700594).ver + 1) ((h2 704203).ver + 1) ((h2 708082).ver + 1) (vA + 1) (vB + 1) ((ra ++ [(b : Int)]).map dI) ((rb ++ [(a : Int)]).map dI)) h2 = h3 at hseg
  have e21 : h3 21 = ⟨vA + 1, some (.arr 1 ((ra ++ [(b : Int)]).map dI))⟩ := by rw [← hh3]; rfl
  have e22 : h3 22 = ⟨vB + 1, some (.arr 1 ((rb ++ [(a : Int)]).map dI))⟩ := by rw [← hh3]; rfl
  have hA3 : LyAt n vp vN vK vl vd vo cs ks3 left deg out h3 := by rw [← hh3]; exact ⟨rfl, rfl, rfl, rfl, rfl, rfl⟩
  have ho3 : ∀ k, k ∉ [21, 22, 700594, 704203, 708082, 702344, 700404, 700792, 701180, 701568, 701956] → h3 k = h2 k := fun k hk => by
    rw [← hh3]
    refine ovl_ne _ _ (fun hx => hk ?_)
    simp only [l4E, lyE, List.map_cons, List.map_nil, List.mem_cons, List.not_mem_nil, or_false] at hx ⊢
    omega
  obtain ⟨y1, h4, w4, r4, c4, _, o4⟩ := unfocus (A := 21) (K := 900000 + a) (a := a) (r := ra ++ [(b : Int)]) (by omega) (by omega) (by omega) hA3.K hks3a e21
  obtain ⟨y2, h5, w5, r5, c5, _, o5⟩ := unfocus (A := 22) (K := 900000 + b) (a := b) (r := rb ++ [(a : Int)]) (by omega) (by omega) (by omega) c4 (by rw [List.getElem?_set_ne hab]; exact hks3b) ((o4 22 (by omega) (by omega) (by omega)).trans e22)
  have ho5 : ∀ k, k ≠ 21 → k ≠ 22 → k ≠ 700792 → k ≠ 900000 + a → k ≠ 900000 + b → h5 k = h3 k := fun k k1 k2 k3 k4 k5 => (o5 k k2 k3 k5).trans (o4 k k1 k3 k4)
  refine ⟨h5, (ks3.set a y1).set b y2, hA3.likes c5 (fun k k1 k2 k3 => ho5 k (by omega) (by omega) k2 (by omega) (by omega)), ⟨by simpa using hks3l, by simpa using hrl, fun t ht => ?_⟩, fun k hk => ?_, fun X hP hN => ?_⟩
  · by_cases hta : t = a
    · subst hta
      refine ⟨y1, ra ++ [(b : Int)], ?_, ?_, r4.congr (o5 _ (by omega) (by omega) (by omega))⟩
      · rw [List.getElem?_set_ne (Ne.symm hab), List.getElem?_set_self (by omega)]
      · rw [List.getElem?_set_ne (Ne.symm hab), List.getElem?_set_self (by omega), hra]
        rfl
    · by_cases htb : t = b
      · subst htb
        refine ⟨y2, rb ++ [(a : Int)], ?_, ?_, r5⟩
        · rw [List.getElem?_set_self (by rw [List.length_set]; omega)]
        · rw [List.getElem?_set_self (by rw [List.length_set]; omega), hrb]
          rfl
      · obtain ⟨c, r, g1, g2, g3⟩ := hR t ht
        refine ⟨c, r, ?_, ?_, g3.congr ?_⟩
        · rw [List.getElem?_set_ne (Ne.symm htb), List.getElem?_set_ne (Ne.symm hta), hks3o t hta htb]
          exact g1
        · rw [List.getElem?_set_ne (Ne.symm htb), List.getElem?_set_ne (Ne.symm hta)]
          exact g2
        · rw [ho5 _ (by omega) (by omega) (by omega) (by omega) (by omega), ho3 _ (by simp; omega), ho2 _ (by omega) (by omega) (by omega) (by omega) (by omega)]
  · have h1 : k ∉ [21, 22, 700594, 704203, 708082, 702344, 700404, 700792, 701180, 701568, 701956] := fun hx => hk (.inl (by
      simp only [List.mem_cons, List.not_mem_nil, or_false] at hx ⊢
      omega))
    have h2 : ¬ (800000 ≤ k ∧ k < 1000000) := fun hx => hk (.inr hx)
    have h1' := h1
    simp only [List.mem_cons, List.not_mem_nil, or_false, not_or] at h1'
    rw [ho5 _ (by omega) (by omega) (by omega) (by omega) (by omega), ho3 _ h1, ho2 _ (by omega) (by omega) (by omega) (by omega) (by omega)]
  · refine AW.weak (((w1.trans w2).trans (weak_fits hfit)) X _) ((hseg X hP hN).mono ?_)
    rintro e' S' ⟨he, hw⟩
    exact ⟨he, (hw.trans (w4 X _)).trans (w5 X _)⟩
theorem likeSelf (i : Nat) (h : Heap) (ks : List AV) (rows : List (List Int)) (hA : LyAt n vp vN vK vl vd vo cs ks left deg out h) (hR : Rows 900000 n h ks rows) (hn : n ≤ 60000) (hlen : ∀ r ∈ rows, r.length < 1000000000) (hi : i < likes.length) (hs : i < 9223372036854775807) (a : Nat) (hp : likes[i] = ((a : Int), (a : Int))) (ha : a < n) :
    ∃ h' ks', LyAt n vp vN vK vl vd vo cs ks' left deg out h' ∧ Rows 900000 n h' ks' (rows.set a ((rows[a]?).getD [] ++ [(a : Int), (a : Int)])) ∧ Rest h h' ∧
      ∀ X : Fix, X.P = Try.prog → X.N = 193 → AW X (loopOf Try.prog 68 22) ⟨envOf (l4L n pairs likes vp i), h⟩ fun e' S' => e' = .normal ∧ Weak X S' ⟨envOf (l4L n pairs likes vp (i + 1)), h'⟩ := by
  obtain ⟨hcl, hrl, hR⟩ := hR
  obtain ⟨ca, ra, hca, hra, hRa⟩ := hR a ha
  have hla : ra.length < 1000000000 := hlen _ (List.mem_of_getElem? hra)
  have hC := hA.K
  obtain ⟨vA, h2, w1, f1, c1, o1⟩ := focus (A := 21) (by omega) (by omega) (by omega) hC hca hRa
  have hga : (ks.set a (.sl 21 vA 0 ra.length 1))[0 + (a : Int).toNat]? = some (.sl 21 vA 0 ra.length 1) := by
    rw [Nat.zero_add, Int.toNat_natCast, List.getElem?_set_self (by omega)]
  have hA2 : LyAt n vp vN vK vl vd vo cs (ks.set a (.sl 21 vA 0 ra.length 1)) left deg out h2 := hA.likes c1 (fun k k1 k2 k3 => o1 k (by omega) k2 (by omega))
  have hfit : Fits h2 (l4F n vp vN vK vl vd vo cs (ks.set a (.sl 21 vA 0 ra.length 1)) left deg out (h2 700594).ver (h2 704203).ver (h2 708082).ver vA (ra.map dI)) := by
    intro p hp
    simp only [l4F, List.mem_cons] at hp
    rcases hp with rfl | rfl | rfl | rfl | hp
    · exact ⟨rfl, .inl rfl⟩
    · exact ⟨rfl, .inl rfl⟩
    · exact ⟨rfl, .inl rfl⟩
    · exact ⟨by rw [f1], .inr (by rw [f1])⟩
    · exact hA2.fits p hp
  have hseg := fun X hP hN => l4Self n vp vN vK vl vd vo pairs likes cs (ks.set a (.sl 21 vA 0 ra.length 1)) left deg out i (h2 700594).ver (h2 704203).ver (h2 708082).ver vA ra a hi hs hp (by omega) (by simpa using ha) hla hga h2 X hP hN
  rw [Nat.zero_add, Int.toNat_natCast, List.set_set, List.set_set] at hseg
  generalize hh3 : ovl (l4F n vp vN vK vl vd vo cs (ks.set a (.sl 21 (vA + 1 + 1) 0 (ra.length + 1 + 1) 1)) left deg out ((h2 700594).ver + 1) ((h2 704203).ver + 1) ((h2 708082).ver + 1) (vA + 1 + 1) ((ra ++ [(a : Int), (a : Int)]).map dI)) h2 = h3 at hseg
  have e21 : h3 21 = ⟨vA + 1 + 1, some (.arr 1 ((ra ++ [(a : Int), (a : Int)]).map dI))⟩ := by rw [← hh3]; rfl
  have hA3 : LyAt n vp vN vK vl vd vo cs (ks.set a (.sl 21 (vA + 1 + 1) 0 (ra.length + 1 + 1) 1)) left deg out h3 := by rw [← hh3]; exact ⟨rfl, rfl, rfl, rfl, rfl, rfl⟩
  have ho3 : ∀ k, k ∉ [21, 700594, 704203, 708082, 702344, 700404, 700792, 701180, 701568, 701956] → h3 k = h2 k := fun k hk => by
    rw [← hh3]
    refine ovl_ne _ _ (fun hx => hk ?_)
    simp only [l4F, lyE, List.map_cons, List.map_nil, List.mem_cons, List.not_mem_nil, or_false] at hx ⊢
    omega
  obtain ⟨y1, h4, w4, r4, c4, _, o4⟩ := unfocus (A := 21) (K := 900000 + a) (a := a) (r := ra ++ [(a : Int), (a : Int)]) (by omega) (by omega) (by omega) hA3.K (by rw [List.getElem?_set_self (by omega), List.length_append]; rfl) e21
  rw [List.set_set] at c4
  refine ⟨h4, ks.set a y1, hA3.likes c4 (fun k k1 k2 k3 => o4 k (by omega) k2 (by omega)), ⟨by simpa using hcl, by simpa using hrl, fun t ht => ?_⟩, fun k hk => ?_, fun X hP hN => ?_⟩
  · by_cases hta : t = a
    · subst hta
      refine ⟨y1, ra ++ [(t : Int), (t : Int)], ?_, ?_, r4⟩
      · rw [List.getElem?_set_self (by omega)]
      · rw [List.getElem?_set_self (by omega), hra]
        rfl
    · obtain ⟨c, r, g1, g2, g3⟩ := hR t ht
      refine ⟨c, r, ?_, ?_, g3.congr ?_⟩
      · rw [List.getElem?_set_ne (Ne.symm hta)]
        exact g1
      · rw [List.getElem?_set_ne (Ne.symm hta)]
        exact g2
      · rw [o4 _ (by omega) (by omega) (by omega), ho3 _ (by simp; omega), o1 _ (by omega) (by omega) (by omega)]
  · have h1 : k ∉ [21, 700594, 704203, 708082, 702344, 700404, 700792, 701180, 701568, 701956] := fun hx => hk (.inl (by
      simp only [List.mem_cons, List.not_mem_nil, or_false] at hx ⊢
      omega))
    have h2 : ¬ (800000 ≤ k ∧ k < 1000000) := fun hx => hk (.inr hx)
    have h1' := h1
    simp only [List.mem_cons, List.not_mem_nil, or_false, not_or] at h1'
    rw [o4 _ (by omega) (by omega) (by omega), ho3 _ h1, o1 _ (by omega) (by omega) (by omega)]
  · refine AW.weak ((w1.trans (weak_fits hfit)) X _) ((hseg X hP hN).mono ?_)
    rintro e' S' ⟨he, hw⟩
    exact ⟨he, hw.trans (w4 X _)⟩
def addL (rows : List (List Int)) (p : Int × Int) : List (List Int) :=
  if p.1 = p.2 then rows.set p.1.toNat ((rows[p.1.toNat]?).getD [] ++ [p.1, p.1]) else (rows.set p.1.toNat ((rows[p.1.toNat]?).getD [] ++ [p.2])).set p.2.toNat ((rows[p.2.toNat]?).getD [] ++ [p.1])
def LikOk (n m : Nat) (rows : List (List Int)) : Prop := ∀ r ∈ rows, (∀ x ∈ r, 0 ≤ x ∧ x.toNat < n) ∧ r.length ≤ m
theorem LikOk.get {n m : Nat} {rows : List (List Int)} (h : LikOk n m rows) (t : Nat) : (∀ x ∈ (rows[t]?).getD [], 0 ≤ x ∧ x.toNat < n) ∧ ((rows[t]?).getD []).length ≤ m := by
  cases ht : rows[t]? with
  | none => exact ⟨fun x hx => (by cases hx), Nat.zero_le _⟩
  | some r => exact h r (List.mem_of_getElem? ht)
theorem LikOk.set {n m m' : Nat} {rows : List (List Int)} (h : LikOk n m rows) (hm : m ≤ m') (t : Nat) {r : List Int} (h1 : ∀ x ∈ r, 0 ≤ x ∧ x.toNat < n) (h2 : r.length ≤ m') : LikOk n m' (rows.set t r) := fun q hq => by
  rcases List.mem_or_eq_of_mem_set hq with hq | rfl
  · exact ⟨(h q hq).1, Nat.le_trans (h q hq).2 hm⟩
  · exact ⟨h1, h2⟩
theorem l4Loop (hn : n ≤ 60000) (hl : likes.length ≤ 100000000) (hr : ∀ p ∈ likes, (0 ≤ p.1 ∧ p.1.toNat < n) ∧ 0 ≤ p.2 ∧ p.2.toNat < n) : ∀ (m i : Nat) (h : Heap) (ks : List AV) (rows : List (List Int)), likes.length - i = m → i ≤ likes.length → LyAt n vp vN vK vl vd vo cs ks left deg out h → Rows 900000 n h ks rows → LikOk n (2 * i) rows →
    ∃ h' ks', LyAt n vp vN vK vl vd vo cs ks' left deg out h' ∧ Rows 900000 n h' ks' ((likes.drop i).foldl addL rows) ∧ LikOk n (2 * likes.length) ((likes.drop i).foldl addL rows) ∧ Rest h h' ∧
      ∀ X : Fix, X.P = Try.prog → X.N = 193 → LW X (loopOf Try.prog 68 22) ⟨envOf (l4L n pairs likes vp i), h⟩ fun e' S' => e' = .exit 6 ∧ S' = ⟨envOf (lyB n pairs likes vp), h'⟩
  | 0, i, h, ks, rows, hm, hi, hA, hR, hok => by
    have : i = likes.length := by omega
    subst this
    rw [List.drop_length]
    exact ⟨h, ks, hA, hR, hok, fun _ _ => rfl, fun X hP hN => lw_end (l4Stop n vp pairs likes h X hP hN) (by simp)⟩
  | m + 1, i, h, ks, rows, hm, hi, hA, hR, hok => by
    have hlt : i < likes.length := by omega
    obtain ⟨⟨h0, h1⟩, g0, g1⟩ := hr likes[i] (List.getElem_mem hlt)
    have hlen : ∀ r ∈ rows, r.length < 1000000000 := fun r hr => by have := (hok r hr).2; omega
    have ha := hok.get likes[i].1.toNat
    have hb := hok.get likes[i].2.toNat
    have one : ∀ (l : List Int) (x : Int), (∀ y ∈ l, 0 ≤ y ∧ y.toNat < n) → (0 ≤ x ∧ x.toNat < n) → ∀ y ∈ l ++ [x], 0 ≤ y ∧ y.toNat < n := fun l x hl hx y hy => by
      rcases List.mem_append.1 hy with hy | hy
      · exact hl y hy
      · rw [List.mem_singleton] at hy
        subst hy
        exact hx
    rw [List.drop_eq_getElem_cons hlt, List.foldl_cons]
    by_cases he : likes[i].1 = likes[i].2
    · have hp : likes[i] = (((likes[i].1.toNat : Nat) : Int), ((likes[i].1.toNat : Nat) : Int)) := Prod.ext (by simp only; omega) (by simp only; omega)
      obtain ⟨h2, ks2, s1, s2, s3, s4⟩ := likeSelf n vp vN vK vl vd vo pairs likes cs left deg out i h ks rows hA hR hn hlen hlt (by omega) likes[i].1.toNat hp h1
      have hadd : addL rows likes[i] = rows.set likes[i].1.toNat ((rows[likes[i].1.toNat]?).getD [] ++ [((likes[i].1.toNat : Nat) : Int), ((likes[i].1.toNat : Nat) : Int)]) := by
        rw [addL, if_pos he, Int.toNat_of_nonneg h0]
      rw [hadd]
      obtain ⟨h', ks', q1, q2, q3, q4, q5⟩ := l4Loop hn hl hr m (i + 1) h2 ks2 _ (by omega) (by omega) s1 s2 (hok.set (by omega) _ (fun y hy => by
        rcases List.mem_append.1 hy with hy | hy
        · exact ha.1 y hy
        · simp only [List.mem_cons, List.not_mem_nil, or_false, or_self] at hy
          subst hy
          exact ⟨by omega, by rw [Int.toNat_natCast]; exact h1⟩) (by rw [List.length_append]; simp; omega))
      exact ⟨h', ks', q1, q2, q3, fun k hk => (q4 k hk).trans (s3 k hk), fun X hP hN => lw_seg (s4 X hP hN) (q5 X hP hN)⟩
    · have hp : likes[i] = (((likes[i].1.toNat : Nat) : Int), ((likes[i].2.toNat : Nat) : Int)) := Prod.ext (by simp only; omega) (by simp only; omega)
      obtain ⟨h2, ks2, s1, s2, s3, s4⟩ := likeStep n vp vN vK vl vd vo pairs likes cs left deg out i h ks rows hA hR hn hlen hlt (by omega) likes[i].1.toNat likes[i].2.toNat hp (by omega) h1 g1
      have hadd : addL rows likes[i] = (rows.set likes[i].1.toNat ((rows[likes[i].1.toNat]?).getD [] ++ [((likes[i].2.toNat : Nat) : Int)])).set likes[i].2.toNat ((rows[likes[i].2.toNat]?).getD [] ++ [((likes[i].1.toNat : Nat) : Int)]) := by
        rw [addL, if_neg he, Int.toNat_of_nonneg h0, Int.toNat_of_nonneg g0]
      rw [hadd]
      obtain ⟨h', ks', q1, q2, q3, q4, q5⟩ := l4Loop hn hl hr m (i + 1) h2 ks2 _ (by omega) (by omega) s1 s2 ((hok.set (m' := 2 * (i + 1)) (by omega) _ (one _ _ ha.1 ⟨by omega, by rw [Int.toNat_natCast]; exact g1⟩) (by rw [List.length_append]; simp; omega)).set (Nat.le_refl _) _ (one _ _ hb.1 ⟨by omega, by rw [Int.toNat_natCast]; exact h1⟩) (by rw [List.length_append]; simp; omega))
      exact ⟨h', ks', q1, q2, q3, fun k hk => (q4 k hk).trans (s3 k hk), fun X hP hN => lw_seg (s4 X hP hN) (q5 X hP hN)⟩
end
end Go.Avm
/-
  Paint: the graph is laid: how many neighbours; lay's contract.
-/
set_option linter.unusedSectionVars false
namespace Go.Avm
open Go.Proofs

section
variable (n vp vN vK vl vd vo : Nat) (pairs likes : List (Int × Int)) (cs ks left deg out : List AV) (i : Nat) (r : List Int)
def l5L (vp : Nat) (i : Nat) : List (Nat × AV) := [(0, dN n), (7, lyP vp), (173, dN n), (174, dN i)]
theorem l5Start (rest : Heap) (X : Fix) (hP : X.P = Try.prog) (hN : X.N = 193) :
    AW X (seqL (seqL (seqR (seqR (seqR (seqR (seqR (seqR (bodyOf Try.prog 68))))))))) ⟨envOf (lyB n pairs likes vp), ovl [] rest⟩ fun e' S' => e' = .normal ∧ Weak X S' ⟨envOf (l5L n vp 0), ovl [] rest⟩ :=
  seg okP named {} 1000 68 700000 193 (by kernel_rfl) X hP hN
theorem l5Stop (rest : Heap) (X : Fix) (hP : X.P = Try.prog) (hN : X.N = 193) :
    AW X (loopOf Try.prog 68 28) ⟨envOf (l5L n vp n), ovl (lyE n vp vN vK vl vd vo cs ks left deg out) rest⟩ fun e' S' => e' = .exit 8 ∧ Weak X S' ⟨envOf [(7, lyP vp)], ovl (lyE n vp vN vK vl vd vo cs ks left deg out) rest⟩ :=
  seg okP named { hint := fun f s => if f = 68 then (if s = 175 then some (hLt Try.prog n n false (by simp)) else none) else none } 1000 68 700000 193 (by kernel_rfl) X hP hN
theorem l5End (rest : Heap) (X : Fix) (hP : X.P = Try.prog) (hN : X.N = 193) :
    AW X (seqR (seqR (seqR (seqR (seqR (seqR (seqR (bodyOf Try.prog 68)))))))) ⟨envOf [(7, lyP vp)], ovl [] rest⟩ fun e' S' => e' = .ret ∧ Weak X S' ⟨envOf [(6, lyP vp)], ovl [] rest⟩ :=
  seg okP named {} 1000 68 700000 193 (by kernel_rfl) X hP hN
noncomputable def l5Pr (hi : i < n) (hs : i < 9223372036854775807) (hc : cs[0 + i]? = some (.d (rowD r))) (d : AV) (hd : deg[0 + i]? = some d) : Par Try.prog :=
  { hint := fun f s => if f = 68 then (if s = 175 then some (hLt Try.prog i n true (by simpa using hi)) else if s = 187 ∨ s = 190 then some (.inb ((i : Nat) : Int) n (by omega) (by simpa using hi)) else if s = 188 then some (.elt cs (0 + i) (.d (rowD r)) hc)
      else if s = 189 then some (hLen Try.prog r) else if s = 130014 then some (.elt deg (0 + i) d hd) else if s = 191 then some (hSucc Try.prog i hs) else none) else none }
theorem l5Round (hi : i < n) (hs : i < 9223372036854775807) (hc : cs[0 + i]? = some (.d (rowD r))) (d : AV) (hd : deg[0 + i]? = some d) (rest : Heap) (X : Fix) (hP : X.P = Try.prog) (hN : X.N = 193) :
    AW X (loopOf Try.prog 68 28) ⟨envOf (l5L n vp i), ovl (lyE n vp vN vK vl vd vo cs ks left deg out) rest⟩ fun e' S' => e' = .normal ∧ Weak X S' ⟨envOf (l5L n vp (i + 1)), ovl (lyE n vp vN vK vl vd vo cs ks left (deg.set (0 + i) (dN r.length)) out) rest⟩ :=
  seg okP named (l5Pr n cs deg i r hi hs hc d hd) 1000 68 700000 193 (by kernel_rfl) X hP hN
end
end Go.Avm
/-
  Paint: lay's contract.
-/
set_option linter.unusedSectionVars false
namespace Go.Avm
open Go.Proofs

section
variable {α : Type}
def fill (f : Nat → α) (z : α) (i n : Nat) : List α := (List.range i).map f ++ List.replicate (n - i) z
theorem fill_zero (f : Nat → α) (z : α) (n : Nat) : fill f z 0 n = List.replicate n z := by simp [fill]
theorem fill_get {f : Nat → α} {z : α} {i n : Nat} (h : i < n) : (fill f z i n)[0 + i]? = some z := by
  rw [Nat.zero_add, fill, List.getElem?_append_right (by simp), List.getElem?_replicate, if_pos (by simp; omega)]
theorem fill_set {f : Nat → α} {z : α} {i n : Nat} (h : i < n) : (fill f z i n).set (0 + i) (f i) = fill f z (i + 1) n := by
  rw [Nat.zero_add, fill, fill, List.set_append_right _ _ (by simp), List.range_succ, List.map_append, List.append_assoc]
  congr 1
  obtain ⟨m, hm⟩ : ∃ m, n - i = m + 1 := ⟨n - i - 1, by omega⟩
  rw [hm, show n - (i + 1) = m by omega]
  simp [List.replicate_succ]
theorem fill_full (f : Nat → α) (z : α) (n : Nat) : fill f z n n = (List.range n).map f := by simp [fill]
end
theorem range_const {α : Type} (n : Nat) (x : α) : (List.range n).map (fun _ => x) = List.replicate n x := by
  apply List.ext_getElem? 
  intro i
  by_cases h : i < n <;> simp [h]

theorem aw_then {X : Fix} {x y : Code} {S S1 : St} {Q : Exit → St → Prop} (h : AW X x S fun e' S' => e' = .normal ∧ Weak X S' S1) (k : AW X y S1 Q) : AW X (.seq x y) S Q :=
  aw_seq (h.mono fun e S' ⟨he, hw⟩ => by subst he; exact AW.weak hw k)
theorem aw_blockLoop {X : Fix} {b : Nat} {c : Code} {S S1 : St} (h : AW X (.loop c) S fun e' S' => e' = .exit b ∧ S' = S1) : AW X (.block b (.loop c)) S fun e' S' => e' = .normal ∧ Weak X S' S1 :=
  aw_block (h.mono fun e S' ⟨he, hs⟩ => by
    subst he; subst hs
    simp only [blockA, if_true]
    exact ⟨trivial, Weak.refl _⟩)

section
variable (n vp vN vK vl vd vo : Nat) (pairs likes : List (Int × Int)) (cs ks : List AV)
theorem l1Loop (hn : n ≤ 60000) (deg : List AV) (rest : Heap) (X : Fix) (hP : X.P = Try.prog) (hN : X.N = 193) :
    AW X (.loop (loopOf Try.prog 68 3)) ⟨envOf (l1L n pairs likes vp 0), ovl (lyE n vp vN vK vl vd vo cs ks (List.replicate n (dB false)) deg (List.replicate n (dI 0))) rest⟩ fun e' S' => e' = .exit 0 ∧
      S' = ⟨envOf (lyB n pairs likes vp), ovl (lyE n vp vN vK vl vd vo cs ks (List.replicate n (dB true)) deg (List.replicate n (dI (-1)))) rest⟩ := by
  have h := loop_of_segs (P := Try.prog) (N := 193) (c := loopOf Try.prog 68 3) (fun i => l1L n pairs likes vp i) (fun i _ => lyE n vp vN vK vl vd vo cs ks (fill (fun _ => dB true) (dB false) i n) deg (fill (fun _ => dI (-1)) (dI 0) i n)) (fun i => i ≤ n) (fun i => n - i) (.exit 0)
    (lyB n pairs likes vp) (fun _ => lyE n vp vN vK vl vd vo cs ks (fill (fun _ => dB true) (dB false) n n) deg (fill (fun _ => dI (-1)) (dI 0) n n)) 0 (Nat.zero_le _) (by simp) (fun rest i hi => ?_) rest X hP hN
  · simp only [fill_zero, fill_full, range_const] at h
    exact h
  · rcases Nat.lt_or_ge i n with h | h
    · refine .inl ⟨i + 1, h, by omega, fun X hP hN => ?_⟩
      rw [← fill_set h, ← fill_set h]
      exact l1Round n vp vN vK vl vd vo pairs likes cs ks _ deg _ i h (by omega) (fill_get h) (fill_get h) rest X hP hN
    · have : i = n := by omega
      subst this
      exact .inr fun X hP hN => l1Stop i vp vN vK vl vd vo pairs likes cs ks _ deg _ rest X hP hN
theorem l5Loop (hn : n ≤ 60000) (left out : List AV) (f : Nat → List Int) (hf : ∀ i, i < n → cs[i]? = some (.d (rowD (f i)))) (rest : Heap) (X : Fix) (hP : X.P = Try.prog) (hN : X.N = 193) :
    AW X (.loop (loopOf Try.prog 68 28)) ⟨envOf (l5L n vp 0), ovl (lyE n vp vN vK vl vd vo cs ks left (List.replicate n (dI 0)) out) rest⟩ fun e' S' => e' = .exit 8 ∧
      S' = ⟨envOf [(7, lyP vp)], ovl (lyE n vp vN vK vl vd vo cs ks left ((List.range n).map fun i => dN (f i).length) out) rest⟩ := by
  have h := loop_of_segs (P := Try.prog) (N := 193) (c := loopOf Try.prog 68 28) (fun i => l5L n vp i) (fun i _ => lyE n vp vN vK vl vd vo cs ks left (fill (fun i => dN (f i).length) (dI 0) i n) out) (fun i => i ≤ n) (fun i => n - i) (.exit 8)
    [(7, lyP vp)] (fun _ => lyE n vp vN vK vl vd vo cs ks left (fill (fun i => dN (f i).length) (dI 0) n n) out) 0 (Nat.zero_le _) (by simp) (fun rest i hi => ?_) rest X hP hN
  · simp only [fill_zero, fill_full] at h
    exact h
  · rcases Nat.lt_or_ge i n with h | h
    · refine .inl ⟨i + 1, h, by omega, fun X hP hN => ?_⟩
      rw [← fill_set h]
      exact l5Round n vp vN vK vl vd vo cs ks left _ out i (f i) h (by omega) (by rw [Nat.zero_add]; exact hf i h) (dI 0) (fill_get h) rest X hP hN
    · have : i = n := by omega
      subst this
      exact .inr fun X hP hN => l5Stop i vp vN vK vl vd vo cs ks left _ out rest X hP hN
theorem freezeLikes (hn : n ≤ 60000) (left deg out : List AV) (rows : List (List Int)) (hrl : rows.length = n) : ∀ (m i : Nat) (h : Heap) (ks : List AV), n - i = m → i ≤ n → LyAt n vp vN vK vl vd vo cs ks left deg out h → ks.length = n →
      (∀ t, t < i → ∃ r, rows[t]? = some r ∧ ks[t]? = some (.d (rowD r))) → (∀ t, i ≤ t → t < n → ∃ c r, ks[t]? = some c ∧ rows[t]? = some r ∧ RowAt h (900000 + t) c r) →
    ∃ h', WeakH h h' ∧ LyAt n vp vN vK vl vd vo cs (rows.map fun r => .d (rowD r)) left deg out h' ∧ Rest h h'
  | 0, i, h, ks, hm, hi, hA, hkl, hd, hR => by
    have hk : ks = rows.map fun r => .d (rowD r) := by
      apply List.ext_getElem?
      intro t
      by_cases ht : t < n
      · obtain ⟨r, e1, e2⟩ := hd t (by omega)
        rw [e2, List.getElem?_map, e1]
        rfl
      · rw [List.getElem?_eq_none (by omega), List.getElem?_eq_none (by simp; omega)]
    subst hk
    exact ⟨h, WeakH.refl h, hA, fun _ _ => rfl⟩
  | m + 1, i, h, ks, hm, hi, hA, hkl, hd, hR => by
    obtain ⟨c, r, g1, g2, g3⟩ := hR i (Nat.le_refl _) (by omega)
    obtain ⟨h2, w2, c2, o2⟩ := freezeRow (by omega) hA.K g1 g3
    obtain ⟨h', q1, q2, q3⟩ := freezeLikes hn left deg out rows hrl m (i + 1) h2 (ks.set i (.d (rowD r))) (by omega) (by omega) (hA.likes c2 (fun k k1 k2 k3 => o2 k k2 (by omega))) (by simpa using hkl) (fun t ht => by
      by_cases hti : t = i
      · subst hti
        exact ⟨r, g2, by rw [List.getElem?_set_self (by omega)]⟩
      · obtain ⟨a, e1, e3⟩ := hd t (by omega)
        exact ⟨a, e1, by rw [List.getElem?_set_ne (Ne.symm hti)]; exact e3⟩) (fun t ht1 ht2 => by
      obtain ⟨c2, r2, e1, e2, e3⟩ := hR t (by omega) ht2
      exact ⟨c2, r2, by rw [List.getElem?_set_ne (by omega)]; exact e1, e2, e3.congr (o2 _ (by omega) (by omega))⟩)
    exact ⟨h', w2.trans q1, q2, fun k hk => (q3 k hk).trans (o2 k (fun e => hk (.inl (by subst e; simp))) (fun e => hk (.inr (by omega))))⟩
end
theorem viewRows (m : Nat) (h : Heap) (rows : List (List Int)) : viewL (view (m + 1) h) (rows.map fun r => .d (rowD r)) = some (rows.map rowD, []) := by
  have := viewD m h (rows.map rowD) (by simp [D.one])
  rw [List.map_map] at this
  exact this
/-- Whose neighbours .. as laid. -/
def rowsP (n : Nat) (pairs : List (Int × Int)) : List (List Int) := (pairs.foldl addP (List.replicate n [])).map finR
def rowsL (n : Nat) (likes : List (Int × Int)) : List (List Int) := likes.foldl addL (List.replicate n [])
end Go.Avm
/-
  Paint: lay's contract, put together.
-/
set_option linter.unusedSectionVars false
namespace Go.Avm
open Go.Proofs

theorem layBody : bodyOf Try.prog 68 = .seq (seqL (bodyOf Try.prog 68)) (.seq (seqL (seqR (bodyOf Try.prog 68))) (.seq (.seq (seqL (seqL (seqR (seqR (bodyOf Try.prog 68))))) (.block 0 (.loop (loopOf Try.prog 68 3))))
    (.seq (.seq (seqL (seqL (seqR (seqR (seqR (bodyOf Try.prog 68)))))) (.block 2 (.loop (loopOf Try.prog 68 8)))) (.seq (.seq (seqL (seqL (seqR (seqR (seqR (seqR (bodyOf Try.prog 68))))))) (.block 4 (.loop (loopOf Try.prog 68 15))))
      (.seq (.seq (seqL (seqL (seqR (seqR (seqR (seqR (seqR (bodyOf Try.prog 68)))))))) (.block 6 (.loop (loopOf Try.prog 68 22)))) (.seq (.seq (seqL (seqL (seqR (seqR (seqR (seqR (seqR (seqR (bodyOf Try.prog 68))))))))) (.block 8 (.loop (loopOf Try.prog 68 28)))) (seqR (seqR (seqR (seqR (seqR (seqR (seqR (bodyOf Try.prog 68)))))))))))))) := by kernel_rfl
theorem lay0 (n : Nat) (pairs likes : List (Int × Int)) (rest : Heap) (X : Fix) (hP : X.P = Try.prog) (hN : X.N = 193) :
    AW X (seqL (bodyOf Try.prog 68)) ⟨envOf (lyA n pairs likes), ovl [] rest⟩ fun e' S' => e' = .normal ∧ Weak X S' ⟨envOf (lyA n pairs likes), ovl [] rest⟩ :=
  seg okP named {} 1000 68 700000 193 (by kernel_rfl) X hP hN
/-- The graph, laid. -/
structure LyFin (n vp vl vd vo : Nat) (rows lrows : List (List Int)) (h : Heap) : Prop where
  p : h 702344 = ⟨vp, some (.arr 1 [.d (rowsD rows), .d (rowsD lrows), .sl 701180 vl 0 n 1, .sl 701568 vd 0 n 1, .sl 701956 vo 0 n 1])⟩
  l : h 701180 = ⟨vl, some (.arr 1 (List.replicate n (dB true)))⟩
  d : h 701568 = ⟨vd, some (.arr 1 (rows.map fun r => dN r.length))⟩
  o : h 701956 = ⟨vo, some (.arr 1 (List.replicate n (dI (-1))))⟩
theorem layRun (n vp vN vK vl vd vo : Nat) (pairs likes : List (Int × Int)) (hn : n ≤ 60000) (hpl : pairs.length ≤ 100000000) (hll : likes.length ≤ 100000000) (hpr : ∀ p ∈ pairs, (0 ≤ p.1 ∧ p.1.toNat < n) ∧ 0 ≤ p.2 ∧ p.2.toNat < n) (hlr : ∀ p ∈ likes, (0 ≤ p.1 ∧ p.1.toNat < n) ∧ 0 ≤ p.2 ∧ p.2.toNat < n)
    (h : Heap) (hf : Fits h (ly0 vp vN vK vl vd vo)) :
    ∃ h', Rest h h' ∧ LyFin n (vp + 1) (vl + 1) (vd + 1) (vo + 1) (rowsP n pairs) (rowsL n likes) h' ∧ HCall Try.prog 68 [dN n, .d (pairsD pairs), .d (pairsD likes)] h [lyP (vp + 1)] h' := by
  generalize hh1 : ovl (lyE n (vp + 1) (vN + 1) (vK + 1) (vl + 1) (vd + 1) (vo + 1) (List.replicate n .nils) (List.replicate n .nils) (List.replicate n (dB true)) (List.replicate n (dI 0)) (List.replicate n (dI (-1)))) h = h1
  have hA1 : LyAt n (vp + 1) (vN + 1) (vK + 1) (vl + 1) (vd + 1) (vo + 1) (List.replicate n .nils) (List.replicate n .nils) (List.replicate n (dB true)) (List.replicate n (dI 0)) (List.replicate n (dI (-1))) h1 := by rw [← hh1]; exact ⟨rfl, rfl, rfl, rfl, rfl, rfl⟩
  have hr1 : Rest h h1 := fun k hk => by
    rw [← hh1]
    refine ovl_ne _ _ (fun hx => hk (.inl ?_))
    simp only [lyE, List.map_cons, List.map_nil, List.mem_cons, List.not_mem_nil, or_false] at hx ⊢
    omega
  obtain ⟨h2, cs2, hA2, hR2, hr2, l2⟩ := l2Loop n _ _ _ _ _ _ pairs likes _ _ _ _ hn hpl hpr pairs.length 0 h1 _ (List.replicate n []) rfl (Nat.zero_le _) hA1 (Rows.nils _ n h1) (fun r hr => by rw [List.eq_of_mem_replicate hr]; exact Nat.le_refl _)
  rw [List.drop_zero] at hR2
  have hlen2 : ∀ (ps : List (Int × Int)) (rows : List (List Int)) (m : Nat), (∀ r ∈ rows, r.length ≤ m) → ∀ r ∈ ps.foldl addP rows, r.length ≤ m + ps.length := by
    intro ps
    induction ps with
    | nil => exact fun rows m hm => hm
    | cons p ps ih =>
      intro rows m hm r hr
      rw [List.foldl_cons] at hr
      have := ih _ (m + 1) (addP_len hm) r hr
      rw [List.length_cons]
      omega
  have hlen : ∀ r ∈ pairs.foldl addP (List.replicate n []), r.length ≤ 0 + pairs.length := hlen2 pairs _ 0 (fun r hr => by rw [List.eq_of_mem_replicate hr]; exact Nat.le_refl _)
  obtain ⟨h3, cs3, hA3, hcl3, hR3, hr3, l3⟩ := l3Loop n _ _ _ _ _ _ pairs likes _ _ _ _ hn (pairs.foldl addP (List.replicate n [])) hR2.2.1 (fun r hr => by have := hlen r hr; omega) n 0 h2 cs2 rfl (Nat.zero_le _) hA2 hR2.1 (fun t ht => by omega) (fun t _ ht => hR2.2.2 t ht)
  obtain ⟨h4, ks4, hA4, hR4, hok4, hr4, l4⟩ := l4Loop n _ _ _ _ _ _ pairs likes cs3 _ _ _ hn hll hlr likes.length 0 h3 _ (List.replicate n []) rfl (Nat.zero_le _) hA3 (Rows.nils _ n h3) (fun r hr => by rw [List.eq_of_mem_replicate hr]; exact ⟨fun x hx => (by cases hx), Nat.le_refl _⟩)
  rw [List.drop_zero] at hR4 hok4
  have hrl : (rowsP n pairs).length = n := by rw [rowsP, List.length_map]; exact hR2.2.1
  have hcs3 : ∀ i, i < n → cs3[i]? = some (.d (rowD ((rowsP n pairs)[i]?.getD []))) := fun i hi => by
    obtain ⟨r, e1, e2⟩ := hR3 i hi
    rw [e2, rowsP, List.getElem?_map, e1]
    rfl
  have hcs3e : cs3 = (rowsP n pairs).map fun r => .d (rowD r) := by
    apply List.ext_getElem?
    intro t
    by_cases ht : t < n
    · rw [hcs3 t ht, List.getElem?_map, List.getElem?_eq_getElem (by omega)]
      rfl
    · rw [List.getElem?_eq_none (by omega), List.getElem?_eq_none (by simp; omega)]
  have hdeg : ((List.range n).map fun i => dN ((rowsP n pairs)[i]?.getD []).length) = (rowsP n pairs).map fun r => dN r.length := by
    apply List.ext_getElem?
    intro t
    by_cases ht : t < n
    · rw [List.getElem?_map, List.getElem?_map, List.getElem?_range ht, Option.map_some, List.getElem?_eq_getElem (show t < (rowsP n pairs).length by omega)]
      rfl
    · rw [List.getElem?_eq_none (by simp; omega), List.getElem?_eq_none (by simp; omega)]
  generalize hh5 : ovl (lyE n (vp + 1) (vN + 1) (vK + 1) (vl + 1) (vd + 1) (vo + 1) cs3 ks4 (List.replicate n (dB true)) ((List.range n).map fun i => dN ((rowsP n pairs)[i]?.getD []).length) (List.replicate n (dI (-1)))) h4 = h5
  have hA5 : LyAt n (vp + 1) (vN + 1) (vK + 1) (vl + 1) (vd + 1) (vo + 1) cs3 ks4 (List.replicate n (dB true)) ((rowsP n pairs).map fun r => dN r.length) (List.replicate n (dI (-1))) h5 := by rw [← hdeg, ← hh5]; exact ⟨rfl, rfl, rfl, rfl, rfl, rfl⟩
  have hr5 : Rest h4 h5 := fun k hk => by
    rw [← hh5]
    refine ovl_ne _ _ (fun hx => hk (.inl ?_))
    simp only [lyE, List.map_cons, List.map_nil, List.mem_cons, List.not_mem_nil, or_false] at hx ⊢
    omega
  have ho5 : ∀ t, t < n → h5 (900000 + t) = h4 (900000 + t) := fun t ht => by
    rw [← hh5]
    refine ovl_ne _ _ (fun hx => ?_)
    simp only [lyE, List.map_cons, List.map_nil, List.mem_cons, List.not_mem_nil, or_false] at hx
    omega
  obtain ⟨h6, w6, hA6, hr6⟩ := freezeLikes n _ _ _ _ _ _ cs3 hn _ _ _ (rowsL n likes) hR4.2.1 n 0 h5 ks4 rfl (Nat.zero_le _) hA5 hR4.1 (fun t ht => by omega) (fun t _ ht => by
    obtain ⟨c, r, e1, e2, e3⟩ := hR4.2.2 t ht
    exact ⟨c, r, e1, e2, e3.congr (ho5 t ht)⟩)
  obtain ⟨h7, w7, c7, _, o7⟩ := freezeCell (n := 1) (C := 702344) (A := 700404) (a := 0) (len := n) (ds := (rowsP n pairs).map rowD) (by omega) hA6.p rfl hA6.N (by omega) (by rw [List.take_of_length_le (by omega), hcs3e]; exact viewRows 0 h6 _)
  obtain ⟨h8, w8, c8, _, o8⟩ := freezeCell (n := 1) (C := 702344) (A := 700792) (a := 1) (len := n) (ds := (rowsL n likes).map rowD) (by omega) c7 rfl ((o7 _ (by omega) (by omega)).trans hA6.K) (by rw [List.length_map]; exact Nat.le_of_eq hR4.2.1.symm) (by rw [List.take_of_length_le (by rw [List.length_map]; exact Nat.le_of_eq hR4.2.1)]; exact viewRows 0 h7 _)
  refine ⟨h8, fun k hk => ?_, ⟨c8, (o8 _ (by omega) (by omega)).trans ((o7 _ (by omega) (by omega)).trans hA6.l), (o8 _ (by omega) (by omega)).trans ((o7 _ (by omega) (by omega)).trans hA6.d), (o8 _ (by omega) (by omega)).trans ((o7 _ (by omega) (by omega)).trans hA6.o)⟩, ?_⟩
  · have n1 : k ≠ 702344 := fun e => hk (.inl (by subst e; simp))
    have n2 : k ≠ 700404 := fun e => hk (.inl (by subst e; simp))
    have n3 : k ≠ 700792 := fun e => hk (.inl (by subst e; simp))
    rw [o8 k n3 n1, o7 k n2 n1, hr6 k hk, hr5 k hk, hr4 k hk, hr3 k hk, hr2 k hk, hr1 k hk]
  · refine hcall_of_aw okP Try.func68 (c := bodyOf Try.prog 68) (by kernel_rfl) (by decide) (show 3 ≤ 193 by decide) (fun X hP hN => ?_)
    have hN' : X.N = 193 := hN
    rw [layBody]
    refine AW.weak ((weak_envOf (l := lyA n pairs likes) (fun p hp => ?_)).trans (weak_fits hf X _)) ?_
    · simp only [lyA, List.mem_cons, List.not_mem_nil, or_false] at hp
      rcases hp with rfl | rfl | rfl <;> rfl
    refine aw_then (lay0 n pairs likes _ X hP hN') (aw_then (lyMake n vp vN vK vl vd vo pairs likes hn h X hP hN') (aw_then (S1 := ⟨envOf (lyB n pairs likes (vp + 1)), h1⟩) (aw_then (l1Start n (vp + 1) pairs likes _ X hP hN') ?_) (aw_then (S1 := ⟨envOf (lyB n pairs likes (vp + 1)), h2⟩) (aw_then (l2Start n (vp + 1) pairs likes h1 X hP hN') (aw_blockLoop (l2 X hP hN').aw))
      (aw_then (S1 := ⟨envOf (lyB n pairs likes (vp + 1)), h3⟩) (aw_then (l3Start n (vp + 1) pairs likes h2 X hP hN') (aw_blockLoop (l3 X hP hN').aw)) (aw_then (S1 := ⟨envOf (lyB n pairs likes (vp + 1)), h4⟩) (aw_then (l4Start n (vp + 1) pairs likes h3 X hP hN') (aw_blockLoop (l4 X hP hN').aw)) (aw_then (S1 := ⟨envOf [(7, lyP (vp + 1))], h8⟩) (aw_then (l5Start n (vp + 1) pairs likes h4 X hP hN') ?_) ?_))))))
    · rw [← hh1]
      exact aw_blockLoop (l1Loop n _ _ _ _ _ _ pairs likes _ _ hn _ h X hP hN')
    · refine AW.weak (weak_fits hA4.fits X _) ((aw_blockLoop (l5Loop n _ _ _ _ _ _ cs3 ks4 hn _ _ (fun i => (rowsP n pairs)[i]?.getD []) hcs3 h4 X hP hN')).mono ?_)
      rintro e' S' ⟨he, hw⟩
      refine ⟨he, hw.trans ?_⟩
      rw [hh5]
      exact ((w6.trans w7).trans w8) X _
    · refine aw_post ((l5End (vp + 1) h8 X hP hN').mono ?_)
      rintro e' S' ⟨he, hw⟩
      exact ⟨_, hw, .inr he, rfl, rfl⟩
end Go.Avm
/-
  Paint: lay's contract as a hint.
-/
set_option linter.unusedSectionVars false
namespace Go.Avm
open Go.Proofs

def ownL : List Nat := [21, 22, 700589, 706253, 708193, 700594, 704203, 708082, 702344, 700404, 700792, 701180, 701568, 701956]
def ownB (k : Nat) : Bool := ownL.any (Nat.beq k) || (Nat.ble 800000 k && Nat.blt k 1000000)
theorem own_iff (k : Nat) : ownB k = true ↔ Own k := by
  simp only [ownB, Own, ownL, Bool.or_eq_true, Bool.and_eq_true, List.any_eq_true, Nat.ble_eq, Nat.blt_eq]
  refine or_congr ⟨?_, fun h => ⟨k, h, by simp⟩⟩ Iff.rfl
  rintro ⟨x, hx, he⟩
  have : k = x := Nat.eq_of_beq_eq_true he
  subst this
  exact hx
def ownBig : List Nat := ownL ++ (List.range 200000).map (· + 800000)
theorem own_big {k : Nat} (h : k ∉ ownBig) : ownB k = false := by
  cases hb : ownB k with
  | false => rfl
  | true =>
    rcases (own_iff k).1 hb with h1 | h1
    · exact absurd (List.mem_append_left _ h1) h
    · exact absurd (List.mem_append_right _ (List.mem_map.2 ⟨k - 800000, List.mem_range.2 (by omega), by omega⟩)) h
section
variable (n vp vN vK vl vd vo : Nat) (pairs likes : List (Int × Int)) (hn : n ≤ 60000) (hpl : pairs.length ≤ 100000000) (hll : likes.length ≤ 100000000) (hpr : ∀ p ∈ pairs, (0 ≤ p.1 ∧ p.1.toNat < n) ∧ 0 ≤ p.2 ∧ p.2.toNat < n) (hlr : ∀ p ∈ likes, (0 ≤ p.1 ∧ p.1.toNat < n) ∧ 0 ≤ p.2 ∧ p.2.toNat < n)
open Classical in
noncomputable def layRst (h : Heap) : Heap := fun k => if ownB k = true then (if hf : Fits h (ly0 vp vN vK vl vd vo) then Classical.choose (layRun n vp vN vK vl vd vo pairs likes hn hpl hll hpr hlr h hf) k else h k) else h k
def degZ (rows : List (List Int)) : List Int := rows.map fun r => (r.length : Int)
noncomputable def layX : XHint Try.prog :=
  { g := 68, args := [dN n, .d (pairsD pairs), .d (pairsD likes)], pre := ly0 vp vN vK vl vd vo, rs := [lyP (vp + 1)]
    post := pEnt (vp + 1) (vl + 1) (vd + 1) (vo + 1) n (rowsD (rowsP n pairs)) (rowsD (rowsL n likes)) ((List.replicate n true).map dB) ((degZ (rowsP n pairs)).map dI) ((List.replicate n (-1)).map dI)
    rst := layRst n vp vN vK vl vd vo pairs likes hn hpl hll hpr hlr
    bigs := ownBig
    hrst := fun h k hk => by
      unfold layRst
      rw [if_neg (by rw [own_big hk]; simp)]
    proof := fun h hf => by
      obtain ⟨h1, h2, h3⟩ := Classical.choose_spec (layRun n vp vN vK vl vd vo pairs likes hn hpl hll hpr hlr h hf)
      have e : ∀ k, layRst n vp vN vK vl vd vo pairs likes hn hpl hll hpr hlr h k = Classical.choose (layRun n vp vN vK vl vd vo pairs likes hn hpl hll hpr hlr h hf) k := fun k => by
        unfold layRst
        by_cases hk : ownB k = true
        · rw [if_pos hk, dif_pos hf]
        · rw [if_neg hk]
          exact (h1 k (fun ho => hk ((own_iff k).2 ho))).symm
      have e2 : layRst n vp vN vK vl vd vo pairs likes hn hpl hll hpr hlr h = Classical.choose (layRun n vp vN vK vl vd vo pairs likes hn hpl hll hpr hlr h hf) := funext e
      rw [e2, At.ovl]
      · exact h3
      · intro p hp
        simp only [pEnt, List.mem_cons, List.not_mem_nil, or_false] at hp
        rcases hp with rfl | rfl | rfl | rfl
        · exact h2.p
        · rw [List.map_replicate]; exact h2.l
        · rw [degZ, List.map_map]; exact h2.d
        · rw [List.map_replicate]; exact h2.o }
end
end Go.Avm
