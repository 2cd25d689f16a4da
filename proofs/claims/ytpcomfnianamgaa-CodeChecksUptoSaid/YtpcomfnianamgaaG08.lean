/-
  Flow: going through the map.
-/
import Derived.Test.YtpcomfnianamgaaG07
import Derived.Test.YtpcomfnianamgaaG05
import Derived.Test.YtpcomfnianamgaaG06
set_option linter.unusedSectionVars false
namespace Go.Avm
open Go.Proofs Go.Avm.Dom Go.RowKit
section
variable (up : List Int) (F : Graph) (out srt : AV) (n i h vm v3 vK vI w : Nat) (vs acc : List Nat)
end
section
variable (up : List Int) (F : Graph) (out srt : AV) (n i h vm v3 vK vI w : Nat) (vs : List Nat) (hvs : vs.Nodup) (hvl : vs.length < 1000000000)
include hvs hvl
end
theorem aw_to {X : Fix} {c : Code} {S S2 : St} {e : AExit} (h : AW X c S fun e' S' => e' = e ∧ Weak X S' S2) : AW X c S fun e' S' => e' = e ∧ S' = S2 := fun G a w hh => by
 refine wpIn_mono (h G a w hh) ?_
 rintro e0 a' w' ⟨e', S', G', x, ⟨rfl, hw⟩, e1, r⟩
 obtain ⟨G1, e2, h1⟩ := hw G' a' w' r
 exact ⟨e', S2, G1, x.mono e2, ⟨rfl, rfl⟩, e1.trans e2, h1⟩
end Go.Avm
namespace Go.Avm
open Go.Proofs Go.Avm.Dom
theorem row_nat {n : Nat} : ∀ {r : List Int}, okR n r = true → ∃ l : List Nat, r = natR l ∧ ∀ b ∈ l, b < n
 | [], _ => ⟨[], rfl, fun _ h => by cases h⟩
 | x :: r, h => by
  unfold okR at h
  simp only [List.all_cons, Bool.and_eq_true, decide_eq_true_eq] at h
  obtain ⟨l, rfl, hl⟩ := row_nat (n := n) (r := r) h.2
  obtain ⟨m, rfl⟩ : ∃ m : Nat, x = (m : Int) := ⟨x.toNat, by omega⟩
  refine ⟨m :: l, rfl, fun b hb => ?_⟩
  rcases List.mem_cons.1 hb with rfl | h2
  ·omega
  ·exact hl b h2
theorem rows_nat {n : Nat} : ∀ {gs : List (List Int)}, gs.all (okR n) = true → ∃ g : List (List Nat), gs = natG g ∧ ∀ l ∈ g, ∀ b ∈ l, b < n
 | [], _ => ⟨[], rfl, fun _ h => by cases h⟩
 | x :: r, h => by
  simp only [List.all_cons, Bool.and_eq_true] at h
  obtain ⟨l, rfl, hl⟩ := row_nat h.1
  obtain ⟨g, rfl, hg⟩ := rows_nat h.2
  refine ⟨l :: g, rfl, fun y hy => ?_⟩
  rcases List.mem_cons.1 hy with rfl | h2
  ·exact hl
  ·exact hg y h2
theorem nat_of_ok {gs : List (List Int)} (h : okG gs = true) : ∃ g : Graph, gs = natG g ∧ Valid g := by
 obtain ⟨g, rfl, hg⟩ := rows_nat h
 exact ⟨g, rfl, fun l hl b hb => by have := hg l hl b hb; simpa [natG] using this⟩
theorem succ_len {g : Graph} (hg : ∀ l ∈ g, l.length < 1000000000) (a : Nat) : (succ g a).length < 1000000000 := by
 unfold succ
 rw [List.getD_eq_getElem?_getD]
 cases h : g[a]? with
 | none => simp
 | some l => exact hg l (List.mem_of_getElem? h)
end Go.Avm
namespace Go.Avm
open Go.Proofs Go.Avm.Dom
section
variable {gs : List (List Int)}
theorem order46Bad (hc : Pure Pg 73 [rowsD gs] [.int .i64 3]) : Pure Pg 46 [rowsD gs] [.ro [], .int .i64 3] := qU { hint := qT 46 [(6, .call 73 _ _ hc)] }
section
variable {l : List D} (hc : Pure Pg 73 [rowsD gs] [.int .i64 0])
include l hc
theorem order46 (h : Pure Pg 78 [rowsD gs] [.ro l]) : Pure Pg 46 [rowsD gs] [.ro l, .int .i64 0] := qU { hint := qT 46 [(6, .call 73 _ _ hc), (11, .call 78 _ _ h)] }
theorem into47 (h : Pure Pg 75 [rowsD gs] [.ro l]) : Pure Pg 47 [rowsD gs] [.ro l, .int .i64 0] := qU { hint := qT 47 [(6, .call 73 _ _ hc), (11, .call 75 _ _ h)] }
theorem above42 (h : Pure Pg 74 [rowsD gs] [.ro l]) : Pure Pg 42 [rowsD gs] [.ro l, .int .i64 0] := qU { hint := qT 42 [(6, .call 73 _ _ hc), (11, .call 74 _ _ h)] }
end
end
end Go.Avm
namespace Go.Avm
open Go.Proofs
def shapeN (n : Nat) : Int × Bool × Bool :=
 if n = 30 ∨ n = 32 ∨ n = 36 ∨ n = 37 ∨ n = 41 ∨ n = 43 then (0, true, true) else if n = 31 ∨ n = 35 ∨ n = 19 ∨ n = 20 ∨ n = 21 then (1, true, true) else if n = 33 then (2, true, true) else if n = 34 then (3, false, true)
 else if n = 38 ∨ n = 40 ∨ n = 44 then (1, false, true) else if n = 42 then (0, false, true) else if n = 39 ∨ n = 45 then (-1, true, true) else if 1 ≤ n ∧ n ≤ 16 then (2, true, true) else (0, false, false)
def trapsN (n : Nat) : Bool := n == 4 || n == 5 || n == 33 || n == 34 || n == 41
noncomputable def byteRun (g n : Nat) (rs : List D) : Option (AExit × Pairs) := pureRun Pg (execH Pg {} 1000) g [.int .u8 (n : Int)] rs
set_option maxRecDepth 100000 in
theorem all53 : (List.range 256).map (fun n : Nat => outL (byteRun 53 n [.int .i64 (shapeN n).1, .bool (shapeN n).2.1, .bool (shapeN n).2.2])) = (List.range 256).map (fun n : Nat => outR .ret (byteRun 53 n [.int .i64 (shapeN n).1, .bool (shapeN n).2.1, .bool (shapeN n).2.2])) := by kernel_rfl
set_option maxRecDepth 100000 in
theorem all88 : (List.range 256).map (fun n : Nat => outL (byteRun 88 n [.int .i64 (shapeN n).1, .bool (shapeN n).2.1, .bool (shapeN n).2.2])) = (List.range 256).map (fun n : Nat => outR .ret (byteRun 88 n [.int .i64 (shapeN n).1, .bool (shapeN n).2.1, .bool (shapeN n).2.2])) := by kernel_rfl
set_option maxRecDepth 100000 in
theorem all82 : (List.range 256).map (fun n : Nat => outL (byteRun 82 n [.bool (trapsN n)])) = (List.range 256).map (fun n : Nat => outR .ret (byteRun 82 n [.bool (trapsN n)])) := by kernel_rfl
set_option maxRecDepth 100000 in
theorem all89 : (List.range 256).map (fun n : Nat => outL (byteRun 89 n [.bool (trapsN n)])) = (List.range 256).map (fun n : Nat => outR .ret (byteRun 89 n [.bool (trapsN n)])) := by kernel_rfl
theorem tab_get {α : Type} {f g : Nat → α} (h : (List.range 256).map f = (List.range 256).map g) {n : Nat} (hn : n < 256) : f n = g n := List.map_inj_left.1 h n (List.mem_range.2 hn)
def byteZ (x : Int) : Prop := 0 ≤ x ∧ x < 256
theorem byte_nat {x : Int} (h : byteZ x) : ∃ n : Nat, n < 256 ∧ x = (n : Int) := ⟨x.toNat, by have := h.1; have := h.2; omega, by have := h.1; omega⟩
theorem shape53 {n : Nat} (hn : n < 256) : Pure Pg 53 [.int .u8 (n : Int)] [.int .i64 (shapeN n).1, .bool (shapeN n).2.1, .bool (shapeN n).2.2] := pure_of_run okP named {} 1000 (tab_get all53 hn)
theorem shape88 {n : Nat} (hn : n < 256) : Pure Pg 88 [.int .u8 (n : Int)] [.int .i64 (shapeN n).1, .bool (shapeN n).2.1, .bool (shapeN n).2.2] := pure_of_run okP named {} 1000 (tab_get all88 hn)
theorem traps82 {n : Nat} (hn : n < 256) : Pure Pg 82 [.int .u8 (n : Int)] [.bool (trapsN n)] := pure_of_run okP named {} 1000 (tab_get all82 hn)
theorem traps89 {n : Nat} (hn : n < 256) : Pure Pg 89 [.int .u8 (n : Int)] [.bool (trapsN n)] := pure_of_run okP named {} 1000 (tab_get all89 hn)
set_option maxRecDepth 100000 in
theorem awake06 : Pure Pg 15 [] [.bool true] :=
 pure_of_run okP named { obm := fun f s => Nat.beq f 78 && Nat.beq s 17, hint := fun _ _ => none } 100000 (by kernel_rfl)
end Go.Avm
namespace Go.Avm
open Go.Proofs Go.Avm.Dom
noncomputable def trD (g : Graph) : List D := (List.range g.length).map fun a => rowB (domsL g a)
noncomputable def trO (g : Graph) (up : List Int) (b : Nat) : List (Nat × AV) := [(0, .d (rowsN g)), (3, .d (rowD up)), (5, .d (.ro (trD g))), (6, .d (rowB (reachL g 0 none))), (34, dN g.length), (35, dN b)]
noncomputable def trI (g : Graph) (up : List Int) (b a : Nat) : List (Nat × AV) := [(0, .d (rowsN g)), (3, .d (rowD up)), (5, .d (.ro (trD g))), (6, .d (rowB (reachL g 0 none))), (7, dN b), (34, dN g.length), (35, dN b), (53, dN g.length), (54, dN a)]
section
variable (g : Graph) (up : List Int) (b a : Nat) (u : Int)
section
variable (hl : RE 83 (.loop (lO 11 15)) (trI g up b 0) [] (.exit 2) (trO g up b) [])
include hl
end
end
section
variable {g : Graph} (hg : Valid g) (hg0 : 0 < g.length) (hgl : g.length < 100000) {U : Nat → Nat} (hU : Fixed g U)
include hg hg0 hgl hU
end
end Go.Avm
namespace Go.Avm
open Go.Proofs Go.Avm.Dom
def hitL (v : Int) (bi : Nat) (off : Int) : Nat → List InstR → List (Int × Int)
 | _, [] => []
 | m, x :: r => if x.dst = v then ((bi : Int), (m : Int) + off) :: hitL v bi off (m + 1) r else hitL v bi off (m + 1) r
def hitB (v : Int) (bi : Nat) (b : BlkR) : List (Int × Int) := hitL v bi (-(b.phis.length : Int)) 0 b.phis ++ hitL v bi 0 0 b.insts
def hitBs (v : Int) : Nat → List BlkR → List (Int × Int)
 | _, [] => []
 | bi, b :: r => hitB v bi b ++ hitBs v (bi + 1) r
def hits (f : FunR) (v : Int) : List (Int × Int) := hitBs v 0 f.blocks
theorem hitL_app (v : Int) (bi : Nat) (off : Int) : ∀ (l : List InstR) (m : Nat) (x : InstR), hitL v bi off m (l ++ [x]) = hitL v bi off m l ++ (if x.dst = v then [((bi : Int), ((m + l.length : Nat) : Int) + off)] else [])
 | [], m, x => by simp [hitL]
 | y :: l, m, x => by
  rw [List.cons_append, hitL, hitL_app v bi off l (m + 1) x, hitL, List.length_cons, show m + 1 + l.length = m + (l.length + 1) by omega]
  split <;> simp
theorem hitBs_app (v : Int) : ∀ (l : List BlkR) (bi : Nat) (b : BlkR), hitBs v bi (l ++ [b]) = hitBs v bi l ++ hitB v (bi + l.length) b
 | [], bi, b => by simp [hitBs]
 | y :: l, bi, b => by
  rw [List.cons_append, hitBs, hitBs_app v l (bi + 1) b, hitBs, List.length_cons, show bi + 1 + l.length = bi + (l.length + 1) by omega, List.append_assoc]
theorem hitL_len (v : Int) (bi : Nat) (off : Int) : ∀ (l : List InstR) (m : Nat), (hitL v bi off m l).length ≤ l.length
 | [], m => by simp [hitL]
 | y :: l, m => by
  have := hitL_len v bi off l (m + 1)
  rw [hitL]
  split <;> simp <;> omega
theorem hitBs_len (v : Int) : ∀ (l : List BlkR) (bi : Nat), (hitBs v bi l).length ≤ (l.map szB).sum
 | [], bi => by simp [hitBs]
 | y :: l, bi => by
  have h1 := hitBs_len v l (bi + 1)
  have h2 := hitL_len v bi (-(y.phis.length : Int)) y.phis 0
  have h3 := hitL_len v bi 0 y.insts 0
  simp only [hitBs, hitB, List.length_append, List.map_cons, List.sum_cons, szB]
  omega
def lastP (H : List (Int × Int)) : Int × Int := H.getLastD (0, 0)
theorem lastP_snoc (H : List (Int × Int)) (q : Int × Int) : lastP (H ++ [q]) = q := by simp [lastP]
def hSubN (P : Program) (a b : Nat) (h : a < 4611686018427387904) (h2 : b < 4611686018427387904) : Hint P := .val (dI (IntKind.i64.wrap ((a : Int) - (b : Int)))) (dI ((a : Int) - (b : Int))) (by
 congr 2
 rw [IntWalk.i64_in _ (by omega)])
def mdO (f : FunR) (v : Int) (n bi : Nat) : List (Nat × AV) := [(1, dI v), (4, .ptr 70 1 0 0 1), (6, .ptr 270 1 0 0 1), (7, dN n), (16, .d (blksD f.blocks)), (17, dN f.blocks.length), (18, dN bi)]
def mdP (f : FunR) (v : Int) (n bi : Nat) (b : BlkR) (vb m : Nat) : List (Nat × AV) := mdO f v n bi ++ [(8, dN bi), (9, .ptr 500273 vb 0 0 1), (24, .d (instsD b.phis)), (25, dN b.phis.length), (26, dN m)]
def mdI (f : FunR) (v : Int) (n bi : Nat) (b : BlkR) (m : Nat) : List (Nat × AV) := mdO f v n bi ++ [(8, dN bi), (46, .d (instsD b.insts)), (47, dN b.insts.length), (48, dN m)]
def cellsB (b : BlkR) : List AV := [.d (instsD b.phis), .d (instsD b.insts), .d (.int .u8 b.fin), dI b.arg, dI b.to, dI b.els]
def mdE0 (p : Int × Int) : List (Nat × Ent) := [(70, ⟨1, some (.arr 1 [dI 0, dI 0])⟩), (270, ⟨1, some (.arr 1 [dI p.1, dI p.2])⟩)]
def mdPE (p : Int × Int) (b : BlkR) (vb : Nat) (u : Nat → Nat) : List (Nat × Ent) := mdE0 p ++ [(500273, ⟨vb, some (.arr 1 (cellsB b))⟩)] ++ tm u [500275] 0
section
variable (f : FunR) (v : Int) (n bi : Nat) (b : BlkR) (vb m : Nat) (p : Int × Int) (u : Nat → Nat) (x : InstR)
theorem mdPRound_true (hm : m < b.phis.length) (hl : b.phis.length < 4000000) (hn : n < 1000000000) (hx : b.phis[m]? = some x) (hv : (x.dst == v) = true) : RW 66 (lO 86 6) (mdP f v n bi b vb m) (mdPE p b vb u) .normal (mdP f v (if true then n + 1 else n) bi b vb (m + 1)) (mdPE (if true then ((bi : Int), (m : Int) - (b.phis.length : Int)) else p) b vb (addL u [1])) := qS { hint := qT 86 [(27, qL hm), (29, hIxM Pg instD b.phis m x hx), (34, qB hv), (39, hLenM Pg instD b.phis), (40, hSubN Pg m b.phis.length (by omega) (by omega)), (43, hSucc Pg n (by omega)), (44, hSucc Pg m (by omega))] } 86 500000
theorem mdPRound_false (hm : m < b.phis.length) (hl : b.phis.length < 4000000) (hn : n < 1000000000) (hx : b.phis[m]? = some x) (hv : (x.dst == v) = false) : RW 66 (lO 86 6) (mdP f v n bi b vb m) (mdPE p b vb u) .normal (mdP f v (if false then n + 1 else n) bi b vb (m + 1)) (mdPE (if false then ((bi : Int), (m : Int) - (b.phis.length : Int)) else p) b vb (addL u [1])) := qS { hint := qT 86 [(27, qL hm), (29, hIxM Pg instD b.phis m x hx), (34, qB hv), (44, hSucc Pg m (by omega))] } 86 500000
theorem mdPStop : RW 66 (lO 86 6) (mdP f v n bi b vb b.phis.length) (mdPE p b vb u) (.exit 2) (mdO f v n bi ++ [(8, dN bi), (9, .ptr 500273 vb 0 0 1)]) (mdPE p b vb u) := qS { hint := qT 86 [(27, qG b.phis.length)] } 86 500000
def mdIE (p : Int × Int) (u : Nat → Nat) : List (Nat × Ent) := mdE0 p ++ tm u [500277] 0
theorem mdIRound_true (hm : m < b.insts.length) (hl : b.insts.length < 4000000) (hn : n < 1000000000) (hx : b.insts[m]? = some x) (hv : (x.dst == v) = true) : RW 66 (lO 86 12) (mdI f v n bi b m) (mdIE p u) .normal (mdI f v (if true then n + 1 else n) bi b (m + 1)) (mdIE (if true then ((bi : Int), (m : Int)) else p) (addL u [1])) := qS { hint := qT 86 [(49, qL hm), (51, hIxM Pg instD b.insts m x hx), (56, qB hv), (61, hSucc Pg n (by omega)), (62, hSucc Pg m (by omega))] } 86 500000
theorem mdIRound_false (hm : m < b.insts.length) (hl : b.insts.length < 4000000) (hn : n < 1000000000) (hx : b.insts[m]? = some x) (hv : (x.dst == v) = false) : RW 66 (lO 86 12) (mdI f v n bi b m) (mdIE p u) .normal (mdI f v (if false then n + 1 else n) bi b (m + 1)) (mdIE (if false then ((bi : Int), (m : Int)) else p) (addL u [1])) := qS { hint := qT 86 [(49, qL hm), (51, hIxM Pg instD b.insts m x hx), (56, qB hv), (62, hSucc Pg m (by omega))] } 86 500000
theorem mdIStop : RW 66 (lO 86 12) (mdI f v n bi b b.insts.length) (mdIE p u) (.exit 4) (mdO f v n bi) (mdIE p u) := qS { hint := qT 86 [(49, qG b.insts.length)] } 86 500000
theorem mdPLoop (hl : b.phis.length < 4000000) (H : List (Int × Int)) (hH : H.length + b.phis.length < 1000000000) : ∃ u', RE 66 (.loop (lO 86 6)) (mdP f v H.length bi b vb 0) (mdPE (lastP H) b vb u) (.exit 2) (mdO f v (H ++ hitL v bi (-(b.phis.length : Int)) 0 b.phis).length bi ++ [(8, dN bi), (9, .ptr 500273 vb 0 0 1)]) (mdPE (lastP (H ++ hitL v bi (-(b.phis.length : Int)) 0 b.phis)) b vb u') := by
 have h := lw_ver (P := Pg) (N := 66) (c := loopOf Pg 86 6) b.phis.length (fun m u rest => ⟨envOf (mdP f v (H ++ hitL v bi (-(b.phis.length : Int)) 0 (b.phis.take m)).length bi b vb m), ovl (mdPE (lastP (H ++ hitL v bi (-(b.phis.length : Int)) 0 (b.phis.take m))) b vb u) rest⟩)
  (fun u rest => ⟨envOf (mdO f v (H ++ hitL v bi (-(b.phis.length : Int)) 0 b.phis).length bi ++ [(8, dN bi), (9, .ptr 500273 vb 0 0 1)]), ovl (mdPE (lastP (H ++ hitL v bi (-(b.phis.length : Int)) 0 b.phis)) b vb u) rest⟩) (e := .exit 2) (by simp)
  (fun m hm u => ⟨addL u [1], fun rest X hP hN => by
   have hlen := hitL_len v bi (-(b.phis.length : Int)) (b.phis.take m) 0
   have hlt : (H ++ hitL v bi (-(b.phis.length : Int)) 0 (b.phis.take m)).length < 1000000000 := by rw [List.length_append]; rw [List.length_take] at hlen; omega
   rw [List.take_add_one, get_of hm, Option.toList_some, hitL_app, ← List.append_assoc, List.length_take, Nat.min_eq_left (by omega), Nat.zero_add]
   generalize H ++ hitL v bi (-(b.phis.length : Int)) 0 (b.phis.take m) = K at hlt
   by_cases hv : b.phis[m].dst = v
   ·have := mdPRound_true f v K.length bi b vb m (lastP K) u b.phis[m] hm hl hlt (get_of hm) (by simp [hv]) rest X hP hN
    rw [if_pos hv, lastP_snoc, List.length_append]
    exact this
   ·have := mdPRound_false f v K.length bi b vb m (lastP K) u b.phis[m] hm hl hlt (get_of hm) (by simp [hv]) rest X hP hN
    rw [if_neg hv, List.append_nil]
    exact this⟩)
  (fun u => ⟨u, fun rest X hP hN => by
   rw [List.take_length]
   exact mdPStop f v _ bi b vb _ u rest X hP hN⟩) u
 simpa [hitL] using h
theorem mdILoop (hl : b.insts.length < 4000000) (H : List (Int × Int)) (hH : H.length + b.insts.length < 1000000000) : ∃ u', RE 66 (.loop (lO 86 12)) (mdI f v H.length bi b 0) (mdIE (lastP H) u) (.exit 4) (mdO f v (H ++ hitL v bi 0 0 b.insts).length bi) (mdIE (lastP (H ++ hitL v bi 0 0 b.insts)) u') := by
 have h := lw_ver (P := Pg) (N := 66) (c := loopOf Pg 86 12) b.insts.length (fun m u rest => ⟨envOf (mdI f v (H ++ hitL v bi 0 0 (b.insts.take m)).length bi b m), ovl (mdIE (lastP (H ++ hitL v bi 0 0 (b.insts.take m))) u) rest⟩)
  (fun u rest => ⟨envOf (mdO f v (H ++ hitL v bi 0 0 b.insts).length bi), ovl (mdIE (lastP (H ++ hitL v bi 0 0 b.insts)) u) rest⟩) (e := .exit 4) (by simp)
  (fun m hm u => ⟨addL u [1], fun rest X hP hN => by
   have hlen := hitL_len v bi 0 (b.insts.take m) 0
   have hlt : (H ++ hitL v bi 0 0 (b.insts.take m)).length < 1000000000 := by rw [List.length_append]; rw [List.length_take] at hlen; omega
   rw [List.take_add_one, get_of hm, Option.toList_some, hitL_app, ← List.append_assoc, List.length_take, Nat.min_eq_left (by omega), Nat.zero_add]
   generalize H ++ hitL v bi 0 0 (b.insts.take m) = K at hlt
   by_cases hv : b.insts[m].dst = v
   ·have := mdIRound_true f v K.length bi b m (lastP K) u b.insts[m] hm hl hlt (get_of hm) (by simp [hv]) rest X hP hN
    rw [if_pos hv, lastP_snoc, List.length_append, Int.add_zero]
    exact this
   ·have := mdIRound_false f v K.length bi b m (lastP K) u b.insts[m] hm hl hlt (get_of hm) (by simp [hv]) rest X hP hN
    rw [if_neg hv, List.append_nil]
    exact this⟩)
  (fun u => ⟨u, fun rest X hP hN => by
   rw [List.take_length]
   exact mdIStop f v _ bi b _ u rest X hP hN⟩) u
 simpa [hitL] using h
def mdE (p : Int × Int) (u : Nat → Nat) : List (Nat × Ent) := mdE0 p ++ tm u [500273, 500275, 500277] 0
theorem mdORound (hb : bi < f.blocks.length) (hl : f.blocks.length < 4000000) (hx : f.blocks[bi]? = some b) (n1 n2 : Nat) (p1 p2 : Int × Int) (u1 u2 : Nat → Nat)
    (h1 : RE 66 (.loop (lO 86 6)) (mdP f v n bi b (u 0 + 1) 0) (mdPE p b (u 0 + 1) fun _ => u 1) (.exit 2) (mdO f v n1 bi ++ [(8, dN bi), (9, .ptr 500273 (u 0 + 1) 0 0 1)]) (mdPE p1 b (u 0 + 1) u1))
    (h2 : RE 66 (.loop (lO 86 12)) (mdI f v n1 bi b 0) (mdIE p1 fun _ => u 2) (.exit 4) (mdO f v n2 bi) (mdIE p2 u2))
    : RW 66 (lO 86 3) (mdO f v n bi) (mdE p u) .normal (mdO f v n2 (bi + 1)) (mdE p2 fun j => if j = 0 then u 0 + 1 else if j = 1 then u1 0 else u2 0) := qS { loops := fun f' q => if f' = 86 then (if q = 6 then qP h1 else if q = 12 then qP h2 else none) else none, hint := qT 86 [(19, qL hb), (21, hIxM Pg blkD f.blocks bi b hx), (25, hLenM Pg instD b.phis), (47, hLenM Pg instD b.insts), (63, hSucc Pg bi (by omega))] } 86 500000
theorem mdOStop : RW 66 (lO 86 3) (mdO f v n f.blocks.length) (mdE p u) (.exit 0) [(4, .ptr 70 1 0 0 1), (6, .ptr 270 1 0 0 1), (7, dN n)] (mdE p u) := qS { hint := qT 86 [(19, qG f.blocks.length)] } 86 500000
end
theorem sz_take {f : FunR} {i : Nat} (hi : i < f.blocks.length) : ((f.blocks.take i).map szB).sum + szB f.blocks[i] ≤ szF f := by
 have h1 := sum_take szB (get_of hi)
 have h2 := sum_le szB f.blocks (i + 1)
 unfold szF
 omega
theorem madeC (f : FunR) (v : Int) (hf : fineF f) (hn : szF f < 500000000) : Pure Pg 86 [funD f, .int .i64 v] [spotD (lastP (hits f v)), .int .i64 ((hits f v).length : Int)] := by
 obtain ⟨u', h⟩ := lw_ver (P := Pg) (N := 66) (c := loopOf Pg 86 3) f.blocks.length (fun i u rest => ⟨envOf (mdO f v (hitBs v 0 (f.blocks.take i)).length i), ovl (mdE (lastP (hitBs v 0 (f.blocks.take i))) u) rest⟩)
  (fun u rest => ⟨envOf [(4, .ptr 70 1 0 0 1), (6, .ptr 270 1 0 0 1), (7, dN (hits f v).length)], ovl (mdE (lastP (hits f v)) u) rest⟩) (e := .exit 0) (by simp)
  (fun i hi u => by
   have h3 := sz_take hi
   have h4 := hitBs_len v (f.blocks.take i) 0
   have h5 := hf.2 _ (List.getElem_mem hi)
   have h6 : szB f.blocks[i] = f.blocks[i].phis.length + f.blocks[i].insts.length := rfl
   obtain ⟨u1, k1⟩ := mdPLoop f v i f.blocks[i] (u 0 + 1) (fun _ => u 1) h5.1.1 (hitBs v 0 (f.blocks.take i)) (by omega)
   have h7 := hitL_len v i (-(f.blocks[i].phis.length : Int)) f.blocks[i].phis 0
   obtain ⟨u2, k2⟩ := mdILoop f v i f.blocks[i] (fun _ => u 2) h5.2.1 (hitBs v 0 (f.blocks.take i) ++ hitL v i (-(f.blocks[i].phis.length : Int)) 0 f.blocks[i].phis) (by rw [List.length_append]; omega)
   refine ⟨fun j => if j = 0 then u 0 + 1 else if j = 1 then u1 0 else u2 0, fun rest X hP hN => ?_⟩
   have := mdORound f v _ i f.blocks[i] (lastP (hitBs v 0 (f.blocks.take i))) u hi hf.1 (get_of hi) _ _ _ _ u1 u2 k1 k2 rest X hP hN
   rw [List.take_add_one, get_of hi, Option.toList_some, hitBs_app, List.length_take, Nat.min_eq_left (by omega), Nat.zero_add, hitB, ← List.append_assoc]
   exact this)
  (fun u => ⟨u, fun rest X hP hN => by
   rw [List.take_length]
   exact mdOStop f v _ _ u rest X hP hN⟩) (fun _ => 0)
 exact qU { loops := qO 86 3 (qP h), hint := qT 86 [(17, hLenM Pg blkD f.blocks)] }
noncomputable def domAt (g : Graph) (a b : Int) : Bool := (domsL g a.toNat).getD b.toNat false
noncomputable def mayR (f : FunR) (g : Graph) (v : Int) (at_ : Int × Int) : Bool :=
 !(decide (v < 0) || decide (f.vals ≤ v)) && ((!(!(((hits f v).length : Int) == 1))) && (if (lastP (hits f v)).1 == at_.1 then decide ((lastP (hits f v)).2 < at_.2) else domAt g (lastP (hits f v)).1 at_.1))
section
variable (f : FunR) (g : Graph) (v : Int) (q : Int × Int)
theorem mayNo1 (h : decide (v < 0) = true) : Pure Pg 87 [funD f, .ro (trD g), .int .i64 v, spotD q] [.bool false] := qU { hint := qT 87 [(12, qB h)] }
theorem mayNo2 (h : decide (v < 0) = false) (h2 : decide (f.vals ≤ v) = true) : Pure Pg 87 [funD f, .ro (trD g), .int .i64 v, spotD q] [.bool false] := qU { hint := qT 87 [(12, qB h), (17, qB h2)] }
variable (p : Int × Int) (n : Nat)
section
variable (h : decide (v < 0) = false) (h2 : decide (f.vals ≤ v) = false) (hm : Pure Pg 86 [funD f, .int .i64 v] [spotD p, .int .i64 (n : Int)])
include h h2 hm
theorem mayNo3 (hn : (!((n : Int) == 1)) = true) : Pure Pg 87 [funD f, .ro (trD g), .int .i64 v, spotD q] [.bool false] := qU { hint := qT 87 [(12, qB h), (17, qB h2), (22, .call 86 _ _ hm), (26, qB hn)] }
theorem mayIn (hn : (!((n : Int) == 1)) = false) (he : (p.1 == q.1) = true) : Pure Pg 87 [funD f, .ro (trD g), .int .i64 v, spotD q] [.bool (decide (p.2 < q.2))] := qU { hint := qT 87 [(12, qB h), (17, qB h2), (22, .call 86 _ _ hm), (26, qB hn), (31, qB he)] }
theorem mayDom (hn : (!((n : Int) == 1)) = false) (he : (p.1 == q.1) = false) (a b : Nat) (ha : p.1 = (a : Int)) (hb : q.1 = (b : Int)) (t : Bool) (h3 : (trD g)[a]? = some (rowB (domsL g a))) (h4 : (domsL g a)[b]? = some t) : Pure Pg 87 [funD f, .ro (trD g), .int .i64 v, spotD q] [.bool t] := by
 obtain ⟨p1, p2⟩ := p
 obtain ⟨q1, q2⟩ := q
 simp only at ha hb he
 subst ha hb
 exact qU { hint := qT 87 [(12, qB h), (17, qB h2), (22, .call 86 _ _ hm), (26, qB hn), (31, qB he), (40, .idx (trD g) ((a : Nat) : Int) (rowB (domsL g a)) (by omega) h3), (44, hIxB Pg (domsL g a) b t h4)] }
end
end
theorem hitBs_lt (v : Int) : ∀ (l : List BlkR) (bi : Nat), ∀ p ∈ hitBs v bi l, ∃ a : Nat, p.1 = (a : Int) ∧ bi ≤ a ∧ a < bi + l.length
 | [], bi, p, h => by simp [hitBs] at h
 | b :: l, bi, p, h => by
  rw [hitBs, List.mem_append] at h
  rcases h with h | h
  ·have key : ∀ (off : Int) (l' : List InstR) (m : Nat), p ∈ hitL v bi off m l' → p.1 = (bi : Int) := fun off l' => by
     induction l' with
     | nil => intro m h; simp [hitL] at h
     | cons x l' ih =>
      intro m h
      rw [hitL] at h
      split at h
      ·rcases List.mem_cons.1 h with rfl | h
       ·rfl
       ·exact ih _ h
      ·exact ih _ h
   refine ⟨bi, ?_, Nat.le_refl _, by simp⟩
   rw [hitB, List.mem_append] at h
   rcases h with h | h
   ·exact key _ _ _ h
   ·exact key _ _ _ h
  ·obtain ⟨a, h1, h2, h3⟩ := hitBs_lt v l (bi + 1) p h
   exact ⟨a, h1, by omega, by simp only [List.length_cons]; omega⟩
theorem lastP_mem {H : List (Int × Int)} (h : H.length ≠ 0) : lastP H ∈ H := by
 unfold lastP
 rw [List.getLastD_eq_getLast?]
 cases hh : H.getLast? with
 | none => simp at hh; subst hh; simp at h
 | some x => exact List.mem_of_getLast? hh
theorem mayC (f : FunR) (g : Graph) (v : Int) (q : Int × Int) (hf : fineF f) (hn : szF f < 500000000) (hg : g.length = f.blocks.length) (b : Nat) (hq : q.1 = (b : Int)) (hb : b < f.blocks.length) : Pure Pg 87 [funD f, .ro (trD g), .int .i64 v, spotD q] [.bool (mayR f g v q)] := by
 have hm := madeC f v hf hn
 have hlt := hitBs_lt v f.blocks 0
 have hlast := fun h => lastP_mem (H := hits f v) h
 unfold mayR
 generalize hH : hits f v = H at hm hlast
 unfold hits at hH
 rw [hH] at hlt
 cases h1 : decide (v < 0) with
 | true => exact mayNo1 f g v q h1
 | false =>
  cases h2 : decide (f.vals ≤ v) with
  | true => exact mayNo2 f g v q h1 h2
  | false =>
   cases h3 : !((H.length : Int) == 1) with
   | true => exact mayNo3 f g v q _ _ h1 h2 hm h3
   | false =>
    cases h4 : ((lastP H).1 == q.1) with
    | true => exact mayIn f g v q _ _ h1 h2 hm h3 h4
    | false =>
     obtain ⟨a, ha, _, hal⟩ := hlt _ (hlast (by simp at h3; omega))
     have e1 : (trD g)[a]? = some (rowB (domsL g a)) := by
      unfold trD
      rw [List.getElem?_map, List.getElem?_range (by omega)]
      rfl
     have e2 : (domsL g a)[b]? = some (domAt g (lastP H).1 q.1) := by
      unfold domAt
      rw [ha, hq, Int.toNat_natCast, Int.toNat_natCast, List.getD_eq_getElem?_getD, List.getElem?_eq_getElem (by unfold domsL; rw [List.length_map, List.length_range]; omega)]
      rfl
     exact mayDom f g v q _ _ h1 h2 hm h3 h4 a b ha hq _ e1 e2
end Go.Avm
namespace Go.Avm
open Go.Proofs Go.Avm.Dom
def kBad (n : Nat) (vars : Int) (d : DbgR) : Bool := ((decide (d.depth < 0)) || ((decide ((n : Int) ≤ d.depth)) || ((decide (d.kind < 1)) || ((decide (3 < d.kind)) || ((d.kind == 3) && ((decide (d.arg < 0)) || (decide (vars ≤ d.arg))))))))
def kTwin (d y : DbgR) : Bool := ((y.depth == d.depth) && (y.var == d.var))
def knOk (n : Nat) (vars : Int) (l : List DbgR) (i : Nat) : Bool := match l[i]? with
 | some d => !(kBad n vars d) && (l.take i).all fun y => !(kTwin d y)
 | none => true
def knownR (n : Nat) (vars : Int) (l : List DbgR) : Bool := (List.range l.length).all (knOk n vars l)
def hIxZ {α : Type} (P : Program) (f : α → D) (l : List α) (i : Int) (x : α) (h0 : 0 ≤ i) (h : l[i.toNat]? = some x) : Hint P := .idx (l.map f) i (f x) h0 (by simp [h])
def hCut {α : Type} (P : Program) (f : α → D) (l : List α) (i : Nat) (h : i ≤ l.length) : Hint P := .cutl (l.map f) i (by simpa using h)
def knO (x : InstR) (i : Nat) : List (Nat × AV) := [(3, .ptr 3 1 0 0 1), (4, .ptr 88 1 0 0 1), (5, .ptr 173 1 0 0 1), (12, .d (dbgsD x.dbg)), (13, dN x.dbg.length), (14, dN i)]
def knI (x : InstR) (i vd m : Nat) : List (Nat × AV) := knO x i ++ [(8, .ptr 500344 vd 0 0 1), (64, .d (.ro ((x.dbg.map dbgD).take i))), (65, dN i), (66, dN m)]
def cellsD (d : DbgR) : List AV := [dI d.depth, dI d.var, .d (.int .u8 d.kind), dI d.arg, dI d.a, dI d.b]
def knB (c : CodeR) (f : FunR) (x : InstR) : List (Nat × Ent) := [(3, ⟨1, some (.arr 1 (boxC c))⟩), (88, ⟨1, some (.arr 1 (cellsF f))⟩), (173, ⟨1, some (.arr 1 (cellsI x))⟩)]
def knE (c : CodeR) (f : FunR) (x : InstR) (u : Nat → Nat) : List (Nat × Ent) := knB c f x ++ tm u [500344, 500262] 0
def knIE (c : CodeR) (f : FunR) (x : InstR) (d : DbgR) (vd : Nat) (u : Nat → Nat) : List (Nat × Ent) := knB c f x ++ [(500344, ⟨vd, some (.arr 1 (cellsD d))⟩)] ++ tm u [500262] 0
section
variable (c : CodeR) (f : FunR) (x : InstR) (i vd m : Nat) (u : Nat → Nat) (d y : DbgR) (hm : m < i) (hl : i < 4000000) (hx : (x.dbg.take i)[m]? = some y)
include c f x i vd m u d y hm hl hx
theorem knI_T1 (h_a : (y.depth == d.depth) = true) (h_b : (y.var == d.var) = true) : RW 84 (lO 90 7) (knI x i vd m) (knIE c f x d vd u) .ret [(6, dB false)] (knIE c f x d vd (addL u [1])) := qS { hint := qT 90 [(67, qL hm), (68, .idx ((x.dbg.map dbgD).take i) ((m : Nat) : Int) (dbgD y) (by omega) (by rw [← List.map_take, Int.toNat_natCast, List.getElem?_map, hx]; rfl)), (74, qB h_a), (80, qB h_b)] } 90 500000
theorem knI_T (h : ((y.depth == d.depth) && (y.var == d.var)) = true) : RW 84 (lO 90 7) (knI x i vd m) (knIE c f x d vd u) .ret [(6, dB false)] (knIE c f x d vd (addL u [1])) := by
 intro rest X hP hN
 cases h_a : (y.depth == d.depth) with
 | true =>
  cases h_b : (y.var == d.var) with
  | true =>
   exact knI_T1 c f x i vd m u d y hm hl hx h_a h_b rest X hP hN
  | false =>
   simp [h_a, h_b] at h
 | false =>
  simp [h_a] at h
theorem knI_F1 (h_a : (y.depth == d.depth) = true) (h_b : (y.var == d.var) = false) : RW 84 (lO 90 7) (knI x i vd m) (knIE c f x d vd u) .normal (knI x i vd (m + 1)) (knIE c f x d vd (addL u [1])) := qS { hint := qT 90 [(67, qL hm), (68, .idx ((x.dbg.map dbgD).take i) ((m : Nat) : Int) (dbgD y) (by omega) (by rw [← List.map_take, Int.toNat_natCast, List.getElem?_map, hx]; rfl)), (74, qB h_a), (80, qB h_b), (82, hSucc Pg m (by omega))] } 90 500000
theorem knI_F2 (h_a : (y.depth == d.depth) = false) : RW 84 (lO 90 7) (knI x i vd m) (knIE c f x d vd u) .normal (knI x i vd (m + 1)) (knIE c f x d vd (addL u [1])) := qS { hint := qT 90 [(67, qL hm), (68, .idx ((x.dbg.map dbgD).take i) ((m : Nat) : Int) (dbgD y) (by omega) (by rw [← List.map_take, Int.toNat_natCast, List.getElem?_map, hx]; rfl)), (74, qB h_a), (82, hSucc Pg m (by omega))] } 90 500000
theorem knI_F (h : ((y.depth == d.depth) && (y.var == d.var)) = false) : RW 84 (lO 90 7) (knI x i vd m) (knIE c f x d vd u) .normal (knI x i vd (m + 1)) (knIE c f x d vd (addL u [1])) := by
 intro rest X hP hN
 cases h_a : (y.depth == d.depth) with
 | true =>
  cases h_b : (y.var == d.var) with
  | true =>
   simp [h_a, h_b] at h
  | false =>
   exact knI_F1 c f x i vd m u d y hm hl hx h_a h_b rest X hP hN
 | false =>
  exact knI_F2 c f x i vd m u d y hm hl hx h_a rest X hP hN
end
section
variable (c : CodeR) (f : FunR) (x : InstR)
include c f x
theorem knIStop (i vd : Nat) (u : Nat → Nat) (d : DbgR) : RW 84 (lO 90 7) (knI x i vd i) (knIE c f x d vd u) (.exit 2) (knO x i) (knIE c f x d vd u) := qS { hint := qT 90 [(67, qG i)] } 90 500000
theorem knX_T1 (i : Nat) (u : Nat → Nat) (d : DbgR) (st : List (Int × Int)) (hi : i < x.dbg.length) (hx : x.dbg[i]? = some d) (h0 : 0 ≤ x.site) (hst : c.stops[x.site.toNat]? = some st) (h_a : (decide (d.depth < 0)) = true) : RW 84 (lO 90 2) (knO x i) (knE c f x u) .ret [(6, dB false)] (knE c f x (addL u [1])) := qS { hint := qT 90 [(15, qL hi), (17, hIxM Pg dbgD x.dbg i d hx), (21, qB h_a)] } 90 500000
theorem knX_T2 (i : Nat) (u : Nat → Nat) (d : DbgR) (st : List (Int × Int)) (hi : i < x.dbg.length) (hx : x.dbg[i]? = some d) (h0 : 0 ≤ x.site) (hst : c.stops[x.site.toNat]? = some st) (h_a : (decide (d.depth < 0)) = false) (h_b : (decide ((st.length : Int) ≤ d.depth)) = true) : RW 84 (lO 90 2) (knO x i) (knE c f x u) .ret [(6, dB false)] (knE c f x (addL u [1])) := qS { hint := qT 90 [(15, qL hi), (17, hIxM Pg dbgD x.dbg i d hx), (21, qB h_a), (29, hIxZ Pg spotsD c.stops x.site st h0 hst), (31, hLenM Pg spotD st), (32, qB h_b)] } 90 500000
theorem knX_T3 (i : Nat) (u : Nat → Nat) (d : DbgR) (st : List (Int × Int)) (hi : i < x.dbg.length) (hx : x.dbg[i]? = some d) (h0 : 0 ≤ x.site) (hst : c.stops[x.site.toNat]? = some st) (h_a : (decide (d.depth < 0)) = false) (h_b : (decide ((st.length : Int) ≤ d.depth)) = false) (h_c : (decide (d.kind < 1)) = true) : RW 84 (lO 90 2) (knO x i) (knE c f x u) .ret [(6, dB false)] (knE c f x (addL u [1])) := qS { hint := qT 90 [(15, qL hi), (17, hIxM Pg dbgD x.dbg i d hx), (21, qB h_a), (29, hIxZ Pg spotsD c.stops x.site st h0 hst), (31, hLenM Pg spotD st), (32, qB h_b), (37, qB h_c)] } 90 500000
theorem knX_T4 (i : Nat) (u : Nat → Nat) (d : DbgR) (st : List (Int × Int)) (hi : i < x.dbg.length) (hx : x.dbg[i]? = some d) (h0 : 0 ≤ x.site) (hst : c.stops[x.site.toNat]? = some st) (h_a : (decide (d.depth < 0)) = false) (h_b : (decide ((st.length : Int) ≤ d.depth)) = false) (h_c : (decide (d.kind < 1)) = false) (h_d : (decide (3 < d.kind)) = true) : RW 84 (lO 90 2) (knO x i) (knE c f x u) .ret [(6, dB false)] (knE c f x (addL u [1])) := qS { hint := qT 90 [(15, qL hi), (17, hIxM Pg dbgD x.dbg i d hx), (21, qB h_a), (29, hIxZ Pg spotsD c.stops x.site st h0 hst), (31, hLenM Pg spotD st), (32, qB h_b), (37, qB h_c), (42, qB h_d)] } 90 500000
theorem knX_T5 (i : Nat) (u : Nat → Nat) (d : DbgR) (st : List (Int × Int)) (hi : i < x.dbg.length) (hx : x.dbg[i]? = some d) (h0 : 0 ≤ x.site) (hst : c.stops[x.site.toNat]? = some st) (h_a : (decide (d.depth < 0)) = false) (h_b : (decide ((st.length : Int) ≤ d.depth)) = false) (h_c : (decide (d.kind < 1)) = false) (h_d : (decide (3 < d.kind)) = false) (h_e : (d.kind == 3) = true) (h_f : (decide (d.arg < 0)) = true) : RW 84 (lO 90 2) (knO x i) (knE c f x u) .ret [(6, dB false)] (knE c f x (addL u [1])) := qS { hint := qT 90 [(15, qL hi), (17, hIxM Pg dbgD x.dbg i d hx), (21, qB h_a), (29, hIxZ Pg spotsD c.stops x.site st h0 hst), (31, hLenM Pg spotD st), (32, qB h_b), (37, qB h_c), (42, qB h_d), (47, qB h_e), (51, qB h_f)] } 90 500000
theorem knX_T6 (i : Nat) (u : Nat → Nat) (d : DbgR) (st : List (Int × Int)) (hi : i < x.dbg.length) (hx : x.dbg[i]? = some d) (h0 : 0 ≤ x.site) (hst : c.stops[x.site.toNat]? = some st) (h_a : (decide (d.depth < 0)) = false) (h_b : (decide ((st.length : Int) ≤ d.depth)) = false) (h_c : (decide (d.kind < 1)) = false) (h_d : (decide (3 < d.kind)) = false) (h_e : (d.kind == 3) = true) (h_f : (decide (d.arg < 0)) = false) (h_g : (decide (f.vars ≤ d.arg)) = true) : RW 84 (lO 90 2) (knO x i) (knE c f x u) .ret [(6, dB false)] (knE c f x (addL u [1])) := qS { hint := qT 90 [(15, qL hi), (17, hIxM Pg dbgD x.dbg i d hx), (21, qB h_a), (29, hIxZ Pg spotsD c.stops x.site st h0 hst), (31, hLenM Pg spotD st), (32, qB h_b), (37, qB h_c), (42, qB h_d), (47, qB h_e), (51, qB h_f), (57, qB h_g)] } 90 500000
theorem knX_T (i : Nat) (u : Nat → Nat) (d : DbgR) (st : List (Int × Int)) (hi : i < x.dbg.length) (hx : x.dbg[i]? = some d) (h0 : 0 ≤ x.site) (hst : c.stops[x.site.toNat]? = some st) (h : ((decide (d.depth < 0)) || ((decide ((st.length : Int) ≤ d.depth)) || ((decide (d.kind < 1)) || ((decide (3 < d.kind)) || ((d.kind == 3) && ((decide (d.arg < 0)) || (decide (f.vars ≤ d.arg)))))))) = true) : RW 84 (lO 90 2) (knO x i) (knE c f x u) .ret [(6, dB false)] (knE c f x (addL u [1])) := by
 intro rest X hP hN
 cases h_a : (decide (d.depth < 0)) with
 | true =>
  exact knX_T1 c f x i u d st hi hx h0 hst h_a rest X hP hN
 | false =>
  cases h_b : (decide ((st.length : Int) ≤ d.depth)) with
  | true =>
   exact knX_T2 c f x i u d st hi hx h0 hst h_a h_b rest X hP hN
  | false =>
   cases h_c : (decide (d.kind < 1)) with
   | true =>
    exact knX_T3 c f x i u d st hi hx h0 hst h_a h_b h_c rest X hP hN
   | false =>
    cases h_d : (decide (3 < d.kind)) with
    | true =>
     exact knX_T4 c f x i u d st hi hx h0 hst h_a h_b h_c h_d rest X hP hN
    | false =>
     cases h_e : (d.kind == 3) with
     | true =>
      cases h_f : (decide (d.arg < 0)) with
      | true =>
       exact knX_T5 c f x i u d st hi hx h0 hst h_a h_b h_c h_d h_e h_f rest X hP hN
      | false =>
       cases h_g : (decide (f.vars ≤ d.arg)) with
       | true =>
        exact knX_T6 c f x i u d st hi hx h0 hst h_a h_b h_c h_d h_e h_f h_g rest X hP hN
       | false =>
        simp [h_a, h_b, h_c, h_d, h_e, h_f, h_g] at h
     | false =>
      simp [h_a, h_b, h_c, h_d, h_e] at h
end
section
variable (c : CodeR) (f : FunR) (x : InstR) (d : DbgR) (i vd : Nat) (u : Nat → Nat)
theorem knIGood (hi : i < x.dbg.length) (hl : x.dbg.length < 4000000) (h : (x.dbg.take i).all (fun y => !(kTwin d y)) = true) : ∃ u', RE 84 (.loop (lO 90 7)) (knI x i vd 0) (knIE c f x d vd u) (.exit 2) (knO x i) (knIE c f x d vd u') :=
 lw_ver (P := Pg) (N := 84) (c := loopOf Pg 90 7) i (fun m u rest => ⟨envOf (knI x i vd m), ovl (knIE c f x d vd u) rest⟩) (fun u rest => ⟨envOf (knO x i), ovl (knIE c f x d vd u) rest⟩) (e := .exit 2) (by simp)
  (fun m hm u => ⟨addL u [1], fun rest X hP hN => by
   have hlen : m < (x.dbg.take i).length := by rw [List.length_take]; omega
   have := List.all_eq_true.1 h _ (List.getElem_mem hlen)
   exact knI_F c f x i vd m u d _ hm (by omega) (get_of hlen) (show kTwin d _ = false by simpa using this) rest X hP hN⟩)
  (fun u => ⟨u, fun rest X hP hN => knIStop c f x i vd u d rest X hP hN⟩) u
theorem knIBad (hi : i < x.dbg.length) (hl : x.dbg.length < 4000000) (h : (x.dbg.take i).all (fun y => !(kTwin d y)) = false) : ∃ u', RE 84 (.loop (lO 90 7)) (knI x i vd 0) (knIE c f x d vd u) .ret [(6, dB false)] (knIE c f x d vd u') := by
 rcases first_bad (fun y => !(kTwin d y)) (x.dbg.take i) with h' | ⟨j, y, h1, h2, h3⟩
 ·rw [h'] at h; cases h
 ·have hj : j < (x.dbg.take i).length := (List.getElem?_eq_some_iff.1 h1).1
  have hji : j < i := by rw [List.length_take] at hj; omega
  exact lw_ver (P := Pg) (N := 84) (c := loopOf Pg 90 7) j (fun m u rest => ⟨envOf (knI x i vd m), ovl (knIE c f x d vd u) rest⟩) (fun u rest => ⟨envOf [(6, dB false)], ovl (knIE c f x d vd u) rest⟩) (e := .ret) (by simp)
   (fun m hm u => ⟨addL u [1], fun rest X hP hN => by
    have hlen : m < (x.dbg.take i).length := by omega
    exact knI_F c f x i vd m u d _ (by omega) (by omega) (get_of hlen) (show kTwin d _ = false by simpa using h3 m _ hm (get_of hlen)) rest X hP hN⟩)
   (fun u => ⟨addL u [1], fun rest X hP hN => knI_T c f x i vd j u d y hji (by omega) h1 (show kTwin d y = true by simpa using h2) rest X hP hN⟩) u
end
section
variable (c : CodeR) (f : FunR) (x : InstR) (i : Nat) (u : Nat → Nat) (d : DbgR) (st : List (Int × Int)) (hi : i < x.dbg.length) (hl : x.dbg.length < 4000000) (hx : x.dbg[i]? = some d) (h0 : 0 ≤ x.site) (hst : c.stops[x.site.toNat]? = some st) (u' : Nat → Nat) (hI : RE 84 (.loop (lO 90 7)) (knI x i (u 0 + 1) 0) (knIE c f x d (u 0 + 1) fun _ => u 1) (.exit 2) (knO x i) (knIE c f x d (u 0 + 1) u'))
include c f x i u d st hi hl hx h0 hst u' hI
theorem knG_F1 (h_a : (decide (d.depth < 0)) = false) (h_b : (decide ((st.length : Int) ≤ d.depth)) = false) (h_c : (decide (d.kind < 1)) = false) (h_d : (decide (3 < d.kind)) = false) (h_e : (d.kind == 3) = true) (h_f : (decide (d.arg < 0)) = false) (h_g : (decide (f.vars ≤ d.arg)) = false) : RW 84 (lO 90 2) (knO x i) (knE c f x u) .normal (knO x (i + 1)) (knE c f x fun j => if j = 0 then u 0 + 1 else u' 0) := qS { loops := qO 90 7 (qP hI), hint := qT 90 [(15, qL hi), (17, hIxM Pg dbgD x.dbg i d hx), (21, qB h_a), (29, hIxZ Pg spotsD c.stops x.site st h0 hst), (31, hLenM Pg spotD st), (32, qB h_b), (37, qB h_c), (42, qB h_d), (47, qB h_e), (51, qB h_f), (57, qB h_g), (64, hCut Pg dbgD x.dbg i (by omega)), (65, hNat Pg (((x.dbg.map dbgD).take i).length : Int) i (by rw [List.length_take, List.length_map]; omega)), (83, hSucc Pg i (by omega))] } 90 500000
theorem knG_F2 (h_a : (decide (d.depth < 0)) = false) (h_b : (decide ((st.length : Int) ≤ d.depth)) = false) (h_c : (decide (d.kind < 1)) = false) (h_d : (decide (3 < d.kind)) = false) (h_e : (d.kind == 3) = false) : RW 84 (lO 90 2) (knO x i) (knE c f x u) .normal (knO x (i + 1)) (knE c f x fun j => if j = 0 then u 0 + 1 else u' 0) := qS { loops := qO 90 7 (qP hI), hint := qT 90 [(15, qL hi), (17, hIxM Pg dbgD x.dbg i d hx), (21, qB h_a), (29, hIxZ Pg spotsD c.stops x.site st h0 hst), (31, hLenM Pg spotD st), (32, qB h_b), (37, qB h_c), (42, qB h_d), (47, qB h_e), (64, hCut Pg dbgD x.dbg i (by omega)), (65, hNat Pg (((x.dbg.map dbgD).take i).length : Int) i (by rw [List.length_take, List.length_map]; omega)), (83, hSucc Pg i (by omega))] } 90 500000
theorem knG_F (h : ((decide (d.depth < 0)) || ((decide ((st.length : Int) ≤ d.depth)) || ((decide (d.kind < 1)) || ((decide (3 < d.kind)) || ((d.kind == 3) && ((decide (d.arg < 0)) || (decide (f.vars ≤ d.arg)))))))) = false) : RW 84 (lO 90 2) (knO x i) (knE c f x u) .normal (knO x (i + 1)) (knE c f x fun j => if j = 0 then u 0 + 1 else u' 0) := by
 intro rest X hP hN
 cases h_a : (decide (d.depth < 0)) with
 | true =>
  simp [h_a] at h
 | false =>
  cases h_b : (decide ((st.length : Int) ≤ d.depth)) with
  | true =>
   simp [h_a, h_b] at h
  | false =>
   cases h_c : (decide (d.kind < 1)) with
   | true =>
    simp [h_a, h_b, h_c] at h
   | false =>
    cases h_d : (decide (3 < d.kind)) with
    | true =>
     simp [h_a, h_b, h_c, h_d] at h
    | false =>
     cases h_e : (d.kind == 3) with
     | true =>
      cases h_f : (decide (d.arg < 0)) with
      | true =>
       simp [h_a, h_b, h_c, h_d, h_e, h_f] at h
      | false =>
       cases h_g : (decide (f.vars ≤ d.arg)) with
       | true =>
        simp [h_a, h_b, h_c, h_d, h_e, h_f, h_g] at h
       | false =>
        exact knG_F1 c f x i u d st hi hl hx h0 hst u' hI h_a h_b h_c h_d h_e h_f h_g rest X hP hN
     | false =>
      exact knG_F2 c f x i u d st hi hl hx h0 hst u' hI h_a h_b h_c h_d h_e rest X hP hN
end
section
variable (c : CodeR) (f : FunR) (x : InstR) (i : Nat) (u : Nat → Nat) (d : DbgR) (st : List (Int × Int)) (hi : i < x.dbg.length) (hx : x.dbg[i]? = some d) (h0 : 0 ≤ x.site) (hst : c.stops[x.site.toNat]? = some st) (u' : Nat → Nat) (hI : RE 84 (.loop (lO 90 7)) (knI x i (u 0 + 1) 0) (knIE c f x d (u 0 + 1) fun _ => u 1) .ret [(6, dB false)] (knIE c f x d (u 0 + 1) u'))
include c f x i u d st hi hx h0 hst u' hI
theorem knD_F1 (h_a : (decide (d.depth < 0)) = false) (h_b : (decide ((st.length : Int) ≤ d.depth)) = false) (h_c : (decide (d.kind < 1)) = false) (h_d : (decide (3 < d.kind)) = false) (h_e : (d.kind == 3) = true) (h_f : (decide (d.arg < 0)) = false) (h_g : (decide (f.vars ≤ d.arg)) = false) : RW 84 (lO 90 2) (knO x i) (knE c f x u) .ret [(6, dB false)] (knE c f x fun j => if j = 0 then u 0 + 1 else u' 0) := qS { loops := qO 90 7 (qP hI), hint := qT 90 [(15, qL hi), (17, hIxM Pg dbgD x.dbg i d hx), (21, qB h_a), (29, hIxZ Pg spotsD c.stops x.site st h0 hst), (31, hLenM Pg spotD st), (32, qB h_b), (37, qB h_c), (42, qB h_d), (47, qB h_e), (51, qB h_f), (57, qB h_g), (64, hCut Pg dbgD x.dbg i (by omega)), (65, hNat Pg (((x.dbg.map dbgD).take i).length : Int) i (by rw [List.length_take, List.length_map]; omega))] } 90 500000
theorem knD_F2 (h_a : (decide (d.depth < 0)) = false) (h_b : (decide ((st.length : Int) ≤ d.depth)) = false) (h_c : (decide (d.kind < 1)) = false) (h_d : (decide (3 < d.kind)) = false) (h_e : (d.kind == 3) = false) : RW 84 (lO 90 2) (knO x i) (knE c f x u) .ret [(6, dB false)] (knE c f x fun j => if j = 0 then u 0 + 1 else u' 0) := qS { loops := qO 90 7 (qP hI), hint := qT 90 [(15, qL hi), (17, hIxM Pg dbgD x.dbg i d hx), (21, qB h_a), (29, hIxZ Pg spotsD c.stops x.site st h0 hst), (31, hLenM Pg spotD st), (32, qB h_b), (37, qB h_c), (42, qB h_d), (47, qB h_e), (64, hCut Pg dbgD x.dbg i (by omega)), (65, hNat Pg (((x.dbg.map dbgD).take i).length : Int) i (by rw [List.length_take, List.length_map]; omega))] } 90 500000
theorem knD_F (h : ((decide (d.depth < 0)) || ((decide ((st.length : Int) ≤ d.depth)) || ((decide (d.kind < 1)) || ((decide (3 < d.kind)) || ((d.kind == 3) && ((decide (d.arg < 0)) || (decide (f.vars ≤ d.arg)))))))) = false) : RW 84 (lO 90 2) (knO x i) (knE c f x u) .ret [(6, dB false)] (knE c f x fun j => if j = 0 then u 0 + 1 else u' 0) := by
 intro rest X hP hN
 cases h_a : (decide (d.depth < 0)) with
 | true =>
  simp [h_a] at h
 | false =>
  cases h_b : (decide ((st.length : Int) ≤ d.depth)) with
  | true =>
   simp [h_a, h_b] at h
  | false =>
   cases h_c : (decide (d.kind < 1)) with
   | true =>
    simp [h_a, h_b, h_c] at h
   | false =>
    cases h_d : (decide (3 < d.kind)) with
    | true =>
     simp [h_a, h_b, h_c, h_d] at h
    | false =>
     cases h_e : (d.kind == 3) with
     | true =>
      cases h_f : (decide (d.arg < 0)) with
      | true =>
       simp [h_a, h_b, h_c, h_d, h_e, h_f] at h
      | false =>
       cases h_g : (decide (f.vars ≤ d.arg)) with
       | true =>
        simp [h_a, h_b, h_c, h_d, h_e, h_f, h_g] at h
       | false =>
        exact knD_F1 c f x i u d st hi hx h0 hst u' hI h_a h_b h_c h_d h_e h_f h_g rest X hP hN
     | false =>
      exact knD_F2 c f x i u d st hi hx h0 hst u' hI h_a h_b h_c h_d h_e rest X hP hN
end
end Go.Avm
namespace Go.Avm
open Go.Proofs Go.Avm.Dom
theorem knOk_get {n : Nat} {vars : Int} {l : List DbgR} {i : Nat} (hi : i < l.length) : knOk n vars l i = (!(kBad n vars l[i]) && (l.take i).all fun y => !(kTwin l[i] y)) := by
 unfold knOk
 rw [get_of hi]
section
variable (c : CodeR) (f : FunR) (x : InstR) (st : List (Int × Int)) (hl : x.dbg.length < 4000000) (h0 : 0 ≤ x.site) (hst : c.stops[x.site.toNat]? = some st)
include hl h0 hst
theorem knStep (i : Nat) (hi : i < x.dbg.length) (h : knOk st.length f.vars x.dbg i = true) (u : Nat → Nat) : ∃ u', RW 84 (lO 90 2) (knO x i) (knE c f x u) .normal (knO x (i + 1)) (knE c f x u') := by
 rw [knOk_get hi, Bool.and_eq_true] at h
 obtain ⟨u', hI⟩ := knIGood c f x x.dbg[i] i (u 0 + 1) (fun _ => u 1) hi hl h.2
 exact ⟨fun j => if j = 0 then u 0 + 1 else u' 0, fun rest X hP hN => knG_F c f x i u x.dbg[i] st hi hl (get_of hi) h0 hst u' hI (show kBad st.length f.vars x.dbg[i] = false by simpa using h.1) rest X hP hN⟩
theorem knEnd (i : Nat) (hi : i < x.dbg.length) (h : knOk st.length f.vars x.dbg i = false) (u : Nat → Nat) : ∃ u', RW 84 (lO 90 2) (knO x i) (knE c f x u) .ret [(6, dB false)] (knE c f x u') := by
 rw [knOk_get hi] at h
 cases hb : kBad st.length f.vars x.dbg[i] with
 | true => exact ⟨addL u [1], fun rest X hP hN => knX_T c f x i u x.dbg[i] st hi (get_of hi) h0 hst hb rest X hP hN⟩
 | false =>
  rw [hb] at h
  obtain ⟨u', hI⟩ := knIBad c f x x.dbg[i] i (u 0 + 1) (fun _ => u 1) hi hl (by simpa using h)
  exact ⟨fun j => if j = 0 then u 0 + 1 else u' 0, fun rest X hP hN => knD_F c f x i u x.dbg[i] st hi (get_of hi) h0 hst u' hI hb rest X hP hN⟩
end
theorem knStop (c : CodeR) (f : FunR) (x : InstR) (u : Nat → Nat) : RW 84 (lO 90 2) (knO x x.dbg.length) (knE c f x u) (.exit 0) [] (knE c f x u) := qS { hint := qT 90 [(15, qG x.dbg.length)] } 90 500000
theorem knownC (c : CodeR) (f : FunR) (x : InstR) (st : List (Int × Int)) (hl : x.dbg.length < 4000000) (h0 : 0 ≤ x.site) (hst : c.stops[x.site.toNat]? = some st) : Pure Pg 90 [codeD c, funD f, instD x] [.bool (knownR st.length f.vars x.dbg)] := by
 rcases first_bad (knOk st.length f.vars x.dbg) (List.range x.dbg.length) with h | ⟨j, y, h1, h2, h3⟩
 ·obtain ⟨u', hu⟩ := lw_ver (P := Pg) (N := 84) (c := loopOf Pg 90 2) x.dbg.length (fun i u rest => ⟨envOf (knO x i), ovl (knE c f x u) rest⟩) (fun u rest => ⟨envOf [], ovl (knE c f x u) rest⟩) (e := .exit 0) (by simp)
    (fun i hi u => knStep c f x st hl h0 hst i hi (List.all_eq_true.1 h i (List.mem_range.2 hi)) u) (fun u => ⟨u, fun rest X hP hN => knStop c f x u rest X hP hN⟩) (fun _ => 0)
  rw [show knownR st.length f.vars x.dbg = true from h]
  exact qU { loops := qO 90 2 (qP hu), hint := qT 90 [(13, hLenM Pg dbgD x.dbg)] }
 ·have hj : j < x.dbg.length := by have := (List.getElem?_eq_some_iff.1 h1).1; simpa using this
  have hjy : j = y := by simpa [List.getElem?_range hj] using h1
  subst hjy
  obtain ⟨u', hu⟩ := lw_ver (P := Pg) (N := 84) (c := loopOf Pg 90 2) j (fun i u rest => ⟨envOf (knO x i), ovl (knE c f x u) rest⟩) (fun u rest => ⟨envOf [(6, dB false)], ovl (knE c f x u) rest⟩) (e := .ret) (by simp)
   (fun i hi u => knStep c f x st hl h0 hst i (by omega) (h3 i i hi (List.getElem?_range (by omega))) u) (fun u => knEnd c f x st hl h0 hst j hj h2 u) (fun _ => 0)
  have hk : knownR st.length f.vars x.dbg = false := by
   unfold knownR
   rw [List.all_eq_false]
   exact ⟨j, List.mem_range.2 hj, by rw [h2]; simp⟩
  rw [hk]
  exact qU { loops := qO 90 2 (qP hu), hint := qT 90 [(13, hLenM Pg dbgD x.dbg)] }
end Go.Avm
namespace Go.Avm
open Go.Proofs Go.Avm.Dom
def seqOf (P : Program) (f r : Nat) : Code := (findSeq r (bodyOf P f)).getD .skip
def fromD (g : Graph) : D := .ro ((intoOf g).map rowN)
noncomputable def fuB (f : FunR) (g : Graph) (bi : Nat) : List (Nat × AV) := [(2, .ptr 2 1 0 0 1), (3, .ptr 440 1 0 0 1), (10, .d (fromD g)), (11, .d (.ro (trD g))), (133, .d (blksD f.blocks)), (134, dN f.blocks.length), (135, dN bi)]
noncomputable def fuC (f : FunR) (g : Graph) (bi vb : Nat) : List (Nat × AV) := fuB f g bi ++ [(12, dN bi), (13, .ptr 501761 vb 0 0 1)]
noncomputable def fuI (f : FunR) (g : Graph) (bi vb : Nat) (l : List InstR) (i : Nat) : List (Nat × AV) := fuC f g bi vb ++ [(214, .d (instsD l)), (215, dN l.length), (216, dN i)]
noncomputable def fuX (f : FunR) (g : Graph) (bi vb : Nat) (l : List InstR) (i vi : Nat) : List (Nat × AV) := fuI f g bi vb l i ++ [(21, dN i), (22, .ptr 501770 vi 0 0 1)]
def fuH (c : CodeR) (f : FunR) (b : BlkR) (vb : Nat) : List (Nat × Ent) := [(2, ⟨1, some (.arr 1 (boxC c))⟩), (440, ⟨1, some (.arr 1 (cellsF f))⟩), (501761, ⟨vb, some (.arr 1 (cellsB b))⟩)]
def fuHX (c : CodeR) (f : FunR) (b : BlkR) (vb : Nat) (x : InstR) (vi : Nat) (u : Nat → Nat) : List (Nat × Ent) := fuH c f b vb ++ [(501770, ⟨vi, some (.arr 1 (cellsI x))⟩)] ++ tm u [503085, 501343] 0
section
variable (c : CodeR) (f : FunR) (g : Graph) (bi vb : Nat) (b : BlkR) (l : List InstR) (i vi : Nat) (x : InstR) (u : Nat → Nat) (k : Nat) (a : Int) (d : DbgR)
noncomputable def fuAr (f : FunR) (g : Graph) (bi vb : Nat) (l : List InstR) (i vi : Nat) (x : InstR) (k : Nat) : List (Nat × AV) := fuX f g bi vb l i vi ++ [(339, .d (rowD x.args)), (340, dN x.args.length), (341, dN k)]
theorem fuArRound (hk : k < x.args.length) (hl : x.args.length < 4000000) (hx : x.args[k]? = some a) (hm : Pure Pg 87 [funD f, .ro (trD g), .int .i64 a, spotD ((bi : Int), (i : Int))] [.bool true]) : RW 437 (lO 58 71) (fuAr f g bi vb l i vi x k) (fuHX c f b vb x vi u) .normal (fuAr f g bi vb l i vi x (k + 1)) (fuHX c f b vb x vi u) := qS { hint := qT 58 [(342, qL hk), (343, hIx Pg x.args k a hx), (351, .call 87 _ _ hm), (353, hSucc Pg k (by omega))] } 58 500000
theorem fuArBad (hk : k < x.args.length) (hl : x.args.length < 4000000) (hx : x.args[k]? = some a) (hm : Pure Pg 87 [funD f, .ro (trD g), .int .i64 a, spotD ((bi : Int), (i : Int))] [.bool false]) : RW 437 (lO 58 71) (fuAr f g bi vb l i vi x k) (fuHX c f b vb x vi u) .ret [(4, dB false)] (fuHX c f b vb x vi u) := qS { hint := qT 58 [(342, qL hk), (343, hIx Pg x.args k a hx), (351, .call 87 _ _ hm)] } 58 500000
theorem fuArStop : RW 437 (lO 58 71) (fuAr f g bi vb l i vi x x.args.length) (fuHX c f b vb x vi u) (.exit 13) (fuX f g bi vb l i vi) (fuHX c f b vb x vi u) := qS { hint := qT 58 [(342, qG x.args.length)] } 58 500000
noncomputable def fuD (f : FunR) (g : Graph) (bi vb : Nat) (l : List InstR) (i : Nat) (x : InstR) (st : Bool) (k : Nat) : List (Nat × AV) := fuI f g bi vb l i ++ [(21, dN i), (30, dB st), (390, .d (dbgsD x.dbg)), (391, dN x.dbg.length), (392, dN k)]
def fuHI (c : CodeR) (f : FunR) (b : BlkR) (vb : Nat) (u : Nat → Nat) : List (Nat × Ent) := fuH c f b vb ++ tm u [501770, 503085, 501343] 0
theorem fuD_T1 (c : CodeR) (f : FunR) (g : Graph) (bi vb : Nat) (b : BlkR) (l : List InstR) (i : Nat) (x : InstR) (u : Nat → Nat) (k : Nat) (d : DbgR) (hk : k < x.dbg.length) (hl : x.dbg.length < 4000000) (hx : x.dbg[k]? = some d) (hm : Pure Pg 87 [funD f, .ro (trD g), .int .i64 d.arg, spotD ((bi : Int), (i : Int))] [.bool (mayR f g d.arg ((bi : Int), (i : Int)))])  (h_e : (d.kind == 2) = true) (h_m : (!mayR f g d.arg ((bi : Int), (i : Int))) = true) : RW 437 (lO 58 82) (fuD f g bi vb l i x true k) (fuHI c f b vb u) .ret [(4, dB false)] (fuHI c f b vb (addL u [0, 0, 1])) := qS { hint := qT 58 [(393, qL hk), (394, hIxM Pg dbgD x.dbg k d hx), (400, qB h_e), (410, .call 87 _ _ hm), (411, qB h_m)] } 58 500000
theorem fuD_T (c : CodeR) (f : FunR) (g : Graph) (bi vb : Nat) (b : BlkR) (l : List InstR) (i : Nat) (x : InstR) (u : Nat → Nat) (k : Nat) (d : DbgR) (hk : k < x.dbg.length) (hl : x.dbg.length < 4000000) (hx : x.dbg[k]? = some d) (hm : Pure Pg 87 [funD f, .ro (trD g), .int .i64 d.arg, spotD ((bi : Int), (i : Int))] [.bool (mayR f g d.arg ((bi : Int), (i : Int)))])  (h : ((d.kind == 2) && (!mayR f g d.arg ((bi : Int), (i : Int)))) = true) : RW 437 (lO 58 82) (fuD f g bi vb l i x true k) (fuHI c f b vb u) .ret [(4, dB false)] (fuHI c f b vb (addL u [0, 0, 1])) := by
 intro rest X hP hN
 cases h_e : (d.kind == 2) with
 | true =>
  cases h_m : (!mayR f g d.arg ((bi : Int), (i : Int))) with
  | true =>
   exact fuD_T1 c f g bi vb b l i x u k d hk hl hx hm  h_e h_m rest X hP hN
  | false =>
   simp [h_e, h_m] at h
 | false =>
  simp [h_e] at h
theorem fuD_F1 (c : CodeR) (f : FunR) (g : Graph) (bi vb : Nat) (b : BlkR) (l : List InstR) (i : Nat) (x : InstR) (u : Nat → Nat) (k : Nat) (d : DbgR) (hk : k < x.dbg.length) (hl : x.dbg.length < 4000000) (hx : x.dbg[k]? = some d) (hm : Pure Pg 87 [funD f, .ro (trD g), .int .i64 d.arg, spotD ((bi : Int), (i : Int))] [.bool (mayR f g d.arg ((bi : Int), (i : Int)))])  (h_e : (d.kind == 2) = true) (h_m : (!mayR f g d.arg ((bi : Int), (i : Int))) = false) : RW 437 (lO 58 82) (fuD f g bi vb l i x true k) (fuHI c f b vb u) .normal (fuD f g bi vb l i x true (k + 1)) (fuHI c f b vb (addL u [0, 0, 1])) := qS { hint := qT 58 [(393, qL hk), (394, hIxM Pg dbgD x.dbg k d hx), (400, qB h_e), (410, .call 87 _ _ hm), (411, qB h_m), (413, hSucc Pg k (by omega))] } 58 500000
theorem fuD_F2 (c : CodeR) (f : FunR) (g : Graph) (bi vb : Nat) (b : BlkR) (l : List InstR) (i : Nat) (x : InstR) (u : Nat → Nat) (k : Nat) (d : DbgR) (hk : k < x.dbg.length) (hl : x.dbg.length < 4000000) (hx : x.dbg[k]? = some d) (hm : Pure Pg 87 [funD f, .ro (trD g), .int .i64 d.arg, spotD ((bi : Int), (i : Int))] [.bool (mayR f g d.arg ((bi : Int), (i : Int)))])  (h_e : (d.kind == 2) = false) : RW 437 (lO 58 82) (fuD f g bi vb l i x true k) (fuHI c f b vb u) .normal (fuD f g bi vb l i x true (k + 1)) (fuHI c f b vb (addL u [0, 0, 1])) := qS { hint := qT 58 [(393, qL hk), (394, hIxM Pg dbgD x.dbg k d hx), (400, qB h_e), (413, hSucc Pg k (by omega))] } 58 500000
theorem fuD_F (c : CodeR) (f : FunR) (g : Graph) (bi vb : Nat) (b : BlkR) (l : List InstR) (i : Nat) (x : InstR) (u : Nat → Nat) (k : Nat) (d : DbgR) (hk : k < x.dbg.length) (hl : x.dbg.length < 4000000) (hx : x.dbg[k]? = some d) (hm : Pure Pg 87 [funD f, .ro (trD g), .int .i64 d.arg, spotD ((bi : Int), (i : Int))] [.bool (mayR f g d.arg ((bi : Int), (i : Int)))])  (h : ((d.kind == 2) && (!mayR f g d.arg ((bi : Int), (i : Int)))) = false) : RW 437 (lO 58 82) (fuD f g bi vb l i x true k) (fuHI c f b vb u) .normal (fuD f g bi vb l i x true (k + 1)) (fuHI c f b vb (addL u [0, 0, 1])) := by
 intro rest X hP hN
 cases h_e : (d.kind == 2) with
 | true =>
  cases h_m : (!mayR f g d.arg ((bi : Int), (i : Int))) with
  | true =>
   simp [h_e, h_m] at h
  | false =>
   exact fuD_F1 c f g bi vb b l i x u k d hk hl hx hm  h_e h_m rest X hP hN
 | false =>
  exact fuD_F2 c f g bi vb b l i x u k d hk hl hx hm  h_e rest X hP hN
theorem fuDNo (hk : k < x.dbg.length) (hl : x.dbg.length < 4000000) (hx : x.dbg[k]? = some d) : RW 437 (lO 58 82) (fuD f g bi vb l i x false k) (fuHI c f b vb u) .normal (fuD f g bi vb l i x false (k + 1)) (fuHI c f b vb (addL u [0, 0, 1])) := qS { hint := qT 58 [(393, qL hk), (394, hIxM Pg dbgD x.dbg k d hx), (413, hSucc Pg k (by omega))] } 58 500000
theorem fuDStop (st : Bool) : RW 437 (lO 58 82) (fuD f g bi vb l i x st x.dbg.length) (fuHI c f b vb u) (.exit 15) (fuI f g bi vb l i) (fuHI c f b vb u) := qS { hint := qT 58 [(393, qG x.dbg.length)] } 58 500000
end
end Go.Avm
namespace Go.Avm
open Go.Proofs Go.Avm.Dom
theorem not_f {b : Bool} (h : (!b) = true) : b = false := by cases b <;> simp_all
def bE : Bool → AExit
 | true => .normal
 | false => .ret
def bL (l : List (Nat × AV)) : Bool → List (Nat × AV)
 | true => l
 | false => [(4, dB false)]
def hx (vi : Nat) (u : Nat → Nat) : Nat → Nat := fun j => if j = 0 then vi else u (j - 1)
noncomputable def dbgOk (f : FunR) (g : Graph) (bi i : Nat) (l : List DbgR) : Bool := l.all fun d => !((d.kind == 2) && (!mayR f g d.arg ((bi : Int), (i : Int))))
noncomputable def tail81 (f : FunR) (g : Graph) (bi i : Nat) (x : InstR) (st : Bool) : Bool := !st || dbgOk f g bi i x.dbg
def May (f : FunR) (g : Graph) (bi : Nat) : Prop := ∀ v j : Int, Pure Pg 87 [funD f, .ro (trD g), .int .i64 v, spotD ((bi : Int), j)] [.bool (mayR f g v ((bi : Int), j))]
section
variable (c : CodeR) (f : FunR) (g : Graph) (bi vb : Nat) (b : BlkR) (l : List InstR) (i : Nat) (x : InstR) (u : Nat → Nat)
theorem fuDGood (st : Bool) (hl : x.dbg.length < 4000000) (hm : May f g bi) (h : tail81 f g bi i x st = true) : ∃ u', RE 437 (.loop (lO 58 82)) (fuD f g bi vb l i x st 0) (fuHI c f b vb u) (.exit 15) (fuI f g bi vb l i) (fuHI c f b vb u') :=
 lw_ver (P := Pg) (N := 437) (c := loopOf Pg 58 82) x.dbg.length (fun k u rest => ⟨envOf (fuD f g bi vb l i x st k), ovl (fuHI c f b vb u) rest⟩) (fun u rest => ⟨envOf (fuI f g bi vb l i), ovl (fuHI c f b vb u) rest⟩) (e := .exit 15) (by simp)
  (fun k hk u => ⟨addL u [0, 0, 1], fun rest X hP hN => by
   cases st with
   | false => exact fuDNo c f g bi vb b l i x u k x.dbg[k] hk hl (get_of hk) rest X hP hN
   | true => exact fuD_F c f g bi vb b l i x u k x.dbg[k] hk hl (get_of hk) (hm _ _) (by
       have h2 : dbgOk f g bi i x.dbg = true := by simpa [tail81] using h
       have := List.all_eq_true.1 h2 _ (List.getElem_mem hk)
       exact not_f this) rest X hP hN⟩)
  (fun u => ⟨u, fun rest X hP hN => fuDStop c f g bi vb b l i x u st rest X hP hN⟩) u
theorem fuDBad (hl : x.dbg.length < 4000000) (hm : May f g bi) (h : dbgOk f g bi i x.dbg = false) : ∃ u', RE 437 (.loop (lO 58 82)) (fuD f g bi vb l i x true 0) (fuHI c f b vb u) .ret [(4, dB false)] (fuHI c f b vb u') := by
 rcases first_bad (fun d : DbgR => !((d.kind == 2) && (!mayR f g d.arg ((bi : Int), (i : Int))))) x.dbg with h' | ⟨j, d, h1, h2, h3⟩
 ·unfold dbgOk at h; rw [h'] at h; cases h
 ·have hj : j < x.dbg.length := (List.getElem?_eq_some_iff.1 h1).1
  exact lw_ver (P := Pg) (N := 437) (c := loopOf Pg 58 82) j (fun k u rest => ⟨envOf (fuD f g bi vb l i x true k), ovl (fuHI c f b vb u) rest⟩) (fun u rest => ⟨envOf [(4, dB false)], ovl (fuHI c f b vb u) rest⟩) (e := .ret) (by simp)
   (fun k hk u => ⟨addL u [0, 0, 1], fun rest X hP hN => fuD_F c f g bi vb b l i x u k _ (by omega) hl (get_of (by omega)) (hm _ _) (not_f (h3 k _ hk (get_of (by omega)))) rest X hP hN⟩)
   (fun u => ⟨addL u [0, 0, 1], fun rest X hP hN => fuD_T c f g bi vb b l i x u j d hj hl h1 (hm _ _) (by simpa using h2) rest X hP hN⟩) u
variable (vi : Nat) (u' : Nat → Nat)
theorem z81Good (st : Bool) (hl : RE 437 (.loop (lO 58 82)) (fuD f g bi vb l i x st 0) (fuHI c f b vb (hx vi u)) (.exit 15) (fuI f g bi vb l i) (fuHI c f b vb u'))
    : RW 437 (seqOf Pg 58 81) (fuX f g bi vb l i vi ++ [(30, dB st)]) (fuHX c f b vb x vi u) .normal (fuI f g bi vb l i) (fuHI c f b vb u') := qS { loops := qO 58 82 (qP hl), hint := qT 58 [(391, hLenM Pg dbgD x.dbg)] } 58 500000
theorem z81Bad (hl : RE 437 (.loop (lO 58 82)) (fuD f g bi vb l i x true 0) (fuHI c f b vb (hx vi u)) .ret [(4, dB false)] (fuHI c f b vb u'))
    : RW 437 (seqOf Pg 58 81) (fuX f g bi vb l i vi ++ [(30, dB true)]) (fuHX c f b vb x vi u) .ret [(4, dB false)] (fuHI c f b vb u') := qS { loops := qO 58 82 (qP hl), hint := qT 58 [(391, hLenM Pg dbgD x.dbg)] } 58 500000
def Tail (k : Nat) (extra : List (Nat × AV)) (ok : Bool) : Prop := ∃ u', RE 437 (seqOf Pg 58 k) (fuX f g bi vb l i vi ++ extra) (fuHX c f b vb x vi u) (bE ok) (bL (fuI f g bi vb l i) ok) (fuHI c f b vb u')
theorem z81 (st : Bool) (hl : x.dbg.length < 4000000) (hm : May f g bi) : Tail c f g bi vb b l i x u vi 81 [(30, dB st)] (tail81 f g bi i x st) := by
 cases h : tail81 f g bi i x st with
 | true =>
  obtain ⟨u', hu⟩ := fuDGood c f g bi vb b l i x (hx vi u) st hl hm h
  exact ⟨u', fun rest X hP hN => aw_to (z81Good c f g bi vb b l i x u vi u' st hu rest X hP hN)⟩
 | false =>
  have hst : st = true := by cases st <;> simp_all [tail81]
  subst hst
  obtain ⟨u', hu⟩ := fuDBad c f g bi vb b l i x (hx vi u) hl hm (by simpa [tail81] using h)
  exact ⟨u', fun rest X hP hN => aw_to (z81Bad c f g bi vb b l i x u vi u' hu rest X hP hN)⟩
end
end Go.Avm
namespace Go.Avm
open Go.Proofs Go.Avm.Dom
noncomputable def tail79 (f : FunR) (g : Graph) (bi i : Nat) (x : InstR) (n : Nat) (st : Bool) : Bool := !(st && (!knownR n f.vars x.dbg)) && tail81 f g bi i x st
section
variable (c : CodeR) (f : FunR) (g : Graph) (bi vb : Nat) (b : BlkR) (l : List InstR) (i : Nat) (x : InstR) (u : Nat → Nat) (vi : Nat) (u' : Nat → Nat) (n : Nat)
theorem z79F_true (h : RE 437 (seqOf Pg 58 81) (fuX f g bi vb l i vi ++ [(30, dB false)]) (fuHX c f b vb x vi u) (bE true) (bL (fuI f g bi vb l i) true) (fuHI c f b vb u'))
    : RW 437 (seqOf Pg 58 79) (fuX f g bi vb l i vi ++ [(30, dB false)]) (fuHX c f b vb x vi u) (bE true) (bL (fuI f g bi vb l i) true) (fuHI c f b vb u') := qS { seqs := qO 58 81 (qQ h), hint := fun _ _ => none } 58 500000
theorem z79K_true (hk : Pure Pg 90 [codeD c, funD f, instD x] [.bool true]) (h : RE 437 (seqOf Pg 58 81) (fuX f g bi vb l i vi ++ [(30, dB true)]) (fuHX c f b vb x vi u) (bE true) (bL (fuI f g bi vb l i) true) (fuHI c f b vb u'))
    : RW 437 (seqOf Pg 58 79) (fuX f g bi vb l i vi ++ [(30, dB true)]) (fuHX c f b vb x vi u) (bE true) (bL (fuI f g bi vb l i) true) (fuHI c f b vb u') := qS { seqs := qO 58 81 (qQ h), hint := qT 58 [(386, .call 90 _ _ hk)] } 58 500000
theorem z79F_false (h : RE 437 (seqOf Pg 58 81) (fuX f g bi vb l i vi ++ [(30, dB false)]) (fuHX c f b vb x vi u) (bE false) (bL (fuI f g bi vb l i) false) (fuHI c f b vb u'))
    : RW 437 (seqOf Pg 58 79) (fuX f g bi vb l i vi ++ [(30, dB false)]) (fuHX c f b vb x vi u) (bE false) (bL (fuI f g bi vb l i) false) (fuHI c f b vb u') := qS { seqs := qO 58 81 (qQ h), hint := fun _ _ => none } 58 500000
theorem z79K_false (hk : Pure Pg 90 [codeD c, funD f, instD x] [.bool true]) (h : RE 437 (seqOf Pg 58 81) (fuX f g bi vb l i vi ++ [(30, dB true)]) (fuHX c f b vb x vi u) (bE false) (bL (fuI f g bi vb l i) false) (fuHI c f b vb u'))
    : RW 437 (seqOf Pg 58 79) (fuX f g bi vb l i vi ++ [(30, dB true)]) (fuHX c f b vb x vi u) (bE false) (bL (fuI f g bi vb l i) false) (fuHI c f b vb u') := qS { seqs := qO 58 81 (qQ h), hint := qT 58 [(386, .call 90 _ _ hk)] } 58 500000
theorem z79N (hk : Pure Pg 90 [codeD c, funD f, instD x] [.bool false]) : RW 437 (seqOf Pg 58 79) (fuX f g bi vb l i vi ++ [(30, dB true)]) (fuHX c f b vb x vi u) .ret [(4, dB false)] (fuHI c f b vb (hx vi u)) := qS { hint := qT 58 [(386, .call 90 _ _ hk)] } 58 500000
theorem z79 (st : Bool) (hk : st = true → Pure Pg 90 [codeD c, funD f, instD x] [.bool (knownR n f.vars x.dbg)]) (h : Tail c f g bi vb b l i x u vi 81 [(30, dB st)] (tail81 f g bi i x st)) : Tail c f g bi vb b l i x u vi 79 [(30, dB st)] (tail79 f g bi i x n st) := by
 obtain ⟨u', h⟩ := h
 cases st with
 | false =>
  rw [show tail79 f g bi i x n false = tail81 f g bi i x false by simp [tail79]]
  cases ho : tail81 f g bi i x false with
  | true => rw [ho] at h; exact ⟨u', fun rest X hP hN => aw_to (z79F_true c f g bi vb b l i x u vi u' h rest X hP hN)⟩
  | false => rw [ho] at h; exact ⟨u', fun rest X hP hN => aw_to (z79F_false c f g bi vb b l i x u vi u' h rest X hP hN)⟩
 | true =>
  have hk := hk rfl
  cases hb : knownR n f.vars x.dbg with
  | true =>
   rw [hb] at hk
   rw [show tail79 f g bi i x n true = tail81 f g bi i x true by simp [tail79, hb]]
   cases ho : tail81 f g bi i x true with
   | true => rw [ho] at h; exact ⟨u', fun rest X hP hN => aw_to (z79K_true c f g bi vb b l i x u vi u' hk h rest X hP hN)⟩
   | false => rw [ho] at h; exact ⟨u', fun rest X hP hN => aw_to (z79K_false c f g bi vb b l i x u vi u' hk h rest X hP hN)⟩
  | false =>
   rw [hb] at hk
   rw [show tail79 f g bi i x n true = false by simp [tail79, hb]]
   exact ⟨hx vi u, fun rest X hP hN => aw_to (z79N c f g bi vb b l i x u vi hk rest X hP hN)⟩
end
def siteBad (c : CodeR) (x : InstR) : Bool := ((decide (x.site < 0)) || (decide ((c.stops.length : Int) ≤ x.site)))
noncomputable def tail77 (c : CodeR) (f : FunR) (g : Graph) (bi i : Nat) (x : InstR) (n : Nat) (tr st : Bool) : Bool := !((st || tr) && siteBad c x) && tail79 f g bi i x n st
section
variable (c : CodeR) (f : FunR) (g : Graph) (bi vb : Nat) (b : BlkR) (l : List InstR) (i : Nat) (x : InstR) (u : Nat → Nat) (vi : Nat)
include c f g bi vb b l i x u vi
theorem z77S_T1 (h_a : (decide (x.site < 0)) = true) : RW 437 (seqOf Pg 58 77) (fuX f g bi vb l i vi ++ [(30, dB true)]) (fuHX c f b vb x vi u) .ret [(4, dB false)] (fuHI c f b vb (hx vi u)) := qS { hint := qT 58 [(371, qB h_a)] } 58 500000
theorem z77S_T2 (h_a : (decide (x.site < 0)) = false) (h_d : (decide ((c.stops.length : Int) ≤ x.site)) = true) : RW 437 (seqOf Pg 58 77) (fuX f g bi vb l i vi ++ [(30, dB true)]) (fuHX c f b vb x vi u) .ret [(4, dB false)] (fuHI c f b vb (hx vi u)) := qS { hint := qT 58 [(371, qB h_a), (377, hLenM Pg spotsD c.stops), (378, qB h_d)] } 58 500000
theorem z77S_T (h : ((decide (x.site < 0)) || (decide ((c.stops.length : Int) ≤ x.site))) = true) : RW 437 (seqOf Pg 58 77) (fuX f g bi vb l i vi ++ [(30, dB true)]) (fuHX c f b vb x vi u) .ret [(4, dB false)] (fuHI c f b vb (hx vi u)) := by
 intro rest X hP hN
 cases h_a : (decide (x.site < 0)) with
 | true =>
  exact z77S_T1 c f g bi vb b l i x u vi  h_a rest X hP hN
 | false =>
  cases h_d : (decide ((c.stops.length : Int) ≤ x.site)) with
  | true =>
   exact z77S_T2 c f g bi vb b l i x u vi  h_a h_d rest X hP hN
  | false =>
   simp [h_a, h_d] at h
theorem z77S_true_F1 (u' : Nat → Nat) (h1 : RE 437 (seqOf Pg 58 79) (fuX f g bi vb l i vi ++ [(30, dB true)]) (fuHX c f b vb x vi u) (bE true) (bL (fuI f g bi vb l i) true) (fuHI c f b vb u')) (h_a : (decide (x.site < 0)) = false) (h_d : (decide ((c.stops.length : Int) ≤ x.site)) = false) : RW 437 (seqOf Pg 58 77) (fuX f g bi vb l i vi ++ [(30, dB true)]) (fuHX c f b vb x vi u) (bE true) (bL (fuI f g bi vb l i) true) (fuHI c f b vb u') := qS { seqs := qO 58 79 (qQ h1), hint := qT 58 [(371, qB h_a), (377, hLenM Pg spotsD c.stops), (378, qB h_d)] } 58 500000
theorem z77S_true_F (u' : Nat → Nat) (h1 : RE 437 (seqOf Pg 58 79) (fuX f g bi vb l i vi ++ [(30, dB true)]) (fuHX c f b vb x vi u) (bE true) (bL (fuI f g bi vb l i) true) (fuHI c f b vb u')) (h : ((decide (x.site < 0)) || (decide ((c.stops.length : Int) ≤ x.site))) = false) : RW 437 (seqOf Pg 58 77) (fuX f g bi vb l i vi ++ [(30, dB true)]) (fuHX c f b vb x vi u) (bE true) (bL (fuI f g bi vb l i) true) (fuHI c f b vb u') := by
 intro rest X hP hN
 cases h_a : (decide (x.site < 0)) with
 | true =>
  simp [h_a] at h
 | false =>
  cases h_d : (decide ((c.stops.length : Int) ≤ x.site)) with
  | true =>
   simp [h_a, h_d] at h
  | false =>
   exact z77S_true_F1 c f g bi vb b l i x u vi u' h1 h_a h_d rest X hP hN
theorem z77S_false_F1 (u' : Nat → Nat) (h1 : RE 437 (seqOf Pg 58 79) (fuX f g bi vb l i vi ++ [(30, dB true)]) (fuHX c f b vb x vi u) (bE false) (bL (fuI f g bi vb l i) false) (fuHI c f b vb u')) (h_a : (decide (x.site < 0)) = false) (h_d : (decide ((c.stops.length : Int) ≤ x.site)) = false) : RW 437 (seqOf Pg 58 77) (fuX f g bi vb l i vi ++ [(30, dB true)]) (fuHX c f b vb x vi u) (bE false) (bL (fuI f g bi vb l i) false) (fuHI c f b vb u') := qS { seqs := qO 58 79 (qQ h1), hint := qT 58 [(371, qB h_a), (377, hLenM Pg spotsD c.stops), (378, qB h_d)] } 58 500000
theorem z77S_false_F (u' : Nat → Nat) (h1 : RE 437 (seqOf Pg 58 79) (fuX f g bi vb l i vi ++ [(30, dB true)]) (fuHX c f b vb x vi u) (bE false) (bL (fuI f g bi vb l i) false) (fuHI c f b vb u')) (h : ((decide (x.site < 0)) || (decide ((c.stops.length : Int) ≤ x.site))) = false) : RW 437 (seqOf Pg 58 77) (fuX f g bi vb l i vi ++ [(30, dB true)]) (fuHX c f b vb x vi u) (bE false) (bL (fuI f g bi vb l i) false) (fuHI c f b vb u') := by
 intro rest X hP hN
 cases h_a : (decide (x.site < 0)) with
 | true =>
  simp [h_a] at h
 | false =>
  cases h_d : (decide ((c.stops.length : Int) ≤ x.site)) with
  | true =>
   simp [h_a, h_d] at h
  | false =>
   exact z77S_false_F1 c f g bi vb b l i x u vi u' h1 h_a h_d rest X hP hN
theorem z77T_T1 (htr : Pure Pg 89 [.int .u8 x.op] [.bool true]) (h_a : (decide (x.site < 0)) = true) : RW 437 (seqOf Pg 58 77) (fuX f g bi vb l i vi ++ [(30, dB false)]) (fuHX c f b vb x vi u) .ret [(4, dB false)] (fuHI c f b vb (hx vi u)) := qS { hint := qT 58 [(366, .call 89 _ _ htr), (371, qB h_a)] } 58 500000
theorem z77T_T2 (htr : Pure Pg 89 [.int .u8 x.op] [.bool true]) (h_a : (decide (x.site < 0)) = false) (h_d : (decide ((c.stops.length : Int) ≤ x.site)) = true) : RW 437 (seqOf Pg 58 77) (fuX f g bi vb l i vi ++ [(30, dB false)]) (fuHX c f b vb x vi u) .ret [(4, dB false)] (fuHI c f b vb (hx vi u)) := qS { hint := qT 58 [(366, .call 89 _ _ htr), (371, qB h_a), (377, hLenM Pg spotsD c.stops), (378, qB h_d)] } 58 500000
theorem z77T_T (htr : Pure Pg 89 [.int .u8 x.op] [.bool true]) (h : ((decide (x.site < 0)) || (decide ((c.stops.length : Int) ≤ x.site))) = true) : RW 437 (seqOf Pg 58 77) (fuX f g bi vb l i vi ++ [(30, dB false)]) (fuHX c f b vb x vi u) .ret [(4, dB false)] (fuHI c f b vb (hx vi u)) := by
 intro rest X hP hN
 cases h_a : (decide (x.site < 0)) with
 | true =>
  exact z77T_T1 c f g bi vb b l i x u vi htr  h_a rest X hP hN
 | false =>
  cases h_d : (decide ((c.stops.length : Int) ≤ x.site)) with
  | true =>
   exact z77T_T2 c f g bi vb b l i x u vi htr  h_a h_d rest X hP hN
  | false =>
   simp [h_a, h_d] at h
theorem z77T_true_F1 (htr : Pure Pg 89 [.int .u8 x.op] [.bool true]) (u' : Nat → Nat) (h1 : RE 437 (seqOf Pg 58 79) (fuX f g bi vb l i vi ++ [(30, dB false)]) (fuHX c f b vb x vi u) (bE true) (bL (fuI f g bi vb l i) true) (fuHI c f b vb u')) (h_a : (decide (x.site < 0)) = false) (h_d : (decide ((c.stops.length : Int) ≤ x.site)) = false) : RW 437 (seqOf Pg 58 77) (fuX f g bi vb l i vi ++ [(30, dB false)]) (fuHX c f b vb x vi u) (bE true) (bL (fuI f g bi vb l i) true) (fuHI c f b vb u') := qS { seqs := qO 58 79 (qQ h1), hint := qT 58 [(366, .call 89 _ _ htr), (371, qB h_a), (377, hLenM Pg spotsD c.stops), (378, qB h_d)] } 58 500000
theorem z77T_true_F (htr : Pure Pg 89 [.int .u8 x.op] [.bool true]) (u' : Nat → Nat) (h1 : RE 437 (seqOf Pg 58 79) (fuX f g bi vb l i vi ++ [(30, dB false)]) (fuHX c f b vb x vi u) (bE true) (bL (fuI f g bi vb l i) true) (fuHI c f b vb u')) (h : ((decide (x.site < 0)) || (decide ((c.stops.length : Int) ≤ x.site))) = false) : RW 437 (seqOf Pg 58 77) (fuX f g bi vb l i vi ++ [(30, dB false)]) (fuHX c f b vb x vi u) (bE true) (bL (fuI f g bi vb l i) true) (fuHI c f b vb u') := by
 intro rest X hP hN
 cases h_a : (decide (x.site < 0)) with
 | true =>
  simp [h_a] at h
 | false =>
  cases h_d : (decide ((c.stops.length : Int) ≤ x.site)) with
  | true =>
   simp [h_a, h_d] at h
  | false =>
   exact z77T_true_F1 c f g bi vb b l i x u vi htr u' h1 h_a h_d rest X hP hN
theorem z77T_false_F1 (htr : Pure Pg 89 [.int .u8 x.op] [.bool true]) (u' : Nat → Nat) (h1 : RE 437 (seqOf Pg 58 79) (fuX f g bi vb l i vi ++ [(30, dB false)]) (fuHX c f b vb x vi u) (bE false) (bL (fuI f g bi vb l i) false) (fuHI c f b vb u')) (h_a : (decide (x.site < 0)) = false) (h_d : (decide ((c.stops.length : Int) ≤ x.site)) = false) : RW 437 (seqOf Pg 58 77) (fuX f g bi vb l i vi ++ [(30, dB false)]) (fuHX c f b vb x vi u) (bE false) (bL (fuI f g bi vb l i) false) (fuHI c f b vb u') := qS { seqs := qO 58 79 (qQ h1), hint := qT 58 [(366, .call 89 _ _ htr), (371, qB h_a), (377, hLenM Pg spotsD c.stops), (378, qB h_d)] } 58 500000
theorem z77T_false_F (htr : Pure Pg 89 [.int .u8 x.op] [.bool true]) (u' : Nat → Nat) (h1 : RE 437 (seqOf Pg 58 79) (fuX f g bi vb l i vi ++ [(30, dB false)]) (fuHX c f b vb x vi u) (bE false) (bL (fuI f g bi vb l i) false) (fuHI c f b vb u')) (h : ((decide (x.site < 0)) || (decide ((c.stops.length : Int) ≤ x.site))) = false) : RW 437 (seqOf Pg 58 77) (fuX f g bi vb l i vi ++ [(30, dB false)]) (fuHX c f b vb x vi u) (bE false) (bL (fuI f g bi vb l i) false) (fuHI c f b vb u') := by
 intro rest X hP hN
 cases h_a : (decide (x.site < 0)) with
 | true =>
  simp [h_a] at h
 | false =>
  cases h_d : (decide ((c.stops.length : Int) ≤ x.site)) with
  | true =>
   simp [h_a, h_d] at h
  | false =>
   exact z77T_false_F1 c f g bi vb b l i x u vi htr u' h1 h_a h_d rest X hP hN
theorem z77N_true (htr : Pure Pg 89 [.int .u8 x.op] [.bool false]) (u' : Nat → Nat) (h1 : RE 437 (seqOf Pg 58 79) (fuX f g bi vb l i vi ++ [(30, dB false)]) (fuHX c f b vb x vi u) (bE true) (bL (fuI f g bi vb l i) true) (fuHI c f b vb u'))
    : RW 437 (seqOf Pg 58 77) (fuX f g bi vb l i vi ++ [(30, dB false)]) (fuHX c f b vb x vi u) (bE true) (bL (fuI f g bi vb l i) true) (fuHI c f b vb u') := qS { seqs := qO 58 79 (qQ h1), hint := qT 58 [(366, .call 89 _ _ htr)] } 58 500000
theorem z77N_false (htr : Pure Pg 89 [.int .u8 x.op] [.bool false]) (u' : Nat → Nat) (h1 : RE 437 (seqOf Pg 58 79) (fuX f g bi vb l i vi ++ [(30, dB false)]) (fuHX c f b vb x vi u) (bE false) (bL (fuI f g bi vb l i) false) (fuHI c f b vb u'))
    : RW 437 (seqOf Pg 58 77) (fuX f g bi vb l i vi ++ [(30, dB false)]) (fuHX c f b vb x vi u) (bE false) (bL (fuI f g bi vb l i) false) (fuHI c f b vb u') := qS { seqs := qO 58 79 (qQ h1), hint := qT 58 [(366, .call 89 _ _ htr)] } 58 500000
theorem z77 (n : Nat) (tr st : Bool) (htr : Pure Pg 89 [.int .u8 x.op] [.bool tr]) (h : ((st || tr) && siteBad c x) = false → Tail c f g bi vb b l i x u vi 79 [(30, dB st)] (tail79 f g bi i x n st)) : Tail c f g bi vb b l i x u vi 77 [(30, dB st)] (tail77 c f g bi i x n tr st) := by
 cases hs : ((st || tr) && siteBad c x) with
 | true =>
  rw [show tail77 c f g bi i x n tr st = false by simp only [tail77, hs]; rfl]
  rw [Bool.and_eq_true] at hs
  obtain ⟨k1, k2⟩ := hs
  refine ⟨hx vi u, fun rest X hP hN => aw_to ?_⟩
  cases st with
  | true => exact z77S_T c f g bi vb b l i x u vi k2 rest X hP hN
  | false =>
   cases tr with
   | true => exact z77T_T c f g bi vb b l i x u vi htr k2 rest X hP hN
   | false => simp at k1
 | false =>
  obtain ⟨u', hu⟩ := h hs
  rw [show tail77 c f g bi i x n tr st = tail79 f g bi i x n st by simp only [tail77, hs]; rfl]
  refine ⟨u', fun rest X hP hN => aw_to ?_⟩
  generalize tail79 f g bi i x n st = ok at hu
  cases st with
  | true =>
   have k2 : siteBad c x = false := by simpa using hs
   cases ok with
   | true => exact z77S_true_F c f g bi vb b l i x u vi u' hu k2 rest X hP hN
   | false => exact z77S_false_F c f g bi vb b l i x u vi u' hu k2 rest X hP hN
  | false =>
   cases tr with
   | true =>
    have k2 : siteBad c x = false := by simpa using hs
    cases ok with
    | true => exact z77T_true_F c f g bi vb b l i x u vi htr u' hu k2 rest X hP hN
    | false => exact z77T_false_F c f g bi vb b l i x u vi htr u' hu k2 rest X hP hN
   | false =>
    cases ok with
    | true => exact z77N_true c f g bi vb b l i x u vi htr u' hu rest X hP hN
    | false => exact z77N_false c f g bi vb b l i x u vi htr u' hu rest X hP hN
end
end Go.Avm
namespace Go.Avm
open Go.Proofs Go.Avm.Dom
def isStop (x : InstR) : Bool := ((x.op == 42) || (x.op == 39))
section
variable (c : CodeR) (f : FunR) (g : Graph) (bi vb : Nat) (b : BlkR) (l : List InstR) (i : Nat) (x : InstR) (u : Nat → Nat) (vi : Nat) (u' : Nat → Nat)
include c f g bi vb b l i x u vi u'
theorem z76T_true_T1 (h1 : RE 437 (seqOf Pg 58 77) (fuX f g bi vb l i vi ++ [(30, dB true)]) (fuHX c f b vb x vi u) (bE true) (bL (fuI f g bi vb l i) true) (fuHI c f b vb u')) (h_m : (x.op == 42) = true) : RW 437 (seqOf Pg 58 76) (fuX f g bi vb l i vi ++ []) (fuHX c f b vb x vi u) (bE true) (bL (fuI f g bi vb l i) true) (fuHI c f b vb u') := qS { seqs := qO 58 77 (qQ h1), hint := qT 58 [(356, qB h_m)] } 58 500000
theorem z76T_true_T2 (h1 : RE 437 (seqOf Pg 58 77) (fuX f g bi vb l i vi ++ [(30, dB true)]) (fuHX c f b vb x vi u) (bE true) (bL (fuI f g bi vb l i) true) (fuHI c f b vb u')) (h_m : (x.op == 42) = false) (h_n : (x.op == 39) = true) : RW 437 (seqOf Pg 58 76) (fuX f g bi vb l i vi ++ []) (fuHX c f b vb x vi u) (bE true) (bL (fuI f g bi vb l i) true) (fuHI c f b vb u') := qS { seqs := qO 58 77 (qQ h1), hint := qT 58 [(356, qB h_m), (360, qB h_n)] } 58 500000
theorem z76T_true_T (h1 : RE 437 (seqOf Pg 58 77) (fuX f g bi vb l i vi ++ [(30, dB true)]) (fuHX c f b vb x vi u) (bE true) (bL (fuI f g bi vb l i) true) (fuHI c f b vb u')) (h : ((x.op == 42) || (x.op == 39)) = true) : RW 437 (seqOf Pg 58 76) (fuX f g bi vb l i vi ++ []) (fuHX c f b vb x vi u) (bE true) (bL (fuI f g bi vb l i) true) (fuHI c f b vb u') := by
 intro rest X hP hN
 cases h_m : (x.op == 42) with
 | true =>
  exact z76T_true_T1 c f g bi vb b l i x u vi u' h1  h_m rest X hP hN
 | false =>
  cases h_n : (x.op == 39) with
  | true =>
   exact z76T_true_T2 c f g bi vb b l i x u vi u' h1  h_m h_n rest X hP hN
  | false =>
   simp [h_m, h_n] at h
theorem z76T_false_T1 (h1 : RE 437 (seqOf Pg 58 77) (fuX f g bi vb l i vi ++ [(30, dB true)]) (fuHX c f b vb x vi u) (bE false) (bL (fuI f g bi vb l i) false) (fuHI c f b vb u')) (h_m : (x.op == 42) = true) : RW 437 (seqOf Pg 58 76) (fuX f g bi vb l i vi ++ []) (fuHX c f b vb x vi u) (bE false) (bL (fuI f g bi vb l i) false) (fuHI c f b vb u') := qS { seqs := qO 58 77 (qQ h1), hint := qT 58 [(356, qB h_m)] } 58 500000
theorem z76T_false_T2 (h1 : RE 437 (seqOf Pg 58 77) (fuX f g bi vb l i vi ++ [(30, dB true)]) (fuHX c f b vb x vi u) (bE false) (bL (fuI f g bi vb l i) false) (fuHI c f b vb u')) (h_m : (x.op == 42) = false) (h_n : (x.op == 39) = true) : RW 437 (seqOf Pg 58 76) (fuX f g bi vb l i vi ++ []) (fuHX c f b vb x vi u) (bE false) (bL (fuI f g bi vb l i) false) (fuHI c f b vb u') := qS { seqs := qO 58 77 (qQ h1), hint := qT 58 [(356, qB h_m), (360, qB h_n)] } 58 500000
theorem z76T_false_T (h1 : RE 437 (seqOf Pg 58 77) (fuX f g bi vb l i vi ++ [(30, dB true)]) (fuHX c f b vb x vi u) (bE false) (bL (fuI f g bi vb l i) false) (fuHI c f b vb u')) (h : ((x.op == 42) || (x.op == 39)) = true) : RW 437 (seqOf Pg 58 76) (fuX f g bi vb l i vi ++ []) (fuHX c f b vb x vi u) (bE false) (bL (fuI f g bi vb l i) false) (fuHI c f b vb u') := by
 intro rest X hP hN
 cases h_m : (x.op == 42) with
 | true =>
  exact z76T_false_T1 c f g bi vb b l i x u vi u' h1  h_m rest X hP hN
 | false =>
  cases h_n : (x.op == 39) with
  | true =>
   exact z76T_false_T2 c f g bi vb b l i x u vi u' h1  h_m h_n rest X hP hN
  | false =>
   simp [h_m, h_n] at h
theorem z76F_true_F1 (h1 : RE 437 (seqOf Pg 58 77) (fuX f g bi vb l i vi ++ [(30, dB false)]) (fuHX c f b vb x vi u) (bE true) (bL (fuI f g bi vb l i) true) (fuHI c f b vb u')) (h_m : (x.op == 42) = false) (h_n : (x.op == 39) = false) : RW 437 (seqOf Pg 58 76) (fuX f g bi vb l i vi ++ []) (fuHX c f b vb x vi u) (bE true) (bL (fuI f g bi vb l i) true) (fuHI c f b vb u') := qS { seqs := qO 58 77 (qQ h1), hint := qT 58 [(356, qB h_m), (360, qB h_n)] } 58 500000
theorem z76F_true_F (h1 : RE 437 (seqOf Pg 58 77) (fuX f g bi vb l i vi ++ [(30, dB false)]) (fuHX c f b vb x vi u) (bE true) (bL (fuI f g bi vb l i) true) (fuHI c f b vb u')) (h : ((x.op == 42) || (x.op == 39)) = false) : RW 437 (seqOf Pg 58 76) (fuX f g bi vb l i vi ++ []) (fuHX c f b vb x vi u) (bE true) (bL (fuI f g bi vb l i) true) (fuHI c f b vb u') := by
 intro rest X hP hN
 cases h_m : (x.op == 42) with
 | true =>
  simp [h_m] at h
 | false =>
  cases h_n : (x.op == 39) with
  | true =>
   simp [h_m, h_n] at h
  | false =>
   exact z76F_true_F1 c f g bi vb b l i x u vi u' h1  h_m h_n rest X hP hN
theorem z76F_false_F1 (h1 : RE 437 (seqOf Pg 58 77) (fuX f g bi vb l i vi ++ [(30, dB false)]) (fuHX c f b vb x vi u) (bE false) (bL (fuI f g bi vb l i) false) (fuHI c f b vb u')) (h_m : (x.op == 42) = false) (h_n : (x.op == 39) = false) : RW 437 (seqOf Pg 58 76) (fuX f g bi vb l i vi ++ []) (fuHX c f b vb x vi u) (bE false) (bL (fuI f g bi vb l i) false) (fuHI c f b vb u') := qS { seqs := qO 58 77 (qQ h1), hint := qT 58 [(356, qB h_m), (360, qB h_n)] } 58 500000
theorem z76F_false_F (h1 : RE 437 (seqOf Pg 58 77) (fuX f g bi vb l i vi ++ [(30, dB false)]) (fuHX c f b vb x vi u) (bE false) (bL (fuI f g bi vb l i) false) (fuHI c f b vb u')) (h : ((x.op == 42) || (x.op == 39)) = false) : RW 437 (seqOf Pg 58 76) (fuX f g bi vb l i vi ++ []) (fuHX c f b vb x vi u) (bE false) (bL (fuI f g bi vb l i) false) (fuHI c f b vb u') := by
 intro rest X hP hN
 cases h_m : (x.op == 42) with
 | true =>
  simp [h_m] at h
 | false =>
  cases h_n : (x.op == 39) with
  | true =>
   simp [h_m, h_n] at h
  | false =>
   exact z76F_false_F1 c f g bi vb b l i x u vi u' h1  h_m h_n rest X hP hN
end
noncomputable def tail76 (c : CodeR) (f : FunR) (g : Graph) (bi i : Nat) (x : InstR) (n : Nat) (tr : Bool) : Bool := tail77 c f g bi i x n tr (isStop x)
theorem z76 (c : CodeR) (f : FunR) (g : Graph) (bi vb : Nat) (b : BlkR) (l : List InstR) (i : Nat) (x : InstR) (u : Nat → Nat) (vi : Nat) (n : Nat) (tr : Bool) (h : Tail c f g bi vb b l i x u vi 77 [(30, dB (isStop x))] (tail77 c f g bi i x n tr (isStop x))) : Tail c f g bi vb b l i x u vi 76 [] (tail76 c f g bi i x n tr) := by
 obtain ⟨u', hu⟩ := h
 refine ⟨u', fun rest X hP hN => aw_to ?_⟩
 unfold tail76
 generalize tail77 c f g bi i x n tr (isStop x) = ok at hu
 cases hs : isStop x with
 | true =>
  rw [hs] at hu
  cases ok with
  | true => exact z76T_true_T c f g bi vb b l i x u vi u' hu hs rest X hP hN
  | false => exact z76T_false_T c f g bi vb b l i x u vi u' hu hs rest X hP hN
 | false =>
  rw [hs] at hu
  cases ok with
  | true => exact z76F_true_F c f g bi vb b l i x u vi u' hu hs rest X hP hN
  | false => exact z76F_false_F c f g bi vb b l i x u vi u' hu hs rest X hP hN
noncomputable def argsOk (f : FunR) (g : Graph) (bi i : Nat) (l : List Int) : Bool := l.all fun a => mayR f g a ((bi : Int), (i : Int))
section
variable (c : CodeR) (f : FunR) (g : Graph) (bi vb : Nat) (b : BlkR) (l : List InstR) (i : Nat) (x : InstR) (u : Nat → Nat) (vi : Nat)
include c f g bi vb b l i x u vi
theorem fuArGood (hl : x.args.length < 4000000) (hm : May f g bi) (h : argsOk f g bi i x.args = true) : RE 437 (.loop (lO 58 71)) (fuAr f g bi vb l i vi x 0) (fuHX c f b vb x vi u) (.exit 13) (fuX f g bi vb l i vi) (fuHX c f b vb x vi u) := fun rest X hP hN =>
 (lw_count x.args.length (fun k => ⟨envOf (fuAr f g bi vb l i vi x k), ovl (fuHX c f b vb x vi u) rest⟩) (by simp) (fun k hk => fuArRound c f g bi vb b l i vi x u k x.args[k] hk hl (get_of hk) (by
  have := hm x.args[k] i
  rw [List.all_eq_true.1 h _ (List.getElem_mem hk)] at this
  exact this) rest X hP hN) (fuArStop c f g bi vb b l i vi x u rest X hP hN)).aw
theorem fuArFail (hl : x.args.length < 4000000) (hm : May f g bi) (h : argsOk f g bi i x.args = false) : RE 437 (.loop (lO 58 71)) (fuAr f g bi vb l i vi x 0) (fuHX c f b vb x vi u) .ret [(4, dB false)] (fuHX c f b vb x vi u) := by
 intro rest X hP hN
 rcases first_bad (fun a : Int => mayR f g a ((bi : Int), (i : Int))) x.args with h' | ⟨j, a, h1, h2, h3⟩
 ·unfold argsOk at h; rw [h'] at h; cases h
 ·have hj : j < x.args.length := (List.getElem?_eq_some_iff.1 h1).1
  exact (lw_count j (fun k => ⟨envOf (fuAr f g bi vb l i vi x k), ovl (fuHX c f b vb x vi u) rest⟩) (by simp) (fun k hk => fuArRound c f g bi vb b l i vi x u k _ (by omega) hl (get_of (by omega)) (by
   have := hm (x.args[k]'(by omega)) i
   rw [h3 k _ hk (get_of (by omega))] at this
   exact this) rest X hP hN) (fuArBad c f g bi vb b l i vi x u j a hj hl h1 (by
   have := hm a i
   rw [h2] at this
   exact this) rest X hP hN)).aw
theorem z70G_true (u' : Nat → Nat) (h1 : RE 437 (seqOf Pg 58 76) (fuX f g bi vb l i vi ++ []) (fuHX c f b vb x vi u) (bE true) (bL (fuI f g bi vb l i) true) (fuHI c f b vb u')) (hl : RE 437 (.loop (lO 58 71)) (fuAr f g bi vb l i vi x 0) (fuHX c f b vb x vi u) (.exit 13) (fuX f g bi vb l i vi) (fuHX c f b vb x vi u)) : RW 437 (seqOf Pg 58 70) (fuX f g bi vb l i vi ++ []) (fuHX c f b vb x vi u) (bE true) (bL (fuI f g bi vb l i) true) (fuHI c f b vb u') := qS { loops := qO 58 71 (qP hl), seqs := qO 58 76 (qQ h1), hint := qT 58 [(340, hLenM Pg intD x.args)] } 58 500000
theorem z70G_false (u' : Nat → Nat) (h1 : RE 437 (seqOf Pg 58 76) (fuX f g bi vb l i vi ++ []) (fuHX c f b vb x vi u) (bE false) (bL (fuI f g bi vb l i) false) (fuHI c f b vb u')) (hl : RE 437 (.loop (lO 58 71)) (fuAr f g bi vb l i vi x 0) (fuHX c f b vb x vi u) (.exit 13) (fuX f g bi vb l i vi) (fuHX c f b vb x vi u)) : RW 437 (seqOf Pg 58 70) (fuX f g bi vb l i vi ++ []) (fuHX c f b vb x vi u) (bE false) (bL (fuI f g bi vb l i) false) (fuHI c f b vb u') := qS { loops := qO 58 71 (qP hl), seqs := qO 58 76 (qQ h1), hint := qT 58 [(340, hLenM Pg intD x.args)] } 58 500000
theorem z70B (hl : RE 437 (.loop (lO 58 71)) (fuAr f g bi vb l i vi x 0) (fuHX c f b vb x vi u) .ret ([(4, dB false)]) (fuHX c f b vb x vi u)) : RW 437 (seqOf Pg 58 70) (fuX f g bi vb l i vi ++ []) (fuHX c f b vb x vi u) .ret ([(4, dB false)]) (fuHI c f b vb (hx vi u)) := qS { loops := qO 58 71 (qP hl), hint := qT 58 [(340, hLenM Pg intD x.args)] } 58 500000
end
noncomputable def tail70 (c : CodeR) (f : FunR) (g : Graph) (bi i : Nat) (x : InstR) (n : Nat) (tr : Bool) : Bool := argsOk f g bi i x.args && tail76 c f g bi i x n tr
section
variable (c : CodeR) (f : FunR) (g : Graph) (bi vb : Nat) (b : BlkR) (l : List InstR) (i : Nat) (x : InstR) (u : Nat → Nat) (vi : Nat)
include c f g bi vb b l i x u vi
theorem z70 (n : Nat) (tr : Bool) (hl : x.args.length < 4000000) (hm : May f g bi) (h : Tail c f g bi vb b l i x u vi 76 [] (tail76 c f g bi i x n tr)) : Tail c f g bi vb b l i x u vi 70 [] (tail70 c f g bi i x n tr) := by
 obtain ⟨u', hu⟩ := h
 cases ha : argsOk f g bi i x.args with
 | false =>
  rw [show tail70 c f g bi i x n tr = false by simp [tail70, ha]]
  exact ⟨hx vi u, fun rest X hP hN => aw_to (z70B c f g bi vb b l i x u vi (fun rest X hP hN => fuArFail c f g bi vb b l i x u vi hl hm ha rest X hP hN) rest X hP hN)⟩
 | true =>
  rw [show tail70 c f g bi i x n tr = tail76 c f g bi i x n tr by simp [tail70, ha]]
  refine ⟨u', fun rest X hP hN => aw_to ?_⟩
  generalize tail76 c f g bi i x n tr = ok at hu
  cases ok with
  | true => exact z70G_true c f g bi vb b l i x u vi u' hu (fun rest X hP hN => fuArGood c f g bi vb b l i x u vi hl hm ha rest X hP hN) rest X hP hN
  | false => exact z70G_false c f g bi vb b l i x u vi u' hu (fun rest X hP hN => fuArGood c f g bi vb b l i x u vi hl hm ha rest X hP hN) rest X hP hN
theorem z66N_true (u' : Nat → Nat) (h1 : RE 437 (seqOf Pg 58 70) (fuX f g bi vb l i vi ++ []) (fuHX c f b vb x vi u) (bE true) (bL (fuI f g bi vb l i) true) (fuHI c f b vb u')) : RW 437 (seqOf Pg 58 66) (fuX f g bi vb l i vi ++ [(24, dB false)]) (fuHX c f b vb x vi u) (bE true) (bL (fuI f g bi vb l i) true) (fuHI c f b vb u') := qS { seqs := qO 58 70 (qQ h1), hint := fun _ _ => none } 58 500000
theorem z66N_false (u' : Nat → Nat) (h1 : RE 437 (seqOf Pg 58 70) (fuX f g bi vb l i vi ++ []) (fuHX c f b vb x vi u) (bE false) (bL (fuI f g bi vb l i) false) (fuHI c f b vb u')) : RW 437 (seqOf Pg 58 66) (fuX f g bi vb l i vi ++ [(24, dB false)]) (fuHX c f b vb x vi u) (bE false) (bL (fuI f g bi vb l i) false) (fuHI c f b vb u') := qS { seqs := qO 58 70 (qQ h1), hint := fun _ _ => none } 58 500000
theorem z66Y_true (hm86 : Pure Pg 86 [funD f, .int .i64 x.dst] [spotD (lastP (hits f x.dst)), .int .i64 ((hits f x.dst).length : Int)]) (hc : (!(((hits f x.dst).length : Int) == 1)) = false) (u' : Nat → Nat) (h1 : RE 437 (seqOf Pg 58 70) (fuX f g bi vb l i vi ++ []) (fuHX c f b vb x vi (addL u [1])) (bE true) (bL (fuI f g bi vb l i) true) (fuHI c f b vb u')) : RW 437 (seqOf Pg 58 66) (fuX f g bi vb l i vi ++ [(24, dB true)]) (fuHX c f b vb x vi u) (bE true) (bL (fuI f g bi vb l i) true) (fuHI c f b vb u') := qS { seqs := qO 58 70 (qQ h1), hint := qT 58 [(333, .call 86 _ _ hm86), (337, qB hc)] } 58 500000
theorem z66Y_false (hm86 : Pure Pg 86 [funD f, .int .i64 x.dst] [spotD (lastP (hits f x.dst)), .int .i64 ((hits f x.dst).length : Int)]) (hc : (!(((hits f x.dst).length : Int) == 1)) = false) (u' : Nat → Nat) (h1 : RE 437 (seqOf Pg 58 70) (fuX f g bi vb l i vi ++ []) (fuHX c f b vb x vi (addL u [1])) (bE false) (bL (fuI f g bi vb l i) false) (fuHI c f b vb u')) : RW 437 (seqOf Pg 58 66) (fuX f g bi vb l i vi ++ [(24, dB true)]) (fuHX c f b vb x vi u) (bE false) (bL (fuI f g bi vb l i) false) (fuHI c f b vb u') := qS { seqs := qO 58 70 (qQ h1), hint := qT 58 [(333, .call 86 _ _ hm86), (337, qB hc)] } 58 500000
theorem z66B (hm86 : Pure Pg 86 [funD f, .int .i64 x.dst] [spotD (lastP (hits f x.dst)), .int .i64 ((hits f x.dst).length : Int)]) (hc : (!(((hits f x.dst).length : Int) == 1)) = true) : RW 437 (seqOf Pg 58 66) (fuX f g bi vb l i vi ++ [(24, dB true)]) (fuHX c f b vb x vi u) .ret ([(4, dB false)]) (fuHI c f b vb (hx vi (addL u [1]))) := qS { hint := qT 58 [(333, .call 86 _ _ hm86), (337, qB hc)] } 58 500000
end
noncomputable def tail66 (c : CodeR) (f : FunR) (g : Graph) (bi i : Nat) (x : InstR) (n : Nat) (tr mk : Bool) : Bool := !(mk && (!(((hits f x.dst).length : Int) == 1))) && tail70 c f g bi i x n tr
theorem z66 (c : CodeR) (f : FunR) (g : Graph) (bi vb : Nat) (b : BlkR) (l : List InstR) (i : Nat) (x : InstR) (u : Nat → Nat) (vi : Nat) (n : Nat) (tr mk : Bool) (hm86 : Pure Pg 86 [funD f, .int .i64 x.dst] [spotD (lastP (hits f x.dst)), .int .i64 ((hits f x.dst).length : Int)]) (h : ∀ u, Tail c f g bi vb b l i x u vi 70 [] (tail70 c f g bi i x n tr)) : Tail c f g bi vb b l i x u vi 66 [(24, dB mk)] (tail66 c f g bi i x n tr mk) := by
 cases mk with
 | false =>
  obtain ⟨u', hu⟩ := h u
  rw [show tail66 c f g bi i x n tr false = tail70 c f g bi i x n tr by simp [tail66]]
  refine ⟨u', fun rest X hP hN => aw_to ?_⟩
  generalize tail70 c f g bi i x n tr = ok at hu
  cases ok with
  | true => exact z66N_true c f g bi vb b l i x u vi u' hu rest X hP hN
  | false => exact z66N_false c f g bi vb b l i x u vi u' hu rest X hP hN
 | true =>
  cases hc : !(((hits f x.dst).length : Int) == 1) with
  | true =>
   rw [show tail66 c f g bi i x n tr true = false by simp only [tail66, hc]; rfl]
   exact ⟨hx vi (addL u [1]), fun rest X hP hN => aw_to (z66B c f g bi vb b l i x u vi hm86 hc rest X hP hN)⟩
  | false =>
   obtain ⟨u', hu⟩ := h (addL u [1])
   rw [show tail66 c f g bi i x n tr true = tail70 c f g bi i x n tr by simp only [tail66, hc]; rfl]
   refine ⟨u', fun rest X hP hN => aw_to ?_⟩
   generalize tail70 c f g bi i x n tr = ok at hu
   cases ok with
   | true => exact z66Y_true c f g bi vb b l i x u vi hm86 hc u' hu rest X hP hN
   | false => exact z66Y_false c f g bi vb b l i x u vi hm86 hc u' hu rest X hP hN
def cntBad (f : FunR) (x : InstR) (a : Int) (mk : Bool) : Bool := match mk with
 | true => ((!((x.args.length : Int) == a)) || ((decide (x.dst < 0)) || (decide (f.vals ≤ x.dst))))
 | false => ((!((x.args.length : Int) == a)) || (!(x.dst == -1)))
section
variable (c : CodeR) (f : FunR) (g : Graph) (bi vb : Nat) (b : BlkR) (l : List InstR) (i : Nat) (x : InstR) (u : Nat → Nat) (vi : Nat) (a : Int)
include c f g bi vb b l i x u vi a
theorem z64Y_T1 (h_p : (!((x.args.length : Int) == a)) = true) : RW 437 (seqOf Pg 58 64) (fuX f g bi vb l i vi ++ [(23, dI a), (24, dB true)]) (fuHX c f b vb x vi u) .ret ([(4, dB false)]) (fuHI c f b vb (hx vi u)) := qS { hint := qT 58 [(301, hLenM Pg intD x.args), (303, qB h_p)] } 58 500000
theorem z64Y_T2 (h_p : (!((x.args.length : Int) == a)) = false) (h_q : (decide (x.dst < 0)) = true) : RW 437 (seqOf Pg 58 64) (fuX f g bi vb l i vi ++ [(23, dI a), (24, dB true)]) (fuHX c f b vb x vi u) .ret ([(4, dB false)]) (fuHI c f b vb (hx vi u)) := qS { hint := qT 58 [(301, hLenM Pg intD x.args), (303, qB h_p), (318, qB h_q)] } 58 500000
theorem z64Y_T3 (h_p : (!((x.args.length : Int) == a)) = false) (h_q : (decide (x.dst < 0)) = false) (h_r : (decide (f.vals ≤ x.dst)) = true) : RW 437 (seqOf Pg 58 64) (fuX f g bi vb l i vi ++ [(23, dI a), (24, dB true)]) (fuHX c f b vb x vi u) .ret ([(4, dB false)]) (fuHI c f b vb (hx vi u)) := qS { hint := qT 58 [(301, hLenM Pg intD x.args), (303, qB h_p), (318, qB h_q), (324, qB h_r)] } 58 500000
theorem z64Y_T (h : ((!((x.args.length : Int) == a)) || ((decide (x.dst < 0)) || (decide (f.vals ≤ x.dst)))) = true) : RW 437 (seqOf Pg 58 64) (fuX f g bi vb l i vi ++ [(23, dI a), (24, dB true)]) (fuHX c f b vb x vi u) .ret ([(4, dB false)]) (fuHI c f b vb (hx vi u)) := by
 intro rest X hP hN
 cases h_p : (!((x.args.length : Int) == a)) with
 | true =>
  exact z64Y_T1 c f g bi vb b l i x u vi a  h_p rest X hP hN
 | false =>
  cases h_q : (decide (x.dst < 0)) with
  | true =>
   exact z64Y_T2 c f g bi vb b l i x u vi a  h_p h_q rest X hP hN
  | false =>
   cases h_r : (decide (f.vals ≤ x.dst)) with
   | true =>
    exact z64Y_T3 c f g bi vb b l i x u vi a  h_p h_q h_r rest X hP hN
   | false =>
    simp [h_p, h_q, h_r] at h
theorem z64Y_true_F1 (u' : Nat → Nat) (h1 : RE 437 (seqOf Pg 58 66) (fuX f g bi vb l i vi ++ [(24, dB true)]) (fuHX c f b vb x vi u) (bE true) (bL (fuI f g bi vb l i) true) (fuHI c f b vb u')) (h_p : (!((x.args.length : Int) == a)) = false) (h_q : (decide (x.dst < 0)) = false) (h_r : (decide (f.vals ≤ x.dst)) = false) : RW 437 (seqOf Pg 58 64) (fuX f g bi vb l i vi ++ [(23, dI a), (24, dB true)]) (fuHX c f b vb x vi u) (bE true) (bL (fuI f g bi vb l i) true) (fuHI c f b vb u') := qS { seqs := qO 58 66 (qQ h1), hint := qT 58 [(301, hLenM Pg intD x.args), (303, qB h_p), (318, qB h_q), (324, qB h_r)] } 58 500000
theorem z64Y_true_F (u' : Nat → Nat) (h1 : RE 437 (seqOf Pg 58 66) (fuX f g bi vb l i vi ++ [(24, dB true)]) (fuHX c f b vb x vi u) (bE true) (bL (fuI f g bi vb l i) true) (fuHI c f b vb u')) (h : ((!((x.args.length : Int) == a)) || ((decide (x.dst < 0)) || (decide (f.vals ≤ x.dst)))) = false) : RW 437 (seqOf Pg 58 64) (fuX f g bi vb l i vi ++ [(23, dI a), (24, dB true)]) (fuHX c f b vb x vi u) (bE true) (bL (fuI f g bi vb l i) true) (fuHI c f b vb u') := by
 intro rest X hP hN
 cases h_p : (!((x.args.length : Int) == a)) with
 | true =>
  simp [h_p] at h
 | false =>
  cases h_q : (decide (x.dst < 0)) with
  | true =>
   simp [h_p, h_q] at h
  | false =>
   cases h_r : (decide (f.vals ≤ x.dst)) with
   | true =>
    simp [h_p, h_q, h_r] at h
   | false =>
    exact z64Y_true_F1 c f g bi vb b l i x u vi a u' h1  h_p h_q h_r rest X hP hN
theorem z64Y_false_F1 (u' : Nat → Nat) (h1 : RE 437 (seqOf Pg 58 66) (fuX f g bi vb l i vi ++ [(24, dB true)]) (fuHX c f b vb x vi u) (bE false) (bL (fuI f g bi vb l i) false) (fuHI c f b vb u')) (h_p : (!((x.args.length : Int) == a)) = false) (h_q : (decide (x.dst < 0)) = false) (h_r : (decide (f.vals ≤ x.dst)) = false) : RW 437 (seqOf Pg 58 64) (fuX f g bi vb l i vi ++ [(23, dI a), (24, dB true)]) (fuHX c f b vb x vi u) (bE false) (bL (fuI f g bi vb l i) false) (fuHI c f b vb u') := qS { seqs := qO 58 66 (qQ h1), hint := qT 58 [(301, hLenM Pg intD x.args), (303, qB h_p), (318, qB h_q), (324, qB h_r)] } 58 500000
theorem z64Y_false_F (u' : Nat → Nat) (h1 : RE 437 (seqOf Pg 58 66) (fuX f g bi vb l i vi ++ [(24, dB true)]) (fuHX c f b vb x vi u) (bE false) (bL (fuI f g bi vb l i) false) (fuHI c f b vb u')) (h : ((!((x.args.length : Int) == a)) || ((decide (x.dst < 0)) || (decide (f.vals ≤ x.dst)))) = false) : RW 437 (seqOf Pg 58 64) (fuX f g bi vb l i vi ++ [(23, dI a), (24, dB true)]) (fuHX c f b vb x vi u) (bE false) (bL (fuI f g bi vb l i) false) (fuHI c f b vb u') := by
 intro rest X hP hN
 cases h_p : (!((x.args.length : Int) == a)) with
 | true =>
  simp [h_p] at h
 | false =>
  cases h_q : (decide (x.dst < 0)) with
  | true =>
   simp [h_p, h_q] at h
  | false =>
   cases h_r : (decide (f.vals ≤ x.dst)) with
   | true =>
    simp [h_p, h_q, h_r] at h
   | false =>
    exact z64Y_false_F1 c f g bi vb b l i x u vi a u' h1  h_p h_q h_r rest X hP hN
theorem z64N_T1 (h_p : (!((x.args.length : Int) == a)) = true) : RW 437 (seqOf Pg 58 64) (fuX f g bi vb l i vi ++ [(23, dI a), (24, dB false)]) (fuHX c f b vb x vi u) .ret ([(4, dB false)]) (fuHI c f b vb (hx vi u)) := qS { hint := qT 58 [(301, hLenM Pg intD x.args), (303, qB h_p)] } 58 500000
theorem z64N_T2 (h_p : (!((x.args.length : Int) == a)) = false) (h_q : (!(x.dst == -1)) = true) : RW 437 (seqOf Pg 58 64) (fuX f g bi vb l i vi ++ [(23, dI a), (24, dB false)]) (fuHX c f b vb x vi u) .ret ([(4, dB false)]) (fuHI c f b vb (hx vi u)) := qS { hint := qT 58 [(301, hLenM Pg intD x.args), (303, qB h_p), (310, qB h_q)] } 58 500000
theorem z64N_T (h : ((!((x.args.length : Int) == a)) || (!(x.dst == -1))) = true) : RW 437 (seqOf Pg 58 64) (fuX f g bi vb l i vi ++ [(23, dI a), (24, dB false)]) (fuHX c f b vb x vi u) .ret ([(4, dB false)]) (fuHI c f b vb (hx vi u)) := by
 intro rest X hP hN
 cases h_p : (!((x.args.length : Int) == a)) with
 | true =>
  exact z64N_T1 c f g bi vb b l i x u vi a  h_p rest X hP hN
 | false =>
  cases h_q : (!(x.dst == -1)) with
  | true =>
   exact z64N_T2 c f g bi vb b l i x u vi a  h_p h_q rest X hP hN
  | false =>
   simp [h_p, h_q] at h
theorem z64N_true_F1 (u' : Nat → Nat) (h1 : RE 437 (seqOf Pg 58 66) (fuX f g bi vb l i vi ++ [(24, dB false)]) (fuHX c f b vb x vi u) (bE true) (bL (fuI f g bi vb l i) true) (fuHI c f b vb u')) (h_p : (!((x.args.length : Int) == a)) = false) (h_q : (!(x.dst == -1)) = false) : RW 437 (seqOf Pg 58 64) (fuX f g bi vb l i vi ++ [(23, dI a), (24, dB false)]) (fuHX c f b vb x vi u) (bE true) (bL (fuI f g bi vb l i) true) (fuHI c f b vb u') := qS { seqs := qO 58 66 (qQ h1), hint := qT 58 [(301, hLenM Pg intD x.args), (303, qB h_p), (310, qB h_q)] } 58 500000
theorem z64N_true_F (u' : Nat → Nat) (h1 : RE 437 (seqOf Pg 58 66) (fuX f g bi vb l i vi ++ [(24, dB false)]) (fuHX c f b vb x vi u) (bE true) (bL (fuI f g bi vb l i) true) (fuHI c f b vb u')) (h : ((!((x.args.length : Int) == a)) || (!(x.dst == -1))) = false) : RW 437 (seqOf Pg 58 64) (fuX f g bi vb l i vi ++ [(23, dI a), (24, dB false)]) (fuHX c f b vb x vi u) (bE true) (bL (fuI f g bi vb l i) true) (fuHI c f b vb u') := by
 intro rest X hP hN
 cases h_p : (!((x.args.length : Int) == a)) with
 | true =>
  simp [h_p] at h
 | false =>
  cases h_q : (!(x.dst == -1)) with
  | true =>
   simp [h_p, h_q] at h
  | false =>
   exact z64N_true_F1 c f g bi vb b l i x u vi a u' h1  h_p h_q rest X hP hN
theorem z64N_false_F1 (u' : Nat → Nat) (h1 : RE 437 (seqOf Pg 58 66) (fuX f g bi vb l i vi ++ [(24, dB false)]) (fuHX c f b vb x vi u) (bE false) (bL (fuI f g bi vb l i) false) (fuHI c f b vb u')) (h_p : (!((x.args.length : Int) == a)) = false) (h_q : (!(x.dst == -1)) = false) : RW 437 (seqOf Pg 58 64) (fuX f g bi vb l i vi ++ [(23, dI a), (24, dB false)]) (fuHX c f b vb x vi u) (bE false) (bL (fuI f g bi vb l i) false) (fuHI c f b vb u') := qS { seqs := qO 58 66 (qQ h1), hint := qT 58 [(301, hLenM Pg intD x.args), (303, qB h_p), (310, qB h_q)] } 58 500000
theorem z64N_false_F (u' : Nat → Nat) (h1 : RE 437 (seqOf Pg 58 66) (fuX f g bi vb l i vi ++ [(24, dB false)]) (fuHX c f b vb x vi u) (bE false) (bL (fuI f g bi vb l i) false) (fuHI c f b vb u')) (h : ((!((x.args.length : Int) == a)) || (!(x.dst == -1))) = false) : RW 437 (seqOf Pg 58 64) (fuX f g bi vb l i vi ++ [(23, dI a), (24, dB false)]) (fuHX c f b vb x vi u) (bE false) (bL (fuI f g bi vb l i) false) (fuHI c f b vb u') := by
 intro rest X hP hN
 cases h_p : (!((x.args.length : Int) == a)) with
 | true =>
  simp [h_p] at h
 | false =>
  cases h_q : (!(x.dst == -1)) with
  | true =>
   simp [h_p, h_q] at h
  | false =>
   exact z64N_false_F1 c f g bi vb b l i x u vi a u' h1  h_p h_q rest X hP hN
end
noncomputable def tail64 (c : CodeR) (f : FunR) (g : Graph) (bi i : Nat) (x : InstR) (n : Nat) (tr : Bool) (a : Int) (mk : Bool) : Bool := !(cntBad f x a mk) && tail66 c f g bi i x n tr mk
theorem z64 (c : CodeR) (f : FunR) (g : Graph) (bi vb : Nat) (b : BlkR) (l : List InstR) (i : Nat) (x : InstR) (u : Nat → Nat) (vi : Nat) (n : Nat) (tr : Bool) (a : Int) (mk : Bool) (h : Tail c f g bi vb b l i x u vi 66 [(24, dB mk)] (tail66 c f g bi i x n tr mk)) : Tail c f g bi vb b l i x u vi 64 [(23, dI a), (24, dB mk)] (tail64 c f g bi i x n tr a mk) := by
 cases hc : cntBad f x a mk with
 | true =>
  rw [show tail64 c f g bi i x n tr a mk = false by simp only [tail64, hc]; rfl]
  refine ⟨hx vi u, fun rest X hP hN => aw_to ?_⟩
  cases mk with
  | true => exact z64Y_T c f g bi vb b l i x u vi a hc rest X hP hN
  | false => exact z64N_T c f g bi vb b l i x u vi a hc rest X hP hN
 | false =>
  obtain ⟨u', hu⟩ := h
  rw [show tail64 c f g bi i x n tr a mk = tail66 c f g bi i x n tr mk by simp only [tail64, hc]; rfl]
  refine ⟨u', fun rest X hP hN => aw_to ?_⟩
  generalize tail66 c f g bi i x n tr mk = ok at hu
  cases mk with
  | true =>
   cases ok with
   | true => exact z64Y_true_F c f g bi vb b l i x u vi a u' hu hc rest X hP hN
   | false => exact z64Y_false_F c f g bi vb b l i x u vi a u' hu hc rest X hP hN
  | false =>
   cases ok with
   | true => exact z64N_true_F c f g bi vb b l i x u vi a u' hu hc rest X hP hN
   | false => exact z64N_false_F c f g bi vb b l i x u vi a u' hu hc rest X hP hN
end Go.Avm
namespace Go.Avm
open Go.Proofs Go.Avm.Dom
section
variable (c : CodeR) (f : FunR) (g : Graph) (bi vb : Nat) (b : BlkR) (l : List InstR) (i : Nat) (x : InstR) (u : Nat → Nat) (vi : Nat) (a : Int) (mk : Bool)
include c f g bi vb b l i x u vi a mk
theorem z49C_T1 (ho : x.op = 39) (h_p : (decide (x.imm < 0)) = true) : RW 437 (seqOf Pg 58 49) (fuX f g bi vb l i vi ++ [(23, dI a), (24, dB mk)]) (fuHX c f b vb x vi u) .ret ([(4, dB false)]) (fuHI c f b vb (hx vi u)) := qS { hint := qT 58 [(238, hEq Pg x.op 39 true (by simp [ho])), (241, qB h_p)] } 58 500000
theorem z49C_T2 (ho : x.op = 39) (h_p : (decide (x.imm < 0)) = false) (h_q : (decide ((c.funs.length : Int) ≤ x.imm)) = true) : RW 437 (seqOf Pg 58 49) (fuX f g bi vb l i vi ++ [(23, dI a), (24, dB mk)]) (fuHX c f b vb x vi u) .ret ([(4, dB false)]) (fuHI c f b vb (hx vi u)) := qS { hint := qT 58 [(238, hEq Pg x.op 39 true (by simp [ho])), (241, qB h_p), (247, hLenM Pg funD c.funs), (248, qB h_q)] } 58 500000
theorem z49C_T (ho : x.op = 39) (h : ((decide (x.imm < 0)) || (decide ((c.funs.length : Int) ≤ x.imm))) = true) : RW 437 (seqOf Pg 58 49) (fuX f g bi vb l i vi ++ [(23, dI a), (24, dB mk)]) (fuHX c f b vb x vi u) .ret ([(4, dB false)]) (fuHI c f b vb (hx vi u)) := by
 intro rest X hP hN
 cases h_p : (decide (x.imm < 0)) with
 | true =>
  exact z49C_T1 c f g bi vb b l i x u vi a mk ho  h_p rest X hP hN
 | false =>
  cases h_q : (decide ((c.funs.length : Int) ≤ x.imm)) with
  | true =>
   exact z49C_T2 c f g bi vb b l i x u vi a mk ho  h_p h_q rest X hP hN
  | false =>
   simp [h_p, h_q] at h
theorem z49C_true_true_F1 (ho : x.op = 39) (fn : FunR) (hE : (!(x.dst == -1)) = true) (h0 : 0 ≤ x.imm) (hfn : c.funs[x.imm.toNat]? = some fn) (u' : Nat → Nat) (h1 : RE 437 (seqOf Pg 58 64) (fuX f g bi vb l i vi ++ [(23, dI fn.params), (24, dB true)]) (fuHX c f b vb x vi u) (bE true) (bL (fuI f g bi vb l i) true) (fuHI c f b vb u')) (h_p : (decide (x.imm < 0)) = false) (h_q : (decide ((c.funs.length : Int) ≤ x.imm)) = false) : RW 437 (seqOf Pg 58 49) (fuX f g bi vb l i vi ++ [(23, dI a), (24, dB mk)]) (fuHX c f b vb x vi u) (bE true) (bL (fuI f g bi vb l i) true) (fuHI c f b vb u') := qS { seqs := qO 58 64 (qQ h1), hint := qT 58 [(238, hEq Pg x.op 39 true (by simp [ho])), (241, qB h_p), (247, hLenM Pg funD c.funs), (248, qB h_q), (254, hIxZ Pg funD c.funs x.imm fn h0 hfn), (259, qB hE)] } 58 500000
theorem z49C_true_true_F (ho : x.op = 39) (fn : FunR) (hE : (!(x.dst == -1)) = true) (h0 : 0 ≤ x.imm) (hfn : c.funs[x.imm.toNat]? = some fn) (u' : Nat → Nat) (h1 : RE 437 (seqOf Pg 58 64) (fuX f g bi vb l i vi ++ [(23, dI fn.params), (24, dB true)]) (fuHX c f b vb x vi u) (bE true) (bL (fuI f g bi vb l i) true) (fuHI c f b vb u')) (h : ((decide (x.imm < 0)) || (decide ((c.funs.length : Int) ≤ x.imm))) = false) : RW 437 (seqOf Pg 58 49) (fuX f g bi vb l i vi ++ [(23, dI a), (24, dB mk)]) (fuHX c f b vb x vi u) (bE true) (bL (fuI f g bi vb l i) true) (fuHI c f b vb u') := by
 intro rest X hP hN
 cases h_p : (decide (x.imm < 0)) with
 | true =>
  simp [h_p] at h
 | false =>
  cases h_q : (decide ((c.funs.length : Int) ≤ x.imm)) with
  | true =>
   simp [h_p, h_q] at h
  | false =>
   exact z49C_true_true_F1 c f g bi vb b l i x u vi a mk ho fn hE h0 hfn u' h1  h_p h_q rest X hP hN
theorem z49C_false_true_F1 (ho : x.op = 39) (fn : FunR) (hE : (!(x.dst == -1)) = false) (h0 : 0 ≤ x.imm) (hfn : c.funs[x.imm.toNat]? = some fn) (u' : Nat → Nat) (h1 : RE 437 (seqOf Pg 58 64) (fuX f g bi vb l i vi ++ [(23, dI fn.params), (24, dB false)]) (fuHX c f b vb x vi u) (bE true) (bL (fuI f g bi vb l i) true) (fuHI c f b vb u')) (h_p : (decide (x.imm < 0)) = false) (h_q : (decide ((c.funs.length : Int) ≤ x.imm)) = false) : RW 437 (seqOf Pg 58 49) (fuX f g bi vb l i vi ++ [(23, dI a), (24, dB mk)]) (fuHX c f b vb x vi u) (bE true) (bL (fuI f g bi vb l i) true) (fuHI c f b vb u') := qS { seqs := qO 58 64 (qQ h1), hint := qT 58 [(238, hEq Pg x.op 39 true (by simp [ho])), (241, qB h_p), (247, hLenM Pg funD c.funs), (248, qB h_q), (254, hIxZ Pg funD c.funs x.imm fn h0 hfn), (259, qB hE)] } 58 500000
theorem z49C_false_true_F (ho : x.op = 39) (fn : FunR) (hE : (!(x.dst == -1)) = false) (h0 : 0 ≤ x.imm) (hfn : c.funs[x.imm.toNat]? = some fn) (u' : Nat → Nat) (h1 : RE 437 (seqOf Pg 58 64) (fuX f g bi vb l i vi ++ [(23, dI fn.params), (24, dB false)]) (fuHX c f b vb x vi u) (bE true) (bL (fuI f g bi vb l i) true) (fuHI c f b vb u')) (h : ((decide (x.imm < 0)) || (decide ((c.funs.length : Int) ≤ x.imm))) = false) : RW 437 (seqOf Pg 58 49) (fuX f g bi vb l i vi ++ [(23, dI a), (24, dB mk)]) (fuHX c f b vb x vi u) (bE true) (bL (fuI f g bi vb l i) true) (fuHI c f b vb u') := by
 intro rest X hP hN
 cases h_p : (decide (x.imm < 0)) with
 | true =>
  simp [h_p] at h
 | false =>
  cases h_q : (decide ((c.funs.length : Int) ≤ x.imm)) with
  | true =>
   simp [h_p, h_q] at h
  | false =>
   exact z49C_false_true_F1 c f g bi vb b l i x u vi a mk ho fn hE h0 hfn u' h1  h_p h_q rest X hP hN
theorem z49C_true_false_F1 (ho : x.op = 39) (fn : FunR) (hE : (!(x.dst == -1)) = true) (h0 : 0 ≤ x.imm) (hfn : c.funs[x.imm.toNat]? = some fn) (u' : Nat → Nat) (h1 : RE 437 (seqOf Pg 58 64) (fuX f g bi vb l i vi ++ [(23, dI fn.params), (24, dB true)]) (fuHX c f b vb x vi u) (bE false) (bL (fuI f g bi vb l i) false) (fuHI c f b vb u')) (h_p : (decide (x.imm < 0)) = false) (h_q : (decide ((c.funs.length : Int) ≤ x.imm)) = false) : RW 437 (seqOf Pg 58 49) (fuX f g bi vb l i vi ++ [(23, dI a), (24, dB mk)]) (fuHX c f b vb x vi u) (bE false) (bL (fuI f g bi vb l i) false) (fuHI c f b vb u') := qS { seqs := qO 58 64 (qQ h1), hint := qT 58 [(238, hEq Pg x.op 39 true (by simp [ho])), (241, qB h_p), (247, hLenM Pg funD c.funs), (248, qB h_q), (254, hIxZ Pg funD c.funs x.imm fn h0 hfn), (259, qB hE)] } 58 500000
theorem z49C_true_false_F (ho : x.op = 39) (fn : FunR) (hE : (!(x.dst == -1)) = true) (h0 : 0 ≤ x.imm) (hfn : c.funs[x.imm.toNat]? = some fn) (u' : Nat → Nat) (h1 : RE 437 (seqOf Pg 58 64) (fuX f g bi vb l i vi ++ [(23, dI fn.params), (24, dB true)]) (fuHX c f b vb x vi u) (bE false) (bL (fuI f g bi vb l i) false) (fuHI c f b vb u')) (h : ((decide (x.imm < 0)) || (decide ((c.funs.length : Int) ≤ x.imm))) = false) : RW 437 (seqOf Pg 58 49) (fuX f g bi vb l i vi ++ [(23, dI a), (24, dB mk)]) (fuHX c f b vb x vi u) (bE false) (bL (fuI f g bi vb l i) false) (fuHI c f b vb u') := by
 intro rest X hP hN
 cases h_p : (decide (x.imm < 0)) with
 | true =>
  simp [h_p] at h
 | false =>
  cases h_q : (decide ((c.funs.length : Int) ≤ x.imm)) with
  | true =>
   simp [h_p, h_q] at h
  | false =>
   exact z49C_true_false_F1 c f g bi vb b l i x u vi a mk ho fn hE h0 hfn u' h1  h_p h_q rest X hP hN
theorem z49C_false_false_F1 (ho : x.op = 39) (fn : FunR) (hE : (!(x.dst == -1)) = false) (h0 : 0 ≤ x.imm) (hfn : c.funs[x.imm.toNat]? = some fn) (u' : Nat → Nat) (h1 : RE 437 (seqOf Pg 58 64) (fuX f g bi vb l i vi ++ [(23, dI fn.params), (24, dB false)]) (fuHX c f b vb x vi u) (bE false) (bL (fuI f g bi vb l i) false) (fuHI c f b vb u')) (h_p : (decide (x.imm < 0)) = false) (h_q : (decide ((c.funs.length : Int) ≤ x.imm)) = false) : RW 437 (seqOf Pg 58 49) (fuX f g bi vb l i vi ++ [(23, dI a), (24, dB mk)]) (fuHX c f b vb x vi u) (bE false) (bL (fuI f g bi vb l i) false) (fuHI c f b vb u') := qS { seqs := qO 58 64 (qQ h1), hint := qT 58 [(238, hEq Pg x.op 39 true (by simp [ho])), (241, qB h_p), (247, hLenM Pg funD c.funs), (248, qB h_q), (254, hIxZ Pg funD c.funs x.imm fn h0 hfn), (259, qB hE)] } 58 500000
theorem z49C_false_false_F (ho : x.op = 39) (fn : FunR) (hE : (!(x.dst == -1)) = false) (h0 : 0 ≤ x.imm) (hfn : c.funs[x.imm.toNat]? = some fn) (u' : Nat → Nat) (h1 : RE 437 (seqOf Pg 58 64) (fuX f g bi vb l i vi ++ [(23, dI fn.params), (24, dB false)]) (fuHX c f b vb x vi u) (bE false) (bL (fuI f g bi vb l i) false) (fuHI c f b vb u')) (h : ((decide (x.imm < 0)) || (decide ((c.funs.length : Int) ≤ x.imm))) = false) : RW 437 (seqOf Pg 58 49) (fuX f g bi vb l i vi ++ [(23, dI a), (24, dB mk)]) (fuHX c f b vb x vi u) (bE false) (bL (fuI f g bi vb l i) false) (fuHI c f b vb u') := by
 intro rest X hP hN
 cases h_p : (decide (x.imm < 0)) with
 | true =>
  simp [h_p] at h
 | false =>
  cases h_q : (decide ((c.funs.length : Int) ≤ x.imm)) with
  | true =>
   simp [h_p, h_q] at h
  | false =>
   exact z49C_false_false_F1 c f g bi vb b l i x u vi a mk ho fn hE h0 hfn u' h1  h_p h_q rest X hP hN
theorem z49P_T1 (ho : x.op = 32) (h_p : (!((bi : Int) == 0)) = true) : RW 437 (seqOf Pg 58 49) (fuX f g bi vb l i vi ++ [(23, dI a), (24, dB mk)]) (fuHX c f b vb x vi u) .ret ([(4, dB false)]) (fuHI c f b vb (hx vi u)) := qS { hint := qT 58 [(238, hEq Pg x.op 39 false (by simp [ho])), (261, hEq Pg x.op 32 true (by simp [ho])), (263, qB h_p)] } 58 500000
theorem z49P_T2 (ho : x.op = 32) (h_p : (!((bi : Int) == 0)) = false) (h_q : (decide (x.imm < 0)) = true) : RW 437 (seqOf Pg 58 49) (fuX f g bi vb l i vi ++ [(23, dI a), (24, dB mk)]) (fuHX c f b vb x vi u) .ret ([(4, dB false)]) (fuHI c f b vb (hx vi u)) := qS { hint := qT 58 [(238, hEq Pg x.op 39 false (by simp [ho])), (261, hEq Pg x.op 32 true (by simp [ho])), (263, qB h_p), (267, qB h_q)] } 58 500000
theorem z49P_T3 (ho : x.op = 32) (h_p : (!((bi : Int) == 0)) = false) (h_q : (decide (x.imm < 0)) = false) (h_r : (decide (f.params ≤ x.imm)) = true) : RW 437 (seqOf Pg 58 49) (fuX f g bi vb l i vi ++ [(23, dI a), (24, dB mk)]) (fuHX c f b vb x vi u) .ret ([(4, dB false)]) (fuHI c f b vb (hx vi u)) := qS { hint := qT 58 [(238, hEq Pg x.op 39 false (by simp [ho])), (261, hEq Pg x.op 32 true (by simp [ho])), (263, qB h_p), (267, qB h_q), (274, qB h_r)] } 58 500000
theorem z49P_T (ho : x.op = 32) (h : ((!((bi : Int) == 0)) || ((decide (x.imm < 0)) || (decide (f.params ≤ x.imm)))) = true) : RW 437 (seqOf Pg 58 49) (fuX f g bi vb l i vi ++ [(23, dI a), (24, dB mk)]) (fuHX c f b vb x vi u) .ret ([(4, dB false)]) (fuHI c f b vb (hx vi u)) := by
 intro rest X hP hN
 cases h_p : (!((bi : Int) == 0)) with
 | true =>
  exact z49P_T1 c f g bi vb b l i x u vi a mk ho  h_p rest X hP hN
 | false =>
  cases h_q : (decide (x.imm < 0)) with
  | true =>
   exact z49P_T2 c f g bi vb b l i x u vi a mk ho  h_p h_q rest X hP hN
  | false =>
   cases h_r : (decide (f.params ≤ x.imm)) with
   | true =>
    exact z49P_T3 c f g bi vb b l i x u vi a mk ho  h_p h_q h_r rest X hP hN
   | false =>
    simp [h_p, h_q, h_r] at h
theorem z49P_true_F1 (ho : x.op = 32) (u' : Nat → Nat) (h1 : RE 437 (seqOf Pg 58 64) (fuX f g bi vb l i vi ++ [(23, dI a), (24, dB mk)]) (fuHX c f b vb x vi u) (bE true) (bL (fuI f g bi vb l i) true) (fuHI c f b vb u')) (h_p : (!((bi : Int) == 0)) = false) (h_q : (decide (x.imm < 0)) = false) (h_r : (decide (f.params ≤ x.imm)) = false) : RW 437 (seqOf Pg 58 49) (fuX f g bi vb l i vi ++ [(23, dI a), (24, dB mk)]) (fuHX c f b vb x vi u) (bE true) (bL (fuI f g bi vb l i) true) (fuHI c f b vb u') := qS { seqs := qO 58 64 (qQ h1), hint := qT 58 [(238, hEq Pg x.op 39 false (by simp [ho])), (261, hEq Pg x.op 32 true (by simp [ho])), (263, qB h_p), (267, qB h_q), (274, qB h_r)] } 58 500000
theorem z49P_true_F (ho : x.op = 32) (u' : Nat → Nat) (h1 : RE 437 (seqOf Pg 58 64) (fuX f g bi vb l i vi ++ [(23, dI a), (24, dB mk)]) (fuHX c f b vb x vi u) (bE true) (bL (fuI f g bi vb l i) true) (fuHI c f b vb u')) (h : ((!((bi : Int) == 0)) || ((decide (x.imm < 0)) || (decide (f.params ≤ x.imm)))) = false) : RW 437 (seqOf Pg 58 49) (fuX f g bi vb l i vi ++ [(23, dI a), (24, dB mk)]) (fuHX c f b vb x vi u) (bE true) (bL (fuI f g bi vb l i) true) (fuHI c f b vb u') := by
 intro rest X hP hN
 cases h_p : (!((bi : Int) == 0)) with
 | true =>
  simp [h_p] at h
 | false =>
  cases h_q : (decide (x.imm < 0)) with
  | true =>
   simp [h_p, h_q] at h
  | false =>
   cases h_r : (decide (f.params ≤ x.imm)) with
   | true =>
    simp [h_p, h_q, h_r] at h
   | false =>
    exact z49P_true_F1 c f g bi vb b l i x u vi a mk ho u' h1  h_p h_q h_r rest X hP hN
theorem z49P_false_F1 (ho : x.op = 32) (u' : Nat → Nat) (h1 : RE 437 (seqOf Pg 58 64) (fuX f g bi vb l i vi ++ [(23, dI a), (24, dB mk)]) (fuHX c f b vb x vi u) (bE false) (bL (fuI f g bi vb l i) false) (fuHI c f b vb u')) (h_p : (!((bi : Int) == 0)) = false) (h_q : (decide (x.imm < 0)) = false) (h_r : (decide (f.params ≤ x.imm)) = false) : RW 437 (seqOf Pg 58 49) (fuX f g bi vb l i vi ++ [(23, dI a), (24, dB mk)]) (fuHX c f b vb x vi u) (bE false) (bL (fuI f g bi vb l i) false) (fuHI c f b vb u') := qS { seqs := qO 58 64 (qQ h1), hint := qT 58 [(238, hEq Pg x.op 39 false (by simp [ho])), (261, hEq Pg x.op 32 true (by simp [ho])), (263, qB h_p), (267, qB h_q), (274, qB h_r)] } 58 500000
theorem z49P_false_F (ho : x.op = 32) (u' : Nat → Nat) (h1 : RE 437 (seqOf Pg 58 64) (fuX f g bi vb l i vi ++ [(23, dI a), (24, dB mk)]) (fuHX c f b vb x vi u) (bE false) (bL (fuI f g bi vb l i) false) (fuHI c f b vb u')) (h : ((!((bi : Int) == 0)) || ((decide (x.imm < 0)) || (decide (f.params ≤ x.imm)))) = false) : RW 437 (seqOf Pg 58 49) (fuX f g bi vb l i vi ++ [(23, dI a), (24, dB mk)]) (fuHX c f b vb x vi u) (bE false) (bL (fuI f g bi vb l i) false) (fuHI c f b vb u') := by
 intro rest X hP hN
 cases h_p : (!((bi : Int) == 0)) with
 | true =>
  simp [h_p] at h
 | false =>
  cases h_q : (decide (x.imm < 0)) with
  | true =>
   simp [h_p, h_q] at h
  | false =>
   cases h_r : (decide (f.params ≤ x.imm)) with
   | true =>
    simp [h_p, h_q, h_r] at h
   | false =>
    exact z49P_false_F1 c f g bi vb b l i x u vi a mk ho u' h1  h_p h_q h_r rest X hP hN
theorem z49A_T1 (ho : x.op = 36) (h_p : (decide (x.imm < 1)) = true) : RW 437 (seqOf Pg 58 49) (fuX f g bi vb l i vi ++ [(23, dI a), (24, dB mk)]) (fuHX c f b vb x vi u) .ret ([(4, dB false)]) (fuHI c f b vb (hx vi u)) := qS { hint := qT 58 [(238, hEq Pg x.op 39 false (by simp [ho])), (261, hEq Pg x.op 32 false (by simp [ho])), (277, hEq Pg x.op 36 true (by simp [ho])), (280, qB h_p)] } 58 500000
theorem z49A_T2 (ho : x.op = 36) (h_p : (decide (x.imm < 1)) = false) (h_q : (decide (256 < x.imm)) = true) : RW 437 (seqOf Pg 58 49) (fuX f g bi vb l i vi ++ [(23, dI a), (24, dB mk)]) (fuHX c f b vb x vi u) .ret ([(4, dB false)]) (fuHI c f b vb (hx vi u)) := qS { hint := qT 58 [(238, hEq Pg x.op 39 false (by simp [ho])), (261, hEq Pg x.op 32 false (by simp [ho])), (277, hEq Pg x.op 36 true (by simp [ho])), (280, qB h_p), (284, qB h_q)] } 58 500000
theorem z49A_T (ho : x.op = 36) (h : ((decide (x.imm < 1)) || (decide (256 < x.imm))) = true) : RW 437 (seqOf Pg 58 49) (fuX f g bi vb l i vi ++ [(23, dI a), (24, dB mk)]) (fuHX c f b vb x vi u) .ret ([(4, dB false)]) (fuHI c f b vb (hx vi u)) := by
 intro rest X hP hN
 cases h_p : (decide (x.imm < 1)) with
 | true =>
  exact z49A_T1 c f g bi vb b l i x u vi a mk ho  h_p rest X hP hN
 | false =>
  cases h_q : (decide (256 < x.imm)) with
  | true =>
   exact z49A_T2 c f g bi vb b l i x u vi a mk ho  h_p h_q rest X hP hN
  | false =>
   simp [h_p, h_q] at h
theorem z49A_true_F1 (ho : x.op = 36) (u' : Nat → Nat) (h1 : RE 437 (seqOf Pg 58 64) (fuX f g bi vb l i vi ++ [(23, dI a), (24, dB mk)]) (fuHX c f b vb x vi u) (bE true) (bL (fuI f g bi vb l i) true) (fuHI c f b vb u')) (h_p : (decide (x.imm < 1)) = false) (h_q : (decide (256 < x.imm)) = false) : RW 437 (seqOf Pg 58 49) (fuX f g bi vb l i vi ++ [(23, dI a), (24, dB mk)]) (fuHX c f b vb x vi u) (bE true) (bL (fuI f g bi vb l i) true) (fuHI c f b vb u') := qS { seqs := qO 58 64 (qQ h1), hint := qT 58 [(238, hEq Pg x.op 39 false (by simp [ho])), (261, hEq Pg x.op 32 false (by simp [ho])), (277, hEq Pg x.op 36 true (by simp [ho])), (280, qB h_p), (284, qB h_q)] } 58 500000
theorem z49A_true_F (ho : x.op = 36) (u' : Nat → Nat) (h1 : RE 437 (seqOf Pg 58 64) (fuX f g bi vb l i vi ++ [(23, dI a), (24, dB mk)]) (fuHX c f b vb x vi u) (bE true) (bL (fuI f g bi vb l i) true) (fuHI c f b vb u')) (h : ((decide (x.imm < 1)) || (decide (256 < x.imm))) = false) : RW 437 (seqOf Pg 58 49) (fuX f g bi vb l i vi ++ [(23, dI a), (24, dB mk)]) (fuHX c f b vb x vi u) (bE true) (bL (fuI f g bi vb l i) true) (fuHI c f b vb u') := by
 intro rest X hP hN
 cases h_p : (decide (x.imm < 1)) with
 | true =>
  simp [h_p] at h
 | false =>
  cases h_q : (decide (256 < x.imm)) with
  | true =>
   simp [h_p, h_q] at h
  | false =>
   exact z49A_true_F1 c f g bi vb b l i x u vi a mk ho u' h1  h_p h_q rest X hP hN
theorem z49A_false_F1 (ho : x.op = 36) (u' : Nat → Nat) (h1 : RE 437 (seqOf Pg 58 64) (fuX f g bi vb l i vi ++ [(23, dI a), (24, dB mk)]) (fuHX c f b vb x vi u) (bE false) (bL (fuI f g bi vb l i) false) (fuHI c f b vb u')) (h_p : (decide (x.imm < 1)) = false) (h_q : (decide (256 < x.imm)) = false) : RW 437 (seqOf Pg 58 49) (fuX f g bi vb l i vi ++ [(23, dI a), (24, dB mk)]) (fuHX c f b vb x vi u) (bE false) (bL (fuI f g bi vb l i) false) (fuHI c f b vb u') := qS { seqs := qO 58 64 (qQ h1), hint := qT 58 [(238, hEq Pg x.op 39 false (by simp [ho])), (261, hEq Pg x.op 32 false (by simp [ho])), (277, hEq Pg x.op 36 true (by simp [ho])), (280, qB h_p), (284, qB h_q)] } 58 500000
theorem z49A_false_F (ho : x.op = 36) (u' : Nat → Nat) (h1 : RE 437 (seqOf Pg 58 64) (fuX f g bi vb l i vi ++ [(23, dI a), (24, dB mk)]) (fuHX c f b vb x vi u) (bE false) (bL (fuI f g bi vb l i) false) (fuHI c f b vb u')) (h : ((decide (x.imm < 1)) || (decide (256 < x.imm))) = false) : RW 437 (seqOf Pg 58 49) (fuX f g bi vb l i vi ++ [(23, dI a), (24, dB mk)]) (fuHX c f b vb x vi u) (bE false) (bL (fuI f g bi vb l i) false) (fuHI c f b vb u') := by
 intro rest X hP hN
 cases h_p : (decide (x.imm < 1)) with
 | true =>
  simp [h_p] at h
 | false =>
  cases h_q : (decide (256 < x.imm)) with
  | true =>
   simp [h_p, h_q] at h
  | false =>
   exact z49A_false_F1 c f g bi vb b l i x u vi a mk ho u' h1  h_p h_q rest X hP hN
theorem z49G_T1 (ho : x.op = 43) (h_p : (decide (x.imm < 0)) = true) : RW 437 (seqOf Pg 58 49) (fuX f g bi vb l i vi ++ [(23, dI a), (24, dB mk)]) (fuHX c f b vb x vi u) .ret ([(4, dB false)]) (fuHI c f b vb (hx vi u)) := qS { hint := qT 58 [(238, hEq Pg x.op 39 false (by simp [ho])), (261, hEq Pg x.op 32 false (by simp [ho])), (277, hEq Pg x.op 36 false (by simp [ho])), (287, hEq Pg x.op 43 true (by simp [ho])), (291, qB h_p)] } 58 500000
theorem z49G_T2 (ho : x.op = 43) (h_p : (decide (x.imm < 0)) = false) (h_q : (decide (f.vars ≤ x.imm)) = true) : RW 437 (seqOf Pg 58 49) (fuX f g bi vb l i vi ++ [(23, dI a), (24, dB mk)]) (fuHX c f b vb x vi u) .ret ([(4, dB false)]) (fuHI c f b vb (hx vi u)) := qS { hint := qT 58 [(238, hEq Pg x.op 39 false (by simp [ho])), (261, hEq Pg x.op 32 false (by simp [ho])), (277, hEq Pg x.op 36 false (by simp [ho])), (287, hEq Pg x.op 43 true (by simp [ho])), (291, qB h_p), (297, qB h_q)] } 58 500000
theorem z49G_T (ho : x.op = 43) (h : ((decide (x.imm < 0)) || (decide (f.vars ≤ x.imm))) = true) : RW 437 (seqOf Pg 58 49) (fuX f g bi vb l i vi ++ [(23, dI a), (24, dB mk)]) (fuHX c f b vb x vi u) .ret ([(4, dB false)]) (fuHI c f b vb (hx vi u)) := by
 intro rest X hP hN
 cases h_p : (decide (x.imm < 0)) with
 | true =>
  exact z49G_T1 c f g bi vb b l i x u vi a mk ho  h_p rest X hP hN
 | false =>
  cases h_q : (decide (f.vars ≤ x.imm)) with
  | true =>
   exact z49G_T2 c f g bi vb b l i x u vi a mk ho  h_p h_q rest X hP hN
  | false =>
   simp [h_p, h_q] at h
theorem z49G_true_F1 (ho : x.op = 43) (u' : Nat → Nat) (h1 : RE 437 (seqOf Pg 58 64) (fuX f g bi vb l i vi ++ [(23, dI a), (24, dB mk)]) (fuHX c f b vb x vi u) (bE true) (bL (fuI f g bi vb l i) true) (fuHI c f b vb u')) (h_p : (decide (x.imm < 0)) = false) (h_q : (decide (f.vars ≤ x.imm)) = false) : RW 437 (seqOf Pg 58 49) (fuX f g bi vb l i vi ++ [(23, dI a), (24, dB mk)]) (fuHX c f b vb x vi u) (bE true) (bL (fuI f g bi vb l i) true) (fuHI c f b vb u') := qS { seqs := qO 58 64 (qQ h1), hint := qT 58 [(238, hEq Pg x.op 39 false (by simp [ho])), (261, hEq Pg x.op 32 false (by simp [ho])), (277, hEq Pg x.op 36 false (by simp [ho])), (287, hEq Pg x.op 43 true (by simp [ho])), (291, qB h_p), (297, qB h_q)] } 58 500000
theorem z49G_true_F (ho : x.op = 43) (u' : Nat → Nat) (h1 : RE 437 (seqOf Pg 58 64) (fuX f g bi vb l i vi ++ [(23, dI a), (24, dB mk)]) (fuHX c f b vb x vi u) (bE true) (bL (fuI f g bi vb l i) true) (fuHI c f b vb u')) (h : ((decide (x.imm < 0)) || (decide (f.vars ≤ x.imm))) = false) : RW 437 (seqOf Pg 58 49) (fuX f g bi vb l i vi ++ [(23, dI a), (24, dB mk)]) (fuHX c f b vb x vi u) (bE true) (bL (fuI f g bi vb l i) true) (fuHI c f b vb u') := by
 intro rest X hP hN
 cases h_p : (decide (x.imm < 0)) with
 | true =>
  simp [h_p] at h
 | false =>
  cases h_q : (decide (f.vars ≤ x.imm)) with
  | true =>
   simp [h_p, h_q] at h
  | false =>
   exact z49G_true_F1 c f g bi vb b l i x u vi a mk ho u' h1  h_p h_q rest X hP hN
theorem z49G_false_F1 (ho : x.op = 43) (u' : Nat → Nat) (h1 : RE 437 (seqOf Pg 58 64) (fuX f g bi vb l i vi ++ [(23, dI a), (24, dB mk)]) (fuHX c f b vb x vi u) (bE false) (bL (fuI f g bi vb l i) false) (fuHI c f b vb u')) (h_p : (decide (x.imm < 0)) = false) (h_q : (decide (f.vars ≤ x.imm)) = false) : RW 437 (seqOf Pg 58 49) (fuX f g bi vb l i vi ++ [(23, dI a), (24, dB mk)]) (fuHX c f b vb x vi u) (bE false) (bL (fuI f g bi vb l i) false) (fuHI c f b vb u') := qS { seqs := qO 58 64 (qQ h1), hint := qT 58 [(238, hEq Pg x.op 39 false (by simp [ho])), (261, hEq Pg x.op 32 false (by simp [ho])), (277, hEq Pg x.op 36 false (by simp [ho])), (287, hEq Pg x.op 43 true (by simp [ho])), (291, qB h_p), (297, qB h_q)] } 58 500000
theorem z49G_false_F (ho : x.op = 43) (u' : Nat → Nat) (h1 : RE 437 (seqOf Pg 58 64) (fuX f g bi vb l i vi ++ [(23, dI a), (24, dB mk)]) (fuHX c f b vb x vi u) (bE false) (bL (fuI f g bi vb l i) false) (fuHI c f b vb u')) (h : ((decide (x.imm < 0)) || (decide (f.vars ≤ x.imm))) = false) : RW 437 (seqOf Pg 58 49) (fuX f g bi vb l i vi ++ [(23, dI a), (24, dB mk)]) (fuHX c f b vb x vi u) (bE false) (bL (fuI f g bi vb l i) false) (fuHI c f b vb u') := by
 intro rest X hP hN
 cases h_p : (decide (x.imm < 0)) with
 | true =>
  simp [h_p] at h
 | false =>
  cases h_q : (decide (f.vars ≤ x.imm)) with
  | true =>
   simp [h_p, h_q] at h
  | false =>
   exact z49G_false_F1 c f g bi vb b l i x u vi a mk ho u' h1  h_p h_q rest X hP hN
theorem z49S_T1 (ho : x.op = 44) (h_p : (decide (x.imm < 0)) = true) : RW 437 (seqOf Pg 58 49) (fuX f g bi vb l i vi ++ [(23, dI a), (24, dB mk)]) (fuHX c f b vb x vi u) .ret ([(4, dB false)]) (fuHI c f b vb (hx vi u)) := qS { hint := qT 58 [(238, hEq Pg x.op 39 false (by simp [ho])), (261, hEq Pg x.op 32 false (by simp [ho])), (277, hEq Pg x.op 36 false (by simp [ho])), (287, hEq Pg x.op 43 false (by simp [ho])), (288, hEq Pg x.op 44 true (by simp [ho])), (291, qB h_p)] } 58 500000
theorem z49S_T2 (ho : x.op = 44) (h_p : (decide (x.imm < 0)) = false) (h_q : (decide (f.vars ≤ x.imm)) = true) : RW 437 (seqOf Pg 58 49) (fuX f g bi vb l i vi ++ [(23, dI a), (24, dB mk)]) (fuHX c f b vb x vi u) .ret ([(4, dB false)]) (fuHI c f b vb (hx vi u)) := qS { hint := qT 58 [(238, hEq Pg x.op 39 false (by simp [ho])), (261, hEq Pg x.op 32 false (by simp [ho])), (277, hEq Pg x.op 36 false (by simp [ho])), (287, hEq Pg x.op 43 false (by simp [ho])), (288, hEq Pg x.op 44 true (by simp [ho])), (291, qB h_p), (297, qB h_q)] } 58 500000
theorem z49S_T (ho : x.op = 44) (h : ((decide (x.imm < 0)) || (decide (f.vars ≤ x.imm))) = true) : RW 437 (seqOf Pg 58 49) (fuX f g bi vb l i vi ++ [(23, dI a), (24, dB mk)]) (fuHX c f b vb x vi u) .ret ([(4, dB false)]) (fuHI c f b vb (hx vi u)) := by
 intro rest X hP hN
 cases h_p : (decide (x.imm < 0)) with
 | true =>
  exact z49S_T1 c f g bi vb b l i x u vi a mk ho  h_p rest X hP hN
 | false =>
  cases h_q : (decide (f.vars ≤ x.imm)) with
  | true =>
   exact z49S_T2 c f g bi vb b l i x u vi a mk ho  h_p h_q rest X hP hN
  | false =>
   simp [h_p, h_q] at h
theorem z49S_true_F1 (ho : x.op = 44) (u' : Nat → Nat) (h1 : RE 437 (seqOf Pg 58 64) (fuX f g bi vb l i vi ++ [(23, dI a), (24, dB mk)]) (fuHX c f b vb x vi u) (bE true) (bL (fuI f g bi vb l i) true) (fuHI c f b vb u')) (h_p : (decide (x.imm < 0)) = false) (h_q : (decide (f.vars ≤ x.imm)) = false) : RW 437 (seqOf Pg 58 49) (fuX f g bi vb l i vi ++ [(23, dI a), (24, dB mk)]) (fuHX c f b vb x vi u) (bE true) (bL (fuI f g bi vb l i) true) (fuHI c f b vb u') := qS { seqs := qO 58 64 (qQ h1), hint := qT 58 [(238, hEq Pg x.op 39 false (by simp [ho])), (261, hEq Pg x.op 32 false (by simp [ho])), (277, hEq Pg x.op 36 false (by simp [ho])), (287, hEq Pg x.op 43 false (by simp [ho])), (288, hEq Pg x.op 44 true (by simp [ho])), (291, qB h_p), (297, qB h_q)] } 58 500000
theorem z49S_true_F (ho : x.op = 44) (u' : Nat → Nat) (h1 : RE 437 (seqOf Pg 58 64) (fuX f g bi vb l i vi ++ [(23, dI a), (24, dB mk)]) (fuHX c f b vb x vi u) (bE true) (bL (fuI f g bi vb l i) true) (fuHI c f b vb u')) (h : ((decide (x.imm < 0)) || (decide (f.vars ≤ x.imm))) = false) : RW 437 (seqOf Pg 58 49) (fuX f g bi vb l i vi ++ [(23, dI a), (24, dB mk)]) (fuHX c f b vb x vi u) (bE true) (bL (fuI f g bi vb l i) true) (fuHI c f b vb u') := by
 intro rest X hP hN
 cases h_p : (decide (x.imm < 0)) with
 | true =>
  simp [h_p] at h
 | false =>
  cases h_q : (decide (f.vars ≤ x.imm)) with
  | true =>
   simp [h_p, h_q] at h
  | false =>
   exact z49S_true_F1 c f g bi vb b l i x u vi a mk ho u' h1  h_p h_q rest X hP hN
theorem z49S_false_F1 (ho : x.op = 44) (u' : Nat → Nat) (h1 : RE 437 (seqOf Pg 58 64) (fuX f g bi vb l i vi ++ [(23, dI a), (24, dB mk)]) (fuHX c f b vb x vi u) (bE false) (bL (fuI f g bi vb l i) false) (fuHI c f b vb u')) (h_p : (decide (x.imm < 0)) = false) (h_q : (decide (f.vars ≤ x.imm)) = false) : RW 437 (seqOf Pg 58 49) (fuX f g bi vb l i vi ++ [(23, dI a), (24, dB mk)]) (fuHX c f b vb x vi u) (bE false) (bL (fuI f g bi vb l i) false) (fuHI c f b vb u') := qS { seqs := qO 58 64 (qQ h1), hint := qT 58 [(238, hEq Pg x.op 39 false (by simp [ho])), (261, hEq Pg x.op 32 false (by simp [ho])), (277, hEq Pg x.op 36 false (by simp [ho])), (287, hEq Pg x.op 43 false (by simp [ho])), (288, hEq Pg x.op 44 true (by simp [ho])), (291, qB h_p), (297, qB h_q)] } 58 500000
theorem z49S_false_F (ho : x.op = 44) (u' : Nat → Nat) (h1 : RE 437 (seqOf Pg 58 64) (fuX f g bi vb l i vi ++ [(23, dI a), (24, dB mk)]) (fuHX c f b vb x vi u) (bE false) (bL (fuI f g bi vb l i) false) (fuHI c f b vb u')) (h : ((decide (x.imm < 0)) || (decide (f.vars ≤ x.imm))) = false) : RW 437 (seqOf Pg 58 49) (fuX f g bi vb l i vi ++ [(23, dI a), (24, dB mk)]) (fuHX c f b vb x vi u) (bE false) (bL (fuI f g bi vb l i) false) (fuHI c f b vb u') := by
 intro rest X hP hN
 cases h_p : (decide (x.imm < 0)) with
 | true =>
  simp [h_p] at h
 | false =>
  cases h_q : (decide (f.vars ≤ x.imm)) with
  | true =>
   simp [h_p, h_q] at h
  | false =>
   exact z49S_false_F1 c f g bi vb b l i x u vi a mk ho u' h1  h_p h_q rest X hP hN
theorem z49D_true (ho : x.op ≠ 39 ∧ x.op ≠ 32 ∧ x.op ≠ 36 ∧ x.op ≠ 43 ∧ x.op ≠ 44) (u' : Nat → Nat) (h1 : RE 437 (seqOf Pg 58 64) (fuX f g bi vb l i vi ++ [(23, dI a), (24, dB mk)]) (fuHX c f b vb x vi u) (bE true) (bL (fuI f g bi vb l i) true) (fuHI c f b vb u')) : RW 437 (seqOf Pg 58 49) (fuX f g bi vb l i vi ++ [(23, dI a), (24, dB mk)]) (fuHX c f b vb x vi u) (bE true) (bL (fuI f g bi vb l i) true) (fuHI c f b vb u') := qS { seqs := qO 58 64 (qQ h1), hint := qT 58 [(238, hEq Pg x.op 39 false (beq_eq_false_iff_ne.2 ho.1)), (261, hEq Pg x.op 32 false (beq_eq_false_iff_ne.2 ho.2.1)), (277, hEq Pg x.op 36 false (beq_eq_false_iff_ne.2 ho.2.2.1)), (287, hEq Pg x.op 43 false (beq_eq_false_iff_ne.2 ho.2.2.2.1)), (288, hEq Pg x.op 44 false (beq_eq_false_iff_ne.2 ho.2.2.2.2))] } 58 500000
theorem z49D_false (ho : x.op ≠ 39 ∧ x.op ≠ 32 ∧ x.op ≠ 36 ∧ x.op ≠ 43 ∧ x.op ≠ 44) (u' : Nat → Nat) (h1 : RE 437 (seqOf Pg 58 64) (fuX f g bi vb l i vi ++ [(23, dI a), (24, dB mk)]) (fuHX c f b vb x vi u) (bE false) (bL (fuI f g bi vb l i) false) (fuHI c f b vb u')) : RW 437 (seqOf Pg 58 49) (fuX f g bi vb l i vi ++ [(23, dI a), (24, dB mk)]) (fuHX c f b vb x vi u) (bE false) (bL (fuI f g bi vb l i) false) (fuHI c f b vb u') := qS { seqs := qO 58 64 (qQ h1), hint := qT 58 [(238, hEq Pg x.op 39 false (beq_eq_false_iff_ne.2 ho.1)), (261, hEq Pg x.op 32 false (beq_eq_false_iff_ne.2 ho.2.1)), (277, hEq Pg x.op 36 false (beq_eq_false_iff_ne.2 ho.2.2.1)), (287, hEq Pg x.op 43 false (beq_eq_false_iff_ne.2 ho.2.2.2.1)), (288, hEq Pg x.op 44 false (beq_eq_false_iff_ne.2 ho.2.2.2.2))] } 58 500000
end
def fun0 : FunR := ⟨0, 0, 0, []⟩
def swBad (c : CodeR) (f : FunR) (bi : Nat) (x : InstR) : Bool :=
 if x.op = 39 then ((decide (x.imm < 0)) || (decide ((c.funs.length : Int) ≤ x.imm))) else if x.op = 32 then ((!((bi : Int) == 0)) || ((decide (x.imm < 0)) || (decide (f.params ≤ x.imm)))) else if x.op = 36 then ((decide (x.imm < 1)) || (decide (256 < x.imm))) else if x.op = 43 ∨ x.op = 44 then ((decide (x.imm < 0)) || (decide (f.vars ≤ x.imm))) else false
def swA (c : CodeR) (x : InstR) (a : Int) : Int := if x.op = 39 then (c.funs.getD x.imm.toNat fun0).params else a
def swM (x : InstR) (mk : Bool) : Bool := if x.op = 39 then (!(x.dst == -1)) else mk
noncomputable def tail49 (c : CodeR) (f : FunR) (g : Graph) (bi i : Nat) (x : InstR) (n : Nat) (tr : Bool) (a : Int) (mk : Bool) : Bool := !(swBad c f bi x) && tail64 c f g bi i x n tr (swA c x a) (swM x mk)
theorem z49 (c : CodeR) (f : FunR) (g : Graph) (bi vb : Nat) (b : BlkR) (l : List InstR) (i : Nat) (x : InstR) (u : Nat → Nat) (vi : Nat) (n : Nat) (tr : Bool) (a : Int) (mk : Bool) (h : Tail c f g bi vb b l i x u vi 64 [(23, dI (swA c x a)), (24, dB (swM x mk))] (tail64 c f g bi i x n tr (swA c x a) (swM x mk))) : Tail c f g bi vb b l i x u vi 49 [(23, dI a), (24, dB mk)] (tail49 c f g bi i x n tr a mk) := by
 cases hc : swBad c f bi x with
 | true =>
  rw [show tail49 c f g bi i x n tr a mk = false by simp only [tail49, hc]; rfl]
  refine ⟨hx vi u, fun rest X hP hN => aw_to ?_⟩
  unfold swBad at hc
  split at hc
  ·exact z49C_T c f g bi vb b l i x u vi a mk (by assumption) hc rest X hP hN
  ·split at hc
   ·exact z49P_T c f g bi vb b l i x u vi a mk (by assumption) hc rest X hP hN
   ·split at hc
    ·exact z49A_T c f g bi vb b l i x u vi a mk (by assumption) hc rest X hP hN
    ·split at hc
     ·rename_i hgs
      rcases hgs with hg | hg
      ·exact z49G_T c f g bi vb b l i x u vi a mk hg hc rest X hP hN
      ·exact z49S_T c f g bi vb b l i x u vi a mk hg hc rest X hP hN
     ·cases hc
 | false =>
  obtain ⟨u', hu⟩ := h
  rw [show tail49 c f g bi i x n tr a mk = tail64 c f g bi i x n tr (swA c x a) (swM x mk) by simp only [tail49, hc]; rfl]
  refine ⟨u', fun rest X hP hN => aw_to ?_⟩
  generalize tail64 c f g bi i x n tr (swA c x a) (swM x mk) = ok at hu
  unfold swBad at hc
  split at hc
  ·rename_i ho
   have hlt : x.imm.toNat < c.funs.length ∧ 0 ≤ x.imm := by
    simp only [Bool.or_eq_false_iff, decide_eq_false_iff_not] at hc
    omega
   have hfn : c.funs[x.imm.toNat]? = some c.funs[x.imm.toNat] := get_of hlt.1
   have e1 : swA c x a = c.funs[x.imm.toNat].params := by
    unfold swA
    rw [if_pos ho, List.getD_eq_getElem?_getD, hfn]
    rfl
   have e2 : swM x mk = (!(x.dst == -1)) := if_pos ho
   rw [e1, e2] at hu
   cases hE : (!(x.dst == -1)) with
   | true =>
    rw [hE] at hu
    cases ok with
    | true => exact z49C_true_true_F c f g bi vb b l i x u vi a mk ho _ hE hlt.2 hfn u' hu hc rest X hP hN
    | false => exact z49C_true_false_F c f g bi vb b l i x u vi a mk ho _ hE hlt.2 hfn u' hu hc rest X hP hN
   | false =>
    rw [hE] at hu
    cases ok with
    | true => exact z49C_false_true_F c f g bi vb b l i x u vi a mk ho _ hE hlt.2 hfn u' hu hc rest X hP hN
    | false => exact z49C_false_false_F c f g bi vb b l i x u vi a mk ho _ hE hlt.2 hfn u' hu hc rest X hP hN
  ·rename_i h39
   rw [show swA c x a = a from if_neg h39, show swM x mk = mk from if_neg h39] at hu
   split at hc
   ·cases ok with
    | true => exact z49P_true_F c f g bi vb b l i x u vi a mk (by assumption) u' hu hc rest X hP hN
    | false => exact z49P_false_F c f g bi vb b l i x u vi a mk (by assumption) u' hu hc rest X hP hN
   ·split at hc
    ·cases ok with
     | true => exact z49A_true_F c f g bi vb b l i x u vi a mk (by assumption) u' hu hc rest X hP hN
     | false => exact z49A_false_F c f g bi vb b l i x u vi a mk (by assumption) u' hu hc rest X hP hN
    ·split at hc
     ·rename_i hgs
      rcases hgs with hg | hg
      ·cases ok with
       | true => exact z49G_true_F c f g bi vb b l i x u vi a mk hg u' hu hc rest X hP hN
       | false => exact z49G_false_F c f g bi vb b l i x u vi a mk hg u' hu hc rest X hP hN
      ·cases ok with
       | true => exact z49S_true_F c f g bi vb b l i x u vi a mk hg u' hu hc rest X hP hN
       | false => exact z49S_false_F c f g bi vb b l i x u vi a mk hg u' hu hc rest X hP hN
     ·rename_i h32 h36 hgs
      have ho : x.op ≠ 39 ∧ x.op ≠ 32 ∧ x.op ≠ 36 ∧ x.op ≠ 43 ∧ x.op ≠ 44 := ⟨h39, h32, h36, fun e => hgs (.inl e), fun e => hgs (.inr e)⟩
      cases ok with
      | true => exact z49D_true c f g bi vb b l i x u vi a mk ho u' hu rest X hP hN
      | false => exact z49D_false c f g bi vb b l i x u vi a mk ho u' hu rest X hP hN
end Go.Avm
