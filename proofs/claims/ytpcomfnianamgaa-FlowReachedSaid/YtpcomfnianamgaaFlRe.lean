/-
  FlowReached.
-/
import Derived.Test.YtpcomfnianamgaaFlTr
set_option linter.unusedSectionVars false
namespace Go.Avm
open Go.Proofs Go.Avm.Dom

/-! ### The places -/
def plV (g : Graph) (i v : Nat) : Int := if v ∈ (orderOf g).take i then (((orderOf g).idxOf v : Nat) : Int) + 1 else 0
def plL (g : Graph) (i : Nat) : List Int := (List.range g.length).map (plV g i)
def reP (g : Graph) (vK i : Nat) : List (Nat × AV) := [(0, .d (rowsN g)), (5, .sl 1983 vK 0 g.length 1), (38, .d (.ro (intsN (orderOf g)))), (39, dN (orderOf g).length), (40, dN i)]
theorem rePRound (g : Graph) (vK i v : Nat) (z : List Int) (hi : i < (orderOf g).length) (hol : (orderOf g).length < 100000) (hv : (orderOf g)[i]? = some v) (hvl : v < g.length) (hz : z[v]? = some 0) (rest : Heap) (X : Fix) (hP : X.P = Try.prog) (hN : X.N = 139) :
    AW X (loopOf Try.prog 12 9) ⟨envOf (reP g vK i), ovl [(1983, ⟨vK, some (.arr 1 (z.map dI))⟩)] rest⟩ fun e' S' => e' = .normal ∧ Weak X S' ⟨envOf (reP g vK (i + 1)), ovl [(1983, ⟨vK, some (.arr 1 ((z.set v ((i : Int) + 1)).map dI))⟩)] rest⟩ := by
  have e : (z.set v ((i : Int) + 1)).map dI = (z.map dI).set (0 + v) (dI ((i : Int) + 1)) := by rw [List.map_set, Nat.zero_add]
  rw [e]
  exact seg okP named { hint := tabH Try.prog [(12, 41, hLt Try.prog i (orderOf g).length true (by simpa using hi)), (12, 43, .idx (intsN (orderOf g)) ((i : Nat) : Int) (.int .i64 (v : Int)) (by omega) (intsN_get hv)), (12, 47, hInb Try.prog v g.length hvl), (12, 48, hElI Try.prog z v 0 hz), (12, 53, hI Try.prog (IntKind.i64.wrap (((i : Nat) : Int) + 1)) ((i : Int) + 1) (by rw [IntWalk.i64_in _ (by omega)])), (12, 54, hInb Try.prog v g.length hvl), (12, 113005, hElI Try.prog z v 0 hz), (12, 55, hI Try.prog (IntKind.i64.wrap (((i : Nat) : Int) + 1)) ((i : Int) + 1) (by rw [IntWalk.i64_in _ (by omega)]))] } 2000 12 500000 139 (by kernel_rfl) X hP hN
theorem rePStop (g : Graph) (vK : Nat) (z : List Int) (rest : Heap) (X : Fix) (hP : X.P = Try.prog) (hN : X.N = 139) :
    AW X (loopOf Try.prog 12 9) ⟨envOf (reP g vK (orderOf g).length), ovl [(1983, ⟨vK, some (.arr 1 (z.map dI))⟩)] rest⟩ fun e' S' => e' = .exit 0 ∧ Weak X S' ⟨envOf [(0, .d (rowsN g)), (5, .sl 1983 vK 0 g.length 1)], ovl [(1983, ⟨vK, some (.arr 1 (z.map dI))⟩)] rest⟩ :=
  seg okP named { hint := tabH Try.prog [(12, 41, hLt Try.prog (orderOf g).length (orderOf g).length false (by simp))] } 2000 12 500000 139 (by kernel_rfl) X hP hN
/-! ### Is there a way round? -/
noncomputable def rlD (g : Graph) : D := .ro ((loopsOf g).map loopD)
noncomputable def rdI (g : Graph) (pl : List Int) (al : List Bool) (r ok : Bool) (v : Nat) (row : List Nat) (k : Nat) : List (Nat × AV) := [(0, .d (rowsN g)), (5, .d (rowD pl)), (8, .d (rlD g)), (10, .d (rowB al)), (11, dB r), (12, dN v), (13, dB ok), (64, .d (rowB al)), (65, dN g.length), (66, dN v), (81, .d (rowN row)), (82, dN row.length), (83, dN k)]
noncomputable def rdO (g : Graph) (pl : List Int) (al : List Bool) (r : Bool) (v : Nat) : List (Nat × AV) := [(0, .d (rowsN g)), (5, .d (rowD pl)), (8, .d (rlD g)), (10, .d (rowB al)), (11, dB r), (64, .d (rowB al)), (65, dN g.length), (66, dN v)]
section
variable (g : Graph) (pl : List Int) (al : List Bool) (ok : Bool) (v : Nat) (row : List Nat) (k b : Nat)
theorem rdT (hk : k < row.length) (hrl : row.length < 100000) (hb : row[k]? = some b) (rest : Heap) (X : Fix) (hP : X.P = Try.prog) (hN : X.N = 139) :
    AW X (loopOf Try.prog 12 24) ⟨envOf (rdI g pl al true ok v row k), ovl [] rest⟩ fun e' S' => e' = .normal ∧ Weak X S' ⟨envOf (rdI g pl al true ok v row (k + 1)), ovl [] rest⟩ :=
  seg okP named { hint := tabH Try.prog [(12, 84, hLt Try.prog k row.length true (by simpa using hk)), (12, 85, hIxN Try.prog row k b hb), (12, 99, hSucc Try.prog k (by omega))] } 2000 12 500000 139 (by kernel_rfl) X hP hN
theorem rdN (hk : k < row.length) (hrl : row.length < 100000) (hb : row[k]? = some b) (rest : Heap) (X : Fix) (hP : X.P = Try.prog) (hN : X.N = 139) :
    AW X (loopOf Try.prog 12 24) ⟨envOf (rdI g pl al false false v row k), ovl [] rest⟩ fun e' S' => e' = .normal ∧ Weak X S' ⟨envOf (rdI g pl al false false v row (k + 1)), ovl [] rest⟩ :=
  seg okP named { hint := tabH Try.prog [(12, 84, hLt Try.prog k row.length true (by simpa using hk)), (12, 85, hIxN Try.prog row k b hb), (12, 99, hSucc Try.prog k (by omega))] } 2000 12 500000 139 (by kernel_rfl) X hP hN
theorem rdY_true (hk : k < row.length) (hrl : row.length < 100000) (hb : row[k]? = some b) (l : List Bool) (hc : Pure Try.prog 44 [rowsN g, .int .i64 (b : Int), .int .i64 (-1)] [rowB l]) (hx : l[v]? = some true) (rest : Heap) (X : Fix) (hP : X.P = Try.prog) (hN : X.N = 139) :
    AW X (loopOf Try.prog 12 24) ⟨envOf (rdI g pl al false true v row k), ovl [] rest⟩ fun e' S' => e' = .normal ∧ Weak X S' ⟨envOf (rdI g pl al true true v row (k + 1)), ovl [] rest⟩ :=
  seg okP named { hint := tabH Try.prog [(12, 84, hLt Try.prog k row.length true (by simpa using hk)), (12, 85, hIxN Try.prog row k b hb), (12, 93, .call 44 _ _ hc), (12, 95, hIxB Try.prog l v true hx), (12, 99, hSucc Try.prog k (by omega))] } 2000 12 500000 139 (by kernel_rfl) X hP hN
theorem rdY_false (hk : k < row.length) (hrl : row.length < 100000) (hb : row[k]? = some b) (l : List Bool) (hc : Pure Try.prog 44 [rowsN g, .int .i64 (b : Int), .int .i64 (-1)] [rowB l]) (hx : l[v]? = some false) (rest : Heap) (X : Fix) (hP : X.P = Try.prog) (hN : X.N = 139) :
    AW X (loopOf Try.prog 12 24) ⟨envOf (rdI g pl al false true v row k), ovl [] rest⟩ fun e' S' => e' = .normal ∧ Weak X S' ⟨envOf (rdI g pl al false true v row (k + 1)), ovl [] rest⟩ :=
  seg okP named { hint := tabH Try.prog [(12, 84, hLt Try.prog k row.length true (by simpa using hk)), (12, 85, hIxN Try.prog row k b hb), (12, 93, .call 44 _ _ hc), (12, 95, hIxB Try.prog l v false hx), (12, 99, hSucc Try.prog k (by omega))] } 2000 12 500000 139 (by kernel_rfl) X hP hN
theorem rdIStop (r : Bool) (rest : Heap) (X : Fix) (hP : X.P = Try.prog) (hN : X.N = 139) :
    AW X (loopOf Try.prog 12 24) ⟨envOf (rdI g pl al r ok v row row.length), ovl [] rest⟩ fun e' S' => e' = .exit 4 ∧ Weak X S' ⟨envOf (rdO g pl al r v), ovl [] rest⟩ :=
  seg okP named { hint := tabH Try.prog [(12, 84, hLt Try.prog row.length row.length false (by simp))] } 2000 12 500000 139 (by kernel_rfl) X hP hN
theorem rdORound_true (hv : v < g.length) (hgl : g.length < 100000) (ha : al[v]? = some true) (p : Int) (hp : pl[v]? = some p) (hp0 : decide ((0 : Int) < p) = true) (hr : g[v]? = some row) (r r' : Bool)
    (hl : ∀ (rest : Heap) (X : Fix), X.P = Try.prog → X.N = 139 → AW X (.loop (loopOf Try.prog 12 24)) ⟨envOf (rdI g pl al r true v row 0), ovl [] rest⟩ fun e' S' => e' = .exit 4 ∧ S' = ⟨envOf (rdO g pl al r' v), ovl [] rest⟩)
    (rest : Heap) (X : Fix) (hP : X.P = Try.prog) (hN : X.N = 139) :
    AW X (loopOf Try.prog 12 19) ⟨envOf (rdO g pl al r v), ovl [] rest⟩ fun e' S' => e' = .normal ∧ Weak X S' ⟨envOf (rdO g pl al r' (v + 1)), ovl [] rest⟩ :=
  seg okP named { loops := fun f q => if f = 12 then (if q = 24 then some ⟨139, loopOf Try.prog 12 24, rdI g pl al r true v row 0, fun _ => [], .exit 4, rdO g pl al r' v, fun _ => [], hl⟩ else none) else none, hint := tabH Try.prog [(12, 67, hLt Try.prog v g.length true (by simpa using hv)), (12, 69, hIxB Try.prog al v true ha), (12, 74, hIx Try.prog pl v p hp), (12, 76, hB Try.prog (decide ((0 : Int) < p)) true hp0), (12, 80, hIxG Try.prog g v row hr), (12, 82, hLenN Try.prog row), (12, 100, hSucc Try.prog v (by omega))] } 2000 12 500000 139 (by kernel_rfl) X hP hN
theorem rdORound_false (hv : v < g.length) (hgl : g.length < 100000) (ha : al[v]? = some false) (p : Int) (hp : pl[v]? = some p) (hp0 : decide ((0 : Int) < p) = false) (hr : g[v]? = some row) (r r' : Bool)
    (hl : ∀ (rest : Heap) (X : Fix), X.P = Try.prog → X.N = 139 → AW X (.loop (loopOf Try.prog 12 24)) ⟨envOf (rdI g pl al r false v row 0), ovl [] rest⟩ fun e' S' => e' = .exit 4 ∧ S' = ⟨envOf (rdO g pl al r' v), ovl [] rest⟩)
    (rest : Heap) (X : Fix) (hP : X.P = Try.prog) (hN : X.N = 139) :
    AW X (loopOf Try.prog 12 19) ⟨envOf (rdO g pl al r v), ovl [] rest⟩ fun e' S' => e' = .normal ∧ Weak X S' ⟨envOf (rdO g pl al r' (v + 1)), ovl [] rest⟩ :=
  seg okP named { loops := fun f q => if f = 12 then (if q = 24 then some ⟨139, loopOf Try.prog 12 24, rdI g pl al r false v row 0, fun _ => [], .exit 4, rdO g pl al r' v, fun _ => [], hl⟩ else none) else none, hint := tabH Try.prog [(12, 67, hLt Try.prog v g.length true (by simpa using hv)), (12, 69, hIxB Try.prog al v false ha), (12, 74, hIx Try.prog pl v p hp), (12, 76, hB Try.prog (decide ((0 : Int) < p)) false hp0), (12, 80, hIxG Try.prog g v row hr), (12, 82, hLenN Try.prog row), (12, 100, hSucc Try.prog v (by omega))] } 2000 12 500000 139 (by kernel_rfl) X hP hN
theorem rdOStop (r : Bool) (rest : Heap) (X : Fix) (hP : X.P = Try.prog) (hN : X.N = 139) :
    AW X (loopOf Try.prog 12 19) ⟨envOf (rdO g pl al r g.length), ovl [] rest⟩ fun e' S' => e' = .exit 2 ∧ Weak X S' ⟨envOf [(0, .d (rowsN g)), (5, .d (rowD pl)), (8, .d (rlD g)), (10, .d (rowB al)), (11, dB r)], ovl [] rest⟩ :=
  seg okP named { hint := tabH Try.prog [(12, 67, hLt Try.prog g.length g.length false (by simp))] } 2000 12 500000 139 (by kernel_rfl) X hP hN
end
/-! ### Without a way round each stands ahead -/
noncomputable def noI (g : Graph) (pl : List Int) (al : List Bool) (v : Nat) (row : List Nat) (k : Nat) : List (Nat × AV) := [(5, .d (rowD pl)), (8, .d (rlD g)), (10, .d (rowB al)), (11, dB false), (16, dN v), (103, .d (rowsN g)), (104, dN g.length), (105, dN v), (110, .d (rowN row)), (111, dN row.length), (112, dN k)]
noncomputable def noO (g : Graph) (pl : List Int) (al : List Bool) (v : Nat) : List (Nat × AV) := [(5, .d (rowD pl)), (8, .d (rlD g)), (10, .d (rowB al)), (11, dB false), (103, .d (rowsN g)), (104, dN g.length), (105, dN v)]
section
variable (g : Graph) (pl : List Int) (al : List Bool) (v : Nat) (row : List Nat) (k b : Nat) (p q : Int)
theorem noN (hk : k < row.length) (hrl : row.length < 100000) (hb : row[k]? = some b) (ha : al[v]? = some false) (rest : Heap) (X : Fix) (hP : X.P = Try.prog) (hN : X.N = 139) :
    AW X (loopOf Try.prog 12 34) ⟨envOf (noI g pl al v row k), ovl [] rest⟩ fun e' S' => e' = .normal ∧ Weak X S' ⟨envOf (noI g pl al v row (k + 1)), ovl [] rest⟩ :=
  seg okP named { hint := tabH Try.prog [(12, 113, hLt Try.prog k row.length true (by simpa using hk)), (12, 114, hIxN Try.prog row k b hb), (12, 118, hIxB Try.prog al v false ha), (12, 131, hSucc Try.prog k (by omega))] } 2000 12 500000 139 (by kernel_rfl) X hP hN
theorem noY (hk : k < row.length) (hrl : row.length < 100000) (hb : row[k]? = some b) (ha : al[v]? = some true) (hp : pl[b]? = some p) (hq : pl[v]? = some q) (hpq : decide (p ≤ q) = false) (rest : Heap) (X : Fix) (hP : X.P = Try.prog) (hN : X.N = 139) :
    AW X (loopOf Try.prog 12 34) ⟨envOf (noI g pl al v row k), ovl [] rest⟩ fun e' S' => e' = .normal ∧ Weak X S' ⟨envOf (noI g pl al v row (k + 1)), ovl [] rest⟩ :=
  seg okP named { hint := tabH Try.prog [(12, 113, hLt Try.prog k row.length true (by simpa using hk)), (12, 114, hIxN Try.prog row k b hb), (12, 118, hIxB Try.prog al v true ha), (12, 123, hIx Try.prog pl b p hp), (12, 127, hIx Try.prog pl v q hq), (12, 129, hB Try.prog (decide (p ≤ q)) false hpq), (12, 131, hSucc Try.prog k (by omega))] } 2000 12 500000 139 (by kernel_rfl) X hP hN
theorem noIStop (rest : Heap) (X : Fix) (hP : X.P = Try.prog) (hN : X.N = 139) :
    AW X (loopOf Try.prog 12 34) ⟨envOf (noI g pl al v row row.length), ovl [] rest⟩ fun e' S' => e' = .exit 8 ∧ Weak X S' ⟨envOf (noO g pl al v), ovl [] rest⟩ :=
  seg okP named { hint := tabH Try.prog [(12, 113, hLt Try.prog row.length row.length false (by simp))] } 2000 12 500000 139 (by kernel_rfl) X hP hN
theorem noORound (hv : v < g.length) (hgl : g.length < 100000) (hr : g[v]? = some row)
    (hl : ∀ (rest : Heap) (X : Fix), X.P = Try.prog → X.N = 139 → AW X (.loop (loopOf Try.prog 12 34)) ⟨envOf (noI g pl al v row 0), ovl [] rest⟩ fun e' S' => e' = .exit 8 ∧ S' = ⟨envOf (noO g pl al v), ovl [] rest⟩)
    (rest : Heap) (X : Fix) (hP : X.P = Try.prog) (hN : X.N = 139) :
    AW X (loopOf Try.prog 12 31) ⟨envOf (noO g pl al v), ovl [] rest⟩ fun e' S' => e' = .normal ∧ Weak X S' ⟨envOf (noO g pl al (v + 1)), ovl [] rest⟩ :=
  seg okP named { loops := fun f q => if f = 12 then (if q = 34 then some ⟨139, loopOf Try.prog 12 34, noI g pl al v row 0, fun _ => [], .exit 8, noO g pl al v, fun _ => [], hl⟩ else none) else none, hint := tabH Try.prog [(12, 106, hLt Try.prog v g.length true (by simpa using hv)), (12, 108, hIxG Try.prog g v row hr), (12, 111, hLenN Try.prog row), (12, 132, hSucc Try.prog v (by omega))] } 2000 12 500000 139 (by kernel_rfl) X hP hN
theorem noOStop (rest : Heap) (X : Fix) (hP : X.P = Try.prog) (hN : X.N = 139) :
    AW X (loopOf Try.prog 12 31) ⟨envOf (noO g pl al g.length), ovl [] rest⟩ fun e' S' => e' = .exit 6 ∧ Weak X S' ⟨envOf [(8, .d (rlD g)), (11, dB false)], ovl [] rest⟩ :=
  seg okP named { hint := tabH Try.prog [(12, 106, hLt Try.prog g.length g.length false (by simp))] } 2000 12 500000 139 (by kernel_rfl) X hP hN
end
theorem reBad {gs t : List (List Int)} (ht : Pure Try.prog 36 [rowsD gs] [rowsD t]) (h38 : Pure Try.prog 38 [rowsD t] [rowsD t]) (h46 : Pure Try.prog 46 [rowsD t] [.ro [], .int .i64 3]) : Pure Try.prog 12 [rowsD gs] [.bool true] :=
  pure_of_run okP named { hint := tabH Try.prog [(12, 20, .call 35 _ _ awake05), (12, 23, .call 36 _ _ ht), (12, 26, .call 38 _ _ h38), (12, 27, .call 46 _ _ h46)] } 2000 (by kernel_rfl)
section
variable {gs : List (List Int)} {g : Graph} (pl : List Int) (al : List Bool) (hgl : g.length < 100000) (hpl : pl.length = g.length) (hal : al.length = g.length) (ht : Pure Try.prog 36 [rowsD gs] [rowsN g]) (h38 : Pure Try.prog 38 [rowsN g] [rowsN g]) (h46 : Pure Try.prog 46 [rowsN g] [.ro (intsN (orderOf g)), .int .i64 0])
    (h37 : Pure Try.prog 37 [rowsN g] [rlD g, .int .i64 0]) (h44 : Pure Try.prog 44 [rowsN g, .int .i64 0, .int .i64 (-1)] [rowB al])
    (hl9 : ∀ (rest : Heap) (X : Fix), X.P = Try.prog → X.N = 139 → AW X (.loop (loopOf Try.prog 12 9)) ⟨envOf (reP g 1 0), ovl [(1983, ⟨1, some (.arr 1 (List.replicate g.length (dI 0)))⟩)] rest⟩ fun e' S' => e' = .exit 0 ∧ S' = ⟨envOf [(0, .d (rowsN g)), (5, .sl 1983 1 0 g.length 1)], ovl [(1983, ⟨1, some (.arr 1 (pl.map dI))⟩)] rest⟩)
include hgl hpl hal ht h38 h46 h37 h44 hl9
theorem reRound
    (hl19 : ∀ (rest : Heap) (X : Fix), X.P = Try.prog → X.N = 139 → AW X (.loop (loopOf Try.prog 12 19)) ⟨envOf (rdO g pl al false 0), ovl [] rest⟩ fun e' S' => e' = .exit 2 ∧ S' = ⟨envOf [(0, .d (rowsN g)), (5, .d (rowD pl)), (8, .d (rlD g)), (10, .d (rowB al)), (11, dB true)], ovl [] rest⟩) :
    Pure Try.prog 12 [rowsD gs] [.bool true] :=
  pure_of_run okP named { weaks := fun f q => if f = 12 then (if q = 15 then some (wI 5 1983 g.length pl hpl) else none) else none, loops := fun f q => if f = 12 then (if q = 9 then some ⟨139, loopOf Try.prog 12 9, reP g 1 0, fun _ => [(1983, ⟨1, some (.arr 1 (List.replicate g.length (dI 0)))⟩)], .exit 0, [(0, .d (rowsN g)), (5, .sl 1983 1 0 g.length 1)], fun _ => [(1983, ⟨1, some (.arr 1 (pl.map dI))⟩)], hl9⟩ else if q = 19 then some ⟨139, loopOf Try.prog 12 19, rdO g pl al false 0, fun _ => [], .exit 2, [(0, .d (rowsN g)), (5, .d (rowD pl)), (8, .d (rlD g)), (10, .d (rowB al)), (11, dB true)], fun _ => [], hl19⟩ else none) else none, hint := tabH Try.prog [(12, 20, .call 35 _ _ awake05), (12, 23, .call 36 _ _ ht), (12, 26, .call 38 _ _ h38), (12, 27, .call 46 _ _ h46), (12, 36, hLenG Try.prog g), (12, 37, .mk ((g.length : Nat) : Int) (by omega) (by omega)), (12, 39, .val (dN (intsN (orderOf g)).length) (dN (orderOf g).length) (by rw [intsN_len])), (12, 58, .call 38 _ _ h38), (12, 59, .call 37 _ _ h37), (12, 63, .call 44 _ _ h44), (12, 65, .val (dN (al.map D.bool).length) (dN g.length) (by rw [List.length_map, hal]))] } 2000 (by kernel_rfl)
theorem reNone (h0 : loopsOf g = [])
    (hl19 : ∀ (rest : Heap) (X : Fix), X.P = Try.prog → X.N = 139 → AW X (.loop (loopOf Try.prog 12 19)) ⟨envOf (rdO g pl al false 0), ovl [] rest⟩ fun e' S' => e' = .exit 2 ∧ S' = ⟨envOf [(0, .d (rowsN g)), (5, .d (rowD pl)), (8, .d (rlD g)), (10, .d (rowB al)), (11, dB false)], ovl [] rest⟩)
    (hl31 : ∀ (rest : Heap) (X : Fix), X.P = Try.prog → X.N = 139 → AW X (.loop (loopOf Try.prog 12 31)) ⟨envOf (noO g pl al 0), ovl [] rest⟩ fun e' S' => e' = .exit 6 ∧ S' = ⟨envOf [(8, .d (rlD g)), (11, dB false)], ovl [] rest⟩) :
    Pure Try.prog 12 [rowsD gs] [.bool true] :=
  pure_of_run okP named { weaks := fun f q => if f = 12 then (if q = 15 then some (wI 5 1983 g.length pl hpl) else none) else none, loops := fun f q => if f = 12 then (if q = 9 then some ⟨139, loopOf Try.prog 12 9, reP g 1 0, fun _ => [(1983, ⟨1, some (.arr 1 (List.replicate g.length (dI 0)))⟩)], .exit 0, [(0, .d (rowsN g)), (5, .sl 1983 1 0 g.length 1)], fun _ => [(1983, ⟨1, some (.arr 1 (pl.map dI))⟩)], hl9⟩ else if q = 19 then some ⟨139, loopOf Try.prog 12 19, rdO g pl al false 0, fun _ => [], .exit 2, [(0, .d (rowsN g)), (5, .d (rowD pl)), (8, .d (rlD g)), (10, .d (rowB al)), (11, dB false)], fun _ => [], hl19⟩ else if q = 31 then some ⟨139, loopOf Try.prog 12 31, noO g pl al 0, fun _ => [], .exit 6, [(8, .d (rlD g)), (11, dB false)], fun _ => [], hl31⟩ else none) else none, hint := tabH Try.prog [(12, 20, .call 35 _ _ awake05), (12, 23, .call 36 _ _ ht), (12, 26, .call 38 _ _ h38), (12, 27, .call 46 _ _ h46), (12, 36, hLenG Try.prog g), (12, 37, .mk ((g.length : Nat) : Int) (by omega) (by omega)), (12, 39, .val (dN (intsN (orderOf g)).length) (dN (orderOf g).length) (by rw [intsN_len])), (12, 58, .call 38 _ _ h38), (12, 59, .call 37 _ _ h37), (12, 63, .call 44 _ _ h44), (12, 65, .val (dN (al.map D.bool).length) (dN g.length) (by rw [List.length_map, hal])), (12, 104, hLenG Try.prog g), (12, 136, .val (dN ((loopsOf g).map loopD).length) (dN 0) (by rw [h0]; rfl))] } 2000 (by kernel_rfl)
end
theorem nodup_ix {l : List Nat} (h : l.Nodup) {i j : Nat} (hi : i < l.length) (hj : j < l.length) (e : l[i] = l[j]) : i = j := by
  rcases Nat.lt_trichotomy i j with h1 | h1 | h1
  · exact absurd e (List.pairwise_iff_getElem.1 h i j hi hj h1)
  · exact h1
  · exact absurd e.symm (List.pairwise_iff_getElem.1 h j i hj hi h1)
theorem before_idx {l : List Nat} {a b : Nat} (hn : l.Nodup) (h : Before l a b) : l.idxOf a < l.idxOf b := by
  obtain ⟨p, q, rfl, ha, hb⟩ := h
  have hbp : b ∉ p := fun h => (List.nodup_append.1 hn).2.2 b h b hb rfl
  rw [List.idxOf_append, List.idxOf_append, if_pos ha, if_neg hbp]
  have := List.idxOf_lt_length_of_mem ha
  omega
theorem doms_re {g : Graph} {h t : Nat} (hd : Doms g h t) : Re g none h t := by
  rcases hd.2.2 with rfl | hn
  · exact .refl (by simp)
  · have key : ∀ {b : Nat}, Re g none 0 b → Re g (some h) 0 b ∨ Re g none h b := fun {b} hr => by
      induction hr with
      | refl =>
        by_cases e : 0 = h
        · exact .inr (e ▸ .refl (by simp))
        · exact .inl (.refl (by simpa using e))
      | @step p b _ hs _ ih =>
        rcases ih with h1 | h1
        · by_cases e : b = h
          · exact .inr (e ▸ .refl (by simp))
          · exact .inl (.step h1 hs (by simpa using e))
        · exact .inr (.step h1 hs (by simp))
    exact (key hd.2.1).resolve_left hn
/-- A way round that begins ahead of the node v, or by the first k of his ways. -/
def RdP (g : Graph) (v k : Nat) : Prop := (∃ u, u < v ∧ Dom.Reached g u ∧ ∃ b ∈ succ g u, Re g none b u) ∨ (Dom.Reached g v ∧ ∃ b ∈ (succ g v).take k, Re g none b v)
theorem RdP.next {g : Graph} {v : Nat} : RdP g (v + 1) 0 ↔ RdP g v (succ g v).length := by
  unfold RdP
  rw [List.take_length]
  constructor
  · rintro (⟨u, hu, h1, h2⟩ | ⟨_, b, hb, _⟩)
    · by_cases e : u = v
      · subst e; exact .inr ⟨h1, h2⟩
      · exact .inl ⟨u, by omega, h1, h2⟩
    · simp at hb
  · rintro (⟨u, hu, h1, h2⟩ | ⟨h1, h2⟩)
    · exact .inl ⟨u, by omega, h1, h2⟩
    · exact .inl ⟨v, by omega, h1, h2⟩
section
variable {g : Graph} (hg : Valid g) (hg0 : 0 < g.length) (hgl : g.length < 100000) (hr : ∀ a, (succ g a).length < 100000) {U : Nat → Nat} (hU : Fixed g U)
include hg hg0 hgl hr hU
theorem ord_lt : (orderOf g).length ≤ g.length := reachN_le hg hg0
theorem plV_all (v : Nat) : plV g (orderOf g).length v = if v ∈ orderOf g then (((orderOf g).idxOf v : Nat) : Int) + 1 else 0 := by unfold plV; rw [List.take_length]
theorem plL_get {i v : Nat} (hv : v < g.length) : (plL g i)[v]? = some (plV g i v) := by simp [plL, hv]
theorem placeLoop (rest : Heap) (X : Fix) (hP : X.P = Try.prog) (hN : X.N = 139) :
    AW X (.loop (loopOf Try.prog 12 9)) ⟨envOf (reP g 1 0), ovl [(1983, ⟨1, some (.arr 1 (List.replicate g.length (dI 0)))⟩)] rest⟩ fun e' S' => e' = .exit 0 ∧ S' = ⟨envOf [(0, .d (rowsN g)), (5, .sl 1983 1 0 g.length 1)], ovl [(1983, ⟨1, some (.arr 1 ((plL g (orderOf g).length).map dI))⟩)] rest⟩ := by
  have hol := ord_lt hg hg0 hgl hr hU
  have e0 : List.replicate g.length (dI 0) = (plL g 0).map dI := by
    apply List.ext_getElem?
    intro t
    rcases Nat.lt_or_ge t g.length with ht | ht
    · rw [List.getElem?_map, plL_get hg hg0 hgl hr hU ht]
      simp [ht, plV]
    · rw [List.getElem?_eq_none (by simpa using ht), List.getElem?_eq_none (by simpa [plL] using ht)]
  rw [e0]
  refine (lw_count (orderOf g).length (fun i => ⟨envOf (reP g 1 i), ovl [(1983, ⟨1, some (.arr 1 ((plL g i).map dI))⟩)] rest⟩) (by simp) (fun i hi => ?_) (rePStop g 1 _ rest X hP hN)).aw
  have hget : (orderOf g)[i]? = some (orderOf g)[i] := List.getElem?_eq_getElem hi
  have hix : (orderOf g).idxOf (orderOf g)[i] = i := nodup_ix (order_nodup hg) _ _ (List.getElem_idxOf (List.idxOf_lt_length_of_mem (List.getElem_mem hi)))
  have htk : (orderOf g).take (i + 1) = (orderOf g).take i ++ [(orderOf g)[i]] := List.take_succ_eq_append_getElem hi
  have hmem : (orderOf g)[i] ∈ orderOf g := List.getElem_mem hi
  generalize (orderOf g)[i] = v at hget hix htk hmem
  have hvl : v < g.length := Re.lt hg ((order_mem hg v).1 hmem).2 hg0
  have hnt : v ∉ (orderOf g).take i := fun h => by
    have hnd := order_nodup hg
    rw [← List.take_append_drop (i + 1) (orderOf g), htk] at hnd
    have h2 := (List.nodup_append.1 (List.nodup_append.1 hnd).1).2.2 v h v (by simp)
    exact h2 rfl
  have e : plL g (i + 1) = (plL g i).set v ((i : Int) + 1) := by
    apply List.ext_getElem?
    intro t
    rcases Nat.lt_or_ge t g.length with ht | ht
    · rw [plL_get hg hg0 hgl hr hU ht]
      by_cases htv : t = v
      · subst htv
        rw [List.getElem?_set_self (by simpa [plL] using ht)]
        unfold plV
        rw [htk, if_pos (by simp), hix]
      · rw [List.getElem?_set_ne (Ne.symm htv), plL_get hg hg0 hgl hr hU ht]
        unfold plV
        rw [htk]
        simp [htv]
    · rw [List.getElem?_eq_none (by simpa [plL] using ht), List.getElem?_eq_none (by simpa [plL] using ht)]
  rw [e]
  exact rePRound g 1 i v (plL g i) hi (by omega) hget hvl (by rw [plL_get hg hg0 hgl hr hU hvl]; unfold plV; rw [if_neg hnt]) rest X hP hN
open Classical in
theorem roundInner (v : Nat) (hv : v < g.length) (ok : Bool) (hok : ok = decide (Dom.Reached g v)) (rest : Heap) (X : Fix) (hP : X.P = Try.prog) (hN : X.N = 139) :
    AW X (.loop (loopOf Try.prog 12 24)) ⟨envOf (rdI g (plL g (orderOf g).length) (reachL g 0 none) (decide (RdP g v 0)) ok v (succ g v) 0), ovl [] rest⟩ fun e' S' => e' = .exit 4 ∧ S' = ⟨envOf (rdO g (plL g (orderOf g).length) (reachL g 0 none) (decide (RdP g v (succ g v).length)) v), ovl [] rest⟩ :=
  (lw_count (succ g v).length (fun k => ⟨envOf (rdI g (plL g (orderOf g).length) (reachL g 0 none) (decide (RdP g v k)) ok v (succ g v) k), ovl [] rest⟩) (by simp) (fun k hk => by
    have hget : (succ g v)[k]? = some (succ g v)[k] := List.getElem?_eq_getElem hk
    have htk : (succ g v).take (k + 1) = (succ g v).take k ++ [(succ g v)[k]] := List.take_succ_eq_append_getElem hk
    have hmem : (succ g v)[k] ∈ succ g v := List.getElem_mem hk
    generalize (succ g v)[k] = b at hget htk hmem
    have hbl := (succ_lt hg hmem).1
    have hsr := hr v
    by_cases hk0 : RdP g v k
    · have hk1 : RdP g v (k + 1) := by
        rcases hk0 with h | ⟨h1, b', hb', h2⟩
        · exact .inl h
        · exact .inr ⟨h1, b', by rw [htk]; simp [hb'], h2⟩
      rw [decide_eq_true hk0, decide_eq_true hk1]
      exact rdT g _ _ ok v _ k b hk hsr hget rest X hP hN
    · by_cases hrv : Dom.Reached g v
      · rw [decide_eq_true hrv] at hok
        subst hok
        have hm := reachL_met (g := g) (n := b) (but := none) hv
        have hgt := reachL_get (g := g) (n := b) (but := none) hv
        have hc := reachC hg (but := none) (n := b) (by omega) (by omega) (fun a => by have := hr a; omega)
        have hiff : RdP g v (k + 1) ↔ Re g none b v := by
          constructor
          · rintro (h | ⟨h1, b', hb', h2⟩)
            · exact absurd (.inl h) hk0
            · rw [htk] at hb'
              rcases List.mem_append.1 hb' with h3 | h3
              · exact absurd (.inr ⟨h1, b', h3, h2⟩) hk0
              · exact List.mem_singleton.1 h3 ▸ h2
          · intro h
            exact .inr ⟨hrv, b, by rw [htk]; simp, h⟩
        rw [decide_eq_false hk0]
        by_cases hre : Re g none b v
        · rw [decide_eq_true (hiff.2 hre)]
          rw [hm.2 ⟨hbl, hre⟩] at hgt
          exact rdY_true g _ _ v _ k b hk hsr hget _ hc hgt rest X hP hN
        · rw [decide_eq_false (fun h => hre (hiff.1 h))]
          have : met (reachL g b none) v = false := by
            cases e : met (reachL g b none) v with
            | false => rfl
            | true => exact absurd (hm.1 e).2 hre
          rw [this] at hgt
          exact rdY_false g _ _ v _ k b hk hsr hget _ hc hgt rest X hP hN
      · rw [decide_eq_false hrv] at hok
        subst hok
        have hk1 : ¬ RdP g v (k + 1) := by
          rintro (h | ⟨h1, _⟩)
          · exact hk0 (.inl h)
          · exact hrv h1
        rw [decide_eq_false hk0, decide_eq_false hk1]
        exact rdN g _ _ v _ k b hk hsr hget rest X hP hN)
    (rdIStop g _ _ ok v _ _ rest X hP hN)).aw
open Classical in
theorem roundOuter (rest : Heap) (X : Fix) (hP : X.P = Try.prog) (hN : X.N = 139) :
    AW X (.loop (loopOf Try.prog 12 19)) ⟨envOf (rdO g (plL g (orderOf g).length) (reachL g 0 none) false 0), ovl [] rest⟩ fun e' S' => e' = .exit 2 ∧ S' = ⟨envOf [(0, .d (rowsN g)), (5, .d (rowD (plL g (orderOf g).length))), (8, .d (rlD g)), (10, .d (rowB (reachL g 0 none))), (11, dB (decide (RdP g g.length 0)))], ovl [] rest⟩ := by
  have h0 : decide (RdP g 0 0) = false := decide_eq_false (by
    rintro (⟨u, hu, _⟩ | ⟨_, b, hb, _⟩)
    · omega
    · simp at hb)
  have h := (lw_count (X := X) (c := loopOf Try.prog 12 19) g.length (fun v => ⟨envOf (rdO g (plL g (orderOf g).length) (reachL g 0 none) (decide (RdP g v 0)) v), ovl [] rest⟩) (e := .exit 2) (Z := ⟨envOf [(0, .d (rowsN g)), (5, .d (rowD (plL g (orderOf g).length))), (8, .d (rlD g)), (10, .d (rowB (reachL g 0 none))), (11, dB (decide (RdP g g.length 0)))], ovl [] rest⟩) (by simp) (fun v hv => by
    have e : decide (RdP g (v + 1) 0) = decide (RdP g v (succ g v).length) := by rw [RdP.next]
    rw [e]
    have hp : (plL g (orderOf g).length)[v]? = some (plV g (orderOf g).length v) := plL_get hg hg0 hgl hr hU hv
    rw [plV_all hg hg0 hgl hr hU] at hp
    by_cases hrv : Dom.Reached g v
    · rw [if_pos ((order_mem hg v).2 ⟨hg0, hrv⟩)] at hp
      exact rdORound_true g _ _ v _ hv hgl ((all_get hg hg0 hgl hU hv).1 hrv) _ hp (dec_true (by omega)) (succ_get hv) _ _ (fun rest X hP hN => roundInner hg hg0 hgl hr hU v hv true (decide_eq_true hrv).symm rest X hP hN) rest X hP hN
    · rw [if_neg (fun h => hrv ((order_mem hg v).1 h).2)] at hp
      exact rdORound_false g _ _ v _ hv hgl ((all_get hg hg0 hgl hU hv).2 hrv) _ hp (dec_false (by omega)) (succ_get hv) _ _ (fun rest X hP hN => roundInner hg hg0 hgl hr hU v hv false (decide_eq_false hrv).symm rest X hP hN) rest X hP hN) (rdOStop g _ _ _ rest X hP hN)).aw
  rw [h0] at h
  exact h
theorem noInner (hno : ¬ RdP g g.length 0) (v : Nat) (hv : v < g.length) (rest : Heap) (X : Fix) (hP : X.P = Try.prog) (hN : X.N = 139) :
    AW X (.loop (loopOf Try.prog 12 34)) ⟨envOf (noI g (plL g (orderOf g).length) (reachL g 0 none) v (succ g v) 0), ovl [] rest⟩ fun e' S' => e' = .exit 8 ∧ S' = ⟨envOf (noO g (plL g (orderOf g).length) (reachL g 0 none) v), ovl [] rest⟩ :=
  (lw_count (succ g v).length (fun k => ⟨envOf (noI g (plL g (orderOf g).length) (reachL g 0 none) v (succ g v) k), ovl [] rest⟩) (by simp) (fun k hk => by
    have hget : (succ g v)[k]? = some (succ g v)[k] := List.getElem?_eq_getElem hk
    have hmem : (succ g v)[k] ∈ succ g v := List.getElem_mem hk
    generalize (succ g v)[k] = b at hget hmem
    have hbl := (succ_lt hg hmem).1
    by_cases hrv : Dom.Reached g v
    · have hvo := (order_mem hg v).2 ⟨hg0, hrv⟩
      have hrb : Dom.Reached g b := .step hrv hmem (by simp)
      have hbo := (order_mem hg b).2 ⟨hg0, hrb⟩
      have hbf := (order_on hg hvo hmem).resolve_right (fun h => hno (.inl ⟨v, hv, hrv, b, hmem, h⟩))
      have hlt := before_idx (order_nodup hg) hbf
      have hp : (plL g (orderOf g).length)[b]? = some (plV g (orderOf g).length b) := plL_get hg hg0 hgl hr hU hbl
      have hq : (plL g (orderOf g).length)[v]? = some (plV g (orderOf g).length v) := plL_get hg hg0 hgl hr hU hv
      rw [plV_all hg hg0 hgl hr hU, if_pos hbo] at hp
      rw [plV_all hg hg0 hgl hr hU, if_pos hvo] at hq
      exact noY g _ _ v _ k b _ _ hk (hr v) hget ((all_get hg hg0 hgl hU hv).1 hrv) hp hq (dec_false (by omega)) rest X hP hN
    · exact noN g _ _ v _ k b hk (hr v) hget ((all_get hg hg0 hgl hU hv).2 hrv) rest X hP hN)
    (noIStop g _ _ v _ rest X hP hN)).aw
theorem noOuter (hno : ¬ RdP g g.length 0) (rest : Heap) (X : Fix) (hP : X.P = Try.prog) (hN : X.N = 139) :
    AW X (.loop (loopOf Try.prog 12 31)) ⟨envOf (noO g (plL g (orderOf g).length) (reachL g 0 none) 0), ovl [] rest⟩ fun e' S' => e' = .exit 6 ∧ S' = ⟨envOf [(8, .d (rlD g)), (11, dB false)], ovl [] rest⟩ :=
  (lw_count g.length (fun v => ⟨envOf (noO g (plL g (orderOf g).length) (reachL g 0 none) v), ovl [] rest⟩) (by simp) (fun v hv =>
    noORound g _ _ v _ hv hgl (succ_get hv) (fun rest X hP hN => noInner hg hg0 hgl hr hU hno v hv rest X hP hN) rest X hP hN) (noOStop g _ _ rest X hP hN)).aw
open Classical in
theorem loops_none (hno : ¬ RdP g g.length 0) : loopsOf g = [] := by
  unfold loopsOf loopsIn
  rw [List.map_eq_nil_iff, List.filter_eq_nil_iff]
  intro h _ hb
  have hb : backsOf g h ≠ [] := of_decide_eq_true hb
  obtain ⟨t, ht⟩ := List.exists_mem_of_ne_nil _ hb
  unfold backsOf at ht
  obtain ⟨h1, h2⟩ := List.mem_filter.1 ht
  have h2 := of_decide_eq_true h2
  have h3 := intoOf_mem.1 h1
  exact hno (.inl ⟨t, h3.2.1, h2.2.1, h, h3.2.2, doms_re h2⟩)
end
theorem reNil {gs : List (List Int)} (ht : Pure Try.prog 36 [rowsD gs] [rowsN []]) (h38 : Pure Try.prog 38 [rowsN []] [rowsN []]) (h46 : Pure Try.prog 46 [rowsN []] [.ro [], .int .i64 0]) (h37 : Pure Try.prog 37 [rowsN []] [.ro [], .int .i64 0]) (h44 : Pure Try.prog 44 [rowsN [], .int .i64 0, .int .i64 (-1)] [.ro []]) : Pure Try.prog 12 [rowsD gs] [.bool true] :=
  pure_of_run okP named { hint := tabH Try.prog [(12, 20, .call 35 _ _ awake05), (12, 23, .call 36 _ _ ht), (12, 26, .call 38 _ _ h38), (12, 27, .call 46 _ _ h46), (12, 58, .call 38 _ _ h38), (12, 59, .call 37 _ _ h37), (12, 63, .call 44 _ _ h44)] } 2000 (by kernel_rfl)
open Classical in
theorem reachedPure (gs : List (List Int)) (hl : gs.length ≤ 9223372036854775807) : Pure Try.prog 12 [rowsD gs] [.bool true] := by
  have hT := tame_is gs
  have ht := tameC gs hl
  generalize tameF gs = t at hT ht
  have h38 := tame_twin hT
  cases hk : okG t with
  | false =>
    obtain ⟨h73, h39⟩ := tame_check hT 3 (by rw [hk]; rfl)
    exact reBad ht h38 (order46Bad h73)
  | true =>
    obtain ⟨h73, h39⟩ := tame_check hT 0 (by rw [hk]; rfl)
    obtain ⟨g, rfl, hg, hgl, hr⟩ := tame_nat hT hk
    have hsr := succ_len (g := g) (fun l hl => by have := hr l hl; omega)
    have hsr6 : ∀ a, (succ g a).length < 100000 := fun a => by
      unfold succ
      rw [List.getD_eq_getElem?_getD]
      cases h : g[a]? with
      | none => simp
      | some l => have := hr l (List.mem_of_getElem? h); simp; omega
    obtain ⟨U, hU, h74⟩ := aboveC hg (by omega) hsr
    have h46 := order46 h73 (orderC hg (by omega) hsr)
    have h37 := loopsC hg (by omega) (fun l hl => by have := hr l hl; omega)
    have h44 := reachC hg (but := none) (n := 0) (by omega) (by omega) hsr
    rcases Nat.eq_zero_or_pos g.length with h0 | h0
    · have : g = [] := List.length_eq_zero_iff.1 h0
      subst this
      exact reNil ht h38 h46 h37 h44
    · have hpl : (plL g (orderOf g).length).length = g.length := by simp [plL]
      have hal := reachL_len g 0 none
      have h9 := fun rest X hP hN => placeLoop hg h0 (by omega) hsr6 hU rest X hP hN
      have h19 := fun rest X hP hN => roundOuter hg h0 (by omega) hsr6 hU rest X hP hN
      by_cases hno : RdP g g.length 0
      · simp only [decide_eq_true hno] at h19
        exact reRound _ _ (by omega) hpl hal ht h38 h46 h37 h44 h9 h19
      · simp only [decide_eq_false hno] at h19
        exact reNone _ _ (by omega) hpl hal ht h38 h46 h37 h44 h9 (loops_none hg h0 (by omega) hsr6 hU hno) h19 (fun rest X hP hN => noOuter hg h0 (by omega) hsr6 hU hno rest X hP hN)
end Go.Avm
