/-
  Flow: the loops, as the reference has them.
-/
import Derived.Test.YtpcomfnianamgaaFlTr
set_option linter.unusedSectionVars false
namespace Go.Avm
open Go.Proofs Go.Avm.Dom

noncomputable def lrB (g : Graph) (vo : Nat) (acc : List (Nat × List Nat)) (h : Nat) : List (Nat × AV) := [(0, .d (rowsN g)), (3, .d (.ro (trD g))), (4, .vec 60 vo 2 (acc.map loopD)), (19, dN g.length), (20, dN h)]
noncomputable def lr9 (g : Graph) (vo : Nat) (acc : List (Nat × List Nat)) (h vI : Nat) (any : Bool) (t : Nat) : List (Nat × AV) := lrB g vo acc h ++ [(5, dN h), (6, .sl 500580 vI 0 g.length 1), (7, dB any), (26, .d (rowsN g)), (27, dN g.length), (28, dN t)]
noncomputable def lr13 (g : Graph) (vo : Nat) (acc : List (Nat × List Nat)) (h vI : Nat) (any : Bool) (t : Nat) (back : Bool) (row : List Nat) (k : Nat) : List (Nat × AV) := lr9 g vo acc h vI any t ++ [(8, dN t), (10, dB back), (33, .d (rowN row)), (34, dN row.length), (35, dN k)]
noncomputable def lr17 (g : Graph) (vo : Nat) (acc : List (Nat × List Nat)) (h vI : Nat) (any : Bool) (t : Nat) (back : Bool) : List (Nat × AV) := lr9 g vo acc h vI any t ++ [(8, dN t), (10, dB back)]
noncomputable def lr20 (g : Graph) (vo : Nat) (acc : List (Nat × List Nat)) (h vI : Nat) (t v : Nat) : List (Nat × AV) := lr9 g vo acc h vI true t ++ [(8, dN t), (58, dN g.length), (59, dN v)]
noncomputable def lr28 (g : Graph) (vo : Nat) (acc : List (Nat × List Nat)) (h vI vS v : Nat) : List (Nat × AV) := lrB g vo acc h ++ [(6, .sl 500580 vI 0 g.length 1), (14, .ptr 501679 vS 0 0 1), (90, dN g.length), (91, dN v)]
def eI (vI : Nat) (bs : List Bool) : List (Nat × Ent) := [(500580, ⟨vI, some (.arr 1 (bs.map dB))⟩)]
def e28r (vI : Nat) (bs : List Bool) (vS h vN : Nat) (l : List Nat) (w : Nat) : List (Nat × Ent) := [(500580, ⟨vI, some (.arr 1 (bs.map dB))⟩), (501679, ⟨vS, some (.arr 1 [dN h, .vec 61 vN 1 (intsN l)])⟩), (61, ⟨vN, none⟩), (501211, ⟨w, none⟩)]
section
variable (g : Graph) (vo : Nat) (acc : List (Nat × List Nat)) (h vI : Nat) (any : Bool) (t : Nat) (row : List Nat) (k b v : Nat) (bs : List Bool)
theorem lrT (hk : k < row.length) (hrl : row.length < 100000) (hb : row[k]? = some b) (rest : Heap) (X : Fix) (hP : X.P = Try.prog) (hN : X.N = 111) :
    AW X (loopOf Try.prog 40 13) ⟨envOf (lr13 g vo acc h vI any t true row k), ovl [] rest⟩ fun e' S' => e' = .normal ∧ Weak X S' ⟨envOf (lr13 g vo acc h vI any t true row (k + 1)), ovl [] rest⟩ :=
  seg okP named { hint := tabH Try.prog [(40, 36, hLt Try.prog k row.length true (by simpa using hk)), (40, 37, hIxN Try.prog row k b hb), (40, 54, hSucc Try.prog k (by omega))] } 2000 40 500000 111 (by kernel_rfl) X hP hN
theorem lrF (hk : k < row.length) (hrl : row.length < 100000) (hb : row[k]? = some b) (hne : b ≠ h) (rest : Heap) (X : Fix) (hP : X.P = Try.prog) (hN : X.N = 111) :
    AW X (loopOf Try.prog 40 13) ⟨envOf (lr13 g vo acc h vI any t false row k), ovl [] rest⟩ fun e' S' => e' = .normal ∧ Weak X S' ⟨envOf (lr13 g vo acc h vI any t false row (k + 1)), ovl [] rest⟩ :=
  seg okP named { hint := tabH Try.prog [(40, 36, hLt Try.prog k row.length true (by simpa using hk)), (40, 37, hIxN Try.prog row k b hb), (40, 43, hEq Try.prog (b : Int) (h : Int) false (int_ne hne)), (40, 54, hSucc Try.prog k (by omega))] } 2000 40 500000 111 (by kernel_rfl) X hP hN
theorem lrM_true (hk : k < row.length) (hrl : row.length < 100000) (hb : row[k]? = some b) (he : b = h) (h3 : (trD g)[h]? = some (rowB (domsL g h))) (h4 : (domsL g h)[t]? = some true) (rest : Heap) (X : Fix) (hP : X.P = Try.prog) (hN : X.N = 111) :
    AW X (loopOf Try.prog 40 13) ⟨envOf (lr13 g vo acc h vI any t false row k), ovl [] rest⟩ fun e' S' => e' = .normal ∧ Weak X S' ⟨envOf (lr13 g vo acc h vI any t true row (k + 1)), ovl [] rest⟩ :=
  seg okP named { hint := tabH Try.prog [(40, 36, hLt Try.prog k row.length true (by simpa using hk)), (40, 37, hIxN Try.prog row k b hb), (40, 43, hEq Try.prog (b : Int) (h : Int) true (int_eq he)), (40, 47, .idx (trD g) ((h : Nat) : Int) (rowB (domsL g h)) (by omega) h3), (40, 50, hIxB Try.prog (domsL g h) t true h4), (40, 54, hSucc Try.prog k (by omega))] } 2000 40 500000 111 (by kernel_rfl) X hP hN
theorem lrM_false (hk : k < row.length) (hrl : row.length < 100000) (hb : row[k]? = some b) (he : b = h) (h3 : (trD g)[h]? = some (rowB (domsL g h))) (h4 : (domsL g h)[t]? = some false) (rest : Heap) (X : Fix) (hP : X.P = Try.prog) (hN : X.N = 111) :
    AW X (loopOf Try.prog 40 13) ⟨envOf (lr13 g vo acc h vI any t false row k), ovl [] rest⟩ fun e' S' => e' = .normal ∧ Weak X S' ⟨envOf (lr13 g vo acc h vI any t false row (k + 1)), ovl [] rest⟩ :=
  seg okP named { hint := tabH Try.prog [(40, 36, hLt Try.prog k row.length true (by simpa using hk)), (40, 37, hIxN Try.prog row k b hb), (40, 43, hEq Try.prog (b : Int) (h : Int) true (int_eq he)), (40, 47, .idx (trD g) ((h : Nat) : Int) (rowB (domsL g h)) (by omega) h3), (40, 50, hIxB Try.prog (domsL g h) t false h4), (40, 54, hSucc Try.prog k (by omega))] } 2000 40 500000 111 (by kernel_rfl) X hP hN
theorem lr13Stop (back : Bool) (rest : Heap) (X : Fix) (hP : X.P = Try.prog) (hN : X.N = 111) :
    AW X (loopOf Try.prog 40 13) ⟨envOf (lr13 g vo acc h vI any t back row row.length), ovl [] rest⟩ fun e' S' => e' = .exit 4 ∧ Weak X S' ⟨envOf (lr17 g vo acc h vI any t back), ovl [] rest⟩ :=
  seg okP named { hint := tabH Try.prog [(40, 36, hLt Try.prog row.length row.length false (by simp))] } 2000 40 500000 111 (by kernel_rfl) X hP hN
theorem lrIn (hv : v < g.length) (hgl : g.length < 100000) (hz : bs[v]? = some true) (rest : Heap) (X : Fix) (hP : X.P = Try.prog) (hN : X.N = 111) :
    AW X (loopOf Try.prog 40 20) ⟨envOf (lr20 g vo acc h vI t v), ovl (eI vI bs) rest⟩ fun e' S' => e' = .normal ∧ Weak X S' ⟨envOf (lr20 g vo acc h vI t (v + 1)), ovl (eI vI (bs.set v true)) rest⟩ := by
  unfold eI
  rw [show v = 0 + v by omega, ← mapB, show (0 + v) = v by omega]
  exact seg okP named { hint := tabH Try.prog [(40, 60, hLt Try.prog v g.length true (by simpa using hv)), (40, 66, hInb Try.prog v g.length hv), (40, 67, hElB Try.prog bs v true hz), (40, 82, hInb Try.prog v g.length hv), (40, 122021, hElB Try.prog bs v true hz), (40, 83, hSucc Try.prog v (by omega))] } 2000 40 500000 111 (by kernel_rfl) X hP hN
theorem lrHead (hv : v < g.length) (hgl : g.length < 100000) (hz : bs[v]? = some false) (he : v = h) (rest : Heap) (X : Fix) (hP : X.P = Try.prog) (hN : X.N = 111) :
    AW X (loopOf Try.prog 40 20) ⟨envOf (lr20 g vo acc h vI t v), ovl (eI vI bs) rest⟩ fun e' S' => e' = .normal ∧ Weak X S' ⟨envOf (lr20 g vo acc h vI t (v + 1)), ovl (eI vI (bs.set v true)) rest⟩ := by
  unfold eI
  rw [show v = 0 + v by omega, ← mapB, show (0 + v) = v by omega]
  exact seg okP named { hint := tabH Try.prog [(40, 60, hLt Try.prog v g.length true (by simpa using hv)), (40, 66, hInb Try.prog v g.length hv), (40, 67, hElB Try.prog bs v false hz), (40, 71, hEq Try.prog (v : Int) (h : Int) true (int_eq he)), (40, 82, hInb Try.prog v g.length hv), (40, 122021, hElB Try.prog bs v false hz), (40, 83, hSucc Try.prog v (by omega))] } 2000 40 500000 111 (by kernel_rfl) X hP hN
theorem lrCall_true (hv : v < g.length) (hgl : g.length < 100000) (hz : bs[v]? = some false) (hne : v ≠ h) (l : List Bool) (hc : Pure Try.prog 44 [rowsN g, .int .i64 (v : Int), .int .i64 (h : Int)] [rowB l]) (hx : l[t]? = some true) (rest : Heap) (X : Fix) (hP : X.P = Try.prog) (hN : X.N = 111) :
    AW X (loopOf Try.prog 40 20) ⟨envOf (lr20 g vo acc h vI t v), ovl (eI vI bs) rest⟩ fun e' S' => e' = .normal ∧ Weak X S' ⟨envOf (lr20 g vo acc h vI t (v + 1)), ovl (eI vI (bs.set v true)) rest⟩ := by
  unfold eI
  rw [show v = 0 + v by omega, ← mapB, show (0 + v) = v by omega]
  exact seg okP named { hint := tabH Try.prog [(40, 60, hLt Try.prog v g.length true (by simpa using hv)), (40, 66, hInb Try.prog v g.length hv), (40, 67, hElB Try.prog bs v false hz), (40, 71, hEq Try.prog (v : Int) (h : Int) false (int_ne hne)), (40, 77, .call 44 _ _ hc), (40, 79, hIxB Try.prog l t true hx), (40, 82, hInb Try.prog v g.length hv), (40, 122021, hElB Try.prog bs v false hz), (40, 83, hSucc Try.prog v (by omega))] } 2000 40 500000 111 (by kernel_rfl) X hP hN
theorem lrCall_false (hv : v < g.length) (hgl : g.length < 100000) (hz : bs[v]? = some false) (hne : v ≠ h) (l : List Bool) (hc : Pure Try.prog 44 [rowsN g, .int .i64 (v : Int), .int .i64 (h : Int)] [rowB l]) (hx : l[t]? = some false) (rest : Heap) (X : Fix) (hP : X.P = Try.prog) (hN : X.N = 111) :
    AW X (loopOf Try.prog 40 20) ⟨envOf (lr20 g vo acc h vI t v), ovl (eI vI bs) rest⟩ fun e' S' => e' = .normal ∧ Weak X S' ⟨envOf (lr20 g vo acc h vI t (v + 1)), ovl (eI vI (bs.set v false)) rest⟩ := by
  unfold eI
  rw [show v = 0 + v by omega, ← mapB, show (0 + v) = v by omega]
  exact seg okP named { hint := tabH Try.prog [(40, 60, hLt Try.prog v g.length true (by simpa using hv)), (40, 66, hInb Try.prog v g.length hv), (40, 67, hElB Try.prog bs v false hz), (40, 71, hEq Try.prog (v : Int) (h : Int) false (int_ne hne)), (40, 77, .call 44 _ _ hc), (40, 79, hIxB Try.prog l t false hx), (40, 82, hInb Try.prog v g.length hv), (40, 122021, hElB Try.prog bs v false hz), (40, 83, hSucc Try.prog v (by omega))] } 2000 40 500000 111 (by kernel_rfl) X hP hN
theorem lr20Stop (rest : Heap) (X : Fix) (hP : X.P = Try.prog) (hN : X.N = 111) :
    AW X (loopOf Try.prog 40 20) ⟨envOf (lr20 g vo acc h vI t g.length), ovl (eI vI bs) rest⟩ fun e' S' => e' = .exit 6 ∧ Weak X S' ⟨envOf (lr9 g vo acc h vI true t), ovl (eI vI bs) rest⟩ :=
  seg okP named { hint := tabH Try.prog [(40, 60, hLt Try.prog g.length g.length false (by simp))] } 2000 40 500000 111 (by kernel_rfl) X hP hN
/-! A node that goes on -/
theorem lr9No (ht : t < g.length) (hgl : g.length < 100000) (hr : g[t]? = some row)
    (hl : ∀ (rest : Heap) (X : Fix), X.P = Try.prog → X.N = 111 → AW X (.loop (loopOf Try.prog 40 13)) ⟨envOf (lr13 g vo acc h vI any t false row 0), ovl [] rest⟩ fun e' S' => e' = .exit 4 ∧ S' = ⟨envOf (lr17 g vo acc h vI any t false), ovl [] rest⟩)
    (rest : Heap) (X : Fix) (hP : X.P = Try.prog) (hN : X.N = 111) :
    AW X (loopOf Try.prog 40 9) ⟨envOf (lr9 g vo acc h vI any t), ovl (eI vI bs) rest⟩ fun e' S' => e' = .normal ∧ Weak X S' ⟨envOf (lr9 g vo acc h vI any (t + 1)), ovl (eI vI bs) rest⟩ :=
  seg okP named { loops := fun f q => if f = 40 then (if q = 13 then some ⟨111, loopOf Try.prog 40 13, lr13 g vo acc h vI any t false row 0, fun _ => [], .exit 4, lr17 g vo acc h vI any t false, fun _ => [], hl⟩ else none) else none, hint := tabH Try.prog [(40, 29, hLt Try.prog t g.length true (by simpa using ht)), (40, 31, hIxG Try.prog g t row hr), (40, 34, hLenN Try.prog row), (40, 84, hSucc Try.prog t (by omega))] } 2000 40 500000 111 (by kernel_rfl) X hP hN
theorem lr9Yes (ht : t < g.length) (hgl : g.length < 100000) (hr : g[t]? = some row) (bs' : List Bool)
    (hl : ∀ (rest : Heap) (X : Fix), X.P = Try.prog → X.N = 111 → AW X (.loop (loopOf Try.prog 40 13)) ⟨envOf (lr13 g vo acc h vI any t false row 0), ovl [] rest⟩ fun e' S' => e' = .exit 4 ∧ S' = ⟨envOf (lr17 g vo acc h vI any t true), ovl [] rest⟩)
    (hl2 : ∀ (rest : Heap) (X : Fix), X.P = Try.prog → X.N = 111 → AW X (.loop (loopOf Try.prog 40 20)) ⟨envOf (lr20 g vo acc h vI t 0), ovl (eI vI bs) rest⟩ fun e' S' => e' = .exit 6 ∧ S' = ⟨envOf (lr9 g vo acc h vI true t), ovl (eI vI bs') rest⟩)
    (rest : Heap) (X : Fix) (hP : X.P = Try.prog) (hN : X.N = 111) :
    AW X (loopOf Try.prog 40 9) ⟨envOf (lr9 g vo acc h vI any t), ovl (eI vI bs) rest⟩ fun e' S' => e' = .normal ∧ Weak X S' ⟨envOf (lr9 g vo acc h vI true (t + 1)), ovl (eI vI bs') rest⟩ :=
  seg okP named { loops := fun f q => if f = 40 then (if q = 13 then some ⟨111, loopOf Try.prog 40 13, lr13 g vo acc h vI any t false row 0, fun _ => [], .exit 4, lr17 g vo acc h vI any t true, fun _ => [], hl⟩ else if q = 20 then some ⟨111, loopOf Try.prog 40 20, lr20 g vo acc h vI t 0, fun _ => eI vI bs, .exit 6, lr9 g vo acc h vI true t, fun _ => eI vI bs', hl2⟩ else none) else none, hint := tabH Try.prog [(40, 29, hLt Try.prog t g.length true (by simpa using ht)), (40, 31, hIxG Try.prog g t row hr), (40, 34, hLenN Try.prog row), (40, 58, hLenG Try.prog g), (40, 84, hSucc Try.prog t (by omega))] } 2000 40 500000 111 (by kernel_rfl) X hP hN
theorem lr9Stop (rest : Heap) (X : Fix) (hP : X.P = Try.prog) (hN : X.N = 111) :
    AW X (loopOf Try.prog 40 9) ⟨envOf (lr9 g vo acc h vI any g.length), ovl (eI vI bs) rest⟩ fun e' S' => e' = .exit 2 ∧ Weak X S' ⟨envOf (lrB g vo acc h ++ [(5, dN h), (6, .sl 500580 vI 0 g.length 1), (7, dB any)]), ovl (eI vI bs) rest⟩ :=
  seg okP named { hint := tabH Try.prog [(40, 29, hLt Try.prog g.length g.length false (by simp))] } 2000 40 500000 111 (by kernel_rfl) X hP hN
/-! The list of the nodes -/
variable (vS vN w : Nat) (l : List Nat)
theorem lr28No (hv : v < g.length) (hgl : g.length < 100000) (hz : bs[v]? = some false) (rest : Heap) (X : Fix) (hP : X.P = Try.prog) (hN : X.N = 111) :
    AW X (loopOf Try.prog 40 28) ⟨envOf (lr28 g vo acc h vI vS v), ovl (e28r vI bs vS h vN l w) rest⟩ fun e' S' => e' = .normal ∧ Weak X S' ⟨envOf (lr28 g vo acc h vI vS (v + 1)), ovl (e28r vI bs vS h vN l w) rest⟩ :=
  seg okP named { hint := tabH Try.prog [(40, 92, hLt Try.prog v g.length true (by simpa using hv)), (40, 96, hInb Try.prog v g.length hv), (40, 97, hElB Try.prog bs v false hz), (40, 104, hSucc Try.prog v (by omega))] } 2000 40 500000 111 (by kernel_rfl) X hP hN
theorem lr28Yes (hv : v < g.length) (hgl : g.length < 100000) (hz : bs[v]? = some true) (hll : l.length < 100000) (rest : Heap) (X : Fix) (hP : X.P = Try.prog) (hN : X.N = 111) :
    AW X (loopOf Try.prog 40 28) ⟨envOf (lr28 g vo acc h vI vS v), ovl (e28r vI bs vS h vN l w) rest⟩ fun e' S' => e' = .normal ∧ Weak X S' ⟨envOf (lr28 g vo acc h vI vS (v + 1)), ovl (e28r vI bs vS h (vN + 1) (l ++ [v]) (w + 1)) rest⟩ := by
  unfold e28r
  rw [show intsN (l ++ [v]) = intsN l ++ [.int .i64 (v : Int)] by simp [intsN]]
  exact seg okP named { hint := tabH Try.prog [(40, 92, hLt Try.prog v g.length true (by simpa using hv)), (40, 96, hInb Try.prog v g.length hv), (40, 97, hElB Try.prog bs v true hz), (40, 102, .app (intsN l) 1 (by rw [intsN_len]; omega)), (40, 104, hSucc Try.prog v (by omega))] } 2000 40 500000 111 (by kernel_rfl) X hP hN
theorem lr28Stop (rest : Heap) (X : Fix) (hP : X.P = Try.prog) (hN : X.N = 111) :
    AW X (loopOf Try.prog 40 28) ⟨envOf (lr28 g vo acc h vI vS g.length), ovl (e28r vI bs vS h vN l w) rest⟩ fun e' S' => e' = .exit 8 ∧ Weak X S' ⟨envOf (lrB g vo acc h ++ [(14, .ptr 501679 vS 0 0 1)]), ovl [(500580, ⟨vI, none⟩), (501679, ⟨vS, some (.arr 1 [dN h, .vec 61 vN 1 (intsN l)])⟩), (61, ⟨vN, none⟩), (501211, ⟨w, none⟩)] rest⟩ :=
  seg okP named { hint := tabH Try.prog [(40, 92, hLt Try.prog g.length g.length false (by simp))] } 2000 40 500000 111 (by kernel_rfl) X hP hN
end
def e4r (vo vI vS vN w w2 : Nat) : List (Nat × Ent) := [(60, ⟨vo, none⟩), (500580, ⟨vI, none⟩), (501679, ⟨vS, none⟩), (61, ⟨vN, none⟩), (501211, ⟨w, none⟩), (502549, ⟨w2, none⟩)]
section
variable (g : Graph) (vo : Nat) (acc : List (Nat × List Nat)) (h vI vS vN w w2 : Nat) (bs : List Bool) (l : List Nat)
theorem lr4No (hh : h < g.length) (hgl : g.length < 100000)
    (hl : ∀ (rest : Heap) (X : Fix), X.P = Try.prog → X.N = 111 → AW X (.loop (loopOf Try.prog 40 9)) ⟨envOf (lr9 g vo acc h (vI + 1) false 0), ovl [(500580, ⟨vI + 1, some (.arr 1 (List.replicate g.length (dB false)))⟩)] rest⟩ fun e' S' => e' = .exit 2 ∧ S' = ⟨envOf (lrB g vo acc h ++ [(5, dN h), (6, .sl 500580 (vI + 1) 0 g.length 1), (7, dB false)]), ovl (eI (vI + 1) bs) rest⟩)
    (rest : Heap) (X : Fix) (hP : X.P = Try.prog) (hN : X.N = 111) :
    AW X (loopOf Try.prog 40 4) ⟨envOf (lrB g vo acc h), ovl (e4r vo vI vS vN w w2) rest⟩ fun e' S' => e' = .normal ∧ Weak X S' ⟨envOf (lrB g vo acc (h + 1)), ovl (e4r vo (vI + 1) vS vN w w2) rest⟩ :=
  seg okP named { loops := fun f q => if f = 40 then (if q = 9 then some ⟨111, loopOf Try.prog 40 9, lr9 g vo acc h (vI + 1) false 0, fun _ => [(500580, ⟨vI + 1, some (.arr 1 (List.replicate g.length (dB false)))⟩)], .exit 2, lrB g vo acc h ++ [(5, dN h), (6, .sl 500580 (vI + 1) 0 g.length 1), (7, dB false)], fun _ => eI (vI + 1) bs, hl⟩ else none) else none, hint := tabH Try.prog [(40, 21, hLt Try.prog h g.length true (by simpa using hh)), (40, 24, hLenG Try.prog g), (40, 25, .mk ((g.length : Nat) : Int) (by omega) (by omega)), (40, 27, hLenG Try.prog g), (40, 109, hSucc Try.prog h (by omega))] } 2000 40 500000 111 (by kernel_rfl) X hP hN
theorem lr4Yes (hh : h < g.length) (hgl : g.length < 100000) (hal : acc.length < 100000)
    (hl : ∀ (rest : Heap) (X : Fix), X.P = Try.prog → X.N = 111 → AW X (.loop (loopOf Try.prog 40 9)) ⟨envOf (lr9 g vo acc h (vI + 1) false 0), ovl [(500580, ⟨vI + 1, some (.arr 1 (List.replicate g.length (dB false)))⟩)] rest⟩ fun e' S' => e' = .exit 2 ∧ S' = ⟨envOf (lrB g vo acc h ++ [(5, dN h), (6, .sl 500580 (vI + 1) 0 g.length 1), (7, dB true)]), ovl (eI (vI + 1) bs) rest⟩)
    (hl2 : ∀ (rest : Heap) (X : Fix), X.P = Try.prog → X.N = 111 → AW X (.loop (loopOf Try.prog 40 28)) ⟨envOf (lr28 g vo acc h (vI + 1) (vS + 1) 0), ovl (e28r (vI + 1) bs (vS + 1) h vN [] w) rest⟩ fun e' S' => e' = .exit 8 ∧ S' = ⟨envOf (lrB g vo acc h ++ [(14, .ptr 501679 (vS + 1) 0 0 1)]), ovl [(500580, ⟨vI + 1, none⟩), (501679, ⟨vS + 1, some (.arr 1 [dN h, .vec 61 (vN + l.length) 1 (intsN l)])⟩), (61, ⟨vN + l.length, none⟩), (501211, ⟨w + l.length, none⟩)] rest⟩)
    (rest : Heap) (X : Fix) (hP : X.P = Try.prog) (hN : X.N = 111) :
    AW X (loopOf Try.prog 40 4) ⟨envOf (lrB g vo acc h), ovl (e4r vo vI vS vN w w2) rest⟩ fun e' S' => e' = .normal ∧ Weak X S' ⟨envOf (lrB g (vo + 1) (acc ++ [(h, l)]) (h + 1)), ovl (e4r (vo + 1) (vI + 1) (vS + 1) (vN + l.length) (w + l.length) (w2 + 1)) rest⟩ := by
  unfold lrB
  rw [List.map_append]
  have e : [(h, l)].map loopD = [.agg [.int .i64 (h : Int), .ro (intsN l)]] := by simp [loopD, intsN]
  rw [e]
  exact seg okP named { nils := fun f q => if f = 40 then (if q = 27 then some ⟨501679, 1, 61, 1, false, false⟩ else none) else none, loops := fun f q => if f = 40 then (if q = 9 then some ⟨111, loopOf Try.prog 40 9, lr9 g vo acc h (vI + 1) false 0, fun _ => [(500580, ⟨vI + 1, some (.arr 1 (List.replicate g.length (dB false)))⟩)], .exit 2, lrB g vo acc h ++ [(5, dN h), (6, .sl 500580 (vI + 1) 0 g.length 1), (7, dB true)], fun _ => eI (vI + 1) bs, hl⟩ else if q = 28 then some ⟨111, loopOf Try.prog 40 28, lr28 g vo acc h (vI + 1) (vS + 1) 0, fun _ => e28r (vI + 1) bs (vS + 1) h vN [] w, .exit 8, lrB g vo acc h ++ [(14, .ptr 501679 (vS + 1) 0 0 1)], fun _ => [(500580, ⟨vI + 1, none⟩), (501679, ⟨vS + 1, some (.arr 1 [dN h, .vec 61 (vN + l.length) 1 (intsN l)])⟩), (61, ⟨vN + l.length, none⟩), (501211, ⟨w + l.length, none⟩)], hl2⟩ else none) else none, hint := tabH Try.prog [(40, 21, hLt Try.prog h g.length true (by simpa using hh)), (40, 24, hLenG Try.prog g), (40, 25, .mk ((g.length : Nat) : Int) (by omega) (by omega)), (40, 27, hLenG Try.prog g), (40, 90, hLenG Try.prog g), (40, 108, .app (acc.map loopD) 1 (by rw [List.length_map]; omega)), (40, 109, hSucc Try.prog h (by omega))] } 2000 40 500000 111 (by kernel_rfl) X hP hN
theorem lr4Stop (rest : Heap) (X : Fix) (hP : X.P = Try.prog) (hN : X.N = 111) :
    AW X (loopOf Try.prog 40 4) ⟨envOf (lrB g vo acc g.length), ovl (e4r vo vI vS vN w w2) rest⟩ fun e' S' => e' = .exit 0 ∧ Weak X S' ⟨envOf [(4, .vec 60 vo 2 (acc.map loopD))], ovl (e4r vo vI vS vN w w2) rest⟩ :=
  seg okP named { hint := tabH Try.prog [(40, 21, hLt Try.prog g.length g.length false (by simp))] } 2000 40 500000 111 (by kernel_rfl) X hP hN
theorem refLoopsRun (res : List (Nat × List Nat)) (vo' vI' vS' vN' w' w2' : Nat) (h43 : Pure Try.prog 43 [rowsN g] [.ro (trD g)])
    (hl : ∀ (rest : Heap) (X : Fix), X.P = Try.prog → X.N = 111 → AW X (.loop (loopOf Try.prog 40 4)) ⟨envOf (lrB g 0 [] 0), ovl (e4r 0 0 0 0 0 0) rest⟩ fun e' S' => e' = .exit 0 ∧ S' = ⟨envOf [(4, .vec 60 vo' 2 (res.map loopD))], ovl (e4r vo' vI' vS' vN' w' w2') rest⟩) : Pure Try.prog 40 [rowsN g] [.ro (res.map loopD)] :=
  pure_of_run okP named { nils2 := fun f q => if f = 40 then (if q = 3 then [⟨0, 4, 60, 2, true, false⟩] else []) else [], loops := fun f q => if f = 40 then (if q = 4 then some ⟨111, loopOf Try.prog 40 4, lrB g 0 [] 0, fun _ => e4r 0 0 0 0 0 0, .exit 0, [(4, .vec 60 vo' 2 (res.map loopD))], fun _ => e4r vo' vI' vS' vN' w' w2', hl⟩ else none) else none, hint := tabH Try.prog [(40, 17, .call 43 _ _ h43), (40, 19, hLenG Try.prog g)] } 2000 (by kernel_rfl)
end
/-! ### What it comes to -/
def BackOf (g : Graph) (h t : Nat) : Prop := h ∈ succ g t ∧ Doms g h t
def InT (g : Graph) (h t u : Nat) : Prop := u = h ∨ Re g (some h) u t
def QQ (g : Graph) (h t v u : Nat) : Prop := (∃ t', t' < t ∧ BackOf g h t' ∧ InT g h t' u) ∨ (u < v ∧ BackOf g h t ∧ InT g h t u)
open Classical in
noncomputable def qL (g : Graph) (h t v : Nat) : List Bool := (List.range g.length).map fun u => decide (QQ g h t v u)
open Classical in
noncomputable def bkP (g : Graph) (h t k : Nat) : Bool := decide (h ∈ (succ g t).take k ∧ Doms g h t)
open Classical in
noncomputable def anyBk (g : Graph) (h t : Nat) : Bool := decide (∃ t', t' < t ∧ BackOf g h t')
section
variable {g : Graph} (hg : Valid g) (hgl : g.length < 100000) (hr : ∀ a, (succ g a).length < 100000)
include hg hgl hr
open Classical in
theorem qL_get {h t v u : Nat} (hu : u < g.length) : (qL g h t v)[u]? = some (decide (QQ g h t v u)) := by simp [qL, hu]
open Classical in
theorem qL_congr {h t v t' v' : Nat} (e : ∀ u, u < g.length → (QQ g h t v u ↔ QQ g h t' v' u)) : qL g h t v = qL g h t' v' := by
  unfold qL
  apply List.map_congr_left
  intro u hu
  rw [decide_eq_decide]
  exact e u (List.mem_range.1 hu)
open Classical in
theorem backK (vo : Nat) (acc : List (Nat × List Nat)) (h vI : Nat) (any : Bool) (t : Nat) (hh : h < g.length) (ht : t < g.length) (rest : Heap) (X : Fix) (hP : X.P = Try.prog) (hN : X.N = 111) :
    AW X (.loop (loopOf Try.prog 40 13)) ⟨envOf (lr13 g vo acc h vI any t false (succ g t) 0), ovl [] rest⟩ fun e' S' => e' = .exit 4 ∧ S' = ⟨envOf (lr17 g vo acc h vI any t (bkP g h t (succ g t).length)), ovl [] rest⟩ := by
  have e0 : bkP g h t 0 = false := by simp [bkP]
  have hl := (lw_count (X := X) (c := loopOf Try.prog 40 13) (succ g t).length (fun k => ⟨envOf (lr13 g vo acc h vI any t (bkP g h t k) (succ g t) k), ovl [] rest⟩) (e := .exit 4) (Z := ⟨envOf (lr17 g vo acc h vI any t (bkP g h t (succ g t).length)), ovl [] rest⟩) (by simp) (fun k hk => by
    have hget : (succ g t)[k]? = some (succ g t)[k] := List.getElem?_eq_getElem hk
    have htk : (succ g t).take (k + 1) = (succ g t).take k ++ [(succ g t)[k]] := List.take_succ_eq_append_getElem hk
    generalize (succ g t)[k] = b at hget htk
    have hsr := hr t
    by_cases hb : h ∈ (succ g t).take k ∧ Doms g h t
    · have e1 : bkP g h t k = true := decide_eq_true hb
      have e2 : bkP g h t (k + 1) = true := decide_eq_true ⟨by rw [htk]; simp [hb.1], hb.2⟩
      rw [e1, e2]
      exact lrT g vo acc h vI any t _ k b hk hsr hget rest X hP hN
    · have e1 : bkP g h t k = false := decide_eq_false hb
      rw [e1]
      by_cases hbh : b = h
      · have h3 : (trD g)[h]? = some (rowB (domsL g h)) := by simp [trD, hh]
        have h4 : (domsL g h)[t]? = some (domB g h t) := by simp [domsL, ht]
        by_cases hd : Doms g h t
        · have e2 : bkP g h t (k + 1) = true := decide_eq_true ⟨by rw [htk]; simp [hbh], hd⟩
          rw [e2]
          rw [domB_true hd] at h4
          exact lrM_true g vo acc h vI any t _ k b hk hsr hget hbh h3 h4 rest X hP hN
        · have e2 : bkP g h t (k + 1) = false := decide_eq_false (fun x => hd x.2)
          rw [e2]
          rw [domB_false hd] at h4
          exact lrM_false g vo acc h vI any t _ k b hk hsr hget hbh h3 h4 rest X hP hN
      · have e2 : bkP g h t (k + 1) = false := decide_eq_false (fun x => hb ⟨by
          have := x.1
          rw [htk] at this
          rcases List.mem_append.1 this with h1 | h1
          · exact h1
          · exact absurd (List.mem_singleton.1 h1).symm hbh, x.2⟩)
        rw [e2]
        exact lrF g vo acc h vI any t _ k b hk hsr hget hbh rest X hP hN) (lr13Stop g vo acc h vI any t _ _ rest X hP hN)).aw
  rw [e0] at hl
  exact hl
open Classical in
theorem floodK (vo : Nat) (acc : List (Nat × List Nat)) (h vI : Nat) (t : Nat) (hh : h < g.length) (ht : t < g.length) (hb : BackOf g h t) (rest : Heap) (X : Fix) (hP : X.P = Try.prog) (hN : X.N = 111) :
    AW X (.loop (loopOf Try.prog 40 20)) ⟨envOf (lr20 g vo acc h vI t 0), ovl (eI vI (qL g h t 0)) rest⟩ fun e' S' => e' = .exit 6 ∧ S' = ⟨envOf (lr9 g vo acc h vI true t), ovl (eI vI (qL g h (t + 1) 0)) rest⟩ := by
  have eend : qL g h (t + 1) 0 = qL g h t g.length := qL_congr hg hgl hr (fun u hu => by
    unfold QQ
    constructor
    · rintro (⟨t', h1, h2, h3⟩ | ⟨h1, _⟩)
      · by_cases e : t' = t
        · subst e; exact .inr ⟨hu, h2, h3⟩
        · exact .inl ⟨t', by omega, h2, h3⟩
      · omega
    · rintro (⟨t', h1, h2, h3⟩ | ⟨h1, h2, h3⟩)
      · exact .inl ⟨t', by omega, h2, h3⟩
      · exact .inl ⟨t, by omega, h2, h3⟩)
  rw [eend]
  refine (lw_count g.length (fun v => ⟨envOf (lr20 g vo acc h vI t v), ovl (eI vI (qL g h t v)) rest⟩) (by simp) (fun v hv => ?_) (lr20Stop g vo acc h vI t _ rest X hP hN)).aw
  have hset : ∀ x : Bool, x = decide (QQ g h t (v + 1) v) → qL g h t (v + 1) = (qL g h t v).set v x := fun x hx => by
    apply List.ext_getElem?
    intro u
    rcases Nat.lt_or_ge u g.length with hu | hu
    · rw [qL_get hg hgl hr hu]
      by_cases e : u = v
      · subst e
        rw [List.getElem?_set_self (by simpa [qL] using hu), hx]
      · rw [List.getElem?_set_ne (Ne.symm e), qL_get hg hgl hr hu]
        congr 1
        rw [decide_eq_decide]
        unfold QQ
        constructor
        · rintro (h1 | ⟨h1, h2⟩)
          · exact .inl h1
          · exact .inr ⟨by omega, h2⟩
        · rintro (h1 | ⟨h1, h2⟩)
          · exact .inl h1
          · exact .inr ⟨by omega, h2⟩
    · rw [List.getElem?_eq_none (by simpa [qL] using hu), List.getElem?_eq_none (by simpa [qL] using hu)]
  have hz := qL_get hg hgl hr (h := h) (t := t) (v := v) hv
  by_cases h1 : QQ g h t v v
  · rw [decide_eq_true h1] at hz
    rw [hset true (decide_eq_true (by
      rcases h1 with h1 | ⟨h1, _⟩
      · exact .inl h1
      · omega)).symm]
    exact lrIn g vo acc h vI t v _ hv hgl hz rest X hP hN
  · rw [decide_eq_false h1] at hz
    by_cases e : v = h
    · rw [hset true (decide_eq_true (.inr ⟨by omega, hb, .inl e⟩)).symm]
      exact lrHead g vo acc h vI t v _ hv hgl hz e rest X hP hN
    · have hc := reachC hg (but := some h) (n := v) (by omega) (by omega) (fun a => by have := hr a; omega)
      have hm := reachL_met (g := g) (n := v) (but := some h) ht
      have hgt := reachL_get (g := g) (n := v) (but := some h) ht
      by_cases hre : Re g (some h) v t
      · rw [hset true (decide_eq_true (.inr ⟨by omega, hb, .inr hre⟩)).symm]
        rw [hm.2 ⟨hv, hre⟩] at hgt
        exact lrCall_true g vo acc h vI t v _ hv hgl hz e _ hc hgt rest X hP hN
      · have : met (reachL g v (some h)) t = false := by
          cases e : met (reachL g v (some h)) t with
          | false => rfl
          | true => exact absurd (hm.1 e).2 hre
        rw [this] at hgt
        rw [hset false (decide_eq_false (by
          rintro (h2 | ⟨_, _, h2⟩)
          · exact h1 (.inl h2)
          · rcases h2 with h2 | h2
            · exact e h2
            · exact hre h2)).symm]
        exact lrCall_false g vo acc h vI t v _ hv hgl hz e _ hc hgt rest X hP hN
open Classical in
theorem roundK (vo : Nat) (acc : List (Nat × List Nat)) (h vI : Nat) (hh : h < g.length) (rest : Heap) (X : Fix) (hP : X.P = Try.prog) (hN : X.N = 111) :
    AW X (.loop (loopOf Try.prog 40 9)) ⟨envOf (lr9 g vo acc h vI false 0), ovl [(500580, ⟨vI, some (.arr 1 (List.replicate g.length (dB false)))⟩)] rest⟩ fun e' S' => e' = .exit 2 ∧ S' = ⟨envOf (lrB g vo acc h ++ [(5, dN h), (6, .sl 500580 vI 0 g.length 1), (7, dB (anyBk g h g.length))]), ovl (eI vI (qL g h g.length 0)) rest⟩ := by
  have e0 : [(500580, (⟨vI, some (.arr 1 (List.replicate g.length (dB false)))⟩ : Ent))] = eI vI (qL g h 0 0) := by
    unfold eI
    congr 5
    apply List.ext_getElem?
    intro u
    rcases Nat.lt_or_ge u g.length with hu | hu
    · rw [List.getElem?_map, qL_get hg hgl hr hu]
      have : ¬ QQ g h 0 0 u := by
        rintro (⟨t', h1, _⟩ | ⟨h1, _⟩) <;> omega
      simp [hu, this]
    · rw [List.getElem?_eq_none (by simpa using hu), List.getElem?_eq_none (by simpa [qL] using hu)]
  have e1 : anyBk g h 0 = false := by simp [anyBk]
  rw [e0]
  have hl := (lw_count (X := X) (c := loopOf Try.prog 40 9) g.length (fun t => ⟨envOf (lr9 g vo acc h vI (anyBk g h t) t), ovl (eI vI (qL g h t 0)) rest⟩) (e := .exit 2) (Z := ⟨envOf (lrB g vo acc h ++ [(5, dN h), (6, .sl 500580 vI 0 g.length 1), (7, dB (anyBk g h g.length))]), ovl (eI vI (qL g h g.length 0)) rest⟩) (by simp) (fun t ht => by
    have hk := fun rest X hP hN => backK hg hgl hr vo acc h vI (anyBk g h t) t hh ht rest X hP hN
    by_cases hb : BackOf g h t
    · have e2 : bkP g h t (succ g t).length = true := decide_eq_true (by rw [List.take_length]; exact hb)
      have e3 : anyBk g h (t + 1) = true := decide_eq_true ⟨t, by omega, hb⟩
      rw [e2] at hk
      rw [e3]
      exact lr9Yes g vo acc h vI _ t _ _ ht hgl (succ_get ht) _ hk (fun rest X hP hN => floodK hg hgl hr vo acc h vI t hh ht hb rest X hP hN) rest X hP hN
    · have e2 : bkP g h t (succ g t).length = false := decide_eq_false (by rw [List.take_length]; exact hb)
      have e3 : anyBk g h (t + 1) = anyBk g h t := by
        unfold anyBk
        rw [decide_eq_decide]
        constructor
        · rintro ⟨t', h1, h2⟩
          by_cases e : t' = t
          · subst e; exact absurd h2 hb
          · exact ⟨t', by omega, h2⟩
        · rintro ⟨t', h1, h2⟩
          exact ⟨t', by omega, h2⟩
      have e4 : qL g h (t + 1) 0 = qL g h t 0 := qL_congr hg hgl hr (fun u hu => by
        unfold QQ
        constructor
        · rintro (⟨t', h1, h2, h3⟩ | ⟨h1, _⟩)
          · by_cases e : t' = t
            · subst e; exact absurd h2 hb
            · exact .inl ⟨t', by omega, h2, h3⟩
          · omega
        · rintro (⟨t', h1, h2, h3⟩ | ⟨h1, _⟩)
          · exact .inl ⟨t', by omega, h2, h3⟩
          · omega)
      rw [e2] at hk
      rw [e3, e4]
      exact lr9No g vo acc h vI _ t _ _ ht hgl (succ_get ht) hk rest X hP hN) (lr9Stop g vo acc h vI _ _ rest X hP hN)).aw
  rw [e1] at hl
  exact hl
theorem back_mem {h t : Nat} : t ∈ backsOf g h ↔ t < g.length ∧ BackOf g h t := by
  classical
  unfold backsOf BackOf
  rw [List.mem_filter, intoOf_mem]
  constructor
  · rintro ⟨⟨_, h2, h3⟩, h4⟩
    exact ⟨h2, h3, of_decide_eq_true h4⟩
  · rintro ⟨h2, h3, h4⟩
    exact ⟨⟨(succ_lt hg h3).1, h2, h3⟩, decide_eq_true h4⟩
theorem any_is {h : Nat} : anyBk g h g.length = true ↔ backsOf g h ≠ [] := by
  classical
  unfold anyBk
  rw [decide_eq_true_iff]
  constructor
  · rintro ⟨t, h1, h2⟩ e
    have := (back_mem hg hgl hr).2 ⟨h1, h2⟩
    rw [e] at this
    cases this
  · intro hne
    obtain ⟨t, ht⟩ := List.exists_mem_of_ne_nil _ hne
    have := (back_mem hg hgl hr).1 ht
    exact ⟨t, this.1, this.2⟩
open Classical in
theorem qL_end {h : Nat} (hne : backsOf g h ≠ []) : qL g h g.length 0 = (List.range g.length).map fun u => decide (InL g h (backsOf g h) u) := by
  unfold qL
  apply List.map_congr_left
  intro u hu
  rw [decide_eq_decide]
  unfold QQ InL
  constructor
  · rintro (⟨t, h1, h2, h3⟩ | ⟨h1, _⟩)
    · rcases h3 with h3 | h3
      · exact .inl h3
      · exact .inr ⟨t, (back_mem hg hgl hr).2 ⟨h1, h2⟩, h3⟩
    · omega
  · rintro (h1 | ⟨t, h1, h2⟩)
    · obtain ⟨t, ht⟩ := List.exists_mem_of_ne_nil _ hne
      have := (back_mem hg hgl hr).1 ht
      exact .inl ⟨t, this.1, this.2, .inl h1⟩
    · have := (back_mem hg hgl hr).1 h1
      exact .inl ⟨t, this.1, this.2, .inr h2⟩
open Classical in
theorem listK (vo : Nat) (acc : List (Nat × List Nat)) (h vI vS vN w : Nat) (rest : Heap) (X : Fix) (hP : X.P = Try.prog) (hN : X.N = 111) :
    AW X (.loop (loopOf Try.prog 40 28)) ⟨envOf (lr28 g vo acc h vI vS 0), ovl (e28r vI ((List.range g.length).map fun u => decide (InL g h (backsOf g h) u)) vS h vN [] w) rest⟩ fun e' S' => e' = .exit 8 ∧ S' = ⟨envOf (lrB g vo acc h ++ [(14, .ptr 501679 vS 0 0 1)]), ovl [(500580, ⟨vI, none⟩), (501679, ⟨vS, some (.arr 1 [dN h, .vec 61 (vN + (loopAt g h).length) 1 (intsN (loopAt g h))])⟩), (61, ⟨vN + (loopAt g h).length, none⟩), (501211, ⟨w + (loopAt g h).length, none⟩)] rest⟩ := by
  have hl := (lw_count (X := X) (c := loopOf Try.prog 40 28) g.length (fun v => ⟨envOf (lr28 g vo acc h vI vS v), ovl (e28r vI ((List.range g.length).map fun u => decide (InL g h (backsOf g h) u)) vS h (vN + ((List.range v).filter fun u => decide (InL g h (backsOf g h) u)).length) ((List.range v).filter fun u => decide (InL g h (backsOf g h) u)) (w + ((List.range v).filter fun u => decide (InL g h (backsOf g h) u)).length)) rest⟩) (e := .exit 8) (Z := _) (by simp) (fun v hv => by
    have hz : ((List.range g.length).map fun u => decide (InL g h (backsOf g h) u))[v]? = some (decide (InL g h (backsOf g h) v)) := by simp [hv]
    rw [List.range_succ, List.filter_append]
    by_cases hi : InL g h (backsOf g h) v
    · rw [List.filter_cons_of_pos (by simpa using hi), List.filter_nil, List.length_append, List.length_singleton, ← Nat.add_assoc, ← Nat.add_assoc]
      rw [decide_eq_true hi] at hz
      refine lr28Yes g vo acc h vI v _ vS _ _ _ hv hgl hz ?_ rest X hP hN
      have := List.length_filter_le (fun u => decide (InL g h (backsOf g h) u)) (List.range v)
      rw [List.length_range] at this
      omega
    · rw [List.filter_cons_of_neg (by simpa using hi), List.filter_nil, List.append_nil]
      rw [decide_eq_false hi] at hz
      exact lr28No g vo acc h vI v _ vS _ _ _ hv hgl hz rest X hP hN) (lr28Stop g vo acc h vI _ vS _ _ _ rest X hP hN)).aw
  exact hl
open Classical in
theorem refLoopsLoop : ∀ (m h vo vI vS vN w w2 : Nat), g.length - h = m → h ≤ g.length → ∃ vo' vI' vS' vN' w' w2', ∀ (rest : Heap) (X : Fix), X.P = Try.prog → X.N = 111 →
    LW X (loopOf Try.prog 40 4) ⟨envOf (lrB g vo (loopsIn g (List.range h)) h), ovl (e4r vo vI vS vN w w2) rest⟩ fun e' S' => e' = .exit 0 ∧ S' = ⟨envOf [(4, .vec 60 vo' 2 ((loopsIn g (List.range g.length)).map loopD))], ovl (e4r vo' vI' vS' vN' w' w2') rest⟩
  | 0, h, vo, vI, vS, vN, w, w2, hm, hh => by
    have : h = g.length := by omega
    subst this
    exact ⟨vo, vI, vS, vN, w, w2, fun rest X hP hN => lw_end (lr4Stop g vo _ vI vS vN w w2 rest X hP hN) (by simp)⟩
  | m + 1, h, vo, vI, vS, vN, w, w2, hm, hh => by
    have hlt : h < g.length := by omega
    have hk := fun rest X hP hN => roundK hg hgl hr vo (loopsIn g (List.range h)) h (vI + 1) hlt rest X hP hN
    have hacc := loopsIn_len g (List.range h)
    rw [List.length_range] at hacc
    by_cases hb : backsOf g h = []
    · have e1 : loopsIn g (List.range (h + 1)) = loopsIn g (List.range h) := by
        unfold loopsIn
        rw [List.range_succ, List.filter_append, List.filter_cons_of_neg (by simp [hb]), List.filter_nil, List.append_nil]
      have e2 : anyBk g h g.length = false := by
        cases e : anyBk g h g.length with
        | false => rfl
        | true => exact absurd hb ((any_is hg hgl hr).1 e)
      rw [e2] at hk
      obtain ⟨a1, a2, a3, a4, a5, a6, hl⟩ := refLoopsLoop m (h + 1) vo (vI + 1) vS vN w w2 (by omega) (by omega)
      rw [e1] at hl
      exact ⟨a1, a2, a3, a4, a5, a6, fun rest X hP hN => lw_seg (lr4No g vo _ h vI vS vN w w2 _ hlt hgl hk rest X hP hN) (hl rest X hP hN)⟩
    · have e1 : loopsIn g (List.range (h + 1)) = loopsIn g (List.range h) ++ [(h, loopAt g h)] := by
        unfold loopsIn
        rw [List.range_succ, List.filter_append, List.filter_cons_of_pos (by simp [hb]), List.filter_nil, List.map_append]
        rfl
      rw [(any_is hg hgl hr).2 hb, qL_end hg hgl hr hb] at hk
      obtain ⟨a1, a2, a3, a4, a5, a6, hl⟩ := refLoopsLoop m (h + 1) (vo + 1) (vI + 1) (vS + 1) (vN + (loopAt g h).length) (w + (loopAt g h).length) (w2 + 1) (by omega) (by omega)
      rw [e1] at hl
      exact ⟨a1, a2, a3, a4, a5, a6, fun rest X hP hN => lw_seg (lr4Yes g vo _ h vI vS vN w w2 _ (loopAt g h) hlt hgl (by omega) hk (fun rest X hP hN => listK hg hgl hr vo _ h (vI + 1) (vS + 1) vN w rest X hP hN) rest X hP hN) (hl rest X hP hN)⟩
theorem loops_all : loopsIn g (List.range g.length) = loopsOf g := by
  classical
  unfold loopsOf loopsIn ordOf
  rw [List.filter_filter]
  congr 1
  apply List.filter_congr
  intro h _
  by_cases hb : backsOf g h = []
  · simp [hb]
  · obtain ⟨t, ht⟩ := List.exists_mem_of_ne_nil _ hb
    have h1 : Dom.Reached g h := ((back_mem hg hgl hr).1 ht).2.2.1
    simp [hb, h1]
theorem refLoopsC : Pure Try.prog 40 [rowsN g] [.ro ((loopsOf g).map loopD)] := by
  obtain ⟨a1, a2, a3, a4, a5, a6, hl⟩ := refLoopsLoop hg hgl hr _ 0 0 0 0 0 0 0 rfl (Nat.zero_le _)
  rw [loops_all hg hgl hr] at hl
  exact refLoopsRun g (loopsOf g) a1 a2 a3 a4 a5 a6 (domsC hg (by omega) (fun a => by have := hr a; omega)) (fun rest X hP hN => (hl rest X hP hN).aw)
end
end Go.Avm
