/-
  Paint: the painter as an abstract state; a node is taken away.
-/
import Derived.Test.YtpcomfnianamgaaPaA
set_option linter.unusedSectionVars false
namespace Go.Avm
open Go.Proofs

abbrev rowD (r : List Int) : D := .ro (r.map fun x => .int .i64 x)
abbrev rowsD (l : List (List Int)) : D := .ro (l.map rowD)
/-- The painter in memory. -/
def pEnt (vp vl vd vo n : Nat) (near likes : D) (left deg out : List AV) : List (Nat × Ent) :=
  [(702344, ⟨vp, some (.arr 1 [.d near, .d likes, .sl 701180 vl 0 n 1, .sl 701568 vd 0 n 1, .sl 701956 vo 0 n 1])⟩), (701180, ⟨vl, some (.arr 1 left)⟩), (701568, ⟨vd, some (.arr 1 deg)⟩), (701956, ⟨vo, some (.arr 1 out)⟩)]
abbrev pPtr (vp : Nat) : AV := .ptr 702344 vp 0 0 1

theorem getI {l : List Int} {i : Nat} (h : i < l.length) : (l.map fun x => D.int .i64 x)[((i : Nat) : Int).toNat]? = some (.int .i64 l[i]) := by
  simp [h]

/-- A row's length. -/
def hLen (P : Program) (R : List Int) : Hint P := .val (dN (R.map fun x => D.int .i64 x).length) (dN R.length) (by simp)

/-! ### take -/
def tkL (vp : Nat) (R : List Int) (i : Nat) : List (Nat × AV) := [(0, pPtr vp), (18, .d (rowD R)), (19, dN R.length), (20, dN i)]
section
variable (vp vl vd vo n : Nat) (near likes : D) (left deg out : List AV) (R : List Int) (i : Nat)
noncomputable def tkPr (hi : i < R.length) (hs : i < 9223372036854775807) (dj : Int) (h0 : 0 ≤ R[i]) (h1 : R[i].toNat < n) (hd : deg[0 + R[i].toNat]? = some (dI dj)) : Par Try.prog :=
  { hint := fun f k => if f = 99 then (if k = 21 then some (hLt Try.prog i R.length true (by simpa using hi)) else if k = 22 then some (.idx (R.map fun x => .int .i64 x) ((i : Nat) : Int) (.int .i64 R[i]) (by omega) (getI hi))
      else if k = 29 then some (.inb R[i] n h0 h1) else if k = 30 then some (.elt deg (0 + R[i].toNat) (dI dj) hd) else if k = 32 then some (.inb R[i] n h0 h1) else if k = 104009 then some (.elt deg (0 + R[i].toNat) (dI dj) hd) else if k = 33 then some (hSucc Try.prog i hs) else none) else none }
theorem tkRound (hi : i < R.length) (hs : i < 9223372036854775807) (dj : Int) (h0 : 0 ≤ R[i]) (h1 : R[i].toNat < n) (hd : deg[0 + R[i].toNat]? = some (dI dj)) (rest : Heap) (X : Fix) (hP : X.P = Try.prog) (hN : X.N = 34) :
    AW X (loopOf Try.prog 99 2) ⟨envOf (tkL vp R i), ovl (pEnt vp vl vd vo n near likes left deg out) rest⟩ fun e' S' => e' = .normal ∧ Weak X S' ⟨envOf (tkL vp R (i + 1)), ovl (pEnt vp vl vd vo n near likes left (deg.set (0 + R[i].toNat) (dI (IntKind.i64.wrap (dj - 1)))) out) rest⟩ :=
  seg okP named (tkPr n deg R i hi hs dj h0 h1 hd) 1000 99 300000 34 (by kernel_rfl) X hP hN
theorem tkStop (rest : Heap) (X : Fix) (hP : X.P = Try.prog) (hN : X.N = 34) :
    AW X (loopOf Try.prog 99 2) ⟨envOf (tkL vp R R.length), ovl (pEnt vp vl vd vo n near likes left deg out) rest⟩ fun e' S' => e' = .exit 0 ∧ Weak X S' ⟨envOf [], ovl (pEnt vp vl vd vo n near likes left deg out) rest⟩ :=
  seg okP named { hint := fun f k => if f = 99 then (if k = 21 then some (hLt Try.prog R.length R.length false (by simp)) else none) else none } 1000 99 300000 34 (by kernel_rfl) X hP hN
end

theorem mapSet (l : List Int) (i : Nat) (x : Int) : (l.map dI).set i (dI x) = (l.set i x).map dI := by rw [List.map_set]
theorem getMap {l : List Int} {i : Nat} (h : i < l.length) : (l.map dI)[0 + i]? = some (dI l[i]) := by simp [h]

theorem tkLoop (vp vl vd vo n : Nat) (near likes : D) (left out : List AV) (R : List Int) (hR : ∀ x ∈ R, 0 ≤ x ∧ x.toNat < n) (hl : R.length < 1099511627776) :
    ∀ (m i : Nat) (deg : List Int), R.length - i = m → i ≤ R.length → deg.length = n → ∃ deg' : List Int, deg'.length = n ∧ ∀ (rest : Heap) (X : Fix), X.P = Try.prog → X.N = 34 →
      LW X (loopOf Try.prog 99 2) ⟨envOf (tkL vp R i), ovl (pEnt vp vl vd vo n near likes left (deg.map dI) out) rest⟩ fun e' S' => e' = .exit 0 ∧ S' = ⟨envOf [], ovl (pEnt vp vl vd vo n near likes left (deg'.map dI) out) rest⟩
  | 0, i, deg, hm, hi, hd => by
    have : i = R.length := by omega
    subst this
    exact ⟨deg, hd, fun rest X hP hN => lw_end (tkStop vp vl vd vo n near likes left (deg.map dI) out R rest X hP hN) (by simp)⟩
  | m + 1, i, deg, hm, hi, hd => by
    have hlt : i < R.length := by omega
    obtain ⟨h0, h1⟩ := hR R[i] (List.getElem_mem hlt)
    have hj : R[i].toNat < deg.length := by omega
    obtain ⟨deg', g1, g2⟩ := tkLoop vp vl vd vo n near likes left out R hR hl m (i + 1) (deg.set R[i].toNat (IntKind.i64.wrap (deg[R[i].toNat] - 1))) (by omega) (by omega) (by simpa using hd)
    refine ⟨deg', g1, fun rest X hP hN => lw_seg (tkRound vp vl vd vo n near likes left (deg.map dI) out R i hlt (by omega) deg[R[i].toNat] h0 h1 (getMap hj) rest X hP hN) ?_⟩
    rw [Nat.zero_add, mapSet]
    exact g2 rest X hP hN

noncomputable def takePr (vp vl vd vo n : Nat) (likes : D) (rows : List (List Int)) (left : List AV) (deg deg' : List AV) (out : List AV) (i : Int) (R : List Int) (b : AV) (h0 : 0 ≤ i) (h1 : i.toNat < n) (hb : left[0 + i.toNat]? = some b) (hr : (rows.map rowD)[i.toNat]? = some (rowD R))
    (hloop : ∀ (rest : Heap) (X : Fix), X.P = Try.prog → X.N = 34 → LW X (loopOf Try.prog 99 2) ⟨envOf (tkL vp R 0), ovl (pEnt vp vl vd vo n (rowsD rows) likes (left.set (0 + i.toNat) (dB false)) deg out) rest⟩ fun e' S' => e' = .exit 0 ∧ S' = ⟨envOf [], ovl (pEnt vp vl vd vo n (rowsD rows) likes (left.set (0 + i.toNat) (dB false)) deg' out) rest⟩) : Par Try.prog :=
  { hint := fun f k => if f = 99 then (if k = 11 then some (.inb i n h0 h1) else if k = 100006 then some (.elt left (0 + i.toNat) b hb) else if k = 17 then some (.idx (rows.map rowD) i (rowD R) h0 hr) else if k = 19 then some (hLen Try.prog R) else none) else none
    loops := fun f r => if f = 99 then (if r = 2 then some ⟨34, loopOf Try.prog 99 2, tkL vp R 0, fun _ => pEnt vp vl vd vo n (rowsD rows) likes (left.set (0 + i.toNat) (dB false)) deg out, .exit 0, [], fun _ => pEnt vp vl vd vo n (rowsD rows) likes (left.set (0 + i.toNat) (dB false)) deg' out, fun rest X hP hN => (hloop rest X hP hN).aw⟩ else none) else none }
/-- take. -/
theorem takeC (vp vl vd vo n : Nat) (likes : D) (rows : List (List Int)) (left : List AV) (deg : List Int) (out : List AV) (i : Int) (h0 : 0 ≤ i) (h1 : i.toNat < n) (hl : left.length = n) (hd : deg.length = n) (hn : rows.length = n)
    (hR : ∀ R ∈ rows, (∀ x ∈ R, 0 ≤ x ∧ x.toNat < n) ∧ R.length < 1099511627776) :
    ∃ deg' : List Int, deg'.length = n ∧ ∀ rest : Heap, HCall Try.prog 99 [pPtr vp, dI i] (ovl (pEnt vp vl vd vo n (rowsD rows) likes left (deg.map dI) out) rest) [] (ovl (pEnt vp vl vd vo n (rowsD rows) likes (left.set i.toNat (dB false)) (deg'.map dI) out) rest) := by
  have hi : i.toNat < rows.length := by omega
  obtain ⟨r1, r2⟩ := hR rows[i.toNat] (List.getElem_mem hi)
  obtain ⟨deg', g1, g2⟩ := tkLoop vp vl vd vo n (rowsD rows) likes (left.set (0 + i.toNat) (dB false)) out rows[i.toNat] r1 r2 _ 0 deg rfl (Nat.zero_le _) hd
  have hlt : 0 + i.toNat < left.length := by omega
  refine ⟨deg', g1, fun rest => ?_⟩
  have := hcall_of_run okP named (takePr vp vl vd vo n likes rows left (deg.map dI) (deg'.map dI) out i rows[i.toNat] left[0 + i.toNat] h0 h1 (List.getElem?_eq_getElem hlt) (by simp [hi]) g2) 1000 300000 99 (args := [pPtr vp, dI i]) (rs := [])
    (hp := pEnt vp vl vd vo n (rowsD rows) likes left (deg.map dI) out) (hp' := pEnt vp vl vd vo n (rowsD rows) likes (left.set (0 + i.toNat) (dB false)) (deg'.map dI) out) (rest := rest) (by kernel_rfl)
  rw [Nat.zero_add] at this
  exact this
end Go.Avm
/-
  Paint: the first that is false; a node's colour.
-/
set_option linter.unusedSectionVars false
namespace Go.Avm
open Go.Proofs

/-! ### The colours that are taken -/
def mark (out : List Int) (t : List Bool) (j : Int) : List Bool := if 0 ≤ (out[j.toNat]?).getD 0 then t.set ((out[j.toNat]?).getD 0).toNat true else t
def takenF (out : List Int) (K : Nat) (R : List Int) : List Bool := R.foldl (mark out) (List.replicate K false)
theorem mark_len (out : List Int) (t : List Bool) (j : Int) : (mark out t j).length = t.length := by
  unfold mark
  split <;> simp
theorem takenF_len (out : List Int) (K : Nat) (R : List Int) : (takenF out K R).length = K := by
  have : ∀ (R : List Int) (t : List Bool), (R.foldl (mark out) t).length = t.length := by
    intro R
    induction R with
    | nil => intro t; rfl
    | cons j R ih => intro t; rw [List.foldl_cons, ih, mark_len]
  rw [takenF, this, List.length_replicate]
theorem takenF_succ (out : List Int) (K : Nat) (R : List Int) (i : Nat) (h : i < R.length) : takenF out K (R.take (i + 1)) = mark out (takenF out K (R.take i)) R[i] := by
  rw [takenF, List.take_succ_eq_append_getElem h, List.foldl_append]
  rfl

def clL (vp vt K : Nat) (x : Int) (R : List Int) (i : Nat) : List (Nat × AV) := [(0, pPtr vp), (1, dI x), (7, .sl 300161 vt 0 K 1), (22, .d (rowD R)), (23, dN R.length), (24, dN i)]
def clE (vp vl vd vo n : Nat) (near likes : D) (left deg out taken : List AV) (vt : Nat) : List (Nat × Ent) := (300161, ⟨vt, some (.arr 1 taken)⟩) :: pEnt vp vl vd vo n near likes left deg out
def hGe0 (P : Program) (c : Int) (t : Bool) (h : decide (0 ≤ c) = t) : Hint P := .val (dB (decide ((0 : Int) ≤ c))) (dB t) (by rw [h])
section
variable (vp vl vd vo n : Nat) (near likes : D) (left deg out taken : List AV) (vt K : Nat) (x : Int) (R : List Int) (i : Nat)
noncomputable def clPr (hi : i < R.length) (hs : i < 9223372036854775807) (h0 : 0 ≤ R[i]) (h1 : R[i].toNat < n) (c : Int) (ho : out[0 + R[i].toNat]? = some (dI c)) (t : Bool) (ht : decide (0 ≤ c) = t) (hint2 : Nat → Option (Hint Try.prog)) : Par Try.prog :=
  { hint := fun f k => if f = 71 then (if k = 25 then some (hLt Try.prog i R.length true (by simpa using hi)) else if k = 26 then some (.idx (R.map fun x => .int .i64 x) ((i : Nat) : Int) (.int .i64 R[i]) (by omega) (getI hi))
      else if k = 33 then some (.inb R[i] n h0 h1) else if k = 34 then some (.elt out (0 + R[i].toNat) (dI c) ho) else if k = 36 then some (hGe0 Try.prog c t ht) else if k = 40 then some (hSucc Try.prog i hs) else hint2 k) else none }
theorem clRound0 (hi : i < R.length) (hs : i < 9223372036854775807) (h0 : 0 ≤ R[i]) (h1 : R[i].toNat < n) (c : Int) (ho : out[0 + R[i].toNat]? = some (dI c)) (ht : decide (0 ≤ c) = false) (rest : Heap) (X : Fix) (hP : X.P = Try.prog) (hN : X.N = 73) :
    AW X (loopOf Try.prog 71 3) ⟨envOf (clL vp vt K x R i), ovl (clE vp vl vd vo n near likes left deg out taken vt) rest⟩ fun e' S' => e' = .normal ∧ Weak X S' ⟨envOf (clL vp vt K x R (i + 1)), ovl (clE vp vl vd vo n near likes left deg out taken vt) rest⟩ :=
  seg okP named (clPr n out R i hi hs h0 h1 c ho false ht fun _ => none) 1000 71 400000 73 (by kernel_rfl) X hP hN
theorem clRound1 (hi : i < R.length) (hs : i < 9223372036854775807) (h0 : 0 ≤ R[i]) (h1 : R[i].toNat < n) (c : Int) (ho : out[0 + R[i].toNat]? = some (dI c)) (ht : decide (0 ≤ c) = true) (hc : 0 ≤ c) (hK : c.toNat < K) (b : AV) (hb : taken[0 + c.toNat]? = some b) (rest : Heap) (X : Fix) (hP : X.P = Try.prog) (hN : X.N = 73) :
    AW X (loopOf Try.prog 71 3) ⟨envOf (clL vp vt K x R i), ovl (clE vp vl vd vo n near likes left deg out taken vt) rest⟩ fun e' S' => e' = .normal ∧ Weak X S' ⟨envOf (clL vp vt K x R (i + 1)), ovl (clE vp vl vd vo n near likes left deg out (taken.set (0 + c.toNat) (dB true)) vt) rest⟩ :=
  seg okP named (clPr n out R i hi hs h0 h1 c ho true ht fun k => if k = 39 then some (.inb c K hc hK) else if k = 107003 then some (.elt taken (0 + c.toNat) b hb) else none) 1000 71 400000 73 (by kernel_rfl) X hP hN
theorem clStop (rest : Heap) (X : Fix) (hP : X.P = Try.prog) (hN : X.N = 73) :
    AW X (loopOf Try.prog 71 3) ⟨envOf (clL vp vt K x R R.length), ovl (clE vp vl vd vo n near likes left deg out taken vt) rest⟩ fun e' S' => e' = .exit 0 ∧ Weak X S' ⟨envOf [(0, pPtr vp), (1, dI x), (7, .sl 300161 vt 0 K 1)], ovl (clE vp vl vd vo n near likes left deg out taken vt) rest⟩ :=
  seg okP named { hint := fun f k => if f = 71 then (if k = 25 then some (hLt Try.prog R.length R.length false (by simp)) else none) else none } 1000 71 400000 73 (by kernel_rfl) X hP hN
end

theorem mapSetB (l : List Bool) (i : Nat) (x : Bool) : (l.map dB).set i (dB x) = (l.set i x).map dB := by rw [List.map_set]
theorem clLoop (vp vl vd vo n : Nat) (near likes : D) (left deg : List AV) (out : List Int) (vt : Nat) (K : Nat) (x : Int) (R : List Int) (hR : ∀ y ∈ R, 0 ≤ y ∧ y.toNat < n) (hl : R.length < 1099511627776) (ho : out.length = n) (hc : ∀ c ∈ out, c < (K : Int)) (hK : K ≤ 1000)
    (rest : Heap) (X : Fix) (hP : X.P = Try.prog) (hN : X.N = 73) :
    AW X (.loop (loopOf Try.prog 71 3)) ⟨envOf (clL vp vt K x R 0), ovl (clE vp vl vd vo n near likes left deg (out.map dI) ((takenF out K (R.take 0)).map dB) vt) rest⟩ fun e' S' => e' = .exit 0 ∧
      S' = ⟨envOf [(0, pPtr vp), (1, dI x), (7, .sl 300161 vt 0 K 1)], ovl (clE vp vl vd vo n near likes left deg (out.map dI) ((takenF out K R).map dB) vt) rest⟩ := by
  refine loop_of_segs (P := Try.prog) (N := 73) (c := loopOf Try.prog 71 3) (fun i => clL vp vt K x R i) (fun i _ => clE vp vl vd vo n near likes left deg (out.map dI) ((takenF out K (R.take i)).map dB) vt) (fun i => i ≤ R.length) (fun i => R.length - i) (.exit 0)
    [(0, pPtr vp), (1, dI x), (7, .sl 300161 vt 0 K 1)] (fun _ => clE vp vl vd vo n near likes left deg (out.map dI) ((takenF out K R).map dB) vt) 0 (Nat.zero_le _) (by simp) (fun rest i hi => ?_) rest X hP hN
  rcases Nat.lt_or_ge i R.length with h | h
  · left
    obtain ⟨h0, h1⟩ := hR R[i] (List.getElem_mem h)
    have hj : R[i].toNat < out.length := by omega
    refine ⟨i + 1, h, by omega, fun X hP hN => ?_⟩
    have hm : takenF out K (R.take (i + 1)) = mark out (takenF out K (R.take i)) R[i] := takenF_succ out K R i h
    have hg : (out[R[i].toNat]?).getD 0 = out[R[i].toNat] := by simp [hj]
    rw [hm]
    by_cases hneg : 0 ≤ out[R[i].toNat]
    · have hlt : out[R[i].toNat].toNat < K := by have := hc _ (List.getElem_mem hj); omega
      have hlen := takenF_len out K (R.take i)
      have hmk : mark out (takenF out K (R.take i)) R[i] = (takenF out K (R.take i)).set out[R[i].toNat].toNat true := by rw [mark, hg, if_pos hneg]
      rw [hmk, ← mapSetB]
      have := clRound1 vp vl vd vo n near likes left deg (out.map dI) ((takenF out K (R.take i)).map dB) vt K x R i h (by omega) h0 h1 out[R[i].toNat] (getMap hj) (by simpa using hneg) hneg hlt (dB (takenF out K (R.take i))[out[R[i].toNat].toNat]) (by simp [hlen, hlt]) rest X hP hN
      rw [Nat.zero_add] at this
      exact this
    · have hmk : mark out (takenF out K (R.take i)) R[i] = takenF out K (R.take i) := by rw [mark, hg, if_neg hneg]
      rw [hmk]
      exact clRound0 vp vl vd vo n near likes left deg (out.map dI) ((takenF out K (R.take i)).map dB) vt K x R i h (by omega) h0 h1 out[R[i].toNat] (getMap hj) (by simpa using hneg) rest X hP hN
  · right
    have : i = R.length := by omega
    subst this
    intro X hP hN
    rw [List.take_length]
    exact clStop vp vl vd vo n near likes left deg (out.map dI) ((takenF out K R).map dB) vt K x R rest X hP hN
end Go.Avm
/-
  Paint: slices.Index at bools.
-/
set_option linter.unusedSectionVars false
namespace Go.Avm
open Go.Proofs

abbrev boolsD (t : List Bool) : D := .ro (t.map .bool)
def ixL (t : List Bool) (i : Nat) : List (Nat × AV) := [(0, .d (boolsD t)), (1, dB false), (7, dN t.length), (8, dN i)]
def hLenB (P : Program) (t : List Bool) : Hint P := .val (dN (t.map D.bool).length) (dN t.length) (by simp)
def hEqF (P : Program) (b t : Bool) (h : (false == b) = t) : Hint P := .val (dB (false == b)) (dB t) (by rw [h])
theorem getB {t : List Bool} {i : Nat} (h : i < t.length) : (t.map D.bool)[((i : Nat) : Int).toNat]? = some (.bool t[i]) := by simp [h]
section
variable (t : List Bool) (i : Nat)
noncomputable def ixPr (hi : i < t.length) (hs : i < 9223372036854775807) (e : Bool) (he : (false == t[i]) = e) : Par Try.prog :=
  { hint := fun f k => if f = 100 then (if k = 9 then some (hLt Try.prog i t.length true (by simpa using hi)) else if k = 14 then some (.idx (t.map D.bool) ((i : Nat) : Int) (.bool t[i]) (by omega) (getB hi)) else if k = 16 then some (hEqF Try.prog t[i] e he) else if k = 18 then some (hSucc Try.prog i hs) else none) else none }
theorem ixNext (hi : i < t.length) (hs : i < 9223372036854775807) (he : (false == t[i]) = false) (rest : Heap) (X : Fix) (hP : X.P = Try.prog) (hN : X.N = 19) :
    AW X (loopOf Try.prog 100 2) ⟨envOf (ixL t i), ovl [] rest⟩ fun e' S' => e' = .normal ∧ Weak X S' ⟨envOf (ixL t (i + 1)), ovl [] rest⟩ :=
  seg okP named (ixPr t i hi hs false he) 1000 100 400000 19 (by kernel_rfl) X hP hN
theorem ixFound (hi : i < t.length) (hs : i < 9223372036854775807) (he : (false == t[i]) = true) (rest : Heap) (X : Fix) (hP : X.P = Try.prog) (hN : X.N = 19) :
    AW X (loopOf Try.prog 100 2) ⟨envOf (ixL t i), ovl [] rest⟩ fun e' S' => e' = .ret ∧ Weak X S' ⟨envOf [(4, dN i)], ovl [] rest⟩ :=
  seg okP named (ixPr t i hi hs true he) 1000 100 400000 19 (by kernel_rfl) X hP hN
theorem ixStop (rest : Heap) (X : Fix) (hP : X.P = Try.prog) (hN : X.N = 19) :
    AW X (loopOf Try.prog 100 2) ⟨envOf (ixL t t.length), ovl [] rest⟩ fun e' S' => e' = .exit 0 ∧ Weak X S' ⟨envOf [], ovl [] rest⟩ :=
  seg okP named { hint := fun f k => if f = 100 then (if k = 9 then some (hLt Try.prog t.length t.length false (by simp)) else none) else none } 1000 100 400000 19 (by kernel_rfl) X hP hN
theorem ixLoopFound (j : Nat) (hj : j < t.length) (hl : t.length < 1099511627776) (hb : ∀ i, (h : i < j) → t[i] = true) (hf : t[j] = false) (rest : Heap) (X : Fix) (hP : X.P = Try.prog) (hN : X.N = 19) :
    AW X (.loop (loopOf Try.prog 100 2)) ⟨envOf (ixL t 0), ovl [] rest⟩ fun e' S' => e' = .ret ∧ S' = ⟨envOf [(4, dN j)], ovl [] rest⟩ := by
  refine loop_of_segs (P := Try.prog) (N := 19) (c := loopOf Try.prog 100 2) (fun i => ixL t i) (fun _ _ => []) (fun i => i ≤ j) (fun i => j - i) .ret [(4, dN j)] (fun _ => []) 0 (Nat.zero_le _) (by simp) (fun rest i hi => ?_) rest X hP hN
  rcases Nat.lt_or_ge i j with h | h
  · exact .inl ⟨i + 1, h, by omega, fun X hP hN => ixNext t i (by omega) (by omega) (by rw [hb i h]; rfl) rest X hP hN⟩
  · have : i = j := by omega
    subst this
    exact .inr fun X hP hN => ixFound t i hj (by omega) (by rw [hf]; rfl) rest X hP hN
theorem ixLoopNone (hl : t.length < 1099511627776) (hb : ∀ b ∈ t, b = true) (rest : Heap) (X : Fix) (hP : X.P = Try.prog) (hN : X.N = 19) :
    AW X (.loop (loopOf Try.prog 100 2)) ⟨envOf (ixL t 0), ovl [] rest⟩ fun e' S' => e' = .exit 0 ∧ S' = ⟨envOf [], ovl [] rest⟩ := by
  refine loop_of_segs (P := Try.prog) (N := 19) (c := loopOf Try.prog 100 2) (fun i => ixL t i) (fun _ _ => []) (fun i => i ≤ t.length) (fun i => t.length - i) (.exit 0) [] (fun _ => []) 0 (Nat.zero_le _) (by simp) (fun rest i hi => ?_) rest X hP hN
  rcases Nat.lt_or_ge i t.length with h | h
  · exact .inl ⟨i + 1, h, by omega, fun X hP hN => ixNext t i h (by omega) (by rw [hb _ (List.getElem_mem h)]; rfl) rest X hP hN⟩
  · have : i = t.length := by omega
    subst this
    exact .inr fun X hP hN => ixStop t rest X hP hN
end
theorem ixC (t : List Bool) (j : Nat) (hj : j < t.length) (hl : t.length < 1099511627776) (hb : ∀ i, (h : i < j) → t[i] = true) (hf : t[j] = false) : Pure Try.prog 100 [boolsD t, .bool false] [.int .i64 (j : Int)] :=
  pure_of_run okP named { hint := fun f k => if f = 100 then (if k = 7 then some (hLenB Try.prog t) else none) else none
                          loops := fun f r => if f = 100 then (if r = 2 then some ⟨19, loopOf Try.prog 100 2, ixL t 0, fun _ => [], .ret, [(4, dN j)], fun _ => [], ixLoopFound t j hj hl hb hf⟩ else none) else none } 1000 (by kernel_rfl)
theorem ixCnone (t : List Bool) (hl : t.length < 1099511627776) (hb : ∀ b ∈ t, b = true) : Pure Try.prog 100 [boolsD t, .bool false] [.int .i64 (-1)] :=
  pure_of_run okP named { hint := fun f k => if f = 100 then (if k = 7 then some (hLenB Try.prog t) else none) else none
                          loops := fun f r => if f = 100 then (if r = 2 then some ⟨19, loopOf Try.prog 100 2, ixL t 0, fun _ => [], .exit 0, [], fun _ => [], ixLoopNone t hl hb⟩ else none) else none } 1000 (by kernel_rfl)

/-- The first colour that is free, or -1. -/
def ffI (t : List Bool) : Int := match t.findIdx? (fun b => !b) with
  | some i => (i : Int)
  | none => -1
theorem indexC (t : List Bool) (hl : t.length < 1099511627776) : Pure Try.prog 100 [boolsD t, .bool false] [.int .i64 (ffI t)] := by
  unfold ffI
  cases h : t.findIdx? (fun b => !b) with
  | none =>
    rw [List.findIdx?_eq_none_iff] at h
    exact ixCnone t hl (fun b hb => by simpa using h b hb)
  | some i =>
    rw [List.findIdx?_eq_some_iff_getElem] at h
    obtain ⟨h1, h2, h3⟩ := h
    exact ixC t i h1 hl (fun j hj => by simpa using h3 j hj) (by simpa using h2)
end Go.Avm
/-
  Paint: a node's colour.
-/
set_option linter.unusedSectionVars false
namespace Go.Avm
open Go.Proofs

def hitB (out : List Int) (t : List Bool) (j : Int) : Bool := decide (0 ≤ (out[j.toNat]?).getD 0) && ((t[((out[j.toNat]?).getD 0).toNat]?).getD true == false)
/-- The colour. -/
def colF (out : List Int) (R R2 : List Int) (K : Nat) : Int := match R2.findIdx? (hitB out (takenF out K R)) with
  | some p => (out[((R2[p]?).getD 0).toNat]?).getD 0
  | none => ffI (takenF out K R)

def lkL (vp vt K : Nat) (R : List Int) (i : Nat) : List (Nat × AV) := [(0, pPtr vp), (7, .sl 300161 vt 0 K 1), (47, .d (rowD R)), (48, dN R.length), (49, dN i)]
section
variable (vp vl vd vo n : Nat) (near likes : D) (left deg out taken : List AV) (vt K : Nat) (R : List Int) (i : Nat)
noncomputable def lkPr (hi : i < R.length) (hs : i < 9223372036854775807) (h0 : 0 ≤ R[i]) (h1 : R[i].toNat < n) (c : Int) (ho : out[0 + R[i].toNat]? = some (dI c)) (t : Bool) (ht : decide (0 ≤ c) = t) (hint2 : Nat → Option (Hint Try.prog)) : Par Try.prog :=
  { hint := fun f k => if f = 71 then (if k = 50 then some (hLt Try.prog i R.length true (by simpa using hi)) else if k = 51 then some (.idx (R.map fun x => .int .i64 x) ((i : Nat) : Int) (.int .i64 R[i]) (by omega) (getI hi))
      else if k = 58 then some (.inb R[i] n h0 h1) else if k = 59 then some (.elt out (0 + R[i].toNat) (dI c) ho) else if k = 61 then some (hGe0 Try.prog c t ht) else if k = 70 then some (hSucc Try.prog i hs) else hint2 k) else none }
theorem lkNeg (hi : i < R.length) (hs : i < 9223372036854775807) (h0 : 0 ≤ R[i]) (h1 : R[i].toNat < n) (c : Int) (ho : out[0 + R[i].toNat]? = some (dI c)) (ht : decide (0 ≤ c) = false) (rest : Heap) (X : Fix) (hP : X.P = Try.prog) (hN : X.N = 73) :
    AW X (loopOf Try.prog 71 10) ⟨envOf (lkL vp vt K R i), ovl (clE vp vl vd vo n near likes left deg out taken vt) rest⟩ fun e' S' => e' = .normal ∧ Weak X S' ⟨envOf (lkL vp vt K R (i + 1)), ovl (clE vp vl vd vo n near likes left deg out taken vt) rest⟩ :=
  seg okP named (lkPr n out R i hi hs h0 h1 c ho false ht fun _ => none) 1000 71 400000 73 (by kernel_rfl) X hP hN
theorem lkTaken (hi : i < R.length) (hs : i < 9223372036854775807) (h0 : 0 ≤ R[i]) (h1 : R[i].toNat < n) (c : Int) (ho : out[0 + R[i].toNat]? = some (dI c)) (ht : decide (0 ≤ c) = true) (hc : 0 ≤ c) (hK : c.toNat < K) (hb : taken[0 + c.toNat]? = some (dB true)) (rest : Heap) (X : Fix) (hP : X.P = Try.prog) (hN : X.N = 73) :
    AW X (loopOf Try.prog 71 10) ⟨envOf (lkL vp vt K R i), ovl (clE vp vl vd vo n near likes left deg out taken vt) rest⟩ fun e' S' => e' = .normal ∧ Weak X S' ⟨envOf (lkL vp vt K R (i + 1)), ovl (clE vp vl vd vo n near likes left deg out taken vt) rest⟩ :=
  seg okP named (lkPr n out R i hi hs h0 h1 c ho true ht fun k => if k = 65 then some (.inb c K hc hK) else if k = 66 then some (.elt taken (0 + c.toNat) (dB true) hb) else none) 1000 71 400000 73 (by kernel_rfl) X hP hN
theorem lkHit (hi : i < R.length) (hs : i < 9223372036854775807) (h0 : 0 ≤ R[i]) (h1 : R[i].toNat < n) (c : Int) (ho : out[0 + R[i].toNat]? = some (dI c)) (ht : decide (0 ≤ c) = true) (hc : 0 ≤ c) (hK : c.toNat < K) (hb : taken[0 + c.toNat]? = some (dB false)) (rest : Heap) (X : Fix) (hP : X.P = Try.prog) (hN : X.N = 73) :
    AW X (loopOf Try.prog 71 10) ⟨envOf (lkL vp vt K R i), ovl (clE vp vl vd vo n near likes left deg out taken vt) rest⟩ fun e' S' => e' = .ret ∧ Weak X S' ⟨envOf [(6, dI c)], ovl (clE vp vl vd vo n near likes left deg out taken vt) rest⟩ :=
  seg okP named (lkPr n out R i hi hs h0 h1 c ho true ht fun k => if k = 65 then some (.inb c K hc hK) else if k = 66 then some (.elt taken (0 + c.toNat) (dB false) hb) else none) 1000 71 400000 73 (by kernel_rfl) X hP hN
theorem lkStop (rest : Heap) (X : Fix) (hP : X.P = Try.prog) (hN : X.N = 73) :
    AW X (loopOf Try.prog 71 10) ⟨envOf (lkL vp vt K R R.length), ovl (clE vp vl vd vo n near likes left deg out taken vt) rest⟩ fun e' S' => e' = .exit 2 ∧ Weak X S' ⟨envOf [(7, .sl 300161 vt 0 K 1)], ovl (clE vp vl vd vo n near likes left deg out taken vt) rest⟩ :=
  seg okP named { hint := fun f k => if f = 71 then (if k = 50 then some (hLt Try.prog R.length R.length false (by simp)) else none) else none } 1000 71 400000 73 (by kernel_rfl) X hP hN
end

section
variable (vp vl vd vo n : Nat) (near likes : D) (left deg : List AV) (out : List Int) (t : List Bool) (vt K : Nat) (R : List Int) (hR : ∀ y ∈ R, 0 ≤ y ∧ y.toNat < n) (hl : R.length < 1099511627776) (ho : out.length = n) (hc : ∀ c ∈ out, c < (K : Int)) (ht : t.length = K)
include hR hl ho hc ht
theorem lkNext (i : Nat) (h : i < R.length) (hb : hitB out t R[i] = false) (rest : Heap) (X : Fix) (hP : X.P = Try.prog) (hN : X.N = 73) :
    AW X (loopOf Try.prog 71 10) ⟨envOf (lkL vp vt K R i), ovl (clE vp vl vd vo n near likes left deg (out.map dI) (t.map dB) vt) rest⟩ fun e' S' => e' = .normal ∧ Weak X S' ⟨envOf (lkL vp vt K R (i + 1)), ovl (clE vp vl vd vo n near likes left deg (out.map dI) (t.map dB) vt) rest⟩ := by
  obtain ⟨h0, h1⟩ := hR R[i] (List.getElem_mem h)
  have hj : R[i].toNat < out.length := by omega
  have hg : (out[R[i].toNat]?).getD 0 = out[R[i].toNat] := by simp [hj]
  by_cases hneg : 0 ≤ out[R[i].toNat]
  · have hlt : out[R[i].toNat].toNat < K := by have := hc _ (List.getElem_mem hj); omega
    have hlt2 : out[R[i].toNat].toNat < t.length := by omega
    refine lkTaken vp vl vd vo n near likes left deg (out.map dI) (t.map dB) vt K R i h (by omega) h0 h1 out[R[i].toNat] (getMap hj) (by simpa using hneg) hneg hlt ?_ rest X hP hN
    unfold hitB at hb
    rw [hg] at hb
    simp [hneg, hlt2] at hb
    simp [hlt2, hb]
  · exact lkNeg vp vl vd vo n near likes left deg (out.map dI) (t.map dB) vt K R i h (by omega) h0 h1 out[R[i].toNat] (getMap hj) (by simpa using hneg) rest X hP hN
theorem lkFind (i : Nat) (h : i < R.length) (hb : hitB out t R[i] = true) (rest : Heap) (X : Fix) (hP : X.P = Try.prog) (hN : X.N = 73) :
    AW X (loopOf Try.prog 71 10) ⟨envOf (lkL vp vt K R i), ovl (clE vp vl vd vo n near likes left deg (out.map dI) (t.map dB) vt) rest⟩ fun e' S' => e' = .ret ∧ Weak X S' ⟨envOf [(6, dI ((out[R[i].toNat]?).getD 0))], ovl (clE vp vl vd vo n near likes left deg (out.map dI) (t.map dB) vt) rest⟩ := by
  obtain ⟨h0, h1⟩ := hR R[i] (List.getElem_mem h)
  have hj : R[i].toNat < out.length := by omega
  have hg : (out[R[i].toNat]?).getD 0 = out[R[i].toNat] := by simp [hj]
  unfold hitB at hb
  rw [hg] at hb ⊢
  simp only [Bool.and_eq_true, decide_eq_true_eq, beq_iff_eq] at hb
  have hlt : out[R[i].toNat].toNat < K := by have := hc _ (List.getElem_mem hj); omega
  have hlt2 : out[R[i].toNat].toNat < t.length := by omega
  refine lkHit vp vl vd vo n near likes left deg (out.map dI) (t.map dB) vt K R i h (by omega) h0 h1 out[R[i].toNat] (getMap hj) (by simpa using hb.1) hb.1 hlt ?_ rest X hP hN
  have := hb.2
  simp [hlt2] at this
  simp [hlt2, this]
theorem lkLoopHit (p : Nat) (hp : p < R.length) (h1 : hitB out t R[p] = true) (h2 : ∀ j, (hj : j < p) → hitB out t R[j] = false) (rest : Heap) (X : Fix) (hP : X.P = Try.prog) (hN : X.N = 73) :
    AW X (.loop (loopOf Try.prog 71 10)) ⟨envOf (lkL vp vt K R 0), ovl (clE vp vl vd vo n near likes left deg (out.map dI) (t.map dB) vt) rest⟩ fun e' S' => e' = .ret ∧ S' = ⟨envOf [(6, dI ((out[R[p].toNat]?).getD 0))], ovl (clE vp vl vd vo n near likes left deg (out.map dI) (t.map dB) vt) rest⟩ := by
  refine loop_of_segs (P := Try.prog) (N := 73) (c := loopOf Try.prog 71 10) (fun i => lkL vp vt K R i) (fun _ _ => clE vp vl vd vo n near likes left deg (out.map dI) (t.map dB) vt) (fun i => i ≤ p) (fun i => p - i) .ret _ (fun _ => clE vp vl vd vo n near likes left deg (out.map dI) (t.map dB) vt) 0 (Nat.zero_le _) (by simp) (fun rest i hi => ?_) rest X hP hN
  rcases Nat.lt_or_ge i p with h | h
  · exact .inl ⟨i + 1, h, by omega, fun X hP hN => lkNext vp vl vd vo n near likes left deg out t vt K R hR hl ho hc ht i (by omega) (h2 i h) rest X hP hN⟩
  · have : i = p := by omega
    subst this
    exact .inr fun X hP hN => lkFind vp vl vd vo n near likes left deg out t vt K R hR hl ho hc ht i hp h1 rest X hP hN
theorem lkLoopNone (h2 : ∀ j, (hj : j < R.length) → hitB out t R[j] = false) (rest : Heap) (X : Fix) (hP : X.P = Try.prog) (hN : X.N = 73) :
    AW X (.loop (loopOf Try.prog 71 10)) ⟨envOf (lkL vp vt K R 0), ovl (clE vp vl vd vo n near likes left deg (out.map dI) (t.map dB) vt) rest⟩ fun e' S' => e' = .exit 2 ∧ S' = ⟨envOf [(7, .sl 300161 vt 0 K 1)], ovl (clE vp vl vd vo n near likes left deg (out.map dI) (t.map dB) vt) rest⟩ := by
  refine loop_of_segs (P := Try.prog) (N := 73) (c := loopOf Try.prog 71 10) (fun i => lkL vp vt K R i) (fun _ _ => clE vp vl vd vo n near likes left deg (out.map dI) (t.map dB) vt) (fun i => i ≤ R.length) (fun i => R.length - i) (.exit 2) _ (fun _ => clE vp vl vd vo n near likes left deg (out.map dI) (t.map dB) vt) 0 (Nat.zero_le _) (by simp) (fun rest i hi => ?_) rest X hP hN
  rcases Nat.lt_or_ge i R.length with h | h
  · exact .inl ⟨i + 1, h, by omega, fun X hP hN => lkNext vp vl vd vo n near likes left deg out t vt K R hR hl ho hc ht i h (h2 i h) rest X hP hN⟩
  · have : i = R.length := by omega
    subst this
    exact .inr fun X hP hN => lkStop vp vl vd vo n near likes left deg (out.map dI) (t.map dB) vt K R rest X hP hN
end

section
variable (vp vl vd vo n : Nat) (rows lrows : List (List Int)) (left deg : List AV) (out : List Int) (vt K : Nat) (x : Int) (R R2 : List Int)
noncomputable def colPr (h0 : 0 ≤ x) (hr : (rows.map rowD)[x.toNat]? = some (rowD R)) (hr2 : (lrows.map rowD)[x.toNat]? = some (rowD R2)) (hK : K ≤ 1000)
    (hA : ∀ (rest : Heap) (X : Fix), X.P = Try.prog → X.N = 73 → AW X (.loop (loopOf Try.prog 71 3)) ⟨envOf (clL vp (vt + 1) K x R 0), ovl (clE vp vl vd vo n (rowsD rows) (rowsD lrows) left deg (out.map dI) (List.replicate K (dB false)) (vt + 1)) rest⟩ fun e' S' => e' = .exit 0 ∧ S' = ⟨envOf [(0, pPtr vp), (1, dI x), (7, .sl 300161 (vt + 1) 0 K 1)], ovl (clE vp vl vd vo n (rowsD rows) (rowsD lrows) left deg (out.map dI) ((takenF out K R).map dB) (vt + 1)) rest⟩)
    (e : Exit) (l' : List (Nat × AV)) (hB : ∀ (rest : Heap) (X : Fix), X.P = Try.prog → X.N = 73 → AW X (.loop (loopOf Try.prog 71 10)) ⟨envOf (lkL vp (vt + 1) K R2 0), ovl (clE vp vl vd vo n (rowsD rows) (rowsD lrows) left deg (out.map dI) ((takenF out K R).map dB) (vt + 1)) rest⟩ fun e' S' => e' = e ∧ S' = ⟨envOf l', ovl (clE vp vl vd vo n (rowsD rows) (rowsD lrows) left deg (out.map dI) ((takenF out K R).map dB) (vt + 1)) rest⟩)
    (h72 : Option (Hint Try.prog)) : Par Try.prog :=
  { hint := fun f k => if f = 71 then (if k = 15 then some (.mk (K : Int) (by omega) (by omega)) else if k = 21 then some (.idx (rows.map rowD) x (rowD R) h0 hr) else if k = 23 then some (hLen Try.prog R) else if k = 46 then some (.idx (lrows.map rowD) x (rowD R2) h0 hr2) else if k = 48 then some (hLen Try.prog R2)
      else if k = 72 then h72 else none) else none
    loops := fun f r => if f = 71 then (if r = 3 then some ⟨73, loopOf Try.prog 71 3, clL vp (vt + 1) K x R 0, fun _ => clE vp vl vd vo n (rowsD rows) (rowsD lrows) left deg (out.map dI) (List.replicate K (dB false)) (vt + 1), .exit 0, _, fun _ => clE vp vl vd vo n (rowsD rows) (rowsD lrows) left deg (out.map dI) ((takenF out K R).map dB) (vt + 1), hA⟩
      else if r = 10 then some ⟨73, loopOf Try.prog 71 10, lkL vp (vt + 1) K R2 0, fun _ => clE vp vl vd vo n (rowsD rows) (rowsD lrows) left deg (out.map dI) ((takenF out K R).map dB) (vt + 1), e, l', fun _ => clE vp vl vd vo n (rowsD rows) (rowsD lrows) left deg (out.map dI) ((takenF out K R).map dB) (vt + 1), hB⟩ else none) else none }
end
theorem mapBool (t : List Bool) : ∀ h, viewL (view 3 h) (t.map dB) = some (t.map D.bool, []) := fun h => by
  induction t with
  | nil => rfl
  | cons b t ih =>
    rw [List.map_cons, viewL, ih]
    rfl
def colHp (vp vl vd vo n : Nat) (near likes : D) (left deg out : List AV) (vt : Nat) : List (Nat × Ent) := (300161, ⟨vt, none⟩) :: pEnt vp vl vd vo n near likes left deg out
/-- colour. -/
theorem colourC (vp vl vd vo n : Nat) (rows lrows : List (List Int)) (left deg : List AV) (out : List Int) (vt K : Nat) (x : Int) (h0 : 0 ≤ x) (h1 : x.toNat < n) (hn : rows.length = n) (hn2 : lrows.length = n) (ho : out.length = n) (hc : ∀ c ∈ out, c < (K : Int)) (hK : K ≤ 1000)
    (hR : ∀ R ∈ rows, (∀ x ∈ R, 0 ≤ x ∧ x.toNat < n) ∧ R.length < 1099511627776) (hR2 : ∀ R ∈ lrows, (∀ x ∈ R, 0 ≤ x ∧ x.toNat < n) ∧ R.length < 1099511627776) :
    ∃ vt', ∀ rest : Heap, HCall Try.prog 71 [pPtr vp, dI x, dN K] (ovl (colHp vp vl vd vo n (rowsD rows) (rowsD lrows) left deg (out.map dI) vt) rest) [dI (colF out ((rows[x.toNat]?).getD []) ((lrows[x.toNat]?).getD []) K)]
      (ovl (colHp vp vl vd vo n (rowsD rows) (rowsD lrows) left deg (out.map dI) vt') rest) := by
  have hi : x.toNat < rows.length := by omega
  have hi2 : x.toNat < lrows.length := by omega
  obtain ⟨r1, r2⟩ := hR rows[x.toNat] (List.getElem_mem hi)
  obtain ⟨q1, q2⟩ := hR2 lrows[x.toNat] (List.getElem_mem hi2)
  have e1 : (rows[x.toNat]?).getD [] = rows[x.toNat] := by simp [hi]
  have e2 : (lrows[x.toNat]?).getD [] = lrows[x.toNat] := by simp [hi2]
  rw [e1, e2]
  generalize hRR : rows[x.toNat] = R at *
  generalize hRR2 : lrows[x.toNat] = R2 at *
  have hr : (rows.map rowD)[x.toNat]? = some (rowD R) := by simp [hi, hRR]
  have hr2 : (lrows.map rowD)[x.toNat]? = some (rowD R2) := by simp [hi2, hRR2]
  have htl := takenF_len out K R
  have hA : ∀ (rest : Heap) (X : Fix), X.P = Try.prog → X.N = 73 → AW X (.loop (loopOf Try.prog 71 3)) ⟨envOf (clL vp (vt + 1) K x R 0), ovl (clE vp vl vd vo n (rowsD rows) (rowsD lrows) left deg (out.map dI) (List.replicate K (dB false)) (vt + 1)) rest⟩ fun e' S' => e' = .exit 0 ∧ S' = ⟨envOf [(0, pPtr vp), (1, dI x), (7, .sl 300161 (vt + 1) 0 K 1)], ovl (clE vp vl vd vo n (rowsD rows) (rowsD lrows) left deg (out.map dI) ((takenF out K R).map dB) (vt + 1)) rest⟩ := by
    intro rest X hP hN
    have h := clLoop vp vl vd vo n (rowsD rows) (rowsD lrows) left deg out (vt + 1) K x R r1 r2 ho hc hK rest X hP hN
    have hz : (takenF out K (R.take 0)).map dB = List.replicate K (dB false) := by simp [takenF]
    rw [hz] at h
    exact h
  unfold colF
  cases hf : R2.findIdx? (hitB out (takenF out K R)) with
  | some p =>
    rw [List.findIdx?_eq_some_iff_getElem] at hf
    obtain ⟨g1, g2, g3⟩ := hf
    refine ⟨vt + 1, fun rest => ?_⟩
    have hg : (R2[p]?).getD 0 = R2[p] := by simp [g1]
    simp only [hg]
    exact hcall_of_run okP named (colPr vp vl vd vo n rows lrows left deg out vt K x R R2 h0 hr hr2 hK hA .ret [(6, dI ((out[R2[p].toNat]?).getD 0))]
      (fun rest X hP hN => lkLoopHit vp vl vd vo n (rowsD rows) (rowsD lrows) left deg out (takenF out K R) (vt + 1) K R2 q1 q2 ho hc htl p g1 g2 (fun j hj => by simpa using g3 j hj) rest X hP hN) none) 1000 300000 71
      (hp := colHp vp vl vd vo n (rowsD rows) (rowsD lrows) left deg (out.map dI) vt) (hp' := colHp vp vl vd vo n (rowsD rows) (rowsD lrows) left deg (out.map dI) (vt + 1)) (by kernel_rfl)
  | none =>
    rw [List.findIdx?_eq_none_iff] at hf
    refine ⟨vt + 2, fun rest => ?_⟩
    exact hcall_of_run okP named { colPr vp vl vd vo n rows lrows left deg out vt K x R R2 h0 hr hr2 hK hA (.exit 2) [(7, .sl 300161 (vt + 1) 0 K 1)]
      (fun rest X hP hN => lkLoopNone vp vl vd vo n (rowsD rows) (rowsD lrows) left deg out (takenF out K R) (vt + 1) K R2 q1 q2 ho hc htl (fun j hj => hf _ (List.getElem_mem hj)) rest X hP hN) (some (.call 100 [boolsD (takenF out K R), .bool false] [.int .i64 (ffI (takenF out K R))] (indexC _ (by rw [htl]; omega)))) with
        weaks := fun f r => if f = 71 then (if r = 16 then some ⟨7, 300161, K, (takenF out K R).map dB, (takenF out K R).map D.bool, by simp [htl], mapBool _⟩ else none) else none } 1000 300000 71
      (hp := colHp vp vl vd vo n (rowsD rows) (rowsD lrows) left deg (out.map dI) vt) (hp' := colHp vp vl vd vo n (rowsD rows) (rowsD lrows) left deg (out.map dI) (vt + 2)) (by kernel_rfl)
end Go.Avm
/-
  Paint: those with few neighbours.
-/
set_option linter.unusedSectionVars false
namespace Go.Avm
open Go.Proofs

def oE (w v5 v6 : Nat) (F : List Int) (vp vl vd vo n : Nat) (near likes : D) (left deg out : List AV) : List (Nat × Ent) := (502105, ⟨w, none⟩) :: (15, ⟨v5, some (.arr 1 (F.map dI))⟩) :: (16, ⟨v6, none⟩) :: pEnt vp vl vd vo n near likes left deg out
abbrev fewV (v5 ln : Nat) : AV := .sl 15 v5 0 ln 1
abbrev outV (v6 : Nat) (O : List Int) : AV := .vec 16 v6 1 (O.map fun x => .int .i64 x)
def hLtI (P : Program) (a b : Int) (t : Bool) (h : decide (a < b) = t) : Hint P := .val (dB (decide (a < b))) (dB t) (by rw [h])
theorem appF (F : List Int) (ln : Nat) (x : Int) : (F.map dI).take ln ++ [D.int .i64 x].map AV.d = (F.take ln ++ [x]).map dI := by
  rw [List.map_append, List.map_take]
  rfl

def fwL (vp vl n v5 ln : Nat) (v6 : Nat) (k : Int) (i : Nat) : List (Nat × AV) := [(0, pPtr vp), (1, dI k), (5, outV v6 []), (6, fewV v5 ln), (17, .sl 701180 vl 0 n 1), (18, dN n), (19, dN i)]
section
variable (w v5 v6 : Nat) (F : List Int) (ln : Nat) (vp vl vd vo n : Nat) (near likes : D) (left deg out : List AV) (k : Int) (i : Nat)
noncomputable def fwPr (hi : i < n) (hs : i < 9223372036854775807) (d : Int) (hd : deg[0 + i]? = some (dI d)) (t : Bool) (ht : decide (d < k) = t) (hF : ln ≤ (F.map dI).length ∧ ln + 1 ≤ 549755813888) : Par Try.prog :=
  { hint := fun f s => if f = 70 then (if s = 20 then some (hLt Try.prog i n true (by simpa using hi)) else if s = 27 then some (.inb ((i : Nat) : Int) n (by omega) (by simpa using hi)) else if s = 28 then some (.elt deg (0 + i) (dI d) hd) else if s = 30 then some (hLtI Try.prog d k t ht)
      else if s = 34 then some (.apps (F.map dI) ln 1 hF) else if s = 35 then some (hSucc Try.prog i hs) else none) else none }
theorem fwNo (hi : i < n) (hs : i < 9223372036854775807) (d : Int) (hd : deg[0 + i]? = some (dI d)) (ht : decide (d < k) = false) (hF : ln ≤ (F.map dI).length ∧ ln + 1 ≤ 549755813888) (rest : Heap) (X : Fix) (hP : X.P = Try.prog) (hN : X.N = 148) :
    AW X (loopOf Try.prog 70 3) ⟨envOf (fwL vp vl n v5 ln v6 k i), ovl (oE w v5 v6 F vp vl vd vo n near likes left deg out) rest⟩ fun e' S' => e' = .normal ∧ Weak X S' ⟨envOf (fwL vp vl n v5 ln v6 k (i + 1)), ovl (oE w v5 v6 F vp vl vd vo n near likes left deg out) rest⟩ :=
  seg okP named (fwPr F ln n deg k i hi hs d hd false ht hF) 1000 70 500000 148 (by kernel_rfl) X hP hN
theorem fwYes (hi : i < n) (hs : i < 9223372036854775807) (d : Int) (hd : deg[0 + i]? = some (dI d)) (ht : decide (d < k) = true) (hF : ln ≤ (F.map dI).length ∧ ln + 1 ≤ 549755813888) (rest : Heap) (X : Fix) (hP : X.P = Try.prog) (hN : X.N = 148) :
    AW X (loopOf Try.prog 70 3) ⟨envOf (fwL vp vl n v5 ln v6 k i), ovl (oE w v5 v6 F vp vl vd vo n near likes left deg out) rest⟩ fun e' S' => e' = .normal ∧
      Weak X S' ⟨envOf (fwL vp vl n (v5 + 1) (ln + 1) v6 k (i + 1)), ovl (oE (w + 1) (v5 + 1) v6 (F.take ln ++ [(i : Int)]) vp vl vd vo n near likes left deg out) rest⟩ := by
  unfold oE
  rw [← appF]
  exact seg okP named (fwPr F ln n deg k i hi hs d hd true ht hF) 1000 70 500000 148 (by kernel_rfl) X hP hN
theorem fwStop (rest : Heap) (X : Fix) (hP : X.P = Try.prog) (hN : X.N = 148) :
    AW X (loopOf Try.prog 70 3) ⟨envOf (fwL vp vl n v5 ln v6 k n), ovl (oE w v5 v6 F vp vl vd vo n near likes left deg out) rest⟩ fun e' S' => e' = .exit 0 ∧ Weak X S' ⟨envOf [(0, pPtr vp), (1, dI k), (5, outV v6 []), (6, fewV v5 ln)], ovl (oE w v5 v6 F vp vl vd vo n near likes left deg out) rest⟩ :=
  seg okP named { hint := fun f s => if f = 70 then (if s = 20 then some (hLt Try.prog n n false (by simp)) else none) else none } 1000 70 500000 148 (by kernel_rfl) X hP hN
end

theorem mem_take_app {F : List Int} {ln : Nat} {x y : Int} (h : y ∈ F.take ln ++ [x]) : y ∈ F ∨ y = x := by
  rcases List.mem_append.1 h with h | h
  · exact .inl (List.mem_of_mem_take h)
  · exact .inr (by simpa using h)
theorem fwLoop (v6 vp vl vd vo n : Nat) (near likes : D) (left out : List AV) (deg : List Int) (hd : deg.length = n) (hn : n ≤ 60000) (k : Int) : ∀ (m i w v5 : Nat) (F : List Int), n - i = m → i ≤ n → F.length ≤ i → (∀ x ∈ F, 0 ≤ x ∧ x.toNat < n) →
    ∃ (w' v5' : Nat) (F' : List Int), F'.length ≤ n ∧ (∀ x ∈ F', 0 ≤ x ∧ x.toNat < n) ∧ ∀ (rest : Heap) (X : Fix), X.P = Try.prog → X.N = 148 →
      LW X (loopOf Try.prog 70 3) ⟨envOf (fwL vp vl n v5 F.length v6 k i), ovl (oE w v5 v6 F vp vl vd vo n near likes left (deg.map dI) out) rest⟩ fun e' S' => e' = .exit 0 ∧ S' = ⟨envOf [(0, pPtr vp), (1, dI k), (5, outV v6 []), (6, fewV v5' F'.length)], ovl (oE w' v5' v6 F' vp vl vd vo n near likes left (deg.map dI) out) rest⟩
  | 0, i, w, v5, F, hm, hi, hF, hr => by
    have : i = n := by omega
    subst this
    exact ⟨w, v5, F, hF, hr, fun rest X hP hN => lw_end (fwStop w v5 v6 F F.length vp vl vd vo i near likes left (deg.map dI) out k rest X hP hN) (by simp)⟩
  | m + 1, i, w, v5, F, hm, hi, hF, hr => by
    have hlt : i < n := by omega
    have hj : i < deg.length := by omega
    have hFF : F.length ≤ (F.map dI).length ∧ F.length + 1 ≤ 549755813888 := ⟨by simp, by omega⟩
    by_cases hk : deg[i] < k
    · obtain ⟨w', v5', F', g1, g2, g3⟩ := fwLoop v6 vp vl vd vo n near likes left out deg hd hn k m (i + 1) (w + 1) (v5 + 1) (F.take F.length ++ [(i : Int)]) (by omega) (by omega) (by simp; omega) (fun x hx => by
        rcases mem_take_app hx with h | h
        · exact hr x h
        · subst h; exact ⟨by omega, by simpa using hlt⟩)
      refine ⟨w', v5', F', g1, g2, fun rest X hP hN => lw_seg (fwYes w v5 v6 F F.length vp vl vd vo n near likes left (deg.map dI) out k i hlt (by omega) deg[i] (getMap hj) (by simpa using hk) hFF rest X hP hN) ?_⟩
      have hlen : (F.take F.length ++ [(i : Int)]).length = F.length + 1 := by simp
      rw [← hlen]
      exact g3 rest X hP hN
    · obtain ⟨w', v5', F', g1, g2, g3⟩ := fwLoop v6 vp vl vd vo n near likes left out deg hd hn k m (i + 1) w v5 F (by omega) (by omega) (by omega) hr
      exact ⟨w', v5', F', g1, g2, fun rest X hP hN => lw_seg (fwNo w v5 v6 F F.length vp vl vd vo n near likes left (deg.map dI) out k i hlt (by omega) deg[i] (getMap hj) (by simpa using hk) hFF rest X hP hN) (g3 rest X hP hN)⟩
end Go.Avm
/-
  Paint: the node with the most neighbours.
-/
set_option linter.unusedSectionVars false
namespace Go.Avm
open Go.Proofs

def mxL (vp vl n v5 ln v6 : Nat) (O : List Int) (k : Int) (most : Int) (i : Nat) : List (Nat × AV) := [(0, pPtr vp), (1, dI k), (5, outV v6 O), (6, fewV v5 ln), (8, dI most), (50, .sl 701180 vl 0 n 1), (51, dN n), (52, dN i)]
section
variable (w v5 v6 : Nat) (F O : List Int) (ln : Nat) (vp vl vd vo n : Nat) (near likes : D) (left deg out : List AV) (k most : Int) (i : Nat)
noncomputable def mxPr (hi : i < n) (hs : i < 9223372036854775807) (b : Bool) (hb : left[0 + i]? = some (dB b)) (hint2 : Nat → Option (Hint Try.prog)) : Par Try.prog :=
  { hint := fun f s => if f = 70 then (if s = 53 then some (hLt Try.prog i n true (by simpa using hi)) else if s = 55 then some (.inb ((i : Nat) : Int) n (by omega) (by simpa using hi)) else if s = 56 then some (.elt left (0 + i) (dB b) hb) else if s = 80 then some (hSucc Try.prog i hs) else hint2 s) else none }
noncomputable def mxPr2 (hi : i < n) (hm0 : 0 ≤ most) (hm : most.toNat < n) (dm di : Int) (hdm : deg[0 + most.toNat]? = some (dI dm)) (hdi : deg[0 + i]? = some (dI di)) (hneg : decide (most < 0) = false) (t : Bool) (ht : decide (dm < di) = t) : Nat → Option (Hint Try.prog) := fun s =>
  if s = 60 then some (hLtI Try.prog most 0 false hneg) else if s = 67 then some (.inb ((i : Nat) : Int) n (by omega) (by simpa using hi)) else if s = 68 then some (.elt deg (0 + i) (dI di) hdi) else if s = 74 then some (.inb most n hm0 hm) else if s = 75 then some (.elt deg (0 + most.toNat) (dI dm) hdm)
  else if s = 76 then some (hLtI Try.prog dm di t ht) else none
theorem mxNo (hi : i < n) (hs : i < 9223372036854775807) (hb : left[0 + i]? = some (dB false)) (rest : Heap) (X : Fix) (hP : X.P = Try.prog) (hN : X.N = 148) :
    AW X (loopOf Try.prog 70 12) ⟨envOf (mxL vp vl n v5 ln v6 O k most i), ovl (oE w v5 v6 F vp vl vd vo n near likes left deg out) rest⟩ fun e' S' => e' = .normal ∧ Weak X S' ⟨envOf (mxL vp vl n v5 ln v6 O k most (i + 1)), ovl (oE w v5 v6 F vp vl vd vo n near likes left deg out) rest⟩ :=
  seg okP named (mxPr n left i hi hs false hb fun _ => none) 1000 70 500000 148 (by kernel_rfl) X hP hN
theorem mxFirst (hi : i < n) (hs : i < 9223372036854775807) (hb : left[0 + i]? = some (dB true)) (hneg : decide (most < 0) = true) (rest : Heap) (X : Fix) (hP : X.P = Try.prog) (hN : X.N = 148) :
    AW X (loopOf Try.prog 70 12) ⟨envOf (mxL vp vl n v5 ln v6 O k most i), ovl (oE w v5 v6 F vp vl vd vo n near likes left deg out) rest⟩ fun e' S' => e' = .normal ∧ Weak X S' ⟨envOf (mxL vp vl n v5 ln v6 O k (i : Int) (i + 1)), ovl (oE w v5 v6 F vp vl vd vo n near likes left deg out) rest⟩ :=
  seg okP named (mxPr n left i hi hs true hb fun s => if s = 60 then some (hLtI Try.prog most 0 true hneg) else none) 1000 70 500000 148 (by kernel_rfl) X hP hN
theorem mxMore (hi : i < n) (hs : i < 9223372036854775807) (hb : left[0 + i]? = some (dB true)) (hm0 : 0 ≤ most) (hm : most.toNat < n) (dm di : Int) (hdm : deg[0 + most.toNat]? = some (dI dm)) (hdi : deg[0 + i]? = some (dI di)) (hneg : decide (most < 0) = false) (ht : decide (dm < di) = true) (rest : Heap) (X : Fix) (hP : X.P = Try.prog) (hN : X.N = 148) :
    AW X (loopOf Try.prog 70 12) ⟨envOf (mxL vp vl n v5 ln v6 O k most i), ovl (oE w v5 v6 F vp vl vd vo n near likes left deg out) rest⟩ fun e' S' => e' = .normal ∧ Weak X S' ⟨envOf (mxL vp vl n v5 ln v6 O k (i : Int) (i + 1)), ovl (oE w v5 v6 F vp vl vd vo n near likes left deg out) rest⟩ :=
  seg okP named (mxPr n left i hi hs true hb (mxPr2 n deg most i hi hm0 hm dm di hdm hdi hneg true ht)) 1000 70 500000 148 (by kernel_rfl) X hP hN
theorem mxLess (hi : i < n) (hs : i < 9223372036854775807) (hb : left[0 + i]? = some (dB true)) (hm0 : 0 ≤ most) (hm : most.toNat < n) (dm di : Int) (hdm : deg[0 + most.toNat]? = some (dI dm)) (hdi : deg[0 + i]? = some (dI di)) (hneg : decide (most < 0) = false) (ht : decide (dm < di) = false) (rest : Heap) (X : Fix) (hP : X.P = Try.prog) (hN : X.N = 148) :
    AW X (loopOf Try.prog 70 12) ⟨envOf (mxL vp vl n v5 ln v6 O k most i), ovl (oE w v5 v6 F vp vl vd vo n near likes left deg out) rest⟩ fun e' S' => e' = .normal ∧ Weak X S' ⟨envOf (mxL vp vl n v5 ln v6 O k most (i + 1)), ovl (oE w v5 v6 F vp vl vd vo n near likes left deg out) rest⟩ :=
  seg okP named (mxPr n left i hi hs true hb (mxPr2 n deg most i hi hm0 hm dm di hdm hdi hneg false ht)) 1000 70 500000 148 (by kernel_rfl) X hP hN
theorem mxStop (rest : Heap) (X : Fix) (hP : X.P = Try.prog) (hN : X.N = 148) :
    AW X (loopOf Try.prog 70 12) ⟨envOf (mxL vp vl n v5 ln v6 O k most n), ovl (oE w v5 v6 F vp vl vd vo n near likes left deg out) rest⟩ fun e' S' => e' = .exit 4 ∧ Weak X S' ⟨envOf [(0, pPtr vp), (1, dI k), (5, outV v6 O), (6, fewV v5 ln), (8, dI most)], ovl (oE w v5 v6 F vp vl vd vo n near likes left deg out) rest⟩ :=
  seg okP named { hint := fun f s => if f = 70 then (if s = 53 then some (hLt Try.prog n n false (by simp)) else none) else none } 1000 70 500000 148 (by kernel_rfl) X hP hN
end

theorem getMapB {l : List Bool} {i : Nat} {b : Bool} (h : l[i]? = some b) : (l.map dB)[0 + i]? = some (dB b) := by
  rw [Nat.zero_add, List.getElem?_map, h]
  rfl
theorem mxLoop (w v5 v6 : Nat) (F O : List Int) (ln : Nat) (vp vl vd vo n : Nat) (near likes : D) (L : List Bool) (hL : L.length = n) (out : List AV) (deg : List Int) (hd : deg.length = n) (hn : n ≤ 60000) (k : Int) (hex : ∃ j : Nat, L[j]? = some true) : ∀ (m i : Nat) (most : Int), n - i = m → i ≤ n →
    (most = -1 ∧ ∀ j : Nat, j < i → L[j]? = some false) ∨ (0 ≤ most ∧ L[most.toNat]? = some true) →
    ∃ most' : Int, 0 ≤ most' ∧ L[most'.toNat]? = some true ∧ ∀ (rest : Heap) (X : Fix), X.P = Try.prog → X.N = 148 →
      LW X (loopOf Try.prog 70 12) ⟨envOf (mxL vp vl n v5 ln v6 O k most i), ovl (oE w v5 v6 F vp vl vd vo n near likes (L.map dB) (deg.map dI) out) rest⟩ fun e' S' => e' = .exit 4 ∧ S' = ⟨envOf [(0, pPtr vp), (1, dI k), (5, outV v6 O), (6, fewV v5 ln), (8, dI most')], ovl (oE w v5 v6 F vp vl vd vo n near likes (L.map dB) (deg.map dI) out) rest⟩
  | 0, i, most, hm, hi, hinv => by
    have : i = n := by omega
    subst this
    rcases hinv with ⟨rfl, hno⟩ | ⟨h0, h1⟩
    · obtain ⟨j, hj⟩ := hex
      have hjn := (List.getElem?_eq_some_iff.1 hj).1
      rw [hno j (by omega)] at hj
      cases hj
    · exact ⟨most, h0, h1, fun rest X hP hN => lw_end (mxStop w v5 v6 F O ln vp vl vd vo i near likes (L.map dB) (deg.map dI) out k most rest X hP hN) (by simp)⟩
  | m + 1, i, most, hm, hi, hinv => by
    have hlt : i < n := by omega
    have hj : i < deg.length := by omega
    have hl : i < L.length := by omega
    cases hb : L[i] with
    | false =>
      have hbb : L[i]? = some false := by rw [List.getElem?_eq_getElem hl, hb]
      obtain ⟨most', g1, g2, g3⟩ := mxLoop w v5 v6 F O ln vp vl vd vo n near likes L hL out deg hd hn k hex m (i + 1) most (by omega) (by omega) (hinv.imp (fun ⟨h1, h2⟩ => ⟨h1, fun j hj => by
        rcases Nat.lt_or_ge j i with h | h
        · exact h2 j h
        · have : j = i := by omega
          subst this
          exact hbb⟩) id)
      exact ⟨most', g1, g2, fun rest X hP hN => lw_seg (mxNo w v5 v6 F O ln vp vl vd vo n near likes (L.map dB) (deg.map dI) out k most i hlt (by omega) (getMapB hbb) rest X hP hN) (g3 rest X hP hN)⟩
    | true =>
      have hbb : L[i]? = some true := by rw [List.getElem?_eq_getElem hl, hb]
      have here : ∃ most' : Int, 0 ≤ most' ∧ L[most'.toNat]? = some true ∧ ∀ (rest : Heap) (X : Fix), X.P = Try.prog → X.N = 148 →
          LW X (loopOf Try.prog 70 12) ⟨envOf (mxL vp vl n v5 ln v6 O k (i : Int) (i + 1)), ovl (oE w v5 v6 F vp vl vd vo n near likes (L.map dB) (deg.map dI) out) rest⟩ fun e' S' => e' = .exit 4 ∧ S' = ⟨envOf [(0, pPtr vp), (1, dI k), (5, outV v6 O), (6, fewV v5 ln), (8, dI most')], ovl (oE w v5 v6 F vp vl vd vo n near likes (L.map dB) (deg.map dI) out) rest⟩ :=
        mxLoop w v5 v6 F O ln vp vl vd vo n near likes L hL out deg hd hn k hex m (i + 1) (i : Int) (by omega) (by omega) (.inr ⟨by omega, by simpa using hbb⟩)
      rcases hinv with ⟨rfl, hno⟩ | ⟨h0, h1⟩
      · obtain ⟨most', g1, g2, g3⟩ := here
        exact ⟨most', g1, g2, fun rest X hP hN => lw_seg (mxFirst w v5 v6 F O ln vp vl vd vo n near likes (L.map dB) (deg.map dI) out k (-1) i hlt (by omega) (getMapB hbb) (by decide) rest X hP hN) (g3 rest X hP hN)⟩
      · have hmn : most.toNat < n := by have := (List.getElem?_eq_some_iff.1 h1).1; omega
        have hmd : most.toNat < deg.length := by omega
        by_cases ht : deg[most.toNat] < deg[i]
        · obtain ⟨most', g1, g2, g3⟩ := here
          exact ⟨most', g1, g2, fun rest X hP hN => lw_seg (mxMore w v5 v6 F O ln vp vl vd vo n near likes (L.map dB) (deg.map dI) out k most i hlt (by omega) (getMapB hbb) h0 hmn deg[most.toNat] deg[i] (getMap hmd) (getMap hj) (by simpa using h0) (by simpa using ht) rest X hP hN) (g3 rest X hP hN)⟩
        · obtain ⟨most', g1, g2, g3⟩ := mxLoop w v5 v6 F O ln vp vl vd vo n near likes L hL out deg hd hn k hex m (i + 1) most (by omega) (by omega) (.inr ⟨h0, h1⟩)
          exact ⟨most', g1, g2, fun rest X hP hN => lw_seg (mxLess w v5 v6 F O ln vp vl vd vo n near likes (L.map dB) (deg.map dI) out k most i hlt (by omega) (getMapB hbb) h0 hmn deg[most.toNat] deg[i] (getMap hmd) (getMap hj) (by simpa using h0) (by simpa using ht) rest X hP hN) (g3 rest X hP hN)⟩
end Go.Avm
/-
  Paint: neighbours that have few neighbours now.
-/
set_option linter.unusedSectionVars false
namespace Go.Avm
open Go.Proofs

def nbL (vp v5 ln v6 : Nat) (O : List Int) (k : Int) (R : List Int) (i : Nat) : List (Nat × AV) := [(0, pPtr vp), (1, dI k), (5, outV v6 O), (6, fewV v5 ln), (117, .d (rowD R)), (118, dN R.length), (119, dN i)]
def hEqI (P : Program) (a b : Int) (t : Bool) (h : (a == b) = t) : Hint P := .val (dB (a == b)) (dB t) (by rw [h])
section
variable (w v5 v6 : Nat) (F O : List Int) (ln : Nat) (vp vl vd vo n : Nat) (near likes : D) (left deg out : List AV) (k : Int) (R : List Int) (i : Nat)
noncomputable def nbPr (hi : i < R.length) (hs : i < 9223372036854775807) (h0 : 0 ≤ R[i]) (h1 : R[i].toNat < n) (b : Bool) (hb : left[0 + R[i].toNat]? = some (dB b)) (hint2 : Nat → Option (Hint Try.prog)) : Par Try.prog :=
  { hint := fun f s => if f = 70 then (if s = 120 then some (hLt Try.prog i R.length true (by simpa using hi)) else if s = 121 then some (.idx (R.map fun x => .int .i64 x) ((i : Nat) : Int) (.int .i64 R[i]) (by omega) (getI hi)) else if s = 128 then some (.inb R[i] n h0 h1) else if s = 129 then some (.elt left (0 + R[i].toNat) (dB b) hb)
      else if s = 146 then some (hSucc Try.prog i hs) else hint2 s) else none }
theorem nbNo (hi : i < R.length) (hs : i < 9223372036854775807) (h0 : 0 ≤ R[i]) (h1 : R[i].toNat < n) (hb : left[0 + R[i].toNat]? = some (dB false)) (rest : Heap) (X : Fix) (hP : X.P = Try.prog) (hN : X.N = 148) :
    AW X (loopOf Try.prog 70 24) ⟨envOf (nbL vp v5 ln v6 O k R i), ovl (oE w v5 v6 F vp vl vd vo n near likes left deg out) rest⟩ fun e' S' => e' = .normal ∧ Weak X S' ⟨envOf (nbL vp v5 ln v6 O k R (i + 1)), ovl (oE w v5 v6 F vp vl vd vo n near likes left deg out) rest⟩ :=
  seg okP named (nbPr n left R i hi hs h0 h1 false hb fun _ => none) 1000 70 500000 148 (by kernel_rfl) X hP hN
theorem nbUnlike (hi : i < R.length) (hs : i < 9223372036854775807) (h0 : 0 ≤ R[i]) (h1 : R[i].toNat < n) (hb : left[0 + R[i].toNat]? = some (dB true)) (d : Int) (hd : deg[0 + R[i].toNat]? = some (dI d)) (he : (d == IntKind.i64.wrap (k - 1)) = false) (rest : Heap) (X : Fix) (hP : X.P = Try.prog) (hN : X.N = 148) :
    AW X (loopOf Try.prog 70 24) ⟨envOf (nbL vp v5 ln v6 O k R i), ovl (oE w v5 v6 F vp vl vd vo n near likes left deg out) rest⟩ fun e' S' => e' = .normal ∧ Weak X S' ⟨envOf (nbL vp v5 ln v6 O k R (i + 1)), ovl (oE w v5 v6 F vp vl vd vo n near likes left deg out) rest⟩ :=
  seg okP named (nbPr n left R i hi hs h0 h1 true hb fun s => if s = 136 then some (.inb R[i] n h0 h1) else if s = 137 then some (.elt deg (0 + R[i].toNat) (dI d) hd) else if s = 140 then some (hEqI Try.prog d _ false he) else none) 1000 70 500000 148 (by kernel_rfl) X hP hN
theorem nbPush (hi : i < R.length) (hs : i < 9223372036854775807) (h0 : 0 ≤ R[i]) (h1 : R[i].toNat < n) (hb : left[0 + R[i].toNat]? = some (dB true)) (d : Int) (hd : deg[0 + R[i].toNat]? = some (dI d)) (he : (d == IntKind.i64.wrap (k - 1)) = true) (hF : ln ≤ (F.map dI).length ∧ ln + 1 ≤ 549755813888) (rest : Heap) (X : Fix) (hP : X.P = Try.prog) (hN : X.N = 148) :
    AW X (loopOf Try.prog 70 24) ⟨envOf (nbL vp v5 ln v6 O k R i), ovl (oE w v5 v6 F vp vl vd vo n near likes left deg out) rest⟩ fun e' S' => e' = .normal ∧
      Weak X S' ⟨envOf (nbL vp (v5 + 1) (ln + 1) v6 O k R (i + 1)), ovl (oE (w + 1) (v5 + 1) v6 (F.take ln ++ [R[i]]) vp vl vd vo n near likes left deg out) rest⟩ := by
  unfold oE
  rw [← appF]
  exact seg okP named (nbPr n left R i hi hs h0 h1 true hb fun s => if s = 136 then some (.inb R[i] n h0 h1) else if s = 137 then some (.elt deg (0 + R[i].toNat) (dI d) hd) else if s = 140 then some (hEqI Try.prog d _ true he) else if s = 145 then some (.apps (F.map dI) ln 1 hF) else none) 1000 70 (502105 - 144 - 148 * 25) 148 (by kernel_rfl) X hP hN
theorem nbStop (rest : Heap) (X : Fix) (hP : X.P = Try.prog) (hN : X.N = 148) :
    AW X (loopOf Try.prog 70 24) ⟨envOf (nbL vp v5 ln v6 O k R R.length), ovl (oE w v5 v6 F vp vl vd vo n near likes left deg out) rest⟩ fun e' S' => e' = .exit 6 ∧ Weak X S' ⟨envOf [(0, pPtr vp), (1, dI k), (5, outV v6 O), (6, fewV v5 ln)], ovl (oE w v5 v6 F vp vl vd vo n near likes left deg out) rest⟩ :=
  seg okP named { hint := fun f s => if f = 70 then (if s = 120 then some (hLt Try.prog R.length R.length false (by simp)) else none) else none } 1000 70 500000 148 (by kernel_rfl) X hP hN
end
theorem nbLoop (v6 vp vl vd vo n : Nat) (near likes : D) (L : List Bool) (hL : L.length = n) (out : List AV) (deg : List Int) (hd : deg.length = n) (k : Int) (R O : List Int) (hR : ∀ y ∈ R, 0 ≤ y ∧ y.toNat < n) (hl : R.length < 1099511627776) :
    ∀ (m i w v5 : Nat) (F : List Int) (ln : Nat), R.length - i = m → i ≤ R.length → ln ≤ F.length → ln + m ≤ 549755813888 → (∀ x ∈ F, 0 ≤ x ∧ x.toNat < n) →
    ∃ (w' v5' : Nat) (F' : List Int) (ln' : Nat), ln' ≤ F'.length ∧ ln' ≤ ln + m ∧ (∀ x ∈ F', 0 ≤ x ∧ x.toNat < n) ∧ ∀ (rest : Heap) (X : Fix), X.P = Try.prog → X.N = 148 →
      LW X (loopOf Try.prog 70 24) ⟨envOf (nbL vp v5 ln v6 O k R i), ovl (oE w v5 v6 F vp vl vd vo n near likes (L.map dB) (deg.map dI) out) rest⟩ fun e' S' => e' = .exit 6 ∧ S' = ⟨envOf [(0, pPtr vp), (1, dI k), (5, outV v6 O), (6, fewV v5' ln')], ovl (oE w' v5' v6 F' vp vl vd vo n near likes (L.map dB) (deg.map dI) out) rest⟩
  | 0, i, w, v5, F, ln, hm, hi, hF, hb, hr => by
    have : i = R.length := by omega
    subst this
    exact ⟨w, v5, F, ln, hF, by omega, hr, fun rest X hP hN => lw_end (nbStop w v5 v6 F O ln vp vl vd vo n near likes (L.map dB) (deg.map dI) out k R rest X hP hN) (by simp)⟩
  | m + 1, i, w, v5, F, ln, hm, hi, hF, hb, hr => by
    have hlt : i < R.length := by omega
    obtain ⟨h0, h1⟩ := hR R[i] (List.getElem_mem hlt)
    have hj : R[i].toNat < L.length := by omega
    have hd' : R[i].toNat < deg.length := by omega
    have hFF : ln ≤ (F.map dI).length ∧ ln + 1 ≤ 549755813888 := ⟨by simpa using hF, by omega⟩
    cases hbb : L[R[i].toNat] with
    | false =>
      have hb2 : L[R[i].toNat]? = some false := by rw [List.getElem?_eq_getElem hj, hbb]
      obtain ⟨w', v5', F', ln', g1, g2, g3, g4⟩ := nbLoop v6 vp vl vd vo n near likes L hL out deg hd k R O hR hl m (i + 1) w v5 F ln (by omega) (by omega) hF (by omega) hr
      exact ⟨w', v5', F', ln', g1, by omega, g3, fun rest X hP hN => lw_seg (nbNo w v5 v6 F O ln vp vl vd vo n near likes (L.map dB) (deg.map dI) out k R i hlt (by omega) h0 h1 (getMapB hb2) rest X hP hN) (g4 rest X hP hN)⟩
    | true =>
      have hb2 : L[R[i].toNat]? = some true := by rw [List.getElem?_eq_getElem hj, hbb]
      cases he : (deg[R[i].toNat] == IntKind.i64.wrap (k - 1)) with
      | false =>
        obtain ⟨w', v5', F', ln', g1, g2, g3, g4⟩ := nbLoop v6 vp vl vd vo n near likes L hL out deg hd k R O hR hl m (i + 1) w v5 F ln (by omega) (by omega) hF (by omega) hr
        exact ⟨w', v5', F', ln', g1, by omega, g3, fun rest X hP hN => lw_seg (nbUnlike w v5 v6 F O ln vp vl vd vo n near likes (L.map dB) (deg.map dI) out k R i hlt (by omega) h0 h1 (getMapB hb2) deg[R[i].toNat] (getMap hd') he rest X hP hN) (g4 rest X hP hN)⟩
      | true =>
        obtain ⟨w', v5', F', ln', g1, g2, g3, g4⟩ := nbLoop v6 vp vl vd vo n near likes L hL out deg hd k R O hR hl m (i + 1) (w + 1) (v5 + 1) (F.take ln ++ [R[i]]) (ln + 1) (by omega) (by omega) (by simp; omega) (by omega) (fun x hx => by
          rcases mem_take_app hx with h | h
          · exact hr x h
          · subst h; exact ⟨h0, h1⟩)
        exact ⟨w', v5', F', ln', g1, by omega, g3, fun rest X hP hN => lw_seg (nbPush w v5 v6 F O ln vp vl vd vo n near likes (L.map dB) (deg.map dI) out k R i hlt (by omega) h0 h1 (getMapB hb2) deg[R[i].toNat] (getMap hd') he hFF rest X hP hN) (g4 rest X hP hN)⟩
end Go.Avm
/-
  Paint: a round of order.
-/
set_option linter.unusedSectionVars false
namespace Go.Avm
open Go.Proofs

def odL (vp v5 ln v6 : Nat) (O : List Int) (k : Int) : List (Nat × AV) := [(0, pPtr vp), (1, dI k), (5, outV v6 O), (6, fewV v5 ln)]
def odE (w2 w v5 v6 : Nat) (F : List Int) (vp vl vd vo n : Nat) (near likes : D) (left deg out : List AV) : List (Nat × Ent) := (497935, ⟨w2, none⟩) :: oE w v5 v6 F vp vl vd vo n near likes left deg out
def hPred (P : Program) (m : Nat) (h : m < 1099511627776) : Hint P := .val (dI (IntKind.i64.wrap (((m + 1 : Nat) : Int) - 1))) (dN m) (by
  unfold dI
  congr 2
  rw [IntWalk.i64_in _ (by omega)]
  omega)
theorem appO (O : List Int) (x : Int) : (O.map fun y => D.int .i64 y) ++ [D.int .i64 x] = (O ++ [x]).map fun y => D.int .i64 y := by simp

section
variable (w2 w v5 v6 m : Nat) (F O : List Int) (vp vl vd vo n : Nat) (rows : List (List Int)) (likes : D) (L : List Bool) (deg : List Int) (out : List AV) (k x : Int)
noncomputable def odPr (hO : O.length < n) (hm : m < 1099511627776) (hF : (F.map dI)[0 + m]? = some (dI x)) (h0 : 0 ≤ x) (h1 : x.toNat < n) (b : Bool) (hb : (L.map dB)[0 + x.toNat]? = some (dB b)) (hint2 : Nat → Option (Hint Try.prog)) : Par Try.prog :=
  { hint := fun f s => if f = 70 then (if s = 37 then some (hLen Try.prog O) else if s = 43 then some (hLt Try.prog O.length n true (by simpa using hO)) else if s = 46 then some (hEqI Try.prog ((m + 1 : Nat) : Int) 0 false (by simp; omega)) else if s = 88 then some (hPred Try.prog m hm)
      else if s = 89 then some (.inb ((m : Nat) : Int) (m + 1) (by omega) (by omega)) else if s = 90 then some (.elt (F.map dI) (0 + m) (dI x) hF) else if s = 94 then some (hPred Try.prog m hm) else if s = 95 then some (.cuts (m + 1) m (by omega)) else if s = 101 then some (.inb x n h0 h1) else if s = 102 then some (.elt (L.map dB) (0 + x.toNat) (dB b) hb) else hint2 s) else none }
theorem odSkip (hO : O.length < n) (hm : m < 1099511627776) (hF : (F.map dI)[0 + m]? = some (dI x)) (h0 : 0 ≤ x) (h1 : x.toNat < n) (hb : (L.map dB)[0 + x.toNat]? = some (dB false)) (rest : Heap) (X : Fix) (hP : X.P = Try.prog) (hN : X.N = 148) :
    AW X (loopOf Try.prog 70 8) ⟨envOf (odL vp v5 (m + 1) v6 O k), ovl (odE w2 w v5 v6 F vp vl vd vo n (rowsD rows) likes (L.map dB) (deg.map dI) out) rest⟩ fun e' S' => e' = .normal ∧
      Weak X S' ⟨envOf (odL vp v5 m v6 O k), ovl (odE w2 w v5 v6 F vp vl vd vo n (rowsD rows) likes (L.map dB) (deg.map dI) out) rest⟩ :=
  seg okP named (odPr m F O n L x hO hm hF h0 h1 false hb fun _ => none) 1000 70 500000 148 (by kernel_rfl) X hP hN
noncomputable def odTk (deg' : List Int) (hO2 : (O.map fun y => D.int .i64 y).length + 1 ≤ 549755813888) (R : List Int) (h0 : 0 ≤ x) (hr : (rows.map rowD)[x.toNat]? = some (rowD R)) : Nat → Option (Hint Try.prog) := fun s =>
  if s = 110 then some (.app (O.map fun y => D.int .i64 y) 1 hO2) else if s = 116 then some (.idx (rows.map rowD) x (rowD R) h0 hr) else if s = 118 then some (hLen Try.prog R) else none
noncomputable def odCall (deg' : List Int) (hC : ∀ rest : Heap, HCall Try.prog 99 [pPtr vp, dI x] (ovl (pEnt vp vl vd vo n (rowsD rows) likes (L.map dB) (deg.map dI) out) rest) [] (ovl (pEnt vp vl vd vo n (rowsD rows) likes ((L.set x.toNat false).map dB) (deg'.map dI) out) rest)) : Nat → Nat → Nat → Option (CHint Try.prog) := fun f s _ =>
  if f = 70 then (if s = 106 then some ⟨99, [pPtr vp, dI x], pEnt vp vl vd vo n (rowsD rows) likes (L.map dB) (deg.map dI) out, [], pEnt vp vl vd vo n (rowsD rows) likes ((L.set x.toNat false).map dB) (deg'.map dI) out, fits_of hC⟩ else none) else none
def nbLo (vp v5 ln : Nat) (o : AV) (k : Int) (R : List Int) : List (Nat × AV) := [(0, pPtr vp), (1, dI k), (5, o), (6, fewV v5 ln), (117, .d (rowD R)), (118, dN R.length), (119, dN 0)]
noncomputable def nbH (w v5 v6 ln : Nat) (F : List Int) (o : AV) (vp vl vd vo n : Nat) (near likes : D) (left deg out : List AV) (k : Int) (R : List Int) (w' v5' : Nat) (F' : List Int) (ln' : Nat)
    (h : ∀ (rest : Heap) (X : Fix), X.P = Try.prog → X.N = 148 → LW X (loopOf Try.prog 70 24) ⟨envOf (nbLo vp v5 ln o k R), ovl (oE w v5 v6 F vp vl vd vo n near likes left deg out) rest⟩ fun e' S' => e' = .exit 6 ∧ S' = ⟨envOf [(0, pPtr vp), (1, dI k), (5, o), (6, fewV v5' ln')], ovl (oE w' v5' v6 F' vp vl vd vo n near likes left deg out) rest⟩) : LHint Try.prog :=
  ⟨148, loopOf Try.prog 70 24, nbLo vp v5 ln o k R, fun _ => oE w v5 v6 F vp vl vd vo n near likes left deg out, .exit 6, [(0, pPtr vp), (1, dI k), (5, o), (6, fewV v5' ln')], fun _ => oE w' v5' v6 F' vp vl vd vo n near likes left deg out, fun rest X hP hN => (h rest X hP hN).aw⟩
def odLo (vp v5 ln : Nat) (o : AV) (k : Int) : List (Nat × AV) := [(0, pPtr vp), (1, dI k), (5, o), (6, fewV v5 ln)]
abbrev outA (v6 : Nat) (O : List Int) (x : Int) : AV := .vec 16 v6 1 ((O.map fun y => D.int .i64 y) ++ [D.int .i64 x])
theorem outA_eq (v6 : Nat) (O : List Int) (x : Int) : outA v6 O x = outV v6 (O ++ [x]) := by
  unfold outA outV
  rw [appO]
theorem odTake (hO : O.length < n) (hn : n ≤ 60000) (hm : m + 4000000 ≤ 549755813000) (hF : (F.map dI)[0 + m]? = some (dI x)) (hmF : m ≤ F.length) (hFr : ∀ y ∈ F, 0 ≤ y ∧ y.toNat < n) (h0 : 0 ≤ x) (h1 : x.toNat < n) (hb : (L.map dB)[0 + x.toNat]? = some (dB true)) (hL : L.length = n) (hd : deg.length = n) (hrl : rows.length = n)
    (M : Nat) (hM : M ≤ 4000000) (hR : ∀ R ∈ rows, (∀ y ∈ R, 0 ≤ y ∧ y.toNat < n) ∧ R.length ≤ M) :
    ∃ (w2' w' v5' v6' : Nat) (F' : List Int) (ln' : Nat) (deg' : List Int), deg'.length = n ∧ ln' ≤ F'.length ∧ ln' ≤ m + M ∧ (∀ y ∈ F', 0 ≤ y ∧ y.toNat < n) ∧ ∀ (rest : Heap) (X : Fix), X.P = Try.prog → X.N = 148 →
    AW X (loopOf Try.prog 70 8) ⟨envOf (odL vp v5 (m + 1) v6 O k), ovl (odE w2 w v5 v6 F vp vl vd vo n (rowsD rows) likes (L.map dB) (deg.map dI) out) rest⟩ fun e' S' => e' = .normal ∧
      Weak X S' ⟨envOf (odL vp v5' ln' v6' (O ++ [x]) k), ovl (odE w2' w' v5' v6' F' vp vl vd vo n (rowsD rows) likes ((L.set x.toNat false).map dB) (deg'.map dI) out) rest⟩ := by
  have hi : x.toNat < rows.length := by omega
  obtain ⟨deg', g1, g2⟩ := takeC vp vl vd vo n likes rows (L.map dB) deg out x h0 h1 (by simpa using hL) hd hrl (fun R h => ⟨(hR R h).1, by have := (hR R h).2; omega⟩)
  rw [mapSetB] at g2
  obtain ⟨r1, r2⟩ := hR rows[x.toNat] (List.getElem_mem hi)
  have hr : (rows.map rowD)[x.toNat]? = some (rowD rows[x.toNat]) := by simp [hi]
  generalize rows[x.toNat] = R at r1 r2 hr
  obtain ⟨w', v5', F', ln', q1, q2, q3, q4⟩ := nbLoop (v6 + 1) vp vl vd vo n (rowsD rows) likes (L.set x.toNat false) (by simpa using hL) out deg' g1 k R (O ++ [x]) r1 (by omega) R.length 0 (w + 1) v5 F m rfl (Nat.zero_le _) hmF (by omega) hFr
  refine ⟨w2, w', v5', v6 + 1, F', ln', deg', g1, q1, by omega, q3, fun rest X hP hN => ?_⟩
  have hO2 : (O.map fun y => D.int .i64 y).length + 1 ≤ 549755813888 := by simp; omega
  have hm' : m < 1099511627776 := by omega
  have e1 : nbL vp v5 m (v6 + 1) (O ++ [x]) k R 0 = nbLo vp v5 m (outA (v6 + 1) O x) k R := by rw [outA_eq]; rfl
  have e2 : odL vp v5' ln' (v6 + 1) (O ++ [x]) k = odLo vp v5' ln' (outA (v6 + 1) O x) k := by rw [outA_eq]; rfl
  rw [e1, ← outA_eq] at q4
  rw [e2]
  exact seg okP named { odPr m F O n L x hO hm' hF h0 h1 true hb (odTk O rows x deg' hO2 R h0 hr) with
    calls := odCall vp vl vd vo n rows likes L deg out x deg' g2
    loops := fun f r => if f = 70 then (if r = 24 then some (nbH (w + 1) v5 (v6 + 1) m F (outA (v6 + 1) O x) vp vl vd vo n (rowsD rows) likes ((L.set x.toNat false).map dB) (deg'.map dI) out k R w' v5' F' ln' q4) else none) else none } 1000 70 (502105 - 109 - 148 * 36) 148 (by kernel_rfl) X hP hN
def mxLo (vp vl n v5 : Nat) (o : AV) (k : Int) (most : Int) (i : Nat) : List (Nat × AV) := [(0, pPtr vp), (1, dI k), (5, o), (6, fewV v5 0), (8, dI most), (50, .sl 701180 vl 0 n 1), (51, dN n), (52, dN i)]
noncomputable def mxH (w v5 v6 : Nat) (F O : List Int) (vp vl vd vo n : Nat) (near likes : D) (left deg out : List AV) (k most : Int)
    (h : ∀ (rest : Heap) (X : Fix), X.P = Try.prog → X.N = 148 → LW X (loopOf Try.prog 70 12) ⟨envOf (mxL vp vl n v5 0 v6 O k (-1) 0), ovl (oE w v5 v6 F vp vl vd vo n near likes left deg out) rest⟩ fun e' S' => e' = .exit 4 ∧ S' = ⟨envOf [(0, pPtr vp), (1, dI k), (5, outV v6 O), (6, fewV v5 0), (8, dI most)], ovl (oE w v5 v6 F vp vl vd vo n near likes left deg out) rest⟩) : LHint Try.prog :=
  ⟨148, loopOf Try.prog 70 12, mxL vp vl n v5 0 v6 O k (-1) 0, fun _ => oE w v5 v6 F vp vl vd vo n near likes left deg out, .exit 4, [(0, pPtr vp), (1, dI k), (5, outV v6 O), (6, fewV v5 0), (8, dI most)], fun _ => oE w v5 v6 F vp vl vd vo n near likes left deg out, fun rest X hP hN => (h rest X hP hN).aw⟩
noncomputable def odPr0 (hO : O.length < n) (h0 : 0 ≤ x) (h1 : x.toNat < n) (b : Bool) (hb : (L.map dB)[0 + x.toNat]? = some (dB b)) (hint2 : Nat → Option (Hint Try.prog)) : Par Try.prog :=
  { hint := fun f s => if f = 70 then (if s = 37 then some (hLen Try.prog O) else if s = 43 then some (hLt Try.prog O.length n true (by simpa using hO))
      else if s = 84 then some (.apps (F.map dI) 0 1 ⟨Nat.zero_le _, by omega⟩) else if s = 101 then some (.inb x n h0 h1) else if s = 102 then some (.elt (L.map dB) (0 + x.toNat) (dB b) hb) else hint2 s) else none }
theorem odFirst (hO : O.length < n) (hn : n ≤ 60000) (hex : ∃ j : Nat, L[j]? = some true) (hL : L.length = n) (hd : deg.length = n) (hrl : rows.length = n)
    (M : Nat) (hM : M ≤ 4000000) (hR : ∀ R ∈ rows, (∀ y ∈ R, 0 ≤ y ∧ y.toNat < n) ∧ R.length ≤ M) :
    ∃ (x : Int) (w2' w' v5' v6' : Nat) (F' : List Int) (ln' : Nat) (deg' : List Int), 0 ≤ x ∧ L[x.toNat]? = some true ∧ deg'.length = n ∧ ln' ≤ F'.length ∧ ln' ≤ M ∧ (∀ y ∈ F', 0 ≤ y ∧ y.toNat < n) ∧ ∀ (rest : Heap) (X : Fix), X.P = Try.prog → X.N = 148 →
    AW X (loopOf Try.prog 70 8) ⟨envOf (odL vp v5 0 v6 O k), ovl (odE w2 w v5 v6 F vp vl vd vo n (rowsD rows) likes (L.map dB) (deg.map dI) out) rest⟩ fun e' S' => e' = .normal ∧
      Weak X S' ⟨envOf (odL vp v5' ln' v6' (O ++ [x]) k), ovl (odE w2' w' v5' v6' F' vp vl vd vo n (rowsD rows) likes ((L.set x.toNat false).map dB) (deg'.map dI) out) rest⟩ := by
  obtain ⟨x, h0, hb, hmx⟩ := mxLoop w v5 v6 F O 0 vp vl vd vo n (rowsD rows) likes L hL out deg hd hn k hex n 0 (-1) (by omega) (Nat.zero_le _) (.inl ⟨rfl, fun j hj => by omega⟩)
  have h1 : x.toNat < n := by have := (List.getElem?_eq_some_iff.1 hb).1; omega
  have hi : x.toNat < rows.length := by omega
  obtain ⟨deg', g1, g2⟩ := takeC vp vl vd vo n likes rows (L.map dB) deg out x h0 h1 (by simpa using hL) hd hrl (fun R h => ⟨(hR R h).1, by have := (hR R h).2; omega⟩)
  rw [mapSetB] at g2
  obtain ⟨r1, r2⟩ := hR rows[x.toNat] (List.getElem_mem hi)
  have hr : (rows.map rowD)[x.toNat]? = some (rowD rows[x.toNat]) := by simp [hi]
  generalize rows[x.toNat] = R at r1 r2 hr
  obtain ⟨w', v5', F', ln', q1, q2, q3, q4⟩ := nbLoop (v6 + 1) vp vl vd vo n (rowsD rows) likes (L.set x.toNat false) (by simpa using hL) out deg' g1 k R (O ++ [x]) r1 (by omega) R.length 0 (w + 1) (v5 + 1) [x] 0 rfl (Nat.zero_le _) (Nat.zero_le _) (by omega) (fun y hy => by
    rw [List.mem_singleton] at hy
    subst hy
    exact ⟨h0, h1⟩)
  refine ⟨x, w2 + 1, w', v5', v6 + 1, F', ln', deg', h0, hb, g1, q1, by omega, q3, fun rest X hP hN => ?_⟩
  have hO2 : (O.map fun y => D.int .i64 y).length + 1 ≤ 549755813888 := by simp; omega
  have e1 : nbL vp (v5 + 1) 0 (v6 + 1) (O ++ [x]) k R 0 = nbLo vp (v5 + 1) 0 (outA (v6 + 1) O x) k R := by rw [outA_eq]; rfl
  have e2 : odL vp v5' ln' (v6 + 1) (O ++ [x]) k = odLo vp v5' ln' (outA (v6 + 1) O x) k := by rw [outA_eq]; rfl
  rw [e1, ← outA_eq] at q4
  rw [e2]
  exact seg okP named { odPr0 F O n L x hO h0 h1 true (getMapB hb) (odTk O rows x deg' hO2 R h0 hr) with
    calls := odCall vp vl vd vo n rows likes L deg out x deg' g2
    loops := fun f r => if f = 70 then (if r = 12 then some (mxH w v5 v6 F O vp vl vd vo n (rowsD rows) likes (L.map dB) (deg.map dI) out k x hmx)
      else if r = 24 then some (nbH (w + 1) (v5 + 1) (v6 + 1) 0 [x] (outA (v6 + 1) O x) vp vl vd vo n (rowsD rows) likes ((L.set x.toNat false).map dB) (deg'.map dI) out k R w' v5' F' ln' q4) else none) else none } 1000 70 (502105 - 109 - 148 * 48) 148 (by kernel_rfl) X hP hN
end
end Go.Avm
/-
  Paint: order.
-/
set_option linter.unusedSectionVars false
namespace Go.Avm
open Go.Proofs

theorem nodup_len_le {l1 l2 : List Int} (nd : l1.Nodup) (sub : ∀ x ∈ l1, x ∈ l2) : l1.length ≤ l2.length := by
  induction l1 generalizing l2 with
  | nil => exact Nat.zero_le _
  | cons a l1 ih =>
    rw [List.nodup_cons] at nd
    have ha : a ∈ l2 := sub a (by simp)
    have h2 := ih (l2 := l2.erase a) nd.2 (fun x hx => (List.mem_erase_of_ne (by rintro rfl; exact nd.1 hx)).2 (sub x (by simp [hx])))
    rw [List.length_erase_of_mem ha] at h2
    have : 0 < l2.length := List.length_pos_of_mem ha
    simp only [List.length_cons]
    omega
def nodesI (n : Nat) : List Int := (List.range n).map fun (i : Nat) => (i : Int)
theorem mem_nodesI {n : Nat} {x : Int} : x ∈ nodesI n ↔ 0 ≤ x ∧ x.toNat < n := by
  unfold nodesI
  rw [List.mem_map]
  constructor
  · rintro ⟨i, hi, rfl⟩
    have := List.mem_range.1 hi
    exact ⟨by omega, by simpa using this⟩
  · rintro ⟨h0, h1⟩
    exact ⟨x.toNat, List.mem_range.2 h1, by omega⟩
theorem nodup_nodesI (n : Nat) : (nodesI n).Nodup := by
  unfold nodesI List.Nodup
  rw [List.pairwise_map]
  exact (List.nodup_range (n := n)).imp (fun h e => h (by omega))
theorem len_nodesI (n : Nat) : (nodesI n).length = n := by simp [nodesI]
theorem some_free {O : List Int} {n : Nat} (hlt : O.length < n) : ∃ j : Nat, j < n ∧ (j : Int) ∉ O := by
  apply Classical.byContradiction
  intro hno
  have := nodup_len_le (nodup_nodesI n) (l2 := O) (fun x hx => by
    rw [mem_nodesI] at hx
    apply Classical.byContradiction
    intro hx2
    exact hno ⟨x.toNat, hx.2, by rw [show ((x.toNat : Nat) : Int) = x by omega]; exact hx2⟩)
  rw [len_nodesI] at this
  omega
theorem all_in {O : List Int} {n : Nat} (nd : O.Nodup) (hr : ∀ x ∈ O, 0 ≤ x ∧ x.toNat < n) (hl : O.length = n) {x : Int} (h0 : 0 ≤ x) (h1 : x.toNat < n) : x ∈ O := by
  apply Classical.byContradiction
  intro hno
  have := nodup_len_le (l1 := x :: O) (l2 := nodesI n) (List.nodup_cons.2 ⟨hno, nd⟩) (fun y hy => by
    rw [mem_nodesI]
    rcases List.mem_cons.1 hy with rfl | hy
    · exact ⟨h0, h1⟩
    · exact hr y hy)
  rw [len_nodesI, List.length_cons] at this
  omega
theorem len_le {O : List Int} {n : Nat} (nd : O.Nodup) (hr : ∀ x ∈ O, 0 ≤ x ∧ x.toNat < n) : O.length ≤ n := by
  have := nodup_len_le nd (l2 := nodesI n) (fun x hx => mem_nodesI.2 (hr x hx))
  rwa [len_nodesI] at this

/-- What is left and what was taken. -/
structure OrdOk (n : Nat) (O : List Int) (L : List Bool) (deg : List Int) : Prop where
  nd : O.Nodup
  rng : ∀ x ∈ O, 0 ≤ x ∧ x.toNat < n
  ll : L.length = n
  dl : deg.length = n
  rel : ∀ i, i < n → L[i]? = some (decide ((i : Int) ∉ O))
theorem OrdOk.take {n : Nat} {O : List Int} {L : List Bool} {deg deg' : List Int} {x : Int} (h : OrdOk n O L deg) (h0 : 0 ≤ x) (h1 : x.toNat < n) (hb : L[x.toNat]? = some true) (hd : deg'.length = n) : OrdOk n (O ++ [x]) (L.set x.toNat false) deg' := by
  have hno : x ∉ O := by
    have := h.rel x.toNat h1
    rw [hb, show ((x.toNat : Nat) : Int) = x by omega] at this
    simpa using this
  refine ⟨?_, fun y hy => ?_, by simpa using h.ll, hd, fun i hi => ?_⟩
  · rw [List.nodup_append]
    refine ⟨h.nd, by simp, fun a ha b hb => ?_⟩
    rw [List.mem_singleton] at hb
    subst hb
    rintro rfl
    exact hno ha
  · rcases List.mem_append.1 hy with hy | hy
    · exact h.rng y hy
    · rw [List.mem_singleton] at hy
      subst hy
      exact ⟨h0, h1⟩
  · rw [List.getElem?_set]
    have hl := h.ll
    by_cases hi2 : x.toNat = i
    · rw [if_pos hi2, if_pos (by omega)]
      have : (i : Int) = x := by omega
      simp [this]
    · rw [if_neg hi2, h.rel i hi]
      have : (i : Int) ≠ x := by omega
      simp [this]

section
variable (w2 w v5 v6 ln : Nat) (F O : List Int) (vp vl vd vo n : Nat) (near likes : D) (left deg out : List AV) (k : Int)
theorem odStop (hO : O.length = n) (rest : Heap) (X : Fix) (hP : X.P = Try.prog) (hN : X.N = 148) :
    AW X (loopOf Try.prog 70 8) ⟨envOf (odL vp v5 ln v6 O k), ovl (odE w2 w v5 v6 F vp vl vd vo n near likes left deg out) rest⟩ fun e' S' => e' = .exit 2 ∧
      Weak X S' ⟨envOf [(5, outV v6 O)], ovl (odE w2 w v5 v6 F vp vl vd vo n near likes left deg out) rest⟩ := by
  subst hO
  exact seg okP named { hint := fun f s => if f = 70 then (if s = 37 then some (hLen Try.prog O) else if s = 43 then some (hLt Try.prog O.length O.length false (by simp)) else none) else none } 1000 70 500000 148 (by kernel_rfl) X hP hN
end
end Go.Avm
/-
  Paint: order's contract.
-/
set_option linter.unusedSectionVars false
namespace Go.Avm
open Go.Proofs

theorem odLoop (vp vl vd vo n : Nat) (rows : List (List Int)) (likes : D) (out : List AV) (k : Int) (hn : n ≤ 60000) (hrl : rows.length = n) (M : Nat) (hM : M ≤ 4000000) (hR : ∀ R ∈ rows, (∀ y ∈ R, 0 ≤ y ∧ y.toNat < n) ∧ R.length ≤ M) :
    ∀ (m ln : Nat) (w2 w v5 v6 : Nat) (F O : List Int) (L : List Bool) (deg : List Int), n - O.length = m → OrdOk n O L deg → ln ≤ F.length → ln ≤ (O.length + 1) * (n + M) → (∀ y ∈ F, 0 ≤ y ∧ y.toNat < n) →
    ∃ (w2' w' v5' v6' : Nat) (F' O' : List Int) (L' : List Bool) (deg' : List Int), OrdOk n O' L' deg' ∧ O'.length = n ∧ ∀ (rest : Heap) (X : Fix), X.P = Try.prog → X.N = 148 →
      LW X (loopOf Try.prog 70 8) ⟨envOf (odL vp v5 ln v6 O k), ovl (odE w2 w v5 v6 F vp vl vd vo n (rowsD rows) likes (L.map dB) (deg.map dI) out) rest⟩ fun e' S' => e' = .exit 2 ∧
        S' = ⟨envOf [(5, outV v6' O')], ovl (odE w2' w' v5' v6' F' vp vl vd vo n (rowsD rows) likes (L'.map dB) (deg'.map dI) out) rest⟩ := by
  intro m
  induction m with
  | zero =>
    intro ln w2 w v5 v6 F O L deg hm ho _ _ _
    have hle := len_le ho.nd ho.rng
    have hO : O.length = n := by omega
    exact ⟨w2, w, v5, v6, F, O, L, deg, ho, hO, fun rest X hP hN => lw_end (odStop w2 w v5 v6 ln F O vp vl vd vo n (rowsD rows) likes (L.map dB) (deg.map dI) out k hO rest X hP hN) (by simp)⟩
  | succ m ihm =>
    intro ln
    induction ln with
    | zero =>
      intro w2 w v5 v6 F O L deg hm ho hF hB hFr
      have hlt : O.length < n := by omega
      obtain ⟨j, hj, hjO⟩ := some_free hlt
      obtain ⟨x, w2', w', v5', v6', F', ln', deg', g0, g1, g2, g3, g4, g5, g6⟩ := odFirst w2 w v5 v6 F O vp vl vd vo n rows likes L deg out k hlt hn ⟨j, by rw [ho.rel j hj]; simp [hjO]⟩ ho.ll ho.dl hrl M hM hR
      have h1 : x.toNat < n := by have := (List.getElem?_eq_some_iff.1 g1).1; have := ho.ll; omega
      have ho2 := ho.take g0 h1 g1 g2
      obtain ⟨a1, a2, a3, a4, F2, O2, L2, deg2, q1, q2, q3⟩ := ihm ln' w2' w' v5' v6' F' (O ++ [x]) (L.set x.toNat false) deg' (by simp; omega) ho2 g3 (by
        rw [List.length_append]
        have : n + M ≤ (O.length + [x].length + 1) * (n + M) := Nat.le_mul_of_pos_left (n + M) (by simp)
        omega) g5
      exact ⟨a1, a2, a3, a4, F2, O2, L2, deg2, q1, q2, fun rest X hP hN => lw_seg (g6 rest X hP hN) (q3 rest X hP hN)⟩
    | succ ln ihl =>
      intro w2 w v5 v6 F O L deg hm ho hF hB hFr
      have hlt : O.length < n := by omega
      have hlnF : ln < F.length := by omega
      obtain ⟨h0, h1⟩ := hFr F[ln] (List.getElem_mem hlnF)
      have hge : (F.map dI)[0 + ln]? = some (dI F[ln]) := getMap hlnF
      have hBB : (O.length + 1) * (n + M) ≤ 60000 * 4060000 := Nat.mul_le_mul (by omega) (by omega)
      have hrel := ho.rel F[ln].toNat h1
      cases hb : decide (((F[ln].toNat : Nat) : Int) ∉ O) with
      | false =>
        rw [hb] at hrel
        obtain ⟨a1, a2, a3, a4, F2, O2, L2, deg2, q1, q2, q3⟩ := ihl w2 w v5 v6 F O L deg hm ho (by omega) (by omega) hFr
        exact ⟨a1, a2, a3, a4, F2, O2, L2, deg2, q1, q2, fun rest X hP hN => lw_seg (odSkip w2 w v5 v6 ln F O vp vl vd vo n rows likes L deg out k F[ln] hlt (by omega) hge h0 h1 (getMapB hrel) rest X hP hN) (q3 rest X hP hN)⟩
      | true =>
        rw [hb] at hrel
        obtain ⟨w2', w', v5', v6', F', ln', deg', g2, g3, g4, g5, g6⟩ := odTake w2 w v5 v6 ln F O vp vl vd vo n rows likes L deg out k F[ln] hlt hn (by omega) hge (by omega) hFr h0 h1 (getMapB hrel) ho.ll ho.dl hrl M hM hR
        have ho2 := ho.take h0 h1 hrel g2
        obtain ⟨a1, a2, a3, a4, F2, O2, L2, deg2, q1, q2, q3⟩ := ihm ln' w2' w' v5' v6' F' (O ++ [F[ln]]) (L.set F[ln].toNat false) deg' (by simp; omega) ho2 g3 (by
          rw [List.length_append]
          have : (O.length + [F[ln]].length + 1) * (n + M) = (O.length + 1) * (n + M) + (n + M) := by
            rw [List.length_singleton, Nat.add_mul (O.length + 1) 1 (n + M)]; omega
          omega) g5
        exact ⟨a1, a2, a3, a4, F2, O2, L2, deg2, q1, q2, fun rest X hP hN => lw_seg (g6 rest X hP hN) (q3 rest X hP hN)⟩

def odHp (w2 w v5 v6 : Nat) (vp vl vd vo n : Nat) (near likes : D) (left deg out : List AV) : List (Nat × Ent) := (497935, ⟨w2, none⟩) :: (502105, ⟨w, none⟩) :: (15, ⟨v5, none⟩) :: (16, ⟨v6, none⟩) :: pEnt vp vl vd vo n near likes left deg out
theorem OrdOk.start {n : Nat} {deg : List Int} (hd : deg.length = n) : OrdOk n [] (List.replicate n true) deg :=
  ⟨List.nodup_nil, fun x hx => (by cases hx), by simp, hd, fun i hi => by simp [hi]⟩
/-- order. -/
theorem orderC (w2 w v5 v6 : Nat) (vp vl vd vo n : Nat) (rows : List (List Int)) (likes : D) (deg : List Int) (out : List AV) (k : Int) (hn : n ≤ 60000) (hrl : rows.length = n) (hdl : deg.length = n) (M : Nat) (hM : M ≤ 4000000) (hR : ∀ R ∈ rows, (∀ y ∈ R, 0 ≤ y ∧ y.toNat < n) ∧ R.length ≤ M) :
    ∃ (w2' w' v5' v6' : Nat) (O : List Int) (L : List Bool) (deg' : List Int), OrdOk n O L deg' ∧ O.length = n ∧ ∀ rest : Heap,
      HCall Try.prog 70 [pPtr vp, dI k] (ovl (odHp w2 w v5 v6 vp vl vd vo n (rowsD rows) likes ((List.replicate n true).map dB) (deg.map dI) out) rest) [outV v6' O] (ovl (odHp w2' w' v5' v6' vp vl vd vo n (rowsD rows) likes (L.map dB) (deg'.map dI) out) rest) := by
  obtain ⟨w', v5', F, f1, f2, f3⟩ := fwLoop v6 vp vl vd vo n (rowsD rows) likes ((List.replicate n true).map dB) out deg hdl hn k n 0 w (v5 + 1) [] rfl (Nat.zero_le _) (Nat.zero_le _) (fun x hx => by cases hx)
  obtain ⟨a1, a2, a3, a4, F2, O, L, deg', g1, g2, g3⟩ := odLoop vp vl vd vo n rows likes out k hn hrl M hM hR n F.length w2 w' v5' v6 F [] (List.replicate n true) deg rfl (OrdOk.start hdl) (Nat.le_refl _) (by simp; omega) f2
  refine ⟨a1, a2, a3, a4, O, L, deg', g1, g2, fun rest => ?_⟩
  exact hcall_of_run okP named {
    obm := obmP
    nils2 := fun f r => if f = 70 then (if r = 2 then [⟨0, 6, 15, 1, true, true⟩, ⟨0, 5, 16, 1, true, false⟩] else []) else []
    loops := fun f r => if f = 70 then (if r = 3 then some ⟨148, loopOf Try.prog 70 3, fwL vp vl n (v5 + 1) 0 v6 k 0, fun _ => oE w (v5 + 1) v6 [] vp vl vd vo n (rowsD rows) likes ((List.replicate n true).map dB) (deg.map dI) out, .exit 0, [(0, pPtr vp), (1, dI k), (5, outV v6 []), (6, fewV v5' F.length)], fun _ => oE w' v5' v6 F vp vl vd vo n (rowsD rows) likes ((List.replicate n true).map dB) (deg.map dI) out, fun rest X hP hN => (f3 rest X hP hN).aw⟩
      else if r = 8 then some ⟨148, loopOf Try.prog 70 8, odL vp v5' F.length v6 [] k, fun _ => odE w2 w' v5' v6 F vp vl vd vo n (rowsD rows) likes ((List.replicate n true).map dB) (deg.map dI) out, .exit 2, [(5, outV a4 O)], fun _ => odE a1 a2 a3 a4 F2 vp vl vd vo n (rowsD rows) likes (L.map dB) (deg'.map dI) out, fun rest X hP hN => (g3 rest X hP hN).aw⟩ else none) else none } 1000 600000 70
    (hp := odHp w2 w v5 v6 vp vl vd vo n (rowsD rows) likes ((List.replicate n true).map dB) (deg.map dI) out) (hp' := odHp a1 a2 a3 a4 vp vl vd vo n (rowsD rows) likes (L.map dB) (deg'.map dI) out) (rest := rest) (by kernel_rfl)
end Go.Avm
