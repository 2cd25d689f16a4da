/-
  Paint: the painter as an abstract state; a node is taken away.
-/
import Derived.Test.YtpcomfnianamgaaPaA
set_option linter.unusedSectionVars false
namespace Go.Avm
open Go.Proofs

abbrev rowD (r : List Int) : D := .ro (r.map fun x => .int .i64 x)
abbrev rowsD (l : List (List Int)) : D := .ro (l.map rowD)
/-- The painter in memory. -/
def pEnt (vp vl vd vo n : Nat) (near likes : D) (left deg out : List AV) : List (Nat × Ent) :=
  [(702344, ⟨vp, some (.arr 1 [.d near, .d likes, .sl 701180 vl 0 n 1, .sl 701568 vd 0 n 1, .sl 701956 vo 0 n 1])⟩), (701180, ⟨vl, some (.arr 1 left)⟩), (701568, ⟨vd, some (.arr 1 deg)⟩), (701956, ⟨vo, some (.arr 1 out)⟩)]
abbrev pPtr (vp : Nat) : AV := .ptr 702344 vp 0 0 1

theorem getI {l : List Int} {i : Nat} (h : i < l.length) : (l.map fun x => D.int .i64 x)[((i : Nat) : Int).toNat]? = some (.int .i64 l[i]) := by
  simp [h]

/-- A row's length. -/
def hLen (P : Program) (R : List Int) : Hint P := .val (dN (R.map fun x => D.int .i64 x).length) (dN R.length) (by simp)

/-! ### take -/
def tkL (vp : Nat) (R : List Int) (i : Nat) : List (Nat × AV) := [(0, pPtr vp), (18, .d (rowD R)), (19, dN R.length), (20, dN i)]
section
variable (vp vl vd vo n : Nat) (near likes : D) (left deg out : List AV) (R : List Int) (i : Nat)
noncomputable def tkPr (hi : i < R.length) (hs : i < 9223372036854775807) (dj : Int) (h0 : 0 ≤ R[i]) (h1 : R[i].toNat < n) (hd : deg[0 + R[i].toNat]? = some (dI dj)) : Par Try.prog :=
  { hint := fun f k => if f = 99 then (if k = 21 then some (hLt Try.prog i R.length true (by simpa using hi)) else if k = 22 then some (.idx (R.map fun x => .int .i64 x) ((i : Nat) : Int) (.int .i64 R[i]) (by omega) (getI hi))
      else if k = 29 then some (.inb R[i] n h0 h1) else if k = 30 then some (.elt deg (0 + R[i].toNat) (dI dj) hd) else if k = 32 then some (.inb R[i] n h0 h1) else if k = 104009 then some (.elt deg (0 + R[i].toNat) (dI dj) hd) else if k = 33 then some (hSucc Try.prog i hs) else none) else none }
theorem tkRound (hi : i < R.length) (hs : i < 9223372036854775807) (dj : Int) (h0 : 0 ≤ R[i]) (h1 : R[i].toNat < n) (hd : deg[0 + R[i].toNat]? = some (dI dj)) (rest : Heap) (X : Fix) (hP : X.P = Try.prog) (hN : X.N = 34) :
    AW X (loopOf Try.prog 99 2) ⟨envOf (tkL vp R i), ovl (pEnt vp vl vd vo n near likes left deg out) rest⟩ fun e' S' => e' = .normal ∧ Weak X S' ⟨envOf (tkL vp R (i + 1)), ovl (pEnt vp vl vd vo n near likes left (deg.set (0 + R[i].toNat) (dI (IntKind.i64.wrap (dj - 1)))) out) rest⟩ :=
  seg okP named (tkPr n deg R i hi hs dj h0 h1 hd) 1000 99 300000 34 (by kernel_rfl) X hP hN
theorem tkStop (rest : Heap) (X : Fix) (hP : X.P = Try.prog) (hN : X.N = 34) :
    AW X (loopOf Try.prog 99 2) ⟨envOf (tkL vp R R.length), ovl (pEnt vp vl vd vo n near likes left deg out) rest⟩ fun e' S' => e' = .exit 0 ∧ Weak X S' ⟨envOf [], ovl (pEnt vp vl vd vo n near likes left deg out) rest⟩ :=
  seg okP named { hint := fun f k => if f = 99 then (if k = 21 then some (hLt Try.prog R.length R.length false (by simp)) else none) else none } 1000 99 300000 34 (by kernel_rfl) X hP hN
end

theorem mapSet (l : List Int) (i : Nat) (x : Int) : (l.map dI).set i (dI x) = (l.set i x).map dI := by rw [List.map_set]
theorem getMap {l : List Int} {i : Nat} (h : i < l.length) : (l.map dI)[0 + i]? = some (dI l[i]) := by simp [h]

theorem tkLoop (vp vl vd vo n : Nat) (near likes : D) (left out : List AV) (R : List Int) (hR : ∀ x ∈ R, 0 ≤ x ∧ x.toNat < n) (hl : R.length < 1099511627776) :
    ∀ (m i : Nat) (deg : List Int), R.length - i = m → i ≤ R.length → deg.length = n → ∃ deg' : List Int, deg'.length = n ∧ ∀ (rest : Heap) (X : Fix), X.P = Try.prog → X.N = 34 →
      LW X (loopOf Try.prog 99 2) ⟨envOf (tkL vp R i), ovl (pEnt vp vl vd vo n near likes left (deg.map dI) out) rest⟩ fun e' S' => e' = .exit 0 ∧ S' = ⟨envOf [], ovl (pEnt vp vl vd vo n near likes left (deg'.map dI) out) rest⟩
  | 0, i, deg, hm, hi, hd => by
    have : i = R.length := by omega
    subst this
    exact ⟨deg, hd, fun rest X hP hN => lw_end (tkStop vp vl vd vo n near likes left (deg.map dI) out R rest X hP hN) (by simp)⟩
  | m + 1, i, deg, hm, hi, hd => by
    have hlt : i < R.length := by omega
    obtain ⟨h0, h1⟩ := hR R[i] (List.getElem_mem hlt)
    have hj : R[i].toNat < deg.length := by omega
    obtain ⟨deg', g1, g2⟩ := tkLoop vp vl vd vo n near likes left out R hR hl m (i + 1) (deg.set R[i].toNat (IntKind.i64.wrap (deg[R[i].toNat] - 1))) (by omega) (by omega) (by simpa using hd)
    refine ⟨deg', g1, fun rest X hP hN => lw_seg (tkRound vp vl vd vo n near likes left (deg.map dI) out R i hlt (by omega) deg[R[i].toNat] h0 h1 (getMap hj) rest X hP hN) ?_⟩
    rw [Nat.zero_add, mapSet]
    exact g2 rest X hP hN

noncomputable def takePr (vp vl vd vo n : Nat) (likes : D) (rows : List (List Int)) (left : List AV) (deg deg' : List AV) (out : List AV) (i : Int) (R : List Int) (b : AV) (h0 : 0 ≤ i) (h1 : i.toNat < n) (hb : left[0 + i.toNat]? = some b) (hr : (rows.map rowD)[i.toNat]? = some (rowD R))
    (hloop : ∀ (rest : Heap) (X : Fix), X.P = Try.prog → X.N = 34 → LW X (loopOf Try.prog 99 2) ⟨envOf (tkL vp R 0), ovl (pEnt vp vl vd vo n (rowsD rows) likes (left.set (0 + i.toNat) (dB false)) deg out) rest⟩ fun e' S' => e' = .exit 0 ∧ S' = ⟨envOf [], ovl (pEnt vp vl vd vo n (rowsD rows) likes (left.set (0 + i.toNat) (dB false)) deg' out) rest⟩) : Par Try.prog :=
  { hint := fun f k => if f = 99 then (if k = 11 then some (.inb i n h0 h1) else if k = 100006 then some (.elt left (0 + i.toNat) b hb) else if k = 17 then some (.idx (rows.map rowD) i (rowD R) h0 hr) else if k = 19 then some (hLen Try.prog R) else none) else none
    loops := fun f r => if f = 99 then (if r = 2 then some ⟨34, loopOf Try.prog 99 2, tkL vp R 0, fun _ => pEnt vp vl vd vo n (rowsD rows) likes (left.set (0 + i.toNat) (dB false)) deg out, .exit 0, [], fun _ => pEnt vp vl vd vo n (rowsD rows) likes (left.set (0 + i.toNat) (dB false)) deg' out, fun rest X hP hN => (hloop rest X hP hN).aw⟩ else none) else none }
/-- take. -/
theorem takeC (vp vl vd vo n : Nat) (likes : D) (rows : List (List Int)) (left : List AV) (deg : List Int) (out : List AV) (i : Int) (h0 : 0 ≤ i) (h1 : i.toNat < n) (hl : left.length = n) (hd : deg.length = n) (hn : rows.length = n)
    (hR : ∀ R ∈ rows, (∀ x ∈ R, 0 ≤ x ∧ x.toNat < n) ∧ R.length < 1099511627776) :
    ∃ deg' : List Int, deg'.length = n ∧ ∀ rest : Heap, HCall Try.prog 99 [pPtr vp, dI i] (ovl (pEnt vp vl vd vo n (rowsD rows) likes left (deg.map dI) out) rest) [] (ovl (pEnt vp vl vd vo n (rowsD rows) likes (left.set i.toNat (dB false)) (deg'.map dI) out) rest) := by
  have hi : i.toNat < rows.length := by omega
  obtain ⟨r1, r2⟩ := hR rows[i.toNat] (List.getElem_mem hi)
  obtain ⟨deg', g1, g2⟩ := tkLoop vp vl vd vo n (rowsD rows) likes (left.set (0 + i.toNat) (dB false)) out rows[i.toNat] r1 r2 _ 0 deg rfl (Nat.zero_le _) hd
  have hlt : 0 + i.toNat < left.length := by omega
  refine ⟨deg', g1, fun rest => ?_⟩
  have := hcall_of_run okP named (takePr vp vl vd vo n likes rows left (deg.map dI) (deg'.map dI) out i rows[i.toNat] left[0 + i.toNat] h0 h1 (List.getElem?_eq_getElem hlt) (by simp [hi]) g2) 1000 300000 99 (args := [pPtr vp, dI i]) (rs := [])
    (hp := pEnt vp vl vd vo n (rowsD rows) likes left (deg.map dI) out) (hp' := pEnt vp vl vd vo n (rowsD rows) likes (left.set (0 + i.toNat) (dB false)) (deg'.map dI) out) (rest := rest) (by kernel_rfl)
  rw [Nat.zero_add] at this
  exact this
end Go.Avm
