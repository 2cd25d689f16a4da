/-
  Paint: are all numbers nodes?
-/
import Derived.Test.YtpcomfnianamgaaPaTwo
set_option linter.unusedSectionVars false
namespace Go.Avm
open Go.Proofs

def mnI (x y : Int) : Int := if y < x then y else x
def mxI (x y : Int) : Int := if x < y then y else x
def inP (n : Nat) (p : Int × Int) : Bool := !(decide (mnI p.1 p.2 < 0) || decide ((n : Int) ≤ mxI p.1 p.2))
def ixE (vb n : Nat) (ve : Nat) : List (Nat × Ent) := [(2, ⟨vb, some (.arr 1 [dN n])⟩), (400154, ⟨ve, none⟩)]
def ixFL (vb : Nat) (l : List (Int × Int)) (i : Nat) : List (Nat × AV) := [(0, .d (pairsD l)), (1, .fn 96 [.ptr 2 vb 0 0 1]), (7, dN l.length), (8, dN i)]
section
variable (vb n ve : Nat) (l : List (Int × Int)) (i : Nat) (x y : Int)
noncomputable def ixfPr (hi : i < l.length) (hs : i < 9223372036854775807) (hp : l[i] = (x, y)) (b c : Bool) (hb : decide (mnI x y < 0) = b) (hc : decide ((n : Int) ≤ mxI x y) = c) : Par Try.prog :=
  { obm := obmP
    hint := fun f s => if f = 111 then (if s = 9 then some (hLt Try.prog i l.length true (by simpa using hi)) else if s = 14 then some (.idx (l.map pairD) ((i : Nat) : Int) (pairD (x, y)) (by omega) (by rw [← hp]; exact getP hi)) else if s = 18 then some (hSucc Try.prog i hs) else none)
      else if f = 96 then (if s = 9 then some (.val (dB (decide (mnI x y < 0))) (dB b) (by rw [hb])) else if s = 17 then some (.val (dB (decide ((n : Int) ≤ mxI x y))) (dB c) (by rw [hc])) else none) else none }
theorem ixfNext (hi : i < l.length) (hs : i < 9223372036854775807) (hp : l[i] = (x, y)) (hb : decide (mnI x y < 0) = false) (hc : decide ((n : Int) ≤ mxI x y) = false) (rest : Heap) (X : Fix) (hP : X.P = Try.prog) (hN : X.N = 19) :
    AW X (loopOf Try.prog 111 2) ⟨envOf (ixFL vb l i), ovl (ixE vb n ve) rest⟩ fun e' S' => e' = .normal ∧ Weak X S' ⟨envOf (ixFL vb l (i + 1)), ovl (ixE vb n (ve + 1)) rest⟩ :=
  seg okP named (ixfPr n l i x y hi hs hp false false hb hc) 1000 111 400000 19 (by kernel_rfl) X hP hN
theorem ixfBad1 (hi : i < l.length) (hs : i < 9223372036854775807) (hp : l[i] = (x, y)) (hb : decide (mnI x y < 0) = true) (rest : Heap) (X : Fix) (hP : X.P = Try.prog) (hN : X.N = 19) :
    AW X (loopOf Try.prog 111 2) ⟨envOf (ixFL vb l i), ovl (ixE vb n ve) rest⟩ fun e' S' => e' = .ret ∧ Weak X S' ⟨envOf [(4, dN i)], ovl (ixE vb n (ve + 1)) rest⟩ :=
  seg okP named (ixfPr n l i x y hi hs hp true (decide ((n : Int) ≤ mxI x y)) hb rfl) 1000 111 400000 19 (by kernel_rfl) X hP hN
theorem ixfBad2 (hi : i < l.length) (hs : i < 9223372036854775807) (hp : l[i] = (x, y)) (hb : decide (mnI x y < 0) = false) (hc : decide ((n : Int) ≤ mxI x y) = true) (rest : Heap) (X : Fix) (hP : X.P = Try.prog) (hN : X.N = 19) :
    AW X (loopOf Try.prog 111 2) ⟨envOf (ixFL vb l i), ovl (ixE vb n ve) rest⟩ fun e' S' => e' = .ret ∧ Weak X S' ⟨envOf [(4, dN i)], ovl (ixE vb n (ve + 1)) rest⟩ :=
  seg okP named (ixfPr n l i x y hi hs hp false true hb hc) 1000 111 400000 19 (by kernel_rfl) X hP hN
theorem ixfStop (rest : Heap) (X : Fix) (hP : X.P = Try.prog) (hN : X.N = 19) :
    AW X (loopOf Try.prog 111 2) ⟨envOf (ixFL vb l l.length), ovl (ixE vb n ve) rest⟩ fun e' S' => e' = .exit 0 ∧ Weak X S' ⟨envOf [], ovl (ixE vb n ve) rest⟩ :=
  seg okP named { hint := fun f s => if f = 111 then (if s = 9 then some (hLt Try.prog l.length l.length false (by simp)) else none) else none } 1000 111 400000 19 (by kernel_rfl) X hP hN
def ixH (vb n j : Nat) (rest : Heap) : List (Nat × Ent) := ixE vb n ((rest 400154).ver + j)
theorem ixfLoopBad (j : Nat) (hj : j < l.length) (hl : l.length < 1099511627776) (hb : ∀ i, (h : i < j) → inP n l[i] = true) (hf : inP n l[j] = false) (rest : Heap) (X : Fix) (hP : X.P = Try.prog) (hN : X.N = 19) :
    AW X (.loop (loopOf Try.prog 111 2)) ⟨envOf (ixFL vb l 0), ovl (ixH vb n 0 rest) rest⟩ fun e' S' => e' = .ret ∧ S' = ⟨envOf [(4, dN j)], ovl (ixH vb n (j + 1) rest) rest⟩ := by
  refine loop_of_segs (P := Try.prog) (N := 19) (c := loopOf Try.prog 111 2) (fun i => ixFL vb l i) (fun i rest => ixH vb n i rest) (fun i => i ≤ j) (fun i => j - i) .ret [(4, dN j)] (fun rest => ixH vb n (j + 1) rest) 0 (Nat.zero_le _) (by simp) (fun rest i hi => ?_) rest X hP hN
  rcases Nat.lt_or_ge i j with h | h
  · have := hb i h
    simp only [inP, Bool.not_eq_true', Bool.or_eq_false_iff] at this
    exact .inl ⟨i + 1, h, by omega, fun X hP hN => ixfNext vb n _ l i l[i].1 l[i].2 (by omega) (by omega) rfl this.1 this.2 rest X hP hN⟩
  · have : i = j := by omega
    subst this
    simp only [inP, Bool.not_eq_false'] at hf
    cases h1 : decide (mnI l[i].1 l[i].2 < 0) with
    | true => exact .inr fun X hP hN => ixfBad1 vb n _ l i l[i].1 l[i].2 hj (by omega) rfl h1 rest X hP hN
    | false =>
      rw [h1, Bool.false_or] at hf
      exact .inr fun X hP hN => ixfBad2 vb n _ l i l[i].1 l[i].2 hj (by omega) rfl h1 hf rest X hP hN
theorem ixfLoopNone (hl : l.length < 1099511627776) (hb : ∀ p ∈ l, inP n p = true) (rest : Heap) (X : Fix) (hP : X.P = Try.prog) (hN : X.N = 19) :
    AW X (.loop (loopOf Try.prog 111 2)) ⟨envOf (ixFL vb l 0), ovl (ixH vb n 0 rest) rest⟩ fun e' S' => e' = .exit 0 ∧ S' = ⟨envOf [], ovl (ixH vb n l.length rest) rest⟩ := by
  refine loop_of_segs (P := Try.prog) (N := 19) (c := loopOf Try.prog 111 2) (fun i => ixFL vb l i) (fun i rest => ixH vb n i rest) (fun i => i ≤ l.length) (fun i => l.length - i) (.exit 0) [] (fun rest => ixH vb n l.length rest) 0 (Nat.zero_le _) (by simp) (fun rest i hi => ?_) rest X hP hN
  rcases Nat.lt_or_ge i l.length with h | h
  · have := hb _ (List.getElem_mem h)
    simp only [inP, Bool.not_eq_true', Bool.or_eq_false_iff] at this
    exact .inl ⟨i + 1, h, by omega, fun X hP hN => ixfNext vb n _ l i l[i].1 l[i].2 (by omega) (by omega) rfl this.1 this.2 rest X hP hN⟩
  · have : i = l.length := by omega
    subst this
    exact .inr fun X hP hN => ixfStop vb n _ l rest X hP hN
end
noncomputable def riPr (n : Nat) (l : List (Int × Int)) (e : Exit) (l' : List (Nat × AV)) (j : Nat) (h : ∀ (rest : Heap) (X : Fix), X.P = Try.prog → X.N = 19 → AW X (.loop (loopOf Try.prog 111 2)) ⟨envOf (ixFL 1 l 0), ovl (ixH 1 n 0 rest) rest⟩ fun e' S' => e' = e ∧ S' = ⟨envOf l', ovl (ixH 1 n j rest) rest⟩) (h8 : Option (Hint Try.prog)) : Par Try.prog :=
  { obm := obmP
    hint := fun f s => if f = 111 then (if s = 7 then some (.val (dN (l.map pairD).length) (dN l.length) (by simp)) else none) else if f = 95 then (if s = 8 then h8 else none) else none
    loops := fun f r => if f = 111 then (if r = 2 then some ⟨19, loopOf Try.prog 111 2, ixFL 1 l 0, fun rest => ixH 1 n 0 rest, e, l', fun rest => ixH 1 n j rest, h⟩ else none) else none }
theorem rightBad (n : Nat) (l : List (Int × Int)) (j : Nat) (hj : j < l.length) (hl : l.length < 1099511627776) (hb : ∀ i, (h : i < j) → inP n l[i] = true) (hf : inP n l[j] = false) : Pure Try.prog 67 [.int .i64 n, pairsD l] [.bool false] :=
  pure_of_run okP named (riPr n l .ret [(4, dN j)] (j + 1) (ixfLoopBad 1 n l j hj hl hb hf) (some (.val (dB (decide ((0 : Int) ≤ (j : Int)))) (dB true) (by simp)))) 1000 (by kernel_rfl)
theorem rightOk (n : Nat) (l : List (Int × Int)) (hl : l.length < 1099511627776) (hb : ∀ p ∈ l, inP n p = true) : Pure Try.prog 67 [.int .i64 n, pairsD l] [.bool true] :=
  pure_of_run okP named (riPr n l (.exit 0) [] l.length (ixfLoopNone 1 n l hl hb) none) 1000 (by kernel_rfl)
/-- right. -/
theorem rightC (n : Nat) (l : List (Int × Int)) (hl : l.length < 1099511627776) : Pure Try.prog 67 [.int .i64 n, pairsD l] [.bool (l.all (inP n))] := by
  cases h : l.all (inP n) with
  | true => exact rightOk n l hl (fun p hp => List.all_eq_true.1 h p hp)
  | false =>
    cases hf : l.findIdx? (fun p => !inP n p) with
    | none =>
      rw [List.findIdx?_eq_none_iff] at hf
      have : l.all (inP n) = true := List.all_eq_true.2 (fun p hp => by simpa using hf p hp)
      rw [h] at this
      cases this
    | some j =>
      rw [List.findIdx?_eq_some_iff_getElem] at hf
      obtain ⟨h1, h2, h3⟩ := hf
      exact rightBad n l j h1 hl (fun i hi => by simpa using h3 i hi) (by simpa using h2)
end Go.Avm
/-
  Paint: the nodes get their colours.
-/
set_option linter.unusedSectionVars false
namespace Go.Avm
open Go.Proofs

def blkB : Code → Code
  | .block _ x => x
  | c => c
def rfA : Code → Code
  | .rangeFunc _ _ x _ => x
  | c => c
def rfB : Code → Code
  | .rangeFunc _ _ _ x => x
  | c => c
noncomputable def paRF : Code := blkB (seqR (seqL (seqR (seqR (seqR (bodyOf Try.prog 32))))))
def ptHint (n K : Nat) (pairs likes : List (Int × Int)) (hn : n ≤ 60000) (hK : K ≤ 16) (c1 c2 : Pure Try.prog 67 [.int .i64 n, pairsD pairs] [.bool true] ∧ Pure Try.prog 67 [.int .i64 n, pairsD likes] [.bool true]) : Nat → Nat → Option (Hint Try.prog) := fun f s =>
  if f = 32 then (if s = 15 then some (.val (dB (decide ((n : Int) < 0))) (dB false) (by simp)) else if s = 18 then some (.val (dB (decide ((60000 : Int) < (n : Int)))) (dB false) (by simp; omega)) else if s = 22 then some (.val (dB (decide ((K : Int) < 0))) (dB false) (by simp))
    else if s = 26 then some (.val (dB (decide ((16 : Int) < (K : Int)))) (dB false) (by simp; omega)) else if s = 31 then some (.call 67 [.int .i64 n, pairsD pairs] [.bool true] c1.1) else if s = 36 then some (.call 67 [.int .i64 n, pairsD likes] [.bool true] c1.2) else none) else none
/-- A call that turns one entry alone. -/
theorem fits_of2 {P : Program} {g : Nat} {args rs : List AV} {e e' : Nat × Ent} {r : List (Nat × Ent)} (hs : (r.all fun p => p.2.ob.isSome) = true) (h : ∀ rest : Heap, HCall P g args (ovl (e :: r) rest) rs (ovl (e' :: r) rest)) : ∀ h : Heap, Fits h (e :: r) → HCall P g args h rs (ovl [e'] h) := fun h' hf => by
  have h1 := fits_of h h' hf
  have h2 : ovl r h' = h' := fits_ovl (fun p hp => hf p (by simp [hp])) hs
  have h3 : ovl (e' :: r) h' = ovl [e'] h' := by
    show upd (ovl r h') e'.1 e'.2 = upd h' e'.1 e'.2
    rw [h2]
  rw [h3] at h1
  exact h1
/-! ### One node after the other -/
def paRows (rows : List (List Int)) (x : Int) : List Int := (rows[x.toNat]?).getD []
def stepF (rows lrows : List (List Int)) (K : Nat) (out : List Int) (x : Int) : List Int := out.set x.toNat (colF out (paRows rows x) (paRows lrows x) K)
noncomputable def paLp (K v6 : Nat) (O : List Int) : Ob := .lp 32 63 [(7, .ptr 7 1 0 0 1), (10, .ptr 1900 1 0 0 1), (43, pPtr 1), (44, dN K), (45, outV v6 O), (46, .fn 98 [.ptr 2143 1 0 0 1])] #[47, 48] (rfA paRF) (rfB paRF) .ready
def bwL (x : AV) : List (Nat × AV) := [(0, .yld 2158 1), (1, .ptr 2143 1 0 0 1), (3, x)]
noncomputable def bwE (K n vt v6 : Nat) (O : List Int) (near likes : D) (left deg out : List AV) : List (Nat × Ent) :=
  (2158, ⟨1, some (paLp K v6 O)⟩) :: (2143, ⟨1, some (.arr 1 [outV v6 O])⟩) :: (1900, ⟨1, some (.arr 1 [pPtr 1])⟩) :: (7, ⟨1, some (.arr 1 [dN K])⟩) :: colHp 1 1 1 1 n near likes left deg out vt
section
variable (K n vt vt' v6 : Nat) (O : List Int) (rows lrows : List (List Int)) (left deg : List AV) (out : List Int) (j : Nat) (x c : Int)
noncomputable def bwPr (h0 : 0 ≤ x) (h1 : x.toNat < n) (hx : (O.map fun y => D.int .i64 y)[((j : Nat) : Int).toNat]? = some (.int .i64 x)) (o : AV) (ho : (out.map dI)[0 + x.toNat]? = some o) (hs : j < 1099511627776)
    (hC : ∀ rest : Heap, HCall Try.prog 71 [pPtr 1, dI x, dN K] (ovl (colHp 1 1 1 1 n (rowsD rows) (rowsD lrows) left deg (out.map dI) vt) rest) [dI c] (ovl (colHp 1 1 1 1 n (rowsD rows) (rowsD lrows) left deg (out.map dI) vt') rest)) : Par Try.prog :=
  { hint := fun f s => if f = 98 then (if s = 8 then some (.val (dB (decide ((0 : Int) ≤ (j : Int)))) (dB true) (by simp)) else if s = 10 then some (.val (dI (IntKind.i64.wrap ((j : Int) - 1))) (dI ((j : Int) - 1)) (by rw [IntWalk.i64_in _ (by omega)]))
        else if s = 15 then some (.idx (O.map fun y => .int .i64 y) ((j : Nat) : Int) (.int .i64 x) (by omega) hx) else none)
      else if f = 32 then (if s = 58 then some (.inb x n h0 h1) else if s = 108010 then some (.elt (out.map dI) (0 + x.toNat) o ho) else none) else none
    calls := fun f s _ => if f = 32 then (if s = 57 then some ⟨71, [pPtr 1, dI x, dN K], colHp 1 1 1 1 n (rowsD rows) (rowsD lrows) left deg (out.map dI) vt, [dI c], [(300161, ⟨vt', none⟩)], fits_of2 (by simp [pEnt]) hC⟩ else none) else none }
theorem bwRound (h0 : 0 ≤ x) (h1 : x.toNat < n) (hx : (O.map fun y => D.int .i64 y)[((j : Nat) : Int).toNat]? = some (.int .i64 x)) (o : AV) (ho : (out.map dI)[0 + x.toNat]? = some o) (hs : j < 1099511627776)
    (hC : ∀ rest : Heap, HCall Try.prog 71 [pPtr 1, dI x, dN K] (ovl (colHp 1 1 1 1 n (rowsD rows) (rowsD lrows) left deg (out.map dI) vt) rest) [dI c] (ovl (colHp 1 1 1 1 n (rowsD rows) (rowsD lrows) left deg (out.map dI) vt') rest)) (rest : Heap) (X : Fix) (hP : X.P = Try.prog) (hN : X.N = 19) :
    AW X (loopOf Try.prog 98 1) ⟨envOf (bwL (dN j)), ovl (bwE K n vt v6 O (rowsD rows) (rowsD lrows) left deg (out.map dI)) rest⟩ fun e' S' => e' = .normal ∧
      Weak X S' ⟨envOf (bwL (dI ((j : Int) - 1))), ovl (bwE K n vt' v6 O (rowsD rows) (rowsD lrows) left deg ((out.map dI).set (0 + x.toNat) (dI c))) rest⟩ :=
  seg okP named (bwPr K n vt vt' O rows lrows left deg out j x c h0 h1 hx o ho hs hC) 1000 98 400000 19 (by kernel_rfl) X hP hN
theorem bwStop (near likes : D) (out : List AV) (rest : Heap) (X : Fix) (hP : X.P = Try.prog) (hN : X.N = 19) :
    AW X (loopOf Try.prog 98 1) ⟨envOf (bwL (dI (-1))), ovl (bwE K n vt v6 O near likes left deg out) rest⟩ fun e' S' => e' = .exit 0 ∧
      Weak X S' ⟨envOf [], ovl (bwE K n vt v6 O near likes left deg out) rest⟩ :=
  seg okP named {} 1000 98 400000 19 (by kernel_rfl) X hP hN
end
theorem ffI_lt (t : List Bool) : ffI t < (t.length : Int) ∧ -1 ≤ ffI t := by
  unfold ffI
  split
  · rename_i i hi
    rw [List.findIdx?_eq_some_iff_getElem] at hi
    obtain ⟨h, _⟩ := hi
    omega
  · omega
theorem out_lt {out : List Int} {K : Nat} (hc : ∀ c ∈ out, -1 ≤ c ∧ c < (K : Int)) {j : Nat} (hj : j < out.length) : -1 ≤ (out[j]?).getD 0 ∧ (out[j]?).getD 0 < (K : Int) := by
  rw [List.getElem?_eq_getElem hj]
  exact hc _ (List.getElem_mem hj)
theorem colF_lt {out R R2 : List Int} {K n : Nat} (ho : out.length = n) (hc : ∀ c ∈ out, -1 ≤ c ∧ c < (K : Int)) (hR2 : ∀ x ∈ R2, 0 ≤ x ∧ x.toNat < n) : -1 ≤ colF out R R2 K ∧ colF out R R2 K < (K : Int) := by
  unfold colF
  split
  · rename_i p hp
    rw [List.findIdx?_eq_some_iff_getElem] at hp
    obtain ⟨h1, h2, _⟩ := hp
    rw [List.getElem?_eq_getElem h1]
    have := hR2 _ (List.getElem_mem h1)
    exact out_lt hc (by show R2[p].toNat < out.length; omega)
  · have := ffI_lt (takenF out K R)
    rw [takenF_len] at this
    omega
structure OkOut (n K : Nat) (out : List Int) : Prop where
  len : out.length = n
  rng : ∀ c ∈ out, -1 ≤ c ∧ c < (K : Int)
theorem rowsR {rows : List (List Int)} {n : Nat} (hR : ∀ R ∈ rows, (∀ x ∈ R, 0 ≤ x ∧ x.toNat < n) ∧ R.length < 1099511627776) (x : Int) : ∀ y ∈ paRows rows x, 0 ≤ y ∧ y.toNat < n := fun y hy => by
  unfold paRows at hy
  cases h : rows[x.toNat]? with
  | none => rw [h] at hy; cases hy
  | some R => rw [h] at hy; exact (hR R (List.mem_of_getElem? h)).1 y hy
theorem OkOut.step {n K : Nat} {out : List Int} {rows lrows : List (List Int)} (h : OkOut n K out) (hR2 : ∀ R ∈ lrows, (∀ x ∈ R, 0 ≤ x ∧ x.toNat < n) ∧ R.length < 1099511627776) (x : Int) : OkOut n K (stepF rows lrows K out x) := by
  refine ⟨by rw [stepF, List.length_set]; exact h.len, fun c hc => ?_⟩
  rcases List.mem_or_eq_of_mem_set hc with hc | rfl
  · exact h.rng c hc
  · exact colF_lt h.len h.rng (rowsR hR2 x)
section
variable (K n v6 : Nat) (O : List Int) (rows lrows : List (List Int)) (left deg : List AV)
theorem bwLoop (hK : K ≤ 1000) (hO : ∀ x ∈ O, 0 ≤ x ∧ x.toNat < n) (hOl : O.length < 1099511627776) (hn : rows.length = n) (hn2 : lrows.length = n) (hR : ∀ R ∈ rows, (∀ x ∈ R, 0 ≤ x ∧ x.toNat < n) ∧ R.length < 1099511627776) (hR2 : ∀ R ∈ lrows, (∀ x ∈ R, 0 ≤ x ∧ x.toNat < n) ∧ R.length < 1099511627776) :
    ∀ (m vt : Nat) (out : List Int), m ≤ O.length → OkOut n K out → ∃ vt', ∀ (rest : Heap) (X : Fix), X.P = Try.prog → X.N = 19 →
      LW X (loopOf Try.prog 98 1) ⟨envOf (bwL (dI ((m : Int) - 1))), ovl (bwE K n vt v6 O (rowsD rows) (rowsD lrows) left deg (out.map dI)) rest⟩ fun e' S' => e' = .exit 0 ∧
        S' = ⟨envOf [], ovl (bwE K n vt' v6 O (rowsD rows) (rowsD lrows) left deg (((O.take m).reverse.foldl (stepF rows lrows K) out).map dI)) rest⟩
  | 0, vt, out, hm, ho => ⟨vt, fun rest X hP hN => lw_end (bwStop K n vt v6 O left deg (rowsD rows) (rowsD lrows) (out.map dI) rest X hP hN) (by simp)⟩
  | m + 1, vt, out, hm, ho => by
    have hlt : m < O.length := by omega
    obtain ⟨h0, h1⟩ := hO O[m] (List.getElem_mem hlt)
    obtain ⟨vt1, hC⟩ := colourC 1 1 1 1 n rows lrows left deg out vt K O[m] h0 h1 hn hn2 ho.len (fun c hc => (ho.rng c hc).2) hK hR hR2
    obtain ⟨vt', hl⟩ := bwLoop hK hO hOl hn hn2 hR hR2 m vt1 (stepF rows lrows K out O[m]) (by omega) (ho.step hR2 _)
    refine ⟨vt', fun rest X hP hN => ?_⟩
    have hj : O[m].toNat < out.length := by rw [ho.len]; exact h1
    have hs := bwRound K n vt vt1 v6 O rows lrows left deg out m O[m] _ h0 h1 (getI hlt) (dI out[O[m].toNat]) (getMap hj) (by omega) hC rest X hP hN
    rw [Nat.zero_add, mapSet] at hs
    have e1 : (dI (((m + 1 : Nat) : Int) - 1)) = dN m := by
      unfold dI
      congr 2
      omega
    rw [e1, List.take_succ_eq_append_getElem hlt, List.reverse_append, List.foldl_append]
    exact lw_seg hs (hl rest X hP hN)
end
end Go.Avm
/-
  Paint: the contract of Paint.
-/
set_option linter.unusedSectionVars false
namespace Go.Avm
open Go.Proofs

theorem LikOk.addP {n m : Nat} {rows : List (List Int)} (h : LikOk n m rows) {p : Int × Int} (hp : (0 ≤ p.1 ∧ p.1.toNat < n) ∧ 0 ≤ p.2 ∧ p.2.toNat < n) : LikOk n (m + 2) (addP rows p) := by
  unfold Go.Avm.addP
  split
  · exact fun r hr => ⟨(h r hr).1, by have := (h r hr).2; omega⟩
  · have one : ∀ (l : List Int) (x : Int), (∀ y ∈ l, 0 ≤ y ∧ y.toNat < n) → (0 ≤ x ∧ x.toNat < n) → ∀ y ∈ l ++ [x], 0 ≤ y ∧ y.toNat < n := fun l x hl hx y hy => by
      rcases List.mem_append.1 hy with hy | hy
      · exact hl y hy
      · rw [List.mem_singleton] at hy
        subst hy
        exact hx
    have ha := h.get p.1.toNat
    have hb := h.get p.2.toNat
    exact (h.set (m' := m + 2) (by omega) _ (one _ _ ha.1 hp.2) (by rw [List.length_append]; simp; omega)).set (Nat.le_refl _) _ (one _ _ hb.1 hp.1) (by rw [List.length_append]; simp; omega)
theorem LikOk.addL {n m : Nat} {rows : List (List Int)} (h : LikOk n m rows) {p : Int × Int} (hp : (0 ≤ p.1 ∧ p.1.toNat < n) ∧ 0 ≤ p.2 ∧ p.2.toNat < n) : LikOk n (m + 2) (addL rows p) := by
  unfold Go.Avm.addL
  have one : ∀ (l : List Int) (x : Int), (∀ y ∈ l, 0 ≤ y ∧ y.toNat < n) → (0 ≤ x ∧ x.toNat < n) → ∀ y ∈ l ++ [x], 0 ≤ y ∧ y.toNat < n := fun l x hl hx y hy => by
    rcases List.mem_append.1 hy with hy | hy
    · exact hl y hy
    · rw [List.mem_singleton] at hy
      subst hy
      exact hx
  have ha := h.get p.1.toNat
  have hb := h.get p.2.toNat
  split
  · refine h.set (by omega) _ (fun y hy => ?_) (by rw [List.length_append]; simp; omega)
    rcases List.mem_append.1 hy with hy | hy
    · exact ha.1 y hy
    · simp only [List.mem_cons, List.not_mem_nil, or_false, or_self] at hy
      subst hy
      exact hp.1
  · exact (h.set (m' := m + 2) (by omega) _ (one _ _ ha.1 hp.2) (by rw [List.length_append]; simp; omega)).set (Nat.le_refl _) _ (one _ _ hb.1 hp.1) (by rw [List.length_append]; simp; omega)
theorem likFold (f : List (List Int) → Int × Int → List (List Int)) {n : Nat} (hf : ∀ rows m p, LikOk n m rows → ((0 ≤ p.1 ∧ p.1.toNat < n) ∧ 0 ≤ p.2 ∧ p.2.toNat < n) → LikOk n (m + 2) (f rows p)) : ∀ (l : List (Int × Int)) (rows : List (List Int)) (m : Nat), LikOk n m rows → (∀ p ∈ l, (0 ≤ p.1 ∧ p.1.toNat < n) ∧ 0 ≤ p.2 ∧ p.2.toNat < n) → LikOk n (m + 2 * l.length) (l.foldl f rows)
  | [], rows, m, h, _ => h
  | p :: l, rows, m, h, hl => by
    have := likFold f hf l (f rows p) (m + 2) (hf rows m p h (hl p (by simp))) (fun q hq => hl q (by simp [hq]))
    rw [List.foldl_cons, List.length_cons]
    rw [show m + 2 * (l.length + 1) = m + 2 + 2 * l.length by omega]
    exact this
theorem lik0 (n : Nat) : LikOk n 0 (List.replicate n []) := fun r hr => by
  rw [List.eq_of_mem_replicate hr]
  exact ⟨fun x hx => (by cases hx), Nat.le_refl _⟩
theorem inP_iff {n : Nat} {p : Int × Int} : inP n p = true ↔ (0 ≤ p.1 ∧ p.1.toNat < n) ∧ 0 ≤ p.2 ∧ p.2.toNat < n := by
  unfold inP mnI mxI
  simp only [Bool.not_eq_true', Bool.or_eq_false_iff, decide_eq_false_iff_not]
  constructor
  · rintro ⟨h1, h2⟩
    split at h1 <;> split at h2 <;> omega
  · rintro ⟨h1, h2⟩
    split <;> split <;> omega
theorem rowsP_ok {n : Nat} {pairs : List (Int × Int)} (h : ∀ p ∈ pairs, (0 ≤ p.1 ∧ p.1.toNat < n) ∧ 0 ≤ p.2 ∧ p.2.toNat < n) : LikOk n (2 * pairs.length) (rowsP n pairs) := fun r hr => by
  unfold rowsP at hr
  obtain ⟨q, hq, rfl⟩ := List.mem_map.1 hr
  have h1 := likFold addP (fun rows m p h hp => h.addP hp) pairs _ 0 (lik0 n) h q hq
  have h2 := Same.fin q
  exact ⟨fun x hx => h1.1 x ((h2.1 x).1 hx), by have := h1.2; have := h2.2; omega⟩
theorem rowsL_ok {n : Nat} {likes : List (Int × Int)} (h : ∀ p ∈ likes, (0 ≤ p.1 ∧ p.1.toNat < n) ∧ 0 ≤ p.2 ∧ p.2.toNat < n) : LikOk n (2 * likes.length) (rowsL n likes) := fun r hr => by
  have := likFold addL (fun rows m p h hp => h.addL hp) likes _ 0 (lik0 n) h r hr
  exact ⟨this.1, by have := this.2; omega⟩
theorem addP_length (rows : List (List Int)) (p : Int × Int) : (addP rows p).length = rows.length := by
  unfold addP
  split <;> simp
theorem addL_length (rows : List (List Int)) (p : Int × Int) : (addL rows p).length = rows.length := by
  unfold addL
  split <;> simp
theorem fold_length (f : List (List Int) → Int × Int → List (List Int)) (hf : ∀ rows p, (f rows p).length = rows.length) : ∀ (l : List (Int × Int)) (rows : List (List Int)), (l.foldl f rows).length = rows.length
  | [], _ => rfl
  | p :: l, rows => by rw [List.foldl_cons, fold_length f hf l, hf]
theorem rowsP_len (n : Nat) (pairs : List (Int × Int)) : (rowsP n pairs).length = n := by
  rw [rowsP, List.length_map, fold_length addP addP_length, List.length_replicate]
theorem rowsL_len (n : Nat) (likes : List (Int × Int)) : (rowsL n likes).length = n := by
  rw [rowsL, fold_length addL addL_length, List.length_replicate]
theorem mapInt (t : List Int) : ∀ h, viewL (view 3 h) (t.map dI) = some (t.map fun x => .int .i64 x, []) := fun h => viewI 2 h t

noncomputable def ptPr (n K : Nat) (pairs likes : List (Int × Int)) (hn : n ≤ 60000) (hK : K ≤ 16) (c1 : Pure Try.prog 67 [.int .i64 n, pairsD pairs] [.bool true] ∧ Pure Try.prog 67 [.int .i64 n, pairsD likes] [.bool true])
    (hpl : pairs.length ≤ 100000000) (hll : likes.length ≤ 100000000) (hpr : ∀ p ∈ pairs, (0 ≤ p.1 ∧ p.1.toNat < n) ∧ 0 ≤ p.2 ∧ p.2.toNat < n) (hlr : ∀ p ∈ likes, (0 ≤ p.1 ∧ p.1.toNat < n) ∧ 0 ≤ p.2 ∧ p.2.toNat < n)
    (w2 w1 v5 v6 : Nat) (O : List Int) (L : List Bool) (deg' : List Int)
    (hO : ∀ rest : Heap, HCall Try.prog 70 [pPtr 1, dI K] (ovl (odHp 0 0 0 0 1 1 1 1 n (rowsD (rowsP n pairs)) (rowsD (rowsL n likes)) ((List.replicate n true).map dB) ((degZ (rowsP n pairs)).map dI) ((List.replicate n (-1)).map dI)) rest) [outV v6 O] (ovl (odHp w2 w1 v5 v6 1 1 1 1 n (rowsD (rowsP n pairs)) (rowsD (rowsL n likes)) (L.map dB) (deg'.map dI) ((List.replicate n (-1)).map dI)) rest))
    (vt' : Nat) (fin : List Int) (hfl : fin.length = n)
    (hB : ∀ (rest : Heap) (X : Fix), X.P = Try.prog → X.N = 19 → AW X (.loop (loopOf Try.prog 98 1)) ⟨envOf (bwL (dI ((O.length : Int) - 1))), ovl (bwE K n 0 v6 O (rowsD (rowsP n pairs)) (rowsD (rowsL n likes)) (L.map dB) (deg'.map dI) ((List.replicate n (-1)).map dI)) rest⟩ fun e' S' => e' = .exit 0 ∧
      S' = ⟨envOf [], ovl (bwE K n vt' v6 O (rowsD (rowsP n pairs)) (rowsD (rowsL n likes)) (L.map dB) (deg'.map dI) (fin.map dI)) rest⟩) (hOl : O.length < 1099511627776) : Par Try.prog :=
  { obm := obmP
    hp := fun f => f = 68 ∨ f = 69
    hint := fun f s => if f = 98 then (if s = 5 then some (hLen Try.prog O) else if s = 6 then some (.val (dI (IntKind.i64.wrap ((O.length : Int) - 1))) (dI ((O.length : Int) - 1)) (by rw [IntWalk.i64_in _ (by omega)])) else none) else ptHint n K pairs likes hn hK c1 c1 f s
    xcalls := fun f s => if f = 32 then (if s = 42 then some (layX n 0 0 0 0 0 0 pairs likes hn hpl hll hpr hlr) else none) else none
    calls := fun f s _ => if f = 32 then (if s = 45 then some ⟨70, [pPtr 1, dI K], odHp 0 0 0 0 1 1 1 1 n (rowsD (rowsP n pairs)) (rowsD (rowsL n likes)) ((List.replicate n true).map dB) ((degZ (rowsP n pairs)).map dI) ((List.replicate n (-1)).map dI), [outV v6 O],
        odHp w2 w1 v5 v6 1 1 1 1 n (rowsD (rowsP n pairs)) (rowsD (rowsL n likes)) (L.map dB) (deg'.map dI) ((List.replicate n (-1)).map dI), fits_of hO⟩ else none) else none
    keeps := fun f r => if f = 32 then (if r = 6 then some [(7, .ptr 7 1 0 0 1), (10, .ptr 1900 1 0 0 1)] else none) else none
    frz := fun f r => if f = 32 then (if r = 9 then some ⟨702344, 4, 701956, n, fin.map dI, fin.map fun x => .int .i64 x, by simp [hfl], mapInt fin⟩ else none) else none
    loops := fun f r => if f = 98 then (if r = 1 then some ⟨19, loopOf Try.prog 98 1, bwL (dI ((O.length : Int) - 1)), fun _ => bwE K n 0 v6 O (rowsD (rowsP n pairs)) (rowsD (rowsL n likes)) (L.map dB) (deg'.map dI) ((List.replicate n (-1)).map dI), .exit 0, [], fun _ => bwE K n vt' v6 O (rowsD (rowsP n pairs)) (rowsD (rowsL n likes)) (L.map dB) (deg'.map dI) (fin.map dI), hB⟩ else none) else none }
/-- What Paint tells. -/
def paintF (n K : Nat) (pairs likes : List (Int × Int)) (O : List Int) : List Int := O.reverse.foldl (stepF (rowsP n pairs) (rowsL n likes) K) (List.replicate n (-1))
theorem paintC (n K : Nat) (pairs likes : List (Int × Int)) (hn : n ≤ 60000) (hK : K ≤ 16) (hpl : pairs.length ≤ 1000000) (hll : likes.length ≤ 1000000) (hp : pairs.all (inP n) = true) (hl : likes.all (inP n) = true) :
    ∃ O : List Int, (O.Nodup ∧ (∀ x ∈ O, 0 ≤ x ∧ x.toNat < n) ∧ O.length = n) ∧ Pure Try.prog 32 [.int .i64 n, pairsD pairs, pairsD likes, .int .i64 K] [.ro ((paintF n K pairs likes O).map fun x => .int .i64 x), .int .i64 0] := by
  have hpr : ∀ p ∈ pairs, (0 ≤ p.1 ∧ p.1.toNat < n) ∧ 0 ≤ p.2 ∧ p.2.toNat < n := fun p h => inP_iff.1 (List.all_eq_true.1 hp p h)
  have hlr : ∀ p ∈ likes, (0 ≤ p.1 ∧ p.1.toNat < n) ∧ 0 ≤ p.2 ∧ p.2.toNat < n := fun p h => inP_iff.1 (List.all_eq_true.1 hl p h)
  have c1 := rightC n pairs (by omega)
  have c2 := rightC n likes (by omega)
  rw [hp] at c1
  rw [hl] at c2
  have hRP := rowsP_ok hpr
  have hRL := rowsL_ok hlr
  obtain ⟨w2, w1, v5, v6, O, L, deg', g1, g2, g3⟩ := orderC 0 0 0 0 1 1 1 1 n (rowsP n pairs) (rowsD (rowsL n likes)) (degZ (rowsP n pairs)) ((List.replicate n (-1)).map dI) K hn (rowsP_len n pairs) (by simp [degZ, rowsP_len]) (2 * pairs.length) (by omega) hRP
  obtain ⟨vt', hB⟩ := bwLoop K n v6 O (rowsP n pairs) (rowsL n likes) (L.map dB) (deg'.map dI) (by omega) g1.rng (by omega) (rowsP_len n pairs) (rowsL_len n likes) (fun R hR => ⟨(hRP R hR).1, by have := (hRP R hR).2; omega⟩) (fun R hR => ⟨(hRL R hR).1, by have := (hRL R hR).2; omega⟩) O.length 0 (List.replicate n (-1)) (Nat.le_refl _) ⟨by simp, fun c hc => by rw [List.eq_of_mem_replicate hc]; omega⟩
  rw [List.take_length] at hB
  refine ⟨O, ⟨g1.nd, g1.rng, g2⟩, ?_⟩
  have hfl : (paintF n K pairs likes O).length = n := by
    have : ∀ (l : List Int) (out : List Int), (l.foldl (stepF (rowsP n pairs) (rowsL n likes) K) out).length = out.length := by
      intro l
      induction l with
      | nil => intro out; rfl
      | cons x l ih => intro out; rw [List.foldl_cons, ih, stepF, List.length_set]
    rw [paintF, this, List.length_replicate]
  exact pure_of_run okP named (ptPr n K pairs likes hn hK ⟨c1, c2⟩ (by omega) (by omega) hpr hlr w2 w1 v5 v6 O L deg' g3 vt' (paintF n K pairs likes O) hfl (fun rest X hP hN => (hB rest X hP hN).aw) (by omega)) 1000 (by kernel_rfl)
end Go.Avm
/-
  Paint: what Paint tells is a painting (plain law).
-/
set_option linter.unusedSectionVars false
namespace Go.Avm
open Go.Proofs

/-- Neighbours. -/
def Nbr (pairs : List (Int × Int)) (a x : Int) : Prop := ∃ p ∈ pairs, p.1 ≠ p.2 ∧ ((p.1 = a ∧ p.2 = x) ∨ (p.2 = a ∧ p.1 = x))
theorem Nbr.symm {pairs : List (Int × Int)} {a x : Int} (h : Nbr pairs a x) : Nbr pairs x a := by
  obtain ⟨p, h1, h2, h3⟩ := h
  exact ⟨p, h1, h2, h3.elim (fun h => .inr ⟨h.2, h.1⟩) (fun h => .inl ⟨h.2, h.1⟩)⟩
theorem Nbr.ne {pairs : List (Int × Int)} {a x : Int} (h : Nbr pairs a x) : a ≠ x := by
  obtain ⟨p, h1, h2, h3⟩ := h
  rcases h3 with ⟨rfl, rfl⟩ | ⟨rfl, rfl⟩
  · exact h2
  · exact Ne.symm h2
theorem addP_get {n : Nat} {rows : List (List Int)} (hl : rows.length = n) {p : Int × Int} (hp : (0 ≤ p.1 ∧ p.1.toNat < n) ∧ 0 ≤ p.2 ∧ p.2.toNat < n) (a : Nat) (ha : a < n) (x : Int) :
    x ∈ ((addP rows p)[a]?).getD [] ↔ x ∈ (rows[a]?).getD [] ∨ (p.1 ≠ p.2 ∧ ((p.1 = a ∧ p.2 = x) ∨ (p.2 = a ∧ p.1 = x))) := by
  unfold addP
  by_cases he : p.1 = p.2
  · rw [if_pos he]
    simp [he]
  · rw [if_neg he]
    have hne : p.1.toNat ≠ p.2.toNat := by omega
    by_cases h2 : p.2.toNat = a
    · subst h2
      rw [List.getElem?_set_self (by rw [List.length_set]; omega), Option.getD_some, List.mem_append, List.mem_singleton]
      refine or_congr Iff.rfl ⟨fun h => ⟨he, .inr ⟨by omega, h.symm⟩⟩, fun ⟨_, h⟩ => ?_⟩
      rcases h with h | h
      · omega
      · exact h.2.symm
    · rw [List.getElem?_set_ne h2]
      by_cases h1 : p.1.toNat = a
      · subst h1
        rw [List.getElem?_set_self (by omega), Option.getD_some, List.mem_append, List.mem_singleton]
        refine or_congr Iff.rfl ⟨fun h => ⟨he, .inl ⟨by omega, h.symm⟩⟩, fun ⟨_, h⟩ => ?_⟩
        rcases h with h | h
        · exact h.2.symm
        · omega
      · rw [List.getElem?_set_ne h1]
        refine ⟨.inl, fun h => h.resolve_right ?_⟩
        rintro ⟨_, h | h⟩ <;> omega
theorem foldP_get {n : Nat} : ∀ (l : List (Int × Int)) (rows : List (List Int)), rows.length = n → (∀ p ∈ l, (0 ≤ p.1 ∧ p.1.toNat < n) ∧ 0 ≤ p.2 ∧ p.2.toNat < n) → ∀ (a : Nat), a < n → ∀ x, x ∈ ((l.foldl addP rows)[a]?).getD [] ↔ x ∈ (rows[a]?).getD [] ∨ Nbr l a x
  | [], rows, _, _, a, _, x => by
    simp [Nbr]
  | p :: l, rows, hl, hr, a, ha, x => by
    rw [List.foldl_cons, foldP_get l (addP rows p) (by rw [addP_length]; exact hl) (fun q hq => hr q (by simp [hq])) a ha x, addP_get hl (hr p (by simp)) a ha x, or_assoc]
    refine or_congr Iff.rfl ⟨fun h => ?_, fun ⟨q, hq, h1, h2⟩ => ?_⟩
    · rcases h with ⟨h1, h2⟩ | ⟨q, hq, h1, h2⟩
      · exact ⟨p, by simp, h1, h2⟩
      · exact ⟨q, by simp [hq], h1, h2⟩
    · rcases List.mem_cons.1 hq with rfl | hq
      · exact .inl ⟨h1, h2⟩
      · exact .inr ⟨q, hq, h1, h2⟩
theorem rowsP_mem {n : Nat} {pairs : List (Int × Int)} (hr : ∀ p ∈ pairs, (0 ≤ p.1 ∧ p.1.toNat < n) ∧ 0 ≤ p.2 ∧ p.2.toNat < n) {a x : Int} (h0 : 0 ≤ a) (h1 : a.toNat < n) : x ∈ paRows (rowsP n pairs) a ↔ Nbr pairs a x := by
  have h := foldP_get pairs (List.replicate n []) (by simp) hr a.toNat h1 x
  rw [Int.toNat_of_nonneg h0] at h
  have h2 : ((List.replicate n ([] : List Int))[a.toNat]?).getD [] = [] := by simp [h1]
  rw [h2] at h
  simp only [List.not_mem_nil, false_or] at h
  rw [← h, paRows, rowsP, List.getElem?_map]
  cases hq : (List.foldl addP (List.replicate n []) pairs)[a.toNat]? with
  | none => simp
  | some r => exact (Same.fin r).1 x

/-! ### The colours that are taken -/
theorem mark_get {out : List Int} {t : List Bool} {j : Int} {q : Nat} (hq : q < t.length) : (mark out t j)[q]? = some true ↔ t[q]? = some true ∨ (out[j.toNat]?).getD 0 = (q : Int) := by
  unfold mark
  by_cases h0 : 0 ≤ (out[j.toNat]?).getD 0
  · rw [if_pos h0]
    by_cases he : ((out[j.toNat]?).getD 0).toNat = q
    · rw [he, List.getElem?_set_self hq]
      have : (out[j.toNat]?).getD 0 = (q : Int) := by omega
      simp [this]
    · rw [List.getElem?_set_ne he]
      exact ⟨.inl, fun h => h.resolve_right (fun h2 => he (by omega))⟩
  · rw [if_neg h0]
    exact ⟨.inl, fun h => h.resolve_right (fun h2 => h0 (by omega))⟩
theorem taken_get {out : List Int} : ∀ (R : List Int) (t : List Bool) (q : Nat), q < t.length → ((R.foldl (mark out) t)[q]? = some true ↔ t[q]? = some true ∨ ∃ j ∈ R, (out[j.toNat]?).getD 0 = (q : Int))
  | [], t, q, _ => by simp
  | j :: R, t, q, hq => by
    rw [List.foldl_cons, taken_get R (mark out t j) q (by rw [mark_len]; exact hq), mark_get hq, or_assoc]
    refine or_congr Iff.rfl ⟨fun h => ?_, fun ⟨i, hi, he⟩ => ?_⟩
    · rcases h with h | ⟨i, hi, he⟩
      · exact ⟨j, by simp, h⟩
      · exact ⟨i, by simp [hi], he⟩
    · rcases List.mem_cons.1 hi with rfl | hi
      · exact .inl he
      · exact .inr ⟨i, hi, he⟩
theorem takenF_get {out R : List Int} {K q : Nat} (hq : q < K) : (takenF out K R)[q]? = some true ↔ ∃ j ∈ R, (out[j.toNat]?).getD 0 = (q : Int) := by
  rw [takenF, taken_get R _ q (by simpa using hq)]
  simp [hq]
theorem takenF_false {out R : List Int} {K q : Nat} (hq : q < K) : (takenF out K R)[q]? = some false ↔ ∀ j ∈ R, (out[j.toNat]?).getD 0 ≠ (q : Int) := by
  have h1 := takenF_get (out := out) (R := R) hq
  have hl : q < (takenF out K R).length := by rw [takenF_len]; exact hq
  rw [List.getElem?_eq_getElem hl] at h1 ⊢
  cases hb : (takenF out K R)[q] with
  | true =>
    rw [hb] at h1
    obtain ⟨j, hj, he⟩ := h1.1 rfl
    exact ⟨fun h => by simp at h, fun h => absurd he (h j hj)⟩
  | false =>
    rw [hb] at h1
    exact ⟨fun _ j hj he => by have := h1.2 ⟨j, hj, he⟩; simp at this, fun _ => rfl⟩
/-- What a node's colour is like. -/
theorem colF_spec {out R R2 : List Int} {K n : Nat} (ho : OkOut n K out) (hR2 : ∀ x ∈ R2, 0 ≤ x ∧ x.toNat < n) :
    (0 ≤ colF out R R2 K → ∀ j ∈ R, (out[j.toNat]?).getD 0 ≠ colF out R R2 K) ∧ (colF out R R2 K < 0 → ∀ q : Nat, q < K → ∃ j ∈ R, (out[j.toNat]?).getD 0 = (q : Int)) := by
  have hlt := colF_lt (R := R) ho.len ho.rng hR2
  unfold colF at hlt ⊢
  split
  · rename_i p hp
    rw [List.findIdx?_eq_some_iff_getElem] at hp
    obtain ⟨h1, h2, _⟩ := hp
    rw [List.getElem?_eq_getElem h1, Option.getD_some] at *
    generalize hc : (out[R2[p].toNat]?).getD 0 = c at *
    unfold hitB at h2
    rw [hc] at h2
    simp only [Bool.and_eq_true, decide_eq_true_eq, beq_iff_eq] at h2
    refine ⟨fun h0 => ?_, fun h => by omega⟩
    have hcK : c.toNat < K := by
      have := hR2 _ (List.getElem_mem h1)
      have := out_lt ho.rng (show R2[p].toNat < out.length by rw [ho.len]; exact this.2)
      omega
    have hl : c.toNat < (takenF out K R).length := by rw [takenF_len]; exact hcK
    have hf : (takenF out K R)[c.toNat]? = some false := by
      have h3 := h2.2
      rw [List.getElem?_eq_getElem hl] at h3 ⊢
      simpa using h3
    intro j hj
    have := (takenF_false hcK).1 hf j hj
    omega
  · unfold ffI
    split
    · rename_i i hi
      rw [List.findIdx?_eq_some_iff_getElem] at hi
      obtain ⟨h1, h2, _⟩ := hi
      have hiK : i < K := by rw [takenF_len] at h1; exact h1
      refine ⟨fun _ j hj => (takenF_false hiK).1 (by rw [List.getElem?_eq_getElem h1]; simpa using h2) j hj, fun h => by omega⟩
    · rename_i hi
      rw [List.findIdx?_eq_none_iff] at hi
      refine ⟨fun h => by omega, fun _ q hq => (takenF_get hq).1 ?_⟩
      have hl : q < (takenF out K R).length := by rw [takenF_len]; exact hq
      have := hi _ (List.getElem_mem hl)
      rw [List.getElem?_eq_getElem hl]
      simpa using this

/-- So far painted right. -/
structure Inv (n K : Nat) (pairs : List (Int × Int)) (done : List Int) (out : List Int) : Prop where
  ok : OkOut n K out
  dr : ∀ x ∈ done, 0 ≤ x ∧ x.toNat < n
  un : ∀ x : Int, 0 ≤ x → x.toNat < n → x ∉ done → (out[x.toNat]?).getD 0 = -1
  ne : ∀ x y : Int, Nbr pairs x y → 0 ≤ (out[x.toNat]?).getD 0 → (out[x.toNat]?).getD 0 ≠ (out[y.toNat]?).getD 0
  full : ∀ x : Int, x ∈ done → (out[x.toNat]?).getD 0 < 0 → ∀ q : Nat, q < K → ∃ y, Nbr pairs x y ∧ (out[y.toNat]?).getD 0 = (q : Int)
theorem Inv.step {n K : Nat} {pairs : List (Int × Int)} {done out : List Int} {lrows : List (List Int)} (h : Inv n K pairs done out) (hr : ∀ p ∈ pairs, (0 ≤ p.1 ∧ p.1.toNat < n) ∧ 0 ≤ p.2 ∧ p.2.toNat < n) (hR2 : ∀ R ∈ lrows, (∀ x ∈ R, 0 ≤ x ∧ x.toNat < n) ∧ R.length < 1099511627776)
    {x : Int} (h0 : 0 ≤ x) (h1 : x.toNat < n) (hx : x ∉ done) : Inv n K pairs (x :: done) (stepF (rowsP n pairs) lrows K out x) := by
  have hrng : ∀ a b, Nbr pairs a b → (0 ≤ a ∧ a.toNat < n) ∧ 0 ≤ b ∧ b.toNat < n := fun a b ⟨p, hp, _, h⟩ => by
    have := hr p hp
    rcases h with ⟨rfl, rfl⟩ | ⟨rfl, rfl⟩
    · exact this
    · exact ⟨this.2, this.1⟩
  have hs := colF_spec (R := paRows (rowsP n pairs) x) h.ok (rowsR hR2 x)
  have hself : ((stepF (rowsP n pairs) lrows K out x)[x.toNat]?).getD 0 = colF out (paRows (rowsP n pairs) x) (paRows lrows x) K := by
    rw [stepF, List.getElem?_set_self (by rw [h.ok.len]; exact h1)]
    rfl
  have hoth : ∀ y : Int, 0 ≤ y → y ≠ x → ((stepF (rowsP n pairs) lrows K out x)[y.toNat]?).getD 0 = (out[y.toNat]?).getD 0 := fun y hy hne => by
    rw [stepF, List.getElem?_set_ne (by omega)]
  have hxo := h.un x h0 h1 hx
  refine ⟨h.ok.step hR2 x, fun y hy => (List.mem_cons.1 hy).elim (fun e => by subst e; exact ⟨h0, h1⟩) (h.dr y), fun y hy0 hy1 hy => ?_, fun a b hab => ?_, fun y hy => ?_⟩
  · simp only [List.mem_cons, not_or] at hy
    rw [hoth y hy0 hy.1]
    exact h.un y hy0 hy1 hy.2
  · obtain ⟨⟨ha0, ha1⟩, hb0, hb1⟩ := hrng a b hab
    have hab2 := hab.ne
    by_cases hax : a = x
    · subst hax
      rw [hself, hoth b hb0 (Ne.symm hab2)]
      intro hc
      have := hs.1 hc b ((rowsP_mem hr ha0 ha1).2 hab)
      exact fun e => this e.symm
    · by_cases hbx : b = x
      · subst hbx
        rw [hself, hoth a ha0 hax]
        intro hc e
        have := hs.1 (by omega) a ((rowsP_mem hr hb0 hb1).2 hab.symm)
        exact this e
      · rw [hoth a ha0 hax, hoth b hb0 hbx]
        exact h.ne a b hab
  · intro hneg q hq
    rcases List.mem_cons.1 hy with rfl | hy
    · rw [hself] at hneg
      obtain ⟨j, hj, he⟩ := hs.2 hneg q hq
      have hjn := (rowsP_mem hr h0 h1).1 hj
      exact ⟨j, hjn, by rw [hoth j (hrng _ _ hjn).2.1 (Ne.symm hjn.ne)]; exact he⟩
    · have hyx : y ≠ x := fun e => hx (e ▸ hy)
      have hy0 := (h.dr y hy).1
      rw [hoth y hy0 hyx] at hneg
      obtain ⟨j, hj, he⟩ := h.full y hy hneg q hq
      have hjx : j ≠ x := fun e => by subst e; omega
      exact ⟨j, hj, by rw [hoth j (hrng _ _ hj).2.1 hjx]; exact he⟩
theorem Inv.fold {n K : Nat} {pairs : List (Int × Int)} {lrows : List (List Int)} (hr : ∀ p ∈ pairs, (0 ≤ p.1 ∧ p.1.toNat < n) ∧ 0 ≤ p.2 ∧ p.2.toNat < n) (hR2 : ∀ R ∈ lrows, (∀ x ∈ R, 0 ≤ x ∧ x.toNat < n) ∧ R.length < 1099511627776) :
    ∀ (l done out : List Int), Inv n K pairs done out → l.Nodup → (∀ x ∈ l, 0 ≤ x ∧ x.toNat < n) → (∀ x ∈ l, x ∉ done) → ∃ d, (∀ x, x ∈ d ↔ x ∈ done ∨ x ∈ l) ∧ Inv n K pairs d (l.foldl (stepF (rowsP n pairs) lrows K) out)
  | [], done, out, h, _, _, _ => ⟨done, by simp, h⟩
  | x :: l, done, out, h, hn, hl, hd => by
    rw [List.nodup_cons] at hn
    obtain ⟨h0, h1⟩ := hl x (by simp)
    obtain ⟨d, g1, g2⟩ := Inv.fold hr hR2 l (x :: done) _ (h.step hr hR2 h0 h1 (hd x (by simp))) hn.2 (fun y hy => hl y (by simp [hy])) (fun y hy hx => by
      rcases List.mem_cons.1 hx with rfl | hx
      · exact hn.1 hy
      · exact hd y (by simp [hy]) hx)
    refine ⟨d, fun y => ?_, g2⟩
    rw [g1 y, List.mem_cons, List.mem_cons, or_assoc, or_left_comm]
/-- A painting. -/
structure Painted (n K : Nat) (pairs : List (Int × Int)) (c : List Int) : Prop where
  len : c.length = n
  rng : ∀ x ∈ c, -1 ≤ x ∧ x < (K : Int)
  ne : ∀ x y : Int, Nbr pairs x y → 0 ≤ (c[x.toNat]?).getD 0 → (c[x.toNat]?).getD 0 ≠ (c[y.toNat]?).getD 0
  full : ∀ x : Int, 0 ≤ x → x.toNat < n → (c[x.toNat]?).getD 0 < 0 → ∀ q : Nat, q < K → ∃ y, Nbr pairs x y ∧ (c[y.toNat]?).getD 0 = (q : Int)
theorem paint_painted {n K : Nat} {pairs likes : List (Int × Int)} (hpl : pairs.length ≤ 1000000) (hll : likes.length ≤ 1000000) (hp : pairs.all (inP n) = true) (hl : likes.all (inP n) = true) {O : List Int} (hO : O.Nodup ∧ (∀ x ∈ O, 0 ≤ x ∧ x.toNat < n) ∧ O.length = n) : Painted n K pairs (paintF n K pairs likes O) := by
  have hpr : ∀ p ∈ pairs, (0 ≤ p.1 ∧ p.1.toNat < n) ∧ 0 ≤ p.2 ∧ p.2.toNat < n := fun p h => inP_iff.1 (List.all_eq_true.1 hp p h)
  have hlr : ∀ p ∈ likes, (0 ≤ p.1 ∧ p.1.toNat < n) ∧ 0 ≤ p.2 ∧ p.2.toNat < n := fun p h => inP_iff.1 (List.all_eq_true.1 hl p h)
  have hRL := rowsL_ok hlr
  have h0 : Inv n K pairs [] (List.replicate n (-1)) := by
    refine ⟨⟨by simp, fun c hc => by rw [List.eq_of_mem_replicate hc]; omega⟩, fun x hx => (by cases hx), fun x h0 h1 _ => by simp [h1], fun x y hxy hc => ?_, fun x hx => (by cases hx)⟩
    have hx : x.toNat < n := by
      obtain ⟨p, hp, _, h⟩ := hxy
      have := hpr p hp
      rcases h with ⟨rfl, rfl⟩ | ⟨rfl, rfl⟩
      · exact this.1.2
      · exact this.2.2
    simp [hx] at hc
  obtain ⟨d, g1, g2⟩ := Inv.fold hpr (fun R hR => ⟨(hRL R hR).1, by have := (hRL R hR).2; omega⟩) O.reverse [] _ h0 (by
    unfold List.Nodup
    rw [List.pairwise_reverse]
    exact hO.1.imp (fun h e => h e.symm)) (fun x hx => hO.2.1 x (List.mem_reverse.1 hx)) (fun x _ hx => by cases hx)
  exact ⟨g2.ok.len, g2.ok.rng, g2.ne, fun x h0 h1 => g2.full x ((g1 x).2 (.inr (List.mem_reverse.2 (all_in hO.1 hO.2.1 hO.2.2 h0 h1))))⟩

/-- Where nobody is in anybody's way, all are of the first colour. -/
theorem colF_zero {out R2 : List Int} {K : Nat} (hK : 0 < K) (hc : ∀ j ∈ R2, (out[j.toNat]?).getD 0 = -1 ∨ (out[j.toNat]?).getD 0 = 0) : colF out [] R2 K = 0 := by
  unfold colF
  split
  · rename_i p hp
    rw [List.findIdx?_eq_some_iff_getElem] at hp
    obtain ⟨h1, h2, _⟩ := hp
    rw [List.getElem?_eq_getElem h1, Option.getD_some]
    unfold hitB at h2
    simp only [Bool.and_eq_true, decide_eq_true_eq] at h2
    rcases hc _ (List.getElem_mem h1) with h | h
    · omega
    · exact h
  · obtain ⟨m, rfl⟩ : ∃ m, K = m + 1 := ⟨K - 1, by omega⟩
    rfl
theorem paint_zero {n K : Nat} {likes : List (Int × Int)} (hK : 0 < K) (hll : likes.length ≤ 1000000) (hl : likes.all (inP n) = true) {O : List Int} (hO : O.Nodup ∧ (∀ x ∈ O, 0 ≤ x ∧ x.toNat < n) ∧ O.length = n) : ∀ x ∈ paintF n K [] likes O, x = 0 := by
  have hlr : ∀ p ∈ likes, (0 ≤ p.1 ∧ p.1.toNat < n) ∧ 0 ≤ p.2 ∧ p.2.toNat < n := fun p h => inP_iff.1 (List.all_eq_true.1 hl p h)
  have hRL := rowsL_ok hlr
  have hno : ∀ a : Int, 0 ≤ a → a.toNat < n → paRows (rowsP n []) a = [] := fun a h0 h1 => by
    apply List.eq_nil_iff_forall_not_mem.2
    intro x hx
    obtain ⟨p, hp, _⟩ := (rowsP_mem (n := n) (pairs := []) (fun p hp => by cases hp) h0 h1).1 hx
    cases hp
  have key : ∀ (l out done : List Int), out.length = n → (∀ x : Int, 0 ≤ x → x.toNat < n → (x ∈ done ∧ (out[x.toNat]?).getD 0 = 0) ∨ (x ∉ done ∧ (out[x.toNat]?).getD 0 = -1)) → (∀ x ∈ l, 0 ≤ x ∧ x.toNat < n) →
      ∀ x : Int, 0 ≤ x → x.toNat < n → (x ∈ done ∨ x ∈ l) → (((l.foldl (stepF (rowsP n []) (rowsL n likes) K) out))[x.toNat]?).getD 0 = 0 := by
    intro l
    induction l with
    | nil =>
      intro out done hlen h _ x h0 h1 hx
      rcases hx with hx | hx
      · rcases h x h0 h1 with h | h
        · exact h.2
        · exact absurd hx h.1
      · cases hx
    | cons y l ih =>
      intro out done hlen h hl x h0 h1 hx
      obtain ⟨hy0, hy1⟩ := hl y (by simp)
      rw [List.foldl_cons]
      have hcol : colF out (paRows (rowsP n []) y) (paRows (rowsL n likes) y) K = 0 := by
        rw [hno y hy0 hy1]
        refine colF_zero hK (fun j hj => ?_)
        have hj2 : 0 ≤ j ∧ j.toNat < n := by
          unfold paRows at hj
          cases hq : (rowsL n likes)[y.toNat]? with
          | none => rw [hq] at hj; cases hj
          | some R => rw [hq] at hj; exact (hRL R (List.mem_of_getElem? hq)).1 j hj
        rcases h j hj2.1 hj2.2 with h | h
        · exact .inr h.2
        · exact .inl h.2
      refine ih _ (y :: done) (by rw [stepF, List.length_set]; exact hlen) (fun z hz0 hz1 => ?_) (fun z hz => hl z (by simp [hz])) x h0 h1 (by
        rcases hx with hx | hx
        · exact .inl (by simp [hx])
        · rcases List.mem_cons.1 hx with rfl | hx
          · exact .inl (by simp)
          · exact .inr hx)
      rw [stepF, hcol]
      by_cases hzy : z = y
      · subst hzy
        exact .inl ⟨by simp, by rw [List.getElem?_set_self (by omega)]; rfl⟩
      · rw [List.getElem?_set_ne (by omega)]
        rcases h z hz0 hz1 with h | h
        · exact .inl ⟨by simp [h.1], h.2⟩
        · exact .inr ⟨by simp [hzy, h.1], h.2⟩
  have hlen : (paintF n K [] likes O).length = n := (paint_painted (pairs := []) (K := K) (by simp) hll rfl hl hO).len
  intro c hc
  obtain ⟨i, hi, rfl⟩ := List.getElem_of_mem hc
  have := key O.reverse (List.replicate n (-1)) [] (by simp) (fun x h0 h1 => .inr ⟨by simp, by simp [h1]⟩) (fun x hx => hO.2.1 x (List.mem_reverse.1 hx)) (i : Int) (by omega) (by simpa [hlen] using hi) (.inr (List.mem_reverse.2 (all_in hO.1 hO.2.1 hO.2.2 (by omega) (by simpa [hlen] using hi))))
  rw [Int.toNat_natCast] at this
  have h2 : ((paintF n K [] likes O)[i]?).getD 0 = 0 := this
  rw [List.getElem?_eq_getElem hi] at h2
  exact h2
end Go.Avm
/-
  Paint: a law's own copies of its lists; the refusals of Paint.
-/
set_option linter.unusedSectionVars false
namespace Go.Avm
open Go.Proofs

theorem pairs_all (l : List (Int × Int)) : (l.map pairD).all (fun y => y.cells.length == 2) = true := by
  simp [D.cells]
theorem twinsC (l : List (Int × Int)) (m : Nat) (hm : m ≤ 500000000000) : Pure Try.prog 31 [pairsD l, .int .i64 m] [pairsD (l.take m)] := by
  have e : (l.take m).map pairD = ((l.map pairD).take (min l.length m)).drop 0 := by
    rw [List.drop_zero, List.map_take]
    rcases Nat.le_total l.length m with h | h
    · rw [Nat.min_eq_left h, List.take_of_length_le (by simpa using h), List.take_of_length_le (by simp)]
    · rw [Nat.min_eq_right h]
  have ha : (((l.map pairD).take (min l.length m)).drop 0).all (fun y => y.cells.length == 2) = true := by
    rw [← e]
    exact pairs_all _
  show Pure Try.prog 31 [pairsD l, .int .i64 m] [.ro ((l.take m).map pairD)]
  rw [e]
  exact pure_of_run okP named { hint := fun f s => if f = 31 then (if s = 8 then some (.val (dN (l.map pairD).length) (dN l.length) (by simp)) else if s = 10 then some (.val (dI (mnI l.length m)) (dN (min l.length m)) (by
      unfold dI mnI
      congr 2
      split <;> omega)) else if s = 11 then some (.cutl (l.map pairD) (min l.length m) (by simp; omega)) else if s = 12 then some (.appl [] (((l.map pairD).take (min l.length m)).drop 0) 2 ⟨by simp; omega, ha⟩) else none) else none } 1000 (by kernel_rfl)
def argH (n k : Int) (b1 b2 b3 b4 : Bool) (h1 : decide (n < 0) = b1) (h2 : decide ((60000 : Int) < n) = b2) (h3 : decide (k < 0) = b3) (h4 : decide ((16 : Int) < k) = b4) : Nat → Option (Hint Try.prog) := fun s =>
  if s = 15 then some (.val (dB (decide (n < 0))) (dB b1) (by rw [h1])) else if s = 18 then some (.val (dB (decide ((60000 : Int) < n))) (dB b2) (by rw [h2])) else if s = 22 then some (.val (dB (decide (k < 0))) (dB b3) (by rw [h3])) else if s = 26 then some (.val (dB (decide ((16 : Int) < k))) (dB b4) (by rw [h4])) else none
theorem paintArg (n k : Int) (P L : D) (h : n < 0 ∨ 60000 < n ∨ k < 0 ∨ 16 < k) : Pure Try.prog 32 [.int .i64 n, P, L, .int .i64 k] [.ro [], .int .i64 1] := by
  cases h1 : decide (n < 0) with
  | true => exact pure_of_run okP named { obm := obmP, hint := fun f => if f = 32 then argH n k true _ _ _ h1 rfl rfl rfl else fun _ => none } 1000 (by kernel_rfl)
  | false =>
    cases h2 : decide ((60000 : Int) < n) with
    | true => exact pure_of_run okP named { obm := obmP, hint := fun f => if f = 32 then argH n k false true _ _ h1 h2 rfl rfl else fun _ => none } 1000 (by kernel_rfl)
    | false =>
      cases h3 : decide (k < 0) with
      | true => exact pure_of_run okP named { obm := obmP, hint := fun f => if f = 32 then argH n k false false true _ h1 h2 h3 rfl else fun _ => none } 1000 (by kernel_rfl)
      | false =>
        have h4 : decide ((16 : Int) < k) = true := by
          simp at h1 h2 h3 ⊢
          omega
        exact pure_of_run okP named { obm := obmP, hint := fun f => if f = 32 then argH n k false false false true h1 h2 h3 h4 else fun _ => none } 1000 (by kernel_rfl)
theorem paintForm (n K : Nat) (pairs likes : List (Int × Int)) (hn : n ≤ 60000) (hK : K ≤ 16) (hpl : pairs.length ≤ 1000000) (hll : likes.length ≤ 1000000) (h : (pairs.all (inP n) && likes.all (inP n)) = false) :
    Pure Try.prog 32 [.int .i64 n, pairsD pairs, pairsD likes, .int .i64 K] [.ro [], .int .i64 3] := by
  have c1 := rightC n pairs (by omega)
  have c2 := rightC n likes (by omega)
  have h1 : decide ((n : Int) < 0) = false := by simp
  have h2 : decide ((60000 : Int) < (n : Int)) = false := by simp; omega
  have h3 : decide ((K : Int) < 0) = false := by simp
  have h4 : decide ((16 : Int) < (K : Int)) = false := by simp; omega
  cases hp : pairs.all (inP n) with
  | false =>
    rw [hp] at c1
    exact pure_of_run okP named { obm := obmP, hint := fun f => if f = 32 then (fun s => if s = 31 then some (.call 67 [.int .i64 n, pairsD pairs] [.bool false] c1) else argH n K false false false false h1 h2 h3 h4 s) else fun _ => none } 1000 (by kernel_rfl)
  | true =>
    rw [hp] at c1
    rw [hp, Bool.true_and] at h
    rw [h] at c2
    exact pure_of_run okP named { obm := obmP, hint := fun f => if f = 32 then (fun s => if s = 31 then some (.call 67 [.int .i64 n, pairsD pairs] [.bool true] c1) else if s = 36 then some (.call 67 [.int .i64 n, pairsD likes] [.bool false] c2) else argH n K false false false false h1 h2 h3 h4 s) else fun _ => none } 1000 (by kernel_rfl)
end Go.Avm
