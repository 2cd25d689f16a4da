/-
  Hints, by tables.
-/
import Derived.Test.YtpcomfnianamgaaFlA
import Derived.Test.YtpcomfnianamgaaAvmW
import Derived.Test.YtpcomfnianamgaaAvmY
set_option linter.unusedSectionVars false
namespace Go.Avm
open Go.Proofs

def lookK {P : Program} (f s : Nat) : List (Nat × Nat × Hint P) → Option (Hint P)
  | [] => none
  | (f', s', h) :: r => bif Nat.beq f f' && Nat.beq s s' then some h else lookK f s r
def tabH (P : Program) (l : List (Nat × Nat × Hint P)) : Nat → Nat → Option (Hint P) := fun f s => lookK f s l
def lookKB {P : Program} (f s b : Nat) : List (Nat × Nat × Nat × Hint P) → Option (Hint P)
  | [] => none
  | (f', s', b', h) :: r => bif Nat.beq f f' && (Nat.beq s s' && Nat.beq b b') then some h else lookKB f s b r
def tabHB (P : Program) (l : List (Nat × Nat × Nat × Hint P)) : Nat → Nat → Nat → Option (Hint P) := fun f s b => lookKB f s b l
/-- Where a bool is known. -/
def hB (P : Program) (a b : Bool) (h : a = b) : Hint P := .val (dB a) (dB b) (by rw [h])
def hNat (P : Program) (a : Int) (n : Nat) (h : a = (n : Int)) : Hint P := .val (dI a) (dN n) (by subst h; rfl)
def hI (P : Program) (a b : Int) (h : a = b) : Hint P := .val (dI a) (dI b) (by rw [h])
def hIx (P : Program) (r : List Int) (i : Nat) (x : Int) (h : r[i]? = some x) : Hint P := .idx (r.map fun x => .int .i64 x) ((i : Nat) : Int) (.int .i64 x) (by omega) (by simp [h])
def hIxR (P : Program) (g : List (List Int)) (i : Nat) (r : List Int) (h : g[i]? = some r) : Hint P := .idx (g.map rowD) ((i : Nat) : Int) (rowD r) (by omega) (by simp [h])
/-- A loop whose rounds are counted. -/
theorem lw_from {X : Fix} {c : Code} {n : Nat} (S : Nat → St) {e : AExit} {Z : St} (he : e ≠ .normal) (hR : ∀ i, i < n → AW X c (S i) fun e' S' => e' = .normal ∧ Weak X S' (S (i + 1))) (hE : AW X c (S n) fun e' S' => e' = e ∧ Weak X S' Z) :
    ∀ (m i : Nat), n - i = m → i ≤ n → LW X c (S i) fun e' S' => e' = e ∧ S' = Z
  | 0, i, hm, hi => by
    have : i = n := by omega
    subst this
    exact lw_end hE he
  | m + 1, i, hm, hi => lw_seg (hR i (by omega)) (lw_from S he hR hE m (i + 1) (by omega) (by omega))
theorem lw_count {X : Fix} {c : Code} (n : Nat) (S : Nat → St) {e : AExit} {Z : St} (he : e ≠ .normal) (hR : ∀ i, i < n → AW X c (S i) fun e' S' => e' = .normal ∧ Weak X S' (S (i + 1))) (hE : AW X c (S n) fun e' S' => e' = e ∧ Weak X S' Z) :
    LW X c (S 0) fun e' S' => e' = e ∧ S' = Z := lw_from S he hR hE n 0 rfl (Nat.zero_le _)
theorem dec_true {p : Prop} [Decidable p] (h : p) : decide p = true := decide_eq_true h
theorem dec_false {p : Prop} [Decidable p] (h : ¬ p) : decide p = false := decide_eq_false h
end Go.Avm
/-
  Flow: is a graph one?
-/
set_option linter.unusedSectionVars false
namespace Go.Avm
open Go.Proofs

def okR (n : Nat) (r : List Int) : Bool := r.all fun b => decide (0 ≤ b ∧ b < (n : Int))
def okG (g : List (List Int)) : Bool := g.all (okR g.length)
def ckL (g : List (List Int)) (r : List Int) (i k : Nat) : List (Nat × AV) := [(0, .d (rowsD g)), (10, .d (rowsD g)), (11, dN g.length), (12, dN i), (16, .d (rowD r)), (17, dN r.length), (18, dN k)]
def ckO (g : List (List Int)) (i : Nat) : List (Nat × AV) := [(0, .d (rowsD g)), (10, .d (rowsD g)), (11, dN g.length), (12, dN i)]
/-- The first that isn't so. -/
theorem first_bad {α : Type} (p : α → Bool) : ∀ l : List α, l.all p = true ∨ ∃ (j : Nat) (x : α), l[j]? = some x ∧ p x = false ∧ ∀ (i : Nat) (y : α), i < j → l[i]? = some y → p y = true
  | [] => .inl rfl
  | a :: r => by
    cases ha : p a with
    | false => exact .inr ⟨0, a, rfl, ha, fun i y h => absurd h (by omega)⟩
    | true =>
      rcases first_bad p r with h | ⟨j, x, h1, h2, h3⟩
      · exact .inl (by simp [ha, h])
      · refine .inr ⟨j + 1, x, by simpa using h1, h2, fun i y hi hy => ?_⟩
        cases i with
        | zero => simp at hy; subst hy; exact ha
        | succ i => exact h3 i y (by omega) (by simpa using hy)
section
variable (g : List (List Int)) (r : List Int) (i k : Nat) (x : Int)
theorem ck73Round (hk1 : k < r.length) (hl : r.length < 1000000000) (hx : r[k]? = some x) (h0 : decide (x < 0) = false) (h1 : decide ((g.length : Int) ≤ x) = false) (rest : Heap) (X : Fix) (hP : X.P = Try.prog) (hN : X.N = 32) :
    AW X (loopOf Try.prog 73 7) ⟨envOf (ckL g r i k), ovl [] rest⟩ fun e' S' => e' = .normal ∧ Weak X S' ⟨envOf (ckL g r i (k + 1)), ovl [] rest⟩ :=
  seg okP named { hint := tabH Try.prog [(73, 19, hLt Try.prog k r.length true (by simpa using hk1)), (73, 20, hIx Try.prog r k x hx), (73, 23, hB Try.prog _ _ h0), (73, 27, hLenR Try.prog g), (73, 28, hB Try.prog _ _ h1), (73, 30, hSucc Try.prog k (by omega))] } 2000 73 500000 32 (by kernel_rfl) X hP hN
theorem ck73Stop (rest : Heap) (X : Fix) (hP : X.P = Try.prog) (hN : X.N = 32) :
    AW X (loopOf Try.prog 73 7) ⟨envOf (ckL g r i r.length), ovl [] rest⟩ fun e' S' => e' = .exit 2 ∧ Weak X S' ⟨envOf (ckO g i), ovl [] rest⟩ :=
  seg okP named { hint := tabH Try.prog [(73, 19, hLt Try.prog r.length r.length false (by simp))] } 2000 73 500000 32 (by kernel_rfl) X hP hN
theorem ck73Low (hk1 : k < r.length) (hx : r[k]? = some x) (h0 : decide (x < 0) = true) (rest : Heap) (X : Fix) (hP : X.P = Try.prog) (hN : X.N = 32) :
    AW X (loopOf Try.prog 73 7) ⟨envOf (ckL g r i k), ovl [] rest⟩ fun e' S' => e' = .ret ∧ Weak X S' ⟨envOf [(2, dI 3)], ovl [] rest⟩ :=
  seg okP named { hint := tabH Try.prog [(73, 19, hLt Try.prog k r.length true (by simpa using hk1)), (73, 20, hIx Try.prog r k x hx), (73, 23, hB Try.prog _ _ h0)] } 2000 73 500000 32 (by kernel_rfl) X hP hN
theorem ck73High (hk1 : k < r.length) (hx : r[k]? = some x) (h0 : decide (x < 0) = false) (h1 : decide ((g.length : Int) ≤ x) = true) (rest : Heap) (X : Fix) (hP : X.P = Try.prog) (hN : X.N = 32) :
    AW X (loopOf Try.prog 73 7) ⟨envOf (ckL g r i k), ovl [] rest⟩ fun e' S' => e' = .ret ∧ Weak X S' ⟨envOf [(2, dI 3)], ovl [] rest⟩ :=
  seg okP named { hint := tabH Try.prog [(73, 19, hLt Try.prog k r.length true (by simpa using hk1)), (73, 20, hIx Try.prog r k x hx), (73, 23, hB Try.prog _ _ h0), (73, 27, hLenR Try.prog g), (73, 28, hB Try.prog _ _ h1)] } 2000 73 500000 32 (by kernel_rfl) X hP hN
theorem ck73Good (hl : r.length < 1000000000) (hr : okR g.length r = true) (rest : Heap) (X : Fix) (hP : X.P = Try.prog) (hN : X.N = 32) :
    AW X (.loop (loopOf Try.prog 73 7)) ⟨envOf (ckL g r i 0), ovl [] rest⟩ fun e' S' => e' = .exit 2 ∧ S' = ⟨envOf (ckO g i), ovl [] rest⟩ :=
  (lw_count r.length (fun k => ⟨envOf (ckL g r i k), ovl [] rest⟩) (by simp) (fun k hk => by
    have := List.all_eq_true.1 hr _ (List.getElem_mem hk)
    simp only [decide_eq_true_eq] at this
    exact ck73Round g r i k r[k] hk hl (List.getElem?_eq_getElem hk) (dec_false (by omega)) (dec_false (by omega)) rest X hP hN) (ck73Stop g r i rest X hP hN)).aw
theorem ck73Bad (hl : r.length < 1000000000) (hr : okR g.length r = false) (rest : Heap) (X : Fix) (hP : X.P = Try.prog) (hN : X.N = 32) :
    AW X (.loop (loopOf Try.prog 73 7)) ⟨envOf (ckL g r i 0), ovl [] rest⟩ fun e' S' => e' = .ret ∧ S' = ⟨envOf [(2, dI 3)], ovl [] rest⟩ := by
  rcases first_bad (fun b => decide (0 ≤ b ∧ b < (g.length : Int))) r with h | ⟨j, x, h1, h2, h3⟩
  · unfold okR at hr; rw [h] at hr; simp at hr
  · have hj : j < r.length := (List.getElem?_eq_some_iff.1 h1).1
    refine (lw_count j (fun k => ⟨envOf (ckL g r i k), ovl [] rest⟩) (by simp) (fun k hk => ?_) ?_).aw
    · have := h3 k r[k] hk (List.getElem?_eq_getElem (by omega))
      simp only [decide_eq_true_eq] at this
      exact ck73Round g r i k r[k] (by omega) hl (List.getElem?_eq_getElem (by omega)) (dec_false (by omega)) (dec_false (by omega)) rest X hP hN
    · simp only [decide_eq_false_iff_not] at h2
      by_cases hx : x < 0
      · exact ck73Low g r i j x hj h1 (dec_true hx) rest X hP hN
      · exact ck73High g r i j x hj h1 (dec_false hx) (dec_true (by omega)) rest X hP hN
theorem ck73Row (hi : i < g.length) (hg : g.length ≤ 60000) (hx : g[i]? = some r) (hl : r.length < 1000000000) (hr : okR g.length r = true) (rest : Heap) (X : Fix) (hP : X.P = Try.prog) (hN : X.N = 32) :
    AW X (loopOf Try.prog 73 4) ⟨envOf (ckO g i), ovl [] rest⟩ fun e' S' => e' = .normal ∧ Weak X S' ⟨envOf (ckO g (i + 1)), ovl [] rest⟩ :=
  seg okP named { loops := fun f q => if f = 73 then (if q = 7 then some ⟨32, loopOf Try.prog 73 7, ckL g r i 0, fun _ => [], .exit 2, ckO g i, fun _ => [], ck73Good g r i hl hr⟩ else none) else none, hint := tabH Try.prog [(73, 13, hLt Try.prog i g.length true (by simpa using hi)), (73, 14, hIxR Try.prog g i r hx), (73, 17, hLen Try.prog r), (73, 31, hSucc Try.prog i (by omega))] } 2000 73 500000 32 (by kernel_rfl) X hP hN
theorem ck73RowBad (hi : i < g.length) (hx : g[i]? = some r) (hl : r.length < 1000000000) (hr : okR g.length r = false) (rest : Heap) (X : Fix) (hP : X.P = Try.prog) (hN : X.N = 32) :
    AW X (loopOf Try.prog 73 4) ⟨envOf (ckO g i), ovl [] rest⟩ fun e' S' => e' = .ret ∧ Weak X S' ⟨envOf [(2, dI 3)], ovl [] rest⟩ :=
  seg okP named { loops := fun f q => if f = 73 then (if q = 7 then some ⟨32, loopOf Try.prog 73 7, ckL g r i 0, fun _ => [], .ret, [(2, dI 3)], fun _ => [], ck73Bad g r i hl hr⟩ else none) else none, hint := tabH Try.prog [(73, 13, hLt Try.prog i g.length true (by simpa using hi)), (73, 14, hIxR Try.prog g i r hx), (73, 17, hLen Try.prog r)] } 2000 73 500000 32 (by kernel_rfl) X hP hN
theorem ck73RowStop (rest : Heap) (X : Fix) (hP : X.P = Try.prog) (hN : X.N = 32) :
    AW X (loopOf Try.prog 73 4) ⟨envOf (ckO g g.length), ovl [] rest⟩ fun e' S' => e' = .exit 0 ∧ Weak X S' ⟨envOf [], ovl [] rest⟩ :=
  seg okP named { hint := tabH Try.prog [(73, 13, hLt Try.prog g.length g.length false (by simp))] } 2000 73 500000 32 (by kernel_rfl) X hP hN
theorem ck73All (hg : g.length ≤ 60000) (hl : ∀ r ∈ g, r.length < 1000000000) (hr : okG g = true) (rest : Heap) (X : Fix) (hP : X.P = Try.prog) (hN : X.N = 32) :
    AW X (.loop (loopOf Try.prog 73 4)) ⟨envOf (ckO g 0), ovl [] rest⟩ fun e' S' => e' = .exit 0 ∧ S' = ⟨envOf [], ovl [] rest⟩ :=
  (lw_count g.length (fun i => ⟨envOf (ckO g i), ovl [] rest⟩) (by simp) (fun i hi =>
    ck73Row g g[i] i hi hg (List.getElem?_eq_getElem hi) (hl _ (List.getElem_mem hi)) (List.all_eq_true.1 hr _ (List.getElem_mem hi)) rest X hP hN) (ck73RowStop g rest X hP hN)).aw
theorem ck73Not (hg : g.length ≤ 60000) (hl : ∀ r ∈ g, r.length < 1000000000) (hr : okG g = false) (rest : Heap) (X : Fix) (hP : X.P = Try.prog) (hN : X.N = 32) :
    AW X (.loop (loopOf Try.prog 73 4)) ⟨envOf (ckO g 0), ovl [] rest⟩ fun e' S' => e' = .ret ∧ S' = ⟨envOf [(2, dI 3)], ovl [] rest⟩ := by
  rcases first_bad (okR g.length) g with h | ⟨j, r, h1, h2, h3⟩
  · unfold okG at hr; rw [h] at hr; simp at hr
  · have hj : j < g.length := (List.getElem?_eq_some_iff.1 h1).1
    have hlr : r.length < 1000000000 := hl _ (List.mem_of_getElem? h1)
    exact (lw_count j (fun i => ⟨envOf (ckO g i), ovl [] rest⟩) (by simp) (fun i hi =>
      ck73Row g g[i] i (by omega) hg (List.getElem?_eq_getElem (by omega)) (hl _ (List.getElem_mem (by omega))) (h3 i _ hi (List.getElem?_eq_getElem (by omega))) rest X hP hN) (ck73RowBad g r j hj h1 hlr h2 rest X hP hN)).aw
theorem check73 (hg : g.length ≤ 60000) (hl : ∀ r ∈ g, r.length < 1000000000) : Pure Try.prog 73 [rowsD g] [.int .i64 (if okG g = true then 0 else 3)] := by
  cases hr : okG g with
  | true => exact pure_of_run okP named { loops := fun f q => if f = 73 then (if q = 4 then some ⟨32, loopOf Try.prog 73 4, ckO g 0, fun _ => [], .exit 0, [], fun _ => [], ck73All g hg hl hr⟩ else none) else none, hint := tabH Try.prog [(73, 8, hLenR Try.prog g), (73, 9, hB Try.prog (decide ((60000 : Int) < (g.length : Int))) false (dec_false (by omega))), (73, 11, hLenR Try.prog g)] } 2000 (by kernel_rfl)
  | false => exact pure_of_run okP named { loops := fun f q => if f = 73 then (if q = 4 then some ⟨32, loopOf Try.prog 73 4, ckO g 0, fun _ => [], .ret, [(2, dI 3)], fun _ => [], ck73Not g hg hl hr⟩ else none) else none, hint := tabH Try.prog [(73, 8, hLenR Try.prog g), (73, 9, hB Try.prog (decide ((60000 : Int) < (g.length : Int))) false (dec_false (by omega))), (73, 11, hLenR Try.prog g)] } 2000 (by kernel_rfl)
theorem ck39Round (hk1 : k < r.length) (hl : r.length < 1000000000) (hx : r[k]? = some x) (h0 : decide (x < 0) = false) (h1 : decide ((g.length : Int) ≤ x) = false) (rest : Heap) (X : Fix) (hP : X.P = Try.prog) (hN : X.N = 32) :
    AW X (loopOf Try.prog 39 7) ⟨envOf (ckL g r i k), ovl [] rest⟩ fun e' S' => e' = .normal ∧ Weak X S' ⟨envOf (ckL g r i (k + 1)), ovl [] rest⟩ :=
  seg okP named { hint := tabH Try.prog [(39, 19, hLt Try.prog k r.length true (by simpa using hk1)), (39, 20, hIx Try.prog r k x hx), (39, 23, hB Try.prog _ _ h0), (39, 27, hLenR Try.prog g), (39, 28, hB Try.prog _ _ h1), (39, 30, hSucc Try.prog k (by omega))] } 2000 39 500000 32 (by kernel_rfl) X hP hN
theorem ck39Stop (rest : Heap) (X : Fix) (hP : X.P = Try.prog) (hN : X.N = 32) :
    AW X (loopOf Try.prog 39 7) ⟨envOf (ckL g r i r.length), ovl [] rest⟩ fun e' S' => e' = .exit 2 ∧ Weak X S' ⟨envOf (ckO g i), ovl [] rest⟩ :=
  seg okP named { hint := tabH Try.prog [(39, 19, hLt Try.prog r.length r.length false (by simp))] } 2000 39 500000 32 (by kernel_rfl) X hP hN
theorem ck39Low (hk1 : k < r.length) (hx : r[k]? = some x) (h0 : decide (x < 0) = true) (rest : Heap) (X : Fix) (hP : X.P = Try.prog) (hN : X.N = 32) :
    AW X (loopOf Try.prog 39 7) ⟨envOf (ckL g r i k), ovl [] rest⟩ fun e' S' => e' = .ret ∧ Weak X S' ⟨envOf [(2, dI 3)], ovl [] rest⟩ :=
  seg okP named { hint := tabH Try.prog [(39, 19, hLt Try.prog k r.length true (by simpa using hk1)), (39, 20, hIx Try.prog r k x hx), (39, 23, hB Try.prog _ _ h0)] } 2000 39 500000 32 (by kernel_rfl) X hP hN
theorem ck39High (hk1 : k < r.length) (hx : r[k]? = some x) (h0 : decide (x < 0) = false) (h1 : decide ((g.length : Int) ≤ x) = true) (rest : Heap) (X : Fix) (hP : X.P = Try.prog) (hN : X.N = 32) :
    AW X (loopOf Try.prog 39 7) ⟨envOf (ckL g r i k), ovl [] rest⟩ fun e' S' => e' = .ret ∧ Weak X S' ⟨envOf [(2, dI 3)], ovl [] rest⟩ :=
  seg okP named { hint := tabH Try.prog [(39, 19, hLt Try.prog k r.length true (by simpa using hk1)), (39, 20, hIx Try.prog r k x hx), (39, 23, hB Try.prog _ _ h0), (39, 27, hLenR Try.prog g), (39, 28, hB Try.prog _ _ h1)] } 2000 39 500000 32 (by kernel_rfl) X hP hN
theorem ck39Good (hl : r.length < 1000000000) (hr : okR g.length r = true) (rest : Heap) (X : Fix) (hP : X.P = Try.prog) (hN : X.N = 32) :
    AW X (.loop (loopOf Try.prog 39 7)) ⟨envOf (ckL g r i 0), ovl [] rest⟩ fun e' S' => e' = .exit 2 ∧ S' = ⟨envOf (ckO g i), ovl [] rest⟩ :=
  (lw_count r.length (fun k => ⟨envOf (ckL g r i k), ovl [] rest⟩) (by simp) (fun k hk => by
    have := List.all_eq_true.1 hr _ (List.getElem_mem hk)
    simp only [decide_eq_true_eq] at this
    exact ck39Round g r i k r[k] hk hl (List.getElem?_eq_getElem hk) (dec_false (by omega)) (dec_false (by omega)) rest X hP hN) (ck39Stop g r i rest X hP hN)).aw
theorem ck39Bad (hl : r.length < 1000000000) (hr : okR g.length r = false) (rest : Heap) (X : Fix) (hP : X.P = Try.prog) (hN : X.N = 32) :
    AW X (.loop (loopOf Try.prog 39 7)) ⟨envOf (ckL g r i 0), ovl [] rest⟩ fun e' S' => e' = .ret ∧ S' = ⟨envOf [(2, dI 3)], ovl [] rest⟩ := by
  rcases first_bad (fun b => decide (0 ≤ b ∧ b < (g.length : Int))) r with h | ⟨j, x, h1, h2, h3⟩
  · unfold okR at hr; rw [h] at hr; simp at hr
  · have hj : j < r.length := (List.getElem?_eq_some_iff.1 h1).1
    refine (lw_count j (fun k => ⟨envOf (ckL g r i k), ovl [] rest⟩) (by simp) (fun k hk => ?_) ?_).aw
    · have := h3 k r[k] hk (List.getElem?_eq_getElem (by omega))
      simp only [decide_eq_true_eq] at this
      exact ck39Round g r i k r[k] (by omega) hl (List.getElem?_eq_getElem (by omega)) (dec_false (by omega)) (dec_false (by omega)) rest X hP hN
    · simp only [decide_eq_false_iff_not] at h2
      by_cases hx : x < 0
      · exact ck39Low g r i j x hj h1 (dec_true hx) rest X hP hN
      · exact ck39High g r i j x hj h1 (dec_false hx) (dec_true (by omega)) rest X hP hN
theorem ck39Row (hi : i < g.length) (hg : g.length ≤ 60000) (hx : g[i]? = some r) (hl : r.length < 1000000000) (hr : okR g.length r = true) (rest : Heap) (X : Fix) (hP : X.P = Try.prog) (hN : X.N = 32) :
    AW X (loopOf Try.prog 39 4) ⟨envOf (ckO g i), ovl [] rest⟩ fun e' S' => e' = .normal ∧ Weak X S' ⟨envOf (ckO g (i + 1)), ovl [] rest⟩ :=
  seg okP named { loops := fun f q => if f = 39 then (if q = 7 then some ⟨32, loopOf Try.prog 39 7, ckL g r i 0, fun _ => [], .exit 2, ckO g i, fun _ => [], ck39Good g r i hl hr⟩ else none) else none, hint := tabH Try.prog [(39, 13, hLt Try.prog i g.length true (by simpa using hi)), (39, 14, hIxR Try.prog g i r hx), (39, 17, hLen Try.prog r), (39, 31, hSucc Try.prog i (by omega))] } 2000 39 500000 32 (by kernel_rfl) X hP hN
theorem ck39RowBad (hi : i < g.length) (hx : g[i]? = some r) (hl : r.length < 1000000000) (hr : okR g.length r = false) (rest : Heap) (X : Fix) (hP : X.P = Try.prog) (hN : X.N = 32) :
    AW X (loopOf Try.prog 39 4) ⟨envOf (ckO g i), ovl [] rest⟩ fun e' S' => e' = .ret ∧ Weak X S' ⟨envOf [(2, dI 3)], ovl [] rest⟩ :=
  seg okP named { loops := fun f q => if f = 39 then (if q = 7 then some ⟨32, loopOf Try.prog 39 7, ckL g r i 0, fun _ => [], .ret, [(2, dI 3)], fun _ => [], ck39Bad g r i hl hr⟩ else none) else none, hint := tabH Try.prog [(39, 13, hLt Try.prog i g.length true (by simpa using hi)), (39, 14, hIxR Try.prog g i r hx), (39, 17, hLen Try.prog r)] } 2000 39 500000 32 (by kernel_rfl) X hP hN
theorem ck39RowStop (rest : Heap) (X : Fix) (hP : X.P = Try.prog) (hN : X.N = 32) :
    AW X (loopOf Try.prog 39 4) ⟨envOf (ckO g g.length), ovl [] rest⟩ fun e' S' => e' = .exit 0 ∧ Weak X S' ⟨envOf [], ovl [] rest⟩ :=
  seg okP named { hint := tabH Try.prog [(39, 13, hLt Try.prog g.length g.length false (by simp))] } 2000 39 500000 32 (by kernel_rfl) X hP hN
theorem ck39All (hg : g.length ≤ 60000) (hl : ∀ r ∈ g, r.length < 1000000000) (hr : okG g = true) (rest : Heap) (X : Fix) (hP : X.P = Try.prog) (hN : X.N = 32) :
    AW X (.loop (loopOf Try.prog 39 4)) ⟨envOf (ckO g 0), ovl [] rest⟩ fun e' S' => e' = .exit 0 ∧ S' = ⟨envOf [], ovl [] rest⟩ :=
  (lw_count g.length (fun i => ⟨envOf (ckO g i), ovl [] rest⟩) (by simp) (fun i hi =>
    ck39Row g g[i] i hi hg (List.getElem?_eq_getElem hi) (hl _ (List.getElem_mem hi)) (List.all_eq_true.1 hr _ (List.getElem_mem hi)) rest X hP hN) (ck39RowStop g rest X hP hN)).aw
theorem ck39Not (hg : g.length ≤ 60000) (hl : ∀ r ∈ g, r.length < 1000000000) (hr : okG g = false) (rest : Heap) (X : Fix) (hP : X.P = Try.prog) (hN : X.N = 32) :
    AW X (.loop (loopOf Try.prog 39 4)) ⟨envOf (ckO g 0), ovl [] rest⟩ fun e' S' => e' = .ret ∧ S' = ⟨envOf [(2, dI 3)], ovl [] rest⟩ := by
  rcases first_bad (okR g.length) g with h | ⟨j, r, h1, h2, h3⟩
  · unfold okG at hr; rw [h] at hr; simp at hr
  · have hj : j < g.length := (List.getElem?_eq_some_iff.1 h1).1
    have hlr : r.length < 1000000000 := hl _ (List.mem_of_getElem? h1)
    exact (lw_count j (fun i => ⟨envOf (ckO g i), ovl [] rest⟩) (by simp) (fun i hi =>
      ck39Row g g[i] i (by omega) hg (List.getElem?_eq_getElem (by omega)) (hl _ (List.getElem_mem (by omega))) (h3 i _ hi (List.getElem?_eq_getElem (by omega))) rest X hP hN) (ck39RowBad g r j hj h1 hlr h2 rest X hP hN)).aw
theorem check39 (hg : g.length ≤ 60000) (hl : ∀ r ∈ g, r.length < 1000000000) : Pure Try.prog 39 [rowsD g] [.int .i64 (if okG g = true then 0 else 3)] := by
  cases hr : okG g with
  | true => exact pure_of_run okP named { loops := fun f q => if f = 39 then (if q = 4 then some ⟨32, loopOf Try.prog 39 4, ckO g 0, fun _ => [], .exit 0, [], fun _ => [], ck39All g hg hl hr⟩ else none) else none, hint := tabH Try.prog [(39, 8, hLenR Try.prog g), (39, 9, hB Try.prog (decide ((60000 : Int) < (g.length : Int))) false (dec_false (by omega))), (39, 11, hLenR Try.prog g)] } 2000 (by kernel_rfl)
  | false => exact pure_of_run okP named { loops := fun f q => if f = 39 then (if q = 4 then some ⟨32, loopOf Try.prog 39 4, ckO g 0, fun _ => [], .ret, [(2, dI 3)], fun _ => [], ck39Not g hg hl hr⟩ else none) else none, hint := tabH Try.prog [(39, 8, hLenR Try.prog g), (39, 9, hB Try.prog (decide ((60000 : Int) < (g.length : Int))) false (dec_false (by omega))), (39, 11, hLenR Try.prog g)] } 2000 (by kernel_rfl)
end
end Go.Avm
/-
  The nearest above, as it is found by going round till nothing changes: a plain law of graphs, in terms of places in an order in which each node but the first has one ahead of it that goes on to it.
-/
set_option linter.unusedSectionVars false
set_option linter.unusedVariables false
namespace Go.Avm.Dom

/-- From a node up, by what is written. -/
inductive Anc (U : Nat → Nat) : Nat → Nat → Prop where
  | refl (n : Nat) : Anc U n n
  | up {y n : Nat} : 0 < n → Anc U y (U n) → Anc U y n

def Good (m : Nat) (U : Nat → Nat) : Prop := ∀ i, 0 < i → i < m → U i < i

theorem anc_zero_iff {U : Nat → Nat} {y : Nat} (h : Anc U y 0) : y = 0 := by
  cases h with
  | refl => rfl
  | up h0 _ => omega
theorem anc_up_of_ne {U : Nat → Nat} {y n : Nat} (h : Anc U y n) (hn : y ≠ n) : 0 < n ∧ Anc U y (U n) := by
  cases h with
  | refl => exact absurd rfl hn
  | up h0 h1 => exact ⟨h0, h1⟩
theorem anc_trans {U : Nat → Nat} {x y n : Nat} (hxy : Anc U x y) (h : Anc U y n) : Anc U x n := by
  induction h with
  | refl => exact hxy
  | up h0 _ ih => exact .up h0 ih

section
variable {m : Nat} {U V W : Nat → Nat}
theorem anc_le (hU : Good m U) : ∀ n, n < m → ∀ y, Anc U y n → y ≤ n := fun n => by
  induction n using Nat.strongRecOn with
  | ind n ih =>
    intro hn y h
    by_cases hy : y = n
    · omega
    · obtain ⟨h0, h1⟩ := anc_up_of_ne h hy
      have h2 := hU n h0 hn
      have := ih (U n) h2 (by omega) y h1
      omega
theorem anc_zero (hU : Good m U) : ∀ n, n < m → Anc U 0 n := fun n => by
  induction n using Nat.strongRecOn with
  | ind n ih =>
    intro hn
    by_cases h0 : n = 0
    · subst h0; exact .refl 0
    · have h2 := hU n (by omega) hn
      exact .up (by omega) (ih (U n) h2 (by omega))
theorem anc_chain (hU : Good m U) : ∀ n, n < m → ∀ x y, Anc U x n → Anc U y n → x ≤ y → Anc U x y := fun n => by
  induction n using Nat.strongRecOn with
  | ind n ih =>
    intro hn x y hx hy hxy
    by_cases h : y = n
    · subst h; exact hx
    · obtain ⟨h0, h1⟩ := anc_up_of_ne hy h
      have h2 := hU n h0 hn
      have h3 := anc_le hU (U n) (by omega) y h1
      obtain ⟨_, h4⟩ := anc_up_of_ne hx (by omega)
      exact ih (U n) h2 (by omega) x y h4 h1 hxy
theorem anc_congr (hU : Good m U) : ∀ n, n < m → (∀ i, i ≤ n → U i = V i) → ∀ y, Anc U y n ↔ Anc V y n := fun n => by
  induction n using Nat.strongRecOn with
  | ind n ih =>
    intro hn he y
    by_cases h0 : n = 0
    · subst h0
      exact ⟨fun h => by rw [anc_zero_iff h]; exact .refl 0, fun h => by rw [anc_zero_iff h]; exact .refl 0⟩
    · have h2 := hU n (by omega) hn
      have := ih (U n) h2 (by omega) (fun i hi => he i (by omega)) y
      by_cases hy : y = n
      · subst hy; exact ⟨fun _ => .refl _, fun _ => .refl _⟩
      · constructor
        · intro h
          refine .up (by omega) ?_
          rw [← he n (Nat.le_refl n)]
          exact this.1 (anc_up_of_ne h hy).2
        · intro h
          refine .up (by omega) (this.2 ?_)
          rw [he n (Nat.le_refl n)]
          exact (anc_up_of_ne h hy).2

/-- Where two ways up meet. -/
def meetF (U : Nat → Nat) : Nat → Nat → Nat → Nat
  | 0, a, _ => a
  | f + 1, a, b => if a = b then a else if b < a then meetF U f (U a) b else meetF U f a (U b)
theorem meetF_spec (hU : Good m U) : ∀ f a b, a < m → b < m → a + b ≤ f → ∀ y, Anc U y (meetF U f a b) ↔ Anc U y a ∧ Anc U y b
  | 0, a, b, ha, hb, hf, y => by
    have h1 : a = 0 := by omega
    have h2 : b = 0 := by omega
    subst h1; subst h2
    simp [meetF]
  | f + 1, a, b, ha, hb, hf, y => by
    unfold meetF
    split
    · rename_i h; subst h; simp
    · rename_i h
      split
      · rename_i hlt
        have h2 := hU a (by omega) ha
        rw [meetF_spec hU f (U a) b (by omega) hb (by omega) y]
        constructor
        · rintro ⟨h3, h4⟩; exact ⟨.up (by omega) h3, h4⟩
        · rintro ⟨h3, h4⟩
          have := anc_le hU b hb y h4
          exact ⟨(anc_up_of_ne h3 (by omega)).2, h4⟩
      · rename_i hlt
        have h2 := hU b (by omega) hb
        rw [meetF_spec hU f a (U b) ha (by omega) (by omega) y]
        constructor
        · rintro ⟨h3, h4⟩; exact ⟨h3, .up (by omega) h4⟩
        · rintro ⟨h3, h4⟩
          have := anc_le hU a ha y h3
          exact ⟨h3, (anc_up_of_ne h4 (by omega)).2⟩
theorem meetF_le (hU : Good m U) {f a b : Nat} (ha : a < m) (hb : b < m) (hf : a + b ≤ f) : meetF U f a b ≤ a ∧ meetF U f a b ≤ b := by
  have := (meetF_spec hU f a b ha hb hf _).1 (.refl _)
  exact ⟨anc_le hU a ha _ this.1, anc_le hU b hb _ this.2⟩

def mix (n : Nat) (W U : Nat → Nat) : Nat → Nat := fun i => if i < n then W i else U i
theorem mix_good (hU : Good m U) (hW : Good m W) (n : Nat) : Good m (mix n W U) := fun i h0 hi => by
  unfold mix
  split
  · exact hW i h0 hi
  · exact hU i h0 hi
theorem mix_lt (hW : Good m W) {n c : Nat} (hc : c < n) (hn : c < m) (y : Nat) : Anc (mix n W U) y c ↔ Anc W y c :=
  (anc_congr hW c hn (fun i hi => by simp [mix, show i < n by omega]) y).symm
/-- A way up in the mixed state, to below n: first by the elder one, then by the newer one. -/
theorem mix_split (hU : Good m U) (hW : Good m W) {n : Nat} (hn0 : 0 < n) : ∀ p, p < m → ∃ c, c < n ∧ Anc U c p ∧ ∀ y, y < n → ((Anc (mix n W U) y p ↔ Anc W y c) ∧ (Anc U y p ↔ Anc U y c)) := fun p => by
  induction p using Nat.strongRecOn with
  | ind p ih =>
    intro hp
    by_cases hlt : p < n
    · exact ⟨p, hlt, .refl p, fun y _ => ⟨mix_lt hW hlt hp y, Iff.rfl⟩⟩
    · have h2 := hU p (by omega) hp
      obtain ⟨c, hc, hcp, hy⟩ := ih (U p) h2 (by omega)
      refine ⟨c, hc, .up (by omega) hcp, fun y hyn => ?_⟩
      have hm : mix n W U p = U p := by simp [mix, hlt]
      constructor
      · rw [← (hy y hyn).1]
        constructor
        · intro h
          have := (anc_up_of_ne h (by omega)).2
          rwa [hm] at this
        · intro h
          refine .up (by omega) ?_
          rwa [hm]
      · rw [← (hy y hyn).2]
        constructor
        · intro h; exact (anc_up_of_ne h (by omega)).2
        · intro h; exact .up (by omega) h

variable {pr : Nat → List Nat} {par : Nat → Nat}
/-- The state behind the first round, behind a later one. -/
def First (m : Nat) (pr : Nat → List Nat) (U : Nat → Nat) : Prop := ∀ n, 0 < n → n < m → ∀ y, Anc U y (U n) ↔ ∀ p ∈ pr n, p < n → Anc U y p
def Next (m : Nat) (pr : Nat → List Nat) (U W : Nat → Nat) : Prop := ∀ n, 0 < n → n < m → ∀ y, Anc (mix n W U) y (W n) ↔ ∀ p ∈ pr n, Anc (mix n W U) y p
def Tree (m : Nat) (pr : Nat → List Nat) (U : Nat → Nat) : Prop := ∀ n, 0 < n → n < m → ∀ y, Anc U y (U n) → ∀ p ∈ pr n, p < n → Anc U y p
def Par (m : Nat) (pr : Nat → List Nat) (par : Nat → Nat) : Prop := ∀ n, 0 < n → n < m → par n ∈ pr n ∧ par n < n
def Low (m : Nat) (pr : Nat → List Nat) : Prop := ∀ n, n < m → ∀ p ∈ pr n, p < m

theorem tree_first (h : First m pr U) : Tree m pr U := fun n h0 hn y hy p hp hlt => (h n h0 hn y).1 hy p hp hlt
theorem tree_next (hW : Good m W) (h : Next m pr U W) : Tree m pr W := fun n h0 hn y hy p hp hlt => by
  have h1 : Anc (mix n W U) y (W n) := (mix_lt hW (hW n h0 hn) (by have := hW n h0 hn; omega) y).2 hy
  exact (mix_lt hW hlt (by omega) y).1 ((h n h0 hn y).1 h1 p hp)
theorem tree_par (hp : Par m pr par) (ht : Tree m pr U) {y n : Nat} (hn : n < m) (h : Anc U y n) (hne : y ≠ n) : 0 < n ∧ Anc U y (par n) := by
  obtain ⟨h0, h1⟩ := anc_up_of_ne h hne
  exact ⟨h0, ht n h0 hn y h1 _ (hp n h0 hn).1 (hp n h0 hn).2⟩
theorem par_good (hp : Par m pr par) : Good m par := fun i h0 hi => (hp i h0 hi).2
theorem tree_sub (hU : Good m U) (hp : Par m pr par) (ht : Tree m pr U) : ∀ n, n < m → ∀ y, Anc U y n → Anc par y n := fun n => by
  induction n using Nat.strongRecOn with
  | ind n ih =>
    intro hn y h
    by_cases hy : y = n
    · subst hy; exact .refl y
    · obtain ⟨h0, h1⟩ := tree_par hp ht hn h hy
      have := (hp n h0 hn).2
      exact .up h0 (ih _ this (by omega) y h1)
theorem tree_mid (hU : Good m U) (hp : Par m pr par) (ht : Tree m pr U) : ∀ p, p < m → ∀ y c, Anc U y p → Anc par c p → y ≤ c → Anc U y c := fun p => by
  induction p using Nat.strongRecOn with
  | ind p ih =>
    intro hpm y c hy hc hyc
    by_cases h : c = p
    · subst h; exact hy
    · obtain ⟨h0, h1⟩ := anc_up_of_ne hc h
      have h2 := (hp p h0 hpm).2
      have h3 := anc_le (par_good hp) (par p) (by omega) c h1
      obtain ⟨_, h4⟩ := tree_par hp ht hpm hy (by omega)
      exact ih (par p) h2 (by omega) y c h4 h1 hyc

/-- What is known between two rounds. -/
inductive Inv (m : Nat) (pr : Nat → List Nat) : (Nat → Nat) → Prop where
  | first {U : Nat → Nat} (hU : Good m U) (h : First m pr U) : Inv m pr U
  | next {V U : Nat → Nat} (hV : Good m V) (hU : Good m U) (tV : Tree m pr V) (h : Next m pr V U) (hm : ∀ n, n < m → ∀ y, Anc U y n → Anc V y n) : Inv m pr U
theorem Inv.good (h : Inv m pr U) : Good m U := by cases h <;> assumption
theorem Inv.tree (h : Inv m pr U) : Tree m pr U := by
  cases h with
  | first hU h => exact tree_first h
  | next _ hU _ h _ => exact tree_next hU h

theorem mono (hp : Par m pr par) (hl : Low m pr) (hi : Inv m pr U) (hW : Good m W) (h : Next m pr U W) : ∀ n, n < m → ∀ y, Anc W y n → Anc U y n := fun n => by
  induction n using Nat.strongRecOn with
  | ind n ih =>
    intro hn y hy
    by_cases hyn : y = n
    · subst hyn; exact .refl y
    obtain ⟨h0, h1⟩ := anc_up_of_ne hy hyn
    have hylt : y < n := by
      have := anc_le hW n hn y hy
      omega
    have hU := hi.good
    have hmx : ∀ p ∈ pr n, Anc (mix n W U) y p := (h n h0 hn y).1 ((mix_lt hW (hW n h0 hn) (by have := hW n h0 hn; omega) y).2 h1)
    -- y is above all that go on to n, by the elder state
    have hUp : ∀ p ∈ pr n, Anc U y p := fun p hpn => by
      obtain ⟨c, hc, hcp, hs⟩ := mix_split (W := W) hU hW h0 p (hl n hn p hpn)
      have h3 := ih c hc (by omega) y ((hs y hylt).1.1 (hmx p hpn))
      exact (hs y hylt).2.2 h3
    refine .up h0 ?_
    cases hi with
    | first _ hF => exact (hF n h0 hn y).2 fun p hpn _ => hUp p hpn
    | @next V _ hV _ tV hN hm =>
      have hlt := hU n h0 hn
      refine (mix_lt hU hlt (by omega) y).1 ((hN n h0 hn y).2 fun p hpn => ?_)
      have hpm := hl n hn p hpn
      obtain ⟨c, hc, hcp, hs⟩ := mix_split (W := U) hV hU h0 p hpm
      refine (hs y hylt).1.2 ?_
      have h5 := hUp p hpn
      have h6 := (hs y hylt).2.1 (hm p hpm y h5)
      have h7 := anc_le hV c (by omega) y h6
      exact tree_mid hU hp (by exact tree_next hU hN) p hpm y c h5 (tree_sub hV hp tV p hpm c hcp) h7
theorem inv_next (hp : Par m pr par) (hl : Low m pr) (hi : Inv m pr U) (hW : Good m W) (h : Next m pr U W) : Inv m pr W :=
  .next hi.good hW hi.tree h (mono hp hl hi hW h)
theorem down (hp : Par m pr par) (hl : Low m pr) (hi : Inv m pr U) (hW : Good m W) (h : Next m pr U W) {n : Nat} (h0 : 0 < n) (hn : n < m) : W n ≤ U n := by
  have h1 := mono hp hl hi hW h n hn (W n) (.up h0 (.refl _))
  have h2 := hW n h0 hn
  obtain ⟨_, h3⟩ := anc_up_of_ne h1 (by omega)
  have := hi.good n h0 hn
  exact anc_le hi.good (U n) (by omega) _ h3

/-- A node is come to from the first one, never through another one. -/
inductive Av (m : Nat) (pr : Nat → List Nat) (y : Nat) : Nat → Prop where
  | base : 0 ≠ y → 0 < m → Av m pr y 0
  | step {p n : Nat} : Av m pr y p → n < m → p ∈ pr n → n ≠ y → Av m pr y n

theorem av_par (hp : Par m pr par) {y : Nat} : ∀ p, p < m → ∀ c, Anc par c p → y < c → Av m pr y c → Av m pr y p := fun p => by
  induction p using Nat.strongRecOn with
  | ind p ih =>
    intro hpm c hc hyc hav
    by_cases h : c = p
    · subst h; exact hav
    · obtain ⟨h0, h1⟩ := anc_up_of_ne hc h
      have h2 := hp p h0 hpm
      have h3 := anc_le (par_good hp) (par p) (by omega) c h1
      exact .step (ih (par p) h2.2 (by omega) c h1 hyc hav) hpm h2.1 (by omega)
theorem av_all (hp : Par m pr par) {y : Nat} : ∀ p, p < m → ¬ Anc par y p → Av m pr y p := fun p => by
  induction p using Nat.strongRecOn with
  | ind p ih =>
    intro hpm hc
    have hy : y ≠ p := fun h => hc (h ▸ .refl _)
    by_cases h0 : p = 0
    · subst h0; exact .base (by omega) hpm
    · have h2 := hp p (by omega) hpm
      exact .step (ih (par p) h2.2 (by omega) fun h => hc (.up (by omega) h)) hpm h2.1 (by omega)

/-- Who can't be gone round is above. -/
theorem sound_first (hF : First m pr U) : ∀ n, n < m → ∀ y, ¬ Av m pr y n → Anc U y n := fun n => by
  induction n using Nat.strongRecOn with
  | ind n ih =>
    intro hn y hy
    by_cases hyn : y = n
    · subst hyn; exact .refl y
    by_cases h0 : n = 0
    · subst h0; exact absurd (.base (by omega) hn) hy
    · refine .up (by omega) ((hF n (by omega) hn y).2 fun p hpn hlt => ih p hlt (by omega) y fun ha => hy (.step ha hn hpn (by omega)))
theorem sound_next (hp : Par m pr par) (hl : Low m pr) (hU : Good m U) (tU : Tree m pr U) (hs : ∀ n, n < m → ∀ y, ¬ Av m pr y n → Anc U y n) (hW : Good m W) (h : Next m pr U W) : ∀ n, n < m → ∀ y, ¬ Av m pr y n → Anc W y n := fun n => by
  induction n using Nat.strongRecOn with
  | ind n ih =>
    intro hn y hy
    by_cases hyn : y = n
    · subst hyn; exact .refl y
    by_cases h0 : n = 0
    · subst h0; exact absurd (.base (by omega) hn) hy
    have h0' : 0 < n := by omega
    have hp1 : ∀ p ∈ pr n, ¬ Av m pr y p := fun p hpn ha => hy (.step ha hn hpn (by omega))
    have hylt : y < n := by
      have := hp n h0' hn
      have h1 := hs _ (by omega) y (hp1 _ this.1)
      have := anc_le hU _ (by omega) y h1
      omega
    refine .up h0' ((mix_lt hW (hW n h0' hn) (by have := hW n h0' hn; omega) y).1 ((h n h0' hn y).2 fun p hpn => ?_))
    have hpm := hl n hn p hpn
    obtain ⟨c, hc, hcp, hsp⟩ := mix_split (W := W) hU hW h0' p hpm
    refine (hsp y hylt).1.2 (ih c hc (by omega) y fun ha => ?_)
    have h1 := hs p hpm y (hp1 p hpn)
    have h2 := (hsp y hylt).2.1 h1
    have h3 := anc_le hU c (by omega) y h2
    rcases Nat.lt_or_ge y c with h4 | h4
    · exact hp1 p hpn (av_par hp p hpm c (tree_sub hU hp tU p hpm c hcp) h4 ha)
    · have h5 : y = c := by omega
      subst h5
      cases ha with
      | base h6 => exact h6 rfl
      | step _ _ _ h6 => exact h6 rfl
theorem complete (h : Next m pr U U) {y n : Nat} (ha : Av m pr y n) : ¬ Anc U y n := by
  induction ha with
  | base h0 _ => intro h1; exact h0 (anc_zero_iff h1).symm
  | @step p n _ hn hpn hne ih =>
    intro h1
    obtain ⟨h0, h2⟩ := anc_up_of_ne h1 (fun h => hne h.symm)
    have hmm : mix n U U = U := by funext i; simp [mix]
    have := (h n h0 hn y).1 (by rw [hmm]; exact h2) p hpn
    rw [hmm] at this
    exact ih this
end
end Go.Avm.Dom
/-
  Plain laws of a walk through a graph: what is reached, in which order its nodes are left.
-/
set_option linter.unusedSectionVars false
set_option linter.unusedVariables false
namespace Go.Avm.Dom

abbrev Graph := List (List Nat)
def succ (g : Graph) (a : Nat) : List Nat := g.getD a []
def Valid (g : Graph) : Prop := ∀ l ∈ g, ∀ b ∈ l, b < g.length
theorem succ_lt {g : Graph} (hg : Valid g) {a b : Nat} (h : b ∈ succ g a) : b < g.length ∧ a < g.length := by
  unfold succ at h
  rw [List.getD_eq_getElem?_getD] at h
  cases hl : g[a]? with
  | none => rw [hl] at h; simp at h
  | some l =>
    rw [hl] at h
    obtain ⟨h1, h2⟩ := List.getElem?_eq_some_iff.1 hl
    exact ⟨hg l (h2 ▸ List.getElem_mem h1) b (by simpa using h), h1⟩

/-- A node is come to from another one, never through 'but'. -/
inductive Re (g : Graph) (but : Option Nat) (a : Nat) : Nat → Prop where
  | refl : some a ≠ but → Re g but a a
  | step {p b : Nat} : Re g but a p → b ∈ succ g p → some b ≠ but → Re g but a b
theorem Re.trans {g : Graph} {but : Option Nat} {a b c : Nat} (h : Re g but a b) (k : Re g but b c) : Re g but a c := by
  induction k with
  | refl => exact h
  | step _ h1 h2 ih => exact .step ih h1 h2
theorem Re.lt {g : Graph} (hg : Valid g) {but : Option Nat} {a b : Nat} (h : Re g but a b) (ha : a < g.length) : b < g.length := by
  cases h with
  | refl => exact ha
  | step _ h1 _ => exact (succ_lt hg h1).1
theorem Re.weaken {g : Graph} {but : Option Nat} {a b : Nat} (h : Re g but a b) : Re g none a b := by
  induction h with
  | refl => exact .refl (by simp)
  | step _ h1 _ ih => exact .step ih h1 (by simp)
theorem Re.head {g : Graph} {a b c : Nat} (h : b ∈ succ g a) (k : Re g none b c) : Re g none a c :=
  Re.trans (.step (.refl (by simp)) h (by simp)) k

abbrev Acc := List Bool × List Nat
/-- The nodes in the order in which they are left; who was met. -/
def dfs (g : Graph) : Nat → List Bool → Nat → Acc
  | 0, been, _ => (been, [])
  | f + 1, been, n =>
    let r := (succ g n).foldl (fun s b => if s.1.getD b true = true then s else ((dfs g f s.1 b).1, s.2 ++ (dfs g f s.1 b).2)) (been.set n true, [])
    (r.1, r.2 ++ [n])
def kids (g : Graph) (f : Nat) (s : Acc) (l : List Nat) : Acc := l.foldl (fun s b => if s.1.getD b true = true then s else ((dfs g f s.1 b).1, s.2 ++ (dfs g f s.1 b).2)) s
theorem dfs_succ (g : Graph) (f : Nat) (been : List Bool) (n : Nat) : dfs g (f + 1) been n = ((kids g f (been.set n true, []) (succ g n)).1, (kids g f (been.set n true, []) (succ g n)).2 ++ [n]) := rfl
theorem kids_nil (g : Graph) (f : Nat) (s : Acc) : kids g f s [] = s := rfl
theorem kids_met (g : Graph) (f : Nat) (s : Acc) (b : Nat) (r : List Nat) (h : s.1.getD b true = true) : kids g f s (b :: r) = kids g f s r := by
  simp only [kids, List.foldl_cons, h, if_true]
theorem kids_new (g : Graph) (f : Nat) (s : Acc) (b : Nat) (r : List Nat) (h : s.1.getD b true = false) : kids g f s (b :: r) = kids g f ((dfs g f s.1 b).1, s.2 ++ (dfs g f s.1 b).2) r := by
  simp only [kids, List.foldl_cons, h]
  rfl

def met (s : List Bool) (b : Nat) : Bool := s.getD b true
def left (s : List Bool) : Nat := s.count false
theorem met_set {s : List Bool} {n b : Nat} (hn : n < s.length) : met (s.set n true) b = (met s b || b == n) := by
  unfold met
  rw [List.getD_eq_getElem?_getD, List.getD_eq_getElem?_getD, List.getElem?_set]
  by_cases h : n = b
  · subst h; simp [hn]
  · rw [if_neg h]
    have : (b == n) = false := by simp; omega
    rw [this, Bool.or_false]
theorem met_lt {s : List Bool} {b : Nat} (h : met s b = false) : b < s.length := by
  unfold met at h
  rw [List.getD_eq_getElem?_getD] at h
  rcases Nat.lt_or_ge b s.length with h1 | h1
  · exact h1
  · rw [List.getElem?_eq_none h1] at h
    simp at h
theorem left_set : ∀ {s : List Bool} {n : Nat}, met s n = false → left (s.set n true) + 1 = left s
  | [], n, h => by simp [met] at h
  | x :: r, 0, h => by
    have hx : x = false := by simpa [met] using h
    subst hx
    simp [left]
  | x :: r, n + 1, h => by
    have h1 : met r n = false := by simpa [met] using h
    have := left_set h1
    simp only [left, List.set_cons_succ, List.count_cons] at this ⊢
    omega

/-- What a walk from a node does, if there are rounds enough. -/
structure Went (g : Graph) (been : List Bool) (been' : List Bool) (post : List Nat) : Prop where
  len : been'.length = been.length
  new : ∀ b, met been' b = (met been b || decide (b ∈ post))
  fresh : ∀ b ∈ post, met been b = false
  nodup : post.Nodup
  less : left been' ≤ left been
  closed : ∀ v ∈ post, ∀ b ∈ succ g v, met been' b = true
theorem went_refl (g : Graph) (been : List Bool) : Went g been been [] := ⟨rfl, fun b => by simp, fun b h => by simp at h, by simp, Nat.le_refl _, fun v h => by simp at h⟩
theorem went_trans {g : Graph} {b0 b1 b2 : List Bool} {p q : List Nat} (h : Went g b0 b1 p) (k : Went g b1 b2 q) : Went g b0 b2 (p ++ q) where
  len := k.len.trans h.len
  new b := by rw [k.new, h.new]; simp [Bool.or_assoc]
  fresh b hb := by
    rcases List.mem_append.1 hb with hb | hb
    · exact h.fresh b hb
    · have := k.fresh b hb
      rw [h.new] at this
      simp only [Bool.or_eq_false_iff] at this
      exact this.1
  nodup := by
    refine List.nodup_append.2 ⟨h.nodup, k.nodup, fun a ha b hb hab => ?_⟩
    subst hab
    have := k.fresh a hb
    rw [h.new] at this
    simp [ha] at this
  less := Nat.le_trans k.less h.less
  closed v hv b hb := by
    rcases List.mem_append.1 hv with hv | hv
    · rw [k.new, h.closed v hv b hb]; rfl
    · exact k.closed v hv b hb

theorem went {g : Graph} (hg : Valid g) : ∀ (f : Nat) (been : List Bool) (n : Nat), been.length = g.length → met been n = false → left been ≤ f → Went g been (dfs g f been n).1 (dfs g f been n).2 ∧ n ∈ (dfs g f been n).2
  | 0, been, n, hl, hn, hf => by have := left_set hn; omega
  | f + 1, been, n, hl, hn, hf => by
    have hlt := met_lt hn
    have hk : ∀ (l : List Nat) (s : Acc) , s.1.length = g.length → left s.1 ≤ f → ∃ q, (kids g f s l).2 = s.2 ++ q ∧ Went g s.1 (kids g f s l).1 q ∧ ∀ b ∈ l, met (kids g f s l).1 b = true := fun l => by
      induction l with
      | nil => intro s hs hs2; exact ⟨[], by simp [kids_nil], went_refl g _, fun b h => by simp at h⟩
      | cons b r ih =>
        intro s hs hs2
        cases hb : met s.1 b with
        | true =>
          rw [kids_met g f s b r hb]
          obtain ⟨q, h1, h2, h3⟩ := ih s hs hs2
          refine ⟨q, h1, h2, fun c hc => ?_⟩
          rcases List.mem_cons.1 hc with rfl | hc
          · rw [h2.new, hb]; rfl
          · exact h3 c hc
        | false =>
          rw [kids_new g f s b r hb]
          obtain ⟨w1, w2⟩ := went hg f s.1 b hs hb hs2
          obtain ⟨q, h1, h2, h3⟩ := ih ((dfs g f s.1 b).1, s.2 ++ (dfs g f s.1 b).2) (w1.len.trans hs) (Nat.le_trans w1.less hs2)
          refine ⟨(dfs g f s.1 b).2 ++ q, by rw [h1]; simp, went_trans w1 h2, fun c hc => ?_⟩
          rcases List.mem_cons.1 hc with rfl | hc
          · rw [h2.new, w1.new]; simp [w2]
          · exact h3 c hc
    rw [dfs_succ]
    have hl2 := left_set hn
    obtain ⟨q, h1, h2, h3⟩ := hk (succ g n) (been.set n true, []) (by simpa using hl) (by simpa using by omega)
    simp only [List.nil_append] at h1
    rw [h1]
    have hnq : n ∉ q := fun h => by
      have := h2.fresh n h
      rw [met_set hlt] at this
      simp at this
    refine ⟨⟨by simpa using h2.len, fun b => ?_, fun b hb => ?_, ?_, ?_, fun v hv b hb => ?_⟩, by simp⟩
    · rw [h2.new, met_set hlt]
      simp only [List.mem_append, List.mem_singleton, Bool.decide_or, Bool.or_assoc]
      congr 1
      rw [Bool.or_comm]
      congr 1
    · rcases List.mem_append.1 hb with hb | hb
      · have := h2.fresh b hb
        rw [met_set hlt] at this
        simp only [Bool.or_eq_false_iff] at this
        exact this.1
      · simp only [List.mem_singleton] at hb
        subst hb; exact hn
    · exact List.nodup_append.2 ⟨h2.nodup, by simp, fun a ha b hb hab => by simp at hb; subst hab; subst hb; exact hnq ha⟩
    · have h5 := h2.less
      show left (kids g f (been.set n true, []) (succ g n)).1 ≤ left been
      have h6 : left (been.set n true, ([] : List Nat)).1 = left (been.set n true) := rfl
      omega
    · rcases List.mem_append.1 hv with hv | hv
      · exact h2.closed v hv b hb
      · simp only [List.mem_singleton] at hv
        subst hv
        exact h3 b hb

def Before (l : List Nat) (a b : Nat) : Prop := ∃ p q, l = p ++ q ∧ a ∈ p ∧ b ∈ q
theorem Before.append_left {l : List Nat} {a b : Nat} (m : List Nat) (h : Before l a b) : Before (m ++ l) a b := by
  obtain ⟨p, q, rfl, ha, hb⟩ := h
  exact ⟨m ++ p, q, by simp, by simp [ha], hb⟩
theorem Before.append_right {l : List Nat} {a b : Nat} (m : List Nat) (h : Before l a b) : Before (l ++ m) a b := by
  obtain ⟨p, q, rfl, ha, hb⟩ := h
  exact ⟨p, q ++ m, by simp, ha, by simp [hb]⟩
theorem Before.cross {l m : List Nat} {a b : Nat} (ha : a ∈ l) (hb : b ∈ m) : Before (l ++ m) a b := ⟨l, m, rfl, ha, hb⟩

/-- Of a walk from a node: each is reached from it; each other one is left ahead of one that goes on to it; where it goes on to was left ahead, or was met, or reaches it. -/
structure Way (g : Graph) (been : List Bool) (n : Nat) (post : List Nat) : Prop where
  from_ : ∀ v ∈ post, Re g none n v
  up : ∀ v ∈ post, v ≠ n → ∃ w ∈ post, v ∈ succ g w ∧ Before post v w
  on : ∀ v ∈ post, ∀ b ∈ succ g v, Before post b v ∨ met been b = true ∨ Re g none b v

theorem way {g : Graph} (hg : Valid g) : ∀ (f : Nat) (been : List Bool) (n : Nat), been.length = g.length → met been n = false → left been ≤ f → Way g been n (dfs g f been n).2
  | 0, been, n, hl, hn, hf => by have := left_set hn; omega
  | f + 1, been, n, hl, hn, hf => by
    have hlt := met_lt hn
    have hk : ∀ (l : List Nat) (s : Acc) , (∀ b ∈ l, b ∈ succ g n) → s.1.length = g.length → left s.1 ≤ f →
        ∃ q, (kids g f s l).2 = s.2 ++ q ∧ (∀ v ∈ q, Re g none n v) ∧ (∀ v ∈ q, v ∈ succ g n ∨ ∃ w ∈ q, v ∈ succ g w ∧ Before q v w) ∧
          (∀ v ∈ q, ∀ b ∈ succ g v, Before q b v ∨ met s.1 b = true ∨ Re g none b v) := fun l => by
      induction l with
      | nil => intro s _ hs hs2; exact ⟨[], by simp [kids_nil], fun b h => by simp at h, fun b h => by simp at h, fun b h => by simp at h⟩
      | cons b r ih =>
        intro s hb0 hs hs2
        cases hb : met s.1 b with
        | true =>
          rw [kids_met g f s b r hb]
          exact ih s (fun c hc => hb0 c (by simp [hc])) hs hs2
        | false =>
          rw [kids_new g f s b r hb]
          obtain ⟨w1, w2⟩ := went hg f s.1 b hs hb hs2
          have wy := way hg f s.1 b hs hb hs2
          obtain ⟨q, h1, h2, h3, h4⟩ := ih ((dfs g f s.1 b).1, s.2 ++ (dfs g f s.1 b).2) (fun c hc => hb0 c (by simp [hc])) (w1.len.trans hs) (Nat.le_trans w1.less hs2)
          refine ⟨(dfs g f s.1 b).2 ++ q, by rw [h1]; simp, fun v hv => ?_, fun v hv => ?_, fun v hv c hc => ?_⟩
          · rcases List.mem_append.1 hv with hv | hv
            · exact Re.head (hb0 b (by simp)) (wy.from_ v hv)
            · exact h2 v hv
          · rcases List.mem_append.1 hv with hv | hv
            · by_cases hvb : v = b
              · subst hvb; exact .inl (hb0 v (by simp))
              · obtain ⟨w, hw, hw1, hw2⟩ := wy.up v hv hvb
                exact .inr ⟨w, by simp [hw], hw1, hw2.append_right _⟩
            · rcases h3 v hv with h | ⟨w, hw, hw1, hw2⟩
              · exact .inl h
              · exact .inr ⟨w, by simp [hw], hw1, hw2.append_left _⟩
          · rcases List.mem_append.1 hv with hv | hv
            · rcases wy.on v hv c hc with h | h | h
              · exact .inl (h.append_right _)
              · exact .inr (.inl h)
              · exact .inr (.inr h)
            · rcases h4 v hv c hc with h | h | h
              · exact .inl (h.append_left _)
              · rw [w1.new] at h
                simp only [Bool.or_eq_true, decide_eq_true_eq] at h
                rcases h with h | h
                · exact .inr (.inl h)
                · exact .inl (Before.cross h hv)
              · exact .inr (.inr h)
    rw [dfs_succ]
    have hl2 := left_set hn
    obtain ⟨q, h1, h2, h3, h4⟩ := hk (succ g n) (been.set n true, []) (fun b hb => hb) (by simpa using hl) (by simpa using by omega)
    simp only [List.nil_append] at h1
    rw [h1]
    refine ⟨fun v hv => ?_, fun v hv hvn => ?_, fun v hv b hb => ?_⟩
    · rcases List.mem_append.1 hv with hv | hv
      · exact h2 v hv
      · simp only [List.mem_singleton] at hv
        subst hv; exact .refl (by simp)
    · rcases List.mem_append.1 hv with hv | hv
      · rcases h3 v hv with h | ⟨w, hw, hw1, hw2⟩
        · exact ⟨n, by simp, h, Before.cross hv (by simp)⟩
        · exact ⟨w, by simp [hw], hw1, hw2.append_right _⟩
      · simp only [List.mem_singleton] at hv
        exact absurd hv hvn
    · rcases List.mem_append.1 hv with hq | hv
      · rcases h4 v hq b hb with h | h | h
        · exact .inl (h.append_right _)
        · rw [met_set hlt] at h
          simp only [Bool.or_eq_true, beq_iff_eq] at h
          rcases h with h | h
          · exact .inr (.inl h)
          · rw [h]; exact .inr (.inr (h2 v hq))
        · exact .inr (.inr h)
      · simp only [List.mem_singleton] at hv
        subst hv
        have hlt2 := met_set (b := b) hlt
        obtain ⟨q', k1, k2, k3⟩ := (by
          have hkk := went hg (f + 1) been v hl hn hf
          rw [dfs_succ, h1] at hkk
          exact ⟨q, rfl, hkk.1, hkk.2⟩ : ∃ q', q' = q ∧ Went g been (kids g f (been.set v true, []) (succ g v)).1 (q' ++ [v]) ∧ v ∈ q' ++ [v])
        subst k1
        have := k2.closed v (by simp) b hb
        rw [k2.new] at this
        simp only [Bool.or_eq_true, decide_eq_true_eq, List.mem_append, List.mem_singleton] at this
        rcases this with h | h | h
        · exact .inr (.inl h)
        · exact .inl (Before.cross h (by simp))
        · subst h; exact .inr (.inr (.refl (by simp)))

/-- The whole order: reversed. -/
def orderOf (g : Graph) : List Nat := if g.length = 0 then [] else (dfs g g.length (List.replicate g.length false) 0).2.reverse
theorem met_none (n b : Nat) : met (List.replicate n false) b = decide (n ≤ b) := by
  unfold met
  rw [List.getD_eq_getElem?_getD, List.getElem?_replicate]
  split
  · simp; omega
  · simp; omega
theorem left_none (n : Nat) : left (List.replicate n false) = n := by simp [left]
theorem dfs_last (g : Graph) (f : Nat) (been : List Bool) (n : Nat) : ∃ q, (dfs g (f + 1) been n).2 = q ++ [n] := ⟨_, by rw [dfs_succ]⟩

section
variable {g : Graph} (hg : Valid g)
include hg
theorem order_mem (b : Nat) : b ∈ orderOf g ↔ 0 < g.length ∧ Re g none 0 b := by
  unfold orderOf
  split
  · rename_i h; simp [h]
  · rename_i h
    have h0 : met (List.replicate g.length false) 0 = false := by rw [met_none]; exact decide_eq_false (by omega)
    have hl : (List.replicate g.length false).length = g.length := by simp
    have hf : left (List.replicate g.length false) ≤ g.length := by rw [left_none]; exact Nat.le_refl _
    obtain ⟨w1, w2⟩ := went hg g.length _ 0 hl h0 hf
    have wy := way hg g.length _ 0 hl h0 hf
    rw [List.mem_reverse]
    constructor
    · intro hb; exact ⟨by omega, wy.from_ b hb⟩
    · rintro ⟨_, hb⟩
      induction hb with
      | refl => exact w2
      | @step p b _ h1 _ ih =>
        have := w1.closed p ih b h1
        rw [w1.new, met_none] at this
        have hlt := (succ_lt hg h1).1
        simp only [Bool.or_eq_true, decide_eq_true_eq] at this
        exact this.resolve_left (by omega)
theorem order_nodup : (orderOf g).Nodup := by
  unfold orderOf
  split
  · simp
  · rename_i h
    have h0 : met (List.replicate g.length false) 0 = false := by rw [met_none]; exact decide_eq_false (by omega)
    unfold List.Nodup
    rw [List.pairwise_reverse]
    refine List.Pairwise.imp (R := (· ≠ ·)) (fun h => Ne.symm h) ?_
    exact (went hg g.length _ 0 (by simp) h0 (by rw [left_none]; exact Nat.le_refl _)).1.nodup
omit hg in
theorem order_head (h : 0 < g.length) : ∃ q, orderOf g = 0 :: q := by
  unfold orderOf
  rw [if_neg (by omega)]
  obtain ⟨m, hm⟩ : ∃ m, g.length = m + 1 := ⟨g.length - 1, by omega⟩
  rw [hm]
  obtain ⟨q, hq⟩ := dfs_last g m (List.replicate (m + 1) false) 0
  exact ⟨q.reverse, by rw [hq]; simp⟩
omit hg in
theorem before_rev {l : List Nat} {a b : Nat} (h : Before l a b) : Before l.reverse b a := by
  obtain ⟨p, q, rfl, ha, hb⟩ := h
  exact ⟨q.reverse, p.reverse, by simp, by simpa using hb, by simpa using ha⟩
theorem order_up {v : Nat} (hv : v ∈ orderOf g) (hv0 : v ≠ 0) : ∃ w, v ∈ succ g w ∧ Before (orderOf g) w v := by
  unfold orderOf at hv ⊢
  split
  · rename_i h; simp [h] at hv
  · rename_i h
    rw [if_neg h] at hv
    have h0 : met (List.replicate g.length false) 0 = false := by rw [met_none]; exact decide_eq_false (by omega)
    have wy := way hg g.length _ 0 (by simp) h0 (by rw [left_none]; exact Nat.le_refl _)
    obtain ⟨w, _, h1, h2⟩ := wy.up v (by simpa using hv) hv0
    exact ⟨w, h1, before_rev h2⟩
theorem order_on {v b : Nat} (hv : v ∈ orderOf g) (hb : b ∈ succ g v) : Before (orderOf g) v b ∨ Re g none b v := by
  unfold orderOf at hv ⊢
  split
  · rename_i h; simp [h] at hv
  · rename_i h
    rw [if_neg h] at hv
    have h0 : met (List.replicate g.length false) 0 = false := by rw [met_none]; exact decide_eq_false (by omega)
    have wy := way hg g.length _ 0 (by simp) h0 (by rw [left_none]; exact Nat.le_refl _)
    rcases wy.on v (by simpa using hv) b hb with h1 | h1 | h1
    · exact .inl (before_rev h1)
    · rw [met_none] at h1
      have := (succ_lt hg hb).1
      simp at h1
      omega
    · exact .inr h1
end
end Go.Avm.Dom
/-
  The nearest above: from places back to nodes; what going up from a node meets are just those that it can't be come to without.
-/
set_option linter.unusedSectionVars false
set_option linter.unusedVariables false
namespace Go.Avm.Dom

/-- The node at a place of the order. -/
def nodeAt (g : Graph) (i : Nat) : Nat := (orderOf g).getD i 0
def reachN (g : Graph) : Nat := (orderOf g).length
def preds (g : Graph) (i : Nat) : List Nat := (List.range (reachN g)).filter fun p => decide (nodeAt g i ∈ succ g (nodeAt g p))
def Reached (g : Graph) (b : Nat) : Prop := Re g none 0 b
def Doms (g : Graph) (a b : Nat) : Prop := Reached g a ∧ Reached g b ∧ (a = b ∨ ¬ Re g (some a) 0 b)

section
variable {g : Graph} (hg : Valid g)
include hg
theorem nodeAt_mem {i : Nat} (hi : i < reachN g) : nodeAt g i ∈ orderOf g := by
  unfold nodeAt
  rw [List.getD_eq_getElem?_getD, List.getElem?_eq_getElem hi]
  exact List.getElem_mem hi
theorem nodeAt_reached {i : Nat} (hi : i < reachN g) : Reached g (nodeAt g i) := ((order_mem hg _).1 (nodeAt_mem hg hi)).2
omit hg in
theorem nodeAt_get {i : Nat} (hi : i < reachN g) : (orderOf g)[i]? = some (nodeAt g i) := by
  unfold nodeAt
  rw [List.getD_eq_getElem?_getD, List.getElem?_eq_getElem hi]
  rfl
theorem nodeAt_inj {i j : Nat} (hi : i < reachN g) (hj : j < reachN g) (h : nodeAt g i = nodeAt g j) : i = j := by
  have h1 := nodeAt_get hi
  have h2 := nodeAt_get hj
  rw [h, ← h2] at h1
  exact (List.getElem?_inj hi (order_nodup hg)).1 h1
theorem nodeAt_ex (h : 0 < g.length) {b : Nat} (hb : Reached g b) : ∃ i, i < reachN g ∧ nodeAt g i = b := by
  obtain ⟨i, hi, he⟩ := List.getElem_of_mem ((order_mem hg b).2 ⟨h, hb⟩)
  refine ⟨i, hi, ?_⟩
  unfold nodeAt
  rw [List.getD_eq_getElem?_getD, List.getElem?_eq_getElem hi, he]
  rfl
omit hg in
theorem reachN_pos (h : 0 < g.length) : 0 < reachN g := by
  obtain ⟨q, hq⟩ := order_head h
  unfold reachN
  rw [hq]; simp
omit hg in
theorem nodeAt_zero (h : 0 < g.length) : nodeAt g 0 = 0 := by
  obtain ⟨q, hq⟩ := order_head h
  unfold nodeAt
  rw [hq]; rfl
omit hg in
theorem preds_mem {i p : Nat} : p ∈ preds g i ↔ p < reachN g ∧ nodeAt g i ∈ succ g (nodeAt g p) := by simp [preds]
omit hg in
theorem preds_low : Low (reachN g) (preds g) := fun _ _ _ hp => (preds_mem.1 hp).1
theorem before_places {v w : Nat} (h : Before (orderOf g) w v) : ∃ i j, i < j ∧ j < reachN g ∧ nodeAt g i = w ∧ nodeAt g j = v := by
  obtain ⟨p, q, hpq, hw, hv⟩ := h
  obtain ⟨i, hi, he⟩ := List.getElem_of_mem hw
  obtain ⟨j, hj, hf⟩ := List.getElem_of_mem hv
  refine ⟨i, p.length + j, by omega, by unfold reachN; rw [hpq]; simp; omega, ?_, ?_⟩
  · unfold nodeAt
    rw [hpq, List.getD_eq_getElem?_getD, List.getElem?_append_left hi, List.getElem?_eq_getElem hi, he]; rfl
  · unfold nodeAt
    rw [hpq, List.getD_eq_getElem?_getD, List.getElem?_append_right (by omega), Nat.add_sub_cancel_left, List.getElem?_eq_getElem hj, hf]; rfl
theorem par_ex : ∃ par, Par (reachN g) (preds g) par := by
  refine ⟨fun n => ((preds g n).find? (fun p => decide (p < n))).getD 0, fun n h0 hn => ?_⟩
  have hg0 : 0 < g.length := by
    rcases Nat.eq_zero_or_pos g.length with h | h
    · unfold reachN orderOf at hn; rw [if_pos h] at hn; simp at hn
    · exact h
  have hv := nodeAt_mem hg hn
  have hne : nodeAt g n ≠ 0 := fun h => by
    have := nodeAt_inj hg hn (by omega : 0 < reachN g) (h.trans (nodeAt_zero hg0).symm)
    omega
  obtain ⟨w, h1, h2⟩ := order_up hg hv hne
  obtain ⟨i, j, hij, hj, h3, h4⟩ := before_places hg h2
  have h5 := nodeAt_inj hg hj hn h4
  subst h5
  have hp : i ∈ preds g j := preds_mem.2 ⟨by omega, by rw [h3]; exact h1⟩
  cases hf : (preds g j).find? (fun p => decide (p < j)) with
  | none =>
    rw [List.find?_eq_none] at hf
    exact absurd hij (by simpa using hf i hp)
  | some p =>
    have h6 := List.find?_some hf
    have h7 := List.mem_of_find?_eq_some hf
    simp only [decide_eq_true_eq] at h6
    show ((preds g j).find? (fun p => decide (p < j))).getD 0 ∈ preds g j ∧ ((preds g j).find? (fun p => decide (p < j))).getD 0 < j
    rw [hf]
    exact ⟨h7, h6⟩

theorem av_re {y i : Nat} (hy : y < reachN g) (h : Av (reachN g) (preds g) y i) : i < reachN g ∧ Re g (some (nodeAt g y)) 0 (nodeAt g i) := by
  have hg0 : 0 < g.length := by
    rcases Nat.eq_zero_or_pos g.length with h | h
    · unfold reachN orderOf at hy; rw [if_pos h] at hy; simp at hy
    · exact h
  induction h with
  | base h0 hm =>
    refine ⟨hm, ?_⟩
    rw [nodeAt_zero hg0]
    refine .refl fun h => h0 (nodeAt_inj hg hm hy ?_)
    rw [nodeAt_zero hg0]
    exact Option.some.inj h
  | @step p n _ hn hp hne ih =>
    exact ⟨hn, .step ih.2 (preds_mem.1 hp).2 fun h => hne (nodeAt_inj hg hn hy (Option.some.inj h))⟩
theorem re_av {y : Nat} (hg0 : 0 < g.length) (hy : y < reachN g) {b : Nat} (h : Re g (some (nodeAt g y)) 0 b) : ∃ i, i < reachN g ∧ nodeAt g i = b ∧ Av (reachN g) (preds g) y i := by
  induction h with
  | refl h0 =>
    refine ⟨0, reachN_pos hg0, nodeAt_zero hg0, .base (fun h => h0 ?_) (reachN_pos hg0)⟩
    subst h
    rw [nodeAt_zero hg0]
  | @step p b hp h1 h2 ih =>
    obtain ⟨i, hi, he, ha⟩ := ih
    have hr : Reached g b := .step (Re.weaken hp) h1 (by simp)
    obtain ⟨j, hj, hje⟩ := nodeAt_ex hg hg0 hr
    refine ⟨j, hj, hje, .step ha hj (preds_mem.2 ⟨hi, by rw [he, hje]; exact h1⟩) fun h => h2 ?_⟩
    rw [← hje, h]

/-- The state in which nothing changes any more. -/
structure Fixed (g : Graph) (U : Nat → Nat) : Prop where
  good : Good (reachN g) U
  inv : Inv (reachN g) (preds g) U
  sound : ∀ n, n < reachN g → ∀ y, ¬ Av (reachN g) (preds g) y n → Anc U y n
  fix : Next (reachN g) (preds g) U U
variable {U : Nat → Nat}
theorem anc_doms (hU : Fixed g U) {i j : Nat} (hi : i < reachN g) (hj : j < reachN g) : Anc U i j ↔ Doms g (nodeAt g i) (nodeAt g j) := by
  have hg0 : 0 < g.length := by
    rcases Nat.eq_zero_or_pos g.length with h | h
    · unfold reachN orderOf at hi; rw [if_pos h] at hi; simp at hi
    · exact h
  constructor
  · intro h
    refine ⟨nodeAt_reached hg hi, nodeAt_reached hg hj, ?_⟩
    by_cases hij : nodeAt g i = nodeAt g j
    · exact .inl hij
    · refine .inr fun hr => ?_
      obtain ⟨k, hk, he, ha⟩ := re_av hg hg0 hi hr
      have := nodeAt_inj hg hk hj he
      subst this
      exact complete hU.fix ha h
  · rintro ⟨_, _, h | h⟩
    · rw [nodeAt_inj hg hi hj h]; exact .refl _
    · exact hU.sound j hj i fun ha => h (av_re hg hi ha).2

theorem doms_refl {b : Nat} (h : Reached g b) : Doms g b b := ⟨h, h, .inl rfl⟩
theorem doms_zero {b : Nat} (h : Reached g b) : Doms g 0 b := ⟨.refl (by simp), h, by
  right
  intro h
  have : ∀ b, Re g (some 0) 0 b → False := fun b hb => by
    induction hb with
    | refl h => exact h rfl
    | step _ _ _ ih => exact ih
  exact this b h⟩
/-- Going up from a node. -/
theorem up_doms (hg0 : 0 < g.length) (hU : Fixed g U) {i : Nat} (h0 : 0 < i) (hi : i < reachN g) :
    U i < i ∧ Doms g (nodeAt g (U i)) (nodeAt g i) ∧ nodeAt g (U i) ≠ nodeAt g i ∧ (∀ c, Doms g c (nodeAt g i) → c ≠ nodeAt g i → Doms g c (nodeAt g (U i))) ∧
      ∀ c, Doms g c (nodeAt g (U i)) → Doms g c (nodeAt g i) := by
  have hlt := hU.good i h0 hi
  have hu : U i < reachN g := by omega
  refine ⟨hlt, (anc_doms hg hU hu hi).1 (.up h0 (.refl _)), fun h => by have := nodeAt_inj hg hu hi h; omega, fun c hc hne => ?_, fun c hc => ?_⟩
  · obtain ⟨k, hk, he⟩ := nodeAt_ex hg hg0 hc.1
    subst he
    have h1 := (anc_doms hg hU hk hi).2 hc
    exact (anc_doms hg hU hk hu).1 (anc_up_of_ne h1 fun h => hne (by rw [h])).2
  · obtain ⟨k, hk, he⟩ := nodeAt_ex hg hg0 hc.1
    subst he
    exact (anc_doms hg hU hk hi).1 (.up h0 ((anc_doms hg hU hk hu).2 hc))
theorem doms_anti (hg0 : 0 < g.length) (hU : Fixed g U) {a b : Nat} (h : Doms g a b) (k : Doms g b a) : a = b := by
  obtain ⟨i, hi, rfl⟩ := nodeAt_ex hg hg0 h.1
  obtain ⟨j, hj, rfl⟩ := nodeAt_ex hg hg0 h.2.1
  have h1 := anc_le hU.good j hj i ((anc_doms hg hU hi hj).2 h)
  have h2 := anc_le hU.good i hi j ((anc_doms hg hU hj hi).2 k)
  rw [Nat.le_antisymm h1 h2]
theorem doms_chain (hg0 : 0 < g.length) (hU : Fixed g U) {a b c : Nat} (h : Doms g a c) (k : Doms g b c) : Doms g a b ∨ Doms g b a := by
  obtain ⟨i, hi, rfl⟩ := nodeAt_ex hg hg0 h.1
  obtain ⟨j, hj, rfl⟩ := nodeAt_ex hg hg0 k.1
  obtain ⟨n, hn, rfl⟩ := nodeAt_ex hg hg0 h.2.1
  have h1 := (anc_doms hg hU hi hn).2 h
  have h2 := (anc_doms hg hU hj hn).2 k
  rcases Nat.le_total i j with h3 | h3
  · exact .inl ((anc_doms hg hU hi hj).1 (anc_chain hU.good n hn i j h1 h2 h3))
  · exact .inr ((anc_doms hg hU hj hi).1 (anc_chain hU.good n hn j i h2 h1 h3))
theorem doms_trans (hg0 : 0 < g.length) (hU : Fixed g U) {a b c : Nat} (h : Doms g a b) (k : Doms g b c) : Doms g a c := by
  obtain ⟨i, hi, rfl⟩ := nodeAt_ex hg hg0 h.1
  obtain ⟨j, hj, rfl⟩ := nodeAt_ex hg hg0 k.1
  obtain ⟨n, hn, rfl⟩ := nodeAt_ex hg hg0 k.2.1
  exact (anc_doms hg hU hi hn).1 (anc_trans ((anc_doms hg hU hi hj).2 h) ((anc_doms hg hU hj hn).2 k))
end
end Go.Avm.Dom
/-
  Flow: graphs of natural numbers as the program has them; hints for them.
-/
set_option linter.unusedSectionVars false
namespace Go.Avm
open Go.Proofs Go.Avm.Dom

abbrev natR (r : List Nat) : List Int := r.map fun b => ((b : Nat) : Int)
abbrev natG (g : Graph) : List (List Int) := g.map natR
abbrev rowN (r : List Nat) : D := rowD (natR r)
abbrev rowsN (g : Graph) : D := rowsD (natG g)
def butI : Option Nat → Int
  | none => -1
  | some b => (b : Int)
theorem butI_eq {b : Nat} {c : Option Nat} : ((b : Int) = butI c) ↔ some b = c := by
  cases c with
  | none => simp [butI]
  | some c => simp [butI]; omega
section
variable (P : Program)
def hLenN (r : List Nat) : Hint P := .val (dN ((natR r).map fun x => D.int .i64 x).length) (dN r.length) (by simp)
def hLenG (g : Graph) : Hint P := .val (dN ((natG g).map rowD).length) (dN g.length) (by simp)
def hIxN (r : List Nat) (i : Nat) (x : Nat) (h : r[i]? = some x) : Hint P := .idx ((natR r).map fun x => .int .i64 x) ((i : Nat) : Int) (.int .i64 (x : Int)) (by omega) (by simp [h])
def hIxG (g : Graph) (i : Nat) (r : List Nat) (h : g[i]? = some r) : Hint P := .idx ((natG g).map rowD) ((i : Nat) : Int) (rowN r) (by omega) (by simp [h])
def hInb (i n : Nat) (h : i < n) : Hint P := .inb ((i : Nat) : Int) n (by omega) (by simpa using h)
def hElB (bs : List Bool) (i : Nat) (b : Bool) (h : bs[i]? = some b) : Hint P := .elt (bs.map dB) (0 + i) (dB b) (by simp [h])
def hElI (l : List Int) (i : Nat) (x : Int) (h : l[i]? = some x) : Hint P := .elt (l.map dI) (0 + i) (dI x) (by simp [h])
def hEq (a b : Int) (t : Bool) (h : (a == b) = t) : Hint P := .val (dB (a == b)) (dB t) (by rw [h])
def hNeq (a b : Int) (t : Bool) (h : (!(a == b)) = t) : Hint P := .val (dB (!(a == b))) (dB t) (by rw [h])
end
theorem succ_get {g : Graph} {a : Nat} (h : a < g.length) : g[a]? = some (succ g a) := by
  unfold succ
  rw [List.getD_eq_getElem?_getD, List.getElem?_eq_getElem h]
  rfl
theorem getD_get {l : List Nat} {k : Nat} (h : k < l.length) : l[k]? = some (l.getD k 0) := by
  rw [List.getD_eq_getElem?_getD, List.getElem?_eq_getElem h]
  rfl
theorem met_get {bs : List Bool} {k : Nat} (h : k < bs.length) : bs[k]? = some (met bs k) := by
  unfold met
  rw [List.getD_eq_getElem?_getD, List.getElem?_eq_getElem h]
  rfl
theorem mapB (l : List Bool) (i : Nat) (x : Bool) : (l.map dB).set (0 + i) (dB x) = (l.set i x).map dB := by rw [List.map_set, Nat.zero_add]
theorem mapI (l : List Int) (i : Nat) (x : Int) : (l.map dI).set (0 + i) (dI x) = (l.set i x).map dI := by rw [List.map_set, Nat.zero_add]
theorem viewB (n : Nat) (h : Heap) : ∀ r : List Bool, viewL (view (n + 1) h) (r.map dB) = some (r.map .bool, [])
  | [] => rfl
  | x :: r => by
    rw [List.map_cons, viewL, viewB n h r]
    rfl
/-- A slot's list is read alone from here on. -/
def wB (t k n : Nat) (bs : List Bool) (h : bs.length = n) : WHint := ⟨t, k, n, bs.map dB, bs.map .bool, by simpa using h, fun hh => viewB 2 hh bs⟩
def wI (t k n : Nat) (l : List Int) (h : l.length = n) : WHint := ⟨t, k, n, l.map dI, l.map fun x => .int .i64 x, by simpa using h, fun hh => viewI 2 hh l⟩
/-- A list that is written from its beginning on. -/
def fil {α : Type} (f : Nat → α) (z : α) (i n : Nat) : List α := (List.range i).map f ++ List.replicate (n - i) z
theorem fil_zero {α : Type} (f : Nat → α) (z : α) (n : Nat) : fil f z 0 n = List.replicate n z := by simp [fil]
theorem fil_get {α : Type} {f : Nat → α} {z : α} {i n : Nat} (h : i < n) : (fil f z i n)[0 + i]? = some z := by
  rw [Nat.zero_add, fil, List.getElem?_append_right (by simp), List.getElem?_replicate, if_pos (by simp; omega)]
theorem fil_set {α : Type} {f : Nat → α} {z : α} {i n : Nat} (h : i < n) : (fil f z i n).set (0 + i) (f i) = fil f z (i + 1) n := by
  rw [Nat.zero_add, fil, fil, List.set_append_right _ _ (by simp), List.range_succ, List.map_append, List.append_assoc]
  congr 1
  obtain ⟨m, hm⟩ : ∃ m, n - i = m + 1 := ⟨n - i - 1, by omega⟩
  rw [hm, show n - (i + 1) = m by omega]
  simp [List.replicate_succ]
theorem fil_full {α : Type} (f : Nat → α) (z : α) (n : Nat) : fil f z n n = (List.range n).map f := by simp [fil]
theorem fil_len {α : Type} (f : Nat → α) (z : α) {i n : Nat} (h : i ≤ n) : (fil f z i n).length = n := by simp [fil]; omega
section
variable (P : Program)
def hIxB (bs : List Bool) (i : Nat) (b : Bool) (h : bs[i]? = some b) : Hint P := .idx (bs.map .bool) ((i : Nat) : Int) (.bool b) (by omega) (by simp [h])
end
/-- A slot's list of data is read alone from here on. -/
def wD (t k n : Nat) (l : List D) (h : l.length = n) (ho : (l.all fun x => x.one) = true) : WHint := ⟨t, k, n, l.map .d, l, by simpa using h, fun hh => viewD 2 hh l ho⟩
/-- A row that a cell leads to is read alone from here on. -/
theorem weak_cell {X : Fix} {env : Nat → AV} {C K a n vC vK : Nat} {cs es : List AV} {ds : List D} {tl : List (Nat × Ent)} {rest : Heap} (hCK : C ≠ K) (ha : cs[a]? = some (.sl K vK 0 n 1)) (hn : es.length = n) (hv : ∀ h : Heap, viewL (view 3 h) es = some (ds, [])) :
    Weak X ⟨env, ovl ((C, ⟨vC, some (.arr 1 cs)⟩) :: (K, ⟨vK, some (.arr 1 es)⟩) :: tl) rest⟩ ⟨env, ovl ((C, ⟨vC, some (.arr 1 (cs.set a (.d (.ro ds))))⟩) :: (K, ⟨vK + 1, none⟩) :: tl) rest⟩ := by
  have hC : ovl ((C, ⟨vC, some (.arr 1 cs)⟩) :: (K, ⟨vK, some (.arr 1 es)⟩) :: tl) rest C = ⟨vC, some (.arr 1 cs)⟩ := by simp only [ovl, upd_same]
  have hK : ovl ((C, ⟨vC, some (.arr 1 cs)⟩) :: (K, ⟨vK, some (.arr 1 es)⟩) :: tl) rest K = ⟨vK, some (.arr 1 es)⟩ := by
    simp only [ovl]
    rw [upd_ne _ _ (Ne.symm hCK), upd_same]
  generalize hh : ovl ((C, ⟨vC, some (.arr 1 cs)⟩) :: (K, ⟨vK, some (.arr 1 es)⟩) :: tl) rest = h at hC hK
  have hview : view 4 h (.sl K vK 0 n 1) = some (.ro ds, [K]) := by
    rw [view_sl, hK]
    simp only
    rw [if_pos ⟨trivial, by omega⟩, List.drop_zero, List.take_of_length_le (by omega), hv]
    rfl
  have := weak_freeze (X := X) (env := env) (h := h) (C := C) (a := a) (n := 4) (ces := cs) (ks := [K]) (d := .ro ds) (by simpa using hCK) (by rw [hC]) ha rfl hview
  have e : upd (updAll h (kill h [K])) C ⟨(h C).ver, some (.arr 1 (cs.set a (.d (.ro ds))))⟩ = ovl ((C, ⟨vC, some (.arr 1 (cs.set a (.d (.ro ds))))⟩) :: (K, ⟨vK + 1, none⟩) :: tl) rest := by
    have hk : updAll h (kill h [K]) = upd h K ⟨(h K).ver + 1, none⟩ := rfl
    funext t
    simp only [ovl, hk]
    by_cases h1 : t = C
    · subst h1
      rw [upd_same, upd_same, hC]
    · rw [upd_ne _ _ h1, upd_ne _ _ h1]
      by_cases h2 : t = K
      · subst h2
        rw [upd_same, upd_same, hK]
      · rw [upd_ne _ _ h2, upd_ne _ _ h2, ← hh]
        simp only [ovl]
        rw [upd_ne _ _ h1, upd_ne _ _ h2]
  rw [e] at this
  exact this
end Go.Avm
/-
  Flow: what is reached from a node, never through another one.
-/
set_option linter.unusedSectionVars false
namespace Go.Avm
open Go.Proofs Go.Avm.Dom

abbrev RS := List Bool × Bool
def reStep (but : Option Nat) (a : Nat) (s : RS) (b : Nat) : RS := if met s.1 a = true ∧ some b ≠ but ∧ met s.1 b = false then (s.1.set b true, true) else s
def reRow (but : Option Nat) (a : Nat) (r : List Nat) (s : RS) : Nat → RS
  | 0 => s
  | k + 1 => reStep but a (reRow but a r s k) (r.getD k 0)
def reAll (g : Graph) (but : Option Nat) (s : RS) : Nat → RS
  | 0 => s
  | a + 1 => reRow but a (succ g a) (reAll g but s a) (succ g a).length
theorem reStep_len (but : Option Nat) (a : Nat) (s : RS) (b : Nat) : (reStep but a s b).1.length = s.1.length := by
  unfold reStep
  split <;> simp
theorem reRow_len (but : Option Nat) (a : Nat) (r : List Nat) (s : RS) : ∀ k, (reRow but a r s k).1.length = s.1.length
  | 0 => rfl
  | k + 1 => by rw [reRow, reStep_len, reRow_len but a r s k]
theorem reAll_len (g : Graph) (but : Option Nat) (s : RS) : ∀ a, (reAll g but s a).1.length = s.1.length
  | 0 => rfl
  | a + 1 => by rw [reAll, reRow_len, reAll_len g but s a]

def reI (g : Graph) (but : Option Nat) (K v a : Nat) (r : List Nat) (s : RS) (k : Nat) : List (Nat × AV) :=
  [(0, .d (rowsN g)), (2, dI (butI but)), (7, .sl K v 0 g.length 1), (8, dB s.2), (9, dN a), (30, .d (rowsN g)), (31, dN g.length), (32, dN a), (37, .d (rowN r)), (38, dN r.length), (39, dN k)]
def reO (g : Graph) (but : Option Nat) (K v : Nat) (s : RS) (a : Nat) : List (Nat × AV) :=
  [(0, .d (rowsN g)), (2, dI (butI but)), (7, .sl K v 0 g.length 1), (8, dB s.2), (30, .d (rowsN g)), (31, dN g.length), (32, dN a)]
def reW (g : Graph) (but : Option Nat) (K v : Nat) (s : RS) : List (Nat × AV) :=
  [(0, .d (rowsN g)), (2, dI (butI but)), (7, .sl K v 0 g.length 1), (8, dB s.2)]
def reE (K v : Nat) (bs : List Bool) : List (Nat × Ent) := [(K, ⟨v, some (.arr 1 (bs.map dB))⟩)]
section
variable (g : Graph) (but : Option Nat) (v a : Nat) (r : List Nat) (bs : List Bool) (m : Bool) (k b : Nat)
theorem reNo (hk : k < r.length) (hr : r.length < 1000000000) (hb : r[k]? = some b) (ha : a < g.length) (h1 : bs[a]? = some false) (rest : Heap) (X : Fix) (hP : X.P = Try.prog) (hN : X.N = 65) :
    AW X (loopOf Try.prog 44 12) ⟨envOf (reI g but 210 v a r (bs, m) k), ovl (reE 210 v bs) rest⟩ fun e' S' => e' = .normal ∧ Weak X S' ⟨envOf (reI g but 210 v a r (bs, m) (k + 1)), ovl (reE 210 v bs) rest⟩ :=
  seg okP named { hint := tabH Try.prog [(44, 40, hLt Try.prog k r.length true (by simpa using hk)), (44, 41, hIxN Try.prog r k b hb), (44, 45, hInb Try.prog a g.length ha), (44, 46, hElB Try.prog bs a false h1), (44, 62, hSucc Try.prog k (by omega))] } 2000 44 500000 65 (by kernel_rfl) X hP hN
theorem reBut (hk : k < r.length) (hr : r.length < 1000000000) (hb : r[k]? = some b) (ha : a < g.length) (h1 : bs[a]? = some true) (h2 : (!((b : Int) == butI but)) = false) (rest : Heap) (X : Fix) (hP : X.P = Try.prog) (hN : X.N = 65) :
    AW X (loopOf Try.prog 44 12) ⟨envOf (reI g but 210 v a r (bs, m) k), ovl (reE 210 v bs) rest⟩ fun e' S' => e' = .normal ∧ Weak X S' ⟨envOf (reI g but 210 v a r (bs, m) (k + 1)), ovl (reE 210 v bs) rest⟩ :=
  seg okP named { hint := tabH Try.prog [(44, 40, hLt Try.prog k r.length true (by simpa using hk)), (44, 41, hIxN Try.prog r k b hb), (44, 45, hInb Try.prog a g.length ha), (44, 46, hElB Try.prog bs a true h1), (44, 50, hNeq Try.prog _ _ _ h2), (44, 62, hSucc Try.prog k (by omega))] } 2000 44 500000 65 (by kernel_rfl) X hP hN
theorem reOld (hk : k < r.length) (hr : r.length < 1000000000) (hb : r[k]? = some b) (ha : a < g.length) (h1 : bs[a]? = some true) (h2 : (!((b : Int) == butI but)) = true) (hbl : b < g.length) (h3 : bs[b]? = some true) (rest : Heap) (X : Fix) (hP : X.P = Try.prog) (hN : X.N = 65) :
    AW X (loopOf Try.prog 44 12) ⟨envOf (reI g but 210 v a r (bs, m) k), ovl (reE 210 v bs) rest⟩ fun e' S' => e' = .normal ∧ Weak X S' ⟨envOf (reI g but 210 v a r (bs, m) (k + 1)), ovl (reE 210 v bs) rest⟩ :=
  seg okP named { hint := tabH Try.prog [(44, 40, hLt Try.prog k r.length true (by simpa using hk)), (44, 41, hIxN Try.prog r k b hb), (44, 45, hInb Try.prog a g.length ha), (44, 46, hElB Try.prog bs a true h1), (44, 50, hNeq Try.prog _ _ _ h2), (44, 55, hInb Try.prog b g.length hbl), (44, 56, hElB Try.prog bs b true h3), (44, 62, hSucc Try.prog k (by omega))] } 2000 44 500000 65 (by kernel_rfl) X hP hN
theorem reNew (hk : k < r.length) (hr : r.length < 1000000000) (hb : r[k]? = some b) (ha : a < g.length) (h1 : bs[a]? = some true) (h2 : (!((b : Int) == butI but)) = true) (hbl : b < g.length) (h3 : bs[b]? = some false) (rest : Heap) (X : Fix) (hP : X.P = Try.prog) (hN : X.N = 65) :
    AW X (loopOf Try.prog 44 12) ⟨envOf (reI g but 210 v a r (bs, m) k), ovl (reE 210 v bs) rest⟩ fun e' S' => e' = .normal ∧ Weak X S' ⟨envOf (reI g but 210 v a r (bs.set b true, true) (k + 1)), ovl (reE 210 v (bs.set b true)) rest⟩ := by
  unfold reE
  rw [← mapB]
  exact seg okP named { hint := tabH Try.prog [(44, 40, hLt Try.prog k r.length true (by simpa using hk)), (44, 41, hIxN Try.prog r k b hb), (44, 45, hInb Try.prog a g.length ha), (44, 46, hElB Try.prog bs a true h1), (44, 50, hNeq Try.prog _ _ _ h2), (44, 55, hInb Try.prog b g.length hbl), (44, 56, hElB Try.prog bs b false h3), (44, 61, hInb Try.prog b g.length hbl), (44, 115003, hElB Try.prog bs b false h3), (44, 62, hSucc Try.prog k (by omega))] } 2000 44 500000 65 (by kernel_rfl) X hP hN
theorem reIStop (rest : Heap) (X : Fix) (hP : X.P = Try.prog) (hN : X.N = 65) :
    AW X (loopOf Try.prog 44 12) ⟨envOf (reI g but 210 v a r (bs, m) r.length), ovl (reE 210 v bs) rest⟩ fun e' S' => e' = .exit 4 ∧ Weak X S' ⟨envOf (reO g but 210 v (bs, m) a), ovl (reE 210 v bs) rest⟩ :=
  seg okP named { hint := tabH Try.prog [(44, 40, hLt Try.prog r.length r.length false (by simp))] } 2000 44 500000 65 (by kernel_rfl) X hP hN
end
section
variable {g : Graph} (hg : Valid g)
include hg
theorem reIRound (but : Option Nat) (v a : Nat) (s : RS) (k : Nat) (hs : s.1.length = g.length) (ha : a < g.length) (hr : (succ g a).length < 1000000000) (hk : k < (succ g a).length) (rest : Heap) (X : Fix) (hP : X.P = Try.prog) (hN : X.N = 65) :
    AW X (loopOf Try.prog 44 12) ⟨envOf (reI g but 210 v a (succ g a) s k), ovl (reE 210 v s.1) rest⟩ fun e' S' => e' = .normal ∧ Weak X S' ⟨envOf (reI g but 210 v a (succ g a) (reStep but a s ((succ g a).getD k 0)) (k + 1)), ovl (reE 210 v (reStep but a s ((succ g a).getD k 0)).1) rest⟩ := by
  obtain ⟨bs, m⟩ := s
  have hb := getD_get hk
  generalize hbe : (succ g a).getD k 0 = b at hb
  have hbl : b < g.length := (succ_lt hg (List.mem_of_getElem? hb)).1
  have h1 := met_get (bs := bs) (k := a) (by simp only at hs; omega)
  have h3 := met_get (bs := bs) (k := b) (by simp only at hs; omega)
  cases hma : met bs a with
  | false =>
    have e : reStep but a (bs, m) b = (bs, m) := by unfold reStep; rw [if_neg]; simp [hma]
    rw [e]
    exact reNo g but v a _ bs m k b hk hr hb ha (h1.trans (by rw [hma])) rest X hP hN
  | true =>
    by_cases hbb : some b = but
    · have e : reStep but a (bs, m) b = (bs, m) := by unfold reStep; rw [if_neg]; simp [hbb]
      rw [e]
      exact reBut g but v a _ bs m k b hk hr hb ha (h1.trans (by rw [hma])) (by rw [butI_eq.2 hbb]; simp) rest X hP hN
    · have hne : (!((b : Int) == butI but)) = true := by
        have : ¬ ((b : Int) = butI but) := fun h => hbb (butI_eq.1 h)
        simpa using this
      cases hmb : met bs b with
      | true =>
        have e : reStep but a (bs, m) b = (bs, m) := by unfold reStep; rw [if_neg]; simp [hmb]
        rw [e]
        exact reOld g but v a _ bs m k b hk hr hb ha (h1.trans (by rw [hma])) hne hbl (h3.trans (by rw [hmb])) rest X hP hN
      | false =>
        have e : reStep but a (bs, m) b = (bs.set b true, true) := by unfold reStep; rw [if_pos ⟨hma, hbb, hmb⟩]
        rw [e]
        exact reNew g but v a _ bs m k b hk hr hb ha (h1.trans (by rw [hma])) hne hbl (h3.trans (by rw [hmb])) rest X hP hN
theorem reILoop (but : Option Nat) (v a : Nat) (s : RS) (hs : s.1.length = g.length) (ha : a < g.length) (hr : (succ g a).length < 1000000000) (rest : Heap) (X : Fix) (hP : X.P = Try.prog) (hN : X.N = 65) :
    AW X (.loop (loopOf Try.prog 44 12)) ⟨envOf (reI g but 210 v a (succ g a) s 0), ovl (reE 210 v s.1) rest⟩ fun e' S' => e' = .exit 4 ∧ S' = ⟨envOf (reO g but 210 v (reRow but a (succ g a) s (succ g a).length) a), ovl (reE 210 v (reRow but a (succ g a) s (succ g a).length).1) rest⟩ :=
  (lw_count (succ g a).length (fun k => ⟨envOf (reI g but 210 v a (succ g a) (reRow but a (succ g a) s k) k), ovl (reE 210 v (reRow but a (succ g a) s k).1) rest⟩) (by simp)
    (fun k hk => reIRound hg but v a (reRow but a (succ g a) s k) k (by rw [reRow_len]; exact hs) ha hr hk rest X hP hN)
    (reIStop g but v a _ _ _ rest X hP hN)).aw
end
section
variable (g : Graph) (but : Option Nat) (v a : Nat) (r : List Nat) (s s' : RS)
theorem reORound (ha : a < g.length) (hgl : g.length < 1000000000) (hr : g[a]? = some r)
    (hl : ∀ (rest : Heap) (X : Fix), X.P = Try.prog → X.N = 65 → AW X (.loop (loopOf Try.prog 44 12)) ⟨envOf (reI g but 210 v a r s 0), ovl (reE 210 v s.1) rest⟩ fun e' S' => e' = .exit 4 ∧ S' = ⟨envOf (reO g but 210 v s' a), ovl (reE 210 v s'.1) rest⟩)
    (rest : Heap) (X : Fix) (hP : X.P = Try.prog) (hN : X.N = 65) :
    AW X (loopOf Try.prog 44 9) ⟨envOf (reO g but 210 v s a), ovl (reE 210 v s.1) rest⟩ fun e' S' => e' = .normal ∧ Weak X S' ⟨envOf (reO g but 210 v s' (a + 1)), ovl (reE 210 v s'.1) rest⟩ :=
  seg okP named { loops := fun f q => if f = 44 then (if q = 12 then some ⟨65, loopOf Try.prog 44 12, reI g but 210 v a r s 0, fun _ => reE 210 v s.1, .exit 4, reO g but 210 v s' a, fun _ => reE 210 v s'.1, hl⟩ else none) else none, hint := tabH Try.prog [(44, 33, hLt Try.prog a g.length true (by simpa using ha)), (44, 35, hIxG Try.prog g a r hr), (44, 38, hLenN Try.prog r), (44, 63, hSucc Try.prog a (by omega))] } 2000 44 500000 65 (by kernel_rfl) X hP hN
theorem reOStop (rest : Heap) (X : Fix) (hP : X.P = Try.prog) (hN : X.N = 65) :
    AW X (loopOf Try.prog 44 9) ⟨envOf (reO g but 210 v s g.length), ovl (reE 210 v s.1) rest⟩ fun e' S' => e' = .exit 2 ∧ Weak X S' ⟨envOf (reW g but 210 v s), ovl (reE 210 v s.1) rest⟩ :=
  seg okP named { hint := tabH Try.prog [(44, 33, hLt Try.prog g.length g.length false (by simp))] } 2000 44 500000 65 (by kernel_rfl) X hP hN
end
section
variable {g : Graph} (hg : Valid g)
include hg
theorem reOLoop (but : Option Nat) (v : Nat) (s : RS) (hs : s.1.length = g.length) (hgl : g.length < 1000000000) (hr : ∀ a, (succ g a).length < 1000000000) (rest : Heap) (X : Fix) (hP : X.P = Try.prog) (hN : X.N = 65) :
    AW X (.loop (loopOf Try.prog 44 9)) ⟨envOf (reO g but 210 v s 0), ovl (reE 210 v s.1) rest⟩ fun e' S' => e' = .exit 2 ∧ S' = ⟨envOf (reW g but 210 v (reAll g but s g.length)), ovl (reE 210 v (reAll g but s g.length).1) rest⟩ :=
  (lw_count g.length (fun a => ⟨envOf (reO g but 210 v (reAll g but s a) a), ovl (reE 210 v (reAll g but s a).1) rest⟩) (by simp)
    (fun a ha => reORound g but v a (succ g a) _ _ ha hgl (succ_get ha) (fun rest X hP hN => reILoop hg but v a (reAll g but s a) (by rw [reAll_len]; exact hs) ha (hr a) rest X hP hN) rest X hP hN)
    (reOStop g but v _ rest X hP hN)).aw
end
section
variable (g : Graph) (but : Option Nat) (v : Nat) (s s' : RS)
theorem reWRound (bs : List Bool)
    (hl : ∀ (rest : Heap) (X : Fix), X.P = Try.prog → X.N = 65 → AW X (.loop (loopOf Try.prog 44 9)) ⟨envOf (reO g but 210 v (bs, false) 0), ovl (reE 210 v bs) rest⟩ fun e' S' => e' = .exit 2 ∧ S' = ⟨envOf (reW g but 210 v s'), ovl (reE 210 v s'.1) rest⟩)
    (rest : Heap) (X : Fix) (hP : X.P = Try.prog) (hN : X.N = 65) :
    AW X (loopOf Try.prog 44 6) ⟨envOf (reW g but 210 v (bs, true)), ovl (reE 210 v bs) rest⟩ fun e' S' => e' = .normal ∧ Weak X S' ⟨envOf (reW g but 210 v s'), ovl (reE 210 v s'.1) rest⟩ :=
  seg okP named { loops := fun f q => if f = 44 then (if q = 9 then some ⟨65, loopOf Try.prog 44 9, reO g but 210 v (bs, false) 0, fun _ => reE 210 v bs, .exit 2, reW g but 210 v s', fun _ => reE 210 v s'.1, hl⟩ else none) else none, hint := tabH Try.prog [(44, 31, hLenG Try.prog g)] } 2000 44 500000 65 (by kernel_rfl) X hP hN
theorem reWStop (bs : List Bool) (rest : Heap) (X : Fix) (hP : X.P = Try.prog) (hN : X.N = 65) :
    AW X (loopOf Try.prog 44 6) ⟨envOf (reW g but 210 v (bs, false)), ovl (reE 210 v bs) rest⟩ fun e' S' => e' = .exit 0 ∧ Weak X S' ⟨envOf [(7, .sl 210 v 0 g.length 1)], ovl (reE 210 v bs) rest⟩ :=
  seg okP named { hint := tabH Try.prog [] } 2000 44 500000 65 (by kernel_rfl) X hP hN
end

/-! ### What the rounds come to -/
theorem met_set_iff {bs : List Bool} {b v : Nat} (hb : b < bs.length) : met (bs.set b true) v = true ↔ met bs v = true ∨ v = b := by
  rw [met_set hb]
  simp
/-- What is kept through the rounds. -/
structure ReInv (g : Graph) (but : Option Nat) (n : Nat) (s : RS) : Prop where
  len : s.1.length = g.length
  sound : ∀ v, v < g.length → met s.1 v = true → Re g but n v
  self : met s.1 n = true
section
variable {g : Graph} (hg : Valid g) {but : Option Nat} {n : Nat}
include hg
theorem reStep_inv {a b : Nat} {s : RS} (h : ReInv g but n s) (ha : a < g.length) (hb : b ∈ succ g a) : ReInv g but n (reStep but a s b) := by
  have hbl := (succ_lt hg hb).1
  unfold reStep
  split
  · rename_i hc
    refine ⟨by simpa using h.len, fun v hv hm => ?_, ?_⟩
    · rcases (met_set_iff (by rw [h.len]; exact hbl)).1 hm with h1 | h1
      · exact h.sound v hv h1
      · subst h1
        exact .step (h.sound a ha hc.1) hb hc.2.1
    · exact (met_set_iff (by rw [h.len]; exact hbl)).2 (.inl h.self)
  · exact h
theorem reRow_inv {a : Nat} {s : RS} (h : ReInv g but n s) (ha : a < g.length) : ∀ k, k ≤ (succ g a).length → ReInv g but n (reRow but a (succ g a) s k)
  | 0, _ => h
  | k + 1, hk => reStep_inv hg (reRow_inv h ha k (by omega)) ha (List.mem_of_getElem? (getD_get (by omega)))
theorem reAll_inv {s : RS} (h : ReInv g but n s) : ∀ a, a ≤ g.length → ReInv g but n (reAll g but s a)
  | 0, _ => h
  | a + 1, ha => reRow_inv hg (reAll_inv h a (by omega)) (by omega) _ (Nat.le_refl _)
end
/-- Who was met stays; if nothing is new nothing has changed; each new one is one less that is left. -/
structure ReGo (s s' : RS) : Prop where
  less : left s'.1 ≤ left s.1
  same : s'.2 = false → s.2 = false ∧ s' = s
  new : s'.2 = true → s.2 = true ∨ left s'.1 < left s.1
theorem ReGo.refl (s : RS) : ReGo s s := ⟨Nat.le_refl _, fun h => ⟨h, rfl⟩, fun h => .inl h⟩
theorem ReGo.trans {a b c : RS} (h : ReGo a b) (k : ReGo b c) : ReGo a c :=
  ⟨Nat.le_trans k.less h.less, fun hc => by obtain ⟨h1, h2⟩ := k.same hc; rw [h2]; exact h.same h1, fun hc => by
    rcases k.new hc with h1 | h1
    · rcases h.new h1 with h2 | h2
      · exact .inl h2
      · exact .inr (by have := k.less; omega)
    · exact .inr (by have := h.less; omega)⟩
theorem reStep_go (but : Option Nat) (a : Nat) (s : RS) (b : Nat) : ReGo s (reStep but a s b) := by
  unfold reStep
  split
  · rename_i hc
    have := left_set hc.2.2
    exact ⟨by simp only; omega, fun h => by simp at h, fun _ => .inr (by simp only; omega)⟩
  · exact .refl s
theorem reRow_go (but : Option Nat) (a : Nat) (r : List Nat) (s : RS) : ∀ k, ReGo s (reRow but a r s k)
  | 0 => .refl s
  | k + 1 => (reRow_go but a r s k).trans (reStep_go but a _ _)
theorem reAll_go (g : Graph) (but : Option Nat) (s : RS) : ∀ a, ReGo s (reAll g but s a)
  | 0 => .refl s
  | a + 1 => (reAll_go g but s a).trans (reRow_go but a _ _ _)
/-- Where nothing is new all that is gone on to was met. -/
theorem reRow_closed {but : Option Nat} {a : Nat} {r : List Nat} {s : RS} : ∀ k, k ≤ r.length → reRow but a r s k = s → s.2 = false → met s.1 a = true → ∀ j, j < k → some (r.getD j 0) ≠ but → met s.1 (r.getD j 0) = true
  | 0, _, _, _, _, j, hj, _ => by omega
  | k + 1, hk, h, hf, ha, j, hj, hb => by
    have h0 : reRow but a r s k = s := by
      have h1 := (reStep_go but a (reRow but a r s k) (r.getD k 0)).same (by
        rw [show reStep but a (reRow but a r s k) (r.getD k 0) = s from h]; exact hf)
      exact h1.2.symm.trans h
    rcases Nat.lt_or_ge j k with hjk | hjk
    · exact reRow_closed k (by omega) h0 hf ha j hjk hb
    · have : j = k := by omega
      subst this
      have h1 : reStep but a s (r.getD j 0) = s := by
        have : reStep but a (reRow but a r s j) (r.getD j 0) = s := h
        rwa [h0] at this
      cases hm : met s.1 (r.getD j 0) with
      | true => rfl
      | false =>
        unfold reStep at h1
        rw [if_pos ⟨ha, hb, hm⟩] at h1
        have : s.2 = true := by rw [← h1]
        rw [hf] at this
        cases this
theorem reAll_closed {g : Graph} {but : Option Nat} {s : RS} : ∀ n, n ≤ g.length → reAll g but s n = s → s.2 = false → ∀ a, a < n → met s.1 a = true → ∀ b ∈ succ g a, some b ≠ but → met s.1 b = true
  | 0, _, _, _, a, ha, _, _, _, _ => by omega
  | n + 1, hn, h, hf, a, ha, hm, b, hb, hne => by
    have h0 : reAll g but s n = s := by
      have h1 := (reRow_go but n (succ g n) (reAll g but s n) (succ g n).length).same (by
        rw [show reRow but n (succ g n) (reAll g but s n) (succ g n).length = s from h]; exact hf)
      exact h1.2.symm.trans h
    rcases Nat.lt_or_ge a n with han | han
    · exact reAll_closed n (by omega) h0 hf a han hm b hb hne
    · have : a = n := by omega
      subst this
      have h1 : reRow but a (succ g a) s (succ g a).length = s := by
        have : reRow but a (succ g a) (reAll g but s a) (succ g a).length = s := h
        rwa [h0] at this
      obtain ⟨j, hj, he⟩ := List.getElem_of_mem hb
      have h2 := getD_get hj
      rw [List.getElem?_eq_getElem hj, he] at h2
      have h3 : (succ g a).getD j 0 = b := (Option.some.inj h2).symm
      have := reRow_closed (succ g a).length (Nat.le_refl _) h1 hf hm j hj (by rw [h3]; exact hne)
      rwa [h3] at this
open Classical in
/-- What is reached from a node, never through another one. -/
noncomputable def reachL (g : Graph) (n : Nat) (but : Option Nat) : List Bool := (List.range g.length).map fun v => decide (n < g.length ∧ Re g but n v)
theorem reachL_met {g : Graph} {n v : Nat} {but : Option Nat} (hv : v < g.length) : met (reachL g n but) v = true ↔ n < g.length ∧ Re g but n v := by
  unfold met reachL
  rw [List.getD_eq_getElem?_getD, List.getElem?_map, List.getElem?_range hv]
  simp
theorem reachL_len (g : Graph) (n : Nat) (but : Option Nat) : (reachL g n but).length = g.length := by simp [reachL]
theorem met_ext {a b : List Bool} (hl : a.length = b.length) (h : ∀ v, v < a.length → (met a v = true ↔ met b v = true)) : a = b := by
  apply List.ext_getElem? 
  intro i
  rcases Nat.lt_or_ge i a.length with hi | hi
  · rw [met_get hi, met_get (by omega)]
    have := h i hi
    congr 1
    cases h1 : met a i <;> cases h2 : met b i <;> simp_all
  · rw [List.getElem?_eq_none hi, List.getElem?_eq_none (by omega)]
theorem re_end {g : Graph} (hg : Valid g) {but : Option Nat} {n : Nat} {s : RS} (hn : n < g.length) (hnb : some n ≠ but) (hi : ReInv g but n s) (h : reAll g but s g.length = s) (hf : s.2 = false) : s.1 = reachL g n but := by
  refine met_ext (by rw [reachL_len, hi.len]) fun v hv => ?_
  rw [hi.len] at hv
  rw [reachL_met hv]
  constructor
  · intro hm; exact ⟨hn, hi.sound v hv hm⟩
  · rintro ⟨_, hr⟩
    induction hr with
    | refl => exact hi.self
    | @step p b hp h1 h2 ih =>
      have hpl := (succ_lt hg h1).2
      exact reAll_closed g.length (Nat.le_refl _) h hf p hpl (ih hpl) b h1 h2
section
variable {g : Graph} (hg : Valid g)
include hg
theorem reWLoop {but : Option Nat} {n : Nat} (hn : n < g.length) (hnb : some n ≠ but) (v : Nat) (hgl : g.length < 1000000000) (hr : ∀ a, (succ g a).length < 1000000000) (rest : Heap) (X : Fix) (hP : X.P = Try.prog) (hN : X.N = 65) :
    ∀ (m : Nat) (bs : List Bool), left bs = m → ReInv g but n (bs, true) → LW X (loopOf Try.prog 44 6) ⟨envOf (reW g but 210 v (bs, true)), ovl (reE 210 v bs) rest⟩ fun e' S' => e' = .exit 0 ∧ S' = ⟨envOf [(7, .sl 210 v 0 g.length 1)], ovl (reE 210 v (reachL g n but)) rest⟩ := fun m => by
  induction m using Nat.strongRecOn with
  | ind m ih =>
    intro bs hm hi
    have hi' : ReInv g but n (bs, false) := ⟨hi.len, hi.sound, hi.self⟩
    have h1 := reWRound g but v (reAll g but (bs, false) g.length) bs (fun rest X hP hN => reOLoop hg but v (bs, false) hi.len hgl hr rest X hP hN) rest X hP hN
    refine lw_seg h1 ?_
    have h2 := reAll_inv hg hi' g.length (Nat.le_refl _)
    have h3 := reAll_go g but (bs, false) g.length
    generalize hs : reAll g but (bs, false) g.length = s at h2 h3
    obtain ⟨bs', m'⟩ := s
    cases m' with
    | true =>
      have h4 := (h3.new rfl).resolve_left (by simp)
      exact ih (left bs') (by rw [← hm]; exact h4) bs' rfl h2
    | false =>
      obtain ⟨_, h4⟩ := h3.same rfl
      simp only [Prod.mk.injEq, and_true] at h4
      subst h4
      have := re_end hg hn hnb h2 hs rfl
      simp only at this
      rw [← this]
      exact lw_end (reWStop g but v bs' rest X hP hN) (by simp)
theorem reachGo {but : Option Nat} {n : Nat} (hn : n < g.length) (hnb : some n ≠ but) (hgl : g.length < 1000000000) (hr : ∀ a, (succ g a).length < 1000000000) :
    Pure Try.prog 44 [rowsN g, .int .i64 (n : Int), .int .i64 (butI but)] [.ro ((reachL g n but).map .bool)] := by
  have hi : ReInv g but n ((List.replicate g.length false).set n true, true) := by
    refine ⟨by simp, fun v hv hm => ?_, ?_⟩
    · rcases (met_set_iff (by simpa using hn)).1 hm with h | h
      · rw [met_none] at h; simp at h; omega
      · subst h; exact .refl hnb
    · exact (met_set_iff (by simpa using hn)).2 (.inr rfl)
  have hne : ((n : Int) == butI but) = false := by
    have : ¬ ((n : Int) = butI but) := fun h => hnb (butI_eq.1 h)
    simpa using this
  have e : ((List.replicate g.length false).set n true).map dB = (List.replicate g.length (dB false)).set (0 + n) (dB true) := by rw [← mapB, List.map_replicate]
  have hl : ∀ (rest : Heap) (X : Fix), X.P = Try.prog → X.N = 65 → AW X (.loop (loopOf Try.prog 44 6)) ⟨envOf (reW g but 210 1 ((List.replicate g.length false).set n true, true)), ovl [(210, ⟨1, some (.arr 1 ((List.replicate g.length (dB false)).set (0 + n) (dB true)))⟩)] rest⟩ fun e' S' => e' = .exit 0 ∧ S' = ⟨envOf [(7, .sl 210 1 0 g.length 1)], ovl (reE 210 1 (reachL g n but)) rest⟩ := fun rest X hP hN => by
    have := (reWLoop hg hn hnb 1 hgl hr rest X hP hN _ _ rfl hi).aw
    unfold reE at this ⊢
    rw [e] at this
    exact this
  exact pure_of_run okP named { weaks := fun f q => if f = 44 then (if q = 19 then some (wB 7 210 g.length (reachL g n but) (reachL_len g n but)) else none) else none, loops := fun f q => if f = 44 then (if q = 6 then some ⟨65, loopOf Try.prog 44 6, reW g but 210 1 ((List.replicate g.length false).set n true, true), fun _ => [(210, ⟨1, some (.arr 1 ((List.replicate g.length (dB false)).set (0 + n) (dB true)))⟩)], .exit 0, [(7, .sl 210 1 0 g.length 1)], fun _ => reE 210 1 (reachL g n but), hl⟩ else none) else none, hint := tabH Try.prog [(44, 14, hLenG Try.prog g), (44, 15, .mk ((g.length : Nat) : Int) (by omega) (by omega)), (44, 18, hLenG Try.prog g), (44, 19, hB Try.prog (decide (((g.length : Nat) : Int) ≤ ((n : Nat) : Int))) false (dec_false (by omega))), (44, 23, hEq Try.prog _ _ _ hne), (44, 28, hInb Try.prog n g.length hn), (44, 104003, .elt (List.replicate g.length (dB false)) (0 + n) (dB false) (by simp [hn]))] } 2000 (by kernel_rfl)
end
theorem re_self {g : Graph} {n v : Nat} : ¬ Re g (some n) n v := fun h => by
  induction h with
  | refl h => exact h rfl
  | step _ _ _ ih => exact ih
theorem reachL_no {g : Graph} {n : Nat} {but : Option Nat} (h : g.length ≤ n ∨ some n = but) : reachL g n but = List.replicate g.length false := by
  refine met_ext (by rw [reachL_len]; simp) fun v hv => ?_
  rw [reachL_len] at hv
  rw [reachL_met hv, met_none]
  rcases h with h | h
  · simp; omega
  · subst h
    constructor
    · intro h; exact absurd h.2 re_self
    · intro h; simp at h; omega
theorem reachOut {g : Graph} {but : Option Nat} {n : Nat} (h : g.length ≤ n) (hgl : g.length < 1000000000) (hn : n < 1000000000) :
    Pure Try.prog 44 [rowsN g, .int .i64 (n : Int), .int .i64 (butI but)] [.ro ((List.replicate g.length false).map .bool)] := by
  have e : (List.replicate g.length false).map dB = List.replicate g.length (dB false) := by rw [List.map_replicate]
  exact pure_of_run okP named { weaks := fun f q => if f = 44 then (if q = 3 then some ⟨7, 210, g.length, List.replicate g.length (dB false), (List.replicate g.length false).map .bool, by simp, fun hh => by rw [← e]; exact viewB 2 hh _⟩ else none) else none, hint := tabH Try.prog [(44, 14, hLenG Try.prog g), (44, 15, .mk ((g.length : Nat) : Int) (by omega) (by omega)), (44, 18, hLenG Try.prog g), (44, 19, hB Try.prog (decide (((g.length : Nat) : Int) ≤ ((n : Nat) : Int))) true (dec_true (by omega)))] } 2000 (by kernel_rfl)
theorem reachBut {g : Graph} {n : Nat} (h : n < g.length) (hgl : g.length < 1000000000) :
    Pure Try.prog 44 [rowsN g, .int .i64 (n : Int), .int .i64 (butI (some n))] [.ro ((List.replicate g.length false).map .bool)] := by
  have e : (List.replicate g.length false).map dB = List.replicate g.length (dB false) := by rw [List.map_replicate]
  exact pure_of_run okP named { weaks := fun f q => if f = 44 then (if q = 3 then some ⟨7, 210, g.length, List.replicate g.length (dB false), (List.replicate g.length false).map .bool, by simp, fun hh => by rw [← e]; exact viewB 2 hh _⟩ else none) else none, hint := tabH Try.prog [(44, 14, hLenG Try.prog g), (44, 15, .mk ((g.length : Nat) : Int) (by omega) (by omega)), (44, 18, hLenG Try.prog g), (44, 19, hB Try.prog (decide (((g.length : Nat) : Int) ≤ ((n : Nat) : Int))) false (dec_false (by omega))), (44, 23, hEq Try.prog ((n : Nat) : Int) (butI (some n)) true (by simp [butI]))] } 2000 (by kernel_rfl)
/-- Reach. -/
theorem reachC {g : Graph} (hg : Valid g) {but : Option Nat} {n : Nat} (hgl : g.length < 1000000000) (hn : n < 1000000000) (hr : ∀ a, (succ g a).length < 1000000000) :
    Pure Try.prog 44 [rowsN g, .int .i64 (n : Int), .int .i64 (butI but)] [.ro ((reachL g n but).map .bool)] := by
  rcases Nat.lt_or_ge n g.length with h | h
  · by_cases hb : some n = but
    · rw [reachL_no (.inr hb)]
      subst hb
      exact reachBut h hgl
    · exact reachGo hg h hb hgl hr
  · rw [reachL_no (.inl h)]
    exact reachOut h hgl hn
end Go.Avm
/-
  Flow: who dominates whom, as the reference has it.
-/
set_option linter.unusedSectionVars false
namespace Go.Avm
open Go.Proofs Go.Avm.Dom

open Classical in
noncomputable def domB (g : Graph) (a b : Nat) : Bool := decide (Doms g a b)
theorem domB_true {g : Graph} {a b : Nat} (h : Doms g a b) : domB g a b = true := by unfold domB; simp [h]
theorem domB_false {g : Graph} {a b : Nat} (h : ¬ Doms g a b) : domB g a b = false := by unfold domB; simp [h]
theorem domB_iff {g : Graph} {a b : Nat} : domB g a b = true ↔ Doms g a b := by unfold domB; simp
theorem int_eq {a b : Nat} (h : a = b) : ((a : Int) == (b : Int)) = true := by subst h; simp
theorem int_ne {a b : Nat} (h : a ≠ b) : ((a : Int) == (b : Int)) = false := by
  simp
  omega
noncomputable def domsL (g : Graph) (a : Nat) : List Bool := (List.range g.length).map (domB g a)
abbrev rowB (bs : List Bool) : D := .ro (bs.map .bool)
abbrev roB (bs : List Bool) : AV := .d (rowB bs)
theorem reachL_get {g : Graph} {n v : Nat} {but : Option Nat} (hv : v < g.length) : (reachL g n but)[v]? = some (met (reachL g n but) v) := met_get (by rw [reachL_len]; exact hv)

noncomputable def dmI (g : Graph) (vo vr a b : Nat) : List (Nat × AV) :=
  [(0, .d (rowsN g)), (3, roB (reachL g 0 none)), (4, .sl 327 vo 0 g.length 1), (5, dN a), (6, roB (reachL g 0 (some a))), (14, dN g.length), (15, dN a), (28, dN g.length), (29, dN b)]
noncomputable def dmO (g : Graph) (vo a : Nat) : List (Nat × AV) := [(0, .d (rowsN g)), (3, roB (reachL g 0 none)), (4, .sl 327 vo 0 g.length 1), (14, dN g.length), (15, dN a)]
noncomputable def dmE (vo : Nat) (cs : List AV) (vr : Nat) (bs : List AV) : List (Nat × Ent) := [(327, ⟨vo, some (.arr 1 cs)⟩), (500463, ⟨vr, some (.arr 1 bs)⟩)]
section
variable (g : Graph) (vo vr a b : Nat) (cs bs : List AV) (z : AV)
theorem dmNo (hb : b < g.length) (ha : a < g.length) (hgl : g.length < 1000000000) (hc : cs[0 + a]? = some (.sl 500463 vr 0 g.length 1)) (hz : bs[0 + b]? = some z) (h1 : (reachL g 0 none)[a]? = some false) (rest : Heap) (X : Fix) (hP : X.P = Try.prog) (hN : X.N = 63) :
    AW X (loopOf Try.prog 43 9) ⟨envOf (dmI g vo vr a b), ovl (dmE vo cs vr bs) rest⟩ fun e' S' => e' = .normal ∧ Weak X S' ⟨envOf (dmI g vo vr a (b + 1)), ovl (dmE vo cs vr (bs.set (0 + b) (dB false))) rest⟩ :=
  seg okP named { hint := tabH Try.prog [(43, 30, hLt Try.prog b g.length true (by simpa using hb)), (43, 34, hInb Try.prog a g.length ha), (43, 35, .elt cs (0 + a) _ hc), (43, 39, hIxB Try.prog (reachL g 0 none) a false h1), (43, 59, hInb Try.prog b g.length hb), (43, 111028, .elt bs (0 + b) z hz), (43, 60, hSucc Try.prog b (by omega))] } 2000 43 500000 63 (by kernel_rfl) X hP hN
theorem dmNo2 (hb : b < g.length) (ha : a < g.length) (hgl : g.length < 1000000000) (hc : cs[0 + a]? = some (.sl 500463 vr 0 g.length 1)) (hz : bs[0 + b]? = some z) (h1 : (reachL g 0 none)[a]? = some true) (h2 : (reachL g 0 none)[b]? = some false) (rest : Heap) (X : Fix) (hP : X.P = Try.prog) (hN : X.N = 63) :
    AW X (loopOf Try.prog 43 9) ⟨envOf (dmI g vo vr a b), ovl (dmE vo cs vr bs) rest⟩ fun e' S' => e' = .normal ∧ Weak X S' ⟨envOf (dmI g vo vr a (b + 1)), ovl (dmE vo cs vr (bs.set (0 + b) (dB false))) rest⟩ :=
  seg okP named { hint := tabH Try.prog [(43, 30, hLt Try.prog b g.length true (by simpa using hb)), (43, 34, hInb Try.prog a g.length ha), (43, 35, .elt cs (0 + a) _ hc), (43, 39, hIxB Try.prog (reachL g 0 none) a true h1), (43, 44, hIxB Try.prog (reachL g 0 none) b false h2), (43, 59, hInb Try.prog b g.length hb), (43, 111028, .elt bs (0 + b) z hz), (43, 60, hSucc Try.prog b (by omega))] } 2000 43 500000 63 (by kernel_rfl) X hP hN
theorem dmSelf (hb : b < g.length) (ha : a < g.length) (hgl : g.length < 1000000000) (hc : cs[0 + a]? = some (.sl 500463 vr 0 g.length 1)) (hz : bs[0 + b]? = some z) (h1 : (reachL g 0 none)[a]? = some true) (h2 : (reachL g 0 none)[b]? = some true) (h3 : ((a : Int) == (b : Int)) = true) (rest : Heap) (X : Fix) (hP : X.P = Try.prog) (hN : X.N = 63) :
    AW X (loopOf Try.prog 43 9) ⟨envOf (dmI g vo vr a b), ovl (dmE vo cs vr bs) rest⟩ fun e' S' => e' = .normal ∧ Weak X S' ⟨envOf (dmI g vo vr a (b + 1)), ovl (dmE vo cs vr (bs.set (0 + b) (dB true))) rest⟩ :=
  seg okP named { hint := tabH Try.prog [(43, 30, hLt Try.prog b g.length true (by simpa using hb)), (43, 34, hInb Try.prog a g.length ha), (43, 35, .elt cs (0 + a) _ hc), (43, 39, hIxB Try.prog (reachL g 0 none) a true h1), (43, 44, hIxB Try.prog (reachL g 0 none) b true h2), (43, 50, hEq Try.prog _ _ _ h3), (43, 59, hInb Try.prog b g.length hb), (43, 111028, .elt bs (0 + b) z hz), (43, 60, hSucc Try.prog b (by omega))] } 2000 43 500000 63 (by kernel_rfl) X hP hN
theorem dmLeft (l : Bool) (hb : b < g.length) (ha : a < g.length) (hgl : g.length < 1000000000) (hc : cs[0 + a]? = some (.sl 500463 vr 0 g.length 1)) (hz : bs[0 + b]? = some z) (h1 : (reachL g 0 none)[a]? = some true) (h2 : (reachL g 0 none)[b]? = some true) (h3 : ((a : Int) == (b : Int)) = false) (h4 : (reachL g 0 (some a))[b]? = some l) (rest : Heap) (X : Fix) (hP : X.P = Try.prog) (hN : X.N = 63) :
    AW X (loopOf Try.prog 43 9) ⟨envOf (dmI g vo vr a b), ovl (dmE vo cs vr bs) rest⟩ fun e' S' => e' = .normal ∧ Weak X S' ⟨envOf (dmI g vo vr a (b + 1)), ovl (dmE vo cs vr (bs.set (0 + b) (dB (!l)))) rest⟩ :=
  seg okP named { hint := tabH Try.prog [(43, 30, hLt Try.prog b g.length true (by simpa using hb)), (43, 34, hInb Try.prog a g.length ha), (43, 35, .elt cs (0 + a) _ hc), (43, 39, hIxB Try.prog (reachL g 0 none) a true h1), (43, 44, hIxB Try.prog (reachL g 0 none) b true h2), (43, 50, hEq Try.prog _ _ _ h3), (43, 54, hIxB Try.prog (reachL g 0 (some a)) b l h4), (43, 59, hInb Try.prog b g.length hb), (43, 111028, .elt bs (0 + b) z hz), (43, 60, hSucc Try.prog b (by omega))] } 2000 43 500000 63 (by kernel_rfl) X hP hN
theorem dmIStop (rest : Heap) (X : Fix) (hP : X.P = Try.prog) (hN : X.N = 63) :
    AW X (loopOf Try.prog 43 9) ⟨envOf (dmI g vo vr a g.length), ovl (dmE vo cs vr bs) rest⟩ fun e' S' => e' = .exit 2 ∧ Weak X S' ⟨envOf (dmO g vo a), ovl (dmE vo cs vr bs) rest⟩ :=
  seg okP named { hint := tabH Try.prog [(43, 30, hLt Try.prog g.length g.length false (by simp))] } 2000 43 500000 63 (by kernel_rfl) X hP hN
end
section
variable {g : Graph} (hg : Valid g)
theorem dmRound (vo vr a b : Nat) (cs bs : List AV) (z : AV) (hb : b < g.length) (ha : a < g.length) (hgl : g.length < 1000000000) (hc : cs[0 + a]? = some (.sl 500463 vr 0 g.length 1)) (hz : bs[0 + b]? = some z) (rest : Heap) (X : Fix) (hP : X.P = Try.prog) (hN : X.N = 63) :
    AW X (loopOf Try.prog 43 9) ⟨envOf (dmI g vo vr a b), ovl (dmE vo cs vr bs) rest⟩ fun e' S' => e' = .normal ∧ Weak X S' ⟨envOf (dmI g vo vr a (b + 1)), ovl (dmE vo cs vr (bs.set (0 + b) (dB (domB g a b)))) rest⟩ := by
  have g1 := reachL_get (g := g) (n := 0) (but := none) ha
  have g2 := reachL_get (g := g) (n := 0) (but := none) hb
  have g3 := reachL_get (g := g) (n := 0) (but := some a) hb
  have hn : 0 < g.length := by omega
  have m1 := reachL_met (g := g) (n := 0) (but := none) ha
  have m2 := reachL_met (g := g) (n := 0) (but := none) hb
  have m3 := reachL_met (g := g) (n := 0) (but := some a) hb
  cases h1 : met (reachL g 0 none) a with
  | false =>
    have e : domB g a b = false := by
      refine domB_false fun h => ?_
      rw [m1.2 ⟨hn, h.1⟩] at h1
      cases h1
    rw [e]
    exact dmNo g vo vr a b cs bs z hb ha hgl hc hz (g1.trans (by rw [h1])) rest X hP hN
  | true =>
    cases h2 : met (reachL g 0 none) b with
    | false =>
      have e : domB g a b = false := by
        refine domB_false fun h => ?_
        rw [m2.2 ⟨hn, h.2.1⟩] at h2
        cases h2
      rw [e]
      exact dmNo2 g vo vr a b cs bs z hb ha hgl hc hz (g1.trans (by rw [h1])) (g2.trans (by rw [h2])) rest X hP hN
    | true =>
      by_cases hab : a = b
      · have e : domB g a b = true := domB_true ⟨(m1.1 h1).2, (m2.1 h2).2, .inl hab⟩
        rw [e]
        exact dmSelf g vo vr a b cs bs z hb ha hgl hc hz (g1.trans (by rw [h1])) (g2.trans (by rw [h2])) (int_eq hab) rest X hP hN
      · have e : domB g a b = !(met (reachL g 0 (some a)) b) := by
          cases h3 : met (reachL g 0 (some a)) b with
          | true =>
            refine domB_false fun h => ?_
            rcases h.2.2 with h | h
            · exact hab h
            · exact h (m3.1 h3).2
          | false =>
            refine domB_true ⟨(m1.1 h1).2, (m2.1 h2).2, .inr fun h => ?_⟩
            rw [m3.2 ⟨hn, h⟩] at h3
            cases h3
        rw [e]
        exact dmLeft g vo vr a b cs bs z _ hb ha hgl hc hz (g1.trans (by rw [h1])) (g2.trans (by rw [h2])) (int_ne hab) g3 rest X hP hN
theorem dmILoop (vo vr a : Nat) (cs : List AV) (ha : a < g.length) (hgl : g.length < 1000000000) (hc : cs[0 + a]? = some (.sl 500463 vr 0 g.length 1)) (rest : Heap) (X : Fix) (hP : X.P = Try.prog) (hN : X.N = 63) :
    AW X (.loop (loopOf Try.prog 43 9)) ⟨envOf (dmI g vo vr a 0), ovl (dmE vo cs vr (fil (fun b => dB (domB g a b)) (dB false) 0 g.length)) rest⟩ fun e' S' => e' = .exit 2 ∧ S' = ⟨envOf (dmO g vo a), ovl (dmE vo cs vr (fil (fun b => dB (domB g a b)) (dB false) g.length g.length)) rest⟩ :=
  (lw_count g.length (fun b => ⟨envOf (dmI g vo vr a b), ovl (dmE vo cs vr (fil (fun b => dB (domB g a b)) (dB false) b g.length)) rest⟩) (by simp)
    (fun b hb => by
      rw [← fil_set hb]
      exact dmRound vo vr a b cs _ (dB false) hb ha hgl hc (fil_get hb) rest X hP hN)
    (dmIStop g vo vr a cs _ rest X hP hN)).aw
end
section
variable (g : Graph) (vo vr a : Nat) (cs : List AV)
theorem dmORound (ds : List Bool) (hbs : ds.length = g.length) (ha : a < g.length) (hgl : g.length < 1000000000) (hc : cs[0 + a]? = some (.nils))
    (hcall : Pure Try.prog 44 [rowsN g, .int .i64 0, .int .i64 (a : Int)] [.ro ((reachL g 0 (some a)).map .bool)])
    (hl : ∀ (vo : Nat) (rest : Heap) (X : Fix), X.P = Try.prog → X.N = 63 → AW X (.loop (loopOf Try.prog 43 9)) ⟨envOf (dmI g vo (vr + 1) a 0), ovl (dmE vo (cs.set (0 + a) (.sl 500463 (vr + 1) 0 g.length 1)) (vr + 1) (List.replicate g.length (dB false))) rest⟩ fun e' S' => e' = .exit 2 ∧ S' = ⟨envOf (dmO g vo a), ovl (dmE vo (cs.set (0 + a) (.sl 500463 (vr + 1) 0 g.length 1)) (vr + 1) (ds.map dB)) rest⟩)
    (rest : Heap) (X : Fix) (hP : X.P = Try.prog) (hN : X.N = 63) :
    AW X (loopOf Try.prog 43 4) ⟨envOf (dmO g vo a), ovl [(327, ⟨vo, some (.arr 1 cs)⟩), (500463, ⟨vr, none⟩)] rest⟩ fun e' S' => e' = .normal ∧ Weak X S' ⟨envOf (dmO g vo (a + 1)), ovl [(327, ⟨vo, some (.arr 1 (cs.set (0 + a) (roB ds)))⟩), (500463, ⟨vr + 2, none⟩)] rest⟩ := by
  have h := (seg okP named { loops := fun f q => if f = 43 then (if q = 9 then some ⟨63, loopOf Try.prog 43 9, dmI g vo (vr + 1) a 0, fun _ => dmE vo (cs.set (0 + a) (.sl 500463 (vr + 1) 0 g.length 1)) (vr + 1) (List.replicate g.length (dB false)), .exit 2, dmO g vo a, fun _ => dmE vo (cs.set (0 + a) (.sl 500463 (vr + 1) 0 g.length 1)) (vr + 1) (ds.map dB), hl vo⟩ else none) else none, hint := tabH Try.prog [(43, 16, hLt Try.prog a g.length true (by simpa using ha)), (43, 21, hLenG Try.prog g), (43, 22, .mk ((g.length : Nat) : Int) (by omega) (by omega)), (43, 23, hInb Try.prog a g.length ha), (43, 106006, .elt cs (0 + a) _ hc), (43, 26, .call 44 _ _ hcall), (43, 28, hLenG Try.prog g), (43, 61, hSucc Try.prog a (by omega))] } 2000 43 500000 63 (by kernel_rfl) X hP hN : AW X (loopOf Try.prog 43 4) ⟨envOf (dmO g vo a), ovl [(327, ⟨vo, some (.arr 1 cs)⟩), (500463, ⟨vr, none⟩)] rest⟩ fun e' S' => e' = .normal ∧ Weak X S' ⟨envOf (dmO g vo (a + 1)), ovl [(327, ⟨vo, some (.arr 1 (cs.set (0 + a) (.sl 500463 (vr + 1) 0 g.length 1)))⟩), (500463, ⟨vr + 1, some (.arr 1 (ds.map dB))⟩)] rest⟩)
  refine h.mono fun e' S' hh => ⟨hh.1, hh.2.trans ?_⟩
  have hlt : 0 + a < cs.length := (List.getElem?_eq_some_iff.1 hc).1
  have hw := weak_cell (X := X) (env := envOf (dmO g vo (a + 1))) (C := 327) (K := 500463) (a := 0 + a) (n := g.length) (vC := vo) (vK := vr + 1) (cs := cs.set (0 + a) (.sl 500463 (vr + 1) 0 g.length 1)) (es := ds.map dB) (ds := ds.map .bool) (tl := []) (rest := rest) (by omega) (by rw [List.getElem?_set_self hlt]) (by simpa using hbs) (fun h => viewB 2 h ds)
  rw [List.set_set] at hw
  exact hw
theorem dmOStop (rest : Heap) (X : Fix) (hP : X.P = Try.prog) (hN : X.N = 63) :
    AW X (loopOf Try.prog 43 4) ⟨envOf (dmO g vo g.length), ovl [(327, ⟨vo, some (.arr 1 cs)⟩), (500463, ⟨vr, none⟩)] rest⟩ fun e' S' => e' = .exit 0 ∧ Weak X S' ⟨envOf [(4, .sl 327 vo 0 g.length 1)], ovl [(327, ⟨vo, some (.arr 1 cs)⟩), (500463, ⟨vr, none⟩)] rest⟩ :=
  seg okP named { hint := tabH Try.prog [(43, 16, hLt Try.prog g.length g.length false (by simp))] } 2000 43 500000 63 (by kernel_rfl) X hP hN
end
section
variable {g : Graph} (hg : Valid g)
include hg
theorem dmOLoop (vo : Nat) (hgl : g.length < 1000000000) (hr : ∀ a, (succ g a).length < 1000000000) (rest : Heap) (X : Fix) (hP : X.P = Try.prog) (hN : X.N = 63) :
    AW X (.loop (loopOf Try.prog 43 4)) ⟨envOf (dmO g vo 0), ovl [(327, ⟨vo, some (.arr 1 (List.replicate g.length .nils))⟩), (500463, ⟨(rest 500463).ver, none⟩)] rest⟩ fun e' S' => e' = .exit 0 ∧
      S' = ⟨envOf [(4, .sl 327 vo 0 g.length 1)], ovl [(327, ⟨vo, some (.arr 1 ((List.range g.length).map fun a => roB (domsL g a)))⟩), (500463, ⟨(rest 500463).ver + 2 * g.length, none⟩)] rest⟩ := by
  rw [← fil_zero (fun a => roB (domsL g a)), ← fil_full (fun a => roB (domsL g a)) .nils]
  refine (lw_count g.length (fun a => ⟨envOf (dmO g vo a), ovl [(327, ⟨vo, some (.arr 1 (fil (fun a => roB (domsL g a)) .nils a g.length))⟩), (500463, ⟨(rest 500463).ver + 2 * a, none⟩)] rest⟩) (by simp) (fun a ha => ?_) (dmOStop g vo _ _ rest X hP hN)).aw
  rw [← fil_set ha]
  refine dmORound g vo ((rest 500463).ver + 2 * a) a _ (domsL g a) (by simp [domsL]) ha hgl (fil_get ha) (reachC hg (n := 0) (but := some a) hgl (by omega) hr) (fun vo rest2 X2 hP2 hN2 => ?_) rest X hP hN
  have h := dmILoop vo ((rest 500463).ver + 2 * a + 1) a ((fil (fun a => roB (domsL g a)) .nils a g.length).set (0 + a) (.sl 500463 ((rest 500463).ver + 2 * a + 1) 0 g.length 1)) ha hgl (by rw [List.getElem?_set_self (by rw [fil_len _ _ (by omega)]; omega)]) rest2 X2 hP2 hN2
  rw [fil_zero, fil_full] at h
  have e : (List.range g.length).map (fun b => dB (domB g a b)) = (domsL g a).map dB := by simp [domsL]
  rw [e] at h
  exact h
/-- Doms. -/
theorem domsC (hgl : g.length < 1000000000) (hr : ∀ a, (succ g a).length < 1000000000) : Pure Try.prog 43 [rowsN g] [.ro ((List.range g.length).map fun a => rowB (domsL g a))] := by
  have hc := reachC hg (but := none) (n := 0) hgl (by omega) hr
  have e : (List.range g.length).map (fun a => roB (domsL g a)) = ((List.range g.length).map fun a => rowB (domsL g a)).map .d := by simp
  exact pure_of_run okP named { weaks := fun f q => if f = 43 then (if q = 14 then some (⟨4, 327, g.length, (List.range g.length).map (fun a => roB (domsL g a)), (List.range g.length).map fun a => rowB (domsL g a), by simp, fun h => by rw [e]; exact viewD 2 h _ (by simp [D.one])⟩ : WHint) else none) else none, loops := fun f q => if f = 43 then (if q = 4 then some ⟨63, loopOf Try.prog 43 4, dmO g 1 0, fun rest => [(327, ⟨1, some (.arr 1 (List.replicate g.length .nils))⟩), (500463, ⟨(rest 500463).ver, none⟩)], .exit 0, [(4, .sl 327 1 0 g.length 1)], fun rest => [(327, ⟨1, some (.arr 1 ((List.range g.length).map fun a => roB (domsL g a)))⟩), (500463, ⟨(rest 500463).ver + 2 * g.length, none⟩)], fun rest X hP hN => dmOLoop hg 1 hgl hr rest X hP hN⟩ else none) else none, hint := tabH Try.prog [(43, 9, .call 44 _ _ hc), (43, 11, hLenG Try.prog g), (43, 12, .mk ((g.length : Nat) : Int) (by omega) (by omega)), (43, 14, hLenG Try.prog g)] } 2000 (by kernel_rfl)
end
end Go.Avm
/-
  Flow: the reference's walk, and its order.
-/
set_option linter.unusedSectionVars false
namespace Go.Avm
open Go.Proofs Go.Avm.Dom

def intsN (l : List Nat) : List D := l.map fun (b : Nat) => .int .i64 (b : Int)
theorem intsN_app (l m : List Nat) : intsN (l ++ m) = intsN l ++ intsN m := by simp [intsN]
theorem intsN_len (l : List Nat) : (intsN l).length = l.length := by simp [intsN]
/-- The first so many of a node's, one by one. -/
def kidsN (g : Graph) (f : Nat) (r : List Nat) (s : Acc) : Nat → Acc
  | 0 => s
  | k + 1 => if met (kidsN g f r s k).1 (r.getD k 0) = true then kidsN g f r s k else ((dfs g f (kidsN g f r s k).1 (r.getD k 0)).1, (kidsN g f r s k).2 ++ (dfs g f (kidsN g f r s k).1 (r.getD k 0)).2)
theorem kids_app (g : Graph) (f : Nat) : ∀ (a b : List Nat) (s : Acc), kids g f s (a ++ b) = kids g f (kids g f s a) b := fun a b s => by simp [kids, List.foldl_append]
theorem kidsN_take (g : Graph) (f : Nat) (r : List Nat) (s : Acc) : ∀ k, k ≤ r.length → kidsN g f r s k = kids g f s (r.take k)
  | 0, _ => by simp [kidsN, kids]
  | k + 1, hk => by
    have hlt : k < r.length := by omega
    rw [kidsN, kidsN_take g f r s k (by omega), List.take_succ_eq_append_getElem hlt, kids_app]
    have e : r.getD k 0 = r[k] := by rw [List.getD_eq_getElem?_getD, List.getElem?_eq_getElem hlt]; rfl
    rw [e]
    generalize kids g f s (r.take k) = q
    cases h : met q.1 r[k] with
    | true => rw [if_pos rfl, kids_met g f q _ _ h, kids_nil]
    | false => rw [if_neg (by simp), kids_new g f q _ _ h, kids_nil]
theorem kidsN_all (g : Graph) (f : Nat) (r : List Nat) (s : Acc) : kidsN g f r s r.length = kids g f s r := by rw [kidsN_take g f r s _ (Nat.le_refl _), List.take_length]
theorem kidsN_ok {g : Graph} (hg : Valid g) {f n : Nat} {s : Acc} (hs : s.1.length = g.length) (hf : left s.1 ≤ f) : ∀ k, k ≤ (succ g n).length → (kidsN g f (succ g n) s k).1.length = g.length ∧ left (kidsN g f (succ g n) s k).1 ≤ f ∧ ∃ q, (kidsN g f (succ g n) s k).2 = s.2 ++ q
  | 0, _ => ⟨hs, hf, [], by simp [kidsN]⟩
  | k + 1, hk => by
    obtain ⟨h1, h2, q, h3⟩ := kidsN_ok hg (n := n) hs hf k (by omega)
    rw [kidsN]
    split
    · exact ⟨h1, h2, q, h3⟩
    · rename_i hm
      obtain ⟨w, _⟩ := went hg f _ _ h1 (by simpa using hm) h2
      exact ⟨w.len.trans h1, Nat.le_trans w.less h2, q ++ _, by simp only; rw [h3, List.append_assoc]⟩

def wkE (vb : Nat) (bs : List Bool) (ver w : Nat) : List (Nat × Ent) := [(244, ⟨vb, some (.arr 1 (bs.map dB))⟩), (34, ⟨ver, none⟩), (800530, ⟨w, none⟩)]
def wkL (g : Graph) (n vb ver : Nat) (l r : List Nat) (k : Nat) : List (Nat × AV) :=
  [(0, .d (rowsN g)), (1, dN n), (2, .sl 244 vb 0 g.length 1), (3, .vec 34 ver 1 (intsN l)), (17, .d (rowN r)), (18, dN r.length), (19, dN k)]
section
variable (g : Graph) (n vb ver w : Nat) (bs bs' : List Bool) (l p r : List Nat) (k b : Nat)
theorem wkOld (hk : k < r.length) (hr : r.length < 1000000000) (hb : r[k]? = some b) (hbl : b < g.length) (h1 : bs[b]? = some true) (rest : Heap) (X : Fix) (hP : X.P = Try.prog) (hN : X.N = 38) :
    AW X (loopOf Try.prog 80 3) ⟨envOf (wkL g n vb ver l r k), ovl (wkE vb bs ver w) rest⟩ fun e' S' => e' = .normal ∧ Weak X S' ⟨envOf (wkL g n vb ver l r (k + 1)), ovl (wkE vb bs ver w) rest⟩ :=
  seg okP named { hint := tabH Try.prog [(80, 20, hLt Try.prog k r.length true (by simpa using hk)), (80, 21, hIxN Try.prog r k b hb), (80, 25, hInb Try.prog b g.length hbl), (80, 26, hElB Try.prog bs b true h1), (80, 33, hSucc Try.prog k (by omega))] } 2000 80 800000 38 (by kernel_rfl) X hP hN
theorem wkNew (hk : k < r.length) (hr : r.length < 1000000000) (hb : r[k]? = some b) (hbl : b < g.length) (h1 : bs[b]? = some false)
    (hc : ∀ rest : Heap, HCall Try.prog 80 [.d (rowsN g), dN b, .sl 244 vb 0 g.length 1, .vec 34 ver 1 (intsN l)] (ovl (wkE vb bs ver w) rest) [.vec 34 (ver + p.length) 1 (intsN (l ++ p))] (ovl (wkE vb bs' (ver + p.length) (w + p.length)) rest)) (rest : Heap) (X : Fix) (hP : X.P = Try.prog) (hN : X.N = 38) :
    AW X (loopOf Try.prog 80 3) ⟨envOf (wkL g n vb ver l r k), ovl (wkE vb bs ver w) rest⟩ fun e' S' => e' = .normal ∧ Weak X S' ⟨envOf (wkL g n vb (ver + p.length) (l ++ p) r (k + 1)), ovl (wkE vb bs' (ver + p.length) (w + p.length)) rest⟩ :=
  seg okP named { calls := fun f s _ => if f = 80 then (if s = 32 then some ⟨80, _, _, _, _, fits_of hc⟩ else none) else none, hint := tabH Try.prog [(80, 20, hLt Try.prog k r.length true (by simpa using hk)), (80, 21, hIxN Try.prog r k b hb), (80, 25, hInb Try.prog b g.length hbl), (80, 26, hElB Try.prog bs b false h1), (80, 33, hSucc Try.prog k (by omega))] } 2000 80 800000 38 (by kernel_rfl) X hP hN
theorem wkStop (rest : Heap) (X : Fix) (hP : X.P = Try.prog) (hN : X.N = 38) :
    AW X (loopOf Try.prog 80 3) ⟨envOf (wkL g n vb ver l r r.length), ovl (wkE vb bs ver w) rest⟩ fun e' S' => e' = .exit 0 ∧ Weak X S' ⟨envOf [(1, dN n), (3, .vec 34 ver 1 (intsN l))], ovl (wkE vb bs ver w) rest⟩ :=
  seg okP named { hint := tabH Try.prog [(80, 20, hLt Try.prog r.length r.length false (by simp))] } 2000 80 800000 38 (by kernel_rfl) X hP hN
theorem wkCall (hn : n < g.length) (hr : (succ g n).length < 1000000000) (hlen : (l ++ p).length < 1000000000) (bs2 : List Bool) (z : Bool) (hz : bs[n]? = some z)
    (hl : ∀ (rest : Heap) (X : Fix), X.P = Try.prog → X.N = 38 → AW X (.loop (loopOf Try.prog 80 3)) ⟨envOf (wkL g n vb ver l (succ g n) 0), ovl (wkE vb (bs.set n true) ver w) rest⟩ fun e' S' => e' = .exit 0 ∧ S' = ⟨envOf [(1, dN n), (3, .vec 34 (ver + p.length) 1 (intsN (l ++ p)))], ovl (wkE vb bs2 (ver + p.length) (w + p.length)) rest⟩) (rest : Heap) :
    HCall Try.prog 80 [.d (rowsN g), dN n, .sl 244 vb 0 g.length 1, .vec 34 ver 1 (intsN l)] (ovl (wkE vb bs ver w) rest) [.vec 34 (ver + p.length + 1) 1 (intsN (l ++ p) ++ [.int .i64 (n : Int)])] (ovl (wkE vb bs2 (ver + p.length + 1) (w + p.length + 1)) rest) := by
  have hl' : ∀ (rest : Heap) (X : Fix), X.P = Try.prog → X.N = 38 → AW X (.loop (loopOf Try.prog 80 3)) ⟨envOf (wkL g n vb ver l (succ g n) 0), ovl [(244, ⟨vb, some (.arr 1 ((bs.map dB).set (0 + n) (dB true)))⟩), (34, ⟨ver, none⟩), (800530, ⟨w, none⟩)] rest⟩ fun e' S' => e' = .exit 0 ∧ S' = ⟨envOf [(1, dN n), (3, .vec 34 (ver + p.length) 1 (intsN (l ++ p)))], ovl (wkE vb bs2 (ver + p.length) (w + p.length)) rest⟩ := fun rest X hP hN => by
    rw [mapB]
    exact hl rest X hP hN
  exact hcall_of_run okP named { loops := fun f q => if f = 80 then (if q = 3 then some ⟨38, loopOf Try.prog 80 3, wkL g n vb ver l (succ g n) 0, fun _ => [(244, ⟨vb, some (.arr 1 ((bs.map dB).set (0 + n) (dB true)))⟩), (34, ⟨ver, none⟩), (800530, ⟨w, none⟩)], .exit 0, [(1, dN n), (3, .vec 34 (ver + p.length) 1 (intsN (l ++ p)))], fun _ => wkE vb bs2 (ver + p.length) (w + p.length), hl'⟩ else none) else none, hint := tabH Try.prog [(80, 13, hInb Try.prog n g.length hn), (80, 101003, hElB Try.prog bs n z hz), (80, 16, hIxG Try.prog g n (succ g n) (succ_get hn)), (80, 18, hLenN Try.prog (succ g n)), (80, 37, .app (intsN (l ++ p)) 1 (by rw [intsN_len]; omega))] } 2000 800000 _ (by kernel_rfl)
end
theorem post_len {g : Graph} (hg : Valid g) {f n : Nat} {bs : List Bool} (hs : bs.length = g.length) (hn : met bs n = false) (hf : left bs ≤ f) : left (dfs g f bs n).1 + (dfs g f bs n).2.length ≤ left bs ∧ 0 < (dfs g f bs n).2.length := by
  obtain ⟨w, hin⟩ := went hg f bs n hs hn hf
  refine ⟨?_, List.length_pos_of_mem hin⟩
  -- each that is new was left before
  have h : ∀ (p : List Nat) (b b' : List Bool), b.length = b'.length → p.Nodup → (∀ x ∈ p, met b x = false) → (∀ x, met b' x = (met b x || decide (x ∈ p))) → left b' + p.length = left b := fun p => by
    induction p with
    | nil =>
      intro b b' hl _ _ hx
      have : b' = b := met_ext hl.symm fun v _ => by rw [hx]; simp
      rw [this]; rfl
    | cons a r ih =>
      intro b b' hl hnd hfr hx
      have hab := hfr a (by simp)
      have hal := met_lt hab
      have h1 := ih (b.set a true) b' (by simpa using hl) (List.nodup_cons.1 hnd).2 (fun x hxr => by
        rw [met_set hal, hfr x (by simp [hxr])]
        have : x ≠ a := fun e => (List.nodup_cons.1 hnd).1 (e ▸ hxr)
        simpa using this) (fun x => by
        rw [hx, met_set hal]
        cases met b x <;> by_cases hxa : x = a <;> simp [hxa])
      have h2 := left_set hab
      simp only [List.length_cons]
      omega
  exact Nat.le_of_eq (h _ bs _ w.len.symm w.nodup w.fresh w.new)
section
variable {g : Graph} (hg : Valid g) (hgl : g.length < 1000000000) (hr : ∀ a, (succ g a).length < 1000000000)
include hg hgl hr
theorem walkLoop (vb f : Nat)
    (hIH : ∀ (bs : List Bool) (n : Nat) (l : List Nat) (ver w : Nat), bs.length = g.length → met bs n = false → left bs ≤ f → l.length + left bs ≤ g.length → ∀ rest : Heap, HCall Try.prog 80 [.d (rowsN g), dN n, .sl 244 vb 0 g.length 1, .vec 34 ver 1 (intsN l)] (ovl (wkE vb bs ver w) rest) [.vec 34 (ver + (dfs g f bs n).2.length) 1 (intsN (l ++ (dfs g f bs n).2))] (ovl (wkE vb (dfs g f bs n).1 (ver + (dfs g f bs n).2.length) (w + (dfs g f bs n).2.length)) rest))
    (bs : List Bool) (n : Nat) (l : List Nat) (ver w : Nat) (hs : bs.length = g.length) (hn : met bs n = false) (hf : left bs ≤ f + 1) (hle : l.length + left bs ≤ g.length) :
    (kids g f (bs.set n true, []) (succ g n)).2.length + 1 ≤ left bs ∧ ∀ (rest : Heap) (X : Fix), X.P = Try.prog → X.N = 38 → AW X (.loop (loopOf Try.prog 80 3)) ⟨envOf (wkL g n vb ver l (succ g n) 0), ovl (wkE vb (bs.set n true) ver w) rest⟩ fun e' S' => e' = .exit 0 ∧ S' = ⟨envOf [(1, dN n), (3, .vec 34 (ver + (kids g f (bs.set n true, []) (succ g n)).2.length) 1 (intsN (l ++ (kids g f (bs.set n true, []) (succ g n)).2)))], ovl (wkE vb (kids g f (bs.set n true, []) (succ g n)).1 (ver + (kids g f (bs.set n true, []) (succ g n)).2.length) (w + (kids g f (bs.set n true, []) (succ g n)).2.length)) rest⟩ := by
  have hlt := met_lt hn
  have hls := left_set hn
  have hs1 : (bs.set n true).length = g.length := by simpa using hs
  have hf1 : left (bs.set n true) ≤ f := by omega
  have hok := fun k hk => kidsN_ok hg (f := f) (n := n) (s := ((bs.set n true), [])) hs1 hf1 k hk
  have hcount : ∀ k, k ≤ (succ g n).length → left (kidsN g f (succ g n) (bs.set n true, []) k).1 + (kidsN g f (succ g n) (bs.set n true, []) k).2.length ≤ left (bs.set n true) := fun k => by
    induction k with
    | zero => intro _; simp [kidsN]
    | succ k ih =>
      intro hk
      have h1 := ih (by omega)
      obtain ⟨h2, h3, _⟩ := hok k (by omega)
      rw [kidsN]
      generalize (succ g n).getD k 0 = b
      split
      · exact h1
      · rename_i hm
        have := (post_len hg h2 (by simpa using hm) h3).1
        simp only [List.length_append]
        omega
  have hc2 := hcount _ (Nat.le_refl _)
  rw [kidsN_all] at hc2
  refine ⟨by omega, fun rest X hP hN => ?_⟩
  rw [← kidsN_all]
  have h0 : wkL g n vb ver l (succ g n) 0 = wkL g n vb (ver + (kidsN g f (succ g n) (bs.set n true, []) 0).2.length) (l ++ (kidsN g f (succ g n) (bs.set n true, []) 0).2) (succ g n) 0 := by simp [kidsN]
  have h1 : wkE vb (bs.set n true) ver w = wkE vb (kidsN g f (succ g n) (bs.set n true, []) 0).1 (ver + (kidsN g f (succ g n) (bs.set n true, []) 0).2.length) (w + (kidsN g f (succ g n) (bs.set n true, []) 0).2.length) := by simp [kidsN]
  rw [h0, h1]
  refine (lw_count (succ g n).length (fun k => ⟨envOf (wkL g n vb (ver + (kidsN g f (succ g n) (bs.set n true, []) k).2.length) (l ++ (kidsN g f (succ g n) (bs.set n true, []) k).2) (succ g n) k), ovl (wkE vb (kidsN g f (succ g n) (bs.set n true, []) k).1 (ver + (kidsN g f (succ g n) (bs.set n true, []) k).2.length) (w + (kidsN g f (succ g n) (bs.set n true, []) k).2.length)) rest⟩) (by simp) (fun k hk => ?_) (wkStop g n vb _ _ _ _ _ rest X hP hN)).aw
  obtain ⟨h2, h3, _⟩ := hok k (by omega)
  have h4 := hcount k (by omega)
  rw [kidsN]
  generalize kidsN g f (succ g n) (bs.set n true, []) k = q at h2 h3 h4
  obtain ⟨qb, ql⟩ := q
  simp only at h2 h3 h4 ⊢
  have hb := getD_get hk
  generalize (succ g n).getD k 0 = b at hb
  have hbl : b < g.length := (succ_lt hg (List.mem_of_getElem? hb)).1
  have hmb := met_get (bs := qb) (k := b) (by omega)
  cases hm : met qb b with
  | true =>
    rw [if_pos rfl]
    exact wkOld g n vb _ _ qb _ (succ g n) k b hk (hr n) hb hbl (hmb.trans (by rw [hm])) rest X hP hN
  | false =>
    rw [if_neg (by simp)]
    simp only [List.length_append]
    have := wkNew g n vb (ver + ql.length) (w + ql.length) qb (dfs g f qb b).1 (l ++ ql) (dfs g f qb b).2 (succ g n) k b hk (hr n) hb hbl (hmb.trans (by rw [hm])) (fun rest => hIH qb b (l ++ ql) (ver + ql.length) (w + ql.length) h2 hm h3 (by simp only [List.length_append]; omega) rest) rest X hP hN
    rw [Nat.add_assoc, Nat.add_assoc, List.append_assoc] at this
    exact this
theorem walkC (vb : Nat) : ∀ (f : Nat) (bs : List Bool) (n : Nat) (l : List Nat) (ver w : Nat), bs.length = g.length → met bs n = false → left bs ≤ f → l.length + left bs ≤ g.length → ∀ rest : Heap,
    HCall Try.prog 80 [.d (rowsN g), dN n, .sl 244 vb 0 g.length 1, .vec 34 ver 1 (intsN l)] (ovl (wkE vb bs ver w) rest) [.vec 34 (ver + (dfs g f bs n).2.length) 1 (intsN (l ++ (dfs g f bs n).2))] (ovl (wkE vb (dfs g f bs n).1 (ver + (dfs g f bs n).2.length) (w + (dfs g f bs n).2.length)) rest)
  | 0, bs, n, l, ver, w, hs, hn, hf, hle, rest => by have := left_set hn; omega
  | f + 1, bs, n, l, ver, w, hs, hn, hf, hle, rest => by
    have hlt := met_lt hn
    obtain ⟨hc, hloop⟩ := walkLoop hg hgl hr vb f (walkC vb f) bs n l ver w hs hn hf hle
    have := wkCall g n vb ver w bs l (kids g f (bs.set n true, []) (succ g n)).2 (by omega) (hr n) (by simp only [List.length_append]; omega) _ false ((met_get hlt).trans (by rw [hn])) hloop rest
    rw [dfs_succ]
    simp only [List.length_append, List.length_cons, List.length_nil, Nat.zero_add]
    rw [← List.append_assoc, intsN_app (l ++ _) [n]]
    exact this
end
end Go.Avm
/-
  Flow: the reference's order.
-/
set_option linter.unusedSectionVars false
namespace Go.Avm
open Go.Proofs Go.Avm.Dom

section
variable (g : Graph) (n vb ver w : Nat) (bs bs' : List Bool) (p : List Nat)
theorem wkCallNil (hn : n < g.length) (hr : (succ g n).length < 1000000000) (hlen : p.length < 1000000000) (bs2 : List Bool) (z : Bool) (hz : bs[n]? = some z)
    (hl : ∀ (rest : Heap) (X : Fix), X.P = Try.prog → X.N = 38 → AW X (.loop (loopOf Try.prog 80 3)) ⟨envOf (wkL g n vb ver [] (succ g n) 0), ovl (wkE vb (bs.set n true) ver w) rest⟩ fun e' S' => e' = .exit 0 ∧ S' = ⟨envOf [(1, dN n), (3, .vec 34 (ver + p.length) 1 (intsN p))], ovl (wkE vb bs2 (ver + p.length) (w + p.length)) rest⟩) (rest : Heap) :
    HCall Try.prog 80 [.d (rowsN g), dN n, .sl 244 vb 0 g.length 1, .nils] (ovl (wkE vb bs ver w) rest) [.vec 34 (ver + p.length + 1) 1 (intsN p ++ [.int .i64 (n : Int)])] (ovl (wkE vb bs2 (ver + p.length + 1) (w + p.length + 1)) rest) := by
  have hl' : ∀ (rest : Heap) (X : Fix), X.P = Try.prog → X.N = 38 → AW X (.loop (loopOf Try.prog 80 3)) ⟨envOf (wkL g n vb ver [] (succ g n) 0), ovl [(244, ⟨vb, some (.arr 1 ((bs.map dB).set (0 + n) (dB true)))⟩), (34, ⟨ver, none⟩), (800530, ⟨w, none⟩)] rest⟩ fun e' S' => e' = .exit 0 ∧ S' = ⟨envOf [(1, dN n), (3, .vec 34 (ver + p.length) 1 (intsN p))], ovl (wkE vb bs2 (ver + p.length) (w + p.length)) rest⟩ := fun rest X hP hN => by
    rw [mapB]
    exact hl rest X hP hN
  exact hcall_of_run okP named { nils2 := fun f q => if f = 80 then (if q = 0 then [⟨0, 3, 34, 1, true, false⟩] else []) else [], loops := fun f q => if f = 80 then (if q = 3 then some ⟨38, loopOf Try.prog 80 3, wkL g n vb ver [] (succ g n) 0, fun _ => [(244, ⟨vb, some (.arr 1 ((bs.map dB).set (0 + n) (dB true)))⟩), (34, ⟨ver, none⟩), (800530, ⟨w, none⟩)], .exit 0, [(1, dN n), (3, .vec 34 (ver + p.length) 1 (intsN p))], fun _ => wkE vb bs2 (ver + p.length) (w + p.length), hl'⟩ else none) else none, hint := tabH Try.prog [(80, 13, hInb Try.prog n g.length hn), (80, 101003, hElB Try.prog bs n z hz), (80, 16, hIxG Try.prog g n (succ g n) (succ_get hn)), (80, 18, hLenN Try.prog (succ g n)), (80, 37, .app (intsN p) 1 (by rw [intsN_len]; omega))] } 2000 800000 _ (by kernel_rfl)
end
section
variable {g : Graph} (hg : Valid g) (hgl : g.length < 1000000000) (hr : ∀ a, (succ g a).length < 1000000000)
include hg hgl hr
theorem walkNil (vb f : Nat) (bs : List Bool) (n ver w : Nat) (hs : bs.length = g.length) (hn : met bs n = false) (hf : left bs ≤ f) (hle : left bs ≤ g.length) (rest : Heap) :
    HCall Try.prog 80 [.d (rowsN g), dN n, .sl 244 vb 0 g.length 1, .nils] (ovl (wkE vb bs ver w) rest) [.vec 34 (ver + (dfs g f bs n).2.length) 1 (intsN (dfs g f bs n).2)] (ovl (wkE vb (dfs g f bs n).1 (ver + (dfs g f bs n).2.length) (w + (dfs g f bs n).2.length)) rest) := by
  cases f with
  | zero => have := left_set hn; omega
  | succ f =>
    have hlt := met_lt hn
    obtain ⟨hc, hloop⟩ := walkLoop hg hgl hr vb f (walkC hg hgl hr vb f) bs n [] ver w hs hn hf (by simpa using hle)
    have := wkCallNil g n vb ver w bs (kids g f (bs.set n true, []) (succ g n)).2 (by omega) (hr n) (by omega) _ false ((met_get hlt).trans (by rw [hn])) hloop rest
    rw [dfs_succ]
    simp only [List.length_append, List.length_cons, List.length_nil, Nat.zero_add]
    rw [intsN_app]
    exact this
end
/-! ### Order -/
def orL (p : List Nat) (vl vo i : Nat) (o : List Nat) : List (Nat × AV) := [(3, .vec 35 vo 1 (intsN o)), (4, .vec 34 vl 1 (intsN p)), (5, dI ((i : Int) - 1))]
def orE (vl vo w : Nat) : List (Nat × Ent) := [(34, ⟨vl, none⟩), (35, ⟨vo, none⟩), (500229, ⟨w, none⟩)]
theorem intsN_get {p : List Nat} {k x : Nat} (h : p[k]? = some x) : (intsN p)[k]? = some (.int .i64 (x : Int)) := by simp [intsN, h]
theorem orRound (p : List Nat) (vl vo w k x : Nat) (o : List Nat) (hx : p[k]? = some x) (hk : k < 1000000000) (ho : o.length < 1000000000) (rest : Heap) (X : Fix) (hP : X.P = Try.prog) (hN : X.N = 29) :
    AW X (loopOf Try.prog 48 6) ⟨envOf (orL p vl vo (k + 1) o), ovl (orE vl vo w) rest⟩ fun e' S' => e' = .normal ∧ Weak X S' ⟨envOf (orL p vl (vo + 1) k (o ++ [x])), ovl (orE vl (vo + 1) (w + 1)) rest⟩ := by
  unfold orL
  rw [intsN_app]
  exact seg okP named { hint := tabH Try.prog [(48, 18, hB Try.prog (decide ((0 : Int) ≤ ((k + 1 : Nat) : Int) - 1)) true (dec_true (by omega))), (48, 24, .idx (intsN p) (((k + 1 : Nat) : Int) - 1) (.int .i64 (x : Int)) (by omega) (by rw [show ((((k + 1 : Nat) : Int) - 1).toNat) = k by omega]; exact intsN_get hx)), (48, 27, .app (intsN o) 1 (by rw [intsN_len]; omega)), (48, 20, hI Try.prog (IntKind.i64.wrap ((((k + 1 : Nat) : Int) - 1) - 1)) ((k : Int) - 1) (by rw [IntWalk.i64_in _ (by omega)]; omega))] } 2000 48 500000 29 (by kernel_rfl) X hP hN
theorem orStop (p : List Nat) (vl vo w : Nat) (o : List Nat) (rest : Heap) (X : Fix) (hP : X.P = Try.prog) (hN : X.N = 29) :
    AW X (loopOf Try.prog 48 6) ⟨envOf (orL p vl vo 0 o), ovl (orE vl vo w) rest⟩ fun e' S' => e' = .exit 0 ∧ Weak X S' ⟨envOf [(3, .vec 35 vo 1 (intsN o))], ovl (orE vl vo w) rest⟩ :=
  seg okP named { hint := tabH Try.prog [] } 2000 48 500000 29 (by kernel_rfl) X hP hN
theorem orLoop (p : List Nat) (vl : Nat) (hp : p.length < 1000000000) (rest : Heap) (X : Fix) (hP : X.P = Try.prog) (hN : X.N = 29) :
    ∀ (k vo w : Nat) (o : List Nat), k ≤ p.length → o.length + k = p.length → LW X (loopOf Try.prog 48 6) ⟨envOf (orL p vl vo k o), ovl (orE vl vo w) rest⟩ fun e' S' => e' = .exit 0 ∧ S' = ⟨envOf [(3, .vec 35 (vo + k) 1 (intsN (o ++ (p.take k).reverse)))], ovl (orE vl (vo + k) (w + k)) rest⟩
  | 0, vo, w, o, hk, ho => by
    simp only [List.take_zero, List.reverse_nil, List.append_nil, Nat.add_zero]
    exact lw_end (orStop p vl vo w o rest X hP hN) (by simp)
  | k + 1, vo, w, o, hk, ho => by
    have hlt : k < p.length := by omega
    have := orLoop p vl hp rest X hP hN k (vo + 1) (w + 1) (o ++ [p[k]]) (by omega) (by simp; omega)
    rw [List.take_succ_eq_append_getElem hlt, List.reverse_append, List.reverse_singleton, ← List.append_assoc, show vo + (k + 1) = vo + 1 + k by omega, show w + (k + 1) = w + 1 + k by omega]
    exact lw_seg (orRound p vl vo w k p[k] o (List.getElem?_eq_getElem hlt) (by omega) (by omega) rest X hP hN) this
theorem orderRefNil : Pure Try.prog 48 [rowsN []] [.ro []] := pure_of_run okP named { hint := tabH Try.prog [] } 2000 (by kernel_rfl)
section
variable {g : Graph} (hg : Valid g) (hgl : g.length < 1000000000) (hr : ∀ a, (succ g a).length < 1000000000)
include hg hgl hr
/-- Order, as the reference has it. -/
theorem orderRefC : Pure Try.prog 48 [rowsN g] [.ro (intsN (orderOf g))] := by
  rcases Nat.eq_zero_or_pos g.length with h0 | h0
  · have : g = [] := List.length_eq_zero_iff.1 h0
    subst this
    exact orderRefNil
  · have hm : met (List.replicate g.length false) 0 = false := by rw [met_none]; exact decide_eq_false (by omega)
    have hpl := post_len hg (f := g.length) (n := 0) (bs := List.replicate g.length false) (by simp) hm (by rw [left_none]; exact Nat.le_refl _)
    rw [left_none] at hpl
    have hc := fun rest => walkNil hg hgl hr 1 g.length (List.replicate g.length false) 0 0 0 (by simp) hm (by rw [left_none]; exact Nat.le_refl _) (by rw [left_none]; exact Nat.le_refl _) rest
    have e : orderOf g = (dfs g g.length (List.replicate g.length false) 0).2.reverse := by unfold orderOf; rw [if_neg (by omega)]
    rw [e]
    generalize dfs g g.length (List.replicate g.length false) 0 = q at hpl hc
    obtain ⟨qb, p⟩ := q
    simp only at hpl hc ⊢
    have hE : wkE 1 (List.replicate g.length false) 0 0 = [(244, ⟨1, some (.arr 1 (List.replicate g.length (dB false)))⟩), (34, ⟨0, none⟩), (800530, ⟨0, none⟩)] := by unfold wkE; rw [List.map_replicate]
    rw [hE] at hc
    have hl : ∀ (rest : Heap) (X : Fix), X.P = Try.prog → X.N = 29 → AW X (.loop (loopOf Try.prog 48 6)) ⟨envOf (orL p (0 + p.length) 0 p.length []), ovl (orE (0 + p.length) 0 0) rest⟩ fun e' S' => e' = .exit 0 ∧ S' = ⟨envOf [(3, .vec 35 p.length 1 (intsN p.reverse))], ovl (orE (0 + p.length) p.length p.length) rest⟩ := fun rest X hP hN => by
      have := (orLoop p (0 + p.length) (by omega) rest X hP hN p.length 0 0 [] (Nat.le_refl _) (by simp)).aw
      rw [List.take_length, List.nil_append] at this
      simp only [Nat.zero_add] at this ⊢
      exact this
    exact pure_of_run okP named { calls := fun f s _ => if f = 48 then (if s = 13 then some ⟨80, _, _, _, _, fits_of hc⟩ else none) else none, nils2 := fun f q => if f = 48 then (if q = 5 then [⟨0, 3, 35, 1, true, false⟩] else []) else [], loops := fun f q => if f = 48 then (if q = 6 then some ⟨29, loopOf Try.prog 48 6, orL p (0 + p.length) 0 p.length [], fun _ => orE (0 + p.length) 0 0, .exit 0, [(3, .vec 35 p.length 1 (intsN p.reverse))], fun _ => orE (0 + p.length) p.length p.length, hl⟩ else none) else none, hint := tabH Try.prog [(48, 7, hLenG Try.prog g), (48, 8, hEq Try.prog ((g.length : Nat) : Int) 0 false (beq_eq_false_iff_ne.2 (by omega))), (48, 11, hLenG Try.prog g), (48, 12, .mk ((g.length : Nat) : Int) (by omega) (by omega)), (48, 15, hNat Try.prog ((intsN p).length) p.length (by rw [intsN_len])), (48, 16, hI Try.prog (IntKind.i64.wrap (((p.length : Nat) : Int) - 1)) (((p.length : Nat) : Int) - 1) (by rw [IntWalk.i64_in _ (by omega)]))] } 2000 (by kernel_rfl)
end
end Go.Avm
/-
  Flow: the program's order.
-/
set_option linter.unusedSectionVars false
namespace Go.Avm
open Go.Proofs Go.Avm.Dom

def stA (p : Nat × Nat) : AV := .d (.agg [.int .i64 (p.1 : Int), .int .i64 (p.2 : Int)])
def ooL (g : Graph) (vb vo vw : Nat) (o : List Nat) (len : Nat) : List (Nat × AV) := [(0, .d (rowsN g)), (3, .sl 535 vb 0 g.length 1), (4, .sl 36 vo 0 o.length 1), (5, .sl 1148 vw 0 len 2)]
def intsA (l : List Nat) : List AV := l.map dN
theorem intsA_app (o : List Nat) (n : Nat) : (intsA o).take o.length ++ [dN n] = intsA (o ++ [n]) := by
  unfold intsA
  rw [List.take_of_length_le (by simp), List.map_append]
  rfl
theorem intsA_len (o : List Nat) : (intsA o).length = o.length := by simp [intsA]
def ooE (vb vo vw w1 w2 : Nat) (bs : List Bool) (o : List Nat) (es : List AV) : List (Nat × Ent) := [(535, ⟨vb, some (.arr 1 (bs.map dB))⟩), (36, ⟨vo, some (.arr 1 (intsA o))⟩), (1148, ⟨vw, some (.arr 2 es)⟩), (502393, ⟨w1, none⟩), (504954, ⟨w2, none⟩)]
section
variable (g : Graph) (vb vo vw w1 w2 : Nat) (bs : List Bool) (es : List AV) (o : List Nat) (q n d : Nat)
theorem ooPop (hq : q < 1000000000) (he : es[q]? = some (stA (n, d))) (hn : n < g.length) (hd : d = (succ g n).length) (hr : (succ g n).length < 1000000000) (ho : o.length < 1000000000) (rest : Heap) (X : Fix) (hP : X.P = Try.prog) (hN : X.N = 87) :
    AW X (loopOf Try.prog 78 7) ⟨envOf (ooL g vb vo vw o (q + 1)), ovl (ooE vb vo vw w1 w2 bs o es) rest⟩ fun e' S' => e' = .normal ∧ Weak X S' ⟨envOf (ooL g vb (vo + 1) vw (o ++ [n]) q), ovl (ooE vb (vo + 1) vw (w1 + 1) w2 bs (o ++ [n]) es) rest⟩ := by
  unfold ooL ooE
  rw [← intsA_app, List.length_append]
  exact seg okP named { hint := tabH Try.prog [(78, 20, hB Try.prog (decide ((0 : Int) < ((q + 1 : Nat) : Int))) true (dec_true (by omega))), (78, 24, hNat Try.prog (IntKind.i64.wrap (((q + 1 : Nat) : Int) - 1)) q (by rw [IntWalk.i64_in _ (by omega)]; omega)), (78, 25, hInb Try.prog q (q + 1) (by omega)), (78, 29, .elt es (0 + q) (stA (n, d)) (by rw [Nat.zero_add]; exact he)), (78, 34, .elt es (0 + q) (stA (n, d)) (by rw [Nat.zero_add]; exact he)), (78, 35, hIxG Try.prog g n (succ g n) (succ_get hn)), (78, 37, hLenN Try.prog (succ g n)), (78, 38, hEq Try.prog (d : Int) ((succ g n).length : Int) true (by simp [hd])), (78, 43, .elt es (0 + q) (stA (n, d)) (by rw [Nat.zero_add]; exact he)), (78, 45, .apps (intsA o) o.length 1 ⟨by rw [intsA_len]; exact Nat.le_refl _, by omega⟩), (78, 49, hNat Try.prog (IntKind.i64.wrap (((q + 1 : Nat) : Int) - 1)) q (by rw [IntWalk.i64_in _ (by omega)]; omega)), (78, 50, .cuts (q + 1) q (by omega))] } 2000 78 500000 87 (by kernel_rfl) X hP hN
theorem ooOld (hq : q < 1000000000) (he : es[q]? = some (stA (n, d))) (hn : n < g.length) (hd : d < (succ g n).length) (hr : (succ g n).length < 1000000000) (x : Nat) (hx : (succ g n)[d]? = some x) (hxl : x < g.length) (hb : bs[x]? = some true) (rest : Heap) (X : Fix) (hP : X.P = Try.prog) (hN : X.N = 87) :
    AW X (loopOf Try.prog 78 7) ⟨envOf (ooL g vb vo vw o (q + 1)), ovl (ooE vb vo vw w1 w2 bs o es) rest⟩ fun e' S' => e' = .normal ∧ Weak X S' ⟨envOf (ooL g vb vo vw o (q + 1)), ovl (ooE vb vo vw w1 w2 bs o (es.set (0 + q) (stA (n, d + 1)))) rest⟩ :=
  seg okP named { hint := tabH Try.prog [(78, 20, hB Try.prog (decide ((0 : Int) < ((q + 1 : Nat) : Int))) true (dec_true (by omega))), (78, 24, hNat Try.prog (IntKind.i64.wrap (((q + 1 : Nat) : Int) - 1)) q (by rw [IntWalk.i64_in _ (by omega)]; omega)), (78, 25, hInb Try.prog q (q + 1) (by omega)), (78, 29, .elt es (0 + q) (stA (n, d)) (by rw [Nat.zero_add]; exact he)), (78, 34, .elt es (0 + q) (stA (n, d)) (by rw [Nat.zero_add]; exact he)), (78, 35, hIxG Try.prog g n (succ g n) (succ_get hn)), (78, 37, hLenN Try.prog (succ g n)), (78, 38, hEq Try.prog (d : Int) ((succ g n).length : Int) false (int_ne (by omega))), (78, 55, .elt es (0 + q) (stA (n, d)) (by rw [Nat.zero_add]; exact he)), (78, 56, hIxG Try.prog g n (succ g n) (succ_get hn)), (78, 61, .elt es (0 + q) (stA (n, d)) (by rw [Nat.zero_add]; exact he)), (78, 62, hIxN Try.prog (succ g n) d x hx), (78, 67, .elt es (0 + q) (stA (n, d)) (by rw [Nat.zero_add]; exact he)), (78, 68, hSucc Try.prog d (by omega)), (78, 113007, .elt es (0 + q) (stA (n, d)) (by rw [Nat.zero_add]; exact he)), (78, 73, hInb Try.prog x g.length hxl), (78, 74, hElB Try.prog bs x true hb)] } 2000 78 500000 87 (by kernel_rfl) X hP hN
theorem ooNew (hq : q < 1000000000) (hqe : q + 1 ≤ es.length) (he : es[q]? = some (stA (n, d))) (hn : n < g.length) (hd : d < (succ g n).length) (hr : (succ g n).length < 1000000000) (x : Nat) (hx : (succ g n)[d]? = some x) (hxl : x < g.length) (hb : bs[x]? = some false) (rest : Heap) (X : Fix) (hP : X.P = Try.prog) (hN : X.N = 87) :
    AW X (loopOf Try.prog 78 7) ⟨envOf (ooL g vb vo vw o (q + 1)), ovl (ooE vb vo vw w1 w2 bs o es) rest⟩ fun e' S' => e' = .normal ∧ Weak X S' ⟨envOf (ooL g vb vo (vw + 1) o (q + 2)), ovl (ooE vb vo (vw + 1) w1 (w2 + 1) (bs.set x true) o ((es.set (0 + q) (stA (n, d + 1))).take (q + 1) ++ [stA (x, 0)])) rest⟩ := by
  unfold ooE
  rw [← mapB]
  exact seg okP named { hint := tabH Try.prog [(78, 20, hB Try.prog (decide ((0 : Int) < ((q + 1 : Nat) : Int))) true (dec_true (by omega))), (78, 24, hNat Try.prog (IntKind.i64.wrap (((q + 1 : Nat) : Int) - 1)) q (by rw [IntWalk.i64_in _ (by omega)]; omega)), (78, 25, hInb Try.prog q (q + 1) (by omega)), (78, 29, .elt es (0 + q) (stA (n, d)) (by rw [Nat.zero_add]; exact he)), (78, 34, .elt es (0 + q) (stA (n, d)) (by rw [Nat.zero_add]; exact he)), (78, 35, hIxG Try.prog g n (succ g n) (succ_get hn)), (78, 37, hLenN Try.prog (succ g n)), (78, 38, hEq Try.prog (d : Int) ((succ g n).length : Int) false (int_ne (by omega))), (78, 55, .elt es (0 + q) (stA (n, d)) (by rw [Nat.zero_add]; exact he)), (78, 56, hIxG Try.prog g n (succ g n) (succ_get hn)), (78, 61, .elt es (0 + q) (stA (n, d)) (by rw [Nat.zero_add]; exact he)), (78, 62, hIxN Try.prog (succ g n) d x hx), (78, 67, .elt es (0 + q) (stA (n, d)) (by rw [Nat.zero_add]; exact he)), (78, 68, hSucc Try.prog d (by omega)), (78, 113007, .elt es (0 + q) (stA (n, d)) (by rw [Nat.zero_add]; exact he)), (78, 73, hInb Try.prog x g.length hxl), (78, 74, hElB Try.prog bs x false hb), (78, 78, hInb Try.prog x g.length hxl), (78, 115003, hElB Try.prog bs x false hb), (78, 83, .apps (es.set (0 + q) (stA (n, d + 1))) (q + 1) 1 (by simp; omega))] } 2000 78 500000 87 (by kernel_rfl) X hP hN
theorem ooStop (rest : Heap) (X : Fix) (hP : X.P = Try.prog) (hN : X.N = 87) :
    AW X (loopOf Try.prog 78 7) ⟨envOf (ooL g vb vo vw o 0), ovl (ooE vb vo vw w1 w2 bs o es) rest⟩ fun e' S' => e' = .exit 0 ∧ Weak X S' ⟨envOf [(4, .sl 36 vo 0 o.length 1)], ovl [(535, ⟨vb, none⟩), (36, ⟨vo, some (.arr 1 (intsA o))⟩), (1148, ⟨vw, none⟩), (502393, ⟨w1, none⟩), (504954, ⟨w2, none⟩)] rest⟩ :=
  seg okP named { hint := tabH Try.prog [] } 2000 78 500000 87 (by kernel_rfl) X hP hN
end
theorem kidsN_succ (g : Graph) (f : Nat) (r : List Nat) (s : Acc) (k : Nat) : kidsN g f r s (k + 1) = if met (kidsN g f r s k).1 (r.getD k 0) = true then kidsN g f r s k else ((dfs g f (kidsN g f r s k).1 (r.getD k 0)).1, (kidsN g f r s k).2 ++ (dfs g f (kidsN g f r s k).1 (r.getD k 0)).2) := rfl
theorem es_get (stk : List (Nat × Nat)) (p : Nat × Nat) (tail : List AV) : ((stk ++ [p]).map stA ++ tail)[stk.length]? = some (stA p) := by
  rw [List.map_append, List.append_assoc, List.getElem?_append_right (by simp)]
  simp
theorem es_set (stk : List (Nat × Nat)) (p p' : Nat × Nat) (tail : List AV) : ((stk ++ [p]).map stA ++ tail).set (0 + stk.length) (stA p') = (stk ++ [p']).map stA ++ tail := by
  rw [Nat.zero_add, List.map_append, List.append_assoc, List.set_append_right _ _ (by simp)]
  simp
theorem es_push (stk : List (Nat × Nat)) (p : Nat × Nat) (tail : List AV) (x : AV) : ((stk ++ [p]).map stA ++ tail).take (stk.length + 1) ++ [x] = (stk ++ [p]).map stA ++ [x] := by
  rw [List.take_append_of_le_length (by simp), List.take_of_length_le (by simp)]
def oCfg (g : Graph) (vb : Nat) (rest : Heap) (vo vw w1 w2 : Nat) (bs : List Bool) (o : List Nat) (stk : List (Nat × Nat)) (tail : List AV) : St := ⟨envOf (ooL g vb vo vw o stk.length), ovl (ooE vb vo vw w1 w2 bs o (stk.map stA ++ tail)) rest⟩
/-- From one state to another one, whatever comes behind. -/
def LeadO (vb : Nat) (g : Graph) (a b : Heap → St) : Prop := ∀ (rest : Heap) (X : Fix), X.P = Try.prog → X.N = 87 → ∀ Q, LW X (loopOf Try.prog 78 7) (b rest) Q → LW X (loopOf Try.prog 78 7) (a rest) Q
theorem LeadO.refl {vb : Nat} {g : Graph} (a : Heap → St) : LeadO vb g a a := fun _ _ _ _ _ h => h
theorem LeadO.trans {vb : Nat} {g : Graph} {a b c : Heap → St} (h : LeadO vb g a b) (k : LeadO vb g b c) : LeadO vb g a c := fun rest X hP hN Q hq => h rest X hP hN Q (k rest X hP hN Q hq)
section
variable {g : Graph} (hg : Valid g) (hgl : g.length < 100000000) (hr : ∀ a, (succ g a).length < 1000000000) (vb : Nat)
include hg hgl hr
theorem ooSim : ∀ (f : Nat) (bs : List Bool) (n : Nat) (stk : List (Nat × Nat)) (tail : List AV) (o : List Nat) (vo vw w1 w2 : Nat), bs.length = g.length → met bs n = false → left bs ≤ f → stk.length + left bs ≤ g.length → o.length + left bs ≤ g.length →
    ∃ tail', LeadO vb g (fun rest => oCfg g vb rest vo vw w1 w2 (bs.set n true) o (stk ++ [(n, 0)]) tail)
      (fun rest => oCfg g vb rest (vo + (dfs g f bs n).2.length) (vw + ((dfs g f bs n).2.length - 1)) (w1 + (dfs g f bs n).2.length) (w2 + ((dfs g f bs n).2.length - 1)) (dfs g f bs n).1 (o ++ (dfs g f bs n).2) stk tail')
  | 0, bs, n, stk, tail, o, vo, vw, w1, w2, hs, hn, hf, hst, ho => by have := left_set hn; omega
  | f + 1, bs, n, stk, tail, o, vo, vw, w1, w2, hs, hn, hf, hst, ho => by
    have hlt := met_lt hn
    have hls := left_set hn
    have hs1 : (bs.set n true).length = g.length := by simpa using hs
    have hf1 : left (bs.set n true) ≤ f := by omega
    have hok := fun k hk => kidsN_ok hg (f := f) (n := n) (s := ((bs.set n true), [])) hs1 hf1 k hk
    have hcount : ∀ k, k ≤ (succ g n).length → left (kidsN g f (succ g n) (bs.set n true, []) k).1 + (kidsN g f (succ g n) (bs.set n true, []) k).2.length ≤ left (bs.set n true) := fun k => by
      induction k with
      | zero => intro _; simp [kidsN]
      | succ k ih =>
        intro hk
        have h1 := ih (by omega)
        obtain ⟨h2, h3, _⟩ := hok k (by omega)
        rw [kidsN]
        generalize (succ g n).getD k 0 = b
        split
        · exact h1
        · rename_i hm
          have := (post_len hg h2 (by simpa using hm) h3).1
          simp only [List.length_append]
          omega
    have hmain : ∀ (m k : Nat) (tail : List AV), (succ g n).length - k = m → k ≤ (succ g n).length → ∃ tail', LeadO vb g
        (fun rest => oCfg g vb rest (vo + (kidsN g f (succ g n) (bs.set n true, []) k).2.length) (vw + (kidsN g f (succ g n) (bs.set n true, []) k).2.length) (w1 + (kidsN g f (succ g n) (bs.set n true, []) k).2.length) (w2 + (kidsN g f (succ g n) (bs.set n true, []) k).2.length) (kidsN g f (succ g n) (bs.set n true, []) k).1 (o ++ (kidsN g f (succ g n) (bs.set n true, []) k).2) (stk ++ [(n, k)]) tail)
        (fun rest => oCfg g vb rest (vo + (kidsN g f (succ g n) (bs.set n true, []) (succ g n).length).2.length + 1) (vw + (kidsN g f (succ g n) (bs.set n true, []) (succ g n).length).2.length) (w1 + (kidsN g f (succ g n) (bs.set n true, []) (succ g n).length).2.length + 1) (w2 + (kidsN g f (succ g n) (bs.set n true, []) (succ g n).length).2.length) (kidsN g f (succ g n) (bs.set n true, []) (succ g n).length).1 (o ++ (kidsN g f (succ g n) (bs.set n true, []) (succ g n).length).2 ++ [n]) stk tail') := fun m => by
      induction m with
      | zero =>
        intro k tail hm hk
        have hkl : k = (succ g n).length := by omega
        subst hkl
        have hc := hcount _ (Nat.le_refl _)
        generalize kidsN g f (succ g n) (bs.set n true, []) (succ g n).length = s at hc
        refine ⟨stA (n, (succ g n).length) :: tail, fun rest X hP hN Q hq => ?_⟩
        have h1 := ooPop g vb (vo + s.2.length) (vw + s.2.length) (w1 + s.2.length) (w2 + s.2.length) s.1 ((stk ++ [(n, (succ g n).length)]).map stA ++ tail) (o ++ s.2) stk.length n (succ g n).length (by omega) (es_get stk _ tail) (by omega) rfl (hr n) (by simp; omega) rest X hP hN
        have h2 : oCfg g vb rest (vo + s.2.length) (vw + s.2.length) (w1 + s.2.length) (w2 + s.2.length) s.1 (o ++ s.2) (stk ++ [(n, (succ g n).length)]) tail = ⟨envOf (ooL g vb (vo + s.2.length) (vw + s.2.length) (o ++ s.2) (stk.length + 1)), ovl (ooE vb (vo + s.2.length) (vw + s.2.length) (w1 + s.2.length) (w2 + s.2.length) s.1 (o ++ s.2) ((stk ++ [(n, (succ g n).length)]).map stA ++ tail)) rest⟩ := by
          unfold oCfg
          rw [List.length_append]
          rfl
        try dsimp only at hq
        try dsimp only
        rw [h2]
        refine lw_seg h1 ?_
        have h3 : (stk ++ [(n, (succ g n).length)]).map stA ++ tail = stk.map stA ++ (stA (n, (succ g n).length) :: tail) := by simp
        rw [h3]
        exact hq
      | succ m ih =>
        intro k tail hm hk
        have hklt : k < (succ g n).length := by omega
        obtain ⟨h2, h3, _⟩ := hok k (by omega)
        have h4 := hcount k (by omega)
        have ih' := ih (k + 1)
        rw [kidsN_succ] at ih'
        generalize kidsN g f (succ g n) (bs.set n true, []) k = s at h2 h3 h4 ih'
        have hb := getD_get hklt
        generalize (succ g n).getD k 0 = b at hb ih'
        have hbl : b < g.length := (succ_lt hg (List.mem_of_getElem? hb)).1
        have hmb := met_get (bs := s.1) (k := b) (by omega)
        have hcf : ∀ (rest : Heap) (vo vw w1 w2 : Nat) (bs : List Bool) (o : List Nat) (tail : List AV) (p : Nat × Nat), oCfg g vb rest vo vw w1 w2 bs o (stk ++ [p]) tail = ⟨envOf (ooL g vb vo vw o (stk.length + 1)), ovl (ooE vb vo vw w1 w2 bs o ((stk ++ [p]).map stA ++ tail)) rest⟩ := fun rest vo vw w1 w2 bs o tail p => by
          unfold oCfg
          rw [List.length_append]
          rfl
        cases hmm : met s.1 b with
        | true =>
          rw [if_pos hmm] at ih'
          obtain ⟨tail', hl⟩ := ih' tail (by omega) (by omega)
          refine ⟨tail', LeadO.trans (fun rest X hP hN Q hq => ?_) hl⟩
          try dsimp only at hq
          try dsimp only
          rw [hcf]
          have h1 := ooOld g vb (vo + s.2.length) (vw + s.2.length) (w1 + s.2.length) (w2 + s.2.length) s.1 ((stk ++ [(n, k)]).map stA ++ tail) (o ++ s.2) stk.length n k (by omega) (es_get stk _ tail) (by omega) hklt (hr n) b hb hbl (hmb.trans (by rw [hmm])) rest X hP hN
          rw [es_set] at h1
          refine lw_seg h1 ?_
          rw [hcf] at hq
          exact hq
        | false =>
          rw [if_neg (by rw [hmm]; simp)] at ih'
          have hpl := post_len hg h2 hmm h3
          obtain ⟨t1, hl1⟩ := ooSim f s.1 b (stk ++ [(n, k + 1)]) [] (o ++ s.2) (vo + s.2.length) (vw + s.2.length + 1) (w1 + s.2.length) (w2 + s.2.length + 1) h2 hmm h3 (by simp only [List.length_append, List.length_cons, List.length_nil]; omega) (by simp only [List.length_append]; omega)
          obtain ⟨tail', hl⟩ := ih' t1 (by omega) (by omega)
          refine ⟨tail', LeadO.trans (fun rest X hP hN Q hq => ?_) (LeadO.trans hl1 (LeadO.trans (fun rest X hP hN Q hq => ?_) hl))⟩
          · try dsimp only at hq
            try dsimp only
            rw [hcf]
            have h1 := ooNew g vb (vo + s.2.length) (vw + s.2.length) (w1 + s.2.length) (w2 + s.2.length) s.1 ((stk ++ [(n, k)]).map stA ++ tail) (o ++ s.2) stk.length n k (by omega) (by simp) (es_get stk _ tail) (by omega) hklt (hr n) b hb hbl (hmb.trans (by rw [hmm])) rest X hP hN
            rw [es_set, es_push] at h1
            refine lw_seg h1 ?_
            unfold oCfg at hq
            simp only [List.length_append, List.length_cons, List.length_nil, Nat.zero_add, List.map_append, List.map_cons, List.map_nil, List.append_nil] at hq ⊢
            exact hq
          · try dsimp only at hq
            try dsimp only
            rw [List.length_append] at hq
            generalize (dfs g f s.1 b).2 = p at hq hpl
            rw [show vo + s.2.length + p.length = vo + (s.2.length + p.length) by omega, show vw + s.2.length + 1 + (p.length - 1) = vw + (s.2.length + p.length) by omega, show w1 + s.2.length + p.length = w1 + (s.2.length + p.length) by omega, show w2 + s.2.length + 1 + (p.length - 1) = w2 + (s.2.length + p.length) by omega, List.append_assoc o s.2 p]
            exact hq
    obtain ⟨tail', hl⟩ := hmain _ 0 tail rfl (Nat.zero_le _)
    rw [kidsN_all] at hl
    refine ⟨tail', ?_⟩
    rw [dfs_succ]
    simp only [kidsN, List.length_nil, Nat.add_zero, List.append_nil] at hl
    simp only [List.length_append, List.length_cons, List.length_nil, Nat.zero_add, Nat.add_sub_cancel, ← Nat.add_assoc, ← List.append_assoc]
    exact hl
end
/-! ### slices.Reverse -/
def rvN (l : List Nat) : Nat → List Nat
  | 0 => l
  | i + 1 => ((rvN l i).set i ((rvN l i).getD (l.length - 1 - i) 0)).set (l.length - 1 - i) ((rvN l i).getD i 0)
theorem rvN_len (l : List Nat) : ∀ i, (rvN l i).length = l.length
  | 0 => rfl
  | i + 1 => by simp [rvN, rvN_len l i]
theorem rvN_get (l : List Nat) : ∀ i, 2 * i ≤ l.length → ∀ k, k < l.length → (rvN l i)[k]? = if k < i ∨ l.length - i ≤ k then l[l.length - 1 - k]? else l[k]?
  | 0, _, k, hk => by simp [rvN]; omega
  | i + 1, hi, k, hk => by
    have ih := rvN_get l i (by omega)
    have h1 := ih i (by omega)
    have h2 := ih (l.length - 1 - i) (by omega)
    rw [if_neg (by omega)] at h1 h2
    rw [rvN, List.getElem?_set, List.getElem?_set]
    simp only [List.length_set, rvN_len]
    by_cases hkj : l.length - 1 - i = k
    · rw [if_pos hkj, if_pos (by omega), if_pos (by omega)]
      have h3 : l.length - 1 - k = i := by omega
      rw [h3, List.getD_eq_getElem?_getD, h1, List.getElem?_eq_getElem (by omega)]
      rfl
    · rw [if_neg hkj]
      by_cases hki : i = k
      · rw [if_pos hki, if_pos (by omega), if_pos (by omega), ← hki, List.getD_eq_getElem?_getD, h2, List.getElem?_eq_getElem (by omega)]
        rfl
      · rw [if_neg hki, ih k hk]
        by_cases hc : k < i ∨ l.length - i ≤ k
        · rw [if_pos hc, if_pos (by omega)]
        · rw [if_neg hc, if_neg (by omega)]
theorem rvN_all (l : List Nat) : rvN l (l.length / 2) = l.reverse := by
  apply List.ext_getElem? 
  intro k
  rcases Nat.lt_or_ge k l.length with hk | hk
  · rw [rvN_get l _ (by omega) k hk, List.getElem?_reverse hk]
    split
    · rfl
    · have : l.length - 1 - k = k := by omega
      rw [this]
  · rw [List.getElem?_eq_none (by rw [rvN_len]; omega), List.getElem?_eq_none (by simp; omega)]
def rvL (n v i : Nat) : List (Nat × AV) := [(0, .sl 36 v 0 n 1), (2, dN i), (3, dI ((n : Int) - 1 - i))]
def rvE (v : Nat) (l : List Nat) : List (Nat × Ent) := [(36, ⟨v, some (.arr 1 (intsA l))⟩)]
theorem intsA_get {l : List Nat} {k x : Nat} (h : l[k]? = some x) : (intsA l)[0 + k]? = some (dN x) := by simp [intsA, h]
theorem intsA_set (l : List Nat) (k x : Nat) : (intsA l).set (0 + k) (dN x) = intsA (l.set k x) := by simp [intsA]
section
variable (l : List Nat) (v i j x y : Nat)
theorem rvRound (hj : j + i + 1 = l.length) (hij : i < j) (hl : l.length < 1000000000) (hx : l[i]? = some x) (hy : l[j]? = some y) (rest : Heap) (X : Fix) (hP : X.P = Try.prog) (hN : X.N = 28) :
    AW X (loopOf Try.prog 104 1) ⟨envOf (rvL l.length v i), ovl (rvE v l) rest⟩ fun e' S' => e' = .normal ∧ Weak X S' ⟨envOf (rvL l.length v (i + 1)), ovl (rvE v ((l.set i y).set j x)) rest⟩ := by
  have h0 : (l.set i y)[j]? = some y := by rw [List.getElem?_set_ne (by omega)]; exact hy
  unfold rvE
  rw [← intsA_set, ← intsA_set]
  have e : ((l.length : Nat) : Int) - 1 - (i : Int) = (j : Int) := by omega
  unfold rvL
  rw [e]
  exact seg okP named { hint := tabH Try.prog [(104, 9, hB Try.prog (decide ((i : Int) < (j : Int))) true (dec_true (by omega))), (104, 20, hInb Try.prog j l.length (by omega)), (104, 21, .elt (intsA l) (0 + j) (dN y) (intsA_get hy)), (104, 24, hInb Try.prog i l.length (by omega)), (104, 25, .elt (intsA l) (0 + i) (dN x) (intsA_get hx)), (104, 26, hInb Try.prog i l.length (by omega)), (104, 103013, .elt (intsA l) (0 + i) (dN x) (intsA_get hx)), (104, 27, hInb Try.prog j l.length (by omega)), (104, 103015, .elt ((intsA l).set (0 + i) (dN y)) (0 + j) (dN y) (by rw [intsA_set]; exact intsA_get h0)), (104, 11, hSucc Try.prog i (by omega)), (104, 13, hI Try.prog (IntKind.i64.wrap ((j : Int) - 1)) ((l.length : Int) - 1 - ((i + 1 : Nat) : Int)) (by rw [IntWalk.i64_in _ (by omega)]; omega))] } 2000 104 500000 28 (by kernel_rfl) X hP hN
theorem rvStop (hij : (l.length : Int) - 1 - i ≤ i) (rest : Heap) (X : Fix) (hP : X.P = Try.prog) (hN : X.N = 28) :
    AW X (loopOf Try.prog 104 1) ⟨envOf (rvL l.length v i), ovl (rvE v l) rest⟩ fun e' S' => e' = .exit 0 ∧ Weak X S' ⟨envOf [], ovl (rvE v l) rest⟩ :=
  seg okP named { hint := tabH Try.prog [(104, 9, hB Try.prog (decide ((i : Int) < (l.length : Int) - 1 - (i : Int))) false (dec_false (by omega)))] } 2000 104 500000 28 (by kernel_rfl) X hP hN
end
theorem rvLoop (l : List Nat) (v : Nat) (hl : l.length < 1000000000) (rest : Heap) (X : Fix) (hP : X.P = Try.prog) (hN : X.N = 28) :
    AW X (.loop (loopOf Try.prog 104 1)) ⟨envOf (rvL l.length v 0), ovl (rvE v l) rest⟩ fun e' S' => e' = .exit 0 ∧ S' = ⟨envOf [], ovl (rvE v l.reverse) rest⟩ := by
  rw [← rvN_all]
  refine (lw_count (l.length / 2) (fun i => ⟨envOf (rvL l.length v i), ovl (rvE v (rvN l i)) rest⟩) (by simp) (fun i hi => ?_) ?_).aw
  · have hx : (rvN l i)[i]? = some ((rvN l i).getD i 0) := getD_get (by rw [rvN_len]; omega)
    have hy : (rvN l i)[l.length - 1 - i]? = some ((rvN l i).getD (l.length - 1 - i) 0) := getD_get (by rw [rvN_len]; omega)
    have := rvRound (rvN l i) v i (l.length - 1 - i) _ _ (by rw [rvN_len]; omega) (by omega) (by rw [rvN_len]; omega) hx hy rest X hP hN
    rw [rvN_len] at this
    exact this
  · have := rvStop (rvN l (l.length / 2)) v (l.length / 2) (by rw [rvN_len]; omega) rest X hP hN
    rw [rvN_len] at this
    exact this
theorem reverseC (l : List Nat) (v : Nat) (hl : l.length < 1000000000) (rest : Heap) : HCall Try.prog 104 [.sl 36 v 0 l.length 1] (ovl (rvE v l) rest) [] (ovl (rvE v l.reverse) rest) :=
  hcall_of_run okP named { loops := fun f q => if f = 104 then (if q = 1 then some ⟨28, loopOf Try.prog 104 1, rvL l.length v 0, fun _ => rvE v l, .exit 0, [], fun _ => rvE v l.reverse, fun rest X hP hN => rvLoop l v hl rest X hP hN⟩ else none) else none, hint := tabH Try.prog [(104, 6, hI Try.prog (IntKind.i64.wrap ((l.length : Int) - 1)) ((l.length : Int) - 1 - ((0 : Nat) : Int)) (by rw [IntWalk.i64_in _ (by omega)]; omega))] } 2000 500000 _ (by kernel_rfl)
theorem viewN (n : Nat) (h : Heap) : ∀ r : List Nat, viewL (view (n + 1) h) (intsA r) = some (intsN r, [])
  | [] => rfl
  | x :: r => by
    show viewL (view (n + 1) h) (dN x :: intsA r) = some (.int .i64 (x : Int) :: intsN r, [])
    rw [viewL, viewN n h r]
    rfl
def wN (t k n : Nat) (l : List Nat) (h : l.length = n) : WHint := ⟨t, k, n, intsA l, intsN l, by rw [intsA_len]; exact h, fun hh => viewN 2 hh l⟩
theorem orderNil : Pure Try.prog 78 [rowsN []] [.ro []] := pure_of_run okP named { hint := tabH Try.prog [] } 2000 (by kernel_rfl)
section
variable {g : Graph} (hg : Valid g) (hgl : g.length < 100000000) (hr : ∀ a, (succ g a).length < 1000000000)
include hg hgl hr
/-- order. -/
theorem orderC : Pure Try.prog 78 [rowsN g] [.ro (intsN (orderOf g))] := by
  rcases Nat.eq_zero_or_pos g.length with h0 | h0
  · have : g = [] := List.length_eq_zero_iff.1 h0
    subst this
    exact orderNil
  · have hm : met (List.replicate g.length false) 0 = false := by rw [met_none]; exact decide_eq_false (by omega)
    have hpl := post_len hg (f := g.length) (n := 0) (bs := List.replicate g.length false) (by simp) hm (by rw [left_none]; exact Nat.le_refl _)
    rw [left_none] at hpl
    obtain ⟨tail', hsim⟩ := ooSim hg hgl hr 1 g.length (List.replicate g.length false) 0 [] [] [] 1 1 0 0 (by simp) hm (by rw [left_none]; exact Nat.le_refl _) (by rw [left_none]; simp) (by rw [left_none]; simp)
    have e : orderOf g = (dfs g g.length (List.replicate g.length false) 0).2.reverse := by unfold orderOf; rw [if_neg (by omega)]
    rw [e]
    generalize dfs g g.length (List.replicate g.length false) 0 = q at hpl hsim
    obtain ⟨qb, p⟩ := q
    simp only [List.nil_append] at hpl hsim ⊢
    have hl : ∀ (rest : Heap) (X : Fix), X.P = Try.prog → X.N = 87 → AW X (.loop (loopOf Try.prog 78 7)) ⟨envOf (ooL g 1 1 1 [] 1), ovl [(535, ⟨1, some (.arr 1 ((List.replicate g.length (dB false)).set (0 + 0) (dB true)))⟩), (36, ⟨1, some (.arr 1 [])⟩), (1148, ⟨1, some (.arr 2 [stA (0, 0)])⟩), (502393, ⟨0, none⟩), (504954, ⟨0, none⟩)] rest⟩ fun e' S' => e' = .exit 0 ∧ S' = ⟨envOf [(4, .sl 36 (1 + p.length) 0 p.length 1)], ovl [(535, ⟨1, none⟩), (36, ⟨1 + p.length, some (.arr 1 (intsA p))⟩), (1148, ⟨1 + (p.length - 1), none⟩), (502393, ⟨0 + p.length, none⟩), (504954, ⟨0 + (p.length - 1), none⟩)] rest⟩ := fun rest X hP hN => by
      have h1 := hsim rest X hP hN _ (lw_end (ooStop g 1 (1 + p.length) (1 + (p.length - 1)) (0 + p.length) (0 + (p.length - 1)) qb (List.map stA [] ++ tail') p rest X hP hN) (by simp))
      have h2 : oCfg g 1 rest 1 1 0 0 ((List.replicate g.length false).set 0 true) [] [(0, 0)] [] = ⟨envOf (ooL g 1 1 1 [] 1), ovl [(535, ⟨1, some (.arr 1 ((List.replicate g.length (dB false)).set (0 + 0) (dB true)))⟩), (36, ⟨1, some (.arr 1 [])⟩), (1148, ⟨1, some (.arr 2 [stA (0, 0)])⟩), (502393, ⟨0, none⟩), (504954, ⟨0, none⟩)] rest⟩ := by
        unfold oCfg ooE
        rw [← mapB, List.map_replicate]
        rfl
      simp only at h1
      rw [h2] at h1
      exact h1.aw
    have hlp : p.length < 1000000000 := by omega
    exact pure_of_run okP named { obm := fun f s => Nat.beq f 78 && Nat.beq s 17, calls := fun f s _ => if f = 78 then (if s = 85 then some ⟨104, _, _, _, _, fits_of (reverseC p (1 + p.length) hlp)⟩ else none) else none, weaks := fun f q => if f = 78 then (if q = 18 then some (wN 4 36 p.length p.reverse (by simp)) else none) else none, nils2 := fun f q => if f = 78 then (if q = 6 then [⟨0, 4, 36, 1, true, true⟩] else []) else [], loops := fun f q => if f = 78 then (if q = 7 then some ⟨87, loopOf Try.prog 78 7, ooL g 1 1 1 [] 1, fun _ => [(535, ⟨1, some (.arr 1 ((List.replicate g.length (dB false)).set (0 + 0) (dB true)))⟩), (36, ⟨1, some (.arr 1 [])⟩), (1148, ⟨1, some (.arr 2 [stA (0, 0)])⟩), (502393, ⟨0, none⟩), (504954, ⟨0, none⟩)], .exit 0, [(4, .sl 36 (1 + p.length) 0 p.length 1)], fun _ => [(535, ⟨1, none⟩), (36, ⟨1 + p.length, some (.arr 1 (intsA p))⟩), (1148, ⟨1 + (p.length - 1), none⟩), (502393, ⟨0 + p.length, none⟩), (504954, ⟨0 + (p.length - 1), none⟩)], hl⟩ else none) else none, hint := tabH Try.prog [(78, 9, hLenG Try.prog g), (78, 10, hEq Try.prog ((g.length : Nat) : Int) 0 false (beq_eq_false_iff_ne.2 (by omega))), (78, 12, hLenG Try.prog g), (78, 13, .mk ((g.length : Nat) : Int) (by omega) (by omega)), (78, 15, hInb Try.prog 0 g.length h0), (78, 104002, .elt (List.replicate g.length (dB false)) (0 + 0) (dB false) (by simp [h0]))] } 2000 (by kernel_rfl)
end
end Go.Avm
