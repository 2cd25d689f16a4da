/-
  Flow: the borders, as the reference has them.
-/
import Derived.Test.YtpcomfnianamgaaFlAa
import Derived.Test.YtpcomfnianamgaaFlTwo
set_option linter.unusedSectionVars false
namespace Go.Avm
open Go.Proofs Go.Avm.Dom

noncomputable def rb4 (g : Graph) (vo : Nat) (o : List D) (a : Nat) : List (Nat × AV) := [(0, .d (rowsN g)), (3, .d (.ro (trD g))), (4, .vec 63 vo 1 o), (16, dN g.length), (17, dN a)]
noncomputable def rb8 (g : Graph) (vo : Nat) (o : List D) (a vl : Nat) (l : List Nat) (b : Nat) : List (Nat × AV) := rb4 g vo o a ++ [(5, dN a), (6, .vec 64 vl 1 (intsN l)), (21, dN g.length), (22, dN b)]
noncomputable def rb12 (g : Graph) (vo : Nat) (o : List D) (a vl : Nat) (l : List Nat) (b : Nat) (m : Bool) (p : Nat) : List (Nat × AV) := rb8 g vo o a vl l b ++ [(7, dN b), (8, dB m), (25, .d (rowsN g)), (26, dN g.length), (27, dN p)]
noncomputable def rb15 (g : Graph) (vo : Nat) (o : List D) (a vl : Nat) (l : List Nat) (b : Nat) (m : Bool) (p : Nat) (row : List Nat) (k : Nat) : List (Nat × AV) := rb12 g vo o a vl l b m p ++ [(9, dN p), (32, .d (rowN row)), (33, dN row.length), (34, dN k)]
section
variable (g : Graph) (vo : Nat) (o : List D) (a vl : Nat) (l : List Nat) (b : Nat) (m : Bool) (p : Nat) (row : List Nat) (k x : Nat)
theorem rbT (hk : k < row.length) (hrl : row.length < 100000) (hx : row[k]? = some x) (rest : Heap) (X : Fix) (hP : X.P = Try.prog) (hN : X.N = 82) :
    AW X (loopOf Try.prog 52 15) ⟨envOf (rb15 g vo o a vl l b true p row k), ovl [] rest⟩ fun e' S' => e' = .normal ∧ Weak X S' ⟨envOf (rb15 g vo o a vl l b true p row (k + 1)), ovl [] rest⟩ :=
  seg okP named { hint := tabH Try.prog [(52, 35, hLt Try.prog k row.length true (by simpa using hk)), (52, 36, hIxN Try.prog row k x hx), (52, 53, hSucc Try.prog k (by omega))] } 2000 52 500000 82 (by kernel_rfl) X hP hN
theorem rbF (hk : k < row.length) (hrl : row.length < 100000) (hx : row[k]? = some x) (hne : x ≠ b) (rest : Heap) (X : Fix) (hP : X.P = Try.prog) (hN : X.N = 82) :
    AW X (loopOf Try.prog 52 15) ⟨envOf (rb15 g vo o a vl l b false p row k), ovl [] rest⟩ fun e' S' => e' = .normal ∧ Weak X S' ⟨envOf (rb15 g vo o a vl l b false p row (k + 1)), ovl [] rest⟩ :=
  seg okP named { hint := tabH Try.prog [(52, 35, hLt Try.prog k row.length true (by simpa using hk)), (52, 36, hIxN Try.prog row k x hx), (52, 42, hEq Try.prog (x : Int) (b : Int) false (int_ne hne)), (52, 53, hSucc Try.prog k (by omega))] } 2000 52 500000 82 (by kernel_rfl) X hP hN
theorem rbM_true (hk : k < row.length) (hrl : row.length < 100000) (hx : row[k]? = some x) (he : x = b) (h3 : (trD g)[a]? = some (rowB (domsL g a))) (h4 : (domsL g a)[p]? = some true) (rest : Heap) (X : Fix) (hP : X.P = Try.prog) (hN : X.N = 82) :
    AW X (loopOf Try.prog 52 15) ⟨envOf (rb15 g vo o a vl l b false p row k), ovl [] rest⟩ fun e' S' => e' = .normal ∧ Weak X S' ⟨envOf (rb15 g vo o a vl l b true p row (k + 1)), ovl [] rest⟩ :=
  seg okP named { hint := tabH Try.prog [(52, 35, hLt Try.prog k row.length true (by simpa using hk)), (52, 36, hIxN Try.prog row k x hx), (52, 42, hEq Try.prog (x : Int) (b : Int) true (int_eq he)), (52, 46, .idx (trD g) ((a : Nat) : Int) (rowB (domsL g a)) (by omega) h3), (52, 49, hIxB Try.prog (domsL g a) p true h4), (52, 53, hSucc Try.prog k (by omega))] } 2000 52 500000 82 (by kernel_rfl) X hP hN
theorem rbM_false (hk : k < row.length) (hrl : row.length < 100000) (hx : row[k]? = some x) (he : x = b) (h3 : (trD g)[a]? = some (rowB (domsL g a))) (h4 : (domsL g a)[p]? = some false) (rest : Heap) (X : Fix) (hP : X.P = Try.prog) (hN : X.N = 82) :
    AW X (loopOf Try.prog 52 15) ⟨envOf (rb15 g vo o a vl l b false p row k), ovl [] rest⟩ fun e' S' => e' = .normal ∧ Weak X S' ⟨envOf (rb15 g vo o a vl l b false p row (k + 1)), ovl [] rest⟩ :=
  seg okP named { hint := tabH Try.prog [(52, 35, hLt Try.prog k row.length true (by simpa using hk)), (52, 36, hIxN Try.prog row k x hx), (52, 42, hEq Try.prog (x : Int) (b : Int) true (int_eq he)), (52, 46, .idx (trD g) ((a : Nat) : Int) (rowB (domsL g a)) (by omega) h3), (52, 49, hIxB Try.prog (domsL g a) p false h4), (52, 53, hSucc Try.prog k (by omega))] } 2000 52 500000 82 (by kernel_rfl) X hP hN
theorem rb15Stop (rest : Heap) (X : Fix) (hP : X.P = Try.prog) (hN : X.N = 82) :
    AW X (loopOf Try.prog 52 15) ⟨envOf (rb15 g vo o a vl l b m p row row.length), ovl [] rest⟩ fun e' S' => e' = .exit 6 ∧ Weak X S' ⟨envOf (rb12 g vo o a vl l b m p), ovl [] rest⟩ :=
  seg okP named { hint := tabH Try.prog [(52, 35, hLt Try.prog row.length row.length false (by simp))] } 2000 52 500000 82 (by kernel_rfl) X hP hN
theorem rb12Round (m' : Bool) (hp : p < g.length) (hgl : g.length < 100000) (hr : g[p]? = some row)
    (hl : ∀ (rest : Heap) (X : Fix), X.P = Try.prog → X.N = 82 → AW X (.loop (loopOf Try.prog 52 15)) ⟨envOf (rb15 g vo o a vl l b m p row 0), ovl [] rest⟩ fun e' S' => e' = .exit 6 ∧ S' = ⟨envOf (rb12 g vo o a vl l b m' p), ovl [] rest⟩)
    (rest : Heap) (X : Fix) (hP : X.P = Try.prog) (hN : X.N = 82) :
    AW X (loopOf Try.prog 52 12) ⟨envOf (rb12 g vo o a vl l b m p), ovl [] rest⟩ fun e' S' => e' = .normal ∧ Weak X S' ⟨envOf (rb12 g vo o a vl l b m' (p + 1)), ovl [] rest⟩ :=
  seg okP named { loops := fun f q => if f = 52 then (if q = 15 then some ⟨82, loopOf Try.prog 52 15, rb15 g vo o a vl l b m p row 0, fun _ => [], .exit 6, rb12 g vo o a vl l b m' p, fun _ => [], hl⟩ else none) else none, hint := tabH Try.prog [(52, 28, hLt Try.prog p g.length true (by simpa using hp)), (52, 30, hIxG Try.prog g p row hr), (52, 33, hLenN Try.prog row), (52, 54, hSucc Try.prog p (by omega))] } 2000 52 500000 82 (by kernel_rfl) X hP hN
theorem rb12Stop (rest : Heap) (X : Fix) (hP : X.P = Try.prog) (hN : X.N = 82) :
    AW X (loopOf Try.prog 52 12) ⟨envOf (rb12 g vo o a vl l b m g.length), ovl [] rest⟩ fun e' S' => e' = .exit 4 ∧ Weak X S' ⟨envOf (rb8 g vo o a vl l b ++ [(7, dN b), (8, dB m)]), ovl [] rest⟩ :=
  seg okP named { hint := tabH Try.prog [(52, 28, hLt Try.prog g.length g.length false (by simp))] } 2000 52 500000 82 (by kernel_rfl) X hP hN
def rbE (vo vl w w2 : Nat) : List (Nat × Ent) := [(63, ⟨vo, none⟩), (64, ⟨vl, none⟩), (502123, ⟨w, none⟩), (500816, ⟨w2, none⟩)]
variable (w w2 : Nat)
section
variable (hb : b < g.length) (hgl : g.length < 100000) (hll : l.length < 100000)
    (hl : ∀ (rest : Heap) (X : Fix), X.P = Try.prog → X.N = 82 → AW X (.loop (loopOf Try.prog 52 12)) ⟨envOf (rb12 g vo o a vl l b false 0), ovl [] rest⟩ fun e' S' => e' = .exit 4 ∧ S' = ⟨envOf (rb8 g vo o a vl l b ++ [(7, dN b), (8, dB m)]), ovl [] rest⟩)
include hb hgl hll hl
theorem rb8No (hm : m = false) (rest : Heap) (X : Fix) (hP : X.P = Try.prog) (hN : X.N = 82) :
    AW X (loopOf Try.prog 52 8) ⟨envOf (rb8 g vo o a vl l b), ovl (rbE vo vl w w2) rest⟩ fun e' S' => e' = .normal ∧ Weak X S' ⟨envOf (rb8 g vo o a vl l (b + 1)), ovl (rbE vo vl w w2) rest⟩ := by
  subst hm
  exact seg okP named { loops := fun f q => if f = 52 then (if q = 12 then some ⟨82, loopOf Try.prog 52 12, rb12 g vo o a vl l b false 0, fun _ => [], .exit 4, rb8 g vo o a vl l b ++ [(7, dN b), (8, dB false)], fun _ => [], hl⟩ else none) else none, hint := tabH Try.prog [(52, 23, hLt Try.prog b g.length true (by simpa using hb)), (52, 26, hLenG Try.prog g), (52, 75, hSucc Try.prog b (by omega))] } 2000 52 500000 82 (by kernel_rfl) X hP hN
theorem rb8Self (hm : m = true) (he : a = b) (rest : Heap) (X : Fix) (hP : X.P = Try.prog) (hN : X.N = 82) :
    AW X (loopOf Try.prog 52 8) ⟨envOf (rb8 g vo o a vl l b), ovl (rbE vo vl w w2) rest⟩ fun e' S' => e' = .normal ∧ Weak X S' ⟨envOf (rb8 g vo o a (vl + 1) (l ++ [b]) (b + 1)), ovl (rbE vo (vl + 1) (w + 1) w2) rest⟩ := by
  subst hm
  unfold rb8
  rw [intsN_app]
  exact seg okP named { loops := fun f q => if f = 52 then (if q = 12 then some ⟨82, loopOf Try.prog 52 12, rb12 g vo o a vl l b false 0, fun _ => [], .exit 4, rb8 g vo o a vl l b ++ [(7, dN b), (8, dB true)], fun _ => [], hl⟩ else none) else none, hint := tabH Try.prog [(52, 23, hLt Try.prog b g.length true (by simpa using hb)), (52, 26, hLenG Try.prog g), (52, 59, hEq Try.prog (a : Int) (b : Int) true (int_eq he)), (52, 74, .app (intsN l) 1 (by rw [intsN_len]; omega)), (52, 75, hSucc Try.prog b (by omega))] } 2000 52 500656 82 (by kernel_rfl) X hP hN
theorem rb8Far (hm : m = true) (hne : a ≠ b) (h3 : (trD g)[a]? = some (rowB (domsL g a))) (h4 : (domsL g a)[b]? = some false) (rest : Heap) (X : Fix) (hP : X.P = Try.prog) (hN : X.N = 82) :
    AW X (loopOf Try.prog 52 8) ⟨envOf (rb8 g vo o a vl l b), ovl (rbE vo vl w w2) rest⟩ fun e' S' => e' = .normal ∧ Weak X S' ⟨envOf (rb8 g vo o a (vl + 1) (l ++ [b]) (b + 1)), ovl (rbE vo (vl + 1) (w + 1) w2) rest⟩ := by
  subst hm
  unfold rb8
  rw [intsN_app]
  exact seg okP named { loops := fun f q => if f = 52 then (if q = 12 then some ⟨82, loopOf Try.prog 52 12, rb12 g vo o a vl l b false 0, fun _ => [], .exit 4, rb8 g vo o a vl l b ++ [(7, dN b), (8, dB true)], fun _ => [], hl⟩ else none) else none, hint := tabH Try.prog [(52, 23, hLt Try.prog b g.length true (by simpa using hb)), (52, 26, hLenG Try.prog g), (52, 59, hEq Try.prog (a : Int) (b : Int) false (int_ne hne)), (52, 63, .idx (trD g) ((a : Nat) : Int) (rowB (domsL g a)) (by omega) h3), (52, 66, hIxB Try.prog (domsL g a) b false h4), (52, 74, .app (intsN l) 1 (by rw [intsN_len]; omega)), (52, 75, hSucc Try.prog b (by omega))] } 2000 52 500000 82 (by kernel_rfl) X hP hN
theorem rb8Dom (hm : m = true) (hne : a ≠ b) (h3 : (trD g)[a]? = some (rowB (domsL g a))) (h4 : (domsL g a)[b]? = some true) (rest : Heap) (X : Fix) (hP : X.P = Try.prog) (hN : X.N = 82) :
    AW X (loopOf Try.prog 52 8) ⟨envOf (rb8 g vo o a vl l b), ovl (rbE vo vl w w2) rest⟩ fun e' S' => e' = .normal ∧ Weak X S' ⟨envOf (rb8 g vo o a vl l (b + 1)), ovl (rbE vo vl w w2) rest⟩ := by
  subst hm
  exact seg okP named { loops := fun f q => if f = 52 then (if q = 12 then some ⟨82, loopOf Try.prog 52 12, rb12 g vo o a vl l b false 0, fun _ => [], .exit 4, rb8 g vo o a vl l b ++ [(7, dN b), (8, dB true)], fun _ => [], hl⟩ else none) else none, hint := tabH Try.prog [(52, 23, hLt Try.prog b g.length true (by simpa using hb)), (52, 26, hLenG Try.prog g), (52, 59, hEq Try.prog (a : Int) (b : Int) false (int_ne hne)), (52, 63, .idx (trD g) ((a : Nat) : Int) (rowB (domsL g a)) (by omega) h3), (52, 66, hIxB Try.prog (domsL g a) b true h4), (52, 75, hSucc Try.prog b (by omega))] } 2000 52 500000 82 (by kernel_rfl) X hP hN
end
theorem rb8Stop (rest : Heap) (X : Fix) (hP : X.P = Try.prog) (hN : X.N = 82) :
    AW X (loopOf Try.prog 52 8) ⟨envOf (rb8 g vo o a vl l g.length), ovl (rbE vo vl w w2) rest⟩ fun e' S' => e' = .exit 2 ∧ Weak X S' ⟨envOf (rb4 g vo o a ++ [(6, .vec 64 vl 1 (intsN l))]), ovl (rbE vo vl w w2) rest⟩ :=
  seg okP named { hint := tabH Try.prog [(52, 23, hLt Try.prog g.length g.length false (by simp))] } 2000 52 500000 82 (by kernel_rfl) X hP hN
theorem rb4Round (vl' w' : Nat) (ha : a < g.length) (hgl : g.length < 100000) (hol : o.length < 100000)
    (hl : ∀ (rest : Heap) (X : Fix), X.P = Try.prog → X.N = 82 → AW X (.loop (loopOf Try.prog 52 8)) ⟨envOf (rb8 g vo o a vl [] 0), ovl (rbE vo vl w w2) rest⟩ fun e' S' => e' = .exit 2 ∧ S' = ⟨envOf (rb4 g vo o a ++ [(6, .vec 64 vl' 1 (intsN l))]), ovl (rbE vo vl' w' w2) rest⟩)
    (rest : Heap) (X : Fix) (hP : X.P = Try.prog) (hN : X.N = 82) :
    AW X (loopOf Try.prog 52 4) ⟨envOf (rb4 g vo o a), ovl (rbE vo vl w w2) rest⟩ fun e' S' => e' = .normal ∧ Weak X S' ⟨envOf (rb4 g (vo + 1) (o ++ [.ro (intsN l)]) (a + 1)), ovl (rbE (vo + 1) vl' w' (w2 + 1)) rest⟩ :=
  seg okP named { nils2 := fun f q => if f = 52 then (if q = 7 then [⟨0, 6, 64, 1, true, false⟩] else []) else [], loops := fun f q => if f = 52 then (if q = 8 then some ⟨82, loopOf Try.prog 52 8, rb8 g vo o a vl [] 0, fun _ => rbE vo vl w w2, .exit 2, rb4 g vo o a ++ [(6, .vec 64 vl' 1 (intsN l))], fun _ => rbE vo vl' w' w2, hl⟩ else none) else none, hint := tabH Try.prog [(52, 18, hLt Try.prog a g.length true (by simpa using ha)), (52, 21, hLenG Try.prog g), (52, 79, .app o 1 (by omega)), (52, 80, hSucc Try.prog a (by omega))] } 2000 52 500000 82 (by kernel_rfl) X hP hN
theorem rb4Stop (rest : Heap) (X : Fix) (hP : X.P = Try.prog) (hN : X.N = 82) :
    AW X (loopOf Try.prog 52 4) ⟨envOf (rb4 g vo o g.length), ovl (rbE vo vl w w2) rest⟩ fun e' S' => e' = .exit 0 ∧ Weak X S' ⟨envOf [(4, .vec 63 vo 1 o)], ovl (rbE vo vl w w2) rest⟩ :=
  seg okP named { hint := tabH Try.prog [(52, 18, hLt Try.prog g.length g.length false (by simp))] } 2000 52 500000 82 (by kernel_rfl) X hP hN
theorem refBordersRun (vo' vl' w' w2' : Nat) (h43 : Pure Try.prog 43 [rowsN g] [.ro (trD g)])
    (hl : ∀ (rest : Heap) (X : Fix), X.P = Try.prog → X.N = 82 → AW X (.loop (loopOf Try.prog 52 4)) ⟨envOf (rb4 g 0 [] 0), ovl (rbE 0 0 0 0) rest⟩ fun e' S' => e' = .exit 0 ∧ S' = ⟨envOf [(4, .vec 63 vo' 1 o)], ovl (rbE vo' vl' w' w2') rest⟩) : Pure Try.prog 52 [rowsN g] [.ro o] :=
  pure_of_run okP named { nils2 := fun f q => if f = 52 then (if q = 3 then [⟨0, 4, 63, 1, true, false⟩] else []) else [], loops := fun f q => if f = 52 then (if q = 4 then some ⟨82, loopOf Try.prog 52 4, rb4 g 0 [] 0, fun _ => rbE 0 0 0 0, .exit 0, [(4, .vec 63 vo' 1 o)], fun _ => rbE vo' vl' w' w2', hl⟩ else none) else none, hint := tabH Try.prog [(52, 14, .call 43 _ _ h43), (52, 16, hLenG Try.prog g)] } 2000 (by kernel_rfl)
end
/-! ### What it comes to -/
def GoB (g : Graph) (a b p k : Nat) : Prop := (∃ p', p' < p ∧ b ∈ succ g p' ∧ Doms g a p') ∨ (b ∈ (succ g p).take k ∧ Doms g a p)
def Border (g : Graph) (a b : Nat) : Prop := (∃ p, b ∈ succ g p ∧ Doms g a p) ∧ (a = b ∨ ¬ Doms g a b)
open Classical in
noncomputable def goB (g : Graph) (a b p k : Nat) : Bool := decide (GoB g a b p k)
open Classical in
noncomputable def bordTo (g : Graph) (a b : Nat) : List Nat := (List.range b).filter fun b => decide (Border g a b)
noncomputable def bordersOf (g : Graph) : List (List Nat) := (List.range g.length).map fun a => bordTo g a g.length
section
variable {g : Graph} (hg : Valid g) (hgl : g.length < 100000) (hr : ∀ a, (succ g a).length < 100000)
include hg hgl hr
open Classical in
theorem goLoop15 (vo : Nat) (o : List D) (a vl : Nat) (l : List Nat) (b p : Nat) (ha : a < g.length) (hp : p < g.length) (rest : Heap) (X : Fix) (hP : X.P = Try.prog) (hN : X.N = 82) :
    AW X (.loop (loopOf Try.prog 52 15)) ⟨envOf (rb15 g vo o a vl l b (goB g a b p 0) p (succ g p) 0), ovl [] rest⟩ fun e' S' => e' = .exit 6 ∧ S' = ⟨envOf (rb12 g vo o a vl l b (goB g a b p (succ g p).length) p), ovl [] rest⟩ :=
  (lw_count (succ g p).length (fun k => ⟨envOf (rb15 g vo o a vl l b (goB g a b p k) p (succ g p) k), ovl [] rest⟩) (by simp) (fun k hk => by
    have hget : (succ g p)[k]? = some (succ g p)[k] := List.getElem?_eq_getElem hk
    have htk : (succ g p).take (k + 1) = (succ g p).take k ++ [(succ g p)[k]] := List.take_succ_eq_append_getElem hk
    generalize (succ g p)[k] = x at hget htk
    have hsr := hr p
    by_cases h0 : GoB g a b p k
    · have e1 : goB g a b p k = true := decide_eq_true h0
      have e2 : goB g a b p (k + 1) = true := decide_eq_true (by
        rcases h0 with h | ⟨h1, h2⟩
        · exact .inl h
        · exact .inr ⟨by rw [htk]; simp [h1], h2⟩)
      rw [e1, e2]
      exact rbT g vo o a vl l b p _ k x hk hsr hget rest X hP hN
    · have e1 : goB g a b p k = false := decide_eq_false h0
      rw [e1]
      by_cases hxb : x = b
      · have h3 : (trD g)[a]? = some (rowB (domsL g a)) := by simp [trD, ha]
        have h4 : (domsL g a)[p]? = some (domB g a p) := by simp [domsL, hp]
        by_cases hd : Doms g a p
        · have e2 : goB g a b p (k + 1) = true := decide_eq_true (.inr ⟨by rw [htk]; simp [hxb], hd⟩)
          rw [e2]
          rw [domB_true hd] at h4
          exact rbM_true g vo o a vl l b p _ k x hk hsr hget hxb h3 h4 rest X hP hN
        · have e2 : goB g a b p (k + 1) = false := decide_eq_false (by
            rintro (h | ⟨_, h⟩)
            · exact h0 (.inl h)
            · exact hd h)
          rw [e2]
          rw [domB_false hd] at h4
          exact rbM_false g vo o a vl l b p _ k x hk hsr hget hxb h3 h4 rest X hP hN
      · have e2 : goB g a b p (k + 1) = false := decide_eq_false (by
          rintro (h | ⟨h1, h2⟩)
          · exact h0 (.inl h)
          · rw [htk] at h1
            rcases List.mem_append.1 h1 with h3 | h3
            · exact h0 (.inr ⟨h3, h2⟩)
            · exact hxb (List.mem_singleton.1 h3).symm)
        rw [e2]
        exact rbF g vo o a vl l b p _ k x hk hsr hget hxb rest X hP hN)
    (rb15Stop g vo o a vl l b _ p _ rest X hP hN)).aw
open Classical in
theorem goLoop12 (vo : Nat) (o : List D) (a vl : Nat) (l : List Nat) (b : Nat) (ha : a < g.length) (rest : Heap) (X : Fix) (hP : X.P = Try.prog) (hN : X.N = 82) :
    AW X (.loop (loopOf Try.prog 52 12)) ⟨envOf (rb12 g vo o a vl l b false 0), ovl [] rest⟩ fun e' S' => e' = .exit 4 ∧ S' = ⟨envOf (rb8 g vo o a vl l b ++ [(7, dN b), (8, dB (goB g a b g.length 0))]), ovl [] rest⟩ := by
  have e0 : goB g a b 0 0 = false := decide_eq_false (by
    rintro (⟨p', h, _⟩ | ⟨h, _⟩)
    · omega
    · simp at h)
  have hl := (lw_count (X := X) (c := loopOf Try.prog 52 12) g.length (fun p => ⟨envOf (rb12 g vo o a vl l b (goB g a b p 0) p), ovl [] rest⟩) (e := .exit 4) (Z := ⟨envOf (rb8 g vo o a vl l b ++ [(7, dN b), (8, dB (goB g a b g.length 0))]), ovl [] rest⟩) (by simp) (fun p hp => by
    have e1 : goB g a b (p + 1) 0 = goB g a b p (succ g p).length := by
      unfold goB
      rw [decide_eq_decide]
      unfold GoB
      rw [List.take_length]
      constructor
      · rintro (⟨p', h1, h2, h3⟩ | ⟨h, _⟩)
        · by_cases e : p' = p
          · subst e; exact .inr ⟨h2, h3⟩
          · exact .inl ⟨p', by omega, h2, h3⟩
        · simp at h
      · rintro (⟨p', h1, h2, h3⟩ | ⟨h2, h3⟩)
        · exact .inl ⟨p', by omega, h2, h3⟩
        · exact .inl ⟨p, by omega, h2, h3⟩
    rw [e1]
    exact rb12Round g vo o a vl l b _ p _ _ hp hgl (succ_get hp) (fun rest X hP hN => goLoop15 hg hgl hr vo o a vl l b p ha hp rest X hP hN) rest X hP hN) (rb12Stop g vo o a vl l b _ rest X hP hN)).aw
  rw [e0] at hl
  exact hl
open Classical in
theorem goB_all {a b : Nat} : goB g a b g.length 0 = true ↔ ∃ p, b ∈ succ g p ∧ Doms g a p := by
  unfold goB
  rw [decide_eq_true_iff]
  unfold GoB
  constructor
  · rintro (⟨p', _, h2, h3⟩ | ⟨h, _⟩)
    · exact ⟨p', h2, h3⟩
    · simp at h
  · rintro ⟨p, h2, h3⟩
    exact .inl ⟨p, (succ_lt hg h2).2, h2, h3⟩
theorem bordTo_len (g : Graph) (a b : Nat) : (bordTo g a b).length ≤ b := by
  unfold bordTo
  refine Nat.le_trans (List.length_filter_le _ _) ?_
  simp
open Classical in
theorem goLoop8 (vo : Nat) (o : List D) (a w2 : Nat) (ha : a < g.length) : ∀ (m b vl w : Nat), g.length - b = m → b ≤ g.length → ∃ vl' w', ∀ (rest : Heap) (X : Fix), X.P = Try.prog → X.N = 82 →
    LW X (loopOf Try.prog 52 8) ⟨envOf (rb8 g vo o a vl (bordTo g a b) b), ovl (rbE vo vl w w2) rest⟩ fun e' S' => e' = .exit 2 ∧ S' = ⟨envOf (rb4 g vo o a ++ [(6, .vec 64 vl' 1 (intsN (bordTo g a g.length)))]), ovl (rbE vo vl' w' w2) rest⟩
  | 0, b, vl, w, hm, hb => by
    have : b = g.length := by omega
    subst this
    exact ⟨vl, w, fun rest X hP hN => lw_end (rb8Stop g vo o a vl _ w w2 rest X hP hN) (by simp)⟩
  | m + 1, b, vl, w, hm, hb => by
    have hlt : b < g.length := by omega
    have hgo := fun rest X hP hN => goLoop12 hg hgl hr vo o a vl (bordTo g a b) b ha rest X hP hN
    have hll : (bordTo g a b).length < 100000 := by have := bordTo_len hg hgl hr g a b; omega
    have h3 : (trD g)[a]? = some (rowB (domsL g a)) := by simp [trD, ha]
    have h4 : (domsL g a)[b]? = some (domB g a b) := by simp [domsL, hlt]
    by_cases hbd : Border g a b
    · have e1 : bordTo g a (b + 1) = bordTo g a b ++ [b] := by
        unfold bordTo
        rw [List.range_succ, List.filter_append, List.filter_cons_of_pos (by simpa using hbd), List.filter_nil]
      have hm1 : goB g a b g.length 0 = true := (goB_all hg hgl hr).2 hbd.1
      obtain ⟨vl', w', h⟩ := goLoop8 vo o a w2 ha m (b + 1) (vl + 1) (w + 1) (by omega) (by omega)
      rw [e1] at h
      by_cases hab : a = b
      · exact ⟨vl', w', fun rest X hP hN => lw_seg (rb8Self g vo o a vl _ b _ w w2 hlt hgl hll hgo hm1 hab rest X hP hN) (h rest X hP hN)⟩
      · rw [domB_false (hbd.2.resolve_left hab)] at h4
        exact ⟨vl', w', fun rest X hP hN => lw_seg (rb8Far g vo o a vl _ b _ w w2 hlt hgl hll hgo hm1 hab h3 h4 rest X hP hN) (h rest X hP hN)⟩
    · have e1 : bordTo g a (b + 1) = bordTo g a b := by
        unfold bordTo
        rw [List.range_succ, List.filter_append, List.filter_cons_of_neg (by simpa using hbd), List.filter_nil, List.append_nil]
      obtain ⟨vl', w', h⟩ := goLoop8 vo o a w2 ha m (b + 1) vl w (by omega) (by omega)
      rw [e1] at h
      cases hm1 : goB g a b g.length 0 with
      | false => exact ⟨vl', w', fun rest X hP hN => lw_seg (rb8No g vo o a vl _ b _ w w2 hlt hgl hll hgo hm1 rest X hP hN) (h rest X hP hN)⟩
      | true =>
        have hex := (goB_all hg hgl hr).1 hm1
        have hab : a ≠ b := fun e => hbd ⟨hex, .inl e⟩
        have hd : Doms g a b := Classical.byContradiction fun hn => hbd ⟨hex, .inr hn⟩
        rw [domB_true hd] at h4
        exact ⟨vl', w', fun rest X hP hN => lw_seg (rb8Dom g vo o a vl _ b _ w w2 hlt hgl hll hgo hm1 hab h3 h4 rest X hP hN) (h rest X hP hN)⟩
theorem goLoop4 : ∀ (m a vo vl w w2 : Nat), g.length - a = m → a ≤ g.length → ∃ vo' vl' w' w2', ∀ (rest : Heap) (X : Fix), X.P = Try.prog → X.N = 82 →
    LW X (loopOf Try.prog 52 4) ⟨envOf (rb4 g vo ((List.range a).map fun a => .ro (intsN (bordTo g a g.length))) a), ovl (rbE vo vl w w2) rest⟩ fun e' S' => e' = .exit 0 ∧ S' = ⟨envOf [(4, .vec 63 vo' 1 ((List.range g.length).map fun a => .ro (intsN (bordTo g a g.length))))], ovl (rbE vo' vl' w' w2') rest⟩
  | 0, a, vo, vl, w, w2, hm, ha => by
    have : a = g.length := by omega
    subst this
    exact ⟨vo, vl, w, w2, fun rest X hP hN => lw_end (rb4Stop g vo _ vl w w2 rest X hP hN) (by simp)⟩
  | m + 1, a, vo, vl, w, w2, hm, ha => by
    have hlt : a < g.length := by omega
    obtain ⟨vl', w', h8⟩ := goLoop8 hg hgl hr vo ((List.range a).map fun a => .ro (intsN (bordTo g a g.length))) a w2 hlt _ 0 vl w rfl (Nat.zero_le _)
    obtain ⟨a1, a2, a3, a4, h⟩ := goLoop4 m (a + 1) (vo + 1) vl' w' (w2 + 1) (by omega) (by omega)
    rw [List.range_succ, List.map_append] at h
    exact ⟨a1, a2, a3, a4, fun rest X hP hN => lw_seg (rb4Round g vo _ a vl (bordTo g a g.length) w w2 vl' w' hlt hgl (by simp; omega) (fun rest X hP hN => (h8 rest X hP hN).aw) rest X hP hN) (h rest X hP hN)⟩
theorem refBordersC : Pure Try.prog 52 [rowsN g] [rowsN (bordersOf g)] := by
  obtain ⟨a1, a2, a3, a4, h⟩ := goLoop4 hg hgl hr _ 0 0 0 0 0 rfl (Nat.zero_le _)
  have e : D.ro ((List.range g.length).map fun a => D.ro (intsN (bordTo g a g.length))) = rowsN (bordersOf g) := by
    simp [rowsN, rowsD, natG, bordersOf, intsN]
  rw [← e]
  exact refBordersRun g _ a1 a2 a3 a4 (domsC hg (by omega) (fun a => by have := hr a; omega)) (fun rest X hP hN => (h rest X hP hN).aw)
end
end Go.Avm
