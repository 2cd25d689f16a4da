/-
  Flow: who goes on to whom.
-/
import Derived.Test.YtpcomfnianamgaaFlOne
import Derived.Test.YtpcomfnianamgaaAvmX
import Derived.Test.YtpcomfnianamgaaPaShelf
set_option linter.unusedSectionVars false
namespace Go.Avm
open Go.Proofs Go.Avm.Dom

def inI (g : Graph) (vC a : Nat) (r : List Nat) (k : Nat) : List (Nat × AV) := [(3, .sl 182 vC 0 g.length 1), (4, dN a), (12, .d (rowsN g)), (13, dN g.length), (14, dN a), (19, .d (rowN r)), (20, dN r.length), (21, dN k)]
def inO (g : Graph) (vC a : Nat) : List (Nat × AV) := [(3, .sl 182 vC 0 g.length 1), (12, .d (rowsN g)), (13, dN g.length), (14, dN a)]
def inE (vC : Nat) (cs : List AV) (vA : Nat) (row : List Int) (w w2 : Nat) : List (Nat × Ent) := [(182, ⟨vC, some (.arr 1 cs)⟩), (37, ⟨vA, some (.arr 1 (row.map dI))⟩), (501248, ⟨w, none⟩), (501818, ⟨w2, none⟩)]
theorem dI_app (row : List Int) (x : Int) : (row.map dI).take row.length ++ [dI x] = (row ++ [x]).map dI := by
  rw [List.take_of_length_le (by simp), List.map_append]
  rfl
section
variable (g : Graph) (vC a : Nat) (r : List Nat) (k b : Nat) (cs : List AV) (vA : Nat) (row : List Int) (w w2 : Nat)
theorem inNew (hk : k < r.length) (hr : r.length < 1000000000) (hb : r[k]? = some b) (hbl : b < g.length) (hc : cs[0 + b]? = some (.sl 37 vA 0 0 1)) (rest : Heap) (X : Fix) (hP : X.P = Try.prog) (hN : X.N = 57) :
    AW X (loopOf Try.prog 75 6) ⟨envOf (inI g vC a r k), ovl (inE vC cs vA [] w w2) rest⟩ fun e' S' => e' = .normal ∧ Weak X S' ⟨envOf (inI g vC a r (k + 1)), ovl (inE vC (cs.set (0 + b) (.sl 37 (vA + 1) 0 1 1)) (vA + 1) [(a : Int)] (w + 1) w2) rest⟩ :=
  seg okP named { hint := tabH Try.prog [(75, 22, hLt Try.prog k r.length true (by simpa using hk)), (75, 23, hIxN Try.prog r k b hb), (75, 27, hInb Try.prog b g.length hbl), (75, 28, .elt cs (0 + b) _ hc), (75, 48, hInb Try.prog b g.length hbl), (75, 49, .elt cs (0 + b) _ hc), (75, 52, .apps [] 0 1 (by omega)), (75, 53, hInb Try.prog b g.length hbl), (75, 110010, .elt cs (0 + b) _ hc), (75, 54, hSucc Try.prog k (by omega))] } 2000 75 500000 57 (by kernel_rfl) X hP hN
theorem inMore (hk : k < r.length) (hr : r.length < 1000000000) (hb : r[k]? = some b) (hbl : b < g.length) (q : Nat) (y : Int) (hrl : row.length < 1000000000) (hc : cs[0 + b]? = some (.sl 37 vA 0 row.length 1)) (hq : row.length = q + 1) (hy : row[q]? = some y) (hne : (!(y == (a : Int))) = true) (rest : Heap) (X : Fix) (hP : X.P = Try.prog) (hN : X.N = 57) :
    AW X (loopOf Try.prog 75 6) ⟨envOf (inI g vC a r k), ovl (inE vC cs vA row w w2) rest⟩ fun e' S' => e' = .normal ∧ Weak X S' ⟨envOf (inI g vC a r (k + 1)), ovl (inE vC (cs.set (0 + b) (.sl 37 (vA + 1) 0 (row ++ [(a : Int)]).length 1)) (vA + 1) (row ++ [(a : Int)]) w (w2 + 1)) rest⟩ := by
  unfold inE
  rw [← dI_app, List.length_append]
  exact seg okP named { hint := tabH Try.prog [(75, 22, hLt Try.prog k r.length true (by simpa using hk)), (75, 23, hIxN Try.prog r k b hb), (75, 27, hInb Try.prog b g.length hbl), (75, 28, .elt cs (0 + b) _ hc), (75, 31, hEq Try.prog (row.length : Int) 0 false (beq_eq_false_iff_ne.2 (by omega))), (75, 35, hInb Try.prog b g.length hbl), (75, 36, .elt cs (0 + b) _ hc), (75, 38, hNat Try.prog (IntKind.i64.wrap ((row.length : Int) - 1)) q (by rw [IntWalk.i64_in _ (by omega)]; omega)), (75, 39, hInb Try.prog q row.length (by omega)), (75, 40, hElI Try.prog row q y hy), (75, 42, hNeq Try.prog _ _ _ hne), (75, 48, hInb Try.prog b g.length hbl), (75, 49, .elt cs (0 + b) _ hc), (75, 52, .apps (row.map dI) row.length 1 ⟨by simp, by omega⟩), (75, 53, hInb Try.prog b g.length hbl), (75, 110010, .elt cs (0 + b) _ hc), (75, 54, hSucc Try.prog k (by omega))] } 2000 75 500000 57 (by kernel_rfl) X hP hN
theorem inSame (hk : k < r.length) (hr : r.length < 1000000000) (hb : r[k]? = some b) (hbl : b < g.length) (q : Nat) (y : Int) (hrl : row.length < 1000000000) (hc : cs[0 + b]? = some (.sl 37 vA 0 row.length 1)) (hq : row.length = q + 1) (hy : row[q]? = some y) (hne : (!(y == (a : Int))) = false) (rest : Heap) (X : Fix) (hP : X.P = Try.prog) (hN : X.N = 57) :
    AW X (loopOf Try.prog 75 6) ⟨envOf (inI g vC a r k), ovl (inE vC cs vA row w w2) rest⟩ fun e' S' => e' = .normal ∧ Weak X S' ⟨envOf (inI g vC a r (k + 1)), ovl (inE vC cs vA row w w2) rest⟩ :=
  seg okP named { hint := tabH Try.prog [(75, 22, hLt Try.prog k r.length true (by simpa using hk)), (75, 23, hIxN Try.prog r k b hb), (75, 27, hInb Try.prog b g.length hbl), (75, 28, .elt cs (0 + b) _ hc), (75, 31, hEq Try.prog (row.length : Int) 0 false (beq_eq_false_iff_ne.2 (by omega))), (75, 35, hInb Try.prog b g.length hbl), (75, 36, .elt cs (0 + b) _ hc), (75, 38, hNat Try.prog (IntKind.i64.wrap ((row.length : Int) - 1)) q (by rw [IntWalk.i64_in _ (by omega)]; omega)), (75, 39, hInb Try.prog q row.length (by omega)), (75, 40, hElI Try.prog row q y hy), (75, 42, hNeq Try.prog _ _ _ hne), (75, 54, hSucc Try.prog k (by omega))] } 2000 75 500000 57 (by kernel_rfl) X hP hN
end
section
variable (g : Graph) (vC a : Nat) (r : List Nat) (l : List (Nat × Ent))
theorem inIStop (rest : Heap) (X : Fix) (hP : X.P = Try.prog) (hN : X.N = 57) :
    AW X (loopOf Try.prog 75 6) ⟨envOf (inI g vC a r r.length), ovl [] rest⟩ fun e' S' => e' = .exit 2 ∧ Weak X S' ⟨envOf (inO g vC a), ovl [] rest⟩ :=
  seg okP named { hint := tabH Try.prog [(75, 22, hLt Try.prog r.length r.length false (by simp))] } 2000 75 500000 57 (by kernel_rfl) X hP hN
end
/-- Who goes on to b, of the first a nodes, and of the node a by the first k of its ways. -/
def inAt (g : Graph) (a k b : Nat) : List Nat := (List.range a).filter (fun p => decide (b ∈ succ g p)) ++ (if b ∈ (succ g a).take k then [a] else [])
def inRows (g : Graph) (a k : Nat) : List (List Int) := (List.range g.length).map fun b => natR (inAt g a k b)
def intoOf (g : Graph) : List (List Nat) := (List.range g.length).map fun b => (List.range g.length).filter fun p => decide (b ∈ succ g p)
theorem inRows_len (g : Graph) (a k : Nat) : (inRows g a k).length = g.length := by simp [inRows]
theorem inRows_get {g : Graph} {a k b : Nat} (h : b < g.length) : (inRows g a k)[b]? = some (natR (inAt g a k b)) := by simp [inRows, h]
theorem inRows_next (g : Graph) (a : Nat) : inRows g (a + 1) 0 = inRows g a (succ g a).length := by
  unfold inRows inAt
  congr 1
  funext b
  simp only [List.take_zero, List.not_mem_nil, if_false, List.append_nil, List.take_length, List.range_succ, List.filter_append]
  congr 2
  by_cases h : b ∈ succ g a <;> simp [h]
theorem inRows_set {g : Graph} {a k b : Nat} (hk : k < (succ g a).length) (hb : (succ g a)[k]? = some b) (hbl : b < g.length) : inRows g a (k + 1) = (inRows g a k).set b (natR (inAt g a (k + 1) b)) := by
  apply List.ext_getElem?
  intro t
  rcases Nat.lt_or_ge t g.length with ht | ht
  · rw [inRows_get ht]
    by_cases htb : t = b
    · subst htb
      rw [List.getElem?_set_self (by rw [inRows_len]; omega)]
    · rw [List.getElem?_set_ne (Ne.symm htb), inRows_get ht]
      have : (t ∈ (succ g a).take (k + 1)) ↔ (t ∈ (succ g a).take k) := by
        rw [List.take_succ_eq_append_getElem hk]
        rw [List.getElem?_eq_getElem hk] at hb
        simp only [Option.some.injEq] at hb
        simp [hb, htb]
      unfold inAt
      simp only [this]
  · rw [List.getElem?_eq_none (by rw [inRows_len]; omega), List.getElem?_eq_none (by simp [inRows_len]; omega)]
theorem inAt_le (g : Graph) (a k b : Nat) : (inAt g a k b).length ≤ a + 1 := by
  unfold inAt
  rw [List.length_append]
  have h1 : ((List.range a).filter fun p => decide (b ∈ succ g p)).length ≤ a := by
    have := List.length_filter_le (fun p => decide (b ∈ succ g p)) (List.range a)
    rwa [List.length_range] at this
  have h2 : (if b ∈ (succ g a).take k then [a] else []).length ≤ 1 := by split <;> simp
  omega
structure InH (g : Graph) (vC : Nat) (h : Heap) (a k : Nat) : Prop where
  ex : ∃ cs, h 182 = ⟨vC, some (.arr 1 cs)⟩ ∧ RowsK 800000 g.length h cs (inRows g a k)
theorem set_same {α : Type} {l : List α} {i : Nat} {x : α} (h : l[i]? = some x) : l.set i x = l := by
  apply List.ext_getElem?
  intro t
  by_cases ht : i = t
  · subst ht
    rw [List.getElem?_set_self (List.getElem?_eq_some_iff.1 h).1, h]
  · rw [List.getElem?_set_ne ht]
section
variable {g : Graph} (hg : Valid g) (hgl : g.length < 100000) (hr : ∀ a, (succ g a).length < 1000000000) (vC : Nat)
include hg hgl hr
theorem inStep (a k : Nat) (ha : a < g.length) (hk : k < (succ g a).length) (h : Heap) (hh : InH g vC h a k) : ∃ h', InH g vC h' a (k + 1) ∧ ∀ X : Fix, X.P = Try.prog → X.N = 57 →
    AW X (loopOf Try.prog 75 6) ⟨envOf (inI g vC a (succ g a) k), h⟩ fun e' S' => e' = .normal ∧ Weak X S' ⟨envOf (inI g vC a (succ g a) (k + 1)), h'⟩ := by
  obtain ⟨cs, hC, hR⟩ := hh.ex
  have hb := getD_get hk
  generalize (succ g a).getD k 0 = b at hb
  have hbl : b < g.length := (succ_lt hg (List.mem_of_getElem? hb)).1
  have hle := inAt_le g a k b
  refine Exists.elim (rowStep (P := Try.prog) (N := 57) (c := loopOf Try.prog 75 6) (l := inI g vC a (succ g a) k) (l' := inI g vC a (succ g a) (k + 1)) (C := 182) (A := 37) (K := 800000) (n := g.length) (b := b) (Ts := [501248, 501818]) (r := natR (inAt g a k b)) (r' := natR (inAt g a (k + 1) b)) (h := h)
    (by omega) (fun t ht => ⟨by omega, by omega, by simp only [List.mem_cons, List.not_mem_nil, or_false, not_or]; omega⟩) ⟨by simp, by simp⟩ hC hR hbl (inRows_get hbl) (fun cs1 vA rest hc hl => ?_)) (fun h' hx => ?_)
  rotate_left
  · obtain ⟨cs', c', R', _, hs⟩ := hx
    exact ⟨h', ⟨cs', c', by rw [inRows_set hk hb hbl]; exact R'⟩, hs⟩
  · by_cases hin : b ∈ (succ g a).take k
    · -- it is there
      have e : inAt g a (k + 1) b = inAt g a k b := by
        unfold inAt
        rw [if_pos hin, if_pos (List.mem_of_mem_take (i := k) (by rwa [List.take_take, Nat.min_eq_left (by omega)]))]
      have e2 : inAt g a k b = (List.range a).filter (fun p => decide (b ∈ succ g p)) ++ [a] := by unfold inAt; rw [if_pos hin]
      rw [e]
      refine ⟨vA, [(501248, ⟨(rest 501248).ver, none⟩), (501818, ⟨(rest 501818).ver, none⟩)], rfl, fun X hP hN => ?_⟩
      rw [set_same hc]
      have hlen : (natR (inAt g a k b)).length = ((List.range a).filter (fun p => decide (b ∈ succ g p))).length + 1 := by rw [e2]; simp
      exact inSame g vC a (succ g a) k b cs1 vA (natR (inAt g a k b)) (rest 501248).ver (rest 501818).ver hk (hr a) hb hbl _ (a : Int) (by simp; omega) hc hlen (by rw [e2]; simp) (by simp) rest X hP hN
    · have e : inAt g a (k + 1) b = inAt g a k b ++ [a] := by
        unfold inAt
        rw [if_neg hin, if_pos, List.append_nil]
        rw [List.take_succ_eq_append_getElem hk]
        rw [List.getElem?_eq_getElem hk] at hb
        simp only [Option.some.injEq] at hb
        simp [hb]
      have e2 : inAt g a k b = (List.range a).filter (fun p => decide (b ∈ succ g p)) := by unfold inAt; rw [if_neg hin, List.append_nil]
      rw [e]
      rcases hnil : inAt g a k b with _ | ⟨y0, ys⟩
      · rw [hnil] at hc
        refine ⟨vA + 1, [(501248, ⟨(rest 501248).ver + 1, none⟩), (501818, ⟨(rest 501818).ver, none⟩)], rfl, fun X hP hN => ?_⟩
        exact inNew g vC a (succ g a) k b cs1 vA (rest 501248).ver (rest 501818).ver hk (hr a) hb hbl hc rest X hP hN
      · rw [← hnil]
        refine ⟨vA + 1, [(501248, ⟨(rest 501248).ver, none⟩), (501818, ⟨(rest 501818).ver + 1, none⟩)], rfl, fun X hP hN => ?_⟩
        have hne : inAt g a k b ≠ [] := by rw [hnil]; simp
        have hpos := List.length_pos_iff.2 hne
        have hlast : (natR (inAt g a k b))[(inAt g a k b).length - 1]? = some (((inAt g a k b)[(inAt g a k b).length - 1] : Nat) : Int) := by
          rw [List.getElem?_map, List.getElem?_eq_getElem (by omega)]
          rfl
        have hmem : (inAt g a k b)[(inAt g a k b).length - 1] < a := by
          have := List.getElem_mem (l := inAt g a k b) (n := (inAt g a k b).length - 1) (by omega)
          generalize (inAt g a k b)[(inAt g a k b).length - 1] = z at this
          rw [e2, List.mem_filter, List.mem_range] at this
          exact this.1
        have := inMore g vC a (succ g a) k b cs1 vA (natR (inAt g a k b)) (rest 501248).ver (rest 501818).ver hk (hr a) hb hbl ((inAt g a k b).length - 1) _ (by simp; omega) hc (by simp; omega) hlast (by rw [int_ne (by omega)]; rfl) rest X hP hN
        have e3 : natR (inAt g a k b ++ [a]) = natR (inAt g a k b) ++ [(a : Int)] := by simp
        rw [e3]
        exact this
theorem inILoop (a : Nat) (ha : a < g.length) : ∀ (m k : Nat) (h : Heap), (succ g a).length - k = m → k ≤ (succ g a).length → InH g vC h a k → ∃ h', InH g vC h' a (succ g a).length ∧ ∀ X : Fix, X.P = Try.prog → X.N = 57 →
    LW X (loopOf Try.prog 75 6) ⟨envOf (inI g vC a (succ g a) k), h⟩ fun e' S' => e' = .exit 2 ∧ S' = ⟨envOf (inO g vC a), h'⟩
  | 0, k, h, hm, hk, hh => by
    have : k = (succ g a).length := by omega
    subst this
    exact ⟨h, hh, fun X hP hN => lw_end (inIStop g vC a (succ g a) h X hP hN) (by simp)⟩
  | m + 1, k, h, hm, hk, hh => by
    obtain ⟨h1, hh1, hs⟩ := inStep hg hgl hr vC a k ha (by omega) h hh
    obtain ⟨h', hh', hl⟩ := inILoop a ha m (k + 1) h1 (by omega) (by omega) hh1
    exact ⟨h', hh', fun X hP hN => lw_seg (hs X hP hN) (hl X hP hN)⟩
end
section
variable (g : Graph) (vC a : Nat) (h h' : Heap)
theorem inORound (ha : a < g.length) (hgl : g.length < 100000) (r : List Nat) (hr : g[a]? = some r) (hl : ∀ X : Fix, X.P = Try.prog → X.N = 57 → LW X (loopOf Try.prog 75 6) ⟨envOf (inI g vC a r 0), h⟩ fun e' S' => e' = .exit 2 ∧ S' = ⟨envOf (inO g vC a), h'⟩) (X : Fix) (hP : X.P = Try.prog) (hN : X.N = 57) :
    AW X (loopOf Try.prog 75 3) ⟨envOf (inO g vC a), h⟩ fun e' S' => e' = .normal ∧ Weak X S' ⟨envOf (inO g vC (a + 1)), h'⟩ :=
  segZ okP named { hint := tabH Try.prog [(75, 15, hLt Try.prog a g.length true (by simpa using ha)), (75, 17, hIxG Try.prog g a r hr), (75, 20, hLenN Try.prog r), (75, 55, hSucc Try.prog a (by omega))] } ({ loops := fun q => if q = 6 then some ⟨57, loopOf Try.prog 75 6, inI g vC a r 0, h, .exit 2, inO g vC a, h', fun X hP hN => (hl X hP hN).aw.mono fun e' S' hh => ⟨hh.1, hh.2 ▸ Weak.refl _⟩⟩ else none }) 2000 75 500000 57 (by kernel_rfl) X hP hN
theorem inOStop (X : Fix) (hP : X.P = Try.prog) (hN : X.N = 57) :
    AW X (loopOf Try.prog 75 3) ⟨envOf (inO g vC g.length), h⟩ fun e' S' => e' = .exit 0 ∧ Weak X S' ⟨envOf [(3, .sl 182 vC 0 g.length 1)], h⟩ :=
  segZ okP named { hint := tabH Try.prog [(75, 15, hLt Try.prog g.length g.length false (by simp))] } ({}) 2000 75 500000 57 (by kernel_rfl) X hP hN
end
section
variable {g : Graph} (hg : Valid g) (hgl : g.length < 100000) (hr : ∀ a, (succ g a).length < 1000000000) (vC : Nat)
include hg hgl hr
theorem inOLoop : ∀ (m a : Nat) (h : Heap), g.length - a = m → a ≤ g.length → InH g vC h a 0 → ∃ h', InH g vC h' g.length 0 ∧ ∀ X : Fix, X.P = Try.prog → X.N = 57 →
    LW X (loopOf Try.prog 75 3) ⟨envOf (inO g vC a), h⟩ fun e' S' => e' = .exit 0 ∧ S' = ⟨envOf [(3, .sl 182 vC 0 g.length 1)], h'⟩
  | 0, a, h, hm, ha, hh => by
    have : a = g.length := by omega
    subst this
    exact ⟨h, hh, fun X hP hN => lw_end (inOStop g vC h X hP hN) (by simp)⟩
  | m + 1, a, h, hm, ha, hh => by
    have hlt : a < g.length := by omega
    obtain ⟨h1, hh1, hl1⟩ := inILoop hg hgl hr vC a hlt _ 0 h rfl (Nat.zero_le _) hh
    have hh2 : InH g vC h1 (a + 1) 0 := by
      obtain ⟨cs, c1, r1⟩ := hh1.ex
      exact ⟨cs, c1, by rw [inRows_next]; exact r1⟩
    obtain ⟨h', hh', hl⟩ := inOLoop m (a + 1) h1 (by omega) (by omega) hh2
    exact ⟨h', hh', fun X hP hN => lw_seg (inORound g vC a h h1 hlt hgl _ (succ_get hlt) hl1 X hP hN) (hl X hP hN)⟩
/-- into. -/
theorem intoC : Pure Try.prog 75 [rowsN g] [.ro ((intoOf g).map rowN)] := by
  have h0 : InH g 1 (ovl [(182, ⟨1, some (.arr 1 (List.replicate g.length .nils))⟩)] fun _ => ⟨0, none⟩) 0 0 := by
    refine ⟨_, rfl, ?_⟩
    have e : inRows g 0 0 = List.replicate g.length [] := by
      unfold inRows inAt
      simp only [List.range_zero, List.filter_nil, List.take_zero, List.not_mem_nil, if_false, List.append_nil, List.map_nil]
      apply List.ext_getElem?
      intro t
      rcases Nat.lt_or_ge t g.length with ht | ht
      · simp [ht]
      · rw [List.getElem?_eq_none (by simp; omega), List.getElem?_eq_none (by simp; omega)]
    rw [e]
    exact RowsK.nils _ _ _
  obtain ⟨h', hh', hl⟩ := inOLoop hg hgl hr 1 g.length 0 _ rfl (Nat.zero_le _) h0
  obtain ⟨cs, hC, hR⟩ := hh'.ex
  obtain ⟨h2, w2, c2, _⟩ := freezeRowsK (C := 182) (fun t ht => by omega) hC hR
  have e : (inRows g g.length 0) = (intoOf g).map natR := by
    unfold inRows inAt intoOf
    simp
  rw [e] at c2
  have e2 : ((intoOf g).map natR).map (fun r => AV.d (rowD r)) = ((intoOf g).map rowN).map .d := by simp
  rw [e2] at c2
  have e3 : ovl [(182, ⟨1, some (.arr 1 (((intoOf g).map rowN).map .d))⟩)] h2 = h2 := At.ovl fun p hp => by
    simp only [List.mem_singleton] at hp
    subst hp
    exact c2
  have hlen : (intoOf g).length = g.length := by simp [intoOf]
  exact pureZ okP named { weaks := fun f q => if f = 75 then (if q = 13 then some (wD 3 182 g.length ((intoOf g).map rowN) (by simpa using hlen) (by simp [D.one])) else none) else none, hint := tabH Try.prog [(75, 10, hLenG Try.prog g), (75, 11, .mk ((g.length : Nat) : Int) (by omega) (by omega)), (75, 13, hLenG Try.prog g)] } ({ loops := fun q => if q = 3 then some ⟨57, loopOf Try.prog 75 3, inO g 1 0, ovl [(182, ⟨1, some (.arr 1 (List.replicate g.length .nils))⟩)] fun _ => ⟨0, none⟩, .exit 0, [(3, .sl 182 1 0 g.length 1)], ovl [(182, ⟨1, some (.arr 1 (((intoOf g).map rowN).map .d))⟩)] h2, fun X hP hN => (hl X hP hN).aw.mono fun e' S' hh => ⟨hh.1, hh.2 ▸ (by rw [e3]; exact w2 X _)⟩⟩ else none }) 2000 (by kernel_rfl)
end
end Go.Avm
/-
  Flow: who goes on to whom, as the reference has it.
-/
set_option linter.unusedSectionVars false
namespace Go.Avm
open Go.Proofs Go.Avm.Dom

def riQ (g : Graph) (o : List D) (vo b vl p : Nat) (l r : List Nat) (m : Bool) (k : Nat) : List (Nat × AV) :=
  [(0, .d (rowsN g)), (3, .vec 40 vo 1 o), (4, dN b), (5, .vec 41 vl 1 (intsN l)), (6, dN p), (8, dB m), (12, dN g.length), (13, dN b), (16, .d (rowsN g)), (17, dN g.length), (18, dN p), (23, .d (rowN r)), (24, dN r.length), (25, dN k)]
def riQ' (g : Graph) (o : List D) (vo b vl p : Nat) (l : List Nat) (m : Bool) : List (Nat × AV) :=
  [(0, .d (rowsN g)), (3, .vec 40 vo 1 o), (4, dN b), (5, .vec 41 vl 1 (intsN l)), (6, dN p), (8, dB m), (12, dN g.length), (13, dN b), (16, .d (rowsN g)), (17, dN g.length), (18, dN p)]
def riP (g : Graph) (o : List D) (vo b vl p : Nat) (l : List Nat) : List (Nat × AV) :=
  [(0, .d (rowsN g)), (3, .vec 40 vo 1 o), (4, dN b), (5, .vec 41 vl 1 (intsN l)), (12, dN g.length), (13, dN b), (16, .d (rowsN g)), (17, dN g.length), (18, dN p)]
def riP' (g : Graph) (o : List D) (vo b vl : Nat) (l : List Nat) : List (Nat × AV) :=
  [(0, .d (rowsN g)), (3, .vec 40 vo 1 o), (5, .vec 41 vl 1 (intsN l)), (12, dN g.length), (13, dN b)]
def riO (g : Graph) (o : List D) (vo b : Nat) : List (Nat × AV) := [(0, .d (rowsN g)), (3, .vec 40 vo 1 o), (12, dN g.length), (13, dN b)]
section
variable (g : Graph) (o : List D) (vo b vl p : Nat) (l r : List Nat) (k x : Nat)
theorem riQTrue (hk : k < r.length) (hr : r.length < 1000000000) (hx : r[k]? = some x) (rest : Heap) (X : Fix) (hP : X.P = Try.prog) (hN : X.N = 48) :
    AW X (loopOf Try.prog 49 11) ⟨envOf (riQ g o vo b vl p l r true k), ovl [] rest⟩ fun e' S' => e' = .normal ∧ Weak X S' ⟨envOf (riQ g o vo b vl p l r true (k + 1)), ovl [] rest⟩ :=
  seg okP named { hint := tabH Try.prog [(49, 26, hLt Try.prog k r.length true (by simpa using hk)), (49, 27, hIxN Try.prog r k x hx), (49, 35, hSucc Try.prog k (by omega))] } 2000 49 500000 48 (by kernel_rfl) X hP hN
theorem riQFalse (t : Bool) (hk : k < r.length) (hr : r.length < 1000000000) (hx : r[k]? = some x) (ht : ((x : Int) == (b : Int)) = t) (rest : Heap) (X : Fix) (hP : X.P = Try.prog) (hN : X.N = 48) :
    AW X (loopOf Try.prog 49 11) ⟨envOf (riQ g o vo b vl p l r false k), ovl [] rest⟩ fun e' S' => e' = .normal ∧ Weak X S' ⟨envOf (riQ g o vo b vl p l r t (k + 1)), ovl [] rest⟩ :=
  seg okP named { hint := tabH Try.prog [(49, 26, hLt Try.prog k r.length true (by simpa using hk)), (49, 27, hIxN Try.prog r k x hx), (49, 33, hEq Try.prog _ _ _ ht), (49, 35, hSucc Try.prog k (by omega))] } 2000 49 500000 48 (by kernel_rfl) X hP hN
theorem riQStop (m : Bool) (rest : Heap) (X : Fix) (hP : X.P = Try.prog) (hN : X.N = 48) :
    AW X (loopOf Try.prog 49 11) ⟨envOf (riQ g o vo b vl p l r m r.length), ovl [] rest⟩ fun e' S' => e' = .exit 4 ∧ Weak X S' ⟨envOf (riQ' g o vo b vl p l m), ovl [] rest⟩ :=
  seg okP named { hint := tabH Try.prog [(49, 26, hLt Try.prog r.length r.length false (by simp))] } 2000 49 500000 48 (by kernel_rfl) X hP hN
theorem riQLoop (hr : r.length < 1000000000) (rest : Heap) (X : Fix) (hP : X.P = Try.prog) (hN : X.N = 48) :
    AW X (.loop (loopOf Try.prog 49 11)) ⟨envOf (riQ g o vo b vl p l r false 0), ovl [] rest⟩ fun e' S' => e' = .exit 4 ∧ S' = ⟨envOf (riQ' g o vo b vl p l (decide (b ∈ r))), ovl [] rest⟩ := by
  have h := lw_count (X := X) (c := loopOf Try.prog 49 11) r.length (fun k => ⟨envOf (riQ g o vo b vl p l r (decide (b ∈ r.take k)) k), ovl [] rest⟩) (e := .exit 4) (Z := ⟨envOf (riQ' g o vo b vl p l (decide (b ∈ r.take r.length))), ovl [] rest⟩) (by simp) (fun k hk => ?_) (riQStop g o vo b vl p l r _ rest X hP hN)
  · rw [List.take_length] at h
    simp only [List.take_zero, List.not_mem_nil, decide_false] at h
    exact h.aw
  · have e : (b ∈ r.take (k + 1)) ↔ (b ∈ r.take k ∨ r[k] = b) := by
      rw [List.take_succ_eq_append_getElem hk, List.mem_append, List.mem_singleton, eq_comm (a := b)]
    by_cases hb : b ∈ r.take k
    · have h1 : decide (b ∈ r.take k) = true := decide_eq_true hb
      have h2 : decide (b ∈ r.take (k + 1)) = true := decide_eq_true (e.2 (.inl hb))
      rw [h1, h2]
      exact riQTrue g o vo b vl p l r k r[k] hk hr (List.getElem?_eq_getElem hk) rest X hP hN
    · have h1 : decide (b ∈ r.take k) = false := decide_eq_false hb
      have h2 : ((r[k] : Int) == (b : Int)) = decide (b ∈ r.take (k + 1)) := by
        by_cases hx : r[k] = b
        · rw [int_eq hx, decide_eq_true (e.2 (.inr hx))]
        · rw [int_ne hx, decide_eq_false (fun h => (e.1 h).elim hb hx)]
      rw [h1]
      exact riQFalse g o vo b vl p l r k r[k] _ hk hr (List.getElem?_eq_getElem hk) h2 rest X hP hN
def riE (vo vl w1 w2 : Nat) : List (Nat × Ent) := [(40, ⟨vo, none⟩), (41, ⟨vl, none⟩), (500663, ⟨w1, none⟩), (500476, ⟨w2, none⟩)]
theorem riPYes (w1 w2 : Nat) (hp : p < g.length) (hgl : g.length < 100000) (hr : g[p]? = some r) (hrl : r.length < 1000000000) (hl : l.length < 1000000000) (hb : decide (b ∈ r) = true) (rest : Heap) (X : Fix) (hP : X.P = Try.prog) (hN : X.N = 48) :
    AW X (loopOf Try.prog 49 7) ⟨envOf (riP g o vo b vl p l), ovl (riE vo vl w1 w2) rest⟩ fun e' S' => e' = .normal ∧ Weak X S' ⟨envOf (riP g o vo b (vl + 1) (p + 1) (l ++ [p])), ovl (riE vo (vl + 1) (w1 + 1) w2) rest⟩ := by
  unfold riP
  rw [intsN_app]
  have hq := riQLoop g o vo b vl p l r hrl
  rw [hb] at hq
  exact seg okP named { loops := fun f q => if f = 49 then (if q = 11 then some ⟨48, loopOf Try.prog 49 11, riQ g o vo b vl p l r false 0, fun _ => [], .exit 4, riQ' g o vo b vl p l true, fun _ => [], hq⟩ else none) else none, hint := tabH Try.prog [(49, 19, hLt Try.prog p g.length true (by simpa using hp)), (49, 21, hIxG Try.prog g p r hr), (49, 24, hLenN Try.prog r), (49, 40, .app (intsN l) 1 (by rw [intsN_len]; omega)), (49, 41, hSucc Try.prog p (by omega))] } 2000 49 500000 48 (by kernel_rfl) X hP hN
theorem riPNo (w1 w2 : Nat) (hp : p < g.length) (hgl : g.length < 100000) (hr : g[p]? = some r) (hrl : r.length < 1000000000) (hb : decide (b ∈ r) = false) (rest : Heap) (X : Fix) (hP : X.P = Try.prog) (hN : X.N = 48) :
    AW X (loopOf Try.prog 49 7) ⟨envOf (riP g o vo b vl p l), ovl (riE vo vl w1 w2) rest⟩ fun e' S' => e' = .normal ∧ Weak X S' ⟨envOf (riP g o vo b vl (p + 1) l), ovl (riE vo vl w1 w2) rest⟩ := by
  have hq := riQLoop g o vo b vl p l r hrl
  rw [hb] at hq
  exact seg okP named { loops := fun f q => if f = 49 then (if q = 11 then some ⟨48, loopOf Try.prog 49 11, riQ g o vo b vl p l r false 0, fun _ => [], .exit 4, riQ' g o vo b vl p l false, fun _ => [], hq⟩ else none) else none, hint := tabH Try.prog [(49, 19, hLt Try.prog p g.length true (by simpa using hp)), (49, 21, hIxG Try.prog g p r hr), (49, 24, hLenN Try.prog r), (49, 41, hSucc Try.prog p (by omega))] } 2000 49 500000 48 (by kernel_rfl) X hP hN
theorem riPStop (w1 w2 : Nat) (rest : Heap) (X : Fix) (hP : X.P = Try.prog) (hN : X.N = 48) :
    AW X (loopOf Try.prog 49 7) ⟨envOf (riP g o vo b vl g.length l), ovl (riE vo vl w1 w2) rest⟩ fun e' S' => e' = .exit 2 ∧ Weak X S' ⟨envOf (riP' g o vo b vl l), ovl (riE vo vl w1 w2) rest⟩ :=
  seg okP named { hint := tabH Try.prog [(49, 19, hLt Try.prog g.length g.length false (by simp))] } 2000 49 500000 48 (by kernel_rfl) X hP hN
theorem riORound (w1 w2 vl' w1' : Nat) (hb : b < g.length) (hgl : g.length < 100000) (ho : o.length < 1000000000)
    (hp : ∀ (rest : Heap) (X : Fix), X.P = Try.prog → X.N = 48 → AW X (.loop (loopOf Try.prog 49 7)) ⟨envOf (riP g o vo b vl 0 []), ovl (riE vo vl w1 w2) rest⟩ fun e' S' => e' = .exit 2 ∧ S' = ⟨envOf (riP' g o vo b vl' l), ovl (riE vo vl' w1' w2) rest⟩)
    (rest : Heap) (X : Fix) (hP : X.P = Try.prog) (hN : X.N = 48) :
    AW X (loopOf Try.prog 49 3) ⟨envOf (riO g o vo b), ovl (riE vo vl w1 w2) rest⟩ fun e' S' => e' = .normal ∧ Weak X S' ⟨envOf (riO g (o ++ [.ro (intsN l)]) (vo + 1) (b + 1)), ovl (riE (vo + 1) vl' w1' (w2 + 1)) rest⟩ :=
  seg okP named { nils2 := fun f q => if f = 49 then (if q = 6 then [⟨0, 5, 41, 1, true, false⟩] else []) else [], loops := fun f q => if f = 49 then (if q = 7 then some ⟨48, loopOf Try.prog 49 7, riP g o vo b vl 0 [], fun _ => riE vo vl w1 w2, .exit 2, riP' g o vo b vl' l, fun _ => riE vo vl' w1' w2, hp⟩ else none) else none, hint := tabH Try.prog [(49, 14, hLt Try.prog b g.length true (by simpa using hb)), (49, 17, hLenG Try.prog g), (49, 45, .app o 1 (by omega)), (49, 46, hSucc Try.prog b (by omega))] } 2000 49 500000 48 (by kernel_rfl) X hP hN
theorem riOStop (w1 w2 : Nat) (rest : Heap) (X : Fix) (hP : X.P = Try.prog) (hN : X.N = 48) :
    AW X (loopOf Try.prog 49 3) ⟨envOf (riO g o vo g.length), ovl (riE vo vl w1 w2) rest⟩ fun e' S' => e' = .exit 0 ∧ Weak X S' ⟨envOf [(3, .vec 40 vo 1 o)], ovl (riE vo vl w1 w2) rest⟩ :=
  seg okP named { hint := tabH Try.prog [(49, 14, hLt Try.prog g.length g.length false (by simp))] } 2000 49 500000 48 (by kernel_rfl) X hP hN
end
def riAt (g : Graph) (b p : Nat) : List Nat := (List.range p).filter fun p => decide (b ∈ succ g p)
theorem riAt_succ (g : Graph) (b p : Nat) : riAt g b (p + 1) = if b ∈ succ g p then riAt g b p ++ [p] else riAt g b p := by
  unfold riAt
  rw [List.range_succ, List.filter_append]
  by_cases h : b ∈ succ g p <;> simp [h]
theorem riAt_len (g : Graph) (b p : Nat) : (riAt g b p).length ≤ p := by
  have := List.length_filter_le (fun p => decide (b ∈ succ g p)) (List.range p)
  rwa [List.length_range] at this
section
variable {g : Graph} (hgl : g.length < 100000) (hr : ∀ a, (succ g a).length < 1000000000)
include hgl hr
theorem riPLoop (o : List D) (vo b w2 : Nat) : ∀ (m p vl w1 : Nat), g.length - p = m → p ≤ g.length → ∃ vl' w1', ∀ (rest : Heap) (X : Fix), X.P = Try.prog → X.N = 48 →
    LW X (loopOf Try.prog 49 7) ⟨envOf (riP g o vo b vl p (riAt g b p)), ovl (riE vo vl w1 w2) rest⟩ fun e' S' => e' = .exit 2 ∧ S' = ⟨envOf (riP' g o vo b vl' (riAt g b g.length)), ovl (riE vo vl' w1' w2) rest⟩
  | 0, p, vl, w1, hm, hp => by
    have : p = g.length := by omega
    subst this
    exact ⟨vl, w1, fun rest X hP hN => lw_end (riPStop g o vo b vl _ w1 w2 rest X hP hN) (by simp)⟩
  | m + 1, p, vl, w1, hm, hp => by
    have hlt : p < g.length := by omega
    by_cases hb : b ∈ succ g p
    · obtain ⟨vl', w1', h⟩ := riPLoop o vo b w2 m (p + 1) (vl + 1) (w1 + 1) (by omega) (by omega)
      refine ⟨vl', w1', fun rest X hP hN => lw_seg (riPYes g o vo b vl p (riAt g b p) (succ g p) w1 w2 hlt hgl (succ_get hlt) (hr p) (by have := riAt_len g b p; omega) (decide_eq_true hb) rest X hP hN) ?_⟩
      have := h rest X hP hN
      rw [riAt_succ, if_pos hb] at this
      exact this
    · obtain ⟨vl', w1', h⟩ := riPLoop o vo b w2 m (p + 1) vl w1 (by omega) (by omega)
      refine ⟨vl', w1', fun rest X hP hN => lw_seg (riPNo g o vo b vl p (riAt g b p) (succ g p) w1 w2 hlt hgl (succ_get hlt) (hr p) (decide_eq_false hb) rest X hP hN) ?_⟩
      have := h rest X hP hN
      rw [riAt_succ, if_neg hb] at this
      exact this
theorem riOLoop : ∀ (m b vo vl w1 w2 : Nat), g.length - b = m → b ≤ g.length → ∃ vo' vl' w1' w2', ∀ (rest : Heap) (X : Fix), X.P = Try.prog → X.N = 48 →
    LW X (loopOf Try.prog 49 3) ⟨envOf (riO g ((List.range b).map fun b => .ro (intsN (riAt g b g.length))) vo b), ovl (riE vo vl w1 w2) rest⟩ fun e' S' => e' = .exit 0 ∧ S' = ⟨envOf [(3, .vec 40 vo' 1 ((List.range g.length).map fun b => .ro (intsN (riAt g b g.length))))], ovl (riE vo' vl' w1' w2') rest⟩
  | 0, b, vo, vl, w1, w2, hm, hb => by
    have : b = g.length := by omega
    subst this
    exact ⟨vo, vl, w1, w2, fun rest X hP hN => lw_end (riOStop g _ vo vl w1 w2 rest X hP hN) (by simp)⟩
  | m + 1, b, vo, vl, w1, w2, hm, hb => by
    have hlt : b < g.length := by omega
    obtain ⟨vl', w1', hq⟩ := riPLoop hgl hr ((List.range b).map fun b => .ro (intsN (riAt g b g.length))) vo b w2 g.length 0 vl w1 rfl (Nat.zero_le _)
    obtain ⟨vo2, vl2, w12, w22, h⟩ := riOLoop m (b + 1) (vo + 1) vl' w1' (w2 + 1) (by omega) (by omega)
    refine ⟨vo2, vl2, w12, w22, fun rest X hP hN => lw_seg (riORound g _ vo b vl (riAt g b g.length) w1 w2 vl' w1' hlt hgl (by simp; omega) (fun rest X hP hN => (hq rest X hP hN).aw) rest X hP hN) ?_⟩
    have := h rest X hP hN
    rw [List.range_succ, List.map_append] at this
    exact this
/-- Into, as the reference has it. -/
theorem refIntoC : Pure Try.prog 49 [rowsN g] [.ro ((intoOf g).map rowN)] := by
  obtain ⟨vo, vl, w1, w2, h⟩ := riOLoop hgl hr g.length 0 0 0 0 0 rfl (Nat.zero_le _)
  have e : ((List.range g.length).map fun b => D.ro (intsN (riAt g b g.length))) = (intoOf g).map rowN := by
    unfold intoOf riAt
    simp [intsN]
  rw [e] at h
  exact pure_of_run okP named { nils2 := fun f q => if f = 49 then (if q = 2 then [⟨0, 3, 40, 1, true, false⟩] else []) else [], loops := fun f q => if f = 49 then (if q = 3 then some ⟨48, loopOf Try.prog 49 3, riO g [] 0 0, fun _ => riE 0 0 0 0, .exit 0, _, fun _ => riE vo vl w1 w2, fun rest X hP hN => (h rest X hP hN).aw⟩ else none) else none, hint := tabH Try.prog [(49, 12, hLenG Try.prog g)] } 2000 (by kernel_rfl)
end
end Go.Avm
/-
  Flow: where two ways up meet.
-/
set_option linter.unusedSectionVars false
namespace Go.Avm
open Go.Proofs Go.Avm.Dom

def plOf (g : Graph) (v : Nat) : Option Nat := (List.range (reachN g)).find? fun i => nodeAt g i == v
def placeI (g : Graph) (v : Nat) : Int := match plOf g v with
  | some i => (i : Int)
  | none => -1
def outI (g : Graph) (O : Nat → Option Nat) (v : Nat) : Int := match plOf g v with
  | some i => if i = 0 then -1 else match O i with
    | some u => (nodeAt g u : Int)
    | none => -1
  | none => -1
def placeL (g : Graph) : List Int := (List.range g.length).map (placeI g)
def outL2 (g : Graph) (O : Nat → Option Nat) : List Int := (List.range g.length).map (outI g O)
theorem plOf_node {g : Graph} (hg : Valid g) {i : Nat} (hi : i < reachN g) : plOf g (nodeAt g i) = some i := by
  unfold plOf
  cases h : (List.range (reachN g)).find? fun j => nodeAt g j == nodeAt g i with
  | none =>
    rw [List.find?_eq_none] at h
    exact absurd (h i (by simpa using hi)) (by simp)
  | some j =>
    have h1 := List.find?_some h
    have h2 := List.mem_of_find?_eq_some h
    simp only [beq_iff_eq] at h1
    rw [nodeAt_inj hg (by simpa using h2) hi h1]
theorem plOf_none {g : Graph} (hg : Valid g) (hg0 : 0 < g.length) {v : Nat} : plOf g v = none ↔ ¬ Reached g v := by
  constructor
  · intro h hr
    obtain ⟨i, hi, he⟩ := nodeAt_ex hg hg0 hr
    subst he
    rw [plOf_node hg hi] at h
    cases h
  · intro h
    unfold plOf
    rw [List.find?_eq_none]
    intro i hi
    simp only [beq_iff_eq]
    intro he
    exact h (he ▸ nodeAt_reached hg (by simpa using hi))
theorem nodeAt_lt {g : Graph} (hg : Valid g) {i : Nat} (hi : i < reachN g) : nodeAt g i < g.length := by
  have hg0 : 0 < g.length := by
    rcases Nat.eq_zero_or_pos g.length with h | h
    · unfold reachN orderOf at hi; rw [if_pos h] at hi; simp at hi
    · exact h
  exact Re.lt hg (nodeAt_reached hg hi) hg0
theorem placeL_node {g : Graph} (hg : Valid g) {i : Nat} (hi : i < reachN g) : (placeL g)[nodeAt g i]? = some (i : Int) := by
  unfold placeL
  rw [List.getElem?_map, List.getElem?_range (nodeAt_lt hg hi)]
  simp [placeI, plOf_node hg hi]
theorem outL_node {g : Graph} (hg : Valid g) {O : Nat → Option Nat} {i u : Nat} (hi : i < reachN g) (h0 : 0 < i) (hu : O i = some u) : (outL2 g O)[nodeAt g i]? = some (nodeAt g u : Int) := by
  unfold outL2
  rw [List.getElem?_map, List.getElem?_range (nodeAt_lt hg hi)]
  simp [outI, plOf_node hg hi, hu]
  omega
theorem placeL_len (g : Graph) : (placeL g).length = g.length := by simp [placeL]
theorem outL_len (g : Graph) (O : Nat → Option Nat) : (outL2 g O).length = g.length := by simp [outL2]

def upU (O : Nat → Option Nat) : Nat → Nat := fun i => (O i).getD 0
def Proc (O : Nat → Option Nat) (i : Nat) : Prop := i = 0 ∨ ∃ u, O i = some u
/-- Going up from a node that has been told leads to such a one. -/
def Chain (m : Nat) (O : Nat → Option Nat) : Prop := ∀ i u, 0 < i → i < m → O i = some u → u < i ∧ Proc O u

def mtL (vbo vbp a b : Nat) : List (Nat × AV) := [(0, dN a), (1, dN b), (2, .ptr 994 vbp 0 0 1), (3, .ptr 443 vbo 0 0 1)]
def mtE (vbo vo vbp vp n : Nat) (out place : List Int) : List (Nat × Ent) := [(443, ⟨vbo, some (.arr 1 [.sl 349 vo 0 n 1])⟩), (349, ⟨vo, some (.arr 1 (out.map dI))⟩), (994, ⟨vbp, some (.arr 1 [.sl 902 vp 0 n 1])⟩), (902, ⟨vp, some (.arr 1 (place.map dI))⟩)]
section
variable (vbo vo vbp vp n : Nat) (out place : List Int) (a b i j u : Nat)
theorem mtAUp (ha : a < n) (hb : b < n) (hpa : place[a]? = some (i : Int)) (hpb : place[b]? = some (j : Int)) (hij : j < i) (hu : out[a]? = some (u : Int)) (rest : Heap) (X : Fix) (hP : X.P = Try.prog) (hN : X.N = 37) :
    AW X (loopOf Try.prog 101 2) ⟨envOf (mtL vbo vbp a b), ovl (mtE vbo vo vbp vp n out place) rest⟩ fun e' S' => e' = .normal ∧ Weak X S' ⟨envOf (mtL vbo vbp u b), ovl (mtE vbo vo vbp vp n out place) rest⟩ :=
  seg okP named { hint := tabH Try.prog [(101, 12, hInb Try.prog a n ha), (101, 13, hElI Try.prog place a i hpa), (101, 16, hInb Try.prog b n hb), (101, 17, hElI Try.prog place b j hpb), (101, 18, hB Try.prog (decide ((j : Int) < (i : Int))) true (dec_true (by omega))), (101, 21, hInb Try.prog a n ha), (101, 22, hElI Try.prog out a u hu)] } 2000 101 500000 37 (by kernel_rfl) X hP hN
theorem mtAEnd (ha : a < n) (hb : b < n) (hpa : place[a]? = some (i : Int)) (hpb : place[b]? = some (j : Int)) (hij : i ≤ j) (rest : Heap) (X : Fix) (hP : X.P = Try.prog) (hN : X.N = 37) :
    AW X (loopOf Try.prog 101 2) ⟨envOf (mtL vbo vbp a b), ovl (mtE vbo vo vbp vp n out place) rest⟩ fun e' S' => e' = .exit 2 ∧ Weak X S' ⟨envOf (mtL vbo vbp a b), ovl (mtE vbo vo vbp vp n out place) rest⟩ :=
  seg okP named { hint := tabH Try.prog [(101, 12, hInb Try.prog a n ha), (101, 13, hElI Try.prog place a i hpa), (101, 16, hInb Try.prog b n hb), (101, 17, hElI Try.prog place b j hpb), (101, 18, hB Try.prog (decide ((j : Int) < (i : Int))) false (dec_false (by omega)))] } 2000 101 500000 37 (by kernel_rfl) X hP hN
theorem mtBUp (ha : a < n) (hb : b < n) (hpa : place[a]? = some (i : Int)) (hpb : place[b]? = some (j : Int)) (hij : i < j) (hu : out[b]? = some (u : Int)) (rest : Heap) (X : Fix) (hP : X.P = Try.prog) (hN : X.N = 37) :
    AW X (loopOf Try.prog 101 4) ⟨envOf (mtL vbo vbp a b), ovl (mtE vbo vo vbp vp n out place) rest⟩ fun e' S' => e' = .normal ∧ Weak X S' ⟨envOf (mtL vbo vbp a u), ovl (mtE vbo vo vbp vp n out place) rest⟩ :=
  seg okP named { hint := tabH Try.prog [(101, 25, hInb Try.prog b n hb), (101, 26, hElI Try.prog place b j hpb), (101, 29, hInb Try.prog a n ha), (101, 30, hElI Try.prog place a i hpa), (101, 31, hB Try.prog (decide ((i : Int) < (j : Int))) true (dec_true (by omega))), (101, 34, hInb Try.prog b n hb), (101, 35, hElI Try.prog out b u hu)] } 2000 101 500000 37 (by kernel_rfl) X hP hN
theorem mtBEnd (ha : a < n) (hb : b < n) (hpa : place[a]? = some (i : Int)) (hpb : place[b]? = some (j : Int)) (hij : j ≤ i) (rest : Heap) (X : Fix) (hP : X.P = Try.prog) (hN : X.N = 37) :
    AW X (loopOf Try.prog 101 4) ⟨envOf (mtL vbo vbp a b), ovl (mtE vbo vo vbp vp n out place) rest⟩ fun e' S' => e' = .exit 4 ∧ Weak X S' ⟨envOf (mtL vbo vbp a b), ovl (mtE vbo vo vbp vp n out place) rest⟩ :=
  seg okP named { hint := tabH Try.prog [(101, 25, hInb Try.prog b n hb), (101, 26, hElI Try.prog place b j hpb), (101, 29, hInb Try.prog a n ha), (101, 30, hElI Try.prog place a i hpa), (101, 31, hB Try.prog (decide ((i : Int) < (j : Int))) false (dec_false (by omega)))] } 2000 101 500000 37 (by kernel_rfl) X hP hN
theorem mtRound (a' b' : Nat) (hab : a ≠ b)
    (h2 : ∀ (rest : Heap) (X : Fix), X.P = Try.prog → X.N = 37 → AW X (.loop (loopOf Try.prog 101 2)) ⟨envOf (mtL vbo vbp a b), ovl (mtE vbo vo vbp vp n out place) rest⟩ fun e' S' => e' = .exit 2 ∧ S' = ⟨envOf (mtL vbo vbp a' b), ovl (mtE vbo vo vbp vp n out place) rest⟩)
    (h4 : ∀ (rest : Heap) (X : Fix), X.P = Try.prog → X.N = 37 → AW X (.loop (loopOf Try.prog 101 4)) ⟨envOf (mtL vbo vbp a' b), ovl (mtE vbo vo vbp vp n out place) rest⟩ fun e' S' => e' = .exit 4 ∧ S' = ⟨envOf (mtL vbo vbp a' b'), ovl (mtE vbo vo vbp vp n out place) rest⟩)
    (rest : Heap) (X : Fix) (hP : X.P = Try.prog) (hN : X.N = 37) :
    AW X (loopOf Try.prog 101 1) ⟨envOf (mtL vbo vbp a b), ovl (mtE vbo vo vbp vp n out place) rest⟩ fun e' S' => e' = .normal ∧ Weak X S' ⟨envOf (mtL vbo vbp a' b'), ovl (mtE vbo vo vbp vp n out place) rest⟩ :=
  seg okP named { loops := fun f q => if f = 101 then (if q = 2 then some ⟨37, loopOf Try.prog 101 2, mtL vbo vbp a b, fun _ => mtE vbo vo vbp vp n out place, .exit 2, mtL vbo vbp a' b, fun _ => mtE vbo vo vbp vp n out place, h2⟩ else if q = 4 then some ⟨37, loopOf Try.prog 101 4, mtL vbo vbp a' b, fun _ => mtE vbo vo vbp vp n out place, .exit 4, mtL vbo vbp a' b', fun _ => mtE vbo vo vbp vp n out place, h4⟩ else none) else none, hint := tabH Try.prog [(101, 9, hNeq Try.prog _ _ true (by rw [int_ne hab]; rfl))] } 2000 101 500000 37 (by kernel_rfl) X hP hN
theorem mtStop (rest : Heap) (X : Fix) (hP : X.P = Try.prog) (hN : X.N = 37) :
    AW X (loopOf Try.prog 101 1) ⟨envOf (mtL vbo vbp a a), ovl (mtE vbo vo vbp vp n out place) rest⟩ fun e' S' => e' = .exit 0 ∧ Weak X S' ⟨envOf [(0, dN a)], ovl (mtE vbo vo vbp vp n out place) rest⟩ :=
  seg okP named { hint := tabH Try.prog [(101, 9, hNeq Try.prog (a : Int) (a : Int) false (by simp))] } 2000 101 500000 37 (by kernel_rfl) X hP hN
theorem mtCall (r : Nat)
    (h1 : ∀ (rest : Heap) (X : Fix), X.P = Try.prog → X.N = 37 → AW X (.loop (loopOf Try.prog 101 1)) ⟨envOf (mtL vbo vbp a b), ovl (mtE vbo vo vbp vp n out place) rest⟩ fun e' S' => e' = .exit 0 ∧ S' = ⟨envOf [(0, dN r)], ovl (mtE vbo vo vbp vp n out place) rest⟩) (rest : Heap) :
    HCall Try.prog 101 [dN a, dN b, .ptr 994 vbp 0 0 1, .ptr 443 vbo 0 0 1] (ovl (mtE vbo vo vbp vp n out place) rest) [dN r] (ovl (mtE vbo vo vbp vp n out place) rest) :=
  hcall_of_run okP named { loops := fun f q => if f = 101 then (if q = 1 then some ⟨37, loopOf Try.prog 101 1, mtL vbo vbp a b, fun _ => mtE vbo vo vbp vp n out place, .exit 0, [(0, dN r)], fun _ => mtE vbo vo vbp vp n out place, h1⟩ else none) else none, hint := tabH Try.prog [] } 2000 500000 _ (by kernel_rfl)
end
section
variable {g : Graph} (hg : Valid g) {O : Nat → Option Nat} (hc : Chain (reachN g) O) (vbo vo vbp vp : Nat)
include hg hc
theorem mtALoop (j : Nat) (hj : j < reachN g) : ∀ (i : Nat), i < reachN g → Proc O i → ∃ i', i' ≤ i ∧ i' ≤ j ∧ Proc O i' ∧ (j < i → i' < i) ∧ (∀ y, y ≤ j → (Anc (upU O) y i ↔ Anc (upU O) y i')) ∧
    ∀ (rest : Heap) (X : Fix), X.P = Try.prog → X.N = 37 → LW X (loopOf Try.prog 101 2) ⟨envOf (mtL vbo vbp (nodeAt g i) (nodeAt g j)), ovl (mtE vbo vo vbp vp g.length (outL2 g O) (placeL g)) rest⟩ fun e' S' => e' = .exit 2 ∧ S' = ⟨envOf (mtL vbo vbp (nodeAt g i') (nodeAt g j)), ovl (mtE vbo vo vbp vp g.length (outL2 g O) (placeL g)) rest⟩ := fun i => by
  induction i using Nat.strongRecOn with
  | ind i ih =>
    intro hi hp
    rcases Nat.lt_or_ge j i with h | h
    · obtain ⟨u, hu⟩ := hp.resolve_left (by omega)
      obtain ⟨hlt, hpu⟩ := hc i u (by omega) hi hu
      obtain ⟨i', h1, h2, h3, _, h4, h5⟩ := ih u hlt (by omega) hpu
      refine ⟨i', by omega, h2, h3, fun _ => by omega, fun y hy => ?_, fun rest X hP hN => lw_seg (mtAUp vbo vo vbp vp g.length _ _ (nodeAt g i) (nodeAt g j) i j (nodeAt g u) (nodeAt_lt hg hi) (nodeAt_lt hg hj) (placeL_node hg hi) (placeL_node hg hj) h (outL_node hg hi (by omega) hu) rest X hP hN) (h5 rest X hP hN)⟩
      rw [← h4 y hy]
      have e : upU O i = u := by simp [upU, hu]
      constructor
      · intro ha
        have := (anc_up_of_ne ha (by omega)).2
        rwa [e] at this
      · intro ha
        exact .up (by omega) (by rw [e]; exact ha)
    · exact ⟨i, Nat.le_refl _, h, hp, fun hh => by omega, fun y _ => Iff.rfl, fun rest X hP hN => lw_end (mtAEnd vbo vo vbp vp g.length _ _ (nodeAt g i) (nodeAt g j) i j (nodeAt_lt hg hi) (nodeAt_lt hg hj) (placeL_node hg hi) (placeL_node hg hj) h rest X hP hN) (by simp)⟩
theorem mtBLoop (i : Nat) (hi : i < reachN g) : ∀ (j : Nat), j < reachN g → Proc O j → ∃ j', j' ≤ j ∧ j' ≤ i ∧ Proc O j' ∧ (i < j → j' < j) ∧ (∀ y, y ≤ i → (Anc (upU O) y j ↔ Anc (upU O) y j')) ∧
    ∀ (rest : Heap) (X : Fix), X.P = Try.prog → X.N = 37 → LW X (loopOf Try.prog 101 4) ⟨envOf (mtL vbo vbp (nodeAt g i) (nodeAt g j)), ovl (mtE vbo vo vbp vp g.length (outL2 g O) (placeL g)) rest⟩ fun e' S' => e' = .exit 4 ∧ S' = ⟨envOf (mtL vbo vbp (nodeAt g i) (nodeAt g j')), ovl (mtE vbo vo vbp vp g.length (outL2 g O) (placeL g)) rest⟩ := fun j => by
  induction j using Nat.strongRecOn with
  | ind j ih =>
    intro hj hp
    rcases Nat.lt_or_ge i j with h | h
    · obtain ⟨u, hu⟩ := hp.resolve_left (by omega)
      obtain ⟨hlt, hpu⟩ := hc j u (by omega) hj hu
      obtain ⟨j', h1, h2, h3, _, h4, h5⟩ := ih u hlt (by omega) hpu
      refine ⟨j', by omega, h2, h3, fun _ => by omega, fun y hy => ?_, fun rest X hP hN => lw_seg (mtBUp vbo vo vbp vp g.length _ _ (nodeAt g i) (nodeAt g j) i j (nodeAt g u) (nodeAt_lt hg hi) (nodeAt_lt hg hj) (placeL_node hg hi) (placeL_node hg hj) h (outL_node hg hj (by omega) hu) rest X hP hN) (h5 rest X hP hN)⟩
      rw [← h4 y hy]
      have e : upU O j = u := by simp [upU, hu]
      constructor
      · intro ha
        have := (anc_up_of_ne ha (by omega)).2
        rwa [e] at this
      · intro ha
        exact .up (by omega) (by rw [e]; exact ha)
    · exact ⟨j, Nat.le_refl _, h, hp, fun hh => by omega, fun y _ => Iff.rfl, fun rest X hP hN => lw_end (mtBEnd vbo vo vbp vp g.length _ _ (nodeAt g i) (nodeAt g j) i j (nodeAt_lt hg hi) (nodeAt_lt hg hj) (placeL_node hg hi) (placeL_node hg hj) h rest X hP hN) (by simp)⟩
theorem anc_le_chain : ∀ i, i < reachN g → Proc O i → ∀ y, Anc (upU O) y i → y ≤ i := fun i => by
  induction i using Nat.strongRecOn with
  | ind i ih =>
    intro hi hp y h
    by_cases hy : y = i
    · omega
    · obtain ⟨h0, h1⟩ := anc_up_of_ne h hy
      obtain ⟨u, hu⟩ := hp.resolve_left (by omega)
      obtain ⟨hlt, hpu⟩ := hc i u h0 hi hu
      have e : upU O i = u := by simp [upU, hu]
      rw [e] at h1
      have := ih u hlt (by omega) hpu y h1
      omega
theorem mtLoop : ∀ (m i j : Nat), i + j = m → i < reachN g → j < reachN g → Proc O i → Proc O j → ∃ r, r < reachN g ∧ Proc O r ∧ (∀ y, Anc (upU O) y r ↔ Anc (upU O) y i ∧ Anc (upU O) y j) ∧
    ∀ (rest : Heap) (X : Fix), X.P = Try.prog → X.N = 37 → LW X (loopOf Try.prog 101 1) ⟨envOf (mtL vbo vbp (nodeAt g i) (nodeAt g j)), ovl (mtE vbo vo vbp vp g.length (outL2 g O) (placeL g)) rest⟩ fun e' S' => e' = .exit 0 ∧ S' = ⟨envOf [(0, dN (nodeAt g r))], ovl (mtE vbo vo vbp vp g.length (outL2 g O) (placeL g)) rest⟩ := fun m => by
  induction m using Nat.strongRecOn with
  | ind m ih =>
    intro i j hm hi hj hpi hpj
    by_cases hij : i = j
    · subst hij
      exact ⟨i, hi, hpi, fun y => by simp, fun rest X hP hN => lw_end (mtStop vbo vo vbp vp g.length _ _ _ rest X hP hN) (by simp)⟩
    · obtain ⟨i', a1, a2, a3, a4, a5, a6⟩ := mtALoop hg hc vbo vo vbp vp j hj i hi hpi
      have hi' : i' < reachN g := by omega
      obtain ⟨j', b1, b2, b3, b4, b5, b6⟩ := mtBLoop hg hc vbo vo vbp vp i' hi' j hj hpj
      have hdec : i' + j' < m := by
        rcases Nat.lt_or_ge j i with h | h
        · have := a4 h; omega
        · have hlt : i < j := by omega
          have : i' < j := by omega
          have := b4 this
          omega
      obtain ⟨r, r1, r2, r3, r4⟩ := ih (i' + j') hdec i' j' rfl hi' (by omega) a3 b3
      refine ⟨r, r1, r2, fun y => ?_, fun rest X hP hN => lw_seg (mtRound vbo vo vbp vp g.length _ _ (nodeAt g i) (nodeAt g j) (nodeAt g i') (nodeAt g j') (fun h => hij (nodeAt_inj hg hi hj h)) (fun rest X hP hN => (a6 rest X hP hN).aw) (fun rest X hP hN => (b6 rest X hP hN).aw) rest X hP hN) (r4 rest X hP hN)⟩
      rw [r3 y]
      constructor
      · rintro ⟨h1, h2⟩
        have hy1 := anc_le_chain hg hc i' hi' a3 y h1
        have hy2 := anc_le_chain hg hc j' (by omega) b3 y h2
        exact ⟨(a5 y (by omega)).2 h1, (b5 y hy1).2 h2⟩
      · rintro ⟨h1, h2⟩
        have hy2 := anc_le_chain hg hc j hj hpj y h2
        have h3 := (a5 y hy2).1 h1
        have hy1 := anc_le_chain hg hc i' hi' a3 y h3
        exact ⟨h3, (b5 y hy1).1 h2⟩
/-- meet. -/
theorem meetC {i j : Nat} (hi : i < reachN g) (hj : j < reachN g) (hpi : Proc O i) (hpj : Proc O j) : ∃ r, r < reachN g ∧ Proc O r ∧ (∀ y, Anc (upU O) y r ↔ Anc (upU O) y i ∧ Anc (upU O) y j) ∧
    ∀ rest : Heap, HCall Try.prog 101 [dN (nodeAt g i), dN (nodeAt g j), .ptr 994 vbp 0 0 1, .ptr 443 vbo 0 0 1] (ovl (mtE vbo vo vbp vp g.length (outL2 g O) (placeL g)) rest) [dN (nodeAt g r)] (ovl (mtE vbo vo vbp vp g.length (outL2 g O) (placeL g)) rest) := by
  obtain ⟨r, r1, r2, r3, r4⟩ := mtLoop hg hc vbo vo vbp vp _ i j rfl hi hj hpi hpj
  exact ⟨r, r1, r2, r3, fun rest => mtCall vbo vo vbp vp g.length _ _ _ _ _ (fun rest X hP hN => (r4 rest X hP hN).aw) rest⟩
end
end Go.Avm
/-
  Flow: the nearest above, round by round.
-/
set_option linter.unusedSectionVars false
namespace Go.Avm
open Go.Proofs Go.Avm.Dom

theorem plOf_some {g : Graph} {v i : Nat} (h : plOf g v = some i) : i < reachN g ∧ nodeAt g i = v := by
  unfold plOf at h
  have h1 := List.find?_some h
  have h2 := List.mem_of_find?_eq_some h
  simp only [beq_iff_eq] at h1
  exact ⟨by simpa using h2, h1⟩
/-- The places of the first k nodes are told. -/
def placeAt (g : Graph) (k : Nat) : List Int := (List.range g.length).map fun v => match plOf g v with
  | some i => if i < k then (i : Int) else -1
  | none => -1
theorem placeAt_zero (g : Graph) : placeAt g 0 = List.replicate g.length (-1) := by
  unfold placeAt
  apply List.ext_getElem?
  intro t
  rcases Nat.lt_or_ge t g.length with ht | ht
  · rw [List.getElem?_map, List.getElem?_range ht]
    simp only [Option.map_some, List.getElem?_replicate, ht, if_true]
    cases plOf g t <;> simp
  · rw [List.getElem?_eq_none (by simp; omega), List.getElem?_eq_none (by simp; omega)]
theorem placeAt_all (g : Graph) : placeAt g (reachN g) = placeL g := by
  unfold placeAt placeL placeI
  apply List.map_congr_left
  intro v _
  cases h : plOf g v with
  | none => rfl
  | some i => simp [(plOf_some h).1]
theorem placeAt_set {g : Graph} (hg : Valid g) {k : Nat} (hk : k < reachN g) : (placeAt g k).set (nodeAt g k) (k : Int) = placeAt g (k + 1) := by
  apply List.ext_getElem?
  intro t
  have hl : ∀ k, (placeAt g k).length = g.length := fun k => by simp [placeAt]
  rcases Nat.lt_or_ge t g.length with ht | ht
  · by_cases htk : nodeAt g k = t
    · rw [htk, List.getElem?_set_self (by rw [hl]; exact ht)]
      unfold placeAt
      rw [List.getElem?_map, List.getElem?_range ht, Option.map_some, ← htk, plOf_node hg hk]
      simp
    · rw [List.getElem?_set_ne htk]
      unfold placeAt
      rw [List.getElem?_map, List.getElem?_map, List.getElem?_range ht, Option.map_some, Option.map_some]
      congr 1
      cases h : plOf g t with
      | none => rfl
      | some i =>
        have hne : i ≠ k := fun e => htk (e ▸ (plOf_some h).2)
        show (if i < k then (i : Int) else -1) = (if i < k + 1 then (i : Int) else -1)
        by_cases hik : i < k
        · rw [if_pos hik, if_pos (by omega)]
        · rw [if_neg hik, if_neg (by omega)]
  · rw [List.getElem?_eq_none (by simp [hl]; omega), List.getElem?_eq_none (by rw [hl]; omega)]
theorem outL2_congr {g : Graph} {O O' : Nat → Option Nat} (h : ∀ i, i < reachN g → O i = O' i) : outL2 g O = outL2 g O' := by
  unfold outL2 outI
  apply List.map_congr_left
  intro v _
  cases hp : plOf g v with
  | none => rfl
  | some i => simp only [h i (plOf_some hp).1]
theorem outL2_none (g : Graph) : outL2 g (fun _ => none) = List.replicate g.length (-1) := by
  unfold outL2 outI
  apply List.ext_getElem?
  intro t
  rcases Nat.lt_or_ge t g.length with ht | ht
  · rw [List.getElem?_map, List.getElem?_range ht]
    simp only [Option.map_some, List.getElem?_replicate, ht, if_true]
    cases plOf g t <;> simp
  · rw [List.getElem?_eq_none (by simp; omega), List.getElem?_eq_none (by simp; omega)]
theorem outL2_set {g : Graph} (hg : Valid g) {O : Nat → Option Nat} {i r : Nat} (h0 : 0 < i) (hi : i < reachN g) : (outL2 g O).set (nodeAt g i) (nodeAt g r : Int) = outL2 g (fun j => if j = i then some r else O j) := by
  apply List.ext_getElem?
  intro t
  rcases Nat.lt_or_ge t g.length with ht | ht
  · by_cases htk : nodeAt g i = t
    · rw [htk, List.getElem?_set_self (by rw [outL_len]; exact ht)]
      unfold outL2 outI
      rw [List.getElem?_map, List.getElem?_range ht, Option.map_some, ← htk, plOf_node hg hi]
      simp
      omega
    · rw [List.getElem?_set_ne htk]
      unfold outL2 outI
      rw [List.getElem?_map, List.getElem?_map, List.getElem?_range ht, Option.map_some, Option.map_some]
      congr 1
      cases h : plOf g t with
      | none => rfl
      | some j =>
        have hne : j ≠ i := fun e => htk (e ▸ (plOf_some h).2)
        simp [hne]
  · rw [List.getElem?_eq_none (by simp [outL_len]; omega), List.getElem?_eq_none (by rw [outL_len]; omega)]

def abB (g : Graph) (c : Bool) : List (Nat × AV) := [(3, .ptr 443 1 0 0 1), (4, .ptr 994 1 0 0 1), (6, .d (.ro (intsN (orderOf g)))), (9, .d (rowsN (intoOf g))), (10, .fn 101 [.ptr 994 1 0 0 1, .ptr 443 1 0 0 1]), (11, dB c)]
def abList (g : Graph) : List D := ((intsN (orderOf g)).take (intsN (orderOf g)).length).drop 1
def abO (g : Graph) (c : Bool) (i : Nat) : List (Nat × AV) := abB g c ++ [(57, .d (.ro (abList g))), (58, dN (reachN g - 1)), (59, dN i)]
def abI (g : Graph) (c : Bool) (i n : Nat) (best : Int) (r : List Nat) (k : Nat) : List (Nat × AV) := abB g c ++ [(13, dN n), (14, dI best), (57, .d (.ro (abList g))), (58, dN (reachN g - 1)), (59, dN i), (66, .d (rowN r)), (67, dN r.length), (68, dN k)]
def abI' (g : Graph) (c : Bool) (i n : Nat) (best : Int) : List (Nat × AV) := abB g c ++ [(13, dN n), (14, dI best), (57, .d (.ro (abList g))), (58, dN (reachN g - 1)), (59, dN i)]
abbrev abE (n : Nat) (out place : List Int) : List (Nat × Ent) := mtE 1 1 1 1 n out place
section
variable (g : Graph) (c : Bool) (i n : Nat) (best : Int) (r : List Nat) (k p : Nat) (out place : List Int)
theorem abFar (hk : k < r.length) (hrl : r.length < 1000000000) (hp : r[k]? = some p) (hpl : p < g.length) (h1 : place[p]? = some (-1)) (rest : Heap) (X : Fix) (hP : X.P = Try.prog) (hN : X.N = 110) :
    AW X (loopOf Try.prog 74 24) ⟨envOf (abI g c i n best r k), ovl (abE g.length out place) rest⟩ fun e' S' => e' = .normal ∧ Weak X S' ⟨envOf (abI g c i n best r (k + 1)), ovl (abE g.length out place) rest⟩ :=
  seg okP named { hint := tabH Try.prog [(74, 69, hLt Try.prog k r.length true (by simpa using hk)), (74, 70, hIxN Try.prog r k p hp), (74, 79, hInb Try.prog p g.length hpl), (74, 80, hElI Try.prog place p (-1) h1), (74, 97, hSucc Try.prog k (by omega))] } 2000 74 500000 110 (by kernel_rfl) X hP hN
theorem abNot (j : Nat) (hk : k < r.length) (hrl : r.length < 1000000000) (hp : r[k]? = some p) (hpl : p < g.length) (h1 : place[p]? = some (j : Int)) (h0 : p ≠ 0) (h2 : out[p]? = some (-1)) (rest : Heap) (X : Fix) (hP : X.P = Try.prog) (hN : X.N = 110) :
    AW X (loopOf Try.prog 74 24) ⟨envOf (abI g c i n best r k), ovl (abE g.length out place) rest⟩ fun e' S' => e' = .normal ∧ Weak X S' ⟨envOf (abI g c i n best r (k + 1)), ovl (abE g.length out place) rest⟩ :=
  seg okP named { hint := tabH Try.prog [(74, 69, hLt Try.prog k r.length true (by simpa using hk)), (74, 70, hIxN Try.prog r k p hp), (74, 79, hInb Try.prog p g.length hpl), (74, 80, hElI Try.prog place p (j : Int) h1), (74, 84, hNeq Try.prog (p : Int) 0 true (by rw [beq_eq_false_iff_ne.2 (by omega)]; rfl)), (74, 88, hInb Try.prog p g.length hpl), (74, 89, hElI Try.prog out p (-1) h2), (74, 97, hSucc Try.prog k (by omega))] } 2000 74 500000 110 (by kernel_rfl) X hP hN
theorem abRootFirst (j : Nat) (hk : k < r.length) (hrl : r.length < 1000000000) (hp : r[k]? = some 0) (hpl : 0 < g.length) (h1 : place[0]? = some (j : Int)) (rest : Heap) (X : Fix) (hP : X.P = Try.prog) (hN : X.N = 110) :
    AW X (loopOf Try.prog 74 24) ⟨envOf (abI g c i n (-1) r k), ovl (abE g.length out place) rest⟩ fun e' S' => e' = .normal ∧ Weak X S' ⟨envOf (abI g c i n 0 r (k + 1)), ovl (abE g.length out place) rest⟩ :=
  seg okP named { hint := tabH Try.prog [(74, 69, hLt Try.prog k r.length true (by simpa using hk)), (74, 70, hIxN Try.prog r k 0 hp), (74, 79, hInb Try.prog 0 g.length hpl), (74, 80, hElI Try.prog place 0 (j : Int) h1), (74, 97, hSucc Try.prog k (by omega))] } 2000 74 500000 110 (by kernel_rfl) X hP hN
theorem abFirst (j u : Nat) (hk : k < r.length) (hrl : r.length < 1000000000) (hp : r[k]? = some p) (hpl : p < g.length) (h1 : place[p]? = some (j : Int)) (h0 : p ≠ 0) (h2 : out[p]? = some (u : Int)) (rest : Heap) (X : Fix) (hP : X.P = Try.prog) (hN : X.N = 110) :
    AW X (loopOf Try.prog 74 24) ⟨envOf (abI g c i n (-1) r k), ovl (abE g.length out place) rest⟩ fun e' S' => e' = .normal ∧ Weak X S' ⟨envOf (abI g c i n (p : Int) r (k + 1)), ovl (abE g.length out place) rest⟩ :=
  seg okP named { hint := tabH Try.prog [(74, 69, hLt Try.prog k r.length true (by simpa using hk)), (74, 70, hIxN Try.prog r k p hp), (74, 79, hInb Try.prog p g.length hpl), (74, 80, hElI Try.prog place p (j : Int) h1), (74, 84, hNeq Try.prog (p : Int) 0 true (by rw [beq_eq_false_iff_ne.2 (by omega)]; rfl)), (74, 88, hInb Try.prog p g.length hpl), (74, 89, hElI Try.prog out p (u : Int) h2), (74, 97, hSucc Try.prog k (by omega))] } 2000 74 500000 110 (by kernel_rfl) X hP hN
theorem abRootMeet (j q t : Nat) (hk : k < r.length) (hrl : r.length < 1000000000) (hp : r[k]? = some 0) (hpl : 0 < g.length) (h1 : place[0]? = some (j : Int))
    (hm : ∀ rest : Heap, HCall Try.prog 101 [dN q, dN 0, .ptr 994 1 0 0 1, .ptr 443 1 0 0 1] (ovl (abE g.length out place) rest) [dN t] (ovl (abE g.length out place) rest)) (rest : Heap) (X : Fix) (hP : X.P = Try.prog) (hN : X.N = 110) :
    AW X (loopOf Try.prog 74 24) ⟨envOf (abI g c i n (q : Int) r k), ovl (abE g.length out place) rest⟩ fun e' S' => e' = .normal ∧ Weak X S' ⟨envOf (abI g c i n (t : Int) r (k + 1)), ovl (abE g.length out place) rest⟩ :=
  seg okP named { calls := fun f s _ => if f = 74 then (if s = 75 then some ⟨101, _, _, _, _, fits_of hm⟩ else none) else none, hint := tabH Try.prog [(74, 69, hLt Try.prog k r.length true (by simpa using hk)), (74, 70, hIxN Try.prog r k 0 hp), (74, 79, hInb Try.prog 0 g.length hpl), (74, 80, hElI Try.prog place 0 (j : Int) h1), (74, 97, hSucc Try.prog k (by omega))] } 2000 74 500000 110 (by kernel_rfl) X hP hN
theorem abMeet (j u q t : Nat) (hk : k < r.length) (hrl : r.length < 1000000000) (hp : r[k]? = some p) (hpl : p < g.length) (h1 : place[p]? = some (j : Int)) (h0 : p ≠ 0) (h2 : out[p]? = some (u : Int))
    (hm : ∀ rest : Heap, HCall Try.prog 101 [dN q, dN p, .ptr 994 1 0 0 1, .ptr 443 1 0 0 1] (ovl (abE g.length out place) rest) [dN t] (ovl (abE g.length out place) rest)) (rest : Heap) (X : Fix) (hP : X.P = Try.prog) (hN : X.N = 110) :
    AW X (loopOf Try.prog 74 24) ⟨envOf (abI g c i n (q : Int) r k), ovl (abE g.length out place) rest⟩ fun e' S' => e' = .normal ∧ Weak X S' ⟨envOf (abI g c i n (t : Int) r (k + 1)), ovl (abE g.length out place) rest⟩ :=
  seg okP named { calls := fun f s _ => if f = 74 then (if s = 75 then some ⟨101, _, _, _, _, fits_of hm⟩ else none) else none, hint := tabH Try.prog [(74, 69, hLt Try.prog k r.length true (by simpa using hk)), (74, 70, hIxN Try.prog r k p hp), (74, 79, hInb Try.prog p g.length hpl), (74, 80, hElI Try.prog place p (j : Int) h1), (74, 84, hNeq Try.prog (p : Int) 0 true (by rw [beq_eq_false_iff_ne.2 (by omega)]; rfl)), (74, 88, hInb Try.prog p g.length hpl), (74, 89, hElI Try.prog out p (u : Int) h2), (74, 97, hSucc Try.prog k (by omega))] } 2000 74 500000 110 (by kernel_rfl) X hP hN
theorem abIStop (rest : Heap) (X : Fix) (hP : X.P = Try.prog) (hN : X.N = 110) :
    AW X (loopOf Try.prog 74 24) ⟨envOf (abI g c i n best r r.length), ovl (abE g.length out place) rest⟩ fun e' S' => e' = .exit 8 ∧ Weak X S' ⟨envOf (abI' g c i n best), ovl (abE g.length out place) rest⟩ :=
  seg okP named { hint := tabH Try.prog [(74, 69, hLt Try.prog r.length r.length false (by simp))] } 2000 74 500000 110 (by kernel_rfl) X hP hN
theorem abListGet (hi : i + 1 < reachN g) : (abList g)[i]? = some (.int .i64 (nodeAt g (i + 1) : Int)) := by
  unfold abList intsN
  rw [List.take_length, List.getElem?_drop, List.getElem?_map, show 1 + i = i + 1 by omega, nodeAt_get hi]
  rfl
theorem abSame (i0 : Nat) (b : Nat) (hi : i + 1 < reachN g) (hgl : reachN g < 100000) (hn : nodeAt g (i + 1) = n) (hnl : n < g.length) (hr : (intoOf g)[n]? = some r) (hb : (out[n]? = some (b : Int)))
    (hl : ∀ (rest : Heap) (X : Fix), X.P = Try.prog → X.N = 110 → AW X (.loop (loopOf Try.prog 74 24)) ⟨envOf (abI g c i n (-1) r 0), ovl (abE g.length out place) rest⟩ fun e' S' => e' = .exit 8 ∧ S' = ⟨envOf (abI' g c i n (b : Int)), ovl (abE g.length out place) rest⟩)
    (rest : Heap) (X : Fix) (hP : X.P = Try.prog) (hN : X.N = 110) :
    AW X (loopOf Try.prog 74 20) ⟨envOf (abO g c i), ovl (abE g.length out place) rest⟩ fun e' S' => e' = .normal ∧ Weak X S' ⟨envOf (abO g c (i + 1)), ovl (abE g.length out place) rest⟩ :=
  seg okP named { loops := fun f q => if f = 74 then (if q = 24 then some ⟨110, loopOf Try.prog 74 24, abI g c i n (-1) r 0, fun _ => abE g.length out place, .exit 8, abI' g c i n (b : Int), fun _ => abE g.length out place, hl⟩ else none) else none, hint := tabH Try.prog [(74, 60, hLt Try.prog i (reachN g - 1) true (by simp; omega)), (74, 61, .idx (abList g) ((i : Nat) : Int) (.int .i64 (n : Int)) (by omega) (by rw [← hn]; exact abListGet g i hi)), (74, 65, hIxG Try.prog (intoOf g) n r hr), (74, 67, hLenN Try.prog r), (74, 100, hInb Try.prog n g.length hnl), (74, 101, hElI Try.prog out n (b : Int) hb), (74, 103, hNeq Try.prog (b : Int) (b : Int) false (by simp)), (74, 108, hSucc Try.prog i (by omega))] } 2000 74 500000 110 (by kernel_rfl) X hP hN
theorem abDiff (o : Int) (b : Nat) (hi : i + 1 < reachN g) (hgl : reachN g < 100000) (hn : nodeAt g (i + 1) = n) (hnl : n < g.length) (hr : (intoOf g)[n]? = some r) (hb : (out[n]? = some o)) (hob : o ≠ (b : Int))
    (hl : ∀ (rest : Heap) (X : Fix), X.P = Try.prog → X.N = 110 → AW X (.loop (loopOf Try.prog 74 24)) ⟨envOf (abI g c i n (-1) r 0), ovl (abE g.length out place) rest⟩ fun e' S' => e' = .exit 8 ∧ S' = ⟨envOf (abI' g c i n (b : Int)), ovl (abE g.length out place) rest⟩)
    (rest : Heap) (X : Fix) (hP : X.P = Try.prog) (hN : X.N = 110) :
    AW X (loopOf Try.prog 74 20) ⟨envOf (abO g c i), ovl (abE g.length out place) rest⟩ fun e' S' => e' = .normal ∧ Weak X S' ⟨envOf (abO g true (i + 1)), ovl (abE g.length (out.set n (b : Int)) place) rest⟩ := by
  unfold abE mtE
  rw [← mapI]
  exact seg okP named { loops := fun f q => if f = 74 then (if q = 24 then some ⟨110, loopOf Try.prog 74 24, abI g c i n (-1) r 0, fun _ => abE g.length out place, .exit 8, abI' g c i n (b : Int), fun _ => abE g.length out place, hl⟩ else none) else none, hint := tabH Try.prog [(74, 60, hLt Try.prog i (reachN g - 1) true (by simp; omega)), (74, 61, .idx (abList g) ((i : Nat) : Int) (.int .i64 (n : Int)) (by omega) (by rw [← hn]; exact abListGet g i hi)), (74, 65, hIxG Try.prog (intoOf g) n r hr), (74, 67, hLenN Try.prog r), (74, 100, hInb Try.prog n g.length hnl), (74, 101, hElI Try.prog out n o hb), (74, 103, hNeq Try.prog o (b : Int) true (by rw [beq_eq_false_iff_ne.2 hob]; rfl)), (74, 107, hInb Try.prog n g.length hnl), (74, 132004, hElI Try.prog out n o hb), (74, 108, hSucc Try.prog i (by omega))] } 2000 74 500000 110 (by kernel_rfl) X hP hN
theorem abOStop (rest : Heap) (X : Fix) (hP : X.P = Try.prog) (hN : X.N = 110) :
    AW X (loopOf Try.prog 74 20) ⟨envOf (abO g c (reachN g - 1)), ovl (abE g.length out place) rest⟩ fun e' S' => e' = .exit 6 ∧ Weak X S' ⟨envOf (abB g c), ovl (abE g.length out place) rest⟩ :=
  seg okP named { hint := tabH Try.prog [(74, 60, hLt Try.prog (reachN g - 1) (reachN g - 1) false (by simp))] } 2000 74 500000 110 (by kernel_rfl) X hP hN
theorem abListLen : (abList g).length = reachN g - 1 := by
  unfold abList intsN reachN
  simp
theorem abWRound (c' : Bool) (out' : List Int) (hm : 0 < reachN g) (hgl : reachN g < 100000)
    (hl : ∀ (rest : Heap) (X : Fix), X.P = Try.prog → X.N = 110 → AW X (.loop (loopOf Try.prog 74 20)) ⟨envOf (abO g false 0), ovl (abE g.length out place) rest⟩ fun e' S' => e' = .exit 6 ∧ S' = ⟨envOf (abB g c'), ovl (abE g.length out' place) rest⟩)
    (rest : Heap) (X : Fix) (hP : X.P = Try.prog) (hN : X.N = 110) :
    AW X (loopOf Try.prog 74 17) ⟨envOf (abB g true), ovl (abE g.length out place) rest⟩ fun e' S' => e' = .normal ∧ Weak X S' ⟨envOf (abB g c'), ovl (abE g.length out' place) rest⟩ :=
  seg okP named { loops := fun f q => if f = 74 then (if q = 20 then some ⟨110, loopOf Try.prog 74 20, abO g false 0, fun _ => abE g.length out place, .exit 6, abB g c', fun _ => abE g.length out' place, hl⟩ else none) else none, hint := tabH Try.prog [(74, 55, hNat Try.prog ((intsN (orderOf g)).length) (reachN g) (by rw [intsN_len]; rfl)), (74, 56, hI Try.prog (if ((reachN g : Nat) : Int) < 1 then ((reachN g : Nat) : Int) else 1) 1 (by rw [if_neg (by omega)])), (74, 57, .cutr (intsN (orderOf g)) 1 (intsN (orderOf g)).length 1 ⟨by rw [intsN_len]; exact hm, Nat.le_refl _, by simp [intsN, D.cells]⟩), (74, 58, hNat Try.prog ((abList g).length) (reachN g - 1) (by rw [abListLen]))] } 2000 74 500000 110 (by kernel_rfl) X hP hN
theorem abWStop (rest : Heap) (X : Fix) (hP : X.P = Try.prog) (hN : X.N = 110) :
    AW X (loopOf Try.prog 74 17) ⟨envOf (abB g false), ovl (abE g.length out place) rest⟩ fun e' S' => e' = .exit 4 ∧ Weak X S' ⟨envOf [(3, .ptr 443 1 0 0 1)], ovl (abE g.length out place) rest⟩ :=
  seg okP named { hint := tabH Try.prog [] } 2000 74 500000 110 (by kernel_rfl) X hP hN
end
end Go.Avm
/-
  Flow: the nearest above, till nothing changes.
-/
set_option linter.unusedSectionVars false
namespace Go.Avm
open Go.Proofs Go.Avm.Dom

theorem anc_pos {m : Nat} {U V : Nat → Nat} (hU : Dom.Good m U) (he : ∀ i, 0 < i → i < m → U i = V i) : ∀ n, n < m → ∀ y, Anc U y n ↔ Anc V y n := fun n => by
  induction n using Nat.strongRecOn with
  | ind n ih =>
    intro hn y
    by_cases hy : y = n
    · subst hy; exact ⟨fun _ => .refl _, fun _ => .refl _⟩
    · constructor
      · intro h
        obtain ⟨h0, h1⟩ := anc_up_of_ne h hy
        have hlt := hU n h0 hn
        refine .up h0 ?_
        rw [← he n h0 hn]
        exact (ih _ hlt (by omega) y).1 h1
      · intro h
        obtain ⟨h0, h1⟩ := anc_up_of_ne h hy
        have hlt := hU n h0 hn
        refine .up h0 ((ih _ hlt (by omega) y).2 ?_)
        rw [he n h0 hn]
        exact h1
section
variable {g : Graph} (hg : Valid g) (hg0 : 0 < g.length)
include hg hg0
theorem placeL_none {v : Nat} (hv : v < g.length) (h : plOf g v = none) : (placeL g)[v]? = some (-1) := by
  unfold placeL
  rw [List.getElem?_map, List.getElem?_range hv]
  simp [placeI, h]
theorem outL_none {O : Nat → Option Nat} {i : Nat} (hi : i < reachN g) (h : O i = none) : (outL2 g O)[nodeAt g i]? = some (-1) := by
  unfold outL2
  rw [List.getElem?_map, List.getElem?_range (nodeAt_lt hg hi)]
  simp [outI, plOf_node hg hi, h]
end
/-- What is known of the best one behind some of those that go on to a node. -/
def BestOk (g : Graph) (O : Nat → Option Nat) (ps : List Nat) (best : Int) : Prop :=
  (best = -1 ∧ ∀ p ∈ ps, ∀ j, plOf g p = some j → ¬ Proc O j) ∨
  ∃ r, r < reachN g ∧ Proc O r ∧ best = (nodeAt g r : Int) ∧ (∃ p ∈ ps, ∃ j, plOf g p = some j ∧ Proc O j) ∧ ∀ y, Anc (upU O) y r ↔ ∀ p ∈ ps, ∀ j, plOf g p = some j → Proc O j → Anc (upU O) y j
theorem BestOk.skip {g : Graph} {O : Nat → Option Nat} {ps : List Nat} {best : Int} {p : Nat} (h : BestOk g O ps best) (hp : ∀ j, plOf g p = some j → ¬ Proc O j) : BestOk g O (ps ++ [p]) best := by
  rcases h with ⟨h1, h2⟩ | ⟨r, h1, h2, h3, ⟨q, hq, hq2⟩, h4⟩
  · refine .inl ⟨h1, fun q hq => ?_⟩
    rcases List.mem_append.1 hq with hq | hq
    · exact h2 q hq
    · simp only [List.mem_singleton] at hq
      subst hq; exact hp
  · refine .inr ⟨r, h1, h2, h3, ⟨q, by simp [hq], hq2⟩, fun y => ?_⟩
    rw [h4 y]
    constructor
    · intro ha q hq j hj hpj
      rcases List.mem_append.1 hq with hq | hq
      · exact ha q hq j hj hpj
      · simp only [List.mem_singleton] at hq
        subst hq
        exact absurd hpj (hp j hj)
    · intro ha q hq
      exact ha q (by simp [hq])
section
variable {g : Graph} (hg : Valid g) (hg0 : 0 < g.length) (hgl : g.length < 100000)
include hg hg0 hgl
theorem abStep (c : Bool) (i n : Nat) {O : Nat → Option Nat} (hc : Chain (reachN g) O) (r : List Nat) (hr : ∀ p ∈ r, p < g.length) (hrl : r.length < 1000000000) (k : Nat) (hk : k < r.length) (best : Int) (hb : BestOk g O (r.take k) best) :
    ∃ best', BestOk g O (r.take (k + 1)) best' ∧ ∀ (rest : Heap) (X : Fix), X.P = Try.prog → X.N = 110 →
      AW X (loopOf Try.prog 74 24) ⟨envOf (abI g c i n best r k), ovl (abE g.length (outL2 g O) (placeL g)) rest⟩ fun e' S' => e' = .normal ∧ Weak X S' ⟨envOf (abI g c i n best' r (k + 1)), ovl (abE g.length (outL2 g O) (placeL g)) rest⟩ := by
  have hp : r[k]? = some r[k] := List.getElem?_eq_getElem hk
  have hpl : r[k] < g.length := hr _ (List.getElem_mem hk)
  rw [List.take_succ_eq_append_getElem hk]
  generalize r[k] = p at hp hpl
  cases hpo : plOf g p with
  | none =>
    exact ⟨best, hb.skip (fun j hj => by rw [hpo] at hj; cases hj), fun rest X hP hN => abFar g c i n best r k p _ _ hk hrl hp hpl (placeL_none hg hg0 hpl hpo) rest X hP hN⟩
  | some j =>
    obtain ⟨hj, hjp⟩ := plOf_some hpo
    have h1 : (placeL g)[p]? = some (j : Int) := by rw [← hjp]; exact placeL_node hg hj
    have hone : ∀ (P : Nat → Prop), (∀ q ∈ [p], ∀ j', plOf g q = some j' → P j') ↔ P j := fun P => by
      constructor
      · intro h; exact h p (by simp) j hpo
      · intro h q hq j' hj'
        simp only [List.mem_singleton] at hq
        subst hq
        rw [hpo] at hj'
        cases hj'
        exact h
    -- a new one that counts
    have new1 : Proc O j → (best = -1 ∧ ∀ q ∈ r.take k, ∀ j, plOf g q = some j → ¬ Proc O j) → BestOk g O (r.take k ++ [p]) (nodeAt g j : Int) := fun hpj ⟨_, h2⟩ =>
      .inr ⟨j, hj, hpj, rfl, ⟨p, by simp, j, hpo, hpj⟩, fun y => by
        constructor
        · intro ha q hq j' hj' hp'
          rcases List.mem_append.1 hq with hq | hq
          · exact absurd hp' (h2 q hq j' hj')
          · exact (hone (fun j' => Proc O j' → Anc (upU O) y j')).2 (fun _ => ha) q hq j' hj' hp'
        · intro ha; exact ha p (by simp) j hpo hpj⟩
    have new2 : ∀ q t, Proc O j → t < reachN g → Proc O t → (∀ y, Anc (upU O) y t ↔ Anc (upU O) y q ∧ Anc (upU O) y j) → (∀ y, Anc (upU O) y q ↔ ∀ p ∈ r.take k, ∀ j, plOf g p = some j → Proc O j → Anc (upU O) y j) → BestOk g O (r.take k ++ [p]) (nodeAt g t : Int) := fun q t hpj ht hpt hq1 hq2 =>
      .inr ⟨t, ht, hpt, rfl, ⟨p, by simp, j, hpo, hpj⟩, fun y => by
        rw [hq1 y, hq2 y]
        constructor
        · rintro ⟨ha, hb⟩ q hq j' hj' hp'
          rcases List.mem_append.1 hq with hq | hq
          · exact ha q hq j' hj' hp'
          · exact (hone (fun j' => Proc O j' → Anc (upU O) y j')).2 (fun _ => hb) q hq j' hj' hp'
        · intro ha
          exact ⟨fun q hq => ha q (by simp [hq]), ha p (by simp) j hpo hpj⟩⟩
    by_cases hp0 : p = 0
    · have hj0 : j = 0 := nodeAt_inj hg hj (reachN_pos hg0) (by rw [hjp, hp0, nodeAt_zero hg0])
      have hpj : Proc O j := .inl hj0
      rw [hp0] at hp h1
      have e0 : nodeAt g j = 0 := by rw [hjp, hp0]
      rcases hb with hb | ⟨q, q1, q2, q3, _, q5⟩
      · have := new1 hpj hb
        rw [e0] at this
        rw [hb.1]
        exact ⟨_, this, fun rest X hP hN => abRootFirst g c i n r k _ _ j hk hrl hp hg0 h1 rest X hP hN⟩
      · obtain ⟨t, t1, t2, t3, t4⟩ := meetC hg hc 1 1 1 1 q1 hj q2 hpj
        rw [e0] at t4
        rw [q3]
        exact ⟨_, new2 q t hpj t1 t2 t3 q5, fun rest X hP hN => abRootMeet g c i n r k _ _ j (nodeAt g q) (nodeAt g t) hk hrl hp hg0 h1 t4 rest X hP hN⟩
    · have hj0 : 0 < j := by
        rcases Nat.eq_zero_or_pos j with h | h
        · rw [h, nodeAt_zero hg0] at hjp; exact absurd hjp.symm hp0
        · exact h
      cases hO : O j with
      | none =>
        have h2 : (outL2 g O)[p]? = some (-1) := by rw [← hjp]; exact outL_none hg hg0 hj hO
        exact ⟨best, hb.skip (fun j' hj' => by
          rw [hpo] at hj'
          cases hj'
          rintro (h | ⟨u, hu⟩)
          · omega
          · rw [hO] at hu; cases hu), fun rest X hP hN => abNot g c i n best r k p _ _ j hk hrl hp hpl h1 hp0 h2 rest X hP hN⟩
      | some u =>
        have h2 : (outL2 g O)[p]? = some (nodeAt g u : Int) := by rw [← hjp]; exact outL_node hg hj hj0 hO
        have hpj : Proc O j := .inr ⟨u, hO⟩
        rcases hb with hb | ⟨q, q1, q2, q3, _, q5⟩
        · have := new1 hpj hb
          rw [hjp] at this
          rw [hb.1]
          exact ⟨_, this, fun rest X hP hN => abFirst g c i n r k p _ _ j (nodeAt g u) hk hrl hp hpl h1 hp0 h2 rest X hP hN⟩
        · obtain ⟨t, t1, t2, t3, t4⟩ := meetC hg hc 1 1 1 1 q1 hj q2 hpj
          rw [hjp] at t4
          rw [q3]
          exact ⟨_, new2 q t hpj t1 t2 t3 q5, fun rest X hP hN => abMeet g c i n r k p _ _ j (nodeAt g u) (nodeAt g q) (nodeAt g t) hk hrl hp hpl h1 hp0 h2 t4 rest X hP hN⟩
theorem abILoop (c : Bool) (i n : Nat) {O : Nat → Option Nat} (hc : Chain (reachN g) O) (r : List Nat) (hr : ∀ p ∈ r, p < g.length) (hrl : r.length < 1000000000) : ∀ (m k : Nat) (best : Int), r.length - k = m → k ≤ r.length → BestOk g O (r.take k) best →
    ∃ best', BestOk g O r best' ∧ ∀ (rest : Heap) (X : Fix), X.P = Try.prog → X.N = 110 →
      LW X (loopOf Try.prog 74 24) ⟨envOf (abI g c i n best r k), ovl (abE g.length (outL2 g O) (placeL g)) rest⟩ fun e' S' => e' = .exit 8 ∧ S' = ⟨envOf (abI' g c i n best'), ovl (abE g.length (outL2 g O) (placeL g)) rest⟩
  | 0, k, best, hm, hk, hb => by
    have : k = r.length := by omega
    subst this
    rw [List.take_length] at hb
    exact ⟨best, hb, fun rest X hP hN => lw_end (abIStop g c i n best r _ _ rest X hP hN) (by simp)⟩
  | m + 1, k, best, hm, hk, hb => by
    obtain ⟨b1, hb1, hs⟩ := abStep hg hg0 hgl c i n hc r hr hrl k (by omega) best hb
    obtain ⟨b2, hb2, hl⟩ := abILoop c i n hc r hr hrl m (k + 1) b1 (by omega) (by omega) hb1
    exact ⟨b2, hb2, fun rest X hP hN => lw_seg (hs rest X hP hN) (hl rest X hP hN)⟩
end

/-- The state in a round, behind the first so many. -/
def stO (W : Nat → Nat) (old : Nat → Option Nat) (i : Nat) : Nat → Option Nat := fun j => if j < i then (if j = 0 then none else some (W j)) else old j
def allO (U : Nat → Nat) : Nat → Option Nat := fun j => if j = 0 then none else some (U j)
def FactAt (g : Graph) (W : Nat → Nat) (old : Nat → Option Nat) (n : Nat) : Prop :=
  W n < n ∧ ∀ y, Anc (upU (stO W old n)) y (W n) ↔ ∀ p ∈ preds g n, Proc (stO W old n) p → Anc (upU (stO W old n)) y p
/-- A round's beginning: nothing told yet, or all. -/
def OldOk (g : Graph) (old : Nat → Option Nat) : Prop := (∀ j, old j = none) ∨ ∃ U, Dom.Good (reachN g) U ∧ old = allO U
theorem stO_agree {W W' : Nat → Nat} {old : Nat → Option Nat} {i : Nat} (h : ∀ j, j < i → W j = W' j) : stO W old i = stO W' old i := by
  funext j
  unfold stO
  split
  · rename_i hj; rw [h j hj]
  · rfl
theorem stO_chain {g : Graph} {W : Nat → Nat} {old : Nat → Option Nat} (ho : OldOk g old) {i : Nat} (hW : ∀ n, 0 < n → n < i → W n < n) (hi : i ≤ reachN g) : Chain (reachN g) (stO W old i) := fun j u h0 hj hu => by
  have hset : ∀ t, t < i → Proc (stO W old i) t := fun t ht => by
    by_cases h : t = 0
    · exact .inl h
    · exact .inr ⟨W t, by unfold stO; rw [if_pos ht, if_neg h]⟩
  unfold stO at hu
  split at hu
  · rename_i hji
    rw [if_neg (by omega)] at hu
    cases hu
    have := hW j h0 hji
    exact ⟨this, hset _ (by omega)⟩
  · rename_i hji
    rcases ho with h | ⟨U, hU, h⟩
    · rw [h j] at hu; cases hu
    · rw [h] at hu
      unfold allO at hu
      rw [if_neg (by omega)] at hu
      cases hu
      have hlt := hU j h0 hj
      refine ⟨hlt, ?_⟩
      by_cases hui : U j < i
      · exact hset _ hui
      · by_cases h0' : U j = 0
        · exact .inl h0'
        · exact .inr ⟨U (U j), by unfold stO; rw [if_neg hui, h]; unfold allO; rw [if_neg h0']⟩
section
variable {g : Graph} (hg : Valid g) (hg0 : 0 < g.length) (hgl : g.length < 100000)
include hg hg0
theorem reachN_le : reachN g ≤ g.length := by
  have h1 : ∀ v ∈ orderOf g, v ∈ List.range g.length := fun v hv => by
    have := ((order_mem hg v).1 hv).2
    exact List.mem_range.2 (Re.lt hg this hg0)
  have := List.Nodup.length_le_of_subset (order_nodup hg) h1
  rwa [List.length_range] at this
theorem into_get {v : Nat} (hv : v < g.length) : (intoOf g)[v]? = some ((List.range g.length).filter fun p => decide (v ∈ succ g p)) := by
  unfold intoOf
  rw [List.getElem?_map, List.getElem?_range hv]
  rfl
theorem preds_into {i p : Nat} (hi : i < reachN g) : p ∈ preds g i ↔ ∃ q ∈ (List.range g.length).filter (fun q => decide (nodeAt g i ∈ succ g q)), plOf g q = some p := by
  rw [preds_mem]
  constructor
  · rintro ⟨h1, h2⟩
    exact ⟨nodeAt g p, by rw [List.mem_filter, List.mem_range]; exact ⟨nodeAt_lt hg h1, by simpa using h2⟩, plOf_node hg h1⟩
  · rintro ⟨q, hq, hpq⟩
    obtain ⟨h1, h2⟩ := plOf_some hpq
    rw [List.mem_filter] at hq
    subst h2
    exact ⟨h1, by simpa using hq.2⟩
include hgl
theorem abPass {old : Nat → Option Nat} (ho : OldOk g old) : ∀ (m i : Nat) (W : Nat → Nat) (c : Bool), reachN g - 1 - i = m → i ≤ reachN g - 1 → (∀ n, 0 < n → n < i + 1 → FactAt g W old n) → (c = false → ∀ n, 0 < n → n < i + 1 → old n = some (W n)) → (c = true → ∃ n, 0 < n ∧ n < i + 1 ∧ old n ≠ some (W n)) →
    ∃ (W' : Nat → Nat) (c' : Bool), (∀ j, j < i + 1 → W' j = W j) ∧ (∀ n, 0 < n → n < reachN g → FactAt g W' old n) ∧ (c' = false → ∀ n, 0 < n → n < reachN g → old n = some (W' n)) ∧ (c' = true → ∃ n, 0 < n ∧ n < reachN g ∧ old n ≠ some (W' n)) ∧
      ∀ (rest : Heap) (X : Fix), X.P = Try.prog → X.N = 110 → LW X (loopOf Try.prog 74 20) ⟨envOf (abO g c i), ovl (abE g.length (outL2 g (stO W old (i + 1))) (placeL g)) rest⟩ fun e' S' => e' = .exit 6 ∧ S' = ⟨envOf (abB g c'), ovl (abE g.length (outL2 g (stO W' old (reachN g))) (placeL g)) rest⟩
  | 0, i, W, c, hm, hi, hf, hc0, hc1 => by
    have hpos := reachN_pos hg0
    have hii : i + 1 = reachN g := by omega
    have hil : i = reachN g - 1 := by omega
    refine ⟨W, c, fun _ _ => rfl, by rwa [← hii], by rwa [← hii], by rwa [← hii], fun rest X hP hN => ?_⟩
    rw [hii, hil]
    exact lw_end (abOStop g c _ _ rest X hP hN) (by simp)
  | m + 1, i, W, c, hm, hi, hf, hc0, hc1 => by
    have hi1 : i + 1 < reachN g := by omega
    have hml := reachN_le hg hg0
    have hchain : Chain (reachN g) (stO W old (i + 1)) := stO_chain ho (fun n h0 hn => (hf n h0 hn).1) (by omega)
    have hnl := nodeAt_lt hg hi1
    obtain ⟨best, hbest, hinner⟩ := abILoop hg hg0 hgl c i (nodeAt g (i + 1)) hchain ((List.range g.length).filter fun p => decide (nodeAt g (i + 1) ∈ succ g p)) (fun p hp => by
      rw [List.mem_filter, List.mem_range] at hp
      exact hp.1) (by
      have := List.length_filter_le (fun p => decide (nodeAt g (i + 1) ∈ succ g p)) (List.range g.length)
      rw [List.length_range] at this
      omega) _ 0 (-1) rfl (Nat.zero_le _) (.inl ⟨rfl, fun p hp => by simp at hp⟩)
    -- one ahead of it has been told
    obtain ⟨par, hpar⟩ := par_ex hg
    obtain ⟨hp1, hp2⟩ := hpar (i + 1) (by omega) hi1
    have hpp : Proc (stO W old (i + 1)) (par (i + 1)) := by
      by_cases h : par (i + 1) = 0
      · exact .inl h
      · exact .inr ⟨W (par (i + 1)), by unfold stO; rw [if_pos hp2, if_neg h]⟩
    obtain ⟨q, hq, hqp⟩ := (preds_into hg hg0 hi1).1 hp1
    rcases hbest with ⟨_, h2⟩ | ⟨r, r1, r2, r3, _, r5⟩
    · exact absurd hpp (h2 q hq _ hqp)
    -- the new value
    have hfact : ∀ y, Anc (upU (stO W old (i + 1))) y r ↔ ∀ p ∈ preds g (i + 1), Proc (stO W old (i + 1)) p → Anc (upU (stO W old (i + 1))) y p := fun y => by
      rw [r5 y]
      constructor
      · intro h p hp hpo
        obtain ⟨q, hq, hqp⟩ := (preds_into hg hg0 hi1).1 hp
        exact h q hq p hqp hpo
      · intro h q hq j hj hpo
        exact h j ((preds_into hg hg0 hi1).2 ⟨q, hq, hj⟩) hpo
    have hrlt : r < i + 1 := by
      have := anc_le_chain hg hchain (par (i + 1)) (by omega) hpp r ((hfact r).1 (.refl r) _ hp1 hpp)
      omega
    obtain ⟨W1, hW1, hW1i⟩ : ∃ W1 : Nat → Nat, (∀ j, j < i + 1 → W1 j = W j) ∧ W1 (i + 1) = r := ⟨fun j => if j = i + 1 then r else W j, fun j hj => by simp only; rw [if_neg (by omega)], by simp⟩
    have hf1 : ∀ n, 0 < n → n < i + 2 → FactAt g W1 old n := fun n h0 hn => by
      by_cases hni : n = i + 1
      · subst hni
        refine ⟨by rw [hW1i]; exact hrlt, fun y => ?_⟩
        rw [hW1i, stO_agree hW1]
        exact hfact y
      · have := hf n h0 (by omega)
        refine ⟨by rw [hW1 n (by omega)]; exact this.1, fun y => ?_⟩
        rw [hW1 n (by omega), stO_agree (fun j hj => hW1 j (by omega))]
        exact this.2 y
    have hst : (fun j => if j = i + 1 then some r else stO W old (i + 1) j) = stO W1 old (i + 2) := by
      funext j
      unfold stO
      by_cases hj : j = i + 1
      · subst hj
        rw [if_pos rfl, if_pos (show i + 1 < i + 2 by omega), if_neg (show ¬ i + 1 = 0 by omega), hW1i]
      · rw [if_neg hj]
        by_cases hj2 : j < i + 1
        · rw [if_pos hj2, if_pos (show j < i + 2 by omega), hW1 j hj2]
        · rw [if_neg hj2, if_neg (show ¬ j < i + 2 by omega)]
    have hset : (outL2 g (stO W old (i + 1))).set (nodeAt g (i + 1)) (nodeAt g r : Int) = outL2 g (stO W1 old (i + 2)) := by
      rw [outL2_set hg (by omega) hi1, hst]
    have hget : (stO W old (i + 1)) (i + 1) = old (i + 1) := by unfold stO; rw [if_neg (by omega)]
    have hinner' : ∀ (rest : Heap) (X : Fix), X.P = Try.prog → X.N = 110 → AW X (.loop (loopOf Try.prog 74 24)) ⟨envOf (abI g c i (nodeAt g (i + 1)) (-1) ((List.range g.length).filter fun p => decide (nodeAt g (i + 1) ∈ succ g p)) 0), ovl (abE g.length (outL2 g (stO W old (i + 1))) (placeL g)) rest⟩ fun e' S' => e' = .exit 8 ∧ S' = ⟨envOf (abI' g c i (nodeAt g (i + 1)) (nodeAt g r : Int)), ovl (abE g.length (outL2 g (stO W old (i + 1))) (placeL g)) rest⟩ := fun rest X hP hN => by
      have := (hinner rest X hP hN).aw
      rw [r3] at this
      exact this
    by_cases heq : old (i + 1) = some r
    · -- nothing changes
      obtain ⟨W', c', w1, w2, w3, w4, w5⟩ := abPass ho m (i + 1) W1 c (by omega) (by omega) hf1 (fun hc n h0 hn => by
        by_cases hni : n = i + 1
        · subst hni; rw [hW1i]; exact heq
        · rw [hW1 n (by omega)]; exact hc0 hc n h0 (by omega)) (fun hc => by
        obtain ⟨n, n0, n1, n2⟩ := hc1 hc
        exact ⟨n, n0, by omega, by rw [hW1 n (by omega)]; exact n2⟩)
      refine ⟨W', c', fun j hj => (w1 j (by omega)).trans (hW1 j hj), w2, w3, w4, fun rest X hP hN => ?_⟩
      have hout : (outL2 g (stO W old (i + 1)))[nodeAt g (i + 1)]? = some (nodeAt g r : Int) := outL_node hg hi1 (by omega) (by rw [hget]; exact heq)
      refine lw_seg (abSame g c i (nodeAt g (i + 1)) _ _ _ 0 (nodeAt g r) hi1 (by omega) rfl hnl (into_get hg hg0 hnl) hout hinner' rest X hP hN) ?_
      have := w5 rest X hP hN
      have e : outL2 g (stO W old (i + 1)) = outL2 g (stO W1 old (i + 2)) := by
        rw [← hset]
        exact (set_same hout).symm
      rw [e]
      exact this
    · obtain ⟨W', c', w1, w2, w3, w4, w5⟩ := abPass ho m (i + 1) W1 true (by omega) (by omega) hf1 (fun hc => by cases hc) (fun _ => ⟨i + 1, by omega, by omega, by rw [hW1i]; exact heq⟩)
      refine ⟨W', c', fun j hj => (w1 j (by omega)).trans (hW1 j hj), w2, w3, w4, fun rest X hP hN => ?_⟩
      obtain ⟨o, hout, hne⟩ : ∃ o : Int, (outL2 g (stO W old (i + 1)))[nodeAt g (i + 1)]? = some o ∧ o ≠ (nodeAt g r : Int) := by
        cases hold : old (i + 1) with
        | none => exact ⟨-1, outL_none hg hg0 hi1 (by rw [hget]; exact hold), by omega⟩
        | some u =>
          refine ⟨nodeAt g u, outL_node hg hi1 (by omega) (by rw [hget]; exact hold), fun h => heq ?_⟩
          have hu : u < reachN g := by
            rcases ho with h' | ⟨U, hU, h'⟩
            · rw [h'] at hold; cases hold
            · rw [h'] at hold
              unfold allO at hold
              rw [if_neg (by omega)] at hold
              cases hold
              have := hU (i + 1) (by omega) hi1
              omega
          rw [hold, nodeAt_inj hg hu r1 (by omega)]
      refine lw_seg (abDiff g c i (nodeAt g (i + 1)) _ _ _ o (nodeAt g r) hi1 (by omega) rfl hnl (into_get hg hg0 hnl) hout hne hinner' rest X hP hN) ?_
      rw [hset]
      exact w5 rest X hP hN
end
end Go.Avm
/-
  Flow: above's contract.
-/
set_option linter.unusedSectionVars false
namespace Go.Avm
open Go.Proofs Go.Avm.Dom

theorem anc_le_pos {m : Nat} {U V : Nat → Nat} (hU : Dom.Good m U) : ∀ n, n < m → (∀ i, 0 < i → i ≤ n → U i = V i) → ∀ y, Anc U y n ↔ Anc V y n := fun n => by
  induction n using Nat.strongRecOn with
  | ind n ih =>
    intro hn he y
    by_cases hy : y = n
    · subst hy; exact ⟨fun _ => .refl _, fun _ => .refl _⟩
    · constructor
      · intro h
        obtain ⟨h0, h1⟩ := anc_up_of_ne h hy
        have hlt := hU n h0 hn
        refine .up h0 ?_
        rw [← he n h0 (Nat.le_refl _)]
        exact (ih _ hlt (by omega) (fun i hi hin => he i hi (by omega)) y).1 h1
      · intro h
        obtain ⟨h0, h1⟩ := anc_up_of_ne h hy
        have hlt := hU n h0 hn
        refine .up h0 ((ih _ hlt (by omega) (fun i hi hin => he i hi (by omega)) y).2 ?_)
        rw [he n h0 (Nat.le_refl _)]
        exact h1
section
variable {g : Graph} {W U : Nat → Nat}
theorem good_of_facts {old : Nat → Option Nat} (hf : ∀ n, 0 < n → n < reachN g → FactAt g W old n) : Dom.Good (reachN g) W := fun n h0 hn => (hf n h0 hn).1
theorem first_of_facts (hf : ∀ n, 0 < n → n < reachN g → FactAt g W (fun _ => none) n) : First (reachN g) (preds g) W := fun n h0 hn y => by
  have hW := good_of_facts hf
  have hst : ∀ i, 0 < i → i < n → upU (stO W (fun _ => none) n) i = W i := fun i hi hin => by
    unfold upU stO
    rw [if_pos hin, if_neg (by omega)]
    rfl
  have hlt := (hf n h0 hn).1
  rw [anc_le_pos hW (W n) (by omega) (V := upU (stO W (fun _ => none) n)) (fun i hi hin => (hst i hi (by omega)).symm), (hf n h0 hn).2 y]
  constructor
  · intro h p hp hpn
    rw [anc_le_pos hW p (by omega) (V := upU (stO W (fun _ => none) n)) (fun i hi hin => (hst i hi (by omega)).symm)]
    refine h p hp ?_
    by_cases h0' : p = 0
    · exact .inl h0'
    · exact .inr ⟨W p, by unfold stO; rw [if_pos hpn, if_neg h0']⟩
  · intro h p hp hpo
    have hpn : p < n := by
      rcases hpo with h1 | ⟨u, hu⟩
      · omega
      · unfold stO at hu
        split at hu
        · assumption
        · cases hu
    rw [← anc_le_pos hW p (by omega) (V := upU (stO W (fun _ => none) n)) (fun i hi hin => (hst i hi (by omega)).symm)]
    exact h p hp hpn
theorem next_of_facts (hU : Dom.Good (reachN g) U) (hf : ∀ n, 0 < n → n < reachN g → FactAt g W (allO U) n) : Dom.Next (reachN g) (preds g) U W := fun n h0 hn y => by
  have hW := good_of_facts hf
  have hm : Dom.Good (reachN g) (Dom.mix n W U) := mix_good hU hW n
  have hst : ∀ i, 0 < i → i < reachN g → Dom.mix n W U i = upU (stO W (allO U) n) i := fun i hi hin => by
    unfold upU stO allO Dom.mix
    by_cases h : i < n
    · rw [if_pos h, if_pos h, if_neg (by omega)]; rfl
    · rw [if_neg h, if_neg h, if_neg (by omega)]; rfl
  have hlt := (hf n h0 hn).1
  rw [anc_pos hm hst (W n) (by omega), (hf n h0 hn).2 y]
  constructor
  · intro h p hp
    have hpm := (preds_mem.1 hp).1
    rw [anc_pos hm hst p hpm]
    refine h p hp ?_
    by_cases h0' : p = 0
    · exact .inl h0'
    · by_cases hpn : p < n
      · exact .inr ⟨W p, by unfold stO; rw [if_pos hpn, if_neg h0']⟩
      · exact .inr ⟨U p, by unfold stO allO; rw [if_neg hpn, if_neg h0']⟩
  · intro h p hp _
    rw [← anc_pos hm hst p (preds_mem.1 hp).1]
    exact h p hp
theorem fix_of_next (hU : Dom.Good (reachN g) U) (hW : Dom.Good (reachN g) W) (h : Dom.Next (reachN g) (preds g) U W) (he : ∀ n, 0 < n → n < reachN g → U n = W n) : Dom.Next (reachN g) (preds g) U U := fun n h0 hn y => by
  have hmm : ∀ i, 0 < i → i < reachN g → Dom.mix n U U i = Dom.mix n W U i := fun i hi hin => by
    unfold Dom.mix
    by_cases h : i < n
    · rw [if_pos h, if_pos h, he i hi hin]
    · rw [if_neg h, if_neg h]
  have hg2 := mix_good hU hU n
  have hlt := hU n h0 hn
  rw [anc_pos hg2 hmm (U n) (by omega), he n h0 hn, h n h0 hn y]
  constructor
  · intro h p hp; rw [anc_pos hg2 hmm p (preds_mem.1 hp).1]; exact h p hp
  · intro h p hp; rw [← anc_pos hg2 hmm p (preds_mem.1 hp).1]; exact h p hp
def sumTo (U : Nat → Nat) : Nat → Nat
  | 0 => 0
  | n + 1 => sumTo U n + U n
theorem sumTo_le : ∀ n, (∀ j, j < n → W j ≤ U j) → sumTo W n ≤ sumTo U n
  | 0, _ => Nat.le_refl _
  | n + 1, h => by
    have := sumTo_le n (fun j hj => h j (by omega))
    have := h n (by omega)
    simp only [sumTo]
    omega
theorem sumTo_lt : ∀ n, (∀ j, j < n → W j ≤ U j) → (∃ j, j < n ∧ W j < U j) → sumTo W n < sumTo U n
  | 0, _, ⟨j, hj, _⟩ => by omega
  | n + 1, h, ⟨j, hj, hlt⟩ => by
    have h1 := h n (by omega)
    simp only [sumTo]
    by_cases hjn : j = n
    · subst hjn
      have := sumTo_le (W := W) (U := U) j (fun t ht => h t (by omega))
      omega
    · have := sumTo_lt n (fun t ht => h t (by omega)) ⟨j, by omega, hlt⟩
      omega
end
section
variable {g : Graph} (hg : Valid g) (hg0 : 0 < g.length) (hgl : g.length < 100000)
include hg hg0 hgl
theorem stO_one {W : Nat → Nat} {old : Nat → Option Nat} (h0 : old 0 = none) : stO W old 1 = old := by
  funext j
  unfold stO
  by_cases hj : j < 1
  · have : j = 0 := by omega
    subst this
    rw [if_pos hj, if_pos rfl, h0]
  · rw [if_neg hj]
theorem stO_end {W : Nat → Nat} {old : Nat → Option Nat} : outL2 g (stO W old (reachN g)) = outL2 g (allO W) := outL2_congr fun i hi => by unfold stO allO; rw [if_pos hi]
theorem abWLoop : ∀ (s : Nat) (U : Nat → Nat), sumTo U (reachN g) = s → Inv (reachN g) (preds g) U → (∀ n, n < reachN g → ∀ y, ¬ Av (reachN g) (preds g) y n → Anc U y n) →
    ∃ U', Fixed g U' ∧ ∀ (rest : Heap) (X : Fix), X.P = Try.prog → X.N = 110 → LW X (loopOf Try.prog 74 17) ⟨envOf (abB g true), ovl (abE g.length (outL2 g (allO U)) (placeL g)) rest⟩ fun e' S' => e' = .exit 4 ∧ S' = ⟨envOf [(3, .ptr 443 1 0 0 1)], ovl (abE g.length (outL2 g (allO U')) (placeL g)) rest⟩ := fun s => by
  induction s using Nat.strongRecOn with
  | ind s ih =>
    intro U hs hi hsound
    have hU := hi.good
    obtain ⟨par, hpar⟩ := par_ex hg
    have hml := reachN_le hg hg0
    obtain ⟨W, c, w0, hf, hc0, hc1, hl⟩ := abPass hg hg0 hgl (old := allO U) (.inr ⟨U, hU, rfl⟩) _ 0 U false rfl (Nat.zero_le _) (fun n h0 hn => by omega) (fun _ n h0 hn => by omega) (fun h => by cases h)
    have hW := good_of_facts hf
    have hnext := next_of_facts hU hf
    rw [stO_one hg hg0 hgl (by simp [allO]), stO_end hg hg0 hgl] at hl
    cases c with
    | false =>
      have he : ∀ n, 0 < n → n < reachN g → U n = W n := fun n h0 hn => by
        have := hc0 rfl n h0 hn
        unfold allO at this
        rw [if_neg (by omega)] at this
        exact Option.some.inj this
      refine ⟨U, ⟨hU, hi, hsound, fix_of_next hU hW hnext he⟩, fun rest X hP hN => ?_⟩
      have e : outL2 g (allO W) = outL2 g (allO U) := outL2_congr fun i hi => by
        unfold allO
        by_cases h : i = 0
        · rw [if_pos h, if_pos h]
        · rw [if_neg h, if_neg h, he i (by omega) hi]
      rw [e] at hl
      exact lw_seg (abWRound g _ _ false _ (reachN_pos hg0) (by omega) (fun rest X hP hN => (hl rest X hP hN).aw) rest X hP hN) (lw_end (abWStop g _ _ rest X hP hN) (by simp))
    | true =>
      obtain ⟨n, n0, n1, n2⟩ := hc1 rfl
      have hdown : ∀ j, j < reachN g → W j ≤ U j := fun j hj => by
        by_cases h : j = 0
        · subst h; rw [w0 0 (by omega)]; exact Nat.le_refl _
        · exact down hpar preds_low hi hW hnext (by omega) hj
      have hlt : sumTo W (reachN g) < s := by
        rw [← hs]
        refine sumTo_lt _ hdown ⟨n, n1, ?_⟩
        have h1 := hdown n n1
        have h2 : U n ≠ W n := fun h => n2 (by unfold allO; rw [if_neg (by omega), h])
        omega
      obtain ⟨U', hfix, hl2⟩ := ih _ hlt W rfl (inv_next hpar preds_low hi hW hnext) (sound_next hpar preds_low hU hi.tree hsound hW hnext)
      exact ⟨U', hfix, fun rest X hP hN => lw_seg (abWRound g _ _ true _ (reachN_pos hg0) (by omega) (fun rest X hP hN => (hl rest X hP hN).aw) rest X hP hN) (hl2 rest X hP hN)⟩
theorem abWAll : ∃ U', Fixed g U' ∧ ∀ (rest : Heap) (X : Fix), X.P = Try.prog → X.N = 110 → LW X (loopOf Try.prog 74 17) ⟨envOf (abB g true), ovl (abE g.length (outL2 g fun _ => none) (placeL g)) rest⟩ fun e' S' => e' = .exit 4 ∧ S' = ⟨envOf [(3, .ptr 443 1 0 0 1)], ovl (abE g.length (outL2 g (allO U')) (placeL g)) rest⟩ := by
  have hml := reachN_le hg hg0
  obtain ⟨W, c, w0, hf, hc0, hc1, hl⟩ := abPass hg hg0 hgl (old := fun _ => none) (.inl fun _ => rfl) _ 0 (fun _ => 0) false rfl (Nat.zero_le _) (fun n h0 hn => by omega) (fun _ n h0 hn => by omega) (fun h => by cases h)
  have hW := good_of_facts hf
  have hF := first_of_facts hf
  rw [stO_one hg hg0 hgl rfl, stO_end hg hg0 hgl] at hl
  have hsound := sound_first hF
  have hround := fun rest X hP hN => abWRound g _ _ c _ (reachN_pos hg0) (by omega) (fun rest X hP hN => (hl rest X hP hN).aw) rest X hP hN
  cases c with
  | false =>
    -- one node alone
    have hone : ∀ n, 0 < n → n < reachN g → False := fun n h0 hn => by
      have := hc0 rfl n h0 hn
      cases this
    refine ⟨W, ⟨hW, .first hW hF, hsound, fun n h0 hn => absurd hn (fun h => hone n h0 h)⟩, fun rest X hP hN => lw_seg (hround rest X hP hN) (lw_end (abWStop g _ _ rest X hP hN) (by simp))⟩
  | true =>
    obtain ⟨U', hfix, hl2⟩ := abWLoop hg hg0 hgl _ W rfl (.first hW hF) hsound
    exact ⟨U', hfix, fun rest X hP hN => lw_seg (hround rest X hP hN) (hl2 rest X hP hN)⟩
end
/-! ### The beginning -/
def abEA (n : Nat) (out place : List AV) : List (Nat × Ent) := [(443, ⟨1, some (.arr 1 [.sl 349 1 0 n 1])⟩), (349, ⟨1, some (.arr 1 out)⟩), (994, ⟨1, some (.arr 1 [.sl 902 1 0 n 1])⟩), (902, ⟨1, some (.arr 1 place)⟩)]
def ab4L (g : Graph) (i : Nat) : List (Nat × AV) := [(0, .d (rowsN g)), (3, .ptr 443 1 0 0 1), (4, .ptr 994 1 0 0 1), (24, dN g.length), (25, dN i)]
def ab10L (g : Graph) (i : Nat) : List (Nat × AV) := [(0, .d (rowsN g)), (3, .ptr 443 1 0 0 1), (4, .ptr 994 1 0 0 1), (6, .d (.ro (intsN (orderOf g)))), (37, .d (.ro (intsN (orderOf g)))), (38, dN (reachN g)), (39, dN i)]
section
variable (g : Graph) (i : Nat) (out place : List AV)
theorem ab4Round (hi : i < g.length) (hgl : g.length < 100000) (z1 z2 : AV) (h1 : out[0 + i]? = some z1) (h2 : place[0 + i]? = some z2) (rest : Heap) (X : Fix) (hP : X.P = Try.prog) (hN : X.N = 110) :
    AW X (loopOf Try.prog 74 4) ⟨envOf (ab4L g i), ovl (abEA g.length out place) rest⟩ fun e' S' => e' = .normal ∧ Weak X S' ⟨envOf (ab4L g (i + 1)), ovl (abEA g.length (out.set (0 + i) (dI (-1))) (place.set (0 + i) (dI (-1)))) rest⟩ :=
  seg okP named { hint := tabH Try.prog [(74, 26, hLt Try.prog i g.length true (by simpa using hi)), (74, 32, hInb Try.prog i g.length hi), (74, 106005, .elt out (0 + i) z1 h1), (74, 33, hInb Try.prog i g.length hi), (74, 106007, .elt place (0 + i) z2 h2), (74, 34, hSucc Try.prog i (by omega))] } 2000 74 500000 110 (by kernel_rfl) X hP hN
theorem ab4Stop (rest : Heap) (X : Fix) (hP : X.P = Try.prog) (hN : X.N = 110) :
    AW X (loopOf Try.prog 74 4) ⟨envOf (ab4L g g.length), ovl (abEA g.length out place) rest⟩ fun e' S' => e' = .exit 0 ∧ Weak X S' ⟨envOf [(0, .d (rowsN g)), (3, .ptr 443 1 0 0 1), (4, .ptr 994 1 0 0 1)], ovl (abEA g.length out place) rest⟩ :=
  seg okP named { hint := tabH Try.prog [(74, 26, hLt Try.prog g.length g.length false (by simp))] } 2000 74 500000 110 (by kernel_rfl) X hP hN
theorem ab10Round (v : Nat) (hi : i < reachN g) (hgl : reachN g < 100000) (hv : (intsN (orderOf g))[i]? = some (.int .i64 (v : Int))) (hvl : v < g.length) (z2 : AV) (h2 : place[0 + v]? = some z2) (rest : Heap) (X : Fix) (hP : X.P = Try.prog) (hN : X.N = 110) :
    AW X (loopOf Try.prog 74 10) ⟨envOf (ab10L g i), ovl (abEA g.length out place) rest⟩ fun e' S' => e' = .normal ∧ Weak X S' ⟨envOf (ab10L g (i + 1)), ovl (abEA g.length out (place.set (0 + v) (dN i))) rest⟩ :=
  seg okP named { hint := tabH Try.prog [(74, 40, hLt Try.prog i (reachN g) true (by simpa using hi)), (74, 42, .idx (intsN (orderOf g)) ((i : Nat) : Int) (.int .i64 (v : Int)) (by omega) hv), (74, 47, hInb Try.prog v g.length hvl), (74, 112004, .elt place (0 + v) z2 h2), (74, 48, hSucc Try.prog i (by omega))] } 2000 74 500000 110 (by kernel_rfl) X hP hN
theorem ab10Stop (rest : Heap) (X : Fix) (hP : X.P = Try.prog) (hN : X.N = 110) :
    AW X (loopOf Try.prog 74 10) ⟨envOf (ab10L g (reachN g)), ovl (abEA g.length out place) rest⟩ fun e' S' => e' = .exit 2 ∧ Weak X S' ⟨envOf [(0, .d (rowsN g)), (3, .ptr 443 1 0 0 1), (4, .ptr 994 1 0 0 1), (6, .d (.ro (intsN (orderOf g))))], ovl (abEA g.length out place) rest⟩ :=
  seg okP named { hint := tabH Try.prog [(74, 40, hLt Try.prog (reachN g) (reachN g) false (by simp))] } 2000 74 500000 110 (by kernel_rfl) X hP hN
end
theorem rep_range {α : Type} (n : Nat) (x : α) : (List.range n).map (fun _ => x) = List.replicate n x := by
  apply List.ext_getElem?
  intro i
  by_cases h : i < n <;> simp [h]
section
variable {g : Graph} (hg : Valid g) (hg0 : 0 < g.length) (hgl : g.length < 100000) (hr : ∀ a, (succ g a).length < 1000000000)
include hg hg0 hgl
theorem ab4Loop (rest : Heap) (X : Fix) (hP : X.P = Try.prog) (hN : X.N = 110) :
    AW X (.loop (loopOf Try.prog 74 4)) ⟨envOf (ab4L g 0), ovl (abEA g.length (List.replicate g.length (dI 0)) (List.replicate g.length (dI 0))) rest⟩ fun e' S' => e' = .exit 0 ∧ S' = ⟨envOf [(0, .d (rowsN g)), (3, .ptr 443 1 0 0 1), (4, .ptr 994 1 0 0 1)], ovl (abEA g.length (List.replicate g.length (dI (-1))) (List.replicate g.length (dI (-1)))) rest⟩ := by
  rw [← fil_zero (fun _ => dI (-1)) (dI 0), ← rep_range g.length (dI (-1)), ← fil_full (fun _ => dI (-1)) (dI 0)]
  refine (lw_count g.length (fun i => ⟨envOf (ab4L g i), ovl (abEA g.length (fil (fun _ => dI (-1)) (dI 0) i g.length) (fil (fun _ => dI (-1)) (dI 0) i g.length)) rest⟩) (by simp) (fun i hi => ?_) (ab4Stop g _ _ rest X hP hN)).aw
  have := ab4Round g i _ _ hi hgl _ _ (fil_get (f := fun _ => dI (-1)) (z := dI 0) hi) (fil_get (f := fun _ => dI (-1)) (z := dI 0) hi) rest X hP hN
  rw [fil_set (f := fun _ => dI (-1)) (z := dI 0) hi] at this
  exact this
theorem ab10Loop (out : List AV) (rest : Heap) (X : Fix) (hP : X.P = Try.prog) (hN : X.N = 110) :
    AW X (.loop (loopOf Try.prog 74 10)) ⟨envOf (ab10L g 0), ovl (abEA g.length out ((placeAt g 0).map dI)) rest⟩ fun e' S' => e' = .exit 2 ∧ S' = ⟨envOf [(0, .d (rowsN g)), (3, .ptr 443 1 0 0 1), (4, .ptr 994 1 0 0 1), (6, .d (.ro (intsN (orderOf g))))], ovl (abEA g.length out ((placeL g).map dI)) rest⟩ := by
  have hml := reachN_le hg hg0
  rw [← placeAt_all]
  refine (lw_count (reachN g) (fun i => ⟨envOf (ab10L g i), ovl (abEA g.length out ((placeAt g i).map dI)) rest⟩) (by simp) (fun i hi => ?_) (ab10Stop g _ _ rest X hP hN)).aw
  have hlen : (placeAt g i).length = g.length := by simp [placeAt]
  have := ab10Round g i out ((placeAt g i).map dI) (nodeAt g i) hi (by omega) (intsN_get (nodeAt_get hi)) (nodeAt_lt hg hi) (dI ((placeAt g i)[nodeAt g i]'(by rw [hlen]; exact nodeAt_lt hg hi))) (by
    rw [Nat.zero_add, List.getElem?_map, List.getElem?_eq_getElem (by rw [hlen]; exact nodeAt_lt hg hi)]
    rfl) rest X hP hN
  have e : ((placeAt g i).map dI).set (0 + nodeAt g i) (dN i) = (placeAt g (i + 1)).map dI := (mapI _ _ _).trans (by rw [placeAt_set hg hi])
  rw [e] at this
  exact this
include hr
theorem aboveGo : ∃ U, Fixed g U ∧ Pure Try.prog 74 [rowsN g] [.ro ((outL2 g (allO U)).map fun x => .int .i64 x)] := by
  obtain ⟨U, hfix, hl⟩ := abWAll hg hg0 hgl
  refine ⟨U, hfix, ?_⟩
  have hml := reachN_le hg hg0
  have e1 : (placeAt g 0).map dI = List.replicate g.length (dI (-1)) := by rw [placeAt_zero, List.map_replicate]
  have e2 : (outL2 g fun _ => none).map dI = List.replicate g.length (dI (-1)) := by rw [outL2_none, List.map_replicate]
  have h10 := ab10Loop hg hg0 hgl (List.replicate g.length (dI (-1)))
  rw [e1] at h10
  have h17 : ∀ (rest : Heap) (X : Fix), X.P = Try.prog → X.N = 110 → AW X (.loop (loopOf Try.prog 74 17)) ⟨envOf (abB g true), ovl (abEA g.length (List.replicate g.length (dI (-1))) ((placeL g).map dI)) rest⟩ fun e' S' => e' = .exit 4 ∧ S' = ⟨envOf [(3, .ptr 443 1 0 0 1)], ovl (abEA g.length ((outL2 g (allO U)).map dI) ((placeL g).map dI)) rest⟩ := fun rest X hP hN => by
    have := (hl rest X hP hN).aw
    rw [← e2]
    exact this
  have hi := intoC hg hgl hr
  have e3 : D.ro ((intoOf g).map rowN) = rowsN (intoOf g) := by simp
  rw [e3] at hi
  exact pure_of_run okP named { frz := fun f q => if f = 74 then (if q = 35 then some ⟨443, 0, 349, g.length, (outL2 g (allO U)).map dI, (outL2 g (allO U)).map fun x => .int .i64 x, by simp [outL_len], fun h => viewI 2 h _⟩ else none) else none, loops := fun f q => if f = 74 then (if q = 4 then some ⟨110, loopOf Try.prog 74 4, ab4L g 0, fun _ => abEA g.length (List.replicate g.length (dI 0)) (List.replicate g.length (dI 0)), .exit 0, _, fun _ => abEA g.length (List.replicate g.length (dI (-1))) (List.replicate g.length (dI (-1))), ab4Loop hg hg0 hgl⟩ else if q = 10 then some ⟨110, loopOf Try.prog 74 10, ab10L g 0, fun _ => abEA g.length (List.replicate g.length (dI (-1))) (List.replicate g.length (dI (-1))), .exit 2, _, fun _ => abEA g.length (List.replicate g.length (dI (-1))) ((placeL g).map dI), h10⟩ else if q = 17 then some ⟨110, loopOf Try.prog 74 17, abB g true, fun _ => abEA g.length (List.replicate g.length (dI (-1))) ((placeL g).map dI), .exit 4, _, fun _ => abEA g.length ((outL2 g (allO U)).map dI) ((placeL g).map dI), h17⟩ else none) else none, hint := tabH Try.prog [(74, 18, hLenG Try.prog g), (74, 19, .mk ((g.length : Nat) : Int) (by omega) (by omega)), (74, 21, hLenG Try.prog g), (74, 22, .mk ((g.length : Nat) : Int) (by omega) (by omega)), (74, 36, .call 78 _ _ (orderC hg (by omega) hr)), (74, 38, hNat Try.prog ((intsN (orderOf g)).length) (reachN g) (by rw [intsN_len]; rfl)), (74, 50, .call 75 _ _ hi)] } 2000 (by kernel_rfl)
end
theorem aboveNil : Pure Try.prog 74 [rowsN []] [.ro []] := pure_of_run okP named { obm := fun f s => Nat.beq f 78 && Nat.beq s 17, hint := tabH Try.prog [] } 2000 (by kernel_rfl)
/-- above. -/
theorem aboveC {g : Graph} (hg : Valid g) (hgl : g.length < 100000) (hr : ∀ a, (succ g a).length < 1000000000) : ∃ U, Fixed g U ∧ Pure Try.prog 74 [rowsN g] [.ro ((outL2 g (allO U)).map fun x => .int .i64 x)] := by
  rcases Nat.eq_zero_or_pos g.length with h0 | h0
  · have : g = [] := List.length_eq_zero_iff.1 h0
    subst this
    have hm : reachN [] = 0 := rfl
    exact ⟨fun _ => 0, ⟨fun i _ hi => by rw [hm] at hi; omega, .first (fun i _ hi => by rw [hm] at hi; omega) (fun i _ hi => by rw [hm] at hi; omega), fun n hn => by rw [hm] at hn; omega, fun i _ hi => by rw [hm] at hi; omega⟩, aboveNil⟩
  · exact aboveGo hg h0 hgl hr
end Go.Avm
/-
  Flow: going up from a node.
-/
set_option linter.unusedSectionVars false
namespace Go.Avm
open Go.Proofs Go.Avm.Dom

def ovL (up : List Int) (a b : Int) (n k : Nat) : List (Nat × AV) := [(0, .d (rowD up)), (1, dI a), (2, dI b), (20, dN n), (21, dN k)]
section
variable (up : List Int) (a b n k : Nat) (u : Int)
theorem ovMet (hk : k < n) (hab : a = b) (rest : Heap) (X : Fix) (hP : X.P = Try.prog) (hN : X.N = 39) :
    AW X (loopOf Try.prog 45 4) ⟨envOf (ovL up a b n k), ovl [] rest⟩ fun e' S' => e' = .ret ∧ Weak X S' ⟨envOf [(6, dB true)], ovl [] rest⟩ :=
  seg okP named { hint := tabH Try.prog [(45, 22, hLt Try.prog k n true (by simpa using hk)), (45, 25, hEq Try.prog (a : Int) (b : Int) true (int_eq hab))] } 2000 45 500000 39 (by kernel_rfl) X hP hN
theorem ovUp (hk : k < n) (hn : n < 1000000000) (hab : a ≠ b) (hb : b < up.length) (hu : up[b]? = some u) (rest : Heap) (X : Fix) (hP : X.P = Try.prog) (hN : X.N = 39) :
    AW X (loopOf Try.prog 45 4) ⟨envOf (ovL up a b n k), ovl [] rest⟩ fun e' S' => e' = .normal ∧ Weak X S' ⟨envOf (ovL up a u n (k + 1)), ovl [] rest⟩ :=
  seg okP named { hint := tabH Try.prog [(45, 22, hLt Try.prog k n true (by simpa using hk)), (45, 25, hEq Try.prog (a : Int) (b : Int) false (int_ne hab)), (45, 31, hLen Try.prog up), (45, 32, hB Try.prog (decide ((up.length : Int) ≤ (b : Int))) false (dec_false (by omega))), (45, 36, hIx Try.prog up b u hu), (45, 38, hSucc Try.prog k (by omega))] } 2000 45 500000 39 (by kernel_rfl) X hP hN
theorem ovOut (hk : k < n) (rest : Heap) (X : Fix) (hP : X.P = Try.prog) (hN : X.N = 39) :
    AW X (loopOf Try.prog 45 4) ⟨envOf (ovL up a (-1) n k), ovl [] rest⟩ fun e' S' => e' = .ret ∧ Weak X S' ⟨envOf [(6, dB false)], ovl [] rest⟩ :=
  seg okP named { hint := tabH Try.prog [(45, 22, hLt Try.prog k n true (by simpa using hk))] } 2000 45 500000 39 (by kernel_rfl) X hP hN
end
section
variable {g : Graph} (hg : Valid g) {U : Nat → Nat} (hU : Dom.Good (reachN g) U)
include hg hU
open Classical in
theorem ovLoop (i : Nat) (hi : i < reachN g) (n : Nat) (hn : n < 1000000000) (rest : Heap) (X : Fix) (hP : X.P = Try.prog) (hN : X.N = 39) : ∀ (j k : Nat), j < reachN g → k + j + 1 < n →
    LW X (loopOf Try.prog 45 4) ⟨envOf (ovL (outL2 g (allO U)) (nodeAt g i) (nodeAt g j) n k), ovl [] rest⟩ fun e' S' => e' = .ret ∧ S' = ⟨envOf [(6, dB (decide (Anc U i j)))], ovl [] rest⟩ := fun j => by
  induction j using Nat.strongRecOn with
  | ind j ih =>
    intro k hj hk
    by_cases hij : i = j
    · subst hij
      rw [decide_eq_true (Anc.refl i)]
      exact lw_end (ovMet _ _ _ n k (by omega) rfl rest X hP hN) (by simp)
    · have hne : nodeAt g i ≠ nodeAt g j := fun h => hij (nodeAt_inj hg hi hj h)
      have hjl : nodeAt g j < (outL2 g (allO U)).length := by rw [outL_len]; exact nodeAt_lt hg hj
      by_cases h0 : j = 0
      · subst h0
        have hu : (outL2 g (allO U))[nodeAt g 0]? = some (-1) := by
          unfold outL2
          rw [List.getElem?_map, List.getElem?_range (nodeAt_lt hg hj)]
          simp [outI, plOf_node hg hj]
        have hna : ¬ Anc U i 0 := fun h => hij (anc_zero_iff h)
        rw [decide_eq_false hna]
        exact lw_seg (ovUp _ _ _ n k (-1) (by omega) hn hne hjl hu rest X hP hN) (lw_end (ovOut _ _ n (k + 1) (by omega) rest X hP hN) (by simp))
      · have hlt := hU j (by omega) hj
        have hu : (outL2 g (allO U))[nodeAt g j]? = some (nodeAt g (U j) : Int) := outL_node hg hj (by omega) (by unfold allO; rw [if_neg h0])
        have := ih (U j) hlt (k + 1) (by omega) (by omega)
        have e : Anc U i j ↔ Anc U i (U j) := ⟨fun h => (anc_up_of_ne h hij).2, fun h => .up (by omega) h⟩
        have e2 : decide (Anc U i j) = decide (Anc U i (U j)) := by simp only [e]
        rw [e2]
        exact lw_seg (ovUp _ _ _ n k _ (by omega) hn hne hjl hu rest X hP hN) this
open Classical in
/-- Over, from a reached node to a reached one. -/
theorem overC (hgl : g.length < 100000) (hml : reachN g ≤ g.length) {i j : Nat} (hi : i < reachN g) (hj : j < reachN g) : Pure Try.prog 45 [rowD (outL2 g (allO U)), .int .i64 (nodeAt g i : Int), .int .i64 (nodeAt g j : Int)] [.bool (decide (Anc U i j))] := by
  have hl := fun rest X hP hN => (ovLoop hg hU i hi (g.length + 1) (by omega) rest X hP hN j 0 hj (by omega)).aw
  have hlen : (outL2 g (allO U)).length = g.length := outL_len g _
  have hil := nodeAt_lt hg hi
  exact pure_of_run okP named { loops := fun f q => if f = 45 then (if q = 4 then some ⟨39, loopOf Try.prog 45 4, ovL (outL2 g (allO U)) (nodeAt g i) (nodeAt g j) (g.length + 1) 0, fun _ => [], .ret, _, fun _ => [], hl⟩ else none) else none, hint := tabH Try.prog [(45, 12, .val (dN ((outL2 g (allO U)).map fun x => D.int .i64 x).length) (dN g.length) (by rw [List.length_map, hlen])), (45, 13, hB Try.prog (decide ((g.length : Int) ≤ (nodeAt g i : Int))) false (dec_false (by omega))), (45, 19, .val (dN ((outL2 g (allO U)).map fun x => D.int .i64 x).length) (dN g.length) (by rw [List.length_map, hlen])), (45, 20, hSucc Try.prog g.length (by omega))] } 2000 (by kernel_rfl)
end
end Go.Avm
/-
  Flow: Sort and Compact at a row.
-/
set_option linter.unusedSectionVars false
namespace Go.Avm
open Go.Proofs
open Go.RowKit

theorem drewN_ahead (w : World) (q : Nat) : w.drewN q = Go.Sort.ahead w q := rfl
theorem mem_compact {zs : List Int} {x : Int} : x ∈ Go.Lib.compact zs ↔ x ∈ zs := by
  unfold Go.Lib.compact Go.Lib.compactUpTo
  constructor
  · intro h
    obtain ⟨i, hi, rfl⟩ := List.mem_map.1 h
    have hi' : i < zs.length := List.mem_range.1 (List.mem_filter.1 hi).1
    simp [getElem!_pos, hi']
  · intro h
    obtain ⟨i, hi, rfl⟩ := List.getElem_of_mem h
    rw [List.mem_map]
    induction i with
    | zero => exact ⟨0, List.mem_filter.2 ⟨List.mem_range.2 hi, Go.Lib.keeps_lt_one _ 0 (by omega)⟩, by simp [getElem!_pos, hi]⟩
    | succ i ih =>
      by_cases hk : zs.toArray[i + 1]! = zs.toArray[i + 1 - 1]!
      · have e : zs[i + 1] = zs[i] := by
          have h1 : i < zs.length := by omega
          simpa [getElem!_pos, hi, h1] using hk
        obtain ⟨j, h1, h2⟩ := ih (by omega) (List.getElem_mem _)
        exact ⟨j, h1, by rw [h2, e]⟩
      · exact ⟨i + 1, List.mem_filter.2 ⟨List.mem_range.2 hi, Go.Lib.keeps_pos hk⟩, by simp [getElem!_pos, hi]⟩
theorem compact_len (zs : List Int) : (Go.Lib.compact zs).length ≤ zs.length := by
  unfold Go.Lib.compact Go.Lib.compactUpTo
  rw [List.length_map]
  refine Nat.le_trans (List.length_filter_le _ _) ?_
  simp
def sortZ (zs : List Int) : List Int := zs.mergeSort fun x y => decide (x ≤ y)
def compZ (zs : List Int) : List Int := Go.Lib.compact zs ++ List.replicate (zs.length - (Go.Lib.compact zs).length) 0
theorem compZ_len (zs : List Int) : (compZ zs).length = zs.length := by
  have := compact_len zs
  simp [compZ]
  omega
theorem callable79 : Callable Try.prog 79 := ⟨_, Try.func79, rfl, by decide⟩
theorem callable81 : Callable Try.prog 81 := ⟨_, Try.func81, rfl, by decide⟩
theorem sortC {k v : Nat} {zs : List Int} (hne : zs ≠ []) (hl : zs.length < 1000000000) {h : Heap} (hk : h k = ⟨v, some (.arr 1 (zs.map dI))⟩) :
    HCall Try.prog 79 [.sl k v 0 zs.length 1] h [] (upd h k ⟨v, some (.arr 1 ((sortZ zs).map dI))⟩) :=
  hcall_row callable79 (by simp [sortZ]) hk (ret := fun _ _ => .tuple #[]) (retN := .tuple #[]) (fun blk cap w hH hb hc => Go.Proofs.Any.slices_Sort_int Try.laysort blk 0 cap zs w hH hb (by omega)) (fun h => absurd h hne) (fun G w L cap _ _ _ _ => .tup [] #[] rfl (fun i c u h => by cases h)) (fun h => absurd h hne)
theorem compC {k v : Nat} {zs : List Int} (hl : zs.length < 1000000000) {h : Heap} (hk : h k = ⟨v, some (.arr 1 (zs.map dI))⟩) :
    HCall Try.prog 81 [.sl k v 0 zs.length 1] h [.sl k v 0 (Go.Lib.compact zs).length 1] (upd h k ⟨v, some (.arr 1 ((compZ zs).map dI))⟩) :=
  hcall_row callable81 (compZ_len zs) hk (ret := fun blk cap => .slice (some ⟨blk, 0, none⟩) (Go.Lib.compact zs).length cap) (retN := .slice none 0 0) (fun blk cap w hH hb hc => (Go.Proofs.Any.slices_Compact_int Try.laycomp blk 0 cap zs w hH (by omega) hc).mono fun e w' ⟨h1, q, h2⟩ => ⟨h1, q, #[], by rw [h2, Go.Sort.grow_empty]; rfl⟩)
    (fun h w => (Go.Proofs.Any.slices_Compact_int_empty Try.laycomp none 0 w).mono fun e w' ⟨h1, h2⟩ => ⟨h1, 0, by rw [h2]; rfl⟩) (fun G w L cap hL hs hl1 hl2 => by
      have h1 := Rep.sl (G := G) (w := w) k v 0 (Go.Lib.compact zs).length cap L hL (by omega) (by have := compact_len zs; omega)
      rw [Nat.zero_mul, hs] at h1
      exact h1) (fun h G w => by subst h; exact .slNil _ _ _)
end Go.Avm
/-
  Flow: a list's values, collected.
-/
set_option linter.unusedSectionVars false
namespace Go.Avm
open Go.Proofs Go.Avm.Dom

def sqL : Code → Code
  | .seq x _ => x
  | c => c
def sqR : Code → Code
  | .seq _ y => y
  | c => c
def bkB : Code → Code
  | .block _ x => x
  | c => c
def raA : Code → Code
  | .rangeFunc _ _ x _ => x
  | c => c
def raB : Code → Code
  | .rangeFunc _ _ _ x => x
  | c => c
noncomputable def colRF : Code := bkB (sqR (sqL (sqR (bodyOf Try.prog 113))))
noncomputable def colLp : Ob := .lp 113 13 [(0, .sl 51 1 0 0 1), (1, .fn 103 [.ptr 1513 1 0 0 1]), (2, .ptr 1558 1 0 0 1), (4, .nils), (6, .fn 103 [.ptr 1513 1 0 0 1])] #[7] (raA colRF) (raB colRF) .ready
def clL (l : List Nat) (n i : Nat) : List (Nat × AV) := [(0, .yld 1595 1), (5, .d (.ro (intsN l))), (6, dN n), (7, dN i)]
noncomputable def clE (c : List Nat) (w : Nat) : List (Nat × Ent) := [(1595, ⟨1, some colLp⟩), (1558, ⟨1, some (.arr 1 [.sl 51 (1 + c.length) 0 c.length 1])⟩), (51, ⟨1 + c.length, some (.arr 1 (intsA c))⟩), (500145, ⟨w, none⟩)]
theorem clRound (l c : List Nat) (i x w : Nat) (hi : i < l.length) (hl : l.length < 1000000000) (hx : l[i]? = some x) (hc : c.length < 1000000000) (rest : Heap) (X : Fix) (hP : X.P = Try.prog) (hN : X.N = 16) :
    AW X (loopOf Try.prog 103 1) ⟨envOf (clL l l.length i), ovl (clE c w) rest⟩ fun e' S' => e' = .normal ∧ Weak X S' ⟨envOf (clL l l.length (i + 1)), ovl (clE (c ++ [x]) (w + 1)) rest⟩ := by
  unfold clE
  rw [← intsA_app, List.length_append]
  exact seg okP named { hint := tabH Try.prog [(103, 8, hLt Try.prog i l.length true (by simpa using hi)), (103, 9, .idx (intsN l) ((i : Nat) : Int) (.int .i64 (x : Int)) (by omega) (intsN_get hx)), (113, 11, .apps (intsA c) c.length 1 ⟨by rw [intsA_len]; exact Nat.le_refl _, by omega⟩), (103, 15, hSucc Try.prog i (by omega))] } 2000 103 500000 16 (by kernel_rfl) X hP hN
theorem clStop (l c : List Nat) (w : Nat) (rest : Heap) (X : Fix) (hP : X.P = Try.prog) (hN : X.N = 16) :
    AW X (loopOf Try.prog 103 1) ⟨envOf (clL l l.length l.length), ovl (clE c w) rest⟩ fun e' S' => e' = .exit 0 ∧ Weak X S' ⟨envOf [], ovl (clE c w) rest⟩ :=
  seg okP named { hint := tabH Try.prog [(103, 8, hLt Try.prog l.length l.length false (by simp))] } 2000 103 500000 16 (by kernel_rfl) X hP hN
theorem clLoop (l : List Nat) (hl : l.length < 1000000000) (rest : Heap) (X : Fix) (hP : X.P = Try.prog) (hN : X.N = 16) :
    AW X (.loop (loopOf Try.prog 103 1)) ⟨envOf (clL l l.length 0), ovl (clE [] 0) rest⟩ fun e' S' => e' = .exit 0 ∧ S' = ⟨envOf [], ovl (clE l l.length) rest⟩ := by
  have h := (lw_count (X := X) (c := loopOf Try.prog 103 1) l.length (fun i => ⟨envOf (clL l l.length i), ovl (clE (l.take i) (0 + i)) rest⟩) (e := .exit 0) (Z := ⟨envOf [], ovl (clE (l.take l.length) (0 + l.length)) rest⟩) (by simp) (fun i hi => by
    rw [List.take_succ_eq_append_getElem hi]
    exact clRound l (l.take i) i l[i] (0 + i) hi hl (List.getElem?_eq_getElem hi) (by simp; omega) rest X hP hN) (clStop l _ _ rest X hP hN)).aw
  rw [List.take_length, List.take_zero] at h
  simp only [Nat.zero_add] at h
  exact h
end Go.Avm
