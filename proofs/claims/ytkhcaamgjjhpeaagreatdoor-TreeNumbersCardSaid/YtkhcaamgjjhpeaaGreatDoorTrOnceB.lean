/-
  sync.Once on the abstract machine: what Do does to an abstract heap.
-/
import Derived.Test.YtkhcaamgjjhpeaaGreatDoorAvmT
import Derived.Test.YtkhcaamgjjhpeaaGreatDoorTrOnce
set_option linter.unusedSectionVars false
namespace Go.Avm
open Go.RowKit Go.Proofs Go.Proofs.YtkhcaamgjjhpeaaGreatDoor
variable [GlobTab]
section
variable {P : Program} {G : Gh} {B : Nat} {w0 w : World} {I0 : Nat → Nat → Prop} {h : Heap}

theorem setCell_eq {b i : Nat} {arr : Array Value} {e : TypeId} {fz : Nat × Nat} (hb : w.heap[b]? = some (.cells arr e fz)) (u : Value) : w.setCell ⟨b, i, none⟩ u = w.setRow b (arr.setIfInBounds i u) := by
  unfold World.setCell World.setRow
  congr 1
  apply Array.ext
  · simp
  · intro j h1 h2
    simp only [Array.getElem_modify]
    split
    · rename_i hj
      subst hj
      have : w.heap[b]'(by simpa using h1) = .cells arr e fz := by
        have := Array.getElem?_eq_some_iff.1 hb
        exact this.2
      rw [this]
      simp
    · rfl

/-- One cell of an object is written. -/
theorem HR.cell1 (hr : HR G B w0 I0 h w) {k i : Nat} {es : List AV} {L : Loc} (hob : (h k).ob = some (.arr 1 es)) (hL : G.loc k (h k).ver = some L) (hi : i < es.length) {y : AV} {u : Value} (hy : Rep G w y u) (h1 : u.oneCell' = true) (hl : y.lone = true) :
    HR G B w0 I0 (upd h k ⟨(h k).ver, some (.arr 1 (es.set i y))⟩) (w.setCell ⟨L.b, i, none⟩ u) ∧ Ext G w G (w.setCell ⟨L.b, i, none⟩ u) := by
  rcases hr.objs k _ hob with ⟨rfl, _⟩ | ⟨L', hL', g1, g2, g3, g4, g6, g5⟩
  · simp at hi
  rw [hL] at hL'
  cases hL'
  obtain ⟨hB, ⟨arr, e, hb, hs⟩, _⟩ := hr.own k L hL
  rw [setCell_eq hb]
  have hall : ∀ x ∈ es.set i y, x.lone = true := fun x hx => by
    rcases List.mem_or_eq_of_mem_set hx with hx | rfl
    · exact g6 rfl x hx
    · exact hl
  refine hr.store hob hL g1 g2 hb (by simp) (by simpa using g3) (fun x hx => by rw [AV.cells_lone (hall x hx)]; rfl) (fun _ => hall) (fun t c ht => ?_)
  rw [flat_lone hall, List.getElem?_set] at ht
  by_cases hit : i = t
  · subst hit
    simp only [if_true, hi] at ht
    cases ht
    have hlt : i < arr.size := by rw [hs.1, g1]; omega
    exact ⟨u, by simp [hlt], h1, hy⟩
  · rw [if_neg hit] at ht
    obtain ⟨u', hu', hu1, hur⟩ := g5 t c (by rw [flat_lone (g6 rfl)]; exact ht)
    refine ⟨u', ?_, hu1, hur⟩
    rw [Array.getElem?_setIfInBounds_ne hit]
    simpa [World.cell?, hb] using hu'

theorem HR.cellAt (hr : HR G B w0 I0 h w) {k i : Nat} {es : List AV} {L : Loc} (hob : (h k).ob = some (.arr 1 es)) (hL : G.loc k (h k).ver = some L) {kd : IntKind} {n : Int} (hi : es[i]? = some (.d (.int kd n))) :
    w.cell? ⟨L.b, i, none⟩ = some (.int kd n) ∧ w.frozen? ⟨L.b, i, none⟩ = false := by
  rcases hr.objs k _ hob with ⟨rfl, _⟩ | ⟨L', hL', g1, g2, g3, g4, g6, g5⟩
  · simp at hi
  rw [hL] at hL'
  cases hL'
  obtain ⟨hB, ⟨arr, e, hb, hs⟩, _⟩ := hr.own k L hL
  obtain ⟨u, hu, hu1, hur⟩ := g5 i _ (by rw [flat_lone (g6 rfl)]; exact hi)
  cases hur with
  | d hd =>
  cases hd
  exact ⟨hu, by simp [World.frozen?, hb]⟩

theorem onceAt_spec {a : AV} {k v i : Nat} {es : List AV} {n m : Int} (ha : onceAt h a = some (k, v, i, es, n, m)) : (∃ z, a = .ptr k v i 0 z) ∧ (h k).ver = v ∧ (h k).ob = some (.arr 1 es) ∧ es[i]? = some (.d (.int .u32 n)) ∧ es[i + 1]? = some (.d (.int .i32 m)) := by
  unfold onceAt at ha
  split at ha
  case h_2 => cases ha
  rename_i k' v' i' off z
  split at ha
  case isFalse => cases ha
  rename_i hoff
  subst hoff
  split at ha
  case h_2 => cases ha
  rename_i sz es' hob
  split at ha
  case isFalse => cases ha
  rename_i hc
  obtain ⟨rfl, hv⟩ := hc
  split at ha
  case h_2 => cases ha
  rename_i n' m' e1 e2
  simp only [Option.some.injEq, Prod.mk.injEq] at ha
  obtain ⟨rfl, rfl, rfl, rfl, rfl, rfl⟩ := ha
  exact ⟨⟨z, rfl⟩, hv, hob, e1, e2⟩

theorem upd_upd {α : Type} (f : Nat → α) (k : Nat) (x y : α) : upd (upd f k x) k y = upd f k y := by
  funext t
  simp only [upd]
  split <;> rfl
end

theorem onceOk : OnceOk Tryz.prog 71 := by
  intro h a f caps k v i es n m ha
  obtain ⟨⟨z, rfl⟩, hv, hob, e1, e2⟩ := onceAt_spec ha
  have hcl : Callable Tryz.prog 71 := ⟨Tryz.f71, Tryz.func71, by kernel_rfl, by kernel_rfl⟩
  have two : ∀ {cargs : Array Value} {G : Gh} {w : World}, cargs.size = [AV.ptr k v i 0 z, .fn f caps].length → (∀ (j : Nat) (x : AV) (u : Value), [AV.ptr k v i 0 z, .fn f caps][j]? = some x → cargs[j]? = some u → Rep G w x u) →
      ∃ va vf, cargs = #[va, vf] ∧ Rep G w (.ptr k v i 0 z) va ∧ Rep G w (.fn f caps) vf := by
    intro cargs G w hs hr
    have l0 : cargs[0]? = some (cargs[0]'(by simp at hs; omega)) := Array.getElem?_eq_getElem _
    have l1 : cargs[1]? = some (cargs[1]'(by simp at hs; omega)) := Array.getElem?_eq_getElem _
    refine ⟨_, _, ?_, hr 0 _ _ rfl l0, hr 1 _ _ rfl l1⟩
    apply Array.ext
    · simpa using hs
    · intro j h1 h2
      match j with
      | 0 => rfl
      | 1 => rfl
      | j + 2 => simp at h2; omega
  refine ⟨fun hn0 => ⟨hcl, fun G B w0 I0 w cargs hr hs hargs => ?_⟩, fun hn0 hm0 rs h2 es2 hcall ha2 => ⟨hcl, fun G B w0 I0 w cargs hr hs hargs => ?_⟩⟩
  · obtain ⟨va, vf, rfl, ra, rf⟩ := two hs hargs
    cases ra with
    | ptr _ _ _ _ L hL =>
    have hsz : L.sz = 1 := by
      rcases hr.objs k _ hob with ⟨rfl, _⟩ | ⟨L', hL', g1, _⟩
      · simp at e1
      · rw [hv, hL] at hL'; cases hL'; exact g1
    rw [hsz, Nat.mul_one, Nat.add_zero]
    have hc := hr.cellAt hob (by rw [hv]; exact hL) e1
    refine (once.do_done ⟨L.b, i, none⟩ n hn0 vf w hc.1).mono ?_
    rintro e w' ⟨rfl, rfl⟩
    exact ⟨_, G, rfl, Ext.refl G _, hr, .tup [] #[] rfl (fun j c u hc => by simp at hc)⟩
  · obtain ⟨⟨z2, _⟩, hv2, hob2, e12, e22⟩ := onceAt_spec ha2
    obtain ⟨va, vf, rfl, ra, rf⟩ := two hs hargs
    subst hn0; subst hm0
    cases ra with
    | ptr _ _ _ _ L hL =>
    have hLv : G.loc k (h k).ver = some L := by rw [hv]; exact hL
    have hsz : L.sz = 1 := by
      rcases hr.objs k _ hob with ⟨rfl, _⟩ | ⟨L', hL', g1, _⟩
      · simp at e1
      · rw [hLv] at hL'; cases hL'; exact g1
    rw [hsz, Nat.mul_one, Nat.add_zero]
    obtain ⟨c0, z0⟩ := hr.cellAt hob hLv e1
    obtain ⟨c1, z1⟩ := hr.cellAt hob hLv e2
    obtain ⟨vs, rfl, hvl, hvr⟩ : ∃ vs : Array Value, vf = .func (.func f) #[] vs ∧ vs.size = caps.length ∧ ∀ (j : Nat) (x : AV) (u : Value), caps[j]? = some x → vs[j]? = some u → Rep G w x u := by
      cases rf with
      | fn _ _ vs hl hh => exact ⟨vs, rfl, hl, hh⟩
    have hlt1 : i + 1 < es.length := (List.getElem?_eq_some_iff.1 e2).1
    obtain ⟨hr1, ex1⟩ := hr.cell1 hob hLv hlt1 (y := .d (.int .i32 1)) (u := .int .i32 1) (.d (.int _ _)) rfl rfl
    rw [hv] at hr1
    have hcall1 := hcall.2 G B w0 I0 _ vs hr1 hvl (fun j x u hx hu => (hvr j x u hx hu).mono ex1)
    refine (once.do_first L.b i f vs w (fun w2 => ∃ G2, Ext G (w.setCell ⟨L.b, i + 1, none⟩ (.int .i32 1)) G2 w2 ∧ HR G2 B w0 I0 h2 w2) (fun args w => run_callFunc hcall.1 args w) c0 c1 z0 z1 (hcall1.mono ?_) ?_).mono ?_
    · rintro e w2 ⟨v', G2, rfl, x1, x2, _⟩
      exact ⟨⟨v', rfl⟩, G2, x1, x2⟩
    · rintro w2 ⟨G2, x1, x2⟩
      have hL2 : G2.loc k (h2 k).ver = some L := by rw [hv2]; exact x1.loc _ _ _ hL
      obtain ⟨d0, y0⟩ := x2.cellAt hob2 hL2 e12
      obtain ⟨d1, y1⟩ := x2.cellAt hob2 hL2 e22
      exact ⟨d0, d1, y0, y1⟩
    · rintro e w' ⟨rfl, w2, ⟨G2, x1, x2⟩, rfl⟩
      have hL2 : G2.loc k (h2 k).ver = some L := by rw [hv2]; exact x1.loc _ _ _ hL
      have hlt0 : i < es2.length := (List.getElem?_eq_some_iff.1 e12).1
      have hlt1 : i + 1 < es2.length := (List.getElem?_eq_some_iff.1 e22).1
      obtain ⟨q1, q2⟩ := x2.drew.cell1 hob2 hL2 hlt0 (y := .d (.int .u32 1)) (u := .int .u32 1) (.d (.int _ _)) rfl rfl
      obtain ⟨p1, p2⟩ := q1.cell1 (k := k) (i := i + 1) (es := es2.set i (.d (.int .u32 1))) (by rw [upd_same]) (by rw [upd_same]; exact hL2) (by simpa using hlt1) (y := .d (.int .i32 0)) (u := .int .i32 0) (.d (.int _ _)) rfl rfl
      rw [upd_upd, upd_same, hv2] at p1
      exact ⟨_, G2, rfl, ex1.trans (x1.trans ((Ext.drew G2 w2).trans (q2.trans p2))), p1, .tup [] #[] rfl (fun j c u hc => by simp at hc)⟩
end Go.Avm
