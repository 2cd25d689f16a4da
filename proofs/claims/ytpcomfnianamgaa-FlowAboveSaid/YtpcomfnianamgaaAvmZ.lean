/-
  The abstract machine, part Z: going through a map. What comes next the tape says: a rule for every outcome.
-/
import Derived.Test.YtpcomfnianamgaaAvmY
import Derived.Maps.RangeRun
set_option linter.unusedSectionVars false
namespace Go.Avm
open Go.RowKit
variable [GlobTab]

section
variable {P : Program} {B : Nat} {w0 : World} {I0 : Nat → Nat → Prop} {cfg : Cfg} {N : Nat} {ops : Array Oper}
theorem runA_then {D : List Deferred} (hx : ExtAll P) (r : Option Nat) (n : Nat) {Q : Exit → Act → World → Prop} {rest : List Nat} : ∀ (l : List Nat) {G : Gh} {w : World} {S S' : St} {a : Act} {ob : List Obl} {fts : List Foot},
    HR G B w0 I0 S.heap w → FR G w N D S.env a → runA P cfg N ops l S = some (S', ob, fts) → Obls P ob →
    (∀ a' w' G', Ext G w G' w' → HR G' B w0 I0 S'.heap w' → FR G' w' N D S'.env a' → wpOpsIn (FF r) n P ops Q rest a' w') → wpOpsIn (FF r) n P ops Q (l ++ rest) a w
  | [], G, w, S, S', a, ob, fts, hr, hf, hs, hob, hq => by
    simp only [runA, Option.some.injEq, Prod.mk.injEq] at hs
    obtain ⟨rfl, _, _⟩ := hs
    rw [List.nil_append]
    exact hq a w G (Ext.refl G w) hr hf
  | i :: rl, G, w, S, S', a, ob, fts, hr, hf, hs, hob, hq => by
    simp only [runA] at hs
    split at hs
    · cases hs
    · rename_i o ho
      split at hs
      · cases hs
      · rename_i st hst
        split at hs
        · cases hs
        · rename_i rs hrs
          simp only [Option.some.injEq, Prod.mk.injEq] at hs
          obtain ⟨rfl, rfl, rfl⟩ := hs
          obtain ⟨S1, ob1, ft1⟩ := st
          obtain ⟨S2, ob2, ft2⟩ := rs
          rw [List.cons_append, wpOpsIn_cons]
          unfold wpOpIn
          simp only [ho]
          exact stepA_sound hx hr hf hst (fun c hc => hob c (List.mem_append_left _ hc)) r n (fun a' w' G' h1 h2 h3 =>
            runA_then hx r n rl h2 h3 hrs (fun c hc => hob c (List.mem_append_right _ hc)) (fun a2 w2 G2 g1 g2 g3 => hq a2 w2 G2 (h1.trans g1) g2 g3))
end

/-- An operation of a region, of which the outcome is told by a relation. -/
theorem aw_region_val {X : Fix} {S S1 : St} {Q : AExit → St → Prop} {id p : Nat} {ops : Array Oper} {op : Oper} {cfg : Cfg} {ob : List Obl} {fts : List Foot} {Out : AV → Heap → Prop}
    (hp : ops[p]? = some op) (hg : op.guard = none) (hd : ∀ c, op.op ≠ .defer c) (hpre : runA X.P cfg X.N ops (List.range' 0 p) S = some (S1, ob, fts)) (hob : Obls X.P ob)
    (hop : ∀ (G : Gh) (w : World) (a : Act), HR G X.B X.w0 X.I0 S1.heap w → (∀ x, Rep G w (opd S1.env x) (a.eval x)) → ∃ v w' G' x h', (execOp a.eval op).run X.P w = .ok (.value v) w' ∧ Ext G w G' w' ∧ HR G' X.B X.w0 X.I0 h' w' ∧ Rep G' w' x v ∧ Out x h')
    (hsuf : ∀ x h', Out x h' → ∃ env S3 ob fts, putA X.N S1.env op.dst x = some env ∧ runA X.P cfg X.N ops (List.range' (p + 1) (ops.size - p - 1)) ⟨env, h'⟩ = some (S3, ob, fts) ∧ Obls X.P ob ∧ Q .normal S3) :
    AW X (.region id ops false) S Q := fun G a w hh => hh.2.elim fun bs hf => by
  refine wpIn_region ?_
  rw [range_split (Array.getElem?_eq_some_iff.1 hp).1]
  refine runA_then X.mixed.ext X.rnd 0 _ hh.1 hf.1 hpre hob fun a1 w1 G1 e1 hr1 hf1 => ?_
  rw [wpOpsIn_cons]
  unfold wpOpIn
  simp only [hp]
  rw [if_pos (yieldsA hf1 (b := true) (by unfold wantedA; rw [hg]))]
  obtain ⟨v, w2, G2, x, h2, hrun, e2, hr2, hx2, hout⟩ := hop G1 w1 a1 hr1 (fun x => hf1.opd hr1.maps.glob x)
  obtain ⟨env, S3, ob3, fts3, hput, hrun3, hob3, hq⟩ := hsuf x h2 hout
  refine wpIn_value X.rnd 0 hd hrun ?_
  refine runA_sound X.mixed.ext X.rnd 0 _ hr2 ((hf1.mono e2).put hput hx2) hrun3 hob3 fun a3 w3 G3 e3 hr3 hf3 => ?_
  exact ⟨.normal, S3, G3, trivial, hq, (e1.trans e2).trans e3, hr3, bs, hf3, hf.2.mono ((e1.trans e2).trans e3)⟩

section
variable {P : Program} {G : Gh} {B : Nat} {w0 w : World} {I0 : Nat → Nat → Prop} {h : Heap} {env : Nat → AV} {a : Act} {op : Oper}
/-- 'range' of a map: an iterator is made. -/
theorem op_range (hr : HR G B w0 I0 h w) (hρ : ∀ x, Rep G w (opd env x) (a.eval x)) {t kt et : TypeId} {x : Operand} {k v c : Nat} {es : List (D × D × Nat)} (K : Nat) (hop : op.op = .range t x) (hu : P.underlying t = some (.map kt et))
    (hx : opd env x = .mp k v) (hob : h k = ⟨v, some (.map es c)⟩) : ∃ v' w' G', (execOp a.eval op).run P w = .ok (.value v') w' ∧ Ext G w G' w' ∧ HR G' B w0 I0 (upd h K ⟨(h K).ver + 1, some (.itr k v c [])⟩) w' ∧ Rep G' w' (.itr K ((h K).ver + 1)) v' := by
  have hrx := hρ x
  rw [hx] at hrx
  generalize hvx : a.eval x = vx at hrx
  cases hrx with
  | mp _ _ b hL =>
  obtain ⟨b', hL', ms, hb, hsz, hent⟩ := hr.maps.obj k es c (by rw [hob])
  rw [hob] at hL'
  simp only at hL'
  rw [hL] at hL'
  cases hL'
  have hr1 := hr.allocAny (.mapIter (some b) c #[] c)
  have e1 := Ext.alloc hr (.mapIter (some b) c #[] c)
  obtain ⟨hr2, e2⟩ := hr1.newFixO K (b := w.heap.size) (oo := some (.itr k v c [])) (o := .mapIter (some b) c #[] c) (fun o' e => by cases e; rfl) hr.bsz (fun k v x => by
    obtain ⟨_, ⟨o, _, h2⟩, _⟩ := hr.maps.low _ _ _ x
    have := (Array.getElem?_eq_some_iff.1 h2).1; omega) rfl (heap_alloc_new w _) (fun _ _ e => by cases e) (fun _ _ _ _ _ _ _ e => by cases e) (fun km vm since seen e => by
    cases e
    exact ⟨b, #[], c, hL, heap_alloc_new w _, rfl, rfl⟩)
  refine ⟨.pointer (some ⟨w.heap.size, 0, none⟩), w.alloc (.mapIter (some b) c #[] c), _, ?_, e1.trans e2, hr2, .itr _ _ _ (by simp [Gh.atMap])⟩
  unfold execOp
  rw [hop]
  simp only [hvx, Sem.run_bind, run_range_map w t kt et b ms c hu hb, Result.andThen, Sem.run]
  rfl

def NextOut (h : Heap) (I vI k v c : Nat) (es : List (D × D × Nat)) (seen : List Nat) (x : AV) (h' : Heap) : Prop :=
  (x = .tup [.d (.bool false)] ∧ h' = h ∧ ∀ e ∈ es, e.2.2 ∈ seen) ∨
  ∃ e ∈ es, e.2.2 ∉ seen ∧ x = .tup [.d (.bool true), .d e.1, .d e.2.1] ∧ h' = upd h I ⟨vI, some (.itr k v c (seen ++ [e.2.2]))⟩
theorem op_next (hr : HR G B w0 I0 h w) (hρ : ∀ x, Rep G w (opd env x) (a.eval x)) {x : Operand} {I vI k v c : Nat} {es : List (D × D × Nat)} {seen : List Nat} (hop : op.op = .next x false)
    (hx : opd env x = .itr I vI) (hI : h I = ⟨vI, some (.itr k v c seen)⟩) (hob : h k = ⟨v, some (.map es c)⟩) (hold : ∀ e ∈ es, e.2.2 < c) :
    ∃ v' w' G' x' h', (execOp a.eval op).run P w = .ok (.value v') w' ∧ Ext G w G' w' ∧ HR G' B w0 I0 h' w' ∧ Rep G' w' x' v' ∧ NextOut h I vI k v c es seen x' h' := by
  have hrx := hρ x
  rw [hx] at hrx
  generalize hvx : a.eval x = vx at hrx
  cases hrx with
  | itr _ _ b hL =>
  obtain ⟨b', bm, sa, c0, hL', hLm, hbi, hsa, hc0⟩ := hr.maps.iters I k v c seen (by rw [hI])
  rw [hI] at hL'
  simp only at hL'
  rw [hL] at hL'
  cases hL'
  subst hc0
  obtain ⟨b2, hL2, ms, hb, hsz, hent⟩ := hr.maps.obj k es _ (by rw [hob])
  rw [hob] at hL2
  simp only at hL2
  rw [hLm] at hL2
  cases hL2
  have hel : ∀ m ∈ ms.toList, ∃ e ∈ es, DRep G.imm w e.1 m.key ∧ DRep G.imm w e.2.1 m.val ∧ m.born = e.2.2 := fun m hm => by
    obtain ⟨i, hi, he⟩ := List.getElem_of_mem hm
    have hi' : i < ms.size := by simpa using hi
    have h2 : ms[i]? = some m := by rw [Array.getElem?_eq_getElem hi']; rw [← he]; simp
    have h1 : es[i]? = some es[i] := List.getElem?_eq_getElem (by omega)
    exact ⟨es[i], List.getElem_mem _, hent i _ m h1 h2⟩
  have hexec : (execOp a.eval op).run P w = ((Instr.next (.pointer (some ⟨b, 0, none⟩)) false op.type).run P w).andThen fun v w' => (pure (Next.value v) : Sem Next).run P w' := by
    unfold execOp
    rw [hop]
    simp only [hvx, Sem.run_bind]
  rcases run_next_at (P := P) w op.type b bm c0 c0 sa ms c0 hbi hb (fun m hm => by
    obtain ⟨e, he, _, _, hbn⟩ := hel m hm
    rw [hbn]
    exact hold e he) (Nat.le_refl _) with ⟨h0, hrun⟩ | ⟨m, hm, w1, hw1, hrun⟩
  · refine ⟨_, w, G, .tup [.d (.bool false)], h, by rw [hexec, hrun]; rfl, Ext.refl G w, hr, .tup _ _ rfl (fun i cc u hc hu => ?_), .inl ⟨rfl, rfl, fun e he => ?_⟩⟩
    · cases i with
      | zero =>
        simp at hc hu
        subst hc; subst hu
        exact .d (.bool _)
      | succ i => simp at hc
    · -- all were seen
      obtain ⟨i, hi, hee⟩ := List.getElem_of_mem he
      have hi' : i < ms.size := by omega
      have h1 : es[i]? = some e := by rw [List.getElem?_eq_getElem hi, hee]
      have h2 : ms[i]? = some ms[i] := Array.getElem?_eq_getElem hi'
      obtain ⟨_, _, hbn⟩ := hent i e _ h1 h2
      have hl : leftOf ms sa = #[] := Array.eq_empty_of_size_eq_zero h0
      unfold leftOf at hl
      rw [Array.filter_eq_empty_iff] at hl
      have := hl ms[i] (Array.getElem_mem hi')
      simp only [Bool.not_eq_true', Bool.not_eq_false'] at this
      rw [← hsa, ← hbn]
      simpa using this
  · unfold leftOf at hm
    simp only [Array.toList_filter, List.mem_filter, Bool.not_eq_true'] at hm
    obtain ⟨e, he, hk1, hk2, hbn⟩ := hel m hm.1
    have hns : e.2.2 ∉ seen := fun hx => by
      rw [← hsa, ← hbn] at hx
      have := hm.2
      simp at this
      exact this (by simpa using hx)
    have hw : HR G B w0 I0 h w1 ∧ Ext G w G w1 ∧ w1.heap[b]? = some (.mapIter (some bm) c0 sa c0) := by
      rcases hw1 with rfl | rfl
      · exact ⟨hr, Ext.refl G _, hbi⟩
      · exact ⟨hr.drew, Ext.drew G w, hbi⟩
    obtain ⟨hr1, e1, hbi1⟩ := hw
    obtain ⟨hr2, e2⟩ := hr1.setFix (k := I) (b := b) (o' := .mapIter (some bm) c0 (sa.push m.born) c0) (ob' := some (.itr k v c0 (seen ++ [e.2.2]))) (by rw [hI]; exact hL) hbi1 rfl rfl (fun _ => ⟨_, _, _, _, rfl⟩) (fun x hx => by cases hx; rfl) (fun _ _ e => by cases e) (fun _ _ _ _ _ _ _ e => by cases e) (fun km vm since sn e3 => by
      cases e3
      have hlt := (Array.getElem?_eq_some_iff.1 hbi1).1
      exact ⟨bm, _, c0, hLm, World.putObj_heap_same hlt, by simp [hsa, hbn], rfl⟩)
    rw [hI] at hr2
    refine ⟨_, _, G, .tup [.d (.bool true), .d e.1, .d e.2.1], _, by rw [hexec, hrun]; rfl, e1.trans e2, hr2, .tup _ _ rfl (fun i cc u hc hu => ?_), .inr ⟨e, he, hns, rfl, rfl⟩⟩
    have ee := e1.trans e2
    match i with
    | 0 =>
      simp at hc hu
      subst hc; subst hu
      exact .d (.bool _)
    | 1 =>
      simp at hc hu
      subst hc; subst hu
      exact (Rep.d hk1 : Rep G w _ _).mono ee
    | 2 =>
      simp at hc hu
      subst hc; subst hu
      exact (Rep.d hk2 : Rep G w _ _).mono ee
    | i + 3 => simp at hc
theorem op_entry (hr : HR G B w0 I0 h w) (hρ : ∀ x, Rep G w (opd env x) (a.eval x)) {x : Operand} {I vI k v c : Nat} {es : List (D × D × Nat)} {seen : List Nat} {e : D × D × Nat} (hop : op.op = .entry x)
    (hx : opd env x = .itr I vI) (hI : h I = ⟨vI, some (.itr k v c (seen ++ [e.2.2]))⟩) (hob : h k = ⟨v, some (.map es c)⟩) (he : e ∈ es) (hn : (es.map (·.2.2)).Nodup) :
    ∃ v' w' G' x' h', (execOp a.eval op).run P w = .ok (.value v') w' ∧ Ext G w G' w' ∧ HR G' B w0 I0 h' w' ∧ Rep G' w' x' v' ∧ x' = .tup [.d e.1, .d e.2.1] ∧ h' = h := by
  have hrx := hρ x
  rw [hx] at hrx
  generalize hvx : a.eval x = vx at hrx
  cases hrx with
  | itr _ _ b hL =>
  obtain ⟨b', bm, sa, c0, hL', hLm, hbi, hsa, hc0⟩ := hr.maps.iters I k v c _ (by rw [hI])
  rw [hI] at hL'
  simp only at hL'
  rw [hL] at hL'
  cases hL'
  subst hc0
  obtain ⟨b2, hL2, ms, hb, hsz, hent⟩ := hr.maps.obj k es _ (by rw [hob])
  rw [hob] at hL2
  simp only at hL2
  rw [hLm] at hL2
  cases hL2
  obtain ⟨i, hi, hee⟩ := List.getElem_of_mem he
  have hi' : i < ms.size := by omega
  have h1 : es[i]? = some e := by rw [List.getElem?_eq_getElem hi, hee]
  have h2 : ms[i]? = some ms[i] := Array.getElem?_eq_getElem hi'
  obtain ⟨hk1, hk2, hbn⟩ := hent i e _ h1 h2
  have hborn : ms.toList.map (·.born) = es.map (·.2.2) := by
    apply List.ext_getElem?
    intro j
    rcases Nat.lt_or_ge j es.length with hj | hj
    · have hj' : j < ms.size := by omega
      have g1 : es[j]? = some es[j] := List.getElem?_eq_getElem hj
      have g2 : ms[j]? = some ms[j] := Array.getElem?_eq_getElem hj'
      rw [List.getElem?_map, List.getElem?_map, g1]
      have g3 : ms.toList[j]? = some ms[j] := by simp [hj']
      rw [g3]
      simp only [Option.map_some]
      rw [(hent j _ _ g1 g2).2.2]
    · rw [List.getElem?_eq_none (by simp; omega), List.getElem?_eq_none (by simp; omega)]
  obtain ⟨sa', hsa'⟩ : ∃ sa' : Array Nat, sa = sa'.push ms[i].born := ⟨seen.toArray, by
    apply Array.toList_inj.1
    rw [hsa, hbn]
    simp⟩
  rw [hsa'] at hbi
  have hrun := run_entry_at (P := P) w b bm c0 sa' ms c0 ms[i] hbi hb (by simp) (by rw [hborn]; exact hn)
  refine ⟨.tuple #[ms[i].key, ms[i].val], w, G, .tup [.d e.1, .d e.2.1], h, ?_, Ext.refl G w, hr, .tup _ #[ms[i].key, ms[i].val] rfl (fun j cc u hc hu => ?_), rfl, rfl⟩
  · unfold execOp
    rw [hop]
    simp only [hvx, Sem.run_bind, hrun, Result.andThen]
    rfl
  · match j with
    | 0 =>
      simp at hc hu
      subst hc; subst hu
      exact .d hk1
    | 1 =>
      simp at hc hu
      subst hc; subst hu
      exact .d hk2
    | j + 2 => simp at hc
end
end Go.Avm
