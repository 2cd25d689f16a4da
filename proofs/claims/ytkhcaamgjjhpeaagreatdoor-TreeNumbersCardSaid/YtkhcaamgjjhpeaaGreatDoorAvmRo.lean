/-
  The abstract machine, part Ro: code under other names; clean pieces of code, clean loops.
-/
import Derived.Test.YtkhcaamgjjhpeaaGreatDoorAvmRn
import Derived.Test.YtkhcaamgjjhpeaaGreatDoorAvmU
set_option linter.unusedSectionVars false
namespace Go.Avm
open Go.RowKit
variable [GlobTab]

def renX (ρ : Nat → Nat) : AExit → AExit
  | .panic x => .panic (renA ρ x)
  | e => e
theorem renA_junk {ρ : Nat → Nat} {x : AV} (h : renA ρ x = .junk) : x = .junk := by
  cases x <;> first | rfl | (simp only [renA, reduceCtorEq] at h)
section
variable {ρ : Nat → Nat} {σ : Nat → Option Nat} (hn : Names ρ σ)
include hn
theorem aw_ren {X : Fix} {c : Code} {env env' : Nat → AV} {h h' : Heap} {e : AExit} (hx : renX ρ e = e)
    (ha : AW X c ⟨fun t => renA ρ (env t), renH ρ σ h⟩ fun e2 S2 => e2 = e ∧ (∀ t, S2.env t = renA ρ (env' t)) ∧ ∀ k, S2.heap (ρ k) = renE ρ (h' k)) :
    AW X c ⟨env, h⟩ fun e2 S2 => e2 = e ∧ S2 = ⟨env', h'⟩ := fun G a w hh => by
  obtain ⟨hr, bs, hf, hs⟩ := hh
  have hg := renG_ren hn G
  have hh2 : Holds X (renG σ G) ⟨fun t => renA ρ (env t), renH ρ σ h⟩ a w :=
    ⟨hr_ren hn hr, bs, ⟨hf.size, hf.nod, fun t ht => rep_ren hg (hf.rep t ht), fun t ht => by
      have := hf.out t ht
      simp only at this
      simp only [this, renA]⟩, hs⟩
  refine wpIn_mono (ha _ a w hh2) ?_
  rintro e1 a' w' ⟨e', S2, G2, x, ⟨rfl, h1, h2⟩, e2, hr2, bs', hf2, hs2⟩
  have hg2 := unG_ren ρ G2
  refine ⟨e', ⟨env', h'⟩, unG ρ G2, ?_, ⟨rfl, rfl⟩, ext_unren hn e2, hr_unren hn hr2 h2, bs', ⟨hf2.size, hf2.nod, fun t ht => ?_, fun t ht => ?_⟩, hs2⟩
  · cases e' with
    | panic y =>
      obtain ⟨v, rfl, hv⟩ := x.panic
      simp only [renX, AExit.panic.injEq] at hx
      exact ⟨v, rfl, rep_unren hg2 hv y hx⟩
    | _ => cases e1 <;> first | exact x | exact x.elim
  · have := hf2.rep t ht
    rw [h1 t] at this
    exact rep_unren hg2 this _ rfl
  · have := hf2.out t ht
    rw [h1 t] at this
    exact renA_junk this
end

/-- Cells that lead to lists: from here on these are data. -/
def freezeC : List (Nat × Nat) → Heap → Option (Heap × List Nat)
  | [], h => some (h, [])
  | (C, a) :: r, h => match (h C).ob with
    | some (.arr 1 ces) => match ces[a]? with
      | some x => match view 12 h x with
        | some (d, ks) => match d.one && !(ks.any (Nat.beq C)) with
          | true => (freezeC r (upd (updAll h (kill h ks)) C ⟨(h C).ver, some (.arr 1 (ces.set a (.d d)))⟩)).map fun q => (q.1, ks ++ q.2)
          | false => none
        | none => none
      | none => none
    | _ => none
theorem freezeC_spec {X : Fix} {env : Nat → AV} : ∀ {l : List (Nat × Nat)} {h h2 : Heap} {ks : List Nat}, freezeC l h = some (h2, ks) → Weak X ⟨env, h⟩ ⟨env, h2⟩ ∧ ∀ k, k ∉ ks → k ∉ l.map (·.1) → h2 k = h k
  | [], h, h2, ks, e => by
    simp only [freezeC, Option.some.injEq, Prod.mk.injEq] at e
    obtain ⟨rfl, rfl⟩ := e
    exact ⟨Weak.refl _, fun _ _ _ => rfl⟩
  | (C, a) :: r, h, h2, ks, e => by
    simp only [freezeC] at e
    split at e
    case h_2 => cases e
    rename_i ces hob
    split at e
    case h_2 => cases e
    rename_i x hx
    split at e
    case h_2 => cases e
    rename_i d ks0 hv
    split at e
    case h_2 => cases e
    rename_i hd
    simp only [Option.map_eq_some_iff, Prod.mk.injEq] at e
    obtain ⟨⟨h3, ks3⟩, e3, rfl, rfl⟩ := e
    rw [Bool.and_eq_true, Bool.not_eq_true'] at hd
    have hC : C ∉ ks0 := rn_not.1 hd.2
    have hw := weak_freeze (X := X) (env := env) hC hob hx hd.1 hv
    have ih := freezeC_spec (X := X) (env := env) e3
    refine ⟨hw.trans ih.1, fun k hk hl => ?_⟩
    simp only [List.mem_append, not_or] at hk
    simp only [List.map_cons, List.mem_cons, not_or] at hl
    show h3 k = h k
    rw [ih.2 k hk.2 hl.2, upd_ne _ _ hl.1, updAll_kill, if_neg hk.1]
def finC (r : Option (AExit × St × Nat × List Nat × Pairs)) (F : List Nat) (M : Nat) (fz : List (Nat × Nat)) (l' : List (Nat × AV)) (post : List (Nat × Ent)) : Option (AExit × Pairs) :=
  match r with
  | some (e, S, _, tk, ps) => match freezeC fz S.heap with
    | some z => match heapPairs z.1 post with
      | some q => match ((z.2 ++ (tk ++ fz.map (·.1))).all fun k => Nat.blt k M) with
        | true => some (e, ps ++ (envPairs S.env l' ++ q))
        | false => none
      | none => none
    | none => none
  | none => none
theorem renL_eq {ρ : Nat → Nat} : ∀ {l : List (Nat × AV)}, renL ρ (l.map (·.2)) = l.map (·.2) → (l.map fun p => (p.1, renA ρ p.2)) = l
  | [], _ => rfl
  | (k, x) :: r, h => by
    simp only [List.map_cons, renL, List.cons.injEq] at h
    simp only [List.map_cons, renL_eq h.2, h.1]
/-- A clean piece of code. -/
theorem segC {P : Program} (hm : OkP P) (hn : Named P) (pr : Par P) (n fno base N M : Nat) (fz : List (Nat × Nat)) {c : Code} {l l' : List (Nat × AV)} {pre post : List (Nat × Ent)} {e : AExit}
    (cl : Cln (pre.map (·.1)) M (l.map (·.2)) pre post) (cl' : renL (rnK (pre.map (·.1)) M) (l'.map (·.2)) = l'.map (·.2)) (hx : renX (rnK (pre.map (·.1)) M) e = e)
    (h : ∀ rest : Heap, outL (finC (execH P pr n fno base N c ⟨envOf l, ovl pre (lowZ M rest)⟩) (pre.map (·.1)) M fz l' post) = outR e (finC (execH P pr n fno base N c ⟨envOf l, ovl pre (lowZ M rest)⟩) (pre.map (·.1)) M fz l' post))
    (rest : Heap) (X : Fix) (hP : X.P = P) (hN : X.N = N) : AW X c ⟨envOf l, ovl pre rest⟩ fun e' S' => e' = e ∧ S' = ⟨envOf l', ovl post rest⟩ := by
  refine aw_ren (rn_names cl.ltF) hx ?_
  have henv : (fun t => renA (rnK (pre.map (·.1)) M) (envOf l t)) = envOf l := by
    funext t
    rw [← envOf_ren, renL_eq cl.argsK]
  have henv' : ∀ t, renA (rnK (pre.map (·.1)) M) (envOf l' t) = envOf l' t := fun t => by
    rw [← envOf_ren, renL_eq cl']
  rw [henv, cl.heap rest]
  have hr := h (renH (rnK (pre.map (·.1)) M) (rnS (pre.map (·.1)) M) (ovl pre rest))
  obtain ⟨ps, h1, hs⟩ := out_spec hr
  unfold finC at h1
  split at h1
  case h_2 => cases h1
  rename_i e1 S1 b1 tk ps1 hrun
  split at h1
  case h_2 => cases h1
  rename_i z hz
  split at h1
  case h_2 => cases h1
  rename_i q hq
  split at h1
  case h_2 => cases h1
  rename_i hk
  simp only [Option.some.injEq, Prod.mk.injEq] at h1
  obtain ⟨rfl, rfl⟩ := h1
  have a1 := execH_right hm hn n _ _ _ _ _ _ _ _ _ _ hrun hs.left
  have hlt : ∀ k, k ∈ z.2 ++ (tk ++ fz.map (·.1)) → k < M := fun k hkm => by
    have := List.all_eq_true.1 hk k hkm
    simpa using this
  obtain ⟨z1, z2⟩ := z
  have hf := freezeC_spec (X := X) (env := S1.env) hz
  refine aw_post ((a1.1 X hP hN).mono ?_)
  rintro e' S' ⟨rfl, rfl⟩
  refine ⟨⟨envOf l', ovl post z1⟩, hf.1.trans (weak_to (S := ⟨S'.env, z1⟩) hs.right.left hq hs.right.right), rfl, fun t => (henv' t).symm, ?_⟩
  refine cl.behind rest (fun k hkF => ?_) (fun k hkM => ?_)
  · exact ovl_in post z1 (ovl post z1) (by rw [cl.postK]; exact hkF)
  · have hkF : k ∉ pre.map (·.1) := fun hx => by have := cl.ltF k hx; omega
    have hno : k ∉ z2 ++ (tk ++ fz.map (·.1)) := fun hx => by have := hlt k hx; omega
    simp only [List.mem_append, not_or] at hno
    show ovl post z1 k = _
    rw [ovl_ne post z1 (by rw [cl.postK]; exact hkF)]
    rw [hf.2 k hno.1 hno.2.2, a1.2 k hno.2.1]
/-! ### Clean loops -/
theorem lw_step {X : Fix} {c : Code} {S S1 : St} {Q : AExit → St → Prop} (h : AW X c S fun e' S' => e' = .normal ∧ S' = S1) (hl : LW X c S1 Q) : LW X c S Q :=
  lw_seg (h.mono fun _ _ ⟨h1, h2⟩ => ⟨h1, h2 ▸ Weak.refl _⟩) hl
theorem lw_stop {X : Fix} {c : Code} {S S2 : St} {e : AExit} (h : AW X c S fun e' S' => e' = e ∧ S' = S2) (he : e ≠ .normal) : LW X c S fun e' S' => e' = e ∧ S' = S2 :=
  lw_end (h.mono fun _ _ ⟨h1, h2⟩ => ⟨h1, h2 ▸ Weak.refl _⟩) he
/-! ### Clean calls whose objects' cells become data -/
theorem freezeC_hr {P : Program} (hm : OkP P) {G : Gh} {B : Nat} {w0 w : World} {I0 : Nat → Nat → Prop} {h h2 : Heap} {fz : List (Nat × Nat)} {ks : List Nat} (hf : freezeC fz h = some (h2, ks)) (hr : HR G B w0 I0 h w) : ∃ G', Ext G w G' w ∧ HR G' B w0 I0 h2 w := by
  let X : Fix := { P := P, B := B, w0 := w0, I0 := I0, N := 0, mixed := hm }
  have hw := (freezeC_spec (X := X) (env := fun _ => .junk) hf).1
  obtain ⟨G', e, h3, _⟩ := hw G { tmps := #[], defers := [] } w ⟨hr, [], ⟨rfl, rfl, fun t ht => absurd ht (by simp [X]), fun _ _ => rfl⟩, ⟨List.nodup_nil, fun b hb => by simp at hb, fun b hb => by simp at hb, fun l hl => by simp [X] at hl, Nat.zero_le _⟩⟩
  exact ⟨G', e, h3⟩
theorem hcall_freeze {P : Program} (hm : OkP P) {f : Nat} {args rs : List AV} {h h1 h2 : Heap} {fz : List (Nat × Nat)} {ks : List Nat} (hc : HCall P f args h rs h1) (hf : freezeC fz h1 = some (h2, ks)) : HCall P f args h rs h2 := by
  refine ⟨hc.1, fun G B w0 I0 w cargs hr hs hargs => (hc.2 G B w0 I0 w cargs hr hs hargs).mono ?_⟩
  rintro e w' ⟨v, G', rfl, e1, e2, e3⟩
  obtain ⟨G2, e4, e5⟩ := freezeC_hr hm hf e2
  exact ⟨v, G2, rfl, e1.trans e4, e5, e3.mono e4⟩
def cleanRunF (r : Option (List AV × Heap × Nat × List Nat × Pairs)) (F : List Nat) (M : Nat) (fz : List (Nat × Nat)) (ds : List D) (post : List (Nat × Ent)) : Option (AExit × Pairs) :=
  match r with
  | some (rs', h', _, tk, ps) => match freezeC fz h' with
    | some z => match viewK z.1 rs', heapPairs z.1 post with
      | some v, some q => match (v.2.all fun k => Nat.blt k M && !(F.any (Nat.beq k))) && (z.2 ++ (tk ++ fz.map (·.1))).all fun k => Nat.blt k M with
        | true => some (.ret, (.ds v.1, .ds ds) :: (ps ++ q))
        | false => none
      | _, _ => none
    | none => none
  | none => none
theorem hcleanF_of_run {P : Program} (hm : OkP P) (hn : Named P) (pr : Par P) (n base g M : Nat) (fz : List (Nat × Nat)) {args : List AV} {ds : List D} {pre post : List (Nat × Ent)} (c : Cln (pre.map (·.1)) M args pre post)
    (h : ∀ rest : Heap, outL (cleanRunF (callHH P (execH P pr n) base g args (ovl pre (lowZ M rest))) (pre.map (·.1)) M fz ds post) = outR .ret (cleanRunF (callHH P (execH P pr n) base g args (ovl pre (lowZ M rest))) (pre.map (·.1)) M fz ds post)) (rest : Heap) : HCall P g args (ovl pre rest) (ds.map .d) (ovl post rest) := by
  refine hcall_clean c (fun rest => ?_) rest
  obtain ⟨ps, h1, hs⟩ := out_spec (h rest)
  unfold cleanRunF at h1
  split at h1
  case h_2 => cases h1
  rename_i rs' h' b' tk ps' hr
  split at h1
  case h_2 => cases h1
  rename_i z hz
  obtain ⟨z1, z2⟩ := z
  split at h1
  case h_2 => cases h1
  rename_i v q hv hq
  split at h1
  case h_2 => cases h1
  rename_i hk
  simp only [Option.some.injEq, Prod.mk.injEq, true_and] at h1
  subst h1
  have g1 := hs.head
  simp only [Side.ds.injEq] at g1
  subst g1
  rw [Bool.and_eq_true] at hk
  have hv2 : ∀ k ∈ v.2, k < M ∧ k ∉ pre.map (·.1) := fun k hkv => by
    have := List.all_eq_true.1 hk.1 k hkv
    simp only [Bool.and_eq_true, Bool.not_eq_true'] at this
    exact ⟨by simpa using this.1, rn_not.1 this.2⟩
  have htk : ∀ k, k ∈ z2 ++ (tk ++ fz.map (·.1)) → k < M := fun k hkt => by
    have := List.all_eq_true.1 hk.2 k hkt
    simpa using this
  obtain ⟨c1, c2⟩ := callHH_sound hm hn (execH_right hm hn n) hr hs.tail.left
  have c3 := hcall_view (hcall_freeze hm c1 hz) hv
  have hsub := ovl_sub z1 post (heapPairs_spec hq hs.tail.right)
  refine ⟨ovl post (updAll z1 (kill z1 v.2)), ⟨c3.1, fun G B w0 I0 w cargs hr hsz hargs => (c3.2 G B w0 I0 w cargs hr hsz hargs).mono ?_⟩, fun k hkF => ?_, fun k hkM => ?_⟩
  · rintro e w' ⟨u, G', rfl, e1, e2, e3⟩
    refine ⟨u, G', rfl, e1, e2.forget fun k => ?_, e3⟩
    by_cases hkF : k ∈ post.map (·.1)
    · have hnv : k ∉ v.2 := fun hx => (hv2 k hx).2 (by rw [← c.postK]; exact hkF)
      rw [updAll_kill, if_neg hnv, ovl_in post _ z1 hkF]
      exact hsub k
    · rw [ovl_ne _ _ hkF]
      exact ⟨rfl, .inr rfl⟩
  · exact ovl_in _ _ _ (by rw [c.postK]; exact hkF)
  · have hkF : k ∉ pre.map (·.1) := fun hx => by have := c.ltF k hx; omega
    rw [ovl_ne _ _ (by rw [c.postK]; exact hkF), updAll_kill, if_neg fun hx => by have := (hv2 k hx).1; omega]
    have hno : k ∉ z2 ++ (tk ++ fz.map (·.1)) := fun hx => by have := htk k hx; omega
    simp only [List.mem_append, not_or] at hno
    have hf := freezeC_spec (X := ⟨P, 0, default, fun _ _ => False, 0, hm, none, 0, []⟩) (env := fun _ => .junk) hz
    rw [hf.2 k hno.1 hno.2.2]
    exact c2 k hno.2.1
end Go.Avm
