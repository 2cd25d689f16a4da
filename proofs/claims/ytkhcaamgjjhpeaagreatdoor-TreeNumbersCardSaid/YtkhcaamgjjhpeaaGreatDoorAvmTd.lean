/-
  The abstract machine: functions that defer, and recover, on open data.
-/
import Derived.Test.YtkhcaamgjjhpeaaGreatDoorAvmT
import Derived.Test.YtkhcaamgjjhpeaaGreatDoorAvmTe
set_option linter.unusedSectionVars false
namespace Go.Avm
open Go.RowKit
variable [GlobTab]

open Classical in
/-- A run on open data whose pairs are alike, as a run. -/
noncomputable def exA (ex : ExecH) : Exec := fun fno base N c S => match ex fno base N c S with
  | some (e, S', b', tk, ps) => if Alike ps then some (e, S', b', tk) else none
  | none => none
theorem exA_of {ex : ExecH} {fno base N : Nat} {c : Code} {S S' : St} {e : AExit} {b' : Nat} {tk : List Nat} {ps : Pairs} (h : ex fno base N c S = some (e, S', b', tk, ps)) (hs : Alike ps) : exA ex fno base N c S = some (e, S', b', tk) := by
  unfold exA
  rw [h]
  exact if_pos hs
theorem exA_right {P : Program} {ex : ExecH} (h : RightH P ex) : Right P (exA ex) := fun fno base N c S e S' b' tk he => by
  unfold exA at he
  split at he
  · rename_i e1 S1 b1 tk1 ps1 h1
    split at he
    · rename_i hs
      simp only [Option.some.injEq, Prod.mk.injEq] at he
      obtain ⟨rfl, rfl, rfl, rfl⟩ := he
      exact h _ _ _ _ _ _ _ _ _ _ h1 hs
    · cases he
  · cases he
def outHd (P : Program) (rs : List ResultVar) : Option (AExit × St × Nat × List Nat × Pairs) → Option (Way × Heap × Nat × List Nat × Pairs)
  | some (e, S', b', tk, ps) => (outE P rs (some (e, S', b', tk))).map fun r => (r.1, r.2.1, r.2.2.1, r.2.2.2, ps)
  | none => none
/-- A deferred call. -/
def runDH (P : Program) (ex : ExecH) (base : Nat) (g : Nat) (args : List AV) (x : Option AV) (h : Heap) : Option (Heap × Nat × List Nat × Pairs) :=
  match P.funcs[g]? with
  | none => none
  | some fn => match fn.body with
    | some (.seq r c) => match recoverOf r with
      | some d => if args.length ≤ fn.ntmps ∧ d < fn.ntmps ∧ fn.results.isEmpty = true then match ex g base fn.ntmps c ⟨upd (startE args) d (x.getD (.d .nili)), h⟩ with
          | some (.normal, S', b', tk, ps) => some (S'.heap, b', tk, ps)
          | some (.ret, S', b', tk, ps) => some (S'.heap, b', tk, ps)
          | _ => none
        else none
      | none => none
    | _ => none
def bodyH (P : Program) (ex : ExecH) (fno N : Nat) (rs : List ResultVar) : Code → Nat → St → Option (Way × Heap × Nat × List Nat × Pairs)
  | .seq x y, base, S => match deferOf x with
    | some (f, as) => match opd S.env f with
      | .fn g caps => match ex fno base N y S with
        | some (e, S2, b2, tk, ps) => match panOf e with
          | some pv => match runDH P ex b2 g (as.map (opd S.env) ++ caps) pv S2.heap with
            | some r => (resA P ⟨S2.env, r.1⟩ rs).map fun l => (.ret l, r.1, r.2.1, tk ++ (r.2.2.1 ++ resK S2.env rs), ps ++ r.2.2.2)
            | none => none
          | none => none
        | none => none
      | _ => none
    | none => match ex fno base N x S with
      | some (.normal, S', b', tk, ps) => match bodyH P ex fno N rs y b' S' with
        | some r => some (r.1, r.2.1, r.2.2.1, tk ++ r.2.2.2.1, ps ++ r.2.2.2.2)
        | none => none
      | r => outHd P rs r
  | c, base, S => outHd P rs (ex fno base N c S)
theorem runDH_E {P : Program} {ex : ExecH} {base g : Nat} {args : List AV} {x : Option AV} {h h' : Heap} {b : Nat} {tk : List Nat} {ps : Pairs} (hr : runDH P ex base g args x h = some (h', b, tk, ps)) (hs : Alike ps) : runD P (exA ex) base g args x h = some (h', b, tk) := by
  unfold runDH at hr
  unfold runD
  split at hr
  · cases hr
  rename_i fn hf
  rw [hf]
  simp only
  split at hr
  case h_2 => cases hr
  rename_i r c hb
  rw [hb]
  simp only
  split at hr
  case h_2 => cases hr
  rename_i d hd
  rw [hd]
  simp only
  split at hr
  case isFalse => cases hr
  rename_i hc
  rw [if_pos hc]
  split at hr
  · rename_i S' b' tk' ps' he
    simp only [Option.some.injEq, Prod.mk.injEq] at hr
    obtain ⟨rfl, rfl, rfl, rfl⟩ := hr
    rw [exA_of he hs]
  · rename_i S' b' tk' ps' he
    simp only [Option.some.injEq, Prod.mk.injEq] at hr
    obtain ⟨rfl, rfl, rfl, rfl⟩ := hr
    rw [exA_of he hs]
  · cases hr
theorem outHd_E {P : Program} {rs : List ResultVar} {ex : ExecH} {fno base N : Nat} {c : Code} {S : St} {y : Way} {h' : Heap} {b : Nat} {tk : List Nat} {ps : Pairs} (h : outHd P rs (ex fno base N c S) = some (y, h', b, tk, ps)) (hs : Alike ps) : outE P rs (exA ex fno base N c S) = some (y, h', b, tk) := by
  cases he : ex fno base N c S with
  | none => rw [he] at h; cases h
  | some r =>
    obtain ⟨e, S', b', tk', ps'⟩ := r
    rw [he] at h
    simp only [outHd, Option.map_eq_some_iff, Prod.mk.injEq] at h
    obtain ⟨r, h1, rfl, rfl, rfl, rfl, rfl⟩ := h
    rw [exA_of he hs, h1]
theorem bodyH_E {P : Program} {ex : ExecH} {fno N : Nat} {rs : List ResultVar} : ∀ (c : Code) (base : Nat) (S : St) (y : Way) (h' : Heap) (b : Nat) (tk : List Nat) (ps : Pairs), bodyH P ex fno N rs c base S = some (y, h', b, tk, ps) → Alike ps → bodyE P (exA ex) fno N rs c base S = some (y, h', b, tk) := by
  intro c
  induction c with
  | seq x y _ ihy =>
    intro base S w h' b tk ps h hs
    simp only [bodyH] at h
    simp only [bodyE]
    split at h
    · rename_i f as hd
      rw [hd]
      simp only
      split at h
      case h_2 => cases h
      rename_i g caps hf
      rw [hf]
      simp only
      split at h
      case h_2 => cases h
      rename_i e S2 b2 tk2 ps2 he
      split at h
      case h_2 => cases h
      rename_i pv hpv
      split at h
      case h_2 => cases h
      rename_i r hr
      obtain ⟨r1, r2, r3, r4⟩ := r
      simp only [Option.map_eq_some_iff, Prod.mk.injEq] at h
      obtain ⟨l, hl, rfl, rfl, rfl, rfl, rfl⟩ := h
      rw [exA_of he hs.left]
      simp only [hpv]
      rw [runDH_E hr hs.right]
      simp only [hl, Option.map_some]
    · rename_i hd
      rw [hd]
      simp only
      split at h
      · rename_i S' b' tk' ps' he
        split at h
        case h_2 => cases h
        rename_i r hr
        obtain ⟨r1, r2, r3, r4, r5⟩ := r
        simp only [Option.some.injEq, Prod.mk.injEq] at h
        obtain ⟨rfl, rfl, rfl, rfl, rfl⟩ := h
        rw [exA_of he hs.left]
        simp only
        rw [ihy _ _ _ _ _ _ _ hr hs.right]
      · rename_i hnn
        have h2 := outHd_E h hs
        cases he : exA ex fno base N x S with
        | none => rw [he] at h2; simp [outE] at h2
        | some r =>
          obtain ⟨e, S', b', tk'⟩ := r
          cases e with
          | normal =>
            exfalso
            unfold exA at he
            split at he
            · rename_i e1 S1 b1 tk1 ps1 h1
              split at he
              · simp only [Option.some.injEq, Prod.mk.injEq] at he
                obtain ⟨rfl, rfl, rfl, rfl⟩ := he
                exact hnn _ _ _ _ h1
              · cases he
            · cases he
          | ret => rw [he] at h2; exact h2
          | exit i => rw [he] at h2; exact h2
          | panic x => rw [he] at h2; exact h2
  | _ =>
    intro base S w h' b tk ps h hs
    exact outHd_E h hs
/-- A call of a function that may defer. -/
def callBH (P : Program) (ex : ExecH) (base : Nat) (g : Nat) (args : List AV) (h : Heap) : Option (Way × Heap × Nat × List Nat × Pairs) :=
  match P.funcs[g]? with
  | none => none
  | some fn => match fn.body with
    | none => none
    | some b => if args.length ≤ fn.ntmps then bodyH P ex g fn.ntmps fn.results.toList b base ⟨startE args, h⟩ else none
theorem callBH_E {P : Program} {ex : ExecH} {base g : Nat} {args : List AV} {h h' : Heap} {y : Way} {b : Nat} {tk : List Nat} {ps : Pairs} (hc : callBH P ex base g args h = some (y, h', b, tk, ps)) (hs : Alike ps) : callXE P (exA ex) base g args h = some (y, h', b, tk) := by
  unfold callBH at hc
  unfold callXE
  split at hc
  · cases hc
  rename_i fn hf
  rw [hf]
  simp only
  split at hc
  · cases hc
  rename_i bd hb
  rw [hb]
  simp only
  split at hc
  case isFalse => cases hc
  rename_i hl
  rw [if_pos hl]
  exact bodyH_E _ _ _ _ _ _ _ _ hc hs
def retBH (r : Option (Way × Heap × Nat × List Nat × Pairs)) : Option (List AV × Heap × Nat × List Nat × Pairs) := match r with
  | some (.ret rs, h, b, tk, ps) => some (rs, h, b, tk, ps)
  | _ => none
/-- The contract of a function that may defer, by a run. -/
theorem hcallB_of_run {P : Program} (hm : OkP P) (hn : Named P) (pr : Par P) (n base g : Nat) {args rs : List AV} {hp hp' : List (Nat × Ent)} {rest : Heap}
    (h : outL (callRun (retBH (callBH P (execH P pr n) base g args (ovl hp rest))) (hp.map (·.1)) rs hp') = outR .ret (callRun (retBH (callBH P (execH P pr n) base g args (ovl hp rest))) (hp.map (·.1)) rs hp')) : HCall P g args (ovl hp rest) rs (ovl hp' rest) := by
  obtain ⟨ps, h1, hs⟩ := out_spec h
  unfold callRun at h1
  split at h1
  case h_2 => cases h1
  rename_i rs' h' b' tk ps' hr
  split at h1
  case h_2 => cases h1
  rename_i q hq
  split at h1
  case h_2 => cases h1
  rename_i hk
  simp only [Option.some.injEq, Prod.mk.injEq, true_and] at h1
  subst h1
  have g1 := hs.head
  simp only [Side.av.injEq, AV.tup.injEq] at g1
  subst g1
  unfold retBH at hr
  split at hr
  case h_2 => cases hr
  rename_i rs2 h2 b2 tk2 ps2 hc
  simp only [Option.some.injEq, Prod.mk.injEq] at hr
  obtain ⟨rfl, rfl, rfl, rfl, rfl⟩ := hr
  obtain ⟨c1, c2⟩ := callXE_sound hm hn (exA_right (execH_right hm hn n)) (callBH_E hc hs.tail.left)
  refine ⟨c1.1, fun G B w0 I0 w cargs hr hsz hargs => (c1.2 G B w0 I0 w cargs hr hsz hargs).mono ?_⟩
  rintro e w' ⟨v, G', rfl, e1, e2, e3⟩
  refine ⟨v, G', rfl, e1, ?_, e3⟩
  rw [← ovl_final hk c2]
  exact e2.forget (ovl_sub _ hp' (heapPairs_spec hq hs.tail.right))
/-- The contract on data of a function that may defer, by a run. -/
def pureRunB (r : Option (List AV × Heap × Nat × List Nat × Pairs)) (rs : List D) : Option (AExit × Pairs) :=
  match r with
  | some (rs', h', _, _, ps) => match viewD h' rs' with
    | some ds => some (.ret, (.ds ds, .ds rs) :: ps)
    | none => none
  | none => none
theorem pure_of_runB {P : Program} (hm : OkP P) (hn : Named P) (pr : Par P) (n base : Nat) {g : Nat} {ds rs : List D}
    (h : outL (pureRunB (retBH (callBH P (execH P pr n) base g (ds.map .d) hp0)) rs) = outR .ret (pureRunB (retBH (callBH P (execH P pr n) base g (ds.map .d) hp0)) rs)) : Pure P g ds rs := by
  obtain ⟨ps, h1, hs⟩ := out_spec h
  unfold pureRunB at h1
  split at h1
  case h_2 => cases h1
  rename_i rs' h' b' tk ps' hr
  split at h1
  case h_2 => cases h1
  rename_i ds' hv
  simp only [Option.some.injEq, Prod.mk.injEq, true_and] at h1
  subst h1
  have g1 := hs.head
  simp only [Side.ds.injEq] at g1
  subst g1
  unfold retBH at hr
  split at hr
  case h_2 => cases hr
  rename_i rs2 h2 b2 tk2 ps2 hc
  simp only [Option.some.injEq, Prod.mk.injEq] at hr
  obtain ⟨rfl, rfl, rfl, rfl, rfl⟩ := hr
  exact pure_of_hcall (callXE_sound hm hn (exA_right (execH_right hm hn n)) (callBH_E hc hs.tail)).1 hv
/-- A run on data, as a run on open data. -/
def exOf (ex : Exec) : ExecH := fun fno base N c S => match ex fno base N c S with
  | some (e, S', b', tk) => some (e, S', b', tk, [])
  | none => none
theorem exOf_right {P : Program} {ex : Exec} (h : Right P ex) : RightH P (exOf ex) := fun fno base N c S e S' b' tk ps he hs => by
  unfold exOf at he
  split at he
  · rename_i e1 S1 b1 tk1 h1
    simp only [Option.some.injEq, Prod.mk.injEq] at he
    obtain ⟨rfl, rfl, rfl, rfl, rfl⟩ := he
    exact h _ _ _ _ _ _ _ _ _ h1
  · cases he
/-- Open data up to a place, data from there on. -/
def exTwo (t : Nat → St → Bool) (ex1 ex2 : ExecH) : ExecH := fun fno base N c S => match t fno S with
  | true => ex1 fno base N c S
  | false => ex2 fno base N c S
theorem exTwo_right {P : Program} {t : Nat → St → Bool} {ex1 ex2 : ExecH} (h1 : RightH P ex1) (h2 : RightH P ex2) : RightH P (exTwo t ex1 ex2) := fun fno base N c S e S' b' tk ps he hs => by
  unfold exTwo at he
  split at he
  · exact h1 _ _ _ _ _ _ _ _ _ _ he hs
  · exact h2 _ _ _ _ _ _ _ _ _ _ he hs
theorem pure_of_two {P : Program} (hm : OkP P) (hn : Named P) {ex : ExecH} (hex : RightH P ex) {g : Nat} {ds rs : List D}
    (h : outL (pureRunB (retBH (callBH P ex 0 g (ds.map .d) hp0)) rs) = outR .ret (pureRunB (retBH (callBH P ex 0 g (ds.map .d) hp0)) rs)) : Pure P g ds rs := by
  obtain ⟨ps, h1, hs⟩ := out_spec h
  unfold pureRunB at h1
  split at h1
  case h_2 => cases h1
  rename_i rs' h' b' tk ps' hr
  split at h1
  case h_2 => cases h1
  rename_i ds' hv
  simp only [Option.some.injEq, Prod.mk.injEq, true_and] at h1
  subst h1
  have g1 := hs.head
  simp only [Side.ds.injEq] at g1
  subst g1
  unfold retBH at hr
  split at hr
  case h_2 => cases hr
  rename_i rs2 h2 b2 tk2 ps2 hc
  simp only [Option.some.injEq, Prod.mk.injEq] at hr
  obtain ⟨rfl, rfl, rfl, rfl, rfl⟩ := hr
  exact pure_of_hcall (callXE_sound hm hn (exA_right hex) (callBH_E hc hs.tail)).1 hv
end Go.Avm
