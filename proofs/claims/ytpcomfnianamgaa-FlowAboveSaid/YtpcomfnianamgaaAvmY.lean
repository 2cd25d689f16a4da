/-
  The abstract machine, part Y: runs in which loops leave any heap ('execZ').
-/
import Derived.Test.YtpcomfnianamgaaAvmT
set_option linter.unusedSectionVars false
namespace Go.Avm
open Go.RowKit
variable [GlobTab]

/-- A loop's contract, from one heap to another one. -/
structure ZL (P : Program) where
  N : Nat
  x : Code
  l : List (Nat × AV)
  h1 : Heap
  e : AExit
  l' : List (Nat × AV)
  h2 : Heap
  proof : ∀ (X : Fix), X.P = P → X.N = N → AW X (.loop x) ⟨envOf l, h1⟩ fun e' S' => e' = e ∧ Weak X S' ⟨envOf l', h2⟩
/-- A piece of code's contract: a sequence, known by its first region. -/
structure ZQ (P : Program) where
  N : Nat
  x : Code
  l : List (Nat × AV)
  h1 : Heap
  e : AExit
  l' : List (Nat × AV)
  h2 : Heap
  proof : ∀ (X : Fix), X.P = P → X.N = N → AW X x ⟨envOf l, h1⟩ fun e' S' => e' = e ∧ Weak X S' ⟨envOf l', h2⟩
structure ZPar (P : Program) where
  loops : Nat → Option (ZL P) := fun _ => none
  seqs : Nat → Option (ZQ P) := fun _ => none
abbrev ExecZ := Nat → Nat → Nat → Code → St → Option (AExit × St × Nat × Pairs)
def execZ (P : Program) (pr : Par P) (zl : ZPar P) (m : Nat) : Nat → ExecZ
  | 0, _, _, _, _, _ => none
  | n + 1, fno, base, N, c, S =>
    match c with
    | .seq x y => match zl.seqs (firstReg x) with
      | some H => if H.N = N then some (H.e, ⟨envOf H.l', H.h2⟩, base, (.code (.seq x y), .code H.x) :: (.hp S.heap, .hp H.h1) :: envPairs S.env H.l) else none
      | none => match execZ P pr zl m n fno base N x S with
        | some (.normal, S', b', ps) => match execZ P pr zl m n fno b' N y S' with
          | some (e, S2, b2, ps2) => some (e, S2, b2, ps ++ ps2)
          | none => none
        | r => r
    | .block id x => match execZ P pr zl m n fno base N x S with
      | some (.exit i, S', b', ps) => if i = id then some (.normal, S', b', ps) else some (.exit i, S', b', ps)
      | r => r
    | .cond c x y => match opd S.env c with
      | .d (.bool b) => match b with
        | true => execZ P pr zl m n fno base N x S
        | false => execZ P pr zl m n fno base N y S
      | _ => none
    | .loop x => match zl.loops (firstReg x) with
      | some H => if H.N = N then some (H.e, ⟨envOf H.l', H.h2⟩, base, (.code x, .code H.x) :: (.hp S.heap, .hp H.h1) :: envPairs S.env H.l) else none
      | none => match execH P pr m fno base N (.loop x) S with
        | some (e, S', b', _, ps) => some (e, S', b', ps)
        | none => none
    | c => match execH P pr m fno base N c S with
      | some (e, S', b', _, ps) => some (e, S', b', ps)
      | none => none

def RightZ (P : Program) (ex : ExecZ) : Prop := ∀ fno base N c S e S' b' ps, ex fno base N c S = some (e, S', b', ps) → Alike ps →
  ∀ X : Fix, X.P = P → X.N = N → AW X c S fun e' S'' => e' = e ∧ Weak X S'' S'
theorem execH_z {P : Program} {pr : Par P} (hm : OkP P) (hn : Named P) {m fno base N : Nat} {c : Code} {S S' : St} {e : AExit} {b' : Nat} {ps : Pairs}
    (h : (match execH P pr m fno base N c S with
      | some (e, S', b', _, ps) => some (e, S', b', ps)
      | none => none) = some (e, S', b', ps)) (hs : Alike ps) (X : Fix) (hP : X.P = P) (hN : X.N = N) : AW X c S fun e' S'' => e' = e ∧ Weak X S'' S' := by
  split at h
  · rename_i e1 S1 b1 tk ps1 h1
    simp only [Option.some.injEq, Prod.mk.injEq] at h
    obtain ⟨rfl, rfl, rfl, rfl⟩ := h
    refine ((execH_right hm hn m _ _ _ _ _ _ _ _ _ _ h1 hs).1 X hP hN).mono ?_
    rintro e' S'' ⟨rfl, rfl⟩
    exact ⟨rfl, Weak.refl _⟩
  · cases h
theorem execZ_right {P : Program} {pr : Par P} {zl : ZPar P} {m : Nat} (hm : OkP P) (hn : Named P) : ∀ n, RightZ P (execZ P pr zl m n)
  | 0 => fun fno base N c S e S' b' ps h _ => by simp [execZ] at h
  | n + 1 => fun fno base N c S e S' b' ps h hs X hP hN => by
    have ih := execZ_right (pr := pr) (zl := zl) (m := m) hm hn n
    cases c with
    | seq x y =>
      simp only [execZ] at h
      split at h
      · rename_i H hH
        split at h
        · rename_i hHN
          simp only [Option.some.injEq, Prod.mk.injEq] at h
          obtain ⟨rfl, rfl, rfl, rfl⟩ := h
          have g1 := hs.head
          have g2 := hs.tail.head
          simp only [Side.code.injEq, Side.hp.injEq] at g1 g2
          rw [g1]
          obtain ⟨env, heap⟩ := S
          simp only at g2
          subst g2
          exact AW.weak (weak_envOf (envPairs_spec hs.tail.tail)) (H.proof X hP (by rw [hN, hHN]))
        · cases h
      split at h
      · rename_i S1 b1 ps1 h1
        split at h
        · rename_i e2 S2 b2 ps2 h2
          simp only [Option.some.injEq, Prod.mk.injEq] at h
          obtain ⟨rfl, rfl, rfl, rfl⟩ := h
          have a1 := ih _ _ _ _ _ _ _ _ _ h1 hs.left X hP hN
          have a2 := ih _ _ _ _ _ _ _ _ _ h2 hs.right X hP hN
          refine aw_seq (a1.mono ?_)
          rintro e1 S3 ⟨rfl, hw⟩
          exact AW.weak hw a2
        · cases h
      · rename_i hnn
        have a1 := ih _ _ _ _ _ _ _ _ _ h hs X hP hN
        refine aw_seq (a1.mono ?_)
        rintro e1 S2 ⟨rfl, hw⟩
        cases e1 with
        | normal => exact absurd h (hnn S' _ _)
        | _ => exact ⟨rfl, hw⟩
    | block id x =>
      simp only [execZ] at h
      split at h
      · rename_i i S1 b1 ps1 h1
        have hh : S' = S1 ∧ ps = ps1 ∧ e = (if i = id then .normal else .exit i) := by
          split at h
          · rename_i hi; rw [if_pos hi]; simp only [Option.some.injEq, Prod.mk.injEq] at h; obtain ⟨rfl, rfl, _, rfl⟩ := h; exact ⟨rfl, rfl, rfl⟩
          · rename_i hi; rw [if_neg hi]; simp only [Option.some.injEq, Prod.mk.injEq] at h; obtain ⟨rfl, rfl, _, rfl⟩ := h; exact ⟨rfl, rfl, rfl⟩
        obtain ⟨rfl, rfl, rfl⟩ := hh
        have a1 := ih _ _ _ _ _ _ _ _ _ h1 hs X hP hN
        refine aw_block (a1.mono ?_)
        rintro e1 S2 ⟨rfl, hw⟩
        simp only [blockA]
        split
        · exact ⟨rfl, hw⟩
        · exact ⟨rfl, hw⟩
      · rename_i hnn
        have a1 := ih _ _ _ _ _ _ _ _ _ h hs X hP hN
        refine aw_block (a1.mono ?_)
        rintro e1 S2 ⟨rfl, hw⟩
        cases e1 with
        | exit i => exact absurd h (hnn i S' _ _)
        | _ => exact ⟨rfl, hw⟩
    | cond c x y =>
      simp only [execZ] at h
      split at h
      · rename_i b hc
        refine aw_cond hc (fun hb => ?_) (fun hb => ?_)
        · subst hb
          exact ih _ _ _ _ _ _ _ _ _ h hs X hP hN
        · subst hb
          exact ih _ _ _ _ _ _ _ _ _ h hs X hP hN
      · cases h
    | loop x =>
      simp only [execZ] at h
      split at h
      · rename_i H hH
        split at h
        · rename_i hHN
          simp only [Option.some.injEq, Prod.mk.injEq] at h
          obtain ⟨rfl, rfl, rfl, rfl⟩ := h
          have g1 := hs.head
          have g2 := hs.tail.head
          simp only [Side.code.injEq, Side.hp.injEq] at g1 g2
          subst g1
          obtain ⟨env, heap⟩ := S
          simp only at g2
          subst g2
          refine AW.weak (weak_envOf (envPairs_spec hs.tail.tail)) (H.proof X hP (by rw [hN, hHN]))
        · cases h
      · exact execH_z hm hn h hs X hP hN
    | _ => exact execH_z hm hn h hs X hP hN

def finZ (r : Option (AExit × St × Nat × Pairs)) (l' : List (Nat × AV)) (h' : Heap) : Option (AExit × Pairs) :=
  match r with
  | some (e, S, _, ps) => some (e, (.hp S.heap, .hp h') :: (ps ++ envPairs S.env l'))
  | none => none
theorem segZ {P : Program} (hm : OkP P) (hn : Named P) (pr : Par P) (zl : ZPar P) (n fno base N : Nat) {c : Code} {l l' : List (Nat × AV)} {h h' : Heap} {e : AExit}
    (hk : outL (finZ (execZ P pr zl n n fno base N c ⟨envOf l, h⟩) l' h') = outR e (finZ (execZ P pr zl n n fno base N c ⟨envOf l, h⟩) l' h'))
    (X : Fix) (hP : X.P = P) (hN : X.N = N) : AW X c ⟨envOf l, h⟩ fun e' S' => e' = e ∧ Weak X S' ⟨envOf l', h'⟩ := by
  obtain ⟨ps, h1, hs⟩ := out_spec hk
  unfold finZ at h1
  split at h1
  · rename_i e1 S1 b1 ps1 hr
    simp only [Option.some.injEq, Prod.mk.injEq] at h1
    obtain ⟨rfl, rfl⟩ := h1
    have g := hs.head
    simp only [Side.hp.injEq] at g
    refine (execZ_right hm hn n _ _ _ _ _ _ _ _ _ hr hs.tail.left X hP hN).mono ?_
    rintro e' S' ⟨rfl, hw⟩
    refine ⟨rfl, hw.trans ?_⟩
    obtain ⟨env, heap⟩ := S1
    simp only at g
    subst g
    exact weak_envOf (envPairs_spec hs.tail.right)
  · cases h1
def pureRunZ (P : Program) (ex : ExecZ) (g : Nat) (ds rs : List D) : Option (AExit × Pairs) :=
  match P.funcs[g]? with
  | none => none
  | some fn => match fn.body with
    | none => none
    | some b => if ds.length ≤ fn.ntmps then match ex g 0 fn.ntmps b (startSt ds) with
        | some (.normal, S', _, ps) => (resDs P S' fn.results.toList).map fun r => (.ret, (.ds r, .ds rs) :: ps)
        | some (.ret, S', _, ps) => (resDs P S' fn.results.toList).map fun r => (.ret, (.ds r, .ds rs) :: ps)
        | _ => none
      else none
theorem pure_of_weak {P : Program} (hm : OkP P) {f : Nat} {fn : Func} {c : Code} {args rs : List D} (hf : P.funcs[f]? = some fn) (hb : fn.body = some c) (hn : (fn.name == "runtime.NumGoroutine") = false) (hl : args.length ≤ fn.ntmps)
    (h : ∀ X : Fix, X.P = P → X.N = fn.ntmps → AW X c (startSt args) fun e S' => ∃ S'', Weak X S' S'' ∧ (e = .normal ∨ e = .ret) ∧ resDs P S'' fn.results.toList = some rs) : Pure P f args rs :=
  pure_of_aw hm hf hb hn hl fun X hP hN => aw_post (h X hP hN)
theorem pureZ {P : Program} (hm : OkP P) (hn : Named P) (pr : Par P) (zl : ZPar P) (n : Nat) {g : Nat} {ds rs : List D} (h : outL (pureRunZ P (execZ P pr zl n n) g ds rs) = outR .ret (pureRunZ P (execZ P pr zl n n) g ds rs)) : Pure P g ds rs := by
  obtain ⟨ps, h1, hs⟩ := out_spec h
  unfold pureRunZ at h1
  split at h1
  · cases h1
  · rename_i fn hf
    split at h1
    · cases h1
    · rename_i b hb
      split at h1
      · rename_i hl
        refine pure_of_weak hm hf hb (hn.1 g fn hf) hl (fun X hP hN => ?_)
        split at h1
        · rename_i S' b' ps' he
          simp only [Option.map_eq_some_iff, Prod.mk.injEq, true_and] at h1
          obtain ⟨r, hr, rfl⟩ := h1
          have g1 := hs.head
          simp only [Side.ds.injEq] at g1
          subst g1
          refine (execZ_right hm hn n _ _ _ _ _ _ _ _ _ he hs.tail X hP hN).mono ?_
          rintro e S'' ⟨rfl, hw⟩
          exact ⟨S', hw, .inl rfl, hr⟩
        · rename_i S' b' ps' he
          simp only [Option.map_eq_some_iff, Prod.mk.injEq, true_and] at h1
          obtain ⟨r, hr, rfl⟩ := h1
          have g1 := hs.head
          simp only [Side.ds.injEq] at g1
          subst g1
          refine (execZ_right hm hn n _ _ _ _ _ _ _ _ _ he hs.tail X hP hN).mono ?_
          rintro e S'' ⟨rfl, hw⟩
          exact ⟨S', hw, .inr rfl, hr⟩
        · cases h1
      · cases h1
def callRunZ (P : Program) (ex : ExecZ) (base g : Nat) (args : List AV) (h : Heap) (rs : List AV) (h' : Heap) : Option (AExit × Pairs) :=
  match P.funcs[g]? with
  | none => none
  | some fn => match fn.body with
    | none => none
    | some b => if args.length ≤ fn.ntmps then match ex g base fn.ntmps b ⟨startE args, h⟩ with
        | some (.normal, S', _, ps) => (resA P S' fn.results.toList).map fun r => (.ret, (.av (.tup r), .av (.tup rs)) :: (.hp S'.heap, .hp h') :: ps)
        | some (.ret, S', _, ps) => (resA P S' fn.results.toList).map fun r => (.ret, (.av (.tup r), .av (.tup rs)) :: (.hp S'.heap, .hp h') :: ps)
        | _ => none
      else none
theorem hcallZ {P : Program} (hm : OkP P) (hn : Named P) (pr : Par P) (zl : ZPar P) (n base g : Nat) {args rs : List AV} {h h' : Heap}
    (hk : outL (callRunZ P (execZ P pr zl n n) base g args h rs h') = outR .ret (callRunZ P (execZ P pr zl n n) base g args h rs h')) : HCall P g args h rs h' := by
  obtain ⟨ps, h1, hs⟩ := out_spec hk
  unfold callRunZ at h1
  split at h1
  · cases h1
  · rename_i fn hf
    split at h1
    · cases h1
    · rename_i b hb
      split at h1
      · rename_i hl
        refine hcall_of_aw hm hf hb (hn.1 g fn hf) hl (fun X hP hN => aw_post ?_)
        split at h1
        · rename_i S' b' ps' he
          simp only [Option.map_eq_some_iff, Prod.mk.injEq, true_and] at h1
          obtain ⟨r, hr, rfl⟩ := h1
          have g1 := hs.head
          have g2 := hs.tail.head
          simp only [Side.av.injEq, AV.tup.injEq, Side.hp.injEq] at g1 g2
          subst g1; subst g2
          refine (execZ_right hm hn n _ _ _ _ _ _ _ _ _ he hs.tail.tail X hP hN).mono ?_
          rintro e S'' ⟨rfl, hw⟩
          exact ⟨S', hw, .inl rfl, hr, rfl⟩
        · rename_i S' b' ps' he
          simp only [Option.map_eq_some_iff, Prod.mk.injEq, true_and] at h1
          obtain ⟨r, hr, rfl⟩ := h1
          have g1 := hs.head
          have g2 := hs.tail.head
          simp only [Side.av.injEq, AV.tup.injEq, Side.hp.injEq] at g1 g2
          subst g1; subst g2
          refine (execZ_right hm hn n _ _ _ _ _ _ _ _ _ he hs.tail.tail X hP hN).mono ?_
          rintro e S'' ⟨rfl, hw⟩
          exact ⟨S', hw, .inr rfl, hr, rfl⟩
        · cases h1
      · cases h1
end Go.Avm
