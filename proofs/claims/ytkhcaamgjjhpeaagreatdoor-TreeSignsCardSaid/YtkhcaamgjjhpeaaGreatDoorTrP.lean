/-
  Texts as programs: what Parse answers, whatever the text.
-/
import Derived.Test.YtkhcaamgjjhpeaaGreatDoorTrN
import Derived.Test.YtkhcaamgjjhpeaaGreatDoorAvmTd
set_option linter.unusedSectionVars false
namespace Go.Avm
open Go.Proofs

abbrev pgE (r : List Fn) : List (Nat × Ent) := [(499382, ⟨1, some (.arr 1 [.vec 600000 r.length 5 (r.map fnD)])⟩), (600000, ⟨r.length, none⟩), (499423, ⟨1, some (.arr 1 [dI 0])⟩), (499464, ⟨1, some (.arr 1 [dI 0])⟩)]
abbrev pgS : List (Nat × AV) := [(2, pC 499382), (3, pC 499423), (4, pC 499464)]
abbrev pgL : List (Nat × AV) := [(2, pC 499382), (3, pC 499423), (4, pC 499464), (6, rP)]
def PgAt (L : List T) (s : RS) (r : List Fn) : Res (List Fn) → Prop
  | .ok r2 s' => ∀ (rest : Heap) (X : Fix), X.P = Tryz.prog → X.N = 40 → LW X (loopOf Tryz.prog 9 7) ⟨envOf pgL, ovl (rd L s ++ pgE r) rest⟩ fun e' S' => e' = .exit 0 ∧ S' = ⟨envOf pgS, ovl (rd L s' ++ pgE r2) rest⟩
  | .bad q t s' => ∃ r2 : List Fn, ∀ (rest : Heap) (X : Fix), X.P = Tryz.prog → X.N = 40 → LW X (loopOf Tryz.prog 9 7) ⟨envOf pgL, ovl (rd L s ++ pgE r) rest⟩ fun e' S' => e' = .panic (flt q t) ∧ S' = ⟨envOf pgS, ovl (rd L s' ++ pgE r2) rest⟩
  | .out => True
section
variable {L : List T} {s : RS} (l : s.i < L.length) (r : List Fn)
include l
theorem pgStop (h : ((cur L s).k == 0) = true) : ∀ (rest : Heap) (X : Fix), X.P = Tryz.prog → X.N = 40 → AW X (loopOf Tryz.prog 9 7) ⟨envOf pgL, ovl (rd L s ++ pgE r) rest⟩ fun e' S' => e' = .exit 0 ∧ S' = ⟨envOf pgS, ovl (rd L s ++ pgE r) rest⟩ :=
  segC okP named { hint := tabH Tryz.prog [(9, 31, hB Tryz.prog ((cur L s).k != 0) false (by simpa using h))], calls := tabC Tryz.prog [(9, 29, 3040, cOf (nowR l))] } 2000 9 3000 40 1000000 ([]) ⟨rfl, rfl, rfl, by kernel_rfl, by kernel_rfl, by kernel_rfl⟩ (by kernel_rfl) (by kernel_rfl) (fun _ => by kernel_rfl)
theorem pgBad (h : ((cur L s).k == 0) = false) {q t : Int} {s2 : RS} (c : ∀ rest : Heap, HPan Tryz.prog 21 [rP] (ovl (rd L s) rest) (flt q t) (ovl (rd L s2) rest)) : ∀ (rest : Heap) (X : Fix), X.P = Tryz.prog → X.N = 40 → AW X (loopOf Tryz.prog 9 7) ⟨envOf pgL, ovl (rd L s ++ pgE r) rest⟩ fun e' S' => e' = .panic (flt q t) ∧ S' = ⟨envOf pgS, ovl (rd L s2 ++ pgE r) rest⟩ :=
  segC okP named { hint := tabH Tryz.prog [(9, 31, hB Tryz.prog ((cur L s).k != 0) true (by simpa using h))], calls := tabC Tryz.prog [(9, 29, 3040, cOf (nowR l))], pans := tabP Tryz.prog [(9, 8, 3120, ⟨3, some (pOf c), []⟩)] } 2000 9 3000 40 1000000 ([]) ⟨rfl, rfl, rfl, by kernel_rfl, by kernel_rfl, by kernel_rfl⟩ (by kernel_rfl) (by kernel_rfl) (fun _ => by kernel_rfl)
theorem pgGo0 (h : ((cur L s).k == 0) = false) (hr : r.length < 1000000) (nm : List UInt8) (ps : List Pm) (k : Int) (bd : List St') (p : Int) {s2 : RS} (c : ∀ rest : Heap, HCall Tryz.prog 21 [rP] (ovl (rd L s) rest) ([fnD ⟨nm, ps, k, bd, p⟩].map .d) (ovl (rd L s2) rest)) : ∀ (rest : Heap) (X : Fix), X.P = Tryz.prog → X.N = 40 → AW X (loopOf Tryz.prog 9 7) ⟨envOf pgL, ovl (rd L s ++ pgE r) rest⟩ fun e' S' => e' = .normal ∧ S' = ⟨envOf pgL, ovl (rd L s2 ++ [(499382, ⟨1, some (.arr 1 [.vec 600000 (r.length + 1) 5 (r.map fnD ++ [fnD ⟨nm, ps, k, bd, p⟩])])⟩), (600000, ⟨r.length + 1, none⟩), (499423, ⟨1, some (.arr 1 [dI 0])⟩), (499464, ⟨1, some (.arr 1 [dI 0])⟩)]) rest⟩ :=
  segC okP named { hint := tabH Tryz.prog [(9, 31, hB Tryz.prog ((cur L s).k != 0) true (by simpa using h)), (9, 37, .app (r.map fnD) 1 (by simp only [List.length_map]; omega))], calls := tabC Tryz.prog [(9, 29, 3040, cOf (nowR l)), (9, 35, 3240, cOf c)] } 2000 9 3000 40 1000000 ([]) ⟨rfl, rfl, rfl, by kernel_rfl, by kernel_rfl, by kernel_rfl⟩ (by kernel_rfl) (by kernel_rfl) (fun _ => by kernel_rfl)
end
theorem pgGo {L : List T} {s : RS} (l : s.i < L.length) (r : List Fn) (h : ((cur L s).k == 0) = false) (hr : r.length < 1000000) (x : Fn) {s2 : RS} (c : ∀ rest : Heap, HCall Tryz.prog 21 [rP] (ovl (rd L s) rest) ([fnD x].map .d) (ovl (rd L s2) rest)) : ∀ (rest : Heap) (X : Fix), X.P = Tryz.prog → X.N = 40 → AW X (loopOf Tryz.prog 9 7) ⟨envOf pgL, ovl (rd L s ++ pgE r) rest⟩ fun e' S' => e' = .normal ∧ S' = ⟨envOf pgL, ovl (rd L s2 ++ pgE (r ++ [x])) rest⟩ := by
  obtain ⟨nm, ps, k, bd, p⟩ := x
  have e1 : (r ++ [Fn.mk nm ps k bd p]).length = r.length + 1 := by simp
  have e2 : (r ++ [Fn.mk nm ps k bd p]).map fnD = r.map fnD ++ [fnD ⟨nm, ps, k, bd, p⟩] := by simp
  have := pgGo0 l r h hr nm ps k bd p c
  simp only [pgE, e1, e2]
  exact this
theorem fn_gr (L : List T) (n : Nat) (s : RS) : Gr s (sFn L n s) := by
  unfold sFn
  have pp : ∀ (n : Nat) (r : List Pm) (s : RS), Gq s (sPMore L n r s) := fun n => by
    induction n with
    | zero => exact fun _ s => Gq.out s
    | succ n ih =>
      intro r s
      simp only [sPMore]
      intro a s' e
      unfold sMay at e
      cases h : isT L s [44] <;> rw [h] at e
      · cases e; exact Nat.le_refl _
      · simp only [cond_true] at e
        cases hw : sWant L [44] s <;> rw [hw] at e
        · rename_i t s1
          exact Nat.le_trans (Nat.le_of_lt (want_gr L _ s t s1 hw)) (((pm_gr L s1).bind fun _ s2 _ => ih _ s2).le a s' e)
        · cases e
        · cases e
  refine (want_gr L _ s).bind fun t s1 _ => ((take_gr L _ s1).bind fun u s2 _ => Gq.bindq (?_ : Gq s2 (sParams L n s2)) fun ps s3 _ => (may_gq L _ s3).bindq fun b s4 _ => Gq.ite ((kind_gr L _ s4).bind fun _ s5 _ => (((stmt_gr L n).1 s5).bind fun _ _ _ => Gq.ok _ _).le).le (((stmt_gr L n).1 s4).bind fun _ _ _ => Gq.ok _ _).le).le
  unfold sParams
  exact ((want_gr L _ s2).bind fun _ s3 _ => Gq.ite ((want_gr L _ s3).bind fun _ _ _ => Gq.ok _ _).le ((pm_gr L s3).bind fun _ s4 _ => (pp n _ s4).bindq fun _ s5 _ => ((want_gr L _ s5).bind fun _ _ _ => Gq.ok _ _).le).le).le
section
variable {L : List T} (hL : Toks L)
include hL
theorem pgAll (N : Nat) : ∀ (n : Nat) (r : List Fn) (s : RS), s.i < L.length → r.length ≤ s.i → PgAt L s r (sFns L N n r s)
  | 0, _, _, _, _ => trivial
  | n + 1, r, s, l, hr => by
    have hlen : r.length < 1000000 := by have := hL.len; omega
    simp only [sFns]
    cases h : ((cur L s).k == 0) with
    | true => exact fun rest X hP hN => lw_stop (pgStop l r h rest X hP hN) (by simp)
    | false =>
      have c := fnR hL N s l
      have g := fn_gr L N s
      simp only [cond_false]
      revert c g
      cases sFn L N s with
      | out => exact fun _ _ => trivial
      | bad q t s2 => exact fun c _ => ⟨r, fun rest X hP hN => lw_stop (pgBad l r h c rest X hP hN) (by simp)⟩
      | ok x s2 =>
        intro c g
        have g := g x s2 rfl
        have c2 := pgAll N n (r ++ [x]) s2 c.1 (by simp only [List.length_append, List.length_cons, List.length_nil]; omega)
        have hgo := pgGo l r h hlen x c.2
        simp only [Res.bind]
        revert c2
        cases sFns L N n (r ++ [x]) s2 with
        | out => exact fun _ => trivial
        | bad q t s3 => exact fun ⟨v, c2⟩ => ⟨v, fun rest X hP hN => lw_step (hgo rest X hP hN) (c2 rest X hP hN)⟩
        | ok a s3 => exact fun c2 rest X hP hN => lw_step (hgo rest X hP hN) (c2 rest X hP hN)
end
noncomputable def pgLH {L : List T} {s : RS} {r : List Fn} {hp' : List (Nat × Ent)} {x : AExit} {l' : List (Nat × AV)} (h : ∀ (rest : Heap) (X : Fix), X.P = Tryz.prog → X.N = 40 → LW X (loopOf Tryz.prog 9 7) ⟨envOf pgL, ovl (rd L s ++ pgE r) rest⟩ fun e' S' => e' = x ∧ S' = ⟨envOf l', ovl hp' rest⟩) : LHint Tryz.prog :=
  ⟨40, loopOf Tryz.prog 9 7, pgL, fun _ => rd L s ++ pgE r, x, l', fun _ => hp', fun rest X hP hN => (h rest X hP hN).aw⟩
/-! ### Parse -/
section
variable {x : List UInt8} {L : List T}
theorem parseE {a e : Int} (he : (e != 0) = true) (hs : Pure Tryz.prog 19 [.str x] [.ro [], .int .i64 a, .int .i64 e]) : Pure Tryz.prog 9 [.str x] [.agg [.ro []], .int .i64 a, .int .i64 e] :=
  pure_of_runB okP named { hint := tabH Tryz.prog [(9, 9, .call 19 _ _ hs), (9, 14, hB Tryz.prog (e != 0) true he)] } 2000 499380 (by kernel_rfl)
theorem parseB {q t : Int} {s2 : RS} (hs : Pure Tryz.prog 19 [.str x] [toksD L, .int .i64 0, .int .i64 0]) (c : ∀ rest : Heap, HPan Tryz.prog 21 [rP] (ovl (rd L ⟨0, 0, 0⟩) rest) (flt q t) (ovl (rd L s2) rest)) : Pure Tryz.prog 9 [.str x] [.agg [.ro []], .int .i64 q, .int .i64 t] :=
  pure_of_runB okP named { hint := tabH Tryz.prog [(9, 9, .call 19 _ _ hs)], pans := tabP Tryz.prog [(9, 6, 500060, ⟨3, some (pOf c), []⟩)] } 2000 499380 (by kernel_rfl)
theorem parseL {nm : List UInt8} {ps : List Pm} {k : Int} {bd : List St'} {p : Int} {q t : Int} {s1 s2 : RS} {r2 : List Fn} (hs : Pure Tryz.prog 19 [.str x] [toksD L, .int .i64 0, .int .i64 0]) (c : ∀ rest : Heap, HCall Tryz.prog 21 [rP] (ovl (rd L ⟨0, 0, 0⟩) rest) ([fnD ⟨nm, ps, k, bd, p⟩].map .d) (ovl (rd L s1) rest))
    (h : ∀ (rest : Heap) (X : Fix), X.P = Tryz.prog → X.N = 40 → LW X (loopOf Tryz.prog 9 7) ⟨envOf pgL, ovl (rd L s1 ++ pgE [⟨nm, ps, k, bd, p⟩]) rest⟩ fun e' S' => e' = .panic (flt q t) ∧ S' = ⟨envOf pgS, ovl (rd L s2 ++ pgE r2) rest⟩) : Pure Tryz.prog 9 [.str x] [.agg [.ro []], .int .i64 q, .int .i64 t] :=
  pure_of_runB okP named { nils := fun f r => if f = 9 then (if r = 6 then some ⟨499382, 0, 600000, 5, false, false⟩ else none) else none, loops := fun f q => if f = 9 then (if q = 7 then some (pgLH h) else none) else none, hint := tabH Tryz.prog [(9, 9, .call 19 _ _ hs)], calls := tabC Tryz.prog [(9, 24, 500180, cOf c)] } 2000 499380 (by kernel_rfl)
theorem parseO {nm : List UInt8} {ps : List Pm} {k : Int} {bd : List St'} {p : Int} {s1 s2 : RS} {r2 : List Fn} (hs : Pure Tryz.prog 19 [.str x] [toksD L, .int .i64 0, .int .i64 0]) (c : ∀ rest : Heap, HCall Tryz.prog 21 [rP] (ovl (rd L ⟨0, 0, 0⟩) rest) ([fnD ⟨nm, ps, k, bd, p⟩].map .d) (ovl (rd L s1) rest))
    (h : ∀ (rest : Heap) (X : Fix), X.P = Tryz.prog → X.N = 40 → LW X (loopOf Tryz.prog 9 7) ⟨envOf pgL, ovl (rd L s1 ++ pgE [⟨nm, ps, k, bd, p⟩]) rest⟩ fun e' S' => e' = .exit 0 ∧ S' = ⟨envOf pgS, ovl (rd L s2 ++ pgE r2) rest⟩) : Pure Tryz.prog 9 [.str x] [.agg [.ro (r2.map fnD)], .int .i64 0, .int .i64 0] :=
  pure_of_runB okP named { nils := fun f r => if f = 9 then (if r = 6 then some ⟨499382, 0, 600000, 5, false, false⟩ else none) else none, loops := fun f q => if f = 9 then (if q = 7 then some (pgLH h) else none) else none, hint := tabH Tryz.prog [(9, 9, .call 19 _ _ hs)], calls := tabC Tryz.prog [(9, 24, 500180, cOf c)] } 2000 499380 (by kernel_rfl)
end
/-- What Parse answers of tokens. -/
def prOut : Res (List Fn) → List D
  | .ok l _ => [.agg [.ro (l.map fnD)], .int .i64 0, .int .i64 0]
  | .bad p e _ => [.agg [.ro []], .int .i64 p, .int .i64 e]
  | .out => []
theorem parseC {x : List UInt8} {L : List T} (hL : Toks L) (h0 : 0 < L.length) (hs : Pure Tryz.prog 19 [.str x] [toksD L, .int .i64 0, .int .i64 0]) (n : Nat) (hn : sProg L n ≠ .out) : Pure Tryz.prog 9 [.str x] (prOut (sProg L n)) := by
  unfold sProg at hn ⊢
  have c := fnR hL n ⟨0, 0, 0⟩ h0
  have g := fn_gr L n ⟨0, 0, 0⟩
  revert c g hn
  cases sFn L n ⟨0, 0, 0⟩ with
  | out => exact fun hn _ _ => absurd rfl hn
  | bad q t s1 => exact fun _ c _ => parseB hs c
  | ok f s1 =>
    intro hn c g
    have g := g f s1 rfl
    have c2 := pgAll hL n n [f] s1 c.1 (by simp only [List.length_cons, List.length_nil]; omega)
    obtain ⟨nm, ps, k, bd, p⟩ := f
    simp only [Res.bind] at hn ⊢
    revert c2 hn
    cases sFns L n n [⟨nm, ps, k, bd, p⟩] s1 with
    | out => exact fun hn _ => absurd rfl hn
    | bad q t s2 => exact fun _ ⟨r2, c2⟩ => parseL hs c.2 c2
    | ok r2 s2 => exact fun _ c2 => parseO hs c.2 c2
end Go.Avm
