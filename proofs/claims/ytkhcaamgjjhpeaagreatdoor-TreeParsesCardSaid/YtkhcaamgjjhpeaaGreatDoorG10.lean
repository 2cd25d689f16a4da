/-
  Texts as programs: level by level, or by strength: the same expressions.
-/
import Derived.Test.YtkhcaamgjjhpeaaGreatDoorG09
import Derived.Test.YtkhcaamgjjhpeaaGreatDoorG07
import Derived.Test.YtkhcaamgjjhpeaaGreatDoorG08
import Derived.IntWalk
set_option linter.unusedSectionVars false
namespace Go.Avm
open Go.Proofs
def Le' {α : Type} (r r' : Res α) : Prop := r = .out ∨ r = r'
theorem Le'.rfl' {α : Type} {r : Res α} : Le' r r := .inr rfl
theorem Le'.bind {α β : Type} {r r' : Res α} {f f' : α → RS → Res β} (h : Le' r r') (hf : ∀ a s, Le' (f a s) (f' a s)) : Le' (r.bind f) (r'.bind f') := by
 rcases h with rfl | rfl
 ·exact .inl rfl
 ·cases r with
  | ok a s => exact hf a s
  | bad p q s => exact .inr rfl
  | out => exact .inl rfl
theorem Le'.ite {α : Type} {c : Bool} {X Y X' Y' : Res α} (hX : Le' X X') (hY : Le' Y Y') : Le' (bif c then X else Y) (bif c then X' else Y') := by cases c <;> assumption
theorem Le'.eq {α : Type} {r r' : Res α} (h : Le' r r') (hr : r ≠ .out) : r = r' := h.resolve_left hr
structure MA (L : List T) (n m : Nat) : Prop where
 one : ∀ s, Le' (sOne L n s) (sOne L m s)
 place : ∀ s, Le' (sPlace L n s) (sPlace L m s)
 call : ∀ nm p s, Le' (sCall L n nm p s) (sCall L m nm p s)
 args : ∀ s, Le' (sArgs L n s) (sArgs L m s)
 more : ∀ l s, Le' (sMore L n l s) (sMore L m l s)
 expr : ∀ k s, Le' (sExpr L n k s) (sExpr L m k s)
 tail : ∀ k e s, Le' (sTail L n k e s) (sTail L m k e s)
theorem mAll (L : List T) : ∀ n m, n ≤ m → MA L n m
 | 0, _, _ => ⟨fun _ => .inl (by simp only [sOne]), fun _ => .inl (by simp only [sPlace]), fun _ _ _ => .inl (by simp only [sCall]), fun _ => .inl (by simp only [sArgs]), fun _ _ => .inl (by simp only [sMore]), fun _ _ => .inl (by simp only [sExpr]), fun _ _ _ => .inl (by simp only [sTail])⟩
 | n + 1, 0, h => by omega
 | n + 1, m + 1, h => by
  have ih := mAll L n m (by omega)
  have R := fun {α : Type} (r : Res α) => (Le'.rfl' : Le' r r)
  refine ⟨fun s => ?_, fun s => ?_, fun nm p s => ?_, fun s => ?_, fun l s => ?_, fun k s => ?_, fun k e s => ?_⟩
  ·simp only [sOne]
   refine (R _).bind fun b s1 => Le'.ite ((ih.one _).bind fun _ _ => R _) ?_
   refine (R _).bind fun b s1 => Le'.ite ((ih.one _).bind fun _ _ => R _) ?_
   refine (R _).bind fun b s1 => Le'.ite ((ih.one _).bind fun _ _ => R _) ?_
   refine Le'.ite (R _) ?_
   refine (R _).bind fun b s1 => Le'.ite (R _) ?_
   refine (R _).bind fun b s1 => Le'.ite (R _) ?_
   refine (R _).bind fun b s1 => Le'.ite (R _) ?_
   refine (R _).bind fun b s1 => Le'.ite (R _) ?_
   refine Le'.ite ((R _).bind fun _ _ => (ih.expr _ _).bind fun _ _ => R _) ?_
   exact (R _).bind fun _ _ => Le'.ite ((ih.place _).bind fun _ _ => R _) (Le'.ite ((ih.call _ _ _).bind fun _ _ => R _) (R _))
  ·simp only [sPlace]
   exact (R _).bind fun _ _ => (ih.expr _ _).bind fun _ _ => R _
  ·simp only [sCall]
   exact (ih.args _).bind fun _ _ => R _
  ·simp only [sArgs]
   exact (R _).bind fun _ _ => Le'.ite (R _) ((ih.expr _ _).bind fun _ _ => (ih.more _ _).bind fun _ _ => R _)
  ·simp only [sMore]
   exact (R _).bind fun _ _ => Le'.ite ((ih.expr _ _).bind fun _ _ => ih.more _ _) (R _)
  ·simp only [sExpr]
   exact (ih.one _).bind fun _ _ => ih.tail _ _ _
  ·simp only [sTail]
   exact Le'.ite (R _) ((ih.expr _ _).bind fun _ _ => ih.tail _ _ _)
theorem le_same {α : Type} {r r' : Res α} (h : Le' r r' ∨ Le' r' r) (hr : r ≠ .out) (hr' : r' ≠ .out) : r = r' := by
 rcases h with h | h
 ·exact h.eq hr
 ·exact (h.eq hr').symm
section
variable {L : List T} {s : RS}
theorem sign_none : ∀ l : List (Int × List UInt8 × Int), (∀ p ∈ l, isT L s p.2.1 = false) → ∀ k, signOf L s k l = (0, 0) ∧ exactOf L s k l = 0
 | [], _, _ => ⟨rfl, rfl⟩
 | (o, x, m) :: r, h, k => by
  have hx : isT L s x = false := h (o, x, m) (by simp)
  have ih := sign_none r (fun p hp => h p (by simp [hp])) k
  simp only [signOf, exactOf, hx, Bool.and_false, cond_false]
  exact ih
theorem sign_here {o : Int} {x : List UInt8} {lv : Int} (hx : isT L s x = true) : ∀ l : List (Int × List UInt8 × Int), (l.map fun p => p.2.1).Nodup → (o, x, lv) ∈ l → ∀ k, signOf L s k l = (bif decide (k ≤ lv) then (o, lv) else (0, 0)) ∧ exactOf L s k l = (bif lv == k then o else 0)
 | [], _, hm, _ => by simp at hm
 | (o2, y, m) :: r, hd, hm, k => by
  simp only [List.map_cons, List.nodup_cons] at hd
  rcases List.mem_cons.1 hm with he | hm
  ·obtain ⟨rfl, rfl, rfl⟩ : o = o2 ∧ x = y ∧ lv = m := by simpa using he
   have hn := sign_none (L := L) (s := s) r (fun p hp => by
    cases h2 : isT L s p.2.1 with
    | false => rfl
    | true => exact absurd (List.mem_map.2 ⟨p, hp, (isT_inj h2 hx)⟩) hd.1) k
   simp only [signOf, exactOf, hx, Bool.and_true, hn.1, hn.2, and_self]
  ·have hy : isT L s y = false := by
     cases h2 : isT L s y with
     | false => rfl
     | true =>
      obtain rfl := isT_inj h2 hx
      exact absurd (List.mem_map.2 ⟨_, hm, rfl⟩) hd.1
   have ih := sign_here hx r hd.2 hm k
   simp only [signOf, exactOf, hy, Bool.and_false, cond_false]
   exact ih
theorem sign_uniq : ∃ o lv : Int, ((o = 0 ∧ lv = 0) ∨ (o ≠ 0 ∧ 1 ≤ lv ∧ lv ≤ 10)) ∧ ∀ k, sSign L k s = (bif decide (k ≤ lv) then (o, lv) else (0, 0)) ∧ exactOf L s k signs = (bif lv == k then o else 0) := by
 by_cases h : ∃ p ∈ signs, isT L s p.2.1 = true
 ·obtain ⟨⟨o, x, lv⟩, hm, hx⟩ := h
  refine ⟨o, lv, .inr ?_, fun k => sign_here hx signs (by decide) hm k⟩
  have : ∀ p ∈ signs, p.1 ≠ 0 ∧ 1 ≤ p.2.2 ∧ p.2.2 ≤ 10 := by decide
  exact this _ hm
 ·have hn : ∀ p ∈ signs, isT L s p.2.1 = false := fun p hp => by
    cases h2 : isT L s p.2.1 with
    | false => rfl
    | true => exact absurd ⟨p, hp, h2⟩ h
  refine ⟨0, 0, .inl ⟨rfl, rfl⟩, fun k => ?_⟩
  obtain ⟨h1, h2⟩ := sign_none signs hn k
  simp only [sSign, h1, h2]
  exact ⟨by cases decide (k ≤ 0) <;> rfl, by cases ((0 : Int) == k) <;> rfl⟩
end
theorem tail_end {L : List T} : ∀ (n : Nat) (k : Int) (e : Ex) (s : RS) (a : Ex) (s' : RS), sTail L n k e s = .ok a s' → (sSign L k s').1 = 0
 | 0, _, _, _, _, _, h => by simp only [sTail] at h; cases h
 | n + 1, k, e, s, a, s', h => by
  simp only [sTail] at h
  cases hz : ((sSign L k s).1 == 0) with
  | true => rw [hz] at h; cases h; exact eq_of_beq hz
  | false =>
   rw [hz] at h
   simp only [cond_false] at h
   revert h
   cases sExpr L n (w64 ((sSign L k s).2 + 1)) s.nx with
   | ok r s2 => exact fun h => tail_end n k _ s2 a s' h
   | bad p q s2 => exact fun h => by cases h
   | out => exact fun h => by cases h
theorem tail_stop {L : List T} {n : Nat} {k : Int} {e : Ex} {s : RS} (h : (sSign L k s).1 = 0) : sTail L (n + 1) k e s = .ok e s := by
 have b : ((sSign L k s).1 == 0) = true := by simpa using h
 simp only [sTail, b, cond_true]
theorem rtl_stop {L : List T} {n : Nat} {k : Int} {e : Ex} {s : RS} (h : exactOf L s k signs = 0) : rTl L (n + 1) k e s = .ok e s := by
 have b : (exactOf L s k signs == 0) = true := by simpa using h
 simp only [rTl, b, cond_true]
theorem rtl_go {L : List T} {n : Nat} {k o : Int} {e : Ex} {s : RS} (h : exactOf L s k signs = o) (h0 : (o == 0) = false) : rTl L (n + 1) k e s = (rLev L n (w64 (k + 1)) s.nx).bind fun r s2 => rTl L n k (.mk 9 o [] 0 (cur L s).p [e, r]) s2 := by
 simp only [rTl, h, h0, cond_false]
theorem tail_go {L : List T} {n : Nat} {k o lv : Int} {e : Ex} {s : RS} (h : sSign L k s = (o, lv)) (h0 : (o == 0) = false) : sTail L (n + 1) k e s = (sExpr L n (w64 (lv + 1)) s.nx).bind fun r s2 => sTail L n k (.mk 9 o [] 0 (cur L s).p [e, r]) s2 := by
 simp only [sTail, h, h0, cond_false]
theorem expr_end {L : List T} {n : Nat} {k : Int} {s : RS} {a : Ex} {s' : RS} (h : sExpr L n k s = .ok a s') : (sSign L k s').1 = 0 := by
 cases n with
 | zero => simp only [sExpr] at h; cases h
 | succ n =>
  simp only [sExpr] at h
  revert h
  cases sOne L n s with
  | ok r s2 => exact fun h => tail_end n k _ s2 a s' h
  | bad p q s2 => exact fun h => by cases h
  | out => exact fun h => by cases h
theorem bc {α β : Type} {r : Res α} {f g : α → RS → Res β} (h : ∀ a s', r = .ok a s' → f a s' = g a s') : r.bind f = r.bind g := by
 cases r with
 | ok a s => exact h a s rfl
 | bad p q s => rfl
 | out => rfl
theorem ba {α β γ : Type} {r : Res α} {f : α → RS → Res β} {g : β → RS → Res γ} : (r.bind f).bind g = r.bind fun a s => (f a s).bind g := by cases r <;> rfl
theorem bo {α : Type} {r : Res α} : (r.bind fun a s => .ok a s) = r := by cases r <;> rfl
theorem itc {α : Type} {c : Bool} {X Y X' Y' : Res α} (hX : X = X') (hY : Y = Y') : (bif c then X else Y) = (bif c then X' else Y') := by rw [hX, hY]
section
variable {L : List T} (hL : Toks L)
include hL
theorem mayC {α : Type} {x : List UInt8} {s : RS} (l : s.i < L.length) {X Y X' Y' : RS → Res α} (hX : ∀ s', s.i < s'.i → s'.i < L.length → X s' = X' s') (hY : Y s = Y' s) :
    ((sMay L x s).bind fun b s1 => bif b then X s1 else Y s1) = ((sMay L x s).bind fun b s1 => bif b then X' s1 else Y' s1) := by
 unfold sMay
 cases h : isT L s x with
 | false => exact hY
 | true =>
  have g := g_want hL x s l
  simp only [cond_true]
  cases hw : sWant L x s with
  | ok a s' => exact hX s' (g.2 _ _ hw).1 (g.2 _ _ hw).2
  | bad p q s' => rfl
  | out => rfl
theorem expr_free {n m : Nat} {k : Int} {s : RS} (l : s.i < L.length) (hn : 4 * (L.length - s.i) + 2 ≤ n) (hm : 4 * (L.length - s.i) + 2 ≤ m) : sExpr L n k s = sExpr L m k s :=
 le_same ((Nat.le_total n m).imp (fun h => (mAll L n m h).expr k s) (fun h => (mAll L m n h).expr k s)) ((gAll hL n).expr k s l hn).1 ((gAll hL m).expr k s l hm).1
structure EQ (L : List T) (d : Nat) : Prop where
 un : ∀ (s : RS) (n m : Nat), s.i < L.length → L.length - s.i ≤ d → 16 * (L.length - s.i) + 1 ≤ n → 4 * (L.length - s.i) + 1 ≤ m → rUn L n s = sOne L m s
 pl : ∀ (s : RS) (n m : Nat), s.i < L.length → L.length - s.i ≤ d → 16 * (L.length - s.i) + 1 ≤ n → 4 * (L.length - s.i) + 1 ≤ m → rPl L n s = sPlace L m s
 ar : ∀ (s : RS) (n m : Nat), s.i < L.length → L.length - s.i ≤ d → 16 * (L.length - s.i) + 1 ≤ n → 4 * (L.length - s.i) + 1 ≤ m → rAr L n s = sArgs L m s
 mo : ∀ (r : List Ex) (s : RS) (n m : Nat), s.i < L.length → L.length - s.i ≤ d → 16 * (L.length - s.i) + 1 ≤ n → 4 * (L.length - s.i) + 1 ≤ m → rMo L n r s = sMore L m r s
 ex : ∀ (j : Nat) (k : Int) (s : RS) (n m : Nat), k = 11 - (j : Int) → j ≤ 10 → s.i < L.length → L.length - s.i ≤ d → 16 * (L.length - s.i) + 2 + j ≤ n → 4 * (L.length - s.i) + 2 ≤ m → rLev L n k s = sExpr L m k s
 tl : ∀ (j : Nat) (k : Int) (e : Ex) (s : RS) (n m m' : Nat), k = 11 - (j : Int) → 1 ≤ j → j ≤ 10 → s.i < L.length → L.length - s.i ≤ d → 16 * (L.length - s.i) + 1 ≤ n → 4 * (L.length - s.i) + 1 ≤ m → 4 * (L.length - s.i) + 1 ≤ m' →
  ((sTail L m (k + 1) e s).bind fun a s2 => rTl L n k a s2) = sTail L m' k e s
theorem eqTl {d : Nat} (ih : EQ L d) (j : Nat) (k : Int) (e : Ex) (s : RS) (n m m' : Nat) (hk : k = 11 - (j : Int)) (h1 : 1 ≤ j) (h10 : j ≤ 10) (l : s.i < L.length) (hd : L.length - s.i ≤ d + 1) (hn : 16 * (L.length - s.i) + 1 ≤ n) (hm : 4 * (L.length - s.i) + 1 ≤ m) (hm' : 4 * (L.length - s.i) + 1 ≤ m') :
    ((sTail L m (k + 1) e s).bind fun a s2 => rTl L n k a s2) = sTail L m' k e s := by
 obtain ⟨n, rfl⟩ : ∃ x, n = x + 1 := ⟨n - 1, by omega⟩
 obtain ⟨m, rfl⟩ : ∃ x, m = x + 1 := ⟨m - 1, by omega⟩
 obtain ⟨m', rfl⟩ : ∃ x, m' = x + 1 := ⟨m' - 1, by omega⟩
 obtain ⟨o, lv, ho, hs⟩ := sign_uniq (L := L) (s := s)
 have hw : w64 (k + 1) = k + 1 := w64_in (by omega) (by omega)
 have hx := (hs k).2
 have s1 := (hs (k + 1)).1
 have s0 := (hs k).1
 rcases ho with ⟨rfl, rfl⟩ | ⟨h0, h2, h3⟩
 ·have e1 : decide (k + 1 ≤ 0) = false := by simp; omega
  have e2 : decide (k ≤ 0) = false := by simp; omega
  rw [e1] at s1
  rw [e2] at s0
  rw [tail_stop (by rw [s1]; rfl), tail_stop (by rw [s0]; rfl)]
  exact rtl_stop (by rw [hx]; cases ((0 : Int) == k) <;> rfl)
 ·have ob : (o == 0) = false := by simpa using h0
  have ln : s.nx.i < L.length := sign_some (least := 0) l hL signs (by
   have := (hs 0).1
   simp only [sSign] at this
   rw [this]
   have : decide ((0 : Int) ≤ lv) = true := by simp; omega
   rw [this]
   exact h0)
  have hnx : s.nx.i = s.i + 1 := rfl
  by_cases hg : k + 1 ≤ lv
  ·have e1 : decide (k + 1 ≤ lv) = true := by simpa using hg
   have e2 : decide (k ≤ lv) = true := by simp; omega
   rw [e1] at s1
   rw [e2] at s0
   rw [tail_go s1 ob, tail_go s0 ob, expr_free hL (n := m) (m := m') ln (by omega) (by omega), ba]
   refine bc fun a s2 hr => ?_
   have g := ((gAll hL m').expr _ _ ln (by omega)).2 a s2 hr
   exact ih.tl j k _ s2 _ _ _ hk h1 h10 g.2 (by omega) (by omega) (by omega) (by omega)
  ·have e1 : decide (k + 1 ≤ lv) = false := by simpa using hg
   rw [e1] at s1
   rw [tail_stop (by rw [s1]; rfl)]
   by_cases he : lv = k
   ·subst he
    have e2 : decide (lv ≤ lv) = true := by simp
    rw [e2] at s0
    rw [tail_go s0 ob]
    show rTl L (n + 1) lv e s = _
    rw [rtl_go (by rw [hx]; simp) ob, hw]
    rw [show rLev L n (lv + 1) s.nx = sExpr L m' (lv + 1) s.nx from ih.ex (j - 1) (lv + 1) s.nx n m' (by omega) (by omega) ln (by omega) (by omega) (by omega)]
    refine bc fun a s2 hr => ?_
    have g := ((gAll hL m').expr _ _ ln (by omega)).2 a s2 hr
    have t := ih.tl j lv (.mk 9 o [] 0 (cur L s).p [e, a]) s2 n m' m' hk h1 h10 g.2 (by omega) (by omega) (by omega) (by omega)
    obtain ⟨m'', rfl⟩ : ∃ x, m' = x + 1 := ⟨m' - 1, by omega⟩
    rw [tail_stop (expr_end hr)] at t
    exact t
   ·have e2 : decide (k ≤ lv) = false := by simp; omega
    rw [e2] at s0
    rw [tail_stop (by rw [s0]; rfl)]
    exact rtl_stop (by
     rw [hx]
     have : (lv == k) = false := by simpa using he
     rw [this]; rfl)
theorem eqAll : ∀ d, EQ L d
 | 0 => ⟨fun _ _ _ h h' => by omega, fun _ _ _ h h' => by omega, fun _ _ _ h h' => by omega, fun _ _ _ _ h h' => by omega, fun _ _ _ _ _ _ _ h h' => by omega, fun _ _ _ _ _ _ _ _ _ _ h h' => by omega⟩
 | d + 1 => by
  have ih := eqAll d
  have W := fun x s l => g_want hL x s l
  have X : ∀ (s : RS) (n m : Nat), s.i < L.length → L.length - s.i ≤ d → 16 * (L.length - s.i) + 12 ≤ n → 4 * (L.length - s.i) + 2 ≤ m → rLev L n 1 s = sExpr L m 1 s := fun s n m l h1 h2 h3 => ih.ex 10 1 s n m (by decide) (by omega) l h1 (by omega) h3
  have U : ∀ (s : RS) (n m : Nat), s.i < L.length → L.length - s.i ≤ d + 1 → 16 * (L.length - s.i) + 1 ≤ n → 4 * (L.length - s.i) + 1 ≤ m → rUn L n s = sOne L m s := fun s n m l hd hn hm => by
   obtain ⟨n, rfl⟩ : ∃ x, n = x + 1 := ⟨n - 1, by omega⟩
   obtain ⟨m, rfl⟩ : ∃ x, m = x + 1 := ⟨m - 1, by omega⟩
   simp only [rUn, sOne]
   refine mayC hL l (fun s' h1 h2 => by rw [ih.un s' n m h2 (by omega) (by omega) (by omega)]) ?_
   refine mayC hL l (fun s' h1 h2 => by rw [ih.un s' n m h2 (by omega) (by omega) (by omega)]) ?_
   refine mayC hL l (fun s' h1 h2 => by rw [ih.un s' n m h2 (by omega) (by omega) (by omega)]) ?_
   refine itc rfl ?_
   refine mayC hL l (fun _ _ _ => rfl) (mayC hL l (fun _ _ _ => rfl) (mayC hL l (fun _ _ _ => rfl) (mayC hL l (fun _ _ _ => rfl) ?_)))
   refine itc (bc fun a s' he => ?_) (bc fun a s' he => ?_)
   ·have g := (W _ s l).2 a s' he
    rw [X s' n m g.2 (by omega) (by omega) (by omega)]
   ·have g := (g_take hL 1 (by decide) s l).2 a s' he
    refine itc (by rw [ih.pl s' n m g.2 (by omega) (by omega) (by omega)]) (itc ?_ rfl)
    obtain ⟨m, rfl⟩ : ∃ x, m = x + 1 := ⟨m - 1, by omega⟩
    simp only [sCall]
    rw [ih.ar s' n m g.2 (by omega) (by omega) (by omega), ba]
    rfl
  refine ⟨U, fun s n m l hd hn hm => ?_, fun s n m l hd hn hm => ?_, fun r s n m l hd hn hm => ?_, fun j => ?_, fun j k e s n m m' hk h1 h10 l hd hn hm hm' => eqTl hL ih j k e s n m m' hk h1 h10 l hd hn hm hm'⟩
  ·obtain ⟨n, rfl⟩ : ∃ x, n = x + 1 := ⟨n - 1, by omega⟩
   obtain ⟨m, rfl⟩ : ∃ x, m = x + 1 := ⟨m - 1, by omega⟩
   simp only [rPl, sPlace]
   refine bc fun a s' he => ?_
   have g := (W _ s l).2 a s' he
   rw [X s' n m g.2 (by omega) (by omega) (by omega)]
  ·obtain ⟨n, rfl⟩ : ∃ x, n = x + 1 := ⟨n - 1, by omega⟩
   obtain ⟨m, rfl⟩ : ∃ x, m = x + 1 := ⟨m - 1, by omega⟩
   simp only [rAr, sArgs]
   refine bc fun a s' he => ?_
   have g := (W _ s l).2 a s' he
   refine itc rfl ?_
   rw [X s' n m g.2 (by omega) (by omega) (by omega)]
   refine bc fun a2 s2 he2 => ?_
   have g2 := ((gAll hL m).expr 1 s' g.2 (by omega)).2 a2 s2 he2
   rw [ih.mo [a2] s2 n m g2.2 (by omega) (by omega) (by omega)]
  ·obtain ⟨n, rfl⟩ : ∃ x, n = x + 1 := ⟨n - 1, by omega⟩
   obtain ⟨m, rfl⟩ : ∃ x, m = x + 1 := ⟨m - 1, by omega⟩
   simp only [rMo, sMore]
   refine mayC hL l (fun s' h1 h2 => ?_) rfl
   rw [X s' n m h2 (by omega) (by omega) (by omega)]
   refine bc fun a2 s2 he2 => ?_
   have g2 := ((gAll hL m).expr 1 s' h2 (by omega)).2 a2 s2 he2
   exact ih.mo _ s2 n m g2.2 (by omega) (by omega) (by omega)
  ·induction j with
   | zero =>
    intro k s n m hk _ l hd hn hm
    obtain ⟨n, rfl⟩ : ∃ x, n = x + 1 := ⟨n - 1, by omega⟩
    obtain ⟨m, rfl⟩ : ∃ x, m = x + 1 := ⟨m - 1, by omega⟩
    obtain rfl : k = 11 := by omega
    simp only [rLev, sExpr]
    have b : ((11 : Int) == 11) = true := rfl
    simp only [b, cond_true]
    rw [U s n m l hd (by omega) (by omega)]
    refine (bo.symm.trans (bc fun a s' he => ?_))
    obtain ⟨m, rfl⟩ : ∃ x, m = x + 1 := ⟨m - 1, by omega⟩
    obtain ⟨o, lv, ho, hs⟩ := sign_uniq (L := L) (s := s')
    have e1 : decide ((11 : Int) ≤ lv) = false := by simp; omega
    simp only [sTail, (hs 11).1, e1, cond_false]
    rfl
   | succ j ihj =>
    intro k s n m hk hj l hd hn hm
    obtain ⟨n, rfl⟩ : ∃ x, n = x + 1 := ⟨n - 1, by omega⟩
    obtain ⟨m, rfl⟩ : ∃ x, m = x + 1 := ⟨m - 1, by omega⟩
    have hw : w64 (k + 1) = k + 1 := w64_in (by omega) (by omega)
    have b : (k == 11) = false := by simp; omega
    simp only [rLev, b, cond_false, hw]
    rw [ihj (k + 1) s n (m + 1) (by omega) (by omega) l hd (by omega) hm]
    simp only [sExpr]
    rw [ba]
    refine bc fun a s' he => ?_
    have g := ((gAll hL m).one s l (by omega)).2 a s' he
    exact ih.tl (j + 1) k a s' n m m hk (by omega) hj g.2 (by omega) (by omega) (by omega) (by omega)
theorem qExpr (m : Nat) (s : RS) (v : Inv L s) : RF L 79 [qP, dI 1] eR s (sExpr L m 1 s) := by
 cases hc : sExpr L m 1 s with
 | out => trivial
 | _ =>
  rw [← hc, (mAll L m (m + 4 * L.length + 2) (by omega)).expr 1 s |>.eq (by rw [hc]; exact fun h => by cases h), ← (eqAll hL (L.length - s.i)).ex 10 1 s (16 * L.length + 12) _ (by decide) (by omega) v.lt (by omega) (by omega) (by omega)]
  exact (rAll hL _).lev 1 s v
theorem qPla (m : Nat) (s : RS) (v : Inv L s) : RF L 81 [qP] eR s (sPlace L m s) := by
 cases hc : sPlace L m s with
 | out => trivial
 | _ =>
  rw [← hc, (mAll L m (m + 4 * L.length + 2) (by omega)).place s |>.eq (by rw [hc]; exact fun h => by cases h), ← (eqAll hL (L.length - s.i)).pl s (16 * L.length + 12) _ v.lt (by omega) (by omega) (by omega)]
  exact (rAll hL _).pl s v
theorem qArg (m : Nat) (s : RS) (v : Inv L s) : RF L 80 [qP] xL s (sArgs L m s) := by
 cases hc : sArgs L m s with
 | out => trivial
 | _ =>
  rw [← hc, (mAll L m (m + 4 * L.length + 2) (by omega)).args s |>.eq (by rw [hc]; exact fun h => by cases h), ← (eqAll hL (L.length - s.i)).ar s (16 * L.length + 12) _ v.lt (by omega) (by omega) (by omega)]
  exact (rAll hL _).ar s v
end
end Go.Avm
namespace Go.Avm
open Go.Proofs
abbrev tR : St' → List D := fun x => [stD x]
abbrev tsR : List St' → List D := fun l => [.ro (stL l)]
section
variable {L : List T} {F : Nat} {args : List AV} {s0 : RS} {α β : Type} {g : α → List D}
theorem RF.take3 {s : RS} {k : T → RS → Res α} (hT : ((cur L s).k == 3) = true → RF L F args g s0 (k (cur L s) s.nx)) (hF : ((cur L s).k == 3) = false → RF L F args g s0 (.bad (cur L s).p 4 s)) : RF L F args g s0 ((sTake L 3 s).bind k) := by
 unfold sTake
 cases h : ((cur L s).k == 3) with
 | true => exact hT h
 | false => exact hF h
theorem RF.call {n : Nat} {nm : List UInt8} {q : Int} {s : RS} {k : Ex → RS → Res α} (h : ∀ m, RF L 80 [qP] xL s (sArgs L m s))
    (hb : ∀ p e a s', (e == 0) = false → (HC 80 [qP] (qd L s) (xL a) (qe L s' p e)) → ∃ (b : α) (s' : RS), HC F args (qd L s0) (g b) (qe L s' p e))
    (hk : ∀ l s', Inv L s' → (HC 80 [qP] (qd L s) (xL l) (qd L s')) → RF L F args g s0 (k (.mk 5 0 nm 0 q l) s')) : RF L F args g s0 ((sCall L n nm q s).bind k) := by
 cases n with
 | zero => simp only [sCall]; trivial
 | succ n => simp only [sCall, ba]; exact RF.bind (h n) hb hk
end
section
variable (L : List T) (s : RS) (p : Int) {e : Int} (he : (e == 0) = false)
include he
theorem zBlock : HC 46 [qP] (qe L s p e) [.ro (stL [])] (qe L s p e) :=
 qN { hint := qT 46 [(10, qB he)], calls := tC [(46, 5, 1072, cOf (zSkip L s p he [123])), (46, 22, 1264, cOf (zSkip L s p he [125]))] } 1000
end
section
variable {L : List T} (hL : Toks L)
include hL
theorem qStmt (n : Nat) (ihB : ∀ s : RS, Inv L s → RF L 46 [qP] tsR s (sBlock L n s)) (s0 : RS) (v0 : Inv L s0) : RF L 64 [qP] tR s0 (sStmt L (n + 1) s0) := by
 have v : Inv L s0.st := ⟨v0.lt, v0.lo, v0.hi⟩
 simp only [sStmt, bo, sLet, sNamed]
 refine RF.may [108, 101, 116] rfl (fun h1 => ?_) (fun h1 => ?_)
 ·
  refine RF.bind (qName hL (inv_nx hL v h1)) ?_ ?_
  ·intro p e a s' he c
   exact ⟨.mk 1 s0.st.n a.t 0 0 (cur L s0.st).p [] [] [], s', qN { nils := fun f r => if f = 64 then (if r = 31 ∨ r = 35 ∨ r = 41 ∨ r = 46 ∨ r = 50 ∨ r = 14 ∨ r = 6 then some ⟨3947, 6, 300000, 6, false, false⟩ else none) else none, calls := tC [(64, 19, 3576, cRo rfl (qNow v.lt)), (64, 76, 4496, cOf (qHas hL v [108, 101, 116] rfl h1)), (64, 78, 4864, cOf c), (64, 82, 5784, cOf (zSkip L s' p he [58])), (64, 84, 5968, cOf (zTyped3 L s' p he)), (64, 111, 7072, cOf (zHas L s' p he [61])), (64, 120, 7256, cOf (zSkip L s' p he [59]))] } 1000⟩
  ·intro t s2 v2 c2
   refine RF.bind (qSkip hL v2 [58]) ?_ ?_
   ·intro p e a s' he c
    exact ⟨.mk 1 s0.st.n t.t 0 0 (cur L s0.st).p [] [] [], s', qN { nils := fun f r => if f = 64 then (if r = 31 ∨ r = 35 ∨ r = 41 ∨ r = 46 ∨ r = 50 ∨ r = 14 ∨ r = 6 then some ⟨3947, 6, 300000, 6, false, false⟩ else none) else none, calls := tC [(64, 19, 3576, cRo rfl (qNow v.lt)), (64, 76, 4496, cOf (qHas hL v [108, 101, 116] rfl h1)), (64, 78, 4864, cOf c2), (64, 82, 5784, cOf c), (64, 84, 5968, cOf (zTyped3 L s' p he)), (64, 111, 7072, cOf (zHas L s' p he [61])), (64, 120, 7256, cOf (zSkip L s' p he [59]))] } 1000⟩
   ·intro _ s3 v3 c3
    refine RF.bind (qTyped3 hL v3) ?_ ?_
    ·intro p e a s' he c
     cases hk : (a == 3) with
     | true =>
      exact ⟨.mk 1 s0.st.n t.t a zT.n (cur L s0.st).p [] [] [], s', qN { nils := fun f r => if f = 64 then (if r = 31 ∨ r = 35 ∨ r = 41 ∨ r = 46 ∨ r = 50 ∨ r = 14 ∨ r = 6 then some ⟨3947, 6, 300000, 6, false, false⟩ else none) else none, hint := qT 64 [(88, qB hk)], calls := tC [(64, 19, 3576, cRo rfl (qNow v.lt)), (64, 76, 4496, cOf (qHas hL v [108, 101, 116] rfl h1)), (64, 78, 4864, cOf c2), (64, 82, 5784, cOf c3), (64, 84, 5968, cOf c), (64, 90, 7072, cOf (zSkip L s' p he [91])), (64, 92, 7256, cOf (zNow L s' p he)), (64, 107, 8360, cOf (zFail L s' p he 4)), (64, 109, 8544, cOf (zSkip L s' p he [93])), (64, 120, 8728, cOf (zSkip L s' p he [59]))] } 1000⟩
     | false =>
      exact ⟨.mk 1 s0.st.n t.t a 0 (cur L s0.st).p [] [] [], s', qN { nils := fun f r => if f = 64 then (if r = 31 ∨ r = 35 ∨ r = 41 ∨ r = 46 ∨ r = 50 ∨ r = 14 ∨ r = 6 then some ⟨3947, 6, 300000, 6, false, false⟩ else none) else none, hint := qT 64 [(88, qB hk)], calls := tC [(64, 19, 3576, cRo rfl (qNow v.lt)), (64, 76, 4496, cOf (qHas hL v [108, 101, 116] rfl h1)), (64, 78, 4864, cOf c2), (64, 82, 5784, cOf c3), (64, 84, 5968, cOf c), (64, 111, 7072, cOf (zHas L s' p he [61])), (64, 120, 7256, cOf (zSkip L s' p he [59]))] } 1000⟩
    ·intro ty s4 v4 c4
     refine RF.ite (fun h5 => ?_) (fun h5 => ?_)
     ·
      refine RF.bind (qSkip hL v4 [91]) ?_ ?_
      ·intro p e a s' he c
       exact ⟨.mk 1 s0.st.n t.t ty zT.n (cur L s0.st).p [] [] [], s', qN { nils := fun f r => if f = 64 then (if r = 31 ∨ r = 35 ∨ r = 41 ∨ r = 46 ∨ r = 50 ∨ r = 14 ∨ r = 6 then some ⟨3947, 6, 300000, 6, false, false⟩ else none) else none, hint := qT 64 [(88, qB h5)], calls := tC [(64, 19, 3576, cRo rfl (qNow v.lt)), (64, 76, 4496, cOf (qHas hL v [108, 101, 116] rfl h1)), (64, 78, 4864, cOf c2), (64, 82, 5784, cOf c3), (64, 84, 5968, cOf c4), (64, 90, 7072, cOf c), (64, 92, 7256, cOf (zNow L s' p he)), (64, 107, 8360, cOf (zFail L s' p he 4)), (64, 109, 8544, cOf (zSkip L s' p he [93])), (64, 120, 8728, cOf (zSkip L s' p he [59]))] } 1000⟩
      ·intro _ s6 v6 c6
       refine RF.take3 (fun h7 => ?_) (fun h7 => ?_)
       ·
        have w7 : Inv L (RS.nx s6) := ⟨nx_lt hL v6.lt (by rw [eq_of_beq h7]; decide), by have := v6.lo; simp only [RS.nx]; omega, v6.hi⟩
        refine RF.bind (qSkip hL w7 [93]) ?_ ?_
        ·intro p e a s' he c
         exact ⟨.mk 1 s0.st.n t.t ty (cur L s6).n (cur L s0.st).p [] [] [], s', qN { nils := fun f r => if f = 64 then (if r = 31 ∨ r = 35 ∨ r = 41 ∨ r = 46 ∨ r = 50 ∨ r = 14 ∨ r = 6 then some ⟨3947, 6, 300000, 6, false, false⟩ else none) else none, hint := qT 64 [(88, qB h5), (95, qB h7), (103, hSucc Pg s6.i (by have := hL.len; have := v6.lt; omega))], calls := tC [(64, 19, 3576, cRo rfl (qNow v.lt)), (64, 76, 4496, cOf (qHas hL v [108, 101, 116] rfl h1)), (64, 78, 4864, cOf c2), (64, 82, 5784, cOf c3), (64, 84, 5968, cOf c4), (64, 90, 7072, cOf c6), (64, 92, 7256, cOf (qNow v6.lt)), (64, 109, 10568, cOf c), (64, 120, 10752, cOf (zSkip L s' p he [59]))] } 1000⟩
        ·intro _ s8 v8 c8
         refine RF.bind (qSkip hL v8 [59]) ?_ ?_
         ·intro p e a s' he c
          exact ⟨.mk 1 s0.st.n t.t ty (cur L s6).n (cur L s0.st).p [] [] [], s', qN { nils := fun f r => if f = 64 then (if r = 31 ∨ r = 35 ∨ r = 41 ∨ r = 46 ∨ r = 50 ∨ r = 14 ∨ r = 6 then some ⟨3947, 6, 300000, 6, false, false⟩ else none) else none, hint := qT 64 [(88, qB h5), (95, qB h7), (103, hSucc Pg s6.i (by have := hL.len; have := v6.lt; omega))], calls := tC [(64, 19, 3576, cRo rfl (qNow v.lt)), (64, 76, 4496, cOf (qHas hL v [108, 101, 116] rfl h1)), (64, 78, 4864, cOf c2), (64, 82, 5784, cOf c3), (64, 84, 5968, cOf c4), (64, 90, 7072, cOf c6), (64, 92, 7256, cOf (qNow v6.lt)), (64, 109, 10568, cOf c8), (64, 120, 10752, cOf c)] } 1000⟩
         ·intro _ s9 v9 c9
          exact ⟨v9, qN { nils := fun f r => if f = 64 then (if r = 31 ∨ r = 35 ∨ r = 41 ∨ r = 46 ∨ r = 50 ∨ r = 14 ∨ r = 6 then some ⟨3947, 6, 300000, 6, false, false⟩ else none) else none, hint := qT 64 [(88, qB h5), (95, qB h7), (103, hSucc Pg s6.i (by have := hL.len; have := v6.lt; omega))], calls := tC [(64, 19, 3576, cRo rfl (qNow v.lt)), (64, 76, 4496, cOf (qHas hL v [108, 101, 116] rfl h1)), (64, 78, 4864, cOf c2), (64, 82, 5784, cOf c3), (64, 84, 5968, cOf c4), (64, 90, 7072, cOf c6), (64, 92, 7256, cOf (qNow v6.lt)), (64, 109, 10568, cOf c8), (64, 120, 10752, cOf c9)] } 1000⟩
       ·
        exact ⟨rfl, .mk 1 s0.st.n t.t ty zT.n (cur L s0.st).p [] [] [], s6, qN { nils := fun f r => if f = 64 then (if r = 31 ∨ r = 35 ∨ r = 41 ∨ r = 46 ∨ r = 50 ∨ r = 14 ∨ r = 6 then some ⟨3947, 6, 300000, 6, false, false⟩ else none) else none, hint := qT 64 [(88, qB h5), (95, qB h7)], calls := tC [(64, 19, 3576, cRo rfl (qNow v.lt)), (64, 76, 4496, cOf (qHas hL v [108, 101, 116] rfl h1)), (64, 78, 4864, cOf c2), (64, 82, 5784, cOf c3), (64, 84, 5968, cOf c4), (64, 90, 7072, cOf c6), (64, 92, 7256, cOf (qNow v6.lt)), (64, 107, 8360, cOf (qFail v6.lt 4)), (64, 109, 8544, cOf (zSkip L s6 (cur L s6).p (e := 4) rfl [93])), (64, 120, 8728, cOf (zSkip L s6 (cur L s6).p (e := 4) rfl [59]))] } 1000⟩
     ·
      refine RF.may [61] rfl (fun h6 => ?_) (fun h6 => ?_)
      ·
       refine RF.bind (qExpr hL n _ (inv_nx hL v4 h6)) ?_ ?_
       ·intro p e a s' he c
        obtain ⟨ka, oa, na, ma, pa, ya⟩ := a
        exact ⟨.mk 1 s0.st.n t.t ty 0 (cur L s0.st).p [(.mk ka oa na ma pa ya)] [] [], s', qN { nils := fun f r => if f = 64 then (if r = 31 ∨ r = 35 ∨ r = 41 ∨ r = 46 ∨ r = 50 ∨ r = 14 ∨ r = 6 then some ⟨3947, 6, 300000, 6, false, false⟩ else none) else none, hint := qT 64 [(88, qB h5)], calls := tC [(64, 19, 3576, cRo rfl (qNow v.lt)), (64, 76, 4496, cOf (qHas hL v [108, 101, 116] rfl h1)), (64, 78, 4864, cOf c2), (64, 82, 5784, cOf c3), (64, 84, 5968, cOf c4), (64, 111, 7072, cOf (qHas hL v4 [61] rfl h6)), (64, 115, 7624, cOf c), (64, 120, 8544, cOf (zSkip L s' p he [59]))] } 1000⟩
       ·intro x s7 v7 c7
        obtain ⟨kx, ox, nx, mx, px, yx⟩ := x
        refine RF.bind (qSkip hL v7 [59]) ?_ ?_
        ·intro p e a s' he c
         exact ⟨.mk 1 s0.st.n t.t ty 0 (cur L s0.st).p [(.mk kx ox nx mx px yx)] [] [], s', qN { nils := fun f r => if f = 64 then (if r = 31 ∨ r = 35 ∨ r = 41 ∨ r = 46 ∨ r = 50 ∨ r = 14 ∨ r = 6 then some ⟨3947, 6, 300000, 6, false, false⟩ else none) else none, hint := qT 64 [(88, qB h5)], calls := tC [(64, 19, 3576, cRo rfl (qNow v.lt)), (64, 76, 4496, cOf (qHas hL v [108, 101, 116] rfl h1)), (64, 78, 4864, cOf c2), (64, 82, 5784, cOf c3), (64, 84, 5968, cOf c4), (64, 111, 7072, cOf (qHas hL v4 [61] rfl h6)), (64, 115, 7624, cOf c7), (64, 120, 8544, cOf c)] } 1000⟩
        ·intro _ s8 v8 c8
         exact ⟨v8, qN { nils := fun f r => if f = 64 then (if r = 31 ∨ r = 35 ∨ r = 41 ∨ r = 46 ∨ r = 50 ∨ r = 14 ∨ r = 6 then some ⟨3947, 6, 300000, 6, false, false⟩ else none) else none, hint := qT 64 [(88, qB h5)], calls := tC [(64, 19, 3576, cRo rfl (qNow v.lt)), (64, 76, 4496, cOf (qHas hL v [108, 101, 116] rfl h1)), (64, 78, 4864, cOf c2), (64, 82, 5784, cOf c3), (64, 84, 5968, cOf c4), (64, 111, 7072, cOf (qHas hL v4 [61] rfl h6)), (64, 115, 7624, cOf c7), (64, 120, 8544, cOf c8)] } 1000⟩
      ·
       refine RF.bind (qSkip hL v4 [59]) ?_ ?_
       ·intro p e a s' he c
        exact ⟨.mk 1 s0.st.n t.t ty 0 (cur L s0.st).p [] [] [], s', qN { nils := fun f r => if f = 64 then (if r = 31 ∨ r = 35 ∨ r = 41 ∨ r = 46 ∨ r = 50 ∨ r = 14 ∨ r = 6 then some ⟨3947, 6, 300000, 6, false, false⟩ else none) else none, hint := qT 64 [(88, qB h5)], calls := tC [(64, 19, 3576, cRo rfl (qNow v.lt)), (64, 76, 4496, cOf (qHas hL v [108, 101, 116] rfl h1)), (64, 78, 4864, cOf c2), (64, 82, 5784, cOf c3), (64, 84, 5968, cOf c4), (64, 111, 7072, cOf (qHasF hL v4 [61] h6)), (64, 120, 7256, cOf c)] } 1000⟩
       ·intro _ s7 v7 c7
        exact ⟨v7, qN { nils := fun f r => if f = 64 then (if r = 31 ∨ r = 35 ∨ r = 41 ∨ r = 46 ∨ r = 50 ∨ r = 14 ∨ r = 6 then some ⟨3947, 6, 300000, 6, false, false⟩ else none) else none, hint := qT 64 [(88, qB h5)], calls := tC [(64, 19, 3576, cRo rfl (qNow v.lt)), (64, 76, 4496, cOf (qHas hL v [108, 101, 116] rfl h1)), (64, 78, 4864, cOf c2), (64, 82, 5784, cOf c3), (64, 84, 5968, cOf c4), (64, 111, 7072, cOf (qHasF hL v4 [61] h6)), (64, 120, 7256, cOf c7)] } 1000⟩
 ·
  refine RF.may [105, 102] rfl (fun h2 => ?_) (fun h2 => ?_)
  ·
   refine RF.bind (qExpr hL n _ (inv_nx hL v h2)) ?_ ?_
   ·intro p e a s' he c
    obtain ⟨ka, oa, na, ma, pa, ya⟩ := a
    exact ⟨.mk 4 s0.st.n [] 0 0 (cur L s0.st).p [(.mk ka oa na ma pa ya)] [] [], s', qN { nils := fun f r => if f = 64 then (if r = 31 ∨ r = 35 ∨ r = 41 ∨ r = 46 ∨ r = 50 ∨ r = 14 ∨ r = 6 then some ⟨3947, 6, 300000, 6, false, false⟩ else none) else none, calls := tC [(64, 19, 3576, cRo rfl (qNow v.lt)), (64, 76, 4496, cOf (qHasF hL v [108, 101, 116] h1)), (64, 123, 4864, cOf (qHas hL v [105, 102] rfl h2)), (64, 128, 5968, cOf c), (64, 133, 6888, cOf (zBlock L s' p he)), (64, 136, 7440, cOf (zHas L s' p he [101, 108, 115, 101]))] } 1000⟩
   ·intro x s3 v3 c3
    obtain ⟨kx, ox, nx, mx, px, yx⟩ := x
    refine RF.bind (ihB _ v3) ?_ ?_
    ·intro p e a s' he c
     exact ⟨.mk 4 s0.st.n [] 0 0 (cur L s0.st).p [(.mk kx ox nx mx px yx)] a [], s', qN { nils := fun f r => if f = 64 then (if r = 31 ∨ r = 35 ∨ r = 41 ∨ r = 46 ∨ r = 50 ∨ r = 14 ∨ r = 6 then some ⟨3947, 6, 300000, 6, false, false⟩ else none) else none, calls := tC [(64, 19, 3576, cRo rfl (qNow v.lt)), (64, 76, 4496, cOf (qHasF hL v [108, 101, 116] h1)), (64, 123, 4864, cOf (qHas hL v [105, 102] rfl h2)), (64, 128, 5968, cOf c3), (64, 133, 6888, cOf c), (64, 136, 7440, cOf (zHas L s' p he [101, 108, 115, 101]))] } 1000⟩
    ·intro b1 s4 v4 c4
     refine RF.may [101, 108, 115, 101] rfl (fun h5 => ?_) (fun h5 => ?_)
     ·
      refine RF.bind (ihB _ (inv_nx hL v4 h5)) ?_ ?_
      ·intro p e a s' he c
       exact ⟨.mk 4 s0.st.n [] 0 0 (cur L s0.st).p [(.mk kx ox nx mx px yx)] b1 a, s', qN { nils := fun f r => if f = 64 then (if r = 31 ∨ r = 35 ∨ r = 41 ∨ r = 46 ∨ r = 50 ∨ r = 14 ∨ r = 6 then some ⟨3947, 6, 300000, 6, false, false⟩ else none) else none, calls := tC [(64, 19, 3576, cRo rfl (qNow v.lt)), (64, 76, 4496, cOf (qHasF hL v [108, 101, 116] h1)), (64, 123, 4864, cOf (qHas hL v [105, 102] rfl h2)), (64, 128, 5968, cOf c3), (64, 133, 6888, cOf c4), (64, 136, 7440, cOf (qHas hL v4 [101, 108, 115, 101] rfl h5)), (64, 138, 7624, cOf c)] } 1000⟩
      ·intro b2 s6 v6 c6
       exact ⟨v6, qN { nils := fun f r => if f = 64 then (if r = 31 ∨ r = 35 ∨ r = 41 ∨ r = 46 ∨ r = 50 ∨ r = 14 ∨ r = 6 then some ⟨3947, 6, 300000, 6, false, false⟩ else none) else none, calls := tC [(64, 19, 3576, cRo rfl (qNow v.lt)), (64, 76, 4496, cOf (qHasF hL v [108, 101, 116] h1)), (64, 123, 4864, cOf (qHas hL v [105, 102] rfl h2)), (64, 128, 5968, cOf c3), (64, 133, 6888, cOf c4), (64, 136, 7440, cOf (qHas hL v4 [101, 108, 115, 101] rfl h5)), (64, 138, 7624, cOf c6)] } 1000⟩
     ·
      exact ⟨v4, qN { nils := fun f r => if f = 64 then (if r = 31 ∨ r = 35 ∨ r = 41 ∨ r = 46 ∨ r = 50 ∨ r = 14 ∨ r = 6 then some ⟨3947, 6, 300000, 6, false, false⟩ else none) else none, calls := tC [(64, 19, 3576, cRo rfl (qNow v.lt)), (64, 76, 4496, cOf (qHasF hL v [108, 101, 116] h1)), (64, 123, 4864, cOf (qHas hL v [105, 102] rfl h2)), (64, 128, 5968, cOf c3), (64, 133, 6888, cOf c4), (64, 136, 7440, cOf (qHasF hL v4 [101, 108, 115, 101] h5))] } 1000⟩
  ·
   refine RF.may [119, 104, 105, 108, 101] rfl (fun h3 => ?_) (fun h3 => ?_)
   ·
    refine RF.bind (qExpr hL n _ (inv_nx hL v h3)) ?_ ?_
    ·intro p e a s' he c
     obtain ⟨ka, oa, na, ma, pa, ya⟩ := a
     exact ⟨.mk 5 s0.st.n [] 0 0 (cur L s0.st).p [(.mk ka oa na ma pa ya)] [] [], s', qN { nils := fun f r => if f = 64 then (if r = 31 ∨ r = 35 ∨ r = 41 ∨ r = 46 ∨ r = 50 ∨ r = 14 ∨ r = 6 then some ⟨3947, 6, 300000, 6, false, false⟩ else none) else none, calls := tC [(64, 19, 3576, cRo rfl (qNow v.lt)), (64, 76, 4496, cOf (qHasF hL v [108, 101, 116] h1)), (64, 123, 4864, cOf (qHasF hL v [105, 102] h2)), (64, 142, 5232, cOf (qHas hL v [119, 104, 105, 108, 101] rfl h3)), (64, 147, 6336, cOf c), (64, 152, 7256, cOf (zBlock L s' p he))] } 1000⟩
    ·intro x s4 v4 c4
     obtain ⟨kx, ox, nx, mx, px, yx⟩ := x
     refine RF.bind (ihB _ v4) ?_ ?_
     ·intro p e a s' he c
      exact ⟨.mk 5 s0.st.n [] 0 0 (cur L s0.st).p [(.mk kx ox nx mx px yx)] a [], s', qN { nils := fun f r => if f = 64 then (if r = 31 ∨ r = 35 ∨ r = 41 ∨ r = 46 ∨ r = 50 ∨ r = 14 ∨ r = 6 then some ⟨3947, 6, 300000, 6, false, false⟩ else none) else none, calls := tC [(64, 19, 3576, cRo rfl (qNow v.lt)), (64, 76, 4496, cOf (qHasF hL v [108, 101, 116] h1)), (64, 123, 4864, cOf (qHasF hL v [105, 102] h2)), (64, 142, 5232, cOf (qHas hL v [119, 104, 105, 108, 101] rfl h3)), (64, 147, 6336, cOf c4), (64, 152, 7256, cOf c)] } 1000⟩
     ·intro b1 s5 v5 c5
      exact ⟨v5, qN { nils := fun f r => if f = 64 then (if r = 31 ∨ r = 35 ∨ r = 41 ∨ r = 46 ∨ r = 50 ∨ r = 14 ∨ r = 6 then some ⟨3947, 6, 300000, 6, false, false⟩ else none) else none, calls := tC [(64, 19, 3576, cRo rfl (qNow v.lt)), (64, 76, 4496, cOf (qHasF hL v [108, 101, 116] h1)), (64, 123, 4864, cOf (qHasF hL v [105, 102] h2)), (64, 142, 5232, cOf (qHas hL v [119, 104, 105, 108, 101] rfl h3)), (64, 147, 6336, cOf c4), (64, 152, 7256, cOf c5)] } 1000⟩
   ·
    refine RF.may [114, 101, 116, 117, 114, 110] rfl (fun h4 => ?_) (fun h4 => ?_)
    ·
     refine RF.ite (fun h5 => ?_) (fun h5 => ?_)
     ·
      refine RF.bind (qSkip hL (inv_nx hL v h4) [59]) ?_ ?_
      ·intro p e a s' he c
       exact ⟨.mk 6 s0.st.n [] 0 0 (cur L s0.st).p [] [] [], s', qN { nils := fun f r => if f = 64 then (if r = 31 ∨ r = 35 ∨ r = 41 ∨ r = 46 ∨ r = 50 ∨ r = 14 ∨ r = 6 then some ⟨3947, 6, 300000, 6, false, false⟩ else none) else none, calls := tC [(64, 19, 3576, cRo rfl (qNow v.lt)), (64, 76, 4496, cOf (qHasF hL v [108, 101, 116] h1)), (64, 123, 4864, cOf (qHasF hL v [105, 102] h2)), (64, 142, 5232, cOf (qHasF hL v [119, 104, 105, 108, 101] h3)), (64, 156, 5600, cOf (qHas hL v [114, 101, 116, 117, 114, 110] rfl h4)), (64, 159, 6336, cOf (qIs (inv_nx hL v h4).lt [59] h5)), (64, 169, 6704, cOf c)] } 1000⟩
      ·intro _ s6 v6 c6
       exact ⟨v6, qN { nils := fun f r => if f = 64 then (if r = 31 ∨ r = 35 ∨ r = 41 ∨ r = 46 ∨ r = 50 ∨ r = 14 ∨ r = 6 then some ⟨3947, 6, 300000, 6, false, false⟩ else none) else none, calls := tC [(64, 19, 3576, cRo rfl (qNow v.lt)), (64, 76, 4496, cOf (qHasF hL v [108, 101, 116] h1)), (64, 123, 4864, cOf (qHasF hL v [105, 102] h2)), (64, 142, 5232, cOf (qHasF hL v [119, 104, 105, 108, 101] h3)), (64, 156, 5600, cOf (qHas hL v [114, 101, 116, 117, 114, 110] rfl h4)), (64, 159, 6336, cOf (qIs (inv_nx hL v h4).lt [59] h5)), (64, 169, 6704, cOf c6)] } 1000⟩
     ·
      refine RF.bind (qExpr hL n _ (inv_nx hL v h4)) ?_ ?_
      ·intro p e a s' he c
       obtain ⟨ka, oa, na, ma, pa, ya⟩ := a
       exact ⟨.mk 6 s0.st.n [] 0 0 (cur L s0.st).p [(.mk ka oa na ma pa ya)] [] [], s', qN { nils := fun f r => if f = 64 then (if r = 31 ∨ r = 35 ∨ r = 41 ∨ r = 46 ∨ r = 50 ∨ r = 14 ∨ r = 6 then some ⟨3947, 6, 300000, 6, false, false⟩ else none) else none, calls := tC [(64, 19, 3576, cRo rfl (qNow v.lt)), (64, 76, 4496, cOf (qHasF hL v [108, 101, 116] h1)), (64, 123, 4864, cOf (qHasF hL v [105, 102] h2)), (64, 142, 5232, cOf (qHasF hL v [119, 104, 105, 108, 101] h3)), (64, 156, 5600, cOf (qHas hL v [114, 101, 116, 117, 114, 110] rfl h4)), (64, 159, 6336, cOf (qIs (inv_nx hL v h4).lt [59] h5)), (64, 164, 7072, cOf c), (64, 169, 7992, cOf (zSkip L s' p he [59]))] } 1000⟩
      ·intro x s6 v6 c6
       obtain ⟨kx, ox, nx, mx, px, yx⟩ := x
       refine RF.bind (qSkip hL v6 [59]) ?_ ?_
       ·intro p e a s' he c
        exact ⟨.mk 6 s0.st.n [] 0 0 (cur L s0.st).p [(.mk kx ox nx mx px yx)] [] [], s', qN { nils := fun f r => if f = 64 then (if r = 31 ∨ r = 35 ∨ r = 41 ∨ r = 46 ∨ r = 50 ∨ r = 14 ∨ r = 6 then some ⟨3947, 6, 300000, 6, false, false⟩ else none) else none, calls := tC [(64, 19, 3576, cRo rfl (qNow v.lt)), (64, 76, 4496, cOf (qHasF hL v [108, 101, 116] h1)), (64, 123, 4864, cOf (qHasF hL v [105, 102] h2)), (64, 142, 5232, cOf (qHasF hL v [119, 104, 105, 108, 101] h3)), (64, 156, 5600, cOf (qHas hL v [114, 101, 116, 117, 114, 110] rfl h4)), (64, 159, 6336, cOf (qIs (inv_nx hL v h4).lt [59] h5)), (64, 164, 7072, cOf c6), (64, 169, 7992, cOf c)] } 1000⟩
       ·intro _ s7 v7 c7
        exact ⟨v7, qN { nils := fun f r => if f = 64 then (if r = 31 ∨ r = 35 ∨ r = 41 ∨ r = 46 ∨ r = 50 ∨ r = 14 ∨ r = 6 then some ⟨3947, 6, 300000, 6, false, false⟩ else none) else none, calls := tC [(64, 19, 3576, cRo rfl (qNow v.lt)), (64, 76, 4496, cOf (qHasF hL v [108, 101, 116] h1)), (64, 123, 4864, cOf (qHasF hL v [105, 102] h2)), (64, 142, 5232, cOf (qHasF hL v [119, 104, 105, 108, 101] h3)), (64, 156, 5600, cOf (qHas hL v [114, 101, 116, 117, 114, 110] rfl h4)), (64, 159, 6336, cOf (qIs (inv_nx hL v h4).lt [59] h5)), (64, 164, 7072, cOf c6), (64, 169, 7992, cOf c7)] } 1000⟩
    ·
     refine RF.may [112, 114, 105, 110, 116] rfl (fun h5 => ?_) (fun h5 => ?_)
     ·
      refine RF.bind (qExpr hL n _ (inv_nx hL v h5)) ?_ ?_
      ·intro p e a s' he c
       obtain ⟨ka, oa, na, ma, pa, ya⟩ := a
       exact ⟨.mk 7 s0.st.n [] 0 0 (cur L s0.st).p [(.mk ka oa na ma pa ya)] [] [], s', qN { nils := fun f r => if f = 64 then (if r = 31 ∨ r = 35 ∨ r = 41 ∨ r = 46 ∨ r = 50 ∨ r = 14 ∨ r = 6 then some ⟨3947, 6, 300000, 6, false, false⟩ else none) else none, calls := tC [(64, 19, 3576, cRo rfl (qNow v.lt)), (64, 76, 4496, cOf (qHasF hL v [108, 101, 116] h1)), (64, 123, 4864, cOf (qHasF hL v [105, 102] h2)), (64, 142, 5232, cOf (qHasF hL v [119, 104, 105, 108, 101] h3)), (64, 156, 5600, cOf (qHasF hL v [114, 101, 116, 117, 114, 110] h4)), (64, 172, 5968, cOf (qHas hL v [112, 114, 105, 110, 116] rfl h5)), (64, 177, 7072, cOf c), (64, 182, 7992, cOf (zSkip L s' p he [59]))] } 1000⟩
      ·intro x s6 v6 c6
       obtain ⟨kx, ox, nx, mx, px, yx⟩ := x
       refine RF.bind (qSkip hL v6 [59]) ?_ ?_
       ·intro p e a s' he c
        exact ⟨.mk 7 s0.st.n [] 0 0 (cur L s0.st).p [(.mk kx ox nx mx px yx)] [] [], s', qN { nils := fun f r => if f = 64 then (if r = 31 ∨ r = 35 ∨ r = 41 ∨ r = 46 ∨ r = 50 ∨ r = 14 ∨ r = 6 then some ⟨3947, 6, 300000, 6, false, false⟩ else none) else none, calls := tC [(64, 19, 3576, cRo rfl (qNow v.lt)), (64, 76, 4496, cOf (qHasF hL v [108, 101, 116] h1)), (64, 123, 4864, cOf (qHasF hL v [105, 102] h2)), (64, 142, 5232, cOf (qHasF hL v [119, 104, 105, 108, 101] h3)), (64, 156, 5600, cOf (qHasF hL v [114, 101, 116, 117, 114, 110] h4)), (64, 172, 5968, cOf (qHas hL v [112, 114, 105, 110, 116] rfl h5)), (64, 177, 7072, cOf c6), (64, 182, 7992, cOf c)] } 1000⟩
       ·intro _ s7 v7 c7
        exact ⟨v7, qN { nils := fun f r => if f = 64 then (if r = 31 ∨ r = 35 ∨ r = 41 ∨ r = 46 ∨ r = 50 ∨ r = 14 ∨ r = 6 then some ⟨3947, 6, 300000, 6, false, false⟩ else none) else none, calls := tC [(64, 19, 3576, cRo rfl (qNow v.lt)), (64, 76, 4496, cOf (qHasF hL v [108, 101, 116] h1)), (64, 123, 4864, cOf (qHasF hL v [105, 102] h2)), (64, 142, 5232, cOf (qHasF hL v [119, 104, 105, 108, 101] h3)), (64, 156, 5600, cOf (qHasF hL v [114, 101, 116, 117, 114, 110] h4)), (64, 172, 5968, cOf (qHas hL v [112, 114, 105, 110, 116] rfl h5)), (64, 177, 7072, cOf c6), (64, 182, 7992, cOf c7)] } 1000⟩
     ·
      refine RF.bind (qName hL v) ?_ ?_
      ·intro p e a s' he c
       exact ⟨.mk 2 s0.st.n a.t 0 0 (cur L s0.st).p [eZ] [] [], s', qN { nils := fun f r => if f = 64 then (if r = 31 ∨ r = 35 ∨ r = 41 ∨ r = 46 ∨ r = 50 ∨ r = 14 ∨ r = 6 then some ⟨3947, 6, 300000, 6, false, false⟩ else none) else none, calls := tC [(64, 19, 3576, cRo rfl (qNow v.lt)), (64, 76, 4496, cOf (qHasF hL v [108, 101, 116] h1)), (64, 123, 4864, cOf (qHasF hL v [105, 102] h2)), (64, 142, 5232, cOf (qHasF hL v [119, 104, 105, 108, 101] h3)), (64, 156, 5600, cOf (qHasF hL v [114, 101, 116, 117, 114, 110] h4)), (64, 172, 5968, cOf (qHasF hL v [112, 114, 105, 110, 116] h5)), (64, 23, 6336, cOf c), (64, 38, 6704, cOf (zIs L s' p he [40])), (64, 52, 7072, cOf (zIs L s' p he [91])), (64, 28, 8360, cOf (zSkip L s' p he [61])), (64, 32, 8912, cOf (zLev L s' p he 1)), (64, 73, 9832, cOf (zSkip L s' p he [59]))] } 1000⟩
      ·intro t s6 v6 c6
       refine RF.ite (fun h7 => ?_) (fun h7 => ?_)
       ·
        refine RF.call (fun m => qArg hL m _ v6) ?_ ?_
        ·intro p e a s' he c
         exact ⟨.mk 8 s0.st.n [] 0 0 (cur L s0.st).p [.mk 5 0 t.t 0 (cur L s0.st).p a] [] [], s', qN { nils := fun f r => if f = 64 then (if r = 31 ∨ r = 35 ∨ r = 41 ∨ r = 46 ∨ r = 50 ∨ r = 14 ∨ r = 6 then some ⟨3947, 6, 300000, 6, false, false⟩ else none) else none, calls := tC [(64, 19, 3576, cRo rfl (qNow v.lt)), (64, 76, 4496, cOf (qHasF hL v [108, 101, 116] h1)), (64, 123, 4864, cOf (qHasF hL v [105, 102] h2)), (64, 142, 5232, cOf (qHasF hL v [119, 104, 105, 108, 101] h3)), (64, 156, 5600, cOf (qHasF hL v [114, 101, 116, 117, 114, 110] h4)), (64, 172, 5968, cOf (qHasF hL v [112, 114, 105, 110, 116] h5)), (64, 23, 6336, cOf c6), (64, 38, 6704, cOf (qIs v6.lt [40] h7)), (64, 45, 8544, cOf c), (64, 73, 9832, cOf (zSkip L s' p he [59]))] } 1000⟩
        ·intro ys s8 v8 c8
         refine RF.bind (qSkip hL v8 [59]) ?_ ?_
         ·intro p e a s' he c
          exact ⟨.mk 8 s0.st.n [] 0 0 (cur L s0.st).p [.mk 5 0 t.t 0 (cur L s0.st).p ys] [] [], s', qN { nils := fun f r => if f = 64 then (if r = 31 ∨ r = 35 ∨ r = 41 ∨ r = 46 ∨ r = 50 ∨ r = 14 ∨ r = 6 then some ⟨3947, 6, 300000, 6, false, false⟩ else none) else none, calls := tC [(64, 19, 3576, cRo rfl (qNow v.lt)), (64, 76, 4496, cOf (qHasF hL v [108, 101, 116] h1)), (64, 123, 4864, cOf (qHasF hL v [105, 102] h2)), (64, 142, 5232, cOf (qHasF hL v [119, 104, 105, 108, 101] h3)), (64, 156, 5600, cOf (qHasF hL v [114, 101, 116, 117, 114, 110] h4)), (64, 172, 5968, cOf (qHasF hL v [112, 114, 105, 110, 116] h5)), (64, 23, 6336, cOf c6), (64, 38, 6704, cOf (qIs v6.lt [40] h7)), (64, 45, 8544, cOf c8), (64, 73, 9832, cOf c)] } 1000⟩
         ·intro _ s9 v9 c9
          exact ⟨v9, qN { nils := fun f r => if f = 64 then (if r = 31 ∨ r = 35 ∨ r = 41 ∨ r = 46 ∨ r = 50 ∨ r = 14 ∨ r = 6 then some ⟨3947, 6, 300000, 6, false, false⟩ else none) else none, calls := tC [(64, 19, 3576, cRo rfl (qNow v.lt)), (64, 76, 4496, cOf (qHasF hL v [108, 101, 116] h1)), (64, 123, 4864, cOf (qHasF hL v [105, 102] h2)), (64, 142, 5232, cOf (qHasF hL v [119, 104, 105, 108, 101] h3)), (64, 156, 5600, cOf (qHasF hL v [114, 101, 116, 117, 114, 110] h4)), (64, 172, 5968, cOf (qHasF hL v [112, 114, 105, 110, 116] h5)), (64, 23, 6336, cOf c6), (64, 38, 6704, cOf (qIs v6.lt [40] h7)), (64, 45, 8544, cOf c8), (64, 73, 9832, cOf c9)] } 1000⟩
       ·
        refine RF.ite (fun h8 => ?_) (fun h8 => ?_)
        ·
         refine RF.bind (qPla hL n _ v6) ?_ ?_
         ·intro p e a s' he c
          obtain ⟨ka, oa, na, ma, pa, ya⟩ := a
          exact ⟨.mk 3 s0.st.n t.t 0 0 (cur L s0.st).p [(.mk ka oa na ma pa ya), eZ] [] [], s', qN { nils := fun f r => if f = 64 then (if r = 31 ∨ r = 35 ∨ r = 41 ∨ r = 46 ∨ r = 50 ∨ r = 14 ∨ r = 6 then some ⟨3947, 6, 300000, 6, false, false⟩ else none) else none, calls := tC [(64, 19, 3576, cRo rfl (qNow v.lt)), (64, 76, 4496, cOf (qHasF hL v [108, 101, 116] h1)), (64, 123, 4864, cOf (qHasF hL v [105, 102] h2)), (64, 142, 5232, cOf (qHasF hL v [119, 104, 105, 108, 101] h3)), (64, 156, 5600, cOf (qHasF hL v [114, 101, 116, 117, 114, 110] h4)), (64, 172, 5968, cOf (qHasF hL v [112, 114, 105, 110, 116] h5)), (64, 23, 6336, cOf c6), (64, 38, 6704, cOf (qIs v6.lt [40] h7)), (64, 52, 7072, cOf (qIs v6.lt [91] h8)), (64, 59, 8728, cOf c), (64, 64, 9648, cOf (zSkip L s' p he [61])), (64, 68, 10200, cOf (zLev L s' p he 1)), (64, 73, 11120, cOf (zSkip L s' p he [59]))] } 1000⟩
         ·intro x s9 v9 c9
          obtain ⟨kx, ox, nx, mx, px, yx⟩ := x
          refine RF.bind (qSkip hL v9 [61]) ?_ ?_
          ·intro p e a s' he c
           exact ⟨.mk 3 s0.st.n t.t 0 0 (cur L s0.st).p [(.mk kx ox nx mx px yx), eZ] [] [], s', qN { nils := fun f r => if f = 64 then (if r = 31 ∨ r = 35 ∨ r = 41 ∨ r = 46 ∨ r = 50 ∨ r = 14 ∨ r = 6 then some ⟨3947, 6, 300000, 6, false, false⟩ else none) else none, calls := tC [(64, 19, 3576, cRo rfl (qNow v.lt)), (64, 76, 4496, cOf (qHasF hL v [108, 101, 116] h1)), (64, 123, 4864, cOf (qHasF hL v [105, 102] h2)), (64, 142, 5232, cOf (qHasF hL v [119, 104, 105, 108, 101] h3)), (64, 156, 5600, cOf (qHasF hL v [114, 101, 116, 117, 114, 110] h4)), (64, 172, 5968, cOf (qHasF hL v [112, 114, 105, 110, 116] h5)), (64, 23, 6336, cOf c6), (64, 38, 6704, cOf (qIs v6.lt [40] h7)), (64, 52, 7072, cOf (qIs v6.lt [91] h8)), (64, 59, 8728, cOf c9), (64, 64, 9648, cOf c), (64, 68, 10200, cOf (zLev L s' p he 1)), (64, 73, 11120, cOf (zSkip L s' p he [59]))] } 1000⟩
          ·intro _ s10 v10 c10
           refine RF.bind (qExpr hL n _ v10) ?_ ?_
           ·intro p e a s' he c
            obtain ⟨ka, oa, na, ma, pa, ya⟩ := a
            exact ⟨.mk 3 s0.st.n t.t 0 0 (cur L s0.st).p [(.mk kx ox nx mx px yx), (.mk ka oa na ma pa ya)] [] [], s', qN { nils := fun f r => if f = 64 then (if r = 31 ∨ r = 35 ∨ r = 41 ∨ r = 46 ∨ r = 50 ∨ r = 14 ∨ r = 6 then some ⟨3947, 6, 300000, 6, false, false⟩ else none) else none, calls := tC [(64, 19, 3576, cRo rfl (qNow v.lt)), (64, 76, 4496, cOf (qHasF hL v [108, 101, 116] h1)), (64, 123, 4864, cOf (qHasF hL v [105, 102] h2)), (64, 142, 5232, cOf (qHasF hL v [119, 104, 105, 108, 101] h3)), (64, 156, 5600, cOf (qHasF hL v [114, 101, 116, 117, 114, 110] h4)), (64, 172, 5968, cOf (qHasF hL v [112, 114, 105, 110, 116] h5)), (64, 23, 6336, cOf c6), (64, 38, 6704, cOf (qIs v6.lt [40] h7)), (64, 52, 7072, cOf (qIs v6.lt [91] h8)), (64, 59, 8728, cOf c9), (64, 64, 9648, cOf c10), (64, 68, 10200, cOf c), (64, 73, 11120, cOf (zSkip L s' p he [59]))] } 1000⟩
           ·intro y s11 v11 c11
            obtain ⟨ky, oy, ny, my, py, yy⟩ := y
            refine RF.bind (qSkip hL v11 [59]) ?_ ?_
            ·intro p e a s' he c
             exact ⟨.mk 3 s0.st.n t.t 0 0 (cur L s0.st).p [(.mk kx ox nx mx px yx), (.mk ky oy ny my py yy)] [] [], s', qN { nils := fun f r => if f = 64 then (if r = 31 ∨ r = 35 ∨ r = 41 ∨ r = 46 ∨ r = 50 ∨ r = 14 ∨ r = 6 then some ⟨3947, 6, 300000, 6, false, false⟩ else none) else none, calls := tC [(64, 19, 3576, cRo rfl (qNow v.lt)), (64, 76, 4496, cOf (qHasF hL v [108, 101, 116] h1)), (64, 123, 4864, cOf (qHasF hL v [105, 102] h2)), (64, 142, 5232, cOf (qHasF hL v [119, 104, 105, 108, 101] h3)), (64, 156, 5600, cOf (qHasF hL v [114, 101, 116, 117, 114, 110] h4)), (64, 172, 5968, cOf (qHasF hL v [112, 114, 105, 110, 116] h5)), (64, 23, 6336, cOf c6), (64, 38, 6704, cOf (qIs v6.lt [40] h7)), (64, 52, 7072, cOf (qIs v6.lt [91] h8)), (64, 59, 8728, cOf c9), (64, 64, 9648, cOf c10), (64, 68, 10200, cOf c11), (64, 73, 11120, cOf c)] } 1000⟩
            ·intro _ s12 v12 c12
             exact ⟨v12, qN { nils := fun f r => if f = 64 then (if r = 31 ∨ r = 35 ∨ r = 41 ∨ r = 46 ∨ r = 50 ∨ r = 14 ∨ r = 6 then some ⟨3947, 6, 300000, 6, false, false⟩ else none) else none, calls := tC [(64, 19, 3576, cRo rfl (qNow v.lt)), (64, 76, 4496, cOf (qHasF hL v [108, 101, 116] h1)), (64, 123, 4864, cOf (qHasF hL v [105, 102] h2)), (64, 142, 5232, cOf (qHasF hL v [119, 104, 105, 108, 101] h3)), (64, 156, 5600, cOf (qHasF hL v [114, 101, 116, 117, 114, 110] h4)), (64, 172, 5968, cOf (qHasF hL v [112, 114, 105, 110, 116] h5)), (64, 23, 6336, cOf c6), (64, 38, 6704, cOf (qIs v6.lt [40] h7)), (64, 52, 7072, cOf (qIs v6.lt [91] h8)), (64, 59, 8728, cOf c9), (64, 64, 9648, cOf c10), (64, 68, 10200, cOf c11), (64, 73, 11120, cOf c12)] } 1000⟩
        ·
         refine RF.bind (qSkip hL v6 [61]) ?_ ?_
         ·intro p e a s' he c
          exact ⟨.mk 2 s0.st.n t.t 0 0 (cur L s0.st).p [eZ] [] [], s', qN { nils := fun f r => if f = 64 then (if r = 31 ∨ r = 35 ∨ r = 41 ∨ r = 46 ∨ r = 50 ∨ r = 14 ∨ r = 6 then some ⟨3947, 6, 300000, 6, false, false⟩ else none) else none, calls := tC [(64, 19, 3576, cRo rfl (qNow v.lt)), (64, 76, 4496, cOf (qHasF hL v [108, 101, 116] h1)), (64, 123, 4864, cOf (qHasF hL v [105, 102] h2)), (64, 142, 5232, cOf (qHasF hL v [119, 104, 105, 108, 101] h3)), (64, 156, 5600, cOf (qHasF hL v [114, 101, 116, 117, 114, 110] h4)), (64, 172, 5968, cOf (qHasF hL v [112, 114, 105, 110, 116] h5)), (64, 23, 6336, cOf c6), (64, 38, 6704, cOf (qIs v6.lt [40] h7)), (64, 52, 7072, cOf (qIs v6.lt [91] h8)), (64, 28, 8360, cOf c), (64, 32, 8912, cOf (zLev L s' p he 1)), (64, 73, 9832, cOf (zSkip L s' p he [59]))] } 1000⟩
         ·intro _ s9 v9 c9
          refine RF.bind (qExpr hL n _ v9) ?_ ?_
          ·intro p e a s' he c
           obtain ⟨ka, oa, na, ma, pa, ya⟩ := a
           exact ⟨.mk 2 s0.st.n t.t 0 0 (cur L s0.st).p [(.mk ka oa na ma pa ya)] [] [], s', qN { nils := fun f r => if f = 64 then (if r = 31 ∨ r = 35 ∨ r = 41 ∨ r = 46 ∨ r = 50 ∨ r = 14 ∨ r = 6 then some ⟨3947, 6, 300000, 6, false, false⟩ else none) else none, calls := tC [(64, 19, 3576, cRo rfl (qNow v.lt)), (64, 76, 4496, cOf (qHasF hL v [108, 101, 116] h1)), (64, 123, 4864, cOf (qHasF hL v [105, 102] h2)), (64, 142, 5232, cOf (qHasF hL v [119, 104, 105, 108, 101] h3)), (64, 156, 5600, cOf (qHasF hL v [114, 101, 116, 117, 114, 110] h4)), (64, 172, 5968, cOf (qHasF hL v [112, 114, 105, 110, 116] h5)), (64, 23, 6336, cOf c6), (64, 38, 6704, cOf (qIs v6.lt [40] h7)), (64, 52, 7072, cOf (qIs v6.lt [91] h8)), (64, 28, 8360, cOf c9), (64, 32, 8912, cOf c), (64, 73, 9832, cOf (zSkip L s' p he [59]))] } 1000⟩
          ·intro x s10 v10 c10
           obtain ⟨kx, ox, nx, mx, px, yx⟩ := x
           refine RF.bind (qSkip hL v10 [59]) ?_ ?_
           ·intro p e a s' he c
            exact ⟨.mk 2 s0.st.n t.t 0 0 (cur L s0.st).p [(.mk kx ox nx mx px yx)] [] [], s', qN { nils := fun f r => if f = 64 then (if r = 31 ∨ r = 35 ∨ r = 41 ∨ r = 46 ∨ r = 50 ∨ r = 14 ∨ r = 6 then some ⟨3947, 6, 300000, 6, false, false⟩ else none) else none, calls := tC [(64, 19, 3576, cRo rfl (qNow v.lt)), (64, 76, 4496, cOf (qHasF hL v [108, 101, 116] h1)), (64, 123, 4864, cOf (qHasF hL v [105, 102] h2)), (64, 142, 5232, cOf (qHasF hL v [119, 104, 105, 108, 101] h3)), (64, 156, 5600, cOf (qHasF hL v [114, 101, 116, 117, 114, 110] h4)), (64, 172, 5968, cOf (qHasF hL v [112, 114, 105, 110, 116] h5)), (64, 23, 6336, cOf c6), (64, 38, 6704, cOf (qIs v6.lt [40] h7)), (64, 52, 7072, cOf (qIs v6.lt [91] h8)), (64, 28, 8360, cOf c9), (64, 32, 8912, cOf c10), (64, 73, 9832, cOf c)] } 1000⟩
           ·intro _ s11 v11 c11
            exact ⟨v11, qN { nils := fun f r => if f = 64 then (if r = 31 ∨ r = 35 ∨ r = 41 ∨ r = 46 ∨ r = 50 ∨ r = 14 ∨ r = 6 then some ⟨3947, 6, 300000, 6, false, false⟩ else none) else none, calls := tC [(64, 19, 3576, cRo rfl (qNow v.lt)), (64, 76, 4496, cOf (qHasF hL v [108, 101, 116] h1)), (64, 123, 4864, cOf (qHasF hL v [105, 102] h2)), (64, 142, 5232, cOf (qHasF hL v [119, 104, 105, 108, 101] h3)), (64, 156, 5600, cOf (qHasF hL v [114, 101, 116, 117, 114, 110] h4)), (64, 172, 5968, cOf (qHasF hL v [112, 114, 105, 110, 116] h5)), (64, 23, 6336, cOf c6), (64, 38, 6704, cOf (qIs v6.lt [40] h7)), (64, 52, 7072, cOf (qIs v6.lt [91] h8)), (64, 28, 8360, cOf c9), (64, 32, 8912, cOf c10), (64, 73, 9832, cOf c11)] } 1000⟩
end
end Go.Avm
namespace Go.Avm
open Go.Proofs
def qbL (l : List St') : List (Nat × AV) := [(0, qP), (3, .vec 200000 l.length 9 (stL l))]
abbrev qbE (v : Nat) : List (Nat × Ent) := [(200000, ⟨v, none⟩)]
def QbAt (L : List T) (s : RS) (r : List St') : Res (List St') → Prop
 | .ok r2 s' => Inv L s' ∧ RL 24 (lO 46 3) (qbL r) (qd L s ++ qbE r.length) (.exit 0) (qbL r2) (qd L s' ++ qbE r2.length)
 | .bad q t _ => (t == 0) = false ∧ ∃ (r2 : List St') (s' : RS), RL 24 (lO 46 3) (qbL r) (qd L s ++ qbE r.length) (.exit 0) (qbL r2) (qe L s' q t ++ qbE r2.length)
 | .out => True
noncomputable def qbLH {r : List St'} {hp hp' : List (Nat × Ent)} {l' : List (Nat × AV)} (h : RL 24 (lO 46 3) (qbL r) (hp) (.exit 0) l' (hp')) : LHint Pg :=
 ⟨24, loopOf Pg 46 3, qbL r, fun _ => hp, .exit 0, l', fun _ => hp', fun rest X hP hN => (h rest X hP hN).aw⟩
section
variable {L : List T} (hL : Toks L) {s : RS} (v : Inv L s) (r : List St')
include hL v
theorem qbStop (h : isT L s [125] = true) :
    RE 24 (lO 46 3) (qbL r) (qd L s ++ qbE r.length) (.exit 0) (qbL r) (qd L s ++ qbE r.length) :=
 qE { calls := tC [(46, 13, 3168, cOf (qIs v.lt [125] h))] } 46 3000
section
variable (h : isT L s [125] = false) (hr : r.length < 1000000)
include h hr
theorem qbGo0 (k id : Int) (nm : List UInt8) (ty n p : Int) (es : List Ex) (bd el : List St') {s2 : RS} (c : HC 64 [qP] (qd L s) [stD (.mk k id nm ty n p es bd el)] (qd L s2)) :
    RE 24 (lO 46 3) (qbL r) (qd L s ++ qbE r.length) .normal [(0, qP), (3, .vec 200000 (r.length + 1) 9 (stL r ++ [stD (.mk k id nm ty n p es bd el)]))] (qd L s2 ++ qbE (r.length + 1)) :=
 qE { hint := qT 46 [(20, .app (stL r) 1 (by rw [stL_len]; omega))], calls := tC [(46, 13, 3168, cOf (qIs v.lt [125] h)), (46, 18, 3264, cOf c)] } 46 3000
theorem qbBad0 (k id : Int) (nm : List UInt8) (ty n p : Int) (es : List Ex) (bd el : List St') {s2 : RS} {q t : Int} (c : HC 64 [qP] (qd L s) [stD (.mk k id nm ty n p es bd el)] (qe L s2 q t)) :
    RE 24 (lO 46 3) (qbL r) (qd L s ++ qbE r.length) .normal [(0, qP), (3, .vec 200000 (r.length + 1) 9 (stL r ++ [stD (.mk k id nm ty n p es bd el)]))] (qe L s2 q t ++ qbE (r.length + 1)) :=
 qE { hint := qT 46 [(20, .app (stL r) 1 (by rw [stL_len]; omega))], calls := tC [(46, 13, 3168, cOf (qIs v.lt [125] h)), (46, 18, 3264, cOf c)] } 46 3000
theorem qbGo (x : St') {s2 : RS} (c : HC 64 [qP] (qd L s) [stD x] (qd L s2)) :
    RE 24 (lO 46 3) (qbL r) (qd L s ++ qbE r.length) .normal (qbL (r ++ [x])) (qd L s2 ++ qbE (r ++ [x]).length) := by
 obtain ⟨k, id, nm, ty, n, p, es, bd, el⟩ := x
 have e1 : (r ++ [St'.mk k id nm ty n p es bd el]).length = r.length + 1 := by simp
 have e2 : stL (r ++ [St'.mk k id nm ty n p es bd el]) = stL r ++ [stD (.mk k id nm ty n p es bd el)] := by rw [stL_app]; rfl
 simp only [qbL, e1, e2]
 exact qbGo0 hL v r h hr k id nm ty n p es bd el c
theorem qbBad (x : St') {s2 : RS} {q t : Int} (c : HC 64 [qP] (qd L s) [stD x] (qe L s2 q t)) :
    RE 24 (lO 46 3) (qbL r) (qd L s ++ qbE r.length) .normal (qbL (r ++ [x])) (qe L s2 q t ++ qbE (r ++ [x]).length) := by
 obtain ⟨k, id, nm, ty, n, p, es, bd, el⟩ := x
 have e1 : (r ++ [St'.mk k id nm ty n p es bd el]).length = r.length + 1 := by simp
 have e2 : stL (r ++ [St'.mk k id nm ty n p es bd el]) = stL r ++ [stD (.mk k id nm ty n p es bd el)] := by rw [stL_app]; rfl
 simp only [qbL, e1, e2]
 exact qbBad0 hL v r h hr k id nm ty n p es bd el c
end
end
theorem qbEnd (L : List T) (s : RS) (q : Int) {t : Int} (he : (t == 0) = false) (r : List St') : RE 24 (lO 46 3) (qbL r) (qe L s q t ++ qbE r.length) (.exit 0) (qbL r) (qe L s q t ++ qbE r.length) :=
 qE { hint := qT 46 [(10, qB he)] } 46 3000
section
variable {L : List T} {s s1 s2 s3 : RS} {q t : Int}
theorem qbZ1 (ht : (t == 0) = false) (c1 : HC 41 [qP, .d (.str [123])] (qd L s) [] (qe L s1 q t)) :
    HC 46 [qP] (qd L s) [.ro (stL [])] (qe L s1 q t) :=
 qN { hint := qT 46 [(10, qB ht)], calls := tC [(46, 5, 1072, cOf c1), (46, 22, 1264, cOf (zSkip L s1 q ht [125]))] } 1000
theorem qbZ2 (ht : (t == 0) = false) (c1 : HC 41 [qP, .d (.str [123])] (qd L s) [] (qd L s1)) (r : List St') (h : RL 24 (lO 46 3) (qbL []) (qd L s1 ++ qbE ([] : List St').length) (.exit 0) (qbL r) (qe L s2 q t ++ qbE r.length)) :
    HC 46 [qP] (qd L s) [.ro (stL r)] (qe L s2 q t) :=
 qN { nils := fun f r => if f = 46 then (if r = 2 then some ⟨0, 3, 200000, 9, true, false⟩ else none) else none, loops := fun f q => if f = 46 then (if q = 3 then some (qbLH h) else none) else none, calls := tC [(46, 5, 1072, cOf c1), (46, 22, 1096, cOf (zSkip L s2 q ht [125]))] } 1000
section
variable (c1 : HC 41 [qP, .d (.str [123])] (qd L s) [] (qd L s1)) (r : List St') (h : RL 24 (lO 46 3) (qbL []) (qd L s1 ++ qbE ([] : List St').length) (.exit 0) (qbL r) (qd L s2 ++ qbE r.length))
include c1 r h
theorem qbO (c3 : HC 41 [qP, .d (.str [125])] (qd L s2) [] (qd L s3)) :
    HC 46 [qP] (qd L s) [.ro (stL r)] (qd L s3) :=
 qN { nils := fun f r => if f = 46 then (if r = 2 then some ⟨0, 3, 200000, 9, true, false⟩ else none) else none, loops := fun f q => if f = 46 then (if q = 3 then some (qbLH h) else none) else none, calls := tC [(46, 5, 1072, cOf c1), (46, 22, 1096, cOf c3)] } 1000
theorem qbZ3 (c3 : HC 41 [qP, .d (.str [125])] (qd L s2) [] (qe L s3 q t)) :
    HC 46 [qP] (qd L s) [.ro (stL r)] (qe L s3 q t) :=
 qN { nils := fun f r => if f = 46 then (if r = 2 then some ⟨0, 3, 200000, 9, true, false⟩ else none) else none, loops := fun f q => if f = 46 then (if q = 3 then some (qbLH h) else none) else none, calls := tC [(46, 5, 1072, cOf c1), (46, 22, 1096, cOf c3)] } 1000
end
end
structure QAll (L : List T) (n : Nat) : Prop where
 block : ∀ s : RS, Inv L s → RF L 46 [qP] tsR s (sBlock L n s)
 stmts : ∀ (r : List St') (s : RS), Inv L s → r.length ≤ s.i → QbAt L s r (sStmts L n r s)
 stmt : ∀ s : RS, Inv L s → RF L 64 [qP] tR s (sStmt L n s)
theorem qAll {L : List T} (hL : Toks L) : ∀ n, QAll L n
 | 0 => ⟨fun _ _ => trivial, fun _ _ _ _ => trivial, fun _ _ => trivial⟩
 | n + 1 => by
  obtain ⟨ihB, ihS, ihT⟩ := qAll hL n
  refine ⟨fun s v => ?_, fun r s v hr => ?_, qStmt hL n ihB⟩
  ·simp only [sBlock]
   have c1 := qSkip hL v [123]
   revert c1
   cases sWant L [123] s with
   | out => exact fun _ => trivial
   | bad q t s1 => exact fun ⟨ht, _, s2, c1⟩ => ⟨ht, [], s2, qbZ1 ht c1⟩
   | ok t1 s1 =>
    intro c1
    have c2 := ihS [] s1 c1.1 (Nat.zero_le _)
    simp only [Res.bind]
    revert c2
    cases sStmts L n [] s1 with
    | out => exact fun _ => trivial
    | bad q t s2 => exact fun ⟨ht, r, s3, c2⟩ => ⟨ht, r, s3, qbZ2 ht c1.2 r c2⟩
    | ok r s2 =>
     intro c2
     have c3 := qSkip hL c2.1 [125]
     simp only
     revert c3
     cases sWant L [125] s2 with
     | out => exact fun _ => trivial
     | bad q t s3 => exact fun ⟨ht, _, s4, c3⟩ => ⟨ht, r, s4, qbZ3 c1.2 r c2.2 c3⟩
     | ok t2 s3 => exact fun c3 => ⟨c3.1, qbO c1.2 r c2.2 c3.2⟩
  ·simp only [sStmts]
   have hlen : r.length < 1000000 := by have := hL.len; have := v.lt; omega
   cases h : isT L s [125] with
   | true => exact ⟨v, fun rest X hP hN => lw_stop (qbStop hL v r h rest X hP hN) (by simp)⟩
   | false =>
    have c1 := ihT s v
    have g1 := (stmt_gr L n).2.2 s
    simp only [cond_false]
    revert c1 g1
    cases sStmt L n s with
    | out => exact fun _ _ => trivial
    | bad q t s1 => exact fun ⟨ht, a, s2, c1⟩ _ => ⟨ht, r ++ [a], s2, fun rest X hP hN => lw_step (qbBad hL v r h hlen a c1 rest X hP hN) (lw_stop (qbEnd L s2 q ht (r ++ [a]) rest X hP hN) (by simp))⟩
    | ok x s1 =>
     intro c1 g1
     have g1 := g1 x s1 rfl
     have c2 := ihS (r ++ [x]) s1 c1.1 (by simp only [List.length_append, List.length_cons, List.length_nil]; omega)
     have hgo := qbGo hL v r h hlen x c1.2
     simp only [Res.bind]
     revert c2
     cases sStmts L n (r ++ [x]) s1 with
     | out => exact fun _ => trivial
     | bad q t s2 => exact fun ⟨ht, r2, s3, c2⟩ => ⟨ht, r2, s3, fun rest X hP hN => lw_step (hgo rest X hP hN) (c2 rest X hP hN)⟩
     | ok r2 s2 => exact fun c2 => ⟨c2.1, fun rest X hP hN => lw_step (hgo rest X hP hN) (c2.2 rest X hP hN)⟩
end Go.Avm
namespace Go.Avm
open Go.Proofs
abbrev fqL (b : Bool) : List (Nat × AV) := [(0, qP), (2, pC 1002), (3, pC 1239), (4, dB b)]
abbrev fqE (nm : List UInt8) (p : Int) (v : Nat) (l : List D) : List (Nat × Ent) := [(1002, ⟨1, some (.arr 1 [.d (.str []), .nils, u8 0, .nils, dI 0])⟩), (1239, ⟨1, some (.arr 1 [.d (.str nm), .vec 400000 v 3 l, u8 0, .nils, dI p])⟩), (400000, ⟨v, none⟩)]
section
variable {L : List T} (hL : Toks L) {s : RS} (v : Inv L s) (nm : List UInt8) (p : Int) (r : List Pm)
include hL v
section
variable (hr : r.length < 1000000) {n1 : List UInt8}
include hr n1
theorem fqB1 {s1 : RS} {q t : Int} (ht : (t == 0) = false) (c1 : HC 42 [qP] (qd L s) [.str n1] (qe L s1 q t)) :
    RE 59 (lO 24 6) (fqL true) (qd L s ++ fqE nm p r.length (pmL r)) .normal (fqL false) (qe L s1 q t ++ fqE nm p (r.length + 1) (pmL r ++ [pmD ⟨n1, 0, (cur L s).p⟩])) :=
 qE { hint := qT 24 [(46, .app (pmL r) 1 (by simp only [List.length_map]; omega))], calls := tC [(24, 31, 3118, cOf (qNow v.lt)), (24, 35, 3413, cOf c1), (24, 38, 3590, cOf (zSkip L s1 q ht [58])), (24, 40, 3649, cOf (zTyped3 L s1 q ht)), (24, 29, 4239, cOf (zHas L s1 q ht [44]))] } 24 3000
theorem fqB2 {s1 s2 : RS} {q t : Int} (ht : (t == 0) = false) (c1 : HC 42 [qP] (qd L s) [.str n1] (qd L s1)) (c2 : HC 41 [qP, .d (.str [58])] (qd L s1) [] (qe L s2 q t)) :
    RE 59 (lO 24 6) (fqL true) (qd L s ++ fqE nm p r.length (pmL r)) .normal (fqL false) (qe L s2 q t ++ fqE nm p (r.length + 1) (pmL r ++ [pmD ⟨n1, 0, (cur L s).p⟩])) :=
 qE { hint := qT 24 [(46, .app (pmL r) 1 (by simp only [List.length_map]; omega))], calls := tC [(24, 31, 3118, cOf (qNow v.lt)), (24, 35, 3413, cOf c1), (24, 38, 3590, cOf c2), (24, 40, 3649, cOf (zTyped3 L s2 q ht)), (24, 29, 4239, cOf (zHas L s2 q ht [44]))] } 24 3000
theorem fqB3 {ty : Int} {s1 s2 s3 : RS} {q t : Int} (ht : (t == 0) = false) (c1 : HC 42 [qP] (qd L s) [.str n1] (qd L s1)) (c2 : HC 41 [qP, .d (.str [58])] (qd L s1) [] (qd L s2)) (c3 : HC 45 [qP, dB true] (qd L s2) [.int .u8 ty] (qe L s3 q t)) :
    RE 59 (lO 24 6) (fqL true) (qd L s ++ fqE nm p r.length (pmL r)) .normal (fqL false) (qe L s3 q t ++ fqE nm p (r.length + 1) (pmL r ++ [pmD ⟨n1, ty, (cur L s).p⟩])) :=
 qE { hint := qT 24 [(46, .app (pmL r) 1 (by simp only [List.length_map]; omega))], calls := tC [(24, 31, 3118, cOf (qNow v.lt)), (24, 35, 3413, cOf c1), (24, 38, 3590, cOf c2), (24, 40, 3649, cOf c3), (24, 29, 4239, cOf (zHas L s3 q ht [44]))] } 24 3000
theorem fqGo0 {ty : Int} {b : Bool} {s1 s2 s3 s4 : RS} (c1 : HC 42 [qP] (qd L s) [.str n1] (qd L s1)) (c2 : HC 41 [qP, .d (.str [58])] (qd L s1) [] (qd L s2)) (c3 : HC 45 [qP, dB true] (qd L s2) [.int .u8 ty] (qd L s3)) (c4 : HC 44 [qP, .d (.str [44])] (qd L s3) [.bool b] (qd L s4)) :
    RE 59 (lO 24 6) (fqL true) (qd L s ++ fqE nm p r.length (pmL r)) .normal (fqL b) (qd L s4 ++ fqE nm p (r.length + 1) (pmL r ++ [pmD ⟨n1, ty, (cur L s).p⟩])) :=
 qE { hint := qT 24 [(46, .app (pmL r) 1 (by simp only [List.length_map]; omega))], calls := tC [(24, 31, 3118, cOf (qNow v.lt)), (24, 35, 3413, cOf c1), (24, 38, 3590, cOf c2), (24, 40, 3649, cOf c3), (24, 29, 4239, cOf c4)] } 24 3000
end
end
theorem fqStop (L : List T) (s : RS) (nm : List UInt8) (p : Int) (r : List Pm) :
    RE 59 (lO 24 6) (fqL false) (qd L s ++ fqE nm p r.length (pmL r)) (.exit 0) [(0, qP), (2, pC 1002), (3, pC 1239)] (qd L s ++ fqE nm p r.length (pmL r)) :=
 qE {} 24 3000
theorem fqStopZ (L : List T) (s : RS) (q t : Int) (nm : List UInt8) (p : Int) (r : List Pm) :
    RE 59 (lO 24 6) (fqL false) (qe L s q t ++ fqE nm p r.length (pmL r)) (.exit 0) [(0, qP), (2, pC 1002), (3, pC 1239)] (qe L s q t ++ fqE nm p r.length (pmL r)) :=
 qE {} 24 3000
def PqAt (L : List T) (nm : List UInt8) (p : Int) (s : RS) (r : List Pm) : Res Pm → Prop
 | .ok x s' => Inv L s' ∧ ∀ (b : Bool) (s2 : RS), (HC 44 [qP, .d (.str [44])] (qd L s') [.bool b] (qd L s2)) → RE 59 (lO 24 6) (fqL true) (qd L s ++ fqE nm p r.length (pmL r)) .normal (fqL b) (qd L s2 ++ fqE nm p (r ++ [x]).length (pmL (r ++ [x])))
 | .bad q t _ => (t == 0) = false ∧ ∃ (x : Pm) (s' : RS), RE 59 (lO 24 6) (fqL true) (qd L s ++ fqE nm p r.length (pmL r)) .normal (fqL false) (qe L s' q t ++ fqE nm p (r ++ [x]).length (pmL (r ++ [x])))
 | .out => True
def FqAt (L : List T) (nm : List UInt8) (p : Int) (s : RS) (r : List Pm) (b : Bool) : Res (List Pm) → Prop
 | .ok r2 s' => Inv L s' ∧ RL 59 (lO 24 6) (fqL b) (qd L s ++ fqE nm p r.length (pmL r)) (.exit 0) [(0, qP), (2, pC 1002), (3, pC 1239)] (qd L s' ++ fqE nm p r2.length (pmL r2))
 | .bad q t _ => (t == 0) = false ∧ ∃ (r2 : List Pm) (s' : RS), RL 59 (lO 24 6) (fqL b) (qd L s ++ fqE nm p r.length (pmL r)) (.exit 0) [(0, qP), (2, pC 1002), (3, pC 1239)] (qe L s' q t ++ fqE nm p r2.length (pmL r2))
 | .out => True
noncomputable def fqLH {nm : List UInt8} {p : Int} {r : List Pm} {b : Bool} {hp hp' : List (Nat × Ent)} (h : RL 59 (lO 24 6) (fqL b) (hp ++ fqE nm p r.length (pmL r)) (.exit 0) [(0, qP), (2, pC 1002), (3, pC 1239)] (hp')) : LHint Pg :=
 ⟨59, loopOf Pg 24 6, fqL b, fun _ => hp ++ fqE nm p r.length (pmL r), .exit 0, [(0, qP), (2, pC 1002), (3, pC 1239)], fun _ => hp', fun rest X hP hN => (h rest X hP hN).aw⟩
theorem pm_app (r : List Pm) (x : Pm) : pmL (r ++ [x]) = pmL r ++ [pmD x] ∧ (r ++ [x]).length = r.length + 1 := ⟨by simp [pmL], by simp⟩
section
variable {L : List T} (hL : Toks L) (nm : List UInt8) (p : Int)
include hL
theorem qParam (s : RS) (v : Inv L s) (r : List Pm) (hr : r.length < 1000000) : PqAt L nm p s r (sParam L s) := by
 unfold sParam
 have c1 := qName hL v
 have t1 : ∀ a s', sTake L 1 s = .ok a s' → a = cur L s := fun a s' e => by
  unfold sTake at e
  cases h : ((cur L s).k == 1) <;> rw [h] at e <;> cases e
  rfl
 revert c1 t1
 cases sTake L 1 s with
 | out => exact fun _ _ => trivial
 | bad q t s1 => exact fun ⟨ht, a, s2, c1⟩ _ => ⟨ht, ⟨a.t, 0, (cur L s).p⟩, s2, by rw [(pm_app _ _).1, (pm_app _ _).2]; exact fqB1 hL v nm p r hr ht c1⟩
 | ok a s1 =>
  intro c1 t1
  obtain rfl := t1 a s1 rfl
  have c2 := qSkip hL c1.1 [58]
  simp only [Res.bind]
  revert c2
  cases sWant L [58] s1 with
  | out => exact fun _ => trivial
  | bad q t s2 => exact fun ⟨ht, _, s3, c2⟩ => ⟨ht, ⟨(cur L s).t, 0, (cur L s).p⟩, s3, by rw [(pm_app _ _).1, (pm_app _ _).2]; exact fqB2 hL v nm p r hr ht c1.2 c2⟩
  | ok u s2 =>
   intro c2
   have c3 := qTyped3 hL c2.1
   simp only
   revert c3
   cases sKind L [1, 2, 3] s2 with
   | out => exact fun _ => trivial
   | bad q t s3 => exact fun ⟨ht, ty, s4, c3⟩ => ⟨ht, ⟨(cur L s).t, ty, (cur L s).p⟩, s4, by rw [(pm_app _ _).1, (pm_app _ _).2]; exact fqB3 hL v nm p r hr ht c1.2 c2.2 c3⟩
   | ok ty s3 => exact fun c3 => ⟨c3.1, fun b s4 c4 => by rw [(pm_app _ _).1, (pm_app _ _).2]; exact fqGo0 hL v nm p r hr c1.2 c2.2 c3.2 c4⟩
theorem fqMore : ∀ (n : Nat) (r r0 : List Pm) (s0 s : RS) (x : Pm), Inv L s → r = r0 ++ [x] → r.length ≤ s.i →
    (∀ (b : Bool) (s2 : RS), (HC 44 [qP, .d (.str [44])] (qd L s) [.bool b] (qd L s2)) → RE 59 (lO 24 6) (fqL true) (qd L s0 ++ fqE nm p r0.length (pmL r0)) .normal (fqL b) (qd L s2 ++ fqE nm p r.length (pmL r))) → FqAt L nm p s0 r0 true (sPMore L n r s)
 | 0, _, _, _, _, _, _, _, _, _ => trivial
 | n + 1, r, r0, s0, s, x, v, hr, hl, hgo => by
  simp only [sPMore, sMay]
  cases h : isT L s [44] with
  | false => exact ⟨v, fun rest X hP hN => lw_step (hgo false s (qHasF hL v [44] h) rest X hP hN) (lw_stop (fqStop L s nm p r rest X hP hN) (by simp))⟩
  | true =>
   have hw : sWant L [44] s = .ok (cur L s) s.nx := want_nb rfl h
   have vn := inv_nx hL v h
   have c4 := qHas hL v [44] rfl h
   have hlen : r.length < 1000000 := by have := hL.len; have := v.lt; omega
   simp only [cond_true, hw, Res.bind]
   have c := qParam hL nm p s.nx vn r hlen
   have g := pm_gr L s.nx
   revert c g
   cases sParam L s.nx with
   | out => exact fun _ _ => trivial
   | bad q t s2 => exact fun ⟨ht, y, s3, c⟩ _ => ⟨ht, r ++ [y], s3, fun rest X hP hN => lw_step (hgo true s.nx c4 rest X hP hN) (lw_step (c rest X hP hN) (lw_stop (fqStopZ L s3 q t nm p (r ++ [y]) rest X hP hN) (by simp)))⟩
   | ok y s2 =>
    intro c g
    have g := g y s2 rfl
    have c2 := fqMore n (r ++ [y]) r s.nx s2 y c.1 rfl (by simp only [RS.nx] at g; simp only [List.length_append, List.length_cons, List.length_nil]; omega) c.2
    simp only
    revert c2
    cases sPMore L n (r ++ [y]) s2 with
    | out => exact fun _ => trivial
    | bad q t s3 => exact fun ⟨ht, r2, s4, c2⟩ => ⟨ht, r2, s4, fun rest X hP hN => lw_step (hgo true s.nx c4 rest X hP hN) (c2 rest X hP hN)⟩
    | ok a s3 => exact fun c2 => ⟨c2.1, fun rest X hP hN => lw_step (hgo true s.nx c4 rest X hP hN) (c2.2 rest X hP hN)⟩
theorem fqAll (n : Nat) (s : RS) (v : Inv L s) : FqAt L nm p s [] true ((sParam L s).bind fun x s1 => sPMore L n [x] s1) := by
 have c := qParam hL nm p s v [] (by decide)
 have g := pm_gr L s
 revert c g
 cases sParam L s with
 | out => exact fun _ _ => trivial
 | bad q t s2 => exact fun ⟨ht, y, s3, c⟩ _ => ⟨ht, [y], s3, fun rest X hP hN => lw_step (c rest X hP hN) (lw_stop (fqStopZ L s3 q t nm p [y] rest X hP hN) (by simp))⟩
 | ok y s2 =>
  intro c g
  have g := g y s2 rfl
  exact fqMore hL nm p n [y] [] s s2 y c.1 rfl (by simp only [List.length_cons, List.length_nil]; omega) c.2
end
section
variable {L : List T} {s s1 s2 s3 s4 s5 s6 s7 : RS} (v : Inv L s) {q t : Int} {n1 : List UInt8} {k : Int} {bd : List St'}
include v
theorem fnZ1 (ht : (t == 0) = false) (c1 : HC 41 [qP, .d (.str [102, 110])] (qd L s) [] (qe L s1 q t)) :
    HC 24 [qP] (qd L s) [fnD ⟨[], [], 0, [], (cur L s).p⟩] (qe L s1 q t) :=
 qN { nils := fun f r => if f = 24 then (if r = 4 then some ⟨1239, 1, 400000, 3, false, false⟩ else none) else none, hint := qT 24 [(25, qB ht)], calls := tC [(24, 7, 1118, cOf (qNow v.lt)), (24, 11, 1413, cOf c1), (24, 13, 1472, cOf (zName L s1 q ht)), (24, 16, 1649, cOf (zSkip L s1 q ht [40])), (24, 18, 1708, cOf (zIs L s1 q ht [41])), (24, 49, 2357, cOf (zSkip L s1 q ht [41])), (24, 51, 2416, cOf (zHas L s1 q ht [58])), (24, 56, 2475, cOf (zBlock L s1 q ht))] } 1000
section
variable (ht : (t == 0) = false) (c1 : HC 41 [qP, .d (.str [102, 110])] (qd L s) [] (qd L s1))
include ht c1
theorem fnZ2 (c2 : HC 42 [qP] (qd L s1) [.str n1] (qe L s2 q t)) :
    HC 24 [qP] (qd L s) [fnD ⟨n1, [], 0, [], (cur L s).p⟩] (qe L s2 q t) :=
 qN { nils := fun f r => if f = 24 then (if r = 4 then some ⟨1239, 1, 400000, 3, false, false⟩ else none) else none, hint := qT 24 [(25, qB ht)], calls := tC [(24, 7, 1118, cOf (qNow v.lt)), (24, 11, 1413, cOf c1), (24, 13, 1472, cOf c2), (24, 16, 1649, cOf (zSkip L s2 q ht [40])), (24, 18, 1708, cOf (zIs L s2 q ht [41])), (24, 49, 2357, cOf (zSkip L s2 q ht [41])), (24, 51, 2416, cOf (zHas L s2 q ht [58])), (24, 56, 2475, cOf (zBlock L s2 q ht))] } 1000
theorem fnZ3 (c2 : HC 42 [qP] (qd L s1) [.str n1] (qd L s2)) (c3 : HC 41 [qP, .d (.str [40])] (qd L s2) [] (qe L s3 q t)) :
    HC 24 [qP] (qd L s) [fnD ⟨n1, [], 0, [], (cur L s).p⟩] (qe L s3 q t) :=
 qN { nils := fun f r => if f = 24 then (if r = 4 then some ⟨1239, 1, 400000, 3, false, false⟩ else none) else none, hint := qT 24 [(25, qB ht)], calls := tC [(24, 7, 1118, cOf (qNow v.lt)), (24, 11, 1413, cOf c1), (24, 13, 1472, cOf c2), (24, 16, 1649, cOf c3), (24, 18, 1708, cOf (zIs L s3 q ht [41])), (24, 49, 2357, cOf (zSkip L s3 q ht [41])), (24, 51, 2416, cOf (zHas L s3 q ht [58])), (24, 56, 2475, cOf (zBlock L s3 q ht))] } 1000
theorem fnE1 (c2 : HC 42 [qP] (qd L s1) [.str n1] (qd L s2)) (c3 : HC 41 [qP, .d (.str [40])] (qd L s2) [] (qd L s3)) (l3 : s3.i < L.length) (h41 : isT L s3 [41] = true) (c4 : HC 41 [qP, .d (.str [41])] (qd L s3) [] (qe L s5 q t)) :
    HC 24 [qP] (qd L s) [fnD ⟨n1, [], 0, [], (cur L s).p⟩] (qe L s5 q t) :=
 qN { nils := fun f r => if f = 24 then (if r = 4 then some ⟨1239, 1, 400000, 3, false, false⟩ else none) else none, calls := tC [(24, 7, 1118, cOf (qNow v.lt)), (24, 11, 1413, cOf c1), (24, 13, 1472, cOf c2), (24, 16, 1649, cOf c3), (24, 18, 1708, cOf (qIs l3 [41] h41)), (24, 49, 2062, cOf c4), (24, 51, 2121, cOf (zHas L s5 q ht [58])), (24, 56, 2180, cOf (zBlock L s5 q ht))] } 1000
end
section
variable (c1 : HC 41 [qP, .d (.str [102, 110])] (qd L s) [] (qd L s1)) (c2 : HC 42 [qP] (qd L s1) [.str n1] (qd L s2)) (c3 : HC 41 [qP, .d (.str [40])] (qd L s2) [] (qd L s3)) (l3 : s3.i < L.length) (h41 : isT L s3 [41] = true) (c4 : HC 41 [qP, .d (.str [41])] (qd L s3) [] (qd L s5)) (c5 : HC 44 [qP, .d (.str [58])] (qd L s5) [.bool false] (qd L s5))
include c1 c2 c3 l3 h41 c4 c5
theorem fnEF (c6 : HC 46 [qP] (qd L s5) [.ro (stL bd)] (qd L s7)) :
    HC 24 [qP] (qd L s) [fnD ⟨n1, [], 0, bd, (cur L s).p⟩] (qd L s7) :=
 qN { nils := fun f r => if f = 24 then (if r = 4 then some ⟨1239, 1, 400000, 3, false, false⟩ else none) else none, calls := tC [(24, 7, 1118, cOf (qNow v.lt)), (24, 11, 1413, cOf c1), (24, 13, 1472, cOf c2), (24, 16, 1649, cOf c3), (24, 18, 1708, cOf (qIs l3 [41] h41)), (24, 49, 2062, cOf c4), (24, 51, 2121, cOf c5), (24, 56, 2180, cOf c6)] } 1000
theorem fnEFz (c6 : HC 46 [qP] (qd L s5) [.ro (stL bd)] (qe L s7 q t)) :
    HC 24 [qP] (qd L s) [fnD ⟨n1, [], 0, bd, (cur L s).p⟩] (qe L s7 q t) :=
 qN { nils := fun f r => if f = 24 then (if r = 4 then some ⟨1239, 1, 400000, 3, false, false⟩ else none) else none, calls := tC [(24, 7, 1118, cOf (qNow v.lt)), (24, 11, 1413, cOf c1), (24, 13, 1472, cOf c2), (24, 16, 1649, cOf c3), (24, 18, 1708, cOf (qIs l3 [41] h41)), (24, 49, 2062, cOf c4), (24, 51, 2121, cOf c5), (24, 56, 2180, cOf c6)] } 1000
end
theorem fnEK (ht : (t == 0) = false) (c1 : HC 41 [qP, .d (.str [102, 110])] (qd L s) [] (qd L s1)) (c2 : HC 42 [qP] (qd L s1) [.str n1] (qd L s2)) (c3 : HC 41 [qP, .d (.str [40])] (qd L s2) [] (qd L s3)) (l3 : s3.i < L.length) (h41 : isT L s3 [41] = true) (c4 : HC 41 [qP, .d (.str [41])] (qd L s3) [] (qd L s5)) (c5 : HC 44 [qP, .d (.str [58])] (qd L s5) [.bool true] (qd L s6)) (c6 : HC 45 [qP, dB false] (qd L s6) [.int .u8 k] (qe L s7 q t)) :
    HC 24 [qP] (qd L s) [fnD ⟨n1, [], k, [], (cur L s).p⟩] (qe L s7 q t) :=
 qN { nils := fun f r => if f = 24 then (if r = 4 then some ⟨1239, 1, 400000, 3, false, false⟩ else none) else none, calls := tC [(24, 7, 1118, cOf (qNow v.lt)), (24, 11, 1413, cOf c1), (24, 13, 1472, cOf c2), (24, 16, 1649, cOf c3), (24, 18, 1708, cOf (qIs l3 [41] h41)), (24, 49, 2062, cOf c4), (24, 51, 2121, cOf c5), (24, 53, 2180, cOf c6), (24, 56, 2357, cOf (zBlock L s7 q ht))] } 1000
section
variable (c1 : HC 41 [qP, .d (.str [102, 110])] (qd L s) [] (qd L s1)) (c2 : HC 42 [qP] (qd L s1) [.str n1] (qd L s2)) (c3 : HC 41 [qP, .d (.str [40])] (qd L s2) [] (qd L s3)) (l3 : s3.i < L.length) (h41 : isT L s3 [41] = true) (c4 : HC 41 [qP, .d (.str [41])] (qd L s3) [] (qd L s5)) (c5 : HC 44 [qP, .d (.str [58])] (qd L s5) [.bool true] (qd L s6)) {s8 : RS} (c6 : HC 45 [qP, dB false] (qd L s6) [.int .u8 k] (qd L s7))
include c1 c2 c3 l3 h41 c4 c5 s8 c6
theorem fnET (c7 : HC 46 [qP] (qd L s7) [.ro (stL bd)] (qd L s8)) :
    HC 24 [qP] (qd L s) [fnD ⟨n1, [], k, bd, (cur L s).p⟩] (qd L s8) :=
 qN { nils := fun f r => if f = 24 then (if r = 4 then some ⟨1239, 1, 400000, 3, false, false⟩ else none) else none, calls := tC [(24, 7, 1118, cOf (qNow v.lt)), (24, 11, 1413, cOf c1), (24, 13, 1472, cOf c2), (24, 16, 1649, cOf c3), (24, 18, 1708, cOf (qIs l3 [41] h41)), (24, 49, 2062, cOf c4), (24, 51, 2121, cOf c5), (24, 53, 2180, cOf c6), (24, 56, 2357, cOf c7)] } 1000
theorem fnETz (c7 : HC 46 [qP] (qd L s7) [.ro (stL bd)] (qe L s8 q t)) :
    HC 24 [qP] (qd L s) [fnD ⟨n1, [], k, bd, (cur L s).p⟩] (qe L s8 q t) :=
 qN { nils := fun f r => if f = 24 then (if r = 4 then some ⟨1239, 1, 400000, 3, false, false⟩ else none) else none, calls := tC [(24, 7, 1118, cOf (qNow v.lt)), (24, 11, 1413, cOf c1), (24, 13, 1472, cOf c2), (24, 16, 1649, cOf c3), (24, 18, 1708, cOf (qIs l3 [41] h41)), (24, 49, 2062, cOf c4), (24, 51, 2121, cOf c5), (24, 53, 2180, cOf c6), (24, 56, 2357, cOf c7)] } 1000
end
section
variable (ht : (t == 0) = false) (c1 : HC 41 [qP, .d (.str [102, 110])] (qd L s) [] (qd L s1)) (c2 : HC 42 [qP] (qd L s1) [.str n1] (qd L s2)) (c3 : HC 41 [qP, .d (.str [40])] (qd L s2) [] (qd L s3)) (l3 : s3.i < L.length) (h41 : isT L s3 [41] = false) (r : List Pm)
include ht c1 c2 c3 l3 h41 r
theorem fnL0 (h : RL 59 (lO 24 6) (fqL true) (qd L s3 ++ fqE n1 (cur L s).p ([] : List Pm).length (pmL [])) (.exit 0) [(0, qP), (2, pC 1002), (3, pC 1239)] (qe L s4 q t ++ fqE n1 (cur L s).p r.length (pmL r))) :
    HC 24 [qP] (qd L s) [fnD ⟨n1, r, 0, [], (cur L s).p⟩] (qe L s4 q t) :=
 qN { nils := fun f r => if f = 24 then (if r = 4 then some ⟨1239, 1, 400000, 3, false, false⟩ else none) else none, loops := fun f q => if f = 24 then (if q = 6 then some (fqLH (r := []) h) else none) else none, calls := tC [(24, 7, 1118, cOf (qNow v.lt)), (24, 11, 1413, cOf c1), (24, 13, 1472, cOf c2), (24, 16, 1649, cOf c3), (24, 18, 1708, cOf (qIs l3 [41] h41)), (24, 49, 2298, cOf (zSkip L s4 q ht [41])), (24, 51, 2357, cOf (zHas L s4 q ht [58])), (24, 56, 2416, cOf (zBlock L s4 q ht))] } 1000
theorem fnL1 (h : RL 59 (lO 24 6) (fqL true) (qd L s3 ++ fqE n1 (cur L s).p ([] : List Pm).length (pmL [])) (.exit 0) [(0, qP), (2, pC 1002), (3, pC 1239)] (qd L s4 ++ fqE n1 (cur L s).p r.length (pmL r))) (c4 : HC 41 [qP, .d (.str [41])] (qd L s4) [] (qe L s5 q t)) :
    HC 24 [qP] (qd L s) [fnD ⟨n1, r, 0, [], (cur L s).p⟩] (qe L s5 q t) :=
 qN { nils := fun f r => if f = 24 then (if r = 4 then some ⟨1239, 1, 400000, 3, false, false⟩ else none) else none, loops := fun f q => if f = 24 then (if q = 6 then some (fqLH (r := []) h) else none) else none, calls := tC [(24, 7, 1118, cOf (qNow v.lt)), (24, 11, 1413, cOf c1), (24, 13, 1472, cOf c2), (24, 16, 1649, cOf c3), (24, 18, 1708, cOf (qIs l3 [41] h41)), (24, 49, 2298, cOf c4), (24, 51, 2357, cOf (zHas L s5 q ht [58])), (24, 56, 2416, cOf (zBlock L s5 q ht))] } 1000
end
section
variable (c1 : HC 41 [qP, .d (.str [102, 110])] (qd L s) [] (qd L s1)) (c2 : HC 42 [qP] (qd L s1) [.str n1] (qd L s2)) (c3 : HC 41 [qP, .d (.str [40])] (qd L s2) [] (qd L s3)) (l3 : s3.i < L.length) (h41 : isT L s3 [41] = false) (r : List Pm) (h : RL 59 (lO 24 6) (fqL true) (qd L s3 ++ fqE n1 (cur L s).p ([] : List Pm).length (pmL [])) (.exit 0) [(0, qP), (2, pC 1002), (3, pC 1239)] (qd L s4 ++ fqE n1 (cur L s).p r.length (pmL r))) (c4 : HC 41 [qP, .d (.str [41])] (qd L s4) [] (qd L s5)) (c5 : HC 44 [qP, .d (.str [58])] (qd L s5) [.bool false] (qd L s5))
include c1 c2 c3 l3 h41 r h c4 c5
theorem fnLF (c6 : HC 46 [qP] (qd L s5) [.ro (stL bd)] (qd L s7)) :
    HC 24 [qP] (qd L s) [fnD ⟨n1, r, 0, bd, (cur L s).p⟩] (qd L s7) :=
 qN { nils := fun f r => if f = 24 then (if r = 4 then some ⟨1239, 1, 400000, 3, false, false⟩ else none) else none, loops := fun f q => if f = 24 then (if q = 6 then some (fqLH (r := []) h) else none) else none, calls := tC [(24, 7, 1118, cOf (qNow v.lt)), (24, 11, 1413, cOf c1), (24, 13, 1472, cOf c2), (24, 16, 1649, cOf c3), (24, 18, 1708, cOf (qIs l3 [41] h41)), (24, 49, 2298, cOf c4), (24, 51, 2357, cOf c5), (24, 56, 2416, cOf c6)] } 1000
theorem fnLFz (c6 : HC 46 [qP] (qd L s5) [.ro (stL bd)] (qe L s7 q t)) :
    HC 24 [qP] (qd L s) [fnD ⟨n1, r, 0, bd, (cur L s).p⟩] (qe L s7 q t) :=
 qN { nils := fun f r => if f = 24 then (if r = 4 then some ⟨1239, 1, 400000, 3, false, false⟩ else none) else none, loops := fun f q => if f = 24 then (if q = 6 then some (fqLH (r := []) h) else none) else none, calls := tC [(24, 7, 1118, cOf (qNow v.lt)), (24, 11, 1413, cOf c1), (24, 13, 1472, cOf c2), (24, 16, 1649, cOf c3), (24, 18, 1708, cOf (qIs l3 [41] h41)), (24, 49, 2298, cOf c4), (24, 51, 2357, cOf c5), (24, 56, 2416, cOf c6)] } 1000
end
theorem fnLK (ht : (t == 0) = false) (c1 : HC 41 [qP, .d (.str [102, 110])] (qd L s) [] (qd L s1)) (c2 : HC 42 [qP] (qd L s1) [.str n1] (qd L s2)) (c3 : HC 41 [qP, .d (.str [40])] (qd L s2) [] (qd L s3)) (l3 : s3.i < L.length) (h41 : isT L s3 [41] = false) (r : List Pm) (h : RL 59 (lO 24 6) (fqL true) (qd L s3 ++ fqE n1 (cur L s).p ([] : List Pm).length (pmL [])) (.exit 0) [(0, qP), (2, pC 1002), (3, pC 1239)] (qd L s4 ++ fqE n1 (cur L s).p r.length (pmL r))) (c4 : HC 41 [qP, .d (.str [41])] (qd L s4) [] (qd L s5)) (c5 : HC 44 [qP, .d (.str [58])] (qd L s5) [.bool true] (qd L s6)) (c6 : HC 45 [qP, dB false] (qd L s6) [.int .u8 k] (qe L s7 q t)) :
    HC 24 [qP] (qd L s) [fnD ⟨n1, r, k, [], (cur L s).p⟩] (qe L s7 q t) :=
 qN { nils := fun f r => if f = 24 then (if r = 4 then some ⟨1239, 1, 400000, 3, false, false⟩ else none) else none, loops := fun f q => if f = 24 then (if q = 6 then some (fqLH (r := []) h) else none) else none, calls := tC [(24, 7, 1118, cOf (qNow v.lt)), (24, 11, 1413, cOf c1), (24, 13, 1472, cOf c2), (24, 16, 1649, cOf c3), (24, 18, 1708, cOf (qIs l3 [41] h41)), (24, 49, 2298, cOf c4), (24, 51, 2357, cOf c5), (24, 53, 2416, cOf c6), (24, 56, 2593, cOf (zBlock L s7 q ht))] } 1000
section
variable (c1 : HC 41 [qP, .d (.str [102, 110])] (qd L s) [] (qd L s1)) (c2 : HC 42 [qP] (qd L s1) [.str n1] (qd L s2)) (c3 : HC 41 [qP, .d (.str [40])] (qd L s2) [] (qd L s3)) (l3 : s3.i < L.length) (h41 : isT L s3 [41] = false) (r : List Pm) (h : RL 59 (lO 24 6) (fqL true) (qd L s3 ++ fqE n1 (cur L s).p ([] : List Pm).length (pmL [])) (.exit 0) [(0, qP), (2, pC 1002), (3, pC 1239)] (qd L s4 ++ fqE n1 (cur L s).p r.length (pmL r))) (c4 : HC 41 [qP, .d (.str [41])] (qd L s4) [] (qd L s5)) (c5 : HC 44 [qP, .d (.str [58])] (qd L s5) [.bool true] (qd L s6)) {s8 : RS} (c6 : HC 45 [qP, dB false] (qd L s6) [.int .u8 k] (qd L s7))
include c1 c2 c3 l3 h41 r h c4 c5 s8 c6
theorem fnLT (c7 : HC 46 [qP] (qd L s7) [.ro (stL bd)] (qd L s8)) :
    HC 24 [qP] (qd L s) [fnD ⟨n1, r, k, bd, (cur L s).p⟩] (qd L s8) :=
 qN { nils := fun f r => if f = 24 then (if r = 4 then some ⟨1239, 1, 400000, 3, false, false⟩ else none) else none, loops := fun f q => if f = 24 then (if q = 6 then some (fqLH (r := []) h) else none) else none, calls := tC [(24, 7, 1118, cOf (qNow v.lt)), (24, 11, 1413, cOf c1), (24, 13, 1472, cOf c2), (24, 16, 1649, cOf c3), (24, 18, 1708, cOf (qIs l3 [41] h41)), (24, 49, 2298, cOf c4), (24, 51, 2357, cOf c5), (24, 53, 2416, cOf c6), (24, 56, 2593, cOf c7)] } 1000
theorem fnLTz (c7 : HC 46 [qP] (qd L s7) [.ro (stL bd)] (qe L s8 q t)) :
    HC 24 [qP] (qd L s) [fnD ⟨n1, r, k, bd, (cur L s).p⟩] (qe L s8 q t) :=
 qN { nils := fun f r => if f = 24 then (if r = 4 then some ⟨1239, 1, 400000, 3, false, false⟩ else none) else none, loops := fun f q => if f = 24 then (if q = 6 then some (fqLH (r := []) h) else none) else none, calls := tC [(24, 7, 1118, cOf (qNow v.lt)), (24, 11, 1413, cOf c1), (24, 13, 1472, cOf c2), (24, 16, 1649, cOf c3), (24, 18, 1708, cOf (qIs l3 [41] h41)), (24, 49, 2298, cOf c4), (24, 51, 2357, cOf c5), (24, 53, 2416, cOf c6), (24, 56, 2593, cOf c7)] } 1000
end
end
end Go.Avm
namespace Go.Avm
open Go.Proofs
theorem want_cur {L : List T} {x : List UInt8} {s : RS} {a : T} {s' : RS} (e : sWant L x s = .ok a s') : a = cur L s := by
 unfold sWant at e
 cases h : isT L s x <;> rw [h] at e
 ·cases e
 ·simp only [cond_true] at e
  cases h1 : (x == [40] || x == [91] || x == [123]) <;> rw [h1] at e
  ·simp only [cond_false] at e
   cases h2 : (x == [41] || x == [93] || x == [125]) <;> rw [h2] at e <;> cases e <;> rfl
  ·simp only [cond_true] at e
   cases h2 : decide (200 < w64 (s.op + 1)) <;> rw [h2] at e <;> cases e
   rfl
section
variable {L : List T} (hL : Toks L) {s : RS} (v : Inv L s)
include hL v
theorem fnTail (n : Nat) {nm : List UInt8} {p : Int} {ps : List Pm} {s5 : RS} (v5 : Inv L s5)
    (hF : isT L s5 [58] = false → ∀ bd s7, (HC 46 [qP] (qd L s5) [.ro (stL bd)] (qd L s7)) → (HC 24 [qP] (qd L s) [fnD ⟨nm, ps, 0, bd, p⟩] (qd L s7)))
    (hFz : isT L s5 [58] = false → ∀ bd s7 q t, (HC 46 [qP] (qd L s5) [.ro (stL bd)] (qe L s7 q t)) → (HC 24 [qP] (qd L s) [fnD ⟨nm, ps, 0, bd, p⟩] (qe L s7 q t)))
    (hK : isT L s5 [58] = true → ∀ k s7 q t, (t == 0) = false → (HC 45 [qP, dB false] (qd L s5.nx) [.int .u8 k] (qe L s7 q t)) → (HC 24 [qP] (qd L s) [fnD ⟨nm, ps, k, [], p⟩] (qe L s7 q t)))
    (hT : isT L s5 [58] = true → ∀ k s7 bd s8, (HC 45 [qP, dB false] (qd L s5.nx) [.int .u8 k] (qd L s7)) → (HC 46 [qP] (qd L s7) [.ro (stL bd)] (qd L s8)) → (HC 24 [qP] (qd L s) [fnD ⟨nm, ps, k, bd, p⟩] (qd L s8)))
    (hTz : isT L s5 [58] = true → ∀ k s7 bd s8 q t, (HC 45 [qP, dB false] (qd L s5.nx) [.int .u8 k] (qd L s7)) → (HC 46 [qP] (qd L s7) [.ro (stL bd)] (qe L s8 q t)) → (HC 24 [qP] (qd L s) [fnD ⟨nm, ps, k, bd, p⟩] (qe L s8 q t))) :
    RF L 24 [qP] fR s ((sMay L [58] s5).bind fun b s6 => bif b then (sKind L [1, 2] s6).bind fun k s7 => (sBlock L n s7).bind fun l s8 => .ok ⟨nm, ps, k, l, p⟩ s8 else (sBlock L n s6).bind fun l s7 => .ok ⟨nm, ps, 0, l, p⟩ s7) := by
 rw [may_nb rfl]
 cases h : isT L s5 [58] with
 | false =>
  have cb := (qAll hL n).block s5 v5
  simp only [cond_false, Res.bind]
  revert cb
  cases sBlock L n s5 with
  | out => exact fun _ => trivial
  | bad q t s7 => exact fun ⟨ht, a, s8, c⟩ => ⟨ht, ⟨nm, ps, 0, a, p⟩, s8, hFz h a s8 q t c⟩
  | ok bd s7 => exact fun c => ⟨c.1, hF h bd s7 c.2⟩
 | true =>
  have vn := inv_nx hL v5 h
  have ck := qTyped2 hL vn
  simp only [cond_true, Res.bind]
  revert ck
  cases sKind L [1, 2] s5.nx with
  | out => exact fun _ => trivial
  | bad q t s7 => exact fun ⟨ht, k, s8, c⟩ => ⟨ht, ⟨nm, ps, k, [], p⟩, s8, hK h k s8 q t ht c⟩
  | ok k s7 =>
   intro ck
   have cb := (qAll hL n).block s7 ck.1
   simp only
   revert cb
   cases sBlock L n s7 with
   | out => exact fun _ => trivial
   | bad q t s8 => exact fun ⟨ht, a, s9, c⟩ => ⟨ht, ⟨nm, ps, k, a, p⟩, s9, hTz h k s7 a s9 q t ck.2 c⟩
   | ok bd s8 => exact fun c => ⟨c.1, hT h k s7 bd s8 ck.2 c.2⟩
theorem qFn (n : Nat) : RF L 24 [qP] fR s (sFn L n s) := by
 unfold sFn
 have c1 := qSkip hL v [102, 110]
 have t1 : ∀ a s', sWant L [102, 110] s = .ok a s' → a = cur L s := fun a s' e => want_cur e
 revert c1 t1
 cases sWant L [102, 110] s with
 | out => exact fun _ _ => trivial
 | bad q t s1 => exact fun ⟨ht, _, s2, c⟩ _ => ⟨ht, _, s2, fnZ1 v ht c⟩
 | ok a s1 =>
  intro c1 t1
  obtain rfl := t1 a s1 rfl
  have c2 := qName hL c1.1
  simp only [Res.bind]
  revert c2
  cases sTake L 1 s1 with
  | out => exact fun _ => trivial
  | bad q t s2 => exact fun ⟨ht, u, s3, c2⟩ => ⟨ht, _, s3, fnZ2 v ht c1.2 c2⟩
  | ok u s2 =>
   intro c2
   have c3 := qSkip hL c2.1 [40]
   simp only
   unfold sParams
   revert c3
   cases sWant L [40] s2 with
   | out => exact fun _ => trivial
   | bad q t s3 => exact fun ⟨ht, _, s4, c3⟩ => ⟨ht, _, s4, fnZ3 v ht c1.2 c2.2 c3⟩
   | ok w s3 =>
    intro c3
    have l3 := c3.1.lt
    simp only [Res.bind]
    cases h41 : isT L s3 [41] with
    | true =>
     have c4 := qSkip hL c3.1 [41]
     simp only [cond_true]
     revert c4
     cases sWant L [41] s3 with
     | out => exact fun _ => trivial
     | bad q t s5 => exact fun ⟨ht, _, s6, c4⟩ => ⟨ht, _, s6, fnE1 v ht c1.2 c2.2 c3.2 l3 h41 c4⟩
     | ok w2 s5 =>
      intro c4
      exact fnTail hL v n c4.1 (fun h bd s7 c => fnEF v c1.2 c2.2 c3.2 l3 h41 c4.2 (qHasF hL c4.1 [58] h) c) (fun h bd s7 q t c => fnEFz v c1.2 c2.2 c3.2 l3 h41 c4.2 (qHasF hL c4.1 [58] h) c)
       (fun h k s7 q t ht c => fnEK v ht c1.2 c2.2 c3.2 l3 h41 c4.2 (qHas hL c4.1 [58] rfl h) c) (fun h k s7 bd s8 c c' => fnET v c1.2 c2.2 c3.2 l3 h41 c4.2 (qHas hL c4.1 [58] rfl h) c c') (fun h k s7 bd s8 q t c c' => fnETz v c1.2 c2.2 c3.2 l3 h41 c4.2 (qHas hL c4.1 [58] rfl h) c c')
    | false =>
     have cp := fqAll hL u.t (cur L s).p n s3 c3.1
     simp only [cond_false]
     cases h1 : sParam L s3 with
     | out => trivial
     | bad q t s4 =>
      rw [h1] at cp
      obtain ⟨ht, r, s5, cp⟩ := cp
      exact ⟨ht, _, s5, fnL0 v ht c1.2 c2.2 c3.2 l3 h41 r cp⟩
     | ok x s4 =>
      rw [h1] at cp
      simp only [Res.bind] at cp ⊢
      cases h2 : sPMore L n [x] s4 with
      | out => trivial
      | bad q t s5 =>
       rw [h2] at cp
       obtain ⟨ht, r, s6, cp⟩ := cp
       exact ⟨ht, _, s6, fnL0 v ht c1.2 c2.2 c3.2 l3 h41 r cp⟩
      | ok r s5 =>
       rw [h2] at cp
       obtain ⟨v5, cp⟩ := cp
       have c4 := qSkip hL v5 [41]
       simp only
       revert c4
       cases sWant L [41] s5 with
       | out => exact fun _ => trivial
       | bad q t s6 => exact fun ⟨ht, _, s7, c4⟩ => ⟨ht, _, s7, fnL1 v ht c1.2 c2.2 c3.2 l3 h41 r cp c4⟩
       | ok w2 s6 =>
        intro c4
        exact fnTail hL v n c4.1 (fun h bd s7 c => fnLF v c1.2 c2.2 c3.2 l3 h41 r cp c4.2 (qHasF hL c4.1 [58] h) c) (fun h bd s7 q t c => fnLFz v c1.2 c2.2 c3.2 l3 h41 r cp c4.2 (qHasF hL c4.1 [58] h) c)
         (fun h k s7 q t ht c => fnLK v ht c1.2 c2.2 c3.2 l3 h41 r cp c4.2 (qHas hL c4.1 [58] rfl h) c) (fun h k s7 bd s8 c c' => fnLT v c1.2 c2.2 c3.2 l3 h41 r cp c4.2 (qHas hL c4.1 [58] rfl h) c c') (fun h k s7 bd s8 q t c c' => fnLTz v c1.2 c2.2 c3.2 l3 h41 r cp c4.2 (qHas hL c4.1 [58] rfl h) c c')
end
abbrev pqE (r : List Fn) : List (Nat × Ent) := [(519063, ⟨1, some (.arr 1 [.nils])⟩), (520107, ⟨1, some (.arr 1 [.vec 600000 r.length 5 (r.map fnD)])⟩), (600000, ⟨r.length, none⟩)]
abbrev pqL (b : Bool) : List (Nat × AV) := [(2, pC 519063), (8, qP), (9, pC 520107), (10, dB b)]
abbrev pqX : List (Nat × AV) := [(2, pC 519063), (8, qP), (9, pC 520107)]
def PqFn (L : List T) (s : RS) (r : List Fn) (b : Bool) : Res (List Fn) → Prop
 | .ok r2 s' => RL 61 (lO 10 7) (pqL b) (qd L s ++ pqE r) (.exit 0) pqX (qd L s' ++ pqE r2)
 | .bad q t _ => (t == 0) = false ∧ ∃ (r2 : List Fn) (s' : RS), RL 61 (lO 10 7) (pqL b) (qd L s ++ pqE r) (.exit 0) pqX (qe L s' q t ++ pqE r2)
 | .out => True
section
variable {L : List T} {s : RS} (l : s.i < L.length) (r : List Fn)
include l
theorem pqStop (h : ((cur L s).k == 0) = true) :
    RE 61 (lO 10 7) (pqL false) (qd L s ++ pqE r) (.exit 0) pqX (qd L s ++ pqE r) :=
 qE { hint := qT 10 [(36, hB Pg ((cur L s).k != 0) false (by simpa using h))], calls := tC [(10, 34, 3549, cOf (qNow l))] } 10 3000
section
variable (h : ((cur L s).k == 0) = false) (hr : r.length < 1000000) (nm : List UInt8) (ps : List Pm) (k : Int) (bd : List St') (p : Int) {s2 : RS}
include h hr nm ps k bd p s2
theorem pqGo0 (c : HC 24 [qP] (qd L s) [fnD ⟨nm, ps, k, bd, p⟩] (qd L s2)) :
    RE 61 (lO 10 7) (pqL false) (qd L s ++ pqE r) .normal (pqL false) (qd L s2 ++ [(519063, ⟨1, some (.arr 1 [.nils])⟩), (520107, ⟨1, some (.arr 1 [.vec 600000 (r.length + 1) 5 (r.map fnD ++ [fnD ⟨nm, ps, k, bd, p⟩])])⟩), (600000, ⟨r.length + 1, none⟩)]) :=
 qE { hint := qT 10 [(36, hB Pg ((cur L s).k != 0) true (by simpa using h)), (44, .app (r.map fnD) 1 (by simp only [List.length_map]; omega))], calls := tC [(10, 34, 3549, cOf (qNow l)), (10, 42, 3976, cOf c)] } 10 3000
theorem pqBad0 {q t : Int} (c : HC 24 [qP] (qd L s) [fnD ⟨nm, ps, k, bd, p⟩] (qe L s2 q t)) :
    RE 61 (lO 10 7) (pqL false) (qd L s ++ pqE r) .normal (pqL false) (qe L s2 q t ++ [(519063, ⟨1, some (.arr 1 [.nils])⟩), (520107, ⟨1, some (.arr 1 [.vec 600000 (r.length + 1) 5 (r.map fnD ++ [fnD ⟨nm, ps, k, bd, p⟩])])⟩), (600000, ⟨r.length + 1, none⟩)]) :=
 qE { hint := qT 10 [(36, hB Pg ((cur L s).k != 0) true (by simpa using h)), (44, .app (r.map fnD) 1 (by simp only [List.length_map]; omega))], calls := tC [(10, 34, 3549, cOf (qNow l)), (10, 42, 3976, cOf c)] } 10 3000
end
theorem pqGo1 (hr : r.length < 1000000) (nm : List UInt8) (ps : List Pm) (k : Int) (bd : List St') (p : Int) {s2 : RS} (c : HC 24 [qP] (qd L s) [fnD ⟨nm, ps, k, bd, p⟩] (qd L s2)) :
    RE 61 (lO 10 7) (pqL true) (qd L s ++ pqE r) .normal (pqL false) (qd L s2 ++ [(519063, ⟨1, some (.arr 1 [.nils])⟩), (520107, ⟨1, some (.arr 1 [.vec 600000 (r.length + 1) 5 (r.map fnD ++ [fnD ⟨nm, ps, k, bd, p⟩])])⟩), (600000, ⟨r.length + 1, none⟩)]) :=
 qE { hint := qT 10 [(44, .app (r.map fnD) 1 (by simp only [List.length_map]; omega))], calls := tC [(10, 42, 3793, cOf c)] } 10 3000
theorem pqBad1 (hr : r.length < 1000000) (nm : List UInt8) (ps : List Pm) (k : Int) (bd : List St') (p : Int) {s2 : RS} {q t : Int} (c : HC 24 [qP] (qd L s) [fnD ⟨nm, ps, k, bd, p⟩] (qe L s2 q t)) :
    RE 61 (lO 10 7) (pqL true) (qd L s ++ pqE r) .normal (pqL false) (qe L s2 q t ++ [(519063, ⟨1, some (.arr 1 [.nils])⟩), (520107, ⟨1, some (.arr 1 [.vec 600000 (r.length + 1) 5 (r.map fnD ++ [fnD ⟨nm, ps, k, bd, p⟩])])⟩), (600000, ⟨r.length + 1, none⟩)]) :=
 qE { hint := qT 10 [(44, .app (r.map fnD) 1 (by simp only [List.length_map]; omega))], calls := tC [(10, 42, 3793, cOf c)] } 10 3000
end
section
variable {L : List T} {s : RS} (l : s.i < L.length) (r : List Fn)
include L s l r
theorem pqGo (h : ((cur L s).k == 0) = false) (hr : r.length < 1000000) (x : Fn) {s2 : RS} (c : HC 24 [qP] (qd L s) [fnD x] (qd L s2)) : RE 61 (lO 10 7) (pqL false) (qd L s ++ pqE r) .normal (pqL false) (qd L s2 ++ pqE (r ++ [x])) := by
 obtain ⟨nm, ps, k, bd, p⟩ := x
 have e1 : (r ++ [Fn.mk nm ps k bd p]).length = r.length + 1 := by simp
 have e2 : (r ++ [Fn.mk nm ps k bd p]).map fnD = r.map fnD ++ [fnD ⟨nm, ps, k, bd, p⟩] := by simp
 have := pqGo0 l r h hr nm ps k bd p c
 simp only [pqE, e1, e2]
 exact this
theorem pqBad (h : ((cur L s).k == 0) = false) (hr : r.length < 1000000) (x : Fn) {s2 : RS} {q t : Int} (c : HC 24 [qP] (qd L s) [fnD x] (qe L s2 q t)) : RE 61 (lO 10 7) (pqL false) (qd L s ++ pqE r) .normal (pqL false) (qe L s2 q t ++ pqE (r ++ [x])) := by
 obtain ⟨nm, ps, k, bd, p⟩ := x
 have e1 : (r ++ [Fn.mk nm ps k bd p]).length = r.length + 1 := by simp
 have e2 : (r ++ [Fn.mk nm ps k bd p]).map fnD = r.map fnD ++ [fnD ⟨nm, ps, k, bd, p⟩] := by simp
 have := pqBad0 l r h hr nm ps k bd p c
 simp only [pqE, e1, e2]
 exact this
theorem pqGoF (hr : r.length < 1000000) (x : Fn) {s2 : RS} (c : HC 24 [qP] (qd L s) [fnD x] (qd L s2)) : RE 61 (lO 10 7) (pqL true) (qd L s ++ pqE r) .normal (pqL false) (qd L s2 ++ pqE (r ++ [x])) := by
 obtain ⟨nm, ps, k, bd, p⟩ := x
 have e1 : (r ++ [Fn.mk nm ps k bd p]).length = r.length + 1 := by simp
 have e2 : (r ++ [Fn.mk nm ps k bd p]).map fnD = r.map fnD ++ [fnD ⟨nm, ps, k, bd, p⟩] := by simp
 have := pqGo1 l r hr nm ps k bd p c
 simp only [pqE, e1, e2]
 exact this
theorem pqBadF (hr : r.length < 1000000) (x : Fn) {s2 : RS} {q t : Int} (c : HC 24 [qP] (qd L s) [fnD x] (qe L s2 q t)) : RE 61 (lO 10 7) (pqL true) (qd L s ++ pqE r) .normal (pqL false) (qe L s2 q t ++ pqE (r ++ [x])) := by
 obtain ⟨nm, ps, k, bd, p⟩ := x
 have e1 : (r ++ [Fn.mk nm ps k bd p]).length = r.length + 1 := by simp
 have e2 : (r ++ [Fn.mk nm ps k bd p]).map fnD = r.map fnD ++ [fnD ⟨nm, ps, k, bd, p⟩] := by simp
 have := pqBad1 l r hr nm ps k bd p c
 simp only [pqE, e1, e2]
 exact this
end
theorem pqEnd (L : List T) (s : RS) (q : Int) {t : Int} (ht : (t == 0) = false) (r : List Fn) : RE 61 (lO 10 7) (pqL false) (qe L s q t ++ pqE r) (.exit 0) pqX (qe L s q t ++ pqE r) :=
 qE { hint := qT 10 [(29, qB ht)] } 10 3000
section
variable {L : List T} (hL : Toks L)
include hL
theorem pqAll (N : Nat) : ∀ (n : Nat) (r : List Fn) (s : RS), Inv L s → r.length ≤ s.i → PqFn L s r false (sFns L N n r s)
 | 0, _, _, _, _ => trivial
 | n + 1, r, s, v, hr => by
  have l := v.lt
  have hlen : r.length < 1000000 := by have := hL.len; omega
  simp only [sFns]
  cases h : ((cur L s).k == 0) with
  | true => exact fun rest X hP hN => lw_stop (pqStop l r h rest X hP hN) (by simp)
  | false =>
   have c := qFn hL v N
   have g := fn_gr L N s
   simp only [cond_false]
   revert c g
   cases sFn L N s with
   | out => exact fun _ _ => trivial
   | bad q t s2 => exact fun ⟨ht, x, s3, c⟩ _ => ⟨ht, r ++ [x], s3, fun rest X hP hN => lw_step (pqBad l r h hlen x c rest X hP hN) (lw_stop (pqEnd L s3 q ht (r ++ [x]) rest X hP hN) (by simp))⟩
   | ok x s2 =>
    intro c g
    have g := g x s2 rfl
    have c2 := pqAll N n (r ++ [x]) s2 c.1 (by simp only [List.length_append, List.length_cons, List.length_nil]; omega)
    have hgo := pqGo l r h hlen x c.2
    simp only [Res.bind]
    revert c2
    cases sFns L N n (r ++ [x]) s2 with
    | out => exact fun _ => trivial
    | bad q t s3 => exact fun ⟨ht, r2, s4, c2⟩ => ⟨ht, r2, s4, fun rest X hP hN => lw_step (hgo rest X hP hN) (c2 rest X hP hN)⟩
    | ok a s3 => exact fun c2 rest X hP hN => lw_step (hgo rest X hP hN) (c2 rest X hP hN)
theorem pqProg (n : Nat) (h0 : 0 < L.length) : PqFn L ⟨0, 0, 0⟩ [] true (sProg L n) := by
 unfold sProg
 have v : Inv L ⟨0, 0, 0⟩ := ⟨h0, by decide, by decide⟩
 have c := qFn hL v n
 have g := fn_gr L n ⟨0, 0, 0⟩
 revert c g
 cases sFn L n ⟨0, 0, 0⟩ with
 | out => exact fun _ _ => trivial
 | bad q t s2 => exact fun ⟨ht, x, s3, c⟩ _ => ⟨ht, [] ++ [x], s3, fun rest X hP hN => lw_step (pqBadF h0 [] (by decide) x c rest X hP hN) (lw_stop (pqEnd L s3 q ht ([] ++ [x]) rest X hP hN) (by simp))⟩
 | ok x s2 =>
  intro c g
  have g := g x s2 rfl
  have c2 := pqAll hL n n [x] s2 c.1 (by simp only [List.length_cons, List.length_nil]; omega)
  have hgo := pqGoF h0 [] (by decide) x c.2
  simp only [Res.bind]
  revert c2
  cases sFns L n n [x] s2 with
  | out => exact fun _ => trivial
  | bad q t s3 => exact fun ⟨ht, r2, s4, c2⟩ => ⟨ht, r2, s4, fun rest X hP hN => lw_step (hgo rest X hP hN) (c2 rest X hP hN)⟩
  | ok a s3 => exact fun c2 rest X hP hN => lw_step (hgo rest X hP hN) (c2 rest X hP hN)
end
noncomputable def pqLH {hp' : List (Nat × Ent)} {L : List T} (h : RL 61 (lO 10 7) (pqL true) (qd L ⟨0, 0, 0⟩ ++ pqE []) (.exit 0) pqX (hp')) : LHint Pg :=
 ⟨61, loopOf Pg 10 7, pqL true, fun _ => qd L ⟨0, 0, 0⟩ ++ pqE [], .exit 0, pqX, fun _ => hp', fun rest X hP hN => (h rest X hP hN).aw⟩
section
variable {x : List UInt8} {L : List T}
theorem refE {a e : Int} (he : (e != 0) = true) (hs : Pure Pg 18 [.str x] [.ro [], .int .i64 a, .int .i64 e]) : Pure Pg 10 [.str x] [.agg [.ro []], .int .i64 a, .int .i64 e] :=
 qV { hint := qT 10 [(13, .call 18 _ _ hs), (18, qB he)] } 519061
theorem refB {q t : Int} (ht : (t != 0) = true) {s2 : RS} {r2 : List Fn} (hs : Pure Pg 18 [.str x] [toksD L, .int .i64 0, .int .i64 0]) (h : RL 61 (lO 10 7) (pqL true) (qd L ⟨0, 0, 0⟩ ++ pqE []) (.exit 0) pqX (qe L s2 q t ++ pqE r2)) :
    Pure Pg 10 [.str x] [.agg [.ro []], .int .i64 q, .int .i64 t] :=
 qV { nils := fun f r => if f = 10 then (if r = 6 then some ⟨520107, 0, 600000, 5, false, false⟩ else none) else none, loops := fun f q => if f = 10 then (if q = 7 then some (pqLH h) else none) else none, hint := qT 10 [(13, .call 18 _ _ hs), (50, qB ht)] } 519061
theorem refO {s2 : RS} {r2 : List Fn} (hs : Pure Pg 18 [.str x] [toksD L, .int .i64 0, .int .i64 0]) (h : RL 61 (lO 10 7) (pqL true) (qd L ⟨0, 0, 0⟩ ++ pqE []) (.exit 0) pqX (qd L s2 ++ pqE r2)) :
    Pure Pg 10 [.str x] [.agg [.ro (r2.map fnD)], .int .i64 0, .int .i64 0] :=
 qV { nils := fun f r => if f = 10 then (if r = 6 then some ⟨520107, 0, 600000, 5, false, false⟩ else none) else none, loops := fun f q => if f = 10 then (if q = 7 then some (pqLH h) else none) else none, hint := qT 10 [(13, .call 18 _ _ hs)] } 519061
end
theorem refC {x : List UInt8} {L : List T} (hL : Toks L) (h0 : 0 < L.length) (hs : Pure Pg 18 [.str x] [toksD L, .int .i64 0, .int .i64 0]) (n : Nat) (hn : sProg L n ≠ .out) : Pure Pg 10 [.str x] (prOut (sProg L n)) := by
 have c := pqProg hL n h0
 revert c hn
 cases sProg L n with
 | out => exact fun hn _ => absurd rfl hn
 | bad q t s1 => exact fun _ ⟨ht, r2, s2, c⟩ => refB (by simpa using ht) hs c
 | ok r2 s1 => exact fun _ c => refO hs c
end Go.Avm
namespace Go.Avm
open Go.Proofs
def wl : List (List UInt8) := [[102, 110], [108, 101, 116], [105, 102], [101, 108, 115, 101], [119, 104, 105, 108, 101], [114, 101, 116, 117, 114, 110], [112, 114, 105, 110, 116], [116, 114, 117, 101], [102, 97, 108, 115, 101], [114, 101, 97, 100], [108, 101, 110], [105, 110, 116], [98, 111, 111, 108], [97, 114, 114]]
def wordsE : List (D × D × Nat) := [(.str [102, 110], .agg [], 0), (.str [108, 101, 116], .agg [], 1), (.str [105, 102], .agg [], 2), (.str [101, 108, 115, 101], .agg [], 3), (.str [119, 104, 105, 108, 101], .agg [], 4), (.str [114, 101, 116, 117, 114, 110], .agg [], 5), (.str [112, 114, 105, 110, 116], .agg [], 6), (.str [116, 114, 117, 101], .agg [], 7), (.str [102, 97, 108, 115, 101], .agg [], 8), (.str [114, 101, 97, 100], .agg [], 9), (.str [108, 101, 110], .agg [], 10), (.str [105, 110, 116], .agg [], 11), (.str [98, 111, 111, 108], .agg [], 12), (.str [97, 114, 114], .agg [], 13)]
theorem findD_words (s : List UInt8) : ∀ (l : List (List UInt8)) (es : List (D × D × Nat)) (n : Nat), es.map (fun e => (e.1, e.2.1)) = l.map (fun x => (D.str x, D.agg [])) →
    (∃ i : Nat, l[i]? = some s ∧ (∀ (j : Nat) (x : List UInt8), j < i → l[j]? = some x → (s == x) = false) ∧ findD (.str s) es n = some (some (n + i, .agg []))) ∨ ((∀ (i : Nat) (x : List UInt8), l[i]? = some x → (s == x) = false) ∧ findD (.str s) es n = some none)
 | [], es, n, h => by
  have : es = [] := by simpa using h
  subst this
  exact .inr ⟨fun i x hx => by simp at hx, rfl⟩
 | y :: l, [], n, h => by simp at h
 | y :: l, e :: es, n, h => by
  simp only [List.map_cons, List.cons.injEq, Prod.mk.injEq] at h
  obtain ⟨⟨h1, h2⟩, h3⟩ := h
  have hs : sameD (.str s) e.1 = some (s == y) := by rw [h1]; rfl
  by_cases hy : (s == y) = true
  ·left
   refine ⟨0, by simp [eq_of_beq hy], fun j x hj => by omega, ?_⟩
   simp only [findD, hs, hy, h2, Nat.add_zero]
  ·have hy' : (s == y) = false := by simpa using hy
   rcases findD_words s l es (n + 1) h3 with ⟨i, g1, g2, g3⟩ | ⟨g1, g2⟩
   ·left
    refine ⟨i + 1, by simpa using g1, fun j x hj hx => ?_, ?_⟩
    ·cases j with
     | zero => simp at hx; subst hx; exact hy'
     | succ j => exact g2 j x (by omega) (by simpa using hx)
    ·simp only [findD, hs, hy', g3]
     congr 3
     omega
   ·right
    refine ⟨fun i x hx => ?_, by simp only [findD, hs, hy', g2]⟩
    cases i with
    | zero => simp at hx; subst hx; exact hy'
    | succ i => exact g1 i x (by simpa using hx)
end Go.Avm
namespace Go.Avm
open Go.Proofs
def wd : List D := wl.map .str
theorem wd_get {i : Nat} {x : List UInt8} (h : wl[i]? = some x) : wd[((i : Nat) : Int).toNat]? = some (.str x) := by
 simp [wd, h]
def hEq (P : Program) (s x : List UInt8) (t : Bool) (h : (s == x) = t) : Hint P := .val (dB (s == x)) (dB t) (by rw [h])
def refL (s : List UInt8) (i : Nat) : List (Nat × AV) := [(0, .d (.str s)), (2, dB false), (5, .vec 20 1 1 wd), (6, dN 14), (7, dN i)]
theorem refNext (s x : List UInt8) (i : Nat) (hi : i < 14) (hx : wl[i]? = some x) (he : (s == x) = false) (rest : Heap) (X : Fix) (hP : X.P = Pg) (hN : X.N = 15) :
    AW X (lO 28 2) ⟨envOf (refL s i), ovl [] rest⟩ fun e' S' => e' = .normal ∧ Weak X S' ⟨envOf (refL s (i + 1)), ovl [] rest⟩ :=
 seg okP named { hint := fun f k => if f = 28 then (if k = 8 then some (qL hi) else if k = 9 then some (.idx wd (i : Int) (.str x) (by omega) (wd_get hx)) else if k = 13 then some (hEq Pg s x false he)
  else if k = 14 then some (hSucc Pg i (by omega)) else none) else none } 1000 28 1000 15 (by kernel_rfl) X hP hN
theorem refHit (s x : List UInt8) (i : Nat) (hi : i < 14) (hx : wl[i]? = some x) (he : (s == x) = true) (rest : Heap) (X : Fix) (hP : X.P = Pg) (hN : X.N = 15) :
    AW X (lO 28 2) ⟨envOf (refL s i), ovl [] rest⟩ fun e' S' => e' = .ret ∧ Weak X S' ⟨envOf [(2, dB true)], ovl [] rest⟩ :=
 seg okP named { hint := fun f k => if f = 28 then (if k = 8 then some (qL hi) else if k = 9 then some (.idx wd (i : Int) (.str x) (by omega) (wd_get hx)) else if k = 13 then some (hEq Pg s x true he)
  else none) else none } 1000 28 1000 15 (by kernel_rfl) X hP hN
theorem refEnd (s : List UInt8) (rest : Heap) (X : Fix) (hP : X.P = Pg) (hN : X.N = 15) :
    AW X (lO 28 2) ⟨envOf (refL s 14), ovl [] rest⟩ fun e' S' => e' = .exit 0 ∧ Weak X S' ⟨envOf [(2, dB false)], ovl [] rest⟩ :=
 seg okP named {} 1000 28 1000 15 (by kernel_rfl) X hP hN
theorem refLoopT (s : List UInt8) (i0 : Nat) (h0 : wl[i0]? = some s) (hlt : ∀ (j : Nat) (x : List UInt8), j < i0 → wl[j]? = some x → (s == x) = false) (rest : Heap) (X : Fix) (hP : X.P = Pg) (hN : X.N = 15) :
    AW X (.loop (lO 28 2)) ⟨envOf (refL s 0), ovl [] rest⟩ fun e' S' => e' = .ret ∧ S' = ⟨envOf [(2, dB true)], ovl [] rest⟩ := by
 have hi0 : i0 < 14 := (List.getElem?_eq_some_iff.1 h0).1
 exact loop_of_segs (P := Pg) (N := 15) (c := loopOf Pg 28 2) (refL s) (fun _ _ => []) (fun i => i ≤ i0) (fun i => 14 - i) .ret [(2, dB true)] (fun _ => []) 0 (Nat.zero_le _) (by simp)
  (fun rest i hi => by
   rcases Nat.lt_or_ge i i0 with h | h
   ·obtain ⟨x, hx⟩ : ∃ x, wl[i]? = some x := ⟨_, List.getElem?_eq_getElem (show i < 14 by omega)⟩
    exact .inl ⟨i + 1, h, by omega, fun X hP hN => refNext s x i (by omega) hx (hlt i x h hx) rest X hP hN⟩
   ·have : i = i0 := by omega
    subst this
    exact .inr fun X hP hN => refHit s s i hi0 h0 (by simp) rest X hP hN) rest X hP hN
theorem refLoopF (s : List UInt8) (hno : ∀ (j : Nat) (x : List UInt8), wl[j]? = some x → (s == x) = false) (rest : Heap) (X : Fix) (hP : X.P = Pg) (hN : X.N = 15) :
    AW X (.loop (lO 28 2)) ⟨envOf (refL s 0), ovl [] rest⟩ fun e' S' => e' = .exit 0 ∧ S' = ⟨envOf [(2, dB false)], ovl [] rest⟩ :=
 loop_of_segs (P := Pg) (N := 15) (c := loopOf Pg 28 2) (refL s) (fun _ _ => []) (fun i => i ≤ 14) (fun i => 14 - i) (.exit 0) [(2, dB false)] (fun _ => []) 0 (Nat.zero_le _) (by simp)
  (fun rest i hi => by
   rcases Nat.lt_or_ge i 14 with h | h
   ·obtain ⟨x, hx⟩ : ∃ x, wl[i]? = some x := ⟨_, List.getElem?_eq_getElem (show i < 14 from h)⟩
    exact .inl ⟨i + 1, h, by omega, fun X hP hN => refNext s x i h hx (hno i x hx) rest X hP hN⟩
   ·have : i = 14 := by omega
    subst this
    exact .inr fun X hP hN => refEnd s rest X hP hN) rest X hP hN
noncomputable def refLT (s : List UInt8) (i0 : Nat) (h0 : wl[i0]? = some s) (hlt : ∀ (j : Nat) (x : List UInt8), j < i0 → wl[j]? = some x → (s == x) = false) : LHint Pg := ⟨15, loopOf Pg 28 2, refL s 0, fun _ => [], .ret, [(2, dB true)], fun _ => [], refLoopT s i0 h0 hlt⟩
noncomputable def refLF (s : List UInt8) (hno : ∀ (j : Nat) (x : List UInt8), wl[j]? = some x → (s == x) = false) : LHint Pg := ⟨15, loopOf Pg 28 2, refL s 0, fun _ => [], .exit 0, [(2, dB false)], fun _ => [], refLoopF s hno⟩
theorem refT (s : List UInt8) (i0 : Nat) (h0 : wl[i0]? = some s) (hlt : ∀ (j : Nat) (x : List UInt8), j < i0 → wl[j]? = some x → (s == x) = false) : Pure Pg 28 [.str s] [.bool true] :=
 pure_of_run okP named { loops := fun f r => if f = 28 then (if r = 2 then some (refLT s i0 h0 hlt) else none) else none } 1000 (by kernel_rfl)
theorem refF (s : List UInt8) (hno : ∀ (j : Nat) (x : List UInt8), wl[j]? = some x → (s == x) = false) : Pure Pg 28 [.str s] [.bool false] :=
 pure_of_run okP named { loops := fun f r => if f = 28 then (if r = 2 then some (refLF s hno) else none) else none } 1000 (by kernel_rfl)
end Go.Avm
namespace Go.Avm
open Go.Proofs
abbrev bD (b : UInt8) : D := .int .u8 (b.toNat : Int)
def ge8 (k : Int) (b : UInt8) : Bool := decide (k ≤ (b.toNat : Int))
def le8 (b : UInt8) (k : Int) : Bool := decide ((b.toNat : Int) ≤ k)
def isDig (b : UInt8) : Bool := ge8 48 b && le8 b 57
def isSm (b : UInt8) : Bool := ge8 97 b && le8 b 122
def isNm (b : UInt8) : Bool := isSm b || isDig b
def notNl (b : UInt8) : Bool := ((b.toNat : Int) != 10)
noncomputable def rngPr (f : Nat) (lo hi : Int) (b : UInt8) (t u : Bool) (h1 : ge8 lo b = t) (h2 : le8 b hi = u) : Par Pg :=
 { hint := fun f' k => if f' = f then (if k = 4 then some (hB Pg _ t h1) else if k = 7 then some (hB Pg _ u h2) else none) else none }
theorem digC (b : UInt8) : Pure Pg 54 [bD b] [.bool (isDig b)] := by
 have k : ∀ t u, ge8 48 b = t → le8 b 57 = u → Pure Pg 54 [bD b] [.bool (t && u)] := fun t u h1 h2 => by
  cases t with
  | false => exact pure_of_run okP named (rngPr 54 48 57 b false u h1 h2) 100 (by kernel_rfl)
  | true => exact pure_of_run okP named (rngPr 54 48 57 b true u h1 h2) 100 (by kernel_rfl)
 exact k _ _ rfl rfl
theorem smC (b : UInt8) : Pure Pg 56 [bD b] [.bool (isSm b)] := by
 have k : ∀ t u, ge8 97 b = t → le8 b 122 = u → Pure Pg 56 [bD b] [.bool (t && u)] := fun t u h1 h2 => by
  cases t with
  | false => exact pure_of_run okP named (rngPr 56 97 122 b false u h1 h2) 100 (by kernel_rfl)
  | true => exact pure_of_run okP named (rngPr 56 97 122 b true u h1 h2) 100 (by kernel_rfl)
 exact k _ _ rfl rfl
noncomputable def nmPr (b : UInt8) (t u : Bool) (h1 : Pure Pg 56 [bD b] [.bool t]) (h2 : Pure Pg 54 [bD b] [.bool u]) : Par Pg :=
 { hint := fun f' k => if f' = 57 then (if k = 4 then some (.call 56 [bD b] [.bool t] h1) else if k = 7 then some (.call 54 [bD b] [.bool u] h2) else none) else none }
theorem nmC (b : UInt8) : Pure Pg 57 [bD b] [.bool (isNm b)] := by
 have k : ∀ t u, Pure Pg 56 [bD b] [.bool t] → Pure Pg 54 [bD b] [.bool u] → Pure Pg 57 [bD b] [.bool (t || u)] := fun t u h1 h2 => by
  cases t with
  | false => exact pure_of_run okP named (nmPr b false u h1 h2) 100 (by kernel_rfl)
  | true => exact pure_of_run okP named (nmPr b true u h1 h2) 100 (by kernel_rfl)
 exact k _ _ (smC b) (digC b)
theorem nlC (b : UInt8) : Pure Pg 53 [bD b] [.bool (notNl b)] := pure_of_run okP named {} 100 (by kernel_rfl)
abbrev scP : AV := .ptr 324 1 0 0 1
abbrev scE (c0 c1 c2 c3 : AV) (s : List UInt8) (a v : Nat) (l : List D) : Nat × Ent := (324, ⟨1, some (.arr 1 [c0, c1, c2, c3, .d (.str s), dN a, .vec 1 v 4 l])⟩)
def sub (s : List UInt8) (a e : Nat) : List UInt8 := (s.take e).drop a
section
variable (c0 c1 c2 c3 : AV) (s : List UInt8) (a v : Nat) (l : List D) (f : Nat)
def runL (i : Nat) : List (Nat × AV) := [(0, scP), (1, .fn f []), (5, dN i)]
def runHp : List (Nat × Ent) := [scE c0 c1 c2 c3 s a v l]
section
variable (hf : f = 53 ∨ f = 54 ∨ f = 57) {i : Nat} {b : UInt8} (hi : i < s.length) (hb : s[((i : Nat) : Int).toNat]? = some b)
include hf i b hi hb
theorem runStep (hlen : s.length ≤ 100000) (hp : Pure Pg f [bD b] [.bool true]) (rest : Heap) (X : Fix) (hP : X.P = Pg) (hN : X.N = 39) :
    AW X (lO 52 2) ⟨envOf (runL f i), ovl (runHp c0 c1 c2 c3 s a v l) rest⟩ fun e' S' => e' = .normal ∧ Weak X S' ⟨envOf (runL f (i + 1)), ovl (runHp c0 c1 c2 c3 s a v l) rest⟩ := by
 rcases hf with rfl | rfl | rfl <;> exact seg okP named { hint := fun f' k => if f' = 52 then (if k = 16 then some (qL hi) else if k = 24 then some (.sidx s (i : Int) b (by omega) hb) else if k = 25 then some (.call _ [bD b] [.bool true] hp)
  else if k = 28 then some (hSucc Pg i (by omega)) else none) else none } 1000 52 100000 39 (by kernel_rfl) X hP hN
theorem runStop (hp : Pure Pg f [bD b] [.bool false]) (rest : Heap) (X : Fix) (hP : X.P = Pg) (hN : X.N = 39) :
    AW X (lO 52 2) ⟨envOf (runL f i), ovl (runHp c0 c1 c2 c3 s a v l) rest⟩ fun e' S' => e' = .exit 0 ∧ Weak X S' ⟨envOf [(0, scP), (5, dN i)], ovl (runHp c0 c1 c2 c3 s a v l) rest⟩ :=
 by
 rcases hf with rfl | rfl | rfl <;> exact seg okP named { hint := fun f' k => if f' = 52 then (if k = 16 then some (qL hi) else if k = 24 then some (.sidx s (i : Int) b (by omega) hb) else if k = 25 then some (.call _ [bD b] [.bool false] hp)
  else none) else none } 1000 52 100000 39 (by kernel_rfl) X hP hN
end
theorem runEnd (rest : Heap) (X : Fix) (hP : X.P = Pg) (hN : X.N = 39) :
    AW X (lO 52 2) ⟨envOf (runL f s.length), ovl (runHp c0 c1 c2 c3 s a v l) rest⟩ fun e' S' => e' = .exit 0 ∧ Weak X S' ⟨envOf [(0, scP), (5, dN s.length)], ovl (runHp c0 c1 c2 c3 s a v l) rest⟩ :=
 seg okP named { hint := fun f' k => if f' = 52 then (if k = 16 then some (qG s.length) else none) else none } 1000 52 100000 39 (by kernel_rfl) X hP hN
theorem runLoop (hf : f = 53 ∨ f = 54 ∨ f = 57) (p : UInt8 → Bool) (hp : ∀ b, Pure Pg f [bD b] [.bool (p b)]) (hlen : s.length ≤ 100000) (e : Nat) (hae : a ≤ e) (he : e ≤ s.length) (hall : ∀ i b, a ≤ i → i < e → s[i]? = some b → p b = true) (hend : ∀ b, s[e]? = some b → p b = false)
    (rest : Heap) (X : Fix) (hP : X.P = Pg) (hN : X.N = 39) :
    AW X (.loop (lO 52 2)) ⟨envOf (runL f a), ovl (runHp c0 c1 c2 c3 s a v l) rest⟩ fun e' S' => e' = .exit 0 ∧ S' = ⟨envOf [(0, scP), (5, dN e)], ovl (runHp c0 c1 c2 c3 s a v l) rest⟩ :=
 loop_of_segs (P := Pg) (N := 39) (c := loopOf Pg 52 2) (runL f) (fun _ _ => runHp c0 c1 c2 c3 s a v l) (fun i => a ≤ i ∧ i ≤ e) (fun i => e - i) (.exit 0) [(0, scP), (5, dN e)] (fun _ => runHp c0 c1 c2 c3 s a v l) a ⟨Nat.le_refl _, hae⟩ (by simp)
  (fun rest i hi => by
   rcases Nat.lt_or_ge i e with h | h
   ·have hb := List.getElem?_eq_getElem (l := s) (i := i) (by omega)
    have hpt := hp s[i]
    rw [hall i _ hi.1 h hb] at hpt
    exact .inl ⟨i + 1, ⟨by omega, h⟩, by omega, fun X hP hN => runStep c0 c1 c2 c3 s a v l f hf (by omega) hb hlen hpt rest X hP hN⟩
   ·have : i = e := by omega
    subst this
    rcases Nat.lt_or_ge i s.length with h2 | h2
    ·have hb := List.getElem?_eq_getElem (l := s) (i := i) h2
     have hpt := hp s[i]
     rw [hend _ hb] at hpt
     exact .inr fun X hP hN => runStop c0 c1 c2 c3 s a v l f hf h2 hb hpt rest X hP hN
    ·have : i = s.length := by omega
     subst this
     exact .inr fun X hP hN => runEnd c0 c1 c2 c3 s a v l f rest X hP hN) rest X hP hN
noncomputable def runLH (hf : f = 53 ∨ f = 54 ∨ f = 57) (p : UInt8 → Bool) (hp : ∀ b, Pure Pg f [bD b] [.bool (p b)]) (hlen : s.length ≤ 100000) (e : Nat) (hae : a ≤ e) (he : e ≤ s.length) (hall : ∀ i b, a ≤ i → i < e → s[i]? = some b → p b = true) (hend : ∀ b, s[e]? = some b → p b = false) : LHint Pg :=
 ⟨39, loopOf Pg 52 2, runL f a, fun _ => runHp c0 c1 c2 c3 s a v l, .exit 0, [(0, scP), (5, dN e)], fun _ => runHp c0 c1 c2 c3 s a v l, runLoop c0 c1 c2 c3 s a v l f hf p hp hlen e hae he hall hend⟩
noncomputable def runPr (e : Nat) (H : LHint Pg) (hs : a ≤ e ∧ e ≤ s.length) : Par Pg :=
 { hint := fun f' k => if f' = 52 then (if k = 38 then some (.sub s a e hs) else none) else none
   loops := fun f' r => if f' = 52 then (if r = 2 then some H else none) else none }
theorem runC (hf : f = 53 ∨ f = 54 ∨ f = 57) (p : UInt8 → Bool) (hp : ∀ b, Pure Pg f [bD b] [.bool (p b)]) (hlen : s.length ≤ 100000) (e : Nat) (hae : a ≤ e) (he : e ≤ s.length) (hall : ∀ i b, a ≤ i → i < e → s[i]? = some b → p b = true) (hend : ∀ b, s[e]? = some b → p b = false) (rest : Heap) :
    HCall Pg 52 [scP, .fn f []] (ovl (runHp c0 c1 c2 c3 s a v l) rest) [.d (.str (sub s a e))] (ovl (runHp c0 c1 c2 c3 s a v l) rest) :=
 hcall_of_run okP named (runPr s a e (runLH c0 c1 c2 c3 s a v l f hf p hp hlen e hae he hall hend) ⟨hae, he⟩) 1000 100000 52 (by kernel_rfl)
end
end Go.Avm
namespace Go.Avm
open Go.Proofs
def wsp (b : UInt8) : Bool := b == 32 || b == 9 || b == 10 || b == 13
def skipN : Bool → List UInt8 → Nat
 | _, [] => 0
 | true, b :: r => 1 + skipN (notNl b) r
 | false, b :: r => if wsp b then 1 + skipN false r else if b == 35 then 1 + skipN true r else 0
theorem skipN_le : ∀ (c : Bool) (l : List UInt8), skipN c l ≤ l.length
 | _, [] => by simp [skipN]
 | true, b :: r => by
  have := skipN_le (notNl b) r
  simp only [skipN, List.length_cons]; omega
 | false, b :: r => by
  have h1 := skipN_le false r
  have h2 := skipN_le true r
  simp only [skipN, List.length_cons]
  split
  ·omega
  ·split <;> omega
def runN (p : UInt8 → Bool) (l : List UInt8) : Nat := (l.takeWhile p).length
theorem notNl_iff (b : UInt8) : notNl b = (b != 10) := by
 by_cases h : b = 10
 ·subst h; rfl
 ·have h1 : (b != 10) = true := by simpa using h
  have h2 : notNl b = true := by
   simp only [notNl, bne_iff_ne, ne_eq]
   intro hx
   apply h
   apply UInt8.toNat_inj.1
   have : (b.toNat : Int) = ((10 : Nat) : Int) := hx
   exact Int.ofNat.inj this
  rw [h1, h2]
theorem skipN_true : ∀ (l : List UInt8), skipN true l = runN notNl l + skipN false (l.drop (runN notNl l))
 | [] => rfl
 | b :: r => by
  have ih := skipN_true r
  cases hb : notNl b with
  | true =>
   simp only [skipN, hb, runN, List.takeWhile_cons, if_true, List.length_cons, List.drop_succ_cons] at ih ⊢
   rw [ih]; omega
  | false =>
   have h10 : b = 10 := by
    rw [notNl_iff] at hb
    simpa using hb
   subst h10
   simp [skipN, hb, runN, wsp]
theorem runN_spec (p : UInt8 → Bool) (s : List UInt8) (a : Nat) (ha : a ≤ s.length) : a + runN p (s.drop a) ≤ s.length ∧ (∀ i b, a ≤ i → i < a + runN p (s.drop a) → s[i]? = some b → p b = true) ∧ ∀ b, s[a + runN p (s.drop a)]? = some b → p b = false := by
 have hle : runN p (s.drop a) ≤ (s.drop a).length := by
  unfold runN
  exact (List.takeWhile_sublist p).length_le
 have key : ∀ (l : List UInt8), (∀ i b, i < runN p l → l[i]? = some b → p b = true) ∧ ∀ b, l[runN p l]? = some b → p b = false := by
  intro l
  induction l with
  | nil => exact ⟨fun i b _ h => by simp at h, fun b h => by simp at h⟩
  | cons x r ih =>
   cases hx : p x with
   | false => simp [runN, List.takeWhile_cons, hx]
   | true =>
    have he : runN p (x :: r) = runN p r + 1 := by simp [runN, List.takeWhile_cons, hx]
    rw [he]
    refine ⟨fun i b hi hb => ?_, fun b hb => ?_⟩
    ·cases i with
     | zero => simp at hb; subst hb; exact hx
     | succ i => exact ih.1 i b (by omega) (by simpa using hb)
    ·exact ih.2 b (by simpa using hb)
 refine ⟨by simp at hle; omega, fun i b h1 h2 hb => ?_, fun b hb => ?_⟩
 ·obtain ⟨j, rfl⟩ : ∃ j, i = a + j := ⟨i - a, by omega⟩
  exact (key (s.drop a)).1 j b (by omega) (by rw [List.getElem?_drop]; exact hb)
 ·exact (key (s.drop a)).2 b (by rw [List.getElem?_drop]; exact hb)
theorem sub_len (s : List UInt8) (a e : Nat) (h : a ≤ e) (he : e ≤ s.length) : (sub s a e).length = e - a := by
 unfold sub
 rw [List.length_drop, List.length_take]
 omega
section
variable (c0 c1 c2 c3 : AV) (s : List UInt8) (a v : Nat) (l : List D)
noncomputable def runCH (f : Nat) (hf : f = 53 ∨ f = 54 ∨ f = 57) (p : UInt8 → Bool) (hp : ∀ b, Pure Pg f [bD b] [.bool (p b)]) (hlen : s.length ≤ 100000) (ha : a ≤ s.length) : CHint Pg :=
 ⟨52, [scP, .fn f []], runHp c0 c1 c2 c3 s a v l, [.d (.str (sub s a (a + runN p (s.drop a))))], [],
  fits_ro rfl (runC c0 c1 c2 c3 s a v l f hf p hp hlen _ (Nat.le_add_right _ _) (runN_spec p s a ha).1 (runN_spec p s a ha).2.1 (runN_spec p s a ha).2.2)⟩
def hLen (P : Program) (s : List UInt8) (a e : Nat) (h : a ≤ e) (he : e ≤ s.length) (hlen : s.length ≤ 100000) : Hint P := .val (dI (IntKind.i64.wrap ((a : Int) + ((sub s a e).length : Int)))) (dN e) (by
 congr 2
 rw [sub_len s a e h he, IntWalk.i64_in _ (by omega)]
 omega)
theorem blankWs {b : UInt8} (hw : b = 32 ∨ b = 9 ∨ b = 10 ∨ b = 13) (ha : a < s.length) (hb : s[((a : Nat) : Int).toNat]? = some b) (hlen : s.length ≤ 100000) (rest : Heap) (X : Fix) (hP : X.P = Pg) (hN : X.N = 45) :
    AW X (lO 31 0) ⟨envOf [(0, scP)], ovl (runHp c0 c1 c2 c3 s a v l) rest⟩ fun e' S' => e' = .normal ∧ Weak X S' ⟨envOf [(0, scP)], ovl (runHp c0 c1 c2 c3 s (a + 1) v l) rest⟩ := by
 rcases hw with rfl | rfl | rfl | rfl <;> exact seg okP named { hint := fun f' k => if f' = 31 then (if k = 11 then some (qL ha) else if k = 20 then some (.sidx s (a : Int) _ (by omega) hb)
  else if k = 30 then some (hSucc Pg a (by omega)) else none) else none } 1000 31 110000 45 (by kernel_rfl) X hP hN
theorem blankRem (ha : a < s.length) (hb : s[((a : Nat) : Int).toNat]? = some 35) (hlen : s.length ≤ 100000) (rest : Heap) (X : Fix) (hP : X.P = Pg) (hN : X.N = 45) :
    AW X (lO 31 0) ⟨envOf [(0, scP)], ovl (runHp c0 c1 c2 c3 s a v l) rest⟩ fun e' S' => e' = .normal ∧ Weak X S' ⟨envOf [(0, scP)], ovl (runHp c0 c1 c2 c3 s (a + runN notNl (s.drop a)) v l) rest⟩ :=
 seg okP named { hint := fun f' k => if f' = 31 then (if k = 11 then some (qL ha) else if k = 20 then some (.sidx s (a : Int) _ (by omega) hb)
  else if k = 42 then some (hLen Pg s a _ (Nat.le_add_right _ _) (runN_spec notNl s a (by omega)).1 hlen) else none) else none
                 calls := fun f' k _ => if f' = 31 then (if k = 40 then some (runCH c0 c1 c2 c3 s a v l 53 (by simp) notNl nlC hlen (by omega)) else none) else none } 1000 31 110000 45 (by kernel_rfl) X hP hN
theorem blankEnd (rest : Heap) (X : Fix) (hP : X.P = Pg) (hN : X.N = 45) :
    AW X (lO 31 0) ⟨envOf [(0, scP)], ovl (runHp c0 c1 c2 c3 s s.length v l) rest⟩ fun e' S' => e' = .exit 0 ∧ Weak X S' ⟨envOf [(0, scP)], ovl (runHp c0 c1 c2 c3 s s.length v l) rest⟩ :=
 seg okP named { hint := fun f' k => if f' = 31 then (if k = 11 then some (qG s.length) else none) else none } 1000 31 110000 45 (by kernel_rfl) X hP hN
def hNe (P : Program) (b : UInt8) (k : Nat) (h : b.toNat ≠ k) : Hint P := hB P ((b.toNat : Int) == (k : Int)) false (by simp only [beq_eq_false_iff_ne, ne_eq]; omega)
theorem blankOther {b : UInt8} (h1 : b.toNat ≠ 32) (h2 : b.toNat ≠ 9) (h3 : b.toNat ≠ 10) (h4 : b.toNat ≠ 13) (h5 : b.toNat ≠ 35) (ha : a < s.length) (hb : s[((a : Nat) : Int).toNat]? = some b) (rest : Heap) (X : Fix) (hP : X.P = Pg) (hN : X.N = 45) :
    AW X (lO 31 0) ⟨envOf [(0, scP)], ovl (runHp c0 c1 c2 c3 s a v l) rest⟩ fun e' S' => e' = .ret ∧ Weak X S' ⟨envOf [(0, scP)], ovl (runHp c0 c1 c2 c3 s a v l) rest⟩ :=
 seg okP named { hint := fun f' k => if f' = 31 then (if k = 11 then some (qL ha) else if k = 20 then some (.sidx s (a : Int) _ (by omega) hb)
  else if k = 22 then some (hNe Pg b 32 h1) else if k = 23 then some (hNe Pg b 9 h2) else if k = 24 then some (hNe Pg b 10 h3) else if k = 25 then some (hNe Pg b 13 h4) else if k = 34 then some (hNe Pg b 35 h5) else none) else none } 1000 31 110000 45 (by kernel_rfl) X hP hN
def blankTo (a : Nat) : Nat := a + skipN false (s.drop a)
theorem wsp_cases {b : UInt8} (h : wsp b = true) : b = 32 ∨ b = 9 ∨ b = 10 ∨ b = 13 := by
 simp only [wsp, Bool.or_eq_true, beq_iff_eq] at h
 rcases h with ((h | h) | h) | h
 ·exact .inl h
 ·exact .inr (.inl h)
 ·exact .inr (.inr (.inl h))
 ·exact .inr (.inr (.inr h))
theorem ne_nat {b : UInt8} {k : Nat} (hk : k < 256) (h : b ≠ UInt8.ofNat k) : b.toNat ≠ k := fun hx => h (by
 apply UInt8.toNat_inj.1
 rw [hx]
 simp [UInt8.toNat_ofNat']
 omega)
theorem blank_cases (x : Nat) (hx : x < s.length) : ∃ b, s[((x : Nat) : Int).toNat]? = some b ∧
    ((b = 32 ∨ b = 9 ∨ b = 10 ∨ b = 13) ∧ blankTo s (x + 1) = blankTo s x ∨ b = 35 ∧ blankTo s (x + runN notNl (s.drop x)) = blankTo s x ∧ 0 < runN notNl (s.drop x) ∨
     (b.toNat ≠ 32 ∧ b.toNat ≠ 9 ∧ b.toNat ≠ 10 ∧ b.toNat ≠ 13 ∧ b.toNat ≠ 35) ∧ blankTo s x = x) := by
 have hd : s.drop x = s[x] :: s.drop (x + 1) := List.drop_eq_getElem_cons hx
 refine ⟨s[x], by simp [hx], ?_⟩
 unfold blankTo
 cases hw : wsp s[x] with
 | true =>
  refine .inl ⟨wsp_cases hw, ?_⟩
  rw [hd]
  simp only [skipN, hw, if_true]
  omega
 | false =>
  by_cases h35 : s[x] = 35
  ·refine .inr (.inl ⟨h35, ?_, ?_⟩)
   ·have ht := skipN_true (s.drop (x + 1))
    have hr : runN notNl (s.drop x) = runN notNl (s.drop (x + 1)) + 1 := by
     rw [hd, h35]
     simp [runN, List.takeWhile_cons, show notNl 35 = true from rfl]
    have h2 : skipN false (s.drop x) = 1 + skipN true (s.drop (x + 1)) := by
     rw [hd]
     simp only [skipN, hw, h35]
     rfl
    rw [h2, ht, hr, List.drop_drop]
    have : x + (runN notNl (s.drop (x + 1)) + 1) = x + 1 + runN notNl (s.drop (x + 1)) := by omega
    rw [this]; omega
   ·rw [hd, h35]
    simp [runN, List.takeWhile_cons, show notNl 35 = true from rfl]
  ·refine .inr (.inr ⟨?_, ?_⟩)
   ·simp only [wsp, Bool.or_eq_false_iff, beq_eq_false_iff_ne] at hw
    exact ⟨ne_nat (by omega) hw.1.1.1, ne_nat (by omega) hw.1.1.2, ne_nat (by omega) hw.1.2, ne_nat (by omega) hw.2, ne_nat (by omega) h35⟩
   ·rw [hd]
    have : (s[x] == 35) = false := by simpa using h35
    simp only [skipN, hw, this]
    rfl
theorem blankTo_le (a : Nat) (ha : a ≤ s.length) : a ≤ blankTo s a ∧ blankTo s a ≤ s.length := by
 have := skipN_le false (s.drop a)
 rw [List.length_drop] at this
 unfold blankTo
 omega
def blankE : AExit := if blankTo s a = s.length then .exit 0 else .ret
theorem blankLoop (ha : a ≤ s.length) (hlen : s.length ≤ 100000) (e : AExit) (he : e = blankE s a) (rest : Heap) (X : Fix) (hP : X.P = Pg) (hN : X.N = 45) :
    AW X (.loop (lO 31 0)) ⟨envOf [(0, scP)], ovl (runHp c0 c1 c2 c3 s a v l) rest⟩ fun e' S' => e' = e ∧ S' = ⟨envOf [(0, scP)], ovl (runHp c0 c1 c2 c3 s (blankTo s a) v l) rest⟩ :=
 loop_of_segs (P := Pg) (N := 45) (c := loopOf Pg 31 0) (fun _ => [(0, scP)]) (fun x _ => runHp c0 c1 c2 c3 s x v l) (fun x => x ≤ s.length ∧ blankTo s x = blankTo s a) (fun x => s.length - x) e [(0, scP)] (fun _ => runHp c0 c1 c2 c3 s (blankTo s a) v l) a ⟨ha, rfl⟩
  (by rw [he]; unfold blankE; split <;> simp)
  (fun rest x hx => by
   rcases Nat.lt_or_ge x s.length with h | h
   ·obtain ⟨b, hb, ⟨hw, h2⟩ | ⟨rfl, h2, h3⟩ | ⟨⟨n1, n2, n3, n4, n5⟩, h2⟩⟩ := blank_cases s x h
    ·exact .inl ⟨x + 1, ⟨by omega, by rw [h2]; exact hx.2⟩, by omega, fun X hP hN => blankWs c0 c1 c2 c3 s x v l hw h hb hlen rest X hP hN⟩
    ·exact .inl ⟨x + runN notNl (s.drop x), ⟨(runN_spec notNl s x hx.1).1, by rw [h2]; exact hx.2⟩, by omega, fun X hP hN => blankRem c0 c1 c2 c3 s x v l h hb hlen rest X hP hN⟩
    ·have hxe : blankTo s a = x := by rw [← hx.2, h2]
     have : e = .ret := by rw [he]; unfold blankE; rw [if_neg (by omega)]
     rw [hxe, this]
     exact .inr fun X hP hN => blankOther c0 c1 c2 c3 s x v l n1 n2 n3 n4 n5 h hb rest X hP hN
   ·have hxe : x = s.length := by omega
    have hb := blankTo_le s x hx.1
    rw [hx.2] at hb
    have hbe : blankTo s a = s.length := by omega
    have : e = .exit 0 := by rw [he]; unfold blankE; rw [if_pos hbe]
    rw [hbe, this, hxe]
    exact .inr fun X hP hN => blankEnd c0 c1 c2 c3 s v l rest X hP hN) rest X hP hN
noncomputable def blankLH (ha : a ≤ s.length) (hlen : s.length ≤ 100000) (e : AExit) (he : e = blankE s a) : LHint Pg :=
 ⟨45, loopOf Pg 31 0, [(0, scP)], fun _ => runHp c0 c1 c2 c3 s a v l, e, [(0, scP)], fun _ => runHp c0 c1 c2 c3 s (blankTo s a) v l, blankLoop c0 c1 c2 c3 s a v l ha hlen e he⟩
theorem blankC (ha : a ≤ s.length) (hlen : s.length ≤ 100000) (rest : Heap) : HCall Pg 31 [scP] (ovl (runHp c0 c1 c2 c3 s a v l) rest) [] (ovl (runHp c0 c1 c2 c3 s (blankTo s a) v l) rest) := by
 have key : ∀ e, e = blankE s a → (e = .exit 0 ∨ e = .ret) → HCall Pg 31 [scP] (ovl (runHp c0 c1 c2 c3 s a v l) rest) [] (ovl (runHp c0 c1 c2 c3 s (blankTo s a) v l) rest) := by
  rintro e he (rfl | rfl)
  ·exact hcall_of_run okP named { loops := fun f' r => if f' = 31 then (if r = 0 then some (blankLH c0 c1 c2 c3 s a v l ha hlen _ he) else none) else none } 1000 110000 31 (by kernel_rfl)
  ·exact hcall_of_run okP named { loops := fun f' r => if f' = 31 then (if r = 0 then some (blankLH c0 c1 c2 c3 s a v l ha hlen _ he) else none) else none } 1000 110000 31 (by kernel_rfl)
 refine key _ rfl ?_
 unfold blankE
 split
 ·exact .inl rfl
 ·exact .inr rfl
noncomputable def blankCH (ha : a ≤ s.length) (hlen : s.length ≤ 100000) : CHint Pg :=
 ⟨31, [scP], runHp c0 c1 c2 c3 s a v l, [], runHp c0 c1 c2 c3 s (blankTo s a) v l, fits_of (blankC c0 c1 c2 c3 s a v l ha hlen)⟩
end
end Go.Avm
namespace Go.Avm
open Go.Proofs
abbrev tokD (kind : Int) (a : Nat) (t : List UInt8) (n : Int) : D := .agg [.int .u8 kind, .int .i64 (a : Int), .str t, .int .i64 n]
def stE (w : Bool) (s : List UInt8) (a v m : Nat) (l : List D) : List (Nat × Ent) := match w with
 | false => [scE (.d (.int .u32 0)) (.d (.int .i32 0)) (.d (.int .u32 0)) .junk s a v l, (1, ⟨v, none⟩), (120463, ⟨v, none⟩), (200002, ⟨0, none⟩), (200156, ⟨0, none⟩), (204135, ⟨0, none⟩), (210002, ⟨m, none⟩), (210335, ⟨m, none⟩)]
 | true => [scE (.d (.int .u32 1)) (.d (.int .i32 0)) (.d (.int .u32 0)) (.mp 200156 1) s a v l, (1, ⟨v, none⟩), (120463, ⟨v, none⟩), (200002, ⟨1, none⟩), (200156, ⟨1, some (.map wordsE 14)⟩), (204135, ⟨1, none⟩), (210002, ⟨m, none⟩), (210335, ⟨m, none⟩)]
def hAdd (P : Program) (a k : Nat) (h : a + k ≤ 1099511627776) : Hint P := .val (dI (IntKind.i64.wrap ((a : Int) + (k : Int)))) (dN (a + k)) (by
 congr 2
 rw [IntWalk.i64_in _ (by omega)]
 omega)
section
variable (w : Bool) (s : List UInt8) (a v m : Nat) (l : List D)
noncomputable def putPr (t : List UInt8) (hl : l.length + 1 ≤ 549755813888) (ht : a + t.length ≤ 1099511627776) : Par Pg :=
 { hint := fun f' k => if f' = 33 then (if k = 22 then some (.app l 1 hl) else if k = 31 then some (hAdd Pg a t.length ht) else none) else none }
theorem putC (kd n : Int) (t : List UInt8) (hl : l.length + 1 ≤ 549755813888) (ht : a + t.length ≤ 1099511627776) (rest : Heap) :
    HCall Pg 33 [scP, .d (.int .u8 kd), .d (.str t), .d (.int .i64 n)] (ovl (stE w s a v m l) rest) [] (ovl (stE w s (a + t.length) (v + 1) m (l ++ [tokD kd a t n])) rest) := by
 cases w <;> exact hcall_of_run okP named (putPr a l t hl ht) 1000 120000 33 (by kernel_rfl)
noncomputable def putCH (kd n : Int) (t : List UInt8) (hl : l.length + 1 ≤ 549755813888) (ht : a + t.length ≤ 1099511627776) : CHint Pg :=
 ⟨33, [scP, .d (.int .u8 kd), .d (.str t), .d (.int .i64 n)], stE w s a v m l, [], stE w s (a + t.length) (v + 1) m (l ++ [tokD kd a t n]), fits_of (putC w s a v m l kd n t hl ht)⟩
noncomputable def hasPr (t : List UInt8) (r : Option (Nat × D)) (h : findD (.str t) wordsE 0 = some r) : Par Pg := { hint := fun f k => if f = 58 then (if k = 18 then some (.look (.str t) wordsE r h) else none) else none }
def mNext (w : Bool) (m : Nat) : Nat := match w with
 | false => m
 | true => m + 1
set_option maxRecDepth 100000 in
theorem hasF (t : List UInt8) (h : findD (.str t) wordsE 0 = some none) (rest : Heap) : HCall Pg 58 [scP, .d (.str t)] (ovl (stE w s a v m l) rest) [dB false] (ovl (stE true s a v (mNext w m) l) rest) := by
 cases w
 ·exact hcall_of_run okP named (hasPr t _ h) 1000 200000 58 (by kernel_rfl)
 ·exact hcall_of_run okP named (hasPr t _ h) 1000 210000 58 (by kernel_rfl)
set_option maxRecDepth 100000 in
theorem hasT (t : List UInt8) (i : Nat) (h : findD (.str t) wordsE 0 = some (some (i, .agg []))) (rest : Heap) : HCall Pg 58 [scP, .d (.str t)] (ovl (stE w s a v m l) rest) [dB true] (ovl (stE true s a v (mNext w m) l) rest) := by
 cases w
 ·exact hcall_of_run okP named (hasPr t _ h) 1000 200000 58 (by kernel_rfl)
 ·exact hcall_of_run okP named (hasPr t _ h) 1000 210000 58 (by kernel_rfl)
def isWord (t : List UInt8) : Bool := wl.contains t
theorem hasC (t : List UInt8) (rest : Heap) : HCall Pg 58 [scP, .d (.str t)] (ovl (stE w s a v m l) rest) [dB (isWord t)] (ovl (stE true s a v (mNext w m) l) rest) := by
 rcases findD_words t wl wordsE 0 rfl with ⟨i, g1, g2, g3⟩ | ⟨g1, g2⟩
 ·have : isWord t = true := by
    simp only [isWord, List.contains_eq_mem, decide_eq_true_eq]
    exact List.mem_of_getElem? g1
  rw [this]
  exact hasT w s a v m l t (0 + i) g3 rest
 ·have : isWord t = false := by
    simp only [isWord, List.contains_eq_mem, decide_eq_false_iff_not]
    intro hm
    obtain ⟨i, hi⟩ := List.getElem?_of_mem hm
    have := g1 i t hi
    simp at this
  rw [this]
  exact hasF w s a v m l t g2 rest
noncomputable def hasCH (t : List UInt8) (u : Bool) (hu : isWord t = u) : CHint Pg :=
 ⟨58, [scP, .d (.str t)], stE w s a v m l, [dB u], stE true s a v (mNext w m) l, fits_of (by subst hu; exact hasC w s a v m l t)⟩
noncomputable def runSt (f : Nat) (hf : f = 53 ∨ f = 54 ∨ f = 57) (p : UInt8 → Bool) (hp : ∀ b, Pure Pg f [bD b] [.bool (p b)]) (hlen : s.length ≤ 100000) (ha : a ≤ s.length) : CHint Pg :=
 match w with
 | false => runCH (.d (.int .u32 0)) (.d (.int .i32 0)) (.d (.int .u32 0)) .junk s a v l f hf p hp hlen ha
 | true => runCH (.d (.int .u32 1)) (.d (.int .i32 0)) (.d (.int .u32 0)) (.mp 200156 1) s a v l f hf p hp hlen ha
noncomputable def blankSt (hlen : s.length ≤ 100000) (ha : a ≤ s.length) : CHint Pg :=
 match w with
 | false => blankCH (.d (.int .u32 0)) (.d (.int .i32 0)) (.d (.int .u32 0)) .junk s a v l ha hlen
 | true => blankCH (.d (.int .u32 1)) (.d (.int .i32 0)) (.d (.int .u32 0)) (.mp 200156 1) s a v l ha hlen
end
end Go.Avm
namespace Go.Avm
open Go.Proofs
def nmT (s : List UInt8) (a : Nat) : List UInt8 := sub s a (a + runN isNm (s.drop a))
section
variable (w : Bool) (s : List UInt8) (a v m : Nat) (l : List D)
noncomputable def nextPr (b : UInt8) (ha : a < s.length) (hb : s[((a : Nat) : Int).toNat]? = some b) (hlen : s.length ≤ 100000) (h1 : isDig b = false) (h2 : isSm b = true) (u : Bool) (hu : isWord (nmT s a) = u) (g : Bool) (hg : decide (12 < ((nmT s a).length : Int)) = g)
    (hl : l.length + 1 ≤ 549755813888) (ht : a + (nmT s a).length ≤ 1099511627776) : Par Pg :=
 { hint := fun f' k => if f' = 32 then (if k = 14 then some (.sidx s (a : Int) b (by omega) hb) else if k = 17 then some (.call 54 [bD b] [.bool false] (h1 ▸ digC b)) else if k = 22 then some (.call 56 [bD b] [.bool true] (h2 ▸ smC b))
     else if k = 40 then some (hB Pg _ g hg) else none) else none
   calls := fun f' k _ => if f' = 32 then (if k = 24 then some (runSt w s a v l 57 (by simp) isNm nmC hlen (by omega)) else if k = 33 then some (hasCH w s a v m l (nmT s a) u hu)
    else if k = 36 then some (putCH true s a v (mNext w m) l 2 0 (nmT s a) hl ht) else if k = 27 then some (putCH true s a v (mNext w m) l 1 0 (nmT s a) hl ht) else none) else none }
section
variable (b : UInt8) (ha : a < s.length) (hb : s[((a : Nat) : Int).toNat]? = some b) (hlen : s.length ≤ 100000) (h1 : isDig b = false) (h2 : isSm b = true)
include b ha hb hlen h1 h2
theorem nextWord (hu : isWord (nmT s a) = true) (hl : l.length + 1 ≤ 549755813888) (ht : a + (nmT s a).length ≤ 1099511627776) (rest : Heap) :
    HCall Pg 32 [scP] (ovl (stE w s a v m l) rest) [dI 0] (ovl (stE true s (a + (nmT s a).length) (v + 1) (mNext w m) (l ++ [tokD 2 a (nmT s a) 0])) rest) := by
 cases w with
 | false => exact hcall_of_run okP named (nextPr false s a v m l b ha hb hlen h1 h2 true hu _ rfl hl ht) 1000 130000 32 (by kernel_rfl)
 | true => exact hcall_of_run okP named (nextPr true s a v m l b ha hb hlen h1 h2 true hu _ rfl hl ht) 1000 130000 32 (by kernel_rfl)
theorem nextName (hu : isWord (nmT s a) = false) (hg : decide (12 < ((nmT s a).length : Int)) = false) (hl : l.length + 1 ≤ 549755813888) (ht : a + (nmT s a).length ≤ 1099511627776) (rest : Heap) :
    HCall Pg 32 [scP] (ovl (stE w s a v m l) rest) [dI 0] (ovl (stE true s (a + (nmT s a).length) (v + 1) (mNext w m) (l ++ [tokD 1 a (nmT s a) 0])) rest) := by
 cases w with
 | false => exact hcall_of_run okP named (nextPr false s a v m l b ha hb hlen h1 h2 false hu false hg hl ht) 1000 130000 32 (by kernel_rfl)
 | true => exact hcall_of_run okP named (nextPr true s a v m l b ha hb hlen h1 h2 false hu false hg hl ht) 1000 130000 32 (by kernel_rfl)
theorem nextLong (hu : isWord (nmT s a) = false) (hg : decide (12 < ((nmT s a).length : Int)) = true) (hl : l.length + 1 ≤ 549755813888) (ht : a + (nmT s a).length ≤ 1099511627776) (rest : Heap) :
    HCall Pg 32 [scP] (ovl (stE w s a v m l) rest) [dI 2] (ovl (stE true s a v (mNext w m) l) rest) := by
 cases w with
 | false => exact hcall_of_run okP named (nextPr false s a v m l b ha hb hlen h1 h2 false hu true hg hl ht) 1000 130000 32 (by kernel_rfl)
 | true => exact hcall_of_run okP named (nextPr true s a v m l b ha hb hlen h1 h2 false hu true hg hl ht) 1000 130000 32 (by kernel_rfl)
end
end
end Go.Avm
