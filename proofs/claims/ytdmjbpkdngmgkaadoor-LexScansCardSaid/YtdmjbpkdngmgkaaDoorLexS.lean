/-
  Scans: the document's scanner's contract; the law, on data.
-/
import Derived.Test.YtdmjbpkdngmgkaaDoorLexU
import Derived.Test.YtdmjbpkdngmgkaaDoorLexTa
import Derived.Test.YtdmjbpkdngmgkaaDoorLexPc
set_option linter.unusedSectionVars false
namespace Go.Avm
open Go.Proofs

theorem refWordC (t : List UInt8) : Pure Tryd.prog 14 [.str t] [.bool (isWord t)] := by
  rcases findD_words t wl wordsE 0 rfl with ⟨i, g1, g2, g3⟩ | ⟨g1, g2⟩
  · have : isWord t = true := by
      simp only [isWord, List.contains_eq_mem, decide_eq_true_eq]
      exact List.mem_of_getElem? g1
    rw [this]
    exact refT t i g1 g2
  · have : isWord t = false := by
      simp only [isWord, List.contains_eq_mem, decide_eq_false_iff_not]
      intro hm
      obtain ⟨i, hi⟩ := List.getElem?_of_mem hm
      have := g1 i t hi
      simp at this
    rw [this]
    exact refF t g1
theorem toN_eq (p : UInt8 → Bool) (s : List UInt8) (a : Nat) (b : UInt8) (h : s.drop a = b :: s.drop (a + 1)) (hb : p b = true) : toN p s a = a + runN p (s.drop a) := by
  unfold toN runN
  rw [h, List.takeWhile_cons, if_pos hb, List.length_cons]
  omega
theorem toN_sub (p : UInt8 → Bool) (s : List UInt8) (a : Nat) (b : UInt8) (h : s.drop a = b :: s.drop (a + 1)) (hb : p b = true) : sub s a (toN p s a) = (s.drop a).takeWhile p := by
  rw [toN_eq p s a b h hb, sub_tw]
theorem runN_len (p : UInt8 → Bool) (l : List UInt8) : runN p l = (l.takeWhile p).length := rfl
/-- What the loop of the document's scanner comes to. -/
def RefSays (s : List UInt8) (a v x : Nat) (l : List D) : Except (Nat × Int) (List (Nat × Tok)) → Prop
  | .error (p, k) => ∃ v' x', ∀ (rest : Heap) (X : Fix), X.P = Tryd.prog → X.N = 183 → LW X (loopOf Tryd.prog 10 5) ⟨envOf (rfE s a v l), ovl (rfHp v x) rest⟩ fun e' S' => e' = .ret ∧ S' = ⟨envOf [(2, .nils), (3, dN p), (4, dI k)], ovl (rfHp v' x') rest⟩
  | .ok ts => (l ++ ts.map tokOf).length ≤ s.length ∧ ∃ v' x', ∀ (rest : Heap) (X : Fix), X.P = Tryd.prog → X.N = 183 → LW X (loopOf Tryd.prog 10 5) ⟨envOf (rfE s a v l), ovl (rfHp v x) rest⟩ fun e' S' => e' = .exit 0 ∧ S' = ⟨envOf (rfE s s.length v' (l ++ ts.map tokOf)), ovl (rfHp v' x') rest⟩
def consR (y : Nat × Tok) (r : Except (Nat × Int) (List (Nat × Tok))) : Except (Nat × Int) (List (Nat × Tok)) := match r with
  | .error e => .error e
  | .ok ts => .ok (y :: ts)
section
variable {s : List UInt8} {a v x : Nat} {l : List D}
theorem says_step {a1 v1 x1 : Nat} {l1 : List D} {r : Except (Nat × Int) (List (Nat × Tok))} (h : ∀ (rest : Heap) (X : Fix), X.P = Tryd.prog → X.N = 183 → AW X (loopOf Tryd.prog 10 5) ⟨envOf (rfE s a v l), ovl (rfHp v x) rest⟩ fun e' S' => e' = .normal ∧ Weak X S' ⟨envOf (rfE s a1 v1 l1), ovl (rfHp v1 x1) rest⟩)
    (hl : l1 = l) (ih : RefSays s a1 v1 x1 l1 r) : RefSays s a v x l r := by
  subst hl
  cases r with
  | error e =>
    obtain ⟨p, k⟩ := e
    obtain ⟨v', x', hh⟩ := ih
    exact ⟨v', x', fun rest X hP hN => lw_seg (h rest X hP hN) (hh rest X hP hN)⟩
  | ok ts =>
    obtain ⟨hle, v', x', hh⟩ := ih
    exact ⟨hle, v', x', fun rest X hP hN => lw_seg (h rest X hP hN) (hh rest X hP hN)⟩
theorem says_tok {a1 v1 x1 : Nat} {kd n : Int} {t : List UInt8} {r : Except (Nat × Int) (List (Nat × Tok))} (h : ∀ (rest : Heap) (X : Fix), X.P = Tryd.prog → X.N = 183 → AW X (loopOf Tryd.prog 10 5) ⟨envOf (rfE s a v l), ovl (rfHp v x) rest⟩ fun e' S' => e' = .normal ∧ Weak X S' ⟨envOf (rfE s a1 v1 (l ++ [tokD kd a t n])), ovl (rfHp v1 x1) rest⟩)
    (ih : RefSays s a1 v1 x1 (l ++ [tokD kd a t n]) r) : RefSays s a v x l (consR (a, (kd, t, n)) r) := by
  cases r with
  | error e =>
    obtain ⟨p, k⟩ := e
    obtain ⟨v', x', hh⟩ := ih
    exact ⟨v', x', fun rest X hP hN => lw_seg (h rest X hP hN) (hh rest X hP hN)⟩
  | ok ts =>
    obtain ⟨hle, v', x', hh⟩ := ih
    have e : l ++ [tokD kd a t n] ++ ts.map tokOf = l ++ ((a, (kd, t, n)) :: ts).map tokOf := by simp [tokOf]
    rw [e] at hle hh
    exact ⟨hle, v', x', fun rest X hP hN => lw_seg (h rest X hP hN) (hh rest X hP hN)⟩
theorem says_err {k : Int} (h : ∀ (rest : Heap) (X : Fix), X.P = Tryd.prog → X.N = 183 → AW X (loopOf Tryd.prog 10 5) ⟨envOf (rfE s a v l), ovl (rfHp v x) rest⟩ fun e' S' => e' = .ret ∧ Weak X S' ⟨envOf [(2, .nils), (3, dN a), (4, dI k)], ovl (rfHp v x) rest⟩) : RefSays s a v x l (.error (a, k)) :=
  ⟨v, x, fun rest X hP hN => lw_end (h rest X hP hN) (by simp)⟩
end
theorem refLoop (s : List UInt8) (hlen : s.length ≤ 100000) : ∀ (μ n a v x : Nat) (l : List D), s.length - a < μ → a ≤ s.length → s.length < n + blankTo s a → l.length ≤ a → RefSays s a v x l (scanB n (s.drop (blankTo s a)) (blankTo s a))
  | 0, n, a, v, x, l, h, _, _, _ => by omega
  | μ + 1, n, a, v, x, l, h0, h1, h2, h3 => by
    rcases Nat.lt_or_ge a s.length with ha | ha
    · have hd : s.drop a = s[a] :: s.drop (a + 1) := List.drop_eq_getElem_cons ha
      obtain ⟨b, hb, hcase⟩ := blank_cases s a ha
      have hsb : s[a] = b := by
        rw [Int.toNat_natCast, List.getElem?_eq_getElem ha] at hb
        exact Option.some.inj hb
      rw [hsb] at hd
      have hcs := class_spec b
      rcases hcase with ⟨hw, hbl⟩ | ⟨rfl, hbl, hpos⟩ | ⟨hno, hbl⟩
      · have hws : wsp b = true := by rcases hw with rfl | rfl | rfl | rfl <;> rfl
        have hk : classI b = 1 := by have := hcs.1; rw [hws] at this; simpa using this
        have ih := refLoop s hlen μ n (a + 1) v x l (by omega) ha (by rw [hbl]; exact h2) (by omega)
        rw [hbl] at ih
        exact says_step (fun rest X hP hN => rfBlank s a v x l b ha hb hlen hk rest X hP hN) rfl ih
      · have hk : classI 35 = 5 := rfl
        have hto : toN notNl s a = a + runN notNl (s.drop a) := toN_eq notNl s a 35 hd rfl
        have hle := toN_le notNl s a ha
        have ih := refLoop s hlen μ n (toN notNl s a) v x l (by omega) hle.2 (by rw [hto, hbl]; exact h2) (by omega)
        rw [hto, hbl, ← hto] at ih
        exact says_step (fun rest X hP hN => rfRem s a v x l 35 ha hb hlen hk rest X hP hN) rfl ih
      · rw [hbl] at h2 ⊢
        obtain ⟨n, rfl⟩ : ∃ m, n = m + 1 := ⟨n - 1, by omega⟩
        rw [hd, scanB_cons, ← hd]
        have hl549 : l.length + 1 ≤ 549755813888 := by omega
        -- a token's end, and what comes behind it
        have hgo : ∀ (kd k : Int) (t : List UInt8), 0 < t.length → a + t.length ≤ s.length → RefSays s (a + t.length) (v + 1) (x + 1) (l ++ [tokD kd a t k]) (scanB n (((s.drop a).drop t.length).drop (skipN false ((s.drop a).drop t.length))) (a + t.length + skipN false ((s.drop a).drop t.length))) := fun kd k t ht hle => by
          have e1 : (s.drop a).drop t.length = s.drop (a + t.length) := by rw [List.drop_drop]
          have e2 : a + t.length + skipN false (s.drop (a + t.length)) = blankTo s (a + t.length) := rfl
          have e3 : (s.drop (a + t.length)).drop (skipN false (s.drop (a + t.length))) = s.drop (blankTo s (a + t.length)) := by rw [List.drop_drop]; rfl
          rw [e1, e2, e3]
          have hbt := blankTo_le s (a + t.length) hle
          exact refLoop s hlen μ n (a + t.length) (v + 1) (x + 1) _ (by omega) hle (by omega) (by rw [List.length_append, List.length_singleton]; omega)
        cases hdg : isDig b with
        | true =>
          have hk : classI b = 3 := by have := hcs.2.2.1; rw [hdg] at this; simpa using this
          have hsub := toN_sub isDig s a b hd hdg
          have hto := toN_eq isDig s a b hd hdg
          rw [runN_len] at hto
          have htl := toN_le isDig s a ha
          have hall := tw_all isDig (s.drop a)
          generalize hT : (s.drop a).takeWhile isDig = T at *
          have hTl : T.length ≤ 100000 := by omega
          have hv := valueC T hall hTl
          obtain ⟨c, xx, hx, hc, hlet⟩ : ∃ c xx, decide (((toN isDig s a : Nat) : Int) < (s.length : Int)) = xx ∧ (xx = true → s[((toN isDig s a : Nat) : Int).toNat]? = some c) ∧ letter ((s.drop a).drop T.length) = (xx && (isSm c || great c)) := by
            rw [List.drop_drop, ← hto]
            by_cases hx : toN isDig s a < s.length
            · refine ⟨s[toN isDig s a], true, by simp only [decide_eq_true_eq]; omega, fun _ => by rw [Int.toNat_natCast]; exact List.getElem?_eq_getElem hx, ?_⟩
              rw [List.drop_eq_getElem_cons hx]; rfl
            · refine ⟨0, false, by simp only [decide_eq_false_iff_not]; omega, fun h => (by cases h), ?_⟩
              rw [List.drop_eq_nil_iff.2 (by omega)]; rfl
          have ht : tokL (s.drop a) = if 9223372036854775808 ≤ dv 0 T then .error 2 else if (decide (1 < T.length) && b.toNat == 48) || letter ((s.drop a).drop T.length) then .error 4 else .ok (3, T, dv 0 T) := by
            rw [hd, tokL, if_pos hdg, ← hd, hT]
          have hy : ((b.toNat : Int) == 48) = (b.toNat == 48) := by rw [Bool.eq_iff_iff]; simp only [beq_iff_eq]; omega
          have hz : decide (((a + 1 : Nat) : Int) < ((toN isDig s a : Nat) : Int)) = decide (1 < T.length) := decide_eq_decide.2 (by omega)
          rw [ht]
          by_cases hgr : 9223372036854775808 ≤ dv 0 T
          · rw [if_pos hgr]
            exact says_err fun rest X hP hN => rfGreatN s a v x l b ha hb hlen hk 0 (by rw [hsub]; exact hv.2 hgr) _ _ _ _ _ rfl rfl hx c hc rfl rfl hl549 rest X hP hN
          · rw [if_neg hgr]
            cases hbad : refBad (b.toNat == 48) (decide (1 < T.length)) xx (isSm c) (great c) with
            | true =>
              rw [if_pos (by rw [hlet, Bool.and_comm]; exact hbad)]
              exact says_err fun rest X hP hN => rfBadN s a v x l b ha hb hlen hk _ (by rw [hsub]; exact hv.1 (by omega)) _ _ _ _ _ hy hz hx c hc rfl rfl hl549 hbad rest X hP hN
            | false =>
              rw [if_neg (by rw [hlet, Bool.and_comm]; show ¬ refBad (b.toNat == 48) (decide (1 < T.length)) xx (isSm c) (great c) = true; rw [hbad]; exact Bool.false_ne_true)]
              have hTpos : 0 < T.length := by omega
              dsimp only
              refine says_tok (fun rest X hP hN => ?_) (hgo 3 (dv 0 T) T hTpos (by omega))
              have hh := rfNum s a v x l b ha hb hlen hk (dv 0 T) (by rw [hsub]; exact hv.1 (by omega)) _ _ _ _ _ hy hz hx c hc rfl rfl hl549 hbad rest X hP hN
              rw [hsub, hto] at hh
              exact hh
        | false =>
          cases hsm : isSm b with
          | true =>
            have hk : classI b = 2 := by have := hcs.2.1; rw [hsm] at this; simpa using this
            have hnm := isSm_isNm hsm
            have hsub := toN_sub isNm s a b hd hnm
            have hto := toN_eq isNm s a b hd hnm
            rw [runN_len] at hto
            have htl := toN_le isNm s a ha
            generalize hT : (s.drop a).takeWhile isNm = T at *
            have ht : tokL (s.drop a) = if isWord T then .ok (2, T, 0) else if 12 < T.length then .error 2 else .ok (1, T, 0) := by
              rw [hd, tokL, if_neg (by rw [hdg]; exact Bool.false_ne_true), if_pos hsm, ← hd, hT]
            have hTpos : 0 < T.length := by omega
            have hW := refWordC (sub s a (toN isNm s a))
            rw [ht]
            cases hu : isWord T with
            | true =>
              rw [if_pos rfl]
              dsimp only
              refine says_tok (fun rest X hP hN => ?_) (hgo 2 0 T hTpos (by omega))
              have hh := rfWord s a v x l b ha hb hlen hk (by rw [hsub, hu] at hW; rw [hsub]; exact hW) hl549 rest X hP hN
              rw [hsub, hto] at hh
              exact hh
            | false =>
              rw [if_neg Bool.false_ne_true]
              have hW' : Pure Tryd.prog 14 [.str (sub s a (toN isNm s a))] [.bool false] := by rw [hsub, hu] at hW; rw [hsub]; exact hW
              by_cases h12 : 12 < T.length
              · rw [if_pos h12]
                exact says_err fun rest X hP hN => rfLong s a v x l b ha hb hlen hk hW' (by simp only [decide_eq_true_eq]; omega) hl549 rest X hP hN
              · rw [if_neg h12]
                dsimp only
                refine says_tok (fun rest X hP hN => ?_) (hgo 1 0 T hTpos (by omega))
                have hh := rfName s a v x l b ha hb hlen hk hW' (by simp only [decide_eq_false_iff_not]; omega) hl549 rest X hP hN
                rw [hsub, hto] at hh
                exact hh
          | false =>
            have ht : tokL (s.drop a) = if sgnL b (s.drop (a + 1)) = [] then .error 4 else .ok (4, sgnL b (s.drop (a + 1)), 0) := by
              rw [hd, tokL, if_neg (by rw [hdg]; exact Bool.false_ne_true), if_neg (by rw [hsm]; exact Bool.false_ne_true)]
            rw [ht]
            cases hsg : sg1 b with
            | false =>
              have hnil : sgnL b (s.drop (a + 1)) = [] := by
                unfold sgnL
                cases hr : s.drop (a + 1) with
                | nil => dsimp only; rw [if_neg (by rw [hsg]; exact Bool.false_ne_true)]
                | cons c u =>
                  dsimp only
                  rw [if_neg (fun hp => by rw [pair_sg hp] at hsg; cases hsg), if_neg (by rw [hsg]; exact Bool.false_ne_true)]
              rw [if_pos hnil]
              cases hg : great b with
              | true =>
                have hk : classI b = 6 := by have := hcs.2.2.2.2.1; rw [hg] at this; simpa using this
                exact says_err fun rest X hP hN => rfGreat s a v x l b ha hb hlen hk rest X hP hN
              | false =>
                have hw0 : wsp b = false := by
                  simp only [wsp, Bool.or_eq_false_iff, beq_eq_false_iff_ne]
                  exact ⟨⟨⟨fun e => hno.1 (by rw [e]; rfl), fun e => hno.2.1 (by rw [e]; rfl)⟩, fun e => hno.2.2.1 (by rw [e]; rfl)⟩, fun e => hno.2.2.2.1 (by rw [e]; rfl)⟩
                have h35 : (b == 35) = false := by
                  simp only [beq_eq_false_iff_ne]
                  exact fun e => hno.2.2.2.2 (by rw [e]; rfl)
                have hk : classI b = 0 := by
                  unfold classI
                  rw [hw0, hsm, hdg, h35, hg, hsg]
                  rfl
                exact says_err fun rest X hP hN => rfZero s a v x l b ha hb hlen hk rest X hP hN
            | true =>
              have hk : classI b = 4 := by have := hcs.2.2.2.2.2; rw [hsg] at this; simpa using this
              have hdn : (s.drop a).take 1 = [b] := by rw [hd]; rfl
              have hsub1 : sub s a (a + 1) = [b] := by unfold sub; rw [List.drop_take, Nat.add_sub_cancel_left, hdn]
              cases hr : s.drop (a + 1) with
              | nil =>
                have hx : ¬ a + 1 < s.length := by have := List.drop_eq_nil_iff.1 hr; omega
                have hS : sgnL b [] = [b] := by unfold sgnL; dsimp only; rw [if_pos hsg]
                rw [hS, if_neg (by simp)]
                dsimp only
                refine says_tok (fun rest X hP hN => ?_) (hgo 4 0 [b] (by simp) (by simp; omega))
                have hh := rfLast s a v x l b ha hb hlen hk (by simp only [decide_eq_false_iff_not]; omega) ⟨by omega, by omega⟩ hl549 rest X hP hN
                rw [hsub1] at hh
                exact hh
              | cons c u =>
                have hx : a + 1 < s.length := by
                  rcases Nat.lt_or_ge (a + 1) s.length with h | h
                  · exact h
                  · rw [List.drop_eq_nil_iff.2 h] at hr; cases hr
                have hc : s[((a + 1 : Nat) : Int).toNat]? = some c := by
                  have : (s.drop (a + 1))[0]? = some c := by rw [hr]; rfl
                  rw [List.getElem?_drop, Nat.add_zero] at this
                  rw [Int.toNat_natCast]; exact this
                cases hp : prs.contains [b, c] with
                | true =>
                  have hS : sgnL b (c :: u) = [b, c] := by unfold sgnL; dsimp only; rw [if_pos hp]
                  have hsub2 : sub s a (a + 1 + 1) = [b, c] := by
                    unfold sub
                    rw [List.drop_take, show a + 1 + 1 - a = 2 by omega, hd, hr]; rfl
                  rw [hS, if_neg (by simp)]
                  dsimp only
                  refine says_tok (fun rest X hP hN => ?_) (hgo 4 0 [b, c] (by simp) (by simp; omega))
                  have hh := rfPair s a v x l b ha hb hlen hk (by simp only [decide_eq_true_eq]; omega) c hc hp ⟨by omega, by omega⟩ hl549 rest X hP hN
                  rw [hsub2] at hh
                  exact hh
                | false =>
                  have hS : sgnL b (c :: u) = [b] := by unfold sgnL; dsimp only; rw [if_neg (by rw [hp]; exact Bool.false_ne_true), if_pos hsg]
                  rw [hS, if_neg (by simp)]
                  dsimp only
                  refine says_tok (fun rest X hP hN => ?_) (hgo 4 0 [b] (by simp) (by simp; omega))
                  have hh := rfOne s a v x l b ha hb hlen hk (by simp only [decide_eq_true_eq]; omega) c hc hp ⟨by omega, by omega⟩ hl549 rest X hP hN
                  rw [hsub1] at hh
                  exact hh
    · have : a = s.length := by omega
      subst this
      have hb := blankTo_le s s.length (Nat.le_refl _)
      have e : blankTo s s.length = s.length := by omega
      rw [e, List.drop_length]
      have hn : scanB n [] s.length = .ok [] := by cases n <;> rfl
      rw [hn]
      refine ⟨by simpa using h3, v, x, fun rest X hP hN => ?_⟩
      simp only [List.map_nil, List.append_nil]
      exact lw_end (rfStop s v x l rest X hP hN) (by simp)
end Go.Avm
