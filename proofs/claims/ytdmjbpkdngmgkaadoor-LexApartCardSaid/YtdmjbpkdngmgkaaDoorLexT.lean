/-
  Apart: the law, on data.
-/
import Derived.Test.YtdmjbpkdngmgkaaDoorLexTb
import Derived.Test.YtdmjbpkdngmgkaaDoorLexP
set_option linter.unusedSectionVars false
namespace Go.Avm
open Go.Proofs

def tkL (ts : List (Nat × Tok)) (e : Nat) : List D := ts.map tokOf ++ [tokD 0 e [] 0]
/-- The text as it stands behind i rounds; what is still to come. -/
def apJ (gaps : List UInt8) (ts : List (Nat × Tok)) (e : Nat) (W : List UInt8) (x : Nat × List UInt8) : Prop :=
  (x.1 ≤ ts.length ∧ x.2 ++ apart gaps x.1 (ts.drop x.1) = W) ∨ (x.1 = ts.length + 1 ∧ x.2 = W)
theorem tkL_get {ts : List (Nat × Tok)} {e i : Nat} (h : i < ts.length) : (tkL ts e)[((i : Nat) : Int).toNat]? = some (tokOf ts[i]) := by
  rw [Int.toNat_natCast, tkL, List.getElem?_append_left (by rw [List.length_map]; exact h), List.getElem?_map, List.getElem?_eq_getElem h]; rfl
theorem tkL_last (ts : List (Nat × Tok)) (e : Nat) : (tkL ts e)[((ts.length : Nat) : Int).toNat]? = some (tokD 0 e [] 0) := by
  rw [Int.toNat_natCast, tkL, List.getElem?_append_right (by rw [List.length_map]; exact Nat.le_refl _), List.length_map, Nat.sub_self]; rfl
theorem tkL_len (ts : List (Nat × Tok)) (e : Nat) : (tkL ts e).length = ts.length + 1 := by simp [tkL]
theorem apLoop (gaps : List UInt8) (ts : List (Nat × Tok)) (e : Nat) (hl : ts.length ≤ 100000) (hw : (apart gaps 0 ts).length ≤ 1000000000) (rest : Heap) (X : Fix) (hP : X.P = Tryd.prog) (hN : X.N = 121) :
    AW X (.loop (loopOf Tryd.prog 5 9)) ⟨envOf (apE gaps (tkL ts e) [] 0), ovl (apHp gaps 0 rest) rest⟩ fun e' S' => e' = .exit 0 ∧ S' = ⟨envOf [(5, .d (.ro (tkL ts e))), (8, .d (.str (apart gaps 0 ts)))], ovl (apHp gaps (tkL ts e).length rest) rest⟩ :=
  loop_of_segs (P := Tryd.prog) (N := 121) (c := loopOf Tryd.prog 5 9) (fun x : Nat × List UInt8 => apE gaps (tkL ts e) x.2 x.1) (fun x rest => apHp gaps x.1 rest) (apJ gaps ts e (apart gaps 0 ts)) (fun x => ts.length + 1 - x.1) (.exit 0) [(5, .d (.ro (tkL ts e))), (8, .d (.str (apart gaps 0 ts)))] (fun rest => apHp gaps (tkL ts e).length rest) (0, [])
    (.inl ⟨Nat.zero_le _, by simp⟩) (by simp)
    (fun rest x hx => by
      obtain ⟨i, t⟩ := x
      have hlen := tkL_len ts e
      rcases hx with ⟨hi, ht⟩ | ⟨hi, ht⟩
      · have hi0 : i ≤ ts.length := hi
        have ht0 : t ++ apart gaps i (ts.drop i) = apart gaps 0 ts := ht
        obtain ⟨kd, A, T, n, hx, hj, hlT⟩ : ∃ kd A T n, (tkL ts e)[((i : Nat) : Int).toNat]? = some (tokD kd A T n) ∧ apJ gaps ts e (apart gaps 0 ts) (i + 1, t ++ (T ++ gapOf gaps i)) ∧ t.length + (T ++ gapOf gaps i).length ≤ (apart gaps 0 ts).length := by
          rcases Nat.lt_or_ge i ts.length with hlt | hge
          · have hd : ts.drop i = ts[i] :: ts.drop (i + 1) := List.drop_eq_getElem_cons hlt
            rw [hd] at ht0
            have ht1 : t ++ (ts[i].2.2.1 ++ (gapOf gaps i ++ apart gaps (i + 1) (ts.drop (i + 1)))) = apart gaps 0 ts := ht0
            refine ⟨_, _, _, _, tkL_get hlt, .inl ⟨hlt, ?_⟩, ?_⟩
            · show t ++ (ts[i].2.2.1 ++ gapOf gaps i) ++ apart gaps (i + 1) (ts.drop (i + 1)) = apart gaps 0 ts
              rw [← ht1]; simp
            · rw [← ht1]; simp only [List.length_append]; omega
          · have : i = ts.length := by omega
            subst this
            rw [List.drop_length] at ht0
            have ht1 : t ++ gapOf gaps ts.length = apart gaps 0 ts := ht0
            refine ⟨_, _, _, _, tkL_last ts e, .inr ⟨rfl, ?_⟩, ?_⟩
            · show t ++ ([] ++ gapOf gaps ts.length) = _
              rw [List.nil_append]; exact ht1
            · rw [← ht1]; simp
        refine .inl ⟨(i + 1, t ++ (T ++ gapOf gaps i)), hj, by show ts.length + 1 - (i + 1) < ts.length + 1 - i; omega, fun X hP hN => ?_⟩
        show AW X (loopOf Tryd.prog 5 9) ⟨envOf (apE gaps (tkL ts e) t i), ovl (apHp gaps i rest) rest⟩ fun e' S' => e' = .normal ∧ Weak X S' ⟨envOf (apE gaps (tkL ts e) (t ++ (T ++ gapOf gaps i)) (i + 1)), ovl (apHp gaps (i + 1) rest) rest⟩
        rw [List.length_append] at hlT
        rcases Nat.lt_or_ge i gaps.length with hlt | hge
        · have hg : gaps[i]? = some gaps[i] := List.getElem?_eq_getElem hlt
          have hgap : gapOf gaps i = gapT (gaps[i].toNat % 4) := by unfold gapOf; rw [hg]
          rw [← apHp_in gaps i rest hlt]
          rw [hgap] at hlT ⊢
          exact apIn gaps (tkL ts e) t i kd A T n (gaps[i].toNat % 4) (Nat.mod_lt _ (by decide)) (by rw [hlen]; omega) hx (by rw [hlen]; omega) (by rw [List.length_map]; simp only [decide_eq_true_eq]; omega) gaps[i] ⟨hg, rfl⟩ (by omega) (by rw [List.length_append]; omega) rest X hP hN
        · have hgap : gapOf gaps i = gapT 0 := by unfold gapOf; rw [List.getElem?_eq_none hge]
          rw [← apHp_out gaps i rest hge]
          rw [hgap] at hlT ⊢
          exact apOut gaps (tkL ts e) t i kd A T n (by rw [hlen]; omega) hx (by rw [hlen]; omega) (by rw [List.length_map]; simp only [decide_eq_false_iff_not]; omega) (by omega) (by rw [List.length_append]; omega) rest X hP hN
      · have hi0 : i = ts.length + 1 := hi
        have ht0 : t = apart gaps 0 ts := ht
        subst hi0; subst ht0
        refine .inr fun X hP hN => ?_
        have := apStop gaps (tkL ts e) (apart gaps 0 ts) rest X hP hN
        rw [hlen] at this ⊢
        exact this) rest X hP hN
theorem cpLoop (ts ts' : List (Nat × Tok)) (e e' : Nat) (hm : ts'.map (·.2) = ts.map (·.2)) (hl : ts.length ≤ 100000) (rest : Heap) (X : Fix) (hP : X.P = Tryd.prog) (hN : X.N = 121) :
    AW X (.loop (loopOf Tryd.prog 5 22)) ⟨envOf (cpE (tkL ts e) (tkL ts' e') 0), ovl [] rest⟩ fun e' S' => e' = .exit 2 ∧ S' = ⟨envOf [], ovl [] rest⟩ :=
  loop_of_segs (P := Tryd.prog) (N := 121) (c := loopOf Tryd.prog 5 22) (cpE (tkL ts e) (tkL ts' e')) (fun _ _ => []) (fun i => i ≤ (tkL ts' e').length) (fun i => (tkL ts' e').length - i) (.exit 2) [] (fun _ => []) 0 (Nat.zero_le _) (by simp)
    (fun rest i hi => by
      have hlen := tkL_len ts e
      have hlen' := tkL_len ts' e'
      have hll : ts'.length = ts.length := by have := congrArg List.length hm; simpa using this
      rcases Nat.lt_or_ge i (tkL ts' e').length with h | h
      · refine .inl ⟨i + 1, h, by omega, fun X hP hN => ?_⟩
        rcases Nat.lt_or_ge i ts'.length with h1 | h1
        · have hx := tkL_get (e := e) (show i < ts.length by omega)
          have hy := tkL_get (e := e') h1
          have h2 : ts'[i].2 = (ts[i]'(by omega)).2 := by
            have := congrArg (fun l => l[i]?) hm
            simp only [List.getElem?_map, List.getElem?_eq_getElem h1, List.getElem?_eq_getElem (show i < ts.length by omega), Option.map_some, Option.some.injEq] at this
            exact this
          generalize ts'[i] = y at hy h2
          obtain ⟨A', y2⟩ := y
          have h3 : y2 = (ts[i]'(by omega)).2 := h2
          subst h3
          exact cpNext (tkL ts e) (tkL ts' e') i _ _ _ _ _ h hx hy (by omega) rest X hP hN
        · have : i = ts'.length := by omega
          subst this
          have hx := tkL_last ts e
          rw [← hll] at hx
          exact cpNext (tkL ts e) (tkL ts' e') ts'.length _ _ _ _ _ h hx (tkL_last ts' e') (by omega) rest X hP hN
      · have : i = (tkL ts' e').length := by omega
        subst this
        exact .inr fun X hP hN => cpStop (tkL ts e) (tkL ts' e') rest X hP hN) rest X hP hN

/-! ### The law -/
section
variable (s0 gaps : List UInt8)
noncomputable def awPr (L K : List D) (a e a2 : Int) (hp : Pure Tryd.prog 9 [.str (plS s0)] [.ro L, .int .i64 a, .int .i64 e]) (z : Bool) (hz : (e != 0) = z) (W : List UInt8) (g : Bool) (hg : decide (20000 < (W.length : Int)) = g)
    (hp2 : Option (Hint Tryd.prog)) (hLK : ((K.length : Int) != (L.length : Int)) = false) (H1 H2 : Option (LHint Tryd.prog)) : Par Tryd.prog :=
  { hint := fun f k => if f = 5 then (if k = 16 then some (.call 11 [] [.bool true] awakeP) else if k = 21 then some (hMin Tryd.prog s0.length 3000) else if k = 22 then some (.sub s0 0 (min s0.length 3000) ⟨Nat.zero_le _, Nat.min_le_left _ _⟩)
      else if k = 25 then some (.call 9 _ _ hp) else if k = 30 then some (hB Tryd.prog _ z hz) else if k = 62 then some (hB Tryd.prog _ g hg) else if k = 65 then hp2 else if k = 76 then some (hB Tryd.prog _ false hLK) else none) else none
    loops := fun f r => if f = 5 then (if r = 9 then H1 else if r = 22 then H2 else none) else none }
theorem awBad (a e : Int) (he : (e != 0) = true) (hp : Pure Tryd.prog 9 [.str (plS s0)] [.ro [], .int .i64 a, .int .i64 e]) : Pure Tryd.prog 5 [.str s0, .ro (gaps.map bD)] [.bool true] :=
  pure_of_run okP named (awPr s0 [] [] a e 0 hp true he [] _ rfl none rfl none none) 1000 (by kernel_rfl)
def apHp0 (rest : Heap) : List (Nat × Ent) := [(800494, ⟨(rest 800494).ver, none⟩), (801867, ⟨(rest 801867).ver, none⟩), (802472, ⟨(rest 802472).ver, none⟩)]
theorem apHp_zero (gaps : List UInt8) (rest : Heap) : apHp gaps 0 rest = apHp0 rest := by
  unfold apHp apHp0
  rw [Nat.zero_sub, Nat.zero_min]
  rfl
noncomputable def apLH (ts : List (Nat × Tok)) (e : Nat) (hl : ts.length ≤ 100000) (hw : (apart gaps 0 ts).length ≤ 1000000000) : LHint Tryd.prog :=
  ⟨121, loopOf Tryd.prog 5 9, apE gaps (tkL ts e) [] 0, apHp0, .exit 0, [(5, .d (.ro (tkL ts e))), (8, .d (.str (apart gaps 0 ts)))], apHp gaps (tkL ts e).length, fun rest X hP hN => by rw [← apHp_zero gaps rest]; exact apLoop gaps ts e hl hw rest X hP hN⟩
theorem awLong (ts : List (Nat × Tok)) (e : Nat) (a : Int) (hp : Pure Tryd.prog 9 [.str (plS s0)] [.ro (tkL ts e), .int .i64 a, .int .i64 0]) (hl : ts.length ≤ 100000) (hw : (apart gaps 0 ts).length ≤ 1000000000) (hg : decide (20000 < ((apart gaps 0 ts).length : Int)) = true) :
    Pure Tryd.prog 5 [.str s0, .ro (gaps.map bD)] [.bool true] :=
  pure_of_run okP named (awPr s0 (tkL ts e) (tkL ts e) a 0 0 hp false rfl (apart gaps 0 ts) true hg none (by simp) (some (apLH gaps ts e hl hw)) none) 1000 (by kernel_rfl)
theorem awGood (ts ts' : List (Nat × Tok)) (e e' : Nat) (a a2 : Int) (hp : Pure Tryd.prog 9 [.str (plS s0)] [.ro (tkL ts e), .int .i64 a, .int .i64 0]) (hl : ts.length ≤ 100000) (hw : (apart gaps 0 ts).length ≤ 1000000000) (hg : decide (20000 < ((apart gaps 0 ts).length : Int)) = false)
    (hp2 : Pure Tryd.prog 9 [.str (apart gaps 0 ts)] [.ro (tkL ts' e'), .int .i64 a2, .int .i64 0]) (hm : ts'.map (·.2) = ts.map (·.2)) :
    Pure Tryd.prog 5 [.str s0, .ro (gaps.map bD)] [.bool true] :=
  pure_of_run okP named (awPr s0 (tkL ts e) (tkL ts' e') a 0 a2 hp false rfl (apart gaps 0 ts) false hg (some (.call 9 _ _ hp2)) (by have := congrArg List.length hm; simp at this; simp [tkL, this]) (some (apLH gaps ts e hl hw)) (some ⟨121, loopOf Tryd.prog 5 22, cpE (tkL ts e) (tkL ts' e') 0, fun _ => [], .exit 2, [], fun _ => [], cpLoop ts ts' e e' hm hl⟩)) 1000 (by kernel_rfl)
end
theorem gap_len (gaps : List UInt8) (i : Nat) : (gapOf gaps i).length ≤ 12 := by
  rcases gap_cases gaps i with h | h | h | h <;> rw [h] <;> decide
theorem apart_bound (gaps : List UInt8) (M : Nat) : ∀ (ts : List (Nat × Tok)) (i : Nat), (∀ x ∈ ts, x.2.2.1.length ≤ M) → (apart gaps i ts).length ≤ ts.length * (M + 12) + 12
  | [], i, _ => by
    show (gapOf gaps i).length ≤ _
    have := gap_len gaps i
    omega
  | x :: ts, i, h => by
    have ih := apart_bound gaps M ts (i + 1) fun y hy => h y (by simp [hy])
    have h1 := h x (by simp)
    have h2 := gap_len gaps i
    simp only [apart, List.length_append, List.length_cons, Nat.succ_mul]
    omega
theorem laid_len (s : List UInt8) : ∀ (ts : List (Nat × Tok)) (at0 : Nat), Laid s at0 ts → ∀ x ∈ ts, x.2.2.1.length ≤ s.length
  | [], _, _, x, hx => by cases hx
  | y :: ts, at0, h, x, hx => by
    obtain ⟨_, h2, _, _, _, h6⟩ := h
    rcases List.mem_cons.1 hx with rfl | hx
    · omega
    · exact laid_len s ts _ h6 x hx
theorem apartLaw (s0 gaps : List UInt8) : Pure Tryd.prog 5 [.str s0, .ro (gaps.map bD)] [.bool true] := by
  have hS : (plS s0).length ≤ 3000 := by
    unfold plS
    rw [pre2_eq, List.length_take]; omega
  have hp := scanC (plS s0)
  unfold scanRes at hp
  rw [if_neg (by omega)] at hp
  cases h : scanF (plS s0) with
  | error e =>
    obtain ⟨p, k⟩ := e
    rw [h] at hp
    exact awBad s0 gaps p k (by simpa using scanB_err _ _ _ _ _ h) hp
  | ok ts =>
    rw [h] at hp
    have hlen0 := scanB_len _ _ _ _ h
    have hlen : ts.length ≤ 100000 := by omega
    have hgood := scanB_good _ _ _ _ h
    have hw : (apart gaps 0 ts).length ≤ 1000000000 := by
      have h1 := apart_bound gaps 3000 ts 0 fun x hx => Nat.le_trans (laid_len _ ts 0 (scanF_laid h) x hx) hS
      have h2 : ts.length * (3000 + 12) ≤ 3001 * (3000 + 12) := Nat.mul_le_mul_right _ (by omega)
      omega
    by_cases hg : 20000 < (apart gaps 0 ts).length
    · exact awLong s0 gaps ts _ 0 hp hlen hw (by simp only [decide_eq_true_eq]; omega)
    · obtain ⟨ts', h1, h2⟩ := scanF_apart (gaps := gaps) hgood
      have hp2 := scanC (apart gaps 0 ts)
      unfold scanRes at hp2
      rw [if_neg hg, h1] at hp2
      exact awGood s0 gaps ts ts' _ _ 0 0 hp hlen hw (by simp only [decide_eq_false_iff_not]; omega) hp2 h2
end Go.Avm
