/-
  The scanner of texts, part D: blanks and remarks are passed over.
-/
import Derived.Test.YtdmjbpkdngmgkaaDoorLexC
set_option linter.unusedSectionVars false
namespace Go.Avm
open Go.Proofs

def wsp (b : UInt8) : Bool := b == 32 || b == 9 || b == 10 || b == 13
/-- So many bytes are passed over; in a remark or not. -/
def skipN : Bool → List UInt8 → Nat
  | _, [] => 0
  | true, b :: r => 1 + skipN (notNl b) r
  | false, b :: r => if wsp b then 1 + skipN false r else if b == 35 then 1 + skipN true r else 0
theorem skipN_le : ∀ (c : Bool) (l : List UInt8), skipN c l ≤ l.length
  | _, [] => by simp [skipN]
  | true, b :: r => by
    have := skipN_le (notNl b) r
    simp only [skipN, List.length_cons]; omega
  | false, b :: r => by
    have h1 := skipN_le false r
    have h2 := skipN_le true r
    simp only [skipN, List.length_cons]
    split
    · omega
    · split <;> omega
def runN (p : UInt8 → Bool) (l : List UInt8) : Nat := (l.takeWhile p).length
theorem notNl_iff (b : UInt8) : notNl b = (b != 10) := by
  by_cases h : b = 10
  · subst h; rfl
  · have h1 : (b != 10) = true := by simpa using h
    have h2 : notNl b = true := by
      simp only [notNl, bne_iff_ne, ne_eq]
      intro hx
      apply h
      apply UInt8.toNat_inj.1
      have : (b.toNat : Int) = ((10 : Nat) : Int) := hx
      exact Int.ofNat.inj this
    rw [h1, h2]
theorem skipN_true : ∀ (l : List UInt8), skipN true l = runN notNl l + skipN false (l.drop (runN notNl l))
  | [] => rfl
  | b :: r => by
    have ih := skipN_true r
    cases hb : notNl b with
    | true =>
      simp only [skipN, hb, runN, List.takeWhile_cons, if_true, List.length_cons, List.drop_succ_cons] at ih ⊢
      rw [ih]; omega
    | false =>
      have h10 : b = 10 := by
        rw [notNl_iff] at hb
        simpa using hb
      subst h10
      simp [skipN, hb, runN, wsp]

theorem runN_spec (p : UInt8 → Bool) (s : List UInt8) (a : Nat) (ha : a ≤ s.length) : a + runN p (s.drop a) ≤ s.length ∧ (∀ i b, a ≤ i → i < a + runN p (s.drop a) → s[i]? = some b → p b = true) ∧ ∀ b, s[a + runN p (s.drop a)]? = some b → p b = false := by
  have hle : runN p (s.drop a) ≤ (s.drop a).length := by
    unfold runN
    exact (List.takeWhile_sublist p).length_le
  have key : ∀ (l : List UInt8), (∀ i b, i < runN p l → l[i]? = some b → p b = true) ∧ ∀ b, l[runN p l]? = some b → p b = false := by
    intro l
    induction l with
    | nil => exact ⟨fun i b _ h => by simp at h, fun b h => by simp at h⟩
    | cons x r ih =>
      cases hx : p x with
      | false => simp [runN, List.takeWhile_cons, hx]
      | true =>
        have he : runN p (x :: r) = runN p r + 1 := by simp [runN, List.takeWhile_cons, hx]
        rw [he]
        refine ⟨fun i b hi hb => ?_, fun b hb => ?_⟩
        · cases i with
          | zero => simp at hb; subst hb; exact hx
          | succ i => exact ih.1 i b (by omega) (by simpa using hb)
        · exact ih.2 b (by simpa using hb)
  refine ⟨by simp at hle; omega, fun i b h1 h2 hb => ?_, fun b hb => ?_⟩
  · obtain ⟨j, rfl⟩ : ∃ j, i = a + j := ⟨i - a, by omega⟩
    exact (key (s.drop a)).1 j b (by omega) (by rw [List.getElem?_drop]; exact hb)
  · exact (key (s.drop a)).2 b (by rw [List.getElem?_drop]; exact hb)
theorem sub_len (s : List UInt8) (a e : Nat) (h : a ≤ e) (he : e ≤ s.length) : (sub s a e).length = e - a := by
  unfold sub
  rw [List.length_drop, List.length_take]
  omega

section
variable (c0 c1 c2 c3 : AV) (s : List UInt8) (a v : Nat) (l : List D)
noncomputable def runCH (f : Nat) (hf : f = 23 ∨ f = 24 ∨ f = 27) (p : UInt8 → Bool) (hp : ∀ b, Pure Tryd.prog f [bD b] [.bool (p b)]) (hlen : s.length ≤ 100000) (ha : a ≤ s.length) : CHint Tryd.prog :=
  ⟨22, [scP, .fn f []], runHp c0 c1 c2 c3 s a v l, [.d (.str (sub s a (a + runN p (s.drop a))))], [],
    fits_ro rfl (runC c0 c1 c2 c3 s a v l f hf p hp hlen _ (Nat.le_add_right _ _) (runN_spec p s a ha).1 (runN_spec p s a ha).2.1 (runN_spec p s a ha).2.2)⟩

def hLen (P : Program) (s : List UInt8) (a e : Nat) (h : a ≤ e) (he : e ≤ s.length) (hlen : s.length ≤ 100000) : Hint P := .val (dI (IntKind.i64.wrap ((a : Int) + ((sub s a e).length : Int)))) (dN e) (by
  congr 2
  rw [sub_len s a e h he, IntWalk.i64_in _ (by omega)]
  omega)

theorem blankWs {b : UInt8} (hw : b = 32 ∨ b = 9 ∨ b = 10 ∨ b = 13) (ha : a < s.length) (hb : s[((a : Nat) : Int).toNat]? = some b) (hlen : s.length ≤ 100000) (rest : Heap) (X : Fix) (hP : X.P = Tryd.prog) (hN : X.N = 45) :
    AW X (loopOf Tryd.prog 15 0) ⟨envOf [(0, scP)], ovl (runHp c0 c1 c2 c3 s a v l) rest⟩ fun e' S' => e' = .normal ∧ Weak X S' ⟨envOf [(0, scP)], ovl (runHp c0 c1 c2 c3 s (a + 1) v l) rest⟩ := by
  rcases hw with rfl | rfl | rfl | rfl <;> exact seg okP named { hint := fun f' k => if f' = 15 then (if k = 11 then some (hLt Tryd.prog a s.length true (by simpa using ha)) else if k = 20 then some (.sidx s (a : Int) _ (by omega) hb)
    else if k = 30 then some (hSucc Tryd.prog a (by omega)) else none) else none } 1000 15 110000 45 (by kernel_rfl) X hP hN
theorem blankRem (ha : a < s.length) (hb : s[((a : Nat) : Int).toNat]? = some 35) (hlen : s.length ≤ 100000) (rest : Heap) (X : Fix) (hP : X.P = Tryd.prog) (hN : X.N = 45) :
    AW X (loopOf Tryd.prog 15 0) ⟨envOf [(0, scP)], ovl (runHp c0 c1 c2 c3 s a v l) rest⟩ fun e' S' => e' = .normal ∧ Weak X S' ⟨envOf [(0, scP)], ovl (runHp c0 c1 c2 c3 s (a + runN notNl (s.drop a)) v l) rest⟩ :=
  seg okP named { hint := fun f' k => if f' = 15 then (if k = 11 then some (hLt Tryd.prog a s.length true (by simpa using ha)) else if k = 20 then some (.sidx s (a : Int) _ (by omega) hb)
    else if k = 42 then some (hLen Tryd.prog s a _ (Nat.le_add_right _ _) (runN_spec notNl s a (by omega)).1 hlen) else none) else none
                  calls := fun f' k _ => if f' = 15 then (if k = 40 then some (runCH c0 c1 c2 c3 s a v l 23 (by simp) notNl nlC hlen (by omega)) else none) else none } 1000 15 110000 45 (by kernel_rfl) X hP hN
theorem blankEnd (rest : Heap) (X : Fix) (hP : X.P = Tryd.prog) (hN : X.N = 45) :
    AW X (loopOf Tryd.prog 15 0) ⟨envOf [(0, scP)], ovl (runHp c0 c1 c2 c3 s s.length v l) rest⟩ fun e' S' => e' = .exit 0 ∧ Weak X S' ⟨envOf [(0, scP)], ovl (runHp c0 c1 c2 c3 s s.length v l) rest⟩ :=
  seg okP named { hint := fun f' k => if f' = 15 then (if k = 11 then some (hLt Tryd.prog s.length s.length false (by simp)) else none) else none } 1000 15 110000 45 (by kernel_rfl) X hP hN
def hNe (P : Program) (b : UInt8) (k : Nat) (h : b.toNat ≠ k) : Hint P := hB P ((b.toNat : Int) == (k : Int)) false (by simp only [beq_eq_false_iff_ne, ne_eq]; omega)
theorem blankOther {b : UInt8} (h1 : b.toNat ≠ 32) (h2 : b.toNat ≠ 9) (h3 : b.toNat ≠ 10) (h4 : b.toNat ≠ 13) (h5 : b.toNat ≠ 35) (ha : a < s.length) (hb : s[((a : Nat) : Int).toNat]? = some b) (rest : Heap) (X : Fix) (hP : X.P = Tryd.prog) (hN : X.N = 45) :
    AW X (loopOf Tryd.prog 15 0) ⟨envOf [(0, scP)], ovl (runHp c0 c1 c2 c3 s a v l) rest⟩ fun e' S' => e' = .ret ∧ Weak X S' ⟨envOf [(0, scP)], ovl (runHp c0 c1 c2 c3 s a v l) rest⟩ :=
  seg okP named { hint := fun f' k => if f' = 15 then (if k = 11 then some (hLt Tryd.prog a s.length true (by simpa using ha)) else if k = 20 then some (.sidx s (a : Int) _ (by omega) hb)
    else if k = 22 then some (hNe Tryd.prog b 32 h1) else if k = 23 then some (hNe Tryd.prog b 9 h2) else if k = 24 then some (hNe Tryd.prog b 10 h3) else if k = 25 then some (hNe Tryd.prog b 13 h4) else if k = 34 then some (hNe Tryd.prog b 35 h5) else none) else none } 1000 15 110000 45 (by kernel_rfl) X hP hN

def blankTo (a : Nat) : Nat := a + skipN false (s.drop a)
theorem wsp_cases {b : UInt8} (h : wsp b = true) : b = 32 ∨ b = 9 ∨ b = 10 ∨ b = 13 := by
  simp only [wsp, Bool.or_eq_true, beq_iff_eq] at h
  rcases h with ((h | h) | h) | h
  · exact .inl h
  · exact .inr (.inl h)
  · exact .inr (.inr (.inl h))
  · exact .inr (.inr (.inr h))
theorem ne_nat {b : UInt8} {k : Nat} (hk : k < 256) (h : b ≠ UInt8.ofNat k) : b.toNat ≠ k := fun hx => h (by
  apply UInt8.toNat_inj.1
  rw [hx]
  simp [UInt8.toNat_ofNat']
  omega)
theorem blank_cases (x : Nat) (hx : x < s.length) : ∃ b, s[((x : Nat) : Int).toNat]? = some b ∧
    ((b = 32 ∨ b = 9 ∨ b = 10 ∨ b = 13) ∧ blankTo s (x + 1) = blankTo s x ∨ b = 35 ∧ blankTo s (x + runN notNl (s.drop x)) = blankTo s x ∧ 0 < runN notNl (s.drop x) ∨
      (b.toNat ≠ 32 ∧ b.toNat ≠ 9 ∧ b.toNat ≠ 10 ∧ b.toNat ≠ 13 ∧ b.toNat ≠ 35) ∧ blankTo s x = x) := by
  have hd : s.drop x = s[x] :: s.drop (x + 1) := List.drop_eq_getElem_cons hx
  refine ⟨s[x], by simp [hx], ?_⟩
  unfold blankTo
  cases hw : wsp s[x] with
  | true =>
    refine .inl ⟨wsp_cases hw, ?_⟩
    rw [hd]
    simp only [skipN, hw, if_true]
    omega
  | false =>
    by_cases h35 : s[x] = 35
    · refine .inr (.inl ⟨h35, ?_, ?_⟩)
      · have ht := skipN_true (s.drop (x + 1))
        have hr : runN notNl (s.drop x) = runN notNl (s.drop (x + 1)) + 1 := by
          rw [hd, h35]
          simp [runN, List.takeWhile_cons, show notNl 35 = true from rfl]
        have h2 : skipN false (s.drop x) = 1 + skipN true (s.drop (x + 1)) := by
          rw [hd]
          simp only [skipN, hw, h35]
          rfl
        rw [h2, ht, hr, List.drop_drop]
        have : x + (runN notNl (s.drop (x + 1)) + 1) = x + 1 + runN notNl (s.drop (x + 1)) := by omega
        rw [this]; omega
      · rw [hd, h35]
        simp [runN, List.takeWhile_cons, show notNl 35 = true from rfl]
    · refine .inr (.inr ⟨?_, ?_⟩)
      · simp only [wsp, Bool.or_eq_false_iff, beq_eq_false_iff_ne] at hw
        exact ⟨ne_nat (by omega) hw.1.1.1, ne_nat (by omega) hw.1.1.2, ne_nat (by omega) hw.1.2, ne_nat (by omega) hw.2, ne_nat (by omega) h35⟩
      · rw [hd]
        have : (s[x] == 35) = false := by simpa using h35
        simp only [skipN, hw, this]
        rfl
theorem blankTo_le (a : Nat) (ha : a ≤ s.length) : a ≤ blankTo s a ∧ blankTo s a ≤ s.length := by
  have := skipN_le false (s.drop a)
  rw [List.length_drop] at this
  unfold blankTo
  omega
def blankE : Exit := if blankTo s a = s.length then .exit 0 else .ret
theorem blankLoop (ha : a ≤ s.length) (hlen : s.length ≤ 100000) (e : Exit) (he : e = blankE s a) (rest : Heap) (X : Fix) (hP : X.P = Tryd.prog) (hN : X.N = 45) :
    AW X (.loop (loopOf Tryd.prog 15 0)) ⟨envOf [(0, scP)], ovl (runHp c0 c1 c2 c3 s a v l) rest⟩ fun e' S' => e' = e ∧ S' = ⟨envOf [(0, scP)], ovl (runHp c0 c1 c2 c3 s (blankTo s a) v l) rest⟩ :=
  loop_of_segs (P := Tryd.prog) (N := 45) (c := loopOf Tryd.prog 15 0) (fun _ => [(0, scP)]) (fun x _ => runHp c0 c1 c2 c3 s x v l) (fun x => x ≤ s.length ∧ blankTo s x = blankTo s a) (fun x => s.length - x) e [(0, scP)] (fun _ => runHp c0 c1 c2 c3 s (blankTo s a) v l) a ⟨ha, rfl⟩
    (by rw [he]; unfold blankE; split <;> simp)
    (fun rest x hx => by
      rcases Nat.lt_or_ge x s.length with h | h
      · obtain ⟨b, hb, ⟨hw, h2⟩ | ⟨rfl, h2, h3⟩ | ⟨⟨n1, n2, n3, n4, n5⟩, h2⟩⟩ := blank_cases s x h
        · exact .inl ⟨x + 1, ⟨by omega, by rw [h2]; exact hx.2⟩, by omega, fun X hP hN => blankWs c0 c1 c2 c3 s x v l hw h hb hlen rest X hP hN⟩
        · exact .inl ⟨x + runN notNl (s.drop x), ⟨(runN_spec notNl s x hx.1).1, by rw [h2]; exact hx.2⟩, by omega, fun X hP hN => blankRem c0 c1 c2 c3 s x v l h hb hlen rest X hP hN⟩
        · have hxe : blankTo s a = x := by rw [← hx.2, h2]
          have : e = .ret := by rw [he]; unfold blankE; rw [if_neg (by omega)]
          rw [hxe, this]
          exact .inr fun X hP hN => blankOther c0 c1 c2 c3 s x v l n1 n2 n3 n4 n5 h hb rest X hP hN
      · have hxe : x = s.length := by omega
        have hb := blankTo_le s x hx.1
        rw [hx.2] at hb
        have hbe : blankTo s a = s.length := by omega
        have : e = .exit 0 := by rw [he]; unfold blankE; rw [if_pos hbe]
        rw [hbe, this, hxe]
        exact .inr fun X hP hN => blankEnd c0 c1 c2 c3 s v l rest X hP hN) rest X hP hN
noncomputable def blankLH (ha : a ≤ s.length) (hlen : s.length ≤ 100000) (e : Exit) (he : e = blankE s a) : LHint Tryd.prog :=
  ⟨45, loopOf Tryd.prog 15 0, [(0, scP)], fun _ => runHp c0 c1 c2 c3 s a v l, e, [(0, scP)], fun _ => runHp c0 c1 c2 c3 s (blankTo s a) v l, blankLoop c0 c1 c2 c3 s a v l ha hlen e he⟩
/-- blank. -/
theorem blankC (ha : a ≤ s.length) (hlen : s.length ≤ 100000) (rest : Heap) : HCall Tryd.prog 15 [scP] (ovl (runHp c0 c1 c2 c3 s a v l) rest) [] (ovl (runHp c0 c1 c2 c3 s (blankTo s a) v l) rest) := by
  have key : ∀ e, e = blankE s a → (e = .exit 0 ∨ e = .ret) → HCall Tryd.prog 15 [scP] (ovl (runHp c0 c1 c2 c3 s a v l) rest) [] (ovl (runHp c0 c1 c2 c3 s (blankTo s a) v l) rest) := by
    rintro e he (rfl | rfl)
    · exact hcall_of_run okP named { loops := fun f' r => if f' = 15 then (if r = 0 then some (blankLH c0 c1 c2 c3 s a v l ha hlen _ he) else none) else none } 1000 110000 15 (by kernel_rfl)
    · exact hcall_of_run okP named { loops := fun f' r => if f' = 15 then (if r = 0 then some (blankLH c0 c1 c2 c3 s a v l ha hlen _ he) else none) else none } 1000 110000 15 (by kernel_rfl)
  refine key _ rfl ?_
  unfold blankE
  split
  · exact .inl rfl
  · exact .inr rfl
noncomputable def blankCH (ha : a ≤ s.length) (hlen : s.length ≤ 100000) : CHint Tryd.prog :=
  ⟨15, [scP], runHp c0 c1 c2 c3 s a v l, [], runHp c0 c1 c2 c3 s (blankTo s a) v l, fits_of (blankC c0 c1 c2 c3 s a v l ha hlen)⟩
end
end Go.Avm
