/-
  Names: the law's own loop, on data.
-/
import Derived.Test.YtdmjbpkdngmgkaaDoorLexM
set_option linter.unusedSectionVars false
namespace Go.Avm
open Go.Proofs

def pickB (p q r u : Bool) (b : UInt8) : UInt8 := if (p && q) || (r && u) then b else 113
def nmByte (s : List UInt8) (i : Nat) : UInt8 := match s[i]? with
  | some b => pickB (ge8 97 b) (le8 b 122) (ge8 48 b) (le8 b 57) b
  | none => 48
def nmL (s : List UInt8) : Nat → List UInt8
  | 0 => [113]
  | i + 1 => nmL s i ++ [nmByte s i]
theorem nmL_len (s : List UInt8) : ∀ i, (nmL s i).length = i + 1
  | 0 => rfl
  | i + 1 => by rw [nmL, List.length_append, nmL_len s i]; rfl
theorem nmByte_nm (s : List UInt8) (i : Nat) : isNm (nmByte s i) = true := by
  unfold nmByte
  split
  · rename_i b _
    unfold pickB
    split
    · rename_i h
      exact h
    · rfl
  · rfl
theorem nmL_all (s : List UInt8) : ∀ i, ∀ x ∈ nmL s i, isNm x = true
  | 0, x, hx => by simp [nmL] at hx; subst hx; rfl
  | i + 1, x, hx => by
    rw [nmL, List.mem_append] at hx
    rcases hx with hx | hx
    · exact nmL_all s i x hx
    · simp at hx; subst hx; exact nmByte_nm s i
theorem nmL_head (s : List UInt8) : ∀ i, ∃ r, nmL s i = 113 :: r
  | 0 => ⟨[], rfl⟩
  | i + 1 => by
    obtain ⟨r, hr⟩ := nmL_head s i
    exact ⟨r ++ [nmByte s i], by rw [nmL, hr]; rfl⟩

def nmE (s t : List UInt8) (c i : Nat) : List (Nat × AV) := [(0, .d (.str s)), (5, .d (.str t)), (15, dN c), (16, dN i)]
def nmHp (i : Nat) (rest : Heap) : List (Nat × Ent) := [(600044, ⟨(rest 600044).ver + i, none⟩)]
def opsN (p q r u : Bool) : Nat := 21 + (if p then 2 else 0) + (if p && q then 0 else 5 + (if r then 2 else 0) + (if r && u then 0 else 1))
def hByte (P : Program) (b : UInt8) : Hint P := .val (.d (.str [UInt8.ofNat ((b.toNat : Int)).toNat])) (.d (.str [b])) (by simp)
section
variable (s : List UInt8) (c i : Nat)
noncomputable def nmsPr (t : List UInt8) (b x : UInt8) (hi : decide (i < c) = true) (hj : i < s.length) (hb : s[((i : Nat) : Int).toNat]? = some b) (p q r u : Bool) (h1 : ge8 97 b = p) (h2 : le8 b 122 = q) (h3 : ge8 48 b = r) (h4 : le8 b 57 = u)
    (ht : t.length + [x].length ≤ 9223372036854775807) (hs : i < 1099511627776) : Par Tryd.prog :=
  { hint := fun f k => if f = 8 then (if k = 17 then some (hLt Tryd.prog i c true hi) else if k = 22 then some (hLt Tryd.prog i s.length true (by simpa using hj)) else if k = 25 then some (.sidx s (i : Int) b (by omega) hb)
      else if k = 27 then some (hB Tryd.prog _ p h1) else if k = 30 then some (hB Tryd.prog _ q h2) else if k = 35 then some (hB Tryd.prog _ r h3) else if k = 38 then some (hB Tryd.prog _ u h4) else if k = 45 then some (hByte Tryd.prog x)
      else if k = 46 then some (.cat t [x] ht) else if k = 47 then some (hSucc Tryd.prog i hs) else none) else none }
theorem nmRound (t : List UInt8) (b : UInt8) (hi : decide (i < c) = true) (hj : i < s.length) (hb : s[((i : Nat) : Int).toNat]? = some b) (p q r u : Bool) (h1 : ge8 97 b = p) (h2 : le8 b 122 = q) (h3 : ge8 48 b = r) (h4 : le8 b 57 = u)
    (ht : t.length + 1 ≤ 9223372036854775807) (hs : i < 1099511627776) (rest : Heap) (X : Fix) (hP : X.P = Tryd.prog) (hN : X.N = 93) :
    AW X (loopOf Tryd.prog 8 5) ⟨envOf (nmE s t c i), ovl (nmHp i rest) rest⟩ fun e' S' => e' = .normal ∧ Weak X S' ⟨envOf (nmE s (t ++ [pickB p q r u b]) c (i + 1)), ovl (nmHp (i + 1) rest) rest⟩ := by
  cases p <;> cases q <;> cases r <;> cases u
  · exact seg okP named (nmsPr s c i t b (pickB false false false false b) hi hj hb _ _ _ _ h1 h2 h3 h4 ht hs) 1000 8 (600000 - 93 * opsN false false false false) 93 (by kernel_rfl) X hP hN
  · exact seg okP named (nmsPr s c i t b (pickB false false false true b) hi hj hb _ _ _ _ h1 h2 h3 h4 ht hs) 1000 8 (600000 - 93 * opsN false false false true) 93 (by kernel_rfl) X hP hN
  · exact seg okP named (nmsPr s c i t b (pickB false false true false b) hi hj hb _ _ _ _ h1 h2 h3 h4 ht hs) 1000 8 (600000 - 93 * opsN false false true false) 93 (by kernel_rfl) X hP hN
  · exact seg okP named (nmsPr s c i t b (pickB false false true true b) hi hj hb _ _ _ _ h1 h2 h3 h4 ht hs) 1000 8 (600000 - 93 * opsN false false true true) 93 (by kernel_rfl) X hP hN
  · exact seg okP named (nmsPr s c i t b (pickB false true false false b) hi hj hb _ _ _ _ h1 h2 h3 h4 ht hs) 1000 8 (600000 - 93 * opsN false true false false) 93 (by kernel_rfl) X hP hN
  · exact seg okP named (nmsPr s c i t b (pickB false true false true b) hi hj hb _ _ _ _ h1 h2 h3 h4 ht hs) 1000 8 (600000 - 93 * opsN false true false true) 93 (by kernel_rfl) X hP hN
  · exact seg okP named (nmsPr s c i t b (pickB false true true false b) hi hj hb _ _ _ _ h1 h2 h3 h4 ht hs) 1000 8 (600000 - 93 * opsN false true true false) 93 (by kernel_rfl) X hP hN
  · exact seg okP named (nmsPr s c i t b (pickB false true true true b) hi hj hb _ _ _ _ h1 h2 h3 h4 ht hs) 1000 8 (600000 - 93 * opsN false true true true) 93 (by kernel_rfl) X hP hN
  · exact seg okP named (nmsPr s c i t b (pickB true false false false b) hi hj hb _ _ _ _ h1 h2 h3 h4 ht hs) 1000 8 (600000 - 93 * opsN true false false false) 93 (by kernel_rfl) X hP hN
  · exact seg okP named (nmsPr s c i t b (pickB true false false true b) hi hj hb _ _ _ _ h1 h2 h3 h4 ht hs) 1000 8 (600000 - 93 * opsN true false false true) 93 (by kernel_rfl) X hP hN
  · exact seg okP named (nmsPr s c i t b (pickB true false true false b) hi hj hb _ _ _ _ h1 h2 h3 h4 ht hs) 1000 8 (600000 - 93 * opsN true false true false) 93 (by kernel_rfl) X hP hN
  · exact seg okP named (nmsPr s c i t b (pickB true false true true b) hi hj hb _ _ _ _ h1 h2 h3 h4 ht hs) 1000 8 (600000 - 93 * opsN true false true true) 93 (by kernel_rfl) X hP hN
  · exact seg okP named (nmsPr s c i t b (pickB true true false false b) hi hj hb _ _ _ _ h1 h2 h3 h4 ht hs) 1000 8 (600000 - 93 * opsN true true false false) 93 (by kernel_rfl) X hP hN
  · exact seg okP named (nmsPr s c i t b (pickB true true false true b) hi hj hb _ _ _ _ h1 h2 h3 h4 ht hs) 1000 8 (600000 - 93 * opsN true true false true) 93 (by kernel_rfl) X hP hN
  · exact seg okP named (nmsPr s c i t b (pickB true true true false b) hi hj hb _ _ _ _ h1 h2 h3 h4 ht hs) 1000 8 (600000 - 93 * opsN true true true false) 93 (by kernel_rfl) X hP hN
  · exact seg okP named (nmsPr s c i t b (pickB true true true true b) hi hj hb _ _ _ _ h1 h2 h3 h4 ht hs) 1000 8 (600000 - 93 * opsN true true true true) 93 (by kernel_rfl) X hP hN
theorem nmRoundO (t : List UInt8) (hi : decide (i < c) = true) (hj : decide (i < s.length) = false) (ht : t.length + [(48 : UInt8)].length ≤ 9223372036854775807) (hs : i < 1099511627776) (rest : Heap) (X : Fix) (hP : X.P = Tryd.prog) (hN : X.N = 93) :
    AW X (loopOf Tryd.prog 8 5) ⟨envOf (nmE s t c i), ovl (nmHp i rest) rest⟩ fun e' S' => e' = .normal ∧ Weak X S' ⟨envOf (nmE s (t ++ [48]) c (i + 1)), ovl (nmHp (i + 1) rest) rest⟩ :=
  seg okP named { hint := fun f k => if f = 8 then (if k = 17 then some (hLt Tryd.prog i c true hi) else if k = 22 then some (hLt Tryd.prog i s.length false hj) else if k = 46 then some (.cat t [48] ht) else if k = 47 then some (hSucc Tryd.prog i hs) else none) else none } 1000 8 (600000 - 93 * 24) 93 (by kernel_rfl) X hP hN
theorem nmStop (t : List UInt8) (rest : Heap) (X : Fix) (hP : X.P = Tryd.prog) (hN : X.N = 93) :
    AW X (loopOf Tryd.prog 8 5) ⟨envOf (nmE s t c c), ovl (nmHp c rest) rest⟩ fun e' S' => e' = .exit 0 ∧ Weak X S' ⟨envOf [(5, .d (.str t))], ovl (nmHp c rest) rest⟩ :=
  seg okP named { hint := fun f k => if f = 8 then (if k = 17 then some (hLt Tryd.prog c c false (by simp)) else none) else none } 1000 8 600000 93 (by kernel_rfl) X hP hN
theorem nmLoop (hc : c ≤ 1000) (rest : Heap) (X : Fix) (hP : X.P = Tryd.prog) (hN : X.N = 93) :
    AW X (.loop (loopOf Tryd.prog 8 5)) ⟨envOf (nmE s [113] c 0), ovl (nmHp 0 rest) rest⟩ fun e' S' => e' = .exit 0 ∧ S' = ⟨envOf [(5, .d (.str (nmL s c)))], ovl (nmHp c rest) rest⟩ :=
  loop_of_segs (P := Tryd.prog) (N := 93) (c := loopOf Tryd.prog 8 5) (fun i => nmE s (nmL s i) c i) (fun i rest => nmHp i rest) (fun i => i ≤ c) (fun i => c - i) (.exit 0) [(5, .d (.str (nmL s c)))] (fun rest => nmHp c rest) 0 (Nat.zero_le _) (by simp)
    (fun rest i hi => by
      rcases Nat.lt_or_ge i c with h | h
      · refine .inl ⟨i + 1, h, by omega, fun X hP hN => ?_⟩
        have hl := nmL_len s i
        rcases Nat.lt_or_ge i s.length with hj | hj
        · have hb := List.getElem?_eq_getElem hj
          have hx : nmL s (i + 1) = nmL s i ++ [pickB (ge8 97 s[i]) (le8 s[i] 122) (ge8 48 s[i]) (le8 s[i] 57) s[i]] := by
            rw [nmL, nmByte, hb]
          show AW X (loopOf Tryd.prog 8 5) ⟨envOf (nmE s (nmL s i) c i), ovl (nmHp i rest) rest⟩ fun e' S' => e' = .normal ∧ Weak X S' ⟨envOf (nmE s (nmL s (i + 1)) c (i + 1)), ovl (nmHp (i + 1) rest) rest⟩
          rw [hx]
          exact nmRound s c i (nmL s i) s[i] (decide_eq_true h) hj (by rw [Int.toNat_natCast]; exact hb) _ _ _ _ rfl rfl rfl rfl (by omega) (by omega) rest X hP hN
        · have hx : nmL s (i + 1) = nmL s i ++ [48] := by
            rw [nmL, nmByte, List.getElem?_eq_none hj]
          show AW X (loopOf Tryd.prog 8 5) ⟨envOf (nmE s (nmL s i) c i), ovl (nmHp i rest) rest⟩ fun e' S' => e' = .normal ∧ Weak X S' ⟨envOf (nmE s (nmL s (i + 1)) c (i + 1)), ovl (nmHp (i + 1) rest) rest⟩
          rw [hx]
          exact nmRoundO s c i (nmL s i) (by simpa using h) (by simpa using hj) (by rw [List.length_singleton]; omega) (by omega) rest X hP hN
      · have : i = c := by omega
        subst this
        exact .inr fun X hP hN => nmStop s i (nmL s i) rest X hP hN) rest X hP hN
noncomputable def nmLH (hc : c ≤ 1000) : LHint Tryd.prog := ⟨93, loopOf Tryd.prog 8 5, nmE s [113] c 0, fun rest => nmHp 0 rest, .exit 0, [(5, .d (.str (nmL s c)))], fun rest => nmHp c rest, nmLoop s c hc⟩
end

/-! ### What is scanned of a name -/
theorem tw_full (p : UInt8 → Bool) : ∀ (l : List UInt8), (∀ x ∈ l, p x = true) → l.takeWhile p = l
  | [], _ => rfl
  | b :: r, h => by rw [List.takeWhile_cons, if_pos (h b (by simp)), tw_full p r fun x hx => h x (by simp [hx])]
theorem notWord {r : List UInt8} : isWord (113 :: r) = false := by
  simp [isWord, wl]
theorem scanName (r : List UInt8) (h : ∀ x ∈ 113 :: r, isNm x = true) (hl : (113 :: r).length ≤ 20000) :
    scanRes (113 :: r) = if 12 < (113 :: r).length then ([], 0, 2) else ([tokD 1 0 (113 :: r) 0, tokD 0 (113 :: r).length [] 0], 0, 0) := by
  have hs : skipN false (113 :: r) = 0 := rfl
  have ht : tokL (113 :: r) = if 12 < (113 :: r).length then .error 2 else .ok (1, 113 :: r, 0) := by
    rw [tokL, if_neg (by decide), if_pos (by decide), tw_full isNm _ h, notWord, if_neg (by simp)]
  have hd : (113 :: r).drop (113 :: r).length = [] := List.drop_eq_nil_iff.2 (Nat.le_refl _)
  unfold scanRes scanF
  rw [if_neg (by omega), hs, List.drop_zero, scanB, ht]
  by_cases h12 : 12 < (113 :: r).length
  · rw [if_pos h12, if_pos h12]
    rfl
  · rw [if_neg h12, if_neg h12]
    dsimp only
    rw [hd]
    rfl

/-! ### The law -/
noncomputable def namePr (s : List UInt8) (n c : Nat) (hc : c ≤ 1000) (hn : (n : Int).tmod 20 = (c : Int)) (L : List D) (a e : Int) (g : Bool) (hg : decide (12 < ((nmL s c).length : Int)) = g) (hp : Pure Tryd.prog 9 [.str (nmL s c)] [.ro L, .int .i64 a, .int .i64 e])
    (h1 : Pure Tryd.prog 13 [.str (nmL s c)] [.bool false]) (h2 : Pure Tryd.prog 14 [.str (nmL s c)] [.bool false]) : Par Tryd.prog :=
  { hint := fun f k => if f = 8 then (if k = 11 then some (.call 11 [] [.bool true] awakeP) else if k = 14 then some (.val (.d (.int .u8 ((n : Int).tmod 20))) (.d (.int .u8 (c : Int))) (by rw [hn])) else if k = 15 then some (.val (dI (IntKind.i64.wrap (c : Int))) (dN c) (by rw [IntWalk.i64_in _ (by omega)]))
      else if k = 50 then some (.call 9 [.str (nmL s c)] [.ro L, .int .i64 a, .int .i64 e] hp) else if k = 56 then some (hB Tryd.prog _ g hg) else if k = 65 then some (.call 13 [.str (nmL s c)] [.bool false] h1)
      else if k = 81 then some (hB Tryd.prog (nmL s c == nmL s c) true (by simp)) else if k = 90 then some (.call 14 [.str (nmL s c)] [.bool false] h2) else none) else none
    loops := fun f r => if f = 8 then (if r = 5 then some (nmLH s c hc) else none) else none }
theorem namesLaw (s : List UInt8) (n : Nat) (hn : n < 256) : Pure Tryd.prog 8 [.str s, .int .u8 (n : Int)] [.bool true] := by
  obtain ⟨c, hc, hc20⟩ : ∃ c : Nat, (n : Int).tmod 20 = (c : Int) ∧ c < 20 := ⟨n % 20, by rw [Int.tmod_eq_emod_of_nonneg (by omega)]; omega, by omega⟩
  obtain ⟨r, hr⟩ := nmL_head s c
  have hall := nmL_all s c
  have hlen := nmL_len s c
  have hw : findD (.str (nmL s c)) wordsE 0 = some none ∧ ∀ (j : Nat) (x : List UInt8), wl[j]? = some x → (nmL s c == x) = false := by
    rcases findD_words (nmL s c) wl wordsE 0 rfl with ⟨i, g1, g2, g3⟩ | ⟨g1, g2⟩
    · have : isWord (nmL s c) = true := by
        simp only [isWord, List.contains_eq_mem, decide_eq_true_eq]
        exact List.mem_of_getElem? g1
      rw [hr, notWord] at this
      cases this
    · exact ⟨g2, g1⟩
  have hsc := scanC (nmL s c)
  have he : scanRes (nmL s c) = if 12 < (nmL s c).length then ([], 0, 2) else ([tokD 1 0 (nmL s c) 0, tokD 0 (nmL s c).length [] 0], 0, 0) := by
    rw [hr] at hall hlen ⊢
    exact scanName r hall (by omega)
  rw [he] at hsc
  by_cases h12 : 12 < (nmL s c).length
  · rw [if_pos h12] at hsc
    exact pure_of_run okP named (namePr s n c (by omega) hc [] 0 2 true (by simp only [decide_eq_true_eq]; omega) hsc (wordF _ hw.1) (refF _ hw.2)) 1000 (by kernel_rfl)
  · rw [if_neg h12] at hsc
    exact pure_of_run okP named (namePr s n c (by omega) hc _ 0 0 false (by simp only [decide_eq_false_iff_not]; omega) hsc (wordF _ hw.1) (refF _ hw.2)) 1000 (by kernel_rfl)
end Go.Avm
