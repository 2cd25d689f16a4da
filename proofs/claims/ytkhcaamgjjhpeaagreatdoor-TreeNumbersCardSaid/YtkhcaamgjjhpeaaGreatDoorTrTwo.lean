/-
  Texts as programs: Parse, for every text.
-/
import Derived.Test.YtkhcaamgjjhpeaaGreatDoorTrOne
import Derived.Test.YtkhcaamgjjhpeaaGreatDoorTlTwo
import Derived.Test.YtkhcaamgjjhpeaaGreatDoorAvmT
set_option linter.unusedSectionVars false
namespace Go.Avm
open Go.Proofs

theorem scanB_cons (n : Nat) (b : UInt8) (r : List UInt8) (a : Nat) : scanB (n + 1) (b :: r) a = match tokL (b :: r) with
    | .error k => .error (a, k)
    | .ok t => match scanB n (((b :: r).drop t.2.1.length).drop (skipN false ((b :: r).drop t.2.1.length))) (a + t.2.1.length + skipN false ((b :: r).drop t.2.1.length)) with
      | .error e => .error e
      | .ok ts => .ok ((a, t) :: ts) := rfl
theorem tokL_err {r : List UInt8} {k : Int} (h : tokL r = .error k) : k ≠ 0 := by
  cases r with
  | nil => simp only [tokL, Except.error.injEq] at h; omega
  | cons b r =>
    rw [tokL] at h
    repeat' split at h
    all_goals first
      | (cases h; done)
      | (simp only [Except.error.injEq] at h; omega)
theorem scanB_err : ∀ (n : Nat) (r : List UInt8) (a p : Nat) (k : Int), scanB n r a = .error (p, k) → k ≠ 0
  | 0, r, a, p, k, h => by cases h
  | n + 1, [], a, p, k, h => by cases h
  | n + 1, b :: r, a, p, k, h => by
    rw [scanB_cons] at h
    cases ht : tokL (b :: r) with
    | error k' =>
      rw [ht] at h
      simp only [Except.error.injEq, Prod.mk.injEq] at h
      obtain ⟨_, rfl⟩ := h
      exact tokL_err ht
    | ok t =>
      rw [ht] at h
      dsimp only at h
      split at h
      · rename_i e he
        cases h
        exact scanB_err n _ _ p k he
      · cases h
theorem scanB_len : ∀ (n : Nat) (r : List UInt8) (a : Nat) (ts : List (Nat × Tok)), scanB n r a = .ok ts → ts.length ≤ n
  | 0, r, a, ts, h => by cases h; exact Nat.le_refl _
  | n + 1, [], a, ts, h => by cases h; exact Nat.zero_le _
  | n + 1, b :: r, a, ts, h => by
    rw [scanB_cons] at h
    cases ht : tokL (b :: r) with
    | error k' => rw [ht] at h; cases h
    | ok t =>
      rw [ht] at h
      dsimp only at h
      split at h
      · cases h
      · rename_i ts1 hs
        cases h
        have := scanB_len n _ _ ts1 hs
        simp only [List.length_cons]; omega

theorem toks_mk (l : List T) (e : T) (he : e.k = 0) (hl : l.length + 1 < 1000000) : Toks (l ++ [e]) :=
  ⟨by simpa using hl, fun i x hx hk => by
    rw [List.length_append, List.length_singleton]
    rcases Nat.lt_or_ge i l.length with h | h
    · omega
    · rw [List.getElem?_append_right h] at hx
      cases hi : i - l.length with
      | zero =>
        rw [hi] at hx
        simp only [List.getElem?_cons_zero, Option.some.injEq] at hx
        rw [← hx, he] at hk
        exact absurd rfl hk
      | succ j => rw [hi] at hx; simp at hx⟩
/-- The tokens of a text, its end among them. -/
def tkT (x : Nat × Tok) : T := ⟨x.2.1, (x.1 : Int), x.2.2.1, x.2.2.2⟩
def toksOf (ts : List (Nat × Tok)) (n : Nat) : List T := ts.map tkT ++ [⟨0, (n : Int), [], 0⟩]
theorem toksD_of (ts : List (Nat × Tok)) (n : Nat) : toksD (toksOf ts n) = .ro (ts.map tokOf ++ [tokD 0 n [] 0]) := by
  simp only [toksD, toksOf, List.map_append, List.map_map]
  rfl
theorem toksOf_ok {ts : List (Nat × Tok)} {n : Nat} (h : ts.length + 1 < 1000000) : Toks (toksOf ts n) := toks_mk _ _ rfl (by simpa using h)
theorem toksOf_pos (ts : List (Nat × Tok)) (n : Nat) : 0 < (toksOf ts n).length := by simp [toksOf]
/-- The program of a text, or the fault. -/
def treeOf (ts : List (Nat × Tok)) (n : Nat) : Res (List Fn) := sProg (toksOf ts n) (fuel (toksOf ts n))
def parseRes (s : List UInt8) : List D :=
  if 20000 < s.length then [.agg [.ro []], .int .i64 0, .int .i64 2] else match scanF s with
    | .error (p, k) => [.agg [.ro []], .int .i64 (p : Int), .int .i64 k]
    | .ok ts => prOut (treeOf ts s.length)
theorem scanF_len {s : List UInt8} {ts : List (Nat × Tok)} (h : scanF s = .ok ts) : ts.length ≤ s.length + 1 := scanB_len _ _ _ _ h
theorem parsePure (s : List UInt8) : Pure Tryz.prog 9 [.str s] (parseRes s) := by
  have hs := scanC s
  unfold parseRes
  unfold scanRes at hs
  by_cases h : 20000 < s.length
  · rw [if_pos h] at hs ⊢
    exact parseE (by decide) hs
  · rw [if_neg h] at hs ⊢
    cases he : scanF s with
    | error e =>
      obtain ⟨p, k⟩ := e
      rw [he] at hs
      have hk := scanB_err _ _ _ _ _ he
      exact parseE (by simpa using hk) hs
    | ok ts =>
      rw [he] at hs
      have hl := scanF_len he
      have hok := toksOf_ok (ts := ts) (n := s.length) (by omega)
      exact parseC hok (toksOf_pos _ _) (by rw [toksD_of]; exact hs) _ (prog_no hok (toksOf_pos _ _))
end Go.Avm
/-
  Texts as programs: the document's examples, through Parse's contract.
-/
set_option linter.unusedSectionVars false
namespace Go.Avm
open Go.Proofs
set_option maxRecDepth 100000 in
theorem awP1 : Pure Tryz.prog 9 [.str [102, 110, 32, 109, 97, 105, 110, 40, 41, 58, 32, 105, 110, 116, 32, 123, 32, 114, 101, 116, 117, 114, 110, 32, 49, 32, 43, 32, 50, 32, 42, 32, 51, 59, 32, 125]] [.agg [.ro [.agg [.str [109, 97, 105, 110], .ro [], .int .u8 1, .ro [.agg [.int .u8 6, .int .i64 1, .str [], .int .u8 0, .int .i64 0, .int .i64 17, .ro [.agg [.int .u8 9, .int .u8 1, .str [], .int .i64 0, .int .i64 26, .ro [.agg [.int .u8 1, .int .u8 0, .str [], .int .i64 1, .int .i64 24, .ro []], .agg [.int .u8 9, .int .u8 3, .str [], .int .i64 0, .int .i64 30, .ro [.agg [.int .u8 1, .int .u8 0, .str [], .int .i64 2, .int .i64 28, .ro []], .agg [.int .u8 1, .int .u8 0, .str [], .int .i64 3, .int .i64 32, .ro []]]]]]], .ro [], .ro []]], .int .i64 0]]], .int .i64 0, .int .i64 0] := by
  have h := parsePure [102, 110, 32, 109, 97, 105, 110, 40, 41, 58, 32, 105, 110, 116, 32, 123, 32, 114, 101, 116, 117, 114, 110, 32, 49, 32, 43, 32, 50, 32, 42, 32, 51, 59, 32, 125]
  rw [show parseRes [102, 110, 32, 109, 97, 105, 110, 40, 41, 58, 32, 105, 110, 116, 32, 123, 32, 114, 101, 116, 117, 114, 110, 32, 49, 32, 43, 32, 50, 32, 42, 32, 51, 59, 32, 125] = [.agg [.ro [.agg [.str [109, 97, 105, 110], .ro [], .int .u8 1, .ro [.agg [.int .u8 6, .int .i64 1, .str [], .int .u8 0, .int .i64 0, .int .i64 17, .ro [.agg [.int .u8 9, .int .u8 1, .str [], .int .i64 0, .int .i64 26, .ro [.agg [.int .u8 1, .int .u8 0, .str [], .int .i64 1, .int .i64 24, .ro []], .agg [.int .u8 9, .int .u8 3, .str [], .int .i64 0, .int .i64 30, .ro [.agg [.int .u8 1, .int .u8 0, .str [], .int .i64 2, .int .i64 28, .ro []], .agg [.int .u8 1, .int .u8 0, .str [], .int .i64 3, .int .i64 32, .ro []]]]]]], .ro [], .ro []]], .int .i64 0]]], .int .i64 0, .int .i64 0] by kernel_rfl] at h
  exact h
set_option maxRecDepth 100000 in
theorem awP2 : Pure Tryz.prog 9 [.str [102, 110, 32, 102, 40, 32]] [.agg [.ro []], .int .i64 6, .int .i64 4] := by
  have h := parsePure [102, 110, 32, 102, 40, 32]
  rw [show parseRes [102, 110, 32, 102, 40, 32] = [.agg [.ro []], .int .i64 6, .int .i64 4] by kernel_rfl] at h
  exact h
set_option maxRecDepth 100000 in
theorem awP3 : Pure Tryz.prog 9 [.str [102, 110, 32, 109, 97, 105, 110, 40, 41, 58, 32, 105, 110, 116, 32, 123, 32, 114, 101, 116, 117, 114, 110, 32, 40, 49, 32, 45, 32, 50, 41, 32, 45, 32, 40, 51, 32, 45, 32, 52, 41, 59, 32, 125]] [.agg [.ro [.agg [.str [109, 97, 105, 110], .ro [], .int .u8 1, .ro [.agg [.int .u8 6, .int .i64 1, .str [], .int .u8 0, .int .i64 0, .int .i64 17, .ro [.agg [.int .u8 9, .int .u8 2, .str [], .int .i64 0, .int .i64 32, .ro [.agg [.int .u8 9, .int .u8 2, .str [], .int .i64 0, .int .i64 27, .ro [.agg [.int .u8 1, .int .u8 0, .str [], .int .i64 1, .int .i64 25, .ro []], .agg [.int .u8 1, .int .u8 0, .str [], .int .i64 2, .int .i64 29, .ro []]]], .agg [.int .u8 9, .int .u8 2, .str [], .int .i64 0, .int .i64 37, .ro [.agg [.int .u8 1, .int .u8 0, .str [], .int .i64 3, .int .i64 35, .ro []], .agg [.int .u8 1, .int .u8 0, .str [], .int .i64 4, .int .i64 39, .ro []]]]]]], .ro [], .ro []]], .int .i64 0]]], .int .i64 0, .int .i64 0] := by
  have h := parsePure [102, 110, 32, 109, 97, 105, 110, 40, 41, 58, 32, 105, 110, 116, 32, 123, 32, 114, 101, 116, 117, 114, 110, 32, 40, 49, 32, 45, 32, 50, 41, 32, 45, 32, 40, 51, 32, 45, 32, 52, 41, 59, 32, 125]
  rw [show parseRes [102, 110, 32, 109, 97, 105, 110, 40, 41, 58, 32, 105, 110, 116, 32, 123, 32, 114, 101, 116, 117, 114, 110, 32, 40, 49, 32, 45, 32, 50, 41, 32, 45, 32, 40, 51, 32, 45, 32, 52, 41, 59, 32, 125] = [.agg [.ro [.agg [.str [109, 97, 105, 110], .ro [], .int .u8 1, .ro [.agg [.int .u8 6, .int .i64 1, .str [], .int .u8 0, .int .i64 0, .int .i64 17, .ro [.agg [.int .u8 9, .int .u8 2, .str [], .int .i64 0, .int .i64 32, .ro [.agg [.int .u8 9, .int .u8 2, .str [], .int .i64 0, .int .i64 27, .ro [.agg [.int .u8 1, .int .u8 0, .str [], .int .i64 1, .int .i64 25, .ro []], .agg [.int .u8 1, .int .u8 0, .str [], .int .i64 2, .int .i64 29, .ro []]]], .agg [.int .u8 9, .int .u8 2, .str [], .int .i64 0, .int .i64 37, .ro [.agg [.int .u8 1, .int .u8 0, .str [], .int .i64 3, .int .i64 35, .ro []], .agg [.int .u8 1, .int .u8 0, .str [], .int .i64 4, .int .i64 39, .ro []]]]]]], .ro [], .ro []]], .int .i64 0]]], .int .i64 0, .int .i64 0] by kernel_rfl] at h
  exact h
end Go.Avm
/-
  Texts as programs: the document's examples.
-/
set_option linter.unusedSectionVars false
namespace Go.Avm
open Go.Proofs
set_option maxRecDepth 100000 in
theorem awS1 : Pure Tryz.prog 25 [.agg [.ro [.agg [.str [109, 97, 105, 110], .ro [], .int .u8 1, .ro [.agg [.int .u8 6, .int .i64 1, .str [], .int .u8 0, .int .i64 0, .int .i64 17, .ro [.agg [.int .u8 9, .int .u8 1, .str [], .int .i64 0, .int .i64 26, .ro [.agg [.int .u8 1, .int .u8 0, .str [], .int .i64 1, .int .i64 24, .ro []], .agg [.int .u8 9, .int .u8 3, .str [], .int .i64 0, .int .i64 30, .ro [.agg [.int .u8 1, .int .u8 0, .str [], .int .i64 2, .int .i64 28, .ro []], .agg [.int .u8 1, .int .u8 0, .str [], .int .i64 3, .int .i64 32, .ro []]]]]]], .ro [], .ro []]], .int .i64 0]]]] [.str [102, 110, 32, 109, 97, 105, 110, 40, 41, 58, 32, 105, 110, 116, 32, 123, 10, 32, 32, 114, 101, 116, 117, 114, 110, 32, 49, 32, 43, 32, 50, 32, 42, 32, 51, 59, 10, 125, 10]] :=
  pure_of_exec okP named (fun _ _ => false) (fun g => g == 9) 100000 (by kernel_rfl)
set_option maxRecDepth 100000 in
theorem awS3 : Pure Tryz.prog 25 [.agg [.ro [.agg [.str [109, 97, 105, 110], .ro [], .int .u8 1, .ro [.agg [.int .u8 6, .int .i64 1, .str [], .int .u8 0, .int .i64 0, .int .i64 17, .ro [.agg [.int .u8 9, .int .u8 2, .str [], .int .i64 0, .int .i64 32, .ro [.agg [.int .u8 9, .int .u8 2, .str [], .int .i64 0, .int .i64 27, .ro [.agg [.int .u8 1, .int .u8 0, .str [], .int .i64 1, .int .i64 25, .ro []], .agg [.int .u8 1, .int .u8 0, .str [], .int .i64 2, .int .i64 29, .ro []]]], .agg [.int .u8 9, .int .u8 2, .str [], .int .i64 0, .int .i64 37, .ro [.agg [.int .u8 1, .int .u8 0, .str [], .int .i64 3, .int .i64 35, .ro []], .agg [.int .u8 1, .int .u8 0, .str [], .int .i64 4, .int .i64 39, .ro []]]]]]], .ro [], .ro []]], .int .i64 0]]]] [.str [102, 110, 32, 109, 97, 105, 110, 40, 41, 58, 32, 105, 110, 116, 32, 123, 10, 32, 32, 114, 101, 116, 117, 114, 110, 32, 49, 32, 45, 32, 50, 32, 45, 32, 40, 51, 32, 45, 32, 52, 41, 59, 10, 125, 10]] :=
  pure_of_exec okP named (fun _ _ => false) (fun g => g == 9) 100000 (by kernel_rfl)
set_option maxRecDepth 100000 in
theorem awake02 : Pure Tryz.prog 11 [] [.bool true] :=
  pure_of_run okP named { hint := tabH Tryz.prog [(11, 11, .call 9 _ _ awP1), (11, 16, .call 9 _ _ awP2), (11, 21, .call 9 _ _ awP3), (11, 35, .call 25 _ _ awS1), (11, 52, .call 25 _ _ awS3)] } 2000 (by kernel_rfl)
end Go.Avm
/-
  The law of numbers: what 'numbered' answers where numbers and places are right.
-/
set_option linter.unusedSectionVars false
namespace Go.Avm
open Go.Proofs

/-- Statements have the numbers that come next, and stand one behind the other. -/
inductive NumL : List St' → Int → Int → Int → Int → Prop
  | nil (n a : Int) : NumL [] n a n a
  | cons {k id : Int} {nm : List UInt8} {ty v p : Int} {es : List Ex} {bd el r : List St'} {a n1 a1 n2 a2 n3 a3 : Int} (h : a < p) (lb : bd.length < 1000000) (le : el.length < 1000000) (hb : NumL bd (w64 (id + 1)) p n1 a1) (he : NumL el n1 a1 n2 a2) (hr : NumL r n2 a2 n3 a3) : NumL (.mk k id nm ty v p es bd el :: r) id a n3 a3
abbrev nuE (n a : Int) : List (Nat × Ent) := [(710006, ⟨1, some (.arr 1 [dI n])⟩), (710044, ⟨1, some (.arr 1 [dI a])⟩)]
def nuL (f : List St') (i : Nat) : List (Nat × AV) := [(1, pC 710006), (2, pC 710044), (9, .d (.ro (stL f))), (10, dN f.length), (11, dN i)]
abbrev nuR : List (Nat × AV) := [(1, pC 710006)]
theorem stL_get {f : List St'} {i : Nat} {x : St'} (h : f[i]? = some x) : (stL f)[((i : Nat) : Int).toNat]? = some (stD x) := by
  rw [Int.toNat_natCast, stL_map, List.getElem?_map, h]; rfl
section
variable (f : List St') (i : Nat)
theorem nuStop (n a : Int) : ∀ (rest : Heap) (X : Fix), X.P = Tryz.prog → X.N = 53 → AW X (loopOf Tryz.prog 17 2) ⟨envOf (nuL f f.length), ovl (nuE n a) rest⟩ fun e' S' => e' = .exit 0 ∧ S' = ⟨envOf nuR, ovl (nuE n a) rest⟩ :=
  segC okP named { hint := tabH Tryz.prog [(17, 12, hLt Tryz.prog f.length f.length false (by simp))] } 2000 17 3000 53 1000000 ([]) ⟨rfl, rfl, rfl, by kernel_rfl, by kernel_rfl, by kernel_rfl⟩ (by kernel_rfl) (by kernel_rfl) (fun _ => by kernel_rfl)
theorem nuGo (hf : f.length < 1000000) (hi : i < f.length) {k id : Int} {nm : List UInt8} {ty v p : Int} {es : List Ex} {bd el : List St'} (hx : f[i]? = some (.mk k id nm ty v p es bd el)) {a n1 a1 n2 a2 : Int} (h : a < p)
    (cb : ∀ rest : Heap, HCall Tryz.prog 17 [.d (.ro (stL bd)), pC 710006, pC 710044] (ovl (nuE (w64 (id + 1)) p) rest) ([.bool true].map .d) (ovl (nuE n1 a1) rest)) (ce : ∀ rest : Heap, HCall Tryz.prog 17 [.d (.ro (stL el)), pC 710006, pC 710044] (ovl (nuE n1 a1) rest) ([.bool true].map .d) (ovl (nuE n2 a2) rest)) :
    ∀ (rest : Heap) (X : Fix), X.P = Tryz.prog → X.N = 53 → AW X (loopOf Tryz.prog 17 2) ⟨envOf (nuL f i), ovl (nuE id a) rest⟩ fun e' S' => e' = .normal ∧ S' = ⟨envOf (nuL f (i + 1)), ovl (nuE n2 a2) rest⟩ :=
  segC okP named { hint := tabH Tryz.prog [(17, 12, hLt Tryz.prog i f.length true (by simpa using hi)), (17, 13, .idx (stL f) ((i : Nat) : Int) (stD (.mk k id nm ty v p es bd el)) (by omega) (stL_get hx)), (17, 20, hB Tryz.prog (id != id) false (by simp)), (17, 27, hB Tryz.prog (decide (p ≤ a)) false (by simp; omega)), (17, 52, hSucc Tryz.prog i (by omega))], calls := tabC Tryz.prog [(17, 42, 4802, cOf cb), (17, 49, 5120, cOf ce)] } 2000 17 3000 53 1000000 ([]) ⟨rfl, rfl, rfl, by kernel_rfl, by kernel_rfl, by kernel_rfl⟩ (by kernel_rfl) (by kernel_rfl) (fun _ => by kernel_rfl)
end
noncomputable def nuLH {f : List St'} {n a n2 a2 : Int} (h : ∀ (rest : Heap) (X : Fix), X.P = Tryz.prog → X.N = 53 → LW X (loopOf Tryz.prog 17 2) ⟨envOf (nuL f 0), ovl (nuE n a) rest⟩ fun e' S' => e' = .exit 0 ∧ S' = ⟨envOf nuR, ovl (nuE n2 a2) rest⟩) : LHint Tryz.prog :=
  ⟨53, loopOf Tryz.prog 17 2, nuL f 0, fun _ => nuE n a, .exit 0, nuR, fun _ => nuE n2 a2, fun rest X hP hN => (h rest X hP hN).aw⟩
theorem nuCall {f : List St'} {n a n2 a2 : Int} (h : ∀ (rest : Heap) (X : Fix), X.P = Tryz.prog → X.N = 53 → LW X (loopOf Tryz.prog 17 2) ⟨envOf (nuL f 0), ovl (nuE n a) rest⟩ fun e' S' => e' = .exit 0 ∧ S' = ⟨envOf nuR, ovl (nuE n2 a2) rest⟩) :
    ∀ rest : Heap, HCall Tryz.prog 17 [.d (.ro (stL f)), pC 710006, pC 710044] (ovl (nuE n a) rest) ([.bool true].map .d) (ovl (nuE n2 a2) rest) :=
  hclean_of_run okP named { loops := fun g q => if g = 17 then (if q = 2 then some (nuLH h) else none) else none, hint := tabH Tryz.prog [(17, 10, .val (dN (stL f).length) (dN f.length) (by rw [stL_len]))] } 2000 1000 _ 1000000 ⟨rfl, rfl, rfl, by kernel_rfl, by kernel_rfl, by kernel_rfl⟩ (fun _ => by kernel_rfl)
theorem numLW {l : List St'} {n a n2 a2 : Int} (h : NumL l n a n2 a2) : ∀ (f d : List St'), f = d ++ l → f.length < 1000000 → ∀ (rest : Heap) (X : Fix), X.P = Tryz.prog → X.N = 53 → LW X (loopOf Tryz.prog 17 2) ⟨envOf (nuL f d.length), ovl (nuE n a) rest⟩ fun e' S' => e' = .exit 0 ∧ S' = ⟨envOf nuR, ovl (nuE n2 a2) rest⟩ := by
  induction h with
  | nil n a =>
    intro f d e hf rest X hP hN
    have : d.length = f.length := by rw [e]; simp
    rw [this]
    exact lw_stop (nuStop f n a rest X hP hN) (by simp)
  | @cons k id nm ty v p es bd el r a n1 a1 n2 a2 n3 a3 h lb le hb he hr ihb ihe ihr =>
    intro f d e hf rest X hP hN
    have hi : d.length < f.length := by rw [e]; simp
    have hx : f[d.length]? = some (.mk k id nm ty v p es bd el) := by rw [e]; simp
    have cb := nuCall (ihb bd [] rfl lb)
    have ce := nuCall (ihe el [] rfl le)
    have g := ihr f (d ++ [.mk k id nm ty v p es bd el]) (by rw [e]; simp) hf rest X hP hN
    rw [List.length_append, List.length_singleton] at g
    exact lw_step (nuGo f d.length hf hi hx h cb ce rest X hP hN) g
theorem numCall {l : List St'} {n a n2 a2 : Int} (h : NumL l n a n2 a2) (hl : l.length < 1000000) : ∀ rest : Heap, HCall Tryz.prog 17 [.d (.ro (stL l)), pC 710006, pC 710044] (ovl (nuE n a) rest) ([.bool true].map .d) (ovl (nuE n2 a2) rest) :=
  nuCall (numLW h l [] rfl hl)
/-! ### The law: the loop over functions -/
inductive NumF : List Fn → Int → Int → Prop
  | nil (n a : Int) : NumF [] n a
  | cons {nm : List UInt8} {ps : List Pm} {k : Int} {bd : List St'} {p : Int} {r : List Fn} {n a n1 a1 : Int} (lb : bd.length < 1000000) (hb : NumL bd n a n1 a1) (hr : NumF r n1 a1) : NumF (⟨nm, ps, k, bd, p⟩ :: r) n a
abbrev fnL (f : List Fn) : List D := f.map fnD
def nfL (f : List Fn) (i : Nat) : List (Nat × AV) := [(6, pC 710006), (7, pC 710044), (26, .d (.ro (fnL f))), (27, dN f.length), (28, dN i)]
abbrev nuB : List (Nat × Ent) := [(710006, ⟨1, none⟩), (710044, ⟨1, none⟩)]
section
variable (f : List Fn) (i : Nat)
theorem nfStop (n a : Int) : ∀ (rest : Heap) (X : Fix), X.P = Tryz.prog → X.N = 37 → AW X (loopOf Tryz.prog 6 9) ⟨envOf (nfL f f.length), ovl (nuE n a) rest⟩ fun e' S' => e' = .exit 0 ∧ S' = ⟨envOf [], ovl nuB rest⟩ :=
  segC okP named { hint := tabH Tryz.prog [(6, 29, hLt Tryz.prog f.length f.length false (by simp))] } 2000 6 3000 37 1000000 ([]) ⟨rfl, rfl, rfl, by kernel_rfl, by kernel_rfl, by kernel_rfl⟩ (by kernel_rfl) (by kernel_rfl) (fun _ => by kernel_rfl)
theorem nfGo (hf : f.length < 1000000) (hi : i < f.length) {nm : List UInt8} {ps : List Pm} {k : Int} {bd : List St'} {p : Int} (hx : f[i]? = some ⟨nm, ps, k, bd, p⟩) {n a n1 a1 : Int}
    (cb : ∀ rest : Heap, HCall Tryz.prog 17 [.d (.ro (stL bd)), pC 710006, pC 710044] (ovl (nuE n a) rest) ([.bool true].map .d) (ovl (nuE n1 a1) rest)) :
    ∀ (rest : Heap) (X : Fix), X.P = Tryz.prog → X.N = 37 → AW X (loopOf Tryz.prog 6 9) ⟨envOf (nfL f i), ovl (nuE n a) rest⟩ fun e' S' => e' = .normal ∧ S' = ⟨envOf (nfL f (i + 1)), ovl (nuE n1 a1) rest⟩ :=
  segC okP named { hint := tabH Tryz.prog [(6, 29, hLt Tryz.prog i f.length true (by simpa using hi)), (6, 30, .idx (fnL f) ((i : Nat) : Int) (fnD ⟨nm, ps, k, bd, p⟩) (by omega) (by rw [Int.toNat_natCast, List.getElem?_map, hx]; rfl)), (6, 36, hSucc Tryz.prog i (by omega))], calls := tabC Tryz.prog [(6, 34, 3259, cOf cb)] } 2000 6 3000 37 1000000 ([]) ⟨rfl, rfl, rfl, by kernel_rfl, by kernel_rfl, by kernel_rfl⟩ (by kernel_rfl) (by kernel_rfl) (fun _ => by kernel_rfl)
end
theorem numFLW {l : List Fn} {n a : Int} (h : NumF l n a) : ∀ (f d : List Fn), f = d ++ l → f.length < 1000000 → ∀ (rest : Heap) (X : Fix), X.P = Tryz.prog → X.N = 37 → LW X (loopOf Tryz.prog 6 9) ⟨envOf (nfL f d.length), ovl (nuE n a) rest⟩ fun e' S' => e' = .exit 0 ∧ S' = ⟨envOf [], ovl nuB rest⟩ := by
  induction h with
  | nil n a =>
    intro f d e hf rest X hP hN
    have : d.length = f.length := by rw [e]; simp
    rw [this]
    exact lw_stop (nfStop f n a rest X hP hN) (by simp)
  | @cons nm ps k bd p r n a n1 a1 lb hb hr ihr =>
    intro f d e hf rest X hP hN
    have hi : d.length < f.length := by rw [e]; simp
    have hx : f[d.length]? = some ⟨nm, ps, k, bd, p⟩ := by rw [e]; simp
    have g := ihr f (d ++ [⟨nm, ps, k, bd, p⟩]) (by rw [e]; simp) hf rest X hP hN
    rw [List.length_append, List.length_singleton] at g
    exact lw_step (nfGo f d.length hf hi hx (numCall hb lb) rest X hP hN) g
noncomputable def nfLH {f : List Fn} {n a : Int} (h : ∀ (rest : Heap) (X : Fix), X.P = Tryz.prog → X.N = 37 → LW X (loopOf Tryz.prog 6 9) ⟨envOf (nfL f 0), ovl (nuE n a) rest⟩ fun e' S' => e' = .exit 0 ∧ S' = ⟨envOf [], ovl nuB rest⟩) : LHint Tryz.prog :=
  ⟨37, loopOf Tryz.prog 6 9, nfL f 0, fun _ => nuE n a, .exit 0, [], fun _ => nuB, fun rest X hP hN => (h rest X hP hN).aw⟩
end Go.Avm
/-
  The law of numbers: the reader numbers its statements, and they stand one behind the other.
-/
set_option linter.unusedSectionVars false
namespace Go.Avm
open Go.Proofs

/-! ### Expressions number nothing -/
def Kn {α : Type} (s : RS) (r : Res α) : Prop := ∀ a s', r = .ok a s' → s'.n = s.n
theorem Kn.bind {α β : Type} {s : RS} {r : Res α} {f : α → RS → Res β} (h : Kn s r) (hf : ∀ a s', Kn s' (f a s')) : Kn s (r.bind f) := fun b s2 e => by
  cases r with
  | ok a s1 => exact (hf a s1 b s2 e).trans (h a s1 rfl)
  | bad p q s1 => cases e
  | out => cases e
theorem Kn.ok {α : Type} (a : α) (s : RS) : Kn s (.ok a s) := fun _ _ e => by cases e; rfl
theorem Kn.out {α : Type} (s : RS) : Kn s (Res.out : Res α) := fun _ _ e => by cases e
theorem Kn.ite {α : Type} {c : Bool} {s : RS} {X Y : Res α} (hX : Kn s X) (hY : Kn s Y) : Kn s (bif c then X else Y) := by cases c <;> assumption
theorem want_kn (L : List T) (x : List UInt8) (s : RS) : Kn s (sWant L x s) := fun a s' e => by
  unfold sWant at e
  cases h : isT L s x <;> rw [h] at e
  · cases e
  · simp only [cond_true] at e
    cases h1 : (x == [40] || x == [91] || x == [123]) <;> rw [h1] at e
    · simp only [cond_false] at e
      cases h2 : (x == [41] || x == [93] || x == [125]) <;> rw [h2] at e <;> cases e <;> rfl
    · simp only [cond_true] at e
      cases h2 : decide (200 < w64 (s.op + 1)) <;> rw [h2] at e <;> cases e
      rfl
theorem take_kn (L : List T) (k : Int) (s : RS) : Kn s (sTake L k s) := fun a s' e => by
  unfold sTake at e
  cases h : ((cur L s).k == k) <;> rw [h] at e <;> cases e
  rfl
theorem may_kn (L : List T) (x : List UInt8) (s : RS) : Kn s (sMay L x s) := by
  unfold sMay
  exact Kn.ite ((want_kn L x s).bind fun _ _ => Kn.ok _ _) (Kn.ok _ _)
theorem kind_kn (L : List T) : ∀ (l : List Int) (s : RS), Kn s (sKind L l s)
  | [], s => fun _ _ e => by cases e
  | k :: r, s => by
    simp only [sKind]
    exact (may_kn L _ s).bind fun b s' => Kn.ite (Kn.ok _ _) (kind_kn L r s')
theorem tree_kn (L : List T) : ∀ n, (∀ s, Kn s (sOne L n s)) ∧ (∀ s, Kn s (sPlace L n s)) ∧ (∀ nm p s, Kn s (sCall L n nm p s)) ∧ (∀ s, Kn s (sArgs L n s)) ∧ (∀ l s, Kn s (sMore L n l s)) ∧ (∀ k s, Kn s (sExpr L n k s)) ∧ (∀ k e s, Kn s (sTail L n k e s))
  | 0 => ⟨fun s => Kn.out s, fun s => Kn.out s, fun _ _ s => Kn.out s, fun s => Kn.out s, fun _ s => Kn.out s, fun _ s => Kn.out s, fun _ _ s => Kn.out s⟩
  | n + 1 => by
    obtain ⟨h1, h2, h3, h4, h5, h6, h7⟩ := tree_kn L n
    have W := want_kn L
    have M := may_kn L
    refine ⟨fun s => ?_, fun s => ?_, fun nm p s => ?_, fun s => ?_, fun l s => ?_, fun k s => ?_, fun k e s => ?_⟩
    · simp only [sOne]
      have un : ∀ (f : Ex → Ex) s', Kn s' ((sOne L n s').bind fun e s2 => .ok (f e) s2) := fun f s' => (h1 s').bind fun _ _ => Kn.ok _ _
      refine (M _ s).bind fun _ s1 => Kn.ite (un _ s1) ((M _ s1).bind fun _ s1 => Kn.ite (un _ s1) ((M _ s1).bind fun _ s1 => Kn.ite (un _ s1) (Kn.ite (fun _ _ e => by cases e; rfl) ?_)))
      refine (M _ s1).bind fun _ s1 => Kn.ite (Kn.ok _ _) ((M _ s1).bind fun _ s1 => Kn.ite (Kn.ok _ _) ?_)
      refine (M _ s1).bind fun _ s1 => Kn.ite ((W _ s1).bind fun _ s2 => (W _ s2).bind fun _ _ => Kn.ok _ _) ?_
      refine (M _ s1).bind fun _ s1 => Kn.ite ((W _ s1).bind fun _ s2 => (take_kn L _ s2).bind fun _ s3 => (W _ s3).bind fun _ _ => Kn.ok _ _) ?_
      refine Kn.ite ((W _ s1).bind fun _ s2 => (h6 _ s2).bind fun _ s3 => (W _ s3).bind fun _ _ => Kn.ok _ _) ?_
      exact (take_kn L _ s1).bind fun _ s2 => Kn.ite ((h2 s2).bind fun _ _ => Kn.ok _ _) (Kn.ite ((h3 _ _ s2).bind fun _ _ => Kn.ok _ _) (Kn.ok _ _))
    · simp only [sPlace]
      exact (W _ s).bind fun _ s2 => (h6 _ s2).bind fun _ s3 => (W _ s3).bind fun _ _ => Kn.ok _ _
    · simp only [sCall]
      exact (h4 s).bind fun _ _ => Kn.ok _ _
    · simp only [sArgs]
      exact (W _ s).bind fun _ s1 => Kn.ite ((W _ s1).bind fun _ _ => Kn.ok _ _) ((h6 _ s1).bind fun _ s2 => (h5 _ s2).bind fun _ s3 => (W _ s3).bind fun _ _ => Kn.ok _ _)
    · simp only [sMore]
      exact (M _ s).bind fun _ s1 => Kn.ite ((h6 _ s1).bind fun _ s2 => h5 _ s2) (Kn.ok _ _)
    · simp only [sExpr]
      exact (h1 s).bind fun _ s1 => h7 _ _ s1
    · simp only [sTail]
      refine Kn.ite (Kn.ok _ _) (fun a s' e2 => ?_)
      exact ((h6 _ s.nx).bind fun _ s2 => h7 _ _ s2) a s' e2
theorem expr_kn (L : List T) (n : Nat) (k : Int) (s : RS) : Kn s (sExpr L n k s) := (tree_kn L n).2.2.2.2.2.1 k s
/-! ### Places rise -/
/-- Each token stands behind the one ahead. -/
def Inc (L : List T) : Prop := ∀ i j, i < j → j < L.length → (L.getD i default).p < (L.getD j default).p
/-- What a statement is, but for what stands in it. -/
def IsSt (id p : Int) : St' → Prop
  | .mk _ id' _ _ _ p' _ bd el => id' = id ∧ p' = p ∧ bd = [] ∧ el = []
def Ps {α : Type} (Q : α → Prop) (r : Res α) : Prop := ∀ a s', r = .ok a s' → Q a
theorem Ps.bind {α β : Type} {Q : β → Prop} {r : Res α} {f : α → RS → Res β} (hf : ∀ a s', Ps Q (f a s')) : Ps Q (r.bind f) := fun b s2 e => by
  cases r with
  | ok a s1 => exact hf a s1 b s2 e
  | bad p q s1 => cases e
  | out => cases e
theorem Ps.ite {α : Type} {Q : α → Prop} {c : Bool} {X Y : Res α} (hX : Ps Q X) (hY : Ps Q Y) : Ps Q (bif c then X else Y) := by cases c <;> assumption
theorem Ps.ok {α : Type} {Q : α → Prop} {a : α} {s : RS} (h : Q a) : Ps Q (.ok a s) := fun _ _ e => by cases e; exact h
theorem let_is (L : List T) (n : Nat) (id p : Int) (s : RS) : Ps (IsSt id p) (sLet L n id p s) := by
  unfold sLet
  exact Ps.bind fun _ _ => Ps.bind fun _ _ => Ps.bind fun _ _ => Ps.ite (Ps.bind fun _ _ => Ps.bind fun _ _ => Ps.bind fun _ _ => Ps.bind fun _ _ => Ps.ok ⟨rfl, rfl, rfl, rfl⟩) (Ps.bind fun _ _ => Ps.ite (Ps.bind fun _ _ => Ps.bind fun _ _ => Ps.ok ⟨rfl, rfl, rfl, rfl⟩) (Ps.bind fun _ _ => Ps.ok ⟨rfl, rfl, rfl, rfl⟩))
theorem named_is (L : List T) (n : Nat) (id p : Int) (s : RS) : Ps (IsSt id p) (sNamed L n id p s) := by
  unfold sNamed
  exact Ps.bind fun _ _ => Ps.ite (Ps.bind fun _ _ => Ps.bind fun _ _ => Ps.ok ⟨rfl, rfl, rfl, rfl⟩) (Ps.ite (Ps.bind fun _ _ => Ps.bind fun _ _ => Ps.bind fun _ _ => Ps.bind fun _ _ => Ps.ok ⟨rfl, rfl, rfl, rfl⟩) (Ps.bind fun _ _ => Ps.bind fun _ _ => Ps.bind fun _ _ => Ps.ok ⟨rfl, rfl, rfl, rfl⟩))
theorem let_kn (L : List T) (n : Nat) (id p : Int) (s : RS) : Kn s (sLet L n id p s) := by
  have W := want_kn L
  unfold sLet
  exact (take_kn L _ s).bind fun _ s2 => (W _ s2).bind fun _ s3 => (kind_kn L _ s3).bind fun _ s4 => Kn.ite ((W _ s4).bind fun _ s5 => (take_kn L _ s5).bind fun _ s6 => (W _ s6).bind fun _ s7 => (W _ s7).bind fun _ _ => Kn.ok _ _) ((may_kn L _ s4).bind fun _ s5 => Kn.ite ((expr_kn L n 1 s5).bind fun _ s6 => (W _ s6).bind fun _ _ => Kn.ok _ _) ((W _ s5).bind fun _ _ => Kn.ok _ _))
theorem named_kn (L : List T) (n : Nat) (id p : Int) (s : RS) : Kn s (sNamed L n id p s) := by
  have W := want_kn L
  obtain ⟨_, h2, h3, _⟩ := tree_kn L n
  unfold sNamed
  exact (take_kn L _ s).bind fun _ s2 => Kn.ite ((h3 _ _ s2).bind fun _ s3 => (W _ s3).bind fun _ _ => Kn.ok _ _) (Kn.ite ((h2 s2).bind fun _ s3 => (W _ s3).bind fun _ s4 => (expr_kn L n 1 s4).bind fun _ s5 => (W _ s5).bind fun _ _ => Kn.ok _ _) ((W _ s2).bind fun _ s3 => (expr_kn L n 1 s3).bind fun _ s4 => (W _ s4).bind fun _ _ => Kn.ok _ _))
end Go.Avm
/-
  The law of numbers: every program's statements are numbered through the whole text, and stand one behind the other.
-/
set_option linter.unusedSectionVars false
namespace Go.Avm
open Go.Proofs

theorem bind_ok {α β : Type} {r : Res α} {f : α → RS → Res β} {b : β} {s2 : RS} (h : r.bind f = .ok b s2) : ∃ a s1, r = .ok a s1 ∧ f a s1 = .ok b s2 := by
  cases r with
  | ok a s1 => exact ⟨a, s1, rfl, h⟩
  | bad p q s1 => cases h
  | out => cases h
/-- The number of the next statement. -/
def nxt (s : RS) : Int := w64 (s.n + 1)
def At' (L : List T) (s : RS) (a : Int) : Prop := a < (cur L s).p
/-- A reader has gone on, and has numbered nothing. -/
structure On (L : List T) (s s' : RS) : Prop where
  lt : s.i < s'.i
  len : s'.i < L.length
  n : s'.n = s.n
section
variable {L : List T} (hL : Toks L) (hI : Inc L)
include hL
theorem on_want {x : List UInt8} {s s' : RS} {t : T} (l : s.i < L.length) (h : sWant L x s = .ok t s') : On L s s' := ⟨((g_want hL x s l).2 t s' h).1, ((g_want hL x s l).2 t s' h).2, want_kn L x s t s' h⟩
theorem on_take {k : Int} (hk : k ≠ 0) {s s' : RS} {t : T} (l : s.i < L.length) (h : sTake L k s = .ok t s') : On L s s' := ⟨((g_take hL k hk s l).2 t s' h).1, ((g_take hL k hk s l).2 t s' h).2, take_kn L k s t s' h⟩
theorem on_expr {n : Nat} {k : Int} {s s' : RS} {e : Ex} (l : s.i < L.length) (h : sExpr L n k s = .ok e s') : On L s s' := by
  have c := (exAll hL n).expr k s l
  rw [h] at c
  exact ⟨expr_gr L n k s e s' h, c.1, expr_kn L n k s e s' h⟩
theorem may_ok {α : Type} {x : List UInt8} {s s' : RS} (l : s.i < L.length) {X Y : RS → Res α} {a : α} (h : ((sMay L x s).bind fun b s1 => bif b then X s1 else Y s1) = .ok a s') : (∃ s1, On L s s1 ∧ X s1 = .ok a s') ∨ Y s = .ok a s' := by
  unfold sMay at h
  cases hi : isT L s x <;> rw [hi] at h
  · exact .inr h
  · simp only [cond_true] at h
    cases hw : sWant L x s <;> rw [hw] at h
    · exact .inl ⟨_, on_want hL l hw, h⟩
    · cases h
    · cases h
theorem let_on {n : Nat} {id p : Int} {s s' : RS} {x : St'} (l : s.i < L.length) (h : sLet L n id p s = .ok x s') : On L s s' := by
  have c := letR hL n id p s l
  rw [h] at c
  exact ⟨let_gr L n id p s x s' h, c.1, let_kn L n id p s x s' h⟩
theorem named_on {n : Nat} {id p : Int} {s s' : RS} {x : St'} (l : s.i < L.length) (h : sNamed L n id p s = .ok x s') : On L s s' := by
  have c := namedR hL n id p s l
  rw [h] at c
  exact ⟨named_gr L n id p s x s' h, c.1, named_kn L n id p s x s' h⟩
theorem block_len {n : Nat} {s s' : RS} {b : List St'} (l : s.i < L.length) (h : sBlock L n s = .ok b s') : s.i < s'.i ∧ s'.i < L.length := by
  have c := (stAll hL n).block s l
  rw [h] at c
  exact ⟨(stmt_gr L n).1 s b s' h, c.1⟩
theorem stmt_len {n : Nat} {s s' : RS} {x : St'} (l : s.i < L.length) (h : sStmt L n s = .ok x s') : s.i < s'.i ∧ s'.i < L.length := by
  have c := (stAll hL n).stmt s l
  rw [h] at c
  exact ⟨(stmt_gr L n).2.2 s x s' h, c.1⟩
omit hL
include hI
theorem at_mono {s s' : RS} {a : Int} (hle : s.i ≤ s'.i) (hlt : s'.i < L.length) (h : At' L s a) : At' L s' a := by
  rcases Nat.lt_or_ge s.i s'.i with h1 | h1
  · exact Int.lt_trans h (hI _ _ h1 hlt)
  · have : s.i = s'.i := by omega
    unfold At' cur at h ⊢
    rw [← this]
    exact h
theorem at_new {s s' : RS} (hlt : s.i < s'.i) (hlen : s'.i < L.length) : At' L s' (cur L s).p := hI _ _ hlt hlen
include hL
theorem leaf_num {s0 s' : RS} {k id : Int} {nm : List UInt8} {ty v p : Int} {es : List Ex} {bd el : List St'} {a : Int} (hid : id = nxt s0) (hp : p = (cur L s0).p) (ha : At' L s0 a) (lb : bd.length < 1000000) (le : el.length < 1000000) {n1 a1 n2 a2 : Int} (hb : NumL bd (w64 (nxt s0 + 1)) (cur L s0).p n1 a1) (he : NumL el n1 a1 n2 a2) (hn : n2 = nxt s') :
    ∀ r n3 a3, NumL r (nxt s') a2 n3 a3 → NumL (.mk k id nm ty v p es bd el :: r) (nxt s0) a n3 a3 := fun r n3 a3 hr => by
  subst hid hp hn
  exact NumL.cons ha lb le hb he hr
theorem num_all : ∀ n, (∀ (s s' : RS) (l : List St'), s.i < L.length → sBlock L n s = .ok l s' → l.length < 1000000 ∧ ∀ a, At' L s a → ∃ a', NumL l (nxt s) a (nxt s') a' ∧ At' L s' a') ∧
    (∀ (r : List St') (s s' : RS) (l : List St'), s.i < L.length → r.length ≤ s.i → sStmts L n r s = .ok l s' → (l.length ≤ s'.i ∧ s'.i < L.length) ∧ ∃ l2, l = r ++ l2 ∧ ∀ a, At' L s a → ∃ a', NumL l2 (nxt s) a (nxt s') a' ∧ At' L s' a') ∧
    (∀ (s s' : RS) (x : St'), s.i < L.length → sStmt L n s = .ok x s' → ∀ a, At' L s a → ∃ a1, (∀ r n3 a3, NumL r (nxt s') a1 n3 a3 → NumL (x :: r) (nxt s) a n3 a3) ∧ At' L s' a1)
  | 0 => ⟨fun _ _ _ _ h => by simp [sBlock] at h, fun _ _ _ _ _ _ h => by simp [sStmts] at h, fun _ _ _ _ h => by simp [sStmt] at h⟩
  | n + 1 => by
    obtain ⟨ihB, ihS, ihT⟩ := num_all n
    refine ⟨fun s s' l hl h => ?_, fun r s s' l hl hr h => ?_, fun s0 s' x hl h a ha => ?_⟩
    · simp only [sBlock] at h
      obtain ⟨t, s1, h1, h⟩ := bind_ok h
      obtain ⟨l1, s2, h2, h⟩ := bind_ok h
      obtain ⟨t3, s3, h3, h⟩ := bind_ok h
      cases h
      have o1 := on_want hL hl h1
      obtain ⟨⟨g1, g2⟩, l2, rfl, g3⟩ := ihS [] s1 s2 _ o1.len (Nat.zero_le _) h2
      have o3 := on_want hL g2 h3
      refine ⟨by have := hL.len; omega, fun a ha => ?_⟩
      obtain ⟨a', g4, g5⟩ := g3 a (at_mono hI (Nat.le_of_lt o1.lt) o1.len ha)
      refine ⟨a', ?_, at_mono hI (Nat.le_of_lt o3.lt) o3.len g5⟩
      have e1 : nxt s1 = nxt s := by simp only [nxt, o1.n]
      have e2 : nxt s' = nxt s2 := by simp only [nxt, o3.n]
      rw [e2, ← e1]
      exact g4
    · simp only [sStmts] at h
      cases hi : isT L s [125] <;> rw [hi] at h
      · simp only [cond_false] at h
        obtain ⟨x, s1, h1, h⟩ := bind_ok h
        have g1 := stmt_len hL hl h1
        obtain ⟨g2, l2, rfl, g3⟩ := ihS (r ++ [x]) s1 s' l g1.2 (by simp only [List.length_append, List.length_singleton]; omega) h
        refine ⟨g2, x :: l2, by simp, fun a ha => ?_⟩
        obtain ⟨a1, g4, g5⟩ := ihT s s1 x hl h1 a ha
        obtain ⟨a2, g6, g7⟩ := g3 a1 g5
        exact ⟨a2, g4 _ _ _ g6, g7⟩
      · cases h
        exact ⟨⟨hr, hl⟩, [], by simp, fun a ha => ⟨a, .nil _ _, ha⟩⟩
    · simp only [sStmt] at h
      have l0 : s0.st.i < L.length := hl
      have hc : cur L s0.st = cur L s0 := rfl
      have hz : ([] : List St').length < 1000000 := by decide
      have leaf : ∀ {k : Int} {nm : List UInt8} {ty v : Int} {es : List Ex} {s' : RS}, On L s0.st s' → ∃ a1, (∀ r n3 a3, NumL r (nxt s') a1 n3 a3 → NumL (.mk k s0.st.n nm ty v (cur L s0.st).p es [] [] :: r) (nxt s0) a n3 a3) ∧ At' L s' a1 := fun {k nm ty v es s'} o =>
        ⟨_, leaf_num hL hI (s0 := s0) rfl rfl ha hz hz (.nil _ _) (.nil _ _) (by simp only [nxt, o.n]; rfl), at_new hI o.lt o.len⟩
      have isl : ∀ {x : St'} {s' : RS}, IsSt s0.st.n (cur L s0.st).p x → On L s0.st s' → ∃ a1, (∀ r n3 a3, NumL r (nxt s') a1 n3 a3 → NumL (x :: r) (nxt s0) a n3 a3) ∧ At' L s' a1 := fun {x s'} hx o => by
        obtain ⟨k, id, nm, ty, v, p, es, bd, el⟩ := x
        obtain ⟨rfl, rfl, rfl, rfl⟩ := hx
        exact leaf o
      have tr : ∀ {s1 s2 : RS}, On L s0.st s1 → On L s1 s2 → On L s0.st s2 := fun o1 o2 => ⟨Nat.lt_trans o1.lt o2.lt, o2.len, o2.n.trans o1.n⟩
      -- a block behind
      have blk : ∀ {s2 s3 : RS} {b : List St'}, On L s0.st s2 → sBlock L n s2 = .ok b s3 → b.length < 1000000 ∧ s2.i < s3.i ∧ s3.i < L.length ∧ ∃ a1, NumL b (w64 (nxt s0 + 1)) (cur L s0).p (nxt s3) a1 ∧ At' L s3 a1 := fun {s2 s3 b} o hb => by
        obtain ⟨g1, g2⟩ := ihB s2 s3 b o.len hb
        have g3 := block_len hL o.len hb
        obtain ⟨a1, g4, g5⟩ := g2 _ (at_new hI (s := s0) o.lt o.len)
        have e : nxt s2 = w64 (nxt s0 + 1) := by
          have : nxt s2 = w64 (s2.n + 1) := rfl
          rw [this, o.n]; rfl
        rw [e] at g4
        exact ⟨g1, g3.1, g3.2, a1, g4, g5⟩
      rcases may_ok hL l0 h with ⟨s1, o1, h⟩ | h
      · obtain ⟨x1, s2, h2, h⟩ := bind_ok h
        cases h
        exact isl (let_is L n _ _ s1 x s' h2) (tr o1 (let_on hL o1.len h2))
      rcases may_ok hL l0 h with ⟨s1, o1, h⟩ | h
      · obtain ⟨e, s2, h2, h⟩ := bind_ok h
        obtain ⟨b, s3, h3, h⟩ := bind_ok h
        have o2 := tr o1 (on_expr hL o1.len h2)
        obtain ⟨lb, p1, p2, a1, g1, g2⟩ := blk o2 h3
        rcases may_ok hL p2 h with ⟨s4, o4, h⟩ | h
        · obtain ⟨m, s5, h5, h⟩ := bind_ok h
          cases h
          obtain ⟨lm, g3⟩ := ihB s4 s' m o4.len h5
          have g4 := block_len hL o4.len h5
          obtain ⟨a2, g5, g6⟩ := g3 a1 (at_mono hI (Nat.le_of_lt o4.lt) o4.len g2)
          have e4 : nxt s4 = nxt s3 := by simp only [nxt, o4.n]
          rw [e4] at g5
          exact ⟨a2, leaf_num hL hI (s0 := s0) rfl rfl ha lb lm g1 g5 rfl, g6⟩
        · cases h
          exact ⟨a1, leaf_num hL hI (s0 := s0) rfl rfl ha lb hz g1 (.nil _ _) rfl, g2⟩
      rcases may_ok hL l0 h with ⟨s1, o1, h⟩ | h
      · obtain ⟨e, s2, h2, h⟩ := bind_ok h
        obtain ⟨b, s3, h3, h⟩ := bind_ok h
        cases h
        obtain ⟨lb, p1, p2, a1, g1, g2⟩ := blk (tr o1 (on_expr hL o1.len h2)) h3
        exact ⟨a1, leaf_num hL hI (s0 := s0) rfl rfl ha lb hz g1 (.nil _ _) rfl, g2⟩
      rcases may_ok hL l0 h with ⟨s1, o1, h⟩ | h
      · cases hi : isT L s1 [59] <;> rw [hi] at h
        · obtain ⟨e, s2, h2, h⟩ := bind_ok h
          obtain ⟨t, s3, h3, h⟩ := bind_ok h
          cases h
          have o2 := tr o1 (on_expr hL o1.len h2)
          exact leaf (tr o2 (on_want hL o2.len h3))
        · obtain ⟨t, s2, h2, h⟩ := bind_ok h
          cases h
          exact leaf (tr o1 (on_want hL o1.len h2))
      rcases may_ok hL l0 h with ⟨s1, o1, h⟩ | h
      · obtain ⟨e, s2, h2, h⟩ := bind_ok h
        obtain ⟨t, s3, h3, h⟩ := bind_ok h
        cases h
        have o2 := tr o1 (on_expr hL o1.len h2)
        exact leaf (tr o2 (on_want hL o2.len h3))
      · obtain ⟨x1, s2, h2, h⟩ := bind_ok h
        cases h
        exact isl (named_is L n _ _ s0.st x s' h2) (named_on hL l0 h2)
end
end Go.Avm
/-
  The law of numbers: of whole programs; a text's tokens stand one behind the other.
-/
set_option linter.unusedSectionVars false
namespace Go.Avm
open Go.Proofs

/-! ### Places rise -/
def Rise : Nat → List (Nat × Tok) → Nat → Prop
  | lo, [], hi => lo ≤ hi
  | lo, x :: r, hi => lo ≤ x.1 ∧ Rise (x.1 + 1) r hi
theorem rise_mono : ∀ {ts : List (Nat × Tok)} {lo lo' hi : Nat}, lo ≤ lo' → Rise lo' ts hi → Rise lo ts hi
  | [], _, _, _, h, h1 => Nat.le_trans h h1
  | _ :: _, _, _, _, h, h1 => ⟨Nat.le_trans h h1.1, h1.2⟩
theorem scanB_rise : ∀ (n : Nat) (r : List UInt8) (a : Nat) (ts : List (Nat × Tok)), scanB n r a = .ok ts → Rise a ts (a + r.length)
  | 0, r, a, ts, h => by
    simp only [scanB, Except.ok.injEq] at h
    subst h
    exact Nat.le_add_right _ _
  | n + 1, [], a, ts, h => by
    simp only [scanB, Except.ok.injEq] at h
    subst h
    exact Nat.le_add_right _ _
  | n + 1, b :: r, a, ts, h => by
    rw [scanB_cons] at h
    split at h
    · cases h
    rename_i t ht
    split at h
    · cases h
    rename_i ts' hts
    cases h
    obtain ⟨kd, tx, k⟩ := t
    obtain ⟨hp, hne⟩ := tokL_pre ht
    have h1 : 0 < tx.length := List.length_pos_iff.2 hne
    have h2 : tx.length ≤ (b :: r).length := hp.length_le
    have ih := scanB_rise n _ _ _ hts
    have h3 := skipN_le false ((b :: r).drop tx.length)
    simp only [List.length_drop] at ih h3
    refine ⟨Nat.le_refl _, ?_⟩
    have e : a + tx.length + skipN false (List.drop tx.length (b :: r)) + ((b :: r).length - tx.length - skipN false (List.drop tx.length (b :: r))) = a + (b :: r).length := by omega
    rw [e] at ih
    exact rise_mono (show a + 1 ≤ a + tx.length + skipN false (List.drop tx.length (b :: r)) by omega) ih
theorem scanF_rise {s : List UInt8} {ts : List (Nat × Tok)} (h : scanF s = .ok ts) : Rise 0 ts s.length := by
  have h1 := scanB_rise _ _ _ _ h
  have h2 := skipN_le false s
  rw [List.length_drop, Nat.add_sub_cancel' h2] at h1
  exact rise_mono (Nat.zero_le _) h1
theorem rise_inc (n : Nat) : ∀ {ts : List (Nat × Tok)} {lo : Nat}, Rise lo ts n → (∀ i, i < (toksOf ts n).length → (lo : Int) ≤ ((toksOf ts n).getD i default).p) ∧ Inc (toksOf ts n)
  | [], lo, h => by
    have h' : lo ≤ n := h
    refine ⟨fun i hi => ?_, fun i j hij hj => ?_⟩
    · have : i = 0 := by simp [toksOf] at hi; exact hi
      subst this
      show (lo : Int) ≤ (n : Int)
      omega
    · simp [toksOf] at hj; omega
  | x :: r, lo, ⟨h1, h2⟩ => by
    obtain ⟨g1, g2⟩ := rise_inc n h2
    have hc : toksOf (x :: r) n = tkT x :: toksOf r n := rfl
    refine ⟨fun i hi => ?_, fun i j hij hj => ?_⟩
    · rw [hc] at hi ⊢
      cases i with
      | zero => show (lo : Int) ≤ (x.1 : Int); omega
      | succ i =>
        have := g1 i (by simpa using hi)
        rw [List.getD_cons_succ]
        omega
    · rw [hc] at hj ⊢
      cases j with
      | zero => omega
      | succ j =>
        have hj' : j < (toksOf r n).length := by simpa using hj
        rw [List.getD_cons_succ]
        cases i with
        | zero =>
          have := g1 j hj'
          show (x.1 : Int) < _
          omega
        | succ i =>
          rw [List.getD_cons_succ]
          exact g2 i j (by omega) hj'
section
variable {L : List T} (hL : Toks L) (hI : Inc L)
include hL
theorem on_tr {s1 s2 s3 : RS} (a : On L s1 s2) (b : On L s2 s3) : On L s1 s3 := ⟨Nat.lt_trans a.lt b.lt, b.len, b.n.trans a.n⟩
theorem on_kind : ∀ {k : List Int} {s s' : RS} {t : Int}, s.i < L.length → sKind L k s = .ok t s' → On L s s'
  | [], _, _, _, _, h => by cases h
  | k :: r, s, s', t, l, h => by
    simp only [sKind] at h
    rcases may_ok hL l h with ⟨s1, o, h⟩ | h
    · cases h; exact o
    · exact on_kind l h
theorem on_param {s s' : RS} {x : Pm} (l : s.i < L.length) (h : sParam L s = .ok x s') : On L s s' := by
  unfold sParam at h
  obtain ⟨t, s1, h1, h⟩ := bind_ok h
  obtain ⟨u, s2, h2, h⟩ := bind_ok h
  obtain ⟨k, s3, h3, h⟩ := bind_ok h
  cases h
  have o1 := on_take hL (by decide) l h1
  have o2 := on_want hL o1.len h2
  exact on_tr hL (on_tr hL o1 o2) (on_kind hL o2.len h3)
theorem on_pmore : ∀ {n : Nat} {r : List Pm} {s s' : RS} {l2 : List Pm}, s.i < L.length → sPMore L n r s = .ok l2 s' → s' = s ∨ On L s s'
  | 0, _, _, _, _, _, h => by simp [sPMore] at h
  | n + 1, r, s, s', l2, l, h => by
    simp only [sPMore] at h
    rcases may_ok hL l h with ⟨s1, o, h⟩ | h
    · obtain ⟨x, s2, h2, h⟩ := bind_ok h
      have o2 := on_tr hL o (on_param hL o.len h2)
      rcases on_pmore o2.len h with rfl | o3
      · exact .inr o2
      · exact .inr (on_tr hL o2 o3)
    · cases h; exact .inl rfl
theorem on_params {n : Nat} {s s' : RS} {l2 : List Pm} (l : s.i < L.length) (h : sParams L n s = .ok l2 s') : On L s s' := by
  unfold sParams at h
  obtain ⟨t, s1, h1, h⟩ := bind_ok h
  have o1 := on_want hL l h1
  cases hi : isT L s1 [41] <;> rw [hi] at h
  · obtain ⟨x, s2, h2, h⟩ := bind_ok h
    obtain ⟨y, s3, h3, h⟩ := bind_ok h
    obtain ⟨z, s4, h4, h⟩ := bind_ok h
    cases h
    have o2 := on_tr hL o1 (on_param hL o1.len h2)
    rcases on_pmore hL o2.len h3 with rfl | o3
    · exact on_tr hL o2 (on_want hL o2.len h4)
    · exact on_tr hL (on_tr hL o2 o3) (on_want hL o3.len h4)
  · obtain ⟨x, s2, h2, h⟩ := bind_ok h
    cases h
    exact on_tr hL o1 (on_want hL o1.len h2)
include hI
theorem fn_num {n : Nat} {s s' : RS} {f : Fn} (l : s.i < L.length) (h : sFn L n s = .ok f s') : (s.i < s'.i ∧ s'.i < L.length) ∧ f.bd.length < 1000000 ∧ ∀ a, At' L s a → ∃ a', NumL f.bd (nxt s) a (nxt s') a' ∧ At' L s' a' := by
  unfold sFn at h
  obtain ⟨t, s1, h1, h⟩ := bind_ok h
  obtain ⟨u, s2, h2, h⟩ := bind_ok h
  obtain ⟨ps, s3, h3, h⟩ := bind_ok h
  have o1 := on_want hL l h1
  have o2 := on_tr hL o1 (on_take hL (by decide) o1.len h2)
  have o3 := on_tr hL o2 (on_params hL o2.len h3)
  have fin : ∀ {s4 : RS} {b : List St'}, On L s s4 → sBlock L n s4 = .ok b s' → (s.i < s'.i ∧ s'.i < L.length) ∧ b.length < 1000000 ∧ ∀ a, At' L s a → ∃ a', NumL b (nxt s) a (nxt s') a' ∧ At' L s' a' := fun {s4 b} o hb => by
    have g1 := block_len hL o.len hb
    obtain ⟨g2, g3⟩ := (num_all hL hI n).1 s4 s' b o.len hb
    refine ⟨⟨Nat.lt_trans o.lt g1.1, g1.2⟩, g2, fun a ha => ?_⟩
    obtain ⟨a', g4, g5⟩ := g3 a (at_mono hI (Nat.le_of_lt o.lt) o.len ha)
    have e : nxt s4 = nxt s := by simp only [nxt, o.n]
    rw [e] at g4
    exact ⟨a', g4, g5⟩
  rcases may_ok hL o3.len h with ⟨s4, o4, h⟩ | h
  · obtain ⟨k, s5, h5, h⟩ := bind_ok h
    obtain ⟨b, s6, h6, h⟩ := bind_ok h
    cases h
    exact fin (on_tr hL (on_tr hL o3 o4) (on_kind hL o4.len h5)) h6
  · obtain ⟨b, s6, h6, h⟩ := bind_ok h
    cases h
    exact fin o3 h6
theorem fns_num (N : Nat) : ∀ (n : Nat) (r : List Fn) (s s' : RS) (l : List Fn), s.i < L.length → r.length ≤ s.i → sFns L N n r s = .ok l s' → l.length < 1000000 ∧ ∃ l2, l = r ++ l2 ∧ ∀ a, At' L s a → NumF l2 (nxt s) a
  | 0, _, _, _, _, _, _, h => by simp [sFns] at h
  | n + 1, r, s, s', l, hl, hr, h => by
    simp only [sFns] at h
    cases hk : ((cur L s).k == 0) <;> rw [hk] at h
    · simp only [cond_false] at h
      obtain ⟨f, s1, h1, h⟩ := bind_ok h
      obtain ⟨g1, g2, g3⟩ := fn_num hL hI hl h1
      obtain ⟨g4, l2, rfl, g5⟩ := fns_num N n (r ++ [f]) s1 s' l g1.2 (by simp only [List.length_append, List.length_singleton]; omega) h
      refine ⟨g4, f :: l2, by simp, fun a ha => ?_⟩
      obtain ⟨a', g6, g7⟩ := g3 a ha
      exact NumF.cons g2 g6 (g5 a' g7)
    · cases h
      exact ⟨by have := hL.len; omega, [], by simp, fun a _ => .nil _ _⟩
theorem prog_num {n : Nat} {l : List Fn} {s' : RS} (h0 : 0 < L.length) (hp : 0 ≤ (cur L ⟨0, 0, 0⟩).p) (h : sProg L n = .ok l s') : l.length < 1000000 ∧ NumF l 1 (-1) := by
  unfold sProg at h
  obtain ⟨f, s1, h1, h⟩ := bind_ok h
  obtain ⟨g1, g2, g3⟩ := fn_num hL hI (s := ⟨0, 0, 0⟩) h0 h1
  obtain ⟨g4, l2, rfl, g5⟩ := fns_num hL hI n n [f] s1 s' l g1.2 (by have := g1.1; simp only [List.length_singleton]; omega) h
  obtain ⟨a', g6, g7⟩ := g3 (-1) (by unfold At'; omega)
  exact ⟨g4, NumF.cons g2 g6 (g5 a' g7)⟩
end
/-- Of every text: a program whose statements are numbered, or none. -/
theorem parse_num (s : List UInt8) : (∃ q e, parseRes s = [.agg [.ro []], .int .i64 q, .int .i64 e]) ∨ ∃ l : List Fn, parseRes s = [.agg [.ro (fnL l)], .int .i64 0, .int .i64 0] ∧ l.length < 1000000 ∧ NumF l 1 (-1) := by
  unfold parseRes
  by_cases h : 20000 < s.length
  · rw [if_pos h]
    exact .inl ⟨_, _, rfl⟩
  · rw [if_neg h]
    cases he : scanF s with
    | error e => exact .inl ⟨_, _, rfl⟩
    | ok ts =>
      have hl := scanF_len he
      have hok := toksOf_ok (ts := ts) (n := s.length) (by omega)
      obtain ⟨r1, r2⟩ := rise_inc s.length (scanF_rise he)
      simp only
      have hno := prog_no hok (toksOf_pos ts s.length)
      unfold treeOf
      revert hno
      cases hp : sProg (toksOf ts s.length) (fuel (toksOf ts s.length)) with
      | out => exact fun hno => absurd rfl hno
      | bad p q s' => exact fun _ => .inl ⟨_, _, rfl⟩
      | ok l s' => exact fun _ => .inr ⟨l, rfl, prog_num hok r2 (toksOf_pos _ _) (r1 0 (toksOf_pos _ _)) hp⟩
end Go.Avm
/-
  The law of numbers: its run.
-/
set_option linter.unusedSectionVars false
namespace Go.Avm
open Go.Proofs

noncomputable def minH (s : List UInt8) : Hint Tryz.prog := .val (dI (if false = true then (if (s.length : Int) < 4000 then 4000 else (s.length : Int)) else if (4000 : Int) < (s.length : Int) then 4000 else (s.length : Int))) (dN (min s.length 4000)) (by
  congr 2
  rw [if_neg (by decide)]
  split <;> omega)
section
variable {s : List UInt8} {q e : Int}
theorem numA (hp : Pure Tryz.prog 9 [.str (s.take (min s.length 4000))] [.agg [.ro []], .int .i64 q, .int .i64 e]) (he : (e != 0) = true) : Pure Tryz.prog 6 [.str s] [.bool true] :=
  pure_of_runB okP named { hint := tabH Tryz.prog [(6, 10, .call 11 _ _ awake02), (6, 15, minH s), (6, 16, .sub s 0 (min s.length 4000) (by omega)), (6, 19, .call 9 _ _ hp), (6, 24, hB Tryz.prog (e != 0) true he)] } 2000 709297 (by kernel_rfl)
theorem numB {l : List Fn} (hp : Pure Tryz.prog 9 [.str (s.take (min s.length 4000))] [.agg [.ro (fnL l)], .int .i64 q, .int .i64 0])
    (h : ∀ (rest : Heap) (X : Fix), X.P = Tryz.prog → X.N = 37 → LW X (loopOf Tryz.prog 6 9) ⟨envOf (nfL l 0), ovl (nuE 1 (-1)) rest⟩ fun e' S' => e' = .exit 0 ∧ S' = ⟨envOf [], ovl nuB rest⟩) : Pure Tryz.prog 6 [.str s] [.bool true] :=
  pure_of_runB okP named { loops := fun g q => if g = 6 then (if q = 9 then some (nfLH h) else none) else none, hint := tabH Tryz.prog [(6, 10, .call 11 _ _ awake02), (6, 15, minH s), (6, 16, .sub s 0 (min s.length 4000) (by omega)), (6, 19, .call 9 _ _ hp), (6, 27, .val (dN (fnL l).length) (dN l.length) (by simp))] } 2000 709297 (by kernel_rfl)
end
end Go.Avm
/-
  The law of numbers, for every text.
-/
set_option linter.unusedSectionVars false
namespace Go.Avm
open Go.Proofs
theorem numbersPure (s : List UInt8) : Pure Tryz.prog 6 [.str s] [.bool true] := by
  have hp := parsePure (s.take (min s.length 4000))
  rcases parse_num (s.take (min s.length 4000)) with ⟨q, e, h⟩ | ⟨l, h, hl, hn⟩
  · rw [h] at hp
    cases he : (e != 0) with
    | true => exact numA hp he
    | false =>
      have e0 : e = 0 := by simpa using he
      subst e0
      exact numB (l := []) hp (fun rest X hP hN => numFLW (.nil 1 (-1)) [] [] rfl (by decide) rest X hP hN)
  · rw [h] at hp
    exact numB hp (fun rest X hP hN => numFLW hn l [] rfl hl rest X hP hN)
end Go.Avm
