/-
  The scanner of texts, part E: a token is put; is it a word?
-/
import Derived.Test.YtdmjbpkdngmgkaaDoorLexD
set_option linter.unusedSectionVars false
namespace Go.Avm
open Go.Proofs

abbrev tokD (kind : Int) (a : Nat) (t : List UInt8) (n : Int) : D := .agg [.int .u8 kind, .int .i64 (a : Int), .str t, .int .i64 n]
/-- What the scanner's part of the heap is: are the words made? -/
def stE (w : Bool) (s : List UInt8) (a v m : Nat) (l : List D) : List (Nat × Ent) := match w with
  | false => [scE (.d (.int .u32 0)) (.d (.int .i32 0)) (.d (.int .u32 0)) .junk s a v l, (1, ⟨v, none⟩), (120463, ⟨v, none⟩), (200002, ⟨0, none⟩), (200156, ⟨0, none⟩), (204135, ⟨0, none⟩), (210002, ⟨m, none⟩), (210335, ⟨m, none⟩)]
  | true => [scE (.d (.int .u32 1)) (.d (.int .i32 0)) (.d (.int .u32 0)) (.mp 200156 1) s a v l, (1, ⟨v, none⟩), (120463, ⟨v, none⟩), (200002, ⟨1, none⟩), (200156, ⟨1, some (.map wordsE 14)⟩), (204135, ⟨1, none⟩), (210002, ⟨m, none⟩), (210335, ⟨m, none⟩)]
def hAdd (P : Program) (a k : Nat) (h : a + k ≤ 1099511627776) : Hint P := .val (dI (IntKind.i64.wrap ((a : Int) + (k : Int)))) (dN (a + k)) (by
  congr 2
  rw [IntWalk.i64_in _ (by omega)]
  omega)
section
variable (w : Bool) (s : List UInt8) (a v m : Nat) (l : List D)
noncomputable def putPr (t : List UInt8) (hl : l.length + 1 ≤ 549755813888) (ht : a + t.length ≤ 1099511627776) : Par Tryd.prog :=
  { hint := fun f' k => if f' = 17 then (if k = 22 then some (.app l 1 hl) else if k = 31 then some (hAdd Tryd.prog a t.length ht) else none) else none }
theorem putC (kd n : Int) (t : List UInt8) (hl : l.length + 1 ≤ 549755813888) (ht : a + t.length ≤ 1099511627776) (rest : Heap) :
    HCall Tryd.prog 17 [scP, .d (.int .u8 kd), .d (.str t), .d (.int .i64 n)] (ovl (stE w s a v m l) rest) [] (ovl (stE w s (a + t.length) (v + 1) m (l ++ [tokD kd a t n])) rest) := by
  cases w <;> exact hcall_of_run okP named (putPr a l t hl ht) 1000 120000 17 (by kernel_rfl)
noncomputable def putCH (kd n : Int) (t : List UInt8) (hl : l.length + 1 ≤ 549755813888) (ht : a + t.length ≤ 1099511627776) : CHint Tryd.prog :=
  ⟨17, [scP, .d (.int .u8 kd), .d (.str t), .d (.int .i64 n)], stE w s a v m l, [], stE w s (a + t.length) (v + 1) m (l ++ [tokD kd a t n]), fits_of (putC w s a v m l kd n t hl ht)⟩

noncomputable def hasPr (t : List UInt8) (r : Option (Nat × D)) (h : findD (.str t) wordsE 0 = some r) : Par Tryd.prog := { hint := fun f k => if f = 21 then (if k = 18 then some (.look (.str t) wordsE r h) else none) else none }
def mNext (w : Bool) (m : Nat) : Nat := match w with
  | false => m
  | true => m + 1
set_option maxRecDepth 100000 in
theorem hasF (t : List UInt8) (h : findD (.str t) wordsE 0 = some none) (rest : Heap) : HCall Tryd.prog 21 [scP, .d (.str t)] (ovl (stE w s a v m l) rest) [dB false] (ovl (stE true s a v (mNext w m) l) rest) := by
  cases w
  · exact hcall_of_run okP named (hasPr t _ h) 1000 200000 21 (by kernel_rfl)
  · exact hcall_of_run okP named (hasPr t _ h) 1000 210000 21 (by kernel_rfl)
set_option maxRecDepth 100000 in
theorem hasT (t : List UInt8) (i : Nat) (h : findD (.str t) wordsE 0 = some (some (i, .agg []))) (rest : Heap) : HCall Tryd.prog 21 [scP, .d (.str t)] (ovl (stE w s a v m l) rest) [dB true] (ovl (stE true s a v (mNext w m) l) rest) := by
  cases w
  · exact hcall_of_run okP named (hasPr t _ h) 1000 200000 21 (by kernel_rfl)
  · exact hcall_of_run okP named (hasPr t _ h) 1000 210000 21 (by kernel_rfl)
def isWord (t : List UInt8) : Bool := wl.contains t
theorem hasC (t : List UInt8) (rest : Heap) : HCall Tryd.prog 21 [scP, .d (.str t)] (ovl (stE w s a v m l) rest) [dB (isWord t)] (ovl (stE true s a v (mNext w m) l) rest) := by
  rcases findD_words t wl wordsE 0 rfl with ⟨i, g1, g2, g3⟩ | ⟨g1, g2⟩
  · have : isWord t = true := by
      simp only [isWord, List.contains_eq_mem, decide_eq_true_eq]
      exact List.mem_of_getElem? g1
    rw [this]
    exact hasT w s a v m l t (0 + i) g3 rest
  · have : isWord t = false := by
      simp only [isWord, List.contains_eq_mem, decide_eq_false_iff_not]
      intro hm
      obtain ⟨i, hi⟩ := List.getElem?_of_mem hm
      have := g1 i t hi
      simp at this
    rw [this]
    exact hasF w s a v m l t g2 rest
noncomputable def hasCH (t : List UInt8) (u : Bool) (hu : isWord t = u) : CHint Tryd.prog :=
  ⟨21, [scP, .d (.str t)], stE w s a v m l, [dB u], stE true s a v (mNext w m) l, fits_of (by subst hu; exact hasC w s a v m l t)⟩
noncomputable def runSt (f : Nat) (hf : f = 23 ∨ f = 24 ∨ f = 27) (p : UInt8 → Bool) (hp : ∀ b, Pure Tryd.prog f [bD b] [.bool (p b)]) (hlen : s.length ≤ 100000) (ha : a ≤ s.length) : CHint Tryd.prog :=
  match w with
  | false => runCH (.d (.int .u32 0)) (.d (.int .i32 0)) (.d (.int .u32 0)) .junk s a v l f hf p hp hlen ha
  | true => runCH (.d (.int .u32 1)) (.d (.int .i32 0)) (.d (.int .u32 0)) (.mp 200156 1) s a v l f hf p hp hlen ha
noncomputable def blankSt (hlen : s.length ≤ 100000) (ha : a ≤ s.length) : CHint Tryd.prog :=
  match w with
  | false => blankCH (.d (.int .u32 0)) (.d (.int .i32 0)) (.d (.int .u32 0)) .junk s a v l ha hlen
  | true => blankCH (.d (.int .u32 1)) (.d (.int .i32 0)) (.d (.int .u32 0)) (.mp 200156 1) s a v l ha hlen
end
end Go.Avm
