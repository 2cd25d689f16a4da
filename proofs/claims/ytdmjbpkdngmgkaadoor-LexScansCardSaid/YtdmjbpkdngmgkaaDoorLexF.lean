/-
  The scanner of texts, part F: a word or a name is next.
-/
import Derived.Test.YtdmjbpkdngmgkaaDoorLexE
set_option linter.unusedSectionVars false
namespace Go.Avm
open Go.Proofs

def nmT (s : List UInt8) (a : Nat) : List UInt8 := sub s a (a + runN isNm (s.drop a))
section
variable (w : Bool) (s : List UInt8) (a v m : Nat) (l : List D)
noncomputable def nextPr (b : UInt8) (ha : a < s.length) (hb : s[((a : Nat) : Int).toNat]? = some b) (hlen : s.length ≤ 100000) (h1 : isDig b = false) (h2 : isSm b = true) (u : Bool) (hu : isWord (nmT s a) = u) (g : Bool) (hg : decide (12 < ((nmT s a).length : Int)) = g)
    (hl : l.length + 1 ≤ 549755813888) (ht : a + (nmT s a).length ≤ 1099511627776) : Par Tryd.prog :=
  { hint := fun f' k => if f' = 16 then (if k = 14 then some (.sidx s (a : Int) b (by omega) hb) else if k = 17 then some (.call 24 [bD b] [.bool false] (h1 ▸ digC b)) else if k = 22 then some (.call 26 [bD b] [.bool true] (h2 ▸ smC b))
      else if k = 40 then some (hB Tryd.prog _ g hg) else none) else none
    calls := fun f' k _ => if f' = 16 then (if k = 24 then some (runSt w s a v l 27 (by simp) isNm nmC hlen (by omega)) else if k = 33 then some (hasCH w s a v m l (nmT s a) u hu)
      else if k = 36 then some (putCH true s a v (mNext w m) l 2 0 (nmT s a) hl ht) else if k = 27 then some (putCH true s a v (mNext w m) l 1 0 (nmT s a) hl ht) else none) else none }
theorem nextWord (b : UInt8) (ha : a < s.length) (hb : s[((a : Nat) : Int).toNat]? = some b) (hlen : s.length ≤ 100000) (h1 : isDig b = false) (h2 : isSm b = true) (hu : isWord (nmT s a) = true)
    (hl : l.length + 1 ≤ 549755813888) (ht : a + (nmT s a).length ≤ 1099511627776) (rest : Heap) :
    HCall Tryd.prog 16 [scP] (ovl (stE w s a v m l) rest) [dI 0] (ovl (stE true s (a + (nmT s a).length) (v + 1) (mNext w m) (l ++ [tokD 2 a (nmT s a) 0])) rest) := by
  cases w with
  | false => exact hcall_of_run okP named (nextPr false s a v m l b ha hb hlen h1 h2 true hu _ rfl hl ht) 1000 130000 16 (by kernel_rfl)
  | true => exact hcall_of_run okP named (nextPr true s a v m l b ha hb hlen h1 h2 true hu _ rfl hl ht) 1000 130000 16 (by kernel_rfl)
theorem nextName (b : UInt8) (ha : a < s.length) (hb : s[((a : Nat) : Int).toNat]? = some b) (hlen : s.length ≤ 100000) (h1 : isDig b = false) (h2 : isSm b = true) (hu : isWord (nmT s a) = false) (hg : decide (12 < ((nmT s a).length : Int)) = false)
    (hl : l.length + 1 ≤ 549755813888) (ht : a + (nmT s a).length ≤ 1099511627776) (rest : Heap) :
    HCall Tryd.prog 16 [scP] (ovl (stE w s a v m l) rest) [dI 0] (ovl (stE true s (a + (nmT s a).length) (v + 1) (mNext w m) (l ++ [tokD 1 a (nmT s a) 0])) rest) := by
  cases w with
  | false => exact hcall_of_run okP named (nextPr false s a v m l b ha hb hlen h1 h2 false hu false hg hl ht) 1000 130000 16 (by kernel_rfl)
  | true => exact hcall_of_run okP named (nextPr true s a v m l b ha hb hlen h1 h2 false hu false hg hl ht) 1000 130000 16 (by kernel_rfl)
theorem nextLong (b : UInt8) (ha : a < s.length) (hb : s[((a : Nat) : Int).toNat]? = some b) (hlen : s.length ≤ 100000) (h1 : isDig b = false) (h2 : isSm b = true) (hu : isWord (nmT s a) = false) (hg : decide (12 < ((nmT s a).length : Int)) = true)
    (hl : l.length + 1 ≤ 549755813888) (ht : a + (nmT s a).length ≤ 1099511627776) (rest : Heap) :
    HCall Tryd.prog 16 [scP] (ovl (stE w s a v m l) rest) [dI 2] (ovl (stE true s a v (mNext w m) l) rest) := by
  cases w with
  | false => exact hcall_of_run okP named (nextPr false s a v m l b ha hb hlen h1 h2 false hu true hg hl ht) 1000 130000 16 (by kernel_rfl)
  | true => exact hcall_of_run okP named (nextPr true s a v m l b ha hb hlen h1 h2 false hu true hg hl ht) 1000 130000 16 (by kernel_rfl)
end
end Go.Avm
