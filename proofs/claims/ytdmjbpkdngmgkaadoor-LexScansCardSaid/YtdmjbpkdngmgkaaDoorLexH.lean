/-
  The scanner of texts, part H: a sign is next.
-/
import Derived.Test.YtdmjbpkdngmgkaaDoorLexG
set_option linter.unusedSectionVars false
namespace Go.Avm
open Go.Proofs

/-- The sign that begins here. -/
def signT (s : List UInt8) (a : Nat) (b : UInt8) : List UInt8 :=
  if (decide (2 ≤ ((rst s a).length : Int)) && prs.contains (pre2 (rst s a) 2)) = true then pre2 (rst s a) 2 else if decide (0 ≤ idxB b) = true then pre2 (rst s a) 1 else []
section
variable (w : Bool) (s : List UInt8) (a v m : Nat) (l : List D)
theorem signC (c0 c1 c2 c3 : AV) (b : UInt8) (ha : a < s.length) (hb : (rst s a)[(0 : Int).toNat]? = some b) (rest : Heap) :
    HCall Tryd.prog 28 [scP] (ovl (runHp c0 c1 c2 c3 s a v l) rest) [.d (.str (signT s a b))] (ovl (runHp c0 c1 c2 c3 s a v l) rest) := by
  have h1 : 1 ≤ (rst s a).length := by
    have := (List.getElem?_eq_some_iff.1 hb).1
    omega
  have h2 : ∀ g, decide (2 ≤ ((rst s a).length : Int)) = g → g = true → 2 ≤ (rst s a).length := by
    rintro g rfl h
    have := of_decide_eq_true h
    omega
  unfold signT
  split
  · rename_i h
    simp only [Bool.and_eq_true] at h
    exact signTwo s a v l c0 c1 c2 c3 b ha hb h.1 h.2 (h2 _ h.1 rfl) rest
  · rename_i h
    have h' : (decide (2 ≤ ((rst s a).length : Int)) && prs.contains (pre2 (rst s a) 2)) = false := by simpa only [Bool.not_eq_true] using h
    split
    · rename_i hz
      exact signOne s a v l c0 c1 c2 c3 b ha hb _ rfl h' (h2 _ rfl) h1 hz rest
    · rename_i hz
      exact signNone s a v l c0 c1 c2 c3 b ha hb _ rfl h' (h2 _ rfl) h1 (by simpa only [Bool.not_eq_true] using hz) rest
noncomputable def signSt (b : UInt8) (ha : a < s.length) (hb : (rst s a)[(0 : Int).toNat]? = some b) (t : List UInt8) (ht : signT s a b = t) : CHint Tryd.prog :=
  match w with
  | false => ⟨28, [scP], runHp (.d (.int .u32 0)) (.d (.int .i32 0)) (.d (.int .u32 0)) .junk s a v l, [.d (.str t)], [], fits_ro rfl (ht ▸ signC s a v l _ _ _ _ b ha hb)⟩
  | true => ⟨28, [scP], runHp (.d (.int .u32 1)) (.d (.int .i32 0)) (.d (.int .u32 0)) (.mp 200156 1) s a v l, [.d (.str t)], [], fits_ro rfl (ht ▸ signC s a v l _ _ _ _ b ha hb)⟩
noncomputable def sgnPr (b : UInt8) (ha : a < s.length) (hb : s[((a : Nat) : Int).toNat]? = some b) (hb' : (rst s a)[(0 : Int).toNat]? = some b) (h1 : isDig b = false) (h2 : isSm b = false) (t : List UInt8) (hT : signT s a b = t) (u : Bool) (hu : (t == []) = u)
    (hl : l.length + 1 ≤ 549755813888) (ht : a + t.length ≤ 1099511627776) : Par Tryd.prog :=
  { hint := fun f' k => if f' = 16 then (if k = 14 then some (.sidx s (a : Int) b (by omega) hb) else if k = 17 then some (.call 24 [bD b] [.bool false] (h1 ▸ digC b)) else if k = 22 then some (.call 26 [bD b] [.bool false] (h2 ▸ smC b))
      else if k = 44 then some (hB Tryd.prog _ u hu) else none) else none
    calls := fun f' k _ => if f' = 16 then (if k = 42 then some (signSt w s a v l b ha hb' t hT) else if k = 47 then some (putCH w s a v m l 4 0 t hl ht) else none) else none }
theorem nextSign (b : UInt8) (ha : a < s.length) (hb : s[((a : Nat) : Int).toNat]? = some b) (hb' : (rst s a)[(0 : Int).toNat]? = some b) (h1 : isDig b = false) (h2 : isSm b = false) (t : List UInt8) (hT : signT s a b = t) (hu : (t == []) = false)
    (hl : l.length + 1 ≤ 549755813888) (ht : a + t.length ≤ 1099511627776) (rest : Heap) :
    HCall Tryd.prog 16 [scP] (ovl (stE w s a v m l) rest) [dI 0] (ovl (stE w s (a + t.length) (v + 1) m (l ++ [tokD 4 a t 0])) rest) := by
  cases w with
  | false => exact hcall_of_run okP named (sgnPr false s a v m l b ha hb hb' h1 h2 t hT false hu hl ht) 1000 130000 16 (by kernel_rfl)
  | true => exact hcall_of_run okP named (sgnPr true s a v m l b ha hb hb' h1 h2 t hT false hu hl ht) 1000 130000 16 (by kernel_rfl)
theorem nextNone (b : UInt8) (ha : a < s.length) (hb : s[((a : Nat) : Int).toNat]? = some b) (hb' : (rst s a)[(0 : Int).toNat]? = some b) (h1 : isDig b = false) (h2 : isSm b = false) (t : List UInt8) (hT : signT s a b = t) (hu : (t == []) = true)
    (hl : l.length + 1 ≤ 549755813888) (ht : a + t.length ≤ 1099511627776) (rest : Heap) :
    HCall Tryd.prog 16 [scP] (ovl (stE w s a v m l) rest) [dI 4] (ovl (stE w s a v m l) rest) := by
  cases w with
  | false => exact hcall_of_run okP named (sgnPr false s a v m l b ha hb hb' h1 h2 t hT true hu hl ht) 1000 130000 16 (by kernel_rfl)
  | true => exact hcall_of_run okP named (sgnPr true s a v m l b ha hb hb' h1 h2 t hT true hu hl ht) 1000 130000 16 (by kernel_rfl)
end
end Go.Avm
