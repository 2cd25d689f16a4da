/-
  The scanner of texts, part J: a number is next.
-/
import Derived.Test.YtdmjbpkdngmgkaaDoorLexI
set_option linter.unusedSectionVars false
namespace Go.Avm
open Go.Proofs

def digT (s : List UInt8) (a : Nat) : List UInt8 := sub s a (a + runN isDig (s.drop a))
section
variable (w : Bool) (s : List UInt8) (a v m : Nat) (l : List D)
noncomputable def numPr (c b : UInt8) (ha : a < s.length) (hlen : s.length ≤ 100000) (h0 : (digT s a)[(0 : Int).toNat]? = some c) (n : Int) (e : D) (hp : Pure Tryd.prog 32 [.str (digT s a), .int .i64 10, .int .i64 64] [.int .i64 n, e])
    (hta : a + (digT s a).length ≤ 1099511627776) (hl : l.length + 1 ≤ 549755813888) (z y x u g k9 : Bool) (hz : decide (1 < ((digT s a).length : Int)) = z) (hy : ((c.toNat : Int) == 48) = y) (hx : decide (((a + (digT s a).length : Nat) : Int) < (s.length : Int)) = x)
    (hxb : x = true → s[((a + (digT s a).length : Nat) : Int).toNat]? = some b) (hu : isSm b = u) (hg : ge8 65 b = g) (hk : le8 b 90 = k9) : Par Tryd.prog :=
  { hint := fun f' k => if f' = 25 then (if k = 11 then some (.call 32 [.str (digT s a), .int .i64 10, .int .i64 64] [.int .i64 n, e] hp) else if k = 20 then some (hAdd Tryd.prog a (digT s a).length hta) else if k = 27 then some (hB Tryd.prog _ z hz)
      else if k = 30 then some (.sidx (digT s a) 0 c (by omega) h0) else if k = 31 then some (hB Tryd.prog _ y hy) else if k = 40 then some (hB Tryd.prog _ x hx)
      else if k = 47 then (if h : x = true then some (.sidx s ((a + (digT s a).length : Nat) : Int) b (by omega) (hxb h)) else none) else if k = 55 then (if h : x = true then some (.sidx s ((a + (digT s a).length : Nat) : Int) b (by omega) (hxb h)) else none)
      else if k = 63 then (if h : x = true then some (.sidx s ((a + (digT s a).length : Nat) : Int) b (by omega) (hxb h)) else none) else if k = 48 then some (.call 26 [bD b] [.bool u] (hu ▸ smC b)) else if k = 56 then some (hB Tryd.prog _ g hg) else if k = 64 then some (hB Tryd.prog _ k9 hk) else none) else none
    calls := fun f' k _ => if f' = 25 then (if k = 8 then some (runSt w s a v l 24 (by simp) isDig digC hlen (by omega)) else if k = 72 then some (putCH w s a v m l 3 n (digT s a) hl hta) else none) else none }
def numBad (z y x u g k9 : Bool) : Bool := (z && y) || (x && (u || (g && k9)))
theorem numGreat (c b : UInt8) (ha : a < s.length) (hlen : s.length ≤ 100000) (h0 : (digT s a)[(0 : Int).toNat]? = some c) (n : Int) (hp : Pure Tryd.prog 32 [.str (digT s a), .int .i64 10, .int .i64 64] [.int .i64 n, .ifc])
    (hta : a + (digT s a).length ≤ 1099511627776) (hl : l.length + 1 ≤ 549755813888)
    (hxb : decide (((a + (digT s a).length : Nat) : Int) < (s.length : Int)) = true → s[((a + (digT s a).length : Nat) : Int).toNat]? = some b) (rest : Heap) :
    HCall Tryd.prog 25 [scP] (ovl (stE w s a v m l) rest) [dI 2] (ovl (stE w s a v m l) rest) := by
  cases w with
  | false => exact hcall_of_run okP named (numPr false s a v m l c b ha hlen h0 n .ifc hp hta hl _ _ _ _ _ _ rfl rfl rfl hxb rfl rfl rfl) 1000 150000 25 (by kernel_rfl)
  | true => exact hcall_of_run okP named (numPr true s a v m l c b ha hlen h0 n .ifc hp hta hl _ _ _ _ _ _ rfl rfl rfl hxb rfl rfl rfl) 1000 150000 25 (by kernel_rfl)
theorem numFour (c b : UInt8) (ha : a < s.length) (hlen : s.length ≤ 100000) (h0 : (digT s a)[(0 : Int).toNat]? = some c) (n : Int) (hp : Pure Tryd.prog 32 [.str (digT s a), .int .i64 10, .int .i64 64] [.int .i64 n, .nili])
    (hta : a + (digT s a).length ≤ 1099511627776) (hl : l.length + 1 ≤ 549755813888) (z y x u g k9 : Bool) (hz : decide (1 < ((digT s a).length : Int)) = z) (hy : ((c.toNat : Int) == 48) = y) (hx : decide (((a + (digT s a).length : Nat) : Int) < (s.length : Int)) = x)
    (hxb : x = true → s[((a + (digT s a).length : Nat) : Int).toNat]? = some b) (hu : isSm b = u) (hg : ge8 65 b = g) (hk : le8 b 90 = k9) (hbad : numBad z y x u g k9 = true) (rest : Heap) :
    HCall Tryd.prog 25 [scP] (ovl (stE w s a v m l) rest) [dI 4] (ovl (stE w s a v m l) rest) := by
  cases w with
  | false => cases z <;> cases y <;> cases x <;> cases u <;> cases g <;> cases k9 <;> first | exact absurd hbad (by decide) | exact hcall_of_run okP named (numPr false s a v m l c b ha hlen h0 n .nili hp hta hl _ _ _ _ _ _ hz hy hx hxb hu hg hk) 1000 150000 25 (by kernel_rfl)
  | true => cases z <;> cases y <;> cases x <;> cases u <;> cases g <;> cases k9 <;> first | exact absurd hbad (by decide) | exact hcall_of_run okP named (numPr true s a v m l c b ha hlen h0 n .nili hp hta hl _ _ _ _ _ _ hz hy hx hxb hu hg hk) 1000 150000 25 (by kernel_rfl)
theorem numOk (c b : UInt8) (ha : a < s.length) (hlen : s.length ≤ 100000) (h0 : (digT s a)[(0 : Int).toNat]? = some c) (n : Int) (hp : Pure Tryd.prog 32 [.str (digT s a), .int .i64 10, .int .i64 64] [.int .i64 n, .nili])
    (hta : a + (digT s a).length ≤ 1099511627776) (hl : l.length + 1 ≤ 549755813888) (z y x u g k9 : Bool) (hz : decide (1 < ((digT s a).length : Int)) = z) (hy : ((c.toNat : Int) == 48) = y) (hx : decide (((a + (digT s a).length : Nat) : Int) < (s.length : Int)) = x)
    (hxb : x = true → s[((a + (digT s a).length : Nat) : Int).toNat]? = some b) (hu : isSm b = u) (hg : ge8 65 b = g) (hk : le8 b 90 = k9) (hbad : numBad z y x u g k9 = false) (rest : Heap) :
    HCall Tryd.prog 25 [scP] (ovl (stE w s a v m l) rest) [dI 0] (ovl (stE w s (a + (digT s a).length) (v + 1) m (l ++ [tokD 3 a (digT s a) n])) rest) := by
  cases w with
  | false => cases z <;> cases y <;> cases x <;> cases u <;> cases g <;> cases k9 <;> first | exact absurd hbad (by decide) | exact hcall_of_run okP named (numPr false s a v m l c b ha hlen h0 n .nili hp hta hl _ _ _ _ _ _ hz hy hx hxb hu hg hk) 1000 150000 25 (by kernel_rfl)
  | true => cases z <;> cases y <;> cases x <;> cases u <;> cases g <;> cases k9 <;> first | exact absurd hbad (by decide) | exact hcall_of_run okP named (numPr true s a v m l c b ha hlen h0 n .nili hp hta hl _ _ _ _ _ _ hz hy hx hxb hu hg hk) 1000 150000 25 (by kernel_rfl)
noncomputable def nxPr (b : UInt8) (ha : a < s.length) (hb : s[((a : Nat) : Int).toNat]? = some b) (h1 : isDig b = true) (C : CHint Tryd.prog) : Par Tryd.prog :=
  { hint := fun f' k => if f' = 16 then (if k = 14 then some (.sidx s (a : Int) b (by omega) hb) else if k = 17 then some (.call 24 [bD b] [.bool true] (h1 ▸ digC b)) else none) else none
    calls := fun f' k _ => if f' = 16 then (if k = 19 then some C else none) else none }
theorem nextNumErr (b : UInt8) (ha : a < s.length) (hb : s[((a : Nat) : Int).toNat]? = some b) (h1 : isDig b = true) (k : Int) (hc : ∀ rest : Heap, HCall Tryd.prog 25 [scP] (ovl (stE w s a v m l) rest) [dI k] (ovl (stE w s a v m l) rest)) (rest : Heap) :
    HCall Tryd.prog 16 [scP] (ovl (stE w s a v m l) rest) [dI k] (ovl (stE w s a v m l) rest) := by
  cases w with
  | false => exact hcall_of_run okP named (nxPr s a b ha hb h1 ⟨25, [scP], stE false s a v m l, [dI k], stE false s a v m l, fits_of hc⟩) 1000 130000 16 (by kernel_rfl)
  | true => exact hcall_of_run okP named (nxPr s a b ha hb h1 ⟨25, [scP], stE true s a v m l, [dI k], stE true s a v m l, fits_of hc⟩) 1000 130000 16 (by kernel_rfl)
theorem nextNumOk (b : UInt8) (ha : a < s.length) (hb : s[((a : Nat) : Int).toNat]? = some b) (h1 : isDig b = true) (a' v' : Nat) (l' : List D) (hc : ∀ rest : Heap, HCall Tryd.prog 25 [scP] (ovl (stE w s a v m l) rest) [dI 0] (ovl (stE w s a' v' m l') rest)) (rest : Heap) :
    HCall Tryd.prog 16 [scP] (ovl (stE w s a v m l) rest) [dI 0] (ovl (stE w s a' v' m l') rest) := by
  cases w with
  | false => exact hcall_of_run okP named (nxPr s a b ha hb h1 ⟨25, [scP], stE false s a v m l, [dI 0], stE false s a' v' m l', fits_of hc⟩) 1000 130000 16 (by kernel_rfl)
  | true => exact hcall_of_run okP named (nxPr s a b ha hb h1 ⟨25, [scP], stE true s a v m l, [dI 0], stE true s a' v' m l', fits_of hc⟩) 1000 130000 16 (by kernel_rfl)
end
end Go.Avm
