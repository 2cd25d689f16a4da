/-
  The scanner of texts, part G: signs.
-/
import Derived.Test.YtkhcaamgjjhpeaaGreatDoorG10
import Derived.Shelf.LaysC
import Derived.Ground.NamesProg
import Derived.Shelf.Strconv.ParseIntPublic10
import Derived.Test.YtkhcaamgjjhpeaaGreatDoorProg
import Derived.Test.YtkhcaamgjjhpeaaGreatDoorG09
import Derived.Test.YtkhcaamgjjhpeaaGreatDoorG07
set_option linter.unusedSectionVars false
namespace Go.Avm
open Go.Proofs
def prs : List (List UInt8) := [[61, 61], [33, 61], [60, 61], [62, 61], [38, 38], [124, 124], [60, 60], [62, 62]]
def prsS : List UInt8 := [61, 61, 32, 33, 61, 32, 60, 61, 32, 62, 61, 32, 38, 38, 32, 124, 124, 32, 60, 60, 32, 62, 62]
def sgnS : List UInt8 := [40, 41, 123, 125, 91, 93, 44, 59, 58, 61, 60, 62, 43, 45, 42, 47, 37, 38, 124, 94, 33, 126]
def prsD : List D := prs.map .str
theorem prsD_get {i : Nat} {x : List UInt8} (h : prs[i]? = some x) : prsD[((i : Nat) : Int).toNat]? = some (.str x) := by
 simp [prsD, h]
set_option maxRecDepth 100000 in
theorem fieldsC : Pure Pg 73 [.str prsS] [.ro prsD] := pure_of_run okP named {} 100000 (by kernel_rfl)
def ixL (t : List UInt8) (i : Nat) : List (Nat × AV) := [(0, .d (.ro prsD)), (1, .d (.str t)), (7, dN 8), (8, dN i)]
noncomputable def ixPr (t x : List UInt8) (i : Nat) (hi : i < 8) (hx : prs[i]? = some x) (u : Bool) (he : (t == x) = u) : Par Pg :=
 { hint := fun f k => if f = 97 then (if k = 9 then some (qL hi) else if k = 14 then some (.idx prsD (i : Int) (.str x) (by omega) (prsD_get hx)) else if k = 16 then some (hEq Pg t x u he)
   else if k = 18 then some (hSucc Pg i (by omega)) else none) else none }
theorem ixNext (t x : List UInt8) (i : Nat) (hi : i < 8) (hx : prs[i]? = some x) (he : (t == x) = false) (rest : Heap) (X : Fix) (hP : X.P = Pg) (hN : X.N = 19) :
    AW X (lO 97 2) ⟨envOf (ixL t i), ovl [] rest⟩ fun e' S' => e' = .normal ∧ Weak X S' ⟨envOf (ixL t (i + 1)), ovl [] rest⟩ :=
 seg okP named (ixPr t x i hi hx false he) 1000 97 1000 19 (by kernel_rfl) X hP hN
theorem ixHit (t x : List UInt8) (i : Nat) (hi : i < 8) (hx : prs[i]? = some x) (he : (t == x) = true) (rest : Heap) (X : Fix) (hP : X.P = Pg) (hN : X.N = 19) :
    AW X (lO 97 2) ⟨envOf (ixL t i), ovl [] rest⟩ fun e' S' => e' = .ret ∧ Weak X S' ⟨envOf [(4, dN i)], ovl [] rest⟩ :=
 seg okP named (ixPr t x i hi hx true he) 1000 97 1000 19 (by kernel_rfl) X hP hN
theorem ixEnd (t : List UInt8) (rest : Heap) (X : Fix) (hP : X.P = Pg) (hN : X.N = 19) :
    AW X (lO 97 2) ⟨envOf (ixL t 8), ovl [] rest⟩ fun e' S' => e' = .exit 0 ∧ Weak X S' ⟨envOf [], ovl [] rest⟩ :=
 seg okP named {} 1000 97 1000 19 (by kernel_rfl) X hP hN
theorem ixLoopT (t : List UInt8) (i0 : Nat) (h0 : prs[i0]? = some t) (hlt : ∀ (j : Nat) (x : List UInt8), j < i0 → prs[j]? = some x → (t == x) = false) (rest : Heap) (X : Fix) (hP : X.P = Pg) (hN : X.N = 19) :
    AW X (.loop (lO 97 2)) ⟨envOf (ixL t 0), ovl [] rest⟩ fun e' S' => e' = .ret ∧ S' = ⟨envOf [(4, dN i0)], ovl [] rest⟩ := by
 have hi0 : i0 < 8 := (List.getElem?_eq_some_iff.1 h0).1
 exact loop_of_segs (P := Pg) (N := 19) (c := loopOf Pg 97 2) (ixL t) (fun _ _ => []) (fun i => i ≤ i0) (fun i => 8 - i) .ret [(4, dN i0)] (fun _ => []) 0 (Nat.zero_le _) (by simp)
  (fun rest i hi => by
   rcases Nat.lt_or_ge i i0 with h | h
   ·obtain ⟨x, hx⟩ : ∃ x, prs[i]? = some x := ⟨_, List.getElem?_eq_getElem (show i < 8 by omega)⟩
    exact .inl ⟨i + 1, h, by omega, fun X hP hN => ixNext t x i (by omega) hx (hlt i x h hx) rest X hP hN⟩
   ·have : i = i0 := by omega
    subst this
    exact .inr fun X hP hN => ixHit t t i hi0 h0 (by simp) rest X hP hN) rest X hP hN
theorem ixLoopF (t : List UInt8) (hno : ∀ (j : Nat) (x : List UInt8), prs[j]? = some x → (t == x) = false) (rest : Heap) (X : Fix) (hP : X.P = Pg) (hN : X.N = 19) :
    AW X (.loop (lO 97 2)) ⟨envOf (ixL t 0), ovl [] rest⟩ fun e' S' => e' = .exit 0 ∧ S' = ⟨envOf [], ovl [] rest⟩ :=
 loop_of_segs (P := Pg) (N := 19) (c := loopOf Pg 97 2) (ixL t) (fun _ _ => []) (fun i => i ≤ 8) (fun i => 8 - i) (.exit 0) [] (fun _ => []) 0 (Nat.zero_le _) (by simp)
  (fun rest i hi => by
   rcases Nat.lt_or_ge i 8 with h | h
   ·obtain ⟨x, hx⟩ : ∃ x, prs[i]? = some x := ⟨_, List.getElem?_eq_getElem (show i < 8 from h)⟩
    exact .inl ⟨i + 1, h, by omega, fun X hP hN => ixNext t x i h hx (hno i x hx) rest X hP hN⟩
   ·have : i = 8 := by omega
    subst this
    exact .inr fun X hP hN => ixEnd t rest X hP hN) rest X hP hN
noncomputable def ixLT (t : List UInt8) (i0 : Nat) (h0 : prs[i0]? = some t) (hlt : ∀ (j : Nat) (x : List UInt8), j < i0 → prs[j]? = some x → (t == x) = false) : LHint Pg := ⟨19, loopOf Pg 97 2, ixL t 0, fun _ => [], .ret, [(4, dN i0)], fun _ => [], ixLoopT t i0 h0 hlt⟩
noncomputable def ixLF (t : List UInt8) (hno : ∀ (j : Nat) (x : List UInt8), prs[j]? = some x → (t == x) = false) : LHint Pg := ⟨19, loopOf Pg 97 2, ixL t 0, fun _ => [], .exit 0, [], fun _ => [], ixLoopF t hno⟩
theorem ctT (t : List UInt8) (i0 : Nat) (h0 : prs[i0]? = some t) (hlt : ∀ (j : Nat) (x : List UInt8), j < i0 → prs[j]? = some x → (t == x) = false) : Pure Pg 74 [.ro prsD, .str t] [.bool true] :=
 pure_of_run okP named { loops := fun f r => if f = 97 then (if r = 2 then some (ixLT t i0 h0 hlt) else none) else none } 1000 (by kernel_rfl)
theorem ctF (t : List UInt8) (hno : ∀ (j : Nat) (x : List UInt8), prs[j]? = some x → (t == x) = false) : Pure Pg 74 [.ro prsD, .str t] [.bool false] :=
 pure_of_run okP named { loops := fun f r => if f = 97 then (if r = 2 then some (ixLF t hno) else none) else none } 1000 (by kernel_rfl)
theorem first_hit (t : List UInt8) : ∀ (l : List (List UInt8)), t ∈ l → ∃ i : Nat, l[i]? = some t ∧ ∀ (j : Nat) (x : List UInt8), j < i → l[j]? = some x → (t == x) = false
 | [], h => by simp at h
 | y :: l, h => by
  by_cases hy : t = y
  ·subst hy
   exact ⟨0, rfl, fun j x hj => by omega⟩
  ·obtain ⟨i, h1, h2⟩ := first_hit t l (by simpa [hy] using h)
   refine ⟨i + 1, by simpa using h1, fun j x hj hx => ?_⟩
   cases j with
   | zero => simp at hx; subst hx; simpa using hy
   | succ j => exact h2 j x (by omega) (by simpa using hx)
theorem ctC (t : List UInt8) : Pure Pg 74 [.ro prsD, .str t] [.bool (prs.contains t)] := by
 by_cases h : t ∈ prs
 ·obtain ⟨i, h1, h2⟩ := first_hit t prs h
  have : prs.contains t = true := by simpa using h
  rw [this]
  exact ctT t i h1 h2
 ·have : prs.contains t = false := by simpa using h
  rw [this]
  refine ctF t fun j x hx => ?_
  have : x ∈ prs := List.mem_of_getElem? hx
  simp only [beq_eq_false_iff_ne, ne_eq]
  rintro rfl
  exact h this
def idxB (b : UInt8) : Int := match firstAt ((b.toNat : Int).toNat.toUInt8) sgnS 0 with
 | some i => (i : Int)
 | none => -1
theorem ibC (b : UInt8) : Pure Pg 75 [.str sgnS, bD b] [.int .i64 (idxB b)] := pure_of_run okP named {} 1000 (by kernel_rfl)
def rst (s : List UInt8) (a : Nat) : List UInt8 := (s.take s.length).drop a
def pre2 (t : List UInt8) (k : Nat) : List UInt8 := (t.take k).drop 0
section
variable (w : Bool) (s : List UInt8) (a v m : Nat) (l : List D)
noncomputable def signPr (b : UInt8) (ha : a < s.length) (hb : (rst s a)[(0 : Int).toNat]? = some b) (g : Bool) (hg : decide (2 ≤ ((rst s a).length : Int)) = g) (u : Bool) (hu : prs.contains (pre2 (rst s a) 2) = u) (z : Bool) (hz : decide (0 ≤ idxB b) = z)
    (h2 : g = true → 2 ≤ (rst s a).length) (h1 : 1 ≤ (rst s a).length) : Par Pg :=
 { hint := fun f' k => if f' = 59 then (if k = 12 then some (.sub s a s.length ⟨by omega, Nat.le_refl _⟩) else if k = 15 then some (hB Pg _ g hg) else if k = 17 then some (.call 73 [.str prsS] [.ro prsD] fieldsC)
     else if k = 19 then (if hgt : g = true then some (.sub (rst s a) 0 2 ⟨by omega, h2 hgt⟩) else none) else if k = 20 then some (.call 74 [.ro prsD, .str (pre2 (rst s a) 2)] [.bool u] (hu ▸ ctC _))
     else if k = 23 then (if hgt : g = true then some (.sub (rst s a) 0 2 ⟨by omega, h2 hgt⟩) else none) else if k = 25 then some (.sidx (rst s a) 0 b (by omega) hb)
     else if k = 26 then some (.call 75 [.str sgnS, bD b] [.int .i64 (idxB b)] (ibC b)) else if k = 27 then some (hB Pg _ z hz) else if k = 29 then some (.sub (rst s a) 0 1 ⟨by omega, h1⟩) else none) else none }
section
variable (c0 c1 c2 c3 : AV) (b : UInt8) (ha : a < s.length) (hb : (rst s a)[(0 : Int).toNat]? = some b)
include c0 c1 c2 c3 b ha hb
theorem signTwo (hg : decide (2 ≤ ((rst s a).length : Int)) = true) (hu : prs.contains (pre2 (rst s a) 2) = true) (h2 : 2 ≤ (rst s a).length) (rest : Heap) :
    HCall Pg 59 [scP] (ovl (runHp c0 c1 c2 c3 s a v l) rest) [.d (.str (pre2 (rst s a) 2))] (ovl (runHp c0 c1 c2 c3 s a v l) rest) :=
 hcall_of_run okP named (signPr s a b ha hb true hg true hu _ rfl (fun _ => h2) (by omega)) 1000 140000 59 (by kernel_rfl)
theorem signOne (g : Bool) (hg : decide (2 ≤ ((rst s a).length : Int)) = g) (hu : (g && prs.contains (pre2 (rst s a) 2)) = false) (h2 : g = true → 2 ≤ (rst s a).length) (h1 : 1 ≤ (rst s a).length) (hz : decide (0 ≤ idxB b) = true) (rest : Heap) :
    HCall Pg 59 [scP] (ovl (runHp c0 c1 c2 c3 s a v l) rest) [.d (.str (pre2 (rst s a) 1))] (ovl (runHp c0 c1 c2 c3 s a v l) rest) := by
 cases g with
 | false => exact hcall_of_run okP named (signPr s a b ha hb false hg _ rfl true hz h2 h1) 1000 140000 59 (by kernel_rfl)
 | true => exact hcall_of_run okP named (signPr s a b ha hb true hg false (by simpa using hu) true hz h2 h1) 1000 140000 59 (by kernel_rfl)
theorem signNone (g : Bool) (hg : decide (2 ≤ ((rst s a).length : Int)) = g) (hu : (g && prs.contains (pre2 (rst s a) 2)) = false) (h2 : g = true → 2 ≤ (rst s a).length) (h1 : 1 ≤ (rst s a).length) (hz : decide (0 ≤ idxB b) = false) (rest : Heap) :
    HCall Pg 59 [scP] (ovl (runHp c0 c1 c2 c3 s a v l) rest) [.d (.str [])] (ovl (runHp c0 c1 c2 c3 s a v l) rest) := by
 cases g with
 | false => exact hcall_of_run okP named (signPr s a b ha hb false hg _ rfl false hz h2 h1) 1000 140000 59 (by kernel_rfl)
 | true => exact hcall_of_run okP named (signPr s a b ha hb true hg false (by simpa using hu) false hz h2 h1) 1000 140000 59 (by kernel_rfl)
end
end
end Go.Avm
namespace Go.Avm
open Go.Proofs
def signT (s : List UInt8) (a : Nat) (b : UInt8) : List UInt8 :=
 if (decide (2 ≤ ((rst s a).length : Int)) && prs.contains (pre2 (rst s a) 2)) = true then pre2 (rst s a) 2 else if decide (0 ≤ idxB b) = true then pre2 (rst s a) 1 else []
section
variable (w : Bool) (s : List UInt8) (a v m : Nat) (l : List D)
theorem signC (c0 c1 c2 c3 : AV) (b : UInt8) (ha : a < s.length) (hb : (rst s a)[(0 : Int).toNat]? = some b) (rest : Heap) :
    HCall Pg 59 [scP] (ovl (runHp c0 c1 c2 c3 s a v l) rest) [.d (.str (signT s a b))] (ovl (runHp c0 c1 c2 c3 s a v l) rest) := by
 have h1 : 1 ≤ (rst s a).length := by
  have := (List.getElem?_eq_some_iff.1 hb).1
  omega
 have h2 : ∀ g, decide (2 ≤ ((rst s a).length : Int)) = g → g = true → 2 ≤ (rst s a).length := by
  rintro g rfl h
  have := of_decide_eq_true h
  omega
 unfold signT
 split
 ·rename_i h
  simp only [Bool.and_eq_true] at h
  exact signTwo s a v l c0 c1 c2 c3 b ha hb h.1 h.2 (h2 _ h.1 rfl) rest
 ·rename_i h
  have h' : (decide (2 ≤ ((rst s a).length : Int)) && prs.contains (pre2 (rst s a) 2)) = false := by simpa only [Bool.not_eq_true] using h
  split
  ·rename_i hz
   exact signOne s a v l c0 c1 c2 c3 b ha hb _ rfl h' (h2 _ rfl) h1 hz rest
  ·rename_i hz
   exact signNone s a v l c0 c1 c2 c3 b ha hb _ rfl h' (h2 _ rfl) h1 (by simpa only [Bool.not_eq_true] using hz) rest
noncomputable def signSt (b : UInt8) (ha : a < s.length) (hb : (rst s a)[(0 : Int).toNat]? = some b) (t : List UInt8) (ht : signT s a b = t) : CHint Pg :=
 match w with
 | false => ⟨59, [scP], runHp (.d (.int .u32 0)) (.d (.int .i32 0)) (.d (.int .u32 0)) .junk s a v l, [.d (.str t)], [], fits_ro rfl (ht ▸ signC s a v l _ _ _ _ b ha hb)⟩
 | true => ⟨59, [scP], runHp (.d (.int .u32 1)) (.d (.int .i32 0)) (.d (.int .u32 0)) (.mp 200156 1) s a v l, [.d (.str t)], [], fits_ro rfl (ht ▸ signC s a v l _ _ _ _ b ha hb)⟩
noncomputable def sgnPr (b : UInt8) (ha : a < s.length) (hb : s[((a : Nat) : Int).toNat]? = some b) (hb' : (rst s a)[(0 : Int).toNat]? = some b) (h1 : isDig b = false) (h2 : isSm b = false) (t : List UInt8) (hT : signT s a b = t) (u : Bool) (hu : (t == []) = u)
    (hl : l.length + 1 ≤ 549755813888) (ht : a + t.length ≤ 1099511627776) : Par Pg :=
 { hint := fun f' k => if f' = 32 then (if k = 14 then some (.sidx s (a : Int) b (by omega) hb) else if k = 17 then some (.call 54 [bD b] [.bool false] (h1 ▸ digC b)) else if k = 22 then some (.call 56 [bD b] [.bool false] (h2 ▸ smC b))
     else if k = 44 then some (hB Pg _ u hu) else none) else none
   calls := fun f' k _ => if f' = 32 then (if k = 42 then some (signSt w s a v l b ha hb' t hT) else if k = 47 then some (putCH w s a v m l 4 0 t hl ht) else none) else none }
section
variable (b : UInt8) (ha : a < s.length) (hb : s[((a : Nat) : Int).toNat]? = some b) (hb' : (rst s a)[(0 : Int).toNat]? = some b) (h1 : isDig b = false) (h2 : isSm b = false) (t : List UInt8) (hT : signT s a b = t)
include b ha hb hb' h1 h2 t hT
theorem nextSign (hu : (t == []) = false) (hl : l.length + 1 ≤ 549755813888) (ht : a + t.length ≤ 1099511627776) (rest : Heap) :
    HCall Pg 32 [scP] (ovl (stE w s a v m l) rest) [dI 0] (ovl (stE w s (a + t.length) (v + 1) m (l ++ [tokD 4 a t 0])) rest) := by
 cases w with
 | false => exact hcall_of_run okP named (sgnPr false s a v m l b ha hb hb' h1 h2 t hT false hu hl ht) 1000 130000 32 (by kernel_rfl)
 | true => exact hcall_of_run okP named (sgnPr true s a v m l b ha hb hb' h1 h2 t hT false hu hl ht) 1000 130000 32 (by kernel_rfl)
theorem nextNone (hu : (t == []) = true) (hl : l.length + 1 ≤ 549755813888) (ht : a + t.length ≤ 1099511627776) (rest : Heap) :
    HCall Pg 32 [scP] (ovl (stE w s a v m l) rest) [dI 4] (ovl (stE w s a v m l) rest) := by
 cases w with
 | false => exact hcall_of_run okP named (sgnPr false s a v m l b ha hb hb' h1 h2 t hT true hu hl ht) 1000 130000 32 (by kernel_rfl)
 | true => exact hcall_of_run okP named (sgnPr true s a v m l b ha hb hb' h1 h2 t hT true hu hl ht) 1000 130000 32 (by kernel_rfl)
end
end
end Go.Avm
namespace Go.Proofs
open Go.Shelf
def Tryz.lays174_ren : Go.Shelf.Ren := ⟨fun | 174 => 70 | 247 => 91 | 245 => 92 | 287 => 113 | 279 => 114 | 280 => 115 | 281 => 116 | 282 => 117 | 321 => 132 | 322 => 133 | 316 => 134 | 171 => 136 | 205 => 135 | 243 => 148 | 246 => 111 | 283 => 127 | 284 => 128 | 285 => 129 | 286 => 130 | 129 => 144 | 317 => 143 | 318 => 145 | 319 => 146 | 320 => 147 | 337 => 157 | 338 => 158 | n => n, fun | 9 => 9 | 3 => 3 | 2 => 2 | 75 => 125 | 85 => 132 | 4 => 4 | 167 => 172 | 5 => 5 | 53 => 167 | 175 => 173 | 46 => 144 | 168 => 175 | 37 => 50 | 0 => 0 | 210 => 197 | 21 => 21 | 127 => 131 | 145 => 220 | 143 => 218 | 171 => 189 | 173 => 192 | 212 => 214 | 51 => 85 | 20 => 20 | 213 => 215 | 232 => 232 | 233 => 233 | 80 => 109 | n => n, fun | 15 => 3 | 16 => 4 | 17 => 5 | 18 => 6 | 19 => 7 | n => n⟩
theorem Tryz.lays174 : Go.Proofs.LaysC.n174 Tryz.prog Tryz.lays174_ren := {
 mixed := by kernel_rfl
 f129 := Tryz.func144.trans (congrArg some (by kernel_rfl))
 f171 := Tryz.func136.trans (congrArg some (by kernel_rfl))
 f174 := Tryz.func70.trans (congrArg some (by kernel_rfl))
 f205 := Tryz.func135.trans (congrArg some (by kernel_rfl))
 f243 := Tryz.func148.trans (congrArg some (by kernel_rfl))
 f245 := Tryz.func92.trans (congrArg some (by kernel_rfl))
 f246 := Tryz.func111.trans (congrArg some (by kernel_rfl))
 f247 := Tryz.func91.trans (congrArg some (by kernel_rfl))
 f279 := Tryz.func114.trans (congrArg some (by kernel_rfl))
 f280 := Tryz.func115.trans (congrArg some (by kernel_rfl))
 f281 := Tryz.func116.trans (congrArg some (by kernel_rfl))
 f282 := Tryz.func117.trans (congrArg some (by kernel_rfl))
 f283 := Tryz.func127.trans (congrArg some (by kernel_rfl))
 f284 := Tryz.func128.trans (congrArg some (by kernel_rfl))
 f285 := Tryz.func129.trans (congrArg some (by kernel_rfl))
 f286 := Tryz.func130.trans (congrArg some (by kernel_rfl))
 f287 := Tryz.func113.trans (congrArg some (by kernel_rfl))
 f316 := Tryz.func134.trans (congrArg some (by kernel_rfl))
 f317 := Tryz.func143.trans (congrArg some (by kernel_rfl))
 f318 := Tryz.func145.trans (congrArg some (by kernel_rfl))
 f319 := Tryz.func146.trans (congrArg some (by kernel_rfl))
 f320 := Tryz.func147.trans (congrArg some (by kernel_rfl))
 f321 := Tryz.func132.trans (congrArg some (by kernel_rfl))
 f322 := Tryz.func133.trans (congrArg some (by kernel_rfl))
 f337 := Tryz.func157.trans (congrArg some (by kernel_rfl))
 f338 := Tryz.func158.trans (congrArg some (by kernel_rfl))
 t0 := Tryz.underlying0
 a0 := Tryz.isAgg0
 z0 := Tryz.sizeOf0
 v0 := Tryz.zeroValue0
 t2 := Tryz.underlying2
 a2 := Tryz.isAgg2
 z2 := Tryz.sizeOf2
 v2 := Tryz.zeroValue2
 t3 := Tryz.underlying3
 a3 := Tryz.isAgg3
 z3 := Tryz.sizeOf3
 v3 := Tryz.zeroValue3
 t4 := Tryz.underlying4
 a4 := Tryz.isAgg4
 z4 := Tryz.sizeOf4
 v4 := Tryz.zeroValue4
 t5 := Tryz.underlying5
 a5 := Tryz.isAgg5
 z5 := Tryz.sizeOf5
 v5 := Tryz.zeroValue5
 t9 := Tryz.underlying9
 a9 := Tryz.isAgg9
 z9 := Tryz.sizeOf9
 v9 := Tryz.zeroValue9
 t20 := Tryz.underlying20
 a20 := Tryz.isAgg20
 z20 := Tryz.sizeOf20
 v20 := Tryz.zeroValue20
 t21 := Tryz.underlying21
 a21 := Tryz.isAgg21
 z21 := Tryz.sizeOf21
 v21 := Tryz.zeroValue21
 t37 := Tryz.underlying50
 a37 := Tryz.isAgg50
 z37 := Tryz.sizeOf50
 v37 := Tryz.zeroValue50
 t46 := Tryz.underlying144
 a46 := Tryz.isAgg144
 z46 := Tryz.sizeOf144
 v46 := Tryz.zeroValue144
 t51 := Tryz.underlying85
 a51 := Tryz.isAgg85
 z51 := Tryz.sizeOf85
 v51 := Tryz.zeroValue85
 t53 := Tryz.underlying167
 a53 := Tryz.isAgg167
 z53 := Tryz.sizeOf167
 v53 := Tryz.zeroValue167
 t75 := Tryz.underlying125
 a75 := Tryz.isAgg125
 z75 := Tryz.sizeOf125
 v75 := Tryz.zeroValue125
 t85 := Tryz.underlying132
 a85 := Tryz.isAgg132
 z85 := Tryz.sizeOf132
 v85 := Tryz.zeroValue132
 t127 := Tryz.underlying131
 a127 := Tryz.isAgg131
 z127 := Tryz.sizeOf131
 v127 := Tryz.zeroValue131
 t143 := Tryz.underlying218
 a143 := Tryz.isAgg218
 z143 := Tryz.sizeOf218
 v143 := Tryz.zeroValue218
 t145 := Tryz.underlying220
 a145 := Tryz.isAgg220
 z145 := Tryz.sizeOf220
 v145 := Tryz.zeroValue220
 t167 := Tryz.underlying172
 a167 := Tryz.isAgg172
 z167 := Tryz.sizeOf172
 v167 := Tryz.zeroValue172
 t168 := Tryz.underlying175
 a168 := Tryz.isAgg175
 z168 := Tryz.sizeOf175
 v168 := Tryz.zeroValue175
 t171 := Tryz.underlying189
 a171 := Tryz.isAgg189
 z171 := Tryz.sizeOf189
 v171 := Tryz.zeroValue189
 t173 := Tryz.underlying192
 a173 := Tryz.isAgg192
 z173 := Tryz.sizeOf192
 v173 := Tryz.zeroValue192
 t175 := Tryz.underlying173
 a175 := Tryz.isAgg173
 z175 := Tryz.sizeOf173
 v175 := Tryz.zeroValue173
 t210 := Tryz.underlying197
 a210 := Tryz.isAgg197
 z210 := Tryz.sizeOf197
 v210 := Tryz.zeroValue197
 t212 := Tryz.underlying214
 a212 := Tryz.isAgg214
 z212 := Tryz.sizeOf214
 v212 := Tryz.zeroValue214
 t213 := Tryz.underlying215
 a213 := Tryz.isAgg215
 z213 := Tryz.sizeOf215
 t232 := Tryz.underlying232
 a232 := Tryz.isAgg232
 z232 := Tryz.sizeOf232
 v232 := Tryz.zeroValue232
 t233 := Tryz.underlying233
 a233 := Tryz.isAgg233
 z233 := Tryz.sizeOf233
 v233 := Tryz.zeroValue233
 g15 := by kernel_rfl
 g16 := by kernel_rfl
 g17 := by kernel_rfl
 g18 := by kernel_rfl
 g19 := by kernel_rfl
 t80 := Tryz.underlying109
 a80 := Tryz.isAgg109
 z80 := Tryz.sizeOf109
 v80 := Tryz.zeroValue109
 i0 := by kernel_rfl
 i2 := by kernel_rfl
 i3 := by kernel_rfl
 i4 := by kernel_rfl
 i5 := by kernel_rfl
 i9 := by kernel_rfl
 i20 := by kernel_rfl
 i21 := by kernel_rfl
 i37 := by kernel_rfl
 i46 := by kernel_rfl
 i51 := by kernel_rfl
 i53 := by kernel_rfl
 i75 := by kernel_rfl
 i80 := by kernel_rfl
 i85 := by kernel_rfl
 i127 := by kernel_rfl
 i143 := by kernel_rfl
 i145 := by kernel_rfl
 i167 := by kernel_rfl
 i168 := by kernel_rfl
 i171 := by kernel_rfl
 i173 := by kernel_rfl
 i175 := by kernel_rfl
 i210 := by kernel_rfl
 i212 := by kernel_rfl
 i232 := by kernel_rfl
 i233 := by kernel_rfl
 m15 := by kernel_rfl
 m16 := by kernel_rfl
 m17 := by kernel_rfl
 m18 := by kernel_rfl
 m19 := by kernel_rfl
 c0 := by kernel_rfl
 c2 := by kernel_rfl
 c3 := by kernel_rfl
 c4 := by kernel_rfl
 c5 := by kernel_rfl
 c9 := by kernel_rfl
 c20 := by kernel_rfl
 c21 := by kernel_rfl
 c37 := by kernel_rfl
 c46 := by kernel_rfl
 c51 := by kernel_rfl
 c53 := by kernel_rfl
 c75 := by kernel_rfl
 c80 := by kernel_rfl
 c85 := by kernel_rfl
 c127 := by kernel_rfl
 c143 := by kernel_rfl
 c145 := by kernel_rfl
 c167 := by kernel_rfl
 c168 := by kernel_rfl
 c171 := by kernel_rfl
 c173 := by kernel_rfl
 c175 := by kernel_rfl
 c210 := by kernel_rfl
 c212 := by kernel_rfl
 c213 := by kernel_rfl
 c232 := by kernel_rfl
 c233 := by kernel_rfl }
end Go.Proofs
namespace Go.Avm
open Go.Proofs Go.RowKit
def dv (acc : Nat) (l : List UInt8) : Nat := l.foldl (fun a c => a * 10 + (c.toNat - 48)) acc
theorem dv_nil (acc : Nat) : dv acc [] = acc := by simp only [dv, List.foldl_nil]
theorem dv_cons (acc : Nat) (c : UInt8) (r : List UInt8) : dv acc (c :: r) = dv (acc * 10 + (c.toNat - 48)) r := by simp only [dv, List.foldl_cons]
theorem dv_le (l : List UInt8) : ∀ acc : Nat, acc ≤ dv acc l := by
 induction l with
 | nil => intro acc; rw [dv_nil]; exact Nat.le_refl _
 | cons c r ih =>
  intro acc
  have := ih (acc * 10 + (c.toNat - 48))
  rw [dv_cons]
  omega
theorem isDig_iff (b : UInt8) : isDig b = true ↔ 48 ≤ b.toNat ∧ b.toNat ≤ 57 := by
 simp only [isDig, ge8, le8, Bool.and_eq_true, decide_eq_true_eq]
 omega
theorem parseM (M : Nat) (hM : M = 18446744073709551615) : ∀ (l : List UInt8) (acc : Nat), (∀ c ∈ l, isDig c = true) → (dv acc l ≤ M → Lib.parseUintM M acc l = .ok (dv acc l)) ∧ (acc ≤ M → M < dv acc l → Lib.parseUintM M acc l = .range)
 | [], acc, _ => ⟨fun _ => by rw [dv_nil]; rfl, fun h1 h2 => by rw [dv_nil] at h2; omega⟩
 | c :: r, acc, h => by
  have hc := (isDig_iff c).1 (h c (by simp))
  have ih := parseM M hM r (acc * 10 + (c.toNat - 48)) (fun x hx => h x (by simp [hx]))
  have hle := dv_le r (acc * 10 + (c.toNat - 48))
  rw [dv_cons]
  generalize dv (acc * 10 + (c.toNat - 48)) r = V at *
  rw [Lib.parseUintM, if_pos hc]
  refine ⟨fun h0 => ?_, fun h0 h1 => ?_⟩
  ·rw [if_neg (by omega), if_neg (by omega)]
   exact ih.1 h0
  ·split
   ·rfl
   ·split
    ·rfl
    ·exact ih.2 (by omega) h1
theorem parseI (c : UInt8) (r : List UInt8) (h : ∀ x ∈ c :: r, isDig x = true) : (dv 0 (c :: r) < 9223372036854775808 → Lib.parseIntB 64 (c :: r) = .ok (dv 0 (c :: r) : Int)) ∧ (9223372036854775808 ≤ dv 0 (c :: r) → Lib.parseIntB 64 (c :: r) = .range) := by
 have hc := (isDig_iff c).1 (h c (by simp))
 have hm := parseM _ (show (2 ^ 64 - 1 : Nat) = 18446744073709551615 from rfl) (c :: r) 0 h
 have hb : Lib.parseUintB 64 (c :: r) = Lib.parseUintM (2 ^ 64 - 1) 0 (c :: r) := by rw [Lib.parseUintB, if_neg (by simp)]
 have hx : (if c.toNat = 43 ∨ c.toNat = 45 then r else c :: r) = c :: r := if_neg (by omega)
 unfold Lib.parseIntB
 simp only [hx, hb]
 generalize dv 0 (c :: r) = V at *
 have e1 : (2 ^ 64 - 1 : Nat) = 18446744073709551615 := rfl
 have e2 : (2 ^ (64 - 1) : Nat) = 9223372036854775808 := rfl
 rw [e1] at hm ⊢
 refine ⟨fun h0 => ?_, fun h0 => ?_⟩
 ·rw [hm.1 (by omega)]
  simp only [e2]
  rw [if_neg (by omega), if_neg (by omega), if_neg (by omega)]
 ·by_cases h1 : V ≤ 18446744073709551615
  ·rw [hm.1 h1]
   simp only [e2]
   rw [if_pos (by omega)]
  ·rw [hm.2 (by omega) (by omega)]
theorem callable70 : Callable Pg 70 := ⟨Tryz.f70, Tryz.func70, by kernel_rfl, by kernel_rfl⟩
theorem strArg {t : List UInt8} {I : Nat → Nat → Prop} {w : World} {u : Value} (h : DRep I w (.str t) u) : ∃ s : ByteArray, u = .string s ∧ s.data.toList = t := by
 cases h with
 | str _ s hs => exact ⟨s, rfl, hs⟩
theorem intArg {k : IntKind} {n : Int} {I : Nat → Nat → Prop} {w : World} {u : Value} (h : DRep I w (.int k n) u) : u = .int k n := by
 cases h; rfl
theorem args3 {t : List UInt8} {I : Nat → Nat → Prop} {w : World} {cargs : Array Value} (hs : cargs.size = 3) (h : ∀ (i : Nat) (x : D) (u : Value), [D.str t, .int .i64 10, .int .i64 64][i]? = some x → cargs[i]? = some u → DRep I w x u) :
    ∃ s : ByteArray, cargs = #[.string s, .int .i64 10, .int .i64 64] ∧ s.data.toList = t := by
 obtain ⟨l⟩ := cargs
 match l, hs with
 | [a, b, c], _ =>
  obtain ⟨s, rfl, hs⟩ := strArg (h 0 _ a rfl rfl)
  have hb := intArg (h 1 _ b rfl rfl)
  have hc := intArg (h 2 _ c rfl rfl)
  subst hb; subst hc
  exact ⟨s, rfl, hs⟩
theorem retTwo {I : Nat → Nat → Prop} {w : World} {a b : D} {x y : Value} (h1 : DRep I w a x) (h2 : DRep I w b y) : RetRep I w [a, b] (.tuple #[x, y]) :=
 .inr ⟨by simp, #[x, y], rfl, rfl, fun i d u hd hu => by
  match i with
  | 0 => simp at hd hu; subst hd; subst hu; exact h1
  | 1 => simp at hd hu; subst hd; subst hu; exact h2
  | i + 2 => simp at hd⟩
theorem parseOk (c : UInt8) (r : List UInt8) (h : ∀ x ∈ c :: r, isDig x = true) (hl : (c :: r).length ≤ 100000) (hv : dv 0 (c :: r) < 9223372036854775808) : Pure Pg 70 [.str (c :: r), .int .i64 10, .int .i64 64] [.int .i64 (dv 0 (c :: r) : Int), .nili] := by
 refine ⟨callable70, fun w I cargs hI hsz hargs hg => ?_⟩
 obtain ⟨s, rfl, hs⟩ := args3 hsz hargs
 have hp := (parseI c r h).1 hv
 rw [← hs] at hp
 have hlen : s.size ≤ 9223372036854775806 := by
  have : s.data.toList.length = (c :: r).length := by rw [hs]
  have h2 : s.data.toList.length = s.size := by rw [Array.length_toList]; rfl
  omega
 refine (Any.strconv_ParseInt_10_at64_ok Tryz.lays174 s hlen _ hp w).mono ?_
 rintro e w' ⟨rfl, hw⟩
 have hb : Below w.heap.size w w' := by
  rcases hw with rfl | ⟨t, rfl⟩
  ·exact Below.refl _ _
  ·exact Lib.bytesWorld_below _ _ _
 refine ⟨_, I, rfl, hb, fun _ _ x => x, fun _ _ x => .inl x, fun b o x => Nat.lt_of_lt_of_le (hI b o x) hb.size, retTwo ?_ .nili⟩
 rw [hs]
 exact .int _ _
theorem parseErr (c : UInt8) (r : List UInt8) (h : ∀ x ∈ c :: r, isDig x = true) (hl : (c :: r).length ≤ 100000) (hv : 9223372036854775808 ≤ dv 0 (c :: r)) : Pure Pg 70 [.str (c :: r), .int .i64 10, .int .i64 64] [.int .i64 9223372036854775807, .ifc] := by
 refine ⟨callable70, fun w I cargs hI hsz hargs hg => ?_⟩
 obtain ⟨s, rfl, hs⟩ := args3 hsz hargs
 have hp := (parseI c r h).2 hv
 rw [← hs] at hp
 have hlen : s.size ≤ 281474976710656 := by
  have : s.data.toList.length = (c :: r).length := by rw [hs]
  have h2 : s.data.toList.length = s.size := by rw [Array.length_toList]; rfl
  omega
 obtain ⟨ty, v, hc⟩ : ∃ ty v, w.cell? ⟨4, 0, none⟩ = some (.iface ty v) := by
  have h3 : DRep I w (.rp [.ifc]) (.pointer (some ⟨4, 0, none⟩)) := hg 4 [.ifc] rfl
  cases h3 with
  | rp cs b o U h1 hi hc hr =>
   have h4 := hr 0 .ifc rfl
   have h5 := hc 0 .ifc rfl
   generalize U 0 = u at h4 h5
   cases h4 with
   | ifc t v => exact ⟨t, v, h5⟩
 have hsat : Lib.intSat 64 s.data.toList = 9223372036854775807 := by
  have hd := (isDig_iff c).1 (h c (by simp))
  rw [hs, Lib.intSat, if_neg (by simp only [List.head?_cons, Option.map_some, Option.some.injEq]; omega)]
  rfl
 refine (Any.strconv_ParseInt_10_at64_range Tryz.lays174 s hlen hp (.iface ty v) w hc (.inr ⟨_, _, rfl⟩)).mono ?_
 rintro e w' ⟨N, rfl, hN, hcell, hb⟩
 refine ⟨_, I, rfl, hb, fun _ _ x => x, fun _ _ x => .inl x, fun b o x => Nat.lt_of_lt_of_le (hI b o x) hb.size, retTwo ?_ (.ifc _ _)⟩
 rw [hsat]
 exact .int _ _
end Go.Avm
namespace Go.Avm
open Go.Proofs
def digT (s : List UInt8) (a : Nat) : List UInt8 := sub s a (a + runN isDig (s.drop a))
section
variable (w : Bool) (s : List UInt8) (a v m : Nat) (l : List D)
noncomputable def numPr (c b : UInt8) (ha : a < s.length) (hlen : s.length ≤ 100000) (h0 : (digT s a)[(0 : Int).toNat]? = some c) (n : Int) (e : D) (hp : Pure Pg 70 [.str (digT s a), .int .i64 10, .int .i64 64] [.int .i64 n, e])
    (hta : a + (digT s a).length ≤ 1099511627776) (hl : l.length + 1 ≤ 549755813888) (z y x u g k9 : Bool) (hz : decide (1 < ((digT s a).length : Int)) = z) (hy : ((c.toNat : Int) == 48) = y) (hx : decide (((a + (digT s a).length : Nat) : Int) < (s.length : Int)) = x)
    (hxb : x = true → s[((a + (digT s a).length : Nat) : Int).toNat]? = some b) (hu : isSm b = u) (hg : ge8 65 b = g) (hk : le8 b 90 = k9) : Par Pg :=
 { hint := fun f' k => if f' = 55 then (if k = 11 then some (.call 70 [.str (digT s a), .int .i64 10, .int .i64 64] [.int .i64 n, e] hp) else if k = 20 then some (hAdd Pg a (digT s a).length hta) else if k = 27 then some (hB Pg _ z hz)
     else if k = 30 then some (.sidx (digT s a) 0 c (by omega) h0) else if k = 31 then some (hB Pg _ y hy) else if k = 40 then some (hB Pg _ x hx)
     else if k = 47 then (if h : x = true then some (.sidx s ((a + (digT s a).length : Nat) : Int) b (by omega) (hxb h)) else none) else if k = 55 then (if h : x = true then some (.sidx s ((a + (digT s a).length : Nat) : Int) b (by omega) (hxb h)) else none)
     else if k = 63 then (if h : x = true then some (.sidx s ((a + (digT s a).length : Nat) : Int) b (by omega) (hxb h)) else none) else if k = 48 then some (.call 56 [bD b] [.bool u] (hu ▸ smC b)) else if k = 56 then some (hB Pg _ g hg) else if k = 64 then some (hB Pg _ k9 hk) else none) else none
   calls := fun f' k _ => if f' = 55 then (if k = 8 then some (runSt w s a v l 54 (by simp) isDig digC hlen (by omega)) else if k = 72 then some (putCH w s a v m l 3 n (digT s a) hl hta) else none) else none }
def numBad (z y x u g k9 : Bool) : Bool := (z && y) || (x && (u || (g && k9)))
section
variable (c b : UInt8) (ha : a < s.length) (hlen : s.length ≤ 100000) (h0 : (digT s a)[(0 : Int).toNat]? = some c) (n : Int)
include c b ha hlen h0 n
theorem numGreat (hp : Pure Pg 70 [.str (digT s a), .int .i64 10, .int .i64 64] [.int .i64 n, .ifc]) (hta : a + (digT s a).length ≤ 1099511627776) (hl : l.length + 1 ≤ 549755813888) (hxb : decide (((a + (digT s a).length : Nat) : Int) < (s.length : Int)) = true → s[((a + (digT s a).length : Nat) : Int).toNat]? = some b) (rest : Heap) :
    HCall Pg 55 [scP] (ovl (stE w s a v m l) rest) [dI 2] (ovl (stE w s a v m l) rest) := by
 cases w with
 | false => exact hcall_of_run okP named (numPr false s a v m l c b ha hlen h0 n .ifc hp hta hl _ _ _ _ _ _ rfl rfl rfl hxb rfl rfl rfl) 1000 150000 55 (by kernel_rfl)
 | true => exact hcall_of_run okP named (numPr true s a v m l c b ha hlen h0 n .ifc hp hta hl _ _ _ _ _ _ rfl rfl rfl hxb rfl rfl rfl) 1000 150000 55 (by kernel_rfl)
theorem numFour (hp : Pure Pg 70 [.str (digT s a), .int .i64 10, .int .i64 64] [.int .i64 n, .nili]) (hta : a + (digT s a).length ≤ 1099511627776) (hl : l.length + 1 ≤ 549755813888) (z y x u g k9 : Bool) (hz : decide (1 < ((digT s a).length : Int)) = z) (hy : ((c.toNat : Int) == 48) = y) (hx : decide (((a + (digT s a).length : Nat) : Int) < (s.length : Int)) = x) (hxb : x = true → s[((a + (digT s a).length : Nat) : Int).toNat]? = some b) (hu : isSm b = u) (hg : ge8 65 b = g) (hk : le8 b 90 = k9) (hbad : numBad z y x u g k9 = true) (rest : Heap) :
    HCall Pg 55 [scP] (ovl (stE w s a v m l) rest) [dI 4] (ovl (stE w s a v m l) rest) := by
 cases w with
 | false => cases z <;> cases y <;> cases x <;> cases u <;> cases g <;> cases k9 <;> first | exact absurd hbad (by decide) | exact hcall_of_run okP named (numPr false s a v m l c b ha hlen h0 n .nili hp hta hl _ _ _ _ _ _ hz hy hx hxb hu hg hk) 1000 150000 55 (by kernel_rfl)
 | true => cases z <;> cases y <;> cases x <;> cases u <;> cases g <;> cases k9 <;> first | exact absurd hbad (by decide) | exact hcall_of_run okP named (numPr true s a v m l c b ha hlen h0 n .nili hp hta hl _ _ _ _ _ _ hz hy hx hxb hu hg hk) 1000 150000 55 (by kernel_rfl)
theorem numOk (hp : Pure Pg 70 [.str (digT s a), .int .i64 10, .int .i64 64] [.int .i64 n, .nili]) (hta : a + (digT s a).length ≤ 1099511627776) (hl : l.length + 1 ≤ 549755813888) (z y x u g k9 : Bool) (hz : decide (1 < ((digT s a).length : Int)) = z) (hy : ((c.toNat : Int) == 48) = y) (hx : decide (((a + (digT s a).length : Nat) : Int) < (s.length : Int)) = x) (hxb : x = true → s[((a + (digT s a).length : Nat) : Int).toNat]? = some b) (hu : isSm b = u) (hg : ge8 65 b = g) (hk : le8 b 90 = k9) (hbad : numBad z y x u g k9 = false) (rest : Heap) :
    HCall Pg 55 [scP] (ovl (stE w s a v m l) rest) [dI 0] (ovl (stE w s (a + (digT s a).length) (v + 1) m (l ++ [tokD 3 a (digT s a) n])) rest) := by
 cases w with
 | false => cases z <;> cases y <;> cases x <;> cases u <;> cases g <;> cases k9 <;> first | exact absurd hbad (by decide) | exact hcall_of_run okP named (numPr false s a v m l c b ha hlen h0 n .nili hp hta hl _ _ _ _ _ _ hz hy hx hxb hu hg hk) 1000 150000 55 (by kernel_rfl)
 | true => cases z <;> cases y <;> cases x <;> cases u <;> cases g <;> cases k9 <;> first | exact absurd hbad (by decide) | exact hcall_of_run okP named (numPr true s a v m l c b ha hlen h0 n .nili hp hta hl _ _ _ _ _ _ hz hy hx hxb hu hg hk) 1000 150000 55 (by kernel_rfl)
end
noncomputable def nxPr (b : UInt8) (ha : a < s.length) (hb : s[((a : Nat) : Int).toNat]? = some b) (h1 : isDig b = true) (C : CHint Pg) : Par Pg :=
 { hint := fun f' k => if f' = 32 then (if k = 14 then some (.sidx s (a : Int) b (by omega) hb) else if k = 17 then some (.call 54 [bD b] [.bool true] (h1 ▸ digC b)) else none) else none
   calls := fun f' k _ => if f' = 32 then (if k = 19 then some C else none) else none }
theorem nextNumErr (b : UInt8) (ha : a < s.length) (hb : s[((a : Nat) : Int).toNat]? = some b) (h1 : isDig b = true) (k : Int) (hc : ∀ rest : Heap, HCall Pg 55 [scP] (ovl (stE w s a v m l) rest) [dI k] (ovl (stE w s a v m l) rest)) (rest : Heap) :
    HCall Pg 32 [scP] (ovl (stE w s a v m l) rest) [dI k] (ovl (stE w s a v m l) rest) := by
 cases w with
 | false => exact hcall_of_run okP named (nxPr s a b ha hb h1 ⟨55, [scP], stE false s a v m l, [dI k], stE false s a v m l, fits_of hc⟩) 1000 130000 32 (by kernel_rfl)
 | true => exact hcall_of_run okP named (nxPr s a b ha hb h1 ⟨55, [scP], stE true s a v m l, [dI k], stE true s a v m l, fits_of hc⟩) 1000 130000 32 (by kernel_rfl)
theorem nextNumOk (b : UInt8) (ha : a < s.length) (hb : s[((a : Nat) : Int).toNat]? = some b) (h1 : isDig b = true) (a' v' : Nat) (l' : List D) (hc : ∀ rest : Heap, HCall Pg 55 [scP] (ovl (stE w s a v m l) rest) [dI 0] (ovl (stE w s a' v' m l') rest)) (rest : Heap) :
    HCall Pg 32 [scP] (ovl (stE w s a v m l) rest) [dI 0] (ovl (stE w s a' v' m l') rest) := by
 cases w with
 | false => exact hcall_of_run okP named (nxPr s a b ha hb h1 ⟨55, [scP], stE false s a v m l, [dI 0], stE false s a' v' m l', fits_of hc⟩) 1000 130000 32 (by kernel_rfl)
 | true => exact hcall_of_run okP named (nxPr s a b ha hb h1 ⟨55, [scP], stE true s a v m l, [dI 0], stE true s a' v' m l', fits_of hc⟩) 1000 130000 32 (by kernel_rfl)
end
end Go.Avm
namespace Go.Avm
open Go.Proofs
abbrev Tok := Int × List UInt8 × Int
def great (b : UInt8) : Bool := ge8 65 b && le8 b 90
def letter : List UInt8 → Bool
 | [] => false
 | b :: _ => isSm b || great b
def sg1 (b : UInt8) : Bool := decide (0 ≤ idxB b)
def sgnL (b : UInt8) (r : List UInt8) : List UInt8 :=
 match r with
 | [] => if sg1 b then [b] else []
 | c :: _ => if prs.contains [b, c] then [b, c] else if sg1 b then [b] else []
def tokL : List UInt8 → Except Int Tok
 | [] => .error 4
 | b :: r =>
  if isDig b then
   if 9223372036854775808 ≤ dv 0 ((b :: r).takeWhile isDig) then .error 2
   else if (decide (1 < ((b :: r).takeWhile isDig).length) && b.toNat == 48) || letter ((b :: r).drop ((b :: r).takeWhile isDig).length) then .error 4
   else .ok (3, (b :: r).takeWhile isDig, dv 0 ((b :: r).takeWhile isDig))
  else if isSm b then
   if isWord ((b :: r).takeWhile isNm) then .ok (2, (b :: r).takeWhile isNm, 0)
   else if 12 < ((b :: r).takeWhile isNm).length then .error 2 else .ok (1, (b :: r).takeWhile isNm, 0)
  else if sgnL b r = [] then .error 4 else .ok (4, sgnL b r, 0)
theorem tw_take (p : UInt8 → Bool) (l : List UInt8) : l.take (l.takeWhile p).length = l.takeWhile p := (List.prefix_iff_eq_take.1 (List.takeWhile_prefix p)).symm
theorem tw_le (p : UInt8 → Bool) (l : List UInt8) : (l.takeWhile p).length ≤ l.length := (List.takeWhile_sublist p).length_le
theorem sub_tw (p : UInt8 → Bool) (s : List UInt8) (a : Nat) : sub s a (a + runN p (s.drop a)) = (s.drop a).takeWhile p := by
 unfold sub runN
 rw [List.drop_take, Nat.add_sub_cancel_left, tw_take]
theorem rst_eq (s : List UInt8) (a : Nat) : rst s a = s.drop a := by rw [rst, List.take_length]
theorem pre2_eq (t : List UInt8) (k : Nat) : pre2 t k = t.take k := by rw [pre2, List.drop_zero]
theorem signT_eq (s : List UInt8) (a : Nat) (b : UInt8) (r : List UInt8) (h : s.drop a = b :: r) : signT s a b = sgnL b r := by
 unfold signT sgnL
 simp only [rst_eq, pre2_eq, h]
 cases r with
 | nil => simp [sg1]
 | cons c r =>
  have : decide (2 ≤ ((b :: c :: r).length : Int)) = true := by simp only [List.length_cons, decide_eq_true_eq]; omega
  rw [this, Bool.true_and]
  simp [sg1]
theorem tw_ne (p : UInt8 → Bool) (b : UInt8) (r : List UInt8) (h : p b = true) : ∃ t, (b :: r).takeWhile p = b :: t := ⟨r.takeWhile p, by simp [h]⟩
theorem tw_all (p : UInt8 → Bool) : ∀ (l : List UInt8), ∀ x ∈ l.takeWhile p, p x = true
 | [], x, hx => by simp at hx
 | b :: r, x, hx => by
  by_cases hb : p b = true
  ·rw [List.takeWhile_cons, if_pos hb] at hx
   rcases List.mem_cons.1 hx with rfl | hx
   ·exact hb
   ·exact tw_all p r x hx
  ·rw [List.takeWhile_cons, if_neg hb] at hx
   simp at hx
theorem isSm_isNm {b : UInt8} (h : isSm b = true) : isNm b = true := by simp [isNm, h]
theorem sgnL_pre (b : UInt8) (r : List UInt8) : sgnL b r <+: b :: r := by
 unfold sgnL
 cases r with
 | nil => dsimp only; split <;> simp
 | cons c r =>
  dsimp only
  split
  ·exact ⟨r, rfl⟩
  ·split
   ·exact ⟨c :: r, rfl⟩
   ·exact List.nil_prefix
theorem tokL_pre {b : UInt8} {r : List UInt8} {kd n : Int} {t : List UInt8} (h : tokL (b :: r) = .ok (kd, t, n)) : t <+: b :: r ∧ t ≠ [] := by
 rw [tokL] at h
 split at h
 ·rename_i hd
  split at h
  ·cases h
  ·split at h
   ·cases h
   ·cases h
    refine ⟨List.takeWhile_prefix _, ?_⟩
    obtain ⟨u, hu⟩ := tw_ne isDig b r hd
    rw [hu]; simp
 ·split at h
  ·rename_i hs
   obtain ⟨u, hu⟩ := tw_ne isNm b r (isSm_isNm hs)
   split at h
   ·cases h
    exact ⟨List.takeWhile_prefix _, by rw [hu]; simp⟩
   ·split at h
    ·cases h
    ·cases h
     exact ⟨List.takeWhile_prefix _, by rw [hu]; simp⟩
  ·split at h
   ·cases h
   ·rename_i hne
    cases h
    exact ⟨sgnL_pre b r, hne⟩
def NextSays (w : Bool) (s : List UInt8) (a v m : Nat) (l : List D) : Except Int Tok → Prop
 | .error k => ∃ w' m', k ≠ 0 ∧ ∀ rest : Heap, HCall Pg 32 [scP] (ovl (stE w s a v m l) rest) [dI k] (ovl (stE w' s a v m' l) rest)
 | .ok (kd, t, n) => ∃ w' m', ∀ rest : Heap, HCall Pg 32 [scP] (ovl (stE w s a v m l) rest) [dI 0] (ovl (stE w' s (a + t.length) (v + 1) m' (l ++ [tokD kd a t n])) rest)
section
variable (w : Bool) (s : List UInt8) (a v m : Nat) (l : List D)
theorem nextDig (b : UInt8) (r : List UInt8) (ha : a < s.length) (hr : s.drop a = b :: r) (hb : s[((a : Nat) : Int).toNat]? = some b) (hlen : s.length ≤ 100000) (hl : l.length + 1 ≤ 549755813888) (hd : isDig b = true) : NextSays w s a v m l (tokL (b :: r)) := by
 have hT : digT s a = (b :: r).takeWhile isDig := by rw [digT, sub_tw, hr]
 obtain ⟨t, ht⟩ := tw_ne isDig b r hd
 have hall := tw_all isDig (b :: r)
 have hle := tw_le isDig (b :: r)
 have hrl : (b :: r).length = s.length - a := by rw [← hr, List.length_drop]
 have htl : a + (digT s a).length ≤ s.length := by rw [hT]; omega
 have h0 : (digT s a)[(0 : Int).toNat]? = some b := by rw [hT, ht]; rfl
 have hbeh : ∀ c, s[a + (digT s a).length]? = some c → (b :: r).drop ((b :: r).takeWhile isDig).length = c :: ((b :: r).drop ((b :: r).takeWhile isDig).length).tail := fun c hc => by
  have : ((b :: r).drop ((b :: r).takeWhile isDig).length).head? = some c := by
   rw [hT, ← hr] at hc
   rw [List.head?_drop, ← hr, List.getElem?_drop]
   exact hc
  cases hq : (b :: r).drop ((b :: r).takeWhile isDig).length with
  | nil => rw [hq] at this; simp at this
  | cons x y => rw [hq] at this; simp at this; subst this; rfl
 by_cases hv : 9223372036854775808 ≤ dv 0 ((b :: r).takeWhile isDig)
 ·have e : tokL (b :: r) = .error 2 := by rw [tokL, if_pos hd, if_pos hv]
  rw [e]
  obtain ⟨c, hc⟩ : ∃ c, decide (((a + (digT s a).length : Nat) : Int) < (s.length : Int)) = true → s[((a + (digT s a).length : Nat) : Int).toNat]? = some c := by
   by_cases hx : a + (digT s a).length < s.length
   ·exact ⟨s[a + (digT s a).length], fun _ => by simp only [Int.toNat_natCast]; exact List.getElem?_eq_getElem hx⟩
   ·exact ⟨0, fun h => by have := of_decide_eq_true h; omega⟩
  refine ⟨w, m, by decide, nextNumErr w s a v m l b ha hb hd 2 (numGreat w s a v m l b c ha hlen h0 9223372036854775807 ?_ (by omega) hl hc)⟩
  rw [hT]
  rw [ht] at hv hall ⊢
  exact parseErr b t hall (by rw [← ht]; omega) hv
 ·have hp : Pure Pg 70 [.str (digT s a), .int .i64 10, .int .i64 64] [.int .i64 (dv 0 (digT s a) : Int), .nili] := by
    rw [hT]
    rw [ht] at hv hall ⊢
    exact parseOk b t hall (by rw [← ht]; omega) (by omega)
  obtain ⟨c, x, hx, hxb, hlet⟩ : ∃ c x, decide (((a + (digT s a).length : Nat) : Int) < (s.length : Int)) = x ∧ (x = true → s[((a + (digT s a).length : Nat) : Int).toNat]? = some c) ∧ letter ((b :: r).drop ((b :: r).takeWhile isDig).length) = (x && (isSm c || (ge8 65 c && le8 c 90))) := by
   by_cases hx : a + (digT s a).length < s.length
   ·have hg : s[a + (digT s a).length]? = some s[a + (digT s a).length] := List.getElem?_eq_getElem hx
    refine ⟨s[a + (digT s a).length], true, by simp only [decide_eq_true_eq]; omega, fun _ => by simp only [Int.toNat_natCast]; exact hg, ?_⟩
    rw [hbeh _ hg]; rfl
   ·refine ⟨0, false, by simp only [decide_eq_false_iff_not]; omega, fun h => (by cases h), ?_⟩
    have : (b :: r).drop ((b :: r).takeWhile isDig).length = [] := List.drop_eq_nil_iff.2 (by rw [← hT]; omega)
    rw [this]; rfl
  have hz : decide (1 < ((digT s a).length : Int)) = decide (1 < ((b :: r).takeWhile isDig).length) := by rw [hT]; exact decide_eq_decide.2 (by omega)
  have hy : ((b.toNat : Int) == 48) = (b.toNat == 48) := by
   rw [Bool.eq_iff_iff]; simp only [beq_iff_eq]; omega
  by_cases hbad : numBad (decide (1 < ((b :: r).takeWhile isDig).length)) (b.toNat == 48) x (isSm c) (ge8 65 c) (le8 c 90) = true
  ·have e : tokL (b :: r) = .error 4 := by
     rw [tokL, if_pos hd, if_neg hv, if_pos]
     rw [hlet]
     exact hbad
   rw [e]
   exact ⟨w, m, by decide, nextNumErr w s a v m l b ha hb hd 4 (numFour w s a v m l b c ha hlen h0 _ hp (by omega) hl _ _ _ _ _ _ hz hy hx hxb rfl rfl rfl hbad)⟩
  ·have e : tokL (b :: r) = .ok (3, (b :: r).takeWhile isDig, dv 0 ((b :: r).takeWhile isDig)) := by
     rw [tokL, if_pos hd, if_neg hv, if_neg]
     rw [hlet]
     exact hbad
   rw [e, ← hT]
   exact ⟨w, m, nextNumOk w s a v m l b ha hb hd _ _ _ (numOk w s a v m l b c ha hlen h0 _ hp (by omega) hl _ _ _ _ _ _ hz hy hx hxb rfl rfl rfl (by simpa only [Bool.not_eq_true] using hbad))⟩
theorem nextC (b : UInt8) (r : List UInt8) (ha : a < s.length) (hr : s.drop a = b :: r) (hlen : s.length ≤ 100000) (hl : l.length + 1 ≤ 549755813888) : NextSays w s a v m l (tokL (b :: r)) := by
 have hb0 : s[a]? = some b := by
  have : (s.drop a)[0]? = some b := by rw [hr]; rfl
  rwa [List.getElem?_drop, Nat.add_zero] at this
 have hb : s[((a : Nat) : Int).toNat]? = some b := by simpa using hb0
 have hrl : (b :: r).length = s.length - a := by rw [← hr, List.length_drop]
 cases hd : isDig b with
 | true => exact nextDig w s a v m l b r ha hr hb hlen hl hd
 | false =>
  cases hs : isSm b with
  | true =>
   have hT : nmT s a = (b :: r).takeWhile isNm := by rw [nmT, sub_tw, hr]
   have hle := tw_le isNm (b :: r)
   have hta : a + (nmT s a).length ≤ 1099511627776 := by rw [hT]; omega
   have e : tokL (b :: r) = (if isWord (nmT s a) then .ok (2, nmT s a, 0) else if 12 < (nmT s a).length then .error 2 else .ok (1, nmT s a, 0)) := by
    rw [tokL, if_neg (by simp [hd]), if_pos hs, hT]
   rw [e]
   cases hu : isWord (nmT s a) with
   | true => exact ⟨_, _, nextWord w s a v m l b ha hb hlen hd hs hu hl hta⟩
   | false =>
    rw [if_neg (by simp)]
    by_cases h12 : 12 < (nmT s a).length
    ·rw [if_pos h12]
     exact ⟨_, _, by decide, nextLong w s a v m l b ha hb hlen hd hs hu (by simp only [decide_eq_true_eq]; omega) hl hta⟩
    ·rw [if_neg h12]
     exact ⟨_, _, nextName w s a v m l b ha hb hlen hd hs hu (by simp only [decide_eq_false_iff_not]; omega) hl hta⟩
  | false =>
   have e : tokL (b :: r) = (if sgnL b r = [] then .error 4 else .ok (4, sgnL b r, 0)) := by
    rw [tokL, if_neg (by simp [hd]), if_neg (by simp [hs])]
   have hT := signT_eq s a b r hr
   have hb' : (rst s a)[(0 : Int).toNat]? = some b := by rw [rst_eq, hr]; rfl
   have hle := (sgnL_pre b r).length_le
   rw [e]
   by_cases h0 : sgnL b r = []
   ·rw [if_pos h0]
    exact ⟨_, _, by decide, nextNone w s a v m l b ha hb hb' hd hs _ hT (by rw [h0]; rfl) hl (by omega)⟩
   ·rw [if_neg h0]
    exact ⟨_, _, nextSign w s a v m l b ha hb hb' hd hs _ hT (by simpa using h0) hl (by omega)⟩
end
end Go.Avm
namespace Go.Avm
open Go.Proofs
def scanB : Nat → List UInt8 → Nat → Except (Nat × Int) (List (Nat × Tok))
 | 0, _, _ => .ok []
 | _ + 1, [], _ => .ok []
 | n + 1, b :: r, a => match tokL (b :: r) with
  | .error k => .error (a, k)
  | .ok t => match scanB n (((b :: r).drop t.2.1.length).drop (skipN false ((b :: r).drop t.2.1.length))) (a + t.2.1.length + skipN false ((b :: r).drop t.2.1.length)) with
   | .error e => .error e
   | .ok ts => .ok ((a, t) :: ts)
def scanF (s : List UInt8) : Except (Nat × Int) (List (Nat × Tok)) := scanB (s.length + 1) (s.drop (skipN false s)) (skipN false s)
def tokOf (x : Nat × Tok) : D := tokD x.2.1 x.1 x.2.2.1 x.2.2.2
def scL (s : List UInt8) : List (Nat × AV) := [(0, .d (.str s)), (5, scP)]
section
variable (w w1 : Bool) (s : List UInt8) (a v m : Nat) (l : List D)
noncomputable def rdPr (ha : a < s.length) (a1 v1 m1 : Nat) (l1 : List D) (k : Int) (z : Bool) (hz : (k != 0) = z) (hlen : s.length ≤ 100000) (ha1 : a1 ≤ s.length) (hc : ∀ rest : Heap, HCall Pg 32 [scP] (ovl (stE w s a v m l) rest) [dI k] (ovl (stE w1 s a1 v1 m1 l1) rest)) : Par Pg :=
 { hint := fun f' i => if f' = 19 then (if i = 21 then some (qL ha) else if i = 27 then some (hB Pg _ z hz) else none) else none
   calls := fun f' i _ => if f' = 19 then (if i = 25 then some ⟨32, [scP], stE w s a v m l, [dI k], stE w1 s a1 v1 m1 l1, fits_of hc⟩ else if i = 23 then some (blankSt w1 s a1 v1 l1 hlen ha1) else none) else none }
theorem scanNext (ha : a < s.length) (a1 v1 m1 : Nat) (l1 : List D) (hlen : s.length ≤ 100000) (ha1 : a1 ≤ s.length) (hc : ∀ rest : Heap, HCall Pg 32 [scP] (ovl (stE w s a v m l) rest) [dI 0] (ovl (stE w1 s a1 v1 m1 l1) rest)) (rest : Heap) (X : Fix) (hP : X.P = Pg) (hN : X.N = 39) :
    AW X (lO 19 5) ⟨envOf (scL s), ovl (stE w s a v m l) rest⟩ fun e' S' => e' = .normal ∧ Weak X S' ⟨envOf (scL s), ovl (stE w1 s (blankTo s a1) v1 m1 l1) rest⟩ := by
 cases w with
 | false => cases w1 with
  | false => exact seg okP named (rdPr false false s a v m l ha a1 v1 m1 l1 0 false rfl hlen ha1 hc) 1000 19 300000 39 (by kernel_rfl) X hP hN
  | true => exact seg okP named (rdPr false true s a v m l ha a1 v1 m1 l1 0 false rfl hlen ha1 hc) 1000 19 300000 39 (by kernel_rfl) X hP hN
 | true => cases w1 with
  | false => exact seg okP named (rdPr true false s a v m l ha a1 v1 m1 l1 0 false rfl hlen ha1 hc) 1000 19 300000 39 (by kernel_rfl) X hP hN
  | true => exact seg okP named (rdPr true true s a v m l ha a1 v1 m1 l1 0 false rfl hlen ha1 hc) 1000 19 300000 39 (by kernel_rfl) X hP hN
theorem scanErr (ha : a < s.length) (m1 : Nat) (k : Int) (hk : k ≠ 0) (hlen : s.length ≤ 100000) (hc : ∀ rest : Heap, HCall Pg 32 [scP] (ovl (stE w s a v m l) rest) [dI k] (ovl (stE w1 s a v m1 l) rest)) (rest : Heap) (X : Fix) (hP : X.P = Pg) (hN : X.N = 39) :
    AW X (lO 19 5) ⟨envOf (scL s), ovl (stE w s a v m l) rest⟩ fun e' S' => e' = .ret ∧ Weak X S' ⟨envOf [(2, .nils), (3, dN a), (4, dI k)], ovl (stE w1 s a v m1 l) rest⟩ := by
 cases w with
 | false => cases w1 with
  | false => exact seg okP named (rdPr false false s a v m l ha a v m1 l k true (by simpa using hk) hlen (by omega) hc) 1000 19 300000 39 (by kernel_rfl) X hP hN
  | true => exact seg okP named (rdPr false true s a v m l ha a v m1 l k true (by simpa using hk) hlen (by omega) hc) 1000 19 300000 39 (by kernel_rfl) X hP hN
 | true => cases w1 with
  | false => exact seg okP named (rdPr true false s a v m l ha a v m1 l k true (by simpa using hk) hlen (by omega) hc) 1000 19 300000 39 (by kernel_rfl) X hP hN
  | true => exact seg okP named (rdPr true true s a v m l ha a v m1 l k true (by simpa using hk) hlen (by omega) hc) 1000 19 300000 39 (by kernel_rfl) X hP hN
theorem scanStop (rest : Heap) (X : Fix) (hP : X.P = Pg) (hN : X.N = 39) :
    AW X (lO 19 5) ⟨envOf (scL s), ovl (stE w s s.length v m l) rest⟩ fun e' S' => e' = .exit 0 ∧ Weak X S' ⟨envOf (scL s), ovl (stE w s s.length v m l) rest⟩ := by
 cases w with
 | false => exact seg okP named { hint := fun f' k => if f' = 19 then (if k = 21 then some (qG s.length) else none) else none } 1000 19 300000 39 (by kernel_rfl) X hP hN
 | true => exact seg okP named { hint := fun f' k => if f' = 19 then (if k = 21 then some (qG s.length) else none) else none } 1000 19 300000 39 (by kernel_rfl) X hP hN
end
end Go.Avm
namespace Go.Avm
open Go.Proofs
def LoopSays (w : Bool) (s : List UInt8) (a v m : Nat) (l : List D) : Except (Nat × Int) (List (Nat × Tok)) → Prop
 | .error (p, k) => ∃ w' v' m' l', RL 39 (lO 19 5) (scL s) (stE w s a v m l) .ret [(2, .nils), (3, dN p), (4, dI k)] (stE w' s p v' m' l')
 | .ok ts => (l ++ ts.map tokOf).length ≤ s.length ∧ ∃ w' v' m', RL 39 (lO 19 5) (scL s) (stE w s a v m l) (.exit 0) (scL s) (stE w' s s.length v' m' (l ++ ts.map tokOf))
theorem scanLoop (s : List UInt8) (hlen : s.length ≤ 100000) : ∀ (n : Nat) (w : Bool) (a v m : Nat) (l : List D), a ≤ s.length → s.length < n + a → l.length ≤ a → LoopSays w s a v m l (scanB n (s.drop a) a)
 | 0, w, a, v, m, l, h1, h2, _ => by omega
 | n + 1, w, a, v, m, l, h1, h2, h3 => by
  cases hr : s.drop a with
  | nil =>
   have : a = s.length := by have := List.drop_eq_nil_iff.1 hr; omega
   subst this
   refine ⟨by simpa [scanB] using h3, w, v, m, fun rest X hP hN => ?_⟩
   simp only [scanB, List.map_nil, List.append_nil]
   exact lw_end (scanStop w s v m l rest X hP hN) (by simp)
  | cons b r =>
   have ha : a < s.length := by
    rcases Nat.lt_or_ge a s.length with h | h
    ·exact h
    ·rw [List.drop_eq_nil_iff.2 h] at hr; cases hr
   have hn := nextC w s a v m l b r ha hr hlen (by omega)
   rw [scanB]
   cases ht : tokL (b :: r) with
   | error k =>
    rw [ht] at hn
    obtain ⟨w1, m1, hk, hc⟩ := hn
    exact ⟨w1, v, m1, l, fun rest X hP hN => lw_end (scanErr w w1 s a v m l ha m1 k hk hlen hc rest X hP hN) (by simp)⟩
   | ok t =>
    obtain ⟨kd, t, k⟩ := t
    rw [ht] at hn
    obtain ⟨w1, m1, hc⟩ := hn
    obtain ⟨hpre, hne⟩ := tokL_pre ht
    have hrl : (b :: r).length = s.length - a := by rw [← hr, List.length_drop]
    have htl := hpre.length_le
    have ht0 : 0 < t.length := List.length_pos_iff.2 hne
    have ha1 : a + t.length ≤ s.length := by omega
    have hd1 : s.drop (a + t.length) = (b :: r).drop t.length := by rw [← hr, List.drop_drop]
    have hb : blankTo s (a + t.length) = a + t.length + skipN false ((b :: r).drop t.length) := by rw [blankTo, hd1]
    have hd2 : s.drop (blankTo s (a + t.length)) = ((b :: r).drop t.length).drop (skipN false ((b :: r).drop t.length)) := by rw [hb, ← List.drop_drop, hd1]
    have hbl := blankTo_le s (a + t.length) ha1
    have ih := scanLoop s hlen n w1 (blankTo s (a + t.length)) (v + 1) m1 (l ++ [tokD kd a t k]) hbl.2 (by omega) (by rw [List.length_append, List.length_singleton]; omega)
    rw [hd2, hb] at ih
    show LoopSays w s a v m l (match scanB n (((b :: r).drop t.length).drop (skipN false ((b :: r).drop t.length))) (a + t.length + skipN false ((b :: r).drop t.length)) with
     | .error e => .error e
     | .ok ts => .ok ((a, (kd, t, k)) :: ts))
    have hstep := fun rest X hP hN => scanNext w w1 s a v m l ha (a + t.length) (v + 1) m1 (l ++ [tokD kd a t k]) hlen ha1 hc rest X hP hN
    rw [hb] at hstep
    cases hs : scanB n (((b :: r).drop t.length).drop (skipN false ((b :: r).drop t.length))) (a + t.length + skipN false ((b :: r).drop t.length)) with
    | error e =>
     obtain ⟨p, k'⟩ := e
     rw [hs] at ih
     obtain ⟨w', v', m', l', hh⟩ := ih
     exact ⟨w', v', m', l', fun rest X hP hN => lw_seg (hstep rest X hP hN) (hh rest X hP hN)⟩
    | ok ts =>
     rw [hs] at ih
     obtain ⟨hle, w', v', m', hh⟩ := ih
     have e : l ++ [tokD kd a t k] ++ ts.map tokOf = l ++ ((a, (kd, t, k)) :: ts).map tokOf := by simp [tokOf]
     rw [e] at hle hh
     exact ⟨hle, w', v', m', fun rest X hP hN => lw_seg (hstep rest X hP hN) (hh rest X hP hN)⟩
section
variable (s : List UInt8)
noncomputable def scPar (h : Option (LHint Pg)) (C : Option (CHint Pg)) (D : Option (CHint Pg)) (z : Bool) (hz : decide (20000 < (s.length : Int)) = z) : Par Pg :=
 { hint := fun f' k => if f' = 19 then (if k = 9 then some (hB Pg _ z hz) else none) else none
   nils := fun f' r => if f' = 19 then (if r = 4 then some { k := 324, i := 6, K := 1, sz := 4 } else none) else none
   calls := fun f' k _ => if f' = 19 then (if k = 14 then C else if k = 34 then D else none) else none
   loops := fun f' r => if f' = 19 then (if r = 5 then h else none) else none }
theorem scanLong (h : decide (20000 < (s.length : Int)) = true) : Pure Pg 19 [.str s] [.ro [], .int .i64 0, .int .i64 2] :=
 pure_of_run okP named (scPar s none none none true h) 1000 (by kernel_rfl)
noncomputable def scLH (w : Bool) (a v m : Nat) (l : List D) (e : AExit) (l' : List (Nat × AV)) (hp : List (Nat × Ent)) (h : RL 39 (lO 19 5) (scL s) (stE w s a v m l) e l' hp) : LHint Pg :=
 ⟨39, loopOf Pg 19 5, scL s, fun _ => stE w s a v m l, e, l', fun _ => hp, fun rest X hP hN => (h rest X hP hN).aw⟩
theorem scanBad (h : decide (20000 < (s.length : Int)) = false) (hlen : s.length ≤ 100000) (p : Nat) (k : Int) (w' : Bool) (v' m' : Nat) (l' : List D)
    (hl : RL 39 (lO 19 5) (scL s) (stE false s (blankTo s 0) 0 0 []) .ret [(2, .nils), (3, dN p), (4, dI k)] (stE w' s p v' m' l')) :
    Pure Pg 19 [.str s] [.ro [], .int .i64 (p : Int), .int .i64 k] := by
 cases w' with
 | false => exact pure_of_run okP named (scPar s (some (scLH s false (blankTo s 0) 0 0 [] _ _ _ hl)) (some (blankSt false s 0 0 [] hlen (Nat.zero_le _))) none false h) 1000 (by kernel_rfl)
 | true => exact pure_of_run okP named (scPar s (some (scLH s false (blankTo s 0) 0 0 [] _ _ _ hl)) (some (blankSt false s 0 0 [] hlen (Nat.zero_le _))) none false h) 1000 (by kernel_rfl)
theorem scanGood (h : decide (20000 < (s.length : Int)) = false) (hlen : s.length ≤ 100000) (w' : Bool) (v' m' : Nat) (l' : List D) (hl' : l'.length + 1 ≤ 549755813888)
    (hl : RL 39 (lO 19 5) (scL s) (stE false s (blankTo s 0) 0 0 []) (.exit 0) (scL s) (stE w' s s.length v' m' l')) :
    Pure Pg 19 [.str s] [.ro (l' ++ [tokD 0 s.length [] 0]), .int .i64 0, .int .i64 0] := by
 cases w' with
 | false => exact pure_of_run okP named (scPar s (some (scLH s false (blankTo s 0) 0 0 [] _ _ _ hl)) (some (blankSt false s 0 0 [] hlen (Nat.zero_le _))) (some (putCH false s s.length v' m' l' 0 0 [] hl' (by simp only [List.length_nil]; omega))) false h) 1000 (by kernel_rfl)
 | true => exact pure_of_run okP named (scPar s (some (scLH s false (blankTo s 0) 0 0 [] _ _ _ hl)) (some (blankSt false s 0 0 [] hlen (Nat.zero_le _))) (some (putCH true s s.length v' m' l' 0 0 [] hl' (by simp only [List.length_nil]; omega))) false h) 1000 (by kernel_rfl)
end
def scanRes (s : List UInt8) : List D × Int × Int :=
 if 20000 < s.length then ([], 0, 2) else match scanF s with
  | .error (p, k) => ([], p, k)
  | .ok ts => (ts.map tokOf ++ [tokD 0 s.length [] 0], 0, 0)
theorem scanC (s : List UInt8) : Pure Pg 19 [.str s] [.ro (scanRes s).1, .int .i64 (scanRes s).2.1, .int .i64 (scanRes s).2.2] := by
 unfold scanRes
 by_cases h : 20000 < s.length
 ·rw [if_pos h]
  exact scanLong s (by simp only [decide_eq_true_eq]; omega)
 ·rw [if_neg h]
  have hz : decide (20000 < (s.length : Int)) = false := by simp only [decide_eq_false_iff_not]; omega
  have hb := blankTo_le s 0 (Nat.zero_le _)
  have hl := scanLoop s (by omega) (s.length + 1) false (blankTo s 0) 0 0 [] hb.2 (by omega) (Nat.zero_le _)
  have he : scanB (s.length + 1) (s.drop (blankTo s 0)) (blankTo s 0) = scanF s := by
   unfold scanF blankTo
   rw [List.drop_zero, Nat.zero_add]
  rw [he] at hl
  cases hs : scanF s with
  | error e =>
   obtain ⟨p, k⟩ := e
   rw [hs] at hl
   obtain ⟨w', v', m', l', hh⟩ := hl
   exact scanBad s hz (by omega) p k w' v' m' l' hh
  | ok ts =>
   rw [hs] at hl
   obtain ⟨hle, w', v', m', hh⟩ := hl
   exact scanGood s hz (by omega) w' v' m' _ (by rw [List.nil_append] at hle; omega) hh
end Go.Avm
namespace Go.Avm
open Go.Proofs
theorem scanB_cons (n : Nat) (b : UInt8) (r : List UInt8) (a : Nat) : scanB (n + 1) (b :: r) a = match tokL (b :: r) with
    | .error k => .error (a, k)
    | .ok t => match scanB n (((b :: r).drop t.2.1.length).drop (skipN false ((b :: r).drop t.2.1.length))) (a + t.2.1.length + skipN false ((b :: r).drop t.2.1.length)) with
     | .error e => .error e
     | .ok ts => .ok ((a, t) :: ts) := rfl
theorem tokL_err {r : List UInt8} {k : Int} (h : tokL r = .error k) : k ≠ 0 := by
 cases r with
 | nil => simp only [tokL, Except.error.injEq] at h; omega
 | cons b r =>
  rw [tokL] at h
  repeat' split at h
  all_goals first
   | (cases h; done)
   | (simp only [Except.error.injEq] at h; omega)
theorem scanB_err : ∀ (n : Nat) (r : List UInt8) (a p : Nat) (k : Int), scanB n r a = .error (p, k) → k ≠ 0
 | 0, r, a, p, k, h => by cases h
 | n + 1, [], a, p, k, h => by cases h
 | n + 1, b :: r, a, p, k, h => by
  rw [scanB_cons] at h
  cases ht : tokL (b :: r) with
  | error k' =>
   rw [ht] at h
   simp only [Except.error.injEq, Prod.mk.injEq] at h
   obtain ⟨_, rfl⟩ := h
   exact tokL_err ht
  | ok t =>
   rw [ht] at h
   dsimp only at h
   split at h
   ·rename_i e he
    cases h
    exact scanB_err n _ _ p k he
   ·cases h
theorem scanB_len : ∀ (n : Nat) (r : List UInt8) (a : Nat) (ts : List (Nat × Tok)), scanB n r a = .ok ts → ts.length ≤ n
 | 0, r, a, ts, h => by cases h; exact Nat.le_refl _
 | n + 1, [], a, ts, h => by cases h; exact Nat.zero_le _
 | n + 1, b :: r, a, ts, h => by
  rw [scanB_cons] at h
  cases ht : tokL (b :: r) with
  | error k' => rw [ht] at h; cases h
  | ok t =>
   rw [ht] at h
   dsimp only at h
   split at h
   ·cases h
   ·rename_i ts1 hs
    cases h
    have := scanB_len n _ _ ts1 hs
    simp only [List.length_cons]; omega
theorem toks_mk (l : List T) (e : T) (he : e.k = 0) (hl : l.length + 1 < 1000000) : Toks (l ++ [e]) :=
 ⟨by simpa using hl, fun i x hx hk => by
  rw [List.length_append, List.length_singleton]
  rcases Nat.lt_or_ge i l.length with h | h
  ·omega
  ·rw [List.getElem?_append_right h] at hx
   cases hi : i - l.length with
   | zero =>
    rw [hi] at hx
    simp only [List.getElem?_cons_zero, Option.some.injEq] at hx
    rw [← hx, he] at hk
    exact absurd rfl hk
   | succ j => rw [hi] at hx; simp at hx⟩
def tkT (x : Nat × Tok) : T := ⟨x.2.1, (x.1 : Int), x.2.2.1, x.2.2.2⟩
def toksOf (ts : List (Nat × Tok)) (n : Nat) : List T := ts.map tkT ++ [⟨0, (n : Int), [], 0⟩]
theorem toksD_of (ts : List (Nat × Tok)) (n : Nat) : toksD (toksOf ts n) = .ro (ts.map tokOf ++ [tokD 0 n [] 0]) := by
 simp only [toksD, toksOf, List.map_append, List.map_map]
 rfl
theorem toksOf_ok {ts : List (Nat × Tok)} {n : Nat} (h : ts.length + 1 < 1000000) : Toks (toksOf ts n) := toks_mk _ _ rfl (by simpa using h)
theorem toksOf_pos (ts : List (Nat × Tok)) (n : Nat) : 0 < (toksOf ts n).length := by simp [toksOf]
def treeOf (ts : List (Nat × Tok)) (n : Nat) : Res (List Fn) := sProg (toksOf ts n) (fuel (toksOf ts n))
def parseRes (s : List UInt8) : List D :=
 if 20000 < s.length then [.agg [.ro []], .int .i64 0, .int .i64 2] else match scanF s with
  | .error (p, k) => [.agg [.ro []], .int .i64 (p : Int), .int .i64 k]
  | .ok ts => prOut (treeOf ts s.length)
theorem scanF_len {s : List UInt8} {ts : List (Nat × Tok)} (h : scanF s = .ok ts) : ts.length ≤ s.length + 1 := scanB_len _ _ _ _ h
theorem parsePure (s : List UInt8) : Pure Pg 9 [.str s] (parseRes s) := by
 have hs := scanC s
 unfold parseRes
 unfold scanRes at hs
 by_cases h : 20000 < s.length
 ·rw [if_pos h] at hs ⊢
  exact parseE (by decide) hs
 ·rw [if_neg h] at hs ⊢
  cases he : scanF s with
  | error e =>
   obtain ⟨p, k⟩ := e
   rw [he] at hs
   have hk := scanB_err _ _ _ _ _ he
   exact parseE (by simpa using hk) hs
  | ok ts =>
   rw [he] at hs
   have hl := scanF_len he
   have hok := toksOf_ok (ts := ts) (n := s.length) (by omega)
   exact parseC hok (toksOf_pos _ _) (by rw [toksD_of]; exact hs) _ (prog_no hok (toksOf_pos _ _))
end Go.Avm
namespace Go.Avm
open Go.Proofs
mutual
def exZ : Ex → Nat
 | .mk _ _ _ _ _ xs => 1 + exZL xs
def exZL : List Ex → Nat
 | [] => 0
 | x :: l => exZ x + exZL l
end
mutual
def exK (b : Bool) : Ex → Ex
 | .mk k o nm n p xs => .mk k o nm n (bif b then p else 0) (exKL b xs)
def exKL (b : Bool) : List Ex → List Ex
 | [] => []
 | x :: l => exK b x :: exKL b l
end
mutual
def stZ : St' → Nat
 | .mk _ _ _ _ _ _ es bd el => 1 + exZL es + stZL bd + stZL el
def stZL : List St' → Nat
 | [] => 0
 | x :: l => stZ x + stZL l
end
mutual
def stK (b : Bool) : St' → St'
 | .mk k id nm ty n p es bd el => .mk k id nm ty n (bif b then p else 0) (exKL b es) (stKL b bd) (stKL b el)
def stKL (b : Bool) : List St' → List St'
 | [] => []
 | x :: l => stK b x :: stKL b l
end
def pmK (b : Bool) (x : Pm) : Pm := { x with p := bif b then x.p else 0 }
def fnK (b : Bool) (x : Fn) : Fn := ⟨x.nm, x.ps.map (pmK b), x.res, stKL b x.bd, bif b then x.p else 0⟩
def fnZ (x : Fn) : Nat := 1 + x.ps.length + stZL x.bd
def fnZL : List Fn → Nat
 | [] => 0
 | x :: l => fnZ x + fnZL l
theorem exKL_map (b : Bool) : ∀ l, exKL b l = l.map (exK b)
 | [] => rfl
 | x :: l => by simp [exKL, exKL_map b l]
theorem stKL_map (b : Bool) : ∀ l, stKL b l = l.map (stK b)
 | [] => rfl
 | x :: l => by simp [stKL, stKL_map b l]
theorem exZ_pos : ∀ x, 1 ≤ exZ x
 | .mk _ _ _ _ _ _ => by simp only [exZ]; omega
theorem stZ_pos : ∀ x, 1 ≤ stZ x
 | .mk _ _ _ _ _ _ _ _ _ => by simp only [stZ]; omega
theorem exZL_len : ∀ l, l.length ≤ exZL l
 | [] => Nat.le_refl _
 | x :: l => by have := exZL_len l; have := exZ_pos x; simp only [exZL, List.length_cons]; omega
theorem stZL_len : ∀ l, l.length ≤ stZL l
 | [] => Nat.le_refl _
 | x :: l => by have := stZL_len l; have := stZ_pos x; simp only [stZL, List.length_cons]; omega
theorem fnZL_len : ∀ l, l.length ≤ fnZL l
 | [] => Nat.le_refl _
 | x :: l => by have := fnZL_len l; simp only [fnZL, fnZ, List.length_cons]; omega
theorem exZL_mem : ∀ {l : List Ex} {i : Nat} {x : Ex}, l[i]? = some x → exZ x ≤ exZL l
 | [], _, _, h => by simp at h
 | y :: l, 0, x, h => by simp at h; subst h; simp only [exZL]; omega
 | y :: l, i + 1, x, h => by simp at h; have := exZL_mem h; simp only [exZL]; omega
theorem stZL_mem : ∀ {l : List St'} {i : Nat} {x : St'}, l[i]? = some x → stZ x ≤ stZL l
 | [], _, _, h => by simp at h
 | y :: l, 0, x, h => by simp at h; subst h; simp only [stZL]; omega
 | y :: l, i + 1, x, h => by simp at h; have := stZL_mem h; simp only [stZL]; omega
theorem fnZL_mem : ∀ {l : List Fn} {i : Nat} {x : Fn}, l[i]? = some x → fnZ x ≤ fnZL l
 | [], _, _, h => by simp at h
 | y :: l, 0, x, h => by simp at h; subst h; simp only [fnZL]; omega
 | y :: l, i + 1, x, h => by simp at h; have := fnZL_mem h; simp only [fnZL]; omega
theorem exL_get {f : List Ex} {i : Nat} {x : Ex} (h : f[i]? = some x) : (exL f)[((i : Nat) : Int).toNat]? = some (exD x) := by
 rw [Int.toNat_natCast, exL_map, List.getElem?_map, h]; rfl
theorem stL_getS {f : List St'} {i : Nat} {x : St'} (h : f[i]? = some x) : (stL f)[((i : Nat) : Int).toNat]? = some (stD x) := by
 rw [Int.toNat_natCast, stL_map, List.getElem?_map, h]; rfl
theorem map_get {α : Type} {g : α → D} {f : List α} {i : Nat} {x : α} (h : f[i]? = some x) : (f.map g)[((i : Nat) : Int).toNat]? = some (g x) := by
 rw [Int.toNat_natCast, List.getElem?_map, h]; rfl
def seL (b : Bool) (f g : List Ex) (i : Nat) : List (Nat × AV) := [(0, .d (.ro (exL f))), (1, .d (.ro (exL g))), (2, dB b), (16, dN f.length), (17, dN i)]
section
variable (f g : List Ex) (i : Nat)
theorem seStop_true : RE 74 (lO 51 4) (seL true f g f.length) ([]) (.exit 0) ([]) ([]) :=
 qE { hint := qT 51 [(18, qG f.length)] } 51 3000
theorem seGo_true (hf : f.length < 1000000) (hi : i < f.length) {k o : Int} {nm : List UInt8} {n p p2 : Int} {xs ys : List Ex} (hx : f[i]? = some (.mk k o nm n p xs)) (hy : g[i]? = some (.mk k o nm n p ys)) (hc : Pure Pg 51 [.ro (exL xs), .ro (exL ys), .bool true] [.bool true]) :
    RE 74 (lO 51 4) (seL true f g i) ([]) .normal (seL true f g (i + 1)) ([]) :=
 qE { hint := qT 51 [(18, qL hi), (22, .idx (exL f) ((i : Nat) : Int) (exD (.mk k o nm n p xs)) (by omega) (exL_get hx)), (26, .idx (exL g) ((i : Nat) : Int) (exD (.mk k o nm n p ys)) (by omega) (exL_get hy)), (32, hB Pg (k != k) false (by simp)), (38, hB Pg (o != o) false (by simp)), (45, hB Pg (!(nm == nm)) false (by simp)), (52, hB Pg (n != n) false (by simp)), (61, hB Pg (p != p) false (by simp)), (70, .call 51 _ _ hc), (73, hSucc Pg i (by omega))] } 51 3000
theorem seStop_false : RE 74 (lO 51 4) (seL false f g f.length) ([]) (.exit 0) ([]) ([]) :=
 qE { hint := qT 51 [(18, qG f.length)] } 51 3000
theorem seGo_false (hf : f.length < 1000000) (hi : i < f.length) {k o : Int} {nm : List UInt8} {n p p2 : Int} {xs ys : List Ex} (hx : f[i]? = some (.mk k o nm n p xs)) (hy : g[i]? = some (.mk k o nm n p2 ys)) (hc : Pure Pg 51 [.ro (exL xs), .ro (exL ys), .bool false] [.bool true]) :
    RE 74 (lO 51 4) (seL false f g i) ([]) .normal (seL false f g (i + 1)) ([]) :=
 qE { hint := qT 51 [(18, qL hi), (22, .idx (exL f) ((i : Nat) : Int) (exD (.mk k o nm n p xs)) (by omega) (exL_get hx)), (26, .idx (exL g) ((i : Nat) : Int) (exD (.mk k o nm n p2 ys)) (by omega) (exL_get hy)), (32, hB Pg (k != k) false (by simp)), (38, hB Pg (o != o) false (by simp)), (45, hB Pg (!(nm == nm)) false (by simp)), (52, hB Pg (n != n) false (by simp)), (70, .call 51 _ _ hc), (73, hSucc Pg i (by omega))] } 51 3000
end
noncomputable def seLH {b : Bool} {f g : List Ex} (h : RL 74 (lO 51 4) (seL b f g 0) ([]) (.exit 0) ([]) ([])) : LHint Pg :=
 ⟨74, loopOf Pg 51 4, seL b f g 0, fun _ => [], .exit 0, [], fun _ => [], fun rest X hP hN => (h rest X hP hN).aw⟩
theorem seCall {b : Bool} {f g : List Ex} (hl : f.length = g.length) (h : RL 74 (lO 51 4) (seL b f g 0) ([]) (.exit 0) ([]) ([])) : Pure Pg 51 [.ro (exL f), .ro (exL g), .bool b] [.bool true] :=
 qV { loops := fun f q => if f = 51 then (if q = 4 then some (seLH h) else none) else none, hint := qT 51 [(11, .val (dN (exL f).length) (dN f.length) (by rw [exL_len])), (13, .val (dN (exL g).length) (dN f.length) (by rw [exL_len, hl])), (14, hB Pg (((f.length : Nat) : Int) != ((f.length : Nat) : Int)) false (by simp)), (16, .val (dN (exL f).length) (dN f.length) (by rw [exL_len]))] } 1000
theorem exKL_len {b : Bool} {f g : List Ex} (h : exKL b f = exKL b g) : f.length = g.length := by
 have := congrArg List.length h
 simpa [exKL_map] using this
theorem exKL_get {b : Bool} {f g : List Ex} (h : exKL b f = exKL b g) {i : Nat} {x y : Ex} (hx : f[i]? = some x) (hy : g[i]? = some y) : exK b x = exK b y := by
 rw [exKL_map, exKL_map] at h
 have := congrArg (fun l : List Ex => l[i]?) h
 simpa [hx, hy] using this
theorem sameEx (b : Bool) : ∀ (n : Nat) (f g : List Ex), exZL f < n → n ≤ 1000000 → exKL b f = exKL b g → Pure Pg 51 [.ro (exL f), .ro (exL g), .bool b] [.bool true]
 | 0, _, _, h, _, _ => by omega
 | n + 1, f, g, h, hn, he => by
  have hl := exKL_len he
  have hfl := exZL_len f
  refine seCall hl ?_
  have go : ∀ j i : Nat, i + j = f.length → RL 74 (lO 51 4) (seL b f g i) ([]) (.exit 0) ([]) ([]) := by
   intro j
   induction j with
   | zero =>
    intro i hi
    obtain rfl : i = f.length := by omega
    cases b with
    | true => exact fun rest X hP hN => lw_stop (seStop_true f g rest X hP hN) (by simp)
    | false => exact fun rest X hP hN => lw_stop (seStop_false f g rest X hP hN) (by simp)
   | succ j ih =>
    intro i hi
    have li : i < f.length := by omega
    have hx := List.getElem?_eq_getElem li
    have hy := List.getElem?_eq_getElem (show i < g.length by omega)
    have hk := exKL_get he hx hy
    have hz := exZL_mem hx
    revert hx hy hk hz
    generalize f[i] = x
    generalize g[i] = y
    obtain ⟨k, o, nm, m, p, xs⟩ := x
    obtain ⟨k2, o2, nm2, m2, p2, ys⟩ := y
    intro hx hy hk hz
    simp only [exK, Ex.mk.injEq] at hk
    obtain ⟨rfl, rfl, rfl, rfl, hp, hxs⟩ := hk
    simp only [exZ] at hz
    have hc := sameEx b n xs ys (by omega) (by omega) hxs
    have g2 := ih (i + 1) (by omega)
    cases b with
    | true =>
     simp only [cond_true] at hp
     subst hp
     exact fun rest X hP hN => lw_step (seGo_true f g i (by omega) li (p2 := 0) hx hy hc rest X hP hN) (g2 rest X hP hN)
    | false => exact fun rest X hP hN => lw_step (seGo_false f g i (by omega) li hx hy hc rest X hP hN) (g2 rest X hP hN)
  exact go f.length 0 (by omega)
def ssL (b : Bool) (f g : List St') (i : Nat) : List (Nat × AV) := [(0, .d (.ro (stL f))), (1, .d (.ro (stL g))), (2, dB b), (16, dN f.length), (17, dN i)]
section
variable (f g : List St') (i : Nat)
theorem ssStop_true : RE 97 (lO 26 4) (ssL true f g f.length) ([]) (.exit 0) ([]) ([]) :=
 qE { hint := qT 26 [(18, qG f.length)] } 26 3000
theorem ssGo_true (hf : f.length < 1000000) (hi : i < f.length) {k id : Int} {nm : List UInt8} {ty n p p2 : Int} {es es2 : List Ex} {bd bd2 el el2 : List St'} (hx : f[i]? = some (.mk k id nm ty n p es bd el)) (hy : g[i]? = some (.mk k id nm ty n p es2 bd2 el2)) (hc : Pure Pg 51 [.ro (exL es), .ro (exL es2), .bool true] [.bool true]) (hc1 : Pure Pg 26 [.ro (stL bd), .ro (stL bd2), .bool true] [.bool true]) (hc2 : Pure Pg 26 [.ro (stL el), .ro (stL el2), .bool true] [.bool true]) :
    RE 97 (lO 26 4) (ssL true f g i) ([]) .normal (ssL true f g (i + 1)) ([]) :=
 qE { hint := qT 26 [(18, qL hi), (22, .idx (stL f) ((i : Nat) : Int) (stD (.mk k id nm ty n p es bd el)) (by omega) (stL_getS hx)), (26, .idx (stL g) ((i : Nat) : Int) (stD (.mk k id nm ty n p es2 bd2 el2)) (by omega) (stL_getS hy)), (32, hB Pg (k != k) false (by simp)), (38, hB Pg (id != id) false (by simp)), (45, hB Pg (!(nm == nm)) false (by simp)), (52, hB Pg (ty != ty) false (by simp)), (59, hB Pg (n != n) false (by simp)), (68, hB Pg (p != p) false (by simp)), (76, .call 51 _ _ hc), (84, .call 26 _ _ hc1), (93, .call 26 _ _ hc2), (96, hSucc Pg i (by omega))] } 26 3000
theorem ssStop_false : RE 97 (lO 26 4) (ssL false f g f.length) ([]) (.exit 0) ([]) ([]) :=
 qE { hint := qT 26 [(18, qG f.length)] } 26 3000
theorem ssGo_false (hf : f.length < 1000000) (hi : i < f.length) {k id : Int} {nm : List UInt8} {ty n p p2 : Int} {es es2 : List Ex} {bd bd2 el el2 : List St'} (hx : f[i]? = some (.mk k id nm ty n p es bd el)) (hy : g[i]? = some (.mk k id nm ty n p2 es2 bd2 el2)) (hc : Pure Pg 51 [.ro (exL es), .ro (exL es2), .bool false] [.bool true]) (hc1 : Pure Pg 26 [.ro (stL bd), .ro (stL bd2), .bool false] [.bool true]) (hc2 : Pure Pg 26 [.ro (stL el), .ro (stL el2), .bool false] [.bool true]) :
    RE 97 (lO 26 4) (ssL false f g i) ([]) .normal (ssL false f g (i + 1)) ([]) :=
 qE { hint := qT 26 [(18, qL hi), (22, .idx (stL f) ((i : Nat) : Int) (stD (.mk k id nm ty n p es bd el)) (by omega) (stL_getS hx)), (26, .idx (stL g) ((i : Nat) : Int) (stD (.mk k id nm ty n p2 es2 bd2 el2)) (by omega) (stL_getS hy)), (32, hB Pg (k != k) false (by simp)), (38, hB Pg (id != id) false (by simp)), (45, hB Pg (!(nm == nm)) false (by simp)), (52, hB Pg (ty != ty) false (by simp)), (59, hB Pg (n != n) false (by simp)), (76, .call 51 _ _ hc), (84, .call 26 _ _ hc1), (93, .call 26 _ _ hc2), (96, hSucc Pg i (by omega))] } 26 3000
end
noncomputable def ssLH {b : Bool} {f g : List St'} (h : RL 97 (lO 26 4) (ssL b f g 0) ([]) (.exit 0) ([]) ([])) : LHint Pg :=
 ⟨97, loopOf Pg 26 4, ssL b f g 0, fun _ => [], .exit 0, [], fun _ => [], fun rest X hP hN => (h rest X hP hN).aw⟩
theorem ssCall {b : Bool} {f g : List St'} (hl : f.length = g.length) (h : RL 97 (lO 26 4) (ssL b f g 0) ([]) (.exit 0) ([]) ([])) : Pure Pg 26 [.ro (stL f), .ro (stL g), .bool b] [.bool true] :=
 qV { loops := fun f q => if f = 26 then (if q = 4 then some (ssLH h) else none) else none, hint := qT 26 [(11, .val (dN (stL f).length) (dN f.length) (by rw [stL_len])), (13, .val (dN (stL g).length) (dN f.length) (by rw [stL_len, hl])), (14, hB Pg (((f.length : Nat) : Int) != ((f.length : Nat) : Int)) false (by simp)), (16, .val (dN (stL f).length) (dN f.length) (by rw [stL_len]))] } 1000
theorem stKL_len {b : Bool} {f g : List St'} (h : stKL b f = stKL b g) : f.length = g.length := by
 have := congrArg List.length h
 simpa [stKL_map] using this
theorem stKL_get {b : Bool} {f g : List St'} (h : stKL b f = stKL b g) {i : Nat} {x y : St'} (hx : f[i]? = some x) (hy : g[i]? = some y) : stK b x = stK b y := by
 rw [stKL_map, stKL_map] at h
 have := congrArg (fun l : List St' => l[i]?) h
 simpa [hx, hy] using this
theorem sameSt (b : Bool) : ∀ (n : Nat) (f g : List St'), stZL f < n → n ≤ 1000000 → stKL b f = stKL b g → Pure Pg 26 [.ro (stL f), .ro (stL g), .bool b] [.bool true]
 | 0, _, _, h, _, _ => by omega
 | n + 1, f, g, h, hn, he => by
  have hl := stKL_len he
  have hfl := stZL_len f
  refine ssCall hl ?_
  have go : ∀ j i : Nat, i + j = f.length → RL 97 (lO 26 4) (ssL b f g i) ([]) (.exit 0) ([]) ([]) := by
   intro j
   induction j with
   | zero =>
    intro i hi
    obtain rfl : i = f.length := by omega
    cases b with
    | true => exact fun rest X hP hN => lw_stop (ssStop_true f g rest X hP hN) (by simp)
    | false => exact fun rest X hP hN => lw_stop (ssStop_false f g rest X hP hN) (by simp)
   | succ j ih =>
    intro i hi
    have li : i < f.length := by omega
    have hx := List.getElem?_eq_getElem li
    have hy := List.getElem?_eq_getElem (show i < g.length by omega)
    have hk := stKL_get he hx hy
    have hz := stZL_mem hx
    revert hx hy hk hz
    generalize f[i] = x
    generalize g[i] = y
    obtain ⟨k, id, nm, ty, m, p, es, bd, el⟩ := x
    obtain ⟨k2, id2, nm2, ty2, m2, p2, es2, bd2, el2⟩ := y
    intro hx hy hk hz
    simp only [stK, St'.mk.injEq] at hk
    obtain ⟨rfl, rfl, rfl, rfl, rfl, hp, h1, h2, h3⟩ := hk
    simp only [stZ] at hz
    have hc := sameEx b 1000000 es es2 (by omega) (Nat.le_refl _) h1
    have hc1 := sameSt b n bd bd2 (by omega) (by omega) h2
    have hc2 := sameSt b n el el2 (by omega) (by omega) h3
    have g2 := ih (i + 1) (by omega)
    cases b with
    | true =>
     simp only [cond_true] at hp
     subst hp
     exact fun rest X hP hN => lw_step (ssGo_true f g i (by omega) li (p2 := 0) hx hy hc hc1 hc2 rest X hP hN) (g2 rest X hP hN)
    | false => exact fun rest X hP hN => lw_step (ssGo_false f g i (by omega) li hx hy hc hc1 hc2 rest X hP hN) (g2 rest X hP hN)
  exact go f.length 0 (by omega)
end Go.Avm
namespace Go.Avm
open Go.Proofs
inductive NumL : List St' → Int → Int → Int → Int → Prop
 | nil (n a : Int) : NumL [] n a n a
 | cons {k id : Int} {nm : List UInt8} {ty v p : Int} {es : List Ex} {bd el r : List St'} {a n1 a1 n2 a2 n3 a3 : Int} (h : a < p) (lb : bd.length < 1000000) (le : el.length < 1000000) (hb : NumL bd (w64 (id + 1)) p n1 a1) (he : NumL el n1 a1 n2 a2) (hr : NumL r n2 a2 n3 a3) : NumL (.mk k id nm ty v p es bd el :: r) id a n3 a3
section
variable (f : List St') (i : Nat)
end
inductive NumF : List Fn → Int → Int → Prop
 | nil (n a : Int) : NumF [] n a
 | cons {nm : List UInt8} {ps : List Pm} {k : Int} {bd : List St'} {p : Int} {r : List Fn} {n a n1 a1 : Int} (lb : bd.length < 1000000) (hb : NumL bd n a n1 a1) (hr : NumF r n1 a1) : NumF (⟨nm, ps, k, bd, p⟩ :: r) n a
abbrev fnL (f : List Fn) : List D := f.map fnD
section
variable (f : List Fn) (i : Nat)
end
end Go.Avm
namespace Go.Avm
open Go.Proofs
abbrev sfE (f g : List Fn) : List (Nat × Ent) := [(1003, ⟨1, some (.arr 1 [.d (.ro (fnL f))])⟩), (1120, ⟨1, some (.arr 1 [.d (.ro (fnL g))])⟩)]
def sfL (b : Bool) (f : List Fn) (i : Nat) : List (Nat × AV) := [(2, dB b), (3, pC 1003), (4, pC 1120), (22, dN f.length), (23, dN i)]
def fnC (x : Fn) : List AV := [.d (.str x.nm), .d (.ro (x.ps.map pmD)), u8 x.res, .d (.ro (stL x.bd)), dI x.p]
abbrev spE (f g : List Fn) (x y : Fn) : List (Nat × Ent) := sfE f g ++ [(4516, ⟨1, some (.arr 1 (fnC x))⟩), (4633, ⟨1, some (.arr 1 (fnC y))⟩)]
abbrev spX (f g : List Fn) : List (Nat × Ent) := sfE f g ++ [(4516, ⟨1, none⟩), (4633, ⟨1, none⟩)]
def spL (b : Bool) (f : List Fn) (i m j : Nat) : List (Nat × AV) := [(2, dB b), (3, pC 1003), (4, pC 1120), (8, pC 4516), (9, pC 4633), (22, dN f.length), (23, dN i), (78, dN m), (79, dN j)]
section
variable (f g : List Fn) (i : Nat)
theorem spStop_true (nm : List UInt8) (ps ps2 : List Pm) (res : Int) (bd bd2 : List St') (p p2 : Int) : RE 116 (lO 12 10) (spL true f i ps.length ps.length) (spE f g ⟨nm, ps, res, bd, p⟩ ⟨nm, ps2, res, bd2, p⟩) (.exit 2) (sfL true f i) (spX f g) :=
 qE { hint := qT 12 [(80, qG ps.length)] } 12 5000
theorem spGo_true (nm : List UInt8) (ps ps2 : List Pm) (res : Int) (bd bd2 : List St') (p p2 : Int) (hf : ps.length < 1000000) {j : Nat} (hj : j < ps.length) {pn : List UInt8} {ty pp pp2 : Int} (hx : ps[j]? = some ⟨pn, ty, pp⟩) (hy : ps2[j]? = some ⟨pn, ty, pp⟩) :
    RE 116 (lO 12 10) (spL true f i ps.length j) (spE f g ⟨nm, ps, res, bd, p⟩ ⟨nm, ps2, res, bd2, p⟩) .normal (spL true f i ps.length (j + 1)) (spE f g ⟨nm, ps, res, bd, p⟩ ⟨nm, ps2, res, bd2, p⟩) :=
 qE { hint := qT 12 [(80, qL hj), (85, .idx (ps.map pmD) ((j : Nat) : Int) (pmD ⟨pn, ty, pp⟩) (by omega) (map_get hx)), (90, .idx (ps2.map pmD) ((j : Nat) : Int) (pmD ⟨pn, ty, pp⟩) (by omega) (map_get hy)), (96, hB Pg (!(pn == pn)) false (by simp)), (102, hB Pg (ty != ty) false (by simp)), (111, hB Pg (pp != pp) false (by simp)), (114, hSucc Pg j (by omega))] } 12 5000
noncomputable def spLH_true {f g : List Fn} {i : Nat} {nm : List UInt8} {ps ps2 : List Pm} {res : Int} {bd bd2 : List St'} {p : Int} (h : RL 116 (lO 12 10) (spL true f i ps.length 0) (spE f g ⟨nm, ps, res, bd, p⟩ ⟨nm, ps2, res, bd2, p⟩) (.exit 2) (sfL true f i) (spX f g)) : LHint Pg :=
 ⟨116, loopOf Pg 12 10, spL true f i ps.length 0, fun _ => spE f g ⟨nm, ps, res, bd, p⟩ ⟨nm, ps2, res, bd2, p⟩, .exit 2, sfL true f i, fun _ => spX f g, fun rest X hP hN => (h rest X hP hN).aw⟩
theorem sfStop_true : RE 116 (lO 12 4) (sfL true f f.length) (sfE f g) (.exit 0) ([]) ([(1003, ⟨1, none⟩), (1120, ⟨1, none⟩)]) :=
 qE { hint := qT 12 [(24, qG f.length)] } 12 3000
theorem sfGo_true (hf : f.length < 1000000) (hi : i < f.length) {nm : List UInt8} {ps ps2 : List Pm} {res : Int} {bd bd2 : List St'} {p p2 : Int} (hx : f[i]? = some ⟨nm, ps, res, bd, p⟩) (hy : g[i]? = some ⟨nm, ps2, res, bd2, p⟩) (hl : ps.length = ps2.length) (hb : Pure Pg 26 [.ro (stL bd), .ro (stL bd2), .bool true] [.bool true]) (h : RL 116 (lO 12 10) (spL true f i ps.length 0) (spE f g ⟨nm, ps, res, bd, p⟩ ⟨nm, ps2, res, bd2, p⟩) (.exit 2) (sfL true f i) (spX f g)) :
    RE 116 (lO 12 4) (sfL true f i) (sfE f g) .normal (sfL true f (i + 1)) (sfE f g) :=
 qE { loops := fun f q => if f = 12 then (if q = 10 then some (spLH_true h) else none) else none, hint := qT 12 [(24, qL hi), (29, .idx (fnL f) ((i : Nat) : Int) (fnD ⟨nm, ps, res, bd, p⟩) (by omega) (map_get hx)), (34, .idx (fnL g) ((i : Nat) : Int) (fnD ⟨nm, ps2, res, bd2, p⟩) (by omega) (map_get hy)), (40, hB Pg (!(nm == nm)) false (by simp)), (46, hB Pg (res != res) false (by simp)), (55, hB Pg (p != p) false (by simp)), (61, .val (dN (ps.map pmD).length) (dN ps.length) (by simp)), (64, .val (dN (ps2.map pmD).length) (dN ps.length) (by simp [hl])), (65, hB Pg (((ps.length : Nat) : Int) != ((ps.length : Nat) : Int)) false (by simp)), (73, .call 26 _ _ hb), (78, .val (dN (ps.map pmD).length) (dN ps.length) (by simp)), (115, hSucc Pg i (by omega))] } 12 3000
theorem spStop_false (nm : List UInt8) (ps ps2 : List Pm) (res : Int) (bd bd2 : List St') (p p2 : Int) : RE 116 (lO 12 10) (spL false f i ps.length ps.length) (spE f g ⟨nm, ps, res, bd, p⟩ ⟨nm, ps2, res, bd2, p2⟩) (.exit 2) (sfL false f i) (spX f g) :=
 qE { hint := qT 12 [(80, qG ps.length)] } 12 5000
theorem spGo_false (nm : List UInt8) (ps ps2 : List Pm) (res : Int) (bd bd2 : List St') (p p2 : Int) (hf : ps.length < 1000000) {j : Nat} (hj : j < ps.length) {pn : List UInt8} {ty pp pp2 : Int} (hx : ps[j]? = some ⟨pn, ty, pp⟩) (hy : ps2[j]? = some ⟨pn, ty, pp2⟩) :
    RE 116 (lO 12 10) (spL false f i ps.length j) (spE f g ⟨nm, ps, res, bd, p⟩ ⟨nm, ps2, res, bd2, p2⟩) .normal (spL false f i ps.length (j + 1)) (spE f g ⟨nm, ps, res, bd, p⟩ ⟨nm, ps2, res, bd2, p2⟩) :=
 qE { hint := qT 12 [(80, qL hj), (85, .idx (ps.map pmD) ((j : Nat) : Int) (pmD ⟨pn, ty, pp⟩) (by omega) (map_get hx)), (90, .idx (ps2.map pmD) ((j : Nat) : Int) (pmD ⟨pn, ty, pp2⟩) (by omega) (map_get hy)), (96, hB Pg (!(pn == pn)) false (by simp)), (102, hB Pg (ty != ty) false (by simp)), (114, hSucc Pg j (by omega))] } 12 5000
noncomputable def spLH_false {f g : List Fn} {i : Nat} {nm : List UInt8} {ps ps2 : List Pm} {res : Int} {bd bd2 : List St'} {p p2 : Int} (h : RL 116 (lO 12 10) (spL false f i ps.length 0) (spE f g ⟨nm, ps, res, bd, p⟩ ⟨nm, ps2, res, bd2, p2⟩) (.exit 2) (sfL false f i) (spX f g)) : LHint Pg :=
 ⟨116, loopOf Pg 12 10, spL false f i ps.length 0, fun _ => spE f g ⟨nm, ps, res, bd, p⟩ ⟨nm, ps2, res, bd2, p2⟩, .exit 2, sfL false f i, fun _ => spX f g, fun rest X hP hN => (h rest X hP hN).aw⟩
theorem sfStop_false : RE 116 (lO 12 4) (sfL false f f.length) (sfE f g) (.exit 0) ([]) ([(1003, ⟨1, none⟩), (1120, ⟨1, none⟩)]) :=
 qE { hint := qT 12 [(24, qG f.length)] } 12 3000
theorem sfGo_false (hf : f.length < 1000000) (hi : i < f.length) {nm : List UInt8} {ps ps2 : List Pm} {res : Int} {bd bd2 : List St'} {p p2 : Int} (hx : f[i]? = some ⟨nm, ps, res, bd, p⟩) (hy : g[i]? = some ⟨nm, ps2, res, bd2, p2⟩) (hl : ps.length = ps2.length) (hb : Pure Pg 26 [.ro (stL bd), .ro (stL bd2), .bool false] [.bool true]) (h : RL 116 (lO 12 10) (spL false f i ps.length 0) (spE f g ⟨nm, ps, res, bd, p⟩ ⟨nm, ps2, res, bd2, p2⟩) (.exit 2) (sfL false f i) (spX f g)) :
    RE 116 (lO 12 4) (sfL false f i) (sfE f g) .normal (sfL false f (i + 1)) (sfE f g) :=
 qE { loops := fun f q => if f = 12 then (if q = 10 then some (spLH_false h) else none) else none, hint := qT 12 [(24, qL hi), (29, .idx (fnL f) ((i : Nat) : Int) (fnD ⟨nm, ps, res, bd, p⟩) (by omega) (map_get hx)), (34, .idx (fnL g) ((i : Nat) : Int) (fnD ⟨nm, ps2, res, bd2, p2⟩) (by omega) (map_get hy)), (40, hB Pg (!(nm == nm)) false (by simp)), (46, hB Pg (res != res) false (by simp)), (61, .val (dN (ps.map pmD).length) (dN ps.length) (by simp)), (64, .val (dN (ps2.map pmD).length) (dN ps.length) (by simp [hl])), (65, hB Pg (((ps.length : Nat) : Int) != ((ps.length : Nat) : Int)) false (by simp)), (73, .call 26 _ _ hb), (78, .val (dN (ps.map pmD).length) (dN ps.length) (by simp)), (115, hSucc Pg i (by omega))] } 12 3000
end
noncomputable def sfLH {b : Bool} {f g : List Fn} (h : RL 116 (lO 12 4) (sfL b f 0) (sfE f g) (.exit 0) ([]) ([(1003, ⟨1, none⟩), (1120, ⟨1, none⟩)])) : LHint Pg :=
 ⟨116, loopOf Pg 12 4, sfL b f 0, fun _ => sfE f g, .exit 0, [], fun _ => [(1003, ⟨1, none⟩), (1120, ⟨1, none⟩)], fun rest X hP hN => (h rest X hP hN).aw⟩
theorem sfCall {b : Bool} {f g : List Fn} (hl : f.length = g.length) (h : RL 116 (lO 12 4) (sfL b f 0) (sfE f g) (.exit 0) ([]) ([(1003, ⟨1, none⟩), (1120, ⟨1, none⟩)])) : Pure Pg 12 [.agg [.ro (fnL f)], .agg [.ro (fnL g)], .bool b] [.bool true] :=
 qV { loops := fun f q => if f = 12 then (if q = 4 then some (sfLH h) else none) else none, hint := qT 12 [(15, .val (dN (fnL f).length) (dN f.length) (by simp)), (18, .val (dN (fnL g).length) (dN f.length) (by simp [hl])), (19, hB Pg (((f.length : Nat) : Int) != ((f.length : Nat) : Int)) false (by simp)), (22, .val (dN (fnL f).length) (dN f.length) (by simp))] } 1000
theorem sameFn (b : Bool) (f g : List Fn) (hz : fnZL f < 1000000) (he : f.map (fnK b) = g.map (fnK b)) : Pure Pg 12 [.agg [.ro (fnL f)], .agg [.ro (fnL g)], .bool b] [.bool true] := by
 have hl : f.length = g.length := by simpa using congrArg List.length he
 have hfl := fnZL_len f
 refine sfCall hl ?_
 have go : ∀ j i : Nat, i + j = f.length → RL 116 (lO 12 4) (sfL b f i) (sfE f g) (.exit 0) ([]) ([(1003, ⟨1, none⟩), (1120, ⟨1, none⟩)]) := by
  intro j
  induction j with
  | zero =>
   intro i hi
   obtain rfl : i = f.length := by omega
   cases b with
   | true => exact fun rest X hP hN => lw_stop (sfStop_true f g rest X hP hN) (by simp)
   | false => exact fun rest X hP hN => lw_stop (sfStop_false f g rest X hP hN) (by simp)
  | succ j ih =>
   intro i hi
   have li : i < f.length := by omega
   have hx := List.getElem?_eq_getElem li
   have hy := List.getElem?_eq_getElem (show i < g.length by omega)
   have hk : fnK b f[i] = fnK b g[i] := by
    have := congrArg (fun l : List Fn => l[i]?) he
    simpa [hx, hy] using this
   have hz := fnZL_mem hx
   revert hx hy hk hz
   generalize f[i] = x
   generalize g[i] = y
   obtain ⟨nm, ps, res, bd, p⟩ := x
   obtain ⟨nm2, ps2, res2, bd2, p2⟩ := y
   intro hx hy hk hz
   simp only [fnK, Fn.mk.injEq] at hk
   obtain ⟨rfl, h1, rfl, h2, hp⟩ := hk
   simp only [fnZ] at hz
   have hpl : ps.length = ps2.length := by simpa using congrArg List.length h1
   have hb := sameSt b 1000000 bd bd2 (by omega) (Nat.le_refl _) h2
   have g2 := ih (i + 1) (by omega)
   cases b with
   | true =>
    simp only [cond_true] at hp
    subst hp
    have inn : ∀ m j : Nat, j + m = ps.length → RL 116 (lO 12 10) (spL true f i ps.length j) (spE f g ⟨nm, ps, res, bd, p⟩ ⟨nm, ps2, res, bd2, p⟩) (.exit 2) (sfL true f i) (spX f g) := by
     intro m
     induction m with
     | zero =>
      intro j hj
      obtain rfl : j = ps.length := by omega
      exact fun rest X hP hN => lw_stop (spStop_true f g i nm ps ps2 res bd bd2 p 0 rest X hP hN) (by simp)
     | succ m ihm =>
      intro j hj
      have lj : j < ps.length := by omega
      have hx2 := List.getElem?_eq_getElem lj
      have hy2 := List.getElem?_eq_getElem (show j < ps2.length by omega)
      have hk2 : pmK true ps[j] = pmK true ps2[j] := by
       have := congrArg (fun l : List Pm => l[j]?) h1
       simpa [hx2, hy2] using this
      have g3 := ihm (j + 1) (by omega)
      revert hx2 hy2 hk2
      generalize ps[j] = u
      generalize ps2[j] = w
      obtain ⟨pn, ty, pp⟩ := u
      obtain ⟨pn2, ty2, pp2⟩ := w
      intro hx2 hy2 hk2
      simp only [pmK, Pm.mk.injEq] at hk2
      obtain ⟨rfl, rfl, hpp⟩ := hk2
      simp only [cond_true] at hpp
      subst hpp
      exact fun rest X hP hN => lw_step (spGo_true f g i nm ps ps2 res bd bd2 p 0 (by omega) lj (pp2 := 0) hx2 hy2 rest X hP hN) (g3 rest X hP hN)
    exact fun rest X hP hN => lw_step (sfGo_true f g i (by omega) li (p2 := 0) hx hy hpl hb (inn ps.length 0 (by omega)) rest X hP hN) (g2 rest X hP hN)
   | false =>
    have inn : ∀ m j : Nat, j + m = ps.length → RL 116 (lO 12 10) (spL false f i ps.length j) (spE f g ⟨nm, ps, res, bd, p⟩ ⟨nm, ps2, res, bd2, p2⟩) (.exit 2) (sfL false f i) (spX f g) := by
     intro m
     induction m with
     | zero =>
      intro j hj
      obtain rfl : j = ps.length := by omega
      exact fun rest X hP hN => lw_stop (spStop_false f g i nm ps ps2 res bd bd2 p p2 rest X hP hN) (by simp)
     | succ m ihm =>
      intro j hj
      have lj : j < ps.length := by omega
      have hx2 := List.getElem?_eq_getElem lj
      have hy2 := List.getElem?_eq_getElem (show j < ps2.length by omega)
      have hk2 : pmK false ps[j] = pmK false ps2[j] := by
       have := congrArg (fun l : List Pm => l[j]?) h1
       simpa [hx2, hy2] using this
      have g3 := ihm (j + 1) (by omega)
      revert hx2 hy2 hk2
      generalize ps[j] = u
      generalize ps2[j] = w
      obtain ⟨pn, ty, pp⟩ := u
      obtain ⟨pn2, ty2, pp2⟩ := w
      intro hx2 hy2 hk2
      simp only [pmK, Pm.mk.injEq] at hk2
      obtain ⟨rfl, rfl, hpp⟩ := hk2
      exact fun rest X hP hN => lw_step (spGo_false f g i nm ps ps2 res bd bd2 p p2 (by omega) lj hx2 hy2 rest X hP hN) (g3 rest X hP hN)
    exact fun rest X hP hN => lw_step (sfGo_false f g i (by omega) li hx hy hpl hb (inn ps.length 0 (by omega)) rest X hP hN) (g2 rest X hP hN)
 exact go f.length 0 (by omega)
end Go.Avm
namespace Go.Avm
open Go.Proofs
def Post {α : Type} (Q : α → RS → Prop) (r : Res α) : Prop := ∀ a s', r = .ok a s' → Q a s'
section
variable {α β : Type} {Q Q' : α → RS → Prop} {R : β → RS → Prop} {r : Res α} {f : α → RS → Res β} {s : RS}
theorem Post.bind (h : Post Q r) (hf : ∀ a s', Q a s' → Post R (f a s')) : Post R (r.bind f) := fun b s2 e => by
 cases r with
 | ok a s1 => exact hf a s1 (h a s1 rfl) b s2 e
 | bad p q s1 => cases e
 | out => cases e
theorem Post.ok {a : α} (h : Q a s) : Post Q (.ok a s) := fun _ _ e => by cases e; exact h
theorem Post.out : Post Q (Res.out : Res α) := fun _ _ e => by cases e
theorem Post.bad {p e : Int} : Post Q (Res.bad p e s : Res α) := fun _ _ e => by cases e
theorem Post.ite {c : Bool} {X Y : Res α} (hX : Post Q X) (hY : Post Q Y) : Post Q (bif c then X else Y) := by cases c <;> assumption
theorem Post.imp (h : Post Q r) (hq : ∀ a s', Q a s' → Q' a s') : Post Q' r := fun a s' e => hq a s' (h a s' e)
end
section
variable (L : List T)
theorem p_want (x : List UInt8) (s : RS) : Post (fun _ s' => s.i + 1 ≤ s'.i) (sWant L x s) := want_gr L x s
theorem p_take (k : Int) (s : RS) : Post (fun _ s' => s.i + 1 ≤ s'.i) (sTake L k s) := take_gr L k s
theorem p_kind (k : List Int) (s : RS) : Post (fun _ s' => s.i + 1 ≤ s'.i) (sKind L k s) := kind_gr L k s
theorem Post.may {L : List T} {α : Type} {Q : α → RS → Prop} {x : List UInt8} {s : RS} {X Y : RS → Res α} (hX : ∀ s', s.i + 1 ≤ s'.i → Post Q (X s')) (hY : Post Q (Y s)) : Post Q ((sMay L x s).bind fun b s1 => bif b then X s1 else Y s1) := by
 unfold sMay
 cases isT L s x with
 | false => exact hY
 | true =>
  have := (p_want L x s).bind (f := fun _ s1 => X s1) fun _ s' h => hX s' h
  simp only [cond_true]
  revert this
  cases sWant L x s <;> exact fun h => h
structure ZA (n : Nat) : Prop where
 one : ∀ s : RS, Post (fun a s' => exZ a + s.i ≤ s'.i) (sOne L n s)
 place : ∀ s : RS, Post (fun a s' => exZ a + 2 + s.i ≤ s'.i) (sPlace L n s)
 call : ∀ nm p (s : RS), Post (fun a s' => exZ a + 1 + s.i ≤ s'.i) (sCall L n nm p s)
 args : ∀ s : RS, Post (fun a s' => exZL a + 2 + s.i ≤ s'.i) (sArgs L n s)
 more : ∀ l (s : RS), Post (fun a s' => exZL a + s.i ≤ s'.i + exZL l) (sMore L n l s)
 expr : ∀ k (s : RS), Post (fun a s' => exZ a + s.i ≤ s'.i) (sExpr L n k s)
 tail : ∀ k e (s : RS), Post (fun a s' => exZ a + s.i ≤ s'.i + exZ e) (sTail L n k e s)
theorem exZL_app : ∀ l m : List Ex, exZL (l ++ m) = exZL l + exZL m
 | [], m => by simp [exZL]
 | x :: l, m => by simp only [List.cons_append, exZL, exZL_app l m]; omega
theorem stZL_app : ∀ l m : List St', stZL (l ++ m) = stZL l + stZL m
 | [], m => by simp [stZL]
 | x :: l, m => by simp only [List.cons_append, stZL, stZL_app l m]; omega
theorem fnZL_app : ∀ l m : List Fn, fnZL (l ++ m) = fnZL l + fnZL m
 | [], m => by simp [fnZL]
 | x :: l, m => by simp only [List.cons_append, fnZL, fnZL_app l m]; omega
theorem zAll : ∀ n, ZA L n
 | 0 => ⟨fun _ => Post.out, fun _ => Post.out, fun _ _ _ => Post.out, fun _ => Post.out, fun _ _ => Post.out, fun _ _ => Post.out, fun _ _ _ => Post.out⟩
 | n + 1 => by
  have ih := zAll n
  have W := p_want L
  refine ⟨fun s => ?_, fun s => ?_, fun nm p s => ?_, fun s => ?_, fun l s => ?_, fun k s => ?_, fun k e s => ?_⟩
  ·simp only [sOne]
   have un : ∀ (o p : Int) s', s.i + 1 ≤ s'.i → Post (fun a s2 => exZ a + s.i ≤ s2.i) ((sOne L n s').bind fun e s2 => .ok (.mk 8 o [] 0 p [e]) s2) := fun o p s' h => (ih.one s').bind fun e s2 h2 => .ok (by simp only [exZ, exZL]; omega)
   refine Post.may (fun s' => un _ _ s') (Post.may (fun s' => un _ _ s') (Post.may (fun s' => un _ _ s') (Post.ite (.ok (by simp only [exZ, exZL, RS.nx]; omega)) ?_)))
   refine Post.may (fun s' h => .ok (by simp only [exZ, exZL]; omega)) (Post.may (fun s' h => .ok (by simp only [exZ, exZL]; omega)) ?_)
   refine Post.may (fun s' h => (W _ s').bind fun _ s2 h2 => (W _ s2).bind fun _ _ h3 => .ok (by simp only [exZ, exZL]; omega)) ?_
   refine Post.may (fun s' h => (W _ s').bind fun _ s2 h2 => (p_take L 1 s2).bind fun _ s3 h3 => (W _ s3).bind fun _ _ h4 => .ok (by simp only [exZ, exZL]; omega)) ?_
   refine Post.ite ((W _ s).bind fun _ s2 h2 => (ih.expr _ s2).bind fun _ s3 h3 => (W _ s3).bind fun _ _ h4 => .ok (by omega)) ?_
   refine (p_take L 1 s).bind fun _ s2 h2 => Post.ite ((ih.place s2).bind fun _ _ h3 => .ok (by simp only [exZ, exZL]; omega)) (Post.ite ((ih.call _ _ s2).bind fun _ _ h3 => .ok (by omega)) (.ok (by simp only [exZ, exZL]; omega)))
  ·simp only [sPlace]
   exact (W _ s).bind fun _ s2 h2 => (ih.expr _ s2).bind fun _ s3 h3 => (W _ s3).bind fun _ _ h4 => .ok (by omega)
  ·simp only [sCall]
   exact (ih.args s).bind fun _ _ h => .ok (by simp only [exZ]; omega)
  ·simp only [sArgs]
   exact (W _ s).bind fun _ s2 h2 => Post.ite ((W _ s2).bind fun _ _ h3 => .ok (by simp only [exZL]; omega)) ((ih.expr _ s2).bind fun _ s3 h3 => (ih.more _ s3).bind fun _ s4 h4 => (W _ s4).bind fun _ _ h5 => .ok (by simp only [exZL] at h4; omega))
  ·simp only [sMore]
   exact Post.may (fun s' h => (ih.expr _ s').bind fun _ s3 h3 => (ih.more _ s3).imp fun _ _ h4 => by simp only [exZL_app, exZL] at h4; omega) (.ok (Nat.le_of_eq (Nat.add_comm _ _)))
  ·simp only [sExpr]
   exact (ih.one s).bind fun _ s2 h2 => (ih.tail _ _ s2).imp fun _ _ h3 => by omega
  ·simp only [sTail]
   exact Post.ite (.ok (Nat.le_of_eq (Nat.add_comm _ _))) ((ih.expr _ _).bind fun _ s2 h2 => (ih.tail _ _ s2).imp fun _ _ h3 => by simp only [exZ, exZL, RS.nx] at h2 h3; omega)
theorem z_let (n : Nat) (id p : Int) (s : RS) : Post (fun a s' => stZ a + s.i ≤ s'.i) (sLet L n id p s) := by
 have W := p_want L
 unfold sLet
 refine (p_take L 1 s).bind fun _ s2 h2 => (W _ s2).bind fun _ s3 h3 => (p_kind L _ s3).bind fun _ s4 h4 => Post.ite ?_ ?_
 ·exact (W _ s4).bind fun _ s5 h5 => (p_take L 3 s5).bind fun _ s6 h6 => (W _ s6).bind fun _ s7 h7 => (W _ s7).bind fun _ _ h8 => .ok (by simp only [stZ, stZL, exZL]; omega)
 ·exact Post.may (fun s' h => ((zAll L n).expr 1 s').bind fun _ s6 h6 => (W _ s6).bind fun _ _ h7 => .ok (by simp only [stZ, stZL, exZL]; omega)) ((W _ s4).bind fun _ _ h5 => .ok (by simp only [stZ, stZL, exZL]; omega))
theorem z_named (n : Nat) (id p : Int) (s : RS) : Post (fun a s' => stZ a + s.i ≤ s'.i) (sNamed L n id p s) := by
 have W := p_want L
 have A := zAll L n
 unfold sNamed
 refine (p_take L 1 s).bind fun _ s2 h2 => Post.ite ((A.call _ _ s2).bind fun _ s3 h3 => (W _ s3).bind fun _ _ h4 => .ok (by simp only [stZ, stZL, exZL]; omega)) (Post.ite ?_ ?_)
 ·exact (A.place s2).bind fun _ s3 h3 => (W _ s3).bind fun _ s4 h4 => (A.expr 1 s4).bind fun _ s5 h5 => (W _ s5).bind fun _ _ h6 => .ok (by simp only [stZ, stZL, exZL]; omega)
 ·exact (W _ s2).bind fun _ s3 h3 => (A.expr 1 s3).bind fun _ s4 h4 => (W _ s4).bind fun _ _ h5 => .ok (by simp only [stZ, stZL, exZL]; omega)
theorem z_stmt : ∀ n, (∀ s : RS, Post (fun a s' => stZL a + 2 + s.i ≤ s'.i) (sBlock L n s)) ∧ (∀ l (s : RS), Post (fun a s' => stZL a + s.i ≤ s'.i + stZL l) (sStmts L n l s)) ∧ (∀ s : RS, Post (fun a s' => stZ a + s.i ≤ s'.i) (sStmt L n s))
 | 0 => ⟨fun _ => Post.out, fun _ _ => Post.out, fun _ => Post.out⟩
 | n + 1 => by
  obtain ⟨h1, h2, h3⟩ := z_stmt n
  have W := p_want L
  have A := zAll L n
  refine ⟨fun s => ?_, fun l s => ?_, fun s => ?_⟩
  ·simp only [sBlock]
   exact (W _ s).bind fun _ s1 g1 => (h2 _ s1).bind fun _ s2 g2 => (W _ s2).bind fun _ _ g3 => .ok (by simp only [stZL] at g2; omega)
  ·simp only [sStmts]
   exact Post.ite (.ok (Nat.le_of_eq (Nat.add_comm _ _))) ((h3 s).bind fun _ s1 g1 => (h2 _ s1).imp fun _ _ g2 => by simp only [stZL_app, stZL] at g2; omega)
  ·simp only [sStmt]
   have hi : s.st.i = s.i := rfl
   refine Post.may (fun s' g => (z_let L n _ _ s').bind fun _ _ g2 => .ok (by omega)) (Post.may (fun s' g => ?_) (Post.may (fun s' g => ?_) (Post.may (fun s' g => ?_) (Post.may (fun s' g => ?_) ?_))))
   ·exact (A.expr 1 s').bind fun _ s2 g2 => (h1 s2).bind fun _ s3 g3 => Post.may (fun s4 g4 => (h1 s4).bind fun _ _ g5 => .ok (by simp only [stZ, stZL, exZL]; omega)) (.ok (by simp only [stZ, stZL, exZL]; omega))
   ·exact (A.expr 1 s').bind fun _ s2 g2 => (h1 s2).bind fun _ s3 g3 => .ok (by simp only [stZ, stZL, exZL]; omega)
   ·exact Post.ite ((W _ s').bind fun _ _ g2 => .ok (by simp only [stZ, stZL, exZL]; omega)) ((A.expr 1 s').bind fun _ s2 g2 => (W _ s2).bind fun _ _ g3 => .ok (by simp only [stZ, stZL, exZL]; omega))
   ·exact (A.expr 1 s').bind fun _ s2 g2 => (W _ s2).bind fun _ _ g3 => .ok (by simp only [stZ, stZL, exZL]; omega)
   ·exact (z_named L n _ _ _).bind fun _ _ g2 => .ok (by omega)
theorem z_param (s : RS) : Post (fun _ s' => 1 + s.i ≤ s'.i) (sParam L s) := (p_take L 1 s).bind fun _ s1 h1 => (p_want L _ s1).bind fun _ s2 h2 => (p_kind L _ s2).bind fun _ _ h3 => .ok (by omega)
theorem z_pmore : ∀ (n : Nat) (l : List Pm) (s : RS), Post (fun a s' => a.length + s.i ≤ s'.i + l.length) (sPMore L n l s)
 | 0, _, _ => Post.out
 | n + 1, l, s => by
  simp only [sPMore]
  exact Post.may (fun s' h => (z_param L s').bind fun _ s2 h2 => (z_pmore n _ s2).imp fun _ _ h3 => by simp only [List.length_append, List.length_cons, List.length_nil] at h3; omega) (.ok (Nat.le_of_eq (Nat.add_comm _ _)))
theorem z_params (n : Nat) (s : RS) : Post (fun a s' => a.length + 2 + s.i ≤ s'.i) (sParams L n s) := by
 have W := p_want L
 unfold sParams
 exact (W _ s).bind fun _ s3 h3 => Post.ite ((W _ s3).bind fun _ _ h4 => .ok (by simp only [List.length_nil]; omega)) ((z_param L s3).bind fun _ s4 h4 => (z_pmore L n _ s4).bind fun _ s5 h5 => (W _ s5).bind fun _ _ h6 => .ok (by simp only [List.length_cons, List.length_nil] at h5; omega))
theorem z_fn (n : Nat) (s : RS) : Post (fun a s' => fnZ a + s.i ≤ s'.i) (sFn L n s) := by
 have W := p_want L
 have B := (z_stmt L n).1
 unfold sFn
 exact (W _ s).bind fun _ s1 h1 => (p_take L 1 s1).bind fun _ s2 h2 => (z_params L n s2).bind fun _ s3 h3 => Post.may (fun s4 h4 => (p_kind L _ s4).bind fun _ s5 h5 => (B s5).bind fun _ _ h6 => .ok (by simp only [fnZ]; omega)) ((B s3).bind fun _ _ h6 => .ok (by simp only [fnZ]; omega))
theorem z_fns (N : Nat) : ∀ (n : Nat) (l : List Fn) (s : RS), Post (fun a s' => fnZL a + s.i ≤ s'.i + fnZL l) (sFns L N n l s)
 | 0, _, _ => Post.out
 | n + 1, l, s => by
  simp only [sFns]
  exact Post.ite (.ok (Nat.le_of_eq (Nat.add_comm _ _))) ((z_fn L N s).bind fun _ s1 h1 => (z_fns N n _ s1).imp fun _ _ h2 => by simp only [fnZL_app, fnZL] at h2; omega)
theorem z_prog (n : Nat) : Post (fun a s' => fnZL a ≤ s'.i) (sProg L n) := by
 unfold sProg
 exact (z_fn L n ⟨0, 0, 0⟩).bind fun _ s1 h1 => (z_fns L n n _ s1).imp fun _ _ h2 => by simp only [fnZL] at h1 h2; omega
end
theorem prog_small {L : List T} (hL : Toks L) (h0 : 0 < L.length) {l : List Fn} {s' : RS} (h : sProg L (fuel L) = .ok l s') : fnZL l < 1000000 := by
 have h1 := z_prog L (fuel L) l s' h
 have h2 := (((g_fn hL (fuel L) ⟨0, 0, 0⟩ h0 (by simp only [fuel]; omega)).bind fun f s1 h1 h2 => g_fns hL (fuel L) (Nat.le_refl _) (fuel L) [f] s1 h2 (by simp only [fuel]; omega)).2 l s' h).2
 have := hL.len
 omega
end Go.Avm
namespace Go.Avm
open Go.Proofs
def hU (P : Program) (k : IntKind) (x y : Int) (h : x = y) : Hint P := .val (.d (.int k x)) (.d (.int k y)) (by rw [h])
def classI (b : UInt8) : Int := if wsp b then 1 else if isSm b then 2 else if isDig b then 3 else if b == 35 then 5 else if great b then 6 else if sg1 b then 4 else 0
noncomputable def clsAt (q n : Nat) : Option (List D) := callDE Pg (execE Pg (fun _ _ => false) (fun _ => false) .none 1000) 27 [.int .u8 ((32 * q + n : Nat) : Int)]
set_option maxRecDepth 100000 in
theorem classAll_0 : ((List.range 32).map fun n => clsAt 0 n) = (List.range 32).map fun n => some [.int .i64 (classI (UInt8.ofNat (32 * 0 + n)))] := by kernel_rfl
set_option maxRecDepth 100000 in
theorem classAll_1 : ((List.range 32).map fun n => clsAt 1 n) = (List.range 32).map fun n => some [.int .i64 (classI (UInt8.ofNat (32 * 1 + n)))] := by kernel_rfl
set_option maxRecDepth 100000 in
theorem classAll_2 : ((List.range 32).map fun n => clsAt 2 n) = (List.range 32).map fun n => some [.int .i64 (classI (UInt8.ofNat (32 * 2 + n)))] := by kernel_rfl
set_option maxRecDepth 100000 in
theorem classAll_3 : ((List.range 32).map fun n => clsAt 3 n) = (List.range 32).map fun n => some [.int .i64 (classI (UInt8.ofNat (32 * 3 + n)))] := by kernel_rfl
set_option maxRecDepth 100000 in
theorem classAll_4 : ((List.range 32).map fun n => clsAt 4 n) = (List.range 32).map fun n => some [.int .i64 (classI (UInt8.ofNat (32 * 4 + n)))] := by kernel_rfl
set_option maxRecDepth 100000 in
theorem classAll_5 : ((List.range 32).map fun n => clsAt 5 n) = (List.range 32).map fun n => some [.int .i64 (classI (UInt8.ofNat (32 * 5 + n)))] := by kernel_rfl
set_option maxRecDepth 100000 in
theorem classAll_6 : ((List.range 32).map fun n => clsAt 6 n) = (List.range 32).map fun n => some [.int .i64 (classI (UInt8.ofNat (32 * 6 + n)))] := by kernel_rfl
set_option maxRecDepth 100000 in
theorem classAll_7 : ((List.range 32).map fun n => clsAt 7 n) = (List.range 32).map fun n => some [.int .i64 (classI (UInt8.ofNat (32 * 7 + n)))] := by kernel_rfl
theorem classC (b : UInt8) : Pure Pg 27 [bD b] [.int .i64 (classI b)] := by
 have key : ∀ q, q < 8 → ((List.range 32).map fun n => clsAt q n) = (List.range 32).map fun n => some [.int .i64 (classI (UInt8.ofNat (32 * q + n)))] := fun q hq => by
  match q, hq with
  | 0, _ => exact classAll_0
  | 1, _ => exact classAll_1
  | 2, _ => exact classAll_2
  | 3, _ => exact classAll_3
  | 4, _ => exact classAll_4
  | 5, _ => exact classAll_5
  | 6, _ => exact classAll_6
  | 7, _ => exact classAll_7
 have hb := b.toNat_lt
 have h := List.map_inj_left.1 (key (b.toNat / 32) (by omega)) (b.toNat % 32) (List.mem_range.2 (Nat.mod_lt _ (by decide)))
 rw [clsAt, Nat.div_add_mod, UInt8.ofNat_toNat] at h
 exact pure_of_exec okP named _ _ 1000 h
def classFits (n : Nat) : Bool :=
 ((classI (UInt8.ofNat n) == 1) == wsp (UInt8.ofNat n)) && ((classI (UInt8.ofNat n) == 2) == isSm (UInt8.ofNat n)) && ((classI (UInt8.ofNat n) == 3) == isDig (UInt8.ofNat n)) && ((classI (UInt8.ofNat n) == 5) == (UInt8.ofNat n == 35)) && ((classI (UInt8.ofNat n) == 6) == great (UInt8.ofNat n)) &&
  (!(sg1 (UInt8.ofNat n)) || (classI (UInt8.ofNat n) == 4)) && (!(classI (UInt8.ofNat n) == 4) || (sg1 (UInt8.ofNat n)))
theorem classAll2 : (List.range 256).all classFits = true := by kernel_rfl
theorem class_spec (b : UInt8) : (classI b == 1) = wsp b ∧ (classI b == 2) = isSm b ∧ (classI b == 3) = isDig b ∧ (classI b == 5) = (b == 35) ∧ (classI b == 6) = great b ∧ (classI b == 4) = sg1 b := by
 have h := List.all_eq_true.1 classAll2 b.toNat (List.mem_range.2 b.toNat_lt)
 unfold classFits at h
 rw [UInt8.ofNat_toNat] at h
 simp only [Bool.and_eq_true, beq_iff_eq] at h
 obtain ⟨⟨⟨⟨⟨⟨h1, h2⟩, h3⟩, h4⟩, h5⟩, h6⟩, h7⟩ := h
 refine ⟨h1, h2, h3, h4, h5, ?_⟩
 cases hs : sg1 b <;> cases hc : (classI b == 4) <;> simp [hs, hc] at h6 h7 ⊢
def eqI (b : UInt8) (k : Int) : Bool := (b.toNat : Int) == k
def pairM (e a61 a33 a60 a62 ab a38 a124 : Bool) : Bool := if e then (a61 || a33 || a60 || a62) else ab && (a38 || a124 || a60 || a62)
noncomputable def pairPr (a b : UInt8) (e a61 a33 a60 a62 ab a38 a124 : Bool) (h1 : eqI b 61 = e) (h2 : eqI a 61 = a61) (h3 : eqI a 33 = a33) (h4 : eqI a 60 = a60) (h5 : eqI a 62 = a62) (h6 : ((a.toNat : Int) == (b.toNat : Int)) = ab) (h7 : eqI a 38 = a38) (h8 : eqI a 124 = a124) : Par Pg :=
 { hint := fun f k => if f = 30 then (if k = 6 then some (hB Pg _ e h1) else if k = 8 then some (hB Pg _ a61 h2) else if k = 11 then some (hB Pg _ a33 h3) else if k = 15 then some (hB Pg _ a60 h4) else if k = 19 then some (hB Pg _ a62 h5) else if k = 23 then some (hB Pg _ ab h6)
     else if k = 26 then some (hB Pg _ a38 h7) else if k = 29 then some (hB Pg _ a124 h8) else if k = 33 then some (hB Pg _ a60 h4) else if k = 37 then some (hB Pg _ a62 h5) else none) else none }
theorem pairC0 (a b : UInt8) (e a61 a33 a60 a62 ab a38 a124 : Bool) (h1 : eqI b 61 = e) (h2 : eqI a 61 = a61) (h3 : eqI a 33 = a33) (h4 : eqI a 60 = a60) (h5 : eqI a 62 = a62) (h6 : ((a.toNat : Int) == (b.toNat : Int)) = ab) (h7 : eqI a 38 = a38) (h8 : eqI a 124 = a124) :
    Pure Pg 30 [bD a, bD b] [.bool (pairM e a61 a33 a60 a62 ab a38 a124)] := by
 cases e with
 | true => cases a61 <;> cases a33 <;> cases a60 <;> cases a62 <;> exact pure_of_run okP named (pairPr a b _ _ _ _ _ _ _ _ h1 h2 h3 h4 h5 h6 h7 h8) 1000 (by kernel_rfl)
 | false => cases ab <;> cases a38 <;> cases a124 <;> cases a60 <;> cases a62 <;> exact pure_of_run okP named (pairPr a b _ _ _ _ _ _ _ _ h1 h2 h3 h4 h5 h6 h7 h8) 1000 (by kernel_rfl)
theorem eqI_iff (b : UInt8) (k : Nat) : eqI b (k : Int) = true ↔ b.toNat = k := by
 simp only [eqI, beq_iff_eq]; omega
theorem u8_iff (a b : UInt8) : a = b ↔ a.toNat = b.toNat := ⟨fun h => by rw [h], fun h => UInt8.toNat_inj.1 h⟩
theorem pairC (a b : UInt8) : Pure Pg 30 [bD a, bD b] [.bool (prs.contains [a, b])] := by
 have h := pairC0 a b _ _ _ _ _ _ _ _ rfl rfl rfl rfl rfl rfl rfl rfl
 have e : pairM (eqI b 61) (eqI a 61) (eqI a 33) (eqI a 60) (eqI a 62) ((a.toNat : Int) == (b.toNat : Int)) (eqI a 38) (eqI a 124) = prs.contains [a, b] := by
  have g : ∀ k : Nat, eqI b k = true ↔ b.toNat = k := eqI_iff b
  have g' : ∀ k : Nat, eqI a k = true ↔ a.toNat = k := eqI_iff a
  have e1 := g 61
  have f1 := g' 61
  have f2 := g' 33
  have f3 := g' 60
  have f4 := g' 62
  have f5 := g' 38
  have f6 := g' 124
  rw [Bool.eq_iff_iff]
  simp only [prs, List.contains_eq_mem, decide_eq_true_eq, List.mem_cons, List.not_mem_nil, or_false, List.cons.injEq, and_true, u8_iff a, u8_iff b]
  unfold pairM
  split
  ·rename_i he
   have := e1.1 he
   simp only [Bool.or_eq_true]
   rw [show (eqI a 61 = true) = (a.toNat = 61) from propext f1, show (eqI a 33 = true) = (a.toNat = 33) from propext f2, show (eqI a 60 = true) = (a.toNat = 60) from propext f3, show (eqI a 62 = true) = (a.toNat = 62) from propext f4]
   simp only [show (61 : UInt8).toNat = 61 from rfl, show (33 : UInt8).toNat = 33 from rfl, show (60 : UInt8).toNat = 60 from rfl, show (62 : UInt8).toNat = 62 from rfl, show (38 : UInt8).toNat = 38 from rfl, show (124 : UInt8).toNat = 124 from rfl]
   omega
  ·rename_i he
   have hb : ¬ b.toNat = 61 := fun hx => he (e1.2 hx)
   simp only [Bool.and_eq_true, Bool.or_eq_true, beq_iff_eq]
   rw [show (eqI a 38 = true) = (a.toNat = 38) from propext f5, show (eqI a 124 = true) = (a.toNat = 124) from propext f6, show (eqI a 60 = true) = (a.toNat = 60) from propext f3, show (eqI a 62 = true) = (a.toNat = 62) from propext f4]
   simp only [show (61 : UInt8).toNat = 61 from rfl, show (33 : UInt8).toNat = 33 from rfl, show (60 : UInt8).toNat = 60 from rfl, show (62 : UInt8).toNat = 62 from rfl, show (38 : UInt8).toNat = 38 from rfl, show (124 : UInt8).toNat = 124 from rfl]
   omega
 rw [e] at h
 exact h
theorem dv_snoc (t : List UInt8) (y : UInt8) (acc : Nat) : dv acc (t ++ [y]) = dv acc t * 10 + (y.toNat - 48) := by
 simp only [dv, List.foldl_append, List.foldl_cons, List.foldl_nil]
def vaE (t : List UInt8) (V i : Nat) : List (Nat × AV) := [(0, .d (.str t)), (4, dN V), (5, dN i)]
section
variable (t : List UInt8) (V i : Nat)
noncomputable def vaPr (b : UInt8) (d : Nat) (hd : b.toNat = 48 + d) (hd9 : d ≤ 9) (hi : i < t.length) (hb : t[((i : Nat) : Int).toNat]? = some b) (hlen : t.length ≤ 100000) (u : Bool) (hu : decide ((9223372036854775807 - d) / 10 < V) = u) (hV : V < 9223372036854775808) : Par Pg :=
 { hint := fun f k => if f = 29 then (if k = 10 then some (qL hi) else if k = 15 then some (.sidx t (i : Int) b (by omega) hb) else if k = 16 then some (hU Pg .u8 (IntKind.u8.wrap ((b.toNat : Int) - 48)) (d : Int) (by rw [IntWalk.u8_in _ (by omega)]; omega))
     else if k = 17 then some (hU Pg .i64 (IntKind.i64.wrap (d : Int)) (d : Int) (by rw [IntWalk.i64_in _ (by omega)])) else if k = 20 then some (hU Pg .i64 (IntKind.i64.wrap (9223372036854775807 - (d : Int))) ((9223372036854775807 - d : Nat) : Int) (by rw [IntWalk.i64_in _ (by omega)]; omega))
     else if k = 21 then some (hU Pg .i64 (IntKind.i64.wrap (((9223372036854775807 - d : Nat) : Int).tdiv 10)) (((9223372036854775807 - d) / 10 : Nat) : Int) (by rw [IntWalk.i64_quo _ _ (by omega)]; omega))
     else if k = 22 then some (.val (dB (decide ((((9223372036854775807 - d) / 10 : Nat) : Int) < (V : Int)))) (dB u) (by rw [← hu]; congr 2; exact propext Int.ofNat_lt))
     else if k = 24 then (if h : u = false then some (hU Pg .i64 (IntKind.i64.wrap (10 * (V : Int))) ((10 * V : Nat) : Int) (by subst h; have := of_decide_eq_false hu; rw [IntWalk.i64_in _ (by omega)]; omega)) else none)
     else if k = 26 then (if h : u = false then some (hU Pg .i64 (IntKind.i64.wrap (((10 * V : Nat) : Int) + (d : Int))) ((V * 10 + d : Nat) : Int) (by subst h; have := of_decide_eq_false hu; rw [IntWalk.i64_in _ (by omega)]; omega)) else none)
     else if k = 12 then some (hSucc Pg i (by omega)) else none) else none }
section
variable (b : UInt8) (d : Nat) (hd : b.toNat = 48 + d) (hd9 : d ≤ 9) (hi : i < t.length) (hb : t[((i : Nat) : Int).toNat]? = some b) (hlen : t.length ≤ 100000)
include b d hd hd9 hi hb hlen
theorem vaNext (hu : decide ((9223372036854775807 - d) / 10 < V) = false) (hV : V < 9223372036854775808) (rest : Heap) (X : Fix) (hP : X.P = Pg) (hN : X.N = 28) :
    AW X (lO 29 3) ⟨envOf (vaE t V i), ovl [] rest⟩ fun e' S' => e' = .normal ∧ Weak X S' ⟨envOf (vaE t (V * 10 + d) (i + 1)), ovl [] rest⟩ :=
 seg okP named (vaPr t V i b d hd hd9 hi hb hlen false hu hV) 1000 29 700000 28 (by kernel_rfl) X hP hN
theorem vaGreat (hu : decide ((9223372036854775807 - d) / 10 < V) = true) (hV : V < 9223372036854775808) (rest : Heap) (X : Fix) (hP : X.P = Pg) (hN : X.N = 28) :
    AW X (lO 29 3) ⟨envOf (vaE t V i), ovl [] rest⟩ fun e' S' => e' = .ret ∧ Weak X S' ⟨envOf [(2, dI 0), (3, dB false)], ovl [] rest⟩ :=
 seg okP named (vaPr t V i b d hd hd9 hi hb hlen true hu hV) 1000 29 700000 28 (by kernel_rfl) X hP hN
end
theorem vaStop (rest : Heap) (X : Fix) (hP : X.P = Pg) (hN : X.N = 28) :
    AW X (lO 29 3) ⟨envOf (vaE t V t.length), ovl [] rest⟩ fun e' S' => e' = .exit 0 ∧ Weak X S' ⟨envOf [(4, dN V)], ovl [] rest⟩ :=
 seg okP named { hint := fun f k => if f = 29 then (if k = 10 then some (qG t.length) else none) else none } 1000 29 700000 28 (by kernel_rfl) X hP hN
end
theorem dv_app (acc : Nat) (x y : List UInt8) : dv acc (x ++ y) = dv (dv acc x) y := by simp only [dv, List.foldl_append]
theorem vaLoop (t : List UInt8) (hall : ∀ x ∈ t, isDig x = true) (hlen : t.length ≤ 100000) : ∀ (k i : Nat), i + k = t.length → dv 0 (t.take i) < 9223372036854775808 →
    (dv 0 t < 9223372036854775808 → RL 28 (lO 29 3) (vaE t (dv 0 (t.take i)) i) [] (.exit 0) [(4, dN (dv 0 t))] []) ∧
    (9223372036854775808 ≤ dv 0 t → RL 28 (lO 29 3) (vaE t (dv 0 (t.take i)) i) [] .ret [(2, dI 0), (3, dB false)] [])
 | 0, i, hik, hV => by
  have : i = t.length := by omega
  subst this
  rw [List.take_length] at hV ⊢
  exact ⟨fun _ rest X hP hN => lw_end (vaStop t _ rest X hP hN) (by simp), fun h => by omega⟩
 | k + 1, i, hik, hV => by
  have hi : i < t.length := by omega
  have hb := List.getElem?_eq_getElem hi
  have hdig := (isDig_iff _).1 (hall t[i] (List.getElem_mem hi))
  obtain ⟨d, hd, hd9⟩ : ∃ d, t[i].toNat = 48 + d ∧ d ≤ 9 := ⟨t[i].toNat - 48, by omega, by omega⟩
  have hsn : dv 0 (t.take (i + 1)) = dv 0 (t.take i) * 10 + d := by
   rw [List.take_add_one, hb, Option.toList_some, dv_snoc, hd]; omega
  have hmon : dv 0 (t.take (i + 1)) ≤ dv 0 t := by
   have h1 : dv 0 t = dv 0 (t.take (i + 1) ++ t.drop (i + 1)) := by rw [List.take_append_drop]
   rw [h1, dv_app]
   exact dv_le _ _
  cases hu : decide ((9223372036854775807 - d) / 10 < dv 0 (t.take i)) with
  | true =>
   have := of_decide_eq_true hu
   exact ⟨fun h => by omega, fun _ rest X hP hN => lw_end (vaGreat t _ i t[i] d hd hd9 hi (by rw [Int.toNat_natCast]; exact hb) hlen hu hV rest X hP hN) (by simp)⟩
  | false =>
   have := of_decide_eq_false hu
   have ih := vaLoop t hall hlen k (i + 1) (by omega) (by rw [hsn]; omega)
   rw [hsn] at ih
   exact ⟨fun h rest X hP hN => lw_seg (vaNext t _ i t[i] d hd hd9 hi (by rw [Int.toNat_natCast]; exact hb) hlen hu hV rest X hP hN) (ih.1 h rest X hP hN),
    fun h rest X hP hN => lw_seg (vaNext t _ i t[i] d hd hd9 hi (by rw [Int.toNat_natCast]; exact hb) hlen hu hV rest X hP hN) (ih.2 h rest X hP hN)⟩
theorem valueC (t : List UInt8) (hall : ∀ x ∈ t, isDig x = true) (hlen : t.length ≤ 100000) :
    (dv 0 t < 9223372036854775808 → Pure Pg 29 [.str t] [.int .i64 (dv 0 t : Int), .bool true]) ∧ (9223372036854775808 ≤ dv 0 t → Pure Pg 29 [.str t] [.int .i64 0, .bool false]) := by
 have h := vaLoop t hall hlen t.length 0 (by omega) (by rw [List.take_zero, dv_nil]; decide)
 rw [List.take_zero, dv_nil] at h
 exact ⟨fun hv => pure_of_run okP named { loops := fun f r => if f = 29 then (if r = 3 then some ⟨28, loopOf Pg 29 3, vaE t 0 0, fun _ => [], .exit 0, [(4, dN (dv 0 t))], fun _ => [], fun rest X hP hN => (h.1 hv rest X hP hN).aw⟩ else none) else none } 1000 (by kernel_rfl),
  fun hv => pure_of_run okP named { loops := fun f r => if f = 29 then (if r = 3 then some ⟨28, loopOf Pg 29 3, vaE t 0 0, fun _ => [], .ret, [(2, dI 0), (3, dB false)], fun _ => [], fun rest X hP hN => (h.2 hv rest X hP hN).aw⟩ else none) else none } 1000 (by kernel_rfl)⟩
end Go.Avm
