/-
  strconv.ParseInt at digits, on data.
-/
import Derived.Test.YtkhcaamgjjhpeaaGreatDoorTlOne
import Derived.Test.YtkhcaamgjjhpeaaGreatDoorTlShelf
set_option linter.unusedSectionVars false
namespace Go.Avm
open Go.Proofs Go.RowKit

def dv (acc : Nat) (l : List UInt8) : Nat := l.foldl (fun a c => a * 10 + (c.toNat - 48)) acc
theorem dv_nil (acc : Nat) : dv acc [] = acc := by simp only [dv, List.foldl_nil]
theorem dv_cons (acc : Nat) (c : UInt8) (r : List UInt8) : dv acc (c :: r) = dv (acc * 10 + (c.toNat - 48)) r := by simp only [dv, List.foldl_cons]
theorem dv_le (l : List UInt8) : ∀ acc : Nat, acc ≤ dv acc l := by
  induction l with
  | nil => intro acc; rw [dv_nil]; exact Nat.le_refl _
  | cons c r ih =>
    intro acc
    have := ih (acc * 10 + (c.toNat - 48))
    rw [dv_cons]
    omega
theorem isDig_iff (b : UInt8) : isDig b = true ↔ 48 ≤ b.toNat ∧ b.toNat ≤ 57 := by
  simp only [isDig, ge8, le8, Bool.and_eq_true, decide_eq_true_eq]
  omega
theorem parseM (M : Nat) (hM : M = 18446744073709551615) : ∀ (l : List UInt8) (acc : Nat), (∀ c ∈ l, isDig c = true) → (dv acc l ≤ M → Lib.parseUintM M acc l = .ok (dv acc l)) ∧ (acc ≤ M → M < dv acc l → Lib.parseUintM M acc l = .range)
  | [], acc, _ => ⟨fun _ => by rw [dv_nil]; rfl, fun h1 h2 => by rw [dv_nil] at h2; omega⟩
  | c :: r, acc, h => by
    have hc := (isDig_iff c).1 (h c (by simp))
    have ih := parseM M hM r (acc * 10 + (c.toNat - 48)) (fun x hx => h x (by simp [hx]))
    have hle := dv_le r (acc * 10 + (c.toNat - 48))
    rw [dv_cons]
    generalize dv (acc * 10 + (c.toNat - 48)) r = V at *
    rw [Lib.parseUintM, if_pos hc]
    refine ⟨fun h0 => ?_, fun h0 h1 => ?_⟩
    · rw [if_neg (by omega), if_neg (by omega)]
      exact ih.1 h0
    · split
      · rfl
      · split
        · rfl
        · exact ih.2 (by omega) h1
theorem parseI (c : UInt8) (r : List UInt8) (h : ∀ x ∈ c :: r, isDig x = true) : (dv 0 (c :: r) < 9223372036854775808 → Lib.parseIntB 64 (c :: r) = .ok (dv 0 (c :: r) : Int)) ∧ (9223372036854775808 ≤ dv 0 (c :: r) → Lib.parseIntB 64 (c :: r) = .range) := by
  have hc := (isDig_iff c).1 (h c (by simp))
  have hm := parseM _ (show (2 ^ 64 - 1 : Nat) = 18446744073709551615 from rfl) (c :: r) 0 h
  have hb : Lib.parseUintB 64 (c :: r) = Lib.parseUintM (2 ^ 64 - 1) 0 (c :: r) := by rw [Lib.parseUintB, if_neg (by simp)]
  have hx : (if c.toNat = 43 ∨ c.toNat = 45 then r else c :: r) = c :: r := if_neg (by omega)
  unfold Lib.parseIntB
  simp only [hx, hb]
  generalize dv 0 (c :: r) = V at *
  have e1 : (2 ^ 64 - 1 : Nat) = 18446744073709551615 := rfl
  have e2 : (2 ^ (64 - 1) : Nat) = 9223372036854775808 := rfl
  rw [e1] at hm ⊢
  refine ⟨fun h0 => ?_, fun h0 => ?_⟩
  · rw [hm.1 (by omega)]
    simp only [e2]
    rw [if_neg (by omega), if_neg (by omega), if_neg (by omega)]
  · by_cases h1 : V ≤ 18446744073709551615
    · rw [hm.1 h1]
      simp only [e2]
      rw [if_pos (by omega)]
    · rw [hm.2 (by omega) (by omega)]

theorem callable70 : Callable Tryz.prog 70 := ⟨Tryz.f70, Tryz.func70, by kernel_rfl, by kernel_rfl⟩
theorem strArg {t : List UInt8} {I : Nat → Nat → Prop} {w : World} {u : Value} (h : DRep I w (.str t) u) : ∃ s : ByteArray, u = .string s ∧ s.data.toList = t := by
  cases h with
  | str _ s hs => exact ⟨s, rfl, hs⟩
theorem intArg {k : IntKind} {n : Int} {I : Nat → Nat → Prop} {w : World} {u : Value} (h : DRep I w (.int k n) u) : u = .int k n := by
  cases h; rfl
theorem args3 {t : List UInt8} {I : Nat → Nat → Prop} {w : World} {cargs : Array Value} (hs : cargs.size = 3) (h : ∀ (i : Nat) (x : D) (u : Value), [D.str t, .int .i64 10, .int .i64 64][i]? = some x → cargs[i]? = some u → DRep I w x u) :
    ∃ s : ByteArray, cargs = #[.string s, .int .i64 10, .int .i64 64] ∧ s.data.toList = t := by
  obtain ⟨l⟩ := cargs
  match l, hs with
  | [a, b, c], _ =>
    obtain ⟨s, rfl, hs⟩ := strArg (h 0 _ a rfl rfl)
    have hb := intArg (h 1 _ b rfl rfl)
    have hc := intArg (h 2 _ c rfl rfl)
    subst hb; subst hc
    exact ⟨s, rfl, hs⟩
theorem retTwo {I : Nat → Nat → Prop} {w : World} {a b : D} {x y : Value} (h1 : DRep I w a x) (h2 : DRep I w b y) : RetRep I w [a, b] (.tuple #[x, y]) :=
  .inr ⟨by simp, #[x, y], rfl, rfl, fun i d u hd hu => by
    match i with
    | 0 => simp at hd hu; subst hd; subst hu; exact h1
    | 1 => simp at hd hu; subst hd; subst hu; exact h2
    | i + 2 => simp at hd⟩
theorem parseOk (c : UInt8) (r : List UInt8) (h : ∀ x ∈ c :: r, isDig x = true) (hl : (c :: r).length ≤ 100000) (hv : dv 0 (c :: r) < 9223372036854775808) : Pure Tryz.prog 70 [.str (c :: r), .int .i64 10, .int .i64 64] [.int .i64 (dv 0 (c :: r) : Int), .nili] := by
  refine ⟨callable70, fun w I cargs hI hsz hargs hg => ?_⟩
  obtain ⟨s, rfl, hs⟩ := args3 hsz hargs
  have hp := (parseI c r h).1 hv
  rw [← hs] at hp
  have hlen : s.size ≤ 9223372036854775806 := by
    have : s.data.toList.length = (c :: r).length := by rw [hs]
    have h2 : s.data.toList.length = s.size := by rw [Array.length_toList]; rfl
    omega
  refine (Any.strconv_ParseInt_10_at64_ok Tryz.lays174 s hlen _ hp w).mono ?_
  rintro e w' ⟨rfl, hw⟩
  have hb : Below w.heap.size w w' := by
    rcases hw with rfl | ⟨t, rfl⟩
    · exact Below.refl _ _
    · exact Lib.bytesWorld_below _ _ _
  refine ⟨_, I, rfl, hb, fun _ _ x => x, fun _ _ x => .inl x, fun b o x => Nat.lt_of_lt_of_le (hI b o x) hb.size, retTwo ?_ .nili⟩
  rw [hs]
  exact .int _ _
theorem parseErr (c : UInt8) (r : List UInt8) (h : ∀ x ∈ c :: r, isDig x = true) (hl : (c :: r).length ≤ 100000) (hv : 9223372036854775808 ≤ dv 0 (c :: r)) : Pure Tryz.prog 70 [.str (c :: r), .int .i64 10, .int .i64 64] [.int .i64 9223372036854775807, .ifc] := by
  refine ⟨callable70, fun w I cargs hI hsz hargs hg => ?_⟩
  obtain ⟨s, rfl, hs⟩ := args3 hsz hargs
  have hp := (parseI c r h).2 hv
  rw [← hs] at hp
  have hlen : s.size ≤ 281474976710656 := by
    have : s.data.toList.length = (c :: r).length := by rw [hs]
    have h2 : s.data.toList.length = s.size := by rw [Array.length_toList]; rfl
    omega
  obtain ⟨ty, v, hc⟩ : ∃ ty v, w.cell? ⟨4, 0, none⟩ = some (.iface ty v) := by
    have h3 : DRep I w (.rp [.ifc]) (.pointer (some ⟨4, 0, none⟩)) := hg 4 [.ifc] rfl
    cases h3 with
    | rp cs b o U h1 hi hc hr =>
      have h4 := hr 0 .ifc rfl
      have h5 := hc 0 .ifc rfl
      generalize U 0 = u at h4 h5
      cases h4 with
      | ifc t v => exact ⟨t, v, h5⟩
  have hsat : Lib.intSat 64 s.data.toList = 9223372036854775807 := by
    have hd := (isDig_iff c).1 (h c (by simp))
    rw [hs, Lib.intSat, if_neg (by simp only [List.head?_cons, Option.map_some, Option.some.injEq]; omega)]
    rfl
  refine (Any.strconv_ParseInt_10_at64_range Tryz.lays174 s hlen hp (.iface ty v) w hc (.inr ⟨_, _, rfl⟩)).mono ?_
  rintro e w' ⟨N, rfl, hN, hcell, hb⟩
  refine ⟨_, I, rfl, hb, fun _ _ x => x, fun _ _ x => .inl x, fun b o x => Nat.lt_of_lt_of_le (hI b o x) hb.size, retTwo ?_ (.ifc _ _)⟩
  rw [hsat]
  exact .int _ _
end Go.Avm
/-
  The scanner of texts, part J: a number is next.
-/
set_option linter.unusedSectionVars false
namespace Go.Avm
open Go.Proofs

def digT (s : List UInt8) (a : Nat) : List UInt8 := sub s a (a + runN isDig (s.drop a))
section
variable (w : Bool) (s : List UInt8) (a v m : Nat) (l : List D)
noncomputable def numPr (c b : UInt8) (ha : a < s.length) (hlen : s.length ≤ 100000) (h0 : (digT s a)[(0 : Int).toNat]? = some c) (n : Int) (e : D) (hp : Pure Tryz.prog 70 [.str (digT s a), .int .i64 10, .int .i64 64] [.int .i64 n, e])
    (hta : a + (digT s a).length ≤ 1099511627776) (hl : l.length + 1 ≤ 549755813888) (z y x u g k9 : Bool) (hz : decide (1 < ((digT s a).length : Int)) = z) (hy : ((c.toNat : Int) == 48) = y) (hx : decide (((a + (digT s a).length : Nat) : Int) < (s.length : Int)) = x)
    (hxb : x = true → s[((a + (digT s a).length : Nat) : Int).toNat]? = some b) (hu : isSm b = u) (hg : ge8 65 b = g) (hk : le8 b 90 = k9) : Par Tryz.prog :=
  { hint := fun f' k => if f' = 55 then (if k = 11 then some (.call 70 [.str (digT s a), .int .i64 10, .int .i64 64] [.int .i64 n, e] hp) else if k = 20 then some (hAdd Tryz.prog a (digT s a).length hta) else if k = 27 then some (hB Tryz.prog _ z hz)
      else if k = 30 then some (.sidx (digT s a) 0 c (by omega) h0) else if k = 31 then some (hB Tryz.prog _ y hy) else if k = 40 then some (hB Tryz.prog _ x hx)
      else if k = 47 then (if h : x = true then some (.sidx s ((a + (digT s a).length : Nat) : Int) b (by omega) (hxb h)) else none) else if k = 55 then (if h : x = true then some (.sidx s ((a + (digT s a).length : Nat) : Int) b (by omega) (hxb h)) else none)
      else if k = 63 then (if h : x = true then some (.sidx s ((a + (digT s a).length : Nat) : Int) b (by omega) (hxb h)) else none) else if k = 48 then some (.call 56 [bD b] [.bool u] (hu ▸ smC b)) else if k = 56 then some (hB Tryz.prog _ g hg) else if k = 64 then some (hB Tryz.prog _ k9 hk) else none) else none
    calls := fun f' k _ => if f' = 55 then (if k = 8 then some (runSt w s a v l 54 (by simp) isDig digC hlen (by omega)) else if k = 72 then some (putCH w s a v m l 3 n (digT s a) hl hta) else none) else none }
def numBad (z y x u g k9 : Bool) : Bool := (z && y) || (x && (u || (g && k9)))
theorem numGreat (c b : UInt8) (ha : a < s.length) (hlen : s.length ≤ 100000) (h0 : (digT s a)[(0 : Int).toNat]? = some c) (n : Int) (hp : Pure Tryz.prog 70 [.str (digT s a), .int .i64 10, .int .i64 64] [.int .i64 n, .ifc])
    (hta : a + (digT s a).length ≤ 1099511627776) (hl : l.length + 1 ≤ 549755813888)
    (hxb : decide (((a + (digT s a).length : Nat) : Int) < (s.length : Int)) = true → s[((a + (digT s a).length : Nat) : Int).toNat]? = some b) (rest : Heap) :
    HCall Tryz.prog 55 [scP] (ovl (stE w s a v m l) rest) [dI 2] (ovl (stE w s a v m l) rest) := by
  cases w with
  | false => exact hcall_of_run okP named (numPr false s a v m l c b ha hlen h0 n .ifc hp hta hl _ _ _ _ _ _ rfl rfl rfl hxb rfl rfl rfl) 1000 150000 55 (by kernel_rfl)
  | true => exact hcall_of_run okP named (numPr true s a v m l c b ha hlen h0 n .ifc hp hta hl _ _ _ _ _ _ rfl rfl rfl hxb rfl rfl rfl) 1000 150000 55 (by kernel_rfl)
theorem numFour (c b : UInt8) (ha : a < s.length) (hlen : s.length ≤ 100000) (h0 : (digT s a)[(0 : Int).toNat]? = some c) (n : Int) (hp : Pure Tryz.prog 70 [.str (digT s a), .int .i64 10, .int .i64 64] [.int .i64 n, .nili])
    (hta : a + (digT s a).length ≤ 1099511627776) (hl : l.length + 1 ≤ 549755813888) (z y x u g k9 : Bool) (hz : decide (1 < ((digT s a).length : Int)) = z) (hy : ((c.toNat : Int) == 48) = y) (hx : decide (((a + (digT s a).length : Nat) : Int) < (s.length : Int)) = x)
    (hxb : x = true → s[((a + (digT s a).length : Nat) : Int).toNat]? = some b) (hu : isSm b = u) (hg : ge8 65 b = g) (hk : le8 b 90 = k9) (hbad : numBad z y x u g k9 = true) (rest : Heap) :
    HCall Tryz.prog 55 [scP] (ovl (stE w s a v m l) rest) [dI 4] (ovl (stE w s a v m l) rest) := by
  cases w with
  | false => cases z <;> cases y <;> cases x <;> cases u <;> cases g <;> cases k9 <;> first | exact absurd hbad (by decide) | exact hcall_of_run okP named (numPr false s a v m l c b ha hlen h0 n .nili hp hta hl _ _ _ _ _ _ hz hy hx hxb hu hg hk) 1000 150000 55 (by kernel_rfl)
  | true => cases z <;> cases y <;> cases x <;> cases u <;> cases g <;> cases k9 <;> first | exact absurd hbad (by decide) | exact hcall_of_run okP named (numPr true s a v m l c b ha hlen h0 n .nili hp hta hl _ _ _ _ _ _ hz hy hx hxb hu hg hk) 1000 150000 55 (by kernel_rfl)
theorem numOk (c b : UInt8) (ha : a < s.length) (hlen : s.length ≤ 100000) (h0 : (digT s a)[(0 : Int).toNat]? = some c) (n : Int) (hp : Pure Tryz.prog 70 [.str (digT s a), .int .i64 10, .int .i64 64] [.int .i64 n, .nili])
    (hta : a + (digT s a).length ≤ 1099511627776) (hl : l.length + 1 ≤ 549755813888) (z y x u g k9 : Bool) (hz : decide (1 < ((digT s a).length : Int)) = z) (hy : ((c.toNat : Int) == 48) = y) (hx : decide (((a + (digT s a).length : Nat) : Int) < (s.length : Int)) = x)
    (hxb : x = true → s[((a + (digT s a).length : Nat) : Int).toNat]? = some b) (hu : isSm b = u) (hg : ge8 65 b = g) (hk : le8 b 90 = k9) (hbad : numBad z y x u g k9 = false) (rest : Heap) :
    HCall Tryz.prog 55 [scP] (ovl (stE w s a v m l) rest) [dI 0] (ovl (stE w s (a + (digT s a).length) (v + 1) m (l ++ [tokD 3 a (digT s a) n])) rest) := by
  cases w with
  | false => cases z <;> cases y <;> cases x <;> cases u <;> cases g <;> cases k9 <;> first | exact absurd hbad (by decide) | exact hcall_of_run okP named (numPr false s a v m l c b ha hlen h0 n .nili hp hta hl _ _ _ _ _ _ hz hy hx hxb hu hg hk) 1000 150000 55 (by kernel_rfl)
  | true => cases z <;> cases y <;> cases x <;> cases u <;> cases g <;> cases k9 <;> first | exact absurd hbad (by decide) | exact hcall_of_run okP named (numPr true s a v m l c b ha hlen h0 n .nili hp hta hl _ _ _ _ _ _ hz hy hx hxb hu hg hk) 1000 150000 55 (by kernel_rfl)
noncomputable def nxPr (b : UInt8) (ha : a < s.length) (hb : s[((a : Nat) : Int).toNat]? = some b) (h1 : isDig b = true) (C : CHint Tryz.prog) : Par Tryz.prog :=
  { hint := fun f' k => if f' = 32 then (if k = 14 then some (.sidx s (a : Int) b (by omega) hb) else if k = 17 then some (.call 54 [bD b] [.bool true] (h1 ▸ digC b)) else none) else none
    calls := fun f' k _ => if f' = 32 then (if k = 19 then some C else none) else none }
theorem nextNumErr (b : UInt8) (ha : a < s.length) (hb : s[((a : Nat) : Int).toNat]? = some b) (h1 : isDig b = true) (k : Int) (hc : ∀ rest : Heap, HCall Tryz.prog 55 [scP] (ovl (stE w s a v m l) rest) [dI k] (ovl (stE w s a v m l) rest)) (rest : Heap) :
    HCall Tryz.prog 32 [scP] (ovl (stE w s a v m l) rest) [dI k] (ovl (stE w s a v m l) rest) := by
  cases w with
  | false => exact hcall_of_run okP named (nxPr s a b ha hb h1 ⟨55, [scP], stE false s a v m l, [dI k], stE false s a v m l, fits_of hc⟩) 1000 130000 32 (by kernel_rfl)
  | true => exact hcall_of_run okP named (nxPr s a b ha hb h1 ⟨55, [scP], stE true s a v m l, [dI k], stE true s a v m l, fits_of hc⟩) 1000 130000 32 (by kernel_rfl)
theorem nextNumOk (b : UInt8) (ha : a < s.length) (hb : s[((a : Nat) : Int).toNat]? = some b) (h1 : isDig b = true) (a' v' : Nat) (l' : List D) (hc : ∀ rest : Heap, HCall Tryz.prog 55 [scP] (ovl (stE w s a v m l) rest) [dI 0] (ovl (stE w s a' v' m l') rest)) (rest : Heap) :
    HCall Tryz.prog 32 [scP] (ovl (stE w s a v m l) rest) [dI 0] (ovl (stE w s a' v' m l') rest) := by
  cases w with
  | false => exact hcall_of_run okP named (nxPr s a b ha hb h1 ⟨55, [scP], stE false s a v m l, [dI 0], stE false s a' v' m l', fits_of hc⟩) 1000 130000 32 (by kernel_rfl)
  | true => exact hcall_of_run okP named (nxPr s a b ha hb h1 ⟨55, [scP], stE true s a v m l, [dI 0], stE true s a' v' m l', fits_of hc⟩) 1000 130000 32 (by kernel_rfl)
end
end Go.Avm
/-
  The scanner of texts, part K: the next token, told of what is left of the text.
-/
set_option linter.unusedSectionVars false
namespace Go.Avm
open Go.Proofs

abbrev Tok := Int × List UInt8 × Int
def great (b : UInt8) : Bool := ge8 65 b && le8 b 90
def letter : List UInt8 → Bool
  | [] => false
  | b :: _ => isSm b || great b
def sg1 (b : UInt8) : Bool := decide (0 ≤ idxB b)
def sgnL (b : UInt8) (r : List UInt8) : List UInt8 :=
  match r with
  | [] => if sg1 b then [b] else []
  | c :: _ => if prs.contains [b, c] then [b, c] else if sg1 b then [b] else []
/-- The token that begins here, or the error. -/
def tokL : List UInt8 → Except Int Tok
  | [] => .error 4
  | b :: r =>
    if isDig b then
      if 9223372036854775808 ≤ dv 0 ((b :: r).takeWhile isDig) then .error 2
      else if (decide (1 < ((b :: r).takeWhile isDig).length) && b.toNat == 48) || letter ((b :: r).drop ((b :: r).takeWhile isDig).length) then .error 4
      else .ok (3, (b :: r).takeWhile isDig, dv 0 ((b :: r).takeWhile isDig))
    else if isSm b then
      if isWord ((b :: r).takeWhile isNm) then .ok (2, (b :: r).takeWhile isNm, 0)
      else if 12 < ((b :: r).takeWhile isNm).length then .error 2 else .ok (1, (b :: r).takeWhile isNm, 0)
    else if sgnL b r = [] then .error 4 else .ok (4, sgnL b r, 0)

theorem tw_take (p : UInt8 → Bool) (l : List UInt8) : l.take (l.takeWhile p).length = l.takeWhile p := (List.prefix_iff_eq_take.1 (List.takeWhile_prefix p)).symm
theorem tw_le (p : UInt8 → Bool) (l : List UInt8) : (l.takeWhile p).length ≤ l.length := (List.takeWhile_sublist p).length_le
theorem sub_tw (p : UInt8 → Bool) (s : List UInt8) (a : Nat) : sub s a (a + runN p (s.drop a)) = (s.drop a).takeWhile p := by
  unfold sub runN
  rw [List.drop_take, Nat.add_sub_cancel_left, tw_take]
theorem rst_eq (s : List UInt8) (a : Nat) : rst s a = s.drop a := by rw [rst, List.take_length]
theorem pre2_eq (t : List UInt8) (k : Nat) : pre2 t k = t.take k := by rw [pre2, List.drop_zero]
theorem signT_eq (s : List UInt8) (a : Nat) (b : UInt8) (r : List UInt8) (h : s.drop a = b :: r) : signT s a b = sgnL b r := by
  unfold signT sgnL
  simp only [rst_eq, pre2_eq, h]
  cases r with
  | nil => simp [sg1]
  | cons c r =>
    have : decide (2 ≤ ((b :: c :: r).length : Int)) = true := by simp only [List.length_cons, decide_eq_true_eq]; omega
    rw [this, Bool.true_and]
    simp [sg1]
theorem tw_ne (p : UInt8 → Bool) (b : UInt8) (r : List UInt8) (h : p b = true) : ∃ t, (b :: r).takeWhile p = b :: t := ⟨r.takeWhile p, by simp [h]⟩
theorem tw_all (p : UInt8 → Bool) : ∀ (l : List UInt8), ∀ x ∈ l.takeWhile p, p x = true
  | [], x, hx => by simp at hx
  | b :: r, x, hx => by
    by_cases hb : p b = true
    · rw [List.takeWhile_cons, if_pos hb] at hx
      rcases List.mem_cons.1 hx with rfl | hx
      · exact hb
      · exact tw_all p r x hx
    · rw [List.takeWhile_cons, if_neg hb] at hx
      simp at hx
theorem isSm_isNm {b : UInt8} (h : isSm b = true) : isNm b = true := by simp [isNm, h]
theorem sgnL_pre (b : UInt8) (r : List UInt8) : sgnL b r <+: b :: r := by
  unfold sgnL
  cases r with
  | nil => dsimp only; split <;> simp
  | cons c r =>
    dsimp only
    split
    · exact ⟨r, rfl⟩
    · split
      · exact ⟨c :: r, rfl⟩
      · exact List.nil_prefix
theorem tokL_pre {b : UInt8} {r : List UInt8} {kd n : Int} {t : List UInt8} (h : tokL (b :: r) = .ok (kd, t, n)) : t <+: b :: r ∧ t ≠ [] := by
  rw [tokL] at h
  split at h
  · rename_i hd
    split at h
    · cases h
    · split at h
      · cases h
      · cases h
        refine ⟨List.takeWhile_prefix _, ?_⟩
        obtain ⟨u, hu⟩ := tw_ne isDig b r hd
        rw [hu]; simp
  · split at h
    · rename_i hs
      obtain ⟨u, hu⟩ := tw_ne isNm b r (isSm_isNm hs)
      split at h
      · cases h
        exact ⟨List.takeWhile_prefix _, by rw [hu]; simp⟩
      · split at h
        · cases h
        · cases h
          exact ⟨List.takeWhile_prefix _, by rw [hu]; simp⟩
    · split at h
      · cases h
      · rename_i hne
        cases h
        exact ⟨sgnL_pre b r, hne⟩

/-- What a contract of 'next' says. -/
def NextSays (w : Bool) (s : List UInt8) (a v m : Nat) (l : List D) : Except Int Tok → Prop
  | .error k => ∃ w' m', k ≠ 0 ∧ ∀ rest : Heap, HCall Tryz.prog 32 [scP] (ovl (stE w s a v m l) rest) [dI k] (ovl (stE w' s a v m' l) rest)
  | .ok (kd, t, n) => ∃ w' m', ∀ rest : Heap, HCall Tryz.prog 32 [scP] (ovl (stE w s a v m l) rest) [dI 0] (ovl (stE w' s (a + t.length) (v + 1) m' (l ++ [tokD kd a t n])) rest)
section
variable (w : Bool) (s : List UInt8) (a v m : Nat) (l : List D)
theorem nextDig (b : UInt8) (r : List UInt8) (ha : a < s.length) (hr : s.drop a = b :: r) (hb : s[((a : Nat) : Int).toNat]? = some b) (hlen : s.length ≤ 100000) (hl : l.length + 1 ≤ 549755813888) (hd : isDig b = true) : NextSays w s a v m l (tokL (b :: r)) := by
  have hT : digT s a = (b :: r).takeWhile isDig := by rw [digT, sub_tw, hr]
  obtain ⟨t, ht⟩ := tw_ne isDig b r hd
  have hall := tw_all isDig (b :: r)
  have hle := tw_le isDig (b :: r)
  have hrl : (b :: r).length = s.length - a := by rw [← hr, List.length_drop]
  have htl : a + (digT s a).length ≤ s.length := by rw [hT]; omega
  have h0 : (digT s a)[(0 : Int).toNat]? = some b := by rw [hT, ht]; rfl
  have hbeh : ∀ c, s[a + (digT s a).length]? = some c → (b :: r).drop ((b :: r).takeWhile isDig).length = c :: ((b :: r).drop ((b :: r).takeWhile isDig).length).tail := fun c hc => by
    have : ((b :: r).drop ((b :: r).takeWhile isDig).length).head? = some c := by
      rw [hT, ← hr] at hc
      rw [List.head?_drop, ← hr, List.getElem?_drop]
      exact hc
    cases hq : (b :: r).drop ((b :: r).takeWhile isDig).length with
    | nil => rw [hq] at this; simp at this
    | cons x y => rw [hq] at this; simp at this; subst this; rfl
  by_cases hv : 9223372036854775808 ≤ dv 0 ((b :: r).takeWhile isDig)
  · have e : tokL (b :: r) = .error 2 := by rw [tokL, if_pos hd, if_pos hv]
    rw [e]
    obtain ⟨c, hc⟩ : ∃ c, decide (((a + (digT s a).length : Nat) : Int) < (s.length : Int)) = true → s[((a + (digT s a).length : Nat) : Int).toNat]? = some c := by
      by_cases hx : a + (digT s a).length < s.length
      · exact ⟨s[a + (digT s a).length], fun _ => by simp only [Int.toNat_natCast]; exact List.getElem?_eq_getElem hx⟩
      · exact ⟨0, fun h => by have := of_decide_eq_true h; omega⟩
    refine ⟨w, m, by decide, nextNumErr w s a v m l b ha hb hd 2 (numGreat w s a v m l b c ha hlen h0 9223372036854775807 ?_ (by omega) hl hc)⟩
    rw [hT]
    rw [ht] at hv hall ⊢
    exact parseErr b t hall (by rw [← ht]; omega) hv
  · have hp : Pure Tryz.prog 70 [.str (digT s a), .int .i64 10, .int .i64 64] [.int .i64 (dv 0 (digT s a) : Int), .nili] := by
      rw [hT]
      rw [ht] at hv hall ⊢
      exact parseOk b t hall (by rw [← ht]; omega) (by omega)
    obtain ⟨c, x, hx, hxb, hlet⟩ : ∃ c x, decide (((a + (digT s a).length : Nat) : Int) < (s.length : Int)) = x ∧ (x = true → s[((a + (digT s a).length : Nat) : Int).toNat]? = some c) ∧ letter ((b :: r).drop ((b :: r).takeWhile isDig).length) = (x && (isSm c || (ge8 65 c && le8 c 90))) := by
      by_cases hx : a + (digT s a).length < s.length
      · have hg : s[a + (digT s a).length]? = some s[a + (digT s a).length] := List.getElem?_eq_getElem hx
        refine ⟨s[a + (digT s a).length], true, by simp only [decide_eq_true_eq]; omega, fun _ => by simp only [Int.toNat_natCast]; exact hg, ?_⟩
        rw [hbeh _ hg]; rfl
      · refine ⟨0, false, by simp only [decide_eq_false_iff_not]; omega, fun h => (by cases h), ?_⟩
        have : (b :: r).drop ((b :: r).takeWhile isDig).length = [] := List.drop_eq_nil_iff.2 (by rw [← hT]; omega)
        rw [this]; rfl
    have hz : decide (1 < ((digT s a).length : Int)) = decide (1 < ((b :: r).takeWhile isDig).length) := by rw [hT]; exact decide_eq_decide.2 (by omega)
    have hy : ((b.toNat : Int) == 48) = (b.toNat == 48) := by
      rw [Bool.eq_iff_iff]; simp only [beq_iff_eq]; omega
    by_cases hbad : numBad (decide (1 < ((b :: r).takeWhile isDig).length)) (b.toNat == 48) x (isSm c) (ge8 65 c) (le8 c 90) = true
    · have e : tokL (b :: r) = .error 4 := by
        rw [tokL, if_pos hd, if_neg hv, if_pos]
        rw [hlet]
        exact hbad
      rw [e]
      exact ⟨w, m, by decide, nextNumErr w s a v m l b ha hb hd 4 (numFour w s a v m l b c ha hlen h0 _ hp (by omega) hl _ _ _ _ _ _ hz hy hx hxb rfl rfl rfl hbad)⟩
    · have e : tokL (b :: r) = .ok (3, (b :: r).takeWhile isDig, dv 0 ((b :: r).takeWhile isDig)) := by
        rw [tokL, if_pos hd, if_neg hv, if_neg]
        rw [hlet]
        exact hbad
      rw [e, ← hT]
      exact ⟨w, m, nextNumOk w s a v m l b ha hb hd _ _ _ (numOk w s a v m l b c ha hlen h0 _ hp (by omega) hl _ _ _ _ _ _ hz hy hx hxb rfl rfl rfl (by simpa only [Bool.not_eq_true] using hbad))⟩
theorem nextC (b : UInt8) (r : List UInt8) (ha : a < s.length) (hr : s.drop a = b :: r) (hlen : s.length ≤ 100000) (hl : l.length + 1 ≤ 549755813888) : NextSays w s a v m l (tokL (b :: r)) := by
  have hb0 : s[a]? = some b := by
    have : (s.drop a)[0]? = some b := by rw [hr]; rfl
    rwa [List.getElem?_drop, Nat.add_zero] at this
  have hb : s[((a : Nat) : Int).toNat]? = some b := by simpa using hb0
  have hrl : (b :: r).length = s.length - a := by rw [← hr, List.length_drop]
  cases hd : isDig b with
  | true => exact nextDig w s a v m l b r ha hr hb hlen hl hd
  | false =>
    cases hs : isSm b with
    | true =>
      have hT : nmT s a = (b :: r).takeWhile isNm := by rw [nmT, sub_tw, hr]
      have hle := tw_le isNm (b :: r)
      have hta : a + (nmT s a).length ≤ 1099511627776 := by rw [hT]; omega
      have e : tokL (b :: r) = (if isWord (nmT s a) then .ok (2, nmT s a, 0) else if 12 < (nmT s a).length then .error 2 else .ok (1, nmT s a, 0)) := by
        rw [tokL, if_neg (by simp [hd]), if_pos hs, hT]
      rw [e]
      cases hu : isWord (nmT s a) with
      | true => exact ⟨_, _, nextWord w s a v m l b ha hb hlen hd hs hu hl hta⟩
      | false =>
        rw [if_neg (by simp)]
        by_cases h12 : 12 < (nmT s a).length
        · rw [if_pos h12]
          exact ⟨_, _, by decide, nextLong w s a v m l b ha hb hlen hd hs hu (by simp only [decide_eq_true_eq]; omega) hl hta⟩
        · rw [if_neg h12]
          exact ⟨_, _, nextName w s a v m l b ha hb hlen hd hs hu (by simp only [decide_eq_false_iff_not]; omega) hl hta⟩
    | false =>
      have e : tokL (b :: r) = (if sgnL b r = [] then .error 4 else .ok (4, sgnL b r, 0)) := by
        rw [tokL, if_neg (by simp [hd]), if_neg (by simp [hs])]
      have hT := signT_eq s a b r hr
      have hb' : (rst s a)[(0 : Int).toNat]? = some b := by rw [rst_eq, hr]; rfl
      have hle := (sgnL_pre b r).length_le
      rw [e]
      by_cases h0 : sgnL b r = []
      · rw [if_pos h0]
        exact ⟨_, _, by decide, nextNone w s a v m l b ha hb hb' hd hs _ hT (by rw [h0]; rfl) hl (by omega)⟩
      · rw [if_neg h0]
        exact ⟨_, _, nextSign w s a v m l b ha hb hb' hd hs _ hT (by simpa using h0) hl (by omega)⟩
end
end Go.Avm
/-
  The scanner of texts, part L: the rounds of lex.Scan.
-/
set_option linter.unusedSectionVars false
namespace Go.Avm
open Go.Proofs

/-- The tokens from here on (where no blank is), or the first fault. -/
def scanB : Nat → List UInt8 → Nat → Except (Nat × Int) (List (Nat × Tok))
  | 0, _, _ => .ok []
  | _ + 1, [], _ => .ok []
  | n + 1, b :: r, a => match tokL (b :: r) with
    | .error k => .error (a, k)
    | .ok t => match scanB n (((b :: r).drop t.2.1.length).drop (skipN false ((b :: r).drop t.2.1.length))) (a + t.2.1.length + skipN false ((b :: r).drop t.2.1.length)) with
      | .error e => .error e
      | .ok ts => .ok ((a, t) :: ts)
def scanF (s : List UInt8) : Except (Nat × Int) (List (Nat × Tok)) := scanB (s.length + 1) (s.drop (skipN false s)) (skipN false s)
def tokOf (x : Nat × Tok) : D := tokD x.2.1 x.1 x.2.2.1 x.2.2.2

def scL (s : List UInt8) : List (Nat × AV) := [(0, .d (.str s)), (5, scP)]
section
variable (w w1 : Bool) (s : List UInt8) (a v m : Nat) (l : List D)
noncomputable def rdPr (ha : a < s.length) (a1 v1 m1 : Nat) (l1 : List D) (k : Int) (z : Bool) (hz : (k != 0) = z) (hlen : s.length ≤ 100000) (ha1 : a1 ≤ s.length) (hc : ∀ rest : Heap, HCall Tryz.prog 32 [scP] (ovl (stE w s a v m l) rest) [dI k] (ovl (stE w1 s a1 v1 m1 l1) rest)) : Par Tryz.prog :=
  { hint := fun f' i => if f' = 19 then (if i = 21 then some (hLt Tryz.prog a s.length true (by simpa using ha)) else if i = 27 then some (hB Tryz.prog _ z hz) else none) else none
    calls := fun f' i _ => if f' = 19 then (if i = 25 then some ⟨32, [scP], stE w s a v m l, [dI k], stE w1 s a1 v1 m1 l1, fits_of hc⟩ else if i = 23 then some (blankSt w1 s a1 v1 l1 hlen ha1) else none) else none }
theorem scanNext (ha : a < s.length) (a1 v1 m1 : Nat) (l1 : List D) (hlen : s.length ≤ 100000) (ha1 : a1 ≤ s.length) (hc : ∀ rest : Heap, HCall Tryz.prog 32 [scP] (ovl (stE w s a v m l) rest) [dI 0] (ovl (stE w1 s a1 v1 m1 l1) rest)) (rest : Heap) (X : Fix) (hP : X.P = Tryz.prog) (hN : X.N = 39) :
    AW X (loopOf Tryz.prog 19 5) ⟨envOf (scL s), ovl (stE w s a v m l) rest⟩ fun e' S' => e' = .normal ∧ Weak X S' ⟨envOf (scL s), ovl (stE w1 s (blankTo s a1) v1 m1 l1) rest⟩ := by
  cases w with
  | false => cases w1 with
    | false => exact seg okP named (rdPr false false s a v m l ha a1 v1 m1 l1 0 false rfl hlen ha1 hc) 1000 19 300000 39 (by kernel_rfl) X hP hN
    | true => exact seg okP named (rdPr false true s a v m l ha a1 v1 m1 l1 0 false rfl hlen ha1 hc) 1000 19 300000 39 (by kernel_rfl) X hP hN
  | true => cases w1 with
    | false => exact seg okP named (rdPr true false s a v m l ha a1 v1 m1 l1 0 false rfl hlen ha1 hc) 1000 19 300000 39 (by kernel_rfl) X hP hN
    | true => exact seg okP named (rdPr true true s a v m l ha a1 v1 m1 l1 0 false rfl hlen ha1 hc) 1000 19 300000 39 (by kernel_rfl) X hP hN
theorem scanErr (ha : a < s.length) (m1 : Nat) (k : Int) (hk : k ≠ 0) (hlen : s.length ≤ 100000) (hc : ∀ rest : Heap, HCall Tryz.prog 32 [scP] (ovl (stE w s a v m l) rest) [dI k] (ovl (stE w1 s a v m1 l) rest)) (rest : Heap) (X : Fix) (hP : X.P = Tryz.prog) (hN : X.N = 39) :
    AW X (loopOf Tryz.prog 19 5) ⟨envOf (scL s), ovl (stE w s a v m l) rest⟩ fun e' S' => e' = .ret ∧ Weak X S' ⟨envOf [(2, .nils), (3, dN a), (4, dI k)], ovl (stE w1 s a v m1 l) rest⟩ := by
  cases w with
  | false => cases w1 with
    | false => exact seg okP named (rdPr false false s a v m l ha a v m1 l k true (by simpa using hk) hlen (by omega) hc) 1000 19 300000 39 (by kernel_rfl) X hP hN
    | true => exact seg okP named (rdPr false true s a v m l ha a v m1 l k true (by simpa using hk) hlen (by omega) hc) 1000 19 300000 39 (by kernel_rfl) X hP hN
  | true => cases w1 with
    | false => exact seg okP named (rdPr true false s a v m l ha a v m1 l k true (by simpa using hk) hlen (by omega) hc) 1000 19 300000 39 (by kernel_rfl) X hP hN
    | true => exact seg okP named (rdPr true true s a v m l ha a v m1 l k true (by simpa using hk) hlen (by omega) hc) 1000 19 300000 39 (by kernel_rfl) X hP hN
theorem scanStop (rest : Heap) (X : Fix) (hP : X.P = Tryz.prog) (hN : X.N = 39) :
    AW X (loopOf Tryz.prog 19 5) ⟨envOf (scL s), ovl (stE w s s.length v m l) rest⟩ fun e' S' => e' = .exit 0 ∧ Weak X S' ⟨envOf (scL s), ovl (stE w s s.length v m l) rest⟩ := by
  cases w with
  | false => exact seg okP named { hint := fun f' k => if f' = 19 then (if k = 21 then some (hLt Tryz.prog s.length s.length false (by simp)) else none) else none } 1000 19 300000 39 (by kernel_rfl) X hP hN
  | true => exact seg okP named { hint := fun f' k => if f' = 19 then (if k = 21 then some (hLt Tryz.prog s.length s.length false (by simp)) else none) else none } 1000 19 300000 39 (by kernel_rfl) X hP hN
end
end Go.Avm
/-
  The scanner of texts, part M: the contract of lex.Scan.
-/
set_option linter.unusedSectionVars false
namespace Go.Avm
open Go.Proofs

/-- What the loop of Scan comes to. -/
def LoopSays (w : Bool) (s : List UInt8) (a v m : Nat) (l : List D) : Except (Nat × Int) (List (Nat × Tok)) → Prop
  | .error (p, k) => ∃ w' v' m' l', ∀ (rest : Heap) (X : Fix), X.P = Tryz.prog → X.N = 39 → LW X (loopOf Tryz.prog 19 5) ⟨envOf (scL s), ovl (stE w s a v m l) rest⟩ fun e' S' => e' = .ret ∧ S' = ⟨envOf [(2, .nils), (3, dN p), (4, dI k)], ovl (stE w' s p v' m' l') rest⟩
  | .ok ts => (l ++ ts.map tokOf).length ≤ s.length ∧ ∃ w' v' m', ∀ (rest : Heap) (X : Fix), X.P = Tryz.prog → X.N = 39 → LW X (loopOf Tryz.prog 19 5) ⟨envOf (scL s), ovl (stE w s a v m l) rest⟩ fun e' S' => e' = .exit 0 ∧ S' = ⟨envOf (scL s), ovl (stE w' s s.length v' m' (l ++ ts.map tokOf)) rest⟩
theorem scanLoop (s : List UInt8) (hlen : s.length ≤ 100000) : ∀ (n : Nat) (w : Bool) (a v m : Nat) (l : List D), a ≤ s.length → s.length < n + a → l.length ≤ a → LoopSays w s a v m l (scanB n (s.drop a) a)
  | 0, w, a, v, m, l, h1, h2, _ => by omega
  | n + 1, w, a, v, m, l, h1, h2, h3 => by
    cases hr : s.drop a with
    | nil =>
      have : a = s.length := by have := List.drop_eq_nil_iff.1 hr; omega
      subst this
      refine ⟨by simpa [scanB] using h3, w, v, m, fun rest X hP hN => ?_⟩
      simp only [scanB, List.map_nil, List.append_nil]
      exact lw_end (scanStop w s v m l rest X hP hN) (by simp)
    | cons b r =>
      have ha : a < s.length := by
        rcases Nat.lt_or_ge a s.length with h | h
        · exact h
        · rw [List.drop_eq_nil_iff.2 h] at hr; cases hr
      have hn := nextC w s a v m l b r ha hr hlen (by omega)
      rw [scanB]
      cases ht : tokL (b :: r) with
      | error k =>
        rw [ht] at hn
        obtain ⟨w1, m1, hk, hc⟩ := hn
        exact ⟨w1, v, m1, l, fun rest X hP hN => lw_end (scanErr w w1 s a v m l ha m1 k hk hlen hc rest X hP hN) (by simp)⟩
      | ok t =>
        obtain ⟨kd, t, k⟩ := t
        rw [ht] at hn
        obtain ⟨w1, m1, hc⟩ := hn
        obtain ⟨hpre, hne⟩ := tokL_pre ht
        have hrl : (b :: r).length = s.length - a := by rw [← hr, List.length_drop]
        have htl := hpre.length_le
        have ht0 : 0 < t.length := List.length_pos_iff.2 hne
        have ha1 : a + t.length ≤ s.length := by omega
        have hd1 : s.drop (a + t.length) = (b :: r).drop t.length := by rw [← hr, List.drop_drop]
        have hb : blankTo s (a + t.length) = a + t.length + skipN false ((b :: r).drop t.length) := by rw [blankTo, hd1]
        have hd2 : s.drop (blankTo s (a + t.length)) = ((b :: r).drop t.length).drop (skipN false ((b :: r).drop t.length)) := by rw [hb, ← List.drop_drop, hd1]
        have hbl := blankTo_le s (a + t.length) ha1
        have ih := scanLoop s hlen n w1 (blankTo s (a + t.length)) (v + 1) m1 (l ++ [tokD kd a t k]) hbl.2 (by omega) (by rw [List.length_append, List.length_singleton]; omega)
        rw [hd2, hb] at ih
        show LoopSays w s a v m l (match scanB n (((b :: r).drop t.length).drop (skipN false ((b :: r).drop t.length))) (a + t.length + skipN false ((b :: r).drop t.length)) with
          | .error e => .error e
          | .ok ts => .ok ((a, (kd, t, k)) :: ts))
        have hstep := fun rest X hP hN => scanNext w w1 s a v m l ha (a + t.length) (v + 1) m1 (l ++ [tokD kd a t k]) hlen ha1 hc rest X hP hN
        rw [hb] at hstep
        cases hs : scanB n (((b :: r).drop t.length).drop (skipN false ((b :: r).drop t.length))) (a + t.length + skipN false ((b :: r).drop t.length)) with
        | error e =>
          obtain ⟨p, k'⟩ := e
          rw [hs] at ih
          obtain ⟨w', v', m', l', hh⟩ := ih
          exact ⟨w', v', m', l', fun rest X hP hN => lw_seg (hstep rest X hP hN) (hh rest X hP hN)⟩
        | ok ts =>
          rw [hs] at ih
          obtain ⟨hle, w', v', m', hh⟩ := ih
          have e : l ++ [tokD kd a t k] ++ ts.map tokOf = l ++ ((a, (kd, t, k)) :: ts).map tokOf := by simp [tokOf]
          rw [e] at hle hh
          exact ⟨hle, w', v', m', fun rest X hP hN => lw_seg (hstep rest X hP hN) (hh rest X hP hN)⟩

section
variable (s : List UInt8)
def scPar (h : Option (LHint Tryz.prog)) (C : Option (CHint Tryz.prog)) (D : Option (CHint Tryz.prog)) (z : Bool) (hz : decide (20000 < (s.length : Int)) = z) : Par Tryz.prog :=
  { hint := fun f' k => if f' = 19 then (if k = 9 then some (hB Tryz.prog _ z hz) else none) else none
    nils := fun f' r => if f' = 19 then (if r = 4 then some { k := 324, i := 6, K := 1, sz := 4 } else none) else none
    calls := fun f' k _ => if f' = 19 then (if k = 14 then C else if k = 34 then D else none) else none
    loops := fun f' r => if f' = 19 then (if r = 5 then h else none) else none }
theorem scanLong (h : decide (20000 < (s.length : Int)) = true) : Pure Tryz.prog 19 [.str s] [.ro [], .int .i64 0, .int .i64 2] :=
  pure_of_run okP named (scPar s none none none true h) 1000 (by kernel_rfl)
noncomputable def scLH (w : Bool) (a v m : Nat) (l : List D) (e : AExit) (l' : List (Nat × AV)) (hp : List (Nat × Ent)) (h : ∀ (rest : Heap) (X : Fix), X.P = Tryz.prog → X.N = 39 → LW X (loopOf Tryz.prog 19 5) ⟨envOf (scL s), ovl (stE w s a v m l) rest⟩ fun e' S' => e' = e ∧ S' = ⟨envOf l', ovl hp rest⟩) : LHint Tryz.prog :=
  ⟨39, loopOf Tryz.prog 19 5, scL s, fun _ => stE w s a v m l, e, l', fun _ => hp, fun rest X hP hN => (h rest X hP hN).aw⟩
theorem scanBad (h : decide (20000 < (s.length : Int)) = false) (hlen : s.length ≤ 100000) (p : Nat) (k : Int) (w' : Bool) (v' m' : Nat) (l' : List D)
    (hl : ∀ (rest : Heap) (X : Fix), X.P = Tryz.prog → X.N = 39 → LW X (loopOf Tryz.prog 19 5) ⟨envOf (scL s), ovl (stE false s (blankTo s 0) 0 0 []) rest⟩ fun e' S' => e' = .ret ∧ S' = ⟨envOf [(2, .nils), (3, dN p), (4, dI k)], ovl (stE w' s p v' m' l') rest⟩) :
    Pure Tryz.prog 19 [.str s] [.ro [], .int .i64 (p : Int), .int .i64 k] := by
  cases w' with
  | false => exact pure_of_run okP named (scPar s (some (scLH s false (blankTo s 0) 0 0 [] _ _ _ hl)) (some (blankSt false s 0 0 [] hlen (Nat.zero_le _))) none false h) 1000 (by kernel_rfl)
  | true => exact pure_of_run okP named (scPar s (some (scLH s false (blankTo s 0) 0 0 [] _ _ _ hl)) (some (blankSt false s 0 0 [] hlen (Nat.zero_le _))) none false h) 1000 (by kernel_rfl)
theorem scanGood (h : decide (20000 < (s.length : Int)) = false) (hlen : s.length ≤ 100000) (w' : Bool) (v' m' : Nat) (l' : List D) (hl' : l'.length + 1 ≤ 549755813888)
    (hl : ∀ (rest : Heap) (X : Fix), X.P = Tryz.prog → X.N = 39 → LW X (loopOf Tryz.prog 19 5) ⟨envOf (scL s), ovl (stE false s (blankTo s 0) 0 0 []) rest⟩ fun e' S' => e' = .exit 0 ∧ S' = ⟨envOf (scL s), ovl (stE w' s s.length v' m' l') rest⟩) :
    Pure Tryz.prog 19 [.str s] [.ro (l' ++ [tokD 0 s.length [] 0]), .int .i64 0, .int .i64 0] := by
  cases w' with
  | false => exact pure_of_run okP named (scPar s (some (scLH s false (blankTo s 0) 0 0 [] _ _ _ hl)) (some (blankSt false s 0 0 [] hlen (Nat.zero_le _))) (some (putCH false s s.length v' m' l' 0 0 [] hl' (by simp only [List.length_nil]; omega))) false h) 1000 (by kernel_rfl)
  | true => exact pure_of_run okP named (scPar s (some (scLH s false (blankTo s 0) 0 0 [] _ _ _ hl)) (some (blankSt false s 0 0 [] hlen (Nat.zero_le _))) (some (putCH true s s.length v' m' l' 0 0 [] hl' (by simp only [List.length_nil]; omega))) false h) 1000 (by kernel_rfl)
end
/-- What lex.Scan hands back. -/
def scanRes (s : List UInt8) : List D × Int × Int :=
  if 20000 < s.length then ([], 0, 2) else match scanF s with
    | .error (p, k) => ([], p, k)
    | .ok ts => (ts.map tokOf ++ [tokD 0 s.length [] 0], 0, 0)
theorem scanC (s : List UInt8) : Pure Tryz.prog 19 [.str s] [.ro (scanRes s).1, .int .i64 (scanRes s).2.1, .int .i64 (scanRes s).2.2] := by
  unfold scanRes
  by_cases h : 20000 < s.length
  · rw [if_pos h]
    exact scanLong s (by simp only [decide_eq_true_eq]; omega)
  · rw [if_neg h]
    have hz : decide (20000 < (s.length : Int)) = false := by simp only [decide_eq_false_iff_not]; omega
    have hb := blankTo_le s 0 (Nat.zero_le _)
    have hl := scanLoop s (by omega) (s.length + 1) false (blankTo s 0) 0 0 [] hb.2 (by omega) (Nat.zero_le _)
    have he : scanB (s.length + 1) (s.drop (blankTo s 0)) (blankTo s 0) = scanF s := by
      unfold scanF blankTo
      rw [List.drop_zero, Nat.zero_add]
    rw [he] at hl
    cases hs : scanF s with
    | error e =>
      obtain ⟨p, k⟩ := e
      rw [hs] at hl
      obtain ⟨w', v', m', l', hh⟩ := hl
      exact scanBad s hz (by omega) p k w' v' m' l' hh
    | ok ts =>
      rw [hs] at hl
      obtain ⟨hle, w', v', m', hh⟩ := hl
      exact scanGood s hz (by omega) w' v' m' _ (by rw [List.nil_append] at hle; omega) hh
end Go.Avm
