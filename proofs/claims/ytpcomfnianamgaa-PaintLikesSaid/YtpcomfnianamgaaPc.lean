/-
  PaintLikes: the walk.
-/
import Derived.Test.YtpcomfnianamgaaPaThree
import Derived.Test.YtpcomfnianamgaaPaAw
set_option linter.unusedSectionVars false
namespace Go.Avm
open Go.Proofs

/-- A number, made small. -/
def redI (m : Nat) (x : Int) : Nat := ((IntKind.u64.wrap x).tmod ((m + 1 : Nat) : Int)).toNat
def redP (m : Nat) (p : Int × Int) : Int × Int := ((redI m p.1 : Nat), (redI m p.2 : Nat))
theorem u64_in (x : Int) : 0 ≤ IntKind.u64.wrap x ∧ IntKind.u64.wrap x < 18446744073709551616 := by
  have e : IntKind.u64.wrap x = x % 18446744073709551616 := rfl
  rw [e]
  omega
theorem redI_lt (m : Nat) (x : Int) (hm : m < 1000) : redI m x < m + 1 ∧ IntKind.i64.wrap ((IntKind.u64.wrap x).tmod ((m + 1 : Nat) : Int)) = (redI m x : Int) := by
  have h := u64_in x
  unfold redI
  generalize IntKind.u64.wrap x = y at h
  have e : y.tmod ((m + 1 : Nat) : Int) = y % ((m + 1 : Nat) : Int) := Int.tmod_eq_emod_of_nonneg h.1
  have h1 : 0 ≤ y % ((m + 1 : Nat) : Int) := Int.emod_nonneg _ (by omega)
  have h2 : y % ((m + 1 : Nat) : Int) < ((m + 1 : Nat) : Int) := Int.emod_lt_of_pos _ (by omega)
  rw [e]
  refine ⟨by omega, ?_⟩
  rw [IntWalk.i64_in _ (by omega)]
  omega
theorem appP (l : List (Int × Int)) (p : Int × Int) : l.map pairD ++ [pairD p] = (l ++ [p]).map pairD := by simp
abbrev vecP (v : Nat) (l : List (Int × Int)) : AV := .vec 12 v 2 (l.map pairD)
abbrev dU8 (k : Int) : AV := .d (.int .u8 k)
def lkE (w1 w2 v : Nat) : List (Nat × Ent) := [(500386, ⟨w1, none⟩), (502396, ⟨w2, none⟩), (12, ⟨v, none⟩)]
def k1L (m : Nat) (k : Int) (L : List (Int × Int)) (v : Nat) (l : List (Int × Int)) (i : Nat) : List (Nat × AV) := [(2, dU8 k), (7, dN (m + 1)), (8, vecP v l), (21, .d (pairsD L)), (22, dN L.length), (23, dN i)]
section
variable (m : Nat) (k : Int) (L : List (Int × Int)) (v w1 w2 : Nat) (l : List (Int × Int)) (i : Nat) (x y : Int)
noncomputable def k1Pr (hi : i < L.length) (hs : i < 9223372036854775807) (hp : L[i] = (x, y)) (t : Bool) (ht : decide ((i : Int) < 100) = t) (hint2 : Nat → Option (Hint Try.prog)) : Par Try.prog :=
  { hint := fun f s => if f = 7 then (if s = 24 then some (hLt Try.prog i L.length true (by simpa using hi)) else if s = 26 then some (.idx (L.map pairD) ((i : Nat) : Int) (pairD (x, y)) (by omega) (by rw [← hp]; exact getP hi)) else if s = 29 then some (.val (dB (decide ((i : Int) < 100))) (dB t) (by rw [ht]))
      else if s = 48 then some (hSucc Try.prog i hs) else hint2 s) else none }
noncomputable def k1Hx (hm : m < 1000) (hl : (l.map pairD).length + 1 ≤ 549755813888) : Nat → Option (Hint Try.prog) := fun s =>
  if s = 35 ∨ s = 42 then some (.val (.d (.int .u64 (IntKind.u64.wrap ((m + 1 : Nat) : Int)))) (.d (.int .u64 ((m + 1 : Nat) : Int))) (by
    congr 2
    have e : IntKind.u64.wrap ((m + 1 : Nat) : Int) = ((m + 1 : Nat) : Int) % 18446744073709551616 := rfl
    rw [e]
    omega))
  else if s = 37 then some (.val (dI (IntKind.i64.wrap ((IntKind.u64.wrap x).tmod ((m + 1 : Nat) : Int)))) (dN (redI m x)) (by unfold dI; rw [(redI_lt m x hm).2]))
  else if s = 44 then some (.val (dI (IntKind.i64.wrap ((IntKind.u64.wrap y).tmod ((m + 1 : Nat) : Int)))) (dN (redI m y)) (by unfold dI; rw [(redI_lt m y hm).2]))
  else if s = 47 then some (.app (l.map pairD) 1 hl) else none
theorem k1Late (hi : i < L.length) (hs : i < 9223372036854775807) (hp : L[i] = (x, y)) (ht : decide ((i : Int) < 100) = false) (rest : Heap) (X : Fix) (hP : X.P = Try.prog) (hN : X.N = 94) :
    AW X (loopOf Try.prog 7 6) ⟨envOf (k1L m k L v l i), ovl (lkE w1 w2 v) rest⟩ fun e' S' => e' = .normal ∧ Weak X S' ⟨envOf (k1L m k L v l (i + 1)), ovl (lkE (w1 + 1) w2 v) rest⟩ :=
  seg okP named (k1Pr L i x y hi hs hp false ht fun _ => none) 1000 7 500000 94 (by kernel_rfl) X hP hN
theorem k1Early (hi : i < L.length) (hs : i < 9223372036854775807) (hp : L[i] = (x, y)) (ht : decide ((i : Int) < 100) = true) (hm : m < 1000) (hl : (l.map pairD).length + 1 ≤ 549755813888) (rest : Heap) (X : Fix) (hP : X.P = Try.prog) (hN : X.N = 94) :
    AW X (loopOf Try.prog 7 6) ⟨envOf (k1L m k L v l i), ovl (lkE w1 w2 v) rest⟩ fun e' S' => e' = .normal ∧ Weak X S' ⟨envOf (k1L m k L (v + 1) (l ++ [redP m (x, y)]) (i + 1)), ovl (lkE (w1 + 1) (w2 + 1) (v + 1)) rest⟩ := by
  unfold k1L vecP
  rw [← appP]
  exact seg okP named (k1Pr L i x y hi hs hp true ht (k1Hx m l x y hm hl)) 1000 7 500000 94 (by kernel_rfl) X hP hN
theorem k1Stop (rest : Heap) (X : Fix) (hP : X.P = Try.prog) (hN : X.N = 94) :
    AW X (loopOf Try.prog 7 6) ⟨envOf (k1L m k L v l L.length), ovl (lkE w1 w2 v) rest⟩ fun e' S' => e' = .exit 0 ∧ Weak X S' ⟨envOf [(2, dU8 k), (7, dN (m + 1)), (8, vecP v l)], ovl (lkE w1 w2 v) rest⟩ :=
  seg okP named { hint := fun f s => if f = 7 then (if s = 24 then some (hLt Try.prog L.length L.length false (by simp)) else none) else none } 1000 7 500000 94 (by kernel_rfl) X hP hN
end
def kl (m : Nat) (L : List (Int × Int)) (i : Nat) : List (Int × Int) := ((L.take i).take 100).map (redP m)
theorem kl_len (m : Nat) (L : List (Int × Int)) (i : Nat) : (kl m L i).length ≤ 100 := by simp [kl]; omega
theorem kl_early {m : Nat} {L : List (Int × Int)} {i : Nat} (hi : i < L.length) (h : i < 100) : kl m L (i + 1) = kl m L i ++ [redP m L[i]] := by
  unfold kl
  rw [List.take_take, List.take_take, Nat.min_eq_right (by omega), Nat.min_eq_right (by omega), List.take_succ_eq_append_getElem hi, List.map_append]
  rfl
theorem kl_late {m : Nat} {L : List (Int × Int)} {i : Nat} (h : 100 ≤ i) : kl m L (i + 1) = kl m L i := by
  unfold kl
  rw [List.take_take, List.take_take, Nat.min_eq_left (by omega), Nat.min_eq_left (by omega)]
theorem k1Loop (m : Nat) (hm : m < 1000) (k : Int) (L : List (Int × Int)) (hL : L.length ≤ 9223372036854775807) : ∀ (r i w1 w2 v : Nat), L.length - i = r → i ≤ L.length → ∃ w1' w2' v' : Nat, ∀ (rest : Heap) (X : Fix), X.P = Try.prog → X.N = 94 →
    LW X (loopOf Try.prog 7 6) ⟨envOf (k1L m k L v (kl m L i) i), ovl (lkE w1 w2 v) rest⟩ fun e' S' => e' = .exit 0 ∧ S' = ⟨envOf [(2, dU8 k), (7, dN (m + 1)), (8, vecP v' (kl m L L.length))], ovl (lkE w1' w2' v') rest⟩
  | 0, i, w1, w2, v, hr, hi => by
    have : i = L.length := by omega
    subst this
    exact ⟨w1, w2, v, fun rest X hP hN => lw_end (k1Stop m k L v w1 w2 _ rest X hP hN) (by simp)⟩
  | r + 1, i, w1, w2, v, hr, hi => by
    have hlt : i < L.length := by omega
    rcases Nat.lt_or_ge i 100 with h | h
    · obtain ⟨a, b, c, g⟩ := k1Loop m hm k L hL r (i + 1) (w1 + 1) (w2 + 1) (v + 1) (by omega) (by omega)
      refine ⟨a, b, c, fun rest X hP hN => ?_⟩
      have hs := k1Early m k L v w1 w2 (kl m L i) i L[i].1 L[i].2 hlt (by omega) rfl (by simp; omega) hm (by have := kl_len m L i; simp; omega) rest X hP hN
      have hg := g rest X hP hN
      rw [kl_early hlt h] at hg
      exact lw_seg hs hg
    · obtain ⟨a, b, c, g⟩ := k1Loop m hm k L hL r (i + 1) (w1 + 1) w2 v (by omega) (by omega)
      refine ⟨a, b, c, fun rest X hP hN => ?_⟩
      have hs := k1Late m k L v w1 w2 (kl m L i) i L[i].1 L[i].2 hlt (by omega) rfl (by simp; omega) rest X hP hN
      have hg := g rest X hP hN
      rw [kl_late h] at hg
      exact lw_seg hs hg

/-! ### Each pair alike -/
abbrev intsD (c : List Int) : D := .ro (c.map fun x => .int .i64 x)
def k2L (v : Nat) (l : List (Int × Int)) (c : List Int) (i : Nat) : List (Nat × AV) := [(11, .d (intsD c)), (68, vecP v l), (69, dN l.length), (70, dN i)]
def k2E (w : Nat) : List (Nat × Ent) := [(500296, ⟨w, none⟩)]
section
variable (v w : Nat) (l : List (Int × Int)) (c : List Int) (i : Nat) (x y : Int)
noncomputable def k2Pr (hi : i < l.length) (hs : i < 9223372036854775807) (hp : l[i] = (x, y)) (h0 : 0 ≤ x) (g0 : 0 ≤ y) (hx : (c.map fun z => D.int .i64 z)[x.toNat]? = some (.int .i64 0)) (hy : (c.map fun z => D.int .i64 z)[y.toNat]? = some (.int .i64 0)) : Par Try.prog :=
  { hint := fun f s => if f = 7 then (if s = 71 then some (hLt Try.prog i l.length true (by simpa using hi)) else if s = 72 then some (.idx (l.map pairD) ((i : Nat) : Int) (pairD (x, y)) (by omega) (by rw [← hp]; exact getP hi))
      else if s = 77 ∨ s = 89 then some (.idx (c.map fun z => D.int .i64 z) x (.int .i64 0) h0 hx) else if s = 82 then some (.idx (c.map fun z => D.int .i64 z) y (.int .i64 0) g0 hy) else if s = 93 then some (hSucc Try.prog i hs) else none) else none }
theorem k2Round (hi : i < l.length) (hs : i < 9223372036854775807) (hp : l[i] = (x, y)) (h0 : 0 ≤ x) (g0 : 0 ≤ y) (hx : (c.map fun z => D.int .i64 z)[x.toNat]? = some (.int .i64 0)) (hy : (c.map fun z => D.int .i64 z)[y.toNat]? = some (.int .i64 0)) (rest : Heap) (X : Fix) (hP : X.P = Try.prog) (hN : X.N = 94) :
    AW X (loopOf Try.prog 7 15) ⟨envOf (k2L v l c i), ovl (k2E w) rest⟩ fun e' S' => e' = .normal ∧ Weak X S' ⟨envOf (k2L v l c (i + 1)), ovl (k2E (w + 1)) rest⟩ :=
  seg okP named (k2Pr l c i x y hi hs hp h0 g0 hx hy) 1000 7 500000 94 (by kernel_rfl) X hP hN
theorem k2Stop (rest : Heap) (X : Fix) (hP : X.P = Try.prog) (hN : X.N = 94) :
    AW X (loopOf Try.prog 7 15) ⟨envOf (k2L v l c l.length), ovl (k2E w) rest⟩ fun e' S' => e' = .exit 2 ∧ Weak X S' ⟨envOf [], ovl (k2E w) rest⟩ :=
  seg okP named { hint := fun f s => if f = 7 then (if s = 71 then some (hLt Try.prog l.length l.length false (by simp)) else none) else none } 1000 7 500000 94 (by kernel_rfl) X hP hN
end
def k2H (j : Nat) (rest : Heap) : List (Nat × Ent) := k2E ((rest 500296).ver + j)
theorem k2Loop (v : Nat) (l : List (Int × Int)) (c : List Int) (hl : l.length < 1099511627776) (hc : ∀ p ∈ l, (0 ≤ p.1 ∧ (c.map fun z => D.int .i64 z)[p.1.toNat]? = some (.int .i64 0)) ∧ 0 ≤ p.2 ∧ (c.map fun z => D.int .i64 z)[p.2.toNat]? = some (.int .i64 0)) (rest : Heap) (X : Fix) (hP : X.P = Try.prog) (hN : X.N = 94) :
    AW X (.loop (loopOf Try.prog 7 15)) ⟨envOf (k2L v l c 0), ovl (k2H 0 rest) rest⟩ fun e' S' => e' = .exit 2 ∧ S' = ⟨envOf [], ovl (k2H l.length rest) rest⟩ := by
  refine loop_of_segs (P := Try.prog) (N := 94) (c := loopOf Try.prog 7 15) (fun i => k2L v l c i) (fun i rest => k2H i rest) (fun i => i ≤ l.length) (fun i => l.length - i) (.exit 2) [] (fun rest => k2H l.length rest) 0 (Nat.zero_le _) (by simp) (fun rest i hi => ?_) rest X hP hN
  rcases Nat.lt_or_ge i l.length with h | h
  · obtain ⟨⟨h0, h1⟩, g0, g1⟩ := hc _ (List.getElem_mem h)
    exact .inl ⟨i + 1, h, by omega, fun X hP hN => k2Round v _ l c i l[i].1 l[i].2 h (by omega) rfl h0 g0 h1 g1 rest X hP hN⟩
  · have : i = l.length := by omega
    subst this
    exact .inr fun X hP hN => k2Stop v _ l c rest X hP hN

theorem i64_small (n : Nat) (h : n < 1000000) : IntKind.i64.wrap (n : Int) = (n : Int) := by rw [IntWalk.i64_in _ (by omega)]
/-- PaintLikes. -/
theorem likesPure (n k : Int) (hn : 0 ≤ n ∧ n ≤ 255) (hk : 0 ≤ k ∧ k ≤ 255) (L : List (Int × Int)) (hL : L.length ≤ 9223372036854775807) : Pure Try.prog 7 [.int .u8 n, pairsD L, .int .u8 k] [.bool true] := by
  obtain ⟨m, hm⟩ : ∃ m : Nat, n.tmod 40 = (m : Int) := ⟨(n.tmod 40).toNat, by rw [Int.tmod_eq_emod_of_nonneg hn.1]; omega⟩
  obtain ⟨q, hq⟩ : ∃ q : Nat, k.tmod 16 = (q : Int) := ⟨(k.tmod 16).toNat, by rw [Int.tmod_eq_emod_of_nonneg hk.1]; omega⟩
  have hm40 : m < 40 := by rw [Int.tmod_eq_emod_of_nonneg hn.1] at hm; omega
  have hq16 : q < 16 := by rw [Int.tmod_eq_emod_of_nonneg hk.1] at hq; omega
  obtain ⟨w1, w2, v, hl1⟩ := k1Loop m (by omega) k L hL L.length 0 0 0 0 rfl (Nat.zero_le _)
  have hkl : (kl m L L.length).length ≤ 100 := kl_len m L _
  have hrange : ∀ p ∈ kl m L L.length, (0 ≤ p.1 ∧ p.1.toNat < m + 1) ∧ 0 ≤ p.2 ∧ p.2.toNat < m + 1 := fun p hp => by
    obtain ⟨z, _, rfl⟩ := List.mem_map.1 hp
    have h1 := (redI_lt m z.1 (by omega)).1
    have h2 := (redI_lt m z.2 (by omega)).1
    simp only [redP]
    omega
  have hall : (kl m L L.length).all (inP (m + 1)) = true := List.all_eq_true.2 (fun p hp => inP_iff.2 (hrange p hp))
  have ht := twinsC (kl m L L.length) 100 (by omega)
  rw [List.take_of_length_le hkl] at ht
  obtain ⟨O, hO, hP⟩ := paintC (m + 1) (q + 1) [] (kl m L L.length) (by omega) (by omega) (by simp) (by omega) rfl hall
  have hz := paint_zero (n := m + 1) (K := q + 1) (by omega) (by omega) hall hO
  have hlen := (paint_painted (n := m + 1) (K := q + 1) (pairs := []) (by simp) (by omega) rfl hall hO).len
  generalize paintF (m + 1) (q + 1) [] (kl m L L.length) O = c at hP hz hlen
  have hget : ∀ x : Int, x.toNat < m + 1 → (c.map fun z => D.int .i64 z)[x.toNat]? = some (.int .i64 0) := fun x hx => by
    have hx' : x.toNat < c.length := by omega
    have h0 : c[x.toNat] = 0 := hz c[x.toNat] (List.getElem_mem hx')
    simp [hx', h0]
  have hl2 := k2Loop v (kl m L L.length) c (by omega) (fun p hp => ⟨⟨(hrange p hp).1.1, hget _ (hrange p hp).1.2⟩, (hrange p hp).2.1, hget _ (hrange p hp).2.2⟩)
  exact pure_of_run okP named {
    hint := fun f s => if f = 7 then (if s = 15 then some (.call 30 [] [.bool true] awake17) else if s = 20 then some (.val (dI (IntKind.i64.wrap (1 + IntKind.i64.wrap (n.tmod 40)))) (dN (m + 1)) (by
          unfold dI
          rw [hm, i64_small m (by omega), IntWalk.i64_in _ (by omega)]
          congr 2
          omega))
        else if s = 22 then some (.val (dN (L.map pairD).length) (dN L.length) (by simp)) else if s = 52 then some (.call 31 [pairsD (kl m L L.length), .int .i64 100] [pairsD (kl m L L.length)] ht)
        else if s = 56 then some (.val (dI (IntKind.i64.wrap (1 + IntKind.i64.wrap (k.tmod 16)))) (dN (q + 1)) (by
          unfold dI
          rw [hq, i64_small q (by omega), IntWalk.i64_in _ (by omega)]
          congr 2
          omega))
        else if s = 57 then some (.call 32 [.int .i64 ((m + 1 : Nat) : Int), .ro [], pairsD (kl m L L.length), .int .i64 ((q + 1 : Nat) : Int)] [intsD c, .int .i64 0] hP)
        else if s = 64 then some (.val (dN (c.map fun x => D.int .i64 x).length) (dN (m + 1)) (by simp [hlen])) else if s = 66 then some (.val (dB (((m + 1 : Nat) : Int) != ((m + 1 : Nat) : Int))) (dB false) (by simp))
        else if s = 69 then some (.val (dN ((kl m L L.length).map pairD).length) (dN (kl m L L.length).length) (by simp)) else none) else none
    nils2 := fun f r => if f = 7 then (if r = 5 then [⟨0, 8, 12, 2, true, false⟩] else []) else []
    loops := fun f r => if f = 7 then (if r = 6 then some ⟨94, loopOf Try.prog 7 6, k1L m k L 0 [] 0, fun _ => lkE 0 0 0, .exit 0, [(2, dU8 k), (7, dN (m + 1)), (8, vecP v (kl m L L.length))], fun _ => lkE w1 w2 v, fun rest X hP hN => (hl1 rest X hP hN).aw⟩
      else if r = 15 then some ⟨94, loopOf Try.prog 7 15, k2L v (kl m L L.length) c 0, fun rest => k2H 0 rest, .exit 2, [], fun rest => k2H (kl m L L.length).length rest, hl2⟩ else none) else none } 1000 (by kernel_rfl)
end Go.Avm
