/-
  Flow: the program's order.
-/
import Derived.Test.YtpcomfnianamgaaG06
import Derived.Test.YtpcomfnianamgaaG05
set_option linter.unusedSectionVars false
namespace Go.Avm
open Go.Proofs Go.Avm.Dom
def stA (p : Nat × Nat) : AV := .d (.agg [.int .i64 (p.1 : Int), .int .i64 (p.2 : Int)])
def ooL (g : Graph) (vb vo vw : Nat) (o : List Nat) (len : Nat) : List (Nat × AV) := [(0, .d (rowsN g)), (3, .sl 535 vb 0 g.length 1), (4, .sl 36 vo 0 o.length 1), (5, .sl 1148 vw 0 len 2)]
def intsA (l : List Nat) : List AV := l.map dN
theorem intsA_app (o : List Nat) (n : Nat) : (intsA o).take o.length ++ [dN n] = intsA (o ++ [n]) := by
 unfold intsA
 rw [List.take_of_length_le (by simp), List.map_append]
 rfl
theorem intsA_len (o : List Nat) : (intsA o).length = o.length := by simp [intsA]
def ooE (vb vo vw w1 w2 : Nat) (bs : List Bool) (o : List Nat) (es : List AV) : List (Nat × Ent) := [(535, ⟨vb, some (.arr 1 (bs.map dB))⟩), (36, ⟨vo, some (.arr 1 (intsA o))⟩), (1148, ⟨vw, some (.arr 2 es)⟩), (502393, ⟨w1, none⟩), (504954, ⟨w2, none⟩)]
section
variable (g : Graph) (vb vo vw w1 w2 : Nat) (bs : List Bool) (es : List AV) (o : List Nat) (q n d : Nat)
theorem ooPop (hq : q < 1000000000) (he : es[q]? = some (stA (n, d))) (hn : n < g.length) (hd : d = (succ g n).length) (hr : (succ g n).length < 1000000000) (ho : o.length < 1000000000) : RW 87 (lO 78 7) (ooL g vb vo vw o (q + 1)) (ooE vb vo vw w1 w2 bs o es) .normal (ooL g vb (vo + 1) vw (o ++ [n]) q) (ooE vb (vo + 1) vw (w1 + 1) w2 bs (o ++ [n]) es) := by
 intro rest X hP hN
 unfold ooL ooE
 rw [← intsA_app, List.length_append]
 exact seg okP named { hint := qT 78 [(20, hB Pg (decide ((0 : Int) < ((q + 1 : Nat) : Int))) true (dec_true (by omega))), (24, hNat Pg (IntKind.i64.wrap (((q + 1 : Nat) : Int) - 1)) q (by rw [IntWalk.i64_in _ (by omega)]; omega)), (25, hInb Pg q (q + 1) (by omega)), (29, .elt es (0 + q) (stA (n, d)) (by rw [Nat.zero_add]; exact he)), (34, .elt es (0 + q) (stA (n, d)) (by rw [Nat.zero_add]; exact he)), (35, hIxG Pg g n (succ g n) (succ_get hn)), (37, hLenN Pg (succ g n)), (38, hEq Pg (d : Int) ((succ g n).length : Int) true (by simp [hd])), (43, .elt es (0 + q) (stA (n, d)) (by rw [Nat.zero_add]; exact he)), (45, .apps (intsA o) o.length 1 ⟨by rw [intsA_len]; exact Nat.le_refl _, by omega⟩), (49, hNat Pg (IntKind.i64.wrap (((q + 1 : Nat) : Int) - 1)) q (by rw [IntWalk.i64_in _ (by omega)]; omega)), (50, .cuts (q + 1) q (by omega))] } 2000 78 500000 87 (by kernel_rfl) X hP hN
theorem ooOld (hq : q < 1000000000) (he : es[q]? = some (stA (n, d))) (hn : n < g.length) (hd : d < (succ g n).length) (hr : (succ g n).length < 1000000000) (x : Nat) (hx : (succ g n)[d]? = some x) (hxl : x < g.length) (hb : bs[x]? = some true) : RW 87 (lO 78 7) (ooL g vb vo vw o (q + 1)) (ooE vb vo vw w1 w2 bs o es) .normal (ooL g vb vo vw o (q + 1)) (ooE vb vo vw w1 w2 bs o (es.set (0 + q) (stA (n, d + 1)))) := qS { hint := qT 78 [(20, hB Pg (decide ((0 : Int) < ((q + 1 : Nat) : Int))) true (dec_true (by omega))), (24, hNat Pg (IntKind.i64.wrap (((q + 1 : Nat) : Int) - 1)) q (by rw [IntWalk.i64_in _ (by omega)]; omega)), (25, hInb Pg q (q + 1) (by omega)), (29, .elt es (0 + q) (stA (n, d)) (by rw [Nat.zero_add]; exact he)), (34, .elt es (0 + q) (stA (n, d)) (by rw [Nat.zero_add]; exact he)), (35, hIxG Pg g n (succ g n) (succ_get hn)), (37, hLenN Pg (succ g n)), (38, hEq Pg (d : Int) ((succ g n).length : Int) false (int_ne (by omega))), (55, .elt es (0 + q) (stA (n, d)) (by rw [Nat.zero_add]; exact he)), (56, hIxG Pg g n (succ g n) (succ_get hn)), (61, .elt es (0 + q) (stA (n, d)) (by rw [Nat.zero_add]; exact he)), (62, hIxN Pg (succ g n) d x hx), (67, .elt es (0 + q) (stA (n, d)) (by rw [Nat.zero_add]; exact he)), (68, hSucc Pg d (by omega)), (113007, .elt es (0 + q) (stA (n, d)) (by rw [Nat.zero_add]; exact he)), (73, hInb Pg x g.length hxl), (74, hElB Pg bs x true hb)] } 78 500000
theorem ooNew (hq : q < 1000000000) (hqe : q + 1 ≤ es.length) (he : es[q]? = some (stA (n, d))) (hn : n < g.length) (hd : d < (succ g n).length) (hr : (succ g n).length < 1000000000) (x : Nat) (hx : (succ g n)[d]? = some x) (hxl : x < g.length) (hb : bs[x]? = some false) : RW 87 (lO 78 7) (ooL g vb vo vw o (q + 1)) (ooE vb vo vw w1 w2 bs o es) .normal (ooL g vb vo (vw + 1) o (q + 2)) (ooE vb vo (vw + 1) w1 (w2 + 1) (bs.set x true) o ((es.set (0 + q) (stA (n, d + 1))).take (q + 1) ++ [stA (x, 0)])) := by
 intro rest X hP hN
 unfold ooE
 rw [← mapB]
 exact seg okP named { hint := qT 78 [(20, hB Pg (decide ((0 : Int) < ((q + 1 : Nat) : Int))) true (dec_true (by omega))), (24, hNat Pg (IntKind.i64.wrap (((q + 1 : Nat) : Int) - 1)) q (by rw [IntWalk.i64_in _ (by omega)]; omega)), (25, hInb Pg q (q + 1) (by omega)), (29, .elt es (0 + q) (stA (n, d)) (by rw [Nat.zero_add]; exact he)), (34, .elt es (0 + q) (stA (n, d)) (by rw [Nat.zero_add]; exact he)), (35, hIxG Pg g n (succ g n) (succ_get hn)), (37, hLenN Pg (succ g n)), (38, hEq Pg (d : Int) ((succ g n).length : Int) false (int_ne (by omega))), (55, .elt es (0 + q) (stA (n, d)) (by rw [Nat.zero_add]; exact he)), (56, hIxG Pg g n (succ g n) (succ_get hn)), (61, .elt es (0 + q) (stA (n, d)) (by rw [Nat.zero_add]; exact he)), (62, hIxN Pg (succ g n) d x hx), (67, .elt es (0 + q) (stA (n, d)) (by rw [Nat.zero_add]; exact he)), (68, hSucc Pg d (by omega)), (113007, .elt es (0 + q) (stA (n, d)) (by rw [Nat.zero_add]; exact he)), (73, hInb Pg x g.length hxl), (74, hElB Pg bs x false hb), (78, hInb Pg x g.length hxl), (115003, hElB Pg bs x false hb), (83, .apps (es.set (0 + q) (stA (n, d + 1))) (q + 1) 1 (by simp; omega))] } 2000 78 500000 87 (by kernel_rfl) X hP hN
theorem ooStop : RW 87 (lO 78 7) (ooL g vb vo vw o 0) (ooE vb vo vw w1 w2 bs o es) (.exit 0) [(4, .sl 36 vo 0 o.length 1)] [(535, ⟨vb, none⟩), (36, ⟨vo, some (.arr 1 (intsA o))⟩), (1148, ⟨vw, none⟩), (502393, ⟨w1, none⟩), (504954, ⟨w2, none⟩)] := qS { hint := fun _ _ => none } 78 500000
end
theorem kidsN_succ (g : Graph) (f : Nat) (r : List Nat) (s : Acc) (k : Nat) : kidsN g f r s (k + 1) = if met (kidsN g f r s k).1 (r.getD k 0) = true then kidsN g f r s k else ((dfs g f (kidsN g f r s k).1 (r.getD k 0)).1, (kidsN g f r s k).2 ++ (dfs g f (kidsN g f r s k).1 (r.getD k 0)).2) := rfl
theorem es_get (stk : List (Nat × Nat)) (p : Nat × Nat) (tail : List AV) : ((stk ++ [p]).map stA ++ tail)[stk.length]? = some (stA p) := by
 rw [List.map_append, List.append_assoc, List.getElem?_append_right (by simp)]
 simp
theorem es_set (stk : List (Nat × Nat)) (p p' : Nat × Nat) (tail : List AV) : ((stk ++ [p]).map stA ++ tail).set (0 + stk.length) (stA p') = (stk ++ [p']).map stA ++ tail := by
 rw [Nat.zero_add, List.map_append, List.append_assoc, List.set_append_right _ _ (by simp)]
 simp
theorem es_push (stk : List (Nat × Nat)) (p : Nat × Nat) (tail : List AV) (x : AV) : ((stk ++ [p]).map stA ++ tail).take (stk.length + 1) ++ [x] = (stk ++ [p]).map stA ++ [x] := by
 rw [List.take_append_of_le_length (by simp), List.take_of_length_le (by simp)]
def oCfg (g : Graph) (vb : Nat) (rest : Heap) (vo vw w1 w2 : Nat) (bs : List Bool) (o : List Nat) (stk : List (Nat × Nat)) (tail : List AV) : St := ⟨envOf (ooL g vb vo vw o stk.length), ovl (ooE vb vo vw w1 w2 bs o (stk.map stA ++ tail)) rest⟩
def LeadO (vb : Nat) (g : Graph) (a b : Heap → St) : Prop := ∀ (rest : Heap) (X : Fix), X.P = Pg → X.N = 87 → ∀ Q, LW X (lO 78 7) (b rest) Q → LW X (lO 78 7) (a rest) Q
theorem LeadO.refl {vb : Nat} {g : Graph} (a : Heap → St) : LeadO vb g a a := fun _ _ _ _ _ h => h
theorem LeadO.trans {vb : Nat} {g : Graph} {a b c : Heap → St} (h : LeadO vb g a b) (k : LeadO vb g b c) : LeadO vb g a c := fun rest X hP hN Q hq => h rest X hP hN Q (k rest X hP hN Q hq)
section
variable {g : Graph} (hg : Valid g) (hgl : g.length < 100000000) (hr : ∀ a, (succ g a).length < 1000000000) (vb : Nat)
include hg hgl hr
theorem ooSim : ∀ (f : Nat) (bs : List Bool) (n : Nat) (stk : List (Nat × Nat)) (tail : List AV) (o : List Nat) (vo vw w1 w2 : Nat), bs.length = g.length → met bs n = false → left bs ≤ f → stk.length + left bs ≤ g.length → o.length + left bs ≤ g.length →
    ∃ tail', LeadO vb g (fun rest => oCfg g vb rest vo vw w1 w2 (bs.set n true) o (stk ++ [(n, 0)]) tail)
     (fun rest => oCfg g vb rest (vo + (dfs g f bs n).2.length) (vw + ((dfs g f bs n).2.length - 1)) (w1 + (dfs g f bs n).2.length) (w2 + ((dfs g f bs n).2.length - 1)) (dfs g f bs n).1 (o ++ (dfs g f bs n).2) stk tail')
 | 0, bs, n, stk, tail, o, vo, vw, w1, w2, hs, hn, hf, hst, ho => by have := left_set hn; omega
 | f + 1, bs, n, stk, tail, o, vo, vw, w1, w2, hs, hn, hf, hst, ho => by
  have hlt := met_lt hn
  have hls := left_set hn
  have hs1 : (bs.set n true).length = g.length := by simpa using hs
  have hf1 : left (bs.set n true) ≤ f := by omega
  have hok := fun k hk => kidsN_ok hg (f := f) (n := n) (s := ((bs.set n true), [])) hs1 hf1 k hk
  have hcount : ∀ k, k ≤ (succ g n).length → left (kidsN g f (succ g n) (bs.set n true, []) k).1 + (kidsN g f (succ g n) (bs.set n true, []) k).2.length ≤ left (bs.set n true) := fun k => by
   induction k with
   | zero => intro _; simp [kidsN]
   | succ k ih =>
    intro hk
    have h1 := ih (by omega)
    obtain ⟨h2, h3, _⟩ := hok k (by omega)
    rw [kidsN]
    generalize (succ g n).getD k 0 = b
    split
    ·exact h1
    ·rename_i hm
     have := (post_len hg h2 (by simpa using hm) h3).1
     simp only [List.length_append]
     omega
  have hmain : ∀ (m k : Nat) (tail : List AV), (succ g n).length - k = m → k ≤ (succ g n).length → ∃ tail', LeadO vb g
      (fun rest => oCfg g vb rest (vo + (kidsN g f (succ g n) (bs.set n true, []) k).2.length) (vw + (kidsN g f (succ g n) (bs.set n true, []) k).2.length) (w1 + (kidsN g f (succ g n) (bs.set n true, []) k).2.length) (w2 + (kidsN g f (succ g n) (bs.set n true, []) k).2.length) (kidsN g f (succ g n) (bs.set n true, []) k).1 (o ++ (kidsN g f (succ g n) (bs.set n true, []) k).2) (stk ++ [(n, k)]) tail)
      (fun rest => oCfg g vb rest (vo + (kidsN g f (succ g n) (bs.set n true, []) (succ g n).length).2.length + 1) (vw + (kidsN g f (succ g n) (bs.set n true, []) (succ g n).length).2.length) (w1 + (kidsN g f (succ g n) (bs.set n true, []) (succ g n).length).2.length + 1) (w2 + (kidsN g f (succ g n) (bs.set n true, []) (succ g n).length).2.length) (kidsN g f (succ g n) (bs.set n true, []) (succ g n).length).1 (o ++ (kidsN g f (succ g n) (bs.set n true, []) (succ g n).length).2 ++ [n]) stk tail') := fun m => by
   induction m with
   | zero =>
    intro k tail hm hk
    have hkl : k = (succ g n).length := by omega
    subst hkl
    have hc := hcount _ (Nat.le_refl _)
    generalize kidsN g f (succ g n) (bs.set n true, []) (succ g n).length = s at hc
    refine ⟨stA (n, (succ g n).length) :: tail, fun rest X hP hN Q hq => ?_⟩
    have h1 := ooPop g vb (vo + s.2.length) (vw + s.2.length) (w1 + s.2.length) (w2 + s.2.length) s.1 ((stk ++ [(n, (succ g n).length)]).map stA ++ tail) (o ++ s.2) stk.length n (succ g n).length (by omega) (es_get stk _ tail) (by omega) rfl (hr n) (by simp; omega) rest X hP hN
    have h2 : oCfg g vb rest (vo + s.2.length) (vw + s.2.length) (w1 + s.2.length) (w2 + s.2.length) s.1 (o ++ s.2) (stk ++ [(n, (succ g n).length)]) tail = ⟨envOf (ooL g vb (vo + s.2.length) (vw + s.2.length) (o ++ s.2) (stk.length + 1)), ovl (ooE vb (vo + s.2.length) (vw + s.2.length) (w1 + s.2.length) (w2 + s.2.length) s.1 (o ++ s.2) ((stk ++ [(n, (succ g n).length)]).map stA ++ tail)) rest⟩ := by
     unfold oCfg
     rw [List.length_append]
     rfl
    try dsimp only at hq
    try dsimp only
    rw [h2]
    refine lw_seg h1 ?_
    have h3 : (stk ++ [(n, (succ g n).length)]).map stA ++ tail = stk.map stA ++ (stA (n, (succ g n).length) :: tail) := by simp
    rw [h3]
    exact hq
   | succ m ih =>
    intro k tail hm hk
    have hklt : k < (succ g n).length := by omega
    obtain ⟨h2, h3, _⟩ := hok k (by omega)
    have h4 := hcount k (by omega)
    have ih' := ih (k + 1)
    rw [kidsN_succ] at ih'
    generalize kidsN g f (succ g n) (bs.set n true, []) k = s at h2 h3 h4 ih'
    have hb := getD_get hklt
    generalize (succ g n).getD k 0 = b at hb ih'
    have hbl : b < g.length := (succ_lt hg (List.mem_of_getElem? hb)).1
    have hmb := met_get (bs := s.1) (k := b) (by omega)
    have hcf : ∀ (rest : Heap) (vo vw w1 w2 : Nat) (bs : List Bool) (o : List Nat) (tail : List AV) (p : Nat × Nat), oCfg g vb rest vo vw w1 w2 bs o (stk ++ [p]) tail = ⟨envOf (ooL g vb vo vw o (stk.length + 1)), ovl (ooE vb vo vw w1 w2 bs o ((stk ++ [p]).map stA ++ tail)) rest⟩ := fun rest vo vw w1 w2 bs o tail p => by
     unfold oCfg
     rw [List.length_append]
     rfl
    cases hmm : met s.1 b with
    | true =>
     rw [if_pos hmm] at ih'
     obtain ⟨tail', hl⟩ := ih' tail (by omega) (by omega)
     refine ⟨tail', LeadO.trans (fun rest X hP hN Q hq => ?_) hl⟩
     try dsimp only at hq
     try dsimp only
     rw [hcf]
     have h1 := ooOld g vb (vo + s.2.length) (vw + s.2.length) (w1 + s.2.length) (w2 + s.2.length) s.1 ((stk ++ [(n, k)]).map stA ++ tail) (o ++ s.2) stk.length n k (by omega) (es_get stk _ tail) (by omega) hklt (hr n) b hb hbl (hmb.trans (by rw [hmm])) rest X hP hN
     rw [es_set] at h1
     refine lw_seg h1 ?_
     rw [hcf] at hq
     exact hq
    | false =>
     rw [if_neg (by rw [hmm]; simp)] at ih'
     have hpl := post_len hg h2 hmm h3
     obtain ⟨t1, hl1⟩ := ooSim f s.1 b (stk ++ [(n, k + 1)]) [] (o ++ s.2) (vo + s.2.length) (vw + s.2.length + 1) (w1 + s.2.length) (w2 + s.2.length + 1) h2 hmm h3 (by simp only [List.length_append, List.length_cons, List.length_nil]; omega) (by simp only [List.length_append]; omega)
     obtain ⟨tail', hl⟩ := ih' t1 (by omega) (by omega)
     refine ⟨tail', LeadO.trans (fun rest X hP hN Q hq => ?_) (LeadO.trans hl1 (LeadO.trans (fun rest X hP hN Q hq => ?_) hl))⟩
     ·try dsimp only at hq
      try dsimp only
      rw [hcf]
      have h1 := ooNew g vb (vo + s.2.length) (vw + s.2.length) (w1 + s.2.length) (w2 + s.2.length) s.1 ((stk ++ [(n, k)]).map stA ++ tail) (o ++ s.2) stk.length n k (by omega) (by simp) (es_get stk _ tail) (by omega) hklt (hr n) b hb hbl (hmb.trans (by rw [hmm])) rest X hP hN
      rw [es_set, es_push] at h1
      refine lw_seg h1 ?_
      unfold oCfg at hq
      simp only [List.length_append, List.length_cons, List.length_nil, Nat.zero_add, List.map_append, List.map_cons, List.map_nil, List.append_nil] at hq ⊢
      exact hq
     ·try dsimp only at hq
      try dsimp only
      rw [List.length_append] at hq
      generalize (dfs g f s.1 b).2 = p at hq hpl
      rw [show vo + s.2.length + p.length = vo + (s.2.length + p.length) by omega, show vw + s.2.length + 1 + (p.length - 1) = vw + (s.2.length + p.length) by omega, show w1 + s.2.length + p.length = w1 + (s.2.length + p.length) by omega, show w2 + s.2.length + 1 + (p.length - 1) = w2 + (s.2.length + p.length) by omega, List.append_assoc o s.2 p]
      exact hq
  obtain ⟨tail', hl⟩ := hmain _ 0 tail rfl (Nat.zero_le _)
  rw [kidsN_all] at hl
  refine ⟨tail', ?_⟩
  rw [dfs_succ]
  simp only [kidsN, List.length_nil, Nat.add_zero, List.append_nil] at hl
  simp only [List.length_append, List.length_cons, List.length_nil, Nat.zero_add, Nat.add_sub_cancel, ← Nat.add_assoc, ← List.append_assoc]
  exact hl
end
def rvN (l : List Nat) : Nat → List Nat
 | 0 => l
 | i + 1 => ((rvN l i).set i ((rvN l i).getD (l.length - 1 - i) 0)).set (l.length - 1 - i) ((rvN l i).getD i 0)
theorem rvN_len (l : List Nat) : ∀ i, (rvN l i).length = l.length
 | 0 => rfl
 | i + 1 => by simp [rvN, rvN_len l i]
theorem rvN_get (l : List Nat) : ∀ i, 2 * i ≤ l.length → ∀ k, k < l.length → (rvN l i)[k]? = if k < i ∨ l.length - i ≤ k then l[l.length - 1 - k]? else l[k]?
 | 0, _, k, hk => by simp [rvN]; omega
 | i + 1, hi, k, hk => by
  have ih := rvN_get l i (by omega)
  have h1 := ih i (by omega)
  have h2 := ih (l.length - 1 - i) (by omega)
  rw [if_neg (by omega)] at h1 h2
  rw [rvN, List.getElem?_set, List.getElem?_set]
  simp only [List.length_set, rvN_len]
  by_cases hkj : l.length - 1 - i = k
  ·rw [if_pos hkj, if_pos (by omega), if_pos (by omega)]
   have h3 : l.length - 1 - k = i := by omega
   rw [h3, List.getD_eq_getElem?_getD, h1, List.getElem?_eq_getElem (by omega)]
   rfl
  ·rw [if_neg hkj]
   by_cases hki : i = k
   ·rw [if_pos hki, if_pos (by omega), if_pos (by omega), ← hki, List.getD_eq_getElem?_getD, h2, List.getElem?_eq_getElem (by omega)]
    rfl
   ·rw [if_neg hki, ih k hk]
    by_cases hc : k < i ∨ l.length - i ≤ k
    ·rw [if_pos hc, if_pos (by omega)]
    ·rw [if_neg hc, if_neg (by omega)]
theorem rvN_all (l : List Nat) : rvN l (l.length / 2) = l.reverse := by
 apply List.ext_getElem?
 intro k
 rcases Nat.lt_or_ge k l.length with hk | hk
 ·rw [rvN_get l _ (by omega) k hk, List.getElem?_reverse hk]
  split
  ·rfl
  ·have : l.length - 1 - k = k := by omega
   rw [this]
 ·rw [List.getElem?_eq_none (by rw [rvN_len]; omega), List.getElem?_eq_none (by simp; omega)]
def rvL (n v i : Nat) : List (Nat × AV) := [(0, .sl 36 v 0 n 1), (2, dN i), (3, dI ((n : Int) - 1 - i))]
def rvE (v : Nat) (l : List Nat) : List (Nat × Ent) := [(36, ⟨v, some (.arr 1 (intsA l))⟩)]
theorem intsA_get {l : List Nat} {k x : Nat} (h : l[k]? = some x) : (intsA l)[0 + k]? = some (dN x) := by simp [intsA, h]
theorem intsA_set (l : List Nat) (k x : Nat) : (intsA l).set (0 + k) (dN x) = intsA (l.set k x) := by simp [intsA]
section
variable (l : List Nat) (v i j x y : Nat)
theorem rvRound (hj : j + i + 1 = l.length) (hij : i < j) (hl : l.length < 1000000000) (hx : l[i]? = some x) (hy : l[j]? = some y) : RW 28 (lO 104 1) (rvL l.length v i) (rvE v l) .normal (rvL l.length v (i + 1)) (rvE v ((l.set i y).set j x)) := by
 intro rest X hP hN
 have h0 : (l.set i y)[j]? = some y := by rw [List.getElem?_set_ne (by omega)]; exact hy
 unfold rvE
 rw [← intsA_set, ← intsA_set]
 have e : ((l.length : Nat) : Int) - 1 - (i : Int) = (j : Int) := by omega
 unfold rvL
 rw [e]
 exact seg okP named { hint := qT 104 [(9, hB Pg (decide ((i : Int) < (j : Int))) true (dec_true (by omega))), (20, hInb Pg j l.length (by omega)), (21, .elt (intsA l) (0 + j) (dN y) (intsA_get hy)), (24, hInb Pg i l.length (by omega)), (25, .elt (intsA l) (0 + i) (dN x) (intsA_get hx)), (26, hInb Pg i l.length (by omega)), (103013, .elt (intsA l) (0 + i) (dN x) (intsA_get hx)), (27, hInb Pg j l.length (by omega)), (103015, .elt ((intsA l).set (0 + i) (dN y)) (0 + j) (dN y) (by rw [intsA_set]; exact intsA_get h0)), (11, hSucc Pg i (by omega)), (13, hI Pg (IntKind.i64.wrap ((j : Int) - 1)) ((l.length : Int) - 1 - ((i + 1 : Nat) : Int)) (by rw [IntWalk.i64_in _ (by omega)]; omega))] } 2000 104 500000 28 (by kernel_rfl) X hP hN
theorem rvStop (hij : (l.length : Int) - 1 - i ≤ i) : RW 28 (lO 104 1) (rvL l.length v i) (rvE v l) (.exit 0) [] (rvE v l) := qS { hint := qT 104 [(9, hB Pg (decide ((i : Int) < (l.length : Int) - 1 - (i : Int))) false (dec_false (by omega)))] } 104 500000
end
theorem rvLoop (l : List Nat) (v : Nat) (hl : l.length < 1000000000) : RE 28 (.loop (lO 104 1)) (rvL l.length v 0) (rvE v l) (.exit 0) [] (rvE v l.reverse) := by
 intro rest X hP hN
 rw [← rvN_all]
 refine (lw_count (l.length / 2) (fun i => ⟨envOf (rvL l.length v i), ovl (rvE v (rvN l i)) rest⟩) (by simp) (fun i hi => ?_) ?_).aw
 ·have hx : (rvN l i)[i]? = some ((rvN l i).getD i 0) := getD_get (by rw [rvN_len]; omega)
  have hy : (rvN l i)[l.length - 1 - i]? = some ((rvN l i).getD (l.length - 1 - i) 0) := getD_get (by rw [rvN_len]; omega)
  have := rvRound (rvN l i) v i (l.length - 1 - i) _ _ (by rw [rvN_len]; omega) (by omega) (by rw [rvN_len]; omega) hx hy rest X hP hN
  rw [rvN_len] at this
  exact this
 ·have := rvStop (rvN l (l.length / 2)) v (l.length / 2) (by rw [rvN_len]; omega) rest X hP hN
  rw [rvN_len] at this
  exact this
theorem reverseC (l : List Nat) (v : Nat) (hl : l.length < 1000000000) (rest : Heap) : HCall Pg 104 [.sl 36 v 0 l.length 1] (ovl (rvE v l) rest) [] (ovl (rvE v l.reverse) rest) :=
 qH { loops := fun f q => if f = 104 then (if q = 1 then some ⟨28, loopOf Pg 104 1, rvL l.length v 0, fun _ => rvE v l, .exit 0, [], fun _ => rvE v l.reverse, fun rest X hP hN => rvLoop l v hl rest X hP hN⟩ else none) else none, hint := qT 104 [(6, hI Pg (IntKind.i64.wrap ((l.length : Int) - 1)) ((l.length : Int) - 1 - ((0 : Nat) : Int)) (by rw [IntWalk.i64_in _ (by omega)]; omega))] }
theorem viewN (n : Nat) (h : Heap) : ∀ r : List Nat, viewL (view (n + 1) h) (intsA r) = some (intsN r, [])
 | [] => rfl
 | x :: r => by
  show viewL (view (n + 1) h) (dN x :: intsA r) = some (.int .i64 (x : Int) :: intsN r, [])
  rw [viewL, viewN n h r]
  rfl
def wN (t k n : Nat) (l : List Nat) (h : l.length = n) : WHint := ⟨t, k, n, intsA l, intsN l, by rw [intsA_len]; exact h, fun hh => viewN 2 hh l⟩
theorem orderNil : Pure Pg 78 [rowsN []] [.ro []] := qU { hint := fun _ _ => none }
section
variable {g : Graph} (hg : Valid g) (hgl : g.length < 100000000) (hr : ∀ a, (succ g a).length < 1000000000)
include hg hgl hr
theorem orderC : Pure Pg 78 [rowsN g] [.ro (intsN (orderOf g))] := by
 rcases Nat.eq_zero_or_pos g.length with h0 | h0
 ·have : g = [] := List.length_eq_zero_iff.1 h0
  subst this
  exact orderNil
 ·have hm : met (List.replicate g.length false) 0 = false := by rw [met_none]; exact decide_eq_false (by omega)
  have hpl := post_len hg (f := g.length) (n := 0) (bs := List.replicate g.length false) (by simp) hm (by rw [left_none]; exact Nat.le_refl _)
  rw [left_none] at hpl
  obtain ⟨tail', hsim⟩ := ooSim hg hgl hr 1 g.length (List.replicate g.length false) 0 [] [] [] 1 1 0 0 (by simp) hm (by rw [left_none]; exact Nat.le_refl _) (by rw [left_none]; simp) (by rw [left_none]; simp)
  have e : orderOf g = (dfs g g.length (List.replicate g.length false) 0).2.reverse := by unfold orderOf; rw [if_neg (by omega)]
  rw [e]
  generalize dfs g g.length (List.replicate g.length false) 0 = q at hpl hsim
  obtain ⟨qb, p⟩ := q
  simp only [List.nil_append] at hpl hsim ⊢
  have hl : RE 87 (.loop (lO 78 7)) (ooL g 1 1 1 [] 1) [(535, ⟨1, some (.arr 1 ((List.replicate g.length (dB false)).set (0 + 0) (dB true)))⟩), (36, ⟨1, some (.arr 1 [])⟩), (1148, ⟨1, some (.arr 2 [stA (0, 0)])⟩), (502393, ⟨0, none⟩), (504954, ⟨0, none⟩)] (.exit 0) [(4, .sl 36 (1 + p.length) 0 p.length 1)] [(535, ⟨1, none⟩), (36, ⟨1 + p.length, some (.arr 1 (intsA p))⟩), (1148, ⟨1 + (p.length - 1), none⟩), (502393, ⟨0 + p.length, none⟩), (504954, ⟨0 + (p.length - 1), none⟩)] := fun rest X hP hN => by
   have h1 := hsim rest X hP hN _ (lw_end (ooStop g 1 (1 + p.length) (1 + (p.length - 1)) (0 + p.length) (0 + (p.length - 1)) qb (List.map stA [] ++ tail') p rest X hP hN) (by simp))
   have h2 : oCfg g 1 rest 1 1 0 0 ((List.replicate g.length false).set 0 true) [] [(0, 0)] [] = ⟨envOf (ooL g 1 1 1 [] 1), ovl [(535, ⟨1, some (.arr 1 ((List.replicate g.length (dB false)).set (0 + 0) (dB true)))⟩), (36, ⟨1, some (.arr 1 [])⟩), (1148, ⟨1, some (.arr 2 [stA (0, 0)])⟩), (502393, ⟨0, none⟩), (504954, ⟨0, none⟩)] rest⟩ := by
    unfold oCfg ooE
    rw [← mapB, List.map_replicate]
    rfl
   simp only at h1
   rw [h2] at h1
   exact h1.aw
  have hlp : p.length < 1000000000 := by omega
  exact qU { obm := fun f s => Nat.beq f 78 && Nat.beq s 17, calls := qC 78 85 104 (fits_of (reverseC p (1 + p.length) hlp)), weaks := fun f q => if f = 78 then (if q = 18 then some (wN 4 36 p.length p.reverse (by simp)) else none) else none, nils2 := fun f q => if f = 78 then (if q = 6 then [⟨0, 4, 36, 1, true, true⟩] else []) else [], loops := qO 78 7 (qP hl), hint := qT 78 [(9, hLenG Pg g), (10, hEq Pg ((g.length : Nat) : Int) 0 false (beq_eq_false_iff_ne.2 (by omega))), (12, hLenG Pg g), (13, .mk ((g.length : Nat) : Int) (by omega) (by omega)), (15, hInb Pg 0 g.length h0), (104002, .elt (List.replicate g.length (dB false)) (0 + 0) (dB false) (by simp [h0]))] }
end
end Go.Avm
namespace Go.Avm
open Go.Proofs
theorem lw_inv {P : Program} {N : Nat} {c : Code} {V W : Type} (n : Nat) (I : Nat → V → Prop) (S : Nat → V → Heap → St) (J : W → Prop) (Z : W → Heap → St) {e : AExit} (he : e ≠ .normal)
    (hR : ∀ i, i < n → ∀ u, I i u → ∃ u', I (i + 1) u' ∧ ∀ (rest : Heap) (X : Fix), X.P = P → X.N = N → AW X c (S i u rest) fun e' S' => e' = .normal ∧ Weak X S' (S (i + 1) u' rest))
    (hE : ∀ u, I n u → ∃ u', J u' ∧ ∀ (rest : Heap) (X : Fix), X.P = P → X.N = N → AW X c (S n u rest) fun e' S' => e' = e ∧ Weak X S' (Z u' rest)) (u : V) (h0 : I 0 u) :
    ∃ u', J u' ∧ ∀ (rest : Heap) (X : Fix), X.P = P → X.N = N → AW X (.loop c) (S 0 u rest) fun e' S' => e' = e ∧ S' = Z u' rest := by
 have key : ∀ (m i : Nat) (u : V), n - i = m → i ≤ n → I i u → ∃ u', J u' ∧ ∀ (rest : Heap) (X : Fix), X.P = P → X.N = N → LW X c (S i u rest) fun e' S' => e' = e ∧ S' = Z u' rest := by
  intro m
  induction m with
  | zero =>
   intro i u hm hi h0
   have : i = n := by omega
   subst this
   obtain ⟨u', hj, h⟩ := hE u h0
   exact ⟨u', hj, fun rest X hP hN => lw_end (h rest X hP hN) he⟩
  | succ m ih =>
   intro i u hm hi h0
   obtain ⟨u1, hi1, h1⟩ := hR i (by omega) u h0
   obtain ⟨u', hj, h2⟩ := ih (i + 1) u1 (by omega) (by omega) hi1
   exact ⟨u', hj, fun rest X hP hN => lw_seg (h1 rest X hP hN) (h2 rest X hP hN)⟩
 obtain ⟨u', hj, h⟩ := key n 0 u rfl (Nat.zero_le _) h0
 exact ⟨u', hj, fun rest X hP hN => (h rest X hP hN).aw⟩
def tm (u : Nat → Nat) : List Nat → Nat → List (Nat × Ent)
 | [], _ => []
 | k :: r, n => (k, ⟨u n, none⟩) :: tm u r (n + 1)
def addL (u : Nat → Nat) (cs : List Nat) : Nat → Nat := fun j => u j + cs.getD j 0
theorem viewL_app (f : AV → Option (D × List Nat)) : ∀ (a b : List AV) (x y : List D), viewL f a = some (x, []) → viewL f b = some (y, []) → viewL f (a ++ b) = some (x ++ y, [])
 | [], b, x, y, h1, h2 => by
  simp only [viewL, Option.some.injEq, Prod.mk.injEq] at h1
  obtain ⟨rfl, _⟩ := h1
  simpa using h2
 | v :: a, b, x, y, h1, h2 => by
  simp only [List.cons_append, viewL] at h1 ⊢
  split at h1
  ·rename_i p q hp hq
   simp only [Option.some.injEq, Prod.mk.injEq, List.append_eq_nil_iff] at h1
   obtain ⟨rfl, h3, h4⟩ := h1
   obtain ⟨q1, q2⟩ := q
   simp only at h4
   subst h4
   rw [viewL_app f a b q1 y hq h2, hp]
   simp [h3]
  ·cases h1
theorem set_idem {α : Type} {l : List α} {i : Nat} {x : α} (h : l[i]? = some x) : l.set i x = l := by
 apply List.ext_getElem?
 intro j
 rw [List.getElem?_set]
 split
 ·rename_i hij
  subst hij
  split
  ·exact h.symm
  ·rename_i hn
   rw [List.getElem?_eq_none (by omega)]
 ·rfl
def succB (b : BlkR) : List Int := if b.fin = 1 then [b.to] else if b.fin = 2 then [b.to, b.els] else []
def graphOf (f : FunR) : List (List Int) := f.blocks.map succB
def grL (f : FunR) (i : Nat) : List (Nat × AV) := [(3, .sl 209 1 0 f.blocks.length 1), (11, .d (blksD f.blocks)), (12, dN f.blocks.length), (13, dN i)]
def grE (n : Nat) (es : List AV) (u : Nat × Nat × Nat) : List (Nat × Ent) := [(209, ⟨1, some (.arr 1 (es ++ List.replicate (n - es.length) .nils))⟩), (500165, ⟨u.1, none⟩), (500708, ⟨u.2.1, none⟩), (500716, ⟨u.2.2, none⟩)]
section
variable (f : FunR) (i n : Nat) (es : List AV) (u : Nat × Nat × Nat) (b : BlkR)
theorem grHole (hi : i < n) (he : es.length = i) : (es ++ List.replicate (n - es.length) AV.nils)[0 + i]? = some .nils := by
 rw [Nat.zero_add, List.getElem?_append_right (by omega), List.getElem?_replicate, if_pos (by omega)]
theorem grFill (hi : i < n) (he : es.length = i) (x : AV) : (es ++ List.replicate (n - es.length) AV.nils).set (0 + i) x = (es ++ [x]) ++ List.replicate (n - (es ++ [x]).length) .nils := by
 rw [Nat.zero_add, List.set_append_right _ _ (by omega), he, Nat.sub_self, List.length_append, he]
 obtain ⟨m, hm⟩ : ∃ m, n - i = m + 1 := ⟨n - i - 1, by omega⟩
 rw [hm, List.replicate_succ, List.set_cons_zero]
 simp only [List.length_cons, List.length_nil, Nat.zero_add, List.append_assoc, List.cons_append, List.nil_append]
 rw [show n - (i + 1) = m by omega]
section
variable (hi : i < f.blocks.length) (hl : f.blocks.length < 4000000) (he : es.length = i) (hx : f.blocks[i]? = some b)
include hi hl he hx
theorem gr2 (h2 : b.fin = 2) : RW 40 (lO 27 3) (grL f i) (grE f.blocks.length es u) .normal (grL f (i + 1)) (grE f.blocks.length (es ++ [.vec 500708 (u.2.1 + 1) 1 [.int .i64 b.to, .int .i64 b.els]]) (u.1 + 1, u.2.1 + 1, u.2.2)) := by
 intro rest X hP hN
 unfold grE
 rw [← grFill i f.blocks.length es hi he]
 exact seg okP named { hint := qT 27 [(14, qL hi), (16, hIxM Pg blkD f.blocks i b hx), (21, hEq Pg b.fin 2 true (by simp [h2])), (29, hInb Pg i f.blocks.length hi), (107008, .elt (es ++ List.replicate (f.blocks.length - es.length) AV.nils) (0 + i) .nils (grHole i f.blocks.length es hi he)), (38, hSucc Pg i (by omega))] } 2000 27 500000 40 (by kernel_rfl) X hP hN
theorem gr1 (h2 : b.fin = 1) : RW 40 (lO 27 3) (grL f i) (grE f.blocks.length es u) .normal (grL f (i + 1)) (grE f.blocks.length (es ++ [.vec 500716 (u.2.2 + 1) 1 [.int .i64 b.to]]) (u.1 + 1, u.2.1, u.2.2 + 1)) := by
 intro rest X hP hN
 unfold grE
 rw [← grFill i f.blocks.length es hi he]
 exact seg okP named { hint := qT 27 [(14, qL hi), (16, hIxM Pg blkD f.blocks i b hx), (21, hEq Pg b.fin 2 false (by simp [h2])), (31, hEq Pg b.fin 1 true (by simp [h2])), (37, hInb Pg i f.blocks.length hi), (109006, .elt (es ++ List.replicate (f.blocks.length - es.length) AV.nils) (0 + i) .nils (grHole i f.blocks.length es hi he)), (38, hSucc Pg i (by omega))] } 2000 27 500000 40 (by kernel_rfl) X hP hN
theorem gr0 (h1 : b.fin ≠ 1) (h2 : b.fin ≠ 2) : RW 40 (lO 27 3) (grL f i) (grE f.blocks.length es u) .normal (grL f (i + 1)) (grE f.blocks.length (es ++ [.nils]) (u.1 + 1, u.2.1, u.2.2)) := by
 intro rest X hP hN
 have e : es ++ List.replicate (f.blocks.length - es.length) AV.nils = (es ++ [.nils]) ++ List.replicate (f.blocks.length - (es ++ [AV.nils]).length) .nils := by
  rw [← grFill i f.blocks.length es hi he, Nat.zero_add]
  exact (set_idem (by have := grHole i f.blocks.length es hi he; rwa [Nat.zero_add] at this)).symm
 unfold grE
 rw [← e]
 exact seg okP named { hint := qT 27 [(14, qL hi), (16, hIxM Pg blkD f.blocks i b hx), (21, hEq Pg b.fin 2 false (by simp [h2])), (31, hEq Pg b.fin 1 false (by simp [h1])), (38, hSucc Pg i (by omega))] } 2000 27 500000 40 (by kernel_rfl) X hP hN
end
theorem grStop : RW 40 (lO 27 3) (grL f f.blocks.length) (grE f.blocks.length es u) (.exit 0) [(3, .sl 209 1 0 f.blocks.length 1)] (grE f.blocks.length es u) := qS { hint := qT 27 [(14, qG f.blocks.length)] } 27 500000
theorem grLoop (hl : f.blocks.length < 4000000) : ∃ u' : List AV × Nat × Nat × Nat, (u'.1.length = f.blocks.length ∧ ∀ h : Heap, viewL (view 3 h) u'.1 = some ((graphOf f).map rowD, [])) ∧ RE 40 (.loop (lO 27 3)) (grL f 0) (grE f.blocks.length [] (0, 0, 0)) (.exit 0) [(3, .sl 209 1 0 f.blocks.length 1)] (grE f.blocks.length u'.1 u'.2) := by
 refine lw_inv (P := Pg) (N := 40) (c := loopOf Pg 27 3) f.blocks.length (fun i (u : List AV × Nat × Nat × Nat) => u.1.length = i ∧ ∀ h : Heap, viewL (view 3 h) u.1 = some (((f.blocks.take i).map succB).map rowD, []))
  (fun i u rest => ⟨envOf (grL f i), ovl (grE f.blocks.length u.1 u.2) rest⟩) _ (fun u rest => ⟨envOf [(3, .sl 209 1 0 f.blocks.length 1)], ovl (grE f.blocks.length u.1 u.2) rest⟩) (e := .exit 0) (by simp) (fun i hi u hu => ?_) (fun u hu => ⟨u, by rw [List.take_length] at hu; exact hu, fun rest X hP hN => grStop f u.1 u.2 rest X hP hN⟩) ([], 0, 0, 0) ⟨rfl, fun h => rfl⟩
 obtain ⟨es, u⟩ := u
 obtain ⟨h1, h2⟩ := hu
 have hstep : ∀ x : AV, (∀ h : Heap, viewL (view 3 h) [x] = some ([rowD (succB f.blocks[i])], [])) → (es ++ [x]).length = i + 1 ∧ ∀ h : Heap, viewL (view 3 h) (es ++ [x]) = some (((f.blocks.take (i + 1)).map succB).map rowD, []) := fun x hx => ⟨by simp only [List.length_append, List.length_cons, List.length_nil]; simp only at h1; omega, fun h => by
  rw [take_snoc succB (get_of hi), List.map_append]
  exact viewL_app _ _ _ _ _ (h2 h) (hx h)⟩
 by_cases c2 : f.blocks[i].fin = 2
 ·exact ⟨(es ++ [.vec 500708 (u.2.1 + 1) 1 [.int .i64 f.blocks[i].to, .int .i64 f.blocks[i].els]], (u.1 + 1, u.2.1 + 1, u.2.2)), hstep _ (fun h => by rw [show succB f.blocks[i] = [f.blocks[i].to, f.blocks[i].els] by simp [succB, c2]]; rfl), fun rest X hP hN => gr2 f i es u f.blocks[i] hi hl h1 (get_of hi) c2 rest X hP hN⟩
 ·by_cases c1 : f.blocks[i].fin = 1
  ·exact ⟨(es ++ [.vec 500716 (u.2.2 + 1) 1 [.int .i64 f.blocks[i].to]], (u.1 + 1, u.2.1, u.2.2 + 1)), hstep _ (fun h => by rw [show succB f.blocks[i] = [f.blocks[i].to] by simp [succB, c1]]; rfl), fun rest X hP hN => gr1 f i es u f.blocks[i] hi hl h1 (get_of hi) c1 rest X hP hN⟩
  ·exact ⟨(es ++ [.nils], (u.1 + 1, u.2.1, u.2.2)), hstep _ (fun h => by rw [show succB f.blocks[i] = [] by simp [succB, c1, c2]]; rfl), fun rest X hP hN => gr0 f i es u f.blocks[i] hi hl h1 (get_of hi) c1 c2 rest X hP hN⟩
end
theorem graph27 (f : FunR) (hl : f.blocks.length < 4000000) : Pure Pg 27 [funD f] [rowsD (graphOf f)] := by
 obtain ⟨⟨es, u⟩, ⟨h1, h2⟩, h⟩ := grLoop f hl
 simp only at h1 h2 h
 have hz : grE f.blocks.length [] (0, 0, 0) = [(209, ⟨1, some (.arr 1 (List.replicate f.blocks.length .nils))⟩), (500165, ⟨0, none⟩), (500708, ⟨0, none⟩), (500716, ⟨0, none⟩)] := by simp [grE]
 have hz' : grE f.blocks.length es u = [(209, ⟨1, some (.arr 1 es)⟩), (500165, ⟨u.1, none⟩), (500708, ⟨u.2.1, none⟩), (500716, ⟨u.2.2, none⟩)] := by simp [grE, h1]
 rw [hz, hz'] at h
 exact qU { weaks := fun f' q => if f' = 27 then (if q = 11 then some ⟨3, 209, f.blocks.length, es, (graphOf f).map rowD, h1, h2⟩ else none) else none, loops := qO 27 3 (qP h), hint := qT 27 [(8, hLenM Pg blkD f.blocks), (9, .mk ((f.blocks.length : Nat) : Int) (by omega) (by omega)), (12, hLenM Pg blkD f.blocks)] }
def grR (f : FunR) (vo i : Nat) : List (Nat × AV) := [(3, .vec 12 vo 1 ((f.blocks.take i).map fun b => rowD (succB b))), (8, .d (blksD f.blocks)), (9, dN f.blocks.length), (10, dN i)]
def grRE (vo : Nat) (u : Nat → Nat) : List (Nat × Ent) := (12, ⟨vo, none⟩) :: tm u [500107, 500393, 500571, 500642, 500710, 500506] 0
section
variable (f : FunR) (vo i : Nat) (u : Nat → Nat) (b : BlkR)
section
variable (hi : i < f.blocks.length) (hl : f.blocks.length < 4000000) (hx : f.blocks[i]? = some b)
include hi hl hx
theorem grr1 (h1 : b.fin = 1) : RW 34 (lO 29 3) (grR f vo i) (grRE vo u) .normal (grR f (vo + 1) (i + 1)) (grRE (vo + 1) (addL u [1, 1, 0, 1])) := by
 intro rest X hP hN
 unfold grR
 rw [take_snoc (fun b => rowD (succB b)) hx, show succB b = [b.to] by simp [succB, h1]]
 exact seg okP named { hint := qT 29 [(11, qL hi), (12, hIxM Pg blkD f.blocks i b hx), (16, hEq Pg b.fin 1 true (by simp [h1])), (22, hEq Pg b.fin 2 false (by simp [h1])), (31, .app ((f.blocks.take i).map fun b => rowD (succB b)) 1 (by simp; omega)), (32, hSucc Pg i (by omega))] } 2000 29 500000 34 (by kernel_rfl) X hP hN
theorem grr2 (h2 : b.fin = 2) : RW 34 (lO 29 3) (grR f vo i) (grRE vo u) .normal (grR f (vo + 1) (i + 1)) (grRE (vo + 1) (addL u [1, 0, 1, 0, 1])) := by
 intro rest X hP hN
 unfold grR
 rw [take_snoc (fun b => rowD (succB b)) hx, show succB b = [b.to, b.els] by simp [succB, h2]]
 exact seg okP named { hint := qT 29 [(11, qL hi), (12, hIxM Pg blkD f.blocks i b hx), (16, hEq Pg b.fin 1 false (by simp [h2])), (22, hEq Pg b.fin 2 true (by simp [h2])), (31, .app ((f.blocks.take i).map fun b => rowD (succB b)) 1 (by simp; omega)), (32, hSucc Pg i (by omega))] } 2000 29 500000 34 (by kernel_rfl) X hP hN
theorem grr0 (h1 : b.fin ≠ 1) (h2 : b.fin ≠ 2) : RW 34 (lO 29 3) (grR f vo i) (grRE vo u) .normal (grR f (vo + 1) (i + 1)) (grRE (vo + 1) (addL u [1, 0, 0, 0, 0, 1])) := by
 intro rest X hP hN
 unfold grR
 rw [take_snoc (fun b => rowD (succB b)) hx, show succB b = [] by simp [succB, h1, h2]]
 exact seg okP named { hint := qT 29 [(11, qL hi), (12, hIxM Pg blkD f.blocks i b hx), (16, hEq Pg b.fin 1 false (by simp [h1])), (22, hEq Pg b.fin 2 false (by simp [h2])), (31, .app ((f.blocks.take i).map fun b => rowD (succB b)) 1 (by simp; omega)), (32, hSucc Pg i (by omega))] } 2000 29 500000 34 (by kernel_rfl) X hP hN
end
theorem grrStop : RW 34 (lO 29 3) (grR f vo f.blocks.length) (grRE vo u) (.exit 0) [(3, .vec 12 vo 1 (f.blocks.map fun b => rowD (succB b)))] (grRE vo u) := by
 intro rest X hP hN
 unfold grR
 rw [List.take_length]
 exact seg okP named { hint := qT 29 [(11, qG f.blocks.length)] } 2000 29 500000 34 (by kernel_rfl) X hP hN
theorem grrLoop (hl : f.blocks.length < 4000000) : ∃ u', RE 34 (.loop (lO 29 3)) (grR f 0 0) (grRE 0 u) (.exit 0) [(3, .vec 12 f.blocks.length 1 (f.blocks.map fun b => rowD (succB b)))] (grRE f.blocks.length u') :=
 lw_ver (P := Pg) (N := 34) (c := loopOf Pg 29 3) f.blocks.length (fun i u rest => ⟨envOf (grR f i i), ovl (grRE i u) rest⟩) (fun u rest => ⟨envOf [(3, .vec 12 f.blocks.length 1 (f.blocks.map fun b => rowD (succB b)))], ovl (grRE f.blocks.length u) rest⟩) (e := .exit 0) (by simp) (fun i hi u => by
  by_cases c1 : f.blocks[i].fin = 1
  ·exact ⟨addL u [1, 1, 0, 1], fun rest X hP hN => grr1 f i i u f.blocks[i] hi hl (get_of hi) c1 rest X hP hN⟩
  ·by_cases c2 : f.blocks[i].fin = 2
   ·exact ⟨addL u [1, 0, 1, 0, 1], fun rest X hP hN => grr2 f i i u f.blocks[i] hi hl (get_of hi) c2 rest X hP hN⟩
   ·exact ⟨addL u [1, 0, 0, 0, 0, 1], fun rest X hP hN => grr0 f i i u f.blocks[i] hi hl (get_of hi) c1 c2 rest X hP hN⟩) (fun u => ⟨u, fun rest X hP hN => grrStop f f.blocks.length u rest X hP hN⟩) u
end
theorem graph29 (f : FunR) (hl : f.blocks.length < 4000000) : Pure Pg 29 [funD f] [rowsD (graphOf f)] := by
 obtain ⟨u, h⟩ := grrLoop f (fun _ => 0) hl
 have e : rowsD (graphOf f) = .ro (f.blocks.map fun b => rowD (succB b)) := by simp [rowsD, graphOf]
 rw [e]
 exact qU { nils2 := fun f q => if f = 29 then (if q = 2 then [⟨0, 3, 12, 1, true, false⟩] else []) else [], loops := qO 29 3 (qP h), hint := qT 29 [(9, hLenM Pg blkD f.blocks)] }
end Go.Avm
namespace Go.Avm
open Go.Proofs Go.RowKit
def RowsK (K n : Nat) (h : Heap) (cs : List AV) (rows : List (List Int)) : Prop :=
 cs.length = n ∧ rows.length = n ∧ ∀ a, a < n → ∃ c r, cs[a]? = some c ∧ rows[a]? = some r ∧ RowAt h (K + a) c r
theorem RowsK.nils (K n : Nat) (h : Heap) : RowsK K n h (List.replicate n .nils) (List.replicate n []) :=
 ⟨by simp, by simp, fun a ha => ⟨.nils, [], by simp [ha], by simp [ha], .inl ⟨rfl, rfl⟩⟩⟩
theorem RowsK.congr {K n : Nat} {h h' : Heap} {cs : List AV} {rows : List (List Int)} (hR : RowsK K n h cs rows) (he : ∀ a, a < n → h' (K + a) = h (K + a)) : RowsK K n h' cs rows :=
 ⟨hR.1, hR.2.1, fun a ha => by
  obtain ⟨c, r, h1, h2, h3⟩ := hR.2.2 a ha
  exact ⟨c, r, h1, h2, h3.congr (he a ha)⟩⟩
def verOnly (h : Heap) (ks : List Nat) : List (Nat × Ent) := ks.map fun k => (k, ⟨(h k).ver, none⟩)
theorem verOnly_fits (h : Heap) (ks : List Nat) : Fits h (verOnly h ks) := fun p hp => by
 simp only [verOnly, List.mem_map] at hp
 obtain ⟨k, _, rfl⟩ := hp
 exact ⟨rfl, .inl rfl⟩
theorem weak_fitsX {h : Heap} {l : List (Nat × Ent)} (hf : Fits h l) : WeakH h (ovl l h) := fun X env => weak_heap (ovl_sub h l hf)
theorem rowStep {P : Program} {N : Nat} {c : Code} {l l' : List (Nat × AV)} {C A K n vC b : Nat} {Ts : List Nat} {cs : List AV} {rows : List (List Int)} {r r' : List Int} {h : Heap}
    (kAC : A ≠ C) (kK : ∀ t, t < n → K + t ≠ C ∧ K + t ≠ A ∧ K + t ∉ Ts) (kT : C ∉ Ts ∧ A ∉ Ts) (hC : h C = ⟨vC, some (.arr 1 cs)⟩) (hR : RowsK K n h cs rows) (hb : b < n) (hr : rows[b]? = some r)
    (hseg : ∀ (cs1 : List AV) (vA : Nat) (rest : Heap), cs1[0 + b]? = some (.sl A vA 0 r.length 1) → cs1.length = n → ∃ (vA' : Nat) (tmp' : List (Nat × Ent)), tmp'.map (·.1) = Ts ∧
     ∀ X : Fix, X.P = P → X.N = N → AW X c ⟨envOf l, ovl ((C, ⟨vC, some (.arr 1 cs1)⟩) :: (A, ⟨vA, some (.arr 1 (r.map dI))⟩) :: verOnly rest Ts) rest⟩ fun e' S' => e' = .normal ∧ Weak X S' ⟨envOf l', ovl ((C, ⟨vC, some (.arr 1 (cs1.set (0 + b) (.sl A vA' 0 r'.length 1)))⟩) :: (A, ⟨vA', some (.arr 1 (r'.map dI))⟩) :: tmp') rest⟩) :
    ∃ h' cs', h' C = ⟨vC, some (.arr 1 cs')⟩ ∧ RowsK K n h' cs' (rows.set b r') ∧ (∀ k, k ≠ C → k ≠ A → k ≠ K + b → k ∉ Ts → h' k = h k) ∧
     ∀ X : Fix, X.P = P → X.N = N → AW X c ⟨envOf l, h⟩ fun e' S' => e' = .normal ∧ Weak X S' ⟨envOf l', h'⟩ := by
 obtain ⟨hcl, hrl, hRr⟩ := hR
 obtain ⟨cb, rb, hcb, hrb, hRb⟩ := hRr b hb
 rw [hr] at hrb
 cases hrb
 obtain ⟨vA, h1, w1, f1, c1, o1⟩ := focus (A := A) (kK b hb).2.1 (Ne.symm (kK b hb).1) (Ne.symm kAC) hC hcb hRb
 have hset : (cs.set b (.sl A vA 0 r.length 1))[0 + b]? = some (.sl A vA 0 r.length 1) := by rw [Nat.zero_add, List.getElem?_set_self (by omega)]
 have hfit : Fits h1 ((C, ⟨vC, some (.arr 1 (cs.set b (.sl A vA 0 r.length 1)))⟩) :: (A, ⟨vA, some (.arr 1 (r.map dI))⟩) :: verOnly h1 Ts) := by
  intro p hp
  simp only [List.mem_cons] at hp
  rcases hp with rfl | rfl | hp
  ·exact ⟨by rw [c1], .inr (by rw [c1])⟩
  ·exact ⟨by rw [f1], .inr (by rw [f1])⟩
  ·exact verOnly_fits h1 Ts p hp
 obtain ⟨vA', tmp', ht, hs⟩ := hseg (cs.set b (.sl A vA 0 r.length 1)) vA h1 hset (by simpa using hcl)
 generalize hcs3 : (cs.set b (.sl A vA 0 r.length 1)).set (0 + b) (.sl A vA' 0 r'.length 1) = cs3 at hs
 have hcs3b : cs3[b]? = some (.sl A vA' 0 r'.length 1) := by rw [← hcs3, Nat.zero_add, List.getElem?_set_self (by simp; omega)]
 have hcs3o : ∀ t, t ≠ b → cs3[t]? = cs[t]? := fun t ht => by rw [← hcs3, Nat.zero_add, List.getElem?_set_ne (Ne.symm ht), List.getElem?_set_ne (Ne.symm ht)]
 have hcs3l : cs3.length = n := by rw [← hcs3]; simpa using hcl
 generalize hh3 : ovl ((C, ⟨vC, some (.arr 1 cs3)⟩) :: (A, ⟨vA', some (.arr 1 (r'.map dI))⟩) :: tmp') h1 = h3 at hs
 have e1 : h3 C = ⟨vC, some (.arr 1 cs3)⟩ := by rw [← hh3]; simp only [ovl, upd_same]
 have e2 : h3 A = ⟨vA', some (.arr 1 (r'.map dI))⟩ := by
  rw [← hh3]
  simp only [ovl]
  rw [upd_ne _ _ kAC, upd_same]
 have ho3 : ∀ k, k ≠ C → k ≠ A → k ∉ Ts → h3 k = h1 k := fun k k1 k2 k3 => by
  rw [← hh3]
  refine ovl_ne _ _ ?_
  simp only [List.map_cons, ht, List.mem_cons, not_or]
  exact ⟨k1, k2, k3⟩
 obtain ⟨y, h4, w4, r4, c4, _, o4⟩ := unfocus (A := A) (K := K + b) (a := b) (r := r') (Ne.symm (kK b hb).2.1) (Ne.symm (kK b hb).1) (Ne.symm kAC) e1 hcs3b e2
 refine ⟨h4, cs3.set b y, c4, ⟨by simpa using hcs3l, by simpa using hrl, fun t ht => ?_⟩, fun k k1 k2 k3 k4 => ?_, fun X hP hN => ?_⟩
 ·by_cases htb : t = b
  ·subst htb
   exact ⟨y, r', by rw [List.getElem?_set_self (by omega)], by rw [List.getElem?_set_self (by omega)], r4⟩
  ·obtain ⟨c, r0, g1, g2, g3⟩ := hRr t ht
   refine ⟨c, r0, by rw [List.getElem?_set_ne (Ne.symm htb), hcs3o t htb]; exact g1, by rw [List.getElem?_set_ne (Ne.symm htb)]; exact g2, g3.congr ?_⟩
   have k1 := kK t ht
   rw [o4 _ k1.2.1 k1.1 (by omega), ho3 _ k1.1 k1.2.1 k1.2.2, o1 _ k1.2.1 k1.1 (by omega)]
 ·rw [o4 _ k2 k1 k3, ho3 _ k1 k2 k4, o1 _ k2 k1 k3]
 ·refine AW.weak ((w1.trans (weak_fitsX hfit)) X _) ((hs X hP hN).mono ?_)
  rintro e' S' ⟨he, hw⟩
  exact ⟨he, hw.trans (w4 X _)⟩
theorem freezeK {K n C vC : Nat} {rows : List (List Int)} (hrl : rows.length = n) (kC : ∀ t, t < n → K + t ≠ C) : ∀ (m i : Nat) (h : Heap) (cs : List AV), n - i = m → i ≤ n → h C = ⟨vC, some (.arr 1 cs)⟩ → cs.length = n →
    (∀ t r, t < i → rows[t]? = some r → cs[t]? = some (.d (rowD r))) → (∀ t, i ≤ t → t < n → ∃ c r, cs[t]? = some c ∧ rows[t]? = some r ∧ RowAt h (K + t) c r) →
    ∃ h', WeakH h h' ∧ h' C = ⟨vC, some (.arr 1 (rows.map fun r => .d (rowD r)))⟩ ∧ ∀ k, k ≠ C → (∀ t, t < n → k ≠ K + t) → h' k = h k
 | 0, i, h, cs, hm, hi, hC, hl, hd, hr => by
  have hin : i = n := by omega
  subst hin
  refine ⟨h, WeakH.refl h, ?_, fun _ _ _ => rfl⟩
  rw [hC]
  congr 3
  apply List.ext_getElem?
  intro t
  rcases Nat.lt_or_ge t i with ht | ht
  ·rw [hd t rows[t] ht (List.getElem?_eq_getElem (by omega)), List.getElem?_map, List.getElem?_eq_getElem (by omega)]
   rfl
  ·rw [List.getElem?_eq_none (by omega), List.getElem?_eq_none (by simp; omega)]
 | m + 1, i, h, cs, hm, hi, hC, hl, hd, hr => by
  have hlt : i < n := by omega
  obtain ⟨c, r, h1, h2, h3⟩ := hr i (Nat.le_refl _) hlt
  obtain ⟨h', w, c', o⟩ := freezeRow (Ne.symm (kC i hlt)) hC h1 h3
  obtain ⟨h'', w2, c2, o2⟩ := freezeK hrl kC m (i + 1) h' (cs.set i (.d (.ro (r.map fun x => .int .i64 x)))) (by omega) (by omega) c' (by simpa using hl) (fun t q ht hq => by
   by_cases hti : t = i
   ·subst hti
    rw [h2] at hq
    cases hq
    rw [List.getElem?_set_self (by omega)]
   ·rw [List.getElem?_set_ne (Ne.symm hti)]
    exact hd t q (by omega) hq) (fun t ht htn => by
   obtain ⟨c0, r0, g1, g2, g3⟩ := hr t (by omega) htn
   exact ⟨c0, r0, by rw [List.getElem?_set_ne (by omega)]; exact g1, g2, g3.congr (o _ (kC t htn) (by omega))⟩)
  exact ⟨h'', w.trans w2, c2, fun k k1 k2 => (o2 k k1 k2).trans (o k k1 (k2 i hlt))⟩
theorem freezeRowsK {K n C vC : Nat} {rows : List (List Int)} {h : Heap} {cs : List AV} (kC : ∀ t, t < n → K + t ≠ C) (hC : h C = ⟨vC, some (.arr 1 cs)⟩) (hR : RowsK K n h cs rows) :
    ∃ h', WeakH h h' ∧ h' C = ⟨vC, some (.arr 1 (rows.map fun r => .d (rowD r)))⟩ ∧ ∀ k, k ≠ C → (∀ t, t < n → k ≠ K + t) → h' k = h k :=
 freezeK hR.2.1 kC n 0 h cs rfl (Nat.zero_le _) hC hR.1 (fun t _ ht => by omega) (fun t _ ht => hR.2.2 t ht)
end Go.Avm
namespace Go.Avm
open Go.Proofs Go.Avm.Dom
def inI (g : Graph) (vC a : Nat) (r : List Nat) (k : Nat) : List (Nat × AV) := [(3, .sl 182 vC 0 g.length 1), (4, dN a), (12, .d (rowsN g)), (13, dN g.length), (14, dN a), (19, .d (rowN r)), (20, dN r.length), (21, dN k)]
def inO (g : Graph) (vC a : Nat) : List (Nat × AV) := [(3, .sl 182 vC 0 g.length 1), (12, .d (rowsN g)), (13, dN g.length), (14, dN a)]
def inE (vC : Nat) (cs : List AV) (vA : Nat) (row : List Int) (w w2 : Nat) : List (Nat × Ent) := [(182, ⟨vC, some (.arr 1 cs)⟩), (37, ⟨vA, some (.arr 1 (row.map dI))⟩), (501248, ⟨w, none⟩), (501818, ⟨w2, none⟩)]
theorem dI_app (row : List Int) (x : Int) : (row.map dI).take row.length ++ [dI x] = (row ++ [x]).map dI := by
 rw [List.take_of_length_le (by simp), List.map_append]
 rfl
section
variable (g : Graph) (vC a : Nat) (r : List Nat) (k b : Nat) (cs : List AV) (vA : Nat) (row : List Int) (w w2 : Nat)
section
variable (hk : k < r.length) (hr : r.length < 1000000000) (hb : r[k]? = some b) (hbl : b < g.length)
include hk hr hb hbl
theorem inNew (hc : cs[0 + b]? = some (.sl 37 vA 0 0 1)) : RW 57 (lO 75 6) (inI g vC a r k) (inE vC cs vA [] w w2) .normal (inI g vC a r (k + 1)) (inE vC (cs.set (0 + b) (.sl 37 (vA + 1) 0 1 1)) (vA + 1) [(a : Int)] (w + 1) w2) := qS { hint := qT 75 [(22, qL hk), (23, hIxN Pg r k b hb), (27, hInb Pg b g.length hbl), (28, .elt cs (0 + b) _ hc), (48, hInb Pg b g.length hbl), (49, .elt cs (0 + b) _ hc), (52, .apps [] 0 1 (by omega)), (53, hInb Pg b g.length hbl), (110010, .elt cs (0 + b) _ hc), (54, hSucc Pg k (by omega))] } 75 500000
theorem inMore (q : Nat) (y : Int) (hrl : row.length < 1000000000) (hc : cs[0 + b]? = some (.sl 37 vA 0 row.length 1)) (hq : row.length = q + 1) (hy : row[q]? = some y) (hne : (!(y == (a : Int))) = true) : RW 57 (lO 75 6) (inI g vC a r k) (inE vC cs vA row w w2) .normal (inI g vC a r (k + 1)) (inE vC (cs.set (0 + b) (.sl 37 (vA + 1) 0 (row ++ [(a : Int)]).length 1)) (vA + 1) (row ++ [(a : Int)]) w (w2 + 1)) := by
 intro rest X hP hN
 unfold inE
 rw [← dI_app, List.length_append]
 exact seg okP named { hint := qT 75 [(22, qL hk), (23, hIxN Pg r k b hb), (27, hInb Pg b g.length hbl), (28, .elt cs (0 + b) _ hc), (31, hEq Pg (row.length : Int) 0 false (beq_eq_false_iff_ne.2 (by omega))), (35, hInb Pg b g.length hbl), (36, .elt cs (0 + b) _ hc), (38, hNat Pg (IntKind.i64.wrap ((row.length : Int) - 1)) q (by rw [IntWalk.i64_in _ (by omega)]; omega)), (39, hInb Pg q row.length (by omega)), (40, hElI Pg row q y hy), (42, hNeq Pg _ _ _ hne), (48, hInb Pg b g.length hbl), (49, .elt cs (0 + b) _ hc), (52, .apps (row.map dI) row.length 1 ⟨by simp, by omega⟩), (53, hInb Pg b g.length hbl), (110010, .elt cs (0 + b) _ hc), (54, hSucc Pg k (by omega))] } 2000 75 500000 57 (by kernel_rfl) X hP hN
theorem inSame (q : Nat) (y : Int) (hrl : row.length < 1000000000) (hc : cs[0 + b]? = some (.sl 37 vA 0 row.length 1)) (hq : row.length = q + 1) (hy : row[q]? = some y) (hne : (!(y == (a : Int))) = false) : RW 57 (lO 75 6) (inI g vC a r k) (inE vC cs vA row w w2) .normal (inI g vC a r (k + 1)) (inE vC cs vA row w w2) := qS { hint := qT 75 [(22, qL hk), (23, hIxN Pg r k b hb), (27, hInb Pg b g.length hbl), (28, .elt cs (0 + b) _ hc), (31, hEq Pg (row.length : Int) 0 false (beq_eq_false_iff_ne.2 (by omega))), (35, hInb Pg b g.length hbl), (36, .elt cs (0 + b) _ hc), (38, hNat Pg (IntKind.i64.wrap ((row.length : Int) - 1)) q (by rw [IntWalk.i64_in _ (by omega)]; omega)), (39, hInb Pg q row.length (by omega)), (40, hElI Pg row q y hy), (42, hNeq Pg _ _ _ hne), (54, hSucc Pg k (by omega))] } 75 500000
end
end
section
variable (g : Graph) (vC a : Nat) (r : List Nat) (l : List (Nat × Ent))
theorem inIStop : RW 57 (lO 75 6) (inI g vC a r r.length) [] (.exit 2) (inO g vC a) [] := qS { hint := qT 75 [(22, qG r.length)] } 75 500000
end
def inAt (g : Graph) (a k b : Nat) : List Nat := (List.range a).filter (fun p => decide (b ∈ succ g p)) ++ (if b ∈ (succ g a).take k then [a] else [])
def inRows (g : Graph) (a k : Nat) : List (List Int) := (List.range g.length).map fun b => natR (inAt g a k b)
def intoOf (g : Graph) : List (List Nat) := (List.range g.length).map fun b => (List.range g.length).filter fun p => decide (b ∈ succ g p)
theorem inRows_len (g : Graph) (a k : Nat) : (inRows g a k).length = g.length := by simp [inRows]
theorem inRows_get {g : Graph} {a k b : Nat} (h : b < g.length) : (inRows g a k)[b]? = some (natR (inAt g a k b)) := by simp [inRows, h]
theorem inRows_next (g : Graph) (a : Nat) : inRows g (a + 1) 0 = inRows g a (succ g a).length := by
 unfold inRows inAt
 congr 1
 funext b
 simp only [List.take_zero, List.not_mem_nil, if_false, List.append_nil, List.take_length, List.range_succ, List.filter_append]
 congr 2
 by_cases h : b ∈ succ g a <;> simp [h]
theorem inRows_set {g : Graph} {a k b : Nat} (hk : k < (succ g a).length) (hb : (succ g a)[k]? = some b) (hbl : b < g.length) : inRows g a (k + 1) = (inRows g a k).set b (natR (inAt g a (k + 1) b)) := by
 apply List.ext_getElem?
 intro t
 rcases Nat.lt_or_ge t g.length with ht | ht
 ·rw [inRows_get ht]
  by_cases htb : t = b
  ·subst htb
   rw [List.getElem?_set_self (by rw [inRows_len]; omega)]
  ·rw [List.getElem?_set_ne (Ne.symm htb), inRows_get ht]
   have : (t ∈ (succ g a).take (k + 1)) ↔ (t ∈ (succ g a).take k) := by
    rw [List.take_succ_eq_append_getElem hk]
    rw [List.getElem?_eq_getElem hk] at hb
    simp only [Option.some.injEq] at hb
    simp [hb, htb]
   unfold inAt
   simp only [this]
 ·rw [List.getElem?_eq_none (by rw [inRows_len]; omega), List.getElem?_eq_none (by simp [inRows_len]; omega)]
theorem inAt_le (g : Graph) (a k b : Nat) : (inAt g a k b).length ≤ a + 1 := by
 unfold inAt
 rw [List.length_append]
 have h1 : ((List.range a).filter fun p => decide (b ∈ succ g p)).length ≤ a := by
  have := List.length_filter_le (fun p => decide (b ∈ succ g p)) (List.range a)
  rwa [List.length_range] at this
 have h2 : (if b ∈ (succ g a).take k then [a] else []).length ≤ 1 := by split <;> simp
 omega
structure InH (g : Graph) (vC : Nat) (h : Heap) (a k : Nat) : Prop where
 ex : ∃ cs, h 182 = ⟨vC, some (.arr 1 cs)⟩ ∧ RowsK 800000 g.length h cs (inRows g a k)
theorem set_same {α : Type} {l : List α} {i : Nat} {x : α} (h : l[i]? = some x) : l.set i x = l := by
 apply List.ext_getElem?
 intro t
 by_cases ht : i = t
 ·subst ht
  rw [List.getElem?_set_self (List.getElem?_eq_some_iff.1 h).1, h]
 ·rw [List.getElem?_set_ne ht]
section
variable {g : Graph} (hg : Valid g) (hgl : g.length < 100000) (hr : ∀ a, (succ g a).length < 1000000000) (vC : Nat)
include hg hgl hr
theorem inStep (a k : Nat) (ha : a < g.length) (hk : k < (succ g a).length) (h : Heap) (hh : InH g vC h a k) : ∃ h', InH g vC h' a (k + 1) ∧ ∀ X : Fix, X.P = Pg → X.N = 57 →
    AW X (lO 75 6) ⟨envOf (inI g vC a (succ g a) k), h⟩ fun e' S' => e' = .normal ∧ Weak X S' ⟨envOf (inI g vC a (succ g a) (k + 1)), h'⟩ := by
 obtain ⟨cs, hC, hR⟩ := hh.ex
 have hb := getD_get hk
 generalize (succ g a).getD k 0 = b at hb
 have hbl : b < g.length := (succ_lt hg (List.mem_of_getElem? hb)).1
 have hle := inAt_le g a k b
 refine Exists.elim (rowStep (P := Pg) (N := 57) (c := loopOf Pg 75 6) (l := inI g vC a (succ g a) k) (l' := inI g vC a (succ g a) (k + 1)) (C := 182) (A := 37) (K := 800000) (n := g.length) (b := b) (Ts := [501248, 501818]) (r := natR (inAt g a k b)) (r' := natR (inAt g a (k + 1) b)) (h := h)
  (by omega) (fun t ht => ⟨by omega, by omega, by simp only [List.mem_cons, List.not_mem_nil, or_false, not_or]; omega⟩) ⟨by simp, by simp⟩ hC hR hbl (inRows_get hbl) (fun cs1 vA rest hc hl => ?_)) (fun h' hx => ?_)
 rotate_left
 ·obtain ⟨cs', c', R', _, hs⟩ := hx
  exact ⟨h', ⟨cs', c', by rw [inRows_set hk hb hbl]; exact R'⟩, hs⟩
 ·by_cases hin : b ∈ (succ g a).take k
  ·-- it is there
   have e : inAt g a (k + 1) b = inAt g a k b := by
    unfold inAt
    rw [if_pos hin, if_pos (List.mem_of_mem_take (i := k) (by rwa [List.take_take, Nat.min_eq_left (by omega)]))]
   have e2 : inAt g a k b = (List.range a).filter (fun p => decide (b ∈ succ g p)) ++ [a] := by unfold inAt; rw [if_pos hin]
   rw [e]
   refine ⟨vA, [(501248, ⟨(rest 501248).ver, none⟩), (501818, ⟨(rest 501818).ver, none⟩)], rfl, fun X hP hN => ?_⟩
   rw [set_same hc]
   have hlen : (natR (inAt g a k b)).length = ((List.range a).filter (fun p => decide (b ∈ succ g p))).length + 1 := by rw [e2]; simp
   exact inSame g vC a (succ g a) k b cs1 vA (natR (inAt g a k b)) (rest 501248).ver (rest 501818).ver hk (hr a) hb hbl _ (a : Int) (by simp; omega) hc hlen (by rw [e2]; simp) (by simp) rest X hP hN
  ·have e : inAt g a (k + 1) b = inAt g a k b ++ [a] := by
     unfold inAt
     rw [if_neg hin, if_pos, List.append_nil]
     rw [List.take_succ_eq_append_getElem hk]
     rw [List.getElem?_eq_getElem hk] at hb
     simp only [Option.some.injEq] at hb
     simp [hb]
   have e2 : inAt g a k b = (List.range a).filter (fun p => decide (b ∈ succ g p)) := by unfold inAt; rw [if_neg hin, List.append_nil]
   rw [e]
   rcases hnil : inAt g a k b with _ | ⟨y0, ys⟩
   ·rw [hnil] at hc
    refine ⟨vA + 1, [(501248, ⟨(rest 501248).ver + 1, none⟩), (501818, ⟨(rest 501818).ver, none⟩)], rfl, fun X hP hN => ?_⟩
    exact inNew g vC a (succ g a) k b cs1 vA (rest 501248).ver (rest 501818).ver hk (hr a) hb hbl hc rest X hP hN
   ·rw [← hnil]
    refine ⟨vA + 1, [(501248, ⟨(rest 501248).ver, none⟩), (501818, ⟨(rest 501818).ver + 1, none⟩)], rfl, fun X hP hN => ?_⟩
    have hne : inAt g a k b ≠ [] := by rw [hnil]; simp
    have hpos := List.length_pos_iff.2 hne
    have hlast : (natR (inAt g a k b))[(inAt g a k b).length - 1]? = some (((inAt g a k b)[(inAt g a k b).length - 1] : Nat) : Int) := by
     rw [List.getElem?_map, List.getElem?_eq_getElem (by omega)]
     rfl
    have hmem : (inAt g a k b)[(inAt g a k b).length - 1] < a := by
     have := List.getElem_mem (l := inAt g a k b) (n := (inAt g a k b).length - 1) (by omega)
     generalize (inAt g a k b)[(inAt g a k b).length - 1] = z at this
     rw [e2, List.mem_filter, List.mem_range] at this
     exact this.1
    have := inMore g vC a (succ g a) k b cs1 vA (natR (inAt g a k b)) (rest 501248).ver (rest 501818).ver hk (hr a) hb hbl ((inAt g a k b).length - 1) _ (by simp; omega) hc (by simp; omega) hlast (by rw [int_ne (by omega)]; rfl) rest X hP hN
    have e3 : natR (inAt g a k b ++ [a]) = natR (inAt g a k b) ++ [(a : Int)] := by simp
    rw [e3]
    exact this
theorem inILoop (a : Nat) (ha : a < g.length) : ∀ (m k : Nat) (h : Heap), (succ g a).length - k = m → k ≤ (succ g a).length → InH g vC h a k → ∃ h', InH g vC h' a (succ g a).length ∧ ∀ X : Fix, X.P = Pg → X.N = 57 →
    LW X (lO 75 6) ⟨envOf (inI g vC a (succ g a) k), h⟩ fun e' S' => e' = .exit 2 ∧ S' = ⟨envOf (inO g vC a), h'⟩
 | 0, k, h, hm, hk, hh => by
  have : k = (succ g a).length := by omega
  subst this
  exact ⟨h, hh, fun X hP hN => lw_end (inIStop g vC a (succ g a) h X hP hN) (by simp)⟩
 | m + 1, k, h, hm, hk, hh => by
  obtain ⟨h1, hh1, hs⟩ := inStep hg hgl hr vC a k ha (by omega) h hh
  obtain ⟨h', hh', hl⟩ := inILoop a ha m (k + 1) h1 (by omega) (by omega) hh1
  exact ⟨h', hh', fun X hP hN => lw_seg (hs X hP hN) (hl X hP hN)⟩
end
section
variable (g : Graph) (vC a : Nat) (h h' : Heap)
theorem inORound (ha : a < g.length) (hgl : g.length < 100000) (r : List Nat) (hr : g[a]? = some r) (hl : ∀ X : Fix, X.P = Pg → X.N = 57 → LW X (lO 75 6) ⟨envOf (inI g vC a r 0), h⟩ fun e' S' => e' = .exit 2 ∧ S' = ⟨envOf (inO g vC a), h'⟩) (X : Fix) (hP : X.P = Pg) (hN : X.N = 57) :
    AW X (lO 75 3) ⟨envOf (inO g vC a), h⟩ fun e' S' => e' = .normal ∧ Weak X S' ⟨envOf (inO g vC (a + 1)), h'⟩ :=
 segZ okP named { hint := qT 75 [(15, qL ha), (17, hIxG Pg g a r hr), (20, hLenN Pg r), (55, hSucc Pg a (by omega))] } ({ loops := fun q => if q = 6 then some ⟨57, loopOf Pg 75 6, inI g vC a r 0, h, .exit 2, inO g vC a, h', fun X hP hN => (hl X hP hN).aw.mono fun e' S' hh => ⟨hh.1, hh.2 ▸ Weak.refl _⟩⟩ else none }) 2000 75 500000 57 (by kernel_rfl) X hP hN
theorem inOStop (X : Fix) (hP : X.P = Pg) (hN : X.N = 57) :
    AW X (lO 75 3) ⟨envOf (inO g vC g.length), h⟩ fun e' S' => e' = .exit 0 ∧ Weak X S' ⟨envOf [(3, .sl 182 vC 0 g.length 1)], h⟩ :=
 segZ okP named { hint := qT 75 [(15, qG g.length)] } ({}) 2000 75 500000 57 (by kernel_rfl) X hP hN
end
section
variable {g : Graph} (hg : Valid g) (hgl : g.length < 100000) (hr : ∀ a, (succ g a).length < 1000000000) (vC : Nat)
include hg hgl hr
theorem inOLoop : ∀ (m a : Nat) (h : Heap), g.length - a = m → a ≤ g.length → InH g vC h a 0 → ∃ h', InH g vC h' g.length 0 ∧ ∀ X : Fix, X.P = Pg → X.N = 57 →
    LW X (lO 75 3) ⟨envOf (inO g vC a), h⟩ fun e' S' => e' = .exit 0 ∧ S' = ⟨envOf [(3, .sl 182 vC 0 g.length 1)], h'⟩
 | 0, a, h, hm, ha, hh => by
  have : a = g.length := by omega
  subst this
  exact ⟨h, hh, fun X hP hN => lw_end (inOStop g vC h X hP hN) (by simp)⟩
 | m + 1, a, h, hm, ha, hh => by
  have hlt : a < g.length := by omega
  obtain ⟨h1, hh1, hl1⟩ := inILoop hg hgl hr vC a hlt _ 0 h rfl (Nat.zero_le _) hh
  have hh2 : InH g vC h1 (a + 1) 0 := by
   obtain ⟨cs, c1, r1⟩ := hh1.ex
   exact ⟨cs, c1, by rw [inRows_next]; exact r1⟩
  obtain ⟨h', hh', hl⟩ := inOLoop m (a + 1) h1 (by omega) (by omega) hh2
  exact ⟨h', hh', fun X hP hN => lw_seg (inORound g vC a h h1 hlt hgl _ (succ_get hlt) hl1 X hP hN) (hl X hP hN)⟩
theorem intoC : Pure Pg 75 [rowsN g] [.ro ((intoOf g).map rowN)] := by
 have h0 : InH g 1 (ovl [(182, ⟨1, some (.arr 1 (List.replicate g.length .nils))⟩)] fun _ => ⟨0, none⟩) 0 0 := by
  refine ⟨_, rfl, ?_⟩
  have e : inRows g 0 0 = List.replicate g.length [] := by
   unfold inRows inAt
   simp only [List.range_zero, List.filter_nil, List.take_zero, List.not_mem_nil, if_false, List.append_nil, List.map_nil]
   apply List.ext_getElem?
   intro t
   rcases Nat.lt_or_ge t g.length with ht | ht
   ·simp [ht]
   ·rw [List.getElem?_eq_none (by simp; omega), List.getElem?_eq_none (by simp; omega)]
  rw [e]
  exact RowsK.nils _ _ _
 obtain ⟨h', hh', hl⟩ := inOLoop hg hgl hr 1 g.length 0 _ rfl (Nat.zero_le _) h0
 obtain ⟨cs, hC, hR⟩ := hh'.ex
 obtain ⟨h2, w2, c2, _⟩ := freezeRowsK (C := 182) (fun t ht => by omega) hC hR
 have e : (inRows g g.length 0) = (intoOf g).map natR := by
  unfold inRows inAt intoOf
  simp
 rw [e] at c2
 have e2 : ((intoOf g).map natR).map (fun r => AV.d (rowD r)) = ((intoOf g).map rowN).map .d := by simp
 rw [e2] at c2
 have e3 : ovl [(182, ⟨1, some (.arr 1 (((intoOf g).map rowN).map .d))⟩)] h2 = h2 := At.ovl fun p hp => by
  simp only [List.mem_singleton] at hp
  subst hp
  exact c2
 have hlen : (intoOf g).length = g.length := by simp [intoOf]
 exact pureZ okP named { weaks := fun f q => if f = 75 then (if q = 13 then some (wD 3 182 g.length ((intoOf g).map rowN) (by simpa using hlen) (by simp [D.one])) else none) else none, hint := qT 75 [(10, hLenG Pg g), (11, .mk ((g.length : Nat) : Int) (by omega) (by omega)), (13, hLenG Pg g)] } ({ loops := fun q => if q = 3 then some ⟨57, loopOf Pg 75 3, inO g 1 0, ovl [(182, ⟨1, some (.arr 1 (List.replicate g.length .nils))⟩)] fun _ => ⟨0, none⟩, .exit 0, [(3, .sl 182 1 0 g.length 1)], ovl [(182, ⟨1, some (.arr 1 (((intoOf g).map rowN).map .d))⟩)] h2, fun X hP hN => (hl X hP hN).aw.mono fun e' S' hh => ⟨hh.1, hh.2 ▸ (by rw [e3]; exact w2 X _)⟩⟩ else none }) 2000 (by kernel_rfl)
end
end Go.Avm
namespace Go.Avm
open Go.Proofs Go.Avm.Dom
def riQ (g : Graph) (o : List D) (vo b vl p : Nat) (l r : List Nat) (m : Bool) (k : Nat) : List (Nat × AV) :=
 [(0, .d (rowsN g)), (3, .vec 40 vo 1 o), (4, dN b), (5, .vec 41 vl 1 (intsN l)), (6, dN p), (8, dB m), (12, dN g.length), (13, dN b), (16, .d (rowsN g)), (17, dN g.length), (18, dN p), (23, .d (rowN r)), (24, dN r.length), (25, dN k)]
def riQ' (g : Graph) (o : List D) (vo b vl p : Nat) (l : List Nat) (m : Bool) : List (Nat × AV) :=
 [(0, .d (rowsN g)), (3, .vec 40 vo 1 o), (4, dN b), (5, .vec 41 vl 1 (intsN l)), (6, dN p), (8, dB m), (12, dN g.length), (13, dN b), (16, .d (rowsN g)), (17, dN g.length), (18, dN p)]
def riP (g : Graph) (o : List D) (vo b vl p : Nat) (l : List Nat) : List (Nat × AV) :=
 [(0, .d (rowsN g)), (3, .vec 40 vo 1 o), (4, dN b), (5, .vec 41 vl 1 (intsN l)), (12, dN g.length), (13, dN b), (16, .d (rowsN g)), (17, dN g.length), (18, dN p)]
def riP' (g : Graph) (o : List D) (vo b vl : Nat) (l : List Nat) : List (Nat × AV) :=
 [(0, .d (rowsN g)), (3, .vec 40 vo 1 o), (5, .vec 41 vl 1 (intsN l)), (12, dN g.length), (13, dN b)]
def riO (g : Graph) (o : List D) (vo b : Nat) : List (Nat × AV) := [(0, .d (rowsN g)), (3, .vec 40 vo 1 o), (12, dN g.length), (13, dN b)]
section
variable (g : Graph) (o : List D) (vo b vl p : Nat) (l r : List Nat) (k x : Nat)
theorem riQTrue (hk : k < r.length) (hr : r.length < 1000000000) (hx : r[k]? = some x) : RW 48 (lO 49 11) (riQ g o vo b vl p l r true k) [] .normal (riQ g o vo b vl p l r true (k + 1)) [] := qS { hint := qT 49 [(26, qL hk), (27, hIxN Pg r k x hx), (35, hSucc Pg k (by omega))] } 49 500000
theorem riQFalse (t : Bool) (hk : k < r.length) (hr : r.length < 1000000000) (hx : r[k]? = some x) (ht : ((x : Int) == (b : Int)) = t) : RW 48 (lO 49 11) (riQ g o vo b vl p l r false k) [] .normal (riQ g o vo b vl p l r t (k + 1)) [] := qS { hint := qT 49 [(26, qL hk), (27, hIxN Pg r k x hx), (33, hEq Pg _ _ _ ht), (35, hSucc Pg k (by omega))] } 49 500000
theorem riQStop (m : Bool) : RW 48 (lO 49 11) (riQ g o vo b vl p l r m r.length) [] (.exit 4) (riQ' g o vo b vl p l m) [] := qS { hint := qT 49 [(26, qG r.length)] } 49 500000
theorem riQLoop (hr : r.length < 1000000000) : RE 48 (.loop (lO 49 11)) (riQ g o vo b vl p l r false 0) [] (.exit 4) (riQ' g o vo b vl p l (decide (b ∈ r))) [] := by
 intro rest X hP hN
 have h := lw_count (X := X) (c := loopOf Pg 49 11) r.length (fun k => ⟨envOf (riQ g o vo b vl p l r (decide (b ∈ r.take k)) k), ovl [] rest⟩) (e := .exit 4) (Z := ⟨envOf (riQ' g o vo b vl p l (decide (b ∈ r.take r.length))), ovl [] rest⟩) (by simp) (fun k hk => ?_) (riQStop g o vo b vl p l r _ rest X hP hN)
 ·rw [List.take_length] at h
  simp only [List.take_zero, List.not_mem_nil, decide_false] at h
  exact h.aw
 ·have e : (b ∈ r.take (k + 1)) ↔ (b ∈ r.take k ∨ r[k] = b) := by
    rw [List.take_succ_eq_append_getElem hk, List.mem_append, List.mem_singleton, eq_comm (a := b)]
  by_cases hb : b ∈ r.take k
  ·have h1 : decide (b ∈ r.take k) = true := decide_eq_true hb
   have h2 : decide (b ∈ r.take (k + 1)) = true := decide_eq_true (e.2 (.inl hb))
   rw [h1, h2]
   exact riQTrue g o vo b vl p l r k r[k] hk hr (List.getElem?_eq_getElem hk) rest X hP hN
  ·have h1 : decide (b ∈ r.take k) = false := decide_eq_false hb
   have h2 : ((r[k] : Int) == (b : Int)) = decide (b ∈ r.take (k + 1)) := by
    by_cases hx : r[k] = b
    ·rw [int_eq hx, decide_eq_true (e.2 (.inr hx))]
    ·rw [int_ne hx, decide_eq_false (fun h => (e.1 h).elim hb hx)]
   rw [h1]
   exact riQFalse g o vo b vl p l r k r[k] _ hk hr (List.getElem?_eq_getElem hk) h2 rest X hP hN
def riE (vo vl w1 w2 : Nat) : List (Nat × Ent) := [(40, ⟨vo, none⟩), (41, ⟨vl, none⟩), (500663, ⟨w1, none⟩), (500476, ⟨w2, none⟩)]
theorem riPYes (w1 w2 : Nat) (hp : p < g.length) (hgl : g.length < 100000) (hr : g[p]? = some r) (hrl : r.length < 1000000000) (hl : l.length < 1000000000) (hb : decide (b ∈ r) = true) : RW 48 (lO 49 7) (riP g o vo b vl p l) (riE vo vl w1 w2) .normal (riP g o vo b (vl + 1) (p + 1) (l ++ [p])) (riE vo (vl + 1) (w1 + 1) w2) := by
 intro rest X hP hN
 unfold riP
 rw [intsN_app]
 have hq := riQLoop g o vo b vl p l r hrl
 rw [hb] at hq
 exact seg okP named { loops := qO 49 11 (qP hq), hint := qT 49 [(19, qL hp), (21, hIxG Pg g p r hr), (24, hLenN Pg r), (40, .app (intsN l) 1 (by rw [intsN_len]; omega)), (41, hSucc Pg p (by omega))] } 2000 49 500000 48 (by kernel_rfl) X hP hN
theorem riPNo (w1 w2 : Nat) (hp : p < g.length) (hgl : g.length < 100000) (hr : g[p]? = some r) (hrl : r.length < 1000000000) (hb : decide (b ∈ r) = false) : RW 48 (lO 49 7) (riP g o vo b vl p l) (riE vo vl w1 w2) .normal (riP g o vo b vl (p + 1) l) (riE vo vl w1 w2) := by
 intro rest X hP hN
 have hq := riQLoop g o vo b vl p l r hrl
 rw [hb] at hq
 exact seg okP named { loops := qO 49 11 (qP hq), hint := qT 49 [(19, qL hp), (21, hIxG Pg g p r hr), (24, hLenN Pg r), (41, hSucc Pg p (by omega))] } 2000 49 500000 48 (by kernel_rfl) X hP hN
theorem riPStop (w1 w2 : Nat) : RW 48 (lO 49 7) (riP g o vo b vl g.length l) (riE vo vl w1 w2) (.exit 2) (riP' g o vo b vl l) (riE vo vl w1 w2) := qS { hint := qT 49 [(19, qG g.length)] } 49 500000
theorem riORound (w1 w2 vl' w1' : Nat) (hb : b < g.length) (hgl : g.length < 100000) (ho : o.length < 1000000000)
    (hp : RE 48 (.loop (lO 49 7)) (riP g o vo b vl 0 []) (riE vo vl w1 w2) (.exit 2) (riP' g o vo b vl' l) (riE vo vl' w1' w2))
    : RW 48 (lO 49 3) (riO g o vo b) (riE vo vl w1 w2) .normal (riO g (o ++ [.ro (intsN l)]) (vo + 1) (b + 1)) (riE (vo + 1) vl' w1' (w2 + 1)) := qS { nils2 := fun f q => if f = 49 then (if q = 6 then [⟨0, 5, 41, 1, true, false⟩] else []) else [], loops := qO 49 7 (qP hp), hint := qT 49 [(14, qL hb), (17, hLenG Pg g), (45, .app o 1 (by omega)), (46, hSucc Pg b (by omega))] } 49 500000
theorem riOStop (w1 w2 : Nat) : RW 48 (lO 49 3) (riO g o vo g.length) (riE vo vl w1 w2) (.exit 0) [(3, .vec 40 vo 1 o)] (riE vo vl w1 w2) := qS { hint := qT 49 [(14, qG g.length)] } 49 500000
end
def riAt (g : Graph) (b p : Nat) : List Nat := (List.range p).filter fun p => decide (b ∈ succ g p)
theorem riAt_succ (g : Graph) (b p : Nat) : riAt g b (p + 1) = if b ∈ succ g p then riAt g b p ++ [p] else riAt g b p := by
 unfold riAt
 rw [List.range_succ, List.filter_append]
 by_cases h : b ∈ succ g p <;> simp [h]
theorem riAt_len (g : Graph) (b p : Nat) : (riAt g b p).length ≤ p := by
 have := List.length_filter_le (fun p => decide (b ∈ succ g p)) (List.range p)
 rwa [List.length_range] at this
section
variable {g : Graph} (hgl : g.length < 100000) (hr : ∀ a, (succ g a).length < 1000000000)
include hgl hr
theorem riPLoop (o : List D) (vo b w2 : Nat) : ∀ (m p vl w1 : Nat), g.length - p = m → p ≤ g.length → ∃ vl' w1', ∀ (rest : Heap) (X : Fix), X.P = Pg → X.N = 48 →
    LW X (lO 49 7) ⟨envOf (riP g o vo b vl p (riAt g b p)), ovl (riE vo vl w1 w2) rest⟩ fun e' S' => e' = .exit 2 ∧ S' = ⟨envOf (riP' g o vo b vl' (riAt g b g.length)), ovl (riE vo vl' w1' w2) rest⟩
 | 0, p, vl, w1, hm, hp => by
  have : p = g.length := by omega
  subst this
  exact ⟨vl, w1, fun rest X hP hN => lw_end (riPStop g o vo b vl _ w1 w2 rest X hP hN) (by simp)⟩
 | m + 1, p, vl, w1, hm, hp => by
  have hlt : p < g.length := by omega
  by_cases hb : b ∈ succ g p
  ·obtain ⟨vl', w1', h⟩ := riPLoop o vo b w2 m (p + 1) (vl + 1) (w1 + 1) (by omega) (by omega)
   refine ⟨vl', w1', fun rest X hP hN => lw_seg (riPYes g o vo b vl p (riAt g b p) (succ g p) w1 w2 hlt hgl (succ_get hlt) (hr p) (by have := riAt_len g b p; omega) (decide_eq_true hb) rest X hP hN) ?_⟩
   have := h rest X hP hN
   rw [riAt_succ, if_pos hb] at this
   exact this
  ·obtain ⟨vl', w1', h⟩ := riPLoop o vo b w2 m (p + 1) vl w1 (by omega) (by omega)
   refine ⟨vl', w1', fun rest X hP hN => lw_seg (riPNo g o vo b vl p (riAt g b p) (succ g p) w1 w2 hlt hgl (succ_get hlt) (hr p) (decide_eq_false hb) rest X hP hN) ?_⟩
   have := h rest X hP hN
   rw [riAt_succ, if_neg hb] at this
   exact this
theorem riOLoop : ∀ (m b vo vl w1 w2 : Nat), g.length - b = m → b ≤ g.length → ∃ vo' vl' w1' w2', ∀ (rest : Heap) (X : Fix), X.P = Pg → X.N = 48 →
    LW X (lO 49 3) ⟨envOf (riO g ((List.range b).map fun b => .ro (intsN (riAt g b g.length))) vo b), ovl (riE vo vl w1 w2) rest⟩ fun e' S' => e' = .exit 0 ∧ S' = ⟨envOf [(3, .vec 40 vo' 1 ((List.range g.length).map fun b => .ro (intsN (riAt g b g.length))))], ovl (riE vo' vl' w1' w2') rest⟩
 | 0, b, vo, vl, w1, w2, hm, hb => by
  have : b = g.length := by omega
  subst this
  exact ⟨vo, vl, w1, w2, fun rest X hP hN => lw_end (riOStop g _ vo vl w1 w2 rest X hP hN) (by simp)⟩
 | m + 1, b, vo, vl, w1, w2, hm, hb => by
  have hlt : b < g.length := by omega
  obtain ⟨vl', w1', hq⟩ := riPLoop hgl hr ((List.range b).map fun b => .ro (intsN (riAt g b g.length))) vo b w2 g.length 0 vl w1 rfl (Nat.zero_le _)
  obtain ⟨vo2, vl2, w12, w22, h⟩ := riOLoop m (b + 1) (vo + 1) vl' w1' (w2 + 1) (by omega) (by omega)
  refine ⟨vo2, vl2, w12, w22, fun rest X hP hN => lw_seg (riORound g _ vo b vl (riAt g b g.length) w1 w2 vl' w1' hlt hgl (by simp; omega) (fun rest X hP hN => (hq rest X hP hN).aw) rest X hP hN) ?_⟩
  have := h rest X hP hN
  rw [List.range_succ, List.map_append] at this
  exact this
theorem refIntoC : Pure Pg 49 [rowsN g] [.ro ((intoOf g).map rowN)] := by
 obtain ⟨vo, vl, w1, w2, h⟩ := riOLoop hgl hr g.length 0 0 0 0 0 rfl (Nat.zero_le _)
 have e : ((List.range g.length).map fun b => D.ro (intsN (riAt g b g.length))) = (intoOf g).map rowN := by
  unfold intoOf riAt
  simp [intsN]
 rw [e] at h
 exact qU { nils2 := fun f q => if f = 49 then (if q = 2 then [⟨0, 3, 40, 1, true, false⟩] else []) else [], loops := fun f q => if f = 49 then (if q = 3 then some ⟨48, loopOf Pg 49 3, riO g [] 0 0, fun _ => riE 0 0 0 0, .exit 0, _, fun _ => riE vo vl w1 w2, fun rest X hP hN => (h rest X hP hN).aw⟩ else none) else none, hint := qT 49 [(12, hLenG Pg g)] }
end
end Go.Avm
namespace Go.Avm
open Go.Proofs Go.Avm.Dom
def plOf (g : Graph) (v : Nat) : Option Nat := (List.range (reachN g)).find? fun i => nodeAt g i == v
def placeI (g : Graph) (v : Nat) : Int := match plOf g v with
 | some i => (i : Int)
 | none => -1
def outI (g : Graph) (O : Nat → Option Nat) (v : Nat) : Int := match plOf g v with
 | some i => if i = 0 then -1 else match O i with
  | some u => (nodeAt g u : Int)
  | none => -1
 | none => -1
def placeL (g : Graph) : List Int := (List.range g.length).map (placeI g)
def outL2 (g : Graph) (O : Nat → Option Nat) : List Int := (List.range g.length).map (outI g O)
section
variable {g : Graph} (hg : Valid g) {i : Nat} (hi : i < reachN g)
include g hg i hi
theorem plOf_node : plOf g (nodeAt g i) = some i := by
 unfold plOf
 cases h : (List.range (reachN g)).find? fun j => nodeAt g j == nodeAt g i with
 | none =>
  rw [List.find?_eq_none] at h
  exact absurd (h i (by simpa using hi)) (by simp)
 | some j =>
  have h1 := List.find?_some h
  have h2 := List.mem_of_find?_eq_some h
  simp only [beq_iff_eq] at h1
  rw [nodeAt_inj hg (by simpa using h2) hi h1]
theorem nodeAt_lt : nodeAt g i < g.length := by
 have hg0 : 0 < g.length := by
  rcases Nat.eq_zero_or_pos g.length with h | h
  ·unfold reachN orderOf at hi; rw [if_pos h] at hi; simp at hi
  ·exact h
 exact Re.lt hg (nodeAt_reached hg hi) hg0
theorem placeL_node : (placeL g)[nodeAt g i]? = some (i : Int) := by
 unfold placeL
 rw [List.getElem?_map, List.getElem?_range (nodeAt_lt hg hi)]
 simp [placeI, plOf_node hg hi]
end
theorem outL_node {g : Graph} (hg : Valid g) {O : Nat → Option Nat} {i u : Nat} (hi : i < reachN g) (h0 : 0 < i) (hu : O i = some u) : (outL2 g O)[nodeAt g i]? = some (nodeAt g u : Int) := by
 unfold outL2
 rw [List.getElem?_map, List.getElem?_range (nodeAt_lt hg hi)]
 simp [outI, plOf_node hg hi, hu]
 omega
theorem outL_len (g : Graph) (O : Nat → Option Nat) : (outL2 g O).length = g.length := by simp [outL2]
def upU (O : Nat → Option Nat) : Nat → Nat := fun i => (O i).getD 0
def Proc (O : Nat → Option Nat) (i : Nat) : Prop := i = 0 ∨ ∃ u, O i = some u
def Chain (m : Nat) (O : Nat → Option Nat) : Prop := ∀ i u, 0 < i → i < m → O i = some u → u < i ∧ Proc O u
def mtL (vbo vbp a b : Nat) : List (Nat × AV) := [(0, dN a), (1, dN b), (2, .ptr 994 vbp 0 0 1), (3, .ptr 443 vbo 0 0 1)]
def mtE (vbo vo vbp vp n : Nat) (out place : List Int) : List (Nat × Ent) := [(443, ⟨vbo, some (.arr 1 [.sl 349 vo 0 n 1])⟩), (349, ⟨vo, some (.arr 1 (out.map dI))⟩), (994, ⟨vbp, some (.arr 1 [.sl 902 vp 0 n 1])⟩), (902, ⟨vp, some (.arr 1 (place.map dI))⟩)]
section
variable (vbo vo vbp vp n : Nat) (out place : List Int) (a b i j u : Nat)
section
variable (ha : a < n) (hb : b < n) (hpa : place[a]? = some (i : Int)) (hpb : place[b]? = some (j : Int))
include ha hb hpa hpb
theorem mtAUp (hij : j < i) (hu : out[a]? = some (u : Int)) : RW 37 (lO 101 2) (mtL vbo vbp a b) (mtE vbo vo vbp vp n out place) .normal (mtL vbo vbp u b) (mtE vbo vo vbp vp n out place) := qS { hint := qT 101 [(12, hInb Pg a n ha), (13, hElI Pg place a i hpa), (16, hInb Pg b n hb), (17, hElI Pg place b j hpb), (18, hB Pg (decide ((j : Int) < (i : Int))) true (dec_true (by omega))), (21, hInb Pg a n ha), (22, hElI Pg out a u hu)] } 101 500000
theorem mtAEnd (hij : i ≤ j) : RW 37 (lO 101 2) (mtL vbo vbp a b) (mtE vbo vo vbp vp n out place) (.exit 2) (mtL vbo vbp a b) (mtE vbo vo vbp vp n out place) := qS { hint := qT 101 [(12, hInb Pg a n ha), (13, hElI Pg place a i hpa), (16, hInb Pg b n hb), (17, hElI Pg place b j hpb), (18, hB Pg (decide ((j : Int) < (i : Int))) false (dec_false (by omega)))] } 101 500000
theorem mtBUp (hij : i < j) (hu : out[b]? = some (u : Int)) : RW 37 (lO 101 4) (mtL vbo vbp a b) (mtE vbo vo vbp vp n out place) .normal (mtL vbo vbp a u) (mtE vbo vo vbp vp n out place) := qS { hint := qT 101 [(25, hInb Pg b n hb), (26, hElI Pg place b j hpb), (29, hInb Pg a n ha), (30, hElI Pg place a i hpa), (31, hB Pg (decide ((i : Int) < (j : Int))) true (dec_true (by omega))), (34, hInb Pg b n hb), (35, hElI Pg out b u hu)] } 101 500000
theorem mtBEnd (hij : j ≤ i) : RW 37 (lO 101 4) (mtL vbo vbp a b) (mtE vbo vo vbp vp n out place) (.exit 4) (mtL vbo vbp a b) (mtE vbo vo vbp vp n out place) := qS { hint := qT 101 [(25, hInb Pg b n hb), (26, hElI Pg place b j hpb), (29, hInb Pg a n ha), (30, hElI Pg place a i hpa), (31, hB Pg (decide ((i : Int) < (j : Int))) false (dec_false (by omega)))] } 101 500000
end
theorem mtRound (a' b' : Nat) (hab : a ≠ b)
    (h2 : RE 37 (.loop (lO 101 2)) (mtL vbo vbp a b) (mtE vbo vo vbp vp n out place) (.exit 2) (mtL vbo vbp a' b) (mtE vbo vo vbp vp n out place))
    (h4 : RE 37 (.loop (lO 101 4)) (mtL vbo vbp a' b) (mtE vbo vo vbp vp n out place) (.exit 4) (mtL vbo vbp a' b') (mtE vbo vo vbp vp n out place))
    : RW 37 (lO 101 1) (mtL vbo vbp a b) (mtE vbo vo vbp vp n out place) .normal (mtL vbo vbp a' b') (mtE vbo vo vbp vp n out place) := qS { loops := fun f q => if f = 101 then (if q = 2 then qP h2 else if q = 4 then qP h4 else none) else none, hint := qT 101 [(9, hNeq Pg _ _ true (by rw [int_ne hab]; rfl))] } 101 500000
theorem mtStop : RW 37 (lO 101 1) (mtL vbo vbp a a) (mtE vbo vo vbp vp n out place) (.exit 0) [(0, dN a)] (mtE vbo vo vbp vp n out place) := qS { hint := qT 101 [(9, hNeq Pg (a : Int) (a : Int) false (by simp))] } 101 500000
theorem mtCall (r : Nat)
    (h1 : RE 37 (.loop (lO 101 1)) (mtL vbo vbp a b) (mtE vbo vo vbp vp n out place) (.exit 0) [(0, dN r)] (mtE vbo vo vbp vp n out place)) (rest : Heap) :
    HCall Pg 101 [dN a, dN b, .ptr 994 vbp 0 0 1, .ptr 443 vbo 0 0 1] (ovl (mtE vbo vo vbp vp n out place) rest) [dN r] (ovl (mtE vbo vo vbp vp n out place) rest) :=
 qH { loops := qO 101 1 (qP h1), hint := fun _ _ => none }
end
section
variable {g : Graph} (hg : Valid g) {O : Nat → Option Nat} (hc : Chain (reachN g) O) (vbo vo vbp vp : Nat)
include hg hc
theorem mtALoop (j : Nat) (hj : j < reachN g) : ∀ (i : Nat), i < reachN g → Proc O i → ∃ i', i' ≤ i ∧ i' ≤ j ∧ Proc O i' ∧ (j < i → i' < i) ∧ (∀ y, y ≤ j → (Anc (upU O) y i ↔ Anc (upU O) y i')) ∧
    ∀ (rest : Heap) (X : Fix), X.P = Pg → X.N = 37 → LW X (lO 101 2) ⟨envOf (mtL vbo vbp (nodeAt g i) (nodeAt g j)), ovl (mtE vbo vo vbp vp g.length (outL2 g O) (placeL g)) rest⟩ fun e' S' => e' = .exit 2 ∧ S' = ⟨envOf (mtL vbo vbp (nodeAt g i') (nodeAt g j)), ovl (mtE vbo vo vbp vp g.length (outL2 g O) (placeL g)) rest⟩ := fun i => by
 induction i using Nat.strongRecOn with
 | ind i ih =>
  intro hi hp
  rcases Nat.lt_or_ge j i with h | h
  ·obtain ⟨u, hu⟩ := hp.resolve_left (by omega)
   obtain ⟨hlt, hpu⟩ := hc i u (by omega) hi hu
   obtain ⟨i', h1, h2, h3, _, h4, h5⟩ := ih u hlt (by omega) hpu
   refine ⟨i', by omega, h2, h3, fun _ => by omega, fun y hy => ?_, fun rest X hP hN => lw_seg (mtAUp vbo vo vbp vp g.length _ _ (nodeAt g i) (nodeAt g j) i j (nodeAt g u) (nodeAt_lt hg hi) (nodeAt_lt hg hj) (placeL_node hg hi) (placeL_node hg hj) h (outL_node hg hi (by omega) hu) rest X hP hN) (h5 rest X hP hN)⟩
   rw [← h4 y hy]
   have e : upU O i = u := by simp [upU, hu]
   constructor
   ·intro ha
    have := (anc_up_of_ne ha (by omega)).2
    rwa [e] at this
   ·intro ha
    exact .up (by omega) (by rw [e]; exact ha)
  ·exact ⟨i, Nat.le_refl _, h, hp, fun hh => by omega, fun y _ => Iff.rfl, fun rest X hP hN => lw_end (mtAEnd vbo vo vbp vp g.length _ _ (nodeAt g i) (nodeAt g j) i j (nodeAt_lt hg hi) (nodeAt_lt hg hj) (placeL_node hg hi) (placeL_node hg hj) h rest X hP hN) (by simp)⟩
theorem mtBLoop (i : Nat) (hi : i < reachN g) : ∀ (j : Nat), j < reachN g → Proc O j → ∃ j', j' ≤ j ∧ j' ≤ i ∧ Proc O j' ∧ (i < j → j' < j) ∧ (∀ y, y ≤ i → (Anc (upU O) y j ↔ Anc (upU O) y j')) ∧
    ∀ (rest : Heap) (X : Fix), X.P = Pg → X.N = 37 → LW X (lO 101 4) ⟨envOf (mtL vbo vbp (nodeAt g i) (nodeAt g j)), ovl (mtE vbo vo vbp vp g.length (outL2 g O) (placeL g)) rest⟩ fun e' S' => e' = .exit 4 ∧ S' = ⟨envOf (mtL vbo vbp (nodeAt g i) (nodeAt g j')), ovl (mtE vbo vo vbp vp g.length (outL2 g O) (placeL g)) rest⟩ := fun j => by
 induction j using Nat.strongRecOn with
 | ind j ih =>
  intro hj hp
  rcases Nat.lt_or_ge i j with h | h
  ·obtain ⟨u, hu⟩ := hp.resolve_left (by omega)
   obtain ⟨hlt, hpu⟩ := hc j u (by omega) hj hu
   obtain ⟨j', h1, h2, h3, _, h4, h5⟩ := ih u hlt (by omega) hpu
   refine ⟨j', by omega, h2, h3, fun _ => by omega, fun y hy => ?_, fun rest X hP hN => lw_seg (mtBUp vbo vo vbp vp g.length _ _ (nodeAt g i) (nodeAt g j) i j (nodeAt g u) (nodeAt_lt hg hi) (nodeAt_lt hg hj) (placeL_node hg hi) (placeL_node hg hj) h (outL_node hg hj (by omega) hu) rest X hP hN) (h5 rest X hP hN)⟩
   rw [← h4 y hy]
   have e : upU O j = u := by simp [upU, hu]
   constructor
   ·intro ha
    have := (anc_up_of_ne ha (by omega)).2
    rwa [e] at this
   ·intro ha
    exact .up (by omega) (by rw [e]; exact ha)
  ·exact ⟨j, Nat.le_refl _, h, hp, fun hh => by omega, fun y _ => Iff.rfl, fun rest X hP hN => lw_end (mtBEnd vbo vo vbp vp g.length _ _ (nodeAt g i) (nodeAt g j) i j (nodeAt_lt hg hi) (nodeAt_lt hg hj) (placeL_node hg hi) (placeL_node hg hj) h rest X hP hN) (by simp)⟩
theorem anc_le_chain : ∀ i, i < reachN g → Proc O i → ∀ y, Anc (upU O) y i → y ≤ i := fun i => by
 induction i using Nat.strongRecOn with
 | ind i ih =>
  intro hi hp y h
  by_cases hy : y = i
  ·omega
  ·obtain ⟨h0, h1⟩ := anc_up_of_ne h hy
   obtain ⟨u, hu⟩ := hp.resolve_left (by omega)
   obtain ⟨hlt, hpu⟩ := hc i u h0 hi hu
   have e : upU O i = u := by simp [upU, hu]
   rw [e] at h1
   have := ih u hlt (by omega) hpu y h1
   omega
theorem mtLoop : ∀ (m i j : Nat), i + j = m → i < reachN g → j < reachN g → Proc O i → Proc O j → ∃ r, r < reachN g ∧ Proc O r ∧ (∀ y, Anc (upU O) y r ↔ Anc (upU O) y i ∧ Anc (upU O) y j) ∧
    ∀ (rest : Heap) (X : Fix), X.P = Pg → X.N = 37 → LW X (lO 101 1) ⟨envOf (mtL vbo vbp (nodeAt g i) (nodeAt g j)), ovl (mtE vbo vo vbp vp g.length (outL2 g O) (placeL g)) rest⟩ fun e' S' => e' = .exit 0 ∧ S' = ⟨envOf [(0, dN (nodeAt g r))], ovl (mtE vbo vo vbp vp g.length (outL2 g O) (placeL g)) rest⟩ := fun m => by
 induction m using Nat.strongRecOn with
 | ind m ih =>
  intro i j hm hi hj hpi hpj
  by_cases hij : i = j
  ·subst hij
   exact ⟨i, hi, hpi, fun y => by simp, fun rest X hP hN => lw_end (mtStop vbo vo vbp vp g.length _ _ _ rest X hP hN) (by simp)⟩
  ·obtain ⟨i', a1, a2, a3, a4, a5, a6⟩ := mtALoop hg hc vbo vo vbp vp j hj i hi hpi
   have hi' : i' < reachN g := by omega
   obtain ⟨j', b1, b2, b3, b4, b5, b6⟩ := mtBLoop hg hc vbo vo vbp vp i' hi' j hj hpj
   have hdec : i' + j' < m := by
    rcases Nat.lt_or_ge j i with h | h
    ·have := a4 h; omega
    ·have hlt : i < j := by omega
     have : i' < j := by omega
     have := b4 this
     omega
   obtain ⟨r, r1, r2, r3, r4⟩ := ih (i' + j') hdec i' j' rfl hi' (by omega) a3 b3
   refine ⟨r, r1, r2, fun y => ?_, fun rest X hP hN => lw_seg (mtRound vbo vo vbp vp g.length _ _ (nodeAt g i) (nodeAt g j) (nodeAt g i') (nodeAt g j') (fun h => hij (nodeAt_inj hg hi hj h)) (fun rest X hP hN => (a6 rest X hP hN).aw) (fun rest X hP hN => (b6 rest X hP hN).aw) rest X hP hN) (r4 rest X hP hN)⟩
   rw [r3 y]
   constructor
   ·rintro ⟨h1, h2⟩
    have hy1 := anc_le_chain hg hc i' hi' a3 y h1
    have hy2 := anc_le_chain hg hc j' (by omega) b3 y h2
    exact ⟨(a5 y (by omega)).2 h1, (b5 y hy1).2 h2⟩
   ·rintro ⟨h1, h2⟩
    have hy2 := anc_le_chain hg hc j hj hpj y h2
    have h3 := (a5 y hy2).1 h1
    have hy1 := anc_le_chain hg hc i' hi' a3 y h3
    exact ⟨h3, (b5 y hy1).1 h2⟩
theorem meetC {i j : Nat} (hi : i < reachN g) (hj : j < reachN g) (hpi : Proc O i) (hpj : Proc O j) : ∃ r, r < reachN g ∧ Proc O r ∧ (∀ y, Anc (upU O) y r ↔ Anc (upU O) y i ∧ Anc (upU O) y j) ∧
    ∀ rest : Heap, HCall Pg 101 [dN (nodeAt g i), dN (nodeAt g j), .ptr 994 vbp 0 0 1, .ptr 443 vbo 0 0 1] (ovl (mtE vbo vo vbp vp g.length (outL2 g O) (placeL g)) rest) [dN (nodeAt g r)] (ovl (mtE vbo vo vbp vp g.length (outL2 g O) (placeL g)) rest) := by
 obtain ⟨r, r1, r2, r3, r4⟩ := mtLoop hg hc vbo vo vbp vp _ i j rfl hi hj hpi hpj
 exact ⟨r, r1, r2, r3, fun rest => mtCall vbo vo vbp vp g.length _ _ _ _ _ (fun rest X hP hN => (r4 rest X hP hN).aw) rest⟩
end
end Go.Avm
namespace Go.Avm
open Go.Proofs Go.Avm.Dom
theorem plOf_some {g : Graph} {v i : Nat} (h : plOf g v = some i) : i < reachN g ∧ nodeAt g i = v := by
 unfold plOf at h
 have h1 := List.find?_some h
 have h2 := List.mem_of_find?_eq_some h
 simp only [beq_iff_eq] at h1
 exact ⟨by simpa using h2, h1⟩
def placeAt (g : Graph) (k : Nat) : List Int := (List.range g.length).map fun v => match plOf g v with
 | some i => if i < k then (i : Int) else -1
 | none => -1
theorem placeAt_zero (g : Graph) : placeAt g 0 = List.replicate g.length (-1) := by
 unfold placeAt
 apply List.ext_getElem?
 intro t
 rcases Nat.lt_or_ge t g.length with ht | ht
 ·rw [List.getElem?_map, List.getElem?_range ht]
  simp only [Option.map_some, List.getElem?_replicate, ht, if_true]
  cases plOf g t <;> simp
 ·rw [List.getElem?_eq_none (by simp; omega), List.getElem?_eq_none (by simp; omega)]
theorem placeAt_all (g : Graph) : placeAt g (reachN g) = placeL g := by
 unfold placeAt placeL placeI
 apply List.map_congr_left
 intro v _
 cases h : plOf g v with
 | none => rfl
 | some i => simp [(plOf_some h).1]
theorem placeAt_set {g : Graph} (hg : Valid g) {k : Nat} (hk : k < reachN g) : (placeAt g k).set (nodeAt g k) (k : Int) = placeAt g (k + 1) := by
 apply List.ext_getElem?
 intro t
 have hl : ∀ k, (placeAt g k).length = g.length := fun k => by simp [placeAt]
 rcases Nat.lt_or_ge t g.length with ht | ht
 ·by_cases htk : nodeAt g k = t
  ·rw [htk, List.getElem?_set_self (by rw [hl]; exact ht)]
   unfold placeAt
   rw [List.getElem?_map, List.getElem?_range ht, Option.map_some, ← htk, plOf_node hg hk]
   simp
  ·rw [List.getElem?_set_ne htk]
   unfold placeAt
   rw [List.getElem?_map, List.getElem?_map, List.getElem?_range ht, Option.map_some, Option.map_some]
   congr 1
   cases h : plOf g t with
   | none => rfl
   | some i =>
    have hne : i ≠ k := fun e => htk (e ▸ (plOf_some h).2)
    show (if i < k then (i : Int) else -1) = (if i < k + 1 then (i : Int) else -1)
    by_cases hik : i < k
    ·rw [if_pos hik, if_pos (by omega)]
    ·rw [if_neg hik, if_neg (by omega)]
 ·rw [List.getElem?_eq_none (by simp [hl]; omega), List.getElem?_eq_none (by rw [hl]; omega)]
theorem outL2_congr {g : Graph} {O O' : Nat → Option Nat} (h : ∀ i, i < reachN g → O i = O' i) : outL2 g O = outL2 g O' := by
 unfold outL2 outI
 apply List.map_congr_left
 intro v _
 cases hp : plOf g v with
 | none => rfl
 | some i => simp only [h i (plOf_some hp).1]
theorem outL2_none (g : Graph) : outL2 g (fun _ => none) = List.replicate g.length (-1) := by
 unfold outL2 outI
 apply List.ext_getElem?
 intro t
 rcases Nat.lt_or_ge t g.length with ht | ht
 ·rw [List.getElem?_map, List.getElem?_range ht]
  simp only [Option.map_some, List.getElem?_replicate, ht, if_true]
  cases plOf g t <;> simp
 ·rw [List.getElem?_eq_none (by simp; omega), List.getElem?_eq_none (by simp; omega)]
theorem outL2_set {g : Graph} (hg : Valid g) {O : Nat → Option Nat} {i r : Nat} (h0 : 0 < i) (hi : i < reachN g) : (outL2 g O).set (nodeAt g i) (nodeAt g r : Int) = outL2 g (fun j => if j = i then some r else O j) := by
 apply List.ext_getElem?
 intro t
 rcases Nat.lt_or_ge t g.length with ht | ht
 ·by_cases htk : nodeAt g i = t
  ·rw [htk, List.getElem?_set_self (by rw [outL_len]; exact ht)]
   unfold outL2 outI
   rw [List.getElem?_map, List.getElem?_range ht, Option.map_some, ← htk, plOf_node hg hi]
   simp
   omega
  ·rw [List.getElem?_set_ne htk]
   unfold outL2 outI
   rw [List.getElem?_map, List.getElem?_map, List.getElem?_range ht, Option.map_some, Option.map_some]
   congr 1
   cases h : plOf g t with
   | none => rfl
   | some j =>
    have hne : j ≠ i := fun e => htk (e ▸ (plOf_some h).2)
    simp [hne]
 ·rw [List.getElem?_eq_none (by simp [outL_len]; omega), List.getElem?_eq_none (by rw [outL_len]; omega)]
def abB (g : Graph) (c : Bool) : List (Nat × AV) := [(3, .ptr 443 1 0 0 1), (4, .ptr 994 1 0 0 1), (6, .d (.ro (intsN (orderOf g)))), (9, .d (rowsN (intoOf g))), (10, .fn 101 [.ptr 994 1 0 0 1, .ptr 443 1 0 0 1]), (11, dB c)]
def abList (g : Graph) : List D := ((intsN (orderOf g)).take (intsN (orderOf g)).length).drop 1
def abO (g : Graph) (c : Bool) (i : Nat) : List (Nat × AV) := abB g c ++ [(57, .d (.ro (abList g))), (58, dN (reachN g - 1)), (59, dN i)]
def abI (g : Graph) (c : Bool) (i n : Nat) (best : Int) (r : List Nat) (k : Nat) : List (Nat × AV) := abB g c ++ [(13, dN n), (14, dI best), (57, .d (.ro (abList g))), (58, dN (reachN g - 1)), (59, dN i), (66, .d (rowN r)), (67, dN r.length), (68, dN k)]
def abI' (g : Graph) (c : Bool) (i n : Nat) (best : Int) : List (Nat × AV) := abB g c ++ [(13, dN n), (14, dI best), (57, .d (.ro (abList g))), (58, dN (reachN g - 1)), (59, dN i)]
abbrev abE (n : Nat) (out place : List Int) : List (Nat × Ent) := mtE 1 1 1 1 n out place
section
variable (g : Graph) (c : Bool) (i n : Nat) (best : Int) (r : List Nat) (k p : Nat) (out place : List Int)
theorem abFar (hk : k < r.length) (hrl : r.length < 1000000000) (hp : r[k]? = some p) (hpl : p < g.length) (h1 : place[p]? = some (-1)) : RW 110 (lO 74 24) (abI g c i n best r k) (abE g.length out place) .normal (abI g c i n best r (k + 1)) (abE g.length out place) := qS { hint := qT 74 [(69, qL hk), (70, hIxN Pg r k p hp), (79, hInb Pg p g.length hpl), (80, hElI Pg place p (-1) h1), (97, hSucc Pg k (by omega))] } 74 500000
theorem abNot (j : Nat) (hk : k < r.length) (hrl : r.length < 1000000000) (hp : r[k]? = some p) (hpl : p < g.length) (h1 : place[p]? = some (j : Int)) (h0 : p ≠ 0) (h2 : out[p]? = some (-1)) : RW 110 (lO 74 24) (abI g c i n best r k) (abE g.length out place) .normal (abI g c i n best r (k + 1)) (abE g.length out place) := qS { hint := qT 74 [(69, qL hk), (70, hIxN Pg r k p hp), (79, hInb Pg p g.length hpl), (80, hElI Pg place p (j : Int) h1), (84, hNeq Pg (p : Int) 0 true (by rw [beq_eq_false_iff_ne.2 (by omega)]; rfl)), (88, hInb Pg p g.length hpl), (89, hElI Pg out p (-1) h2), (97, hSucc Pg k (by omega))] } 74 500000
theorem abRootFirst (j : Nat) (hk : k < r.length) (hrl : r.length < 1000000000) (hp : r[k]? = some 0) (hpl : 0 < g.length) (h1 : place[0]? = some (j : Int)) : RW 110 (lO 74 24) (abI g c i n (-1) r k) (abE g.length out place) .normal (abI g c i n 0 r (k + 1)) (abE g.length out place) := qS { hint := qT 74 [(69, qL hk), (70, hIxN Pg r k 0 hp), (79, hInb Pg 0 g.length hpl), (80, hElI Pg place 0 (j : Int) h1), (97, hSucc Pg k (by omega))] } 74 500000
theorem abFirst (j u : Nat) (hk : k < r.length) (hrl : r.length < 1000000000) (hp : r[k]? = some p) (hpl : p < g.length) (h1 : place[p]? = some (j : Int)) (h0 : p ≠ 0) (h2 : out[p]? = some (u : Int)) : RW 110 (lO 74 24) (abI g c i n (-1) r k) (abE g.length out place) .normal (abI g c i n (p : Int) r (k + 1)) (abE g.length out place) := qS { hint := qT 74 [(69, qL hk), (70, hIxN Pg r k p hp), (79, hInb Pg p g.length hpl), (80, hElI Pg place p (j : Int) h1), (84, hNeq Pg (p : Int) 0 true (by rw [beq_eq_false_iff_ne.2 (by omega)]; rfl)), (88, hInb Pg p g.length hpl), (89, hElI Pg out p (u : Int) h2), (97, hSucc Pg k (by omega))] } 74 500000
theorem abRootMeet (j q t : Nat) (hk : k < r.length) (hrl : r.length < 1000000000) (hp : r[k]? = some 0) (hpl : 0 < g.length) (h1 : place[0]? = some (j : Int))
    (hm : ∀ rest : Heap, HCall Pg 101 [dN q, dN 0, .ptr 994 1 0 0 1, .ptr 443 1 0 0 1] (ovl (abE g.length out place) rest) [dN t] (ovl (abE g.length out place) rest)) : RW 110 (lO 74 24) (abI g c i n (q : Int) r k) (abE g.length out place) .normal (abI g c i n (t : Int) r (k + 1)) (abE g.length out place) := qS { calls := qC 74 75 101 (fits_of hm), hint := qT 74 [(69, qL hk), (70, hIxN Pg r k 0 hp), (79, hInb Pg 0 g.length hpl), (80, hElI Pg place 0 (j : Int) h1), (97, hSucc Pg k (by omega))] } 74 500000
theorem abMeet (j u q t : Nat) (hk : k < r.length) (hrl : r.length < 1000000000) (hp : r[k]? = some p) (hpl : p < g.length) (h1 : place[p]? = some (j : Int)) (h0 : p ≠ 0) (h2 : out[p]? = some (u : Int))
    (hm : ∀ rest : Heap, HCall Pg 101 [dN q, dN p, .ptr 994 1 0 0 1, .ptr 443 1 0 0 1] (ovl (abE g.length out place) rest) [dN t] (ovl (abE g.length out place) rest)) : RW 110 (lO 74 24) (abI g c i n (q : Int) r k) (abE g.length out place) .normal (abI g c i n (t : Int) r (k + 1)) (abE g.length out place) := qS { calls := qC 74 75 101 (fits_of hm), hint := qT 74 [(69, qL hk), (70, hIxN Pg r k p hp), (79, hInb Pg p g.length hpl), (80, hElI Pg place p (j : Int) h1), (84, hNeq Pg (p : Int) 0 true (by rw [beq_eq_false_iff_ne.2 (by omega)]; rfl)), (88, hInb Pg p g.length hpl), (89, hElI Pg out p (u : Int) h2), (97, hSucc Pg k (by omega))] } 74 500000
theorem abIStop : RW 110 (lO 74 24) (abI g c i n best r r.length) (abE g.length out place) (.exit 8) (abI' g c i n best) (abE g.length out place) := qS { hint := qT 74 [(69, qG r.length)] } 74 500000
theorem abListGet (hi : i + 1 < reachN g) : (abList g)[i]? = some (.int .i64 (nodeAt g (i + 1) : Int)) := by
 unfold abList intsN
 rw [List.take_length, List.getElem?_drop, List.getElem?_map, show 1 + i = i + 1 by omega, nodeAt_get hi]
 rfl
theorem abSame (i0 : Nat) (b : Nat) (hi : i + 1 < reachN g) (hgl : reachN g < 100000) (hn : nodeAt g (i + 1) = n) (hnl : n < g.length) (hr : (intoOf g)[n]? = some r) (hb : (out[n]? = some (b : Int)))
    (hl : RE 110 (.loop (lO 74 24)) (abI g c i n (-1) r 0) (abE g.length out place) (.exit 8) (abI' g c i n (b : Int)) (abE g.length out place))
    : RW 110 (lO 74 20) (abO g c i) (abE g.length out place) .normal (abO g c (i + 1)) (abE g.length out place) := qS { loops := qO 74 24 (qP hl), hint := qT 74 [(60, hLt Pg i (reachN g - 1) true (by simp; omega)), (61, .idx (abList g) ((i : Nat) : Int) (.int .i64 (n : Int)) (by omega) (by rw [← hn]; exact abListGet g i hi)), (65, hIxG Pg (intoOf g) n r hr), (67, hLenN Pg r), (100, hInb Pg n g.length hnl), (101, hElI Pg out n (b : Int) hb), (103, hNeq Pg (b : Int) (b : Int) false (by simp)), (108, hSucc Pg i (by omega))] } 74 500000
theorem abDiff (o : Int) (b : Nat) (hi : i + 1 < reachN g) (hgl : reachN g < 100000) (hn : nodeAt g (i + 1) = n) (hnl : n < g.length) (hr : (intoOf g)[n]? = some r) (hb : (out[n]? = some o)) (hob : o ≠ (b : Int))
    (hl : RE 110 (.loop (lO 74 24)) (abI g c i n (-1) r 0) (abE g.length out place) (.exit 8) (abI' g c i n (b : Int)) (abE g.length out place))
    : RW 110 (lO 74 20) (abO g c i) (abE g.length out place) .normal (abO g true (i + 1)) (abE g.length (out.set n (b : Int)) place) := by
 intro rest X hP hN
 unfold abE mtE
 rw [← mapI]
 exact seg okP named { loops := qO 74 24 (qP hl), hint := qT 74 [(60, hLt Pg i (reachN g - 1) true (by simp; omega)), (61, .idx (abList g) ((i : Nat) : Int) (.int .i64 (n : Int)) (by omega) (by rw [← hn]; exact abListGet g i hi)), (65, hIxG Pg (intoOf g) n r hr), (67, hLenN Pg r), (100, hInb Pg n g.length hnl), (101, hElI Pg out n o hb), (103, hNeq Pg o (b : Int) true (by rw [beq_eq_false_iff_ne.2 hob]; rfl)), (107, hInb Pg n g.length hnl), (132004, hElI Pg out n o hb), (108, hSucc Pg i (by omega))] } 2000 74 500000 110 (by kernel_rfl) X hP hN
theorem abOStop : RW 110 (lO 74 20) (abO g c (reachN g - 1)) (abE g.length out place) (.exit 6) (abB g c) (abE g.length out place) := qS { hint := qT 74 [(60, hLt Pg (reachN g - 1) (reachN g - 1) false (by simp))] } 74 500000
theorem abListLen : (abList g).length = reachN g - 1 := by
 unfold abList intsN reachN
 simp
theorem abWRound (c' : Bool) (out' : List Int) (hm : 0 < reachN g) (hgl : reachN g < 100000)
    (hl : RE 110 (.loop (lO 74 20)) (abO g false 0) (abE g.length out place) (.exit 6) (abB g c') (abE g.length out' place))
    : RW 110 (lO 74 17) (abB g true) (abE g.length out place) .normal (abB g c') (abE g.length out' place) := qS { loops := qO 74 20 (qP hl), hint := qT 74 [(55, hNat Pg ((intsN (orderOf g)).length) (reachN g) (by rw [intsN_len]; rfl)), (56, hI Pg (if ((reachN g : Nat) : Int) < 1 then ((reachN g : Nat) : Int) else 1) 1 (by rw [if_neg (by omega)])), (57, .cutr (intsN (orderOf g)) 1 (intsN (orderOf g)).length 1 ⟨by rw [intsN_len]; exact hm, Nat.le_refl _, by simp [intsN, D.cells]⟩), (58, hNat Pg ((abList g).length) (reachN g - 1) (by rw [abListLen]))] } 74 500000
theorem abWStop : RW 110 (lO 74 17) (abB g false) (abE g.length out place) (.exit 4) [(3, .ptr 443 1 0 0 1)] (abE g.length out place) := qS { hint := fun _ _ => none } 74 500000
end
end Go.Avm
namespace Go.Avm
open Go.Proofs Go.Avm.Dom
theorem anc_pos {m : Nat} {U V : Nat → Nat} (hU : Dom.Good m U) (he : ∀ i, 0 < i → i < m → U i = V i) : ∀ n, n < m → ∀ y, Anc U y n ↔ Anc V y n := fun n => by
 induction n using Nat.strongRecOn with
 | ind n ih =>
  intro hn y
  by_cases hy : y = n
  ·subst hy; exact ⟨fun _ => .refl _, fun _ => .refl _⟩
  ·constructor
   ·intro h
    obtain ⟨h0, h1⟩ := anc_up_of_ne h hy
    have hlt := hU n h0 hn
    refine .up h0 ?_
    rw [← he n h0 hn]
    exact (ih _ hlt (by omega) y).1 h1
   ·intro h
    obtain ⟨h0, h1⟩ := anc_up_of_ne h hy
    have hlt := hU n h0 hn
    refine .up h0 ((ih _ hlt (by omega) y).2 ?_)
    rw [he n h0 hn]
    exact h1
section
variable {g : Graph} (hg : Valid g) (hg0 : 0 < g.length)
include hg hg0
theorem placeL_none {v : Nat} (hv : v < g.length) (h : plOf g v = none) : (placeL g)[v]? = some (-1) := by
 unfold placeL
 rw [List.getElem?_map, List.getElem?_range hv]
 simp [placeI, h]
theorem outL_none {O : Nat → Option Nat} {i : Nat} (hi : i < reachN g) (h : O i = none) : (outL2 g O)[nodeAt g i]? = some (-1) := by
 unfold outL2
 rw [List.getElem?_map, List.getElem?_range (nodeAt_lt hg hi)]
 simp [outI, plOf_node hg hi, h]
end
def BestOk (g : Graph) (O : Nat → Option Nat) (ps : List Nat) (best : Int) : Prop :=
 (best = -1 ∧ ∀ p ∈ ps, ∀ j, plOf g p = some j → ¬ Proc O j) ∨
 ∃ r, r < reachN g ∧ Proc O r ∧ best = (nodeAt g r : Int) ∧ (∃ p ∈ ps, ∃ j, plOf g p = some j ∧ Proc O j) ∧ ∀ y, Anc (upU O) y r ↔ ∀ p ∈ ps, ∀ j, plOf g p = some j → Proc O j → Anc (upU O) y j
theorem BestOk.skip {g : Graph} {O : Nat → Option Nat} {ps : List Nat} {best : Int} {p : Nat} (h : BestOk g O ps best) (hp : ∀ j, plOf g p = some j → ¬ Proc O j) : BestOk g O (ps ++ [p]) best := by
 rcases h with ⟨h1, h2⟩ | ⟨r, h1, h2, h3, ⟨q, hq, hq2⟩, h4⟩
 ·refine .inl ⟨h1, fun q hq => ?_⟩
  rcases List.mem_append.1 hq with hq | hq
  ·exact h2 q hq
  ·simp only [List.mem_singleton] at hq
   subst hq; exact hp
 ·refine .inr ⟨r, h1, h2, h3, ⟨q, by simp [hq], hq2⟩, fun y => ?_⟩
  rw [h4 y]
  constructor
  ·intro ha q hq j hj hpj
   rcases List.mem_append.1 hq with hq | hq
   ·exact ha q hq j hj hpj
   ·simp only [List.mem_singleton] at hq
    subst hq
    exact absurd hpj (hp j hj)
  ·intro ha q hq
   exact ha q (by simp [hq])
section
variable {g : Graph} (hg : Valid g) (hg0 : 0 < g.length) (hgl : g.length < 100000)
include hg hg0 hgl
theorem abStep (c : Bool) (i n : Nat) {O : Nat → Option Nat} (hc : Chain (reachN g) O) (r : List Nat) (hr : ∀ p ∈ r, p < g.length) (hrl : r.length < 1000000000) (k : Nat) (hk : k < r.length) (best : Int) (hb : BestOk g O (r.take k) best) :
    ∃ best', BestOk g O (r.take (k + 1)) best' ∧ RW 110 (lO 74 24) (abI g c i n best r k) (abE g.length (outL2 g O) (placeL g)) .normal (abI g c i n best' r (k + 1)) (abE g.length (outL2 g O) (placeL g)) := by
 have hp : r[k]? = some r[k] := List.getElem?_eq_getElem hk
 have hpl : r[k] < g.length := hr _ (List.getElem_mem hk)
 rw [List.take_succ_eq_append_getElem hk]
 generalize r[k] = p at hp hpl
 cases hpo : plOf g p with
 | none =>
  exact ⟨best, hb.skip (fun j hj => by rw [hpo] at hj; cases hj), fun rest X hP hN => abFar g c i n best r k p _ _ hk hrl hp hpl (placeL_none hg hg0 hpl hpo) rest X hP hN⟩
 | some j =>
  obtain ⟨hj, hjp⟩ := plOf_some hpo
  have h1 : (placeL g)[p]? = some (j : Int) := by rw [← hjp]; exact placeL_node hg hj
  have hone : ∀ (P : Nat → Prop), (∀ q ∈ [p], ∀ j', plOf g q = some j' → P j') ↔ P j := fun P => by
   constructor
   ·intro h; exact h p (by simp) j hpo
   ·intro h q hq j' hj'
    simp only [List.mem_singleton] at hq
    subst hq
    rw [hpo] at hj'
    cases hj'
    exact h
  -- a new one that counts
  have new1 : Proc O j → (best = -1 ∧ ∀ q ∈ r.take k, ∀ j, plOf g q = some j → ¬ Proc O j) → BestOk g O (r.take k ++ [p]) (nodeAt g j : Int) := fun hpj ⟨_, h2⟩ =>
   .inr ⟨j, hj, hpj, rfl, ⟨p, by simp, j, hpo, hpj⟩, fun y => by
    constructor
    ·intro ha q hq j' hj' hp'
     rcases List.mem_append.1 hq with hq | hq
     ·exact absurd hp' (h2 q hq j' hj')
     ·exact (hone (fun j' => Proc O j' → Anc (upU O) y j')).2 (fun _ => ha) q hq j' hj' hp'
    ·intro ha; exact ha p (by simp) j hpo hpj⟩
  have new2 : ∀ q t, Proc O j → t < reachN g → Proc O t → (∀ y, Anc (upU O) y t ↔ Anc (upU O) y q ∧ Anc (upU O) y j) → (∀ y, Anc (upU O) y q ↔ ∀ p ∈ r.take k, ∀ j, plOf g p = some j → Proc O j → Anc (upU O) y j) → BestOk g O (r.take k ++ [p]) (nodeAt g t : Int) := fun q t hpj ht hpt hq1 hq2 =>
   .inr ⟨t, ht, hpt, rfl, ⟨p, by simp, j, hpo, hpj⟩, fun y => by
    rw [hq1 y, hq2 y]
    constructor
    ·rintro ⟨ha, hb⟩ q hq j' hj' hp'
     rcases List.mem_append.1 hq with hq | hq
     ·exact ha q hq j' hj' hp'
     ·exact (hone (fun j' => Proc O j' → Anc (upU O) y j')).2 (fun _ => hb) q hq j' hj' hp'
    ·intro ha
     exact ⟨fun q hq => ha q (by simp [hq]), ha p (by simp) j hpo hpj⟩⟩
  by_cases hp0 : p = 0
  ·have hj0 : j = 0 := nodeAt_inj hg hj (reachN_pos hg0) (by rw [hjp, hp0, nodeAt_zero hg0])
   have hpj : Proc O j := .inl hj0
   rw [hp0] at hp h1
   have e0 : nodeAt g j = 0 := by rw [hjp, hp0]
   rcases hb with hb | ⟨q, q1, q2, q3, _, q5⟩
   ·have := new1 hpj hb
    rw [e0] at this
    rw [hb.1]
    exact ⟨_, this, fun rest X hP hN => abRootFirst g c i n r k _ _ j hk hrl hp hg0 h1 rest X hP hN⟩
   ·obtain ⟨t, t1, t2, t3, t4⟩ := meetC hg hc 1 1 1 1 q1 hj q2 hpj
    rw [e0] at t4
    rw [q3]
    exact ⟨_, new2 q t hpj t1 t2 t3 q5, fun rest X hP hN => abRootMeet g c i n r k _ _ j (nodeAt g q) (nodeAt g t) hk hrl hp hg0 h1 t4 rest X hP hN⟩
  ·have hj0 : 0 < j := by
     rcases Nat.eq_zero_or_pos j with h | h
     ·rw [h, nodeAt_zero hg0] at hjp; exact absurd hjp.symm hp0
     ·exact h
   cases hO : O j with
   | none =>
    have h2 : (outL2 g O)[p]? = some (-1) := by rw [← hjp]; exact outL_none hg hg0 hj hO
    exact ⟨best, hb.skip (fun j' hj' => by
     rw [hpo] at hj'
     cases hj'
     rintro (h | ⟨u, hu⟩)
     ·omega
     ·rw [hO] at hu; cases hu), fun rest X hP hN => abNot g c i n best r k p _ _ j hk hrl hp hpl h1 hp0 h2 rest X hP hN⟩
   | some u =>
    have h2 : (outL2 g O)[p]? = some (nodeAt g u : Int) := by rw [← hjp]; exact outL_node hg hj hj0 hO
    have hpj : Proc O j := .inr ⟨u, hO⟩
    rcases hb with hb | ⟨q, q1, q2, q3, _, q5⟩
    ·have := new1 hpj hb
     rw [hjp] at this
     rw [hb.1]
     exact ⟨_, this, fun rest X hP hN => abFirst g c i n r k p _ _ j (nodeAt g u) hk hrl hp hpl h1 hp0 h2 rest X hP hN⟩
    ·obtain ⟨t, t1, t2, t3, t4⟩ := meetC hg hc 1 1 1 1 q1 hj q2 hpj
     rw [hjp] at t4
     rw [q3]
     exact ⟨_, new2 q t hpj t1 t2 t3 q5, fun rest X hP hN => abMeet g c i n r k p _ _ j (nodeAt g u) (nodeAt g q) (nodeAt g t) hk hrl hp hpl h1 hp0 h2 t4 rest X hP hN⟩
theorem abILoop (c : Bool) (i n : Nat) {O : Nat → Option Nat} (hc : Chain (reachN g) O) (r : List Nat) (hr : ∀ p ∈ r, p < g.length) (hrl : r.length < 1000000000) : ∀ (m k : Nat) (best : Int), r.length - k = m → k ≤ r.length → BestOk g O (r.take k) best →
    ∃ best', BestOk g O r best' ∧ ∀ (rest : Heap) (X : Fix), X.P = Pg → X.N = 110 →
     LW X (lO 74 24) ⟨envOf (abI g c i n best r k), ovl (abE g.length (outL2 g O) (placeL g)) rest⟩ fun e' S' => e' = .exit 8 ∧ S' = ⟨envOf (abI' g c i n best'), ovl (abE g.length (outL2 g O) (placeL g)) rest⟩
 | 0, k, best, hm, hk, hb => by
  have : k = r.length := by omega
  subst this
  rw [List.take_length] at hb
  exact ⟨best, hb, fun rest X hP hN => lw_end (abIStop g c i n best r _ _ rest X hP hN) (by simp)⟩
 | m + 1, k, best, hm, hk, hb => by
  obtain ⟨b1, hb1, hs⟩ := abStep hg hg0 hgl c i n hc r hr hrl k (by omega) best hb
  obtain ⟨b2, hb2, hl⟩ := abILoop c i n hc r hr hrl m (k + 1) b1 (by omega) (by omega) hb1
  exact ⟨b2, hb2, fun rest X hP hN => lw_seg (hs rest X hP hN) (hl rest X hP hN)⟩
end
def stO (W : Nat → Nat) (old : Nat → Option Nat) (i : Nat) : Nat → Option Nat := fun j => if j < i then (if j = 0 then none else some (W j)) else old j
def allO (U : Nat → Nat) : Nat → Option Nat := fun j => if j = 0 then none else some (U j)
def FactAt (g : Graph) (W : Nat → Nat) (old : Nat → Option Nat) (n : Nat) : Prop :=
 W n < n ∧ ∀ y, Anc (upU (stO W old n)) y (W n) ↔ ∀ p ∈ preds g n, Proc (stO W old n) p → Anc (upU (stO W old n)) y p
def OldOk (g : Graph) (old : Nat → Option Nat) : Prop := (∀ j, old j = none) ∨ ∃ U, Dom.Good (reachN g) U ∧ old = allO U
theorem stO_agree {W W' : Nat → Nat} {old : Nat → Option Nat} {i : Nat} (h : ∀ j, j < i → W j = W' j) : stO W old i = stO W' old i := by
 funext j
 unfold stO
 split
 ·rename_i hj; rw [h j hj]
 ·rfl
theorem stO_chain {g : Graph} {W : Nat → Nat} {old : Nat → Option Nat} (ho : OldOk g old) {i : Nat} (hW : ∀ n, 0 < n → n < i → W n < n) (hi : i ≤ reachN g) : Chain (reachN g) (stO W old i) := fun j u h0 hj hu => by
 have hset : ∀ t, t < i → Proc (stO W old i) t := fun t ht => by
  by_cases h : t = 0
  ·exact .inl h
  ·exact .inr ⟨W t, by unfold stO; rw [if_pos ht, if_neg h]⟩
 unfold stO at hu
 split at hu
 ·rename_i hji
  rw [if_neg (by omega)] at hu
  cases hu
  have := hW j h0 hji
  exact ⟨this, hset _ (by omega)⟩
 ·rename_i hji
  rcases ho with h | ⟨U, hU, h⟩
  ·rw [h j] at hu; cases hu
  ·rw [h] at hu
   unfold allO at hu
   rw [if_neg (by omega)] at hu
   cases hu
   have hlt := hU j h0 hj
   refine ⟨hlt, ?_⟩
   by_cases hui : U j < i
   ·exact hset _ hui
   ·by_cases h0' : U j = 0
    ·exact .inl h0'
    ·exact .inr ⟨U (U j), by unfold stO; rw [if_neg hui, h]; unfold allO; rw [if_neg h0']⟩
section
variable {g : Graph} (hg : Valid g) (hg0 : 0 < g.length) (hgl : g.length < 100000)
include hg hg0
theorem reachN_le : reachN g ≤ g.length := by
 have h1 : ∀ v ∈ orderOf g, v ∈ List.range g.length := fun v hv => by
  have := ((order_mem hg v).1 hv).2
  exact List.mem_range.2 (Re.lt hg this hg0)
 have := List.Nodup.length_le_of_subset (order_nodup hg) h1
 rwa [List.length_range] at this
theorem into_get {v : Nat} (hv : v < g.length) : (intoOf g)[v]? = some ((List.range g.length).filter fun p => decide (v ∈ succ g p)) := by
 unfold intoOf
 rw [List.getElem?_map, List.getElem?_range hv]
 rfl
theorem preds_into {i p : Nat} (hi : i < reachN g) : p ∈ preds g i ↔ ∃ q ∈ (List.range g.length).filter (fun q => decide (nodeAt g i ∈ succ g q)), plOf g q = some p := by
 rw [preds_mem]
 constructor
 ·rintro ⟨h1, h2⟩
  exact ⟨nodeAt g p, by rw [List.mem_filter, List.mem_range]; exact ⟨nodeAt_lt hg h1, by simpa using h2⟩, plOf_node hg h1⟩
 ·rintro ⟨q, hq, hpq⟩
  obtain ⟨h1, h2⟩ := plOf_some hpq
  rw [List.mem_filter] at hq
  subst h2
  exact ⟨h1, by simpa using hq.2⟩
include hgl
theorem abPass {old : Nat → Option Nat} (ho : OldOk g old) : ∀ (m i : Nat) (W : Nat → Nat) (c : Bool), reachN g - 1 - i = m → i ≤ reachN g - 1 → (∀ n, 0 < n → n < i + 1 → FactAt g W old n) → (c = false → ∀ n, 0 < n → n < i + 1 → old n = some (W n)) → (c = true → ∃ n, 0 < n ∧ n < i + 1 ∧ old n ≠ some (W n)) →
    ∃ (W' : Nat → Nat) (c' : Bool), (∀ j, j < i + 1 → W' j = W j) ∧ (∀ n, 0 < n → n < reachN g → FactAt g W' old n) ∧ (c' = false → ∀ n, 0 < n → n < reachN g → old n = some (W' n)) ∧ (c' = true → ∃ n, 0 < n ∧ n < reachN g ∧ old n ≠ some (W' n)) ∧
     ∀ (rest : Heap) (X : Fix), X.P = Pg → X.N = 110 → LW X (lO 74 20) ⟨envOf (abO g c i), ovl (abE g.length (outL2 g (stO W old (i + 1))) (placeL g)) rest⟩ fun e' S' => e' = .exit 6 ∧ S' = ⟨envOf (abB g c'), ovl (abE g.length (outL2 g (stO W' old (reachN g))) (placeL g)) rest⟩
 | 0, i, W, c, hm, hi, hf, hc0, hc1 => by
  have hpos := reachN_pos hg0
  have hii : i + 1 = reachN g := by omega
  have hil : i = reachN g - 1 := by omega
  refine ⟨W, c, fun _ _ => rfl, by rwa [← hii], by rwa [← hii], by rwa [← hii], fun rest X hP hN => ?_⟩
  rw [hii, hil]
  exact lw_end (abOStop g c _ _ rest X hP hN) (by simp)
 | m + 1, i, W, c, hm, hi, hf, hc0, hc1 => by
  have hi1 : i + 1 < reachN g := by omega
  have hml := reachN_le hg hg0
  have hchain : Chain (reachN g) (stO W old (i + 1)) := stO_chain ho (fun n h0 hn => (hf n h0 hn).1) (by omega)
  have hnl := nodeAt_lt hg hi1
  obtain ⟨best, hbest, hinner⟩ := abILoop hg hg0 hgl c i (nodeAt g (i + 1)) hchain ((List.range g.length).filter fun p => decide (nodeAt g (i + 1) ∈ succ g p)) (fun p hp => by
   rw [List.mem_filter, List.mem_range] at hp
   exact hp.1) (by
   have := List.length_filter_le (fun p => decide (nodeAt g (i + 1) ∈ succ g p)) (List.range g.length)
   rw [List.length_range] at this
   omega) _ 0 (-1) rfl (Nat.zero_le _) (.inl ⟨rfl, fun p hp => by simp at hp⟩)
  -- one ahead of it has been told
  obtain ⟨par, hpar⟩ := par_ex hg
  obtain ⟨hp1, hp2⟩ := hpar (i + 1) (by omega) hi1
  have hpp : Proc (stO W old (i + 1)) (par (i + 1)) := by
   by_cases h : par (i + 1) = 0
   ·exact .inl h
   ·exact .inr ⟨W (par (i + 1)), by unfold stO; rw [if_pos hp2, if_neg h]⟩
  obtain ⟨q, hq, hqp⟩ := (preds_into hg hg0 hi1).1 hp1
  rcases hbest with ⟨_, h2⟩ | ⟨r, r1, r2, r3, _, r5⟩
  ·exact absurd hpp (h2 q hq _ hqp)
  -- the new value
  have hfact : ∀ y, Anc (upU (stO W old (i + 1))) y r ↔ ∀ p ∈ preds g (i + 1), Proc (stO W old (i + 1)) p → Anc (upU (stO W old (i + 1))) y p := fun y => by
   rw [r5 y]
   constructor
   ·intro h p hp hpo
    obtain ⟨q, hq, hqp⟩ := (preds_into hg hg0 hi1).1 hp
    exact h q hq p hqp hpo
   ·intro h q hq j hj hpo
    exact h j ((preds_into hg hg0 hi1).2 ⟨q, hq, hj⟩) hpo
  have hrlt : r < i + 1 := by
   have := anc_le_chain hg hchain (par (i + 1)) (by omega) hpp r ((hfact r).1 (.refl r) _ hp1 hpp)
   omega
  obtain ⟨W1, hW1, hW1i⟩ : ∃ W1 : Nat → Nat, (∀ j, j < i + 1 → W1 j = W j) ∧ W1 (i + 1) = r := ⟨fun j => if j = i + 1 then r else W j, fun j hj => by simp only; rw [if_neg (by omega)], by simp⟩
  have hf1 : ∀ n, 0 < n → n < i + 2 → FactAt g W1 old n := fun n h0 hn => by
   by_cases hni : n = i + 1
   ·subst hni
    refine ⟨by rw [hW1i]; exact hrlt, fun y => ?_⟩
    rw [hW1i, stO_agree hW1]
    exact hfact y
   ·have := hf n h0 (by omega)
    refine ⟨by rw [hW1 n (by omega)]; exact this.1, fun y => ?_⟩
    rw [hW1 n (by omega), stO_agree (fun j hj => hW1 j (by omega))]
    exact this.2 y
  have hst : (fun j => if j = i + 1 then some r else stO W old (i + 1) j) = stO W1 old (i + 2) := by
   funext j
   unfold stO
   by_cases hj : j = i + 1
   ·subst hj
    rw [if_pos rfl, if_pos (show i + 1 < i + 2 by omega), if_neg (show ¬ i + 1 = 0 by omega), hW1i]
   ·rw [if_neg hj]
    by_cases hj2 : j < i + 1
    ·rw [if_pos hj2, if_pos (show j < i + 2 by omega), hW1 j hj2]
    ·rw [if_neg hj2, if_neg (show ¬ j < i + 2 by omega)]
  have hset : (outL2 g (stO W old (i + 1))).set (nodeAt g (i + 1)) (nodeAt g r : Int) = outL2 g (stO W1 old (i + 2)) := by
   rw [outL2_set hg (by omega) hi1, hst]
  have hget : (stO W old (i + 1)) (i + 1) = old (i + 1) := by unfold stO; rw [if_neg (by omega)]
  have hinner' : RE 110 (.loop (lO 74 24)) (abI g c i (nodeAt g (i + 1)) (-1) ((List.range g.length).filter fun p => decide (nodeAt g (i + 1) ∈ succ g p)) 0) (abE g.length (outL2 g (stO W old (i + 1))) (placeL g)) (.exit 8) (abI' g c i (nodeAt g (i + 1)) (nodeAt g r : Int)) (abE g.length (outL2 g (stO W old (i + 1))) (placeL g)) := fun rest X hP hN => by
   have := (hinner rest X hP hN).aw
   rw [r3] at this
   exact this
  by_cases heq : old (i + 1) = some r
  ·-- nothing changes
   obtain ⟨W', c', w1, w2, w3, w4, w5⟩ := abPass ho m (i + 1) W1 c (by omega) (by omega) hf1 (fun hc n h0 hn => by
    by_cases hni : n = i + 1
    ·subst hni; rw [hW1i]; exact heq
    ·rw [hW1 n (by omega)]; exact hc0 hc n h0 (by omega)) (fun hc => by
    obtain ⟨n, n0, n1, n2⟩ := hc1 hc
    exact ⟨n, n0, by omega, by rw [hW1 n (by omega)]; exact n2⟩)
   refine ⟨W', c', fun j hj => (w1 j (by omega)).trans (hW1 j hj), w2, w3, w4, fun rest X hP hN => ?_⟩
   have hout : (outL2 g (stO W old (i + 1)))[nodeAt g (i + 1)]? = some (nodeAt g r : Int) := outL_node hg hi1 (by omega) (by rw [hget]; exact heq)
   refine lw_seg (abSame g c i (nodeAt g (i + 1)) _ _ _ 0 (nodeAt g r) hi1 (by omega) rfl hnl (into_get hg hg0 hnl) hout hinner' rest X hP hN) ?_
   have := w5 rest X hP hN
   have e : outL2 g (stO W old (i + 1)) = outL2 g (stO W1 old (i + 2)) := by
    rw [← hset]
    exact (set_same hout).symm
   rw [e]
   exact this
  ·obtain ⟨W', c', w1, w2, w3, w4, w5⟩ := abPass ho m (i + 1) W1 true (by omega) (by omega) hf1 (fun hc => by cases hc) (fun _ => ⟨i + 1, by omega, by omega, by rw [hW1i]; exact heq⟩)
   refine ⟨W', c', fun j hj => (w1 j (by omega)).trans (hW1 j hj), w2, w3, w4, fun rest X hP hN => ?_⟩
   obtain ⟨o, hout, hne⟩ : ∃ o : Int, (outL2 g (stO W old (i + 1)))[nodeAt g (i + 1)]? = some o ∧ o ≠ (nodeAt g r : Int) := by
    cases hold : old (i + 1) with
    | none => exact ⟨-1, outL_none hg hg0 hi1 (by rw [hget]; exact hold), by omega⟩
    | some u =>
     refine ⟨nodeAt g u, outL_node hg hi1 (by omega) (by rw [hget]; exact hold), fun h => heq ?_⟩
     have hu : u < reachN g := by
      rcases ho with h' | ⟨U, hU, h'⟩
      ·rw [h'] at hold; cases hold
      ·rw [h'] at hold
       unfold allO at hold
       rw [if_neg (by omega)] at hold
       cases hold
       have := hU (i + 1) (by omega) hi1
       omega
     rw [hold, nodeAt_inj hg hu r1 (by omega)]
   refine lw_seg (abDiff g c i (nodeAt g (i + 1)) _ _ _ o (nodeAt g r) hi1 (by omega) rfl hnl (into_get hg hg0 hnl) hout hne hinner' rest X hP hN) ?_
   rw [hset]
   exact w5 rest X hP hN
end
end Go.Avm
namespace Go.Avm
open Go.Proofs Go.Avm.Dom
theorem anc_le_pos {m : Nat} {U V : Nat → Nat} (hU : Dom.Good m U) : ∀ n, n < m → (∀ i, 0 < i → i ≤ n → U i = V i) → ∀ y, Anc U y n ↔ Anc V y n := fun n => by
 induction n using Nat.strongRecOn with
 | ind n ih =>
  intro hn he y
  by_cases hy : y = n
  ·subst hy; exact ⟨fun _ => .refl _, fun _ => .refl _⟩
  ·constructor
   ·intro h
    obtain ⟨h0, h1⟩ := anc_up_of_ne h hy
    have hlt := hU n h0 hn
    refine .up h0 ?_
    rw [← he n h0 (Nat.le_refl _)]
    exact (ih _ hlt (by omega) (fun i hi hin => he i hi (by omega)) y).1 h1
   ·intro h
    obtain ⟨h0, h1⟩ := anc_up_of_ne h hy
    have hlt := hU n h0 hn
    refine .up h0 ((ih _ hlt (by omega) (fun i hi hin => he i hi (by omega)) y).2 ?_)
    rw [he n h0 (Nat.le_refl _)]
    exact h1
section
variable {g : Graph} {W U : Nat → Nat}
theorem good_of_facts {old : Nat → Option Nat} (hf : ∀ n, 0 < n → n < reachN g → FactAt g W old n) : Dom.Good (reachN g) W := fun n h0 hn => (hf n h0 hn).1
theorem first_of_facts (hf : ∀ n, 0 < n → n < reachN g → FactAt g W (fun _ => none) n) : First (reachN g) (preds g) W := fun n h0 hn y => by
 have hW := good_of_facts hf
 have hst : ∀ i, 0 < i → i < n → upU (stO W (fun _ => none) n) i = W i := fun i hi hin => by
  unfold upU stO
  rw [if_pos hin, if_neg (by omega)]
  rfl
 have hlt := (hf n h0 hn).1
 rw [anc_le_pos hW (W n) (by omega) (V := upU (stO W (fun _ => none) n)) (fun i hi hin => (hst i hi (by omega)).symm), (hf n h0 hn).2 y]
 constructor
 ·intro h p hp hpn
  rw [anc_le_pos hW p (by omega) (V := upU (stO W (fun _ => none) n)) (fun i hi hin => (hst i hi (by omega)).symm)]
  refine h p hp ?_
  by_cases h0' : p = 0
  ·exact .inl h0'
  ·exact .inr ⟨W p, by unfold stO; rw [if_pos hpn, if_neg h0']⟩
 ·intro h p hp hpo
  have hpn : p < n := by
   rcases hpo with h1 | ⟨u, hu⟩
   ·omega
   ·unfold stO at hu
    split at hu
    ·assumption
    ·cases hu
  rw [← anc_le_pos hW p (by omega) (V := upU (stO W (fun _ => none) n)) (fun i hi hin => (hst i hi (by omega)).symm)]
  exact h p hp hpn
theorem next_of_facts (hU : Dom.Good (reachN g) U) (hf : ∀ n, 0 < n → n < reachN g → FactAt g W (allO U) n) : Dom.Next (reachN g) (preds g) U W := fun n h0 hn y => by
 have hW := good_of_facts hf
 have hm : Dom.Good (reachN g) (Dom.mix n W U) := mix_good hU hW n
 have hst : ∀ i, 0 < i → i < reachN g → Dom.mix n W U i = upU (stO W (allO U) n) i := fun i hi hin => by
  unfold upU stO allO Dom.mix
  by_cases h : i < n
  ·rw [if_pos h, if_pos h, if_neg (by omega)]; rfl
  ·rw [if_neg h, if_neg h, if_neg (by omega)]; rfl
 have hlt := (hf n h0 hn).1
 rw [anc_pos hm hst (W n) (by omega), (hf n h0 hn).2 y]
 constructor
 ·intro h p hp
  have hpm := (preds_mem.1 hp).1
  rw [anc_pos hm hst p hpm]
  refine h p hp ?_
  by_cases h0' : p = 0
  ·exact .inl h0'
  ·by_cases hpn : p < n
   ·exact .inr ⟨W p, by unfold stO; rw [if_pos hpn, if_neg h0']⟩
   ·exact .inr ⟨U p, by unfold stO allO; rw [if_neg hpn, if_neg h0']⟩
 ·intro h p hp _
  rw [← anc_pos hm hst p (preds_mem.1 hp).1]
  exact h p hp
theorem fix_of_next (hU : Dom.Good (reachN g) U) (hW : Dom.Good (reachN g) W) (h : Dom.Next (reachN g) (preds g) U W) (he : ∀ n, 0 < n → n < reachN g → U n = W n) : Dom.Next (reachN g) (preds g) U U := fun n h0 hn y => by
 have hmm : ∀ i, 0 < i → i < reachN g → Dom.mix n U U i = Dom.mix n W U i := fun i hi hin => by
  unfold Dom.mix
  by_cases h : i < n
  ·rw [if_pos h, if_pos h, he i hi hin]
  ·rw [if_neg h, if_neg h]
 have hg2 := mix_good hU hU n
 have hlt := hU n h0 hn
 rw [anc_pos hg2 hmm (U n) (by omega), he n h0 hn, h n h0 hn y]
 constructor
 ·intro h p hp; rw [anc_pos hg2 hmm p (preds_mem.1 hp).1]; exact h p hp
 ·intro h p hp; rw [← anc_pos hg2 hmm p (preds_mem.1 hp).1]; exact h p hp
def sumTo (U : Nat → Nat) : Nat → Nat
 | 0 => 0
 | n + 1 => sumTo U n + U n
theorem sumTo_le : ∀ n, (∀ j, j < n → W j ≤ U j) → sumTo W n ≤ sumTo U n
 | 0, _ => Nat.le_refl _
 | n + 1, h => by
  have := sumTo_le n (fun j hj => h j (by omega))
  have := h n (by omega)
  simp only [sumTo]
  omega
theorem sumTo_lt : ∀ n, (∀ j, j < n → W j ≤ U j) → (∃ j, j < n ∧ W j < U j) → sumTo W n < sumTo U n
 | 0, _, ⟨j, hj, _⟩ => by omega
 | n + 1, h, ⟨j, hj, hlt⟩ => by
  have h1 := h n (by omega)
  simp only [sumTo]
  by_cases hjn : j = n
  ·subst hjn
   have := sumTo_le (W := W) (U := U) j (fun t ht => h t (by omega))
   omega
  ·have := sumTo_lt n (fun t ht => h t (by omega)) ⟨j, by omega, hlt⟩
   omega
end
section
variable {g : Graph} (hg : Valid g) (hg0 : 0 < g.length) (hgl : g.length < 100000)
include hg hg0 hgl
theorem stO_one {W : Nat → Nat} {old : Nat → Option Nat} (h0 : old 0 = none) : stO W old 1 = old := by
 funext j
 unfold stO
 by_cases hj : j < 1
 ·have : j = 0 := by omega
  subst this
  rw [if_pos hj, if_pos rfl, h0]
 ·rw [if_neg hj]
theorem stO_end {W : Nat → Nat} {old : Nat → Option Nat} : outL2 g (stO W old (reachN g)) = outL2 g (allO W) := outL2_congr fun i hi => by unfold stO allO; rw [if_pos hi]
theorem abWLoop : ∀ (s : Nat) (U : Nat → Nat), sumTo U (reachN g) = s → Inv (reachN g) (preds g) U → (∀ n, n < reachN g → ∀ y, ¬ Av (reachN g) (preds g) y n → Anc U y n) →
    ∃ U', Fixed g U' ∧ ∀ (rest : Heap) (X : Fix), X.P = Pg → X.N = 110 → LW X (lO 74 17) ⟨envOf (abB g true), ovl (abE g.length (outL2 g (allO U)) (placeL g)) rest⟩ fun e' S' => e' = .exit 4 ∧ S' = ⟨envOf [(3, .ptr 443 1 0 0 1)], ovl (abE g.length (outL2 g (allO U')) (placeL g)) rest⟩ := fun s => by
 induction s using Nat.strongRecOn with
 | ind s ih =>
  intro U hs hi hsound
  have hU := hi.good
  obtain ⟨par, hpar⟩ := par_ex hg
  have hml := reachN_le hg hg0
  obtain ⟨W, c, w0, hf, hc0, hc1, hl⟩ := abPass hg hg0 hgl (old := allO U) (.inr ⟨U, hU, rfl⟩) _ 0 U false rfl (Nat.zero_le _) (fun n h0 hn => by omega) (fun _ n h0 hn => by omega) (fun h => by cases h)
  have hW := good_of_facts hf
  have hnext := next_of_facts hU hf
  rw [stO_one hg hg0 hgl (by simp [allO]), stO_end hg hg0 hgl] at hl
  cases c with
  | false =>
   have he : ∀ n, 0 < n → n < reachN g → U n = W n := fun n h0 hn => by
    have := hc0 rfl n h0 hn
    unfold allO at this
    rw [if_neg (by omega)] at this
    exact Option.some.inj this
   refine ⟨U, ⟨hU, hi, hsound, fix_of_next hU hW hnext he⟩, fun rest X hP hN => ?_⟩
   have e : outL2 g (allO W) = outL2 g (allO U) := outL2_congr fun i hi => by
    unfold allO
    by_cases h : i = 0
    ·rw [if_pos h, if_pos h]
    ·rw [if_neg h, if_neg h, he i (by omega) hi]
   rw [e] at hl
   exact lw_seg (abWRound g _ _ false _ (reachN_pos hg0) (by omega) (fun rest X hP hN => (hl rest X hP hN).aw) rest X hP hN) (lw_end (abWStop g _ _ rest X hP hN) (by simp))
  | true =>
   obtain ⟨n, n0, n1, n2⟩ := hc1 rfl
   have hdown : ∀ j, j < reachN g → W j ≤ U j := fun j hj => by
    by_cases h : j = 0
    ·subst h; rw [w0 0 (by omega)]; exact Nat.le_refl _
    ·exact down hpar preds_low hi hW hnext (by omega) hj
   have hlt : sumTo W (reachN g) < s := by
    rw [← hs]
    refine sumTo_lt _ hdown ⟨n, n1, ?_⟩
    have h1 := hdown n n1
    have h2 : U n ≠ W n := fun h => n2 (by unfold allO; rw [if_neg (by omega), h])
    omega
   obtain ⟨U', hfix, hl2⟩ := ih _ hlt W rfl (inv_next hpar preds_low hi hW hnext) (sound_next hpar preds_low hU hi.tree hsound hW hnext)
   exact ⟨U', hfix, fun rest X hP hN => lw_seg (abWRound g _ _ true _ (reachN_pos hg0) (by omega) (fun rest X hP hN => (hl rest X hP hN).aw) rest X hP hN) (hl2 rest X hP hN)⟩
theorem abWAll : ∃ U', Fixed g U' ∧ ∀ (rest : Heap) (X : Fix), X.P = Pg → X.N = 110 → LW X (lO 74 17) ⟨envOf (abB g true), ovl (abE g.length (outL2 g fun _ => none) (placeL g)) rest⟩ fun e' S' => e' = .exit 4 ∧ S' = ⟨envOf [(3, .ptr 443 1 0 0 1)], ovl (abE g.length (outL2 g (allO U')) (placeL g)) rest⟩ := by
 have hml := reachN_le hg hg0
 obtain ⟨W, c, w0, hf, hc0, hc1, hl⟩ := abPass hg hg0 hgl (old := fun _ => none) (.inl fun _ => rfl) _ 0 (fun _ => 0) false rfl (Nat.zero_le _) (fun n h0 hn => by omega) (fun _ n h0 hn => by omega) (fun h => by cases h)
 have hW := good_of_facts hf
 have hF := first_of_facts hf
 rw [stO_one hg hg0 hgl rfl, stO_end hg hg0 hgl] at hl
 have hsound := sound_first hF
 have hround := fun rest X hP hN => abWRound g _ _ c _ (reachN_pos hg0) (by omega) (fun rest X hP hN => (hl rest X hP hN).aw) rest X hP hN
 cases c with
 | false =>
  -- one node alone
  have hone : ∀ n, 0 < n → n < reachN g → False := fun n h0 hn => by
   have := hc0 rfl n h0 hn
   cases this
  refine ⟨W, ⟨hW, .first hW hF, hsound, fun n h0 hn => absurd hn (fun h => hone n h0 h)⟩, fun rest X hP hN => lw_seg (hround rest X hP hN) (lw_end (abWStop g _ _ rest X hP hN) (by simp))⟩
 | true =>
  obtain ⟨U', hfix, hl2⟩ := abWLoop hg hg0 hgl _ W rfl (.first hW hF) hsound
  exact ⟨U', hfix, fun rest X hP hN => lw_seg (hround rest X hP hN) (hl2 rest X hP hN)⟩
end
def abEA (n : Nat) (out place : List AV) : List (Nat × Ent) := [(443, ⟨1, some (.arr 1 [.sl 349 1 0 n 1])⟩), (349, ⟨1, some (.arr 1 out)⟩), (994, ⟨1, some (.arr 1 [.sl 902 1 0 n 1])⟩), (902, ⟨1, some (.arr 1 place)⟩)]
def ab4L (g : Graph) (i : Nat) : List (Nat × AV) := [(0, .d (rowsN g)), (3, .ptr 443 1 0 0 1), (4, .ptr 994 1 0 0 1), (24, dN g.length), (25, dN i)]
def ab10L (g : Graph) (i : Nat) : List (Nat × AV) := [(0, .d (rowsN g)), (3, .ptr 443 1 0 0 1), (4, .ptr 994 1 0 0 1), (6, .d (.ro (intsN (orderOf g)))), (37, .d (.ro (intsN (orderOf g)))), (38, dN (reachN g)), (39, dN i)]
section
variable (g : Graph) (i : Nat) (out place : List AV)
theorem ab4Round (hi : i < g.length) (hgl : g.length < 100000) (z1 z2 : AV) (h1 : out[0 + i]? = some z1) (h2 : place[0 + i]? = some z2) : RW 110 (lO 74 4) (ab4L g i) (abEA g.length out place) .normal (ab4L g (i + 1)) (abEA g.length (out.set (0 + i) (dI (-1))) (place.set (0 + i) (dI (-1)))) := qS { hint := qT 74 [(26, qL hi), (32, hInb Pg i g.length hi), (106005, .elt out (0 + i) z1 h1), (33, hInb Pg i g.length hi), (106007, .elt place (0 + i) z2 h2), (34, hSucc Pg i (by omega))] } 74 500000
theorem ab4Stop : RW 110 (lO 74 4) (ab4L g g.length) (abEA g.length out place) (.exit 0) [(0, .d (rowsN g)), (3, .ptr 443 1 0 0 1), (4, .ptr 994 1 0 0 1)] (abEA g.length out place) := qS { hint := qT 74 [(26, qG g.length)] } 74 500000
theorem ab10Round (v : Nat) (hi : i < reachN g) (hgl : reachN g < 100000) (hv : (intsN (orderOf g))[i]? = some (.int .i64 (v : Int))) (hvl : v < g.length) (z2 : AV) (h2 : place[0 + v]? = some z2) : RW 110 (lO 74 10) (ab10L g i) (abEA g.length out place) .normal (ab10L g (i + 1)) (abEA g.length out (place.set (0 + v) (dN i))) := qS { hint := qT 74 [(40, hLt Pg i (reachN g) true (by simpa using hi)), (42, .idx (intsN (orderOf g)) ((i : Nat) : Int) (.int .i64 (v : Int)) (by omega) hv), (47, hInb Pg v g.length hvl), (112004, .elt place (0 + v) z2 h2), (48, hSucc Pg i (by omega))] } 74 500000
theorem ab10Stop : RW 110 (lO 74 10) (ab10L g (reachN g)) (abEA g.length out place) (.exit 2) [(0, .d (rowsN g)), (3, .ptr 443 1 0 0 1), (4, .ptr 994 1 0 0 1), (6, .d (.ro (intsN (orderOf g))))] (abEA g.length out place) := qS { hint := qT 74 [(40, hLt Pg (reachN g) (reachN g) false (by simp))] } 74 500000
end
theorem rep_range {α : Type} (n : Nat) (x : α) : (List.range n).map (fun _ => x) = List.replicate n x := by
 apply List.ext_getElem?
 intro i
 by_cases h : i < n <;> simp [h]
section
variable {g : Graph} (hg : Valid g) (hg0 : 0 < g.length) (hgl : g.length < 100000) (hr : ∀ a, (succ g a).length < 1000000000)
include hg hg0 hgl
theorem ab4Loop : RE 110 (.loop (lO 74 4)) (ab4L g 0) (abEA g.length (List.replicate g.length (dI 0)) (List.replicate g.length (dI 0))) (.exit 0) [(0, .d (rowsN g)), (3, .ptr 443 1 0 0 1), (4, .ptr 994 1 0 0 1)] (abEA g.length (List.replicate g.length (dI (-1))) (List.replicate g.length (dI (-1)))) := by
 intro rest X hP hN
 rw [← fil_zero (fun _ => dI (-1)) (dI 0), ← rep_range g.length (dI (-1)), ← fil_full (fun _ => dI (-1)) (dI 0)]
 refine (lw_count g.length (fun i => ⟨envOf (ab4L g i), ovl (abEA g.length (fil (fun _ => dI (-1)) (dI 0) i g.length) (fil (fun _ => dI (-1)) (dI 0) i g.length)) rest⟩) (by simp) (fun i hi => ?_) (ab4Stop g _ _ rest X hP hN)).aw
 have := ab4Round g i _ _ hi hgl _ _ (fil_get (f := fun _ => dI (-1)) (z := dI 0) hi) (fil_get (f := fun _ => dI (-1)) (z := dI 0) hi) rest X hP hN
 rw [fil_set (f := fun _ => dI (-1)) (z := dI 0) hi] at this
 exact this
theorem ab10Loop (out : List AV) : RE 110 (.loop (lO 74 10)) (ab10L g 0) (abEA g.length out ((placeAt g 0).map dI)) (.exit 2) [(0, .d (rowsN g)), (3, .ptr 443 1 0 0 1), (4, .ptr 994 1 0 0 1), (6, .d (.ro (intsN (orderOf g))))] (abEA g.length out ((placeL g).map dI)) := by
 intro rest X hP hN
 have hml := reachN_le hg hg0
 rw [← placeAt_all]
 refine (lw_count (reachN g) (fun i => ⟨envOf (ab10L g i), ovl (abEA g.length out ((placeAt g i).map dI)) rest⟩) (by simp) (fun i hi => ?_) (ab10Stop g _ _ rest X hP hN)).aw
 have hlen : (placeAt g i).length = g.length := by simp [placeAt]
 have := ab10Round g i out ((placeAt g i).map dI) (nodeAt g i) hi (by omega) (intsN_get (nodeAt_get hi)) (nodeAt_lt hg hi) (dI ((placeAt g i)[nodeAt g i]'(by rw [hlen]; exact nodeAt_lt hg hi))) (by
  rw [Nat.zero_add, List.getElem?_map, List.getElem?_eq_getElem (by rw [hlen]; exact nodeAt_lt hg hi)]
  rfl) rest X hP hN
 have e : ((placeAt g i).map dI).set (0 + nodeAt g i) (dN i) = (placeAt g (i + 1)).map dI := (mapI _ _ _).trans (by rw [placeAt_set hg hi])
 rw [e] at this
 exact this
include hr
theorem aboveGo : ∃ U, Fixed g U ∧ Pure Pg 74 [rowsN g] [.ro ((outL2 g (allO U)).map fun x => .int .i64 x)] := by
 obtain ⟨U, hfix, hl⟩ := abWAll hg hg0 hgl
 refine ⟨U, hfix, ?_⟩
 have hml := reachN_le hg hg0
 have e1 : (placeAt g 0).map dI = List.replicate g.length (dI (-1)) := by rw [placeAt_zero, List.map_replicate]
 have e2 : (outL2 g fun _ => none).map dI = List.replicate g.length (dI (-1)) := by rw [outL2_none, List.map_replicate]
 have h10 := ab10Loop hg hg0 hgl (List.replicate g.length (dI (-1)))
 rw [e1] at h10
 have h17 : RE 110 (.loop (lO 74 17)) (abB g true) (abEA g.length (List.replicate g.length (dI (-1))) ((placeL g).map dI)) (.exit 4) [(3, .ptr 443 1 0 0 1)] (abEA g.length ((outL2 g (allO U)).map dI) ((placeL g).map dI)) := fun rest X hP hN => by
  have := (hl rest X hP hN).aw
  rw [← e2]
  exact this
 have hi := intoC hg hgl hr
 have e3 : D.ro ((intoOf g).map rowN) = rowsN (intoOf g) := by simp
 rw [e3] at hi
 exact qU { frz := fun f q => if f = 74 then (if q = 35 then some ⟨443, 0, 349, g.length, (outL2 g (allO U)).map dI, (outL2 g (allO U)).map fun x => .int .i64 x, by simp [outL_len], fun h => viewI 2 h _⟩ else none) else none, loops := fun f q => if f = 74 then (if q = 4 then qP (ab4Loop hg hg0 hgl) else if q = 10 then qP h10 else if q = 17 then qP h17 else none) else none, hint := qT 74 [(18, hLenG Pg g), (19, .mk ((g.length : Nat) : Int) (by omega) (by omega)), (21, hLenG Pg g), (22, .mk ((g.length : Nat) : Int) (by omega) (by omega)), (36, .call 78 _ _ (orderC hg (by omega) hr)), (38, hNat Pg ((intsN (orderOf g)).length) (reachN g) (by rw [intsN_len]; rfl)), (50, .call 75 _ _ hi)] }
end
theorem aboveNil : Pure Pg 74 [rowsN []] [.ro []] := qU { obm := fun f s => Nat.beq f 78 && Nat.beq s 17, hint := fun _ _ => none }
theorem aboveC {g : Graph} (hg : Valid g) (hgl : g.length < 100000) (hr : ∀ a, (succ g a).length < 1000000000) : ∃ U, Fixed g U ∧ Pure Pg 74 [rowsN g] [.ro ((outL2 g (allO U)).map fun x => .int .i64 x)] := by
 rcases Nat.eq_zero_or_pos g.length with h0 | h0
 ·have : g = [] := List.length_eq_zero_iff.1 h0
  subst this
  have hm : reachN [] = 0 := rfl
  exact ⟨fun _ => 0, ⟨fun i _ hi => by rw [hm] at hi; omega, .first (fun i _ hi => by rw [hm] at hi; omega) (fun i _ hi => by rw [hm] at hi; omega), fun n hn => by rw [hm] at hn; omega, fun i _ hi => by rw [hm] at hi; omega⟩, aboveNil⟩
 ·exact aboveGo hg h0 hgl hr
end Go.Avm
namespace Go.Avm
open Go.Proofs Go.Avm.Dom
def ovL (up : List Int) (a b : Int) (n k : Nat) : List (Nat × AV) := [(0, .d (rowD up)), (1, dI a), (2, dI b), (20, dN n), (21, dN k)]
section
variable (up : List Int) (a b n k : Nat) (u : Int)
theorem ovMet (hk : k < n) (hab : a = b) : RW 39 (lO 45 4) (ovL up a b n k) [] .ret [(6, dB true)] [] := qS { hint := qT 45 [(22, qL hk), (25, hEq Pg (a : Int) (b : Int) true (int_eq hab))] } 45 500000
theorem ovUp (hk : k < n) (hn : n < 1000000000) (hab : a ≠ b) (hb : b < up.length) (hu : up[b]? = some u) : RW 39 (lO 45 4) (ovL up a b n k) [] .normal (ovL up a u n (k + 1)) [] := qS { hint := qT 45 [(22, qL hk), (25, hEq Pg (a : Int) (b : Int) false (int_ne hab)), (31, hLen Pg up), (32, hB Pg (decide ((up.length : Int) ≤ (b : Int))) false (dec_false (by omega))), (36, hIx Pg up b u hu), (38, hSucc Pg k (by omega))] } 45 500000
theorem ovOut (hk : k < n) : RW 39 (lO 45 4) (ovL up a (-1) n k) [] .ret [(6, dB false)] [] := qS { hint := qT 45 [(22, qL hk)] } 45 500000
end
section
variable {g : Graph} (hg : Valid g) {U : Nat → Nat} (hU : Dom.Good (reachN g) U)
include hg hU
open Classical in
theorem ovLoop (i : Nat) (hi : i < reachN g) (n : Nat) (hn : n < 1000000000) (rest : Heap) (X : Fix) (hP : X.P = Pg) (hN : X.N = 39) : ∀ (j k : Nat), j < reachN g → k + j + 1 < n →
    LW X (lO 45 4) ⟨envOf (ovL (outL2 g (allO U)) (nodeAt g i) (nodeAt g j) n k), ovl [] rest⟩ fun e' S' => e' = .ret ∧ S' = ⟨envOf [(6, dB (decide (Anc U i j)))], ovl [] rest⟩ := fun j => by
 induction j using Nat.strongRecOn with
 | ind j ih =>
  intro k hj hk
  by_cases hij : i = j
  ·subst hij
   rw [decide_eq_true (Anc.refl i)]
   exact lw_end (ovMet _ _ _ n k (by omega) rfl rest X hP hN) (by simp)
  ·have hne : nodeAt g i ≠ nodeAt g j := fun h => hij (nodeAt_inj hg hi hj h)
   have hjl : nodeAt g j < (outL2 g (allO U)).length := by rw [outL_len]; exact nodeAt_lt hg hj
   by_cases h0 : j = 0
   ·subst h0
    have hu : (outL2 g (allO U))[nodeAt g 0]? = some (-1) := by
     unfold outL2
     rw [List.getElem?_map, List.getElem?_range (nodeAt_lt hg hj)]
     simp [outI, plOf_node hg hj]
    have hna : ¬ Anc U i 0 := fun h => hij (anc_zero_iff h)
    rw [decide_eq_false hna]
    exact lw_seg (ovUp _ _ _ n k (-1) (by omega) hn hne hjl hu rest X hP hN) (lw_end (ovOut _ _ n (k + 1) (by omega) rest X hP hN) (by simp))
   ·have hlt := hU j (by omega) hj
    have hu : (outL2 g (allO U))[nodeAt g j]? = some (nodeAt g (U j) : Int) := outL_node hg hj (by omega) (by unfold allO; rw [if_neg h0])
    have := ih (U j) hlt (k + 1) (by omega) (by omega)
    have e : Anc U i j ↔ Anc U i (U j) := ⟨fun h => (anc_up_of_ne h hij).2, fun h => .up (by omega) h⟩
    have e2 : decide (Anc U i j) = decide (Anc U i (U j)) := by simp only [e]
    rw [e2]
    exact lw_seg (ovUp _ _ _ n k _ (by omega) hn hne hjl hu rest X hP hN) this
open Classical in
theorem overC (hgl : g.length < 100000) (hml : reachN g ≤ g.length) {i j : Nat} (hi : i < reachN g) (hj : j < reachN g) : Pure Pg 45 [rowD (outL2 g (allO U)), .int .i64 (nodeAt g i : Int), .int .i64 (nodeAt g j : Int)] [.bool (decide (Anc U i j))] := by
 have hl := fun rest X hP hN => (ovLoop hg hU i hi (g.length + 1) (by omega) rest X hP hN j 0 hj (by omega)).aw
 have hlen : (outL2 g (allO U)).length = g.length := outL_len g _
 have hil := nodeAt_lt hg hi
 exact qU { loops := qO 45 4 (qP hl), hint := qT 45 [(12, .val (dN ((outL2 g (allO U)).map fun x => D.int .i64 x).length) (dN g.length) (by rw [List.length_map, hlen])), (13, hB Pg (decide ((g.length : Int) ≤ (nodeAt g i : Int))) false (dec_false (by omega))), (19, .val (dN ((outL2 g (allO U)).map fun x => D.int .i64 x).length) (dN g.length) (by rw [List.length_map, hlen])), (20, hSucc Pg g.length (by omega))] }
end
end Go.Avm
namespace Go.Avm
open Go.Proofs Go.Avm.Dom
def InL (g : Graph) (h : Nat) (bs : List Nat) (v : Nat) : Prop := v = h ∨ ∃ t ∈ bs, Re g (some h) v t
structure Flood (g : Graph) (h : Nat) (bs vs td : List Nat) : Prop where
 hd : h ∈ vs
 nd : vs.Nodup
 lt : ∀ x ∈ vs, x < g.length
 tlt : ∀ x ∈ td, x < g.length
 snd : ∀ x ∈ vs, InL g h bs x
 tsnd : ∀ x ∈ td, InL g h bs x
 cl : ∀ x ∈ vs, x ≠ h → ∀ p, x ∈ succ g p → p ∈ vs ∨ p ∈ td
 bk : ∀ t ∈ bs, t ∈ vs ∨ t ∈ td
theorem intoOf_mem {g : Graph} {x p : Nat} : p ∈ (intoOf g).getD x [] ↔ x < g.length ∧ p < g.length ∧ x ∈ succ g p := by
 unfold intoOf
 by_cases h : x < g.length
 ·simp [h]
 ·rw [List.getD_eq_getElem?_getD, List.getElem?_eq_none (by simp; omega)]
  simp [h]
section
variable {g : Graph} (hg : Valid g) {h : Nat} {bs vs td : List Nat}
include hg
theorem Flood.old {x : Nat} (f : Flood g h bs vs (td ++ [x])) (hx : x ∈ vs) : Flood g h bs vs td where
 hd := f.hd
 nd := f.nd
 lt := f.lt
 tlt := fun y hy => f.tlt y (by simp [hy])
 snd := f.snd
 tsnd := fun y hy => f.tsnd y (by simp [hy])
 cl := fun y hy hne p hp => by
  rcases f.cl y hy hne p hp with h1 | h1
  ·exact .inl h1
  ·rcases List.mem_append.1 h1 with h2 | h2
   ·exact .inr h2
   ·rw [List.mem_singleton] at h2; subst h2; exact .inl hx
 bk := fun t ht => by
  rcases f.bk t ht with h1 | h1
  ·exact .inl h1
  ·rcases List.mem_append.1 h1 with h2 | h2
   ·exact .inr h2
   ·rw [List.mem_singleton] at h2; subst h2; exact .inl hx
theorem Flood.new {x : Nat} (f : Flood g h bs vs (td ++ [x])) (hx : x ∉ vs) : Flood g h bs (vs ++ [x]) (td ++ (intoOf g).getD x []) where
 hd := by simp [f.hd]
 nd := by
  rw [List.nodup_append]
  exact ⟨f.nd, by simp, fun a ha b hb => by rw [List.mem_singleton] at hb; subst hb; exact fun e => hx (e ▸ ha)⟩
 lt := fun y hy => by
  rcases List.mem_append.1 hy with h1 | h1
  ·exact f.lt y h1
  ·exact f.tlt y (by simp [List.mem_singleton.1 h1])
 tlt := fun y hy => by
  rcases List.mem_append.1 hy with h1 | h1
  ·exact f.tlt y (by simp [h1])
  ·exact (intoOf_mem.1 h1).2.1
 snd := fun y hy => by
  rcases List.mem_append.1 hy with h1 | h1
  ·exact f.snd y h1
  ·exact f.tsnd y (by simp [List.mem_singleton.1 h1])
 tsnd := fun y hy => by
  rcases List.mem_append.1 hy with h1 | h1
  ·exact f.tsnd y (by simp [h1])
  ·have h2 := intoOf_mem.1 h1
   by_cases e : y = h
   ·exact .inl e
   ·have hxh : x ≠ h := fun e2 => hx (e2 ▸ f.hd)
    rcases f.tsnd x (by simp) with h3 | ⟨t, ht, h3⟩
    ·exact absurd h3 hxh
    ·exact .inr ⟨t, ht, (Re.step (.refl (by simpa using e)) h2.2.2 (by simpa using hxh)).trans h3⟩
 cl := fun y hy hne p hp => by
  rcases List.mem_append.1 hy with h1 | h1
  ·rcases f.cl y h1 hne p hp with h2 | h2
   ·exact .inl (by simp [h2])
   ·rcases List.mem_append.1 h2 with h3 | h3
    ·exact .inr (by simp [h3])
    ·exact .inl (by simp [List.mem_singleton.1 h3])
  ·rw [List.mem_singleton] at h1
   subst h1
   have hl := succ_lt hg hp
   exact .inr (List.mem_append_right _ (intoOf_mem.2 ⟨hl.1, hl.2, hp⟩))
 bk := fun t ht => by
  rcases f.bk t ht with h1 | h1
  ·exact .inl (by simp [h1])
  ·rcases List.mem_append.1 h1 with h2 | h2
   ·exact .inr (by simp [h2])
   ·exact .inl (by simp [List.mem_singleton.1 h2])
theorem Flood.done (f : Flood g h bs vs []) {v : Nat} : v ∈ vs ↔ InL g h bs v := by
 refine ⟨f.snd v, ?_⟩
 rintro (rfl | ⟨t, ht, hr⟩)
 ·exact f.hd
 ·have h1 : t ∈ vs := (f.bk t ht).resolve_right (by simp)
  clear ht
  induction hr with
  | refl => exact h1
  | step _ hs hne ih => exact ih ((f.cl _ h1 (fun e => hne (by rw [e])) _ hs).resolve_right (by simp))
theorem Flood.len (f : Flood g h bs vs td) : vs.length ≤ g.length := by
 have := List.Nodup.length_le_of_subset f.nd (fun x hx => List.mem_range.2 (f.lt x hx))
 rwa [List.length_range] at this
end
section
variable {g : Graph} (hg : Valid g) (hgl : g.length < 100000)
include hg hgl
end
section
variable {g : Graph} (hg : Valid g) (hg0 : 0 < g.length) (hgl : g.length < 100000) {U : Nat → Nat} (hU : Fixed g U)
include hg hg0 hgl hU
end
end Go.Avm
namespace Go.Avm
open Go.Proofs Go.Avm.Dom
def findSeq (r : Nat) : Code → Option Code
 | .seq x y => if firstReg x = r then some (.seq x y) else match findSeq r x with
  | some c => some c
  | none => findSeq r y
 | .block _ x => findSeq r x
 | .loop x => findSeq r x
 | .cond _ x y => match findSeq r x with
  | some c => some c
  | none => findSeq r y
 | _ => none
section
variable (up : List Int) (F : Graph) (out srt : AV) (n i h vm v3 vK vI w : Nat) (vs acc seen : List Nat) (x : Nat)
end
section
variable (up : List Int) (F : Graph) (srt : AV) (n i h vo vm v3 v4 vI w : Nat) (acc : List (Nat × List Nat)) (zs : List Int) (S : List Nat)
end
end Go.Avm
