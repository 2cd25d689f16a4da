/-
  Flow: the program's loops: who goes back to a head, and who reaches him.
-/
import Derived.Test.YtpcomfnianamgaaFlTwo
import Derived.Test.YtpcomfnianamgaaAvmZ
import Derived.Test.YtpcomfnianamgaaFlOne
set_option linter.unusedSectionVars false
namespace Go.Avm
open Go.Proofs Go.Avm.Dom

/-- What stays in a round. -/
def lpB (up : List Int) (F : Graph) (out srt : AV) (n i : Nat) : List (Nat × AV) := [(5, .d (rowD up)), (6, .d (rowsN F)), (7, out), (31, srt), (32, dN n), (33, dN i)]
def lpT (h vm vt : Nat) (td : Nat) : List (Nat × AV) := [(9, dN h), (10, .mp 500541 vm), (11, .sl 52 vt 0 td 1)]
def lp13 (up : List Int) (F : Graph) (out srt : AV) (n i h vm vt td : Nat) (r : List Nat) (k : Nat) : List (Nat × AV) := lpB up F out srt n i ++ (lpT h vm vt td ++ [(44, .d (rowN r)), (45, dN r.length), (46, dN k)])
def lp19 (up : List Int) (F : Graph) (out srt : AV) (n i h vm vt td : Nat) : List (Nat × AV) := lpB up F out srt n i ++ lpT h vm vt td
def e13 (vt : Nat) (td : List Nat) (w : Nat) : List (Nat × Ent) := [(52, ⟨vt, some (.arr 1 (intsA td))⟩), (502587, ⟨w, none⟩)]
section
variable (up : List Int) (F : Graph) (out srt : AV) (n i h vm vt w : Nat) (td : List Nat) (r : List Nat) (k t : Nat) (u : Int)
theorem l13Far (hk : k < r.length) (hrl : r.length < 1000000000) (ht : r[k]? = some t) (h0 : t ≠ 0) (hu : up[t]? = some (-1)) (rest : Heap) (X : Fix) (hP : X.P = Try.prog) (hN : X.N = 126) :
    AW X (loopOf Try.prog 37 13) ⟨envOf (lp13 up F out srt n i h vm vt td.length r k), ovl (e13 vt td w) rest⟩ fun e' S' => e' = .normal ∧ Weak X S' ⟨envOf (lp13 up F out srt n i h vm vt td.length r (k + 1)), ovl (e13 vt td w) rest⟩ :=
  seg okP named { hint := tabH Try.prog [(37, 47, hLt Try.prog k r.length true (by simpa using hk)), (37, 48, hIxN Try.prog r k t ht), (37, 51, hEq Try.prog (t : Int) 0 false (beq_eq_false_iff_ne.2 (by omega))), (37, 55, hIx Try.prog up t (-1) hu), (37, 69, hSucc Try.prog k (by omega))] } 2000 37 500000 126 (by kernel_rfl) X hP hN
theorem l13No0 (hk : k < r.length) (hrl : r.length < 1000000000) (ht : r[k]? = some t) (h0 : if 0 = 0 then t = 0 else t ≠ 0) (hc : Pure Try.prog 45 [rowD up, .int .i64 (h : Int), .int .i64 (t : Int)] [.bool false]) (rest : Heap) (X : Fix) (hP : X.P = Try.prog) (hN : X.N = 126) :
    AW X (loopOf Try.prog 37 13) ⟨envOf (lp13 up F out srt n i h vm vt td.length r k), ovl (e13 vt td w) rest⟩ fun e' S' => e' = .normal ∧ Weak X S' ⟨envOf (lp13 up F out srt n i h vm vt td.length r (k + 1)), ovl (e13 vt td w) rest⟩ :=
  seg okP named { hint := tabH Try.prog [(37, 47, hLt Try.prog k r.length true (by simpa using hk)), (37, 48, hIxN Try.prog r k t ht), (37, 51, hEq Try.prog (t : Int) 0 (decide (0 = 0)) (by first | (simp at h0; simp; done) | (simp at h0; simp [h0]))), (37, 63, .call 45 _ _ hc), (37, 69, hSucc Try.prog k (by omega))] } 2000 37 500630 126 (by kernel_rfl) X hP hN
theorem l13Yes0 (hk : k < r.length) (hrl : r.length < 1000000000) (ht : r[k]? = some t) (h0 : if 0 = 0 then t = 0 else t ≠ 0) (htd : td.length < 1000000000) (hc : Pure Try.prog 45 [rowD up, .int .i64 (h : Int), .int .i64 (t : Int)] [.bool true]) (rest : Heap) (X : Fix) (hP : X.P = Try.prog) (hN : X.N = 126) :
    AW X (loopOf Try.prog 37 13) ⟨envOf (lp13 up F out srt n i h vm vt td.length r k), ovl (e13 vt td w) rest⟩ fun e' S' => e' = .normal ∧ Weak X S' ⟨envOf (lp13 up F out srt n i h vm (vt + 1) (td ++ [t]).length r (k + 1)), ovl (e13 (vt + 1) (td ++ [t]) (w + 1)) rest⟩ := by
  unfold e13
  rw [← intsA_app, List.length_append]
  exact seg okP named { hint := tabH Try.prog [(37, 47, hLt Try.prog k r.length true (by simpa using hk)), (37, 48, hIxN Try.prog r k t ht), (37, 51, hEq Try.prog (t : Int) 0 (decide (0 = 0)) (by first | (simp at h0; simp; done) | (simp at h0; simp [h0]))), (37, 63, .call 45 _ _ hc), (37, 68, .apps (intsA td) td.length 1 ⟨by rw [intsA_len]; exact Nat.le_refl _, by omega⟩), (37, 69, hSucc Try.prog k (by omega))] } 2000 37 500630 126 (by kernel_rfl) X hP hN
theorem l13No1 (hk : k < r.length) (hrl : r.length < 1000000000) (q : Nat) (ht : r[k]? = some t) (h0 : if 1 = 0 then t = 0 else t ≠ 0) (hu : up[t]? = some (q : Int)) (hc : Pure Try.prog 45 [rowD up, .int .i64 (h : Int), .int .i64 (t : Int)] [.bool false]) (rest : Heap) (X : Fix) (hP : X.P = Try.prog) (hN : X.N = 126) :
    AW X (loopOf Try.prog 37 13) ⟨envOf (lp13 up F out srt n i h vm vt td.length r k), ovl (e13 vt td w) rest⟩ fun e' S' => e' = .normal ∧ Weak X S' ⟨envOf (lp13 up F out srt n i h vm vt td.length r (k + 1)), ovl (e13 vt td w) rest⟩ :=
  seg okP named { hint := tabH Try.prog [(37, 47, hLt Try.prog k r.length true (by simpa using hk)), (37, 48, hIxN Try.prog r k t ht), (37, 51, hEq Try.prog (t : Int) 0 (decide (1 = 0)) (by first | (simp at h0; simp; done) | (simp at h0; simp [h0]))), (37, 55, hIx Try.prog up t (q : Int) hu), (37, 63, .call 45 _ _ hc), (37, 69, hSucc Try.prog k (by omega))] } 2000 37 500000 126 (by kernel_rfl) X hP hN
theorem l13Yes1 (hk : k < r.length) (hrl : r.length < 1000000000) (q : Nat) (ht : r[k]? = some t) (h0 : if 1 = 0 then t = 0 else t ≠ 0) (hu : up[t]? = some (q : Int)) (htd : td.length < 1000000000) (hc : Pure Try.prog 45 [rowD up, .int .i64 (h : Int), .int .i64 (t : Int)] [.bool true]) (rest : Heap) (X : Fix) (hP : X.P = Try.prog) (hN : X.N = 126) :
    AW X (loopOf Try.prog 37 13) ⟨envOf (lp13 up F out srt n i h vm vt td.length r k), ovl (e13 vt td w) rest⟩ fun e' S' => e' = .normal ∧ Weak X S' ⟨envOf (lp13 up F out srt n i h vm (vt + 1) (td ++ [t]).length r (k + 1)), ovl (e13 (vt + 1) (td ++ [t]) (w + 1)) rest⟩ := by
  unfold e13
  rw [← intsA_app, List.length_append]
  exact seg okP named { hint := tabH Try.prog [(37, 47, hLt Try.prog k r.length true (by simpa using hk)), (37, 48, hIxN Try.prog r k t ht), (37, 51, hEq Try.prog (t : Int) 0 (decide (1 = 0)) (by first | (simp at h0; simp; done) | (simp at h0; simp [h0]))), (37, 55, hIx Try.prog up t (q : Int) hu), (37, 63, .call 45 _ _ hc), (37, 68, .apps (intsA td) td.length 1 ⟨by rw [intsA_len]; exact Nat.le_refl _, by omega⟩), (37, 69, hSucc Try.prog k (by omega))] } 2000 37 500000 126 (by kernel_rfl) X hP hN
theorem l13Stop (rest : Heap) (X : Fix) (hP : X.P = Try.prog) (hN : X.N = 126) :
    AW X (loopOf Try.prog 37 13) ⟨envOf (lp13 up F out srt n i h vm vt td.length r r.length), ovl (e13 vt td w) rest⟩ fun e' S' => e' = .exit 2 ∧ Weak X S' ⟨envOf (lp19 up F out srt n i h vm vt td.length), ovl (e13 vt td w) rest⟩ :=
  seg okP named { hint := tabH Try.prog [(37, 47, hLt Try.prog r.length r.length false (by simp))] } 2000 37 500000 126 (by kernel_rfl) X hP hN
end
/-! ### The flood -/
def mkEs : Nat → List Nat → List (D × D × Nat)
  | _, [] => []
  | i, x :: r => (.int .i64 (x : Int), .agg [], i) :: mkEs (i + 1) r
theorem mkEs_app (x : Nat) : ∀ (l : List Nat) (i : Nat), mkEs i (l ++ [x]) = mkEs i l ++ [(.int .i64 (x : Int), .agg [], i + l.length)]
  | [], i => rfl
  | y :: r, i => by
    simp only [List.cons_append, mkEs, mkEs_app x r (i + 1), List.length_cons]
    rw [show i + 1 + r.length = i + (r.length + 1) by omega]
theorem findEs (x : Nat) : ∀ (l : List Nat) (i k : Nat), (x ∈ l → ∃ j, findD (.int .i64 (x : Int)) (mkEs i l) k = some (some (j, .agg []))) ∧ (x ∉ l → findD (.int .i64 (x : Int)) (mkEs i l) k = some none)
  | [], i, k => ⟨fun h => by simp at h, fun _ => rfl⟩
  | y :: r, i, k => by
    have ih := findEs x r (i + 1) (k + 1)
    by_cases hxy : x = y
    · subst hxy
      refine ⟨fun _ => ⟨k, by simp [mkEs, findD, sameD]⟩, fun h => absurd (by simp) h⟩
    · have hb : ((x : Int) == (y : Int)) = false := int_ne hxy
      constructor
      · intro h
        obtain ⟨j, hj⟩ := ih.1 ((List.mem_cons.1 h).resolve_left hxy)
        exact ⟨j, by simp only [mkEs, findD, sameD, if_true, hb]; exact hj⟩
      · intro h
        simp only [mkEs, findD, sameD, if_true, hb]
        exact ih.2 (fun h' => h (by simp [h']))
def e19 (vm vt : Nat) (vs : List Nat) (os : List AV) (w : Nat) : List (Nat × Ent) := [(500541, ⟨vm, some (.map (mkEs 0 vs) vs.length)⟩), (52, ⟨vt, some (.arr 1 os)⟩), (502787, ⟨w, none⟩)]
theorem news_one (r : List Nat) : ((natR r).map fun x => D.int .i64 x).all D.one = true := by simp [D.one]
theorem news_cells (r : List Nat) : ((natR r).map fun x => D.int .i64 x).all (fun y => y.cells.length == 1) = true := by simp [D.cells]
section
variable (up : List Int) (F : Graph) (out srt : AV) (n i h vm vt w : Nat) (vs : List Nat) (os : List AV) (q x : Nat) (r : List Nat)
theorem l19Old (hq : q < 1000000000000) (ho : os[q]? = some (dN x)) (hx : x ∈ vs) (rest : Heap) (X : Fix) (hP : X.P = Try.prog) (hN : X.N = 126) :
    AW X (loopOf Try.prog 37 19) ⟨envOf (lp19 up F out srt n i h vm vt (q + 1)), ovl (e19 vm vt vs os w) rest⟩ fun e' S' => e' = .normal ∧ Weak X S' ⟨envOf (lp19 up F out srt n i h vm vt q), ovl (e19 vm vt vs os (w + 1)) rest⟩ := by
  obtain ⟨j, hj⟩ := (findEs x vs 0 0).1 hx
  exact seg okP named { hint := tabH Try.prog [(37, 75, hB Try.prog (decide ((0 : Int) < ((q + 1 : Nat) : Int))) true (dec_true (by omega))), (37, 79, hNat Try.prog (IntKind.i64.wrap (((q + 1 : Nat) : Int) - 1)) q (by rw [IntWalk.i64_in _ (by omega)]; omega)), (37, 80, hInb Try.prog q (q + 1) (by omega)), (37, 81, .elt os (0 + q) (dN x) (by rw [Nat.zero_add]; exact ho)), (37, 85, hNat Try.prog (IntKind.i64.wrap (((q + 1 : Nat) : Int) - 1)) q (by rw [IntWalk.i64_in _ (by omega)]; omega)), (37, 86, .cuts (q + 1) q (by omega)), (37, 90, .look (.int .i64 (x : Int)) (mkEs 0 vs) (some (j, .agg [])) hj)] } 2000 37 500000 126 (by kernel_rfl) X hP hN
theorem l19New (hq : q < 100000000000) (hqo : q ≤ os.length) (ho : os[q]? = some (dN x)) (hx : x ∉ vs) (hr : F[x]? = some r) (hrl : r.length < 1000000000) (rest : Heap) (X : Fix) (hP : X.P = Try.prog) (hN : X.N = 126) :
    AW X (loopOf Try.prog 37 19) ⟨envOf (lp19 up F out srt n i h vm vt (q + 1)), ovl (e19 vm vt vs os w) rest⟩ fun e' S' => e' = .normal ∧ Weak X S' ⟨envOf (lp19 up F out srt n i h vm (vt + 1) (q + ((natR r).map fun x => D.int .i64 x).length)), ovl (e19 vm (vt + 1) (vs ++ [x]) (os.take q ++ ((natR r).map fun x => D.int .i64 x).map .d) (w + 1)) rest⟩ := by
  have hj := (findEs x vs 0 0).2 hx
  unfold e19
  rw [mkEs_app, List.length_append, Nat.zero_add]
  exact seg okP named { hint := tabH Try.prog [(37, 75, hB Try.prog (decide ((0 : Int) < ((q + 1 : Nat) : Int))) true (dec_true (by omega))), (37, 79, hNat Try.prog (IntKind.i64.wrap (((q + 1 : Nat) : Int) - 1)) q (by rw [IntWalk.i64_in _ (by omega)]; omega)), (37, 80, hInb Try.prog q (q + 1) (by omega)), (37, 81, .elt os (0 + q) (dN x) (by rw [Nat.zero_add]; exact ho)), (37, 85, hNat Try.prog (IntKind.i64.wrap (((q + 1 : Nat) : Int) - 1)) q (by rw [IntWalk.i64_in _ (by omega)]; omega)), (37, 86, .cuts (q + 1) q (by omega)), (37, 90, .look (.int .i64 (x : Int)) (mkEs 0 vs) none hj), (37, 124003, .look (.int .i64 (x : Int)) (mkEs 0 vs) none hj), (37, 100, hIxG Try.prog F x r hr), (37, 102, .appsl os q ((natR r).map fun x => D.int .i64 x) 1 ⟨hqo, by simp; omega, news_cells r, news_one r⟩)] } 2000 37 500000 126 (by kernel_rfl) X hP hN
theorem l19Stop (rest : Heap) (X : Fix) (hP : X.P = Try.prog) (hN : X.N = 126) :
    AW X (loopOf Try.prog 37 19) ⟨envOf (lp19 up F out srt n i h vm vt 0), ovl (e19 vm vt vs os w) rest⟩ fun e' S' => e' = .exit 4 ∧ Weak X S' ⟨envOf (lpB up F out srt n i ++ [(9, dN h), (10, .mp 500541 vm)]), ovl (e19 vm vt vs os w) rest⟩ :=
  seg okP named { hint := tabH Try.prog [] } 2000 37 500000 126 (by kernel_rfl) X hP hN
end
end Go.Avm
/-
  Flow: the flood, told in plain words, and the two loops that make it.
-/
set_option linter.unusedSectionVars false
namespace Go.Avm
open Go.Proofs Go.Avm.Dom

/-- A node of the loop of h: h, or one that goes on to one of those that go back, past h. -/
def InL (g : Graph) (h : Nat) (bs : List Nat) (v : Nat) : Prop := v = h ∨ ∃ t ∈ bs, Re g (some h) v t
structure Flood (g : Graph) (h : Nat) (bs vs td : List Nat) : Prop where
  hd : h ∈ vs
  nd : vs.Nodup
  lt : ∀ x ∈ vs, x < g.length
  tlt : ∀ x ∈ td, x < g.length
  snd : ∀ x ∈ vs, InL g h bs x
  tsnd : ∀ x ∈ td, InL g h bs x
  cl : ∀ x ∈ vs, x ≠ h → ∀ p, x ∈ succ g p → p ∈ vs ∨ p ∈ td
  bk : ∀ t ∈ bs, t ∈ vs ∨ t ∈ td
theorem intoOf_mem {g : Graph} {x p : Nat} : p ∈ (intoOf g).getD x [] ↔ x < g.length ∧ p < g.length ∧ x ∈ succ g p := by
  unfold intoOf
  by_cases h : x < g.length
  · simp [h]
  · rw [List.getD_eq_getElem?_getD, List.getElem?_eq_none (by simp; omega)]
    simp [h]
section
variable {g : Graph} (hg : Valid g) {h : Nat} {bs vs td : List Nat}
include hg
theorem Flood.start (hh : h < g.length) (hb : ∀ t ∈ bs, t < g.length) : Flood g h bs [h] bs where
  hd := by simp
  nd := by simp
  lt := by simpa using hh
  tlt := hb
  snd := fun x hx => .inl (by simpa using hx)
  tsnd := fun x hx => by
    by_cases e : x = h
    · exact .inl e
    · exact .inr ⟨x, hx, .refl (by simpa using e)⟩
  cl := fun x hx hne => absurd (by simpa using hx) hne
  bk := fun t ht => .inr ht
theorem Flood.old {x : Nat} (f : Flood g h bs vs (td ++ [x])) (hx : x ∈ vs) : Flood g h bs vs td where
  hd := f.hd
  nd := f.nd
  lt := f.lt
  tlt := fun y hy => f.tlt y (by simp [hy])
  snd := f.snd
  tsnd := fun y hy => f.tsnd y (by simp [hy])
  cl := fun y hy hne p hp => by
    rcases f.cl y hy hne p hp with h1 | h1
    · exact .inl h1
    · rcases List.mem_append.1 h1 with h2 | h2
      · exact .inr h2
      · rw [List.mem_singleton] at h2; subst h2; exact .inl hx
  bk := fun t ht => by
    rcases f.bk t ht with h1 | h1
    · exact .inl h1
    · rcases List.mem_append.1 h1 with h2 | h2
      · exact .inr h2
      · rw [List.mem_singleton] at h2; subst h2; exact .inl hx
theorem Flood.new {x : Nat} (f : Flood g h bs vs (td ++ [x])) (hx : x ∉ vs) : Flood g h bs (vs ++ [x]) (td ++ (intoOf g).getD x []) where
  hd := by simp [f.hd]
  nd := by
    rw [List.nodup_append]
    exact ⟨f.nd, by simp, fun a ha b hb => by rw [List.mem_singleton] at hb; subst hb; exact fun e => hx (e ▸ ha)⟩
  lt := fun y hy => by
    rcases List.mem_append.1 hy with h1 | h1
    · exact f.lt y h1
    · exact f.tlt y (by simp [List.mem_singleton.1 h1])
  tlt := fun y hy => by
    rcases List.mem_append.1 hy with h1 | h1
    · exact f.tlt y (by simp [h1])
    · exact (intoOf_mem.1 h1).2.1
  snd := fun y hy => by
    rcases List.mem_append.1 hy with h1 | h1
    · exact f.snd y h1
    · exact f.tsnd y (by simp [List.mem_singleton.1 h1])
  tsnd := fun y hy => by
    rcases List.mem_append.1 hy with h1 | h1
    · exact f.tsnd y (by simp [h1])
    · have h2 := intoOf_mem.1 h1
      by_cases e : y = h
      · exact .inl e
      · have hxh : x ≠ h := fun e2 => hx (e2 ▸ f.hd)
        rcases f.tsnd x (by simp) with h3 | ⟨t, ht, h3⟩
        · exact absurd h3 hxh
        · exact .inr ⟨t, ht, (Re.step (.refl (by simpa using e)) h2.2.2 (by simpa using hxh)).trans h3⟩
  cl := fun y hy hne p hp => by
    rcases List.mem_append.1 hy with h1 | h1
    · rcases f.cl y h1 hne p hp with h2 | h2
      · exact .inl (by simp [h2])
      · rcases List.mem_append.1 h2 with h3 | h3
        · exact .inr (by simp [h3])
        · exact .inl (by simp [List.mem_singleton.1 h3])
    · rw [List.mem_singleton] at h1
      subst h1
      have hl := succ_lt hg hp
      exact .inr (List.mem_append_right _ (intoOf_mem.2 ⟨hl.1, hl.2, hp⟩))
  bk := fun t ht => by
    rcases f.bk t ht with h1 | h1
    · exact .inl (by simp [h1])
    · rcases List.mem_append.1 h1 with h2 | h2
      · exact .inr (by simp [h2])
      · exact .inl (by simp [List.mem_singleton.1 h2])
theorem Flood.done (f : Flood g h bs vs []) {v : Nat} : v ∈ vs ↔ InL g h bs v := by
  refine ⟨f.snd v, ?_⟩
  rintro (rfl | ⟨t, ht, hr⟩)
  · exact f.hd
  · have h1 : t ∈ vs := (f.bk t ht).resolve_right (by simp)
    clear ht
    induction hr with
    | refl => exact h1
    | step _ hs hne ih => exact ih ((f.cl _ h1 (fun e => hne (by rw [e])) _ hs).resolve_right (by simp))
theorem Flood.len (f : Flood g h bs vs td) : vs.length ≤ g.length := by
  have := List.Nodup.length_le_of_subset f.nd (fun x hx => List.mem_range.2 (f.lt x hx))
  rwa [List.length_range] at this
end
theorem into_len (g : Graph) (x : Nat) : ((intoOf g).getD x []).length ≤ g.length := by
  unfold intoOf
  by_cases h : x < g.length
  · simp [h]
    refine Nat.le_trans (List.length_filter_le _ _) ?_
    simp
  · rw [List.getD_eq_getElem?_getD, List.getElem?_eq_none (by simp; omega)]
    simp
theorem into_row {g : Graph} {x : Nat} (h : x < g.length) : (intoOf g)[x]? = some ((intoOf g).getD x []) := by
  rw [List.getD_eq_getElem?_getD, List.getElem?_eq_getElem (by simpa [intoOf] using h)]
  rfl
theorem split_last {td : List Nat} {q : Nat} (h : td.length = q + 1) : ∃ t' x, td = t' ++ [x] ∧ t'.length = q := by
  refine ⟨td.dropLast, td.getLast (by intro e; subst e; simp at h), (List.dropLast_concat_getLast _).symm, by simp; omega⟩
section
variable {g : Graph} (hg : Valid g) (hgl : g.length < 100000)
include hg hgl
/-- The flood. -/
theorem floodLoop (up : List Int) (out srt : AV) (n i h vm : Nat) (bs : List Nat) : ∀ (m : Nat) (q : Nat) (vs td : List Nat) (os : List AV) (vt w : Nat), g.length - vs.length = m → td.length = q → Flood g h bs vs td → os.take q = intsA td → q + m * (g.length + 1) < 100000000000 →
    ∃ vt' vs' os' w', Flood g h bs vs' [] ∧ ∀ (rest : Heap) (X : Fix), X.P = Try.prog → X.N = 126 →
      LW X (loopOf Try.prog 37 19) ⟨envOf (lp19 up (intoOf g) out srt n i h vm vt q), ovl (e19 vm vt vs os w) rest⟩ fun e' S' => e' = .exit 4 ∧ S' = ⟨envOf (lpB up (intoOf g) out srt n i ++ [(9, dN h), (10, .mp 500541 vm)]), ovl (e19 vm vt' vs' os' w') rest⟩ := fun m => by
  induction m using Nat.strongRecOn with
  | ind m ihm =>
    intro q
    induction q with
    | zero =>
      intro vs td os vt w _ hq hf _ _
      have : td = [] := List.length_eq_zero_iff.1 hq
      subst this
      exact ⟨vt, vs, os, w, hf, fun rest X hP hN => lw_end (l19Stop up (intoOf g) out srt n i h vm vt w vs os rest X hP hN) (by simp)⟩
    | succ q ihq =>
      intro vs td os vt w hm hq hf hos hb
      obtain ⟨t', x, rfl, ht'⟩ := split_last hq
      have hol : q + 1 ≤ os.length := by
        have := congrArg List.length hos
        rw [intsA_len, hq, List.length_take] at this
        omega
      have ho : os[q]? = some (dN x) := by
        have h1 : (os.take (q + 1))[q]? = os[q]? := List.getElem?_take_of_lt (by omega)
        rw [← h1, hos]
        simp [intsA, ← ht']
      have hos2 : os.take q = intsA t' := by
        have h1 : os.take q = (os.take (q + 1)).take q := by rw [List.take_take, Nat.min_eq_left (by omega)]
        rw [h1, hos]
        simp [intsA, ← ht']
      have hxl : x < g.length := hf.tlt x (by simp)
      by_cases hx : x ∈ vs
      · obtain ⟨vt', vs', os', w', hf', hl⟩ := ihq vs t' os vt (w + 1) hm ht' (hf.old hg hx) hos2 (by omega)
        exact ⟨vt', vs', os', w', hf', fun rest X hP hN => lw_seg (l19Old up (intoOf g) out srt n i h vm vt w vs os q x (by omega) ho hx rest X hP hN) (hl rest X hP hN)⟩
      · have hfn := hf.new hg hx
        have hlen := hfn.len hg
        rw [List.length_append, List.length_singleton] at hlen
        have hil := into_len g x
        have e1 : ((natR ((intoOf g).getD x [])).map fun x => D.int .i64 x).length = ((intoOf g).getD x []).length := by simp
        obtain ⟨m', rfl⟩ : ∃ m', m = m' + 1 := ⟨m - 1, by omega⟩
        rw [Nat.add_mul, Nat.one_mul] at hb
        obtain ⟨vt', vs', os', w', hf', hl⟩ := ihm m' (by omega) (q + ((intoOf g).getD x []).length) (vs ++ [x]) _ (os.take q ++ ((natR ((intoOf g).getD x [])).map fun x => D.int .i64 x).map .d) (vt + 1) (w + 1) (by rw [List.length_append, List.length_singleton]; omega) (by rw [List.length_append, ht']) hfn
          (by rw [hos2, List.take_of_length_le (by simp [intsA_len, ht'])]; simp [intsA, dN]) (by omega)
        refine ⟨vt', vs', os', w', hf', fun rest X hP hN => ?_⟩
        have h1 := l19New up (intoOf g) out srt n i h vm vt w vs os q x ((intoOf g).getD x []) (by omega) (by omega) ho hx ((into_row hxl)) (by omega) rest X hP hN
        rw [e1] at h1
        exact lw_seg h1 (hl rest X hP hN)
end
/-! ### Who goes back -/
section
variable {g : Graph} (hg : Valid g) (hg0 : 0 < g.length) (hgl : g.length < 100000) {U : Nat → Nat} (hU : Fixed g U)
include hg hg0 hgl hU
theorem up_un {t : Nat} (ht : t < g.length) (h : ¬ Reached g t) : (outL2 g (allO U))[t]? = some (-1) ∧ t ≠ 0 := by
  refine ⟨?_, fun e => h (e ▸ .refl (by simp))⟩
  unfold outL2
  rw [List.getElem?_map, List.getElem?_range ht]
  have : plOf g t = none := by
    unfold plOf
    rw [List.find?_eq_none]
    intro j hj hb
    rw [List.mem_range] at hj
    rw [beq_iff_eq] at hb
    exact h (hb ▸ nodeAt_reached hg hj)
  simp [outI, this]
open Classical in
theorem backLoop (out srt : AV) (n i h vm vt w : Nat) (hh : Reached g h) (rest : Heap) (X : Fix) (hP : X.P = Try.prog) (hN : X.N = 126) :
    AW X (.loop (loopOf Try.prog 37 13)) ⟨envOf (lp13 (outL2 g (allO U)) (intoOf g) out srt n i h vm vt 0 ((intoOf g).getD h []) 0), ovl (e13 vt [] w) rest⟩ fun e' S' => e' = .exit 2 ∧ S' = ⟨envOf (lp19 (outL2 g (allO U)) (intoOf g) out srt n i h vm (vt + (((intoOf g).getD h []).filter fun t => decide (Doms g h t)).length) (((intoOf g).getD h []).filter fun t => decide (Doms g h t)).length), ovl (e13 (vt + (((intoOf g).getD h []).filter fun t => decide (Doms g h t)).length) (((intoOf g).getD h []).filter fun t => decide (Doms g h t)) (w + (((intoOf g).getD h []).filter fun t => decide (Doms g h t)).length)) rest⟩ := by
  have hml := reachN_le hg hg0
  have hrl := into_len g h
  generalize hr : (intoOf g).getD h [] = r at hrl ⊢
  have hrm : ∀ t ∈ r, t < g.length := fun t ht => (intoOf_mem.1 (hr ▸ ht)).2.1
  have hk := (lw_count (X := X) (c := loopOf Try.prog 37 13) r.length (fun k => ⟨envOf (lp13 (outL2 g (allO U)) (intoOf g) out srt n i h vm (vt + ((r.take k).filter fun t => decide (Doms g h t)).length) ((r.take k).filter fun t => decide (Doms g h t)).length r k), ovl (e13 (vt + ((r.take k).filter fun t => decide (Doms g h t)).length) ((r.take k).filter fun t => decide (Doms g h t)) (w + ((r.take k).filter fun t => decide (Doms g h t)).length)) rest⟩) (e := .exit 2) (Z := ⟨envOf (lp19 (outL2 g (allO U)) (intoOf g) out srt n i h vm (vt + ((r.take r.length).filter fun t => decide (Doms g h t)).length) ((r.take r.length).filter fun t => decide (Doms g h t)).length), ovl (e13 (vt + ((r.take r.length).filter fun t => decide (Doms g h t)).length) ((r.take r.length).filter fun t => decide (Doms g h t)) (w + ((r.take r.length).filter fun t => decide (Doms g h t)).length)) rest⟩) (by simp) (fun k hk => ?_) (l13Stop _ _ out srt n i h vm _ _ _ r rest X hP hN)).aw
  · rw [List.take_length, List.take_zero] at hk
    exact hk
  · have htl := hrm r[k] (List.getElem_mem hk)
    have hget : r[k]? = some r[k] := List.getElem?_eq_getElem hk
    generalize r[k] = t at htl hget
    rw [List.take_succ_eq_append_getElem hk]
    have hrk : r[k] = t := by rw [List.getElem?_eq_getElem hk] at hget; exact Option.some.inj hget
    rw [hrk]
    have hfl : ((r.take k).filter fun t => decide (Doms g h t)).length ≤ g.length := by
      refine Nat.le_trans (List.length_filter_le _ _) ?_
      rw [List.length_take]; omega
    generalize htd : ((r.take k).filter fun t => decide (Doms g h t)) = td at hfl
    rw [List.filter_append, htd]
    by_cases htr : Reached g t
    · obtain ⟨ih', hih, rfl⟩ := nodeAt_ex hg hg0 hh
      obtain ⟨jt, hjt, rfl⟩ := nodeAt_ex hg hg0 htr
      have hov := overC hg hU.good hgl hml hih hjt
      have hiff := anc_doms hg hU hih hjt
      by_cases hd : Doms g (nodeAt g ih') (nodeAt g jt)
      · rw [List.filter_cons_of_pos (by simpa using hd), List.filter_nil]
        rw [decide_eq_true (hiff.2 hd)] at hov
        have e1 : vt + (td ++ [nodeAt g jt]).length = vt + td.length + 1 := by simp; omega
        have e2 : w + (td ++ [nodeAt g jt]).length = w + td.length + 1 := by simp; omega
        rw [e1, e2]
        by_cases h0 : jt = 0
        · subst h0
          exact l13Yes0 _ _ out srt n i _ vm _ _ td r k _ hk (by omega) hget (by simp [nodeAt_zero hg0]) (by omega) hov rest X hP hN
        · have hn0 : nodeAt g jt ≠ 0 := fun e => h0 (nodeAt_inj hg hjt (by omega) (e.trans (nodeAt_zero hg0).symm))
          exact l13Yes1 _ _ out srt n i _ vm _ _ td r k _ hk (by omega) (nodeAt g (U jt)) hget (by simpa using hn0) (outL_node hg hjt (by omega) (by unfold allO; rw [if_neg h0])) (by omega) hov rest X hP hN
      · rw [List.filter_cons_of_neg (by simpa using hd), List.filter_nil, List.append_nil]
        rw [decide_eq_false (fun h => hd (hiff.1 h))] at hov
        by_cases h0 : jt = 0
        · subst h0
          exact l13No0 _ _ out srt n i _ vm _ _ td r k _ hk (by omega) hget (by simp [nodeAt_zero hg0]) hov rest X hP hN
        · have hn0 : nodeAt g jt ≠ 0 := fun e => h0 (nodeAt_inj hg hjt (by omega) (e.trans (nodeAt_zero hg0).symm))
          exact l13No1 _ _ out srt n i _ vm _ _ td r k _ hk (by omega) (nodeAt g (U jt)) hget (by simpa using hn0) (outL_node hg hjt (by omega) (by unfold allO; rw [if_neg h0])) hov rest X hP hN
    · have hnd : ¬ Doms g h t := fun hd => htr hd.2.1
      rw [List.filter_cons_of_neg (by simpa using hnd), List.filter_nil, List.append_nil]
      have h1 := up_un hg hg0 hgl hU htl htr
      exact l13Far _ _ out srt n i h vm _ _ td r k t hk (by omega) hget h1.2 h1.1 rest X hP hN
end
/-! ### Sorting what is there once -/
theorem sort_eq {l : List Nat} (hn : l.Nodup) {n : Nat} {p : Nat → Bool} (hm : ∀ v, v ∈ l ↔ v < n ∧ p v = true) : sortZ (natR l) = natR ((List.range n).filter p) := by
  have hp : l.Perm ((List.range n).filter p) := (List.perm_ext_iff_of_nodup hn (List.nodup_range.filter _)).2 fun v => by rw [hm, List.mem_filter, List.mem_range]
  refine List.Perm.eq_of_pairwise (le := fun a b => a ≤ b) (fun a b _ _ h1 h2 => Int.le_antisymm h1 h2) ?_ ?_ ((List.mergeSort_perm _ _).trans (hp.map _))
  · exact (List.pairwise_mergeSort (le := fun x y : Int => decide (x ≤ y)) (fun a b c h1 h2 => by simp at *; omega) (fun a b => by simp; omega) _).imp fun h => by simpa using h
  · rw [List.pairwise_map]
    exact (List.pairwise_lt_range.filter _).imp fun h => by omega
end Go.Avm
/-
  Flow: the map's keys into a list, sorted; the loop is told.
-/
set_option linter.unusedSectionVars false
namespace Go.Avm
open Go.Proofs Go.Avm.Dom

def findSeq (r : Nat) : Code → Option Code
  | .seq x y => if firstReg x = r then some (.seq x y) else match findSeq r x with
    | some c => some c
    | none => findSeq r y
  | .block _ x => findSeq r x
  | .loop x => findSeq r x
  | .cond _ x y => match findSeq r x with
    | some c => some c
    | none => findSeq r y
  | _ => none
def opsOf : Code → Array Oper
  | .region _ ops _ => ops
  | _ => #[]
/-- The map's keys into a list, sorted, and the loop is told. -/
noncomputable def nodeC : Code := (findSeq 27 (bodyOf Try.prog 37)).getD .skip
noncomputable def nodeT : Code := sqR nodeC
noncomputable def ops27 : Array Oper := opsOf (sqL (sqL nodeC))
noncomputable def body28 : Code := loopOf Try.prog 37 28
noncomputable def ops28 : Array Oper := opsOf (sqL body28)
noncomputable def ops29 : Array Oper := opsOf (sqL (bkB (sqR (sqR body28))))
noncomputable def c30 : Code := sqR (bkB (sqR (sqR body28)))
theorem node_shape : nodeC = .seq (.seq (.region 27 ops27 false) (.block 6 (.loop body28))) nodeT := by kernel_rfl
theorem body28_shape : body28 = .seq (.region 28 ops28 false) (.seq (.cond (.tmp 108) .skip (.exit 6)) (.block 7 (.seq (.region 29 ops29 false) c30))) := by kernel_rfl
theorem op27_some : (ops27[1]?).isSome = true := by kernel_rfl
noncomputable def op27 : Oper := (ops27[1]?).get op27_some
theorem op28_some : (ops28[0]?).isSome = true := by kernel_rfl
noncomputable def op28 : Oper := (ops28[0]?).get op28_some
theorem op29_some : (ops29[0]?).isSome = true := by kernel_rfl
noncomputable def op29 : Oper := (ops29[0]?).get op29_some
theorem op27_at : ops27[1]? = some op27 := (Option.some_get _).symm
theorem op28_at : ops28[0]? = some op28 := (Option.some_get _).symm
theorem op29_at : ops29[0]? = some op29 := (Option.some_get _).symm
theorem op27_is : op27.op = .range 120 (.tmp 105) ∧ op27.guard = none ∧ op27.dst = some 106 ∧ ops27.size = 2 := ⟨by kernel_rfl, by kernel_rfl, by kernel_rfl, by kernel_rfl⟩
theorem op28_is : op28.op = .next (.tmp 106) false ∧ op28.guard = none ∧ op28.dst = some 107 ∧ ops28.size = 2 := ⟨by kernel_rfl, by kernel_rfl, by kernel_rfl, by kernel_rfl⟩
theorem op29_is : op29.op = .entry (.tmp 106) ∧ op29.guard = none ∧ op29.dst = some 109 ∧ ops29.size = 3 := ⟨by kernel_rfl, by kernel_rfl, by kernel_rfl, by kernel_rfl⟩
theorem under120 : Try.prog.underlying 120 = some (.map 3 119) := by kernel_rfl

def lpN (up : List Int) (F : Graph) (out srt : AV) (n i v3 vI : Nat) : List (Nat × AV) := lpB up F out srt n i ++ [(17, .ptr 502789 v3 0 0 1), (106, .itr 55 vI)]
def e28 (vm v3 vK vI w : Nat) (vs : List Nat) (h : Nat) (acc : List Nat) (seen : List Nat) : List (Nat × Ent) :=
  [(500541, ⟨vm, some (.map (mkEs 0 vs) vs.length)⟩), (502789, ⟨v3, some (.arr 1 [dN h, .sl 54 (vK + acc.length) 0 acc.length 1])⟩), (54, ⟨vK + acc.length, some (.arr 1 (intsA acc))⟩), (55, ⟨vI, some (.itr 500541 vm vs.length seen)⟩), (500492, ⟨w + acc.length, none⟩)]
section
variable (up : List Int) (F : Graph) (out srt : AV) (n i h vm v3 vK vI w : Nat) (vs acc seen : List Nat) (x : Nat)
theorem n30 (hal : acc.length < 1000000000) (rest : Heap) (X : Fix) (hP : X.P = Try.prog) (hN : X.N = 126) :
    AW X c30 ⟨envOf (lpN up F out srt n i v3 vI ++ [(18, dN x)]), ovl (e28 vm v3 vK vI w vs h acc seen) rest⟩ fun e' S' => e' = .normal ∧ Weak X S' ⟨envOf (lpN up F out srt n i v3 vI), ovl (e28 vm v3 vK vI w vs h (acc ++ [x]) seen) rest⟩ := by
  unfold e28
  rw [← intsA_app, List.length_append]
  exact seg okP named { hint := tabH Try.prog [(37, 115, .apps (intsA acc) acc.length 1 ⟨by rw [intsA_len]; exact Nat.le_refl _, by omega⟩)] } 2000 37 500000 126 (by kernel_rfl) X hP hN
end
def loopD (p : Nat × List Nat) : D := .agg [(.int .i64 (p.1 : Int)), rowN p.2]
def outA (vo : Nat) (acc : List (Nat × List Nat)) : AV := .vec 53 vo 2 (acc.map loopD)
def eT (vo vm v3 v4 vI w : Nat) : List (Nat × Ent) := [(53, ⟨vo, none⟩), (500541, ⟨vm, none⟩), (502789, ⟨v3, none⟩), (54, ⟨v4, none⟩), (55, ⟨vI, none⟩), (500492, ⟨w, none⟩)]
section
variable (up : List Int) (F : Graph) (srt : AV) (n i h vo vm v3 v4 vI w : Nat) (acc : List (Nat × List Nat)) (zs : List Int) (S : List Nat)
theorem n31 (hz : sortZ zs = natR S) (hzl : zs.length = S.length) (hne : zs ≠ []) (hl : zs.length < 1000000000) (hal : acc.length < 1000000) (rest : Heap) (X : Fix) (hP : X.P = Try.prog) (hN : X.N = 126) :
    AW X nodeT ⟨envOf (lpB up F (outA vo acc) srt n i ++ [(17, .ptr 502789 v3 0 0 1)]), ovl [(53, ⟨vo, none⟩), (502789, ⟨v3, some (.arr 1 [dN h, .sl 54 v4 0 zs.length 1])⟩), (54, ⟨v4, some (.arr 1 (zs.map dI))⟩), (500626, ⟨w, none⟩)] rest⟩ fun e' S' => e' = .normal ∧ Weak X S' ⟨envOf (lpB up F (outA (vo + 1) (acc ++ [(h, S)])) srt n i), ovl [(53, ⟨vo + 1, none⟩), (502789, ⟨v3, none⟩), (54, ⟨v4 + 1, none⟩), (500626, ⟨w + 1, none⟩)] rest⟩ := by
  have hc : ∀ rest : Heap, HCall Try.prog 79 [.sl 54 v4 0 zs.length 1] (ovl [(54, ⟨v4, some (.arr 1 (zs.map dI))⟩)] rest) [] (ovl [(54, ⟨v4, some (.arr 1 ((natR S).map dI))⟩)] rest) := fun rest => by
    have h1 := sortC (k := 54) (v := v4) hne hl (h := ovl [(54, ⟨v4, some (.arr 1 (zs.map dI))⟩)] rest) (by simp [ovl, upd])
    rw [hz] at h1
    have e : upd (ovl [(54, ⟨v4, some (.arr 1 (zs.map dI))⟩)] rest) 54 ⟨v4, some (.arr 1 ((natR S).map dI))⟩ = ovl [(54, ⟨v4, some (.arr 1 ((natR S).map dI))⟩)] rest := by
      funext k
      simp only [ovl, upd]
      split <;> rfl
    rw [e] at h1
    exact h1
  unfold outA
  rw [List.map_append]
  exact seg okP named { calls := fun f s _ => if f = 37 then (if s = 119 then some ⟨79, _, _, _, _, fits_of hc⟩ else none) else none, frz := fun f q => if f = 37 then (if q = 32 then some ⟨502789, 1, 54, zs.length, (natR S).map dI, (natR S).map fun x => .int .i64 x, by simp [hzl], fun h => viewI 2 h _⟩ else none) else none, hint := tabH Try.prog [(37, 123, .app (acc.map loopD) 1 (by rw [List.length_map]; omega))] } 2000 37 500000 126 (by kernel_rfl) X hP hN
end
end Go.Avm
/-
  Flow: going through the map.
-/
set_option linter.unusedSectionVars false
namespace Go.Avm
open Go.Proofs Go.Avm.Dom Go.RowKit

theorem idx_ne {x v : Nat} {r : List Nat} (h : v ≠ x) : (x :: r).idxOf v = r.idxOf v + 1 := by
  rw [List.idxOf_cons, beq_eq_false_iff_ne.2 (Ne.symm h)]
  rfl
theorem mkEs_mem : ∀ {l : List Nat} {i : Nat} {e : D × D × Nat}, l.Nodup → e ∈ mkEs i l → ∃ v ∈ l, e = (.int .i64 (v : Int), .agg [], i + l.idxOf v)
  | [], _, _, _, h => by simp [mkEs] at h
  | x :: r, i, e, hn, h => by
    simp only [mkEs, List.mem_cons] at h
    rcases h with rfl | h
    · exact ⟨x, by simp, by simp⟩
    · obtain ⟨hx, hr⟩ := List.nodup_cons.1 hn
      obtain ⟨v, hv, rfl⟩ := mkEs_mem hr h
      refine ⟨v, by simp [hv], ?_⟩
      have : v ≠ x := fun e => hx (e ▸ hv)
      rw [idx_ne this, show i + 1 + r.idxOf v = i + (r.idxOf v + 1) by omega]
theorem mkEs_of : ∀ {l : List Nat} {i : Nat} {v : Nat}, l.Nodup → v ∈ l → (D.int .i64 (v : Int), D.agg [], i + l.idxOf v) ∈ mkEs i l
  | [], _, _, _, h => by simp at h
  | x :: r, i, v, hn, h => by
    obtain ⟨hx, hr⟩ := List.nodup_cons.1 hn
    simp only [mkEs, List.mem_cons]
    by_cases e : v = x
    · subst e
      exact .inl (by simp)
    · have hv : v ∈ r := (List.mem_cons.1 h).resolve_left e
      refine .inr ?_
      rw [idx_ne e, show i + (r.idxOf v + 1) = i + 1 + r.idxOf v by omega]
      exact mkEs_of hr hv
theorem mkEs_nodup : ∀ (l : List Nat) (i : Nat), ((mkEs i l).map (·.2.2)) = List.range' i l.length
  | [], i => rfl
  | x :: r, i => by simp [mkEs, mkEs_nodup r (i + 1), List.range'_succ]
theorem idx_inj {l : List Nat} {u v : Nat} (hu : u ∈ l) (hv : v ∈ l) (h : l.idxOf u = l.idxOf v) : u = v := by
  have h1 := List.getElem_idxOf (List.idxOf_lt_length_of_mem hu)
  have h2 := List.getElem_idxOf (List.idxOf_lt_length_of_mem hv)
  rw [← h1, ← h2]
  simp only [h]
theorem runA_ex {P : Program} {cfg : Cfg} {N : Nat} {ops : Array Oper} {l : List Nat} {S S3 : St} (h : (runA P cfg N ops l S).map (fun r => (r.1, r.2.1)) = some (S3, [])) : ∃ fts, runA P cfg N ops l S = some (S3, [], fts) := by
  cases hr : runA P cfg N ops l S with
  | none => rw [hr] at h; cases h
  | some r =>
    obtain ⟨a, b, c⟩ := r
    rw [hr] at h
    simp only [Option.map_some, Option.some.injEq, Prod.mk.injEq] at h
    obtain ⟨rfl, rfl⟩ := h
    exact ⟨c, rfl⟩
theorem obls_nil (P : Program) : Obls P [] := fun _ h => by cases h
def seenOf (vs acc : List Nat) : List Nat := acc.map vs.idxOf
section
variable (up : List Int) (F : Graph) (out srt : AV) (n i h vm v3 vK vI w : Nat) (vs acc : List Nat)
theorem e28_seen (seen seen' : List Nat) (rest : Heap) : upd (ovl (e28 vm v3 vK vI w vs h acc seen) rest) 55 ⟨vI, some (.itr 500541 vm vs.length seen')⟩ = ovl (e28 vm v3 vK vI w vs h acc seen') rest := by
  funext k
  simp only [e28, ovl, upd]
  by_cases h1 : k = 55
  · subst h1; simp
  · simp [h1]
theorem next_done (S0 : St) (h0 : Heap) : ∃ fts, runA Try.prog {} 126 ops28 (List.range' 1 1) ⟨upd S0.env 107 (.tup [.d (.bool false)]), h0⟩ = some (⟨upd (upd S0.env 107 (.tup [.d (.bool false)])) 108 (dB false), h0⟩, [], fts) := runA_ex (by kernel_rfl)
theorem next_more (S0 : St) (h0 : Heap) (a b : D) : ∃ fts, runA Try.prog {} 126 ops28 (List.range' 1 1) ⟨upd S0.env 107 (.tup [.d (.bool true), .d a, .d b]), h0⟩ = some (⟨upd (upd S0.env 107 (.tup [.d (.bool true), .d a, .d b])) 108 (dB true), h0⟩, [], fts) := runA_ex (by kernel_rfl)
theorem entry_run (S0 : St) (h0 : Heap) (x : Nat) (b : D) : ∃ fts, runA Try.prog {} 126 ops29 (List.range' 1 2) ⟨upd S0.env 109 (.tup [.d (.int .i64 (x : Int)), .d b]), h0⟩ = some (⟨upd (upd (upd S0.env 109 (.tup [.d (.int .i64 (x : Int)), .d b])) 110 (dN x)) 18 (dN x), h0⟩, [], fts) := runA_ex (by kernel_rfl)
end
theorem weak_is {X : Fix} {env : Nat → AV} {h h' : Heap} {l : List (Nat × AV)} (hl : ∀ p ∈ l, p.2 = env p.1) (hh : h = h') : Weak X ⟨env, h⟩ ⟨envOf l, h'⟩ := by
  subst hh
  exact weak_envOf hl
section
variable (up : List Int) (F : Graph) (out srt : AV) (n i h vm v3 vK vI w : Nat) (vs : List Nat) (hvs : vs.Nodup) (hvl : vs.length < 1000000000)
include hvs hvl
theorem nLoop (rest : Heap) (X : Fix) (hP : X.P = Try.prog) (hN : X.N = 126) : ∀ (m : Nat) (acc : List Nat), vs.length - acc.length = m → acc.Nodup → (∀ v ∈ acc, v ∈ vs) →
    LW X body28 ⟨envOf (lpN up F out srt n i v3 vI), ovl (e28 vm v3 vK vI w vs h acc (seenOf vs acc)) rest⟩ fun e' S' => e' = .exit 6 ∧ ∃ acc' : List Nat, acc'.Nodup ∧ (∀ v, v ∈ acc' ↔ v ∈ vs) ∧ Weak X S' ⟨envOf (lpB up F out srt n i ++ [(17, .ptr 502789 v3 0 0 1)]), ovl (e28 vm v3 vK vI w vs h acc' (seenOf vs acc')) rest⟩ := fun m => by
  induction m using Nat.strongRecOn with
  | ind m ih =>
    intro acc hm hn hs
    have hlen : acc.length ≤ vs.length := List.Nodup.length_le_of_subset hn hs
    refine lw_round ?_
    rw [body28_shape]
    refine aw_seq (aw_region_val (cfg := {}) (ob := []) (fts := []) (p := 0) (S1 := ⟨envOf (lpN up F out srt n i v3 vI), ovl (e28 vm v3 vK vI w vs h acc (seenOf vs acc)) rest⟩) (Out := NextOut (ovl (e28 vm v3 vK vI w vs h acc (seenOf vs acc)) rest) 55 vI 500541 vm vs.length (mkEs 0 vs) (seenOf vs acc)) op28_at op28_is.2.1 (fun c => by rw [op28_is.1]; intro h; cases h) rfl (obls_nil _)
      (fun G w a hr hρ => op_next hr hρ op28_is.1 rfl (by simp [e28, ovl, upd]) (by simp [e28, ovl, upd]) (fun e he => ?_)) ?_)
    · obtain ⟨v, hv, rfl⟩ := mkEs_mem hvs he
      have := List.idxOf_lt_length_of_mem hv
      simpa using this
    · rintro x h' (⟨rfl, rfl, hall⟩ | ⟨e, he, hns, rfl, rfl⟩)
      · obtain ⟨fts, hrun⟩ := next_done (⟨envOf (lpN up F out srt n i v3 vI), ovl (e28 vm v3 vK vI w vs h acc (seenOf vs acc)) rest⟩) (ovl (e28 vm v3 vK vI w vs h acc (seenOf vs acc)) rest)
        refine ⟨_, _, [], fts, by rw [hN, op28_is.2.2.1]; rfl, by rw [hP, hN, op28_is.2.2.2]; exact hrun, obls_nil _, ?_⟩
        refine aw_seq (aw_cond (b := false) rfl (fun h => by cases h) (fun _ => aw_exit ⟨rfl, acc, hn, fun v => ⟨hs v, fun hv => ?_⟩, weak_is (fun p hp => ?_) rfl⟩))
        · have h1 := hall _ (mkEs_of (i := 0) hvs hv)
          simp only [seenOf, List.mem_map, Nat.zero_add] at h1
          obtain ⟨u, hu, hi⟩ := h1
          exact idx_inj (hs u hu) hv hi ▸ hu
        · simp only [lpB, List.cons_append, List.nil_append, List.mem_cons, List.not_mem_nil, or_false] at hp
          rcases hp with rfl | rfl | rfl | rfl | rfl | rfl | rfl <;> rfl
      · obtain ⟨v, hv, rfl⟩ := mkEs_mem hvs he
        simp only [Nat.zero_add] at hns ⊢
        have hva : v ∉ acc := fun h => hns (List.mem_map.2 ⟨v, h, rfl⟩)
        rw [e28_seen]
        have hss : seenOf vs acc ++ [vs.idxOf v] = seenOf vs (acc ++ [v]) := by simp [seenOf]
        rw [hss]
        obtain ⟨fts, hrun⟩ := next_more (⟨envOf (lpN up F out srt n i v3 vI), ovl (e28 vm v3 vK vI w vs h acc (seenOf vs acc)) rest⟩) (ovl (e28 vm v3 vK vI w vs h acc (seenOf vs (acc ++ [v]))) rest) (.int .i64 (v : Int)) (.agg [])
        refine ⟨_, _, [], fts, by rw [hN, op28_is.2.2.1]; rfl, by rw [hP, hN, op28_is.2.2.2]; exact hrun, obls_nil _, ?_⟩
        refine aw_seq (aw_cond (b := true) rfl (fun _ => aw_skip ?_) (fun h => by cases h))
        refine aw_block (aw_seq (aw_region_val (cfg := {}) (ob := []) (fts := []) (p := 0) (S1 := ⟨_, ovl (e28 vm v3 vK vI w vs h acc (seenOf vs (acc ++ [v]))) rest⟩) (Out := fun x' h' => x' = .tup [.d (.int .i64 (v : Int)), .d (.agg [])] ∧ h' = ovl (e28 vm v3 vK vI w vs h acc (seenOf vs (acc ++ [v]))) rest) op29_at op29_is.2.1 (fun c => by rw [op29_is.1]; intro h; cases h) rfl (obls_nil _)
          (fun G w a hr hρ => op_entry hr hρ op29_is.1 rfl (e := (.int .i64 (v : Int), .agg [], 0 + vs.idxOf v)) (seen := seenOf vs acc) (I := 55) (vI := vI) (k := 500541) (v := vm) (c := vs.length) (es := mkEs 0 vs) (by simp [e28, ovl, upd, seenOf]) (by simp [e28, ovl, upd]) (mkEs_of hvs hv) (by rw [mkEs_nodup]; exact List.nodup_range')) ?_))
        rintro x' h' ⟨rfl, rfl⟩
        obtain ⟨fts, hrun⟩ := entry_run (⟨upd (upd (envOf (lpN up F out srt n i v3 vI)) 107 (.tup [.d (.bool true), .d (.int .i64 (v : Int)), .d (.agg [])])) 108 (dB true), ovl (e28 vm v3 vK vI w vs h acc (seenOf vs (acc ++ [v]))) rest⟩) (ovl (e28 vm v3 vK vI w vs h acc (seenOf vs (acc ++ [v]))) rest) v (.agg [])
        refine ⟨_, _, [], fts, by rw [hN, op29_is.2.2.1]; rfl, by rw [hP, hN, op29_is.2.2.2]; exact hrun, obls_nil _, ?_⟩
        refine AW.weak (weak_is (l := lpN up F out srt n i v3 vI ++ [(18, dN v)]) (fun p hp => ?_) rfl) ((n30 up F out srt n i h vm v3 vK vI w vs acc (seenOf vs (acc ++ [v])) v (by omega) rest X hP hN).mono ?_)
        · simp only [lpN, lpB, List.cons_append, List.nil_append, List.mem_cons, List.not_mem_nil, or_false] at hp
          rcases hp with rfl | rfl | rfl | rfl | rfl | rfl | rfl | rfl | rfl <;> rfl
        · rintro e' S' ⟨rfl, hw⟩
          have hl2 : (acc ++ [v]).length ≤ vs.length := List.Nodup.length_le_of_subset (by
            rw [List.nodup_append]
            exact ⟨hn, by simp, fun a ha b hb => by rw [List.mem_singleton] at hb; subst hb; exact fun e => hva (e ▸ ha)⟩) (fun y hy => by
            rcases List.mem_append.1 hy with h1 | h1
            · exact hs y h1
            · exact List.mem_singleton.1 h1 ▸ hv)
          rw [List.length_append, List.length_singleton] at hl2
          rw [← body28_shape]
          exact LW.weak hw (ih (vs.length - (acc ++ [v]).length) (by rw [List.length_append, List.length_singleton]; omega) (acc ++ [v]) rfl (by
            rw [List.nodup_append]
            exact ⟨hn, by simp, fun a ha b hb => by rw [List.mem_singleton] at hb; subst hb; exact fun e => hva (e ▸ ha)⟩) (fun y hy => by
            rcases List.mem_append.1 hy with h1 | h1
            · exact hs y h1
            · exact List.mem_singleton.1 h1 ▸ hv))
end
theorem aw_to {X : Fix} {c : Code} {S S2 : St} {e : AExit} (h : AW X c S fun e' S' => e' = e ∧ Weak X S' S2) : AW X c S fun e' S' => e' = e ∧ S' = S2 := fun G a w hh => by
  refine wpIn_mono (h G a w hh) ?_
  rintro e0 a' w' ⟨e', S', G', x, ⟨rfl, hw⟩, e1, r⟩
  obtain ⟨G1, e2, h1⟩ := hw G' a' w' r
  exact ⟨e', S2, G1, x.mono e2, ⟨rfl, rfl⟩, e1.trans e2, h1⟩
def nE (vo vm v3 v4 v5 w3 w4 : Nat) (vs : List Nat) (h : Nat) : List (Nat × Ent) := [(53, ⟨vo, none⟩), (500541, ⟨vm, some (.map (mkEs 0 vs) vs.length)⟩), (502789, ⟨v3, some (.arr 1 [dN h, .nils])⟩), (54, ⟨v4, none⟩), (55, ⟨v5, none⟩), (500492, ⟨w3, none⟩), (500626, ⟨w4, none⟩)]
def nZ (vo vm v3 v4 v5 w3 w4 : Nat) : List (Nat × Ent) := [(53, ⟨vo, none⟩), (500541, ⟨vm, none⟩), (502789, ⟨v3, none⟩), (54, ⟨v4, none⟩), (55, ⟨v5, none⟩), (500492, ⟨w3, none⟩), (500626, ⟨w4, none⟩)]
def lpQ (up : List Int) (F : Graph) (out srt : AV) (n i v3 vm : Nat) : List (Nat × AV) := lpB up F out srt n i ++ [(10, .mp 500541 vm), (17, .ptr 502789 v3 0 0 1)]
theorem range_run (S0 : St) (vm : Nat) (h : S0.env 10 = .mp 500541 vm) : ∃ fts, runA Try.prog {} 126 ops27 (List.range' 0 1) S0 = some (⟨upd S0.env 105 (.mp 500541 vm), S0.heap⟩, [], fts) := by
  rw [← h]
  exact runA_ex (by kernel_rfl)
theorem nodeQ (up : List Int) (F : Graph) (srt : AV) (n i h vo vm v3 v4 v5 w3 w4 : Nat) (acc : List (Nat × List Nat)) (vs S : List Nat) (hvs : vs.Nodup) (hvl : vs.length < 1000000) (hne : vs ≠ []) (hal : acc.length < 1000000)
    (hS : ∀ l : List Nat, l.Nodup → (∀ v, v ∈ l ↔ v ∈ vs) → sortZ (natR l) = natR S) (rest : Heap) (X : Fix) (hP : X.P = Try.prog) (hN : X.N = 126) :
    AW X nodeC ⟨envOf (lpQ up F (outA vo acc) srt n i v3 vm), ovl (nE vo vm v3 v4 v5 w3 w4 vs h) rest⟩ fun e' S' => e' = .normal ∧ S' = ⟨envOf (lpB up F (outA (vo + 1) (acc ++ [(h, S)])) srt n i), ovl (nZ (vo + 1) vm v3 (v4 + 1 + vs.length + 1) (v5 + 1) (w3 + vs.length) (w4 + 1)) rest⟩ := by
  refine aw_to ?_
  rw [node_shape]
  obtain ⟨fts0, hrun0⟩ := range_run ⟨envOf (lpQ up F (outA vo acc) srt n i v3 vm), ovl (nE vo vm v3 v4 v5 w3 w4 vs h) rest⟩ vm rfl
  refine aw_seq (aw_seq (aw_region_val (cfg := {}) (ob := []) (p := 1) (Out := fun x h' => x = .itr 55 (v5 + 1) ∧ h' = upd (ovl (nE vo vm v3 v4 v5 w3 w4 vs h) rest) 55 ⟨v5 + 1, some (.itr 500541 vm vs.length [])⟩) op27_at op27_is.2.1 (fun c => by rw [op27_is.1]; intro h; cases h) (by rw [hP, hN]; exact hrun0) (obls_nil _)
      (fun G w a hr hρ => ?_) ?_))
  · obtain ⟨v', w', G', h1, h2, h3, h4⟩ := op_range (P := X.P) hr hρ 55 op27_is.1 (by rw [hP]; exact under120) (k := 500541) (v := vm) (es := mkEs 0 vs) (c := vs.length) rfl (by simp [nE, ovl, upd])
    have e : (ovl (nE vo vm v3 v4 v5 w3 w4 vs h) rest 55).ver = v5 := by simp [nE, ovl, upd]
    simp only [e] at h3 h4
    exact ⟨v', w', G', _, _, h1, h2, h3, h4, rfl, rfl⟩
  · rintro x h' ⟨rfl, rfl⟩
    refine ⟨_, _, [], [], by rw [hN, op27_is.2.2.1]; rfl, by rw [op27_is.2.2.2]; rfl, obls_nil _, ?_⟩
    -- a list that holds nothing yet
    have hw1 := weak_moveNil (X := X) (env := upd (upd (envOf (lpQ up F (outA vo acc) srt n i v3 vm)) 105 (.mp 500541 vm)) 106 (.itr 55 (v5 + 1))) (h := upd (ovl (nE vo vm v3 v4 v5 w3 w4 vs h) rest) 55 ⟨v5 + 1, some (.itr 500541 vm vs.length [])⟩) (C := 502789) (K := 54) (a := 1) (sz := 1) (ces := [dN h, .nils]) (by omega) (by simp [nE, ovl, upd]) rfl
    have hh : upd (upd (upd (ovl (nE vo vm v3 v4 v5 w3 w4 vs h) rest) 55 ⟨v5 + 1, some (.itr 500541 vm vs.length [])⟩) 54 ⟨(upd (ovl (nE vo vm v3 v4 v5 w3 w4 vs h) rest) 55 ⟨v5 + 1, some (.itr 500541 vm vs.length [])⟩ 54).ver + 1, some (.arr 1 [])⟩) 502789 ⟨(upd (ovl (nE vo vm v3 v4 v5 w3 w4 vs h) rest) 55 ⟨v5 + 1, some (.itr 500541 vm vs.length [])⟩ 502789).ver, some (.arr 1 ([dN h, AV.nils].set 1 (.sl 54 ((upd (ovl (nE vo vm v3 v4 v5 w3 w4 vs h) rest) 55 ⟨v5 + 1, some (.itr 500541 vm vs.length [])⟩ 54).ver + 1) 0 0 1)))⟩
        = ovl (e28 vm v3 (v4 + 1) (v5 + 1) w3 vs h [] (seenOf vs [])) (ovl [(53, ⟨vo, none⟩), (500626, ⟨w4, none⟩)] rest) := by
      funext k
      simp only [e28, nE, ovl, upd, seenOf, intsA]
      by_cases k1 : k = 53
      · subst k1; simp
      by_cases k2 : k = 500541
      · subst k2; simp
      by_cases k3 : k = 502789
      · subst k3; simp
      by_cases k4 : k = 54
      · subst k4; simp
      by_cases k5 : k = 55
      · subst k5; simp
      by_cases k6 : k = 500492
      · subst k6; simp
      by_cases k7 : k = 500626
      · subst k7; simp
      simp [k1, k2, k3, k4, k5, k6, k7]
    rw [hh] at hw1
    refine AW.weak hw1 (AW.weak (weak_is (l := lpN up F (outA vo acc) srt n i v3 (v5 + 1)) (fun p hp => ?_) rfl) (aw_block ((nLoop up F (outA vo acc) srt n i h vm v3 (v4 + 1) (v5 + 1) w3 vs hvs (by omega) _ X hP hN _ [] rfl (by simp) (by simp)).aw.mono ?_)))
    · simp only [lpN, lpB, List.cons_append, List.nil_append, List.mem_cons, List.not_mem_nil, or_false] at hp
      rcases hp with rfl | rfl | rfl | rfl | rfl | rfl | rfl | rfl <;> rfl
    · rintro e' S' ⟨rfl, acc', hn', hm', hw'⟩
      simp only [blockA, if_true]
      have hlen : acc'.length = vs.length := ((List.perm_ext_iff_of_nodup hn' hvs).2 hm').length_eq
      have hz := hS acc' hn' hm'
      have hsl : (natR acc').length = S.length := by
        have := congrArg List.length hz
        simp only [sortZ, List.length_mergeSort, List.length_map] at this
        simpa using this
      have hw2 : Weak X ⟨envOf (lpB up F (outA vo acc) srt n i ++ [(17, .ptr 502789 v3 0 0 1)]), ovl (e28 vm v3 (v4 + 1) (v5 + 1) w3 vs h acc' (seenOf vs acc')) (ovl [(53, ⟨vo, none⟩), (500626, ⟨w4, none⟩)] rest)⟩ ⟨envOf (lpB up F (outA vo acc) srt n i ++ [(17, .ptr 502789 v3 0 0 1)]), ovl [(53, ⟨vo, none⟩), (502789, ⟨v3, some (.arr 1 [dN h, .sl 54 (v4 + 1 + vs.length) 0 (natR acc').length 1])⟩), (54, ⟨v4 + 1 + vs.length, some (.arr 1 ((natR acc').map dI))⟩), (500626, ⟨w4, none⟩)] (ovl [(500541, ⟨vm, none⟩), (55, ⟨v5 + 1, none⟩), (500492, ⟨w3 + vs.length, none⟩)] rest)⟩ := weak_heap (fun k => by
        have ei : intsA acc' = (natR acc').map dI := by simp [intsA, dN, dI]
        simp only [e28, ovl, upd, ei, hlen]
        by_cases k1 : k = 53
        · subst k1; simp
        by_cases k2 : k = 500541
        · subst k2; simp
        by_cases k3 : k = 502789
        · subst k3; simp [hlen]
        by_cases k4 : k = 54
        · subst k4; simp
        by_cases k5 : k = 55
        · subst k5; simp
        by_cases k6 : k = 500492
        · subst k6; simp
        by_cases k7 : k = 500626
        · subst k7; simp
        simp [k1, k2, k3, k4, k5, k6, k7])
      refine AW.weak (hw'.trans hw2) ((n31 up F srt n i h vo v3 (v4 + 1 + vs.length) w4 acc (natR acc') S hz hsl (fun e => hne ?_) (by simp; omega) hal _ X hP hN).mono ?_)
      · have h1 := congrArg List.length e
        rw [List.length_map, hlen] at h1
        exact List.length_eq_zero_iff.1 h1
      · rintro e' S' ⟨rfl, hw3⟩
        refine ⟨rfl, hw3.trans (weak_is (fun p hp => ?_) ?_)⟩
        · simp only [lpB, List.mem_cons, List.not_mem_nil, or_false] at hp
          rcases hp with rfl | rfl | rfl | rfl | rfl | rfl <;> rfl
        · funext k
          simp only [nZ, ovl, upd]
          by_cases k1 : k = 53
          · subst k1; simp
          by_cases k2 : k = 500541
          · subst k2; simp
          by_cases k3 : k = 502789
          · subst k3; simp
          by_cases k4 : k = 54
          · subst k4; simp
          by_cases k5 : k = 55
          · subst k5; simp
          by_cases k6 : k = 500492
          · subst k6; simp
          by_cases k7 : k = 500626
          · subst k7; simp
          simp [k1, k2, k3, k4, k5, k6, k7]
end Go.Avm
/-
  Flow: a round of the program's loops.
-/
set_option linter.unusedSectionVars false
namespace Go.Avm
open Go.Proofs Go.Avm.Dom

def lp8 (up : List Int) (F : Graph) (vo : Nat) (acc : List (Nat × List Nat)) (ord : List Nat) (i : Nat) : List (Nat × AV) := lpB up F (outA vo acc) (.d (.ro (intsN ord))) ord.length i
def e8 (vo v1 v2 w1 w2 v3 v4 v5 w3 w4 : Nat) : List (Nat × Ent) := [(53, ⟨vo, none⟩), (500541, ⟨v1, none⟩), (52, ⟨v2, none⟩), (502587, ⟨w1, none⟩), (502787, ⟨w2, none⟩), (502789, ⟨v3, none⟩), (54, ⟨v4, none⟩), (55, ⟨v5, none⟩), (500492, ⟨w3, none⟩), (500626, ⟨w4, none⟩)]
section
variable (up : List Int) (F : Graph) (vo : Nat) (acc : List (Nat × List Nat)) (ord : List Nat) (i h : Nat) (r bs : List Nat) (v1 v2 w1 w2 v3 v4 v5 w3 w4 : Nat)
theorem l8No (hi : i < ord.length) (hol : ord.length < 1000000) (ho : (intsN ord)[i]? = some (.int .i64 (h : Int))) (hr : F[h]? = some r) 
    (hl : ∀ (rest : Heap) (X : Fix), X.P = Try.prog → X.N = 126 → AW X (.loop (loopOf Try.prog 37 13)) ⟨envOf (lp13 up F (outA vo acc) (.d (.ro (intsN ord))) ord.length i h (v1 + 1) (v2 + 1) 0 r 0), ovl (e13 (v2 + 1) [] w1) rest⟩ fun e' S' => e' = .exit 2 ∧ S' = ⟨envOf (lp19 up F (outA vo acc) (.d (.ro (intsN ord))) ord.length i h (v1 + 1) (v2 + 1) 0), ovl (e13 (v2 + 1) [] w1) rest⟩)
    (rest : Heap) (X : Fix) (hP : X.P = Try.prog) (hN : X.N = 126) :
    AW X (loopOf Try.prog 37 8) ⟨envOf (lp8 up F vo acc ord i), ovl (e8 vo v1 v2 w1 w2 v3 v4 v5 w3 w4) rest⟩ fun e' S' => e' = .normal ∧ Weak X S' ⟨envOf (lp8 up F vo acc ord (i + 1)), ovl (e8 vo (v1 + 1) (v2 + 1) w1 w2 v3 v4 v5 w3 w4) rest⟩ :=
  seg okP named { nils2 := fun f q => if f = 37 then (if q = 12 then [⟨0, 11, 52, 1, true, true⟩] else []) else [], loops := fun f q => if f = 37 then (if q = 13 then some ⟨126, loopOf Try.prog 37 13, lp13 up F (outA vo acc) (.d (.ro (intsN ord))) ord.length i h (v1 + 1) (v2 + 1) 0 r 0, fun _ => e13 (v2 + 1) [] w1, .exit 2, lp19 up F (outA vo acc) (.d (.ro (intsN ord))) ord.length i h (v1 + 1) (v2 + 1) 0, fun _ => e13 (v2 + 1) [] w1, hl⟩ else none) else none, hint := tabH Try.prog [(37, 34, hLt Try.prog i ord.length true (by simpa using hi)), (37, 35, .idx (intsN ord) ((i : Nat) : Int) (.int .i64 (h : Int)) (by omega) ho), (37, 110003, .look (.int .i64 (h : Int)) [] none rfl), (37, 43, hIxG Try.prog F h r hr), (37, 45, hLenN Try.prog r), (37, 124, hSucc Try.prog i (by omega))] } 2000 37 500000 126 (by kernel_rfl) X hP hN
theorem l8Yes (hi : i < ord.length) (hol : ord.length < 1000000) (ho : (intsN ord)[i]? = some (.int .i64 (h : Int))) (hr : F[h]? = some r) (hbs : bs.length ≠ 0) (vs S : List Nat) (os : List AV) (v2' w2' : Nat) (hq : ∀ (rest : Heap) (X : Fix), X.P = Try.prog → X.N = 126 → AW X nodeC ⟨envOf (lpQ up F (outA vo acc) (.d (.ro (intsN ord))) ord.length i (v3 + 1) (v1 + 1)), ovl (nE vo (v1 + 1) (v3 + 1) v4 v5 w3 w4 vs h) rest⟩ fun e' S' => e' = .normal ∧ S' = ⟨envOf (lpB up F (outA (vo + 1) (acc ++ [(h, S)])) (.d (.ro (intsN ord))) ord.length i), ovl (nZ (vo + 1) (v1 + 1) (v3 + 1) (v4 + 1 + vs.length + 1) (v5 + 1) (w3 + vs.length) (w4 + 1)) rest⟩)
    (hl : ∀ (rest : Heap) (X : Fix), X.P = Try.prog → X.N = 126 → AW X (.loop (loopOf Try.prog 37 13)) ⟨envOf (lp13 up F (outA vo acc) (.d (.ro (intsN ord))) ord.length i h (v1 + 1) (v2 + 1) 0 r 0), ovl (e13 (v2 + 1) [] w1) rest⟩ fun e' S' => e' = .exit 2 ∧ S' = ⟨envOf (lp19 up F (outA vo acc) (.d (.ro (intsN ord))) ord.length i h (v1 + 1) (v2 + 1 + bs.length) bs.length), ovl (e13 (v2 + 1 + bs.length) bs (w1 + bs.length)) rest⟩)
    (hl2 : ∀ (rest : Heap) (X : Fix), X.P = Try.prog → X.N = 126 → AW X (.loop (loopOf Try.prog 37 19)) ⟨envOf (lp19 up F (outA vo acc) (.d (.ro (intsN ord))) ord.length i h (v1 + 1) (v2 + 1 + bs.length) bs.length), ovl (e19 (v1 + 1) (v2 + 1 + bs.length) [h] (intsA bs) w2) rest⟩ fun e' S' => e' = .exit 4 ∧ S' = ⟨envOf (lpB up F (outA vo acc) (.d (.ro (intsN ord))) ord.length i ++ [(9, dN h), (10, .mp 500541 (v1 + 1))]), ovl (e19 (v1 + 1) v2' vs os w2') rest⟩)
    (rest : Heap) (X : Fix) (hP : X.P = Try.prog) (hN : X.N = 126) :
    AW X (loopOf Try.prog 37 8) ⟨envOf (lp8 up F vo acc ord i), ovl (e8 vo v1 v2 w1 w2 v3 v4 v5 w3 w4) rest⟩ fun e' S' => e' = .normal ∧ Weak X S' ⟨envOf (lp8 up F (vo + 1) (acc ++ [(h, S)]) ord (i + 1)), ovl (e8 (vo + 1) (v1 + 1) v2' (w1 + bs.length) w2' (v3 + 1) (v4 + 1 + vs.length + 1) (v5 + 1) (w3 + vs.length) (w4 + 1)) rest⟩ :=
  seg okP named { seqs := fun f q => if f = 37 then (if q = 27 then some ⟨126, nodeC, lpQ up F (outA vo acc) (.d (.ro (intsN ord))) ord.length i (v3 + 1) (v1 + 1), fun _ => nE vo (v1 + 1) (v3 + 1) v4 v5 w3 w4 vs h, .normal, lpB up F (outA (vo + 1) (acc ++ [(h, S)])) (.d (.ro (intsN ord))) ord.length i, fun _ => nZ (vo + 1) (v1 + 1) (v3 + 1) (v4 + 1 + vs.length + 1) (v5 + 1) (w3 + vs.length) (w4 + 1), hq⟩ else none) else none, nils2 := fun f q => if f = 37 then (if q = 12 then [⟨0, 11, 52, 1, true, true⟩] else []) else [], loops := fun f q => if f = 37 then (if q = 13 then some ⟨126, loopOf Try.prog 37 13, lp13 up F (outA vo acc) (.d (.ro (intsN ord))) ord.length i h (v1 + 1) (v2 + 1) 0 r 0, fun _ => e13 (v2 + 1) [] w1, .exit 2, lp19 up F (outA vo acc) (.d (.ro (intsN ord))) ord.length i h (v1 + 1) (v2 + 1 + bs.length) bs.length, fun _ => e13 (v2 + 1 + bs.length) bs (w1 + bs.length), hl⟩ else if q = 19 then some ⟨126, loopOf Try.prog 37 19, lp19 up F (outA vo acc) (.d (.ro (intsN ord))) ord.length i h (v1 + 1) (v2 + 1 + bs.length) bs.length, fun _ => e19 (v1 + 1) (v2 + 1 + bs.length) [h] (intsA bs) w2, .exit 4, lpB up F (outA vo acc) (.d (.ro (intsN ord))) ord.length i ++ [(9, dN h), (10, .mp 500541 (v1 + 1))], fun _ => e19 (v1 + 1) v2' vs os w2', hl2⟩ else none) else none, hint := tabH Try.prog [(37, 34, hLt Try.prog i ord.length true (by simpa using hi)), (37, 35, .idx (intsN ord) ((i : Nat) : Int) (.int .i64 (h : Int)) (by omega) ho), (37, 110003, .look (.int .i64 (h : Int)) [] none rfl), (37, 43, hIxG Try.prog F h r hr), (37, 45, hLenN Try.prog r), (37, 72, hEq Try.prog (bs.length : Int) 0 false (beq_eq_false_iff_ne.2 (by omega))), (37, 124, hSucc Try.prog i (by omega))] } 2000 37 500000 126 (by kernel_rfl) X hP hN
end
end Go.Avm
/-
  Flow: the program's loops.
-/
set_option linter.unusedSectionVars false
namespace Go.Avm
open Go.Proofs Go.Avm.Dom

open Classical in
noncomputable def backsOf (g : Graph) (h : Nat) : List Nat := ((intoOf g).getD h []).filter fun t => decide (Doms g h t)
open Classical in
noncomputable def loopAt (g : Graph) (h : Nat) : List Nat := (List.range g.length).filter fun v => decide (InL g h (backsOf g h) v)
open Classical in
noncomputable def ordOf (g : Graph) : List Nat := (List.range g.length).filter fun v => decide (Reached g v)
open Classical in
noncomputable def loopsIn (g : Graph) (l : List Nat) : List (Nat × List Nat) := (l.filter fun h => decide (backsOf g h ≠ [])).map fun h => (h, loopAt g h)
noncomputable def loopsOf (g : Graph) : List (Nat × List Nat) := loopsIn g (ordOf g)
theorem loopsIn_len (g : Graph) (l : List Nat) : (loopsIn g l).length ≤ l.length := by
  unfold loopsIn
  rw [List.length_map]
  exact List.length_filter_le _ _
theorem ordOf_len (g : Graph) : (ordOf g).length ≤ g.length := by
  unfold ordOf
  refine Nat.le_trans (List.length_filter_le _ _) ?_
  simp
theorem l8Stop (up : List Int) (F : Graph) (vo : Nat) (acc : List (Nat × List Nat)) (ord : List Nat) (es : List (Nat × Ent)) (rest : Heap) (X : Fix) (hP : X.P = Try.prog) (hN : X.N = 126) (v1 v2 w1 w2 v3 v4 v5 w3 w4 : Nat) :
    AW X (loopOf Try.prog 37 8) ⟨envOf (lp8 up F vo acc ord ord.length), ovl (e8 vo v1 v2 w1 w2 v3 v4 v5 w3 w4) rest⟩ fun e' S' => e' = .exit 0 ∧ Weak X S' ⟨envOf [(7, outA vo acc)], ovl (e8 vo v1 v2 w1 w2 v3 v4 v5 w3 w4) rest⟩ :=
  seg okP named { hint := tabH Try.prog [(37, 34, hLt Try.prog ord.length ord.length false (by simp))] } 2000 37 500000 126 (by kernel_rfl) X hP hN
theorem sortNil (rest : Heap) : HCall Try.prog 79 [.sl 51 1 0 0 1] (ovl [(51, ⟨1, some (.arr 1 [])⟩)] rest) [] (ovl [(51, ⟨1, some (.arr 1 [])⟩)] rest) :=
  hcall_of_run okP named { hint := tabH Try.prog [] } 2000 800000 _ (by kernel_rfl)
section
variable {g : Graph} (hg : Valid g) (hg0 : 0 < g.length) (hgl : g.length < 100000) {U : Nat → Nat} (hU : Fixed g U)
include hg hg0 hgl hU
theorem l8Loop : ∀ (m i vo v1 v2 w1 w2 v3 v4 v5 w3 w4 : Nat), (ordOf g).length - i = m → i ≤ (ordOf g).length →
    ∃ vo' v1' v2' w1' w2' v3' v4' v5' w3' w4', ∀ (rest : Heap) (X : Fix), X.P = Try.prog → X.N = 126 →
      LW X (loopOf Try.prog 37 8) ⟨envOf (lp8 (outL2 g (allO U)) (intoOf g) vo (loopsIn g ((ordOf g).take i)) (ordOf g) i), ovl (e8 vo v1 v2 w1 w2 v3 v4 v5 w3 w4) rest⟩ fun e' S' => e' = .exit 0 ∧ S' = ⟨envOf [(7, outA vo' (loopsOf g))], ovl (e8 vo' v1' v2' w1' w2' v3' v4' v5' w3' w4') rest⟩ := fun m => by
  classical
  have hol := ordOf_len g
  induction m with
  | zero =>
    intro i vo v1 v2 w1 w2 v3 v4 v5 w3 w4 hm hi
    have hie : i = (ordOf g).length := by omega
    subst hie
    rw [List.take_length]
    exact ⟨vo, v1, v2, w1, w2, v3, v4, v5, w3, w4, fun rest X hP hN => lw_end (l8Stop _ _ vo _ _ [] rest X hP hN v1 v2 w1 w2 v3 v4 v5 w3 w4) (by simp)⟩
  | succ m ih =>
    intro i vo v1 v2 w1 w2 v3 v4 v5 w3 w4 hm hi
    have hlt : i < (ordOf g).length := by omega
    have hget : (ordOf g)[i]? = some (ordOf g)[i] := List.getElem?_eq_getElem hlt
    have hmem : (ordOf g)[i] ∈ ordOf g := List.getElem_mem hlt
    have htk : (ordOf g).take (i + 1) = (ordOf g).take i ++ [(ordOf g)[i]] := List.take_succ_eq_append_getElem hlt
    generalize (ordOf g)[i] = h at hget hmem htk
    have hh : h < g.length ∧ Reached g h := by
      unfold ordOf at hmem
      simpa using hmem
    have hbk := fun (vo v1 v2 w1 : Nat) (acc : List (Nat × List Nat)) (rest : Heap) X hP hN => backLoop hg hg0 hgl hU (outA vo acc) (.d (.ro (intsN (ordOf g)))) (ordOf g).length i h v1 v2 w1 hh.2 rest X hP hN
    have hbe : (((intoOf g).getD h []).filter fun t => decide (Doms g h t)) = backsOf g h := rfl
    rw [hbe] at hbk
    have hacc := loopsIn_len g ((ordOf g).take i)
    rw [List.length_take] at hacc
    have hb3 : (intsN (ordOf g))[i]? = some (.int .i64 (h : Int)) := intsN_get hget
    by_cases hb : backsOf g h = []
    · have e1 : loopsIn g ((ordOf g).take (i + 1)) = loopsIn g ((ordOf g).take i) := by
        rw [htk]
        unfold loopsIn
        rw [List.filter_append, List.filter_cons_of_neg (by simp [hb]), List.filter_nil, List.append_nil]
      obtain ⟨a1, a2, a3, a4, a5, a6, a7, a8, a9, a10, hl⟩ := ih (i + 1) vo (v1 + 1) (v2 + 1) w1 w2 v3 v4 v5 w3 w4 (by omega) (by omega)
      rw [e1] at hl
      rw [hb] at hbk
      exact ⟨a1, a2, a3, a4, a5, a6, a7, a8, a9, a10, fun rest X hP hN => lw_seg (l8No _ _ vo _ _ i h _ v1 v2 w1 w2 v3 v4 v5 w3 w4 hlt (by omega) hb3 (into_row hh.1) (fun rest X hP hN => hbk vo (v1 + 1) (v2 + 1) w1 _ rest X hP hN) rest X hP hN) (hl rest X hP hN)⟩
    · have e1 : loopsIn g ((ordOf g).take (i + 1)) = loopsIn g ((ordOf g).take i) ++ [(h, loopAt g h)] := by
        rw [htk]
        unfold loopsIn
        rw [List.filter_append, List.filter_cons_of_pos (by simp [hb]), List.filter_nil, List.map_append]
        rfl
      have hbl : ∀ t ∈ backsOf g h, t < g.length := fun t ht => (intoOf_mem.1 (List.mem_filter.1 ht).1).2.1
      have hbn : (backsOf g h).length ≤ g.length := Nat.le_trans (List.length_filter_le _ _) (into_len g h)
      have hmul : (backsOf g h).length + (g.length - [h].length) * (g.length + 1) < 100000000000 := by
        have : (g.length - [h].length) * (g.length + 1) ≤ 100000 * 100000 := Nat.mul_le_mul (by omega) (by omega)
        omega
      obtain ⟨v2', vs, os, w2', hfl, hfl2⟩ := floodLoop hg hgl (outL2 g (allO U)) (outA vo (loopsIn g ((ordOf g).take i))) (.d (.ro (intsN (ordOf g)))) (ordOf g).length i h (v1 + 1) (backsOf g h) _ _ [h] (backsOf g h) (intsA (backsOf g h)) (v2 + 1 + (backsOf g h).length) w2 rfl rfl (Flood.start hg hh.1 hbl) (by rw [List.take_of_length_le (by rw [intsA_len]; exact Nat.le_refl _)]) hmul
      have hvm : ∀ v, v ∈ vs ↔ v < g.length ∧ decide (InL g h (backsOf g h) v) = true := fun v => ⟨fun hv => ⟨hfl.lt v hv, by simpa using (hfl.done hg).1 hv⟩, fun hv => (hfl.done hg).2 (by simpa using hv.2)⟩
      have hvl := hfl.len hg
      have hq := fun (rest : Heap) X hP hN => nodeQ (outL2 g (allO U)) (intoOf g) (.d (.ro (intsN (ordOf g)))) (ordOf g).length i h vo (v1 + 1) (v3 + 1) v4 v5 w3 w4 (loopsIn g ((ordOf g).take i)) vs (loopAt g h) hfl.nd (by omega) (fun e => by have := hfl.hd; rw [e] at this; simp at this) (by omega) (fun l hn hm => sort_eq hn (fun v => (hm v).trans (hvm v))) rest X hP hN
      obtain ⟨a1, a2, a3, a4, a5, a6, a7, a8, a9, a10, hl⟩ := ih (i + 1) (vo + 1) (v1 + 1) v2' (w1 + (backsOf g h).length) w2' (v3 + 1) (v4 + 1 + vs.length + 1) (v5 + 1) (w3 + vs.length) (w4 + 1) (by omega) (by omega)
      rw [e1] at hl
      exact ⟨a1, a2, a3, a4, a5, a6, a7, a8, a9, a10, fun rest X hP hN => lw_seg (l8Yes _ _ vo _ _ i h _ _ v1 v2 w1 w2 v3 v4 v5 w3 w4 hlt (by omega) hb3 (into_row hh.1) (fun e => hb (List.length_eq_zero_iff.1 e)) vs (loopAt g h) os v2' w2' hq (fun rest X hP hN => hbk vo (v1 + 1) (v2 + 1) w1 _ rest X hP hN) (fun rest X hP hN => (hfl2 rest X hP hN).aw) rest X hP hN) (hl rest X hP hN)⟩
end
end Go.Avm
/-
  Flow: Loops.
-/
set_option linter.unusedSectionVars false
namespace Go.Avm
open Go.Proofs Go.Avm.Dom

theorem loopsBad {gs : List (List Int)} (hc : Pure Try.prog 73 [rowsD gs] [.int .i64 3]) : Pure Try.prog 37 [rowsD gs] [.ro [], .int .i64 3] :=
  pure_of_run okP named { hint := tabH Try.prog [(37, 20, .call 73 _ _ hc)] } 2000 (by kernel_rfl)
theorem loopsNil (hc : Pure Try.prog 73 [rowsN []] [.int .i64 0]) (h74 : Pure Try.prog 74 [rowsN []] [.ro []]) (h75 : Pure Try.prog 75 [rowsN []] [.ro []]) (h78 : Pure Try.prog 78 [rowsN []] [.ro []]) : Pure Try.prog 37 [rowsN []] [.ro [], .int .i64 0] :=
  pure_of_run okP named { hp := fun f => Nat.beq f 77, nils2 := fun f q => if f = 113 then (if q = 0 then [⟨0, 0, 51, 1, true, true⟩] else []) else [], calls := fun f s _ => if f = 76 then (if s = 7 then some ⟨79, _, _, _, _, fits_of sortNil⟩ else none) else none, hint := tabH Try.prog [(37, 20, .call 73 _ _ hc), (37, 25, .call 74 _ _ h74), (37, 27, .call 75 _ _ h75), (37, 29, .call 78 _ _ h78)] } 2000 (by kernel_rfl)
theorem loopsRun {g : Graph} (up : List Int) (l : List Nat) (hll : l.length < 1000000000) (hne : l ≠ []) (ord : List Nat) (hz : sortZ (natR l) = natR ord) (hl2 : l.length = ord.length) (res : List (Nat × List Nat))
    (hc : Pure Try.prog 73 [rowsN g] [.int .i64 0]) (h74 : Pure Try.prog 74 [rowsN g] [rowD up]) (h75 : Pure Try.prog 75 [rowsN g] [rowsN (intoOf g)]) (h78 : Pure Try.prog 78 [rowsN g] [.ro (intsN l)])
    (vo' v1' v2' w1' w2' v3' v4' v5' w3' w4' : Nat)
    (hl : ∀ (rest : Heap) (X : Fix), X.P = Try.prog → X.N = 126 → AW X (.loop (loopOf Try.prog 37 8)) ⟨envOf (lp8 up (intoOf g) 0 [] ord 0), ovl (e8 0 0 0 0 0 0 0 0 0 0) rest⟩ fun e' S' => e' = .exit 0 ∧ S' = ⟨envOf [(7, outA vo' res)], ovl (e8 vo' v1' v2' w1' w2' v3' v4' v5' w3' w4') rest⟩) :
    Pure Try.prog 37 [rowsN g] [.ro (res.map loopD), .int .i64 0] := by
  have hs : ∀ rest : Heap, HCall Try.prog 79 [.sl 51 (1 + l.length) 0 l.length 1] (ovl [(51, ⟨1 + l.length, some (.arr 1 (intsA l))⟩)] rest) [] (ovl [(51, ⟨1 + l.length, some (.arr 1 (intsA ord))⟩)] rest) := fun rest => by
    have ei : ∀ l : List Nat, (natR l).map dI = intsA l := fun l => by simp [intsA, dN, dI]
    have h1 := sortC (k := 51) (v := 1 + l.length) (zs := natR l) (by simpa using hne) (by simpa using hll) (h := ovl [(51, ⟨1 + l.length, some (.arr 1 (intsA l))⟩)] rest) (by simp [ovl, upd, ← ei])
    rw [hz, ei, List.length_map] at h1
    have e : upd (ovl [(51, ⟨1 + l.length, some (.arr 1 (intsA l))⟩)] rest) 51 ⟨1 + l.length, some (.arr 1 (intsA ord))⟩ = ovl [(51, ⟨1 + l.length, some (.arr 1 (intsA ord))⟩)] rest := by
      funext k
      simp only [ovl, upd]
      split <;> rfl
    rw [e] at h1
    exact h1
  exact pure_of_run okP named { hp := fun f => Nat.beq f 77, nils2 := fun f q => if f = 113 then (if q = 0 then [⟨0, 0, 51, 1, true, true⟩] else []) else if f = 37 then (if q = 7 then [⟨0, 7, 53, 2, true, false⟩] else []) else [], calls := fun f s _ => if f = 76 then (if s = 7 then some ⟨79, _, _, _, _, fits_of hs⟩ else none) else none, weaks := fun f q => if f = 76 then (if q = 3 then some (wN 3 51 l.length ord hl2.symm) else none) else none, loops := fun f q => if f = 103 then (if q = 1 then some ⟨16, loopOf Try.prog 103 1, clL l l.length 0, fun _ => clE [] 0, .exit 0, [], fun _ => clE l l.length, clLoop l hll⟩ else none) else if f = 37 then (if q = 8 then some ⟨126, loopOf Try.prog 37 8, lp8 up (intoOf g) 0 [] ord 0, fun _ => e8 0 0 0 0 0 0 0 0 0 0, .exit 0, [(7, outA vo' res)], fun _ => e8 vo' v1' v2' w1' w2' v3' v4' v5' w3' w4', hl⟩ else none) else none, hint := tabH Try.prog [(37, 20, .call 73 _ _ hc), (37, 25, .call 74 _ _ h74), (37, 27, .call 75 _ _ h75), (37, 29, .call 78 _ _ h78), (103, 6, .val (dN (intsN l).length) (dN l.length) (by rw [intsN_len])), (37, 32, .val (dN (intsN ord).length) (dN ord.length) (by rw [intsN_len]))] } 2000 (by kernel_rfl)
end Go.Avm
/-
  Flow: Loops for every graph; the document's examples.
-/
set_option linter.unusedSectionVars false
namespace Go.Avm
open Go.Proofs Go.Avm.Dom

theorem row_nat {n : Nat} : ∀ {r : List Int}, okR n r = true → ∃ l : List Nat, r = natR l ∧ ∀ b ∈ l, b < n
  | [], _ => ⟨[], rfl, fun _ h => by cases h⟩
  | x :: r, h => by
    unfold okR at h
    simp only [List.all_cons, Bool.and_eq_true, decide_eq_true_eq] at h
    obtain ⟨l, rfl, hl⟩ := row_nat (n := n) (r := r) h.2
    obtain ⟨m, rfl⟩ : ∃ m : Nat, x = (m : Int) := ⟨x.toNat, by omega⟩
    refine ⟨m :: l, rfl, fun b hb => ?_⟩
    rcases List.mem_cons.1 hb with rfl | h2
    · omega
    · exact hl b h2
theorem rows_nat {n : Nat} : ∀ {gs : List (List Int)}, gs.all (okR n) = true → ∃ g : List (List Nat), gs = natG g ∧ ∀ l ∈ g, ∀ b ∈ l, b < n
  | [], _ => ⟨[], rfl, fun _ h => by cases h⟩
  | x :: r, h => by
    simp only [List.all_cons, Bool.and_eq_true] at h
    obtain ⟨l, rfl, hl⟩ := row_nat h.1
    obtain ⟨g, rfl, hg⟩ := rows_nat h.2
    refine ⟨l :: g, rfl, fun y hy => ?_⟩
    rcases List.mem_cons.1 hy with rfl | h2
    · exact hl
    · exact hg y h2
theorem nat_of_ok {gs : List (List Int)} (h : okG gs = true) : ∃ g : Graph, gs = natG g ∧ Valid g := by
  obtain ⟨g, rfl, hg⟩ := rows_nat h
  exact ⟨g, rfl, fun l hl b hb => by have := hg l hl b hb; simpa [natG] using this⟩
theorem ok_nat {g : Graph} (hg : Valid g) : okG (natG g) = true := by
  unfold okG okR
  rw [List.all_eq_true]
  intro r hr
  obtain ⟨l, hl, rfl⟩ := List.mem_map.1 hr
  rw [List.all_eq_true]
  intro b hb
  obtain ⟨m, hm, rfl⟩ := List.mem_map.1 hb
  have := hg l hl m hm
  have e : (natG g).length = g.length := by simp [natG]
  simp only [decide_eq_true_eq, e]
  omega
theorem succ_len {g : Graph} (hg : ∀ l ∈ g, l.length < 1000000000) (a : Nat) : (succ g a).length < 1000000000 := by
  unfold succ
  rw [List.getD_eq_getElem?_getD]
  cases h : g[a]? with
  | none => simp
  | some l => exact hg l (List.mem_of_getElem? h)
theorem rowsInto (g : Graph) : D.ro ((intoOf g).map rowN) = rowsN (intoOf g) := by
  simp [rowsN, rowsD, natG]
open Classical in
theorem loopsC {g : Graph} (hg : Valid g) (hgl : g.length ≤ 60000) (hr : ∀ l ∈ g, l.length < 1000000000) : Pure Try.prog 37 [rowsN g] [.ro ((loopsOf g).map loopD), .int .i64 0] := by
  have hsr := succ_len hr
  have hck : Pure Try.prog 73 [rowsN g] [.int .i64 0] := by
    have := check73 (natG g) (by simpa [natG] using hgl) (fun r hr' => by
      obtain ⟨l, hl, rfl⟩ := List.mem_map.1 hr'
      rw [List.length_map]
      exact hr l hl)
    rw [ok_nat hg] at this
    exact this
  obtain ⟨U, hU, hab⟩ := aboveC hg (by omega) hsr
  have hin := intoC hg (by omega) hsr
  have hor := orderC hg (by omega) hsr
  rcases Nat.eq_zero_or_pos g.length with h0 | h0
  · have : g = [] := List.length_eq_zero_iff.1 h0
    subst this
    exact loopsNil hck hab hin hor
  · have hp : ∀ v, v ∈ orderOf g ↔ v < g.length ∧ decide (Dom.Reached g v) = true := fun v => by
      rw [order_mem hg]
      constructor
      · rintro ⟨_, h⟩; exact ⟨Re.lt hg h h0, decide_eq_true h⟩
      · rintro ⟨_, h⟩; exact ⟨h0, of_decide_eq_true h⟩
    have hs := sort_eq (order_nodup hg) hp
    have hlen : (orderOf g).length = (ordOf g).length := by
      have h1 := congrArg List.length hs
      simp only [sortZ, List.length_mergeSort, List.length_map] at h1
      exact h1
    have hne : orderOf g ≠ [] := fun e => by
      have := (hp 0).2 ⟨h0, decide_eq_true (Re.refl (by simp))⟩
      rw [e] at this
      cases this
    have hml := reachN_le hg h0
    obtain ⟨a1, a2, a3, a4, a5, a6, a7, a8, a9, a10, hl⟩ := l8Loop hg h0 (by omega) hU _ 0 0 0 0 0 0 0 0 0 0 0 rfl (Nat.zero_le _)
    exact loopsRun (outL2 g (allO U)) (orderOf g) (by unfold reachN at hml; omega) hne (ordOf g) hs hlen (loopsOf g) hck hab (by rw [← rowsInto]; exact hin) hor a1 a2 a3 a4 a5 a6 a7 a8 a9 a10 (fun rest X hP hN => (hl rest X hP hN).aw)
/-! ### The document's examples -/
theorem re_closed {g : Graph} {but : Option Nat} {a : Nat} (p : Nat → Bool) (h0 : p a = true) (hs : ∀ x, p x = true → ∀ b ∈ succ g x, some b ≠ but → p b = true) {b : Nat} (h : Re g but a b) : p b = true := by
  induction h with
  | refl => exact h0
  | step _ h1 h2 ih => exact hs _ ih _ h1 h2
def g0 : Graph := [[1], [2, 3], [1], []]
theorem g0_valid : Valid g0 := by unfold Valid g0; decide
theorem re_shut {g : Graph} (hg : Valid g) {but : Option Nat} {a : Nat} (p : Nat → Bool) (h0 : p a = true) (hs : ∀ x, x < g.length → p x = true → ∀ b ∈ succ g x, some b ≠ but → p b = true) {b : Nat} (h : Re g but a b) : p b = true :=
  re_closed p h0 (fun x hx b hb => hs x (succ_lt hg hb).2 hx b hb) h
theorem g0_into : intoOf g0 = [[], [0, 2], [1], [1]] := by decide
theorem g0_r0 : Dom.Reached g0 0 := .refl (by simp)
theorem g0_r1 : Dom.Reached g0 1 := .step g0_r0 (by decide) (by simp)
theorem g0_r2 : Dom.Reached g0 2 := .step g0_r1 (by decide) (by simp)
theorem g0_r3 : Dom.Reached g0 3 := .step g0_r1 (by decide) (by simp)
theorem g0_d10 : ¬ Doms g0 1 0 := fun h => (h.2.2.resolve_left (by omega)) (.refl (by simp))
theorem g0_d21 : ¬ Doms g0 2 1 := fun h => (h.2.2.resolve_left (by omega)) (.step (.refl (by simp)) (show 1 ∈ succ g0 0 by decide) (by simp))
theorem g0_d31 : ¬ Doms g0 3 1 := fun h => (h.2.2.resolve_left (by omega)) (.step (.refl (by simp)) (show 1 ∈ succ g0 0 by decide) (by simp))
theorem g0_d12 : Doms g0 1 2 := ⟨g0_r1, g0_r2, .inr fun h => by
  have := re_shut g0_valid (fun x => decide (x = 0)) (by decide) (by decide) h
  simp at this⟩
theorem g0_b0 : backsOf g0 0 = [] := by unfold backsOf; rw [g0_into]; rfl
theorem g0_b1 : backsOf g0 1 = [2] := by unfold backsOf; rw [g0_into]; simp [g0_d10, g0_d12]
theorem g0_b2 : backsOf g0 2 = [] := by unfold backsOf; rw [g0_into]; simp [g0_d21]
theorem g0_b3 : backsOf g0 3 = [] := by unfold backsOf; rw [g0_into]; simp [g0_d31]
theorem g0_ord : ordOf g0 = [0, 1, 2, 3] := by
  unfold ordOf
  show (List.range 4).filter _ = _
  simp [List.range, List.range.loop, g0_r0, g0_r1, g0_r2, g0_r3]
theorem g0_at : loopAt g0 1 = [1, 2] := by
  unfold loopAt
  rw [g0_b1]
  have h0 : ¬ InL g0 1 [2] 0 := by
    rintro (h | ⟨t, ht, h⟩)
    · omega
    · rw [List.mem_singleton] at ht
      subst ht
      have := re_shut g0_valid (fun x => decide (x = 0)) (by decide) (by decide) h
      simp at this
  have h1 : InL g0 1 [2] 1 := .inl rfl
  have h2 : InL g0 1 [2] 2 := .inr ⟨2, by simp, .refl (by simp)⟩
  have h3 : ¬ InL g0 1 [2] 3 := by
    rintro (h | ⟨t, ht, h⟩)
    · omega
    · rw [List.mem_singleton] at ht
      subst ht
      have := re_shut g0_valid (fun x => decide (x = 3)) (by decide) (by decide) h
      simp at this
  show (List.range 4).filter _ = _
  simp [List.range, List.range.loop, h0, h1, h2, h3]
theorem g0_loops : loopsOf g0 = [(1, [1, 2])] := by
  unfold loopsOf loopsIn
  rw [g0_ord]
  simp [g0_b0, g0_b1, g0_b2, g0_b3, g0_at]
theorem loops0 : Pure Try.prog 37 [rowsN g0] [.ro [.agg [.int .i64 1, .ro [.int .i64 1, .int .i64 2]]], .int .i64 0] := by
  have h := loopsC g0_valid (by decide) (by decide)
  rw [g0_loops] at h
  exact h
theorem loops0' : Pure Try.prog 37 [.ro [.ro [.int .i64 1], .ro [.int .i64 2, .int .i64 3], .ro [.int .i64 1], .ro []]] [.ro [.agg [.int .i64 1, .ro [.int .i64 1, .int .i64 2]]], .int .i64 0] := loops0
end Go.Avm
/-
  Flow: awake.
-/
set_option linter.unusedSectionVars false
namespace Go.Avm
open Go.Proofs Go.Avm.Dom

theorem awake05 : Pure Try.prog 35 [] [.bool true] :=
  pure_of_run okP named { obm := fun f s => Nat.beq f 78, hint := tabH Try.prog [(35, 28, .call 37 _ _ loops0')] } 2000 (by kernel_rfl)
end Go.Avm
