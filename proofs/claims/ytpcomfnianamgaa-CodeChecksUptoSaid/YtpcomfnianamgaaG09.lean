/-
  Code, the reference: are a block's instructions right?
-/
import Derived.Test.YtpcomfnianamgaaG08
import Derived.Test.YtpcomfnianamgaaG07
set_option linter.unusedSectionVars false
namespace Go.Avm
open Go.Proofs Go.Avm.Dom
def sh1 (u : Nat → Nat) : Nat → Nat := fun j => u (j + 1)
section
variable (c : CodeR) (f : FunR) (g : Graph) (bi vb : Nat) (b : BlkR) (l : List InstR) (i : Nat) (x : InstR) (u : Nat → Nat)
theorem z45No (hi : l[i]? = some x) (a : Int) (mk : Bool) (hs : Pure Pg 88 [.int .u8 x.op] [.int .i64 a, .bool mk, .bool false]) : RW 437 (seqOf Pg 58 45) (fuI f g bi vb l i) (fuHI c f b vb u) .ret [(4, dB false)] (fuHI c f b vb (addL u [1])) := qS { hint := qT 58 [(219, hIxM Pg instD l i x hi), (224, .call 88 _ _ hs)] } 58 500437
theorem z45Phi (hi : l[i]? = some x) (a : Int) (mk : Bool) (hs : Pure Pg 88 [.int .u8 x.op] [.int .i64 a, .bool mk, .bool true]) (ho : (x.op == 45) = true) : RW 437 (seqOf Pg 58 45) (fuI f g bi vb l i) (fuHI c f b vb u) .ret [(4, dB false)] (fuHI c f b vb (addL u [1])) := qS { hint := qT 58 [(219, hIxM Pg instD l i x hi), (224, .call 88 _ _ hs), (233, qB ho)] } 58 500437
section
variable (hi : l[i]? = some x) (hl : i < 4000000) (a : Int) (mk : Bool) (hs : Pure Pg 88 [.int .u8 x.op] [.int .i64 a, .bool mk, .bool true]) (ho : (x.op == 45) = false) (u' : Nat → Nat)
include hi hl a mk hs ho u'
theorem z45Ok_true (h1 : RE 437 (seqOf Pg 58 49) (fuX f g bi vb l i (u 0 + 1) ++ [(23, dI a), (24, dB mk)]) (fuHX c f b vb x (u 0 + 1) (sh1 u)) (bE true) (bL (fuI f g bi vb l i) true) (fuHI c f b vb u')) : RW 437 (seqOf Pg 58 45) (fuI f g bi vb l i) (fuHI c f b vb u) (bE true) (bL (fuI f g bi vb l (i + 1)) true) (fuHI c f b vb u') := qS { seqs := qO 58 49 (qQ h1), hint := qT 58 [(219, hIxM Pg instD l i x hi), (224, .call 88 _ _ hs), (233, qB ho), (414, hSucc Pg i (by omega))] } 58 500437
theorem z45Ok_false (h1 : RE 437 (seqOf Pg 58 49) (fuX f g bi vb l i (u 0 + 1) ++ [(23, dI a), (24, dB mk)]) (fuHX c f b vb x (u 0 + 1) (sh1 u)) (bE false) (bL (fuI f g bi vb l i) false) (fuHI c f b vb u')) : RW 437 (seqOf Pg 58 45) (fuI f g bi vb l i) (fuHI c f b vb u) (bE false) (bL (fuI f g bi vb l (i + 1)) false) (fuHI c f b vb u') := qS { seqs := qO 58 49 (qQ h1), hint := qT 58 [(219, hIxM Pg instD l i x hi), (224, .call 88 _ _ hs), (233, qB ho)] } 58 500437
end
theorem fuIRound (hi : i < l.length) (u' : Nat → Nat) (h : RE 437 (seqOf Pg 58 45) (fuI f g bi vb l i) (fuHI c f b vb u) .normal (fuI f g bi vb l (i + 1)) (fuHI c f b vb u')) : RW 437 (lO 58 44) (fuI f g bi vb l i) (fuHI c f b vb u) .normal (fuI f g bi vb l (i + 1)) (fuHI c f b vb u') := qS { seqs := qO 58 45 (qQ h), hint := qT 58 [(217, qL hi)] } 58 500000
theorem fuIBad (hi : i < l.length) (u' : Nat → Nat) (h : RE 437 (seqOf Pg 58 45) (fuI f g bi vb l i) (fuHI c f b vb u) .ret [(4, dB false)] (fuHI c f b vb u')) : RW 437 (lO 58 44) (fuI f g bi vb l i) (fuHI c f b vb u) .ret [(4, dB false)] (fuHI c f b vb u') := qS { seqs := qO 58 45 (qQ h), hint := qT 58 [(217, qL hi)] } 58 500000
theorem fuIStop : RW 437 (lO 58 44) (fuI f g bi vb l l.length) (fuHI c f b vb u) (.exit 10) (fuC f g bi vb) (fuHI c f b vb u) := qS { hint := qT 58 [(217, qG l.length)] } 58 500000
end
def stopLen (c : CodeR) (x : InstR) : Nat := (c.stops.getD x.site.toNat []).length
noncomputable def instOk (c : CodeR) (f : FunR) (g : Graph) (bi i : Nat) (x : InstR) : Bool :=
 (shapeN x.op.toNat).2.2 && (!(x.op == 45) && tail49 c f g bi i x (stopLen c x) (trapsN x.op.toNat) (shapeN x.op.toNat).1 (shapeN x.op.toNat).2.1)
section
variable (c : CodeR) (f : FunR) (g : Graph) (bi vb : Nat) (b : BlkR) (l : List InstR) (i : Nat) (x : InstR) (u : Nat → Nat)
theorem instC (hf : fineF f) (hn : szF f < 500000000) (hm : May f g bi) (hi : l[i]? = some x) (hl : i < 4000000) (hx : x.small) (ho : byteZ x.op) : ∃ u', RE 437 (seqOf Pg 58 45) (fuI f g bi vb l i) (fuHI c f b vb u) (bE (instOk c f g bi i x)) (bL (fuI f g bi vb l (i + 1)) (instOk c f g bi i x)) (fuHI c f b vb u') := by
 obtain ⟨op, hop, hop'⟩ := byte_nat ho
 have hs := shape88 hop
 have ht := traps89 hop
 rw [← hop'] at hs ht
 have e0 : x.op.toNat = op := by omega
 unfold instOk
 rw [e0]
 cases h1 : (shapeN op).2.2 with
 | false =>
  rw [h1] at hs
  exact ⟨addL u [1], fun rest X hP hN => aw_to (z45No c f g bi vb b l i x u hi _ _ hs rest X hP hN)⟩
 | true =>
  rw [h1] at hs
  cases h2 : (x.op == 45) with
  | true => exact ⟨addL u [1], fun rest X hP hN => aw_to (z45Phi c f g bi vb b l i x u hi _ _ hs h2 rest X hP hN)⟩
  | false =>
   have key : Tail c f g bi vb b l i x (sh1 u) (u 0 + 1) 49 [(23, dI (shapeN op).1), (24, dB (shapeN op).2.1)] (tail49 c f g bi i x (stopLen c x) (trapsN op) (shapeN op).1 (shapeN op).2.1) := by
    refine z49 _ _ _ _ _ _ _ _ _ _ _ _ _ _ _ (z64 _ _ _ _ _ _ _ _ _ _ _ _ _ _ _ (z66 _ _ _ _ _ _ _ _ _ _ _ _ _ _ (madeC f x.dst hf hn) (fun u => z70 _ _ _ _ _ _ _ _ _ _ _ _ _ hx.1 hm (z76 _ _ _ _ _ _ _ _ _ _ _ _ _ (z77 _ _ _ _ _ _ _ _ _ _ _ _ _ _ ht (fun hsb => z79 _ _ _ _ _ _ _ _ _ _ _ _ _ (fun hst => ?_) (z81 _ _ _ _ _ _ _ _ _ _ _ _ hx.2 hm)))))))
    rw [hst, Bool.true_or, Bool.true_and] at hsb
    have hsb2 : 0 ≤ x.site ∧ x.site.toNat < c.stops.length := by
     simp only [siteBad, Bool.or_eq_false_iff, decide_eq_false_iff_not] at hsb
     omega
    have := knownC c f x c.stops[x.site.toNat] hx.2 hsb2.1 (get_of hsb2.2)
    rw [show stopLen c x = c.stops[x.site.toNat].length by unfold stopLen; rw [List.getD_eq_getElem?_getD, get_of hsb2.2]; rfl]
    exact this
   obtain ⟨u', hu⟩ := key
   refine ⟨u', fun rest X hP hN => aw_to ?_⟩
   generalize tail49 c f g bi i x (stopLen c x) (trapsN op) (shapeN op).1 (shapeN op).2.1 = ok at hu
   cases ok with
   | true => exact z45Ok_true c f g bi vb b l i x u hi hl _ _ hs h2 u' hu rest X hP hN
   | false => exact z45Ok_false c f g bi vb b l i x u hi hl _ _ hs h2 u' hu rest X hP hN
end
end Go.Avm
namespace Go.Avm
open Go.Proofs Go.Avm.Dom
noncomputable def fuP (f : FunR) (g : Graph) (bi vb : Nat) (l : List InstR) (m : Nat) : List (Nat × AV) := fuC f g bi vb ++ [(141, .d (instsD l)), (142, dN l.length), (143, dN m)]
noncomputable def fuQ (f : FunR) (g : Graph) (bi vb : Nat) (l : List InstR) (m : Nat) (x : InstR) (k : Nat) : List (Nat × AV) := fuP f g bi vb l m ++ [(183, .d (rowD x.args)), (184, dN x.args.length), (185, dN k)]
def fuHP (c : CodeR) (f : FunR) (b : BlkR) (vb : Nat) (u : Nat → Nat) : List (Nat × Ent) := fuH c f b vb ++ tm u [501326, 502638] 0
def fuHQ (c : CodeR) (f : FunR) (b : BlkR) (vb : Nat) (x : InstR) (vp : Nat) (u : Nat → Nat) : List (Nat × Ent) := fuH c f b vb ++ [(501326, ⟨vp, some (.arr 1 (cellsI x))⟩)] ++ tm u [502638] 0
noncomputable def phiArg (f : FunR) (g : Graph) (row : List Nat) (l : List Int) (k : Nat) : Bool := match l[k]? with
 | some a => mayR f g a (((row.getD k 0 : Nat) : Int), ((f.blocks.getD (row.getD k 0) ⟨[], [], 0, 0, 0, 0⟩).insts.length : Int))
 | none => true
noncomputable def phiArgs (f : FunR) (g : Graph) (row : List Nat) (l : List Int) : Bool := (List.range l.length).all (phiArg f g row l)
section
variable (c : CodeR) (f : FunR) (g : Graph) (bi vb : Nat) (b : BlkR) (l : List InstR) (m : Nat) (x : InstR) (u : Nat → Nat) (k : Nat) (row : List Nat) (a : Int) (p : Nat) (bp : BlkR)
section
variable (hk : k < x.args.length) (hl : x.args.length < 4000000) (hx : x.args[k]? = some a) (hrow : (intoOf g)[bi]? = some row) (hp : row[k]? = some p) (hbp : f.blocks[p]? = some bp)
include hk hl hx hrow hp hbp
theorem fuQ_true (hm : Pure Pg 87 [funD f, .ro (trD g), .int .i64 a, spotD ((p : Int), (bp.insts.length : Int))] [.bool true]) : RW 437 (lO 58 36) (fuQ f g bi vb l m x k) (fuHP c f b vb u) (bE true) (bL (fuQ f g bi vb l m x (k + 1)) true) (fuHP c f b vb u) := qS { hint := qT 58 [(186, qL hk), (188, hIx Pg x.args k a hx), (192, hIxM Pg rowN (intoOf g) bi row hrow), (195, hIxN Pg row k p hp), (204, hIxM Pg blkD f.blocks p bp hbp), (207, hLenM Pg instD bp.insts), (209, .call 87 _ _ hm), (211, hSucc Pg k (by omega))] } 58 500000
theorem fuQ_false (hm : Pure Pg 87 [funD f, .ro (trD g), .int .i64 a, spotD ((p : Int), (bp.insts.length : Int))] [.bool false]) : RW 437 (lO 58 36) (fuQ f g bi vb l m x k) (fuHP c f b vb u) (bE false) (bL (fuQ f g bi vb l m x (k + 1)) false) (fuHP c f b vb u) := qS { hint := qT 58 [(186, qL hk), (188, hIx Pg x.args k a hx), (192, hIxM Pg rowN (intoOf g) bi row hrow), (195, hIxN Pg row k p hp), (204, hIxM Pg blkD f.blocks p bp hbp), (207, hLenM Pg instD bp.insts), (209, .call 87 _ _ hm)] } 58 500000
end
theorem fuQStop : RW 437 (lO 58 36) (fuQ f g bi vb l m x x.args.length) (fuHP c f b vb u) (.exit 8) (fuP f g bi vb l m) (fuHP c f b vb u) := qS { hint := qT 58 [(186, qG x.args.length)] } 58 500000
def MayAll (f : FunR) (g : Graph) : Prop := ∀ p : Nat, p < f.blocks.length → May f g p
variable (hl : x.args.length < 4000000) (hrow : (intoOf g)[bi]? = some row) (hlen : x.args.length = row.length) (hpl : ∀ p ∈ row, p < f.blocks.length) (hm : MayAll f g)
include hl hrow hlen hpl hm
theorem fuQStep (k : Nat) (hk : k < x.args.length) (v : Bool) (hv : phiArg f g row x.args k = v) : RW 437 (lO 58 36) (fuQ f g bi vb l m x k) (fuHP c f b vb u) (bE v) (bL (fuQ f g bi vb l m x (k + 1)) v) (fuHP c f b vb u) := by
 intro rest X hP hN
 have hkr : k < row.length := by omega
 have hp := hpl _ (List.getElem_mem hkr)
 have h1 := hm row[k] hp x.args[k] (f.blocks[row[k]].insts.length : Int)
 have e : phiArg f g row x.args k = mayR f g x.args[k] ((row[k] : Int), (f.blocks[row[k]].insts.length : Int)) := by
  unfold phiArg
  rw [get_of hk]
  simp only [List.getD_eq_getElem?_getD, get_of hkr, Option.getD_some, get_of hp]
 rw [← e, hv] at h1
 cases v with
 | true => exact fuQ_true c f g bi vb b l m x u k row _ _ _ hk hl (get_of hk) hrow (get_of hkr) (get_of hp) h1 rest X hP hN
 | false => exact fuQ_false c f g bi vb b l m x u k row _ _ _ hk hl (get_of hk) hrow (get_of hkr) (get_of hp) h1 rest X hP hN
theorem fuQGood (h : phiArgs f g row x.args = true) : RE 437 (.loop (lO 58 36)) (fuQ f g bi vb l m x 0) (fuHP c f b vb u) (.exit 8) (fuP f g bi vb l m) (fuHP c f b vb u) := fun rest X hP hN =>
 (lw_count x.args.length (fun k => ⟨envOf (fuQ f g bi vb l m x k), ovl (fuHP c f b vb u) rest⟩) (by simp) (fun k hk => fuQStep c f g bi vb b l m x u row hl hrow hlen hpl hm k hk true (List.all_eq_true.1 h k (List.mem_range.2 hk)) rest X hP hN) (fuQStop c f g bi vb b l m x u rest X hP hN)).aw
theorem fuQFail (h : phiArgs f g row x.args = false) : RE 437 (.loop (lO 58 36)) (fuQ f g bi vb l m x 0) (fuHP c f b vb u) .ret [(4, dB false)] (fuHP c f b vb u) := by
 intro rest X hP hN
 rcases first_bad (phiArg f g row x.args) (List.range x.args.length) with h' | ⟨j, y, h1, h2, h3⟩
 ·unfold phiArgs at h; rw [h'] at h; cases h
 ·have hj : j < x.args.length := by have := (List.getElem?_eq_some_iff.1 h1).1; simpa using this
  have hjy : j = y := by simpa [List.getElem?_range hj] using h1
  subst hjy
  exact (lw_count j (fun k => ⟨envOf (fuQ f g bi vb l m x k), ovl (fuHP c f b vb u) rest⟩) (by simp [bE]) (fun k hk => fuQStep c f g bi vb b l m x u row hl hrow hlen hpl hm k (by omega) true (h3 k k hk (List.getElem?_range (by omega))) rest X hP hN) (fuQStep c f g bi vb b l m x u row hl hrow hlen hpl hm j hj false h2 rest X hP hN)).aw
end
end Go.Avm
namespace Go.Avm
open Go.Proofs Go.Avm.Dom
section
variable (c : CodeR) (f : FunR) (g : Graph) (bi vb : Nat) (b : BlkR) (l : List InstR) (m : Nat) (x : InstR) (u : Nat → Nat) (vp : Nat)
include c f g bi vb b l m x u vp
theorem z35G (hl : RE 437 (.loop (lO 58 36)) (fuQ f g bi vb l m x 0) (fuHP c f b vb (hx vp u)) (.exit 8) (fuP f g bi vb l m) (fuHP c f b vb (hx vp u))) : RW 437 (seqOf Pg 58 35) (fuP f g bi vb l m ++ [(15, .ptr 501326 vp 0 0 1)]) (fuHQ c f b vb x vp u) .normal (fuP f g bi vb l m) (fuHP c f b vb (hx vp u)) := qS { loops := qO 58 36 (qP hl), hint := qT 58 [(184, hLenM Pg intD x.args)] } 58 500000
theorem z35B (hl : RE 437 (.loop (lO 58 36)) (fuQ f g bi vb l m x 0) (fuHP c f b vb (hx vp u)) .ret ([(4, dB false)]) (fuHP c f b vb (hx vp u))) : RW 437 (seqOf Pg 58 35) (fuP f g bi vb l m ++ [(15, .ptr 501326 vp 0 0 1)]) (fuHQ c f b vb x vp u) .ret ([(4, dB false)]) (fuHP c f b vb (hx vp u)) := qS { loops := qO 58 36 (qP hl), hint := qT 58 [(184, hLenM Pg intD x.args)] } 58 500000
theorem z32Y_true (hm86 : Pure Pg 86 [funD f, .int .i64 x.dst] [spotD (lastP (hits f x.dst)), .int .i64 ((hits f x.dst).length : Int)]) (hc : (!(((hits f x.dst).length : Int) == 1)) = false) (u' : Nat → Nat) (h1 : RE 437 (seqOf Pg 58 35) (fuP f g bi vb l m ++ [(15, .ptr 501326 vp 0 0 1)]) (fuHQ c f b vb x vp (addL u [1])) (bE true) (bL (fuP f g bi vb l m) true) (fuHP c f b vb u')) : RW 437 (seqOf Pg 58 32) (fuP f g bi vb l m ++ [(15, .ptr 501326 vp 0 0 1)]) (fuHQ c f b vb x vp u) (bE true) (bL (fuP f g bi vb l m) true) (fuHP c f b vb u') := qS { seqs := qO 58 35 (qQ h1), hint := qT 58 [(177, .call 86 _ _ hm86), (181, qB hc)] } 58 500000
theorem z32Y_false (hm86 : Pure Pg 86 [funD f, .int .i64 x.dst] [spotD (lastP (hits f x.dst)), .int .i64 ((hits f x.dst).length : Int)]) (hc : (!(((hits f x.dst).length : Int) == 1)) = false) (u' : Nat → Nat) (h1 : RE 437 (seqOf Pg 58 35) (fuP f g bi vb l m ++ [(15, .ptr 501326 vp 0 0 1)]) (fuHQ c f b vb x vp (addL u [1])) (bE false) (bL (fuP f g bi vb l m) false) (fuHP c f b vb u')) : RW 437 (seqOf Pg 58 32) (fuP f g bi vb l m ++ [(15, .ptr 501326 vp 0 0 1)]) (fuHQ c f b vb x vp u) (bE false) (bL (fuP f g bi vb l m) false) (fuHP c f b vb u') := qS { seqs := qO 58 35 (qQ h1), hint := qT 58 [(177, .call 86 _ _ hm86), (181, qB hc)] } 58 500000
theorem z32B (hm86 : Pure Pg 86 [funD f, .int .i64 x.dst] [spotD (lastP (hits f x.dst)), .int .i64 ((hits f x.dst).length : Int)]) (hc : (!(((hits f x.dst).length : Int) == 1)) = true) : RW 437 (seqOf Pg 58 32) (fuP f g bi vb l m ++ [(15, .ptr 501326 vp 0 0 1)]) (fuHQ c f b vb x vp u) .ret ([(4, dB false)]) (fuHP c f b vb (hx vp (addL u [1]))) := qS { hint := qT 58 [(177, .call 86 _ _ hm86), (181, qB hc)] } 58 500000
end
def phiBad (f : FunR) (row : List Nat) (x : InstR) : Bool := ((!(x.op == 45)) || ((!((x.args.length : Int) == (row.length : Int))) || ((decide (x.dst < 0)) || (decide (f.vals ≤ x.dst)))))
section
variable (c : CodeR) (f : FunR) (g : Graph) (bi vb : Nat) (b : BlkR) (l : List InstR) (m : Nat) (x : InstR) (u : Nat → Nat) (vp : Nat) (row : List Nat) (hrow : (intoOf g)[bi]? = some row)
include c f g bi vb b l m x u vp row hrow
theorem z30_T1 (h_p : (!(x.op == 45)) = true) : RW 437 (seqOf Pg 58 30) (fuP f g bi vb l m ++ [(15, .ptr 501326 vp 0 0 1)]) (fuHQ c f b vb x vp u) .ret ([(4, dB false)]) (fuHP c f b vb (hx vp u)) := qS { hint := qT 58 [(149, qB h_p)] } 58 500000
theorem z30_T2 (h_p : (!(x.op == 45)) = false) (h_q : (!((x.args.length : Int) == (row.length : Int))) = true) : RW 437 (seqOf Pg 58 30) (fuP f g bi vb l m ++ [(15, .ptr 501326 vp 0 0 1)]) (fuHQ c f b vb x vp u) .ret ([(4, dB false)]) (fuHP c f b vb (hx vp u)) := qS { hint := qT 58 [(149, qB h_p), (153, hLenM Pg intD x.args), (156, hIxM Pg rowN (intoOf g) bi row hrow), (158, hLenN Pg row), (159, qB h_q)] } 58 500000
theorem z30_T3 (h_p : (!(x.op == 45)) = false) (h_q : (!((x.args.length : Int) == (row.length : Int))) = false) (h_r : (decide (x.dst < 0)) = true) : RW 437 (seqOf Pg 58 30) (fuP f g bi vb l m ++ [(15, .ptr 501326 vp 0 0 1)]) (fuHQ c f b vb x vp u) .ret ([(4, dB false)]) (fuHP c f b vb (hx vp u)) := qS { hint := qT 58 [(149, qB h_p), (153, hLenM Pg intD x.args), (156, hIxM Pg rowN (intoOf g) bi row hrow), (158, hLenN Pg row), (159, qB h_q), (164, qB h_r)] } 58 500000
theorem z30_T4 (h_p : (!(x.op == 45)) = false) (h_q : (!((x.args.length : Int) == (row.length : Int))) = false) (h_r : (decide (x.dst < 0)) = false) (h_s : (decide (f.vals ≤ x.dst)) = true) : RW 437 (seqOf Pg 58 30) (fuP f g bi vb l m ++ [(15, .ptr 501326 vp 0 0 1)]) (fuHQ c f b vb x vp u) .ret ([(4, dB false)]) (fuHP c f b vb (hx vp u)) := qS { hint := qT 58 [(149, qB h_p), (153, hLenM Pg intD x.args), (156, hIxM Pg rowN (intoOf g) bi row hrow), (158, hLenN Pg row), (159, qB h_q), (164, qB h_r), (171, qB h_s)] } 58 500000
theorem z30_T (h : ((!(x.op == 45)) || ((!((x.args.length : Int) == (row.length : Int))) || ((decide (x.dst < 0)) || (decide (f.vals ≤ x.dst))))) = true) : RW 437 (seqOf Pg 58 30) (fuP f g bi vb l m ++ [(15, .ptr 501326 vp 0 0 1)]) (fuHQ c f b vb x vp u) .ret ([(4, dB false)]) (fuHP c f b vb (hx vp u)) := by
 intro rest X hP hN
 cases h_p : (!(x.op == 45)) with
 | true =>
  exact z30_T1 c f g bi vb b l m x u vp row hrow  h_p rest X hP hN
 | false =>
  cases h_q : (!((x.args.length : Int) == (row.length : Int))) with
  | true =>
   exact z30_T2 c f g bi vb b l m x u vp row hrow  h_p h_q rest X hP hN
  | false =>
   cases h_r : (decide (x.dst < 0)) with
   | true =>
    exact z30_T3 c f g bi vb b l m x u vp row hrow  h_p h_q h_r rest X hP hN
   | false =>
    cases h_s : (decide (f.vals ≤ x.dst)) with
    | true =>
     exact z30_T4 c f g bi vb b l m x u vp row hrow  h_p h_q h_r h_s rest X hP hN
    | false =>
     simp [h_p, h_q, h_r, h_s] at h
theorem z30_true_F1 (u' : Nat → Nat) (h1 : RE 437 (seqOf Pg 58 32) (fuP f g bi vb l m ++ [(15, .ptr 501326 vp 0 0 1)]) (fuHQ c f b vb x vp u) (bE true) (bL (fuP f g bi vb l m) true) (fuHP c f b vb u')) (h_p : (!(x.op == 45)) = false) (h_q : (!((x.args.length : Int) == (row.length : Int))) = false) (h_r : (decide (x.dst < 0)) = false) (h_s : (decide (f.vals ≤ x.dst)) = false) : RW 437 (seqOf Pg 58 30) (fuP f g bi vb l m ++ [(15, .ptr 501326 vp 0 0 1)]) (fuHQ c f b vb x vp u) (bE true) (bL (fuP f g bi vb l m) true) (fuHP c f b vb u') := qS { seqs := qO 58 32 (qQ h1), hint := qT 58 [(149, qB h_p), (153, hLenM Pg intD x.args), (156, hIxM Pg rowN (intoOf g) bi row hrow), (158, hLenN Pg row), (159, qB h_q), (164, qB h_r), (171, qB h_s)] } 58 500000
theorem z30_true_F (u' : Nat → Nat) (h1 : RE 437 (seqOf Pg 58 32) (fuP f g bi vb l m ++ [(15, .ptr 501326 vp 0 0 1)]) (fuHQ c f b vb x vp u) (bE true) (bL (fuP f g bi vb l m) true) (fuHP c f b vb u')) (h : ((!(x.op == 45)) || ((!((x.args.length : Int) == (row.length : Int))) || ((decide (x.dst < 0)) || (decide (f.vals ≤ x.dst))))) = false) : RW 437 (seqOf Pg 58 30) (fuP f g bi vb l m ++ [(15, .ptr 501326 vp 0 0 1)]) (fuHQ c f b vb x vp u) (bE true) (bL (fuP f g bi vb l m) true) (fuHP c f b vb u') := by
 intro rest X hP hN
 cases h_p : (!(x.op == 45)) with
 | true =>
  simp [h_p] at h
 | false =>
  cases h_q : (!((x.args.length : Int) == (row.length : Int))) with
  | true =>
   simp [h_p, h_q] at h
  | false =>
   cases h_r : (decide (x.dst < 0)) with
   | true =>
    simp [h_p, h_q, h_r] at h
   | false =>
    cases h_s : (decide (f.vals ≤ x.dst)) with
    | true =>
     simp [h_p, h_q, h_r, h_s] at h
    | false =>
     exact z30_true_F1 c f g bi vb b l m x u vp row hrow u' h1  h_p h_q h_r h_s rest X hP hN
theorem z30_false_F1 (u' : Nat → Nat) (h1 : RE 437 (seqOf Pg 58 32) (fuP f g bi vb l m ++ [(15, .ptr 501326 vp 0 0 1)]) (fuHQ c f b vb x vp u) (bE false) (bL (fuP f g bi vb l m) false) (fuHP c f b vb u')) (h_p : (!(x.op == 45)) = false) (h_q : (!((x.args.length : Int) == (row.length : Int))) = false) (h_r : (decide (x.dst < 0)) = false) (h_s : (decide (f.vals ≤ x.dst)) = false) : RW 437 (seqOf Pg 58 30) (fuP f g bi vb l m ++ [(15, .ptr 501326 vp 0 0 1)]) (fuHQ c f b vb x vp u) (bE false) (bL (fuP f g bi vb l m) false) (fuHP c f b vb u') := qS { seqs := qO 58 32 (qQ h1), hint := qT 58 [(149, qB h_p), (153, hLenM Pg intD x.args), (156, hIxM Pg rowN (intoOf g) bi row hrow), (158, hLenN Pg row), (159, qB h_q), (164, qB h_r), (171, qB h_s)] } 58 500000
theorem z30_false_F (u' : Nat → Nat) (h1 : RE 437 (seqOf Pg 58 32) (fuP f g bi vb l m ++ [(15, .ptr 501326 vp 0 0 1)]) (fuHQ c f b vb x vp u) (bE false) (bL (fuP f g bi vb l m) false) (fuHP c f b vb u')) (h : ((!(x.op == 45)) || ((!((x.args.length : Int) == (row.length : Int))) || ((decide (x.dst < 0)) || (decide (f.vals ≤ x.dst))))) = false) : RW 437 (seqOf Pg 58 30) (fuP f g bi vb l m ++ [(15, .ptr 501326 vp 0 0 1)]) (fuHQ c f b vb x vp u) (bE false) (bL (fuP f g bi vb l m) false) (fuHP c f b vb u') := by
 intro rest X hP hN
 cases h_p : (!(x.op == 45)) with
 | true =>
  simp [h_p] at h
 | false =>
  cases h_q : (!((x.args.length : Int) == (row.length : Int))) with
  | true =>
   simp [h_p, h_q] at h
  | false =>
   cases h_r : (decide (x.dst < 0)) with
   | true =>
    simp [h_p, h_q, h_r] at h
   | false =>
    cases h_s : (decide (f.vals ≤ x.dst)) with
    | true =>
     simp [h_p, h_q, h_r, h_s] at h
    | false =>
     exact z30_false_F1 c f g bi vb b l m x u vp row hrow u' h1  h_p h_q h_r h_s rest X hP hN
end
section
variable (c : CodeR) (f : FunR) (g : Graph) (bi vb : Nat) (b : BlkR) (l : List InstR) (m : Nat) (x : InstR) (u : Nat → Nat) (hm : m < l.length) (hl : l.length < 4000000) (hx : l[m]? = some x) (u' : Nat → Nat)
include c f g bi vb b l m x u hm hl hx u'
theorem z29_true (h1 : RE 437 (seqOf Pg 58 30) (fuP f g bi vb l m ++ [(15, .ptr 501326 (u 0 + 1) 0 0 1)]) (fuHQ c f b vb x (u 0 + 1) (sh1 u)) (bE true) (bL (fuP f g bi vb l m) true) (fuHP c f b vb u')) : RW 437 (lO 58 28) (fuP f g bi vb l m) (fuHP c f b vb u) (bE true) (bL (fuP f g bi vb l (m + 1)) true) (fuHP c f b vb u') := qS { seqs := qO 58 30 (qQ h1), hint := qT 58 [(144, qL hm), (145, hIxM Pg instD l m x hx), (212, hSucc Pg m (by omega))] } 58 500000
theorem z29_false (h1 : RE 437 (seqOf Pg 58 30) (fuP f g bi vb l m ++ [(15, .ptr 501326 (u 0 + 1) 0 0 1)]) (fuHQ c f b vb x (u 0 + 1) (sh1 u)) (bE false) (bL (fuP f g bi vb l m) false) (fuHP c f b vb u')) : RW 437 (lO 58 28) (fuP f g bi vb l m) (fuHP c f b vb u) (bE false) (bL (fuP f g bi vb l (m + 1)) false) (fuHP c f b vb u') := qS { seqs := qO 58 30 (qQ h1), hint := qT 58 [(144, qL hm), (145, hIxM Pg instD l m x hx)] } 58 500000
end
theorem fuPStop (c : CodeR) (f : FunR) (g : Graph) (bi vb : Nat) (b : BlkR) (l : List InstR) (u : Nat → Nat) : RW 437 (lO 58 28) (fuP f g bi vb l l.length) (fuHP c f b vb u) (.exit 6) (fuC f g bi vb) (fuHP c f b vb u) := qS { hint := qT 58 [(144, qG l.length)] } 58 500000
noncomputable def phiOk (f : FunR) (g : Graph) (row : List Nat) (x : InstR) : Bool := !(phiBad f row x) && (!(!(((hits f x.dst).length : Int) == 1)) && phiArgs f g row x.args)
theorem phiC (c : CodeR) (f : FunR) (g : Graph) (bi vb : Nat) (b : BlkR) (l : List InstR) (m : Nat) (x : InstR) (u : Nat → Nat) (row : List Nat) (hf : fineF f) (hn : szF f < 500000000) (hrow : (intoOf g)[bi]? = some row) (hpl : ∀ p ∈ row, p < f.blocks.length) (hma : MayAll f g) (hx0 : x.small) (hm : m < l.length) (hl : l.length < 4000000) (hxm : l[m]? = some x) : ∃ u', RW 437 (lO 58 28) (fuP f g bi vb l m) (fuHP c f b vb u) (bE (phiOk f g row x)) (bL (fuP f g bi vb l (m + 1)) (phiOk f g row x)) (fuHP c f b vb u') := by
 have key : ∃ u', RE 437 (seqOf Pg 58 30) (fuP f g bi vb l m ++ [(15, .ptr 501326 (u 0 + 1) 0 0 1)]) (fuHQ c f b vb x (u 0 + 1) (sh1 u)) (bE (phiOk f g row x)) (bL (fuP f g bi vb l m) (phiOk f g row x)) (fuHP c f b vb u') := by
  have hm86 := madeC f x.dst hf hn
  unfold phiOk
  cases hb : phiBad f row x with
  | true => exact ⟨hx (u 0 + 1) (sh1 u), fun rest X hP hN => aw_to (z30_T c f g bi vb b l m x (sh1 u) (u 0 + 1) row hrow hb rest X hP hN)⟩
  | false =>
   have hlen : x.args.length = row.length := by
    simp only [phiBad, Bool.or_eq_false_iff] at hb
    have := hb.2.1
    simp at this
    omega
   cases hc : !(((hits f x.dst).length : Int) == 1) with
   | true =>
    have h32 := fun rest X hP hN => aw_to (z32B c f g bi vb b l m x (sh1 u) (u 0 + 1) hm86 hc rest X hP hN)
    exact ⟨_, fun rest X hP hN => aw_to (z30_false_F c f g bi vb b l m x (sh1 u) (u 0 + 1) row hrow (hx (u 0 + 1) (addL (sh1 u) [1])) h32 hb rest X hP hN)⟩
   | false =>
    cases ha : phiArgs f g row x.args with
    | true =>
     have h35 := fun rest X hP hN => aw_to (z35G c f g bi vb b l m x (addL (sh1 u) [1]) (u 0 + 1) (fun rest X hP hN => fuQGood c f g bi vb b l m x (hx (u 0 + 1) (addL (sh1 u) [1])) row hx0.1 hrow hlen hpl hma ha rest X hP hN) rest X hP hN)
     have h32 := fun rest X hP hN => aw_to (z32Y_true c f g bi vb b l m x (sh1 u) (u 0 + 1) hm86 hc (hx (u 0 + 1) (addL (sh1 u) [1])) h35 rest X hP hN)
     exact ⟨hx (u 0 + 1) (addL (sh1 u) [1]), fun rest X hP hN => aw_to (z30_true_F c f g bi vb b l m x (sh1 u) (u 0 + 1) row hrow (hx (u 0 + 1) (addL (sh1 u) [1])) h32 hb rest X hP hN)⟩
    | false =>
     have h35 := fun rest X hP hN => aw_to (z35B c f g bi vb b l m x (addL (sh1 u) [1]) (u 0 + 1) (fun rest X hP hN => fuQFail c f g bi vb b l m x (hx (u 0 + 1) (addL (sh1 u) [1])) row hx0.1 hrow hlen hpl hma ha rest X hP hN) rest X hP hN)
     have h32 := fun rest X hP hN => aw_to (z32Y_false c f g bi vb b l m x (sh1 u) (u 0 + 1) hm86 hc (hx (u 0 + 1) (addL (sh1 u) [1])) h35 rest X hP hN)
     exact ⟨hx (u 0 + 1) (addL (sh1 u) [1]), fun rest X hP hN => aw_to (z30_false_F c f g bi vb b l m x (sh1 u) (u 0 + 1) row hrow (hx (u 0 + 1) (addL (sh1 u) [1])) h32 hb rest X hP hN)⟩
 obtain ⟨u', hu⟩ := key
 refine ⟨u', fun rest X hP hN => ?_⟩
 generalize phiOk f g row x = ok at hu
 cases ok with
 | true => exact z29_true c f g bi vb b l m x u hm hl hxm u' hu rest X hP hN
 | false => exact z29_false c f g bi vb b l m x u hm hl hxm u' hu rest X hP hN
end Go.Avm
namespace Go.Avm
open Go.Proofs Go.Avm.Dom
def fuHC (c : CodeR) (f : FunR) (b : BlkR) (vb : Nat) (u : Nat → Nat) : List (Nat × Ent) := fuH c f b vb ++ tm u [501326, 502638, 501770, 503085, 501343] 0
noncomputable def endBad (f : FunR) (g : Graph) (bi : Nat) (b : BlkR) : Bool := (((b.fin == 2) || (b.fin == 3)) && (!mayR f g b.arg ((bi : Int), (b.insts.length : Int))))
section
variable (c : CodeR) (f : FunR) (g : Graph) (bi vb : Nat) (b : BlkR) (u : Nat → Nat) (hm : Pure Pg 87 [funD f, .ro (trD g), .int .i64 b.arg, spotD ((bi : Int), (b.insts.length : Int))] [.bool (mayR f g b.arg ((bi : Int), (b.insts.length : Int)))])
include c f g bi vb b u hm
theorem z88_T1 (h_p : (b.fin == 2) = true) (h_r : (!mayR f g b.arg ((bi : Int), (b.insts.length : Int))) = true) : RW 437 (seqOf Pg 58 88) (fuC f g bi vb) (fuHC c f b vb u) .ret ([(4, dB false)]) (fuHC c f b vb u) := qS { hint := qT 58 [(417, qB h_p), (431, hLenM Pg instD b.insts), (433, .call 87 _ _ hm), (434, qB h_r)] } 58 500000
theorem z88_T2 (h_p : (b.fin == 2) = false) (h_q : (b.fin == 3) = true) (h_r : (!mayR f g b.arg ((bi : Int), (b.insts.length : Int))) = true) : RW 437 (seqOf Pg 58 88) (fuC f g bi vb) (fuHC c f b vb u) .ret ([(4, dB false)]) (fuHC c f b vb u) := qS { hint := qT 58 [(417, qB h_p), (421, qB h_q), (431, hLenM Pg instD b.insts), (433, .call 87 _ _ hm), (434, qB h_r)] } 58 500000
theorem z88_T (h : (((b.fin == 2) || (b.fin == 3)) && (!mayR f g b.arg ((bi : Int), (b.insts.length : Int)))) = true) : RW 437 (seqOf Pg 58 88) (fuC f g bi vb) (fuHC c f b vb u) .ret ([(4, dB false)]) (fuHC c f b vb u) := by
 intro rest X hP hN
 cases h_p : (b.fin == 2) with
 | true =>
  cases h_r : (!mayR f g b.arg ((bi : Int), (b.insts.length : Int))) with
  | true =>
   exact z88_T1 c f g bi vb b u hm  h_p h_r rest X hP hN
  | false =>
   simp [h_p, h_r] at h
 | false =>
  cases h_q : (b.fin == 3) with
  | true =>
   cases h_r : (!mayR f g b.arg ((bi : Int), (b.insts.length : Int))) with
   | true =>
    exact z88_T2 c f g bi vb b u hm  h_p h_q h_r rest X hP hN
   | false =>
    simp [h_p, h_q, h_r] at h
  | false =>
   simp [h_p, h_q] at h
theorem z88_F1 (h_p : (b.fin == 2) = true) (h_r : (!mayR f g b.arg ((bi : Int), (b.insts.length : Int))) = false) : RW 437 (seqOf Pg 58 88) (fuC f g bi vb) (fuHC c f b vb u) .normal (fuB f g bi) (fuHC c f b vb u) := qS { hint := qT 58 [(417, qB h_p), (431, hLenM Pg instD b.insts), (433, .call 87 _ _ hm), (434, qB h_r)] } 58 500000
theorem z88_F2 (h_p : (b.fin == 2) = false) (h_q : (b.fin == 3) = true) (h_r : (!mayR f g b.arg ((bi : Int), (b.insts.length : Int))) = false) : RW 437 (seqOf Pg 58 88) (fuC f g bi vb) (fuHC c f b vb u) .normal (fuB f g bi) (fuHC c f b vb u) := qS { hint := qT 58 [(417, qB h_p), (421, qB h_q), (431, hLenM Pg instD b.insts), (433, .call 87 _ _ hm), (434, qB h_r)] } 58 500000
theorem z88_F3 (h_p : (b.fin == 2) = false) (h_q : (b.fin == 3) = false) : RW 437 (seqOf Pg 58 88) (fuC f g bi vb) (fuHC c f b vb u) .normal (fuB f g bi) (fuHC c f b vb u) := qS { hint := qT 58 [(417, qB h_p), (421, qB h_q)] } 58 500000
theorem z88_F (h : (((b.fin == 2) || (b.fin == 3)) && (!mayR f g b.arg ((bi : Int), (b.insts.length : Int)))) = false) : RW 437 (seqOf Pg 58 88) (fuC f g bi vb) (fuHC c f b vb u) .normal (fuB f g bi) (fuHC c f b vb u) := by
 intro rest X hP hN
 cases h_p : (b.fin == 2) with
 | true =>
  cases h_r : (!mayR f g b.arg ((bi : Int), (b.insts.length : Int))) with
  | true =>
   simp [h_p, h_r] at h
  | false =>
   exact z88_F1 c f g bi vb b u hm  h_p h_r rest X hP hN
 | false =>
  cases h_q : (b.fin == 3) with
  | true =>
   cases h_r : (!mayR f g b.arg ((bi : Int), (b.insts.length : Int))) with
   | true =>
    simp [h_p, h_q, h_r] at h
   | false =>
    exact z88_F2 c f g bi vb b u hm  h_p h_q h_r rest X hP hN
  | false =>
   exact z88_F3 c f g bi vb b u hm  h_p h_q rest X hP hN
end
section
variable (c : CodeR) (f : FunR) (g : Graph) (bi vb : Nat) (b : BlkR) (u : Nat → Nat)
include c f g bi vb b u
theorem z88 (hm : May f g bi) : ∃ u', RE 437 (seqOf Pg 58 88) (fuC f g bi vb) (fuHC c f b vb u) (bE (!(endBad f g bi b))) (bL (fuB f g bi) (!(endBad f g bi b))) (fuHC c f b vb u') := by
 refine ⟨u, fun rest X hP hN => aw_to ?_⟩
 cases h : endBad f g bi b with
 | true => exact z88_T c f g bi vb b u (hm _ _) h rest X hP hN
 | false => exact z88_F c f g bi vb b u (hm _ _) h rest X hP hN
theorem z43G_true (uo : Nat → Nat) (hl : RE 437 (.loop (lO 58 44)) (fuI f g bi vb b.insts 0) (fuHI c f b vb (sh1 (sh1 u))) (.exit 10) (fuC f g bi vb) (fuHI c f b vb uo)) (u' : Nat → Nat) (h1 : RE 437 (seqOf Pg 58 88) (fuC f g bi vb) (fuHC c f b vb (fun j => if j = 0 then u 0 else if j = 1 then u 1 else uo (j - 2))) (bE true) (bL (fuB f g bi) true) (fuHC c f b vb u')) : RW 437 (seqOf Pg 58 43) (fuC f g bi vb) (fuHC c f b vb u) (bE true) (bL (fuB f g bi) true) (fuHC c f b vb u') := qS { loops := qO 58 44 (qP hl), seqs := qO 58 88 (qQ h1), hint := qT 58 [(215, hLenM Pg instD b.insts)] } 58 500000
theorem z43G_false (uo : Nat → Nat) (hl : RE 437 (.loop (lO 58 44)) (fuI f g bi vb b.insts 0) (fuHI c f b vb (sh1 (sh1 u))) (.exit 10) (fuC f g bi vb) (fuHI c f b vb uo)) (u' : Nat → Nat) (h1 : RE 437 (seqOf Pg 58 88) (fuC f g bi vb) (fuHC c f b vb (fun j => if j = 0 then u 0 else if j = 1 then u 1 else uo (j - 2))) (bE false) (bL (fuB f g bi) false) (fuHC c f b vb u')) : RW 437 (seqOf Pg 58 43) (fuC f g bi vb) (fuHC c f b vb u) (bE false) (bL (fuB f g bi) false) (fuHC c f b vb u') := qS { loops := qO 58 44 (qP hl), seqs := qO 58 88 (qQ h1), hint := qT 58 [(215, hLenM Pg instD b.insts)] } 58 500000
theorem z43B (uo : Nat → Nat) (hl : RE 437 (.loop (lO 58 44)) (fuI f g bi vb b.insts 0) (fuHI c f b vb (sh1 (sh1 u))) .ret ([(4, dB false)]) (fuHI c f b vb uo)) : RW 437 (seqOf Pg 58 43) (fuC f g bi vb) (fuHC c f b vb u) .ret ([(4, dB false)]) (fuHC c f b vb (fun j => if j = 0 then u 0 else if j = 1 then u 1 else uo (j - 2))) := qS { loops := qO 58 44 (qP hl), hint := qT 58 [(215, hLenM Pg instD b.insts)] } 58 500000
theorem z27G_true (uo : Nat → Nat) (hl : RE 437 (.loop (lO 58 28)) (fuP f g bi vb b.phis 0) (fuHP c f b vb u) (.exit 6) (fuC f g bi vb) (fuHP c f b vb uo)) (u' : Nat → Nat) (h1 : RE 437 (seqOf Pg 58 43) (fuC f g bi vb) (fuHC c f b vb (fun j => if j = 0 then uo 0 else if j = 1 then uo 1 else u j)) (bE true) (bL (fuB f g bi) true) (fuHC c f b vb u')) : RW 437 (seqOf Pg 58 27) (fuC f g bi vb) (fuHC c f b vb u) (bE true) (bL (fuB f g bi) true) (fuHC c f b vb u') := qS { loops := qO 58 28 (qP hl), seqs := qO 58 43 (qQ h1), hint := qT 58 [(142, hLenM Pg instD b.phis)] } 58 500000
theorem z27G_false (uo : Nat → Nat) (hl : RE 437 (.loop (lO 58 28)) (fuP f g bi vb b.phis 0) (fuHP c f b vb u) (.exit 6) (fuC f g bi vb) (fuHP c f b vb uo)) (u' : Nat → Nat) (h1 : RE 437 (seqOf Pg 58 43) (fuC f g bi vb) (fuHC c f b vb (fun j => if j = 0 then uo 0 else if j = 1 then uo 1 else u j)) (bE false) (bL (fuB f g bi) false) (fuHC c f b vb u')) : RW 437 (seqOf Pg 58 27) (fuC f g bi vb) (fuHC c f b vb u) (bE false) (bL (fuB f g bi) false) (fuHC c f b vb u') := qS { loops := qO 58 28 (qP hl), seqs := qO 58 43 (qQ h1), hint := qT 58 [(142, hLenM Pg instD b.phis)] } 58 500000
theorem z27B (uo : Nat → Nat) (hl : RE 437 (.loop (lO 58 28)) (fuP f g bi vb b.phis 0) (fuHP c f b vb u) .ret ([(4, dB false)]) (fuHP c f b vb uo)) : RW 437 (seqOf Pg 58 27) (fuC f g bi vb) (fuHC c f b vb u) .ret ([(4, dB false)]) (fuHC c f b vb (fun j => if j = 0 then uo 0 else if j = 1 then uo 1 else u j)) := qS { loops := qO 58 28 (qP hl), hint := qT 58 [(142, hLenM Pg instD b.phis)] } 58 500000
end
noncomputable def instAt (c : CodeR) (f : FunR) (g : Graph) (bi : Nat) (l : List InstR) (i : Nat) : Bool := match l[i]? with
 | some x => instOk c f g bi i x
 | none => true
noncomputable def instsOk (c : CodeR) (f : FunR) (g : Graph) (bi : Nat) (l : List InstR) : Bool := (List.range l.length).all (instAt c f g bi l)
noncomputable def phisOk (f : FunR) (g : Graph) (row : List Nat) (l : List InstR) : Bool := l.all (phiOk f g row)
def wfIs (l : List InstR) : Prop := ∀ x ∈ l, byteZ x.op
section
variable (c : CodeR) (f : FunR) (g : Graph) (bi vb : Nat) (b : BlkR) (l : List InstR) (hf : fineF f) (hn : szF f < 500000000) (hs : smallIs l)
include hf hn hs
theorem instStep (hm : May f g bi) (hw : wfIs l) (i : Nat) (hi : i < l.length) (ok : Bool) (ho : instAt c f g bi l i = ok) (u : Nat → Nat) : ∃ u', RE 437 (seqOf Pg 58 45) (fuI f g bi vb l i) (fuHI c f b vb u) (bE ok) (bL (fuI f g bi vb l (i + 1)) ok) (fuHI c f b vb u') := by
 unfold instAt at ho
 rw [get_of hi] at ho
 subst ho
 exact instC c f g bi vb b l i l[i] u hf hn hm (get_of hi) (by have := hs.1; omega) (hs.2 _ (List.getElem_mem hi)) (hw _ (List.getElem_mem hi))
theorem instLoop (hm : May f g bi) (hw : wfIs l) (h : instsOk c f g bi l = true) (u : Nat → Nat) : ∃ u', RE 437 (.loop (lO 58 44)) (fuI f g bi vb l 0) (fuHI c f b vb u) (.exit 10) (fuC f g bi vb) (fuHI c f b vb u') :=
 lw_ver (P := Pg) (N := 437) (c := loopOf Pg 58 44) l.length (fun i u rest => ⟨envOf (fuI f g bi vb l i), ovl (fuHI c f b vb u) rest⟩) (fun u rest => ⟨envOf (fuC f g bi vb), ovl (fuHI c f b vb u) rest⟩) (e := .exit 10) (by simp)
  (fun i hi u => by
   obtain ⟨u', hu⟩ := instStep c f g bi vb b l hf hn hs hm hw i hi true (List.all_eq_true.1 h i (List.mem_range.2 hi)) u
   exact ⟨u', fun rest X hP hN => fuIRound c f g bi vb b l i u hi u' hu rest X hP hN⟩)
  (fun u => ⟨u, fun rest X hP hN => fuIStop c f g bi vb b l u rest X hP hN⟩) u
theorem instFail (hm : May f g bi) (hw : wfIs l) (h : instsOk c f g bi l = false) (u : Nat → Nat) : ∃ u', RE 437 (.loop (lO 58 44)) (fuI f g bi vb l 0) (fuHI c f b vb u) .ret [(4, dB false)] (fuHI c f b vb u') := by
 rcases first_bad (instAt c f g bi l) (List.range l.length) with h' | ⟨j, y, h1, h2, h3⟩
 ·unfold instsOk at h; rw [h'] at h; cases h
 ·have hj : j < l.length := by have := (List.getElem?_eq_some_iff.1 h1).1; simpa using this
  have hjy : j = y := by simpa [List.getElem?_range hj] using h1
  subst hjy
  exact lw_ver (P := Pg) (N := 437) (c := loopOf Pg 58 44) j (fun i u rest => ⟨envOf (fuI f g bi vb l i), ovl (fuHI c f b vb u) rest⟩) (fun u rest => ⟨envOf [(4, dB false)], ovl (fuHI c f b vb u) rest⟩) (e := .ret) (by simp)
   (fun i hi u => by
    obtain ⟨u', hu⟩ := instStep c f g bi vb b l hf hn hs hm hw i (by omega) true (h3 i i hi (List.getElem?_range (by omega))) u
    exact ⟨u', fun rest X hP hN => fuIRound c f g bi vb b l i u (by omega) u' hu rest X hP hN⟩)
   (fun u => by
    obtain ⟨u', hu⟩ := instStep c f g bi vb b l hf hn hs hm hw j hj false h2 u
    exact ⟨u', fun rest X hP hN => fuIBad c f g bi vb b l j u hj u' hu rest X hP hN⟩) u
variable (row : List Nat) (hrow : (intoOf g)[bi]? = some row) (hpl : ∀ p ∈ row, p < f.blocks.length) (hma : MayAll f g)
include hrow hpl hma
theorem phiLoop (h : phisOk f g row l = true) (u : Nat → Nat) : ∃ u', RE 437 (.loop (lO 58 28)) (fuP f g bi vb l 0) (fuHP c f b vb u) (.exit 6) (fuC f g bi vb) (fuHP c f b vb u') :=
 lw_ver (P := Pg) (N := 437) (c := loopOf Pg 58 28) l.length (fun i u rest => ⟨envOf (fuP f g bi vb l i), ovl (fuHP c f b vb u) rest⟩) (fun u rest => ⟨envOf (fuC f g bi vb), ovl (fuHP c f b vb u) rest⟩) (e := .exit 6) (by simp)
  (fun i hi u => by
   have := phiC c f g bi vb b l i l[i] u row hf hn hrow hpl hma (hs.2 _ (List.getElem_mem hi)) hi hs.1 (get_of hi)
   rw [List.all_eq_true.1 h _ (List.getElem_mem hi)] at this
   exact this)
  (fun u => ⟨u, fun rest X hP hN => fuPStop c f g bi vb b l u rest X hP hN⟩) u
theorem phiFail (h : phisOk f g row l = false) (u : Nat → Nat) : ∃ u', RE 437 (.loop (lO 58 28)) (fuP f g bi vb l 0) (fuHP c f b vb u) .ret [(4, dB false)] (fuHP c f b vb u') := by
 rcases first_bad (phiOk f g row) l with h' | ⟨j, y, h1, h2, h3⟩
 ·unfold phisOk at h; rw [h'] at h; cases h
 ·have hj : j < l.length := (List.getElem?_eq_some_iff.1 h1).1
  refine lw_ver (P := Pg) (N := 437) (c := loopOf Pg 58 28) j (fun i u rest => ⟨envOf (fuP f g bi vb l i), ovl (fuHP c f b vb u) rest⟩) (fun u rest => ⟨envOf [(4, dB false)], ovl (fuHP c f b vb u) rest⟩) (e := .ret) (by simp)
   (fun i hi u => ?_) (fun u => ?_) u
  ·have := phiC c f g bi vb b l i (l[i]'(by omega)) u row hf hn hrow hpl hma (hs.2 _ (List.getElem_mem (by omega))) (by omega) hs.1 (get_of (by omega))
   rw [h3 i _ hi (get_of (by omega))] at this
   exact this
  ·have := phiC c f g bi vb b l j y u row hf hn hrow hpl hma (hs.2 _ (List.mem_of_getElem? h1)) hj hs.1 h1
   rw [h2] at this
   exact this
end
end Go.Avm
namespace Go.Avm
open Go.Proofs Go.Avm.Dom
noncomputable def blkOk (c : CodeR) (f : FunR) (g : Graph) (bi : Nat) (row : List Nat) (b : BlkR) : Bool := phisOk f g row b.phis && (instsOk c f g bi b.insts && !(endBad f g bi b))
def fuHB (c : CodeR) (f : FunR) (u : Nat → Nat) : List (Nat × Ent) := [(2, ⟨1, some (.arr 1 (boxC c))⟩), (440, ⟨1, some (.arr 1 (cellsF f))⟩)] ++ tm u [501761, 501326, 502638, 501770, 503085, 501343] 0
section
variable (c : CodeR) (f : FunR) (g : Graph) (bi vb : Nat) (b : BlkR) (u : Nat → Nat)
theorem blkTail (row : List Nat) (hf : fineF f) (hn : szF f < 500000000) (hb : b ∈ f.blocks) (hw : wfIs b.insts) (hrow : (intoOf g)[bi]? = some row) (hpl : ∀ p ∈ row, p < f.blocks.length) (hma : MayAll f g) (hbi : bi < f.blocks.length) : ∃ u', RE 437 (seqOf Pg 58 27) (fuC f g bi vb) (fuHC c f b vb u) (bE (blkOk c f g bi row b)) (bL (fuB f g bi) (blkOk c f g bi row b)) (fuHC c f b vb u') := by
 obtain ⟨hp, hi⟩ := hf.2 b hb
 have hm := hma bi hbi
 unfold blkOk
 cases h1 : phisOk f g row b.phis with
 | false =>
  obtain ⟨uo, ho⟩ := phiFail c f g bi vb b b.phis hf hn hp row hrow hpl hma h1 u
  exact ⟨_, fun rest X hP hN => aw_to (z27B c f g bi vb b u uo ho rest X hP hN)⟩
 | true =>
  obtain ⟨uo, ho⟩ := phiLoop c f g bi vb b b.phis hf hn hp row hrow hpl hma h1 u
  have key : ∀ u, ∃ u', RE 437 (seqOf Pg 58 43) (fuC f g bi vb) (fuHC c f b vb u) (bE (instsOk c f g bi b.insts && !(endBad f g bi b))) (bL (fuB f g bi) (instsOk c f g bi b.insts && !(endBad f g bi b))) (fuHC c f b vb u') := by
   intro u
   cases h2 : instsOk c f g bi b.insts with
   | false =>
    obtain ⟨ui, hi'⟩ := instFail c f g bi vb b b.insts hf hn hi hm hw h2 (sh1 (sh1 u))
    exact ⟨_, fun rest X hP hN => aw_to (z43B c f g bi vb b u ui hi' rest X hP hN)⟩
   | true =>
    obtain ⟨ui, hi'⟩ := instLoop c f g bi vb b b.insts hf hn hi hm hw h2 (sh1 (sh1 u))
    obtain ⟨ue, he⟩ := z88 c f g bi vb b (fun j => if j = 0 then u 0 else if j = 1 then u 1 else ui (j - 2)) hm
    refine ⟨ue, fun rest X hP hN => aw_to ?_⟩
    rw [Bool.true_and]
    generalize (!(endBad f g bi b)) = ok at he
    cases ok with
    | true => exact z43G_true c f g bi vb b u ui hi' ue he rest X hP hN
    | false => exact z43G_false c f g bi vb b u ui hi' ue he rest X hP hN
  obtain ⟨uk, hk⟩ := key (fun j => if j = 0 then uo 0 else if j = 1 then uo 1 else u j)
  refine ⟨uk, fun rest X hP hN => aw_to ?_⟩
  rw [Bool.true_and]
  generalize (instsOk c f g bi b.insts && !(endBad f g bi b)) = ok at hk
  cases ok with
  | true => exact z27G_true c f g bi vb b u uo ho uk hk rest X hP hN
  | false => exact z27G_false c f g bi vb b u uo ho uk hk rest X hP hN
theorem blkRound_true (hb : bi < f.blocks.length) (hl : f.blocks.length < 4000000) (hxb : f.blocks[bi]? = some b) (u' : Nat → Nat) (h1 : RE 437 (seqOf Pg 58 27) (fuC f g bi (u 0 + 1)) (fuHC c f b (u 0 + 1) (sh1 u)) (bE true) (bL (fuB f g bi) true) (fuHC c f b (u 0 + 1) u')) : RW 437 (lO 58 25) (fuB f g bi) (fuHB c f u) (bE true) (bL (fuB f g (bi + 1)) true) (fuHB c f (hx (u 0 + 1) u')) := qS { seqs := qO 58 27 (qQ h1), hint := qT 58 [(136, qL hb), (138, hIxM Pg blkD f.blocks bi b hxb), (436, hSucc Pg bi (by omega))] } 58 500000
theorem blkRound_false (hb : bi < f.blocks.length) (hl : f.blocks.length < 4000000) (hxb : f.blocks[bi]? = some b) (u' : Nat → Nat) (h1 : RE 437 (seqOf Pg 58 27) (fuC f g bi (u 0 + 1)) (fuHC c f b (u 0 + 1) (sh1 u)) (bE false) (bL (fuB f g bi) false) (fuHC c f b (u 0 + 1) u')) : RW 437 (lO 58 25) (fuB f g bi) (fuHB c f u) (bE false) (bL (fuB f g (bi + 1)) false) (fuHB c f (hx (u 0 + 1) u')) := qS { seqs := qO 58 27 (qQ h1), hint := qT 58 [(136, qL hb), (138, hIxM Pg blkD f.blocks bi b hxb)] } 58 500000
theorem blkStop : RW 437 (lO 58 25) (fuB f g f.blocks.length) (fuHB c f u) (.exit 4) [] (fuHB c f u) := qS { hint := qT 58 [(136, qG f.blocks.length)] } 58 500000
end
noncomputable def blkAt (c : CodeR) (f : FunR) (g : Graph) (bi : Nat) : Bool := match f.blocks[bi]? with
 | some b => blkOk c f g bi ((intoOf g).getD bi []) b
 | none => true
noncomputable def blksOk (c : CodeR) (f : FunR) (g : Graph) : Bool := (List.range f.blocks.length).all (blkAt c f g)
def wfF (f : FunR) : Prop := ∀ b ∈ f.blocks, wfIs b.phis ∧ wfIs b.insts ∧ byteZ b.fin
theorem mayAll (f : FunR) (g : Graph) (hf : fineF f) (hn : szF f < 500000000) (hg : g.length = f.blocks.length) : MayAll f g := fun p hp v j => mayC f g v ((p : Int), j) hf hn hg p rfl hp
section
variable (c : CodeR) (f : FunR) (g : Graph) (hf : fineF f) (hn : szF f < 500000000) (hg : g.length = f.blocks.length) (hw : wfF f)
include hf hn hg hw
theorem blkStep (bi : Nat) (hb : bi < f.blocks.length) (ok : Bool) (ho : blkAt c f g bi = ok) (u : Nat → Nat) : ∃ u', RW 437 (lO 58 25) (fuB f g bi) (fuHB c f u) (bE ok) (bL (fuB f g (bi + 1)) ok) (fuHB c f u') := by
 have hil : (intoOf g).length = g.length := by simp [intoOf]
 have hrow : (intoOf g)[bi]? = some ((intoOf g).getD bi []) := by
  rw [List.getD_eq_getElem?_getD, get_of (by omega)]
  rfl
 have hpl : ∀ p ∈ (intoOf g).getD bi [], p < f.blocks.length := fun p hp => by
  have h1 := List.mem_of_getElem? hrow
  generalize (intoOf g).getD bi [] = row at h1 hp
  unfold intoOf at h1
  obtain ⟨q, _, rfl⟩ := List.mem_map.1 h1
  have := List.mem_range.1 (List.mem_filter.1 hp).1
  omega
 unfold blkAt at ho
 rw [get_of hb] at ho
 simp only at ho
 obtain ⟨u', hu⟩ := blkTail c f g bi (u 0 + 1) f.blocks[bi] (sh1 u) _ hf hn (List.getElem_mem hb) (hw _ (List.getElem_mem hb)).2.1 hrow hpl (mayAll f g hf hn hg) hb
 rw [ho] at hu
 cases ok with
 | true => exact ⟨_, fun rest X hP hN => blkRound_true c f g bi f.blocks[bi] u hb hf.1 (get_of hb) u' hu rest X hP hN⟩
 | false => exact ⟨_, fun rest X hP hN => blkRound_false c f g bi f.blocks[bi] u hb hf.1 (get_of hb) u' hu rest X hP hN⟩
theorem blkLoop (h : blksOk c f g = true) (u : Nat → Nat) : ∃ u', RE 437 (.loop (lO 58 25)) (fuB f g 0) (fuHB c f u) (.exit 4) [] (fuHB c f u') :=
 lw_ver (P := Pg) (N := 437) (c := loopOf Pg 58 25) f.blocks.length (fun i u rest => ⟨envOf (fuB f g i), ovl (fuHB c f u) rest⟩) (fun u rest => ⟨envOf [], ovl (fuHB c f u) rest⟩) (e := .exit 4) (by simp)
  (fun i hi u => blkStep c f g hf hn hg hw i hi true (List.all_eq_true.1 h i (List.mem_range.2 hi)) u)
  (fun u => ⟨u, fun rest X hP hN => blkStop c f g u rest X hP hN⟩) u
theorem blkFail (h : blksOk c f g = false) (u : Nat → Nat) : ∃ u', RE 437 (.loop (lO 58 25)) (fuB f g 0) (fuHB c f u) .ret [(4, dB false)] (fuHB c f u') := by
 rcases first_bad (blkAt c f g) (List.range f.blocks.length) with h' | ⟨j, y, h1, h2, h3⟩
 ·unfold blksOk at h; rw [h'] at h; cases h
 ·have hj : j < f.blocks.length := by have := (List.getElem?_eq_some_iff.1 h1).1; simpa using this
  have hjy : j = y := by simpa [List.getElem?_range hj] using h1
  subst hjy
  exact lw_ver (P := Pg) (N := 437) (c := loopOf Pg 58 25) j (fun i u rest => ⟨envOf (fuB f g i), ovl (fuHB c f u) rest⟩) (fun u rest => ⟨envOf [(4, dB false)], ovl (fuHB c f u) rest⟩) (e := .ret) (by simp)
   (fun i hi u => blkStep c f g hf hn hg hw i (by omega) true (h3 i i hi (List.getElem?_range (by omega))) u)
   (fun u => blkStep c f g hf hn hg hw j hj false h2 u) u
end
end Go.Avm
namespace Go.Avm
open Go.Proofs Go.Avm.Dom Go.RowKit
structure BdH (n vC : Nat) (h : Heap) (rows : List (List Int)) : Prop where
 ex : ∃ cs, h 974 = ⟨vC, some (.arr 1 cs)⟩ ∧ RowsK 800000 n h cs rows
def RowsLe (M : Nat) (rows : List (List Int)) : Prop := ∀ r ∈ rows, r.length ≤ M
theorem RowsLe.set {M : Nat} {rows : List (List Int)} (h : RowsLe M rows) {c : Nat} {r : List Int} (hr : r.length ≤ M + 1) : RowsLe (M + 1) (rows.set c r) := fun x hx => by
 rcases List.mem_or_eq_of_mem_set hx with h1 | h1
 ·have := h x h1; omega
 ·subst h1; exact hr
theorem BdH.len {n vC : Nat} {h : Heap} {rows : List (List Int)} (hh : BdH n vC h rows) : rows.length = n := hh.ex.elim fun _ hx => hx.2.2.1
section
variable (up : List Int) (F : Graph) (ord : List Nat) (n vC i b : Nat) (row : List Nat) (k c : Nat) (ub u : Int)
end
section
variable {g : Graph} (hg : Valid g) (hg0 : 0 < g.length) (hgl : g.length < 100000) {U : Nat → Nat} (hU : Fixed g U)
include hg hg0 hgl hU
end
end Go.Avm
namespace Go.Avm
open Go.Proofs Go.Avm.Dom
theorem not_t {b : Bool} (h : (!b) = false) : b = true := by cases b <;> simp_all
def numBad (f : FunR) : Bool := ((decide (f.params < 0)) || ((decide (6 < f.params)) || ((decide (f.vars < 0)) || ((decide (255 < f.vars)) || ((decide (f.vals < 0)) || ((decide (60000 < f.vals)) || ((decide ((f.blocks.length : Int) < 1)) || (decide ((60000 : Int) < f.blocks.length)))))))))
def headBad (b : BlkR) : Bool := ((decide (b.fin < 1)) || ((decide (4 < b.fin)) || ((b.fin == 2) && (b.to == b.els))))
def fhL (f : FunR) (i : Nat) : List (Nat × AV) := [(2, .ptr 2 1 0 0 1), (3, .ptr 440 1 0 0 1), (74, .d (blksD f.blocks)), (75, dN f.blocks.length), (76, dN i)]
def fhE (c : CodeR) (f : FunR) (u : Nat → Nat) : List (Nat × Ent) := [(2, ⟨1, some (.arr 1 (boxC c))⟩), (440, ⟨1, some (.arr 1 (cellsF f))⟩)] ++ tm u [501317] 0
section
variable (c : CodeR) (f : FunR) (i : Nat) (u : Nat → Nat) (b : BlkR) (hi : i < f.blocks.length) (hl : f.blocks.length < 4000000) (hxb : f.blocks[i]? = some b)
include c f i u b hi hl hxb
theorem fhB_T1 (h_p : (decide (b.fin < 1)) = true) : RW 437 (lO 58 4) (fhL f i) (fhE c f u) .ret [(4, dB false)] (fhE c f (addL u [1])) := qS { hint := qT 58 [(77, qL hi), (78, hIxM Pg blkD f.blocks i b hxb), (82, qB h_p)] } 58 500000
theorem fhB_T2 (h_p : (decide (b.fin < 1)) = false) (h_q : (decide (4 < b.fin)) = true) : RW 437 (lO 58 4) (fhL f i) (fhE c f u) .ret [(4, dB false)] (fhE c f (addL u [1])) := qS { hint := qT 58 [(77, qL hi), (78, hIxM Pg blkD f.blocks i b hxb), (82, qB h_p), (86, qB h_q)] } 58 500000
theorem fhB_T3 (h_p : (decide (b.fin < 1)) = false) (h_q : (decide (4 < b.fin)) = false) (h_r : (b.fin == 2) = true) (h_s : (b.to == b.els) = true) : RW 437 (lO 58 4) (fhL f i) (fhE c f u) .ret [(4, dB false)] (fhE c f (addL u [1])) := qS { hint := qT 58 [(77, qL hi), (78, hIxM Pg blkD f.blocks i b hxb), (82, qB h_p), (86, qB h_q), (91, qB h_r), (97, qB h_s)] } 58 500000
theorem fhB_T (h : ((decide (b.fin < 1)) || ((decide (4 < b.fin)) || ((b.fin == 2) && (b.to == b.els)))) = true) : RW 437 (lO 58 4) (fhL f i) (fhE c f u) .ret [(4, dB false)] (fhE c f (addL u [1])) := by
 intro rest X hP hN
 cases h_p : (decide (b.fin < 1)) with
 | true =>
  exact fhB_T1 c f i u b hi hl hxb  h_p rest X hP hN
 | false =>
  cases h_q : (decide (4 < b.fin)) with
  | true =>
   exact fhB_T2 c f i u b hi hl hxb  h_p h_q rest X hP hN
  | false =>
   cases h_r : (b.fin == 2) with
   | true =>
    cases h_s : (b.to == b.els) with
    | true =>
     exact fhB_T3 c f i u b hi hl hxb  h_p h_q h_r h_s rest X hP hN
    | false =>
     simp [h_p, h_q, h_r, h_s] at h
   | false =>
    simp [h_p, h_q, h_r] at h
theorem fhB_F1 (h_p : (decide (b.fin < 1)) = false) (h_q : (decide (4 < b.fin)) = false) (h_r : (b.fin == 2) = true) (h_s : (b.to == b.els) = false) : RW 437 (lO 58 4) (fhL f i) (fhE c f u) .normal (fhL f (i + 1)) (fhE c f (addL u [1])) := qS { hint := qT 58 [(77, qL hi), (78, hIxM Pg blkD f.blocks i b hxb), (82, qB h_p), (86, qB h_q), (91, qB h_r), (97, qB h_s), (100, hSucc Pg i (by omega))] } 58 500000
theorem fhB_F2 (h_p : (decide (b.fin < 1)) = false) (h_q : (decide (4 < b.fin)) = false) (h_r : (b.fin == 2) = false) : RW 437 (lO 58 4) (fhL f i) (fhE c f u) .normal (fhL f (i + 1)) (fhE c f (addL u [1])) := qS { hint := qT 58 [(77, qL hi), (78, hIxM Pg blkD f.blocks i b hxb), (82, qB h_p), (86, qB h_q), (91, qB h_r), (100, hSucc Pg i (by omega))] } 58 500000
theorem fhB_F (h : ((decide (b.fin < 1)) || ((decide (4 < b.fin)) || ((b.fin == 2) && (b.to == b.els)))) = false) : RW 437 (lO 58 4) (fhL f i) (fhE c f u) .normal (fhL f (i + 1)) (fhE c f (addL u [1])) := by
 intro rest X hP hN
 cases h_p : (decide (b.fin < 1)) with
 | true =>
  simp [h_p] at h
 | false =>
  cases h_q : (decide (4 < b.fin)) with
  | true =>
   simp [h_p, h_q] at h
  | false =>
   cases h_r : (b.fin == 2) with
   | true =>
    cases h_s : (b.to == b.els) with
    | true =>
     simp [h_p, h_q, h_r, h_s] at h
    | false =>
     exact fhB_F1 c f i u b hi hl hxb  h_p h_q h_r h_s rest X hP hN
   | false =>
    exact fhB_F2 c f i u b hi hl hxb  h_p h_q h_r rest X hP hN
end
def pt58 : List (Nat × AV) := [(2, .ptr 2 1 0 0 1), (3, .ptr 440 1 0 0 1)]
section
variable (c : CodeR) (f : FunR) (u : Nat → Nat)
theorem fhStop : RW 437 (lO 58 4) (fhL f f.blocks.length) (fhE c f u) (.exit 0) pt58 (fhE c f u) := qS { hint := qT 58 [(77, qG f.blocks.length)] } 58 500000
def headsOk (f : FunR) : Bool := f.blocks.all fun b => !(headBad b)
theorem fhGood (hl : f.blocks.length < 4000000) (h : headsOk f = true) : ∃ u', RE 437 (.loop (lO 58 4)) (fhL f 0) (fhE c f u) (.exit 0) pt58 (fhE c f u') :=
 lw_ver (P := Pg) (N := 437) (c := loopOf Pg 58 4) f.blocks.length (fun i u rest => ⟨envOf (fhL f i), ovl (fhE c f u) rest⟩) (fun u rest => ⟨envOf pt58, ovl (fhE c f u) rest⟩) (e := .exit 0) (by simp)
  (fun i hi u => ⟨addL u [1], fun rest X hP hN => fhB_F c f i u f.blocks[i] hi hl (get_of hi) (not_f (List.all_eq_true.1 h _ (List.getElem_mem hi))) rest X hP hN⟩)
  (fun u => ⟨u, fun rest X hP hN => fhStop c f u rest X hP hN⟩) u
theorem fhFail (hl : f.blocks.length < 4000000) (h : headsOk f = false) : ∃ u', RE 437 (.loop (lO 58 4)) (fhL f 0) (fhE c f u) .ret [(4, dB false)] (fhE c f u') := by
 rcases first_bad (fun b : BlkR => !(headBad b)) f.blocks with h' | ⟨j, b, h1, h2, h3⟩
 ·unfold headsOk at h; rw [h'] at h; cases h
 ·have hj : j < f.blocks.length := (List.getElem?_eq_some_iff.1 h1).1
  exact lw_ver (P := Pg) (N := 437) (c := loopOf Pg 58 4) j (fun i u rest => ⟨envOf (fhL f i), ovl (fhE c f u) rest⟩) (fun u rest => ⟨envOf [(4, dB false)], ovl (fhE c f u) rest⟩) (e := .ret) (by simp)
   (fun i hi u => ⟨addL u [1], fun rest X hP hN => fhB_F c f i u (f.blocks[i]'(by omega)) (by omega) hl (get_of (by omega)) (not_f (h3 i _ hi (get_of (by omega)))) rest X hP hN⟩)
   (fun u => ⟨addL u [1], fun rest X hP hN => fhB_T c f j u b hj hl h1 (not_t h2) rest X hP hN⟩) u
end
def frL (r : List Bool) (g : Graph) (i : Nat) : List (Nat × AV) := pt58 ++ [(7, .d (rowsN g)), (107, .d (rowB r)), (108, dN r.length), (109, dN i)]
def frE (c : CodeR) (f : FunR) : List (Nat × Ent) := [(2, ⟨1, some (.arr 1 (boxC c))⟩), (440, ⟨1, some (.arr 1 (cellsF f))⟩)]
section
variable (c : CodeR) (f : FunR) (g : Graph) (r : List Bool) (i : Nat)
theorem frRound (hi : i < r.length) (hl : r.length < 4000000) (hx : r[i]? = some true) : RW 437 (lO 58 13) (frL r g i) (frE c f) .normal (frL r g (i + 1)) (frE c f) := qS { hint := qT 58 [(110, qL hi), (111, hIxB Pg r i true hx), (115, hSucc Pg i (by omega))] } 58 500000
theorem frBad (hi : i < r.length) (hx : r[i]? = some false) : RW 437 (lO 58 13) (frL r g i) (frE c f) .ret [(4, dB false)] (frE c f) := qS { hint := qT 58 [(110, qL hi), (111, hIxB Pg r i false hx)] } 58 500000
theorem frStop : RW 437 (lO 58 13) (frL r g r.length) (frE c f) (.exit 2) (pt58 ++ [(7, .d (rowsN g))]) (frE c f) := qS { hint := qT 58 [(110, qG r.length)] } 58 500000
theorem frGood (hl : r.length < 4000000) (h : r.all id = true) : RE 437 (.loop (lO 58 13)) (frL r g 0) (frE c f) (.exit 2) (pt58 ++ [(7, .d (rowsN g))]) (frE c f) := fun rest X hP hN =>
 (lw_count r.length (fun i => ⟨envOf (frL r g i), ovl (frE c f) rest⟩) (by simp) (fun i hi => frRound c f g r i hi hl (by
  have := List.all_eq_true.1 h _ (List.getElem_mem hi)
  rw [get_of hi, this.symm]; rfl) rest X hP hN) (frStop c f g r rest X hP hN)).aw
theorem frFail (hl : r.length < 4000000) (h : r.all id = false) : RE 437 (.loop (lO 58 13)) (frL r g 0) (frE c f) .ret [(4, dB false)] (frE c f) := by
 intro rest X hP hN
 rcases first_bad id r with h' | ⟨j, y, h1, h2, h3⟩
 ·rw [h'] at h; cases h
 ·have hj : j < r.length := (List.getElem?_eq_some_iff.1 h1).1
  have h2' : y = false := h2
  subst h2'
  exact (lw_count j (fun i => ⟨envOf (frL r g i), ovl (frE c f) rest⟩) (by simp) (fun i hi => frRound c f g r i (by omega) hl (by
   have h4 := h3 i _ hi (get_of (by omega))
   rw [get_of (by omega)]
   exact congrArg some h4) rest X hP hN) (frBad c f g r j hj h1 rest X hP hN)).aw
end
end Go.Avm
namespace Go.Avm
open Go.Proofs Go.Avm.Dom
section
variable (c : CodeR) (f : FunR)
include c f
theorem f58N_T1 (h_a : (decide (f.params < 0)) = true)  :
    Pure Pg 58 [codeD c, funD f] [.bool false] :=
 qU { hint := qT 58 [(35, qB h_a)] }
theorem f58N_T2 (h_a : (decide (f.params < 0)) = false) (h_b : (decide (6 < f.params)) = true)  :
    Pure Pg 58 [codeD c, funD f] [.bool false] :=
 qU { hint := qT 58 [(35, qB h_a), (39, qB h_b)] }
theorem f58N_T3 (h_a : (decide (f.params < 0)) = false) (h_b : (decide (6 < f.params)) = false) (h_c : (decide (f.vars < 0)) = true)  :
    Pure Pg 58 [codeD c, funD f] [.bool false] :=
 qU { hint := qT 58 [(35, qB h_a), (39, qB h_b), (44, qB h_c)] }
theorem f58N_T4 (h_a : (decide (f.params < 0)) = false) (h_b : (decide (6 < f.params)) = false) (h_c : (decide (f.vars < 0)) = false) (h_d : (decide (255 < f.vars)) = true)  :
    Pure Pg 58 [codeD c, funD f] [.bool false] :=
 qU { hint := qT 58 [(35, qB h_a), (39, qB h_b), (44, qB h_c), (49, qB h_d)] }
theorem f58N_T5 (h_a : (decide (f.params < 0)) = false) (h_b : (decide (6 < f.params)) = false) (h_c : (decide (f.vars < 0)) = false) (h_d : (decide (255 < f.vars)) = false) (h_e : (decide (f.vals < 0)) = true)  :
    Pure Pg 58 [codeD c, funD f] [.bool false] :=
 qU { hint := qT 58 [(35, qB h_a), (39, qB h_b), (44, qB h_c), (49, qB h_d), (54, qB h_e)] }
theorem f58N_T6 (h_a : (decide (f.params < 0)) = false) (h_b : (decide (6 < f.params)) = false) (h_c : (decide (f.vars < 0)) = false) (h_d : (decide (255 < f.vars)) = false) (h_e : (decide (f.vals < 0)) = false) (h_g : (decide (60000 < f.vals)) = true)  :
    Pure Pg 58 [codeD c, funD f] [.bool false] :=
 qU { hint := qT 58 [(35, qB h_a), (39, qB h_b), (44, qB h_c), (49, qB h_d), (54, qB h_e), (59, qB h_g)] }
theorem f58N_T7 (h_a : (decide (f.params < 0)) = false) (h_b : (decide (6 < f.params)) = false) (h_c : (decide (f.vars < 0)) = false) (h_d : (decide (255 < f.vars)) = false) (h_e : (decide (f.vals < 0)) = false) (h_g : (decide (60000 < f.vals)) = false) (h_h : (decide ((f.blocks.length : Int) < 1)) = true)  :
    Pure Pg 58 [codeD c, funD f] [.bool false] :=
 qU { hint := qT 58 [(35, qB h_a), (39, qB h_b), (44, qB h_c), (49, qB h_d), (54, qB h_e), (59, qB h_g), (64, hLenM Pg blkD f.blocks), (65, qB h_h)] }
theorem f58N_T8 (h_a : (decide (f.params < 0)) = false) (h_b : (decide (6 < f.params)) = false) (h_c : (decide (f.vars < 0)) = false) (h_d : (decide (255 < f.vars)) = false) (h_e : (decide (f.vals < 0)) = false) (h_g : (decide (60000 < f.vals)) = false) (h_h : (decide ((f.blocks.length : Int) < 1)) = false) (h_i : (decide ((60000 : Int) < f.blocks.length)) = true)  :
    Pure Pg 58 [codeD c, funD f] [.bool false] :=
 qU { hint := qT 58 [(35, qB h_a), (39, qB h_b), (44, qB h_c), (49, qB h_d), (54, qB h_e), (59, qB h_g), (64, hLenM Pg blkD f.blocks), (65, qB h_h), (70, hLenM Pg blkD f.blocks), (71, qB h_i)] }
theorem f58N_T (h : ((decide (f.params < 0)) || ((decide (6 < f.params)) || ((decide (f.vars < 0)) || ((decide (255 < f.vars)) || ((decide (f.vals < 0)) || ((decide (60000 < f.vals)) || ((decide ((f.blocks.length : Int) < 1)) || (decide ((60000 : Int) < f.blocks.length))))))))) = true)  :
    Pure Pg 58 [codeD c, funD f] [.bool false] := by
 cases h_a : (decide (f.params < 0)) with
 | true =>
  exact f58N_T1 c f  h_a
 | false =>
  cases h_b : (decide (6 < f.params)) with
  | true =>
   exact f58N_T2 c f  h_a h_b
  | false =>
   cases h_c : (decide (f.vars < 0)) with
   | true =>
    exact f58N_T3 c f  h_a h_b h_c
   | false =>
    cases h_d : (decide (255 < f.vars)) with
    | true =>
     exact f58N_T4 c f  h_a h_b h_c h_d
    | false =>
     cases h_e : (decide (f.vals < 0)) with
     | true =>
      exact f58N_T5 c f  h_a h_b h_c h_d h_e
     | false =>
      cases h_g : (decide (60000 < f.vals)) with
      | true =>
       exact f58N_T6 c f  h_a h_b h_c h_d h_e h_g
      | false =>
       cases h_h : (decide ((f.blocks.length : Int) < 1)) with
       | true =>
        exact f58N_T7 c f  h_a h_b h_c h_d h_e h_g h_h
       | false =>
        cases h_i : (decide ((60000 : Int) < f.blocks.length)) with
        | true =>
         exact f58N_T8 c f  h_a h_b h_c h_d h_e h_g h_h h_i
        | false =>
         simp [h_a, h_b, h_c, h_d, h_e, h_g, h_h, h_i] at h
theorem f58H_F1 (u4 : Nat → Nat) (h4 : RE 437 (.loop (lO 58 4)) (fhL f 0) (fhE c f fun _ => 0) .ret ([(4, dB false)]) (fhE c f u4)) (h_a : (decide (f.params < 0)) = false) (h_b : (decide (6 < f.params)) = false) (h_c : (decide (f.vars < 0)) = false) (h_d : (decide (255 < f.vars)) = false) (h_e : (decide (f.vals < 0)) = false) (h_g : (decide (60000 < f.vals)) = false) (h_h : (decide ((f.blocks.length : Int) < 1)) = false) (h_i : (decide ((60000 : Int) < f.blocks.length)) = false)  :
    Pure Pg 58 [codeD c, funD f] [.bool false] :=
 qU { loops := qO 58 4 (qP h4), hint := qT 58 [(35, qB h_a), (39, qB h_b), (44, qB h_c), (49, qB h_d), (54, qB h_e), (59, qB h_g), (64, hLenM Pg blkD f.blocks), (65, qB h_h), (70, hLenM Pg blkD f.blocks), (71, qB h_i), (75, hLenM Pg blkD f.blocks)] }
theorem f58H_F (u4 : Nat → Nat) (h4 : RE 437 (.loop (lO 58 4)) (fhL f 0) (fhE c f fun _ => 0) .ret ([(4, dB false)]) (fhE c f u4)) (h : ((decide (f.params < 0)) || ((decide (6 < f.params)) || ((decide (f.vars < 0)) || ((decide (255 < f.vars)) || ((decide (f.vals < 0)) || ((decide (60000 < f.vals)) || ((decide ((f.blocks.length : Int) < 1)) || (decide ((60000 : Int) < f.blocks.length))))))))) = false)  :
    Pure Pg 58 [codeD c, funD f] [.bool false] := by
 cases h_a : (decide (f.params < 0)) with
 | true =>
  simp [h_a] at h
 | false =>
  cases h_b : (decide (6 < f.params)) with
  | true =>
   simp [h_a, h_b] at h
  | false =>
   cases h_c : (decide (f.vars < 0)) with
   | true =>
    simp [h_a, h_b, h_c] at h
   | false =>
    cases h_d : (decide (255 < f.vars)) with
    | true =>
     simp [h_a, h_b, h_c, h_d] at h
    | false =>
     cases h_e : (decide (f.vals < 0)) with
     | true =>
      simp [h_a, h_b, h_c, h_d, h_e] at h
     | false =>
      cases h_g : (decide (60000 < f.vals)) with
      | true =>
       simp [h_a, h_b, h_c, h_d, h_e, h_g] at h
      | false =>
       cases h_h : (decide ((f.blocks.length : Int) < 1)) with
       | true =>
        simp [h_a, h_b, h_c, h_d, h_e, h_g, h_h] at h
       | false =>
        cases h_i : (decide ((60000 : Int) < f.blocks.length)) with
        | true =>
         simp [h_a, h_b, h_c, h_d, h_e, h_g, h_h, h_i] at h
        | false =>
         exact f58H_F1 c f u4 h4  h_a h_b h_c h_d h_e h_g h_h h_i
theorem f58C_F1 (u4 : Nat → Nat) (h4 : RE 437 (.loop (lO 58 4)) (fhL f 0) (fhE c f fun _ => 0) (.exit 0) (pt58) (fhE c f u4)) (gs : List (List Int)) (h29 : Pure Pg 29 [funD f] [rowsD gs]) (h39 : Pure Pg 39 [rowsD gs] [.int .i64 3]) (h_a : (decide (f.params < 0)) = false) (h_b : (decide (6 < f.params)) = false) (h_c : (decide (f.vars < 0)) = false) (h_d : (decide (255 < f.vars)) = false) (h_e : (decide (f.vals < 0)) = false) (h_g : (decide (60000 < f.vals)) = false) (h_h : (decide ((f.blocks.length : Int) < 1)) = false) (h_i : (decide ((60000 : Int) < f.blocks.length)) = false)  :
    Pure Pg 58 [codeD c, funD f] [.bool false] :=
 qU { loops := qO 58 4 (qP h4), hint := qT 58 [(35, qB h_a), (39, qB h_b), (44, qB h_c), (49, qB h_d), (54, qB h_e), (59, qB h_g), (64, hLenM Pg blkD f.blocks), (65, qB h_h), (70, hLenM Pg blkD f.blocks), (71, qB h_i), (75, hLenM Pg blkD f.blocks), (102, .call 29 _ _ h29), (104, .call 39 _ _ h39)] }
theorem f58C_F (u4 : Nat → Nat) (h4 : RE 437 (.loop (lO 58 4)) (fhL f 0) (fhE c f fun _ => 0) (.exit 0) (pt58) (fhE c f u4)) (gs : List (List Int)) (h29 : Pure Pg 29 [funD f] [rowsD gs]) (h39 : Pure Pg 39 [rowsD gs] [.int .i64 3]) (h : ((decide (f.params < 0)) || ((decide (6 < f.params)) || ((decide (f.vars < 0)) || ((decide (255 < f.vars)) || ((decide (f.vals < 0)) || ((decide (60000 < f.vals)) || ((decide ((f.blocks.length : Int) < 1)) || (decide ((60000 : Int) < f.blocks.length))))))))) = false)  :
    Pure Pg 58 [codeD c, funD f] [.bool false] := by
 cases h_a : (decide (f.params < 0)) with
 | true =>
  simp [h_a] at h
 | false =>
  cases h_b : (decide (6 < f.params)) with
  | true =>
   simp [h_a, h_b] at h
  | false =>
   cases h_c : (decide (f.vars < 0)) with
   | true =>
    simp [h_a, h_b, h_c] at h
   | false =>
    cases h_d : (decide (255 < f.vars)) with
    | true =>
     simp [h_a, h_b, h_c, h_d] at h
    | false =>
     cases h_e : (decide (f.vals < 0)) with
     | true =>
      simp [h_a, h_b, h_c, h_d, h_e] at h
     | false =>
      cases h_g : (decide (60000 < f.vals)) with
      | true =>
       simp [h_a, h_b, h_c, h_d, h_e, h_g] at h
      | false =>
       cases h_h : (decide ((f.blocks.length : Int) < 1)) with
       | true =>
        simp [h_a, h_b, h_c, h_d, h_e, h_g, h_h] at h
       | false =>
        cases h_i : (decide ((60000 : Int) < f.blocks.length)) with
        | true =>
         simp [h_a, h_b, h_c, h_d, h_e, h_g, h_h, h_i] at h
        | false =>
         exact f58C_F1 c f u4 h4 gs h29 h39  h_a h_b h_c h_d h_e h_g h_h h_i
theorem f58R_F1 (u4 : Nat → Nat) (h4 : RE 437 (.loop (lO 58 4)) (fhL f 0) (fhE c f fun _ => 0) (.exit 0) (pt58) (fhE c f u4)) (g : Graph) (r : List Bool) (h29 : Pure Pg 29 [funD f] [rowsN g]) (h39 : Pure Pg 39 [rowsN g] [.int .i64 0]) (h44 : Pure Pg 44 [rowsN g, .int .i64 0, .int .i64 (-1)] [rowB r]) (hrl : r.length = (r.map D.bool).length) (h13 : RE 437 (.loop (lO 58 13)) (frL r g 0) (frE c f) .ret ([(4, dB false)]) (frE c f)) (h_a : (decide (f.params < 0)) = false) (h_b : (decide (6 < f.params)) = false) (h_c : (decide (f.vars < 0)) = false) (h_d : (decide (255 < f.vars)) = false) (h_e : (decide (f.vals < 0)) = false) (h_g : (decide (60000 < f.vals)) = false) (h_h : (decide ((f.blocks.length : Int) < 1)) = false) (h_i : (decide ((60000 : Int) < f.blocks.length)) = false)  :
    Pure Pg 58 [codeD c, funD f] [.bool false] :=
 qU { loops := fun f' q => if f' = 58 then (if q = 4 then qP h4 else if q = 13 then qP h13 else none) else none, hint := qT 58 [(35, qB h_a), (39, qB h_b), (44, qB h_c), (49, qB h_d), (54, qB h_e), (59, qB h_g), (64, hLenM Pg blkD f.blocks), (65, qB h_h), (70, hLenM Pg blkD f.blocks), (71, qB h_i), (75, hLenM Pg blkD f.blocks), (102, .call 29 _ _ h29), (104, .call 39 _ _ h39), (107, .call 44 _ _ h44), (108, hNat Pg ((r.map D.bool).length : Int) r.length (by rw [← hrl]))] }
theorem f58R_F (u4 : Nat → Nat) (h4 : RE 437 (.loop (lO 58 4)) (fhL f 0) (fhE c f fun _ => 0) (.exit 0) (pt58) (fhE c f u4)) (g : Graph) (r : List Bool) (h29 : Pure Pg 29 [funD f] [rowsN g]) (h39 : Pure Pg 39 [rowsN g] [.int .i64 0]) (h44 : Pure Pg 44 [rowsN g, .int .i64 0, .int .i64 (-1)] [rowB r]) (hrl : r.length = (r.map D.bool).length) (h13 : RE 437 (.loop (lO 58 13)) (frL r g 0) (frE c f) .ret ([(4, dB false)]) (frE c f)) (h : ((decide (f.params < 0)) || ((decide (6 < f.params)) || ((decide (f.vars < 0)) || ((decide (255 < f.vars)) || ((decide (f.vals < 0)) || ((decide (60000 < f.vals)) || ((decide ((f.blocks.length : Int) < 1)) || (decide ((60000 : Int) < f.blocks.length))))))))) = false)  :
    Pure Pg 58 [codeD c, funD f] [.bool false] := by
 cases h_a : (decide (f.params < 0)) with
 | true =>
  simp [h_a] at h
 | false =>
  cases h_b : (decide (6 < f.params)) with
  | true =>
   simp [h_a, h_b] at h
  | false =>
   cases h_c : (decide (f.vars < 0)) with
   | true =>
    simp [h_a, h_b, h_c] at h
   | false =>
    cases h_d : (decide (255 < f.vars)) with
    | true =>
     simp [h_a, h_b, h_c, h_d] at h
    | false =>
     cases h_e : (decide (f.vals < 0)) with
     | true =>
      simp [h_a, h_b, h_c, h_d, h_e] at h
     | false =>
      cases h_g : (decide (60000 < f.vals)) with
      | true =>
       simp [h_a, h_b, h_c, h_d, h_e, h_g] at h
      | false =>
       cases h_h : (decide ((f.blocks.length : Int) < 1)) with
       | true =>
        simp [h_a, h_b, h_c, h_d, h_e, h_g, h_h] at h
       | false =>
        cases h_i : (decide ((60000 : Int) < f.blocks.length)) with
        | true =>
         simp [h_a, h_b, h_c, h_d, h_e, h_g, h_h, h_i] at h
        | false =>
         exact f58R_F1 c f u4 h4 g r h29 h39 h44 hrl h13  h_a h_b h_c h_d h_e h_g h_h h_i
theorem f58I_F1 (u4 : Nat → Nat) (h4 : RE 437 (.loop (lO 58 4)) (fhL f 0) (fhE c f fun _ => 0) (.exit 0) (pt58) (fhE c f u4)) (g : Graph) (r : List Bool) (h29 : Pure Pg 29 [funD f] [rowsN g]) (h39 : Pure Pg 39 [rowsN g] [.int .i64 0]) (h44 : Pure Pg 44 [rowsN g, .int .i64 0, .int .i64 (-1)] [rowB r]) (hrl : r.length = (r.map D.bool).length) (h13 : RE 437 (.loop (lO 58 13)) (frL r g 0) (frE c f) (.exit 2) ((pt58 ++ [(7, .d (rowsN g))])) (frE c f)) (h49 : Pure Pg 49 [rowsN g] [fromD g]) (row : List Nat) (hrow : (intoOf g)[0]? = some row) (hr0 : decide ((0 : Int) < (row.length : Int)) = true) (h_a : (decide (f.params < 0)) = false) (h_b : (decide (6 < f.params)) = false) (h_c : (decide (f.vars < 0)) = false) (h_d : (decide (255 < f.vars)) = false) (h_e : (decide (f.vals < 0)) = false) (h_g : (decide (60000 < f.vals)) = false) (h_h : (decide ((f.blocks.length : Int) < 1)) = false) (h_i : (decide ((60000 : Int) < f.blocks.length)) = false)  :
    Pure Pg 58 [codeD c, funD f] [.bool false] :=
 qU { loops := fun f' q => if f' = 58 then (if q = 4 then qP h4 else if q = 13 then qP h13 else none) else none, hint := qT 58 [(35, qB h_a), (39, qB h_b), (44, qB h_c), (49, qB h_d), (54, qB h_e), (59, qB h_g), (64, hLenM Pg blkD f.blocks), (65, qB h_h), (70, hLenM Pg blkD f.blocks), (71, qB h_i), (75, hLenM Pg blkD f.blocks), (102, .call 29 _ _ h29), (104, .call 39 _ _ h39), (107, .call 44 _ _ h44), (108, hNat Pg ((r.map D.bool).length : Int) r.length (by rw [← hrl])), (117, .call 49 _ _ h49), (119, hIxM Pg rowN (intoOf g) 0 row hrow), (121, hLenN Pg row), (122, qB hr0)] }
theorem f58I_F (u4 : Nat → Nat) (h4 : RE 437 (.loop (lO 58 4)) (fhL f 0) (fhE c f fun _ => 0) (.exit 0) (pt58) (fhE c f u4)) (g : Graph) (r : List Bool) (h29 : Pure Pg 29 [funD f] [rowsN g]) (h39 : Pure Pg 39 [rowsN g] [.int .i64 0]) (h44 : Pure Pg 44 [rowsN g, .int .i64 0, .int .i64 (-1)] [rowB r]) (hrl : r.length = (r.map D.bool).length) (h13 : RE 437 (.loop (lO 58 13)) (frL r g 0) (frE c f) (.exit 2) ((pt58 ++ [(7, .d (rowsN g))])) (frE c f)) (h49 : Pure Pg 49 [rowsN g] [fromD g]) (row : List Nat) (hrow : (intoOf g)[0]? = some row) (hr0 : decide ((0 : Int) < (row.length : Int)) = true) (h : ((decide (f.params < 0)) || ((decide (6 < f.params)) || ((decide (f.vars < 0)) || ((decide (255 < f.vars)) || ((decide (f.vals < 0)) || ((decide (60000 < f.vals)) || ((decide ((f.blocks.length : Int) < 1)) || (decide ((60000 : Int) < f.blocks.length))))))))) = false)  :
    Pure Pg 58 [codeD c, funD f] [.bool false] := by
 cases h_a : (decide (f.params < 0)) with
 | true =>
  simp [h_a] at h
 | false =>
  cases h_b : (decide (6 < f.params)) with
  | true =>
   simp [h_a, h_b] at h
  | false =>
   cases h_c : (decide (f.vars < 0)) with
   | true =>
    simp [h_a, h_b, h_c] at h
   | false =>
    cases h_d : (decide (255 < f.vars)) with
    | true =>
     simp [h_a, h_b, h_c, h_d] at h
    | false =>
     cases h_e : (decide (f.vals < 0)) with
     | true =>
      simp [h_a, h_b, h_c, h_d, h_e] at h
     | false =>
      cases h_g : (decide (60000 < f.vals)) with
      | true =>
       simp [h_a, h_b, h_c, h_d, h_e, h_g] at h
      | false =>
       cases h_h : (decide ((f.blocks.length : Int) < 1)) with
       | true =>
        simp [h_a, h_b, h_c, h_d, h_e, h_g, h_h] at h
       | false =>
        cases h_i : (decide ((60000 : Int) < f.blocks.length)) with
        | true =>
         simp [h_a, h_b, h_c, h_d, h_e, h_g, h_h, h_i] at h
        | false =>
         exact f58I_F1 c f u4 h4 g r h29 h39 h44 hrl h13 h49 row hrow hr0  h_a h_b h_c h_d h_e h_g h_h h_i
theorem f58P_F1 (u4 : Nat → Nat) (h4 : RE 437 (.loop (lO 58 4)) (fhL f 0) (fhE c f fun _ => 0) (.exit 0) (pt58) (fhE c f u4)) (g : Graph) (r : List Bool) (h29 : Pure Pg 29 [funD f] [rowsN g]) (h39 : Pure Pg 39 [rowsN g] [.int .i64 0]) (h44 : Pure Pg 44 [rowsN g, .int .i64 0, .int .i64 (-1)] [rowB r]) (hrl : r.length = (r.map D.bool).length) (h13 : RE 437 (.loop (lO 58 13)) (frL r g 0) (frE c f) (.exit 2) ((pt58 ++ [(7, .d (rowsN g))])) (frE c f)) (h49 : Pure Pg 49 [rowsN g] [fromD g]) (row : List Nat) (hrow : (intoOf g)[0]? = some row) (hr0 : decide ((0 : Int) < (row.length : Int)) = false) (h43 : Pure Pg 43 [rowsN g] [.ro (trD g)]) (b0 : BlkR) (hb0 : f.blocks[0]? = some b0) (hp0 : decide ((0 : Int) < (b0.phis.length : Int)) = true) (h_a : (decide (f.params < 0)) = false) (h_b : (decide (6 < f.params)) = false) (h_c : (decide (f.vars < 0)) = false) (h_d : (decide (255 < f.vars)) = false) (h_e : (decide (f.vals < 0)) = false) (h_g : (decide (60000 < f.vals)) = false) (h_h : (decide ((f.blocks.length : Int) < 1)) = false) (h_i : (decide ((60000 : Int) < f.blocks.length)) = false)  :
    Pure Pg 58 [codeD c, funD f] [.bool false] :=
 qU { loops := fun f' q => if f' = 58 then (if q = 4 then qP h4 else if q = 13 then qP h13 else none) else none, hint := qT 58 [(35, qB h_a), (39, qB h_b), (44, qB h_c), (49, qB h_d), (54, qB h_e), (59, qB h_g), (64, hLenM Pg blkD f.blocks), (65, qB h_h), (70, hLenM Pg blkD f.blocks), (71, qB h_i), (75, hLenM Pg blkD f.blocks), (102, .call 29 _ _ h29), (104, .call 39 _ _ h39), (107, .call 44 _ _ h44), (108, hNat Pg ((r.map D.bool).length : Int) r.length (by rw [← hrl])), (117, .call 49 _ _ h49), (119, hIxM Pg rowN (intoOf g) 0 row hrow), (121, hLenN Pg row), (122, qB hr0), (124, .call 43 _ _ h43), (127, hIxM Pg blkD f.blocks 0 b0 hb0), (130, hLenM Pg instD b0.phis), (131, qB hp0)] }
theorem f58P_F (u4 : Nat → Nat) (h4 : RE 437 (.loop (lO 58 4)) (fhL f 0) (fhE c f fun _ => 0) (.exit 0) (pt58) (fhE c f u4)) (g : Graph) (r : List Bool) (h29 : Pure Pg 29 [funD f] [rowsN g]) (h39 : Pure Pg 39 [rowsN g] [.int .i64 0]) (h44 : Pure Pg 44 [rowsN g, .int .i64 0, .int .i64 (-1)] [rowB r]) (hrl : r.length = (r.map D.bool).length) (h13 : RE 437 (.loop (lO 58 13)) (frL r g 0) (frE c f) (.exit 2) ((pt58 ++ [(7, .d (rowsN g))])) (frE c f)) (h49 : Pure Pg 49 [rowsN g] [fromD g]) (row : List Nat) (hrow : (intoOf g)[0]? = some row) (hr0 : decide ((0 : Int) < (row.length : Int)) = false) (h43 : Pure Pg 43 [rowsN g] [.ro (trD g)]) (b0 : BlkR) (hb0 : f.blocks[0]? = some b0) (hp0 : decide ((0 : Int) < (b0.phis.length : Int)) = true) (h : ((decide (f.params < 0)) || ((decide (6 < f.params)) || ((decide (f.vars < 0)) || ((decide (255 < f.vars)) || ((decide (f.vals < 0)) || ((decide (60000 < f.vals)) || ((decide ((f.blocks.length : Int) < 1)) || (decide ((60000 : Int) < f.blocks.length))))))))) = false)  :
    Pure Pg 58 [codeD c, funD f] [.bool false] := by
 cases h_a : (decide (f.params < 0)) with
 | true =>
  simp [h_a] at h
 | false =>
  cases h_b : (decide (6 < f.params)) with
  | true =>
   simp [h_a, h_b] at h
  | false =>
   cases h_c : (decide (f.vars < 0)) with
   | true =>
    simp [h_a, h_b, h_c] at h
   | false =>
    cases h_d : (decide (255 < f.vars)) with
    | true =>
     simp [h_a, h_b, h_c, h_d] at h
    | false =>
     cases h_e : (decide (f.vals < 0)) with
     | true =>
      simp [h_a, h_b, h_c, h_d, h_e] at h
     | false =>
      cases h_g : (decide (60000 < f.vals)) with
      | true =>
       simp [h_a, h_b, h_c, h_d, h_e, h_g] at h
      | false =>
       cases h_h : (decide ((f.blocks.length : Int) < 1)) with
       | true =>
        simp [h_a, h_b, h_c, h_d, h_e, h_g, h_h] at h
       | false =>
        cases h_i : (decide ((60000 : Int) < f.blocks.length)) with
        | true =>
         simp [h_a, h_b, h_c, h_d, h_e, h_g, h_h, h_i] at h
        | false =>
         exact f58P_F1 c f u4 h4 g r h29 h39 h44 hrl h13 h49 row hrow hr0 h43 b0 hb0 hp0  h_a h_b h_c h_d h_e h_g h_h h_i
theorem f58B_F1 (u4 : Nat → Nat) (h4 : RE 437 (.loop (lO 58 4)) (fhL f 0) (fhE c f fun _ => 0) (.exit 0) (pt58) (fhE c f u4)) (g : Graph) (r : List Bool) (h29 : Pure Pg 29 [funD f] [rowsN g]) (h39 : Pure Pg 39 [rowsN g] [.int .i64 0]) (h44 : Pure Pg 44 [rowsN g, .int .i64 0, .int .i64 (-1)] [rowB r]) (hrl : r.length = (r.map D.bool).length) (h13 : RE 437 (.loop (lO 58 13)) (frL r g 0) (frE c f) (.exit 2) ((pt58 ++ [(7, .d (rowsN g))])) (frE c f)) (h49 : Pure Pg 49 [rowsN g] [fromD g]) (row : List Nat) (hrow : (intoOf g)[0]? = some row) (hr0 : decide ((0 : Int) < (row.length : Int)) = false) (h43 : Pure Pg 43 [rowsN g] [.ro (trD g)]) (b0 : BlkR) (hb0 : f.blocks[0]? = some b0) (hp0 : decide ((0 : Int) < (b0.phis.length : Int)) = false) (u25 : Nat → Nat) (h25 : RE 437 (.loop (lO 58 25)) (fuB f g 0) (fuHB c f fun _ => 0) .ret ([(4, dB false)]) (fuHB c f u25)) (h_a : (decide (f.params < 0)) = false) (h_b : (decide (6 < f.params)) = false) (h_c : (decide (f.vars < 0)) = false) (h_d : (decide (255 < f.vars)) = false) (h_e : (decide (f.vals < 0)) = false) (h_g : (decide (60000 < f.vals)) = false) (h_h : (decide ((f.blocks.length : Int) < 1)) = false) (h_i : (decide ((60000 : Int) < f.blocks.length)) = false)  :
    Pure Pg 58 [codeD c, funD f] [.bool false] :=
 qU { loops := fun f' q => if f' = 58 then (if q = 4 then qP h4 else if q = 13 then qP h13 else if q = 25 then qP h25 else none) else none, hint := qT 58 [(35, qB h_a), (39, qB h_b), (44, qB h_c), (49, qB h_d), (54, qB h_e), (59, qB h_g), (64, hLenM Pg blkD f.blocks), (65, qB h_h), (70, hLenM Pg blkD f.blocks), (71, qB h_i), (75, hLenM Pg blkD f.blocks), (102, .call 29 _ _ h29), (104, .call 39 _ _ h39), (107, .call 44 _ _ h44), (108, hNat Pg ((r.map D.bool).length : Int) r.length (by rw [← hrl])), (117, .call 49 _ _ h49), (119, hIxM Pg rowN (intoOf g) 0 row hrow), (121, hLenN Pg row), (122, qB hr0), (124, .call 43 _ _ h43), (127, hIxM Pg blkD f.blocks 0 b0 hb0), (130, hLenM Pg instD b0.phis), (131, qB hp0), (134, hLenM Pg blkD f.blocks)] }
theorem f58B_F (u4 : Nat → Nat) (h4 : RE 437 (.loop (lO 58 4)) (fhL f 0) (fhE c f fun _ => 0) (.exit 0) (pt58) (fhE c f u4)) (g : Graph) (r : List Bool) (h29 : Pure Pg 29 [funD f] [rowsN g]) (h39 : Pure Pg 39 [rowsN g] [.int .i64 0]) (h44 : Pure Pg 44 [rowsN g, .int .i64 0, .int .i64 (-1)] [rowB r]) (hrl : r.length = (r.map D.bool).length) (h13 : RE 437 (.loop (lO 58 13)) (frL r g 0) (frE c f) (.exit 2) ((pt58 ++ [(7, .d (rowsN g))])) (frE c f)) (h49 : Pure Pg 49 [rowsN g] [fromD g]) (row : List Nat) (hrow : (intoOf g)[0]? = some row) (hr0 : decide ((0 : Int) < (row.length : Int)) = false) (h43 : Pure Pg 43 [rowsN g] [.ro (trD g)]) (b0 : BlkR) (hb0 : f.blocks[0]? = some b0) (hp0 : decide ((0 : Int) < (b0.phis.length : Int)) = false) (u25 : Nat → Nat) (h25 : RE 437 (.loop (lO 58 25)) (fuB f g 0) (fuHB c f fun _ => 0) .ret ([(4, dB false)]) (fuHB c f u25)) (h : ((decide (f.params < 0)) || ((decide (6 < f.params)) || ((decide (f.vars < 0)) || ((decide (255 < f.vars)) || ((decide (f.vals < 0)) || ((decide (60000 < f.vals)) || ((decide ((f.blocks.length : Int) < 1)) || (decide ((60000 : Int) < f.blocks.length))))))))) = false)  :
    Pure Pg 58 [codeD c, funD f] [.bool false] := by
 cases h_a : (decide (f.params < 0)) with
 | true =>
  simp [h_a] at h
 | false =>
  cases h_b : (decide (6 < f.params)) with
  | true =>
   simp [h_a, h_b] at h
  | false =>
   cases h_c : (decide (f.vars < 0)) with
   | true =>
    simp [h_a, h_b, h_c] at h
   | false =>
    cases h_d : (decide (255 < f.vars)) with
    | true =>
     simp [h_a, h_b, h_c, h_d] at h
    | false =>
     cases h_e : (decide (f.vals < 0)) with
     | true =>
      simp [h_a, h_b, h_c, h_d, h_e] at h
     | false =>
      cases h_g : (decide (60000 < f.vals)) with
      | true =>
       simp [h_a, h_b, h_c, h_d, h_e, h_g] at h
      | false =>
       cases h_h : (decide ((f.blocks.length : Int) < 1)) with
       | true =>
        simp [h_a, h_b, h_c, h_d, h_e, h_g, h_h] at h
       | false =>
        cases h_i : (decide ((60000 : Int) < f.blocks.length)) with
        | true =>
         simp [h_a, h_b, h_c, h_d, h_e, h_g, h_h, h_i] at h
        | false =>
         exact f58B_F1 c f u4 h4 g r h29 h39 h44 hrl h13 h49 row hrow hr0 h43 b0 hb0 hp0 u25 h25  h_a h_b h_c h_d h_e h_g h_h h_i
theorem f58G_F1 (u4 : Nat → Nat) (h4 : RE 437 (.loop (lO 58 4)) (fhL f 0) (fhE c f fun _ => 0) (.exit 0) (pt58) (fhE c f u4)) (g : Graph) (r : List Bool) (h29 : Pure Pg 29 [funD f] [rowsN g]) (h39 : Pure Pg 39 [rowsN g] [.int .i64 0]) (h44 : Pure Pg 44 [rowsN g, .int .i64 0, .int .i64 (-1)] [rowB r]) (hrl : r.length = (r.map D.bool).length) (h13 : RE 437 (.loop (lO 58 13)) (frL r g 0) (frE c f) (.exit 2) ((pt58 ++ [(7, .d (rowsN g))])) (frE c f)) (h49 : Pure Pg 49 [rowsN g] [fromD g]) (row : List Nat) (hrow : (intoOf g)[0]? = some row) (hr0 : decide ((0 : Int) < (row.length : Int)) = false) (h43 : Pure Pg 43 [rowsN g] [.ro (trD g)]) (b0 : BlkR) (hb0 : f.blocks[0]? = some b0) (hp0 : decide ((0 : Int) < (b0.phis.length : Int)) = false) (u25 : Nat → Nat) (h25 : RE 437 (.loop (lO 58 25)) (fuB f g 0) (fuHB c f fun _ => 0) (.exit 4) ([]) (fuHB c f u25)) (h_a : (decide (f.params < 0)) = false) (h_b : (decide (6 < f.params)) = false) (h_c : (decide (f.vars < 0)) = false) (h_d : (decide (255 < f.vars)) = false) (h_e : (decide (f.vals < 0)) = false) (h_g : (decide (60000 < f.vals)) = false) (h_h : (decide ((f.blocks.length : Int) < 1)) = false) (h_i : (decide ((60000 : Int) < f.blocks.length)) = false)  :
    Pure Pg 58 [codeD c, funD f] [.bool true] :=
 qU { loops := fun f' q => if f' = 58 then (if q = 4 then qP h4 else if q = 13 then qP h13 else if q = 25 then qP h25 else none) else none, hint := qT 58 [(35, qB h_a), (39, qB h_b), (44, qB h_c), (49, qB h_d), (54, qB h_e), (59, qB h_g), (64, hLenM Pg blkD f.blocks), (65, qB h_h), (70, hLenM Pg blkD f.blocks), (71, qB h_i), (75, hLenM Pg blkD f.blocks), (102, .call 29 _ _ h29), (104, .call 39 _ _ h39), (107, .call 44 _ _ h44), (108, hNat Pg ((r.map D.bool).length : Int) r.length (by rw [← hrl])), (117, .call 49 _ _ h49), (119, hIxM Pg rowN (intoOf g) 0 row hrow), (121, hLenN Pg row), (122, qB hr0), (124, .call 43 _ _ h43), (127, hIxM Pg blkD f.blocks 0 b0 hb0), (130, hLenM Pg instD b0.phis), (131, qB hp0), (134, hLenM Pg blkD f.blocks)] }
theorem f58G_F (u4 : Nat → Nat) (h4 : RE 437 (.loop (lO 58 4)) (fhL f 0) (fhE c f fun _ => 0) (.exit 0) (pt58) (fhE c f u4)) (g : Graph) (r : List Bool) (h29 : Pure Pg 29 [funD f] [rowsN g]) (h39 : Pure Pg 39 [rowsN g] [.int .i64 0]) (h44 : Pure Pg 44 [rowsN g, .int .i64 0, .int .i64 (-1)] [rowB r]) (hrl : r.length = (r.map D.bool).length) (h13 : RE 437 (.loop (lO 58 13)) (frL r g 0) (frE c f) (.exit 2) ((pt58 ++ [(7, .d (rowsN g))])) (frE c f)) (h49 : Pure Pg 49 [rowsN g] [fromD g]) (row : List Nat) (hrow : (intoOf g)[0]? = some row) (hr0 : decide ((0 : Int) < (row.length : Int)) = false) (h43 : Pure Pg 43 [rowsN g] [.ro (trD g)]) (b0 : BlkR) (hb0 : f.blocks[0]? = some b0) (hp0 : decide ((0 : Int) < (b0.phis.length : Int)) = false) (u25 : Nat → Nat) (h25 : RE 437 (.loop (lO 58 25)) (fuB f g 0) (fuHB c f fun _ => 0) (.exit 4) ([]) (fuHB c f u25)) (h : ((decide (f.params < 0)) || ((decide (6 < f.params)) || ((decide (f.vars < 0)) || ((decide (255 < f.vars)) || ((decide (f.vals < 0)) || ((decide (60000 < f.vals)) || ((decide ((f.blocks.length : Int) < 1)) || (decide ((60000 : Int) < f.blocks.length))))))))) = false)  :
    Pure Pg 58 [codeD c, funD f] [.bool true] := by
 cases h_a : (decide (f.params < 0)) with
 | true =>
  simp [h_a] at h
 | false =>
  cases h_b : (decide (6 < f.params)) with
  | true =>
   simp [h_a, h_b] at h
  | false =>
   cases h_c : (decide (f.vars < 0)) with
   | true =>
    simp [h_a, h_b, h_c] at h
   | false =>
    cases h_d : (decide (255 < f.vars)) with
    | true =>
     simp [h_a, h_b, h_c, h_d] at h
    | false =>
     cases h_e : (decide (f.vals < 0)) with
     | true =>
      simp [h_a, h_b, h_c, h_d, h_e] at h
     | false =>
      cases h_g : (decide (60000 < f.vals)) with
      | true =>
       simp [h_a, h_b, h_c, h_d, h_e, h_g] at h
      | false =>
       cases h_h : (decide ((f.blocks.length : Int) < 1)) with
       | true =>
        simp [h_a, h_b, h_c, h_d, h_e, h_g, h_h] at h
       | false =>
        cases h_i : (decide ((60000 : Int) < f.blocks.length)) with
        | true =>
         simp [h_a, h_b, h_c, h_d, h_e, h_g, h_h, h_i] at h
        | false =>
         exact f58G_F1 c f u4 h4 g r h29 h39 h44 hrl h13 h49 row hrow hr0 h43 b0 hb0 hp0 u25 h25  h_a h_b h_c h_d h_e h_g h_h h_i
end
end Go.Avm
namespace Go.Avm
open Go.Proofs Go.Avm.Dom
def gOf (f : FunR) : Graph := (graphOf f).map fun r => r.map Int.toNat
theorem gOf_nat {f : FunR} (h : okG (graphOf f) = true) : graphOf f = natG (gOf f) ∧ Valid (gOf f) := by
 obtain ⟨g, e, hg⟩ := nat_of_ok h
 have e2 : gOf f = g := by
  unfold gOf
  rw [e]
  simp [natG, natR, List.map_map, Function.comp_def]
 rw [e2]
 exact ⟨e, hg⟩
theorem gOf_len (f : FunR) : (gOf f).length = f.blocks.length := by simp [gOf, graphOf]
noncomputable def funR (c : CodeR) (f : FunR) : Bool :=
 !(numBad f) && (headsOk f && (okG (graphOf f) && ((reachL (gOf f) 0 none).all id && (((intoOf (gOf f)).getD 0 []).isEmpty && ((f.blocks.getD 0 ⟨[], [], 0, 0, 0, 0⟩).phis.isEmpty && blksOk c f (gOf f))))))
theorem succB_len (b : BlkR) : (succB b).length ≤ 2 := by
 unfold succB
 split
 ·simp
 ·split <;> simp
theorem gOf_small (f : FunR) : ∀ l ∈ gOf f, l.length < 1000000000 := fun l hl => by
 obtain ⟨r, hr, rfl⟩ := List.mem_map.1 hl
 obtain ⟨b, _, rfl⟩ := List.mem_map.1 hr
 have := succB_len b
 rw [List.length_map]
 omega
theorem pos_false {α : Type} {l : List α} (h : l.isEmpty = true) : decide ((0 : Int) < (l.length : Int)) = false := by
 have : l = [] := by simpa using h
 subst this
 rfl
theorem pos_true {α : Type} {l : List α} (h : l.isEmpty = false) : decide ((0 : Int) < (l.length : Int)) = true := by
 cases l with
 | nil => cases h
 | cons a l => exact dec_true (by simp only [List.length_cons]; omega)
theorem fun58 (c : CodeR) (f : FunR) (hf : fineF f) (hn : szF f < 500000000) (hw : wfF f) : Pure Pg 58 [codeD c, funD f] [.bool (funR c f)] := by
 unfold funR
 cases hnum : numBad f with
 | true => exact f58N_T c f hnum
 | false =>
  cases hh : headsOk f with
  | false =>
   obtain ⟨u4, h4⟩ := fhFail c f (fun _ => 0) hf.1 hh
   exact f58H_F c f u4 h4 hnum
  | true =>
   obtain ⟨u4, h4⟩ := fhGood c f (fun _ => 0) hf.1 hh
   have hb : 0 < f.blocks.length ∧ f.blocks.length ≤ 60000 := by
    simp only [numBad, Bool.or_eq_false_iff, decide_eq_false_iff_not] at hnum
    omega
   have h29 := graph29 f hf.1
   have h39 := check39 (graphOf f) (by simp [graphOf]; omega) (fun r hr => by
    obtain ⟨b, _, rfl⟩ := List.mem_map.1 hr
    have := succB_len b
    omega)
   cases hk : okG (graphOf f) with
   | false =>
    rw [hk] at h39
    exact f58C_F c f u4 h4 _ h29 h39 hnum
   | true =>
    rw [hk] at h39
    obtain ⟨e, hg⟩ := gOf_nat hk
    have hlen := gOf_len f
    have hsr := succ_len (g := gOf f) (gOf_small f)
    rw [e] at h29 h39
    have h44 := reachC hg (but := none) (n := 0) (by omega) (by omega) hsr
    have hrl : (reachL (gOf f) 0 none).length = ((reachL (gOf f) 0 none).map D.bool).length := by simp
    have hr4 : (reachL (gOf f) 0 none).length < 4000000 := by simp [reachL]; omega
    cases hr : (reachL (gOf f) 0 none).all id with
    | false => exact f58R_F c f u4 h4 _ _ h29 h39 h44 hrl (frFail c f (gOf f) _ hr4 hr) hnum
    | true =>
     have h13 := frGood c f (gOf f) _ hr4 hr
     have h49 := refIntoC (g := gOf f) (by omega) hsr
     have hrow : (intoOf (gOf f))[0]? = some ((intoOf (gOf f)).getD 0 []) := by
      rw [List.getD_eq_getElem?_getD, get_of (by simp [intoOf]; omega)]
      rfl
     cases hi : ((intoOf (gOf f)).getD 0 []).isEmpty with
     | false => exact f58I_F c f u4 h4 _ _ h29 h39 h44 hrl h13 h49 _ hrow (pos_true hi) hnum
     | true =>
      have h43 := domsC hg (by omega) hsr
      have hb0 : f.blocks[0]? = some (f.blocks.getD 0 ⟨[], [], 0, 0, 0, 0⟩) := by
       rw [List.getD_eq_getElem?_getD, get_of hb.1]
       rfl
      cases hp : (f.blocks.getD 0 ⟨[], [], 0, 0, 0, 0⟩).phis.isEmpty with
      | false => exact f58P_F c f u4 h4 _ _ h29 h39 h44 hrl h13 h49 _ hrow (pos_false hi) h43 _ hb0 (pos_true hp) hnum
      | true =>
       cases hbs : blksOk c f (gOf f) with
       | false =>
        obtain ⟨u25, h25⟩ := blkFail c f (gOf f) hf hn hlen hw hbs (fun _ => 0)
        exact f58B_F c f u4 h4 _ _ h29 h39 h44 hrl h13 h49 _ hrow (pos_false hi) h43 _ hb0 (pos_false hp) u25 h25 hnum
       | true =>
        obtain ⟨u25, h25⟩ := blkLoop c f (gOf f) hf hn hlen hw hbs (fun _ => 0)
        exact f58G_F c f u4 h4 _ _ h29 h39 h44 hrl h13 h49 _ hrow (pos_false hi) h43 _ hb0 (pos_false hp) u25 h25 hnum
end Go.Avm
namespace Go.Avm
open Go.Proofs Go.Avm.Dom
def rcE (c : CodeR) : List (Nat × Ent) := [(1, ⟨1, some (.arr 1 (boxC c))⟩)]
def rcS (c : CodeR) (i : Nat) : List (Nat × AV) := [(1, .ptr 1 1 0 0 1), (32, .d (stopsD c.stops)), (33, dN c.stops.length), (34, dN i)]
def rcF (c : CodeR) (i : Nat) : List (Nat × AV) := [(1, .ptr 1 1 0 0 1), (43, .d (funsD c.funs)), (44, dN c.funs.length), (45, dN i)]
def rcFE (c : CodeR) (u : Nat → Nat) : List (Nat × Ent) := rcE c ++ tm u [500168] 0
section
variable (c : CodeR) (i : Nat) (s : List (Int × Int)) (f : FunR) (u : Nat → Nat)
theorem rcSRound (hi : i < c.stops.length) (hl : c.stops.length < 4000000) (hx : c.stops[i]? = some s) (hs : ((s.length : Int) == 0) = false) : RW 54 (lO 19 6) (rcS c i) (rcE c) .normal (rcS c (i + 1)) (rcE c) := qS { hint := qT 19 [(35, qL hi), (36, hIxM Pg spotsD c.stops i s hx), (39, hLenM Pg spotD s), (40, qB hs), (41, hSucc Pg i (by omega))] } 19 500000
theorem rcSBad (hi : i < c.stops.length) (hx : c.stops[i]? = some s) (hs : ((s.length : Int) == 0) = true) : RW 54 (lO 19 6) (rcS c i) (rcE c) .ret [(2, dI 3)] (rcE c) := qS { hint := qT 19 [(35, qL hi), (36, hIxM Pg spotsD c.stops i s hx), (39, hLenM Pg spotD s), (40, qB hs)] } 19 500000
theorem rcSStop : RW 54 (lO 19 6) (rcS c c.stops.length) (rcE c) (.exit 0) [(1, .ptr 1 1 0 0 1)] (rcE c) := qS { hint := qT 19 [(35, qG c.stops.length)] } 19 500000
def stopsOk (c : CodeR) : Bool := c.stops.all fun s => !((s.length : Int) == 0)
theorem rcSGood (hl : c.stops.length < 4000000) (h : stopsOk c = true) : RE 54 (.loop (lO 19 6)) (rcS c 0) (rcE c) (.exit 0) [(1, .ptr 1 1 0 0 1)] (rcE c) := fun rest X hP hN =>
 (lw_count c.stops.length (fun i => ⟨envOf (rcS c i), ovl (rcE c) rest⟩) (by simp) (fun i hi => rcSRound c i c.stops[i] hi hl (get_of hi) (not_f (List.all_eq_true.1 h _ (List.getElem_mem hi))) rest X hP hN) (rcSStop c rest X hP hN)).aw
theorem rcSFail (hl : c.stops.length < 4000000) (h : stopsOk c = false) : RE 54 (.loop (lO 19 6)) (rcS c 0) (rcE c) .ret [(2, dI 3)] (rcE c) := by
 intro rest X hP hN
 rcases first_bad (fun s : List (Int × Int) => !((s.length : Int) == 0)) c.stops with h' | ⟨j, s, h1, h2, h3⟩
 ·unfold stopsOk at h; rw [h'] at h; cases h
 ·have hj : j < c.stops.length := (List.getElem?_eq_some_iff.1 h1).1
  exact (lw_count j (fun i => ⟨envOf (rcS c i), ovl (rcE c) rest⟩) (by simp) (fun i hi => rcSRound c i _ (by omega) hl (get_of (by omega)) (not_f (h3 i _ hi (get_of (by omega)))) rest X hP hN) (rcSBad c j s hj h1 (not_t h2) rest X hP hN)).aw
theorem rcFRound (hi : i < c.funs.length) (hl : c.funs.length < 4000000) (hx : c.funs[i]? = some f) (h58 : Pure Pg 58 [codeD c, funD f] [.bool true]) : RW 54 (lO 19 12) (rcF c i) (rcFE c u) .normal (rcF c (i + 1)) (rcFE c (addL u [1])) := qS { hint := qT 19 [(46, qL hi), (47, hIxM Pg funD c.funs i f hx), (51, .call 58 _ _ h58), (53, hSucc Pg i (by omega))] } 19 500000
theorem rcFBad (hi : i < c.funs.length) (hx : c.funs[i]? = some f) (h58 : Pure Pg 58 [codeD c, funD f] [.bool false]) : RW 54 (lO 19 12) (rcF c i) (rcFE c u) .ret [(2, dI 3)] (rcFE c (addL u [1])) := qS { hint := qT 19 [(46, qL hi), (47, hIxM Pg funD c.funs i f hx), (51, .call 58 _ _ h58)] } 19 500000
theorem rcFStop : RW 54 (lO 19 12) (rcF c c.funs.length) (rcFE c u) (.exit 2) [] (rcFE c u) := qS { hint := qT 19 [(46, qG c.funs.length)] } 19 500000
structure CodeR.Good (c : CodeR) : Prop where
 fine : c.Fine
 size : szC c < 500000000
 wf : ∀ f ∈ c.funs, wfF f
theorem szF_le {c : CodeR} {f : FunR} (h : f ∈ c.funs) : szF f ≤ szC c := by
 obtain ⟨i, hi, rfl⟩ := List.mem_iff_getElem.1 h
 exact sum_get szF (get_of hi)
noncomputable def funsOk (c : CodeR) : Bool := c.funs.all (funR c)
theorem rcFStep (h : c.Good) (hi : i < c.funs.length) (hok : funR c c.funs[i] = true) : RW 54 (lO 19 12) (rcF c i) (rcFE c u) .normal (rcF c (i + 1)) (rcFE c (addL u [1])) := by
 intro rest X hP hN
 have h58 := fun58 c c.funs[i] (h.fine.fn _ (List.getElem_mem hi)) (by have := szF_le (List.getElem_mem hi); have := h.size; omega) (h.wf _ (List.getElem_mem hi))
 rw [hok] at h58
 exact rcFRound c i _ u hi h.fine.funs (get_of hi) h58 rest X hP hN
theorem rcFGood (h : c.Good) (hok : funsOk c = true) : ∃ u', RE 54 (.loop (lO 19 12)) (rcF c 0) (rcFE c u) (.exit 2) [] (rcFE c u') :=
 lw_ver (P := Pg) (N := 54) (c := loopOf Pg 19 12) c.funs.length (fun i u rest => ⟨envOf (rcF c i), ovl (rcFE c u) rest⟩) (fun u rest => ⟨envOf [], ovl (rcFE c u) rest⟩) (e := .exit 2) (by simp)
  (fun i hi u => ⟨addL u [1], fun rest X hP hN => rcFStep c i u h hi (List.all_eq_true.1 hok _ (List.getElem_mem hi)) rest X hP hN⟩)
  (fun u => ⟨u, fun rest X hP hN => rcFStop c u rest X hP hN⟩) u
theorem rcFFail (h : c.Good) (hok : funsOk c = false) : ∃ u', RE 54 (.loop (lO 19 12)) (rcF c 0) (rcFE c u) .ret [(2, dI 3)] (rcFE c u') := by
 rcases first_bad (funR c) c.funs with h' | ⟨j, f, h1, h2, h3⟩
 ·unfold funsOk at hok; rw [h'] at hok; cases hok
 ·have hj : j < c.funs.length := (List.getElem?_eq_some_iff.1 h1).1
  have hmem := List.mem_of_getElem? h1
  have h58 := fun58 c f (h.fine.fn _ hmem) (by have := szF_le hmem; have := h.size; omega) (h.wf _ hmem)
  rw [h2] at h58
  exact lw_ver (P := Pg) (N := 54) (c := loopOf Pg 19 12) j (fun i u rest => ⟨envOf (rcF c i), ovl (rcFE c u) rest⟩) (fun u rest => ⟨envOf [(2, dI 3)], ovl (rcFE c u) rest⟩) (e := .ret) (by simp)
   (fun i hi u => ⟨addL u [1], fun rest X hP hN => rcFStep c i u h (by omega) (h3 i _ hi (get_of (by omega))) rest X hP hN⟩)
   (fun u => ⟨addL u [1], fun rest X hP hN => rcFBad c j f u hj h1 h58 rest X hP hN⟩) u
end
def mainAt (c : CodeR) : FunR := c.funs.getD c.main.toNat fun0
def mainBad (c : CodeR) : Bool := ((decide (c.main < 0)) || ((decide ((c.funs.length : Int) ≤ c.main)) || (!((mainAt c).params == 0))))
section
variable (c : CodeR) (h23 : Pure Pg 23 [codeD c] [.int .i64 (szC c : Int)])
include c h23
theorem rcBig_T1 (h_z : (decide ((40000 : Int) < (szC c : Int))) = true)  :
    Pure Pg 19 [codeD c] [.int .i64 15] :=
 qU { hint := qT 19 [(8, .call 23 _ _ h23), (9, qB h_z)] }
theorem rcBig_T (h : (decide ((40000 : Int) < (szC c : Int))) = true)  :
    Pure Pg 19 [codeD c] [.int .i64 15] := by
 cases h_z : (decide ((40000 : Int) < (szC c : Int))) with
 | true =>
  exact rcBig_T1 c h23  h_z
 | false =>
  simp [h_z] at h
theorem rcMain_T1 (hz : decide ((40000 : Int) < (szC c : Int)) = false) (hm : 0 ≤ c.main → c.main.toNat < c.funs.length → c.funs[c.main.toNat]? = some (mainAt c)) (h_p : (decide (c.main < 0)) = true)  :
    Pure Pg 19 [codeD c] [.int .i64 3] :=
 qU { hint := qT 19 [(8, .call 23 _ _ h23), (9, qB hz), (12, qB h_p)] }
theorem rcMain_T2 (hz : decide ((40000 : Int) < (szC c : Int)) = false) (hm : 0 ≤ c.main → c.main.toNat < c.funs.length → c.funs[c.main.toNat]? = some (mainAt c)) (h_p : (decide (c.main < 0)) = false) (h_q : (decide ((c.funs.length : Int) ≤ c.main)) = true)  :
    Pure Pg 19 [codeD c] [.int .i64 3] :=
 qU { hint := qT 19 [(8, .call 23 _ _ h23), (9, qB hz), (12, qB h_p), (18, hLenM Pg funD c.funs), (19, qB h_q)] }
theorem rcMain_T3 (hz : decide ((40000 : Int) < (szC c : Int)) = false) (hm : 0 ≤ c.main → c.main.toNat < c.funs.length → c.funs[c.main.toNat]? = some (mainAt c)) (h_p : (decide (c.main < 0)) = false) (h_q : (decide ((c.funs.length : Int) ≤ c.main)) = false) (h_r : (!((mainAt c).params == 0)) = true)  :
    Pure Pg 19 [codeD c] [.int .i64 3] :=
 qU { hint := qT 19 [(8, .call 23 _ _ h23), (9, qB hz), (12, qB h_p), (18, hLenM Pg funD c.funs), (19, qB h_q), (26, hIxZ Pg funD c.funs c.main (mainAt c) (by simp at h_p; omega) (hm (by simp at h_p; omega) (by simp at h_p h_q; omega))), (29, qB h_r)] }
theorem rcMain_T (hz : decide ((40000 : Int) < (szC c : Int)) = false) (hm : 0 ≤ c.main → c.main.toNat < c.funs.length → c.funs[c.main.toNat]? = some (mainAt c)) (h : ((decide (c.main < 0)) || ((decide ((c.funs.length : Int) ≤ c.main)) || (!((mainAt c).params == 0)))) = true)  :
    Pure Pg 19 [codeD c] [.int .i64 3] := by
 cases h_p : (decide (c.main < 0)) with
 | true =>
  exact rcMain_T1 c h23 hz hm  h_p
 | false =>
  cases h_q : (decide ((c.funs.length : Int) ≤ c.main)) with
  | true =>
   exact rcMain_T2 c h23 hz hm  h_p h_q
  | false =>
   cases h_r : (!((mainAt c).params == 0)) with
   | true =>
    exact rcMain_T3 c h23 hz hm  h_p h_q h_r
   | false =>
    simp [h_p, h_q, h_r] at h
end
end Go.Avm
namespace Go.Avm
open Go.Proofs Go.Avm.Dom
section
variable (c : CodeR) (h23 : Pure Pg 23 [codeD c] [.int .i64 (szC c : Int)]) (hz : decide ((40000 : Int) < (szC c : Int)) = false) (hm : 0 ≤ c.main → c.main.toNat < c.funs.length → c.funs[c.main.toNat]? = some (mainAt c))
include c h23 hz hm
theorem rcStops_F1 (h6 : RE 54 (.loop (lO 19 6)) (rcS c 0) (rcE c) .ret ([(2, dI 3)]) (rcE c)) (h_p : (decide (c.main < 0)) = false) (h_q : (decide ((c.funs.length : Int) ≤ c.main)) = false) (h_r : (!((mainAt c).params == 0)) = false)  :
    Pure Pg 19 [codeD c] [.int .i64 3] :=
 qU { loops := qO 19 6 (qP h6), hint := qT 19 [(8, .call 23 _ _ h23), (9, qB hz), (12, qB h_p), (18, hLenM Pg funD c.funs), (19, qB h_q), (26, hIxZ Pg funD c.funs c.main (mainAt c) (by simp at h_p; omega) (hm (by simp at h_p; omega) (by simp at h_p h_q; omega))), (29, qB h_r), (33, hLenM Pg spotsD c.stops)] }
theorem rcStops_F (h6 : RE 54 (.loop (lO 19 6)) (rcS c 0) (rcE c) .ret ([(2, dI 3)]) (rcE c)) (h : ((decide (c.main < 0)) || ((decide ((c.funs.length : Int) ≤ c.main)) || (!((mainAt c).params == 0)))) = false)  :
    Pure Pg 19 [codeD c] [.int .i64 3] := by
 cases h_p : (decide (c.main < 0)) with
 | true =>
  simp [h_p] at h
 | false =>
  cases h_q : (decide ((c.funs.length : Int) ≤ c.main)) with
  | true =>
   simp [h_p, h_q] at h
  | false =>
   cases h_r : (!((mainAt c).params == 0)) with
   | true =>
    simp [h_p, h_q, h_r] at h
   | false =>
    exact rcStops_F1 c h23 hz hm h6  h_p h_q h_r
theorem rcFuns_F1 (h6 : RE 54 (.loop (lO 19 6)) (rcS c 0) (rcE c) (.exit 0) ([(1, .ptr 1 1 0 0 1)]) (rcE c)) (u' : Nat → Nat) (h12 : RE 54 (.loop (lO 19 12)) (rcF c 0) (rcFE c fun _ => 0) .ret ([(2, dI 3)]) (rcFE c u')) (h_p : (decide (c.main < 0)) = false) (h_q : (decide ((c.funs.length : Int) ≤ c.main)) = false) (h_r : (!((mainAt c).params == 0)) = false)  :
    Pure Pg 19 [codeD c] [.int .i64 3] :=
 qU { loops := fun f' q => if f' = 19 then (if q = 6 then qP h6 else if q = 12 then qP h12 else none) else none, hint := qT 19 [(8, .call 23 _ _ h23), (9, qB hz), (12, qB h_p), (18, hLenM Pg funD c.funs), (19, qB h_q), (26, hIxZ Pg funD c.funs c.main (mainAt c) (by simp at h_p; omega) (hm (by simp at h_p; omega) (by simp at h_p h_q; omega))), (29, qB h_r), (33, hLenM Pg spotsD c.stops), (44, hLenM Pg funD c.funs)] }
theorem rcFuns_F (h6 : RE 54 (.loop (lO 19 6)) (rcS c 0) (rcE c) (.exit 0) ([(1, .ptr 1 1 0 0 1)]) (rcE c)) (u' : Nat → Nat) (h12 : RE 54 (.loop (lO 19 12)) (rcF c 0) (rcFE c fun _ => 0) .ret ([(2, dI 3)]) (rcFE c u')) (h : ((decide (c.main < 0)) || ((decide ((c.funs.length : Int) ≤ c.main)) || (!((mainAt c).params == 0)))) = false)  :
    Pure Pg 19 [codeD c] [.int .i64 3] := by
 cases h_p : (decide (c.main < 0)) with
 | true =>
  simp [h_p] at h
 | false =>
  cases h_q : (decide ((c.funs.length : Int) ≤ c.main)) with
  | true =>
   simp [h_p, h_q] at h
  | false =>
   cases h_r : (!((mainAt c).params == 0)) with
   | true =>
    simp [h_p, h_q, h_r] at h
   | false =>
    exact rcFuns_F1 c h23 hz hm h6 u' h12  h_p h_q h_r
theorem rcAll_F1 (h6 : RE 54 (.loop (lO 19 6)) (rcS c 0) (rcE c) (.exit 0) ([(1, .ptr 1 1 0 0 1)]) (rcE c)) (u' : Nat → Nat) (h12 : RE 54 (.loop (lO 19 12)) (rcF c 0) (rcFE c fun _ => 0) (.exit 2) ([]) (rcFE c u')) (h_p : (decide (c.main < 0)) = false) (h_q : (decide ((c.funs.length : Int) ≤ c.main)) = false) (h_r : (!((mainAt c).params == 0)) = false)  :
    Pure Pg 19 [codeD c] [.int .i64 0] :=
 qU { loops := fun f' q => if f' = 19 then (if q = 6 then qP h6 else if q = 12 then qP h12 else none) else none, hint := qT 19 [(8, .call 23 _ _ h23), (9, qB hz), (12, qB h_p), (18, hLenM Pg funD c.funs), (19, qB h_q), (26, hIxZ Pg funD c.funs c.main (mainAt c) (by simp at h_p; omega) (hm (by simp at h_p; omega) (by simp at h_p h_q; omega))), (29, qB h_r), (33, hLenM Pg spotsD c.stops), (44, hLenM Pg funD c.funs)] }
theorem rcAll_F (h6 : RE 54 (.loop (lO 19 6)) (rcS c 0) (rcE c) (.exit 0) ([(1, .ptr 1 1 0 0 1)]) (rcE c)) (u' : Nat → Nat) (h12 : RE 54 (.loop (lO 19 12)) (rcF c 0) (rcFE c fun _ => 0) (.exit 2) ([]) (rcFE c u')) (h : ((decide (c.main < 0)) || ((decide ((c.funs.length : Int) ≤ c.main)) || (!((mainAt c).params == 0)))) = false)  :
    Pure Pg 19 [codeD c] [.int .i64 0] := by
 cases h_p : (decide (c.main < 0)) with
 | true =>
  simp [h_p] at h
 | false =>
  cases h_q : (decide ((c.funs.length : Int) ≤ c.main)) with
  | true =>
   simp [h_p, h_q] at h
  | false =>
   cases h_r : (!((mainAt c).params == 0)) with
   | true =>
    simp [h_p, h_q, h_r] at h
   | false =>
    exact rcAll_F1 c h23 hz hm h6 u' h12  h_p h_q h_r
end
noncomputable def checkR (c : CodeR) : Int := if 40000 < szC c then 15 else if mainBad c = false ∧ stopsOk c = true ∧ funsOk c = true then 0 else 3
theorem check19 (c : CodeR) (h : c.Good) : Pure Pg 19 [codeD c] [.int .i64 (checkR c)] := by
 have h23 := size23 c h.fine.funs (fun f hf => (h.fine.fn f hf).1) (by have := h.size; omega)
 have hm : 0 ≤ c.main → c.main.toNat < c.funs.length → c.funs[c.main.toNat]? = some (mainAt c) := fun _ h2 => by
  unfold mainAt
  rw [List.getD_eq_getElem?_getD, get_of h2]
  rfl
 unfold checkR
 by_cases hz : 40000 < szC c
 ·rw [if_pos hz]
  exact rcBig_T c h23 (dec_true (by omega))
 ·rw [if_neg hz]
  have hz' : decide ((40000 : Int) < (szC c : Int)) = false := dec_false (by omega)
  cases h1 : mainBad c with
  | true =>
   rw [if_neg (by simp)]
   exact rcMain_T c h23 hz' hm h1
  | false =>
   cases h2 : stopsOk c with
   | false =>
    rw [if_neg (by simp)]
    exact rcStops_F c h23 hz' hm (fun rest X hP hN => rcSFail c h.fine.stops h2 rest X hP hN) h1
   | true =>
    have h6 := fun rest X hP hN => rcSGood c h.fine.stops h2 rest X hP hN
    cases h3 : funsOk c with
    | false =>
     obtain ⟨u', h12⟩ := rcFFail c (fun _ => 0) h h3
     rw [if_neg (by simp)]
     exact rcFuns_F c h23 hz' hm h6 u' h12 h1
    | true =>
     obtain ⟨u', h12⟩ := rcFGood c (fun _ => 0) h h3
     rw [if_pos (by simp)]
     exact rcAll_F c h23 hz' hm h6 u' h12 h1
end Go.Avm
namespace Go.Avm
open Go.Proofs Go.Avm.Dom
def AllLoop {V : Type} (P : Program) (N : Nat) (c : Code) (S0 Zg Zb : V → Heap → St) (e : AExit) (all : Bool) : Prop := ∀ u : V,
    (all = true → ∃ u', ∀ (rest : Heap) (X : Fix), X.P = P → X.N = N → AW X (.loop c) (S0 u rest) fun e' S' => e' = e ∧ S' = Zg u' rest) ∧
    (all = false → ∃ u', ∀ (rest : Heap) (X : Fix), X.P = P → X.N = N → AW X (.loop c) (S0 u rest) fun e' S' => e' = .ret ∧ S' = Zb u' rest)
theorem lw_list {P : Program} {N : Nat} {c : Code} {V α : Type} (l : List α) (p : α → Bool) (S : Nat → V → Heap → St) (Zg Zb : V → Heap → St) {e : AExit} (he : e ≠ .normal)
    (hS : ∀ (i : Nat) (hi : i < l.length) (u : V), ∃ u', ∀ (rest : Heap) (X : Fix), X.P = P → X.N = N → AW X c (S i u rest) fun e' S' => e' = bE (p l[i]) ∧ Weak X S' (bif p l[i] then S (i + 1) u' rest else Zb u' rest))
    (hE : ∀ u, ∃ u', ∀ (rest : Heap) (X : Fix), X.P = P → X.N = N → AW X c (S l.length u rest) fun e' S' => e' = e ∧ Weak X S' (Zg u' rest)) : AllLoop P N c (S 0) Zg Zb e (l.all p) := by
 intro u
 constructor
 ·intro h
  exact lw_ver (P := P) (N := N) (c := c) l.length S Zg he (fun i hi u => by
   obtain ⟨u', hu⟩ := hS i hi u
   rw [List.all_eq_true.1 h _ (List.getElem_mem hi)] at hu
   exact ⟨u', hu⟩) hE u
 ·intro h
  rcases first_bad p l with h' | ⟨j, x, h1, h2, h3⟩
  ·rw [h'] at h; cases h
  ·have hj : j < l.length := (List.getElem?_eq_some_iff.1 h1).1
   have hx : l[j] = x := (List.getElem?_eq_some_iff.1 h1).2
   exact lw_ver (P := P) (N := N) (c := c) j S Zb (e := .ret) (by simp) (fun i hi u => by
    obtain ⟨u', hu⟩ := hS i (by omega) u
    rw [h3 i _ hi (get_of (by omega))] at hu
    exact ⟨u', hu⟩) (fun u => by
    obtain ⟨u', hu⟩ := hS j hj u
    rw [hx, h2] at hu
    exact ⟨u', hu⟩) u
def dbgPlain (x : InstR) (d : DbgR) : Bool := !((d.kind == 3) && ((x.op == 42) || (x.op == 39)))
def instPlain (x : InstR) : Bool := !((x.op == 43) || (x.op == 44)) && x.dbg.all (dbgPlain x)
def blkPlain (b : BlkR) : Bool := b.insts.all instPlain
def funPlain (f : FunR) : Bool := f.blocks.all blkPlain
def rpF (fs : List FunR) (i : Nat) : List (Nat × AV) := [(15, .d (funsD fs)), (16, dN fs.length), (17, dN i)]
def rpB (fs : List FunR) (i : Nat) (bs : List BlkR) (k : Nat) : List (Nat × AV) := rpF fs i ++ [(22, .d (blksD bs)), (23, dN bs.length), (24, dN k)]
def rpI (fs : List FunR) (i : Nat) (bs : List BlkR) (k : Nat) (l : List InstR) (m : Nat) : List (Nat × AV) := rpB fs i bs k ++ [(29, .d (instsD l)), (30, dN l.length), (31, dN m)]
def rpD (fs : List FunR) (i : Nat) (bs : List BlkR) (k : Nat) (l : List InstR) (m : Nat) (x : InstR) (vx j : Nat) : List (Nat × AV) := rpI fs i bs k l m ++ [(8, .ptr 500209 vx 0 0 1), (44, .d (dbgsD x.dbg)), (45, dN x.dbg.length), (46, dN j)]
def rpDE (x : InstR) (vx : Nat) (u : Nat → Nat) : List (Nat × Ent) := [(500209, ⟨vx, some (.arr 1 (cellsI x))⟩)] ++ tm u [500211] 0
section
variable (fs : List FunR) (i : Nat) (bs : List BlkR) (k : Nat) (l : List InstR) (m : Nat) (x : InstR) (vx j : Nat) (u : Nat → Nat) (d : DbgR) (hj : j < x.dbg.length) (hl : x.dbg.length < 4000000) (hxd : x.dbg[j]? = some d)
include fs i bs k l m x vx j u d hj hl hxd
theorem rpD_T1 (h_p : (d.kind == 3) = true) (h_q : (x.op == 42) = true) : RW 67 (lO 21 15) (rpD fs i bs k l m x vx j) (rpDE x vx u) .ret [(2, dB false)] (rpDE x vx (addL u [1])) := qS { hint := qT 21 [(47, qL hj), (48, hIxM Pg dbgD x.dbg j d hxd), (52, qB h_p), (56, qB h_q)] } 21 500000
theorem rpD_T2 (h_p : (d.kind == 3) = true) (h_q : (x.op == 42) = false) (h_r : (x.op == 39) = true) : RW 67 (lO 21 15) (rpD fs i bs k l m x vx j) (rpDE x vx u) .ret [(2, dB false)] (rpDE x vx (addL u [1])) := qS { hint := qT 21 [(47, qL hj), (48, hIxM Pg dbgD x.dbg j d hxd), (52, qB h_p), (56, qB h_q), (60, qB h_r)] } 21 500000
theorem rpD_T (h : ((d.kind == 3) && ((x.op == 42) || (x.op == 39))) = true) : RW 67 (lO 21 15) (rpD fs i bs k l m x vx j) (rpDE x vx u) .ret [(2, dB false)] (rpDE x vx (addL u [1])) := by
 intro rest X hP hN
 cases h_p : (d.kind == 3) with
 | true =>
  cases h_q : (x.op == 42) with
  | true =>
   exact rpD_T1 fs i bs k l m x vx j u d hj hl hxd  h_p h_q rest X hP hN
  | false =>
   cases h_r : (x.op == 39) with
   | true =>
    exact rpD_T2 fs i bs k l m x vx j u d hj hl hxd  h_p h_q h_r rest X hP hN
   | false =>
    simp [h_p, h_q, h_r] at h
 | false =>
  simp [h_p] at h
theorem rpD_F1 (h_p : (d.kind == 3) = true) (h_q : (x.op == 42) = false) (h_r : (x.op == 39) = false) : RW 67 (lO 21 15) (rpD fs i bs k l m x vx j) (rpDE x vx u) .normal (rpD fs i bs k l m x vx (j + 1)) (rpDE x vx (addL u [1])) := qS { hint := qT 21 [(47, qL hj), (48, hIxM Pg dbgD x.dbg j d hxd), (52, qB h_p), (56, qB h_q), (60, qB h_r), (63, hSucc Pg j (by omega))] } 21 500000
theorem rpD_F2 (h_p : (d.kind == 3) = false) : RW 67 (lO 21 15) (rpD fs i bs k l m x vx j) (rpDE x vx u) .normal (rpD fs i bs k l m x vx (j + 1)) (rpDE x vx (addL u [1])) := qS { hint := qT 21 [(47, qL hj), (48, hIxM Pg dbgD x.dbg j d hxd), (52, qB h_p), (63, hSucc Pg j (by omega))] } 21 500000
theorem rpD_F (h : ((d.kind == 3) && ((x.op == 42) || (x.op == 39))) = false) : RW 67 (lO 21 15) (rpD fs i bs k l m x vx j) (rpDE x vx u) .normal (rpD fs i bs k l m x vx (j + 1)) (rpDE x vx (addL u [1])) := by
 intro rest X hP hN
 cases h_p : (d.kind == 3) with
 | true =>
  cases h_q : (x.op == 42) with
  | true =>
   simp [h_p, h_q] at h
  | false =>
   cases h_r : (x.op == 39) with
   | true =>
    simp [h_p, h_q, h_r] at h
   | false =>
    exact rpD_F1 fs i bs k l m x vx j u d hj hl hxd  h_p h_q h_r rest X hP hN
 | false =>
  exact rpD_F2 fs i bs k l m x vx j u d hj hl hxd  h_p rest X hP hN
end
theorem rpDStop (fs : List FunR) (i : Nat) (bs : List BlkR) (k : Nat) (l : List InstR) (m : Nat) (x : InstR) (vx : Nat) (u : Nat → Nat) : RW 67 (lO 21 15) (rpD fs i bs k l m x vx x.dbg.length) (rpDE x vx u) (.exit 6) (rpI fs i bs k l m) (rpDE x vx u) := qS { hint := qT 21 [(47, qG x.dbg.length)] } 21 500000
theorem rpDLoop (fs : List FunR) (i : Nat) (bs : List BlkR) (k : Nat) (l : List InstR) (m : Nat) (x : InstR) (vx : Nat) (hl : x.dbg.length < 4000000) :
    AllLoop Pg 67 (lO 21 15) (fun u rest => ⟨envOf (rpD fs i bs k l m x vx 0), ovl (rpDE x vx u) rest⟩) (fun u rest => ⟨envOf (rpI fs i bs k l m), ovl (rpDE x vx u) rest⟩) (fun u rest => ⟨envOf [(2, dB false)], ovl (rpDE x vx u) rest⟩) (.exit 6) (x.dbg.all (dbgPlain x)) :=
 lw_list x.dbg (dbgPlain x) (fun j u rest => ⟨envOf (rpD fs i bs k l m x vx j), ovl (rpDE x vx u) rest⟩) _ _ (by simp)
 (fun j hj u => ⟨addL u [1], fun rest X hP hN => by
  cases h : dbgPlain x x.dbg[j] with
  | true => exact rpD_F fs i bs k l m x vx j u x.dbg[j] hj hl (get_of hj) (not_f h) rest X hP hN
  | false => exact rpD_T fs i bs k l m x vx j u x.dbg[j] hj hl (get_of hj) (not_t h) rest X hP hN⟩) (fun u => ⟨u, fun rest X hP hN => rpDStop fs i bs k l m x vx u rest X hP hN⟩)
def rpIE (u : Nat → Nat) : List (Nat × Ent) := tm u [500209, 500211] 0
section
variable (fs : List FunR) (i : Nat) (bs : List BlkR) (k : Nat) (l : List InstR) (m : Nat) (x : InstR) (u : Nat → Nat)
theorem rpX_T1 (fs : List FunR) (i : Nat) (bs : List BlkR) (k : Nat) (l : List InstR) (m : Nat) (x : InstR) (u : Nat → Nat) (hm : m < l.length) (hl : l.length < 4000000) (hxm : l[m]? = some x)  (h_p : (x.op == 43) = true) : RW 67 (lO 21 10) (rpI fs i bs k l m) (rpIE u) .ret [(2, dB false)] (rpIE (addL u [1])) := qS { hint := qT 21 [(32, qL hm), (33, hIxM Pg instD l m x hxm), (37, qB h_p)] } 21 500000
theorem rpX_T2 (fs : List FunR) (i : Nat) (bs : List BlkR) (k : Nat) (l : List InstR) (m : Nat) (x : InstR) (u : Nat → Nat) (hm : m < l.length) (hl : l.length < 4000000) (hxm : l[m]? = some x)  (h_p : (x.op == 43) = false) (h_q : (x.op == 44) = true) : RW 67 (lO 21 10) (rpI fs i bs k l m) (rpIE u) .ret [(2, dB false)] (rpIE (addL u [1])) := qS { hint := qT 21 [(32, qL hm), (33, hIxM Pg instD l m x hxm), (37, qB h_p), (41, qB h_q)] } 21 500000
theorem rpX_T (fs : List FunR) (i : Nat) (bs : List BlkR) (k : Nat) (l : List InstR) (m : Nat) (x : InstR) (u : Nat → Nat) (hm : m < l.length) (hl : l.length < 4000000) (hxm : l[m]? = some x)  (h : ((x.op == 43) || (x.op == 44)) = true) : RW 67 (lO 21 10) (rpI fs i bs k l m) (rpIE u) .ret [(2, dB false)] (rpIE (addL u [1])) := by
 intro rest X hP hN
 cases h_p : (x.op == 43) with
 | true =>
  exact rpX_T1 fs i bs k l m x u hm hl hxm  h_p rest X hP hN
 | false =>
  cases h_q : (x.op == 44) with
  | true =>
   exact rpX_T2 fs i bs k l m x u hm hl hxm  h_p h_q rest X hP hN
  | false =>
   simp [h_p, h_q] at h
theorem rpY_F1 (fs : List FunR) (i : Nat) (bs : List BlkR) (k : Nat) (l : List InstR) (m : Nat) (x : InstR) (u : Nat → Nat) (hm : m < l.length) (hl : l.length < 4000000) (hxm : l[m]? = some x) (u' : Nat → Nat) (hq : RE 67 (.loop (lO 21 15)) (rpD fs i bs k l m x (u 0 + 1) 0) (rpDE x (u 0 + 1) (sh1 u)) (.exit 6) (rpI fs i bs k l m) (rpDE x (u 0 + 1) u'))  (h_p : (x.op == 43) = false) (h_q : (x.op == 44) = false) : RW 67 (lO 21 10) (rpI fs i bs k l m) (rpIE u) .normal (rpI fs i bs k l (m + 1)) (rpIE (hx (u 0 + 1) u')) := qS { loops := qO 21 15 (qP hq), hint := qT 21 [(32, qL hm), (33, hIxM Pg instD l m x hxm), (37, qB h_p), (41, qB h_q), (45, hLenM Pg dbgD x.dbg), (64, hSucc Pg m (by omega))] } 21 500000
theorem rpY_F (fs : List FunR) (i : Nat) (bs : List BlkR) (k : Nat) (l : List InstR) (m : Nat) (x : InstR) (u : Nat → Nat) (hm : m < l.length) (hl : l.length < 4000000) (hxm : l[m]? = some x) (u' : Nat → Nat) (hq : RE 67 (.loop (lO 21 15)) (rpD fs i bs k l m x (u 0 + 1) 0) (rpDE x (u 0 + 1) (sh1 u)) (.exit 6) (rpI fs i bs k l m) (rpDE x (u 0 + 1) u'))  (h : ((x.op == 43) || (x.op == 44)) = false) : RW 67 (lO 21 10) (rpI fs i bs k l m) (rpIE u) .normal (rpI fs i bs k l (m + 1)) (rpIE (hx (u 0 + 1) u')) := by
 intro rest X hP hN
 cases h_p : (x.op == 43) with
 | true =>
  simp [h_p] at h
 | false =>
  cases h_q : (x.op == 44) with
  | true =>
   simp [h_p, h_q] at h
  | false =>
   exact rpY_F1 fs i bs k l m x u hm hl hxm u' hq  h_p h_q rest X hP hN
theorem rpZ_F1 (fs : List FunR) (i : Nat) (bs : List BlkR) (k : Nat) (l : List InstR) (m : Nat) (x : InstR) (u : Nat → Nat) (hm : m < l.length) (hl : l.length < 4000000) (hxm : l[m]? = some x) (u' : Nat → Nat) (hq : RE 67 (.loop (lO 21 15)) (rpD fs i bs k l m x (u 0 + 1) 0) (rpDE x (u 0 + 1) (sh1 u)) .ret [(2, dB false)] (rpDE x (u 0 + 1) u'))  (h_p : (x.op == 43) = false) (h_q : (x.op == 44) = false) : RW 67 (lO 21 10) (rpI fs i bs k l m) (rpIE u) .ret [(2, dB false)] (rpIE (hx (u 0 + 1) u')) := qS { loops := qO 21 15 (qP hq), hint := qT 21 [(32, qL hm), (33, hIxM Pg instD l m x hxm), (37, qB h_p), (41, qB h_q), (45, hLenM Pg dbgD x.dbg)] } 21 500000
theorem rpZ_F (fs : List FunR) (i : Nat) (bs : List BlkR) (k : Nat) (l : List InstR) (m : Nat) (x : InstR) (u : Nat → Nat) (hm : m < l.length) (hl : l.length < 4000000) (hxm : l[m]? = some x) (u' : Nat → Nat) (hq : RE 67 (.loop (lO 21 15)) (rpD fs i bs k l m x (u 0 + 1) 0) (rpDE x (u 0 + 1) (sh1 u)) .ret [(2, dB false)] (rpDE x (u 0 + 1) u'))  (h : ((x.op == 43) || (x.op == 44)) = false) : RW 67 (lO 21 10) (rpI fs i bs k l m) (rpIE u) .ret [(2, dB false)] (rpIE (hx (u 0 + 1) u')) := by
 intro rest X hP hN
 cases h_p : (x.op == 43) with
 | true =>
  simp [h_p] at h
 | false =>
  cases h_q : (x.op == 44) with
  | true =>
   simp [h_p, h_q] at h
  | false =>
   exact rpZ_F1 fs i bs k l m x u hm hl hxm u' hq  h_p h_q rest X hP hN
theorem rpIStop : RW 67 (lO 21 10) (rpI fs i bs k l l.length) (rpIE u) (.exit 4) (rpB fs i bs k) (rpIE u) := qS { hint := qT 21 [(32, qG l.length)] } 21 500000
theorem rpILoop (hs : smallIs l) : AllLoop Pg 67 (lO 21 10) (fun u rest => ⟨envOf (rpI fs i bs k l 0), ovl (rpIE u) rest⟩) (fun u rest => ⟨envOf (rpB fs i bs k), ovl (rpIE u) rest⟩) (fun u rest => ⟨envOf [(2, dB false)], ovl (rpIE u) rest⟩) (.exit 4) (l.all instPlain) :=
 lw_list l instPlain (fun m u rest => ⟨envOf (rpI fs i bs k l m), ovl (rpIE u) rest⟩) _ _ (by simp)
 (fun m hm u => by
  have hd := (hs.2 _ (List.getElem_mem hm)).2
  have hL := rpDLoop fs i bs k l m l[m] (u 0 + 1) hd (sh1 u)
  unfold instPlain
  cases h1 : ((l[m].op == 43) || (l[m].op == 44)) with
  | true => exact ⟨addL u [1], fun rest X hP hN => rpX_T fs i bs k l m l[m] u hm hs.1 (get_of hm) h1 rest X hP hN⟩
  | false =>
   cases h2 : l[m].dbg.all (dbgPlain l[m]) with
   | true =>
    obtain ⟨u', hu⟩ := hL.1 h2
    exact ⟨hx (u 0 + 1) u', fun rest X hP hN => rpY_F fs i bs k l m l[m] u hm hs.1 (get_of hm) u' hu h1 rest X hP hN⟩
   | false =>
    obtain ⟨u', hu⟩ := hL.2 h2
    exact ⟨hx (u 0 + 1) u', fun rest X hP hN => rpZ_F fs i bs k l m l[m] u hm hs.1 (get_of hm) u' hu h1 rest X hP hN⟩) (fun u => ⟨u, fun rest X hP hN => rpIStop fs i bs k l u rest X hP hN⟩)
end
def rpBE (u : Nat → Nat) : List (Nat × Ent) := tm u [500209, 500211, 500207] 0
section
variable (fs : List FunR) (i : Nat) (bs : List BlkR) (k : Nat) (u u' : Nat → Nat) (b : BlkR)
theorem rpBRound (hk : k < bs.length) (hl : bs.length < 4000000) (hxb : bs[k]? = some b) (hq : RE 67 (.loop (lO 21 10)) (rpI fs i bs k b.insts 0) (rpIE u) (.exit 4) (rpB fs i bs k) (rpIE u')) : RW 67 (lO 21 7) (rpB fs i bs k) (rpBE u) .normal (rpB fs i bs (k + 1)) (rpBE fun j => if j = 2 then u 2 + 1 else u' j) := qS { loops := qO 21 10 (qP hq), hint := qT 21 [(25, qL hk), (26, hIxM Pg blkD bs k b hxb), (30, hLenM Pg instD b.insts), (65, hSucc Pg k (by omega))] } 21 500000
theorem rpBBad (hk : k < bs.length) (hxb : bs[k]? = some b) (hq : RE 67 (.loop (lO 21 10)) (rpI fs i bs k b.insts 0) (rpIE u) .ret [(2, dB false)] (rpIE u')) : RW 67 (lO 21 7) (rpB fs i bs k) (rpBE u) .ret [(2, dB false)] (rpBE fun j => if j = 2 then u 2 + 1 else u' j) := qS { loops := qO 21 10 (qP hq), hint := qT 21 [(25, qL hk), (26, hIxM Pg blkD bs k b hxb), (30, hLenM Pg instD b.insts)] } 21 500000
theorem rpBStop : RW 67 (lO 21 7) (rpB fs i bs bs.length) (rpBE u) (.exit 2) (rpF fs i) (rpBE u) := qS { hint := qT 21 [(25, qG bs.length)] } 21 500000
theorem rpBLoop (hl : bs.length < 4000000) (hs : ∀ b ∈ bs, smallIs b.insts) : AllLoop Pg 67 (lO 21 7) (fun u rest => ⟨envOf (rpB fs i bs 0), ovl (rpBE u) rest⟩) (fun u rest => ⟨envOf (rpF fs i), ovl (rpBE u) rest⟩) (fun u rest => ⟨envOf [(2, dB false)], ovl (rpBE u) rest⟩) (.exit 2) (bs.all blkPlain) :=
 lw_list bs blkPlain (fun k u rest => ⟨envOf (rpB fs i bs k), ovl (rpBE u) rest⟩) _ _ (by simp)
 (fun k hk u => by
  have hL := rpILoop fs i bs k bs[k].insts (hs _ (List.getElem_mem hk)) u
  cases h2 : blkPlain bs[k] with
  | true =>
   obtain ⟨u', hu⟩ := hL.1 h2
   exact ⟨fun j => if j = 2 then u 2 + 1 else u' j, fun rest X hP hN => rpBRound fs i bs k u u' bs[k] hk hl (get_of hk) hu rest X hP hN⟩
  | false =>
   obtain ⟨u', hu⟩ := hL.2 h2
   exact ⟨fun j => if j = 2 then u 2 + 1 else u' j, fun rest X hP hN => rpBBad fs i bs k u u' bs[k] hk (get_of hk) hu rest X hP hN⟩) (fun u => ⟨u, fun rest X hP hN => rpBStop fs i bs u rest X hP hN⟩)
def rpFE (u : Nat → Nat) : List (Nat × Ent) := tm u [500209, 500211, 500207, 500205] 0
variable (f : FunR)
theorem rpFRound (hi : i < fs.length) (hl : fs.length < 4000000) (hxf : fs[i]? = some f) (hq : RE 67 (.loop (lO 21 7)) (rpB fs i f.blocks 0) (rpBE u) (.exit 2) (rpF fs i) (rpBE u')) : RW 67 (lO 21 4) (rpF fs i) (rpFE u) .normal (rpF fs (i + 1)) (rpFE fun j => if j = 3 then u 3 + 1 else u' j) := qS { loops := qO 21 7 (qP hq), hint := qT 21 [(18, qL hi), (19, hIxM Pg funD fs i f hxf), (23, hLenM Pg blkD f.blocks), (66, hSucc Pg i (by omega))] } 21 500000
theorem rpFBad (hi : i < fs.length) (hxf : fs[i]? = some f) (hq : RE 67 (.loop (lO 21 7)) (rpB fs i f.blocks 0) (rpBE u) .ret [(2, dB false)] (rpBE u')) : RW 67 (lO 21 4) (rpF fs i) (rpFE u) .ret [(2, dB false)] (rpFE fun j => if j = 3 then u 3 + 1 else u' j) := qS { loops := qO 21 7 (qP hq), hint := qT 21 [(18, qL hi), (19, hIxM Pg funD fs i f hxf), (23, hLenM Pg blkD f.blocks)] } 21 500000
theorem rpFStop : RW 67 (lO 21 4) (rpF fs fs.length) (rpFE u) (.exit 0) [] (rpFE u) := qS { hint := qT 21 [(18, qG fs.length)] } 21 500000
theorem rpFLoop (hl : fs.length < 4000000) (hs : ∀ f ∈ fs, fineF f) : AllLoop Pg 67 (lO 21 4) (fun u rest => ⟨envOf (rpF fs 0), ovl (rpFE u) rest⟩) (fun u rest => ⟨envOf [], ovl (rpFE u) rest⟩) (fun u rest => ⟨envOf [(2, dB false)], ovl (rpFE u) rest⟩) (.exit 0) (fs.all funPlain) :=
 lw_list fs funPlain (fun i u rest => ⟨envOf (rpF fs i), ovl (rpFE u) rest⟩) _ _ (by simp)
 (fun i hi u => by
  have hf := hs _ (List.getElem_mem hi)
  have hL := rpBLoop fs i fs[i].blocks hf.1 (fun b hb => (hf.2 b hb).2) u
  cases h2 : funPlain fs[i] with
  | true =>
   obtain ⟨u', hu⟩ := hL.1 h2
   exact ⟨fun j => if j = 3 then u 3 + 1 else u' j, fun rest X hP hN => rpFRound fs i u u' fs[i] hi hl (get_of hi) hu rest X hP hN⟩
  | false =>
   obtain ⟨u', hu⟩ := hL.2 h2
   exact ⟨fun j => if j = 3 then u 3 + 1 else u' j, fun rest X hP hN => rpFBad fs i u u' fs[i] hi (get_of hi) hu rest X hP hN⟩) (fun u => ⟨u, fun rest X hP hN => rpFStop fs u rest X hP hN⟩)
end
noncomputable def plainR (c : CodeR) : Bool := decide (checkR c = 0) && c.funs.all funPlain
theorem plainNo (c : CodeR) (z : Int) (h19 : Pure Pg 19 [codeD c] [.int .i64 z]) (hz : (!(z == 0)) = true) : Pure Pg 21 [codeD c] [.bool false] := qU { hint := qT 21 [(12, .call 19 _ _ h19), (13, qB hz)] }
theorem plainBad (c : CodeR) (h19 : Pure Pg 19 [codeD c] [.int .i64 0]) (u' : Nat → Nat) (hq : RE 67 (.loop (lO 21 4)) (rpF c.funs 0) (rpFE fun _ => 0) .ret [(2, dB false)] (rpFE u')) : Pure Pg 21 [codeD c] [.bool false] :=
 qU { loops := qO 21 4 (qP hq), hint := qT 21 [(12, .call 19 _ _ h19), (16, hLenM Pg funD c.funs)] }
theorem plainGood (c : CodeR) (h19 : Pure Pg 19 [codeD c] [.int .i64 0]) (u' : Nat → Nat) (hq : RE 67 (.loop (lO 21 4)) (rpF c.funs 0) (rpFE fun _ => 0) (.exit 0) [] (rpFE u')) : Pure Pg 21 [codeD c] [.bool true] :=
 qU { loops := qO 21 4 (qP hq), hint := qT 21 [(12, .call 19 _ _ h19), (16, hLenM Pg funD c.funs)] }
theorem plain21 (c : CodeR) (h : c.Good) : Pure Pg 21 [codeD c] [.bool (plainR c)] := by
 have h19 := check19 c h
 unfold plainR
 by_cases hz : checkR c = 0
 ·rw [hz] at h19
  rw [decide_eq_true hz, Bool.true_and]
  have hL := rpFLoop c.funs h.fine.funs h.fine.fn (fun _ => 0)
  cases h2 : c.funs.all funPlain with
  | true => obtain ⟨u', hu⟩ := hL.1 h2; exact plainGood c h19 u' hu
  | false => obtain ⟨u', hu⟩ := hL.2 h2; exact plainBad c h19 u' hu
 ·rw [decide_eq_false hz, Bool.false_and]
  exact plainNo c _ h19 (by simpa using hz)
end Go.Avm
namespace Go.Avm
open Go.Proofs Go.Avm.Dom
def madeA (M : List (Int × Int)) : List AV := M.map fun p => .d (spotD p)
def ckCells (c : CodeR) (f : FunR) (from_ up : D) (n vm : Nat) : List AV := boxC c ++ cellsF f ++ [.d from_, .d up, .sl 3143 vm 0 n 2]
def ckH (c : CodeR) (f : FunR) (from_ up : D) (vm : Nat) (M : List (Int × Int)) : List (Nat × Ent) := [(442, ⟨1, some (.arr 1 (ckCells c f from_ up M.length vm))⟩), (3143, ⟨vm, some (.arr 2 (madeA M))⟩)]
def ckP : AV := .ptr 442 1 0 0 1
def valB (f : FunR) (v : Int) : Bool := ((decide (0 ≤ v)) && (decide (v < f.vals)))
def varB (f : FunR) (v : Int) : Bool := ((decide (0 ≤ v)) && (decide (v < f.vars)))
section
variable (c : CodeR) (f : FunR) (from_ up : D) (vm : Nat) (M : List (Int × Int)) (v : Int) (rest : Heap)
include c f from_ up vm M v rest
theorem ckVal_T1 (h_a : (decide (0 ≤ v)) = true) (h_b : (decide (v < f.vals)) = true)  :
    HCall Pg 124 [ckP, dI v] (ovl (ckH c f from_ up vm M) rest) [dB true] (ovl (ckH c f from_ up vm M) rest) :=
 qH { hint := qT 124 [(6, qB h_a), (14, qB h_b)] }
theorem ckVal_T (h : ((decide (0 ≤ v)) && (decide (v < f.vals))) = true)  :
    HCall Pg 124 [ckP, dI v] (ovl (ckH c f from_ up vm M) rest) [dB true] (ovl (ckH c f from_ up vm M) rest) := by
 cases h_a : (decide (0 ≤ v)) with
 | true =>
  cases h_b : (decide (v < f.vals)) with
  | true =>
   exact ckVal_T1 c f from_ up vm M v rest  h_a h_b
  | false =>
   simp [h_a, h_b] at h
 | false =>
  simp [h_a] at h
theorem ckVal_F1 (h_a : (decide (0 ≤ v)) = true) (h_b : (decide (v < f.vals)) = false)  :
    HCall Pg 124 [ckP, dI v] (ovl (ckH c f from_ up vm M) rest) [dB false] (ovl (ckH c f from_ up vm M) rest) :=
 qH { hint := qT 124 [(6, qB h_a), (14, qB h_b)] }
theorem ckVal_F2 (h_a : (decide (0 ≤ v)) = false)  :
    HCall Pg 124 [ckP, dI v] (ovl (ckH c f from_ up vm M) rest) [dB false] (ovl (ckH c f from_ up vm M) rest) :=
 qH { hint := qT 124 [(6, qB h_a)] }
theorem ckVal_F (h : ((decide (0 ≤ v)) && (decide (v < f.vals))) = false)  :
    HCall Pg 124 [ckP, dI v] (ovl (ckH c f from_ up vm M) rest) [dB false] (ovl (ckH c f from_ up vm M) rest) := by
 cases h_a : (decide (0 ≤ v)) with
 | true =>
  cases h_b : (decide (v < f.vals)) with
  | true =>
   simp [h_a, h_b] at h
  | false =>
   exact ckVal_F1 c f from_ up vm M v rest  h_a h_b
 | false =>
  exact ckVal_F2 c f from_ up vm M v rest  h_a
theorem ckVar_T1 (h_a : (decide (0 ≤ v)) = true) (h_b : (decide (v < f.vars)) = true)  :
    HCall Pg 125 [ckP, dI v] (ovl (ckH c f from_ up vm M) rest) [dB true] (ovl (ckH c f from_ up vm M) rest) :=
 qH { hint := qT 125 [(6, qB h_a), (14, qB h_b)] }
theorem ckVar_T (h : ((decide (0 ≤ v)) && (decide (v < f.vars))) = true)  :
    HCall Pg 125 [ckP, dI v] (ovl (ckH c f from_ up vm M) rest) [dB true] (ovl (ckH c f from_ up vm M) rest) := by
 cases h_a : (decide (0 ≤ v)) with
 | true =>
  cases h_b : (decide (v < f.vars)) with
  | true =>
   exact ckVar_T1 c f from_ up vm M v rest  h_a h_b
  | false =>
   simp [h_a, h_b] at h
 | false =>
  simp [h_a] at h
theorem ckVar_F1 (h_a : (decide (0 ≤ v)) = true) (h_b : (decide (v < f.vars)) = false)  :
    HCall Pg 125 [ckP, dI v] (ovl (ckH c f from_ up vm M) rest) [dB false] (ovl (ckH c f from_ up vm M) rest) :=
 qH { hint := qT 125 [(6, qB h_a), (14, qB h_b)] }
theorem ckVar_F2 (h_a : (decide (0 ≤ v)) = false)  :
    HCall Pg 125 [ckP, dI v] (ovl (ckH c f from_ up vm M) rest) [dB false] (ovl (ckH c f from_ up vm M) rest) :=
 qH { hint := qT 125 [(6, qB h_a)] }
theorem ckVar_F (h : ((decide (0 ≤ v)) && (decide (v < f.vars))) = false)  :
    HCall Pg 125 [ckP, dI v] (ovl (ckH c f from_ up vm M) rest) [dB false] (ovl (ckH c f from_ up vm M) rest) := by
 cases h_a : (decide (0 ≤ v)) with
 | true =>
  cases h_b : (decide (v < f.vars)) with
  | true =>
   simp [h_a, h_b] at h
  | false =>
   exact ckVar_F1 c f from_ up vm M v rest  h_a h_b
 | false =>
  exact ckVar_F2 c f from_ up vm M v rest  h_a
end
section
variable (c : CodeR) (f : FunR) (from_ up : D) (vm : Nat) (M : List (Int × Int)) (v : Int) (q p : Int × Int) (u : Nat)
def mkH (c : CodeR) (f : FunR) (from_ up : D) (vm : Nat) (M : List (Int × Int)) (u : Nat) : List (Nat × Ent) := ckH c f from_ up vm M ++ [(500005, ⟨u, none⟩)]
theorem ckMakeNo (hv : valB f v = false) (rest : Heap) : HCall Pg 107 [ckP, dI v, .d (spotD q)] (ovl (mkH c f from_ up vm M u) rest) [dB false] (ovl (mkH c f from_ up vm M (u + 1)) rest) :=
 qH { calls := qC 107 9 124 (fits_ro rfl fun rest => ckVal_F c f from_ up vm M v rest hv), hint := fun _ _ => none }
theorem valB_nat {f : FunR} {M : List (Int × Int)} {v : Int} (hM : M.length = f.vals.toNat) (hv : valB f v = true) : ∃ n : Nat, v = (n : Int) ∧ n < M.length := by
 simp only [valB, Bool.and_eq_true, decide_eq_true_eq] at hv
 exact ⟨v.toNat, by omega, by omega⟩
theorem madeA_get {n : Nat} (h : M[n]? = some p) : (madeA M)[0 + n]? = some (.d (spotD p)) := by simp [madeA, h]
theorem madeA_set (n : Nat) : (madeA M).set (0 + n) (.d (spotD q)) = madeA (M.set n q) := by simp [madeA, List.map_set]
variable (n : Nat)
theorem ckMakeOld (hv : valB f (n : Int) = true) (hn : n < M.length) (hp : M[n]? = some p) (h0 : decide (0 ≤ p.1) = true) (rest : Heap) : HCall Pg 107 [ckP, dN n, .d (spotD q)] (ovl (mkH c f from_ up vm M u) rest) [dB false] (ovl (mkH c f from_ up vm M (u + 1)) rest) :=
 qH { calls := qC 107 9 124 (fits_ro rfl fun rest => ckVal_T c f from_ up vm M (n : Int) rest hv), hint := qT 107 [(17, hInb Pg n M.length hn), (19, .elt (madeA M) (0 + n) (.d (spotD p)) (madeA_get M p hp)), (20, qB h0)] }
theorem ckMakeNew (hv : valB f (n : Int) = true) (hn : n < M.length) (hp : M[n]? = some p) (h0 : decide (0 ≤ p.1) = false) (rest : Heap) : HCall Pg 107 [ckP, dN n, .d (spotD q)] (ovl (mkH c f from_ up vm M u) rest) [dB true] (ovl (mkH c f from_ up vm (M.set n q) (u + 1)) rest) := by
 unfold mkH ckH
 rw [← madeA_set, List.length_set]
 exact qH { calls := qC 107 9 124 (fits_ro rfl fun rest => ckVal_T c f from_ up vm M (n : Int) rest hv), hint := qT 107 [(17, hInb Pg n M.length hn), (19, .elt (madeA M) (0 + n) (.d (spotD p)) (madeA_get M p hp)), (20, qB h0), (28, hInb Pg n M.length hn), (103007, .elt (madeA M) (0 + n) (.d (spotD p)) (madeA_get M p hp))] }
end
end Go.Avm
namespace Go.Avm
open Go.Proofs Go.Avm.Dom
section
variable (c : CodeR) (f : FunR) (from_ up : D) (vm : Nat) (M : List (Int × Int)) (v : Int) (q p : Int × Int) (u w : Nat)
def usH (c : CodeR) (f : FunR) (from_ up : D) (vm : Nat) (M : List (Int × Int)) (u w : Nat) : List (Nat × Ent) := ckH c f from_ up vm M ++ [(500005, ⟨u, none⟩), (501134, ⟨w, none⟩)]
theorem ckUseNo (hv : valB f v = false) (rest : Heap) : HCall Pg 110 [ckP, dI v, .d (spotD q)] (ovl (usH c f from_ up vm M u w) rest) [dB false] (ovl (usH c f from_ up vm M (u + 1) w) rest) :=
 qH { calls := qC 110 10 124 (fits_ro rfl fun rest => ckVal_F c f from_ up vm M v rest hv), hint := fun _ _ => none }
variable (n : Nat) (hv : valB f (n : Int) = true) (hn : n < M.length) (hp : M[n]? = some p)
include hv hn hp
theorem ckUseBad (h0 : decide (p.1 < 0) = true) (rest : Heap) : HCall Pg 110 [ckP, dN n, .d (spotD q)] (ovl (usH c f from_ up vm M u w) rest) [dB false] (ovl (usH c f from_ up vm M (u + 1) w) rest) :=
 qH { calls := qC 110 10 124 (fits_ro rfl fun rest => ckVal_T c f from_ up vm M (n : Int) rest hv), hint := qT 110 [(18, hInb Pg n M.length hn), (20, .elt (madeA M) (0 + n) (.d (spotD p)) (madeA_get M p hp)), (21, qB h0)] }
theorem ckUseIn (h0 : decide (p.1 < 0) = false) (he : (p.1 == q.1) = true) (rest : Heap) : HCall Pg 110 [ckP, dN n, .d (spotD q)] (ovl (usH c f from_ up vm M u w) rest) [dB (decide (p.2 < q.2))] (ovl (usH c f from_ up vm M (u + 1) (w + 1)) rest) :=
 qH { calls := qC 110 10 124 (fits_ro rfl fun rest => ckVal_T c f from_ up vm M (n : Int) rest hv), hint := qT 110 [(18, hInb Pg n M.length hn), (20, .elt (madeA M) (0 + n) (.d (spotD p)) (madeA_get M p hp)), (21, qB h0), (28, hInb Pg n M.length hn), (29, .elt (madeA M) (0 + n) (.d (spotD p)) (madeA_get M p hp)), (34, qB he)] }
theorem ckUseDom (h0 : decide (p.1 < 0) = false) (he : (p.1 == q.1) = false) (t : Bool) (ho : Pure Pg 45 [up, .int .i64 p.1, .int .i64 q.1] [.bool t]) (rest : Heap) : HCall Pg 110 [ckP, dN n, .d (spotD q)] (ovl (usH c f from_ up vm M u w) rest) [dB t] (ovl (usH c f from_ up vm M (u + 1) (w + 1)) rest) :=
 qH { calls := qC 110 10 124 (fits_ro rfl fun rest => ckVal_T c f from_ up vm M (n : Int) rest hv), hint := qT 110 [(18, hInb Pg n M.length hn), (20, .elt (madeA M) (0 + n) (.d (spotD p)) (madeA_get M p hp)), (21, qB h0), (28, hInb Pg n M.length hn), (29, .elt (madeA M) (0 + n) (.d (spotD p)) (madeA_get M p hp)), (34, qB he), (48, .call 45 _ _ ho)] }
end
def usesP (f : FunR) (M : List (Int × Int)) (ov : Int → Int → Bool) (v : Int) (q : Int × Int) : Bool := valB f v && (!(decide ((M.getD v.toNat (-1, 0)).1 < 0)) && (if ((M.getD v.toNat (-1, 0)).1 == q.1) = true then decide ((M.getD v.toNat (-1, 0)).2 < q.2) else ov (M.getD v.toNat (-1, 0)).1 q.1))
theorem ckUses (c : CodeR) (f : FunR) (from_ up : D) (vm : Nat) (M : List (Int × Int)) (ov : Int → Int → Bool) (v : Int) (q : Int × Int) (u w : Nat) (hM : M.length = f.vals.toNat)
    (hov : ∀ p ∈ M, 0 ≤ p.1 → p.1 ≠ q.1 → Pure Pg 45 [up, .int .i64 p.1, .int .i64 q.1] [.bool (ov p.1 q.1)]) :
    ∃ u' w', ∀ rest : Heap, HCall Pg 110 [ckP, dI v, .d (spotD q)] (ovl (usH c f from_ up vm M u w) rest) [dB (usesP f M ov v q)] (ovl (usH c f from_ up vm M u' w') rest) := by
 unfold usesP
 cases hv : valB f v with
 | false => exact ⟨_, _, fun rest => ckUseNo c f from_ up vm M v q u w hv rest⟩
 | true =>
  obtain ⟨n, rfl, hn⟩ := valB_nat hM hv
  have hp := get_of hn
  have e : M.getD (n : Int).toNat (-1, 0) = M[n] := by
   rw [Int.toNat_natCast, List.getD_eq_getElem?_getD, hp]
   rfl
  have hmem := List.getElem_mem hn
  rw [e]
  generalize M[n] = p at hp hmem
  cases h0 : decide (p.1 < 0) with
  | true => exact ⟨_, _, fun rest => ckUseBad c f from_ up vm M q p u w n hv hn hp h0 rest⟩
  | false =>
   cases he : (p.1 == q.1) with
   | true => exact ⟨_, _, fun rest => ckUseIn c f from_ up vm M q p u w n hv hn hp h0 he rest⟩
   | false => exact ⟨_, _, fun rest => ckUseDom c f from_ up vm M q p u w n hv hn hp h0 he _ (hov p hmem (by simpa using h0) (by simpa using he)) rest⟩
def makeP (f : FunR) (M : List (Int × Int)) (v : Int) : Bool := valB f v && decide ((M.getD v.toNat (-1, 0)).1 < 0)
theorem ckMake (c : CodeR) (f : FunR) (from_ up : D) (vm : Nat) (M : List (Int × Int)) (v : Int) (q : Int × Int) (u : Nat) (hM : M.length = f.vals.toNat) (rest : Heap) :
    HCall Pg 107 [ckP, dI v, .d (spotD q)] (ovl (mkH c f from_ up vm M u) rest) [dB (makeP f M v)] (ovl (mkH c f from_ up vm (if makeP f M v = true then M.set v.toNat q else M) (u + 1)) rest) := by
 cases hm : makeP f M v with
 | false =>
  rw [if_neg (by simp)]
  unfold makeP at hm
  cases hv : valB f v with
  | false => exact ckMakeNo c f from_ up vm M v q u hv rest
  | true =>
   obtain ⟨n, rfl, hn⟩ := valB_nat hM hv
   have hp := get_of hn
   rw [hv, Bool.true_and, Int.toNat_natCast, List.getD_eq_getElem?_getD, hp] at hm
   simp only [Option.getD_some, decide_eq_false_iff_not] at hm
   exact ckMakeOld c f from_ up vm M q _ u n hv hn hp (dec_true (by omega)) rest
 | true =>
  rw [if_pos rfl]
  unfold makeP at hm
  rw [Bool.and_eq_true] at hm
  obtain ⟨hv, h2⟩ := hm
  obtain ⟨n, rfl, hn⟩ := valB_nat hM hv
  have hp := get_of hn
  rw [Int.toNat_natCast, List.getD_eq_getElem?_getD, hp] at h2
  simp only [Option.getD_some, decide_eq_true_eq] at h2
  rw [Int.toNat_natCast]
  exact ckMakeNew c f from_ up vm M q _ u n hv hn hp (dec_false (by omega)) rest
end Go.Avm
namespace Go.Avm
open Go.Proofs Go.Avm.Dom
def nmL (u : Nat) (a : Int) (mk ok : Bool) : List (Nat × AV) := [(4, .ptr 500004 u 0 0 1), (7, dI a), (8, dB mk), (9, dB ok)]
def nmH (c : CodeR) (f : FunR) (from_ up : D) (vm : Nat) (M : List (Int × Int)) (u : Nat) : List (Nat × Ent) := ckH c f from_ up vm M ++ [(500004, ⟨u, none⟩)]
def nmX (c : CodeR) (f : FunR) (from_ up : D) (vm : Nat) (M : List (Int × Int)) (x : InstR) (u : Nat) : List (Nat × Ent) := ckH c f from_ up vm M ++ [(500004, ⟨u, some (.arr 1 (cellsI x))⟩)]
section
variable (c : CodeR) (f : FunR) (from_ up : D) (vm : Nat) (M : List (Int × Int)) (x : InstR) (u : Nat) (a : Int)
theorem nm16No (mk : Bool) : RW 101 (seqOf Pg 108 16) (nmL u a mk false) (nmX c f from_ up vm M x u) .ret [(6, dB false)] (nmH c f from_ up vm M u) := qS { hint := fun _ _ => none } 108 500000
theorem nm16Len (mk : Bool) (hl : ((x.args.length : Int) == a) = false) : RW 101 (seqOf Pg 108 16) (nmL u a mk true) (nmX c f from_ up vm M x u) .ret [(6, dB false)] (nmH c f from_ up vm M u) := qS { hint := qT 108 [(90, hLenM Pg intD x.args), (92, qB hl)] } 108 500000
section
variable (hl : ((x.args.length : Int) == a) = true)
include hl
theorem nm16T_true (hE : (!(x.dst == -1)) = true) : RW 101 (seqOf Pg 108 16) (nmL u a true true) (nmX c f from_ up vm M x u) .ret [(6, dB (true == true))] (nmH c f from_ up vm M u) := qS { hint := qT 108 [(90, hLenM Pg intD x.args), (92, qB hl), (98, qB hE)] } 108 500000
theorem nm16F_true (hE : (!(x.dst == -1)) = false) : RW 101 (seqOf Pg 108 16) (nmL u a true true) (nmX c f from_ up vm M x u) .ret [(6, dB (true == false))] (nmH c f from_ up vm M u) := qS { hint := qT 108 [(90, hLenM Pg intD x.args), (92, qB hl), (98, qB hE)] } 108 500000
theorem nm16T_false (hE : (!(x.dst == -1)) = true) : RW 101 (seqOf Pg 108 16) (nmL u a false true) (nmX c f from_ up vm M x u) .ret [(6, dB (false == true))] (nmH c f from_ up vm M u) := qS { hint := qT 108 [(90, hLenM Pg intD x.args), (92, qB hl), (98, qB hE)] } 108 500000
theorem nm16F_false (hE : (!(x.dst == -1)) = false) : RW 101 (seqOf Pg 108 16) (nmL u a false true) (nmX c f from_ up vm M x u) .ret [(6, dB (false == false))] (nmH c f from_ up vm M u) := qS { hint := qT 108 [(90, hLenM Pg intD x.args), (92, qB hl), (98, qB hE)] } 108 500000
end
def cntP (x : InstR) (a : Int) (mk ok : Bool) : Bool := ok && (((x.args.length : Int) == a) && (mk == !(x.dst == -1)))
theorem nm16 (mk ok : Bool) : RE 101 (seqOf Pg 108 16) (nmL u a mk ok) (nmX c f from_ up vm M x u) .ret [(6, dB (cntP x a mk ok))] (nmH c f from_ up vm M u) := by
 intro rest X hP hN
 refine aw_to ?_
 unfold cntP
 cases ok with
 | false => exact nm16No c f from_ up vm M x u a mk rest X hP hN
 | true =>
  cases hl : ((x.args.length : Int) == a) with
  | false => exact nm16Len c f from_ up vm M x u a mk hl rest X hP hN
  | true =>
   cases hE : !(x.dst == -1) with
   | true =>
    cases mk with
    | true => exact nm16T_true c f from_ up vm M x u a hl hE rest X hP hN
    | false => exact nm16T_false c f from_ up vm M x u a hl hE rest X hP hN
   | false =>
    cases mk with
    | true => exact nm16F_true c f from_ up vm M x u a hl hE rest X hP hN
    | false => exact nm16F_false c f from_ up vm M x u a hl hE rest X hP hN
end
end Go.Avm
