/-
  Code, the program: an instruction's numbers, told whole.
-/
import Derived.Test.YtpcomfnianamgaaG09
set_option linter.unusedSectionVars false
namespace Go.Avm
open Go.Proofs Go.Avm.Dom
section
variable (c : CodeR) (f : FunR) (from_ up : D) (vm : Nat) (M : List (Int × Int)) (x : InstR) (u : Nat) (a : Int) (mk ok : Bool) (bi : Nat) (rest : Heap) (hs : Pure Pg 53 [.int .u8 x.op] [.int .i64 a, .bool mk, .bool ok])
include c f from_ up vm M x u a mk ok bi rest hs
theorem nmI (ho : x.op = 45) : HCall Pg 108 [ckP, .d (instD x), dN bi] (ovl (nmH c f from_ up vm M u) rest) [dB false] (ovl (nmH c f from_ up vm M (u + 1)) rest) :=
 qH { hint := qT 108 [(13, .call 53 _ _ hs), (20, hEq Pg x.op 45 true (by simp [ho]))] }
theorem nmP_T1 (ho : x.op = 32) (h_p : ((bi : Int) == 0) = true) (h_q : (decide (0 ≤ x.imm)) = true) (h_r : (decide (x.imm < f.params)) = true)  :
    HCall Pg 108 [ckP, .d (instD x), dN bi] (ovl (nmH c f from_ up vm M u) rest) [dB (cntP x a mk true)] (ovl (nmH c f from_ up vm M (u + 1)) rest) :=
 qH { seqs := fun f' q => if f' = 108 then (if q = 16 then qQ (nm16 c f from_ up vm M x (u + 1) a mk true) else none) else none, hint := qT 108 [(13, .call 53 _ _ hs), (20, hEq Pg x.op 45 false (by simp [ho])), (22, hEq Pg x.op 32 true (by simp [ho])), (24, qB h_p), (28, qB h_q), (38, qB h_r)] }
theorem nmP_T (ho : x.op = 32) (h : (((bi : Int) == 0) && ((decide (0 ≤ x.imm)) && (decide (x.imm < f.params)))) = true)  :
    HCall Pg 108 [ckP, .d (instD x), dN bi] (ovl (nmH c f from_ up vm M u) rest) [dB (cntP x a mk true)] (ovl (nmH c f from_ up vm M (u + 1)) rest) := by
 cases h_p : ((bi : Int) == 0) with
 | true =>
  cases h_q : (decide (0 ≤ x.imm)) with
  | true =>
   cases h_r : (decide (x.imm < f.params)) with
   | true =>
    exact nmP_T1 c f from_ up vm M x u a mk ok bi rest hs ho  h_p h_q h_r
   | false =>
    simp [h_p, h_q, h_r] at h
  | false =>
   simp [h_p, h_q] at h
 | false =>
  simp [h_p] at h
theorem nmP_F1 (ho : x.op = 32) (h_p : ((bi : Int) == 0) = true) (h_q : (decide (0 ≤ x.imm)) = true) (h_r : (decide (x.imm < f.params)) = false)  :
    HCall Pg 108 [ckP, .d (instD x), dN bi] (ovl (nmH c f from_ up vm M u) rest) [dB (cntP x a mk false)] (ovl (nmH c f from_ up vm M (u + 1)) rest) :=
 qH { seqs := fun f' q => if f' = 108 then (if q = 16 then qQ (nm16 c f from_ up vm M x (u + 1) a mk false) else none) else none, hint := qT 108 [(13, .call 53 _ _ hs), (20, hEq Pg x.op 45 false (by simp [ho])), (22, hEq Pg x.op 32 true (by simp [ho])), (24, qB h_p), (28, qB h_q), (38, qB h_r)] }
theorem nmP_F2 (ho : x.op = 32) (h_p : ((bi : Int) == 0) = true) (h_q : (decide (0 ≤ x.imm)) = false)  :
    HCall Pg 108 [ckP, .d (instD x), dN bi] (ovl (nmH c f from_ up vm M u) rest) [dB (cntP x a mk false)] (ovl (nmH c f from_ up vm M (u + 1)) rest) :=
 qH { seqs := fun f' q => if f' = 108 then (if q = 16 then qQ (nm16 c f from_ up vm M x (u + 1) a mk false) else none) else none, hint := qT 108 [(13, .call 53 _ _ hs), (20, hEq Pg x.op 45 false (by simp [ho])), (22, hEq Pg x.op 32 true (by simp [ho])), (24, qB h_p), (28, qB h_q)] }
theorem nmP_F3 (ho : x.op = 32) (h_p : ((bi : Int) == 0) = false)  :
    HCall Pg 108 [ckP, .d (instD x), dN bi] (ovl (nmH c f from_ up vm M u) rest) [dB (cntP x a mk false)] (ovl (nmH c f from_ up vm M (u + 1)) rest) :=
 qH { seqs := fun f' q => if f' = 108 then (if q = 16 then qQ (nm16 c f from_ up vm M x (u + 1) a mk false) else none) else none, hint := qT 108 [(13, .call 53 _ _ hs), (20, hEq Pg x.op 45 false (by simp [ho])), (22, hEq Pg x.op 32 true (by simp [ho])), (24, qB h_p)] }
theorem nmP_F (ho : x.op = 32) (h : (((bi : Int) == 0) && ((decide (0 ≤ x.imm)) && (decide (x.imm < f.params)))) = false)  :
    HCall Pg 108 [ckP, .d (instD x), dN bi] (ovl (nmH c f from_ up vm M u) rest) [dB (cntP x a mk false)] (ovl (nmH c f from_ up vm M (u + 1)) rest) := by
 cases h_p : ((bi : Int) == 0) with
 | true =>
  cases h_q : (decide (0 ≤ x.imm)) with
  | true =>
   cases h_r : (decide (x.imm < f.params)) with
   | true =>
    simp [h_p, h_q, h_r] at h
   | false =>
    exact nmP_F1 c f from_ up vm M x u a mk ok bi rest hs ho  h_p h_q h_r
  | false =>
   exact nmP_F2 c f from_ up vm M x u a mk ok bi rest hs ho  h_p h_q
 | false =>
  exact nmP_F3 c f from_ up vm M x u a mk ok bi rest hs ho  h_p
theorem nmA_T1 (ho : x.op = 36) (h_p : (decide (1 ≤ x.imm)) = true) (h_q : (decide (x.imm ≤ 256)) = true)  :
    HCall Pg 108 [ckP, .d (instD x), dN bi] (ovl (nmH c f from_ up vm M u) rest) [dB (cntP x a mk true)] (ovl (nmH c f from_ up vm M (u + 1)) rest) :=
 qH { seqs := fun f' q => if f' = 108 then (if q = 16 then qQ (nm16 c f from_ up vm M x (u + 1) a mk true) else none) else none, hint := qT 108 [(13, .call 53 _ _ hs), (20, hEq Pg x.op 45 false (by simp [ho])), (22, hEq Pg x.op 32 false (by simp [ho])), (41, hEq Pg x.op 36 true (by simp [ho])), (44, qB h_p), (48, qB h_q)] }
theorem nmA_T (ho : x.op = 36) (h : ((decide (1 ≤ x.imm)) && (decide (x.imm ≤ 256))) = true)  :
    HCall Pg 108 [ckP, .d (instD x), dN bi] (ovl (nmH c f from_ up vm M u) rest) [dB (cntP x a mk true)] (ovl (nmH c f from_ up vm M (u + 1)) rest) := by
 cases h_p : (decide (1 ≤ x.imm)) with
 | true =>
  cases h_q : (decide (x.imm ≤ 256)) with
  | true =>
   exact nmA_T1 c f from_ up vm M x u a mk ok bi rest hs ho  h_p h_q
  | false =>
   simp [h_p, h_q] at h
 | false =>
  simp [h_p] at h
theorem nmA_F1 (ho : x.op = 36) (h_p : (decide (1 ≤ x.imm)) = true) (h_q : (decide (x.imm ≤ 256)) = false)  :
    HCall Pg 108 [ckP, .d (instD x), dN bi] (ovl (nmH c f from_ up vm M u) rest) [dB (cntP x a mk false)] (ovl (nmH c f from_ up vm M (u + 1)) rest) :=
 qH { seqs := fun f' q => if f' = 108 then (if q = 16 then qQ (nm16 c f from_ up vm M x (u + 1) a mk false) else none) else none, hint := qT 108 [(13, .call 53 _ _ hs), (20, hEq Pg x.op 45 false (by simp [ho])), (22, hEq Pg x.op 32 false (by simp [ho])), (41, hEq Pg x.op 36 true (by simp [ho])), (44, qB h_p), (48, qB h_q)] }
theorem nmA_F2 (ho : x.op = 36) (h_p : (decide (1 ≤ x.imm)) = false)  :
    HCall Pg 108 [ckP, .d (instD x), dN bi] (ovl (nmH c f from_ up vm M u) rest) [dB (cntP x a mk false)] (ovl (nmH c f from_ up vm M (u + 1)) rest) :=
 qH { seqs := fun f' q => if f' = 108 then (if q = 16 then qQ (nm16 c f from_ up vm M x (u + 1) a mk false) else none) else none, hint := qT 108 [(13, .call 53 _ _ hs), (20, hEq Pg x.op 45 false (by simp [ho])), (22, hEq Pg x.op 32 false (by simp [ho])), (41, hEq Pg x.op 36 true (by simp [ho])), (44, qB h_p)] }
theorem nmA_F (ho : x.op = 36) (h : ((decide (1 ≤ x.imm)) && (decide (x.imm ≤ 256))) = false)  :
    HCall Pg 108 [ckP, .d (instD x), dN bi] (ovl (nmH c f from_ up vm M u) rest) [dB (cntP x a mk false)] (ovl (nmH c f from_ up vm M (u + 1)) rest) := by
 cases h_p : (decide (1 ≤ x.imm)) with
 | true =>
  cases h_q : (decide (x.imm ≤ 256)) with
  | true =>
   simp [h_p, h_q] at h
  | false =>
   exact nmA_F1 c f from_ up vm M x u a mk ok bi rest hs ho  h_p h_q
 | false =>
  exact nmA_F2 c f from_ up vm M x u a mk ok bi rest hs ho  h_p
theorem nmG_T (ho : x.op = 43) (hv : varB f x.imm = true) : HCall Pg 108 [ckP, .d (instD x), dN bi] (ovl (nmH c f from_ up vm M u) rest) [dB (cntP x a mk true)] (ovl (nmH c f from_ up vm M (u + 1)) rest) :=
 qH { calls := qC 108 56 125 (fits_ro rfl fun rest => ckVar_T c f from_ up vm M x.imm rest hv), seqs := fun f' q => if f' = 108 then (if q = 16 then qQ (nm16 c f from_ up vm M x (u + 1) a mk true) else none) else none, hint := qT 108 [(13, .call 53 _ _ hs), (20, hEq Pg x.op 45 false (by simp [ho])), (22, hEq Pg x.op 32 false (by simp [ho])), (41, hEq Pg x.op 36 false (by simp [ho])), (51, hEq Pg x.op 43 true (by simp [ho]))] }
theorem nmG_F (ho : x.op = 43) (hv : varB f x.imm = false) : HCall Pg 108 [ckP, .d (instD x), dN bi] (ovl (nmH c f from_ up vm M u) rest) [dB (cntP x a mk false)] (ovl (nmH c f from_ up vm M (u + 1)) rest) :=
 qH { calls := qC 108 56 125 (fits_ro rfl fun rest => ckVar_F c f from_ up vm M x.imm rest hv), seqs := fun f' q => if f' = 108 then (if q = 16 then qQ (nm16 c f from_ up vm M x (u + 1) a mk false) else none) else none, hint := qT 108 [(13, .call 53 _ _ hs), (20, hEq Pg x.op 45 false (by simp [ho])), (22, hEq Pg x.op 32 false (by simp [ho])), (41, hEq Pg x.op 36 false (by simp [ho])), (51, hEq Pg x.op 43 true (by simp [ho]))] }
theorem nmS_T (ho : x.op = 44) (hv : varB f x.imm = true) : HCall Pg 108 [ckP, .d (instD x), dN bi] (ovl (nmH c f from_ up vm M u) rest) [dB (cntP x a mk true)] (ovl (nmH c f from_ up vm M (u + 1)) rest) :=
 qH { calls := qC 108 56 125 (fits_ro rfl fun rest => ckVar_T c f from_ up vm M x.imm rest hv), seqs := fun f' q => if f' = 108 then (if q = 16 then qQ (nm16 c f from_ up vm M x (u + 1) a mk true) else none) else none, hint := qT 108 [(13, .call 53 _ _ hs), (20, hEq Pg x.op 45 false (by simp [ho])), (22, hEq Pg x.op 32 false (by simp [ho])), (41, hEq Pg x.op 36 false (by simp [ho])), (51, hEq Pg x.op 43 false (by simp [ho])), (52, hEq Pg x.op 44 true (by simp [ho]))] }
theorem nmS_F (ho : x.op = 44) (hv : varB f x.imm = false) : HCall Pg 108 [ckP, .d (instD x), dN bi] (ovl (nmH c f from_ up vm M u) rest) [dB (cntP x a mk false)] (ovl (nmH c f from_ up vm M (u + 1)) rest) :=
 qH { calls := qC 108 56 125 (fits_ro rfl fun rest => ckVar_F c f from_ up vm M x.imm rest hv), seqs := fun f' q => if f' = 108 then (if q = 16 then qQ (nm16 c f from_ up vm M x (u + 1) a mk false) else none) else none, hint := qT 108 [(13, .call 53 _ _ hs), (20, hEq Pg x.op 45 false (by simp [ho])), (22, hEq Pg x.op 32 false (by simp [ho])), (41, hEq Pg x.op 36 false (by simp [ho])), (51, hEq Pg x.op 43 false (by simp [ho])), (52, hEq Pg x.op 44 true (by simp [ho]))] }
theorem nmC_T1 (ho : x.op = 39) (h_p : (decide (x.imm < 0)) = true)  :
    HCall Pg 108 [ckP, .d (instD x), dN bi] (ovl (nmH c f from_ up vm M u) rest) [dB false] (ovl (nmH c f from_ up vm M (u + 1)) rest) :=
 qH { hint := qT 108 [(13, .call 53 _ _ hs), (20, hEq Pg x.op 45 false (by simp [ho])), (22, hEq Pg x.op 32 false (by simp [ho])), (41, hEq Pg x.op 36 false (by simp [ho])), (51, hEq Pg x.op 43 false (by simp [ho])), (52, hEq Pg x.op 44 false (by simp [ho])), (58, hEq Pg x.op 39 true (by simp [ho])), (61, qB h_p)] }
theorem nmC_T2 (ho : x.op = 39) (h_p : (decide (x.imm < 0)) = false) (h_q : (decide ((c.funs.length : Int) ≤ x.imm)) = true)  :
    HCall Pg 108 [ckP, .d (instD x), dN bi] (ovl (nmH c f from_ up vm M u) rest) [dB false] (ovl (nmH c f from_ up vm M (u + 1)) rest) :=
 qH { hint := qT 108 [(13, .call 53 _ _ hs), (20, hEq Pg x.op 45 false (by simp [ho])), (22, hEq Pg x.op 32 false (by simp [ho])), (41, hEq Pg x.op 36 false (by simp [ho])), (51, hEq Pg x.op 43 false (by simp [ho])), (52, hEq Pg x.op 44 false (by simp [ho])), (58, hEq Pg x.op 39 true (by simp [ho])), (61, qB h_p), (70, hLenM Pg funD c.funs), (71, qB h_q)] }
theorem nmC_T (ho : x.op = 39) (h : ((decide (x.imm < 0)) || (decide ((c.funs.length : Int) ≤ x.imm))) = true)  :
    HCall Pg 108 [ckP, .d (instD x), dN bi] (ovl (nmH c f from_ up vm M u) rest) [dB false] (ovl (nmH c f from_ up vm M (u + 1)) rest) := by
 cases h_p : (decide (x.imm < 0)) with
 | true =>
  exact nmC_T1 c f from_ up vm M x u a mk ok bi rest hs ho  h_p
 | false =>
  cases h_q : (decide ((c.funs.length : Int) ≤ x.imm)) with
  | true =>
   exact nmC_T2 c f from_ up vm M x u a mk ok bi rest hs ho  h_p h_q
  | false =>
   simp [h_p, h_q] at h
theorem nmC_true_F1 (ho : x.op = 39) (fn : FunR) (hE : (!(x.dst == -1)) = true) (h0 : 0 ≤ x.imm) (hfn : c.funs[x.imm.toNat]? = some fn) (h_p : (decide (x.imm < 0)) = false) (h_q : (decide ((c.funs.length : Int) ≤ x.imm)) = false)  :
    HCall Pg 108 [ckP, .d (instD x), dN bi] (ovl (nmH c f from_ up vm M u) rest) [dB (cntP x fn.params true ok)] (ovl (nmH c f from_ up vm M (u + 1)) rest) :=
 qH { seqs := fun f' q => if f' = 108 then (if q = 16 then qQ (nm16 c f from_ up vm M x (u + 1) fn.params true ok) else none) else none, hint := qT 108 [(13, .call 53 _ _ hs), (20, hEq Pg x.op 45 false (by simp [ho])), (22, hEq Pg x.op 32 false (by simp [ho])), (41, hEq Pg x.op 36 false (by simp [ho])), (51, hEq Pg x.op 43 false (by simp [ho])), (52, hEq Pg x.op 44 false (by simp [ho])), (58, hEq Pg x.op 39 true (by simp [ho])), (61, qB h_p), (70, hLenM Pg funD c.funs), (71, qB h_q), (80, hIxZ Pg funD c.funs x.imm fn h0 hfn), (85, qB hE)] }
theorem nmC_true_F (ho : x.op = 39) (fn : FunR) (hE : (!(x.dst == -1)) = true) (h0 : 0 ≤ x.imm) (hfn : c.funs[x.imm.toNat]? = some fn) (h : ((decide (x.imm < 0)) || (decide ((c.funs.length : Int) ≤ x.imm))) = false)  :
    HCall Pg 108 [ckP, .d (instD x), dN bi] (ovl (nmH c f from_ up vm M u) rest) [dB (cntP x fn.params true ok)] (ovl (nmH c f from_ up vm M (u + 1)) rest) := by
 cases h_p : (decide (x.imm < 0)) with
 | true =>
  simp [h_p] at h
 | false =>
  cases h_q : (decide ((c.funs.length : Int) ≤ x.imm)) with
  | true =>
   simp [h_p, h_q] at h
  | false =>
   exact nmC_true_F1 c f from_ up vm M x u a mk ok bi rest hs ho fn hE h0 hfn  h_p h_q
theorem nmC_false_F1 (ho : x.op = 39) (fn : FunR) (hE : (!(x.dst == -1)) = false) (h0 : 0 ≤ x.imm) (hfn : c.funs[x.imm.toNat]? = some fn) (h_p : (decide (x.imm < 0)) = false) (h_q : (decide ((c.funs.length : Int) ≤ x.imm)) = false)  :
    HCall Pg 108 [ckP, .d (instD x), dN bi] (ovl (nmH c f from_ up vm M u) rest) [dB (cntP x fn.params false ok)] (ovl (nmH c f from_ up vm M (u + 1)) rest) :=
 qH { seqs := fun f' q => if f' = 108 then (if q = 16 then qQ (nm16 c f from_ up vm M x (u + 1) fn.params false ok) else none) else none, hint := qT 108 [(13, .call 53 _ _ hs), (20, hEq Pg x.op 45 false (by simp [ho])), (22, hEq Pg x.op 32 false (by simp [ho])), (41, hEq Pg x.op 36 false (by simp [ho])), (51, hEq Pg x.op 43 false (by simp [ho])), (52, hEq Pg x.op 44 false (by simp [ho])), (58, hEq Pg x.op 39 true (by simp [ho])), (61, qB h_p), (70, hLenM Pg funD c.funs), (71, qB h_q), (80, hIxZ Pg funD c.funs x.imm fn h0 hfn), (85, qB hE)] }
theorem nmC_false_F (ho : x.op = 39) (fn : FunR) (hE : (!(x.dst == -1)) = false) (h0 : 0 ≤ x.imm) (hfn : c.funs[x.imm.toNat]? = some fn) (h : ((decide (x.imm < 0)) || (decide ((c.funs.length : Int) ≤ x.imm))) = false)  :
    HCall Pg 108 [ckP, .d (instD x), dN bi] (ovl (nmH c f from_ up vm M u) rest) [dB (cntP x fn.params false ok)] (ovl (nmH c f from_ up vm M (u + 1)) rest) := by
 cases h_p : (decide (x.imm < 0)) with
 | true =>
  simp [h_p] at h
 | false =>
  cases h_q : (decide ((c.funs.length : Int) ≤ x.imm)) with
  | true =>
   simp [h_p, h_q] at h
  | false =>
   exact nmC_false_F1 c f from_ up vm M x u a mk ok bi rest hs ho fn hE h0 hfn  h_p h_q
theorem nmD (ho : x.op ≠ 45 ∧ x.op ≠ 32 ∧ x.op ≠ 36 ∧ x.op ≠ 43 ∧ x.op ≠ 44 ∧ x.op ≠ 39) : HCall Pg 108 [ckP, .d (instD x), dN bi] (ovl (nmH c f from_ up vm M u) rest) [dB (cntP x a mk ok)] (ovl (nmH c f from_ up vm M (u + 1)) rest) :=
 qH { seqs := fun f' q => if f' = 108 then (if q = 16 then qQ (nm16 c f from_ up vm M x (u + 1) a mk ok) else none) else none, hint := qT 108 [(13, .call 53 _ _ hs), (20, hEq Pg x.op 45 false (beq_eq_false_iff_ne.2 ho.1)), (22, hEq Pg x.op 32 false (beq_eq_false_iff_ne.2 ho.2.1)), (41, hEq Pg x.op 36 false (beq_eq_false_iff_ne.2 ho.2.2.1)), (51, hEq Pg x.op 43 false (beq_eq_false_iff_ne.2 ho.2.2.2.1)), (52, hEq Pg x.op 44 false (beq_eq_false_iff_ne.2 ho.2.2.2.2.1)), (58, hEq Pg x.op 39 false (beq_eq_false_iff_ne.2 ho.2.2.2.2.2))] }
end
def numP (c : CodeR) (f : FunR) (bi : Nat) (x : InstR) (a : Int) (mk ok : Bool) : Bool :=
 if x.op = 45 then false else if x.op = 32 then cntP x a mk (((bi : Int) == 0) && ((decide (0 ≤ x.imm)) && (decide (x.imm < f.params)))) else if x.op = 36 then cntP x a mk ((decide (1 ≤ x.imm)) && (decide (x.imm ≤ 256))) else if x.op = 43 ∨ x.op = 44 then cntP x a mk (varB f x.imm)
 else if x.op = 39 then !((decide (x.imm < 0)) || (decide ((c.funs.length : Int) ≤ x.imm))) && cntP x (c.funs.getD x.imm.toNat fun0).params (!(x.dst == -1)) ok else cntP x a mk ok
theorem ckNum (c : CodeR) (f : FunR) (from_ up : D) (vm : Nat) (M : List (Int × Int)) (x : InstR) (u : Nat) (a : Int) (mk ok : Bool) (bi : Nat) (rest : Heap) (hs : Pure Pg 53 [.int .u8 x.op] [.int .i64 a, .bool mk, .bool ok]) : HCall Pg 108 [ckP, .d (instD x), dN bi] (ovl (nmH c f from_ up vm M u) rest) [dB (numP c f bi x a mk ok)] (ovl (nmH c f from_ up vm M (u + 1)) rest) := by
 unfold numP
 split
 ·exact nmI c f from_ up vm M x u a mk ok bi rest hs (by assumption)
 ·split
  ·cases hc : (((bi : Int) == 0) && ((decide (0 ≤ x.imm)) && (decide (x.imm < f.params)))) with
   | true => exact nmP_T c f from_ up vm M x u a mk ok bi rest hs (by assumption) hc
   | false => exact nmP_F c f from_ up vm M x u a mk ok bi rest hs (by assumption) hc
  ·split
   ·cases hc : ((decide (1 ≤ x.imm)) && (decide (x.imm ≤ 256))) with
    | true => exact nmA_T c f from_ up vm M x u a mk ok bi rest hs (by assumption) hc
    | false => exact nmA_F c f from_ up vm M x u a mk ok bi rest hs (by assumption) hc
   ·split
    ·rename_i hgs
     cases hc : varB f x.imm with
     | true =>
      rcases hgs with hg | hg
      ·exact nmG_T c f from_ up vm M x u a mk ok bi rest hs hg hc
      ·exact nmS_T c f from_ up vm M x u a mk ok bi rest hs hg hc
     | false =>
      rcases hgs with hg | hg
      ·exact nmG_F c f from_ up vm M x u a mk ok bi rest hs hg hc
      ·exact nmS_F c f from_ up vm M x u a mk ok bi rest hs hg hc
    ·split
     ·rename_i ho
      cases hc : ((decide (x.imm < 0)) || (decide ((c.funs.length : Int) ≤ x.imm))) with
      | true => exact nmC_T c f from_ up vm M x u a mk ok bi rest hs ho hc
      | false =>
       have hlt : x.imm.toNat < c.funs.length ∧ 0 ≤ x.imm := by
        simp only [Bool.or_eq_false_iff, decide_eq_false_iff_not] at hc
        omega
       have hfn : c.funs[x.imm.toNat]? = some (c.funs.getD x.imm.toNat fun0) := by
        rw [List.getD_eq_getElem?_getD, get_of hlt.1]
        rfl
       cases hE : (!(x.dst == -1)) with
       | true => exact nmC_true_F c f from_ up vm M x u a mk ok bi rest hs ho _ hE hlt.2 hfn hc
       | false => exact nmC_false_F c f from_ up vm M x u a mk ok bi rest hs ho _ hE hlt.2 hfn hc
     ·rename_i h1 h2 h3 h4 h5
      exact nmD c f from_ up vm M x u a mk ok bi rest hs ⟨h1, h2, h3, fun e => h4 (.inl e), fun e => h4 (.inr e), h5⟩
end Go.Avm
namespace Go.Avm
open Go.Proofs Go.Avm.Dom
def encM : Nat → List (Int × Int) → List (D × D × Nat)
 | _, [] => []
 | n, p :: r => (spotD p, .agg [], n) :: encM (n + 1) r
theorem encM_len : ∀ (K : List (Int × Int)) (n : Nat), (encM n K).length = K.length
 | [], _ => rfl
 | _ :: r, n => by simp [encM, encM_len r]
theorem encM_app : ∀ (K : List (Int × Int)) (n : Nat) (p : Int × Int), encM n (K ++ [p]) = encM n K ++ [(spotD p, .agg [], n + K.length)]
 | [], n, p => by simp [encM]
 | _ :: r, n, p => by simp only [List.cons_append, encM, encM_app r (n + 1) p, List.length_cons]; rw [show n + 1 + r.length = n + (r.length + 1) by omega]
theorem same_spot (p q : Int × Int) : sameD (spotD p) (spotD q) = some (decide (p = q)) := by
 obtain ⟨a, b⟩ := p
 obtain ⟨c, d⟩ := q
 simp only [sameD, spotD, intsEq, if_true, Option.map_some, Option.some.injEq]
 by_cases h1 : a = c <;> by_cases h2 : b = d <;> simp [h1, h2]
theorem find_new (p : Int × Int) : ∀ (K : List (Int × Int)) (n i : Nat), p ∉ K → findD (spotD p) (encM n K) i = some none
 | [], _, _, _ => rfl
 | q :: r, n, i, h => by
  have hq : p ≠ q := fun e => h (by simp [e])
  simp only [encM, findD, same_spot, decide_eq_false hq]
  exact find_new p r (n + 1) (i + 1) (fun h' => h (by simp [h']))
theorem find_old (p : Int × Int) : ∀ (K : List (Int × Int)) (n i : Nat), p ∈ K → ∃ j, findD (spotD p) (encM n K) i = some (some (i + j, .agg [])) ∧ setAtD (spotD p) (.agg []) j (encM n K) = encM n K
 | q :: r, n, i, h => by
  by_cases hq : p = q
  ·subst hq
   exact ⟨0, by simp [encM, findD, same_spot], by simp [encM, setAtD]⟩
  ·obtain ⟨j, h1, h2⟩ := find_old p r (n + 1) (i + 1) (by simpa [hq] using h)
   refine ⟨j + 1, ?_, by simp [encM, setAtD, h2]⟩
   simp only [encM, findD, same_spot, decide_eq_false hq, h1]
   rw [show i + 1 + j = i + (j + 1) by omega]
def seenK : List DbgR → List (Int × Int) → List (Int × Int)
 | [], K => K
 | d :: r, K => seenK r (if (d.depth, d.var) ∈ K then K else K ++ [(d.depth, d.var)])
theorem seenK_app : ∀ (l : List DbgR) (d : DbgR) (K : List (Int × Int)), seenK (l ++ [d]) K = (if (d.depth, d.var) ∈ seenK l K then seenK l K else seenK l K ++ [(d.depth, d.var)])
 | [], d, K => rfl
 | e :: l, d, K => by rw [List.cons_append, seenK, seenK_app l d, seenK]
def siL (x : InstR) (ub vp i : Nat) : List (Nat × AV) := [(0, ckP), (3, .ptr 500003 ub 0 0 1), (6, .mp 500042 vp), (44, .d (dbgsD x.dbg)), (45, dN x.dbg.length), (46, dN i)]
def siE (c : CodeR) (f : FunR) (from_ up : D) (vm : Nat) (M : List (Int × Int)) (x : InstR) (ub vp : Nat) (K : List (Int × Int)) (w : Nat) : List (Nat × Ent) := ckH c f from_ up vm M ++ [(500003, ⟨ub, some (.arr 1 (cellsI x))⟩), (500042, ⟨vp, some (.map (encM 0 K) K.length)⟩), (500326, ⟨w, none⟩)]
def ckBad (n : Nat) (f : FunR) (d : DbgR) : Bool := !((decide (0 ≤ d.depth) && decide (d.depth < (n : Int))) && (if d.kind = 1 then true else if d.kind = 2 then valB f d.arg else if d.kind = 3 then varB f d.arg else false))
section
variable (c : CodeR) (f : FunR) (from_ up : D) (vm : Nat) (M : List (Int × Int)) (x : InstR) (ub vp : Nat) (K : List (Int × Int)) (w i : Nat) (d : DbgR) (st : List (Int × Int)) (hi : i < x.dbg.length) (hl : x.dbg.length < 4000000) (hxd : x.dbg[i]? = some d) (h0 : 0 ≤ x.site) (hst : c.stops[x.site.toNat]? = some st)
include c f from_ up vm M x ub vp K w i d st hi hl hxd h0 hst
theorem si1_F1 (hk : d.kind = 1) (h_a : (decide (0 ≤ d.depth)) = true) (h_b : (decide (d.depth < (st.length : Int))) = false) : RW 106 (lO 109 10) (siL x ub vp i) (siE c f from_ up vm M x ub vp K w) .ret [(4, dB false)] (siE c f from_ up vm M x ub vp K (w + 1)) := qS { hint := qT 109 [(47, qL hi), (48, hIxM Pg dbgD x.dbg i d hxd), (52, qB h_a), (63, hIxZ Pg spotsD c.stops x.site st h0 hst), (65, hLenM Pg spotD st), (66, qB h_b), (71, hEq Pg d.kind 1 true (by simp [hk]))] } 109 500000
theorem si1_F2 (hk : d.kind = 1) (h_a : (decide (0 ≤ d.depth)) = false) : RW 106 (lO 109 10) (siL x ub vp i) (siE c f from_ up vm M x ub vp K w) .ret [(4, dB false)] (siE c f from_ up vm M x ub vp K (w + 1)) := qS { hint := qT 109 [(47, qL hi), (48, hIxM Pg dbgD x.dbg i d hxd), (52, qB h_a), (71, hEq Pg d.kind 1 true (by simp [hk]))] } 109 500000
theorem si1_F (hk : d.kind = 1) (h : ((decide (0 ≤ d.depth)) && (decide (d.depth < (st.length : Int)))) = false) : RW 106 (lO 109 10) (siL x ub vp i) (siE c f from_ up vm M x ub vp K w) .ret [(4, dB false)] (siE c f from_ up vm M x ub vp K (w + 1)) := by
 intro rest X hP hN
 cases h_a : (decide (0 ≤ d.depth)) with
 | true =>
  cases h_b : (decide (d.depth < (st.length : Int))) with
  | true =>
   simp [h_a, h_b] at h
  | false =>
   exact si1_F1 c f from_ up vm M x ub vp K w i d st hi hl hxd h0 hst hk  h_a h_b rest X hP hN
 | false =>
  exact si1_F2 c f from_ up vm M x ub vp K w i d st hi hl hxd h0 hst hk  h_a rest X hP hN
theorem si2T_F1 (hk : d.kind = 2) (hv : valB f d.arg = true) (h_a : (decide (0 ≤ d.depth)) = true) (h_b : (decide (d.depth < (st.length : Int))) = false) : RW 106 (lO 109 10) (siL x ub vp i) (siE c f from_ up vm M x ub vp K w) .ret [(4, dB false)] (siE c f from_ up vm M x ub vp K (w + 1)) := qS { calls := qC 109 79 124 (fits_ro rfl fun rest => ckVal_T c f from_ up vm M d.arg rest hv), hint := qT 109 [(47, qL hi), (48, hIxM Pg dbgD x.dbg i d hxd), (52, qB h_a), (63, hIxZ Pg spotsD c.stops x.site st h0 hst), (65, hLenM Pg spotD st), (66, qB h_b), (71, hEq Pg d.kind 1 false (by simp [hk])), (73, hEq Pg d.kind 2 true (by simp [hk]))] } 109 500000
theorem si2T_F2 (hk : d.kind = 2) (hv : valB f d.arg = true) (h_a : (decide (0 ≤ d.depth)) = false) : RW 106 (lO 109 10) (siL x ub vp i) (siE c f from_ up vm M x ub vp K w) .ret [(4, dB false)] (siE c f from_ up vm M x ub vp K (w + 1)) := qS { calls := qC 109 79 124 (fits_ro rfl fun rest => ckVal_T c f from_ up vm M d.arg rest hv), hint := qT 109 [(47, qL hi), (48, hIxM Pg dbgD x.dbg i d hxd), (52, qB h_a), (71, hEq Pg d.kind 1 false (by simp [hk])), (73, hEq Pg d.kind 2 true (by simp [hk]))] } 109 500000
theorem si2T_F (hk : d.kind = 2) (hv : valB f d.arg = true) (h : ((decide (0 ≤ d.depth)) && (decide (d.depth < (st.length : Int)))) = false) : RW 106 (lO 109 10) (siL x ub vp i) (siE c f from_ up vm M x ub vp K w) .ret [(4, dB false)] (siE c f from_ up vm M x ub vp K (w + 1)) := by
 intro rest X hP hN
 cases h_a : (decide (0 ≤ d.depth)) with
 | true =>
  cases h_b : (decide (d.depth < (st.length : Int))) with
  | true =>
   simp [h_a, h_b] at h
  | false =>
   exact si2T_F1 c f from_ up vm M x ub vp K w i d st hi hl hxd h0 hst hk hv  h_a h_b rest X hP hN
 | false =>
  exact si2T_F2 c f from_ up vm M x ub vp K w i d st hi hl hxd h0 hst hk hv  h_a rest X hP hN
theorem si2F_T1 (hk : d.kind = 2) (hv : valB f d.arg = false) (h_a : (decide (0 ≤ d.depth)) = true) (h_b : (decide (d.depth < (st.length : Int))) = true) : RW 106 (lO 109 10) (siL x ub vp i) (siE c f from_ up vm M x ub vp K w) .ret [(4, dB false)] (siE c f from_ up vm M x ub vp K (w + 1)) := qS { calls := qC 109 79 124 (fits_ro rfl fun rest => ckVal_F c f from_ up vm M d.arg rest hv), hint := qT 109 [(47, qL hi), (48, hIxM Pg dbgD x.dbg i d hxd), (52, qB h_a), (63, hIxZ Pg spotsD c.stops x.site st h0 hst), (65, hLenM Pg spotD st), (66, qB h_b), (71, hEq Pg d.kind 1 false (by simp [hk])), (73, hEq Pg d.kind 2 true (by simp [hk]))] } 109 500000
theorem si2F_T (hk : d.kind = 2) (hv : valB f d.arg = false) (h : ((decide (0 ≤ d.depth)) && (decide (d.depth < (st.length : Int)))) = true) : RW 106 (lO 109 10) (siL x ub vp i) (siE c f from_ up vm M x ub vp K w) .ret [(4, dB false)] (siE c f from_ up vm M x ub vp K (w + 1)) := by
 intro rest X hP hN
 cases h_a : (decide (0 ≤ d.depth)) with
 | true =>
  cases h_b : (decide (d.depth < (st.length : Int))) with
  | true =>
   exact si2F_T1 c f from_ up vm M x ub vp K w i d st hi hl hxd h0 hst hk hv  h_a h_b rest X hP hN
  | false =>
   simp [h_a, h_b] at h
 | false =>
  simp [h_a] at h
theorem si2F_F1 (hk : d.kind = 2) (hv : valB f d.arg = false) (h_a : (decide (0 ≤ d.depth)) = true) (h_b : (decide (d.depth < (st.length : Int))) = false) : RW 106 (lO 109 10) (siL x ub vp i) (siE c f from_ up vm M x ub vp K w) .ret [(4, dB false)] (siE c f from_ up vm M x ub vp K (w + 1)) := qS { calls := qC 109 79 124 (fits_ro rfl fun rest => ckVal_F c f from_ up vm M d.arg rest hv), hint := qT 109 [(47, qL hi), (48, hIxM Pg dbgD x.dbg i d hxd), (52, qB h_a), (63, hIxZ Pg spotsD c.stops x.site st h0 hst), (65, hLenM Pg spotD st), (66, qB h_b), (71, hEq Pg d.kind 1 false (by simp [hk])), (73, hEq Pg d.kind 2 true (by simp [hk]))] } 109 500000
theorem si2F_F2 (hk : d.kind = 2) (hv : valB f d.arg = false) (h_a : (decide (0 ≤ d.depth)) = false) : RW 106 (lO 109 10) (siL x ub vp i) (siE c f from_ up vm M x ub vp K w) .ret [(4, dB false)] (siE c f from_ up vm M x ub vp K (w + 1)) := qS { calls := qC 109 79 124 (fits_ro rfl fun rest => ckVal_F c f from_ up vm M d.arg rest hv), hint := qT 109 [(47, qL hi), (48, hIxM Pg dbgD x.dbg i d hxd), (52, qB h_a), (71, hEq Pg d.kind 1 false (by simp [hk])), (73, hEq Pg d.kind 2 true (by simp [hk]))] } 109 500000
theorem si2F_F (hk : d.kind = 2) (hv : valB f d.arg = false) (h : ((decide (0 ≤ d.depth)) && (decide (d.depth < (st.length : Int)))) = false) : RW 106 (lO 109 10) (siL x ub vp i) (siE c f from_ up vm M x ub vp K w) .ret [(4, dB false)] (siE c f from_ up vm M x ub vp K (w + 1)) := by
 intro rest X hP hN
 cases h_a : (decide (0 ≤ d.depth)) with
 | true =>
  cases h_b : (decide (d.depth < (st.length : Int))) with
  | true =>
   simp [h_a, h_b] at h
  | false =>
   exact si2F_F1 c f from_ up vm M x ub vp K w i d st hi hl hxd h0 hst hk hv  h_a h_b rest X hP hN
 | false =>
  exact si2F_F2 c f from_ up vm M x ub vp K w i d st hi hl hxd h0 hst hk hv  h_a rest X hP hN
theorem si3T_F1 (hk : d.kind = 3) (hv : varB f d.arg = true) (h_a : (decide (0 ≤ d.depth)) = true) (h_b : (decide (d.depth < (st.length : Int))) = false) : RW 106 (lO 109 10) (siL x ub vp i) (siE c f from_ up vm M x ub vp K w) .ret [(4, dB false)] (siE c f from_ up vm M x ub vp K (w + 1)) := qS { calls := qC 109 88 125 (fits_ro rfl fun rest => ckVar_T c f from_ up vm M d.arg rest hv), hint := qT 109 [(47, qL hi), (48, hIxM Pg dbgD x.dbg i d hxd), (52, qB h_a), (63, hIxZ Pg spotsD c.stops x.site st h0 hst), (65, hLenM Pg spotD st), (66, qB h_b), (71, hEq Pg d.kind 1 false (by simp [hk])), (73, hEq Pg d.kind 2 false (by simp [hk])), (82, hEq Pg d.kind 3 true (by simp [hk]))] } 109 500000
theorem si3T_F2 (hk : d.kind = 3) (hv : varB f d.arg = true) (h_a : (decide (0 ≤ d.depth)) = false) : RW 106 (lO 109 10) (siL x ub vp i) (siE c f from_ up vm M x ub vp K w) .ret [(4, dB false)] (siE c f from_ up vm M x ub vp K (w + 1)) := qS { calls := qC 109 88 125 (fits_ro rfl fun rest => ckVar_T c f from_ up vm M d.arg rest hv), hint := qT 109 [(47, qL hi), (48, hIxM Pg dbgD x.dbg i d hxd), (52, qB h_a), (71, hEq Pg d.kind 1 false (by simp [hk])), (73, hEq Pg d.kind 2 false (by simp [hk])), (82, hEq Pg d.kind 3 true (by simp [hk]))] } 109 500000
theorem si3T_F (hk : d.kind = 3) (hv : varB f d.arg = true) (h : ((decide (0 ≤ d.depth)) && (decide (d.depth < (st.length : Int)))) = false) : RW 106 (lO 109 10) (siL x ub vp i) (siE c f from_ up vm M x ub vp K w) .ret [(4, dB false)] (siE c f from_ up vm M x ub vp K (w + 1)) := by
 intro rest X hP hN
 cases h_a : (decide (0 ≤ d.depth)) with
 | true =>
  cases h_b : (decide (d.depth < (st.length : Int))) with
  | true =>
   simp [h_a, h_b] at h
  | false =>
   exact si3T_F1 c f from_ up vm M x ub vp K w i d st hi hl hxd h0 hst hk hv  h_a h_b rest X hP hN
 | false =>
  exact si3T_F2 c f from_ up vm M x ub vp K w i d st hi hl hxd h0 hst hk hv  h_a rest X hP hN
theorem si3F_T1 (hk : d.kind = 3) (hv : varB f d.arg = false) (h_a : (decide (0 ≤ d.depth)) = true) (h_b : (decide (d.depth < (st.length : Int))) = true) : RW 106 (lO 109 10) (siL x ub vp i) (siE c f from_ up vm M x ub vp K w) .ret [(4, dB false)] (siE c f from_ up vm M x ub vp K (w + 1)) := qS { calls := qC 109 88 125 (fits_ro rfl fun rest => ckVar_F c f from_ up vm M d.arg rest hv), hint := qT 109 [(47, qL hi), (48, hIxM Pg dbgD x.dbg i d hxd), (52, qB h_a), (63, hIxZ Pg spotsD c.stops x.site st h0 hst), (65, hLenM Pg spotD st), (66, qB h_b), (71, hEq Pg d.kind 1 false (by simp [hk])), (73, hEq Pg d.kind 2 false (by simp [hk])), (82, hEq Pg d.kind 3 true (by simp [hk]))] } 109 500000
theorem si3F_T (hk : d.kind = 3) (hv : varB f d.arg = false) (h : ((decide (0 ≤ d.depth)) && (decide (d.depth < (st.length : Int)))) = true) : RW 106 (lO 109 10) (siL x ub vp i) (siE c f from_ up vm M x ub vp K w) .ret [(4, dB false)] (siE c f from_ up vm M x ub vp K (w + 1)) := by
 intro rest X hP hN
 cases h_a : (decide (0 ≤ d.depth)) with
 | true =>
  cases h_b : (decide (d.depth < (st.length : Int))) with
  | true =>
   exact si3F_T1 c f from_ up vm M x ub vp K w i d st hi hl hxd h0 hst hk hv  h_a h_b rest X hP hN
  | false =>
   simp [h_a, h_b] at h
 | false =>
  simp [h_a] at h
theorem si3F_F1 (hk : d.kind = 3) (hv : varB f d.arg = false) (h_a : (decide (0 ≤ d.depth)) = true) (h_b : (decide (d.depth < (st.length : Int))) = false) : RW 106 (lO 109 10) (siL x ub vp i) (siE c f from_ up vm M x ub vp K w) .ret [(4, dB false)] (siE c f from_ up vm M x ub vp K (w + 1)) := qS { calls := qC 109 88 125 (fits_ro rfl fun rest => ckVar_F c f from_ up vm M d.arg rest hv), hint := qT 109 [(47, qL hi), (48, hIxM Pg dbgD x.dbg i d hxd), (52, qB h_a), (63, hIxZ Pg spotsD c.stops x.site st h0 hst), (65, hLenM Pg spotD st), (66, qB h_b), (71, hEq Pg d.kind 1 false (by simp [hk])), (73, hEq Pg d.kind 2 false (by simp [hk])), (82, hEq Pg d.kind 3 true (by simp [hk]))] } 109 500000
theorem si3F_F2 (hk : d.kind = 3) (hv : varB f d.arg = false) (h_a : (decide (0 ≤ d.depth)) = false) : RW 106 (lO 109 10) (siL x ub vp i) (siE c f from_ up vm M x ub vp K w) .ret [(4, dB false)] (siE c f from_ up vm M x ub vp K (w + 1)) := qS { calls := qC 109 88 125 (fits_ro rfl fun rest => ckVar_F c f from_ up vm M d.arg rest hv), hint := qT 109 [(47, qL hi), (48, hIxM Pg dbgD x.dbg i d hxd), (52, qB h_a), (71, hEq Pg d.kind 1 false (by simp [hk])), (73, hEq Pg d.kind 2 false (by simp [hk])), (82, hEq Pg d.kind 3 true (by simp [hk]))] } 109 500000
theorem si3F_F (hk : d.kind = 3) (hv : varB f d.arg = false) (h : ((decide (0 ≤ d.depth)) && (decide (d.depth < (st.length : Int)))) = false) : RW 106 (lO 109 10) (siL x ub vp i) (siE c f from_ up vm M x ub vp K w) .ret [(4, dB false)] (siE c f from_ up vm M x ub vp K (w + 1)) := by
 intro rest X hP hN
 cases h_a : (decide (0 ≤ d.depth)) with
 | true =>
  cases h_b : (decide (d.depth < (st.length : Int))) with
  | true =>
   simp [h_a, h_b] at h
  | false =>
   exact si3F_F1 c f from_ up vm M x ub vp K w i d st hi hl hxd h0 hst hk hv  h_a h_b rest X hP hN
 | false =>
  exact si3F_F2 c f from_ up vm M x ub vp K w i d st hi hl hxd h0 hst hk hv  h_a rest X hP hN
theorem si0_T1 (hk : d.kind ≠ 1 ∧ d.kind ≠ 2 ∧ d.kind ≠ 3) (h_a : (decide (0 ≤ d.depth)) = true) (h_b : (decide (d.depth < (st.length : Int))) = true) : RW 106 (lO 109 10) (siL x ub vp i) (siE c f from_ up vm M x ub vp K w) .ret [(4, dB false)] (siE c f from_ up vm M x ub vp K (w + 1)) := qS { hint := qT 109 [(47, qL hi), (48, hIxM Pg dbgD x.dbg i d hxd), (52, qB h_a), (63, hIxZ Pg spotsD c.stops x.site st h0 hst), (65, hLenM Pg spotD st), (66, qB h_b), (71, hEq Pg d.kind 1 false (beq_eq_false_iff_ne.2 hk.1)), (73, hEq Pg d.kind 2 false (beq_eq_false_iff_ne.2 hk.2.1)), (82, hEq Pg d.kind 3 false (beq_eq_false_iff_ne.2 hk.2.2))] } 109 500000
theorem si0_T (hk : d.kind ≠ 1 ∧ d.kind ≠ 2 ∧ d.kind ≠ 3) (h : ((decide (0 ≤ d.depth)) && (decide (d.depth < (st.length : Int)))) = true) : RW 106 (lO 109 10) (siL x ub vp i) (siE c f from_ up vm M x ub vp K w) .ret [(4, dB false)] (siE c f from_ up vm M x ub vp K (w + 1)) := by
 intro rest X hP hN
 cases h_a : (decide (0 ≤ d.depth)) with
 | true =>
  cases h_b : (decide (d.depth < (st.length : Int))) with
  | true =>
   exact si0_T1 c f from_ up vm M x ub vp K w i d st hi hl hxd h0 hst hk  h_a h_b rest X hP hN
  | false =>
   simp [h_a, h_b] at h
 | false =>
  simp [h_a] at h
theorem si0_F1 (hk : d.kind ≠ 1 ∧ d.kind ≠ 2 ∧ d.kind ≠ 3) (h_a : (decide (0 ≤ d.depth)) = true) (h_b : (decide (d.depth < (st.length : Int))) = false) : RW 106 (lO 109 10) (siL x ub vp i) (siE c f from_ up vm M x ub vp K w) .ret [(4, dB false)] (siE c f from_ up vm M x ub vp K (w + 1)) := qS { hint := qT 109 [(47, qL hi), (48, hIxM Pg dbgD x.dbg i d hxd), (52, qB h_a), (63, hIxZ Pg spotsD c.stops x.site st h0 hst), (65, hLenM Pg spotD st), (66, qB h_b), (71, hEq Pg d.kind 1 false (beq_eq_false_iff_ne.2 hk.1)), (73, hEq Pg d.kind 2 false (beq_eq_false_iff_ne.2 hk.2.1)), (82, hEq Pg d.kind 3 false (beq_eq_false_iff_ne.2 hk.2.2))] } 109 500000
theorem si0_F2 (hk : d.kind ≠ 1 ∧ d.kind ≠ 2 ∧ d.kind ≠ 3) (h_a : (decide (0 ≤ d.depth)) = false) : RW 106 (lO 109 10) (siL x ub vp i) (siE c f from_ up vm M x ub vp K w) .ret [(4, dB false)] (siE c f from_ up vm M x ub vp K (w + 1)) := qS { hint := qT 109 [(47, qL hi), (48, hIxM Pg dbgD x.dbg i d hxd), (52, qB h_a), (71, hEq Pg d.kind 1 false (beq_eq_false_iff_ne.2 hk.1)), (73, hEq Pg d.kind 2 false (beq_eq_false_iff_ne.2 hk.2.1)), (82, hEq Pg d.kind 3 false (beq_eq_false_iff_ne.2 hk.2.2))] } 109 500000
theorem si0_F (hk : d.kind ≠ 1 ∧ d.kind ≠ 2 ∧ d.kind ≠ 3) (h : ((decide (0 ≤ d.depth)) && (decide (d.depth < (st.length : Int)))) = false) : RW 106 (lO 109 10) (siL x ub vp i) (siE c f from_ up vm M x ub vp K w) .ret [(4, dB false)] (siE c f from_ up vm M x ub vp K (w + 1)) := by
 intro rest X hP hN
 cases h_a : (decide (0 ≤ d.depth)) with
 | true =>
  cases h_b : (decide (d.depth < (st.length : Int))) with
  | true =>
   simp [h_a, h_b] at h
  | false =>
   exact si0_F1 c f from_ up vm M x ub vp K w i d st hi hl hxd h0 hst hk  h_a h_b rest X hP hN
 | false =>
  exact si0_F2 c f from_ up vm M x ub vp K w i d st hi hl hxd h0 hst hk  h_a rest X hP hN
theorem sg1new_T1 (hk : d.kind = 1) (hK : (d.depth, d.var) ∉ K) (h_a : (decide (0 ≤ d.depth)) = true) (h_b : (decide (d.depth < (st.length : Int))) = true) : RW 106 (lO 109 10) (siL x ub vp i) (siE c f from_ up vm M x ub vp K w) .normal (siL x ub vp (i + 1)) (siE c f from_ up vm M x ub vp (K ++ [(d.depth, d.var)]) (w + 1)) := by
 intro rest X hP hN
 unfold siE
 rw [encM_app, List.length_append, Nat.zero_add]
 exact seg okP named { hint := qT 109 [(47, qL hi), (48, hIxM Pg dbgD x.dbg i d hxd), (52, qB h_a), (63, hIxZ Pg spotsD c.stops x.site st h0 hst), (65, hLenM Pg spotD st), (66, qB h_b), (71, hEq Pg d.kind 1 true (by simp [hk])), (122007, .look (spotD (d.depth, d.var)) (encM 0 K) none (find_new _ K 0 0 hK)), (99, hSucc Pg i (by omega))] } 2000 109 500000 106 (by kernel_rfl) X hP hN
theorem sg1new_T (hk : d.kind = 1) (hK : (d.depth, d.var) ∉ K) (h : ((decide (0 ≤ d.depth)) && (decide (d.depth < (st.length : Int)))) = true) : RW 106 (lO 109 10) (siL x ub vp i) (siE c f from_ up vm M x ub vp K w) .normal (siL x ub vp (i + 1)) (siE c f from_ up vm M x ub vp (K ++ [(d.depth, d.var)]) (w + 1)) := by
 intro rest X hP hN
 cases h_a : (decide (0 ≤ d.depth)) with
 | true =>
  cases h_b : (decide (d.depth < (st.length : Int))) with
  | true =>
   exact sg1new_T1 c f from_ up vm M x ub vp K w i d st hi hl hxd h0 hst hk  hK  h_a h_b rest X hP hN
  | false =>
   simp [h_a, h_b] at h
 | false =>
  simp [h_a] at h
theorem sg2new_T1 (hk : d.kind = 2) (hv : valB f d.arg = true) (hK : (d.depth, d.var) ∉ K) (h_a : (decide (0 ≤ d.depth)) = true) (h_b : (decide (d.depth < (st.length : Int))) = true) : RW 106 (lO 109 10) (siL x ub vp i) (siE c f from_ up vm M x ub vp K w) .normal (siL x ub vp (i + 1)) (siE c f from_ up vm M x ub vp (K ++ [(d.depth, d.var)]) (w + 1)) := by
 intro rest X hP hN
 unfold siE
 rw [encM_app, List.length_append, Nat.zero_add]
 exact seg okP named { calls := qC 109 79 124 (fits_ro rfl fun rest => ckVal_T c f from_ up vm M d.arg rest hv), hint := qT 109 [(47, qL hi), (48, hIxM Pg dbgD x.dbg i d hxd), (52, qB h_a), (63, hIxZ Pg spotsD c.stops x.site st h0 hst), (65, hLenM Pg spotD st), (66, qB h_b), (71, hEq Pg d.kind 1 false (by simp [hk])), (73, hEq Pg d.kind 2 true (by simp [hk])), (122007, .look (spotD (d.depth, d.var)) (encM 0 K) none (find_new _ K 0 0 hK)), (99, hSucc Pg i (by omega))] } 2000 109 500000 106 (by kernel_rfl) X hP hN
theorem sg2new_T (hk : d.kind = 2) (hv : valB f d.arg = true) (hK : (d.depth, d.var) ∉ K) (h : ((decide (0 ≤ d.depth)) && (decide (d.depth < (st.length : Int)))) = true) : RW 106 (lO 109 10) (siL x ub vp i) (siE c f from_ up vm M x ub vp K w) .normal (siL x ub vp (i + 1)) (siE c f from_ up vm M x ub vp (K ++ [(d.depth, d.var)]) (w + 1)) := by
 intro rest X hP hN
 cases h_a : (decide (0 ≤ d.depth)) with
 | true =>
  cases h_b : (decide (d.depth < (st.length : Int))) with
  | true =>
   exact sg2new_T1 c f from_ up vm M x ub vp K w i d st hi hl hxd h0 hst hk hv hK  h_a h_b rest X hP hN
  | false =>
   simp [h_a, h_b] at h
 | false =>
  simp [h_a] at h
theorem sg3new_T1 (hk : d.kind = 3) (hv : varB f d.arg = true) (hK : (d.depth, d.var) ∉ K) (h_a : (decide (0 ≤ d.depth)) = true) (h_b : (decide (d.depth < (st.length : Int))) = true) : RW 106 (lO 109 10) (siL x ub vp i) (siE c f from_ up vm M x ub vp K w) .normal (siL x ub vp (i + 1)) (siE c f from_ up vm M x ub vp (K ++ [(d.depth, d.var)]) (w + 1)) := by
 intro rest X hP hN
 unfold siE
 rw [encM_app, List.length_append, Nat.zero_add]
 exact seg okP named { calls := qC 109 88 125 (fits_ro rfl fun rest => ckVar_T c f from_ up vm M d.arg rest hv), hint := qT 109 [(47, qL hi), (48, hIxM Pg dbgD x.dbg i d hxd), (52, qB h_a), (63, hIxZ Pg spotsD c.stops x.site st h0 hst), (65, hLenM Pg spotD st), (66, qB h_b), (71, hEq Pg d.kind 1 false (by simp [hk])), (73, hEq Pg d.kind 2 false (by simp [hk])), (82, hEq Pg d.kind 3 true (by simp [hk])), (122007, .look (spotD (d.depth, d.var)) (encM 0 K) none (find_new _ K 0 0 hK)), (99, hSucc Pg i (by omega))] } 2000 109 500000 106 (by kernel_rfl) X hP hN
theorem sg3new_T (hk : d.kind = 3) (hv : varB f d.arg = true) (hK : (d.depth, d.var) ∉ K) (h : ((decide (0 ≤ d.depth)) && (decide (d.depth < (st.length : Int)))) = true) : RW 106 (lO 109 10) (siL x ub vp i) (siE c f from_ up vm M x ub vp K w) .normal (siL x ub vp (i + 1)) (siE c f from_ up vm M x ub vp (K ++ [(d.depth, d.var)]) (w + 1)) := by
 intro rest X hP hN
 cases h_a : (decide (0 ≤ d.depth)) with
 | true =>
  cases h_b : (decide (d.depth < (st.length : Int))) with
  | true =>
   exact sg3new_T1 c f from_ up vm M x ub vp K w i d st hi hl hxd h0 hst hk hv hK  h_a h_b rest X hP hN
  | false =>
   simp [h_a, h_b] at h
 | false =>
  simp [h_a] at h
end
end Go.Avm
namespace Go.Avm
open Go.Proofs Go.Avm.Dom
def siF (c : CodeR) (f : FunR) (from_ up : D) (vm : Nat) (M : List (Int × Int)) (x : InstR) (ub vp : Nat) (L : List (D × D × Nat)) (n : Nat) (w : Nat) : List (Nat × Ent) := ckH c f from_ up vm M ++ [(500003, ⟨ub, some (.arr 1 (cellsI x))⟩), (500042, ⟨vp, some (.map L n)⟩), (500326, ⟨w, none⟩)]
section
variable (c : CodeR) (f : FunR) (from_ up : D) (vm : Nat) (M : List (Int × Int)) (x : InstR) (ub vp : Nat) (K : List (Int × Int)) (w i : Nat) (d : DbgR) (st : List (Int × Int)) (hi : i < x.dbg.length) (hl : x.dbg.length < 4000000) (hxd : x.dbg[i]? = some d) (h0 : 0 ≤ x.site) (hst : c.stops[x.site.toNat]? = some st)
include c f from_ up vm M x ub vp K w i d st hi hl hxd h0 hst
theorem sg1old_T1 (hk : d.kind = 1) (j : Nat) (hf : findD (spotD (d.depth, d.var)) (encM 0 K) 0 = some (some (0 + j, .agg []))) (h_a : (decide (0 ≤ d.depth)) = true) (h_b : (decide (d.depth < (st.length : Int))) = true) : RW 106 (lO 109 10) (siL x ub vp i) (siE c f from_ up vm M x ub vp K w) .normal (siL x ub vp (i + 1)) (siF c f from_ up vm M x ub vp (setAtD (spotD (d.depth, d.var)) (.agg []) (0 + j) (encM 0 K)) K.length (w + 1)) := qS { hint := qT 109 [(47, qL hi), (48, hIxM Pg dbgD x.dbg i d hxd), (52, qB h_a), (63, hIxZ Pg spotsD c.stops x.site st h0 hst), (65, hLenM Pg spotD st), (66, qB h_b), (71, hEq Pg d.kind 1 true (by simp [hk])), (122007, .look (spotD (d.depth, d.var)) (encM 0 K) (some (0 + j, .agg [])) hf), (99, hSucc Pg i (by omega))] } 109 500000
theorem sg1old_T (hk : d.kind = 1) (j : Nat) (hf : findD (spotD (d.depth, d.var)) (encM 0 K) 0 = some (some (0 + j, .agg []))) (h : ((decide (0 ≤ d.depth)) && (decide (d.depth < (st.length : Int)))) = true) : RW 106 (lO 109 10) (siL x ub vp i) (siE c f from_ up vm M x ub vp K w) .normal (siL x ub vp (i + 1)) (siF c f from_ up vm M x ub vp (setAtD (spotD (d.depth, d.var)) (.agg []) (0 + j) (encM 0 K)) K.length (w + 1)) := by
 intro rest X hP hN
 cases h_a : (decide (0 ≤ d.depth)) with
 | true =>
  cases h_b : (decide (d.depth < (st.length : Int))) with
  | true =>
   exact sg1old_T1 c f from_ up vm M x ub vp K w i d st hi hl hxd h0 hst hk  j hf  h_a h_b rest X hP hN
  | false =>
   simp [h_a, h_b] at h
 | false =>
  simp [h_a] at h
theorem sg2old_T1 (hk : d.kind = 2) (hv : valB f d.arg = true) (j : Nat) (hf : findD (spotD (d.depth, d.var)) (encM 0 K) 0 = some (some (0 + j, .agg []))) (h_a : (decide (0 ≤ d.depth)) = true) (h_b : (decide (d.depth < (st.length : Int))) = true) : RW 106 (lO 109 10) (siL x ub vp i) (siE c f from_ up vm M x ub vp K w) .normal (siL x ub vp (i + 1)) (siF c f from_ up vm M x ub vp (setAtD (spotD (d.depth, d.var)) (.agg []) (0 + j) (encM 0 K)) K.length (w + 1)) := qS { calls := qC 109 79 124 (fits_ro rfl fun rest => ckVal_T c f from_ up vm M d.arg rest hv), hint := qT 109 [(47, qL hi), (48, hIxM Pg dbgD x.dbg i d hxd), (52, qB h_a), (63, hIxZ Pg spotsD c.stops x.site st h0 hst), (65, hLenM Pg spotD st), (66, qB h_b), (71, hEq Pg d.kind 1 false (by simp [hk])), (73, hEq Pg d.kind 2 true (by simp [hk])), (122007, .look (spotD (d.depth, d.var)) (encM 0 K) (some (0 + j, .agg [])) hf), (99, hSucc Pg i (by omega))] } 109 500000
theorem sg2old_T (hk : d.kind = 2) (hv : valB f d.arg = true) (j : Nat) (hf : findD (spotD (d.depth, d.var)) (encM 0 K) 0 = some (some (0 + j, .agg []))) (h : ((decide (0 ≤ d.depth)) && (decide (d.depth < (st.length : Int)))) = true) : RW 106 (lO 109 10) (siL x ub vp i) (siE c f from_ up vm M x ub vp K w) .normal (siL x ub vp (i + 1)) (siF c f from_ up vm M x ub vp (setAtD (spotD (d.depth, d.var)) (.agg []) (0 + j) (encM 0 K)) K.length (w + 1)) := by
 intro rest X hP hN
 cases h_a : (decide (0 ≤ d.depth)) with
 | true =>
  cases h_b : (decide (d.depth < (st.length : Int))) with
  | true =>
   exact sg2old_T1 c f from_ up vm M x ub vp K w i d st hi hl hxd h0 hst hk hv j hf  h_a h_b rest X hP hN
  | false =>
   simp [h_a, h_b] at h
 | false =>
  simp [h_a] at h
theorem sg3old_T1 (hk : d.kind = 3) (hv : varB f d.arg = true) (j : Nat) (hf : findD (spotD (d.depth, d.var)) (encM 0 K) 0 = some (some (0 + j, .agg []))) (h_a : (decide (0 ≤ d.depth)) = true) (h_b : (decide (d.depth < (st.length : Int))) = true) : RW 106 (lO 109 10) (siL x ub vp i) (siE c f from_ up vm M x ub vp K w) .normal (siL x ub vp (i + 1)) (siF c f from_ up vm M x ub vp (setAtD (spotD (d.depth, d.var)) (.agg []) (0 + j) (encM 0 K)) K.length (w + 1)) := qS { calls := qC 109 88 125 (fits_ro rfl fun rest => ckVar_T c f from_ up vm M d.arg rest hv), hint := qT 109 [(47, qL hi), (48, hIxM Pg dbgD x.dbg i d hxd), (52, qB h_a), (63, hIxZ Pg spotsD c.stops x.site st h0 hst), (65, hLenM Pg spotD st), (66, qB h_b), (71, hEq Pg d.kind 1 false (by simp [hk])), (73, hEq Pg d.kind 2 false (by simp [hk])), (82, hEq Pg d.kind 3 true (by simp [hk])), (122007, .look (spotD (d.depth, d.var)) (encM 0 K) (some (0 + j, .agg [])) hf), (99, hSucc Pg i (by omega))] } 109 500000
theorem sg3old_T (hk : d.kind = 3) (hv : varB f d.arg = true) (j : Nat) (hf : findD (spotD (d.depth, d.var)) (encM 0 K) 0 = some (some (0 + j, .agg []))) (h : ((decide (0 ≤ d.depth)) && (decide (d.depth < (st.length : Int)))) = true) : RW 106 (lO 109 10) (siL x ub vp i) (siE c f from_ up vm M x ub vp K w) .normal (siL x ub vp (i + 1)) (siF c f from_ up vm M x ub vp (setAtD (spotD (d.depth, d.var)) (.agg []) (0 + j) (encM 0 K)) K.length (w + 1)) := by
 intro rest X hP hN
 cases h_a : (decide (0 ≤ d.depth)) with
 | true =>
  cases h_b : (decide (d.depth < (st.length : Int))) with
  | true =>
   exact sg3old_T1 c f from_ up vm M x ub vp K w i d st hi hl hxd h0 hst hk hv j hf  h_a h_b rest X hP hN
  | false =>
   simp [h_a, h_b] at h
 | false =>
  simp [h_a] at h
theorem siRound :
    ∃ u' : List (Int × Int) × Nat, (ckBad st.length f d = false → u'.1 = (if (d.depth, d.var) ∈ K then K else K ++ [(d.depth, d.var)])) ∧ ∀ (rest : Heap) (X : Fix), X.P = Pg → X.N = 106 → AW X (lO 109 10) ⟨envOf (siL x ub vp i), ovl (siE c f from_ up vm M x ub vp K w) rest⟩ fun e' S' => e' = bE (!ckBad st.length f d) ∧ Weak X S' (bif !ckBad st.length f d then ⟨envOf (siL x ub vp (i + 1)), ovl (siE c f from_ up vm M x ub vp u'.1 u'.2) rest⟩ else ⟨envOf [(4, dB false)], ovl (siE c f from_ up vm M x ub vp u'.1 u'.2) rest⟩) := by
 have hbad : ckBad st.length f d = true → RW 106 (lO 109 10) (siL x ub vp i) (siE c f from_ up vm M x ub vp K w) .ret [(4, dB false)] (siE c f from_ up vm M x ub vp K (w + 1)) := by
  intro hb rest X hP hN
  unfold ckBad at hb
  by_cases k1 : d.kind = 1
  ·rw [if_pos k1, Bool.and_true] at hb
   exact si1_F c f from_ up vm M x ub vp K w i d st hi hl hxd h0 hst k1 (not_f hb) rest X hP hN
  ·rw [if_neg k1] at hb
   by_cases k2 : d.kind = 2
   ·rw [if_pos k2] at hb
    cases hv : valB f d.arg with
    | true =>
     rw [hv, Bool.and_true] at hb
     exact si2T_F c f from_ up vm M x ub vp K w i d st hi hl hxd h0 hst k2 hv (not_f hb) rest X hP hN
    | false =>
     cases ha : ((decide (0 ≤ d.depth)) && (decide (d.depth < (st.length : Int)))) with
     | true => exact si2F_T c f from_ up vm M x ub vp K w i d st hi hl hxd h0 hst k2 hv ha rest X hP hN
     | false => exact si2F_F c f from_ up vm M x ub vp K w i d st hi hl hxd h0 hst k2 hv ha rest X hP hN
   ·rw [if_neg k2] at hb
    by_cases k3 : d.kind = 3
    ·rw [if_pos k3] at hb
     cases hv : varB f d.arg with
     | true =>
      rw [hv, Bool.and_true] at hb
      exact si3T_F c f from_ up vm M x ub vp K w i d st hi hl hxd h0 hst k3 hv (not_f hb) rest X hP hN
     | false =>
      cases ha : ((decide (0 ≤ d.depth)) && (decide (d.depth < (st.length : Int)))) with
      | true => exact si3F_T c f from_ up vm M x ub vp K w i d st hi hl hxd h0 hst k3 hv ha rest X hP hN
      | false => exact si3F_F c f from_ up vm M x ub vp K w i d st hi hl hxd h0 hst k3 hv ha rest X hP hN
    ·cases ha : ((decide (0 ≤ d.depth)) && (decide (d.depth < (st.length : Int)))) with
     | true => exact si0_T c f from_ up vm M x ub vp K w i d st hi hl hxd h0 hst ⟨k1, k2, k3⟩ ha rest X hP hN
     | false => exact si0_F c f from_ up vm M x ub vp K w i d st hi hl hxd h0 hst ⟨k1, k2, k3⟩ ha rest X hP hN
 have hgood : ckBad st.length f d = false → RW 106 (lO 109 10) (siL x ub vp i) (siE c f from_ up vm M x ub vp K w) .normal (siL x ub vp (i + 1)) (siE c f from_ up vm M x ub vp (if (d.depth, d.var) ∈ K then K else K ++ [(d.depth, d.var)]) (w + 1)) := by
  intro hb rest X hP hN
  unfold ckBad at hb
  have hb' := not_t hb
  rw [Bool.and_eq_true] at hb'
  obtain ⟨ha, hk⟩ := hb'
  by_cases hK : (d.depth, d.var) ∈ K
  ·rw [if_pos hK]
   obtain ⟨j, hf, hj⟩ := find_old (d.depth, d.var) K 0 0 hK
   have e : siE c f from_ up vm M x ub vp K (w + 1) = siF c f from_ up vm M x ub vp (setAtD (spotD (d.depth, d.var)) (.agg []) (0 + j) (encM 0 K)) K.length (w + 1) := by
    rw [Nat.zero_add, hj]
    rfl
   rw [e]
   by_cases k1 : d.kind = 1
   ·exact sg1old_T c f from_ up vm M x ub vp K w i d st hi hl hxd h0 hst k1 j hf ha rest X hP hN
   ·rw [if_neg k1] at hk
    by_cases k2 : d.kind = 2
    ·rw [if_pos k2] at hk
     exact sg2old_T c f from_ up vm M x ub vp K w i d st hi hl hxd h0 hst k2 hk j hf ha rest X hP hN
    ·rw [if_neg k2] at hk
     by_cases k3 : d.kind = 3
     ·rw [if_pos k3] at hk
      exact sg3old_T c f from_ up vm M x ub vp K w i d st hi hl hxd h0 hst k3 hk j hf ha rest X hP hN
     ·rw [if_neg k3] at hk
      cases hk
  ·rw [if_neg hK]
   by_cases k1 : d.kind = 1
   ·exact sg1new_T c f from_ up vm M x ub vp K w i d st hi hl hxd h0 hst k1 hK ha rest X hP hN
   ·rw [if_neg k1] at hk
    by_cases k2 : d.kind = 2
    ·rw [if_pos k2] at hk
     exact sg2new_T c f from_ up vm M x ub vp K w i d st hi hl hxd h0 hst k2 hk hK ha rest X hP hN
    ·rw [if_neg k2] at hk
     by_cases k3 : d.kind = 3
     ·rw [if_pos k3] at hk
      exact sg3new_T c f from_ up vm M x ub vp K w i d st hi hl hxd h0 hst k3 hk hK ha rest X hP hN
     ·rw [if_neg k3] at hk
      cases hk
 cases hb : ckBad st.length f d with
 | true => exact ⟨(K, w + 1), by simp, hbad hb⟩
 | false => exact ⟨(_, w + 1), fun _ => rfl, hgood hb⟩
end
theorem siStop (c : CodeR) (f : FunR) (from_ up : D) (vm : Nat) (M : List (Int × Int)) (x : InstR) (ub vp : Nat) (K : List (Int × Int)) (w : Nat) : RW 106 (lO 109 10) (siL x ub vp x.dbg.length) (siE c f from_ up vm M x ub vp K w) (.exit 0) [(3, .ptr 500003 ub 0 0 1), (6, .mp 500042 vp)] (siE c f from_ up vm M x ub vp K w) := qS { hint := qT 109 [(47, qG x.dbg.length)] } 109 500000
theorem siLoop (c : CodeR) (f : FunR) (from_ up : D) (vm : Nat) (M : List (Int × Int)) (x : InstR) (ub vp : Nat) (st : List (Int × Int)) (hl : x.dbg.length < 4000000) (h0 : 0 ≤ x.site) (hst : c.stops[x.site.toNat]? = some st) :
    AllLoop Pg 106 (lO 109 10) (fun (u : List (Int × Int) × Nat) rest => ⟨envOf (siL x ub vp 0), ovl (siE c f from_ up vm M x ub vp [] u.2) rest⟩) (fun u rest => ⟨envOf [(3, .ptr 500003 ub 0 0 1), (6, .mp 500042 vp)], ovl (siE c f from_ up vm M x ub vp (seenK x.dbg []) u.2) rest⟩) (fun u rest => ⟨envOf [(4, dB false)], ovl (siE c f from_ up vm M x ub vp u.1 u.2) rest⟩) (.exit 0) (x.dbg.all fun d => !ckBad st.length f d) :=
 lw_list x.dbg (fun d => !ckBad st.length f d) (fun i (u : List (Int × Int) × Nat) rest => ⟨envOf (siL x ub vp i), ovl (siE c f from_ up vm M x ub vp (seenK (x.dbg.take i) []) u.2) rest⟩) _ _ (by simp)
  (fun i hi u => by
   obtain ⟨u', h1, h2⟩ := siRound c f from_ up vm M x ub vp (seenK (x.dbg.take i) []) u.2 i x.dbg[i] st hi hl (get_of hi) h0 hst
   refine ⟨u', ?_⟩
   have hs : seenK (x.dbg.take (i + 1)) [] = (if (x.dbg[i].depth, x.dbg[i].var) ∈ seenK (x.dbg.take i) [] then seenK (x.dbg.take i) [] else seenK (x.dbg.take i) [] ++ [(x.dbg[i].depth, x.dbg[i].var)]) := by
    rw [List.take_add_one, get_of hi]
    exact seenK_app _ _ _
   rw [hs]
   cases hb : ckBad st.length f x.dbg[i] with
   | true =>
    rw [hb] at h2
    exact h2
   | false =>
    rw [hb] at h2
    rw [← h1 hb]
    exact h2)
  (fun u => ⟨u, fun rest X hP hN => by
   rw [List.take_length]
   exact siStop c f from_ up vm M x ub vp _ u.2 rest X hP hN⟩)
def sitedP (c : CodeR) (f : FunR) (x : InstR) (tr : Bool) : Bool := if isStop x = true then !(siteBad c x) && ((x.dbg.all fun d => !ckBad (stopLen c x) f d) && ((((seenK x.dbg []).length : Nat) : Int) == (x.dbg.length : Int))) else (!tr || !(siteBad c x))
end Go.Avm
namespace Go.Avm
open Go.Proofs Go.Avm.Dom
def siH (c : CodeR) (f : FunR) (from_ up : D) (vm : Nat) (M : List (Int × Int)) (ub vp w : Nat) : List (Nat × Ent) := ckH c f from_ up vm M ++ [(500003, ⟨ub, none⟩), (500042, ⟨vp, none⟩), (500326, ⟨w, none⟩)]
section
variable (c : CodeR) (f : FunR) (from_ up : D) (vm : Nat) (M : List (Int × Int)) (x : InstR) (ub vp w : Nat) (rest : Heap)
include c f from_ up vm M x ub vp w rest
theorem siA_F1 (ht : Pure Pg 82 [.int .u8 x.op] [.bool false]) (h_p : (x.op == 42) = false) (h_q : (x.op == 39) = false)  :
    HCall Pg 109 [ckP, .d (instD x)] (ovl (siH c f from_ up vm M ub vp w) rest) [dB true] (ovl (siH c f from_ up vm M (ub + 1) vp w) rest) :=
 qH { hint := qT 109 [(12, qB h_p), (16, qB h_q), (23, .call 82 _ _ ht)] }
theorem siA_F (ht : Pure Pg 82 [.int .u8 x.op] [.bool false]) (h : ((x.op == 42) || (x.op == 39)) = false)  :
    HCall Pg 109 [ckP, .d (instD x)] (ovl (siH c f from_ up vm M ub vp w) rest) [dB true] (ovl (siH c f from_ up vm M (ub + 1) vp w) rest) := by
 cases h_p : (x.op == 42) with
 | true =>
  simp [h_p] at h
 | false =>
  cases h_q : (x.op == 39) with
  | true =>
   simp [h_p, h_q] at h
  | false =>
   exact siA_F1 c f from_ up vm M x ub vp w rest ht  h_p h_q
theorem siB1_T1 (h_p : (x.op == 42) = true) (h_r : (decide (x.site < 0)) = true)  :
    HCall Pg 109 [ckP, .d (instD x)] (ovl (siH c f from_ up vm M ub vp w) rest) [dB false] (ovl (siH c f from_ up vm M (ub + 1) vp w) rest) :=
 qH { hint := qT 109 [(12, qB h_p), (28, qB h_r)] }
theorem siB1_T2 (h_p : (x.op == 42) = true) (h_r : (decide (x.site < 0)) = false) (h_s : (decide ((c.stops.length : Int) ≤ x.site)) = true)  :
    HCall Pg 109 [ckP, .d (instD x)] (ovl (siH c f from_ up vm M ub vp w) rest) [dB false] (ovl (siH c f from_ up vm M (ub + 1) vp w) rest) :=
 qH { hint := qT 109 [(12, qB h_p), (28, qB h_r), (37, hLenM Pg spotsD c.stops), (38, qB h_s)] }
theorem siB1_T3 (h_p : (x.op == 42) = false) (h_q : (x.op == 39) = true) (h_r : (decide (x.site < 0)) = true)  :
    HCall Pg 109 [ckP, .d (instD x)] (ovl (siH c f from_ up vm M ub vp w) rest) [dB false] (ovl (siH c f from_ up vm M (ub + 1) vp w) rest) :=
 qH { hint := qT 109 [(12, qB h_p), (16, qB h_q), (28, qB h_r)] }
theorem siB1_T4 (h_p : (x.op == 42) = false) (h_q : (x.op == 39) = true) (h_r : (decide (x.site < 0)) = false) (h_s : (decide ((c.stops.length : Int) ≤ x.site)) = true)  :
    HCall Pg 109 [ckP, .d (instD x)] (ovl (siH c f from_ up vm M ub vp w) rest) [dB false] (ovl (siH c f from_ up vm M (ub + 1) vp w) rest) :=
 qH { hint := qT 109 [(12, qB h_p), (16, qB h_q), (28, qB h_r), (37, hLenM Pg spotsD c.stops), (38, qB h_s)] }
theorem siB1_T (h : (((x.op == 42) || (x.op == 39)) && ((decide (x.site < 0)) || (decide ((c.stops.length : Int) ≤ x.site)))) = true)  :
    HCall Pg 109 [ckP, .d (instD x)] (ovl (siH c f from_ up vm M ub vp w) rest) [dB false] (ovl (siH c f from_ up vm M (ub + 1) vp w) rest) := by
 cases h_p : (x.op == 42) with
 | true =>
  cases h_r : (decide (x.site < 0)) with
  | true =>
   exact siB1_T1 c f from_ up vm M x ub vp w rest  h_p h_r
  | false =>
   cases h_s : (decide ((c.stops.length : Int) ≤ x.site)) with
   | true =>
    exact siB1_T2 c f from_ up vm M x ub vp w rest  h_p h_r h_s
   | false =>
    simp [h_p, h_r, h_s] at h
 | false =>
  cases h_q : (x.op == 39) with
  | true =>
   cases h_r : (decide (x.site < 0)) with
   | true =>
    exact siB1_T3 c f from_ up vm M x ub vp w rest  h_p h_q h_r
   | false =>
    cases h_s : (decide ((c.stops.length : Int) ≤ x.site)) with
    | true =>
     exact siB1_T4 c f from_ up vm M x ub vp w rest  h_p h_q h_r h_s
    | false =>
     simp [h_p, h_q, h_r, h_s] at h
  | false =>
   simp [h_p, h_q] at h
theorem siB2_F1 (ht : Pure Pg 82 [.int .u8 x.op] [.bool true]) (h_p : (x.op == 42) = false) (h_q : (x.op == 39) = false) (h_r : (decide (x.site < 0)) = true)  :
    HCall Pg 109 [ckP, .d (instD x)] (ovl (siH c f from_ up vm M ub vp w) rest) [dB false] (ovl (siH c f from_ up vm M (ub + 1) vp w) rest) :=
 qH { hint := qT 109 [(12, qB h_p), (16, qB h_q), (23, .call 82 _ _ ht), (28, qB h_r)] }
theorem siB2_F2 (ht : Pure Pg 82 [.int .u8 x.op] [.bool true]) (h_p : (x.op == 42) = false) (h_q : (x.op == 39) = false) (h_r : (decide (x.site < 0)) = false) (h_s : (decide ((c.stops.length : Int) ≤ x.site)) = true)  :
    HCall Pg 109 [ckP, .d (instD x)] (ovl (siH c f from_ up vm M ub vp w) rest) [dB false] (ovl (siH c f from_ up vm M (ub + 1) vp w) rest) :=
 qH { hint := qT 109 [(12, qB h_p), (16, qB h_q), (23, .call 82 _ _ ht), (28, qB h_r), (37, hLenM Pg spotsD c.stops), (38, qB h_s)] }
theorem siB2_F (ht : Pure Pg 82 [.int .u8 x.op] [.bool true]) (h : (((x.op == 42) || (x.op == 39)) || (!((decide (x.site < 0)) || (decide ((c.stops.length : Int) ≤ x.site))))) = false)  :
    HCall Pg 109 [ckP, .d (instD x)] (ovl (siH c f from_ up vm M ub vp w) rest) [dB false] (ovl (siH c f from_ up vm M (ub + 1) vp w) rest) := by
 cases h_p : (x.op == 42) with
 | true =>
  simp [h_p] at h
 | false =>
  cases h_q : (x.op == 39) with
  | true =>
   simp [h_p, h_q] at h
  | false =>
   cases h_r : (decide (x.site < 0)) with
   | true =>
    exact siB2_F1 c f from_ up vm M x ub vp w rest ht  h_p h_q h_r
   | false =>
    cases h_s : (decide ((c.stops.length : Int) ≤ x.site)) with
    | true =>
     exact siB2_F2 c f from_ up vm M x ub vp w rest ht  h_p h_q h_r h_s
    | false =>
     simp [h_p, h_q, h_r, h_s] at h
theorem siC_F1 (ht : Pure Pg 82 [.int .u8 x.op] [.bool true]) (h_p : (x.op == 42) = false) (h_q : (x.op == 39) = false) (h_r : (decide (x.site < 0)) = false) (h_s : (decide ((c.stops.length : Int) ≤ x.site)) = false)  :
    HCall Pg 109 [ckP, .d (instD x)] (ovl (siH c f from_ up vm M ub vp w) rest) [dB true] (ovl (siH c f from_ up vm M (ub + 1) vp w) rest) :=
 qH { hint := qT 109 [(12, qB h_p), (16, qB h_q), (23, .call 82 _ _ ht), (28, qB h_r), (37, hLenM Pg spotsD c.stops), (38, qB h_s)] }
theorem siC_F (ht : Pure Pg 82 [.int .u8 x.op] [.bool true]) (h : (((x.op == 42) || (x.op == 39)) || ((decide (x.site < 0)) || (decide ((c.stops.length : Int) ≤ x.site)))) = false)  :
    HCall Pg 109 [ckP, .d (instD x)] (ovl (siH c f from_ up vm M ub vp w) rest) [dB true] (ovl (siH c f from_ up vm M (ub + 1) vp w) rest) := by
 cases h_p : (x.op == 42) with
 | true =>
  simp [h_p] at h
 | false =>
  cases h_q : (x.op == 39) with
  | true =>
   simp [h_p, h_q] at h
  | false =>
   cases h_r : (decide (x.site < 0)) with
   | true =>
    simp [h_p, h_q, h_r] at h
   | false =>
    cases h_s : (decide ((c.stops.length : Int) ≤ x.site)) with
    | true =>
     simp [h_p, h_q, h_r, h_s] at h
    | false =>
     exact siC_F1 c f from_ up vm M x ub vp w rest ht  h_p h_q h_r h_s
end
def siT (ub : Nat) : List (Nat × AV) := [(0, ckP), (3, .ptr 500003 ub 0 0 1)]
def siTE (c : CodeR) (f : FunR) (from_ up : D) (vm : Nat) (M : List (Int × Int)) (x : InstR) (ub vp w : Nat) : List (Nat × Ent) := ckH c f from_ up vm M ++ [(500003, ⟨ub, some (.arr 1 (cellsI x))⟩), (500042, ⟨vp, none⟩), (500326, ⟨w, none⟩)]
section
variable (c : CodeR) (f : FunR) (from_ up : D) (vm : Nat) (M : List (Int × Int)) (x : InstR) (ub vp w : Nat)
include c f from_ up vm M x ub vp w
theorem si8D (K : List (Int × Int)) (w' : Nat) (hL : RE 106 (.loop (lO 109 10)) (siL x ub (vp + 1) 0) (siE c f from_ up vm M x ub (vp + 1) [] w) .ret [(4, dB false)] (siE c f from_ up vm M x ub (vp + 1) K w')) : RW 106 (seqOf Pg 109 8) (siT ub) (siTE c f from_ up vm M x ub vp w) .ret [(4, dB false)] (siH c f from_ up vm M ub (vp + 1) w') := qS { loops := qO 109 10 (qP hL), hint := qT 109 [(45, hLenM Pg dbgD x.dbg)] } 109 500000
theorem si8G (K : List (Int × Int)) (w' : Nat) (hL : RE 106 (.loop (lO 109 10)) (siL x ub (vp + 1) 0) (siE c f from_ up vm M x ub (vp + 1) [] w) (.exit 0) [(3, .ptr 500003 ub 0 0 1), (6, .mp 500042 (vp + 1))] (siE c f from_ up vm M x ub (vp + 1) K w')) : RW 106 (seqOf Pg 109 8) (siT ub) (siTE c f from_ up vm M x ub vp w) .ret [(4, dB ((K.length : Int) == (x.dbg.length : Int)))] (siH c f from_ up vm M ub (vp + 1) w') := qS { loops := qO 109 10 (qP hL), hint := qT 109 [(45, hLenM Pg dbgD x.dbg), (101, .val (dN (encM 0 K).length) (dN K.length) (by rw [encM_len])), (104, hLenM Pg dbgD x.dbg)] } 109 500000
theorem siX_T1 (rest : Heap) (t : Bool) (ub' vp' w' : Nat) (h8 : RE 106 (seqOf Pg 109 8) (siT (ub + 1)) (siTE c f from_ up vm M x (ub + 1) vp w) .ret [(4, dB t)] (siH c f from_ up vm M ub' vp' w')) (h_p : (x.op == 42) = true) (h_r : (decide (x.site < 0)) = false) (h_s : (decide ((c.stops.length : Int) ≤ x.site)) = false)  :
    HCall Pg 109 [ckP, .d (instD x)] (ovl (siH c f from_ up vm M ub vp w) rest) [dB t] (ovl (siH c f from_ up vm M ub' vp' w') rest) :=
 qH { seqs := qO 109 8 (qQ h8), hint := qT 109 [(12, qB h_p), (28, qB h_r), (37, hLenM Pg spotsD c.stops), (38, qB h_s)] }
theorem siX_T2 (rest : Heap) (t : Bool) (ub' vp' w' : Nat) (h8 : RE 106 (seqOf Pg 109 8) (siT (ub + 1)) (siTE c f from_ up vm M x (ub + 1) vp w) .ret [(4, dB t)] (siH c f from_ up vm M ub' vp' w')) (h_p : (x.op == 42) = false) (h_q : (x.op == 39) = true) (h_r : (decide (x.site < 0)) = false) (h_s : (decide ((c.stops.length : Int) ≤ x.site)) = false)  :
    HCall Pg 109 [ckP, .d (instD x)] (ovl (siH c f from_ up vm M ub vp w) rest) [dB t] (ovl (siH c f from_ up vm M ub' vp' w') rest) :=
 qH { seqs := qO 109 8 (qQ h8), hint := qT 109 [(12, qB h_p), (16, qB h_q), (28, qB h_r), (37, hLenM Pg spotsD c.stops), (38, qB h_s)] }
theorem siX_T (rest : Heap) (t : Bool) (ub' vp' w' : Nat) (h8 : RE 106 (seqOf Pg 109 8) (siT (ub + 1)) (siTE c f from_ up vm M x (ub + 1) vp w) .ret [(4, dB t)] (siH c f from_ up vm M ub' vp' w')) (h : (((x.op == 42) || (x.op == 39)) && (!((decide (x.site < 0)) || (decide ((c.stops.length : Int) ≤ x.site))))) = true)  :
    HCall Pg 109 [ckP, .d (instD x)] (ovl (siH c f from_ up vm M ub vp w) rest) [dB t] (ovl (siH c f from_ up vm M ub' vp' w') rest) := by
 cases h_p : (x.op == 42) with
 | true =>
  cases h_r : (decide (x.site < 0)) with
  | true =>
   simp [h_p, h_r] at h
  | false =>
   cases h_s : (decide ((c.stops.length : Int) ≤ x.site)) with
   | true =>
    simp [h_p, h_r, h_s] at h
   | false =>
    exact siX_T1 c f from_ up vm M x ub vp w rest t ub' vp' w' h8  h_p h_r h_s
 | false =>
  cases h_q : (x.op == 39) with
  | true =>
   cases h_r : (decide (x.site < 0)) with
   | true =>
    simp [h_p, h_q, h_r] at h
   | false =>
    cases h_s : (decide ((c.stops.length : Int) ≤ x.site)) with
    | true =>
     simp [h_p, h_q, h_r, h_s] at h
    | false =>
     exact siX_T2 c f from_ up vm M x ub vp w rest t ub' vp' w' h8  h_p h_q h_r h_s
  | false =>
   simp [h_p, h_q] at h
theorem ckSited (tr : Bool) (hl : x.dbg.length < 4000000) (ht : Pure Pg 82 [.int .u8 x.op] [.bool tr]) :
    ∃ ub' vp' w', ∀ rest : Heap, HCall Pg 109 [ckP, .d (instD x)] (ovl (siH c f from_ up vm M ub vp w) rest) [dB (sitedP c f x tr)] (ovl (siH c f from_ up vm M ub' vp' w') rest) := by
 unfold sitedP
 cases hst : isStop x with
 | false =>
  rw [if_neg (by simp)]
  unfold isStop at hst
  cases tr with
  | false => exact ⟨_, _, _, fun rest => siA_F c f from_ up vm M x ub vp w rest ht hst⟩
  | true =>
   cases hs : siteBad c x with
   | true => exact ⟨_, _, _, fun rest => siB2_F c f from_ up vm M x ub vp w rest ht (by unfold siteBad at hs; rw [hst, hs]; rfl)⟩
   | false => exact ⟨_, _, _, fun rest => siC_F c f from_ up vm M x ub vp w rest ht (by unfold siteBad at hs; rw [hst, hs]; rfl)⟩
 | true =>
  rw [if_pos rfl]
  unfold isStop at hst
  cases hs : siteBad c x with
  | true => exact ⟨_, _, _, fun rest => siB1_T c f from_ up vm M x ub vp w rest (by unfold siteBad at hs; rw [hst, hs]; rfl)⟩
  | false =>
   have hsb := hs
   unfold siteBad at hsb
   simp only [Bool.or_eq_false_iff, decide_eq_false_iff_not] at hsb
   have hget : c.stops[x.site.toNat]? = some (c.stops.getD x.site.toNat []) := by
    rw [List.getD_eq_getElem?_getD, get_of (by omega)]
    rfl
   have hL := siLoop c f from_ up vm M x (ub + 1) (vp + 1) (c.stops.getD x.site.toNat []) hl (by omega) hget ([], w)
   have hc : ((((x.op == 42) || (x.op == 39))) && (!((decide (x.site < 0)) || (decide ((c.stops.length : Int) ≤ x.site))))) = true := by
    unfold siteBad at hs
    rw [hst, hs]
    rfl
   unfold stopLen
   cases ha : x.dbg.all fun d => !ckBad (c.stops.getD x.site.toNat []).length f d with
   | false =>
    obtain ⟨u', hu⟩ := hL.2 ha
    exact ⟨_, _, _, fun rest => siX_T c f from_ up vm M x ub vp w rest false (ub + 1) (vp + 1) u'.2 (fun rest X hP hN => aw_to (si8D c f from_ up vm M x (ub + 1) vp w u'.1 u'.2 hu rest X hP hN)) hc⟩
   | true =>
    obtain ⟨u', hu⟩ := hL.1 ha
    exact ⟨_, _, _, fun rest => siX_T c f from_ up vm M x ub vp w rest _ (ub + 1) (vp + 1) u'.2 (fun rest X hP hN => aw_to (si8G c f from_ up vm M x (ub + 1) vp w (seenK x.dbg []) u'.2 hu rest X hP hN)) hc⟩
end
end Go.Avm
namespace Go.Avm
open Go.Proofs Go.Avm.Dom
abbrev Ms := List (Int × Int)
def defL (bi : Nat) (off : Int) : Nat → List InstR → List (Int × (Int × Int))
 | _, [] => []
 | m, x :: r => if x.dst = -1 then defL bi off (m + 1) r else (x.dst, ((bi : Int), (m : Int) + off)) :: defL bi off (m + 1) r
def defB (bi : Nat) (b : BlkR) : List (Int × (Int × Int)) := defL bi (-(b.phis.length : Int)) 0 b.phis ++ defL bi 0 0 b.insts
def defBs : Nat → List BlkR → List (Int × (Int × Int))
 | _, [] => []
 | bi, b :: r => defB bi b ++ defBs (bi + 1) r
def defs (f : FunR) : List (Int × (Int × Int)) := defBs 0 f.blocks
def ofV (v : Int) (l : List (Int × (Int × Int))) : List (Int × Int) := (l.filter fun p => p.1 == v).map (·.2)
theorem ofV_app (v : Int) (a b : List (Int × (Int × Int))) : ofV v (a ++ b) = ofV v a ++ ofV v b := by simp [ofV]
theorem hitL_def {v : Int} (hv : v ≠ -1) (bi : Nat) (off : Int) : ∀ (l : List InstR) (m : Nat), hitL v bi off m l = ofV v (defL bi off m l)
 | [], _ => rfl
 | x :: r, m => by
  simp only [hitL, defL]
  by_cases h1 : x.dst = v
  ·rw [if_pos h1, if_neg (by omega), hitL_def hv bi off r]
   simp [ofV, h1]
  ·rw [if_neg h1, hitL_def hv bi off r]
   split
   ·rfl
   ·simp [ofV, h1]
theorem hitBs_def {v : Int} (hv : v ≠ -1) : ∀ (l : List BlkR) (bi : Nat), hitBs v bi l = ofV v (defBs bi l)
 | [], _ => rfl
 | b :: r, bi => by
  simp only [hitBs, defBs, ofV_app, hitB, defB, hitL_def hv, hitBs_def hv r]
theorem hits_def (f : FunR) {v : Int} (hv : v ≠ -1) : hits f v = ofV v (defs f) := hitBs_def hv _ _
theorem ofV_mem {v : Int} {s : Int × Int} {l : List (Int × (Int × Int))} : s ∈ ofV v l ↔ (v, s) ∈ l := by
 simp only [ofV, List.mem_map, List.mem_filter, beq_iff_eq]
 constructor
 ·rintro ⟨⟨a, b⟩, ⟨h1, h2⟩, h3⟩
  simp only at h2 h3
  subst h2; subst h3
  exact h1
 ·intro h
  exact ⟨(v, s), ⟨h, rfl⟩, rfl⟩
theorem one_iff_nodup : ∀ l : List (Int × (Int × Int)), (∀ p ∈ l, (ofV p.1 l).length = 1) ↔ (l.map (·.1)).Nodup
 | [] => by simp
 | a :: l => by
  have key : ∀ v : Int, ofV v (a :: l) = if a.1 = v then a.2 :: ofV v l else ofV v l := fun v => by
   unfold ofV
   rw [List.filter_cons]
   by_cases h : a.1 = v
   ·simp [h]
   ·simp [h]
  rw [List.map_cons, List.nodup_cons]
  constructor
  ·intro h
   have h1 := h a (by simp)
   rw [key, if_pos rfl, List.length_cons] at h1
   have h2 : ofV a.1 l = [] := List.length_eq_zero_iff.1 (by omega)
   have hna : ∀ p ∈ l, p.1 ≠ a.1 := fun p hp e => by
    have : p.2 ∈ ofV a.1 l := ofV_mem.2 (by rw [← e]; exact hp)
    rw [h2] at this
    cases this
   refine ⟨fun hm => ?_, (one_iff_nodup l).1 fun p hp => ?_⟩
   ·obtain ⟨p, hp, e⟩ := List.mem_map.1 hm
    exact hna p hp e
   ·have := h p (by simp [hp])
    rw [key, if_neg (fun e => hna p hp e.symm)] at this
    exact this
  ·rintro ⟨h1, h2⟩ p hp
   have ih := (one_iff_nodup l).2 h2
   have hna : ∀ p ∈ l, p.1 ≠ a.1 := fun p hp e => h1 (List.mem_map.2 ⟨p, hp, e⟩)
   rcases List.mem_cons.1 hp with rfl | hp
   ·have h2 : ofV p.1 l = [] := by
      cases hh : ofV p.1 l with
      | nil => rfl
      | cons s r =>
       have : s ∈ ofV p.1 l := by rw [hh]; simp
       exact absurd rfl (hna (p.1, s) (ofV_mem.1 this))
    rw [key, if_pos rfl, h2]
    rfl
   ·rw [key, if_neg (fun e => hna p hp e.symm)]
    exact ih p hp
def mkAll (f : FunR) : List (Int × (Int × Int)) → Ms → Option Ms
 | [], M => some M
 | p :: r, M => if makeP f M p.1 = true then mkAll f r (M.set p.1.toNat p.2) else none
theorem mkAll_app (f : FunR) : ∀ (a b : List (Int × (Int × Int))) (M : Ms), mkAll f (a ++ b) M = (mkAll f a M).bind (mkAll f b)
 | [], b, M => rfl
 | p :: a, b, M => by
  simp only [List.cons_append, mkAll]
  split
  ·exact mkAll_app f a b _
  ·rfl
theorem valB_iff {f : FunR} {v : Int} : valB f v = true ↔ 0 ≤ v ∧ v < f.vals := by simp [valB]
theorem getD_set (M : Ms) (n m : Nat) (s d : Int × Int) : (M.set n s).getD m d = if n = m ∧ n < M.length then s else M.getD m d := by
 simp only [List.getD_eq_getElem?_getD, List.getElem?_set]
 by_cases h1 : n = m
 ·subst h1
  by_cases h2 : n < M.length
  ·simp [h2]
  ·simp [h2]
 ·simp [h1]
theorem mkAll_val (f : FunR) : ∀ (ds : List (Int × (Int × Int))) (M M' : Ms), M.length = f.vals.toNat → mkAll f ds M = some M' → M'.length = M.length ∧ ∀ v, valB f v = true → M'.getD v.toNat (-1, 0) = (ofV v ds).getLastD (M.getD v.toNat (-1, 0))
 | [], M, M', _, h => by
  simp only [mkAll, Option.some.injEq] at h
  subst h
  exact ⟨rfl, fun v _ => rfl⟩
 | p :: r, M, M', hM, h => by
  simp only [mkAll] at h
  split at h
  case isFalse => cases h
  rename_i hm
  unfold makeP at hm
  simp only [Bool.and_eq_true, decide_eq_true_eq] at hm
  have hv := valB_iff.1 hm.1
  obtain ⟨h1, h2⟩ := mkAll_val f r _ M' (by rw [List.length_set]; exact hM) h
  refine ⟨by rw [h1, List.length_set], fun v hvv => ?_⟩
  rw [h2 v hvv, getD_set]
  have hv2 := valB_iff.1 hvv
  by_cases e : p.1 = v
  ·rw [if_pos ⟨by rw [e], by omega⟩]
   simp only [ofV, List.filter_cons, beq_iff_eq, e, if_true, List.map_cons, List.getLastD_cons]
  ·rw [if_neg (fun hh => e (by omega))]
   simp [ofV, e]
theorem mkAll_ok (f : FunR) : ∀ (ds : List (Int × (Int × Int))) (M : Ms), M.length = f.vals.toNat → (∀ p ∈ ds, 0 ≤ p.2.1) →
    ((∃ M', mkAll f ds M = some M') ↔ (∀ p ∈ ds, makeP f M p.1 = true) ∧ (ds.map (·.1)).Nodup)
 | [], M, _, _ => by simp [mkAll]
 | p :: r, M, hM, hpos => by
  have ih := mkAll_ok f r (M.set p.1.toNat p.2) (by rw [List.length_set]; exact hM) (fun q hq => hpos q (by simp [hq]))
  have h0 := hpos p (by simp)
  have hstep : makeP f M p.1 = true → ∀ v, makeP f (M.set p.1.toNat p.2) v = (makeP f M v && decide (p.1 ≠ v)) := fun hm v => by
   unfold makeP at hm ⊢
   simp only [Bool.and_eq_true, decide_eq_true_eq] at hm
   have hv := valB_iff.1 hm.1
   cases hvv : valB f v with
   | false => simp
   | true =>
    have hv2 := valB_iff.1 hvv
    rw [getD_set]
    by_cases e : p.1 = v
    ·rw [if_pos ⟨by rw [e], by omega⟩]
     simp only [Bool.true_and, e, ne_eq, not_true_eq_false, decide_false, Bool.and_false, decide_eq_false_iff_not]
     omega
    ·rw [if_neg (fun hh => e (by omega))]
     simp [e]
  simp only [mkAll]
  rw [List.map_cons, List.nodup_cons]
  constructor
  ·rintro ⟨M', h⟩
   split at h
   case isFalse => cases h
   rename_i hm
   obtain ⟨h1, h2⟩ := ih.1 ⟨M', h⟩
   have h3 : ∀ q ∈ r, makeP f M q.1 = true ∧ p.1 ≠ q.1 := fun q hq => by
    have := h1 q hq
    rw [hstep hm] at this
    simpa using this
   refine ⟨fun q hq => ?_, fun hh => ?_, h2⟩
   ·rcases List.mem_cons.1 hq with rfl | hq
    ·exact hm
    ·exact (h3 q hq).1
   ·obtain ⟨q, hq, e⟩ := List.mem_map.1 hh
    exact (h3 q hq).2 e.symm
  ·rintro ⟨h1, h2, h3⟩
   have hm := h1 p (by simp)
   rw [if_pos hm]
   refine ih.2 ⟨fun q hq => ?_, h3⟩
   rw [hstep hm, h1 q (by simp [hq])]
   have : p.1 ≠ q.1 := fun e => h2 (List.mem_map.2 ⟨q, hq, e.symm⟩)
   simp [this]
def made0 (f : FunR) : Ms := List.replicate f.vals.toNat (-1, 0)
theorem made0_get (f : FunR) (n : Nat) : (made0 f).getD n (-1, 0) = (-1, 0) := by
 unfold made0
 rw [List.getD_eq_getElem?_getD, List.getElem?_replicate]
 split <;> rfl
theorem made0_make (f : FunR) (v : Int) : makeP f (made0 f) v = valB f v := by
 unfold makeP
 rw [made0_get]
 simp
theorem defL_pos (bi : Nat) (off : Int) : ∀ (l : List InstR) (m : Nat), ∀ p ∈ defL bi off m l, p.2.1 = (bi : Int)
 | [], _, p, h => by simp [defL] at h
 | x :: r, m, p, h => by
  simp only [defL] at h
  split at h
  ·exact defL_pos bi off r _ p h
  ·rcases List.mem_cons.1 h with rfl | h
   ·rfl
   ·exact defL_pos bi off r _ p h
theorem defBs_pos : ∀ (l : List BlkR) (bi : Nat), ∀ p ∈ defBs bi l, ∃ a : Nat, p.2.1 = (a : Int) ∧ bi ≤ a ∧ a < bi + l.length
 | [], _, p, h => by simp [defBs] at h
 | b :: r, bi, p, h => by
  simp only [defBs, List.mem_append, defB] at h
  rcases h with (h | h) | h
  ·exact ⟨bi, defL_pos _ _ _ _ p h, Nat.le_refl _, by simp⟩
  ·exact ⟨bi, defL_pos _ _ _ _ p h, Nat.le_refl _, by simp⟩
  ·obtain ⟨a, h1, h2, h3⟩ := defBs_pos r (bi + 1) p h
   exact ⟨a, h1, by omega, by simp only [List.length_cons]; omega⟩
theorem make_iff (f : FunR) : (∃ M, mkAll f (defs f) (made0 f) = some M) ↔ ∀ p ∈ defs f, valB f p.1 = true ∧ (hits f p.1).length = 1 := by
 rw [mkAll_ok f _ _ (by simp [made0]) (fun p hp => by obtain ⟨a, h, _⟩ := defBs_pos _ _ p hp; omega), ← one_iff_nodup]
 simp only [made0_make]
 constructor
 ·rintro ⟨h1, h2⟩ p hp
  have := valB_iff.1 (h1 p hp)
  exact ⟨h1 p hp, by rw [hits_def f (by omega)]; exact h2 p hp⟩
 ·intro h
  refine ⟨fun p hp => (h p hp).1, fun p hp => ?_⟩
  have := valB_iff.1 (h p hp).1
  rw [← hits_def f (by omega)]
  exact (h p hp).2
theorem uses_may (f : FunR) (g : Graph) {M : Ms} (hM : mkAll f (defs f) (made0 f) = some M) (v : Int) (q : Int × Int) : usesP f M (domAt g) v q = mayR f g v q := by
 obtain ⟨_, h2⟩ := mkAll_val f _ _ _ (by simp [made0]) hM
 have hone := (make_iff f).1 ⟨M, hM⟩
 unfold usesP mayR
 cases hv : valB f v with
 | false =>
  have : (decide (v < 0) || decide (f.vals ≤ v)) = true := by
   rw [← Bool.not_eq_true, valB_iff] at hv
   simp only [Bool.or_eq_true, decide_eq_true_eq]
   omega
  rw [this]
  rfl
 | true =>
  have hv' := valB_iff.1 hv
  have e : (decide (v < 0) || decide (f.vals ≤ v)) = false := by
   simp only [Bool.or_eq_false_iff, decide_eq_false_iff_not]
   omega
  rw [e, h2 v hv, made0_get, ← hits_def f (by omega)]
  cases hh : hits f v with
  | nil => rfl
  | cons s r =>
   have hmem : (v, s) ∈ defs f := ofV_mem.1 (by rw [← hits_def f (by omega), hh]; simp)
   have h1 := (hone _ hmem).2
   simp only [hh, List.length_cons] at h1
   have hr : r = [] := List.length_eq_zero_iff.1 (by omega)
   subst hr
   obtain ⟨a, ha, _⟩ := defBs_pos _ _ _ hmem
   simp only at ha
   have : decide (s.1 < 0) = false := dec_false (by omega)
   simp only [List.getLastD_cons, List.getLastD_nil, lastP, this, List.length_cons, List.length_nil]
   rfl
end Go.Avm
namespace Go.Avm
open Go.Proofs Go.Avm.Dom
def foldO {α σ : Type} (st : Nat → α → σ → Option σ) : Nat → List α → σ → Option σ
 | _, [], s => some s
 | i, x :: l, s => (st i x s).bind (foldO st (i + 1) l)
def phiGood (row : List Nat) (x : InstR) : Bool := (x.op == 45) && ((x.args.length : Int) == (row.length : Int))
def stP (f : FunR) (row : List Nat) (n bi : Nat) (m : Nat) (x : InstR) (M : Ms) : Option Ms :=
 if (phiGood row x && makeP f M x.dst) = true then some (M.set x.dst.toNat ((bi : Int), (m : Int) - (n : Int))) else none
def numI (c : CodeR) (f : FunR) (bi : Nat) (x : InstR) : Bool := numP c f bi x (shapeN x.op.toNat).1 (shapeN x.op.toNat).2.1 (shapeN x.op.toNat).2.2
def sitI (c : CodeR) (f : FunR) (x : InstR) : Bool := sitedP c f x (trapsN x.op.toNat)
def stI (c : CodeR) (f : FunR) (bi : Nat) (i : Nat) (x : InstR) (M : Ms) : Option Ms :=
 if (numI c f bi x && sitI c f x) = true then (if x.dst = -1 then some M else if makeP f M x.dst = true then some (M.set x.dst.toNat ((bi : Int), (i : Int))) else none) else none
def rowAt (g : Graph) (bi : Nat) : List Nat := (intoOf g).getD bi []
def stB (c : CodeR) (f : FunR) (g : Graph) (bi : Nat) (b : BlkR) (M : Ms) : Option Ms :=
 (foldO (stP f (rowAt g bi) b.phis.length bi) 0 b.phis M).bind (foldO (stI c f bi) 0 b.insts)
def phiL (row : List Nat) (x : InstR) : Bool := phiGood row x && decide (x.dst ≠ -1)
def instL (c : CodeR) (f : FunR) (bi : Nat) (x : InstR) : Bool := numI c f bi x && sitI c f x
theorem fold_phis (f : FunR) (row : List Nat) (n bi : Nat) : ∀ (l : List InstR) (m : Nat) (M : Ms), foldO (stP f row n bi) m l M = bif l.all (phiL row) then mkAll f (defL bi (-(n : Int)) m l) M else none
 | [], m, M => by simp [foldO, defL, mkAll]
 | x :: l, m, M => by
  simp only [foldO, stP, List.all_cons]
  by_cases hd : x.dst = -1
  ·have h1 : makeP f M x.dst = false := by simp [makeP, valB, hd]
   have h2 : phiL row x = false := by simp [phiL, hd]
   simp [h1, h2]
  ·rw [defL, if_neg hd]
   cases hg : phiGood row x with
   | false => simp [phiL, hg]
   | true =>
    have h2 : phiL row x = true := by simp [phiL, hg, hd]
    rw [h2, Bool.true_and, Bool.true_and]
    cases hm : makeP f M x.dst with
    | false => simp [mkAll, hm]
    | true =>
     simp only [if_true, Option.bind_some, fold_phis f row n bi l, mkAll, hm]
     rw [Int.sub_eq_add_neg]
theorem fold_insts (c : CodeR) (f : FunR) (bi : Nat) : ∀ (l : List InstR) (m : Nat) (M : Ms), foldO (stI c f bi) m l M = bif l.all (instL c f bi) then mkAll f (defL bi 0 m l) M else none
 | [], m, M => by simp [foldO, defL, mkAll]
 | x :: l, m, M => by
  simp only [foldO, stI, List.all_cons]
  have h2 : instL c f bi x = (numI c f bi x && sitI c f x) := rfl
  rw [h2]
  cases hg : (numI c f bi x && sitI c f x) with
  | false => simp
  | true =>
   rw [if_pos rfl, Bool.true_and]
   by_cases hd : x.dst = -1
   ·rw [if_pos hd, defL, if_pos hd, Option.bind_some, fold_insts c f bi l]
   ·rw [if_neg hd, defL, if_neg hd]
    cases hm : makeP f M x.dst with
    | false => simp [mkAll, hm]
    | true => simp only [if_true, Option.bind_some, fold_insts c f bi l, mkAll, hm, Int.add_zero]
def blkL (c : CodeR) (f : FunR) (g : Graph) (bi : Nat) (b : BlkR) : Bool := b.phis.all (phiL (rowAt g bi)) && b.insts.all (instL c f bi)
theorem stB_all (c : CodeR) (f : FunR) (g : Graph) (bi : Nat) (b : BlkR) (M : Ms) : stB c f g bi b M = bif blkL c f g bi b then mkAll f (defB bi b) M else none := by
 unfold stB blkL defB
 rw [fold_phis, mkAll_app]
 have e : ∀ M, foldO (stI c f bi) 0 b.insts M = bif b.insts.all (instL c f bi) then mkAll f (defL bi 0 0 b.insts) M else none := fold_insts c f bi b.insts 0
 rw [funext e]
 cases h1 : b.phis.all (phiL (rowAt g bi)) with
 | false => simp
 | true =>
  cases h2 : b.insts.all (instL c f bi) with
  | false =>
   simp only [Bool.and_false, cond_true, cond_false]
   cases mkAll f (defL bi (-(b.phis.length : Int)) 0 b.phis) M <;> rfl
  | true => simp
def blksL (c : CodeR) (f : FunR) (g : Graph) : Nat → List BlkR → Bool
 | _, [] => true
 | bi, b :: r => blkL c f g bi b && blksL c f g (bi + 1) r
theorem fold_blks (c : CodeR) (f : FunR) (g : Graph) : ∀ (l : List BlkR) (bi : Nat) (M : Ms), foldO (stB c f g) bi l M = bif blksL c f g bi l then mkAll f (defBs bi l) M else none
 | [], bi, M => by simp [foldO, blksL, defBs, mkAll]
 | b :: l, bi, M => by
  rw [foldO, stB_all, blksL, defBs, mkAll_app, funext (fold_blks c f g l (bi + 1))]
  cases h1 : blkL c f g bi b with
  | false => simp
  | true =>
   cases h2 : blksL c f g (bi + 1) l with
   | false =>
    simp only [Bool.and_false, cond_true, cond_false]
    cases mkAll f (defB bi b) M <;> rfl
   | true => simp
theorem blksL_iff (c : CodeR) (f : FunR) (g : Graph) : ∀ (l : List BlkR) (bi : Nat), blksL c f g bi l = true ↔ ∀ (j : Nat) (b : BlkR), l[j]? = some b → blkL c f g (bi + j) b = true
 | [], bi => by simp [blksL]
 | b :: l, bi => by
  rw [blksL, Bool.and_eq_true, blksL_iff c f g l (bi + 1)]
  constructor
  ·rintro ⟨h1, h2⟩ j x hx
   cases j with
   | zero => simp at hx; subst hx; exact h1
   | succ j =>
    have := h2 j x (by simpa using hx)
    rwa [show bi + 1 + j = bi + (j + 1) by omega] at this
  ·intro h
   refine ⟨h 0 b rfl, fun j x hx => ?_⟩
   have := h (j + 1) x (by simpa using hx)
   rwa [show bi + (j + 1) = bi + 1 + j by omega] at this
def makesP (c : CodeR) (f : FunR) (g : Graph) : Option Ms := foldO (stB c f g) 0 f.blocks (made0 f)
def phiU (f : FunR) (U : Int → Int × Int → Bool) (row : List Nat) (l : List Int) (k : Nat) : Bool := match l[k]? with
 | some a => U a (((row.getD k 0 : Nat) : Int), ((f.blocks.getD (row.getD k 0) ⟨[], [], 0, 0, 0, 0⟩).insts.length : Int))
 | none => true
def phiUs (f : FunR) (U : Int → Int × Int → Bool) (row : List Nat) (l : List Int) : Bool := (List.range l.length).all (phiU f U row l)
def dbgU (U : Int → Int × Int → Bool) (bi i : Nat) (d : DbgR) : Bool := !((d.kind == 2) && (!U d.arg ((bi : Int), (i : Int))))
def instU (U : Int → Int × Int → Bool) (bi i : Nat) (x : InstR) : Bool := (x.args.all fun a => U a ((bi : Int), (i : Int))) && (!(isStop x) || x.dbg.all (dbgU U bi i))
def instUAt (U : Int → Int × Int → Bool) (bi : Nat) (l : List InstR) (i : Nat) : Bool := match l[i]? with
 | some x => instU U bi i x
 | none => true
def endU (U : Int → Int × Int → Bool) (bi : Nat) (b : BlkR) : Bool := !((((b.fin == 2) || (b.fin == 3)) && (!U b.arg ((bi : Int), (b.insts.length : Int)))))
def blkU (f : FunR) (g : Graph) (U : Int → Int × Int → Bool) (bi : Nat) (b : BlkR) : Bool := (b.phis.all fun x => phiUs f U (rowAt g bi) x.args) && ((List.range b.insts.length).all (instUAt U bi b.insts) && endU U bi b)
def blkUAt (f : FunR) (g : Graph) (U : Int → Int × Int → Bool) (bi : Nat) : Bool := match f.blocks[bi]? with
 | some b => blkU f g U bi b
 | none => true
def readsP (f : FunR) (g : Graph) (U : Int → Int × Int → Bool) : Bool := (List.range f.blocks.length).all (blkUAt f g U)
theorem not_dbg {n : Nat} {vars : Int} {f : FunR} {d : DbgR} (hf : f.vars = vars) (h2 : d.kind = 2 → valB f d.arg = true) : ckBad n f d = kBad n vars d := by
 subst hf
 unfold ckBad kBad
 by_cases k1 : d.kind = 1
 ·simp only [k1, if_true, Bool.and_true]
  by_cases a : 0 ≤ d.depth <;> by_cases b : d.depth < (n : Int) <;> simp [a, b] <;> omega
 ·by_cases k2 : d.kind = 2
  ·simp only [k2, h2 k2, if_true, Bool.and_true]
   by_cases a : 0 ≤ d.depth <;> by_cases b : d.depth < (n : Int) <;> simp [a, b] <;> omega
  ·by_cases k3 : d.kind = 3
   ·simp only [k3, if_true]
    unfold varB
    by_cases a : 0 ≤ d.depth <;> by_cases b : d.depth < (n : Int) <;> by_cases e : 0 ≤ d.arg <;> by_cases q : d.arg < f.vars <;> simp [a, b, e, q] <;> omega
   ·simp only [k1, k2, k3, if_false, Bool.and_false, Bool.not_false]
    by_cases a : d.kind < 1
    ·simp [a]
    ·have : 3 < d.kind := by omega
     simp [this]
theorem seen_le : ∀ (l : List DbgR) (K : List (Int × Int)), (seenK l K).length ≤ K.length + l.length
 | [], K => by simp [seenK]
 | d :: l, K => by
  rw [seenK]
  refine Nat.le_trans (seen_le l _) ?_
  split <;> simp <;> omega
theorem seen_full : ∀ (l : List DbgR) (K : List (Int × Int)), (seenK l K).length = K.length + l.length ↔ (∀ d ∈ l, (d.depth, d.var) ∉ K) ∧ (l.map fun d => (d.depth, d.var)).Nodup
 | [], K => by simp [seenK]
 | d :: l, K => by
  rw [seenK, List.map_cons, List.nodup_cons]
  split
  ·rename_i h
   have := seen_le l K
   constructor
   ·intro h'
    simp only [List.length_cons] at h'
    omega
   ·rintro ⟨h1, _⟩
    exact absurd h (h1 d (by simp))
  ·rename_i h
   have ih := seen_full l (K ++ [(d.depth, d.var)])
   rw [List.length_append, List.length_singleton, Nat.add_assoc, Nat.add_comm 1] at ih
   rw [List.length_cons, ih]
   constructor
   ·rintro ⟨h1, h2⟩
    refine ⟨fun e he => ?_, fun hm => ?_, h2⟩
    ·rcases List.mem_cons.1 he with rfl | he
     ·exact h
     ·exact fun hh => h1 e he (by simp [hh])
    ·obtain ⟨e, he, h3⟩ := List.mem_map.1 hm
     exact h1 e he (by simp [h3])
   ·rintro ⟨h1, h2, h3⟩
    refine ⟨fun e he hh => ?_, h3⟩
    rcases List.mem_append.1 hh with hh | hh
    ·exact h1 e (by simp [he]) hh
    ·exact h2 (List.mem_map.2 ⟨e, he, by simpa using hh⟩)
theorem twin_false {d y : DbgR} : kTwin d y = false ↔ (y.depth, y.var) ≠ (d.depth, d.var) := by
 unfold kTwin
 rw [Bool.and_eq_false_iff]
 simp only [beq_eq_false_iff_ne, ne_eq, Prod.mk.injEq, not_and]
 constructor
 ·rintro (h | h) h1
  ·exact absurd h1 h
  ·exact h
 ·intro h
  by_cases h1 : y.depth = d.depth
  ·exact .inr (h h1)
  ·exact .inl h1
theorem knownR_iff (n : Nat) (vars : Int) (l : List DbgR) : knownR n vars l = true ↔ (∀ d ∈ l, kBad n vars d = false) ∧ (l.map fun d => (d.depth, d.var)).Nodup := by
 have key : ∀ i, knOk n vars l i = true ↔ ∀ d, l[i]? = some d → kBad n vars d = false ∧ ∀ y ∈ l.take i, (y.depth, y.var) ≠ (d.depth, d.var) := fun i => by
  unfold knOk
  cases h : l[i]? with
  | none => simp
  | some d =>
   simp only [Bool.and_eq_true, Bool.not_eq_true', List.all_eq_true, Option.some.injEq, forall_eq']
   exact and_congr_right fun _ => forall_congr' fun y => imp_congr_right fun _ => twin_false
 unfold knownR
 rw [List.all_eq_true]
 constructor
 ·intro h
  refine ⟨fun d hd => ?_, ?_⟩
  ·obtain ⟨i, hi, rfl⟩ := List.mem_iff_getElem.1 hd
   exact ((key i).1 (h i (List.mem_range.2 hi)) _ (get_of hi)).1
  ·rw [List.Nodup, List.pairwise_iff_getElem]
   intro i j hi hj hij
   rw [List.length_map] at hi hj
   have := ((key j).1 (h j (List.mem_range.2 hj)) _ (get_of hj)).2 l[i] (by
    rw [List.mem_iff_getElem]
    exact ⟨i, by rw [List.length_take]; omega, by rw [List.getElem_take]⟩)
   simpa using this
 ·rintro ⟨h1, h2⟩ i hi
  rw [List.Nodup, List.pairwise_iff_getElem] at h2
  refine (key i).2 fun d hd => ⟨h1 d (List.mem_of_getElem? hd), fun y hy => ?_⟩
  obtain ⟨j, hj, rfl⟩ := List.mem_iff_getElem.1 hy
  rw [List.length_take] at hj
  have hil : i < l.length := List.mem_range.1 hi
  have := h2 j i (by rw [List.length_map]; omega) (by rw [List.length_map]; omega) (by omega)
  rw [List.getElem_map, List.getElem_map] at this
  rw [List.getElem_take]
  have e : l[i] = d := by
   have := get_of hil
   rw [hd] at this
   exact (Option.some.inj this).symm
  rw [e] at this
  exact this
end Go.Avm
namespace Go.Avm
open Go.Proofs Go.Avm.Dom
def Once (f : FunR) (v : Int) : Prop := valB f v = true ∧ (hits f v).length = 1
theorem num_sw (c : CodeR) (f : FunR) (bi : Nat) (x : InstR) (a : Int) (mk ok : Bool) (h45 : x.op ≠ 45) (hok : x.op = 32 ∨ x.op = 36 ∨ x.op = 43 ∨ x.op = 44 → ok = true) :
    numP c f bi x a mk ok = (ok && (!(swBad c f bi x) && (((x.args.length : Int) == swA c x a) && (swM x mk == !(x.dst == -1))))) := by
 unfold numP swBad swA swM cntP
 rw [if_neg h45]
 by_cases h39 : x.op = 39
 ·rw [if_neg (by omega), if_neg (by omega), if_neg (by omega), if_pos h39, if_pos h39, if_pos h39, if_pos h39]
  cases ok <;> cases (decide (x.imm < 0)) <;> cases (decide ((c.funs.length : Int) ≤ x.imm)) <;> simp
 ·simp only [h39, if_false]
  by_cases h32 : x.op = 32
  ·have := hok (.inl h32)
   simp only [h32, if_true, this, Bool.true_and]
   have e1 : decide (0 ≤ x.imm) = !decide (x.imm < 0) := by
    by_cases h : x.imm < 0 <;> simp [h] <;> omega
   have e2 : decide (x.imm < f.params) = !decide (f.params ≤ x.imm) := by
    by_cases h : f.params ≤ x.imm <;> simp [h] <;> omega
   rw [e1, e2]
   cases ((bi : Int) == 0) <;> cases (decide (x.imm < 0)) <;> cases (decide (f.params ≤ x.imm)) <;> rfl
  ·simp only [h32, if_false]
   by_cases h36 : x.op = 36
   ·have := hok (.inr (.inl h36))
    simp only [h36, if_true, this, Bool.true_and]
    have e1 : decide (1 ≤ x.imm) = !decide (x.imm < 1) := by
     by_cases h : x.imm < 1 <;> simp [h] <;> omega
    have e2 : decide (x.imm ≤ 256) = !decide (256 < x.imm) := by
     by_cases h : 256 < x.imm <;> simp [h] <;> omega
    rw [e1, e2]
    cases (decide (x.imm < 1)) <;> cases (decide (256 < x.imm)) <;> rfl
   ·simp only [h36, if_false]
    by_cases h4 : x.op = 43 ∨ x.op = 44
    ·have := hok (by rcases h4 with h | h <;> simp [h])
     rw [if_pos h4, if_pos h4, this, Bool.true_and]
     unfold varB
     have e1 : decide (0 ≤ x.imm) = !decide (x.imm < 0) := by
      by_cases h : x.imm < 0 <;> simp [h] <;> omega
     have e2 : decide (x.imm < f.vars) = !decide (f.vars ≤ x.imm) := by
      by_cases h : f.vars ≤ x.imm <;> simp [h] <;> omega
     rw [e1, e2]
     cases (decide (x.imm < 0)) <;> cases (decide (f.vars ≤ x.imm)) <;> rfl
    ·rw [if_neg h4, if_neg h4, Bool.not_false, Bool.true_and]
theorem cnt_made (f : FunR) (x : InstR) (a : Int) (mk : Bool) :
    (!(cntBad f x a mk) && !(mk && (!(((hits f x.dst).length : Int) == 1)))) = true ↔ (((x.args.length : Int) == a) && (mk == !(x.dst == -1))) = true ∧ (x.dst = -1 ∨ Once f x.dst) := by
 unfold cntBad Once
 by_cases hd : x.dst = -1
 ·have hv : valB f (-1) = false := by simp [valB]
  cases mk <;> cases ha : ((x.args.length : Int) == a) <;> simp [hd, hv]
 ·have e1 : (x.dst == -1) = false := beq_eq_false_iff_ne.2 hd
  cases mk with
  | false => simp [e1, hd]
  | true =>
   cases ha : ((x.args.length : Int) == a) with
   | false => simp
   | true =>
    have e2 : valB f x.dst = !(decide (x.dst < 0) || decide (f.vals ≤ x.dst)) := by
     unfold valB
     by_cases h1 : x.dst < 0 <;> by_cases h2 : f.vals ≤ x.dst <;> simp [h1, h2] <;> omega
    rw [e1, e2]
    cases (decide (x.dst < 0)) <;> cases (decide (f.vals ≤ x.dst)) <;> simp [hd]
    omega
theorem shape_facts {n : Nat} (h : n = 32 ∨ n = 36 ∨ n = 43 ∨ n = 44) : (shapeN n).2.2 = true := by
 rcases h with rfl | rfl | rfl | rfl <;> rfl
theorem may_val {f : FunR} {g : Graph} {v : Int} {q : Int × Int} (h : mayR f g v q = true) : valB f v = true := by
 unfold mayR at h
 rw [Bool.and_eq_true] at h
 have := h.1
 rw [valB_iff]
 simp only [Bool.not_eq_true', Bool.or_eq_false_iff, decide_eq_false_iff_not] at this
 omega
theorem sit_iff (c : CodeR) (f : FunR) (g : Graph) (bi i : Nat) (x : InstR) (tr : Bool) :
    (!((isStop x || tr) && siteBad c x) && tail79 f g bi i x (stopLen c x) (isStop x)) = true ↔ sitedP c f x tr = true ∧ (!(isStop x) || x.dbg.all (dbgU (mayR f g) bi i)) = true := by
 unfold tail79 tail81 sitedP
 cases hst : isStop x with
 | false => cases tr <;> cases siteBad c x <;> simp
 | true =>
  cases siteBad c x with
  | true => simp
  | false =>
   have e : dbgOk f g bi i x.dbg = x.dbg.all (dbgU (mayR f g) bi i) := rfl
   simp only [Bool.true_or, Bool.true_and, Bool.and_false, Bool.not_false, Bool.not_true, Bool.false_or, if_true, e]
   rw [Bool.not_not, Bool.and_eq_true]
   refine and_congr_left fun hd => ?_
   have hval : ∀ d ∈ x.dbg, d.kind = 2 → valB f d.arg = true := fun d hdm hk => by
    have := List.all_eq_true.1 hd d hdm
    unfold dbgU at this
    rw [hk] at this
    simp only [beq_self_eq_true, Bool.true_and, Bool.not_not] at this
    exact may_val this
   rw [knownR_iff, Bool.and_eq_true, List.all_eq_true, beq_iff_eq]
   have hs := seen_full x.dbg []
   simp only [List.length_nil, Nat.zero_add, List.not_mem_nil, not_false_eq_true, implies_true, true_and] at hs
   rw [← hs]
   constructor
   ·rintro ⟨h1, h2⟩
    exact ⟨fun d hdm => by rw [not_dbg rfl (hval d hdm), h1 d hdm]; rfl, by omega⟩
   ·rintro ⟨h1, h2⟩
    exact ⟨fun d hdm => by rw [← not_dbg (f := f) rfl (hval d hdm)]; exact not_f (h1 d hdm), by omega⟩
theorem inst_iff (c : CodeR) (f : FunR) (g : Graph) (bi i : Nat) (x : InstR) (ho : byteZ x.op) :
    instOk c f g bi i x = true ↔ instL c f bi x = true ∧ (x.dst = -1 ∨ Once f x.dst) ∧ instU (mayR f g) bi i x = true := by
 unfold instOk instL
 by_cases h45 : x.op = 45
 ·have e : (x.op == 45) = true := by simp [h45]
  have e2 : numI c f bi x = false := by unfold numI numP; rw [if_pos h45]
  rw [e, e2]
  simp
 ·have e : (x.op == 45) = false := by simp [h45]
  rw [e, Bool.not_false, Bool.true_and]
  have hnum := num_sw c f bi x (shapeN x.op.toNat).1 (shapeN x.op.toNat).2.1 (shapeN x.op.toNat).2.2 h45 (fun h => shape_facts (by
   rcases h with h | h | h | h <;> rw [h] <;> simp))
  unfold numI
  rw [hnum]
  unfold tail49 tail64 tail66 tail70 tail76 tail77 sitI instU
  have hc := cnt_made f x (swA c x (shapeN x.op.toNat).1) (swM x (shapeN x.op.toNat).2.1)
  have hs := sit_iff c f g bi i x (trapsN x.op.toNat)
  have ha : argsOk f g bi i x.args = x.args.all fun a => mayR f g a ((bi : Int), (i : Int)) := rfl
  rw [ha]
  generalize (shapeN x.op.toNat).2.2 = ok at *
  generalize swBad c f bi x = sb at *
  generalize cntBad f x (swA c x (shapeN x.op.toNat).1) (swM x (shapeN x.op.toNat).2.1) = cb at *
  generalize (swM x (shapeN x.op.toNat).2.1 && (!(((hits f x.dst).length : Int) == 1))) = hb at *
  generalize (((x.args.length : Int) == swA c x (shapeN x.op.toNat).1) && (swM x (shapeN x.op.toNat).2.1 == !(x.dst == -1))) = cn at *
  generalize (!((isStop x || trapsN x.op.toNat) && siteBad c x) && tail79 f g bi i x (stopLen c x) (isStop x)) = st at *
  generalize sitedP c f x (trapsN x.op.toNat) = sp at *
  generalize (!(isStop x) || x.dbg.all (dbgU (mayR f g) bi i)) = du at *
  generalize (x.args.all fun a => mayR f g a ((bi : Int), (i : Int))) = au at *
  simp only [Bool.and_eq_true, Bool.not_eq_true'] at *
  constructor
  ·rintro ⟨h1, h2, h3, h4, h5, h6⟩
   have h7 := hs.1 h6
   have h8 := hc.1 ⟨h3, h4⟩
   exact ⟨⟨⟨h1, h2, h8.1⟩, h7.1⟩, h8.2, h5, h7.2⟩
  ·rintro ⟨⟨⟨h1, h2, h3⟩, h4⟩, h5, h6, h7⟩
   have h8 := hc.2 ⟨h3, h5⟩
   exact ⟨h1, h2, h8.1, h8.2, h6, hs.2 ⟨h4, h7⟩⟩
theorem phi_iff (f : FunR) (g : Graph) (row : List Nat) (x : InstR) :
    phiOk f g row x = true ↔ phiL row x = true ∧ (x.dst = -1 ∨ Once f x.dst) ∧ phiUs f (mayR f g) row x.args = true := by
 have ha : phiArgs f g row x.args = phiUs f (mayR f g) row x.args := rfl
 unfold phiOk
 rw [ha]
 generalize phiUs f (mayR f g) row x.args = u
 unfold phiBad phiL phiGood Once
 have e2 : valB f x.dst = !(decide (x.dst < 0) || decide (f.vals ≤ x.dst)) := by
  unfold valB
  by_cases h1 : x.dst < 0 <;> by_cases h2 : f.vals ≤ x.dst <;> simp [h1, h2] <;> omega
 by_cases hd : x.dst = -1
 ·have : decide (x.dst < 0) = true := by simp [hd]
  simp [hd, this]
 ·rw [e2]
  have hl : (((hits f x.dst).length : Int) == 1) = decide ((hits f x.dst).length = 1) := by
   by_cases h : (hits f x.dst).length = 1
   ·simp [h]
   ·rw [decide_eq_false h]
    exact beq_eq_false_iff_ne.2 (by omega)
  rw [hl]
  cases (x.op == 45) <;> cases ((x.args.length : Int) == (row.length : Int)) <;> cases (decide (x.dst < 0)) <;> cases (decide (f.vals ≤ x.dst)) <;> cases u <;> simp [hd]
theorem defL_mem (bi : Nat) (off : Int) : ∀ (l : List InstR) (m : Nat) (Q : Int → Prop), (∀ p ∈ defL bi off m l, Q p.1) ↔ ∀ x ∈ l, x.dst = -1 ∨ Q x.dst
 | [], m, Q => by simp [defL]
 | x :: l, m, Q => by
  rw [defL]
  split
  ·rename_i h
   rw [defL_mem bi off l]
   simp [h]
  ·rename_i h
   simp only [List.mem_cons, forall_eq_or_imp, defL_mem bi off l, h, false_or]
theorem defBs_mem (Q : Int → Prop) : ∀ (l : List BlkR) (bi : Nat), (∀ p ∈ defBs bi l, Q p.1) ↔ ∀ (j : Nat) (b : BlkR), l[j]? = some b → (∀ x ∈ b.phis, x.dst = -1 ∨ Q x.dst) ∧ (∀ x ∈ b.insts, x.dst = -1 ∨ Q x.dst)
 | [], bi => by simp [defBs]
 | b :: l, bi => by
  have e : (∀ p ∈ defBs bi (b :: l), Q p.1) ↔ ((∀ p ∈ defL bi (-(b.phis.length : Int)) 0 b.phis, Q p.1) ∧ (∀ p ∈ defL bi 0 0 b.insts, Q p.1)) ∧ ∀ p ∈ defBs (bi + 1) l, Q p.1 := by
   rw [defBs, defB]
   constructor
   ·intro h
    exact ⟨⟨fun p hp => h p (by simp [hp]), fun p hp => h p (by simp [hp])⟩, fun p hp => h p (by simp [hp])⟩
   ·rintro ⟨⟨h1, h2⟩, h3⟩ p hp
    rcases List.mem_append.1 hp with hp | hp
    ·rcases List.mem_append.1 hp with hp | hp
     ·exact h1 p hp
     ·exact h2 p hp
    ·exact h3 p hp
  rw [e, defL_mem, defL_mem, defBs_mem Q l]
  constructor
  ·rintro ⟨h1, h2⟩ j x hx
   cases j with
   | zero => simp at hx; subst hx; exact h1
   | succ j => exact h2 j x (by simpa using hx)
  ·intro h
   exact ⟨h 0 b rfl, fun j x hx => h (j + 1) x (by simpa using hx)⟩
theorem all_range {α : Type} {l : List α} {p : Nat → Bool} {q : Nat → α → Prop} (h : ∀ i x, l[i]? = some x → (p i = true ↔ q i x)) : (List.range l.length).all p = true ↔ ∀ i x, l[i]? = some x → q i x := by
 rw [List.all_eq_true]
 constructor
 ·intro h1 i x hx
  exact (h i x hx).1 (h1 i (List.mem_range.2 (List.getElem?_eq_some_iff.1 hx).1))
 ·intro h1 i hi
  have hi' := List.mem_range.1 hi
  exact (h i _ (get_of hi')).2 (h1 i _ (get_of hi'))
theorem all_getI {α : Type} {l : List α} {p : α → Bool} : l.all p = true ↔ ∀ (i : Nat) (x : α), l[i]? = some x → p x = true := by
 rw [List.all_eq_true]
 constructor
 ·intro h i x hx
  exact h x (List.mem_of_getElem? hx)
 ·intro h x hx
  obtain ⟨i, hi, rfl⟩ := List.mem_iff_getElem.1 hx
  exact h i _ (get_of hi)
theorem mem_getI {α : Type} {l : List α} {p : α → Prop} : (∀ x ∈ l, p x) ↔ ∀ (i : Nat) (x : α), l[i]? = some x → p x := by
 constructor
 ·intro h i x hx
  exact h x (List.mem_of_getElem? hx)
 ·intro h x hx
  obtain ⟨i, hi, rfl⟩ := List.mem_iff_getElem.1 hx
  exact h i _ (get_of hi)
theorem blk_iff (c : CodeR) (f : FunR) (g : Graph) (bi : Nat) (b : BlkR) (hw : wfIs b.insts) :
    blkOk c f g bi (rowAt g bi) b = true ↔ blkL c f g bi b = true ∧ ((∀ x ∈ b.phis, x.dst = -1 ∨ Once f x.dst) ∧ (∀ x ∈ b.insts, x.dst = -1 ∨ Once f x.dst)) ∧ blkU f g (mayR f g) bi b = true := by
 unfold blkOk blkL blkU
 have he : endU (mayR f g) bi b = !(endBad f g bi b) := rfl
 have h1 : phisOk f g (rowAt g bi) b.phis = true ↔ ∀ x ∈ b.phis, phiL (rowAt g bi) x = true ∧ (x.dst = -1 ∨ Once f x.dst) ∧ phiUs f (mayR f g) (rowAt g bi) x.args = true := by
  unfold phisOk
  rw [List.all_eq_true]
  exact forall_congr' fun x => imp_congr_right fun _ => phi_iff f g _ x
 have h2 : instsOk c f g bi b.insts = true ↔ ∀ i x, b.insts[i]? = some x → instL c f bi x = true ∧ (x.dst = -1 ∨ Once f x.dst) ∧ instU (mayR f g) bi i x = true :=
  all_range fun i x hx => by
   unfold instAt
   rw [hx]
   exact inst_iff c f g bi i x (hw x (List.mem_of_getElem? hx))
 have h3 : (List.range b.insts.length).all (instUAt (mayR f g) bi b.insts) = true ↔ ∀ i x, b.insts[i]? = some x → instU (mayR f g) bi i x = true :=
  all_range fun i x hx => by
   unfold instUAt
   rw [hx]
 rw [he]
 simp only [Bool.and_eq_true, h1, h2, h3, all_getI (l := b.insts), List.all_eq_true (l := b.phis), mem_getI (l := b.insts)]
 constructor
 ·rintro ⟨a1, a2, a3⟩
  exact ⟨⟨fun x hx => (a1 x hx).1, fun i x hx => (a2 i x hx).1⟩, ⟨fun x hx => (a1 x hx).2.1, fun i x hx => (a2 i x hx).2.1⟩, fun x hx => (a1 x hx).2.2, fun i x hx => (a2 i x hx).2.2, a3⟩
 ·rintro ⟨⟨a1, a2⟩, ⟨a3, a4⟩, a5, a6, a7⟩
  exact ⟨fun x hx => ⟨a1 x hx, a3 x hx, a5 x hx⟩, fun i x hx => ⟨a2 i x hx, a4 i x hx, a6 i x hx⟩, a7⟩
theorem blks_iff (c : CodeR) (f : FunR) (g : Graph) (hw : wfF f) :
    blksOk c f g = true ↔ ∃ M, makesP c f g = some M ∧ readsP f g (usesP f M (domAt g)) = true := by
 have h1 : blksOk c f g = true ↔ ∀ j b, f.blocks[j]? = some b → blkL c f g j b = true ∧ ((∀ x ∈ b.phis, x.dst = -1 ∨ Once f x.dst) ∧ (∀ x ∈ b.insts, x.dst = -1 ∨ Once f x.dst)) ∧ blkU f g (mayR f g) j b = true :=
  all_range fun i b hb => by
   unfold blkAt
   rw [hb]
   exact blk_iff c f g i b (hw b (List.mem_of_getElem? hb)).2.1
 have h2 : readsP f g (mayR f g) = true ↔ ∀ j b, f.blocks[j]? = some b → blkU f g (mayR f g) j b = true :=
  all_range fun i b hb => by
   unfold blkUAt
   rw [hb]
 have h3 := defBs_mem (Once f) f.blocks 0
 have h4 : (∃ M, mkAll f (defs f) (made0 f) = some M) ↔ ∀ p ∈ defBs 0 f.blocks, Once f p.1 := make_iff f
 have h5 := blksL_iff c f g f.blocks 0
 simp only [Nat.zero_add] at h5
 have hm : makesP c f g = bif blksL c f g 0 f.blocks then mkAll f (defs f) (made0 f) else none := fold_blks c f g f.blocks 0 (made0 f)
 rw [h1, hm]
 constructor
 ·intro h
  have a1 := h5.2 fun j b hb => (h j b hb).1
  obtain ⟨M, hM⟩ := h4.2 (h3.2 fun j b hb => (h j b hb).2.1)
  have hu : usesP f M (domAt g) = mayR f g := funext fun v => funext fun q => uses_may f g hM v q
  exact ⟨M, by rw [a1]; exact hM, by rw [hu]; exact h2.2 fun j b hb => (h j b hb).2.2⟩
 ·rintro ⟨M, hM, hr⟩
  cases a1 : blksL c f g 0 f.blocks with
  | false => rw [a1] at hM; cases hM
  | true =>
   rw [a1] at hM
   have hM : mkAll f (defs f) (made0 f) = some M := hM
   have hu : usesP f M (domAt g) = mayR f g := funext fun v => funext fun q => uses_may f g hM v q
   rw [hu] at hr
   have a2 := h5.1 a1
   have a3 := h3.1 (h4.1 ⟨M, hM⟩)
   have a4 := h2.1 hr
   exact fun j b hb => ⟨a2 j b hb, a3 j b hb, a4 j b hb⟩
end Go.Avm
namespace Go.Avm
open Go.Proofs Go.Avm.Dom
theorem ovl_app : ∀ (a b : List (Nat × Ent)) (h : Heap), ovl (a ++ b) h = ovl a (ovl b h)
 | [], b, h => rfl
 | (k, e) :: a, b, h => by rw [List.cons_append, ovl, ovl, ovl_app a b h]
theorem ovl_off {k : Nat} {h : Heap} : ∀ (b : List (Nat × Ent)), (b.all fun q => !(Nat.beq k q.1)) = true → ovl b h k = h k
 | [], _ => rfl
 | (j, e) :: b, hd => by
  simp only [List.all_cons, Bool.and_eq_true, Bool.not_eq_true'] at hd
  have hne : k ≠ j := fun h => by
   rw [h, Nat.beq_refl] at hd
   cases hd.1
  simp only [ovl, upd, if_neg hne]
  exact ovl_off b hd.2
theorem fits_rw {P : Program} {g : Nat} {args rs : List AV} {A B B' : List (Nat × Ent)} (hs : (A.all fun p => p.2.ob.isSome) = true) (hd : (A.all fun p => B'.all fun q => !(Nat.beq p.1 q.1)) = true) (h : ∀ rest : Heap, HCall P g args (ovl (A ++ B) rest) rs (ovl (A ++ B') rest)) : ∀ h : Heap, Fits h (A ++ B) → HCall P g args h rs (ovl B' h) := fun h' hf => by
 have h1 := fits_of h h' hf
 rw [ovl_app] at h1
 have h2 : Fits (ovl B' h') A := fun p hp => by
  rw [ovl_off B' (List.all_eq_true.1 hd p hp)]
  exact hf p (by simp [hp])
 rw [fits_ovl h2 hs] at h1
 exact h1
def ckHn (c : CodeR) (f : FunR) (from_ up : D) (vm n : Nat) (M : Ms) : List (Nat × Ent) := [(442, ⟨1, some (.arr 1 (ckCells c f from_ up n vm))⟩), (3143, ⟨vm, some (.arr 2 (madeA M))⟩)]
theorem ckH_n (c : CodeR) (f : FunR) (from_ up : D) (vm : Nat) {n : Nat} {M : Ms} (h : M.length = n) : ckH c f from_ up vm M = ckHn c f from_ up vm n M := by
 subst h
 rfl
def vL (l : List Nat) : Nat → Nat := fun j => l.getD j 0
def mkB (bs : List BlkR) (bi : Nat) : List (Nat × AV) := [(0, ckP), (13, .d (blksD bs)), (14, dN bs.length), (15, dN bi)]
def mkI (bs : List BlkR) (bi : Nat) (l : List InstR) (i : Nat) : List (Nat × AV) := mkB bs bi ++ [(3, dN bi), (61, .d (instsD l)), (62, dN l.length), (63, dN i)]
def mkF (bs : List BlkR) (bi vb : Nat) (l : List InstR) (i : Nat) : List (Nat × AV) := mkB bs bi ++ [(3, dN bi), (4, .ptr 500388 vb 0 0 1), (21, .d (instsD l)), (22, dN l.length), (23, dN i)]
def mkF' (bs : List BlkR) (bi vb : Nat) : List (Nat × AV) := mkB bs bi ++ [(3, dN bi), (4, .ptr 500388 vb 0 0 1)]
def mkIE (c : CodeR) (f : FunR) (from_ up : D) (vm n : Nat) (M : Ms) (u : Nat → Nat) : List (Nat × Ent) := ckHn c f from_ up vm n M ++ tm u [500005, 500004, 500003, 500042, 500326, 500392] 0
def mkFE (c : CodeR) (f : FunR) (from_ up : D) (vm n : Nat) (M : Ms) (b : BlkR) (vb : Nat) (u : Nat → Nat) : List (Nat × Ent) := ckHn c f from_ up vm n M ++ [(500388, ⟨vb, some (.arr 1 (cellsB b))⟩)] ++ tm u [500005, 500390] 0
section
variable (c : CodeR) (f : FunR) (from_ up : D) (vm n : Nat) (M : Ms) (bs : List BlkR) (bi : Nat) (l : List InstR) (i : Nat) (x : InstR) (u : Nat → Nat) (hi : i < l.length) (hl : l.length < 4000000) (hx : l[i]? = some x)
include c f from_ up vm n M bs bi l i x u hi hl hx
theorem mkI1 (hn : ∀ rest : Heap, HCall Pg 108 [ckP, .d (instD x), dN bi] (ovl (ckHn c f from_ up vm n M ++ [(500004, ⟨u 1, none⟩)]) rest) [dB false] (ovl (ckHn c f from_ up vm n M ++ [(500004, ⟨u 1 + 1, none⟩)]) rest)) : RW 96 (lO 84 11) (mkI bs bi l i) (mkIE c f from_ up vm n M u) .ret [(2, dB false)] (mkIE c f from_ up vm n M (vL [u 0, u 1 + 1, u 2, u 3, u 4, u 5 + 1])) := qS { calls := fun f' s _ => if f' = 84 then (if s = 71 then some ⟨108, _, _, _, _, fits_of hn⟩ else (none)) else none, hint := qT 84 [(64, qL hi), (66, hIxM Pg instD l i x hx)] } 84 500000
theorem mkI2 (hn : ∀ rest : Heap, HCall Pg 108 [ckP, .d (instD x), dN bi] (ovl (ckHn c f from_ up vm n M ++ [(500004, ⟨u 1, none⟩)]) rest) [dB true] (ovl (ckHn c f from_ up vm n M ++ [(500004, ⟨u 1 + 1, none⟩)]) rest)) (s2 s3 s4 : Nat) (hs : ∀ rest : Heap, HCall Pg 109 [ckP, .d (instD x)] (ovl (ckHn c f from_ up vm n M ++ [(500003, ⟨u 2, none⟩), (500042, ⟨u 3, none⟩), (500326, ⟨u 4, none⟩)]) rest) [dB false] (ovl (ckHn c f from_ up vm n M ++ [(500003, ⟨s2, none⟩), (500042, ⟨s3, none⟩), (500326, ⟨s4, none⟩)]) rest)) : RW 96 (lO 84 11) (mkI bs bi l i) (mkIE c f from_ up vm n M u) .ret [(2, dB false)] (mkIE c f from_ up vm n M (vL [u 0, u 1 + 1, s2, s3, s4, u 5 + 1])) := qS { calls := fun f' s _ => if f' = 84 then (if s = 71 then some ⟨108, _, _, _, _, fits_of hn⟩ else (if s = 76 then some ⟨109, _, _, _, _, fits_of hs⟩ else (none))) else none, hint := qT 84 [(64, qL hi), (66, hIxM Pg instD l i x hx)] } 84 500000
theorem mkI3 (hn : ∀ rest : Heap, HCall Pg 108 [ckP, .d (instD x), dN bi] (ovl (ckHn c f from_ up vm n M ++ [(500004, ⟨u 1, none⟩)]) rest) [dB true] (ovl (ckHn c f from_ up vm n M ++ [(500004, ⟨u 1 + 1, none⟩)]) rest)) (s2 s3 s4 : Nat) (hs : ∀ rest : Heap, HCall Pg 109 [ckP, .d (instD x)] (ovl (ckHn c f from_ up vm n M ++ [(500003, ⟨u 2, none⟩), (500042, ⟨u 3, none⟩), (500326, ⟨u 4, none⟩)]) rest) [dB true] (ovl (ckHn c f from_ up vm n M ++ [(500003, ⟨s2, none⟩), (500042, ⟨s3, none⟩), (500326, ⟨s4, none⟩)]) rest)) (hd : (!(x.dst == -1)) = false) : RW 96 (lO 84 11) (mkI bs bi l i) (mkIE c f from_ up vm n M u) .normal (mkI bs bi l (i + 1)) (mkIE c f from_ up vm n M (vL [u 0, u 1 + 1, s2, s3, s4, u 5 + 1])) := qS { calls := fun f' s _ => if f' = 84 then (if s = 71 then some ⟨108, _, _, _, _, fits_of hn⟩ else (if s = 76 then some ⟨109, _, _, _, _, fits_of hs⟩ else (none))) else none, hint := qT 84 [(64, qL hi), (66, hIxM Pg instD l i x hx), (82, qB hd), (94, hSucc Pg i (by omega))] } 84 500000
theorem mkI4 (hn : ∀ rest : Heap, HCall Pg 108 [ckP, .d (instD x), dN bi] (ovl (ckHn c f from_ up vm n M ++ [(500004, ⟨u 1, none⟩)]) rest) [dB true] (ovl (ckHn c f from_ up vm n M ++ [(500004, ⟨u 1 + 1, none⟩)]) rest)) (s2 s3 s4 : Nat) (hs : ∀ rest : Heap, HCall Pg 109 [ckP, .d (instD x)] (ovl (ckHn c f from_ up vm n M ++ [(500003, ⟨u 2, none⟩), (500042, ⟨u 3, none⟩), (500326, ⟨u 4, none⟩)]) rest) [dB true] (ovl (ckHn c f from_ up vm n M ++ [(500003, ⟨s2, none⟩), (500042, ⟨s3, none⟩), (500326, ⟨s4, none⟩)]) rest)) (hd : (!(x.dst == -1)) = true) (hm : ∀ rest : Heap, HCall Pg 107 [ckP, dI x.dst, .d (spotD ((bi : Int), (i : Int)))] (ovl (ckHn c f from_ up vm n M ++ [(500005, ⟨u 0, none⟩)]) rest) [dB false] (ovl (ckHn c f from_ up vm n M ++ [(500005, ⟨u 0 + 1, none⟩)]) rest)) : RW 96 (lO 84 11) (mkI bs bi l i) (mkIE c f from_ up vm n M u) .ret [(2, dB false)] (mkIE c f from_ up vm n M (vL [u 0 + 1, u 1 + 1, s2, s3, s4, u 5 + 1])) := qS { calls := fun f' s _ => if f' = 84 then (if s = 71 then some ⟨108, _, _, _, _, fits_of hn⟩ else (if s = 76 then some ⟨109, _, _, _, _, fits_of hs⟩ else (if s = 90 then some ⟨107, _, _, _, _, fits_of hm⟩ else (none)))) else none, hint := qT 84 [(64, qL hi), (66, hIxM Pg instD l i x hx), (82, qB hd)] } 84 500000
theorem mkI5 (hn : ∀ rest : Heap, HCall Pg 108 [ckP, .d (instD x), dN bi] (ovl (ckHn c f from_ up vm n M ++ [(500004, ⟨u 1, none⟩)]) rest) [dB true] (ovl (ckHn c f from_ up vm n M ++ [(500004, ⟨u 1 + 1, none⟩)]) rest)) (s2 s3 s4 : Nat) (hs : ∀ rest : Heap, HCall Pg 109 [ckP, .d (instD x)] (ovl (ckHn c f from_ up vm n M ++ [(500003, ⟨u 2, none⟩), (500042, ⟨u 3, none⟩), (500326, ⟨u 4, none⟩)]) rest) [dB true] (ovl (ckHn c f from_ up vm n M ++ [(500003, ⟨s2, none⟩), (500042, ⟨s3, none⟩), (500326, ⟨s4, none⟩)]) rest)) (hd : (!(x.dst == -1)) = true) (M' : Ms) (hm : ∀ rest : Heap, HCall Pg 107 [ckP, dI x.dst, .d (spotD ((bi : Int), (i : Int)))] (ovl (ckHn c f from_ up vm n M ++ [(500005, ⟨u 0, none⟩)]) rest) [dB true] (ovl (ckHn c f from_ up vm n M' ++ [(500005, ⟨u 0 + 1, none⟩)]) rest)) : RW 96 (lO 84 11) (mkI bs bi l i) (mkIE c f from_ up vm n M u) .normal (mkI bs bi l (i + 1)) (mkIE c f from_ up vm n M' (vL [u 0 + 1, u 1 + 1, s2, s3, s4, u 5 + 1])) := qS { calls := fun f' s _ => if f' = 84 then (if s = 71 then some ⟨108, _, _, _, _, fits_of hn⟩ else (if s = 76 then some ⟨109, _, _, _, _, fits_of hs⟩ else (if s = 90 then some ⟨107, _, _, _, _, fits_of hm⟩ else (none)))) else none, hint := qT 84 [(64, qL hi), (66, hIxM Pg instD l i x hx), (82, qB hd), (94, hSucc Pg i (by omega))] } 84 500000
end
section
variable (c : CodeR) (f : FunR)
include c f
theorem mkIStop (from_ up : D) (vm n : Nat) (M : Ms) (bs : List BlkR) (bi : Nat) (l : List InstR) (u : Nat → Nat) : RW 96 (lO 84 11) (mkI bs bi l l.length) (mkIE c f from_ up vm n M u) (.exit 4) (mkB bs bi) (mkIE c f from_ up vm n M u) := qS { hint := qT 84 [(64, qG l.length)] } 84 500000
theorem mkF1 (g : Graph) (up : D) (vm n : Nat) (M : Ms) (bs : List BlkR) (bi vb : Nat) (b : BlkR) (i : Nat) (x : InstR) (u : Nat → Nat) (row : List Nat) (hrow : (intoOf g)[bi]? = some row) (hi : i < b.phis.length) (hl : b.phis.length < 4000000) (hx : b.phis[i]? = some x) (h1 : (!(x.op == 45)) = true) : RW 96 (lO 84 5) (mkF bs bi vb b.phis i) (mkFE c f (fromD g) up vm n M b vb u) .ret [(2, dB false)] (mkFE c f (fromD g) up vm n M b vb (vL [u 0, u 1 + 1])) := qS { hint := qT 84 [(24, qL hi), (26, hIxM Pg instD b.phis i x hx), (30, qB h1)] } 84 500000
theorem mkF2 (g : Graph) (up : D) (vm n : Nat) (M : Ms) (bs : List BlkR) (bi vb : Nat) (b : BlkR) (i : Nat) (x : InstR) (u : Nat → Nat) (row : List Nat) (hrow : (intoOf g)[bi]? = some row) (hi : i < b.phis.length) (hl : b.phis.length < 4000000) (hx : b.phis[i]? = some x) (h1 : (!(x.op == 45)) = false) (h2 : (!((x.args.length : Int) == (row.length : Int))) = true) : RW 96 (lO 84 5) (mkF bs bi vb b.phis i) (mkFE c f (fromD g) up vm n M b vb u) .ret [(2, dB false)] (mkFE c f (fromD g) up vm n M b vb (vL [u 0, u 1 + 1])) := qS { hint := qT 84 [(24, qL hi), (26, hIxM Pg instD b.phis i x hx), (30, qB h1), (34, hLenM Pg intD x.args), (40, hIxM Pg rowN (intoOf g) bi row hrow), (42, hLenN Pg row), (43, qB h2)] } 84 500000
theorem mkF3 (g : Graph) (up : D) (vm n : Nat) (M : Ms) (bs : List BlkR) (bi vb : Nat) (b : BlkR) (i : Nat) (x : InstR) (u : Nat → Nat) (row : List Nat) (hrow : (intoOf g)[bi]? = some row) (hi : i < b.phis.length) (hl : b.phis.length < 4000000) (hx : b.phis[i]? = some x) (h1 : (!(x.op == 45)) = false) (h2 : (!((x.args.length : Int) == (row.length : Int))) = false) (hm : ∀ rest : Heap, HCall Pg 107 [ckP, dI x.dst, .d (spotD ((bi : Int), (i : Int) - (b.phis.length : Int)))] (ovl (ckHn c f (fromD g) up vm n M ++ [(500005, ⟨u 0, none⟩)]) rest) [dB false] (ovl (ckHn c f (fromD g) up vm n M ++ [(500005, ⟨u 0 + 1, none⟩)]) rest)) : RW 96 (lO 84 5) (mkF bs bi vb b.phis i) (mkFE c f (fromD g) up vm n M b vb u) .ret [(2, dB false)] (mkFE c f (fromD g) up vm n M b vb (vL [u 0 + 1, u 1 + 1])) := qS { calls := fun f' s _ => if f' = 84 then (if s = 56 then some ⟨107, _, _, _, _, fits_rw (A := [(442, ⟨1, some (.arr 1 (ckCells c f (fromD g) up n vm))⟩)]) (B := [(3143, ⟨vm, some (.arr 2 (madeA M))⟩), (500005, ⟨u 0, none⟩)]) (B' := [(3143, ⟨vm, some (.arr 2 (madeA M))⟩), (500005, ⟨u 0 + 1, none⟩)]) rfl rfl hm⟩ else (none)) else none, hint := qT 84 [(24, qL hi), (26, hIxM Pg instD b.phis i x hx), (30, qB h1), (34, hLenM Pg intD x.args), (40, hIxM Pg rowN (intoOf g) bi row hrow), (42, hLenN Pg row), (43, qB h2), (53, hLenM Pg instD b.phis), (54, hSubN Pg i b.phis.length (by omega) (by omega))] } 84 500000
theorem mkF4 (g : Graph) (up : D) (vm n : Nat) (M : Ms) (bs : List BlkR) (bi vb : Nat) (b : BlkR) (i : Nat) (x : InstR) (u : Nat → Nat) (row : List Nat) (hrow : (intoOf g)[bi]? = some row) (hi : i < b.phis.length) (hl : b.phis.length < 4000000) (hx : b.phis[i]? = some x) (h1 : (!(x.op == 45)) = false) (h2 : (!((x.args.length : Int) == (row.length : Int))) = false) (M' : Ms) (hm : ∀ rest : Heap, HCall Pg 107 [ckP, dI x.dst, .d (spotD ((bi : Int), (i : Int) - (b.phis.length : Int)))] (ovl (ckHn c f (fromD g) up vm n M ++ [(500005, ⟨u 0, none⟩)]) rest) [dB true] (ovl (ckHn c f (fromD g) up vm n M' ++ [(500005, ⟨u 0 + 1, none⟩)]) rest)) : RW 96 (lO 84 5) (mkF bs bi vb b.phis i) (mkFE c f (fromD g) up vm n M b vb u) .normal (mkF bs bi vb b.phis (i + 1)) (mkFE c f (fromD g) up vm n M' b vb (vL [u 0 + 1, u 1 + 1])) := qS { calls := fun f' s _ => if f' = 84 then (if s = 56 then some ⟨107, _, _, _, _, fits_rw (A := [(442, ⟨1, some (.arr 1 (ckCells c f (fromD g) up n vm))⟩)]) (B := [(3143, ⟨vm, some (.arr 2 (madeA M))⟩), (500005, ⟨u 0, none⟩)]) (B' := [(3143, ⟨vm, some (.arr 2 (madeA M'))⟩), (500005, ⟨u 0 + 1, none⟩)]) rfl rfl hm⟩ else (none)) else none, hint := qT 84 [(24, qL hi), (26, hIxM Pg instD b.phis i x hx), (30, qB h1), (34, hLenM Pg intD x.args), (40, hIxM Pg rowN (intoOf g) bi row hrow), (42, hLenN Pg row), (43, qB h2), (53, hLenM Pg instD b.phis), (54, hSubN Pg i b.phis.length (by omega) (by omega)), (59, hSucc Pg i (by omega))] } 84 500000
theorem mkFStop (g : Graph) (up : D) (vm n : Nat) (M : Ms) (bs : List BlkR) (bi vb : Nat) (b : BlkR) (u : Nat → Nat) : RW 96 (lO 84 5) (mkF bs bi vb b.phis b.phis.length) (mkFE c f (fromD g) up vm n M b vb u) (.exit 2) (mkF' bs bi vb) (mkFE c f (fromD g) up vm n M b vb u) := qS { hint := qT 84 [(24, qG b.phis.length)] } 84 500000
end
end Go.Avm
namespace Go.Avm
open Go.Proofs Go.Avm.Dom
def GoW {V σ : Type} (P : Program) (N : Nat) (code : Code) (S : Heap → St) (eg : AExit) (Zg : σ → V → Heap → St) (Inv : σ → Prop) (Zb : σ → V → Heap → St) : Option σ → Prop
 | some s' => Inv s' ∧ ∃ u', ∀ (rest : Heap) (X : Fix), X.P = P → X.N = N → AW X code (S rest) fun e' S' => e' = eg ∧ Weak X S' (Zg s' u' rest)
 | none => ∃ s' u', ∀ (rest : Heap) (X : Fix), X.P = P → X.N = N → AW X code (S rest) fun e' S' => e' = .ret ∧ Weak X S' (Zb s' u' rest)
def GoE {V σ : Type} (P : Program) (N : Nat) (code : Code) (S : Heap → St) (eg : AExit) (Zg : σ → V → Heap → St) (Inv : σ → Prop) (Zb : σ → V → Heap → St) : Option σ → Prop
 | some s' => Inv s' ∧ ∃ u', ∀ (rest : Heap) (X : Fix), X.P = P → X.N = N → AW X code (S rest) fun e' S' => e' = eg ∧ S' = Zg s' u' rest
 | none => ∃ s' u', ∀ (rest : Heap) (X : Fix), X.P = P → X.N = N → AW X code (S rest) fun e' S' => e' = .ret ∧ S' = Zb s' u' rest
theorem lw_fold {P : Program} {N : Nat} {c : Code} {V α σ : Type} (l : List α) (st : Nat → α → σ → Option σ) (Inv : σ → Prop) (S : Nat → σ → V → Heap → St) (Zg Zb : σ → V → Heap → St) {e : AExit} (he : e ≠ .normal)
    (hS : ∀ (i : Nat) (hi : i < l.length) (s : σ) (u : V), Inv s → GoW P N c (S i s u) .normal (S (i + 1)) Inv Zb (st i l[i] s))
    (hE : ∀ s u, Inv s → ∃ u', ∀ (rest : Heap) (X : Fix), X.P = P → X.N = N → AW X c (S l.length s u rest) fun e' S' => e' = e ∧ Weak X S' (Zg s u' rest)) (s : σ) (u : V) (h0 : Inv s) :
    GoE P N (.loop c) (S 0 s u) e Zg Inv Zb (foldO st 0 l s) := by
 have key : ∀ (m i : Nat) (s : σ) (u : V), l.length - i = m → i ≤ l.length → Inv s → ∀ r, foldO st i (l.drop i) s = r → (match r with
     | some s' => Inv s' ∧ ∃ u', ∀ (rest : Heap) (X : Fix), X.P = P → X.N = N → LW X c (S i s u rest) fun e' S' => e' = e ∧ S' = Zg s' u' rest
     | none => ∃ s' u', ∀ (rest : Heap) (X : Fix), X.P = P → X.N = N → LW X c (S i s u rest) fun e' S' => e' = .ret ∧ S' = Zb s' u' rest) := by
  intro m
  induction m with
  | zero =>
   intro i s u hm hi h0 r hr
   have : i = l.length := by omega
   subst this
   rw [List.drop_length] at hr
   simp only [foldO] at hr
   subst hr
   obtain ⟨u', h⟩ := hE s u h0
   exact ⟨h0, u', fun rest X hP hN => lw_end (h rest X hP hN) he⟩
  | succ m ih =>
   intro i s u hm hi h0 r hr
   have hi' : i < l.length := by omega
   rw [List.drop_eq_getElem_cons hi'] at hr
   simp only [foldO] at hr
   have h1 := hS i hi' s u h0
   cases hst : st i l[i] s with
   | none =>
    rw [hst] at h1 hr
    simp only [Option.bind_none] at hr
    subst hr
    obtain ⟨s', u', h1⟩ := h1
    exact ⟨s', u', fun rest X hP hN => lw_end (h1 rest X hP hN) (by simp)⟩
   | some s1 =>
    rw [hst] at h1 hr
    simp only [Option.bind_some] at hr
    obtain ⟨hi1, u1, h1⟩ := h1
    have h2 := ih (i + 1) s1 u1 (by omega) (by omega) hi1 r hr
    cases r with
    | none =>
     obtain ⟨s', u', h2⟩ := h2
     exact ⟨s', u', fun rest X hP hN => lw_seg (h1 rest X hP hN) (h2 rest X hP hN)⟩
    | some s' =>
     obtain ⟨h3, u', h2⟩ := h2
     exact ⟨h3, u', fun rest X hP hN => lw_seg (h1 rest X hP hN) (h2 rest X hP hN)⟩
 have h := key _ 0 s u rfl (Nat.zero_le _) h0 _ rfl
 rw [List.drop_zero] at h
 cases hr : foldO st 0 l s with
 | none =>
  rw [hr] at h
  obtain ⟨s', u', h⟩ := h
  exact ⟨s', u', fun rest X hP hN => (h rest X hP hN).aw⟩
 | some s' =>
  rw [hr] at h
  obtain ⟨h3, u', h⟩ := h
  exact ⟨h3, u', fun rest X hP hN => (h rest X hP hN).aw⟩
section
variable (c : CodeR) (f : FunR) (g : Graph) (up : D) (vm n : Nat) (bs : List BlkR) (bi : Nat)
theorem numC (from_ : D) {M : Ms} (hM : M.length = n) (x : InstR) (ho : byteZ x.op) (k : Nat) (rest : Heap) : HCall Pg 108 [ckP, .d (instD x), dN bi] (ovl (ckHn c f from_ up vm n M ++ [(500004, ⟨k, none⟩)]) rest) [dB (numI c f bi x)] (ovl (ckHn c f from_ up vm n M ++ [(500004, ⟨k + 1, none⟩)]) rest) := by
 obtain ⟨op, hop, hop'⟩ := byte_nat ho
 have hs := shape53 hop
 rw [← hop'] at hs
 have e0 : x.op.toNat = op := by omega
 have h := ckNum c f from_ up vm M x k _ _ _ bi rest hs
 unfold nmH at h
 rw [ckH_n c f from_ up vm hM] at h
 unfold numI
 rw [e0]
 exact h
theorem sitC (from_ : D) {M : Ms} (hM : M.length = n) (x : InstR) (ho : byteZ x.op) (hl : x.dbg.length < 4000000) (k2 k3 k4 : Nat) : ∃ s2 s3 s4, ∀ rest : Heap, HCall Pg 109 [ckP, .d (instD x)] (ovl (ckHn c f from_ up vm n M ++ [(500003, ⟨k2, none⟩), (500042, ⟨k3, none⟩), (500326, ⟨k4, none⟩)]) rest) [dB (sitI c f x)] (ovl (ckHn c f from_ up vm n M ++ [(500003, ⟨s2, none⟩), (500042, ⟨s3, none⟩), (500326, ⟨s4, none⟩)]) rest) := by
 obtain ⟨op, hop, hop'⟩ := byte_nat ho
 have ht := traps82 hop
 rw [← hop'] at ht
 have e0 : x.op.toNat = op := by omega
 obtain ⟨s2, s3, s4, h⟩ := ckSited c f from_ up vm M x k2 k3 k4 _ hl ht
 refine ⟨s2, s3, s4, fun rest => ?_⟩
 have h := h rest
 unfold siH at h
 rw [ckH_n c f from_ up vm hM] at h
 unfold sitI
 rw [e0]
 exact h
theorem makC (from_ : D) {M : Ms} (hM : M.length = n) (hv : n = f.vals.toNat) (v : Int) (q : Int × Int) (k : Nat) (rest : Heap) : HCall Pg 107 [ckP, dI v, .d (spotD q)] (ovl (ckHn c f from_ up vm n M ++ [(500005, ⟨k, none⟩)]) rest) [dB (makeP f M v)] (ovl (ckHn c f from_ up vm n (if makeP f M v = true then M.set v.toNat q else M) ++ [(500005, ⟨k + 1, none⟩)]) rest) := by
 have h := ckMake c f from_ up vm M v q k (by rw [hM, hv]) rest
 unfold mkH at h
 rw [ckH_n c f from_ up vm hM, ckH_n c f from_ up vm (n := n) (by split <;> simp [hM])] at h
 exact h
theorem mkILoop (from_ : D) (hv : n = f.vals.toNat) (l : List InstR) (hl : smallIs l) (hw : wfIs l) (M : Ms) (u : Nat → Nat) (hM : M.length = n) :
    GoE Pg 96 (.loop (lO 84 11)) (fun rest => ⟨envOf (mkI bs bi l 0), ovl (mkIE c f from_ up vm n M u) rest⟩) (.exit 4) (fun M' u' rest => ⟨envOf (mkB bs bi), ovl (mkIE c f from_ up vm n M' u') rest⟩) (fun M' => M'.length = n) (fun M' u' rest => ⟨envOf [(2, dB false)], ovl (mkIE c f from_ up vm n M' u') rest⟩) (foldO (stI c f bi) 0 l M) :=
 lw_fold (P := Pg) (N := 96) (c := loopOf Pg 84 11) l (stI c f bi) (fun M' => M'.length = n) (fun i M u rest => ⟨envOf (mkI bs bi l i), ovl (mkIE c f from_ up vm n M u) rest⟩) _ _ (by simp)
  (fun i hi M u hM => by
   have hx := hl.2 _ (List.getElem_mem hi)
   have ho := hw _ (List.getElem_mem hi)
   have hget := get_of hi
   generalize l[i] = x at hx ho hget
   have hn := numC c f up vm n bi from_ hM x ho (u 1)
   obtain ⟨s2, s3, s4, hs⟩ := sitC c f up vm n from_ hM x ho hx.2 (u 2) (u 3) (u 4)
   have hm := makC c f up vm n from_ hM hv x.dst ((bi : Int), (i : Int)) (u 0)
   unfold stI
   cases h1 : numI c f bi x with
   | false =>
    rw [h1] at hn
    exact ⟨M, _, fun rest X hP hN => mkI1 c f from_ up vm n M bs bi l i x u hi hl.1 hget hn rest X hP hN⟩
   | true =>
    rw [h1] at hn
    cases h2 : sitI c f x with
    | false =>
     rw [h2] at hs
     exact ⟨M, _, fun rest X hP hN => mkI2 c f from_ up vm n M bs bi l i x u hi hl.1 hget hn s2 s3 s4 hs rest X hP hN⟩
    | true =>
     rw [h2] at hs
     simp only [Bool.and_self, if_true]
     by_cases hd : x.dst = -1
     ·rw [if_pos hd]
      exact ⟨hM, _, fun rest X hP hN => mkI3 c f from_ up vm n M bs bi l i x u hi hl.1 hget hn s2 s3 s4 hs (by simp [hd]) rest X hP hN⟩
     ·rw [if_neg hd]
      cases h3 : makeP f M x.dst with
      | false =>
       rw [h3] at hm
       exact ⟨M, _, fun rest X hP hN => mkI4 c f from_ up vm n M bs bi l i x u hi hl.1 hget hn s2 s3 s4 hs (by simp [hd]) hm rest X hP hN⟩
      | true =>
       rw [h3] at hm
       exact ⟨by simp [hM], _, fun rest X hP hN => mkI5 c f from_ up vm n M bs bi l i x u hi hl.1 hget hn s2 s3 s4 hs (by simp [hd]) _ hm rest X hP hN⟩)
  (fun M u hM => ⟨u, fun rest X hP hN => mkIStop c f from_ up vm n M bs bi l u rest X hP hN⟩) M u hM
theorem mkFLoop (hv : n = f.vals.toNat) (b : BlkR) (vb : Nat) (row : List Nat) (hrow : (intoOf g)[bi]? = some row) (hl : smallIs b.phis) (M : Ms) (u : Nat → Nat) (hM : M.length = n) :
    GoE Pg 96 (.loop (lO 84 5)) (fun rest => ⟨envOf (mkF bs bi vb b.phis 0), ovl (mkFE c f (fromD g) up vm n M b vb u) rest⟩) (.exit 2) (fun M' u' rest => ⟨envOf (mkF' bs bi vb), ovl (mkFE c f (fromD g) up vm n M' b vb u') rest⟩) (fun M' => M'.length = n) (fun M' u' rest => ⟨envOf [(2, dB false)], ovl (mkFE c f (fromD g) up vm n M' b vb u') rest⟩) (foldO (stP f row b.phis.length bi) 0 b.phis M) :=
 lw_fold (P := Pg) (N := 96) (c := loopOf Pg 84 5) b.phis (stP f row b.phis.length bi) (fun M' => M'.length = n) (fun i M u rest => ⟨envOf (mkF bs bi vb b.phis i), ovl (mkFE c f (fromD g) up vm n M b vb u) rest⟩) _ _ (by simp)
  (fun i hi M u hM => by
   have hget := get_of hi
   generalize b.phis[i] = x at hget
   have hm := makC c f up vm n (fromD g) hM hv x.dst ((bi : Int), (i : Int) - (b.phis.length : Int)) (u 0)
   unfold stP phiGood
   cases h1 : (x.op == 45) with
   | false => exact ⟨M, _, fun rest X hP hN => mkF1 c f g up vm n M bs bi vb b i x u row hrow hi hl.1 hget (by rw [h1]; rfl) rest X hP hN⟩
   | true =>
    cases h2 : ((x.args.length : Int) == (row.length : Int)) with
    | false => exact ⟨M, _, fun rest X hP hN => mkF2 c f g up vm n M bs bi vb b i x u row hrow hi hl.1 hget (by rw [h1]; rfl) (by rw [h2]; rfl) rest X hP hN⟩
    | true =>
     cases h3 : makeP f M x.dst with
     | false =>
      rw [h3] at hm
      exact ⟨M, _, fun rest X hP hN => mkF3 c f g up vm n M bs bi vb b i x u row hrow hi hl.1 hget (by rw [h1]; rfl) (by rw [h2]; rfl) hm rest X hP hN⟩
     | true =>
      rw [h3] at hm
      exact ⟨by simp [hM], _, fun rest X hP hN => mkF4 c f g up vm n M bs bi vb b i x u row hrow hi hl.1 hget (by rw [h1]; rfl) (by rw [h2]; rfl) _ hm rest X hP hN⟩)
  (fun M u hM => ⟨u, fun rest X hP hN => mkFStop c f g up vm n M bs bi vb b u rest X hP hN⟩) M u hM
def mkBE (c : CodeR) (f : FunR) (from_ up : D) (vm n : Nat) (M : Ms) (u : Nat → Nat) : List (Nat × Ent) := ckHn c f from_ up vm n M ++ tm u [500005, 500004, 500003, 500042, 500326, 500392, 500390, 500388] 0
def mkO (bs : List BlkR) (bi : Nat) : List (Nat × AV) := [(0, ckP), (13, .d (blksD bs)), (14, dN bs.length), (15, dN bi)]
variable (M : Ms) (b : BlkR) (w : Nat → Nat) (hi : bi < bs.length) (hl : bs.length < 4000000) (hb : bs[bi]? = some b)
theorem mkB1 (hi : bi < bs.length) (hb : bs[bi]? = some b) (M1 : Ms) (v : Nat → Nat) (h5 : RE 96 (.loop (lO 84 5)) (mkF bs bi (w 7 + 1) b.phis 0) (mkFE c f (fromD g) up vm n M b (w 7 + 1) (vL [w 0, w 6])) .ret [(2, dB false)] (mkFE c f (fromD g) up vm n M1 b (w 7 + 1) v)) : RW 96 (lO 84 2) (mkO bs bi) (mkBE c f (fromD g) up vm n M w) .ret [(2, dB false)] (mkBE c f (fromD g) up vm n M1 (vL [v 0, w 1, w 2, w 3, w 4, w 5, v 1, w 7 + 1])) := qS { loops := qO 84 5 (qP h5), hint := qT 84 [(16, qL hi), (18, hIxM Pg blkD bs bi b hb), (22, hLenM Pg instD b.phis)] } 84 500000
theorem mkB2 (hi : bi < bs.length) (hb : bs[bi]? = some b) (M1 M2 : Ms) (v v2 : Nat → Nat) (h5 : RE 96 (.loop (lO 84 5)) (mkF bs bi (w 7 + 1) b.phis 0) (mkFE c f (fromD g) up vm n M b (w 7 + 1) (vL [w 0, w 6])) (.exit 2) (mkF' bs bi (w 7 + 1)) (mkFE c f (fromD g) up vm n M1 b (w 7 + 1) v))
    (h11 : RE 96 (.loop (lO 84 11)) (mkI bs bi b.insts 0) (mkIE c f (fromD g) up vm n M1 (vL [v 0, w 1, w 2, w 3, w 4, w 5])) .ret [(2, dB false)] (mkIE c f (fromD g) up vm n M2 v2)) : RW 96 (lO 84 2) (mkO bs bi) (mkBE c f (fromD g) up vm n M w) .ret [(2, dB false)] (mkBE c f (fromD g) up vm n M2 (vL [v2 0, v2 1, v2 2, v2 3, v2 4, v2 5, v 1, w 7 + 1])) := qS { loops := fun f' q => if f' = 84 then (if q = 5 then qP h5 else if q = 11 then qP h11 else none) else none, hint := qT 84 [(16, qL hi), (18, hIxM Pg blkD bs bi b hb), (22, hLenM Pg instD b.phis), (62, hLenM Pg instD b.insts)] } 84 500000
theorem mkB3 (hi : bi < bs.length) (hl : bs.length < 4000000) (hb : bs[bi]? = some b) (M1 M2 : Ms) (v v2 : Nat → Nat) (h5 : RE 96 (.loop (lO 84 5)) (mkF bs bi (w 7 + 1) b.phis 0) (mkFE c f (fromD g) up vm n M b (w 7 + 1) (vL [w 0, w 6])) (.exit 2) (mkF' bs bi (w 7 + 1)) (mkFE c f (fromD g) up vm n M1 b (w 7 + 1) v))
    (h11 : RE 96 (.loop (lO 84 11)) (mkI bs bi b.insts 0) (mkIE c f (fromD g) up vm n M1 (vL [v 0, w 1, w 2, w 3, w 4, w 5])) (.exit 4) (mkB bs bi) (mkIE c f (fromD g) up vm n M2 v2)) : RW 96 (lO 84 2) (mkO bs bi) (mkBE c f (fromD g) up vm n M w) .normal (mkO bs (bi + 1)) (mkBE c f (fromD g) up vm n M2 (vL [v2 0, v2 1, v2 2, v2 3, v2 4, v2 5, v 1, w 7 + 1])) := qS { loops := fun f' q => if f' = 84 then (if q = 5 then qP h5 else if q = 11 then qP h11 else none) else none, hint := qT 84 [(16, qL hi), (18, hIxM Pg blkD bs bi b hb), (22, hLenM Pg instD b.phis), (62, hLenM Pg instD b.insts), (95, hSucc Pg bi (by omega))] } 84 500000
theorem mkBStop : RW 96 (lO 84 2) (mkO bs bs.length) (mkBE c f (fromD g) up vm n M w) (.exit 0) [] (mkBE c f (fromD g) up vm n M w) := qS { hint := qT 84 [(16, qG bs.length)] } 84 500000
end
theorem mkBLoop (c : CodeR) (f : FunR) (g : Graph) (up : D) (vm n : Nat) (hv : n = f.vals.toNat) (hg : g.length = f.blocks.length) (hf : fineF f) (hw : wfF f) (M : Ms) (w : Nat → Nat) (hM : M.length = n) :
    GoE Pg 96 (.loop (lO 84 2)) (fun rest => ⟨envOf (mkO f.blocks 0), ovl (mkBE c f (fromD g) up vm n M w) rest⟩) (.exit 0) (fun M' u' rest => ⟨envOf [], ovl (mkBE c f (fromD g) up vm n M' u') rest⟩) (fun M' => M'.length = n) (fun M' u' rest => ⟨envOf [(2, dB false)], ovl (mkBE c f (fromD g) up vm n M' u') rest⟩) (foldO (stB c f g) 0 f.blocks M) :=
 lw_fold (P := Pg) (N := 96) (c := loopOf Pg 84 2) f.blocks (stB c f g) (fun M' => M'.length = n) (fun bi M w rest => ⟨envOf (mkO f.blocks bi), ovl (mkBE c f (fromD g) up vm n M w) rest⟩) _ _ (by simp)
  (fun bi hbi M w hM => by
   have hbm := List.getElem_mem hbi
   have hb := get_of hbi
   generalize f.blocks[bi] = b at hbm hb
   have hsm := hf.2 b hbm
   have hwb := hw b hbm
   have hrow : (intoOf g)[bi]? = some (rowAt g bi) := by
    unfold rowAt
    rw [List.getD_eq_getElem?_getD, get_of (by simp [intoOf]; omega)]
    rfl
   have h5 := mkFLoop c f g up vm n f.blocks bi hv b (w 7 + 1) (rowAt g bi) hrow hsm.1 M (vL [w 0, w 6]) hM
   unfold stB
   cases e1 : foldO (stP f (rowAt g bi) b.phis.length bi) 0 b.phis M with
   | none =>
    rw [e1] at h5
    obtain ⟨M1, v, h5⟩ := h5
    exact ⟨M1, _, fun rest X hP hN => mkB1 c f g up vm n f.blocks bi M b w hbi hb M1 v h5 rest X hP hN⟩
   | some M1 =>
    rw [e1] at h5
    obtain ⟨hM1, v, h5⟩ := h5
    have h11 := mkILoop c f up vm n f.blocks bi (fromD g) hv b.insts hsm.2 hwb.2.1 M1 (vL [v 0, w 1, w 2, w 3, w 4, w 5]) hM1
    simp only [Option.bind_some]
    cases e2 : foldO (stI c f bi) 0 b.insts M1 with
    | none =>
     rw [e2] at h11
     obtain ⟨M2, v2, h11⟩ := h11
     exact ⟨M2, _, fun rest X hP hN => mkB2 c f g up vm n f.blocks bi M b w hbi hb M1 M2 v v2 h5 h11 rest X hP hN⟩
    | some M2 =>
     rw [e2] at h11
     obtain ⟨hM2, v2, h11⟩ := h11
     exact ⟨hM2, _, fun rest X hP hN => mkB3 c f g up vm n f.blocks bi M b w hbi hf.1 hb M1 M2 v v2 h5 h11 rest X hP hN⟩)
  (fun M w hM => ⟨w, fun rest X hP hN => mkBStop c f g up vm n f.blocks M w rest X hP hN⟩) M w hM
section
variable (c : CodeR) (f : FunR) (g : Graph) (up : D) (vm n : Nat) (M M' : Ms) (w w' : Nat → Nat)
theorem mk84T (h : RE 96 (.loop (lO 84 2)) (mkO f.blocks 0) (mkBE c f (fromD g) up vm n M w) (.exit 0) [] (mkBE c f (fromD g) up vm n M' w')) (rest : Heap) : HCall Pg 84 [ckP] (ovl (mkBE c f (fromD g) up vm n M w) rest) [dB true] (ovl (mkBE c f (fromD g) up vm n M' w') rest) :=
 qH { loops := qO 84 2 (qP h), hint := qT 84 [(14, hLenM Pg blkD f.blocks)] }
theorem mk84F (h : RE 96 (.loop (lO 84 2)) (mkO f.blocks 0) (mkBE c f (fromD g) up vm n M w) .ret [(2, dB false)] (mkBE c f (fromD g) up vm n M' w')) (rest : Heap) : HCall Pg 84 [ckP] (ovl (mkBE c f (fromD g) up vm n M w) rest) [dB false] (ovl (mkBE c f (fromD g) up vm n M' w') rest) :=
 qH { loops := qO 84 2 (qP h), hint := qT 84 [(14, hLenM Pg blkD f.blocks)] }
end
theorem mk84 (c : CodeR) (f : FunR) (g : Graph) (up : D) (vm n : Nat) (hv : n = f.vals.toNat) (hg : g.length = f.blocks.length) (hf : fineF f) (hw : wfF f) (w : Nat → Nat) :
    (∀ M', makesP c f g = some M' → M'.length = n ∧ ∃ w', ∀ rest : Heap, HCall Pg 84 [ckP] (ovl (mkBE c f (fromD g) up vm n (made0 f) w) rest) [dB true] (ovl (mkBE c f (fromD g) up vm n M' w') rest)) ∧
    (makesP c f g = none → ∃ M' w', ∀ rest : Heap, HCall Pg 84 [ckP] (ovl (mkBE c f (fromD g) up vm n (made0 f) w) rest) [dB false] (ovl (mkBE c f (fromD g) up vm n M' w') rest)) := by
 have h := mkBLoop c f g up vm n hv hg hf hw (made0 f) w (by simp [made0, hv])
 have e : makesP c f g = foldO (stB c f g) 0 f.blocks (made0 f) := rfl
 constructor
 ·intro M' hM
  rw [← e, hM] at h
  obtain ⟨h1, w', h⟩ := h
  exact ⟨h1, w', fun rest => mk84T c f g up vm n (made0 f) M' w w' h rest⟩
 ·intro hM
  rw [← e, hM] at h
  obtain ⟨M', w', h⟩ := h
  exact ⟨M', w', fun rest => mk84F c f g up vm n (made0 f) M' w w' h rest⟩
end Go.Avm
