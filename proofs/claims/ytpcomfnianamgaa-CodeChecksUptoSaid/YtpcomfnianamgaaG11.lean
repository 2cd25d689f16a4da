/-
  Code, the program: reads.
-/
import Derived.Test.YtpcomfnianamgaaG10
set_option linter.unusedSectionVars false
namespace Go.Avm
open Go.Proofs Go.Avm.Dom
def rdB (f : FunR) (bi vb ve : Nat) : List (Nat × AV) := [(0, ckP), (3, dN bi), (4, .ptr 500588 vb 0 0 1), (5, .ptr 501757 ve 0 0 1), (21, .d (blksD f.blocks)), (22, dN f.blocks.length), (23, dN bi)]
def rdO (f : FunR) (bi : Nat) : List (Nat × AV) := [(0, ckP), (21, .d (blksD f.blocks)), (22, dN f.blocks.length), (23, dN bi)]
def rdP (f : FunR) (bi vb ve : Nat) (b : BlkR) (m : Nat) : List (Nat × AV) := rdB f bi vb ve ++ [(34, .d (instsD b.phis)), (35, dN b.phis.length), (36, dN m)]
def rdQ (f : FunR) (bi vb ve : Nat) (b : BlkR) (m : Nat) (x : InstR) (k : Nat) : List (Nat × AV) := rdP f bi vb ve b m ++ [(41, .d (rowD x.args)), (42, dN x.args.length), (43, dN k)]
def rdI (f : FunR) (bi vb ve : Nat) (b : BlkR) (i : Nat) : List (Nat × AV) := rdB f bi vb ve ++ [(77, .d (instsD b.insts)), (78, dN b.insts.length), (79, dN i)]
def rdA (f : FunR) (bi vb ve : Nat) (b : BlkR) (i : Nat) (x : InstR) (vi k : Nat) : List (Nat × AV) := rdI f bi vb ve b i ++ [(11, dN i), (12, .ptr 500596 vi 0 0 1), (85, .d (rowD x.args)), (86, dN x.args.length), (87, dN k)]
def rdA' (f : FunR) (bi vb ve : Nat) (b : BlkR) (i : Nat) (vi : Nat) : List (Nat × AV) := rdI f bi vb ve b i ++ [(11, dN i), (12, .ptr 500596 vi 0 0 1)]
def rdD (f : FunR) (bi vb ve : Nat) (b : BlkR) (i : Nat) (x : InstR) (k : Nat) : List (Nat × AV) := rdI f bi vb ve b i ++ [(11, dN i), (108, .d (dbgsD x.dbg)), (109, dN x.dbg.length), (110, dN k)]
def rdH (c : CodeR) (f : FunR) (g : Graph) (up : D) (vm n : Nat) (M : Ms) (bi : Nat) (b : BlkR) (vb ve : Nat) : List (Nat × Ent) := ckHn c f (fromD g) up vm n M ++ [(500588, ⟨vb, some (.arr 1 (cellsB b))⟩), (501757, ⟨ve, some (.arr 1 [dN bi, dN b.insts.length])⟩)]
def rdQE (c : CodeR) (f : FunR) (g : Graph) (up : D) (vm n : Nat) (M : Ms) (bi : Nat) (b : BlkR) (vb ve : Nat) (u : Nat → Nat) : List (Nat × Ent) := rdH c f g up vm n M bi b vb ve ++ tm u [500005, 501134] 0
def rdPE (c : CodeR) (f : FunR) (g : Graph) (up : D) (vm n : Nat) (M : Ms) (bi : Nat) (b : BlkR) (vb ve : Nat) (u : Nat → Nat) : List (Nat × Ent) := rdH c f g up vm n M bi b vb ve ++ tm u [500005, 501134, 500445] 0
def rdAE (c : CodeR) (f : FunR) (g : Graph) (up : D) (vm n : Nat) (M : Ms) (bi : Nat) (b : BlkR) (vb ve : Nat) (x : InstR) (vi : Nat) (u : Nat → Nat) : List (Nat × Ent) := rdH c f g up vm n M bi b vb ve ++ [(500596, ⟨vi, some (.arr 1 (cellsI x))⟩)] ++ tm u [500005, 501134] 0
def rdDE (c : CodeR) (f : FunR) (g : Graph) (up : D) (vm n : Nat) (M : Ms) (bi : Nat) (b : BlkR) (vb ve : Nat) (u : Nat → Nat) : List (Nat × Ent) := rdH c f g up vm n M bi b vb ve ++ tm u [500005, 501134, 500454] 0
def rdIE (c : CodeR) (f : FunR) (g : Graph) (up : D) (vm n : Nat) (M : Ms) (bi : Nat) (b : BlkR) (vb ve : Nat) (u : Nat → Nat) : List (Nat × Ent) := rdH c f g up vm n M bi b vb ve ++ tm u [500005, 501134, 500454, 500596] 0
def rdOE (c : CodeR) (f : FunR) (g : Graph) (up : D) (vm n : Nat) (M : Ms) (u : Nat → Nat) : List (Nat × Ent) := ckHn c f (fromD g) up vm n M ++ tm u [500005, 501134, 500454, 500596, 500445, 500588, 501757] 0
section
variable (c : CodeR) (f : FunR) (g : Graph) (up : D) (vm n : Nat) (M : Ms) (U : Int → Int × Int → Bool) (bi : Nat) (b : BlkR) (vb ve : Nat) (u : Nat → Nat)
include c f g up vm n M U bi b vb ve u
theorem rdQG (m : Nat) (x : InstR) (k : Nat) (hk : k < x.args.length) (hl : x.args.length < 4000000) (a : Int) (ha : x.args[k]? = some a) (row : List Nat) (hrow : (intoOf g)[bi]? = some row) (p : Nat) (hp : row[k]? = some p) (bp : BlkR) (hbp : f.blocks[p]? = some bp) (w0 w1 : Nat) (hu : ∀ rest : Heap, HCall Pg 110 [ckP, dI (a), .d (spotD ((p : Int), (bp.insts.length : Int)))] (ovl (ckHn c f (fromD g) up vm n M ++ [(500005, ⟨u 0, none⟩), (501134, ⟨u 1, none⟩)]) rest) [dB true] (ovl (ckHn c f (fromD g) up vm n M ++ [(500005, ⟨w0, none⟩), (501134, ⟨w1, none⟩)]) rest)) : RW 146 (lO 85 9) (rdQ f bi vb ve b m x k) (rdQE c f g up vm n M bi b vb ve u) .normal (rdQ f bi vb ve b m x (k + 1)) (rdQE c f g up vm n M bi b vb ve (vL [w0, w1])) := qS { calls := fun f' s _ => if f' = 85 then (if s = 72 then some ⟨110, _, _, _, _, fits_rw (A := ckHn c f (fromD g) up vm n M) (B := [(500005, ⟨u 0, none⟩), (501134, ⟨u 1, none⟩)]) (B' := [(500005, ⟨w0, none⟩), (501134, ⟨w1, none⟩)]) rfl rfl hu⟩ else none) else none, hint := qT 85 [(44, qL hk), (46, hIx Pg x.args k a ha), (53, hIxM Pg rowN (intoOf g) bi row hrow), (56, hIxN Pg row k p hp), (67, hIxM Pg blkD f.blocks p bp hbp), (70, hLenM Pg instD bp.insts), (74, hSucc Pg k (by omega))] } 85 500000
theorem rdQF (m : Nat) (x : InstR) (k : Nat) (hk : k < x.args.length) (hl : x.args.length < 4000000) (a : Int) (ha : x.args[k]? = some a) (row : List Nat) (hrow : (intoOf g)[bi]? = some row) (p : Nat) (hp : row[k]? = some p) (bp : BlkR) (hbp : f.blocks[p]? = some bp) (w0 w1 : Nat) (hu : ∀ rest : Heap, HCall Pg 110 [ckP, dI (a), .d (spotD ((p : Int), (bp.insts.length : Int)))] (ovl (ckHn c f (fromD g) up vm n M ++ [(500005, ⟨u 0, none⟩), (501134, ⟨u 1, none⟩)]) rest) [dB false] (ovl (ckHn c f (fromD g) up vm n M ++ [(500005, ⟨w0, none⟩), (501134, ⟨w1, none⟩)]) rest)) : RW 146 (lO 85 9) (rdQ f bi vb ve b m x k) (rdQE c f g up vm n M bi b vb ve u) .ret [(2, dB false)] (rdQE c f g up vm n M bi b vb ve (vL [w0, w1])) := qS { calls := fun f' s _ => if f' = 85 then (if s = 72 then some ⟨110, _, _, _, _, fits_rw (A := ckHn c f (fromD g) up vm n M) (B := [(500005, ⟨u 0, none⟩), (501134, ⟨u 1, none⟩)]) (B' := [(500005, ⟨w0, none⟩), (501134, ⟨w1, none⟩)]) rfl rfl hu⟩ else none) else none, hint := qT 85 [(44, qL hk), (46, hIx Pg x.args k a ha), (53, hIxM Pg rowN (intoOf g) bi row hrow), (56, hIxN Pg row k p hp), (67, hIxM Pg blkD f.blocks p bp hbp), (70, hLenM Pg instD bp.insts)] } 85 500000
theorem rdQStop (m : Nat) (x : InstR) : RW 146 (lO 85 9) (rdQ f bi vb ve b m x x.args.length) (rdQE c f g up vm n M bi b vb ve u) (.exit 4) (rdP f bi vb ve b m) (rdQE c f g up vm n M bi b vb ve u) := qS { hint := qT 85 [(44, qG x.args.length)] } 85 500000
theorem rdAG (i : Nat) (x : InstR) (vi k : Nat) (hk : k < x.args.length) (hl : x.args.length < 4000000) (a : Int) (ha : x.args[k]? = some a) (w0 w1 : Nat) (hu : ∀ rest : Heap, HCall Pg 110 [ckP, dI (a), .d (spotD ((bi : Int), (i : Int)))] (ovl (ckHn c f (fromD g) up vm n M ++ [(500005, ⟨u 0, none⟩), (501134, ⟨u 1, none⟩)]) rest) [dB true] (ovl (ckHn c f (fromD g) up vm n M ++ [(500005, ⟨w0, none⟩), (501134, ⟨w1, none⟩)]) rest)) : RW 146 (lO 85 20) (rdA f bi vb ve b i x vi k) (rdAE c f g up vm n M bi b vb ve x vi u) .normal (rdA f bi vb ve b i x vi (k + 1)) (rdAE c f g up vm n M bi b vb ve x vi (vL [w0, w1])) := qS { calls := fun f' s _ => if f' = 85 then (if s = 96 then some ⟨110, _, _, _, _, fits_rw (A := ckHn c f (fromD g) up vm n M) (B := [(500005, ⟨u 0, none⟩), (501134, ⟨u 1, none⟩)]) (B' := [(500005, ⟨w0, none⟩), (501134, ⟨w1, none⟩)]) rfl rfl hu⟩ else none) else none, hint := qT 85 [(88, qL hk), (89, hIx Pg x.args k a ha), (98, hSucc Pg k (by omega))] } 85 500000
theorem rdAF (i : Nat) (x : InstR) (vi k : Nat) (hk : k < x.args.length) (hl : x.args.length < 4000000) (a : Int) (ha : x.args[k]? = some a) (w0 w1 : Nat) (hu : ∀ rest : Heap, HCall Pg 110 [ckP, dI (a), .d (spotD ((bi : Int), (i : Int)))] (ovl (ckHn c f (fromD g) up vm n M ++ [(500005, ⟨u 0, none⟩), (501134, ⟨u 1, none⟩)]) rest) [dB false] (ovl (ckHn c f (fromD g) up vm n M ++ [(500005, ⟨w0, none⟩), (501134, ⟨w1, none⟩)]) rest)) : RW 146 (lO 85 20) (rdA f bi vb ve b i x vi k) (rdAE c f g up vm n M bi b vb ve x vi u) .ret [(2, dB false)] (rdAE c f g up vm n M bi b vb ve x vi (vL [w0, w1])) := qS { calls := fun f' s _ => if f' = 85 then (if s = 96 then some ⟨110, _, _, _, _, fits_rw (A := ckHn c f (fromD g) up vm n M) (B := [(500005, ⟨u 0, none⟩), (501134, ⟨u 1, none⟩)]) (B' := [(500005, ⟨w0, none⟩), (501134, ⟨w1, none⟩)]) rfl rfl hu⟩ else none) else none, hint := qT 85 [(88, qL hk), (89, hIx Pg x.args k a ha)] } 85 500000
theorem rdAStop (i : Nat) (x : InstR) (vi : Nat) : RW 146 (lO 85 20) (rdA f bi vb ve b i x vi x.args.length) (rdAE c f g up vm n M bi b vb ve x vi u) (.exit 8) (rdA' f bi vb ve b i vi) (rdAE c f g up vm n M bi b vb ve x vi u) := qS { hint := qT 85 [(88, qG x.args.length)] } 85 500000
theorem rdDN (i : Nat) (x : InstR) (k : Nat) (hk : k < x.dbg.length) (hl : x.dbg.length < 4000000) (d : DbgR) (hd : x.dbg[k]? = some d) (h2 : (d.kind == 2) = false) : RW 146 (lO 85 27) (rdD f bi vb ve b i x k) (rdDE c f g up vm n M bi b vb ve u) .normal (rdD f bi vb ve b i x (k + 1)) (rdDE c f g up vm n M bi b vb ve (vL [u 0, u 1, u 2 + 1])) := qS { hint := qT 85 [(111, qL hk), (112, hIxM Pg dbgD x.dbg k d hd), (116, qB h2), (127, hSucc Pg k (by omega))] } 85 500000
theorem rdDG (i : Nat) (x : InstR) (k : Nat) (hk : k < x.dbg.length) (hl : x.dbg.length < 4000000) (d : DbgR) (hd : x.dbg[k]? = some d) (h2 : (d.kind == 2) = true) (w0 w1 : Nat) (hu : ∀ rest : Heap, HCall Pg 110 [ckP, dI (d.arg), .d (spotD ((bi : Int), (i : Int)))] (ovl (ckHn c f (fromD g) up vm n M ++ [(500005, ⟨u 0, none⟩), (501134, ⟨u 1, none⟩)]) rest) [dB true] (ovl (ckHn c f (fromD g) up vm n M ++ [(500005, ⟨w0, none⟩), (501134, ⟨w1, none⟩)]) rest)) : RW 146 (lO 85 27) (rdD f bi vb ve b i x k) (rdDE c f g up vm n M bi b vb ve u) .normal (rdD f bi vb ve b i x (k + 1)) (rdDE c f g up vm n M bi b vb ve (vL [w0, w1, u 2 + 1])) := qS { calls := fun f' s _ => if f' = 85 then (if s = 124 then some ⟨110, _, _, _, _, fits_rw (A := ckHn c f (fromD g) up vm n M) (B := [(500005, ⟨u 0, none⟩), (501134, ⟨u 1, none⟩)]) (B' := [(500005, ⟨w0, none⟩), (501134, ⟨w1, none⟩)]) rfl rfl hu⟩ else none) else none, hint := qT 85 [(111, qL hk), (112, hIxM Pg dbgD x.dbg k d hd), (116, qB h2), (127, hSucc Pg k (by omega))] } 85 500000
theorem rdDF (i : Nat) (x : InstR) (k : Nat) (hk : k < x.dbg.length) (hl : x.dbg.length < 4000000) (d : DbgR) (hd : x.dbg[k]? = some d) (h2 : (d.kind == 2) = true) (w0 w1 : Nat) (hu : ∀ rest : Heap, HCall Pg 110 [ckP, dI (d.arg), .d (spotD ((bi : Int), (i : Int)))] (ovl (ckHn c f (fromD g) up vm n M ++ [(500005, ⟨u 0, none⟩), (501134, ⟨u 1, none⟩)]) rest) [dB false] (ovl (ckHn c f (fromD g) up vm n M ++ [(500005, ⟨w0, none⟩), (501134, ⟨w1, none⟩)]) rest)) : RW 146 (lO 85 27) (rdD f bi vb ve b i x k) (rdDE c f g up vm n M bi b vb ve u) .ret [(2, dB false)] (rdDE c f g up vm n M bi b vb ve (vL [w0, w1, u 2 + 1])) := qS { calls := fun f' s _ => if f' = 85 then (if s = 124 then some ⟨110, _, _, _, _, fits_rw (A := ckHn c f (fromD g) up vm n M) (B := [(500005, ⟨u 0, none⟩), (501134, ⟨u 1, none⟩)]) (B' := [(500005, ⟨w0, none⟩), (501134, ⟨w1, none⟩)]) rfl rfl hu⟩ else none) else none, hint := qT 85 [(111, qL hk), (112, hIxM Pg dbgD x.dbg k d hd), (116, qB h2)] } 85 500000
theorem rdDStop (i : Nat) (x : InstR) : RW 146 (lO 85 27) (rdD f bi vb ve b i x x.dbg.length) (rdDE c f g up vm n M bi b vb ve u) (.exit 10) (rdI f bi vb ve b i) (rdDE c f g up vm n M bi b vb ve u) := qS { hint := qT 85 [(111, qG x.dbg.length)] } 85 500000
end
end Go.Avm
namespace Go.Avm
open Go.Proofs Go.Avm.Dom
def UseC (c : CodeR) (f : FunR) (g : Graph) (up : D) (vm n : Nat) (M : Ms) (U : Int → Int × Int → Bool) : Prop := ∀ (v : Int) (a : Nat) (j : Int) (k0 k1 : Nat), a < f.blocks.length → ∃ w0 w1, ∀ rest : Heap, HCall Pg 110 [ckP, dI v, .d (spotD ((a : Int), j))] (ovl (ckHn c f (fromD g) up vm n M ++ [(500005, ⟨k0, none⟩), (501134, ⟨k1, none⟩)]) rest) [dB (U v ((a : Int), j))] (ovl (ckHn c f (fromD g) up vm n M ++ [(500005, ⟨w0, none⟩), (501134, ⟨w1, none⟩)]) rest)
section
variable (c : CodeR) (f : FunR) (g : Graph) (up : D) (vm n : Nat) (M : Ms) (U : Int → Int × Int → Bool) (bi : Nat) (b : BlkR)
include c f g up vm n M U bi b
theorem rdQLoop (vb ve : Nat) (hU : UseC c f g up vm n M U) (m : Nat) (x : InstR) (hl : x.args.length < 4000000) (row : List Nat) (hrow : (intoOf g)[bi]? = some row) (hlen : x.args.length = row.length) (hpl : ∀ p ∈ row, p < f.blocks.length) :
    AllLoop Pg 146 (lO 85 9) (fun (u : Nat → Nat) rest => ⟨envOf (rdQ f bi vb ve b m x 0), ovl (rdQE c f g up vm n M bi b vb ve u) rest⟩) (fun u rest => ⟨envOf (rdP f bi vb ve b m), ovl (rdQE c f g up vm n M bi b vb ve u) rest⟩) (fun u rest => ⟨envOf [(2, dB false)], ovl (rdQE c f g up vm n M bi b vb ve u) rest⟩) (.exit 4) (phiUs f U row x.args) :=
 lw_list (List.range x.args.length) (phiU f U row x.args) (fun k (u : Nat → Nat) rest => ⟨envOf (rdQ f bi vb ve b m x k), ovl (rdQE c f g up vm n M bi b vb ve u) rest⟩) _ _ (by simp)
  (fun k hk u => by
   rw [List.getElem_range]
   rw [List.length_range] at hk
   have hkr : k < row.length := by omega
   have hp := hpl _ (List.getElem_mem hkr)
   obtain ⟨w0, w1, hu⟩ := hU x.args[k] row[k] (f.blocks[row[k]].insts.length : Int) (u 0) (u 1) hp
   have e : phiU f U row x.args k = U x.args[k] ((row[k] : Int), (f.blocks[row[k]].insts.length : Int)) := by
    unfold phiU
    rw [get_of hk]
    simp only [List.getD_eq_getElem?_getD, get_of hkr, Option.getD_some, get_of hp]
   rw [e]
   cases ht : U x.args[k] ((row[k] : Int), (f.blocks[row[k]].insts.length : Int)) with
   | true =>
    rw [ht] at hu
    exact ⟨_, fun rest X hP hN => rdQG c f g up vm n M U bi b vb ve u m x k hk hl _ (get_of hk) row hrow _ (get_of hkr) _ (get_of hp) w0 w1 hu rest X hP hN⟩
   | false =>
    rw [ht] at hu
    exact ⟨_, fun rest X hP hN => rdQF c f g up vm n M U bi b vb ve u m x k hk hl _ (get_of hk) row hrow _ (get_of hkr) _ (get_of hp) w0 w1 hu rest X hP hN⟩)
  (fun u => ⟨u, fun rest X hP hN => by
   rw [List.length_range]
   exact rdQStop c f g up vm n M U bi b vb ve u m x rest X hP hN⟩)
theorem rdALoop (vb ve : Nat) (hU : UseC c f g up vm n M U) (hbi : bi < f.blocks.length) (i : Nat) (x : InstR) (vi : Nat) (hl : x.args.length < 4000000) :
    AllLoop Pg 146 (lO 85 20) (fun (u : Nat → Nat) rest => ⟨envOf (rdA f bi vb ve b i x vi 0), ovl (rdAE c f g up vm n M bi b vb ve x vi u) rest⟩) (fun u rest => ⟨envOf (rdA' f bi vb ve b i vi), ovl (rdAE c f g up vm n M bi b vb ve x vi u) rest⟩) (fun u rest => ⟨envOf [(2, dB false)], ovl (rdAE c f g up vm n M bi b vb ve x vi u) rest⟩) (.exit 8) (x.args.all fun a => U a ((bi : Int), (i : Int))) :=
 lw_list x.args (fun a => U a ((bi : Int), (i : Int))) (fun k (u : Nat → Nat) rest => ⟨envOf (rdA f bi vb ve b i x vi k), ovl (rdAE c f g up vm n M bi b vb ve x vi u) rest⟩) _ _ (by simp)
  (fun k hk u => by
   obtain ⟨w0, w1, hu⟩ := hU x.args[k] bi (i : Int) (u 0) (u 1) hbi
   cases ht : U x.args[k] ((bi : Int), (i : Int)) with
   | true =>
    rw [ht] at hu
    exact ⟨_, fun rest X hP hN => rdAG c f g up vm n M U bi b vb ve u i x vi k hk hl _ (get_of hk) w0 w1 hu rest X hP hN⟩
   | false =>
    rw [ht] at hu
    exact ⟨_, fun rest X hP hN => rdAF c f g up vm n M U bi b vb ve u i x vi k hk hl _ (get_of hk) w0 w1 hu rest X hP hN⟩)
  (fun u => ⟨u, fun rest X hP hN => rdAStop c f g up vm n M U bi b vb ve u i x vi rest X hP hN⟩)
theorem rdDLoop (vb ve : Nat) (hU : UseC c f g up vm n M U) (hbi : bi < f.blocks.length) (i : Nat) (x : InstR) (hl : x.dbg.length < 4000000) :
    AllLoop Pg 146 (lO 85 27) (fun (u : Nat → Nat) rest => ⟨envOf (rdD f bi vb ve b i x 0), ovl (rdDE c f g up vm n M bi b vb ve u) rest⟩) (fun u rest => ⟨envOf (rdI f bi vb ve b i), ovl (rdDE c f g up vm n M bi b vb ve u) rest⟩) (fun u rest => ⟨envOf [(2, dB false)], ovl (rdDE c f g up vm n M bi b vb ve u) rest⟩) (.exit 10) (x.dbg.all (dbgU U bi i)) :=
 lw_list x.dbg (dbgU U bi i) (fun k (u : Nat → Nat) rest => ⟨envOf (rdD f bi vb ve b i x k), ovl (rdDE c f g up vm n M bi b vb ve u) rest⟩) _ _ (by simp)
  (fun k hk u => by
   unfold dbgU
   cases h2 : (x.dbg[k].kind == 2) with
   | false => exact ⟨_, fun rest X hP hN => rdDN c f g up vm n M U bi b vb ve u i x k hk hl _ (get_of hk) h2 rest X hP hN⟩
   | true =>
    obtain ⟨w0, w1, hu⟩ := hU x.dbg[k].arg bi (i : Int) (u 0) (u 1) hbi
    cases ht : U x.dbg[k].arg ((bi : Int), (i : Int)) with
    | true =>
     rw [ht] at hu
     exact ⟨_, fun rest X hP hN => rdDG c f g up vm n M U bi b vb ve u i x k hk hl _ (get_of hk) h2 w0 w1 hu rest X hP hN⟩
    | false =>
     rw [ht] at hu
     exact ⟨_, fun rest X hP hN => rdDF c f g up vm n M U bi b vb ve u i x k hk hl _ (get_of hk) h2 w0 w1 hu rest X hP hN⟩)
  (fun u => ⟨u, fun rest X hP hN => rdDStop c f g up vm n M U bi b vb ve u i x rest X hP hN⟩)
theorem rdPG (vb ve : Nat) (u : Nat → Nat) (m : Nat) (x : InstR) (hm : m < b.phis.length) (hl : b.phis.length < 4000000) (hx : b.phis[m]? = some x) (v : Nat → Nat) (h9 : RE 146 (.loop (lO 85 9)) (rdQ f bi vb ve b m x 0) (rdQE c f g up vm n M bi b vb ve (vL [u 0, u 1])) (.exit 4) (rdP f bi vb ve b m) (rdQE c f g up vm n M bi b vb ve v)) : RW 146 (lO 85 6) (rdP f bi vb ve b m) (rdPE c f g up vm n M bi b vb ve u) .normal (rdP f bi vb ve b (m + 1)) (rdPE c f g up vm n M bi b vb ve (vL [v 0, v 1, u 2 + 1])) := qS { loops := fun f' q => if f' = 85 then (if q = 9 then qP h9 else (none)) else none, hint := qT 85 [(37, qL hm), (38, hIxM Pg instD b.phis m x hx), (42, hLenM Pg intD x.args), (75, hSucc Pg m (by omega))] } 85 500000
theorem rdPF (vb ve : Nat) (u : Nat → Nat) (m : Nat) (x : InstR) (hm : m < b.phis.length) (hl : b.phis.length < 4000000) (hx : b.phis[m]? = some x) (v : Nat → Nat) (h9 : RE 146 (.loop (lO 85 9)) (rdQ f bi vb ve b m x 0) (rdQE c f g up vm n M bi b vb ve (vL [u 0, u 1])) .ret ([(2, dB false)]) (rdQE c f g up vm n M bi b vb ve v)) : RW 146 (lO 85 6) (rdP f bi vb ve b m) (rdPE c f g up vm n M bi b vb ve u) .ret [(2, dB false)] (rdPE c f g up vm n M bi b vb ve (vL [v 0, v 1, u 2 + 1])) := qS { loops := fun f' q => if f' = 85 then (if q = 9 then qP h9 else (none)) else none, hint := qT 85 [(37, qL hm), (38, hIxM Pg instD b.phis m x hx), (42, hLenM Pg intD x.args)] } 85 500000
theorem rdPStop (vb ve : Nat) (u : Nat → Nat) : RW 146 (lO 85 6) (rdP f bi vb ve b b.phis.length) (rdPE c f g up vm n M bi b vb ve u) (.exit 2) (rdB f bi vb ve) (rdPE c f g up vm n M bi b vb ve u) := qS { hint := qT 85 [(37, qG b.phis.length)] } 85 500000
theorem rdIA (vb ve : Nat) (u : Nat → Nat) (i : Nat) (x : InstR) (hi : i < b.insts.length) (hl : b.insts.length < 4000000) (hx : b.insts[i]? = some x) (v : Nat → Nat) (h20 : RE 146 (.loop (lO 85 20)) (rdA f bi vb ve b i x (u 3 + 1) 0) (rdAE c f g up vm n M bi b vb ve x (u 3 + 1) (vL [u 0, u 1])) .ret ([(2, dB false)]) (rdAE c f g up vm n M bi b vb ve x (u 3 + 1) v)) : RW 146 (lO 85 17) (rdI f bi vb ve b i) (rdIE c f g up vm n M bi b vb ve u) .ret [(2, dB false)] (rdIE c f g up vm n M bi b vb ve (vL [v 0, v 1, u 2, u 3 + 1])) := qS { loops := fun f' q => if f' = 85 then (if q = 20 then qP h20 else (none)) else none, hint := qT 85 [(80, qL hi), (82, hIxM Pg instD b.insts i x hx), (86, hLenM Pg intD x.args)] } 85 500000
theorem rdIN_T1 (vb ve : Nat) (u : Nat → Nat) (i : Nat) (x : InstR) (hi : i < b.insts.length) (hl : b.insts.length < 4000000) (hx : b.insts[i]? = some x) (v : Nat → Nat) (h20 : RE 146 (.loop (lO 85 20)) (rdA f bi vb ve b i x (u 3 + 1) 0) (rdAE c f g up vm n M bi b vb ve x (u 3 + 1) (vL [u 0, u 1])) (.exit 8) (rdA' f bi vb ve b i (u 3 + 1)) (rdAE c f g up vm n M bi b vb ve x (u 3 + 1) v)) (h_p : (!(x.op == 42)) = true) (h_q : (!(x.op == 39)) = true) : RW 146 (lO 85 17) (rdI f bi vb ve b i) (rdIE c f g up vm n M bi b vb ve u) .normal (rdI f bi vb ve b (i + 1)) (rdIE c f g up vm n M bi b vb ve (vL [v 0, v 1, u 2, u 3 + 1])) := qS { loops := fun f' q => if f' = 85 then (if q = 20 then qP h20 else (none)) else none, hint := qT 85 [(80, qL hi), (82, hIxM Pg instD b.insts i x hx), (86, hLenM Pg intD x.args), (101, qB h_p), (105, qB h_q), (128, hSucc Pg i (by omega))] } 85 500000
theorem rdIN_T (vb ve : Nat) (u : Nat → Nat) (i : Nat) (x : InstR) (hi : i < b.insts.length) (hl : b.insts.length < 4000000) (hx : b.insts[i]? = some x) (v : Nat → Nat) (h20 : RE 146 (.loop (lO 85 20)) (rdA f bi vb ve b i x (u 3 + 1) 0) (rdAE c f g up vm n M bi b vb ve x (u 3 + 1) (vL [u 0, u 1])) (.exit 8) (rdA' f bi vb ve b i (u 3 + 1)) (rdAE c f g up vm n M bi b vb ve x (u 3 + 1) v)) (h : ((!(x.op == 42)) && (!(x.op == 39))) = true) : RW 146 (lO 85 17) (rdI f bi vb ve b i) (rdIE c f g up vm n M bi b vb ve u) .normal (rdI f bi vb ve b (i + 1)) (rdIE c f g up vm n M bi b vb ve (vL [v 0, v 1, u 2, u 3 + 1])) := by
 intro rest X hP hN
 cases h_p : (!(x.op == 42)) with
 | true =>
  cases h_q : (!(x.op == 39)) with
  | true =>
   exact rdIN_T1 c f g up vm n M U bi b vb ve u i x hi hl hx v h20  h_p h_q rest X hP hN
  | false =>
   simp [h_p, h_q] at h
 | false =>
  simp [h_p] at h
theorem rdIG_F1 (vb ve : Nat) (u : Nat → Nat) (i : Nat) (x : InstR) (hi : i < b.insts.length) (hl : b.insts.length < 4000000) (hx : b.insts[i]? = some x) (v : Nat → Nat) (h20 : RE 146 (.loop (lO 85 20)) (rdA f bi vb ve b i x (u 3 + 1) 0) (rdAE c f g up vm n M bi b vb ve x (u 3 + 1) (vL [u 0, u 1])) (.exit 8) (rdA' f bi vb ve b i (u 3 + 1)) (rdAE c f g up vm n M bi b vb ve x (u 3 + 1) v)) (v2 : Nat → Nat) (h27 : RE 146 (.loop (lO 85 27)) (rdD f bi vb ve b i x 0) (rdDE c f g up vm n M bi b vb ve (vL [v 0, v 1, u 2])) (.exit 10) (rdI f bi vb ve b i) (rdDE c f g up vm n M bi b vb ve v2)) (h_p : (!(x.op == 42)) = true) (h_q : (!(x.op == 39)) = false) : RW 146 (lO 85 17) (rdI f bi vb ve b i) (rdIE c f g up vm n M bi b vb ve u) .normal (rdI f bi vb ve b (i + 1)) (rdIE c f g up vm n M bi b vb ve (vL [v2 0, v2 1, v2 2, u 3 + 1])) := qS { loops := fun f' q => if f' = 85 then (if q = 20 then qP h20 else (if q = 27 then qP h27 else (none))) else none, hint := qT 85 [(80, qL hi), (82, hIxM Pg instD b.insts i x hx), (86, hLenM Pg intD x.args), (101, qB h_p), (105, qB h_q), (109, hLenM Pg dbgD x.dbg), (128, hSucc Pg i (by omega))] } 85 500000
theorem rdIG_F2 (vb ve : Nat) (u : Nat → Nat) (i : Nat) (x : InstR) (hi : i < b.insts.length) (hl : b.insts.length < 4000000) (hx : b.insts[i]? = some x) (v : Nat → Nat) (h20 : RE 146 (.loop (lO 85 20)) (rdA f bi vb ve b i x (u 3 + 1) 0) (rdAE c f g up vm n M bi b vb ve x (u 3 + 1) (vL [u 0, u 1])) (.exit 8) (rdA' f bi vb ve b i (u 3 + 1)) (rdAE c f g up vm n M bi b vb ve x (u 3 + 1) v)) (v2 : Nat → Nat) (h27 : RE 146 (.loop (lO 85 27)) (rdD f bi vb ve b i x 0) (rdDE c f g up vm n M bi b vb ve (vL [v 0, v 1, u 2])) (.exit 10) (rdI f bi vb ve b i) (rdDE c f g up vm n M bi b vb ve v2)) (h_p : (!(x.op == 42)) = false) : RW 146 (lO 85 17) (rdI f bi vb ve b i) (rdIE c f g up vm n M bi b vb ve u) .normal (rdI f bi vb ve b (i + 1)) (rdIE c f g up vm n M bi b vb ve (vL [v2 0, v2 1, v2 2, u 3 + 1])) := qS { loops := fun f' q => if f' = 85 then (if q = 20 then qP h20 else (if q = 27 then qP h27 else (none))) else none, hint := qT 85 [(80, qL hi), (82, hIxM Pg instD b.insts i x hx), (86, hLenM Pg intD x.args), (101, qB h_p), (109, hLenM Pg dbgD x.dbg), (128, hSucc Pg i (by omega))] } 85 500000
theorem rdIG_F (vb ve : Nat) (u : Nat → Nat) (i : Nat) (x : InstR) (hi : i < b.insts.length) (hl : b.insts.length < 4000000) (hx : b.insts[i]? = some x) (v : Nat → Nat) (h20 : RE 146 (.loop (lO 85 20)) (rdA f bi vb ve b i x (u 3 + 1) 0) (rdAE c f g up vm n M bi b vb ve x (u 3 + 1) (vL [u 0, u 1])) (.exit 8) (rdA' f bi vb ve b i (u 3 + 1)) (rdAE c f g up vm n M bi b vb ve x (u 3 + 1) v)) (v2 : Nat → Nat) (h27 : RE 146 (.loop (lO 85 27)) (rdD f bi vb ve b i x 0) (rdDE c f g up vm n M bi b vb ve (vL [v 0, v 1, u 2])) (.exit 10) (rdI f bi vb ve b i) (rdDE c f g up vm n M bi b vb ve v2)) (h : ((!(x.op == 42)) && (!(x.op == 39))) = false) : RW 146 (lO 85 17) (rdI f bi vb ve b i) (rdIE c f g up vm n M bi b vb ve u) .normal (rdI f bi vb ve b (i + 1)) (rdIE c f g up vm n M bi b vb ve (vL [v2 0, v2 1, v2 2, u 3 + 1])) := by
 intro rest X hP hN
 cases h_p : (!(x.op == 42)) with
 | true =>
  cases h_q : (!(x.op == 39)) with
  | true =>
   simp [h_p, h_q] at h
  | false =>
   exact rdIG_F1 c f g up vm n M U bi b vb ve u i x hi hl hx v h20 v2 h27  h_p h_q rest X hP hN
 | false =>
  exact rdIG_F2 c f g up vm n M U bi b vb ve u i x hi hl hx v h20 v2 h27  h_p rest X hP hN
theorem rdIB_F1 (vb ve : Nat) (u : Nat → Nat) (i : Nat) (x : InstR) (hi : i < b.insts.length) (hl : b.insts.length < 4000000) (hx : b.insts[i]? = some x) (v : Nat → Nat) (h20 : RE 146 (.loop (lO 85 20)) (rdA f bi vb ve b i x (u 3 + 1) 0) (rdAE c f g up vm n M bi b vb ve x (u 3 + 1) (vL [u 0, u 1])) (.exit 8) (rdA' f bi vb ve b i (u 3 + 1)) (rdAE c f g up vm n M bi b vb ve x (u 3 + 1) v)) (v2 : Nat → Nat) (h27 : RE 146 (.loop (lO 85 27)) (rdD f bi vb ve b i x 0) (rdDE c f g up vm n M bi b vb ve (vL [v 0, v 1, u 2])) .ret ([(2, dB false)]) (rdDE c f g up vm n M bi b vb ve v2)) (h_p : (!(x.op == 42)) = true) (h_q : (!(x.op == 39)) = false) : RW 146 (lO 85 17) (rdI f bi vb ve b i) (rdIE c f g up vm n M bi b vb ve u) .ret [(2, dB false)] (rdIE c f g up vm n M bi b vb ve (vL [v2 0, v2 1, v2 2, u 3 + 1])) := qS { loops := fun f' q => if f' = 85 then (if q = 20 then qP h20 else (if q = 27 then qP h27 else (none))) else none, hint := qT 85 [(80, qL hi), (82, hIxM Pg instD b.insts i x hx), (86, hLenM Pg intD x.args), (101, qB h_p), (105, qB h_q), (109, hLenM Pg dbgD x.dbg)] } 85 500000
theorem rdIB_F2 (vb ve : Nat) (u : Nat → Nat) (i : Nat) (x : InstR) (hi : i < b.insts.length) (hl : b.insts.length < 4000000) (hx : b.insts[i]? = some x) (v : Nat → Nat) (h20 : RE 146 (.loop (lO 85 20)) (rdA f bi vb ve b i x (u 3 + 1) 0) (rdAE c f g up vm n M bi b vb ve x (u 3 + 1) (vL [u 0, u 1])) (.exit 8) (rdA' f bi vb ve b i (u 3 + 1)) (rdAE c f g up vm n M bi b vb ve x (u 3 + 1) v)) (v2 : Nat → Nat) (h27 : RE 146 (.loop (lO 85 27)) (rdD f bi vb ve b i x 0) (rdDE c f g up vm n M bi b vb ve (vL [v 0, v 1, u 2])) .ret ([(2, dB false)]) (rdDE c f g up vm n M bi b vb ve v2)) (h_p : (!(x.op == 42)) = false) : RW 146 (lO 85 17) (rdI f bi vb ve b i) (rdIE c f g up vm n M bi b vb ve u) .ret [(2, dB false)] (rdIE c f g up vm n M bi b vb ve (vL [v2 0, v2 1, v2 2, u 3 + 1])) := qS { loops := fun f' q => if f' = 85 then (if q = 20 then qP h20 else (if q = 27 then qP h27 else (none))) else none, hint := qT 85 [(80, qL hi), (82, hIxM Pg instD b.insts i x hx), (86, hLenM Pg intD x.args), (101, qB h_p), (109, hLenM Pg dbgD x.dbg)] } 85 500000
theorem rdIB_F (vb ve : Nat) (u : Nat → Nat) (i : Nat) (x : InstR) (hi : i < b.insts.length) (hl : b.insts.length < 4000000) (hx : b.insts[i]? = some x) (v : Nat → Nat) (h20 : RE 146 (.loop (lO 85 20)) (rdA f bi vb ve b i x (u 3 + 1) 0) (rdAE c f g up vm n M bi b vb ve x (u 3 + 1) (vL [u 0, u 1])) (.exit 8) (rdA' f bi vb ve b i (u 3 + 1)) (rdAE c f g up vm n M bi b vb ve x (u 3 + 1) v)) (v2 : Nat → Nat) (h27 : RE 146 (.loop (lO 85 27)) (rdD f bi vb ve b i x 0) (rdDE c f g up vm n M bi b vb ve (vL [v 0, v 1, u 2])) .ret ([(2, dB false)]) (rdDE c f g up vm n M bi b vb ve v2)) (h : ((!(x.op == 42)) && (!(x.op == 39))) = false) : RW 146 (lO 85 17) (rdI f bi vb ve b i) (rdIE c f g up vm n M bi b vb ve u) .ret [(2, dB false)] (rdIE c f g up vm n M bi b vb ve (vL [v2 0, v2 1, v2 2, u 3 + 1])) := by
 intro rest X hP hN
 cases h_p : (!(x.op == 42)) with
 | true =>
  cases h_q : (!(x.op == 39)) with
  | true =>
   simp [h_p, h_q] at h
  | false =>
   exact rdIB_F1 c f g up vm n M U bi b vb ve u i x hi hl hx v h20 v2 h27  h_p h_q rest X hP hN
 | false =>
  exact rdIB_F2 c f g up vm n M U bi b vb ve u i x hi hl hx v h20 v2 h27  h_p rest X hP hN
theorem rdIStop (vb ve : Nat) (u : Nat → Nat) : RW 146 (lO 85 17) (rdI f bi vb ve b b.insts.length) (rdIE c f g up vm n M bi b vb ve u) (.exit 6) (rdB f bi vb ve) (rdIE c f g up vm n M bi b vb ve u) := qS { hint := qT 85 [(80, qG b.insts.length)] } 85 500000
theorem rdB1 (u : Nat → Nat) (hi : bi < f.blocks.length) (hl : f.blocks.length < 4000000) (hb : f.blocks[bi]? = some b) (v : Nat → Nat) (h6 : RE 146 (.loop (lO 85 6)) (rdP f bi (u 5 + 1) (u 6 + 1) b 0) (rdPE c f g up vm n M bi b (u 5 + 1) (u 6 + 1) (vL [u 0, u 1, u 4])) .ret ([(2, dB false)]) (rdPE c f g up vm n M bi b (u 5 + 1) (u 6 + 1) v)) : RW 146 (lO 85 2) (rdO f bi) (rdOE c f g up vm n M u) .ret [(2, dB false)] (rdOE c f g up vm n M (vL [v 0, v 1, u 2, u 3, v 2, u 5 + 1, u 6 + 1])) := qS { loops := fun f' q => if f' = 85 then (if q = 6 then qP h6 else (none)) else none, hint := qT 85 [(24, qL hi), (26, hIxM Pg blkD f.blocks bi b hb), (31, hLenM Pg instD b.insts), (35, hLenM Pg instD b.phis)] } 85 500000
theorem rdB2 (u : Nat → Nat) (hi : bi < f.blocks.length) (hl : f.blocks.length < 4000000) (hb : f.blocks[bi]? = some b) (v : Nat → Nat) (h6 : RE 146 (.loop (lO 85 6)) (rdP f bi (u 5 + 1) (u 6 + 1) b 0) (rdPE c f g up vm n M bi b (u 5 + 1) (u 6 + 1) (vL [u 0, u 1, u 4])) (.exit 2) (rdB f bi (u 5 + 1) (u 6 + 1)) (rdPE c f g up vm n M bi b (u 5 + 1) (u 6 + 1) v)) (v2 : Nat → Nat) (h17 : RE 146 (.loop (lO 85 17)) (rdI f bi (u 5 + 1) (u 6 + 1) b 0) (rdIE c f g up vm n M bi b (u 5 + 1) (u 6 + 1) (vL [v 0, v 1, u 2, u 3])) .ret ([(2, dB false)]) (rdIE c f g up vm n M bi b (u 5 + 1) (u 6 + 1) v2)) : RW 146 (lO 85 2) (rdO f bi) (rdOE c f g up vm n M u) .ret [(2, dB false)] (rdOE c f g up vm n M (vL [v2 0, v2 1, v2 2, v2 3, v 2, u 5 + 1, u 6 + 1])) := qS { loops := fun f' q => if f' = 85 then (if q = 6 then qP h6 else (if q = 17 then qP h17 else (none))) else none, hint := qT 85 [(24, qL hi), (26, hIxM Pg blkD f.blocks bi b hb), (31, hLenM Pg instD b.insts), (35, hLenM Pg instD b.phis), (78, hLenM Pg instD b.insts)] } 85 500000
theorem rdB3_F1 (u : Nat → Nat) (hi : bi < f.blocks.length) (hl : f.blocks.length < 4000000) (hb : f.blocks[bi]? = some b) (v : Nat → Nat) (h6 : RE 146 (.loop (lO 85 6)) (rdP f bi (u 5 + 1) (u 6 + 1) b 0) (rdPE c f g up vm n M bi b (u 5 + 1) (u 6 + 1) (vL [u 0, u 1, u 4])) (.exit 2) (rdB f bi (u 5 + 1) (u 6 + 1)) (rdPE c f g up vm n M bi b (u 5 + 1) (u 6 + 1) v)) (v2 : Nat → Nat) (h17 : RE 146 (.loop (lO 85 17)) (rdI f bi (u 5 + 1) (u 6 + 1) b 0) (rdIE c f g up vm n M bi b (u 5 + 1) (u 6 + 1) (vL [v 0, v 1, u 2, u 3])) (.exit 6) (rdB f bi (u 5 + 1) (u 6 + 1)) (rdIE c f g up vm n M bi b (u 5 + 1) (u 6 + 1) v2)) (h_p : (b.fin == 2) = false) (h_q : (b.fin == 3) = false) : RW 146 (lO 85 2) (rdO f bi) (rdOE c f g up vm n M u) .normal (rdO f (bi + 1)) (rdOE c f g up vm n M (vL [v2 0, v2 1, v2 2, v2 3, v 2, u 5 + 1, u 6 + 1])) := qS { loops := fun f' q => if f' = 85 then (if q = 6 then qP h6 else (if q = 17 then qP h17 else (none))) else none, hint := qT 85 [(24, qL hi), (26, hIxM Pg blkD f.blocks bi b hb), (31, hLenM Pg instD b.insts), (35, hLenM Pg instD b.phis), (78, hLenM Pg instD b.insts), (131, qB h_p), (135, qB h_q), (145, hSucc Pg bi (by omega))] } 85 500000
theorem rdB3_F (u : Nat → Nat) (hi : bi < f.blocks.length) (hl : f.blocks.length < 4000000) (hb : f.blocks[bi]? = some b) (v : Nat → Nat) (h6 : RE 146 (.loop (lO 85 6)) (rdP f bi (u 5 + 1) (u 6 + 1) b 0) (rdPE c f g up vm n M bi b (u 5 + 1) (u 6 + 1) (vL [u 0, u 1, u 4])) (.exit 2) (rdB f bi (u 5 + 1) (u 6 + 1)) (rdPE c f g up vm n M bi b (u 5 + 1) (u 6 + 1) v)) (v2 : Nat → Nat) (h17 : RE 146 (.loop (lO 85 17)) (rdI f bi (u 5 + 1) (u 6 + 1) b 0) (rdIE c f g up vm n M bi b (u 5 + 1) (u 6 + 1) (vL [v 0, v 1, u 2, u 3])) (.exit 6) (rdB f bi (u 5 + 1) (u 6 + 1)) (rdIE c f g up vm n M bi b (u 5 + 1) (u 6 + 1) v2)) (h : ((b.fin == 2) || (b.fin == 3)) = false) : RW 146 (lO 85 2) (rdO f bi) (rdOE c f g up vm n M u) .normal (rdO f (bi + 1)) (rdOE c f g up vm n M (vL [v2 0, v2 1, v2 2, v2 3, v 2, u 5 + 1, u 6 + 1])) := by
 intro rest X hP hN
 cases h_p : (b.fin == 2) with
 | true =>
  simp [h_p] at h
 | false =>
  cases h_q : (b.fin == 3) with
  | true =>
   simp [h_p, h_q] at h
  | false =>
   exact rdB3_F1 c f g up vm n M U bi b u hi hl hb v h6 v2 h17  h_p h_q rest X hP hN
theorem rdB4_T1 (u : Nat → Nat) (hi : bi < f.blocks.length) (hl : f.blocks.length < 4000000) (hb : f.blocks[bi]? = some b) (v : Nat → Nat) (h6 : RE 146 (.loop (lO 85 6)) (rdP f bi (u 5 + 1) (u 6 + 1) b 0) (rdPE c f g up vm n M bi b (u 5 + 1) (u 6 + 1) (vL [u 0, u 1, u 4])) (.exit 2) (rdB f bi (u 5 + 1) (u 6 + 1)) (rdPE c f g up vm n M bi b (u 5 + 1) (u 6 + 1) v)) (v2 : Nat → Nat) (h17 : RE 146 (.loop (lO 85 17)) (rdI f bi (u 5 + 1) (u 6 + 1) b 0) (rdIE c f g up vm n M bi b (u 5 + 1) (u 6 + 1) (vL [v 0, v 1, u 2, u 3])) (.exit 6) (rdB f bi (u 5 + 1) (u 6 + 1)) (rdIE c f g up vm n M bi b (u 5 + 1) (u 6 + 1) v2)) (w0 w1 : Nat) (hu : ∀ rest : Heap, HCall Pg 110 [ckP, dI b.arg, .d (spotD ((bi : Int), (b.insts.length : Int)))] (ovl (ckHn c f (fromD g) up vm n M ++ [(500005, ⟨v2 0, none⟩), (501134, ⟨v2 1, none⟩)]) rest) [dB true] (ovl (ckHn c f (fromD g) up vm n M ++ [(500005, ⟨w0, none⟩), (501134, ⟨w1, none⟩)]) rest)) (h_p : (b.fin == 2) = true) : RW 146 (lO 85 2) (rdO f bi) (rdOE c f g up vm n M u) .normal (rdO f (bi + 1)) (rdOE c f g up vm n M (vL [w0, w1, v2 2, v2 3, v 2, u 5 + 1, u 6 + 1])) := qS { loops := fun f' q => if f' = 85 then (if q = 6 then qP h6 else (if q = 17 then qP h17 else (none))) else none, calls := fun f' s _ => if f' = 85 then (if s = 142 then some ⟨110, _, _, _, _, fits_rw (A := ckHn c f (fromD g) up vm n M) (B := [(500005, ⟨v2 0, none⟩), (501134, ⟨v2 1, none⟩)]) (B' := [(500005, ⟨w0, none⟩), (501134, ⟨w1, none⟩)]) rfl rfl hu⟩ else none) else none, hint := qT 85 [(24, qL hi), (26, hIxM Pg blkD f.blocks bi b hb), (31, hLenM Pg instD b.insts), (35, hLenM Pg instD b.phis), (78, hLenM Pg instD b.insts), (131, qB h_p), (145, hSucc Pg bi (by omega))] } 85 500000
theorem rdB4_T2 (u : Nat → Nat) (hi : bi < f.blocks.length) (hl : f.blocks.length < 4000000) (hb : f.blocks[bi]? = some b) (v : Nat → Nat) (h6 : RE 146 (.loop (lO 85 6)) (rdP f bi (u 5 + 1) (u 6 + 1) b 0) (rdPE c f g up vm n M bi b (u 5 + 1) (u 6 + 1) (vL [u 0, u 1, u 4])) (.exit 2) (rdB f bi (u 5 + 1) (u 6 + 1)) (rdPE c f g up vm n M bi b (u 5 + 1) (u 6 + 1) v)) (v2 : Nat → Nat) (h17 : RE 146 (.loop (lO 85 17)) (rdI f bi (u 5 + 1) (u 6 + 1) b 0) (rdIE c f g up vm n M bi b (u 5 + 1) (u 6 + 1) (vL [v 0, v 1, u 2, u 3])) (.exit 6) (rdB f bi (u 5 + 1) (u 6 + 1)) (rdIE c f g up vm n M bi b (u 5 + 1) (u 6 + 1) v2)) (w0 w1 : Nat) (hu : ∀ rest : Heap, HCall Pg 110 [ckP, dI b.arg, .d (spotD ((bi : Int), (b.insts.length : Int)))] (ovl (ckHn c f (fromD g) up vm n M ++ [(500005, ⟨v2 0, none⟩), (501134, ⟨v2 1, none⟩)]) rest) [dB true] (ovl (ckHn c f (fromD g) up vm n M ++ [(500005, ⟨w0, none⟩), (501134, ⟨w1, none⟩)]) rest)) (h_p : (b.fin == 2) = false) (h_q : (b.fin == 3) = true) : RW 146 (lO 85 2) (rdO f bi) (rdOE c f g up vm n M u) .normal (rdO f (bi + 1)) (rdOE c f g up vm n M (vL [w0, w1, v2 2, v2 3, v 2, u 5 + 1, u 6 + 1])) := qS { loops := fun f' q => if f' = 85 then (if q = 6 then qP h6 else (if q = 17 then qP h17 else (none))) else none, calls := fun f' s _ => if f' = 85 then (if s = 142 then some ⟨110, _, _, _, _, fits_rw (A := ckHn c f (fromD g) up vm n M) (B := [(500005, ⟨v2 0, none⟩), (501134, ⟨v2 1, none⟩)]) (B' := [(500005, ⟨w0, none⟩), (501134, ⟨w1, none⟩)]) rfl rfl hu⟩ else none) else none, hint := qT 85 [(24, qL hi), (26, hIxM Pg blkD f.blocks bi b hb), (31, hLenM Pg instD b.insts), (35, hLenM Pg instD b.phis), (78, hLenM Pg instD b.insts), (131, qB h_p), (135, qB h_q), (145, hSucc Pg bi (by omega))] } 85 500000
theorem rdB4_T (u : Nat → Nat) (hi : bi < f.blocks.length) (hl : f.blocks.length < 4000000) (hb : f.blocks[bi]? = some b) (v : Nat → Nat) (h6 : RE 146 (.loop (lO 85 6)) (rdP f bi (u 5 + 1) (u 6 + 1) b 0) (rdPE c f g up vm n M bi b (u 5 + 1) (u 6 + 1) (vL [u 0, u 1, u 4])) (.exit 2) (rdB f bi (u 5 + 1) (u 6 + 1)) (rdPE c f g up vm n M bi b (u 5 + 1) (u 6 + 1) v)) (v2 : Nat → Nat) (h17 : RE 146 (.loop (lO 85 17)) (rdI f bi (u 5 + 1) (u 6 + 1) b 0) (rdIE c f g up vm n M bi b (u 5 + 1) (u 6 + 1) (vL [v 0, v 1, u 2, u 3])) (.exit 6) (rdB f bi (u 5 + 1) (u 6 + 1)) (rdIE c f g up vm n M bi b (u 5 + 1) (u 6 + 1) v2)) (w0 w1 : Nat) (hu : ∀ rest : Heap, HCall Pg 110 [ckP, dI b.arg, .d (spotD ((bi : Int), (b.insts.length : Int)))] (ovl (ckHn c f (fromD g) up vm n M ++ [(500005, ⟨v2 0, none⟩), (501134, ⟨v2 1, none⟩)]) rest) [dB true] (ovl (ckHn c f (fromD g) up vm n M ++ [(500005, ⟨w0, none⟩), (501134, ⟨w1, none⟩)]) rest)) (h : ((b.fin == 2) || (b.fin == 3)) = true) : RW 146 (lO 85 2) (rdO f bi) (rdOE c f g up vm n M u) .normal (rdO f (bi + 1)) (rdOE c f g up vm n M (vL [w0, w1, v2 2, v2 3, v 2, u 5 + 1, u 6 + 1])) := by
 intro rest X hP hN
 cases h_p : (b.fin == 2) with
 | true =>
  exact rdB4_T1 c f g up vm n M U bi b u hi hl hb v h6 v2 h17 w0 w1 hu  h_p rest X hP hN
 | false =>
  cases h_q : (b.fin == 3) with
  | true =>
   exact rdB4_T2 c f g up vm n M U bi b u hi hl hb v h6 v2 h17 w0 w1 hu  h_p h_q rest X hP hN
  | false =>
   simp [h_p, h_q] at h
theorem rdB5_T1 (u : Nat → Nat) (hi : bi < f.blocks.length) (hl : f.blocks.length < 4000000) (hb : f.blocks[bi]? = some b) (v : Nat → Nat) (h6 : RE 146 (.loop (lO 85 6)) (rdP f bi (u 5 + 1) (u 6 + 1) b 0) (rdPE c f g up vm n M bi b (u 5 + 1) (u 6 + 1) (vL [u 0, u 1, u 4])) (.exit 2) (rdB f bi (u 5 + 1) (u 6 + 1)) (rdPE c f g up vm n M bi b (u 5 + 1) (u 6 + 1) v)) (v2 : Nat → Nat) (h17 : RE 146 (.loop (lO 85 17)) (rdI f bi (u 5 + 1) (u 6 + 1) b 0) (rdIE c f g up vm n M bi b (u 5 + 1) (u 6 + 1) (vL [v 0, v 1, u 2, u 3])) (.exit 6) (rdB f bi (u 5 + 1) (u 6 + 1)) (rdIE c f g up vm n M bi b (u 5 + 1) (u 6 + 1) v2)) (w0 w1 : Nat) (hu : ∀ rest : Heap, HCall Pg 110 [ckP, dI b.arg, .d (spotD ((bi : Int), (b.insts.length : Int)))] (ovl (ckHn c f (fromD g) up vm n M ++ [(500005, ⟨v2 0, none⟩), (501134, ⟨v2 1, none⟩)]) rest) [dB false] (ovl (ckHn c f (fromD g) up vm n M ++ [(500005, ⟨w0, none⟩), (501134, ⟨w1, none⟩)]) rest)) (h_p : (b.fin == 2) = true) : RW 146 (lO 85 2) (rdO f bi) (rdOE c f g up vm n M u) .ret [(2, dB false)] (rdOE c f g up vm n M (vL [w0, w1, v2 2, v2 3, v 2, u 5 + 1, u 6 + 1])) := qS { loops := fun f' q => if f' = 85 then (if q = 6 then qP h6 else (if q = 17 then qP h17 else (none))) else none, calls := fun f' s _ => if f' = 85 then (if s = 142 then some ⟨110, _, _, _, _, fits_rw (A := ckHn c f (fromD g) up vm n M) (B := [(500005, ⟨v2 0, none⟩), (501134, ⟨v2 1, none⟩)]) (B' := [(500005, ⟨w0, none⟩), (501134, ⟨w1, none⟩)]) rfl rfl hu⟩ else none) else none, hint := qT 85 [(24, qL hi), (26, hIxM Pg blkD f.blocks bi b hb), (31, hLenM Pg instD b.insts), (35, hLenM Pg instD b.phis), (78, hLenM Pg instD b.insts), (131, qB h_p)] } 85 500000
theorem rdB5_T2 (u : Nat → Nat) (hi : bi < f.blocks.length) (hl : f.blocks.length < 4000000) (hb : f.blocks[bi]? = some b) (v : Nat → Nat) (h6 : RE 146 (.loop (lO 85 6)) (rdP f bi (u 5 + 1) (u 6 + 1) b 0) (rdPE c f g up vm n M bi b (u 5 + 1) (u 6 + 1) (vL [u 0, u 1, u 4])) (.exit 2) (rdB f bi (u 5 + 1) (u 6 + 1)) (rdPE c f g up vm n M bi b (u 5 + 1) (u 6 + 1) v)) (v2 : Nat → Nat) (h17 : RE 146 (.loop (lO 85 17)) (rdI f bi (u 5 + 1) (u 6 + 1) b 0) (rdIE c f g up vm n M bi b (u 5 + 1) (u 6 + 1) (vL [v 0, v 1, u 2, u 3])) (.exit 6) (rdB f bi (u 5 + 1) (u 6 + 1)) (rdIE c f g up vm n M bi b (u 5 + 1) (u 6 + 1) v2)) (w0 w1 : Nat) (hu : ∀ rest : Heap, HCall Pg 110 [ckP, dI b.arg, .d (spotD ((bi : Int), (b.insts.length : Int)))] (ovl (ckHn c f (fromD g) up vm n M ++ [(500005, ⟨v2 0, none⟩), (501134, ⟨v2 1, none⟩)]) rest) [dB false] (ovl (ckHn c f (fromD g) up vm n M ++ [(500005, ⟨w0, none⟩), (501134, ⟨w1, none⟩)]) rest)) (h_p : (b.fin == 2) = false) (h_q : (b.fin == 3) = true) : RW 146 (lO 85 2) (rdO f bi) (rdOE c f g up vm n M u) .ret [(2, dB false)] (rdOE c f g up vm n M (vL [w0, w1, v2 2, v2 3, v 2, u 5 + 1, u 6 + 1])) := qS { loops := fun f' q => if f' = 85 then (if q = 6 then qP h6 else (if q = 17 then qP h17 else (none))) else none, calls := fun f' s _ => if f' = 85 then (if s = 142 then some ⟨110, _, _, _, _, fits_rw (A := ckHn c f (fromD g) up vm n M) (B := [(500005, ⟨v2 0, none⟩), (501134, ⟨v2 1, none⟩)]) (B' := [(500005, ⟨w0, none⟩), (501134, ⟨w1, none⟩)]) rfl rfl hu⟩ else none) else none, hint := qT 85 [(24, qL hi), (26, hIxM Pg blkD f.blocks bi b hb), (31, hLenM Pg instD b.insts), (35, hLenM Pg instD b.phis), (78, hLenM Pg instD b.insts), (131, qB h_p), (135, qB h_q)] } 85 500000
theorem rdB5_T (u : Nat → Nat) (hi : bi < f.blocks.length) (hl : f.blocks.length < 4000000) (hb : f.blocks[bi]? = some b) (v : Nat → Nat) (h6 : RE 146 (.loop (lO 85 6)) (rdP f bi (u 5 + 1) (u 6 + 1) b 0) (rdPE c f g up vm n M bi b (u 5 + 1) (u 6 + 1) (vL [u 0, u 1, u 4])) (.exit 2) (rdB f bi (u 5 + 1) (u 6 + 1)) (rdPE c f g up vm n M bi b (u 5 + 1) (u 6 + 1) v)) (v2 : Nat → Nat) (h17 : RE 146 (.loop (lO 85 17)) (rdI f bi (u 5 + 1) (u 6 + 1) b 0) (rdIE c f g up vm n M bi b (u 5 + 1) (u 6 + 1) (vL [v 0, v 1, u 2, u 3])) (.exit 6) (rdB f bi (u 5 + 1) (u 6 + 1)) (rdIE c f g up vm n M bi b (u 5 + 1) (u 6 + 1) v2)) (w0 w1 : Nat) (hu : ∀ rest : Heap, HCall Pg 110 [ckP, dI b.arg, .d (spotD ((bi : Int), (b.insts.length : Int)))] (ovl (ckHn c f (fromD g) up vm n M ++ [(500005, ⟨v2 0, none⟩), (501134, ⟨v2 1, none⟩)]) rest) [dB false] (ovl (ckHn c f (fromD g) up vm n M ++ [(500005, ⟨w0, none⟩), (501134, ⟨w1, none⟩)]) rest)) (h : ((b.fin == 2) || (b.fin == 3)) = true) : RW 146 (lO 85 2) (rdO f bi) (rdOE c f g up vm n M u) .ret [(2, dB false)] (rdOE c f g up vm n M (vL [w0, w1, v2 2, v2 3, v 2, u 5 + 1, u 6 + 1])) := by
 intro rest X hP hN
 cases h_p : (b.fin == 2) with
 | true =>
  exact rdB5_T1 c f g up vm n M U bi b u hi hl hb v h6 v2 h17 w0 w1 hu  h_p rest X hP hN
 | false =>
  cases h_q : (b.fin == 3) with
  | true =>
   exact rdB5_T2 c f g up vm n M U bi b u hi hl hb v h6 v2 h17 w0 w1 hu  h_p h_q rest X hP hN
  | false =>
   simp [h_p, h_q] at h
end
theorem rdOStop (c : CodeR) (f : FunR) (g : Graph) (up : D) (vm n : Nat) (M : Ms) (u : Nat → Nat) : RW 146 (lO 85 2) (rdO f f.blocks.length) (rdOE c f g up vm n M u) (.exit 0) ([]) (rdOE c f g up vm n M u) := qS { hint := qT 85 [(24, qG f.blocks.length)] } 85 500000
end Go.Avm
namespace Go.Avm
open Go.Proofs Go.Avm.Dom
section
variable (c : CodeR) (f : FunR) (g : Graph) (up : D) (vm n : Nat) (M : Ms) (U : Int → Int × Int → Bool)
theorem rdPLoop (bi : Nat) (b : BlkR) (vb ve : Nat) (hU : UseC c f g up vm n M U) (hl : smallIs b.phis) (row : List Nat) (hrow : (intoOf g)[bi]? = some row) (hlen : ∀ x ∈ b.phis, x.args.length = row.length) (hpl : ∀ p ∈ row, p < f.blocks.length) :
    AllLoop Pg 146 (lO 85 6) (fun (u : Nat → Nat) rest => ⟨envOf (rdP f bi vb ve b 0), ovl (rdPE c f g up vm n M bi b vb ve u) rest⟩) (fun u rest => ⟨envOf (rdB f bi vb ve), ovl (rdPE c f g up vm n M bi b vb ve u) rest⟩) (fun u rest => ⟨envOf [(2, dB false)], ovl (rdPE c f g up vm n M bi b vb ve u) rest⟩) (.exit 2) (b.phis.all fun x => phiUs f U row x.args) :=
 lw_list b.phis (fun x => phiUs f U row x.args) (fun m (u : Nat → Nat) rest => ⟨envOf (rdP f bi vb ve b m), ovl (rdPE c f g up vm n M bi b vb ve u) rest⟩) _ _ (by simp)
  (fun m hm u => by
   have hmem := List.getElem_mem hm
   have hL := rdQLoop c f g up vm n M U bi b vb ve hU m b.phis[m] (hl.2 _ hmem).1 row hrow (hlen _ hmem) hpl (vL [u 0, u 1])
   cases ht : phiUs f U row b.phis[m].args with
   | true =>
    obtain ⟨v, h9⟩ := hL.1 ht
    exact ⟨_, fun rest X hP hN => rdPG c f g up vm n M U bi b vb ve u m _ hm hl.1 (get_of hm) v h9 rest X hP hN⟩
   | false =>
    obtain ⟨v, h9⟩ := hL.2 ht
    exact ⟨_, fun rest X hP hN => rdPF c f g up vm n M U bi b vb ve u m _ hm hl.1 (get_of hm) v h9 rest X hP hN⟩)
  (fun u => ⟨u, fun rest X hP hN => rdPStop c f g up vm n M U bi b vb ve u rest X hP hN⟩)
theorem stop_not (x : InstR) : ((!(x.op == 42)) && (!(x.op == 39))) = !(isStop x) := by
 unfold isStop
 cases (x.op == 42) <;> cases (x.op == 39) <;> rfl
theorem rdILoop (bi : Nat) (b : BlkR) (vb ve : Nat) (hU : UseC c f g up vm n M U) (hbi : bi < f.blocks.length) (hl : smallIs b.insts) :
    AllLoop Pg 146 (lO 85 17) (fun (u : Nat → Nat) rest => ⟨envOf (rdI f bi vb ve b 0), ovl (rdIE c f g up vm n M bi b vb ve u) rest⟩) (fun u rest => ⟨envOf (rdB f bi vb ve), ovl (rdIE c f g up vm n M bi b vb ve u) rest⟩) (fun u rest => ⟨envOf [(2, dB false)], ovl (rdIE c f g up vm n M bi b vb ve u) rest⟩) (.exit 6) ((List.range b.insts.length).all (instUAt U bi b.insts)) :=
 lw_list (List.range b.insts.length) (instUAt U bi b.insts) (fun i (u : Nat → Nat) rest => ⟨envOf (rdI f bi vb ve b i), ovl (rdIE c f g up vm n M bi b vb ve u) rest⟩) _ _ (by simp)
  (fun i hi u => by
   rw [List.getElem_range]
   rw [List.length_range] at hi
   have hmem := List.getElem_mem hi
   have hget := get_of hi
   have hx := hl.2 _ hmem
   unfold instUAt
   rw [hget]
   generalize b.insts[i] = x at hget hx
   have hA := rdALoop c f g up vm n M U bi b vb ve hU hbi i x (u 3 + 1) hx.1 (vL [u 0, u 1])
   show ∃ u', ∀ (rest : Heap) (X : Fix), X.P = Pg → X.N = 146 → AW X _ _ fun e' S' => e' = bE (instU U bi i x) ∧ Weak X S' (bif instU U bi i x then _ else _)
   unfold instU
   cases ha : x.args.all fun a => U a ((bi : Int), (i : Int)) with
   | false =>
    obtain ⟨v, h20⟩ := hA.2 ha
    exact ⟨_, fun rest X hP hN => rdIA c f g up vm n M U bi b vb ve u i x hi hl.1 hget v h20 rest X hP hN⟩
   | true =>
    obtain ⟨v, h20⟩ := hA.1 ha
    cases hst : isStop x with
    | false => exact ⟨_, fun rest X hP hN => rdIN_T c f g up vm n M U bi b vb ve u i x hi hl.1 hget v h20 (by rw [stop_not, hst]; rfl) rest X hP hN⟩
    | true =>
     have hD := rdDLoop c f g up vm n M U bi b vb ve hU hbi i x hx.2 (vL [v 0, v 1, u 2])
     cases hd : x.dbg.all (dbgU U bi i) with
     | false =>
      obtain ⟨v2, h27⟩ := hD.2 hd
      exact ⟨_, fun rest X hP hN => rdIB_F c f g up vm n M U bi b vb ve u i x hi hl.1 hget v h20 v2 h27 (by rw [stop_not, hst]; rfl) rest X hP hN⟩
     | true =>
      obtain ⟨v2, h27⟩ := hD.1 hd
      exact ⟨_, fun rest X hP hN => rdIG_F c f g up vm n M U bi b vb ve u i x hi hl.1 hget v h20 v2 h27 (by rw [stop_not, hst]; rfl) rest X hP hN⟩)
  (fun u => ⟨u, fun rest X hP hN => by
   rw [List.length_range]
   exact rdIStop c f g up vm n M U bi b vb ve u rest X hP hN⟩)
theorem into_lt {g : Graph} {m bi : Nat} (hg : g.length = m) : ∀ p ∈ rowAt g bi, p < m := fun p hp => by
 by_cases hb : bi < g.length
 ·have h1 : (intoOf g)[bi]? = some (rowAt g bi) := by
    unfold rowAt
    rw [List.getD_eq_getElem?_getD, get_of (by simp [intoOf]; omega)]
    rfl
  generalize rowAt g bi = row at h1 hp
  unfold intoOf at h1
  rw [List.getElem?_map, List.getElem?_range hb] at h1
  simp only [Option.map_some, Option.some.injEq] at h1
  subst h1
  simp at hp
  omega
 ·unfold rowAt at hp
  rw [List.getD_eq_getElem?_getD, List.getElem?_eq_none (by simp [intoOf]; omega)] at hp
  simp at hp
theorem rdBLoop (hU : UseC c f g up vm n M U) (hf : fineF f) (hg : g.length = f.blocks.length) (hlen : ∀ (j : Nat) (b : BlkR), f.blocks[j]? = some b → ∀ x ∈ b.phis, x.args.length = (rowAt g j).length) :
    AllLoop Pg 146 (lO 85 2) (fun (u : Nat → Nat) rest => ⟨envOf (rdO f 0), ovl (rdOE c f g up vm n M u) rest⟩) (fun u rest => ⟨envOf [], ovl (rdOE c f g up vm n M u) rest⟩) (fun u rest => ⟨envOf [(2, dB false)], ovl (rdOE c f g up vm n M u) rest⟩) (.exit 0) (readsP f g U) :=
 lw_list (List.range f.blocks.length) (blkUAt f g U) (fun bi (u : Nat → Nat) rest => ⟨envOf (rdO f bi), ovl (rdOE c f g up vm n M u) rest⟩) _ _ (by simp)
  (fun bi hbi u => by
   rw [List.getElem_range]
   rw [List.length_range] at hbi
   have hsm := hf.2 _ (List.getElem_mem hbi)
   have hget := get_of hbi
   have hln := hlen bi _ hget
   unfold blkUAt
   rw [hget]
   generalize f.blocks[bi] = b at hget hsm hln
   have hrow : (intoOf g)[bi]? = some (rowAt g bi) := by
    unfold rowAt
    rw [List.getD_eq_getElem?_getD, get_of (by simp [intoOf]; omega)]
    rfl
   have hP := rdPLoop c f g up vm n M U bi b (u 5 + 1) (u 6 + 1) hU hsm.1 (rowAt g bi) hrow hln (into_lt hg) (vL [u 0, u 1, u 4])
   show ∃ u', ∀ (rest : Heap) (X : Fix), X.P = Pg → X.N = 146 → AW X _ _ fun e' S' => e' = bE (blkU f g U bi b) ∧ Weak X S' (bif blkU f g U bi b then _ else _)
   unfold blkU
   cases hp : b.phis.all fun x => phiUs f U (rowAt g bi) x.args with
   | false =>
    obtain ⟨v, h6⟩ := hP.2 hp
    exact ⟨_, fun rest X hP hN => rdB1 c f g up vm n M U bi b u hbi hf.1 hget v h6 rest X hP hN⟩
   | true =>
    obtain ⟨v, h6⟩ := hP.1 hp
    have hI := rdILoop c f g up vm n M U bi b (u 5 + 1) (u 6 + 1) hU hbi hsm.2 (vL [v 0, v 1, u 2, u 3])
    cases hi : (List.range b.insts.length).all (instUAt U bi b.insts) with
    | false =>
     obtain ⟨v2, h17⟩ := hI.2 hi
     exact ⟨_, fun rest X hP hN => rdB2 c f g up vm n M U bi b u hbi hf.1 hget v h6 v2 h17 rest X hP hN⟩
    | true =>
     obtain ⟨v2, h17⟩ := hI.1 hi
     unfold endU
     cases he : ((b.fin == 2) || (b.fin == 3)) with
     | false => exact ⟨_, fun rest X hP hN => rdB3_F c f g up vm n M U bi b u hbi hf.1 hget v h6 v2 h17 he rest X hP hN⟩
     | true =>
      obtain ⟨w0, w1, hu⟩ := hU b.arg bi (b.insts.length : Int) (v2 0) (v2 1) hbi
      cases ht : U b.arg ((bi : Int), (b.insts.length : Int)) with
      | true =>
       rw [ht] at hu
       exact ⟨_, fun rest X hP hN => rdB4_T c f g up vm n M U bi b u hbi hf.1 hget v h6 v2 h17 w0 w1 hu he rest X hP hN⟩
      | false =>
       rw [ht] at hu
       exact ⟨_, fun rest X hP hN => rdB5_T c f g up vm n M U bi b u hbi hf.1 hget v h6 v2 h17 w0 w1 hu he rest X hP hN⟩)
  (fun u => ⟨u, fun rest X hP hN => by
   rw [List.length_range]
   exact rdOStop c f g up vm n M u rest X hP hN⟩)
variable (u u' : Nat → Nat)
theorem rd85T (h : RE 146 (.loop (lO 85 2)) (rdO f 0) (rdOE c f g up vm n M u) (.exit 0) [] (rdOE c f g up vm n M u')) (rest : Heap) : HCall Pg 85 [ckP] (ovl (rdOE c f g up vm n M u) rest) [dB true] (ovl (rdOE c f g up vm n M u') rest) :=
 qH { loops := qO 85 2 (qP h), hint := qT 85 [(22, hLenM Pg blkD f.blocks)] }
theorem rd85F (h : RE 146 (.loop (lO 85 2)) (rdO f 0) (rdOE c f g up vm n M u) .ret [(2, dB false)] (rdOE c f g up vm n M u')) (rest : Heap) : HCall Pg 85 [ckP] (ovl (rdOE c f g up vm n M u) rest) [dB false] (ovl (rdOE c f g up vm n M u') rest) :=
 qH { loops := qO 85 2 (qP h), hint := qT 85 [(22, hLenM Pg blkD f.blocks)] }
theorem rd85 (hU : UseC c f g up vm n M U) (hf : fineF f) (hg : g.length = f.blocks.length) (hlen : ∀ (j : Nat) (b : BlkR), f.blocks[j]? = some b → ∀ x ∈ b.phis, x.args.length = (rowAt g j).length) :
    ∃ u', ∀ rest : Heap, HCall Pg 85 [ckP] (ovl (rdOE c f g up vm n M u) rest) [dB (readsP f g U)] (ovl (rdOE c f g up vm n M u') rest) := by
 have hL := rdBLoop c f g up vm n M U hU hf hg hlen u
 cases h : readsP f g U with
 | true =>
  obtain ⟨u', hu⟩ := hL.1 h
  exact ⟨u', fun rest => rd85T c f g up vm n M u u' hu rest⟩
 | false =>
  obtain ⟨u', hu⟩ := hL.2 h
  exact ⟨u', fun rest => rd85F c f g up vm n M u u' hu rest⟩
end
end Go.Avm
namespace Go.Avm
open Go.Proofs Go.Avm.Dom
def wyC (c : CodeR) (f : FunR) (fr up md : AV) : List AV := boxC c ++ cellsF f ++ [fr, up, md]
def wyE (c : CodeR) (f : FunR) (fr up md : AV) (u : Nat) : List (Nat × Ent) := [(442, ⟨1, some (.arr 1 (wyC c f fr up md))⟩), (500323, ⟨u, none⟩)]
def wyL (f : FunR) (i : Nat) : List (Nat × AV) := [(0, ckP), (3, dN f.blocks.length), (25, .d (blksD f.blocks)), (26, dN f.blocks.length), (27, dN i)]
section
variable (c : CodeR) (f : FunR) (fr up md : AV) (u i : Nat) (b : BlkR) (hi : i < f.blocks.length) (hl : f.blocks.length < 4000000) (hx : f.blocks[i]? = some b)
include c f fr up md u i b hi hl hx
theorem wyB_T1 (h_p : (decide (b.fin < 1)) = true) : RW 106 (lO 83 5) (wyL f i) (wyE c f fr up md u) .ret [(2, dB false)] (wyE c f fr up md (u + 1)) := qS { hint := qT 83 [(28, qL hi), (29, hIxM Pg blkD f.blocks i b hx), (33, qB h_p)] } 83 500000
theorem wyB_T2 (h_p : (decide (b.fin < 1)) = false) (h_q : (decide (4 < b.fin)) = true) : RW 106 (lO 83 5) (wyL f i) (wyE c f fr up md u) .ret [(2, dB false)] (wyE c f fr up md (u + 1)) := qS { hint := qT 83 [(28, qL hi), (29, hIxM Pg blkD f.blocks i b hx), (33, qB h_p), (37, qB h_q)] } 83 500000
theorem wyB_T3 (h_p : (decide (b.fin < 1)) = false) (h_q : (decide (4 < b.fin)) = false) (h_r : (b.fin == 2) = true) (h_s : (b.to == b.els) = true) : RW 106 (lO 83 5) (wyL f i) (wyE c f fr up md u) .ret [(2, dB false)] (wyE c f fr up md (u + 1)) := qS { hint := qT 83 [(28, qL hi), (29, hIxM Pg blkD f.blocks i b hx), (33, qB h_p), (37, qB h_q), (42, qB h_r), (48, qB h_s)] } 83 500000
theorem wyB_T (h : ((decide (b.fin < 1)) || ((decide (4 < b.fin)) || ((b.fin == 2) && (b.to == b.els)))) = true) : RW 106 (lO 83 5) (wyL f i) (wyE c f fr up md u) .ret [(2, dB false)] (wyE c f fr up md (u + 1)) := by
 intro rest X hP hN
 cases h_p : (decide (b.fin < 1)) with
 | true =>
  exact wyB_T1 c f fr up md u i b hi hl hx  h_p rest X hP hN
 | false =>
  cases h_q : (decide (4 < b.fin)) with
  | true =>
   exact wyB_T2 c f fr up md u i b hi hl hx  h_p h_q rest X hP hN
  | false =>
   cases h_r : (b.fin == 2) with
   | true =>
    cases h_s : (b.to == b.els) with
    | true =>
     exact wyB_T3 c f fr up md u i b hi hl hx  h_p h_q h_r h_s rest X hP hN
    | false =>
     simp [h_p, h_q, h_r, h_s] at h
   | false =>
    simp [h_p, h_q, h_r] at h
theorem wyB_F1 (h_p : (decide (b.fin < 1)) = false) (h_q : (decide (4 < b.fin)) = false) (h_r : (b.fin == 2) = true) (h_s : (b.to == b.els) = false) : RW 106 (lO 83 5) (wyL f i) (wyE c f fr up md u) .normal (wyL f (i + 1)) (wyE c f fr up md (u + 1)) := qS { hint := qT 83 [(28, qL hi), (29, hIxM Pg blkD f.blocks i b hx), (33, qB h_p), (37, qB h_q), (42, qB h_r), (48, qB h_s), (51, hSucc Pg i (by omega))] } 83 500000
theorem wyB_F2 (h_p : (decide (b.fin < 1)) = false) (h_q : (decide (4 < b.fin)) = false) (h_r : (b.fin == 2) = false) : RW 106 (lO 83 5) (wyL f i) (wyE c f fr up md u) .normal (wyL f (i + 1)) (wyE c f fr up md (u + 1)) := qS { hint := qT 83 [(28, qL hi), (29, hIxM Pg blkD f.blocks i b hx), (33, qB h_p), (37, qB h_q), (42, qB h_r), (51, hSucc Pg i (by omega))] } 83 500000
theorem wyB_F (h : ((decide (b.fin < 1)) || ((decide (4 < b.fin)) || ((b.fin == 2) && (b.to == b.els)))) = false) : RW 106 (lO 83 5) (wyL f i) (wyE c f fr up md u) .normal (wyL f (i + 1)) (wyE c f fr up md (u + 1)) := by
 intro rest X hP hN
 cases h_p : (decide (b.fin < 1)) with
 | true =>
  simp [h_p] at h
 | false =>
  cases h_q : (decide (4 < b.fin)) with
  | true =>
   simp [h_p, h_q] at h
  | false =>
   cases h_r : (b.fin == 2) with
   | true =>
    cases h_s : (b.to == b.els) with
    | true =>
     simp [h_p, h_q, h_r, h_s] at h
    | false =>
     exact wyB_F1 c f fr up md u i b hi hl hx  h_p h_q h_r h_s rest X hP hN
   | false =>
    exact wyB_F2 c f fr up md u i b hi hl hx  h_p h_q h_r rest X hP hN
end
section
variable (c : CodeR) (f : FunR) (fr up md : AV)
include c f fr up md
theorem wyStop (u : Nat) : RW 106 (lO 83 5) (wyL f f.blocks.length) (wyE c f fr up md u) (.exit 0) [(0, ckP), (3, dN f.blocks.length)] (wyE c f fr up md u) := qS { hint := qT 83 [(28, qG f.blocks.length)] } 83 500000
theorem wyLoop (hl : f.blocks.length < 4000000) :
    AllLoop Pg 106 (lO 83 5) (fun (u : Nat) rest => ⟨envOf (wyL f 0), ovl (wyE c f fr up md u) rest⟩) (fun u rest => ⟨envOf [(0, ckP), (3, dN f.blocks.length)], ovl (wyE c f fr up md u) rest⟩) (fun u rest => ⟨envOf [(2, dB false)], ovl (wyE c f fr up md u) rest⟩) (.exit 0) (headsOk f) :=
 lw_list f.blocks (fun b => !(headBad b)) (fun i (u : Nat) rest => ⟨envOf (wyL f i), ovl (wyE c f fr up md u) rest⟩) _ _ (by simp)
  (fun i hi u => by
   have hget := get_of hi
   generalize f.blocks[i] = b at hget
   cases hb : headBad b with
   | true => exact ⟨_, fun rest X hP hN => wyB_T c f fr up md u i b hi hl hget hb rest X hP hN⟩
   | false => exact ⟨_, fun rest X hP hN => wyB_F c f fr up md u i b hi hl hget hb rest X hP hN⟩)
  (fun u => ⟨u, fun rest X hP hN => wyStop c f fr up md u rest X hP hN⟩)
theorem wyN_T1 (u : Nat) (rest : Heap) (h_a : (decide ((f.blocks.length : Int) < 1)) = true)  :
    HCall Pg 83 [ckP] (ovl (wyE c f fr up md u) rest) [dB false] (ovl (wyE c f fr up md u) rest) :=
 qH { hint := qT 83 [(14, hLenM Pg blkD f.blocks), (16, qB h_a)] }
theorem wyN_T2 (u : Nat) (rest : Heap) (h_a : (decide ((f.blocks.length : Int) < 1)) = false) (h_b : (decide ((60000 : Int) < f.blocks.length)) = true)  :
    HCall Pg 83 [ckP] (ovl (wyE c f fr up md u) rest) [dB false] (ovl (wyE c f fr up md u) rest) :=
 qH { hint := qT 83 [(14, hLenM Pg blkD f.blocks), (16, qB h_a), (19, qB h_b)] }
theorem wyN_T (u : Nat) (rest : Heap) (h : ((decide ((f.blocks.length : Int) < 1)) || (decide ((60000 : Int) < f.blocks.length))) = true)  :
    HCall Pg 83 [ckP] (ovl (wyE c f fr up md u) rest) [dB false] (ovl (wyE c f fr up md u) rest) := by
 cases h_a : (decide ((f.blocks.length : Int) < 1)) with
 | true =>
  exact wyN_T1 c f fr up md u rest  h_a
 | false =>
  cases h_b : (decide ((60000 : Int) < f.blocks.length)) with
  | true =>
   exact wyN_T2 c f fr up md u rest  h_a h_b
  | false =>
   simp [h_a, h_b] at h
theorem wyH_F1 (u u' : Nat) (rest : Heap) (hL : RE 106 (.loop (lO 83 5)) (wyL f 0) (wyE c f fr up md u) .ret [(2, dB false)] (wyE c f fr up md u')) (h_a : (decide ((f.blocks.length : Int) < 1)) = false) (h_b : (decide ((60000 : Int) < f.blocks.length)) = false)  :
    HCall Pg 83 [ckP] (ovl (wyE c f fr up md u) rest) [dB false] (ovl (wyE c f fr up md u') rest) :=
 qH { loops := qO 83 5 (qP hL), hint := qT 83 [(14, hLenM Pg blkD f.blocks), (16, qB h_a), (19, qB h_b), (26, hLenM Pg blkD f.blocks)] }
theorem wyH_F (u u' : Nat) (rest : Heap) (hL : RE 106 (.loop (lO 83 5)) (wyL f 0) (wyE c f fr up md u) .ret [(2, dB false)] (wyE c f fr up md u')) (h : ((decide ((f.blocks.length : Int) < 1)) || (decide ((60000 : Int) < f.blocks.length))) = false)  :
    HCall Pg 83 [ckP] (ovl (wyE c f fr up md u) rest) [dB false] (ovl (wyE c f fr up md u') rest) := by
 cases h_a : (decide ((f.blocks.length : Int) < 1)) with
 | true =>
  simp [h_a] at h
 | false =>
  cases h_b : (decide ((60000 : Int) < f.blocks.length)) with
  | true =>
   simp [h_a, h_b] at h
  | false =>
   exact wyH_F1 c f fr up md u u' rest hL  h_a h_b
theorem wyX_F1 (u u' : Nat) (rest : Heap) (hL : RE 106 (.loop (lO 83 5)) (wyL f 0) (wyE c f fr up md u) (.exit 0) [(0, ckP), (3, dN f.blocks.length)] (wyE c f fr up md u')) (gd : D) (h27 : Pure Pg 27 [funD f] [gd]) (h46 : Pure Pg 46 [gd] [.ro [], .int .i64 3]) (h_a : (decide ((f.blocks.length : Int) < 1)) = false) (h_b : (decide ((60000 : Int) < f.blocks.length)) = false)  :
    HCall Pg 83 [ckP] (ovl (wyE c f fr up md u) rest) [dB false] (ovl (wyE c f fr up md u') rest) :=
 qH { loops := qO 83 5 (qP hL), hint := qT 83 [(14, hLenM Pg blkD f.blocks), (16, qB h_a), (19, qB h_b), (26, hLenM Pg blkD f.blocks), (56, .call 27 _ _ h27), (59, .call 46 _ _ h46)] }
theorem wyX_F (u u' : Nat) (rest : Heap) (hL : RE 106 (.loop (lO 83 5)) (wyL f 0) (wyE c f fr up md u) (.exit 0) [(0, ckP), (3, dN f.blocks.length)] (wyE c f fr up md u')) (gd : D) (h27 : Pure Pg 27 [funD f] [gd]) (h46 : Pure Pg 46 [gd] [.ro [], .int .i64 3]) (h : ((decide ((f.blocks.length : Int) < 1)) || (decide ((60000 : Int) < f.blocks.length))) = false)  :
    HCall Pg 83 [ckP] (ovl (wyE c f fr up md u) rest) [dB false] (ovl (wyE c f fr up md u') rest) := by
 cases h_a : (decide ((f.blocks.length : Int) < 1)) with
 | true =>
  simp [h_a] at h
 | false =>
  cases h_b : (decide ((60000 : Int) < f.blocks.length)) with
  | true =>
   simp [h_a, h_b] at h
  | false =>
   exact wyX_F1 c f fr up md u u' rest hL gd h27 h46  h_a h_b
theorem wyO_F1 (u u' : Nat) (rest : Heap) (hL : RE 106 (.loop (lO 83 5)) (wyL f 0) (wyE c f fr up md u) (.exit 0) [(0, ckP), (3, dN f.blocks.length)] (wyE c f fr up md u')) (gd : D) (h27 : Pure Pg 27 [funD f] [gd]) (o : List Nat) (h46 : Pure Pg 46 [gd] [.ro (intsN o), .int .i64 0]) (ho : (!((o.length : Int) == (f.blocks.length : Int))) = true) (h_a : (decide ((f.blocks.length : Int) < 1)) = false) (h_b : (decide ((60000 : Int) < f.blocks.length)) = false)  :
    HCall Pg 83 [ckP] (ovl (wyE c f fr up md u) rest) [dB false] (ovl (wyE c f fr up md u') rest) :=
 qH { loops := qO 83 5 (qP hL), hint := qT 83 [(14, hLenM Pg blkD f.blocks), (16, qB h_a), (19, qB h_b), (26, hLenM Pg blkD f.blocks), (56, .call 27 _ _ h27), (59, .call 46 _ _ h46), (66, .val (dN (intsN o).length) (dN o.length) (by simp [intsN])), (68, qB ho)] }
theorem wyO_F (u u' : Nat) (rest : Heap) (hL : RE 106 (.loop (lO 83 5)) (wyL f 0) (wyE c f fr up md u) (.exit 0) [(0, ckP), (3, dN f.blocks.length)] (wyE c f fr up md u')) (gd : D) (h27 : Pure Pg 27 [funD f] [gd]) (o : List Nat) (h46 : Pure Pg 46 [gd] [.ro (intsN o), .int .i64 0]) (ho : (!((o.length : Int) == (f.blocks.length : Int))) = true) (h : ((decide ((f.blocks.length : Int) < 1)) || (decide ((60000 : Int) < f.blocks.length))) = false)  :
    HCall Pg 83 [ckP] (ovl (wyE c f fr up md u) rest) [dB false] (ovl (wyE c f fr up md u') rest) := by
 cases h_a : (decide ((f.blocks.length : Int) < 1)) with
 | true =>
  simp [h_a] at h
 | false =>
  cases h_b : (decide ((60000 : Int) < f.blocks.length)) with
  | true =>
   simp [h_a, h_b] at h
  | false =>
   exact wyO_F1 c f fr up md u u' rest hL gd h27 o h46 ho  h_a h_b
theorem wyG_true_F1 (u u' : Nat) (rest : Heap) (hL : RE 106 (.loop (lO 83 5)) (wyL f 0) (wyE c f fr up md u) (.exit 0) [(0, ckP), (3, dN f.blocks.length)] (wyE c f fr up md u')) (g : Graph) (h27 : Pure Pg 27 [funD f] [rowsN g]) (o : List Nat) (h46 : Pure Pg 46 [rowsN g] [.ro (intsN o), .int .i64 0]) (ho : (!((o.length : Int) == (f.blocks.length : Int))) = false) (h47 : Pure Pg 47 [rowsN g] [fromD g, .int .i64 0]) (ul : List Int) (h42 : Pure Pg 42 [rowsN g] [rowD ul, .int .i64 0]) (row : List Nat) (hrow : (intoOf g)[0]? = some row) (b0 : BlkR) (hb0 : f.blocks[0]? = some b0) (h_a : (decide ((f.blocks.length : Int) < 1)) = false) (h_b : (decide ((60000 : Int) < f.blocks.length)) = false) (h_p : ((row.length : Int) == 0) = true) (h_q : ((b0.phis.length : Int) == 0) = true)  :
    HCall Pg 83 [ckP] (ovl (wyE c f fr up md u) rest) [dB true] (ovl (wyE c f (.d (fromD g)) (.d (rowD ul)) md u') rest) :=
 qH { loops := qO 83 5 (qP hL), hint := qT 83 [(14, hLenM Pg blkD f.blocks), (16, qB h_a), (19, qB h_b), (26, hLenM Pg blkD f.blocks), (56, .call 27 _ _ h27), (59, .call 46 _ _ h46), (66, .val (dN (intsN o).length) (dN o.length) (by simp [intsN])), (68, qB ho), (73, .call 47 _ _ h47), (81, .call 42 _ _ h42), (90, hIxM Pg rowN (intoOf g) 0 row hrow), (92, hLenN Pg row), (93, qB h_p), (100, hIxM Pg blkD f.blocks 0 b0 hb0), (103, hLenM Pg instD b0.phis), (104, qB h_q)] }
theorem wyG_true_F (u u' : Nat) (rest : Heap) (hL : RE 106 (.loop (lO 83 5)) (wyL f 0) (wyE c f fr up md u) (.exit 0) [(0, ckP), (3, dN f.blocks.length)] (wyE c f fr up md u')) (g : Graph) (h27 : Pure Pg 27 [funD f] [rowsN g]) (o : List Nat) (h46 : Pure Pg 46 [rowsN g] [.ro (intsN o), .int .i64 0]) (ho : (!((o.length : Int) == (f.blocks.length : Int))) = false) (h47 : Pure Pg 47 [rowsN g] [fromD g, .int .i64 0]) (ul : List Int) (h42 : Pure Pg 42 [rowsN g] [rowD ul, .int .i64 0]) (row : List Nat) (hrow : (intoOf g)[0]? = some row) (b0 : BlkR) (hb0 : f.blocks[0]? = some b0) (h : ((decide ((f.blocks.length : Int) < 1)) || ((decide ((60000 : Int) < f.blocks.length)) || (!(((row.length : Int) == 0) && ((b0.phis.length : Int) == 0))))) = false)  :
    HCall Pg 83 [ckP] (ovl (wyE c f fr up md u) rest) [dB true] (ovl (wyE c f (.d (fromD g)) (.d (rowD ul)) md u') rest) := by
 cases h_a : (decide ((f.blocks.length : Int) < 1)) with
 | true =>
  simp [h_a] at h
 | false =>
  cases h_b : (decide ((60000 : Int) < f.blocks.length)) with
  | true =>
   simp [h_a, h_b] at h
  | false =>
   cases h_p : ((row.length : Int) == 0) with
   | true =>
    cases h_q : ((b0.phis.length : Int) == 0) with
    | true =>
     exact wyG_true_F1 c f fr up md u u' rest hL g h27 o h46 ho h47 ul h42 row hrow b0 hb0  h_a h_b h_p h_q
    | false =>
     simp [h_a, h_b, h_p, h_q] at h
   | false =>
    simp [h_a, h_b, h_p] at h
theorem wyG_false_F1 (u u' : Nat) (rest : Heap) (hL : RE 106 (.loop (lO 83 5)) (wyL f 0) (wyE c f fr up md u) (.exit 0) [(0, ckP), (3, dN f.blocks.length)] (wyE c f fr up md u')) (g : Graph) (h27 : Pure Pg 27 [funD f] [rowsN g]) (o : List Nat) (h46 : Pure Pg 46 [rowsN g] [.ro (intsN o), .int .i64 0]) (ho : (!((o.length : Int) == (f.blocks.length : Int))) = false) (h47 : Pure Pg 47 [rowsN g] [fromD g, .int .i64 0]) (ul : List Int) (h42 : Pure Pg 42 [rowsN g] [rowD ul, .int .i64 0]) (row : List Nat) (hrow : (intoOf g)[0]? = some row) (b0 : BlkR) (hb0 : f.blocks[0]? = some b0) (h_a : (decide ((f.blocks.length : Int) < 1)) = false) (h_b : (decide ((60000 : Int) < f.blocks.length)) = false) (h_p : ((row.length : Int) == 0) = true) (h_q : ((b0.phis.length : Int) == 0) = false)  :
    HCall Pg 83 [ckP] (ovl (wyE c f fr up md u) rest) [dB false] (ovl (wyE c f (.d (fromD g)) (.d (rowD ul)) md u') rest) :=
 qH { loops := qO 83 5 (qP hL), hint := qT 83 [(14, hLenM Pg blkD f.blocks), (16, qB h_a), (19, qB h_b), (26, hLenM Pg blkD f.blocks), (56, .call 27 _ _ h27), (59, .call 46 _ _ h46), (66, .val (dN (intsN o).length) (dN o.length) (by simp [intsN])), (68, qB ho), (73, .call 47 _ _ h47), (81, .call 42 _ _ h42), (90, hIxM Pg rowN (intoOf g) 0 row hrow), (92, hLenN Pg row), (93, qB h_p), (100, hIxM Pg blkD f.blocks 0 b0 hb0), (103, hLenM Pg instD b0.phis), (104, qB h_q)] }
theorem wyG_false_F2 (u u' : Nat) (rest : Heap) (hL : RE 106 (.loop (lO 83 5)) (wyL f 0) (wyE c f fr up md u) (.exit 0) [(0, ckP), (3, dN f.blocks.length)] (wyE c f fr up md u')) (g : Graph) (h27 : Pure Pg 27 [funD f] [rowsN g]) (o : List Nat) (h46 : Pure Pg 46 [rowsN g] [.ro (intsN o), .int .i64 0]) (ho : (!((o.length : Int) == (f.blocks.length : Int))) = false) (h47 : Pure Pg 47 [rowsN g] [fromD g, .int .i64 0]) (ul : List Int) (h42 : Pure Pg 42 [rowsN g] [rowD ul, .int .i64 0]) (row : List Nat) (hrow : (intoOf g)[0]? = some row) (b0 : BlkR) (hb0 : f.blocks[0]? = some b0) (h_a : (decide ((f.blocks.length : Int) < 1)) = false) (h_b : (decide ((60000 : Int) < f.blocks.length)) = false) (h_p : ((row.length : Int) == 0) = false)  :
    HCall Pg 83 [ckP] (ovl (wyE c f fr up md u) rest) [dB false] (ovl (wyE c f (.d (fromD g)) (.d (rowD ul)) md u') rest) :=
 qH { loops := qO 83 5 (qP hL), hint := qT 83 [(14, hLenM Pg blkD f.blocks), (16, qB h_a), (19, qB h_b), (26, hLenM Pg blkD f.blocks), (56, .call 27 _ _ h27), (59, .call 46 _ _ h46), (66, .val (dN (intsN o).length) (dN o.length) (by simp [intsN])), (68, qB ho), (73, .call 47 _ _ h47), (81, .call 42 _ _ h42), (90, hIxM Pg rowN (intoOf g) 0 row hrow), (92, hLenN Pg row), (93, qB h_p)] }
theorem wyG_false_F (u u' : Nat) (rest : Heap) (hL : RE 106 (.loop (lO 83 5)) (wyL f 0) (wyE c f fr up md u) (.exit 0) [(0, ckP), (3, dN f.blocks.length)] (wyE c f fr up md u')) (g : Graph) (h27 : Pure Pg 27 [funD f] [rowsN g]) (o : List Nat) (h46 : Pure Pg 46 [rowsN g] [.ro (intsN o), .int .i64 0]) (ho : (!((o.length : Int) == (f.blocks.length : Int))) = false) (h47 : Pure Pg 47 [rowsN g] [fromD g, .int .i64 0]) (ul : List Int) (h42 : Pure Pg 42 [rowsN g] [rowD ul, .int .i64 0]) (row : List Nat) (hrow : (intoOf g)[0]? = some row) (b0 : BlkR) (hb0 : f.blocks[0]? = some b0) (h : (((decide ((f.blocks.length : Int) < 1)) || (decide ((60000 : Int) < f.blocks.length))) || (((row.length : Int) == 0) && ((b0.phis.length : Int) == 0))) = false)  :
    HCall Pg 83 [ckP] (ovl (wyE c f fr up md u) rest) [dB false] (ovl (wyE c f (.d (fromD g)) (.d (rowD ul)) md u') rest) := by
 cases h_a : (decide ((f.blocks.length : Int) < 1)) with
 | true =>
  simp [h_a] at h
 | false =>
  cases h_b : (decide ((60000 : Int) < f.blocks.length)) with
  | true =>
   simp [h_a, h_b] at h
  | false =>
   cases h_p : ((row.length : Int) == 0) with
   | true =>
    cases h_q : ((b0.phis.length : Int) == 0) with
    | true =>
     simp [h_a, h_b, h_p, h_q] at h
    | false =>
     exact wyG_false_F1 c f fr up md u u' rest hL g h27 o h46 ho h47 ul h42 row hrow b0 hb0  h_a h_b h_p h_q
   | false =>
    exact wyG_false_F2 c f fr up md u u' rest hL g h27 o h46 ho h47 ul h42 row hrow b0 hb0  h_a h_b h_p
end
end Go.Avm
namespace Go.Avm
open Go.Proofs Go.Avm.Dom
def mixM (n i : Nat) : Ms := List.replicate i (-1, 0) ++ List.replicate (n - i) (0, 0)
def fnL (n i : Nat) : List (Nat × AV) := [(5, ckP), (54, dN n), (55, dN i)]
def fnE (c : CodeR) (f : FunR) (from_ up : D) (n i : Nat) : List (Nat × Ent) := ckHn c f from_ up 1 n (mixM n i)
theorem mix_get {n i : Nat} (hi : i < n) : (madeA (mixM n i))[0 + i]? = some (.d (spotD (0, 0))) := by
 have : (mixM n i)[i]? = some (0, 0) := by
  unfold mixM
  rw [List.getElem?_append_right (by simp), List.length_replicate, Nat.sub_self, List.getElem?_replicate, if_pos (by omega)]
 simp [madeA, this]
theorem mix_set {n i : Nat} (hi : i < n) : (madeA (mixM n i)).set (0 + i) (.d (spotD (-1, 0))) = madeA (mixM n (i + 1)) := by
 rw [madeA_set]
 congr 1
 unfold mixM
 rw [List.set_append_right _ _ (by simp), List.length_replicate, Nat.sub_self]
 obtain ⟨m, hm⟩ : ∃ m, n - i = m + 1 := ⟨n - i - 1, by omega⟩
 rw [hm, List.replicate_succ, List.set_cons_zero, List.replicate_succ', show n - (i + 1) = m by omega]
 simp
theorem mix_zero (n : Nat) : mixM n 0 = List.replicate n (0, 0) := by simp [mixM]
theorem mix_full (n : Nat) : mixM n n = List.replicate n (-1, 0) := by simp [mixM]
section
variable (c : CodeR) (f : FunR) (from_ up : D) (n i : Nat)
theorem fnRound (hi : i < n) (hn : n < 4000000) : RW 72 (lO 57 6) (fnL n i) (fnE c f from_ up n i) .normal (fnL n (i + 1)) (fnE c f from_ up n (i + 1)) := by
 intro rest X hP hN
 unfold fnE ckHn
 rw [← mix_set hi]
 exact seg okP named { hint := qT 57 [(56, qL hi), (63, hInb Pg i n hi), (108007, .elt (madeA (mixM n i)) (0 + i) (.d (spotD (0, 0))) (mix_get hi)), (65, hSucc Pg i (by omega))] } 2000 57 500000 72 (by kernel_rfl) X hP hN
theorem fnStop : RW 72 (lO 57 6) (fnL n n) (fnE c f from_ up n n) (.exit 0) [(5, ckP)] (fnE c f from_ up n n) := qS { hint := qT 57 [(56, qG n)] } 57 500000
def fnZ (c : CodeR) (f : FunR) (from_ up : D) (n : Nat) : List (Nat × Ent) := [(442, ⟨1, some (.arr 1 (ckCells c f from_ up n 1))⟩), (3143, ⟨1, some (.arr 2 (List.replicate n (.d (spotD (0, 0)))))⟩)]
theorem fnLoop (hn : n < 4000000) : RE 72 (.loop (lO 57 6)) (fnL n 0) (fnZ c f from_ up n) (.exit 0) [(5, ckP)] (ckHn c f from_ up 1 n (List.replicate n (-1, 0))) := by
 intro rest X hP hN
 have h := (lw_count n (fun i => ⟨envOf (fnL n i), ovl (fnE c f from_ up n i) rest⟩) (by simp) (fun i hi => fnRound c f from_ up n i hi hn rest X hP hN) (fnStop c f from_ up n rest X hP hN)).aw
 unfold fnE at h
 rw [mix_zero, mix_full] at h
 have e : ckHn c f from_ up 1 n (List.replicate n (0, 0)) = fnZ c f from_ up n := by
  unfold ckHn fnZ madeA
  rw [List.map_replicate]
 rw [e] at h
 exact h
end
section
variable (c : CodeR) (f : FunR)
include c f
theorem fn1_T1 (h_a : (decide (f.params < 0)) = true)  :
    Pure Pg 57 [codeD c, funD f] [.bool false] :=
 qU { hint := qT 57 [(13, qB h_a)] }
theorem fn1_T2 (h_a : (decide (f.params < 0)) = false) (h_b : (decide (6 < f.params)) = true)  :
    Pure Pg 57 [codeD c, funD f] [.bool false] :=
 qU { hint := qT 57 [(13, qB h_a), (17, qB h_b)] }
theorem fn1_T3 (h_a : (decide (f.params < 0)) = false) (h_b : (decide (6 < f.params)) = false) (h_d : (decide (f.vars < 0)) = true)  :
    Pure Pg 57 [codeD c, funD f] [.bool false] :=
 qU { hint := qT 57 [(13, qB h_a), (17, qB h_b), (22, qB h_d)] }
theorem fn1_T4 (h_a : (decide (f.params < 0)) = false) (h_b : (decide (6 < f.params)) = false) (h_d : (decide (f.vars < 0)) = false) (h_e : (decide (255 < f.vars)) = true)  :
    Pure Pg 57 [codeD c, funD f] [.bool false] :=
 qU { hint := qT 57 [(13, qB h_a), (17, qB h_b), (22, qB h_d), (27, qB h_e)] }
theorem fn1_T5 (h_a : (decide (f.params < 0)) = false) (h_b : (decide (6 < f.params)) = false) (h_d : (decide (f.vars < 0)) = false) (h_e : (decide (255 < f.vars)) = false) (h_v : (decide (f.vals < 0)) = true)  :
    Pure Pg 57 [codeD c, funD f] [.bool false] :=
 qU { hint := qT 57 [(13, qB h_a), (17, qB h_b), (22, qB h_d), (27, qB h_e), (32, qB h_v)] }
theorem fn1_T6 (h_a : (decide (f.params < 0)) = false) (h_b : (decide (6 < f.params)) = false) (h_d : (decide (f.vars < 0)) = false) (h_e : (decide (255 < f.vars)) = false) (h_v : (decide (f.vals < 0)) = false) (h_w : (decide (60000 < f.vals)) = true)  :
    Pure Pg 57 [codeD c, funD f] [.bool false] :=
 qU { hint := qT 57 [(13, qB h_a), (17, qB h_b), (22, qB h_d), (27, qB h_e), (32, qB h_v), (37, qB h_w)] }
theorem fn1_T (h : ((decide (f.params < 0)) || ((decide (6 < f.params)) || ((decide (f.vars < 0)) || ((decide (255 < f.vars)) || ((decide (f.vals < 0)) || (decide (60000 < f.vals))))))) = true)  :
    Pure Pg 57 [codeD c, funD f] [.bool false] := by
 cases h_a : (decide (f.params < 0)) with
 | true =>
  exact fn1_T1 c f  h_a
 | false =>
  cases h_b : (decide (6 < f.params)) with
  | true =>
   exact fn1_T2 c f  h_a h_b
  | false =>
   cases h_d : (decide (f.vars < 0)) with
   | true =>
    exact fn1_T3 c f  h_a h_b h_d
   | false =>
    cases h_e : (decide (255 < f.vars)) with
    | true =>
     exact fn1_T4 c f  h_a h_b h_d h_e
    | false =>
     cases h_v : (decide (f.vals < 0)) with
     | true =>
      exact fn1_T5 c f  h_a h_b h_d h_e h_v
     | false =>
      cases h_w : (decide (60000 < f.vals)) with
      | true =>
       exact fn1_T6 c f  h_a h_b h_d h_e h_v h_w
      | false =>
       simp [h_a, h_b, h_d, h_e, h_v, h_w] at h
theorem fn2_F1 (fr up : AV) (u : Nat) (h83 : ∀ rest : Heap, HCall Pg 83 [ckP] (ovl (wyE c f .nils .nils .nils 0) rest) [dB false] (ovl (wyE c f fr up .nils u) rest)) (h_a : (decide (f.params < 0)) = false) (h_b : (decide (6 < f.params)) = false) (h_d : (decide (f.vars < 0)) = false) (h_e : (decide (255 < f.vars)) = false) (h_v : (decide (f.vals < 0)) = false) (h_w : (decide (60000 < f.vals)) = false)  :
    Pure Pg 57 [codeD c, funD f] [.bool false] :=
 qU { calls := qC 57 41 83 (fits_of h83), hint := qT 57 [(13, qB h_a), (17, qB h_b), (22, qB h_d), (27, qB h_e), (32, qB h_v), (37, qB h_w)] }
theorem fn2_F (fr up : AV) (u : Nat) (h83 : ∀ rest : Heap, HCall Pg 83 [ckP] (ovl (wyE c f .nils .nils .nils 0) rest) [dB false] (ovl (wyE c f fr up .nils u) rest)) (h : ((decide (f.params < 0)) || ((decide (6 < f.params)) || ((decide (f.vars < 0)) || ((decide (255 < f.vars)) || ((decide (f.vals < 0)) || (decide (60000 < f.vals))))))) = false)  :
    Pure Pg 57 [codeD c, funD f] [.bool false] := by
 cases h_a : (decide (f.params < 0)) with
 | true =>
  simp [h_a] at h
 | false =>
  cases h_b : (decide (6 < f.params)) with
  | true =>
   simp [h_a, h_b] at h
  | false =>
   cases h_d : (decide (f.vars < 0)) with
   | true =>
    simp [h_a, h_b, h_d] at h
   | false =>
    cases h_e : (decide (255 < f.vars)) with
    | true =>
     simp [h_a, h_b, h_d, h_e] at h
    | false =>
     cases h_v : (decide (f.vals < 0)) with
     | true =>
      simp [h_a, h_b, h_d, h_e, h_v] at h
     | false =>
      cases h_w : (decide (60000 < f.vals)) with
      | true =>
       simp [h_a, h_b, h_d, h_e, h_v, h_w] at h
      | false =>
       exact fn2_F1 c f fr up u h83  h_a h_b h_d h_e h_v h_w
theorem fn3_F1 (g : Graph) (up : D) (u : Nat) (hn2 : f.vals.toNat < 4000000) (h83 : ∀ rest : Heap, HCall Pg 83 [ckP] (ovl (wyE c f .nils .nils .nils 0) rest) [dB true] (ovl (wyE c f (.d (fromD g)) (.d up) .nils u) rest)) (M' : Ms) (w' : Nat → Nat) (h84 : ∀ rest : Heap, HCall Pg 84 [ckP] (ovl (mkBE c f (fromD g) up 1 f.vals.toNat (List.replicate f.vals.toNat (-1, 0)) fun _ => 0) rest) [dB false] (ovl (mkBE c f (fromD g) up 1 f.vals.toNat M' w') rest)) (h_a : (decide (f.params < 0)) = false) (h_b : (decide (6 < f.params)) = false) (h_d : (decide (f.vars < 0)) = false) (h_e : (decide (255 < f.vars)) = false) (h_v : (decide (f.vals < 0)) = false) (h_w : (decide (60000 < f.vals)) = false)  :
    Pure Pg 57 [codeD c, funD f] [.bool false] :=
 qU { calls := fun f' s _ => if f' = 57 then (if s = 41 then some ⟨83, _, _, _, _, fits_of h83⟩ else if s = 67 then some ⟨84, _, _, _, _, fits_of h84⟩ else none) else none, loops := fun f' q => if f' = 57 then (if q = 6 then qP (fnLoop c f (fromD g) up f.vals.toNat hn2) else none) else none, hint := qT 57 [(13, qB h_a), (17, qB h_b), (22, qB h_d), (27, qB h_e), (32, qB h_v), (37, qB h_w), (47, .mk f.vals (by simp at h_v; omega) (by simp at h_v; omega))] }
theorem fn3_F (g : Graph) (up : D) (u : Nat) (hn2 : f.vals.toNat < 4000000) (h83 : ∀ rest : Heap, HCall Pg 83 [ckP] (ovl (wyE c f .nils .nils .nils 0) rest) [dB true] (ovl (wyE c f (.d (fromD g)) (.d up) .nils u) rest)) (M' : Ms) (w' : Nat → Nat) (h84 : ∀ rest : Heap, HCall Pg 84 [ckP] (ovl (mkBE c f (fromD g) up 1 f.vals.toNat (List.replicate f.vals.toNat (-1, 0)) fun _ => 0) rest) [dB false] (ovl (mkBE c f (fromD g) up 1 f.vals.toNat M' w') rest)) (h : ((decide (f.params < 0)) || ((decide (6 < f.params)) || ((decide (f.vars < 0)) || ((decide (255 < f.vars)) || ((decide (f.vals < 0)) || (decide (60000 < f.vals))))))) = false)  :
    Pure Pg 57 [codeD c, funD f] [.bool false] := by
 cases h_a : (decide (f.params < 0)) with
 | true =>
  simp [h_a] at h
 | false =>
  cases h_b : (decide (6 < f.params)) with
  | true =>
   simp [h_a, h_b] at h
  | false =>
   cases h_d : (decide (f.vars < 0)) with
   | true =>
    simp [h_a, h_b, h_d] at h
   | false =>
    cases h_e : (decide (255 < f.vars)) with
    | true =>
     simp [h_a, h_b, h_d, h_e] at h
    | false =>
     cases h_v : (decide (f.vals < 0)) with
     | true =>
      simp [h_a, h_b, h_d, h_e, h_v] at h
     | false =>
      cases h_w : (decide (60000 < f.vals)) with
      | true =>
       simp [h_a, h_b, h_d, h_e, h_v, h_w] at h
      | false =>
       exact fn3_F1 c f g up u hn2 h83 M' w' h84  h_a h_b h_d h_e h_v h_w
theorem fn4_F1 (g : Graph) (up : D) (u : Nat) (hn2 : f.vals.toNat < 4000000) (h83 : ∀ rest : Heap, HCall Pg 83 [ckP] (ovl (wyE c f .nils .nils .nils 0) rest) [dB true] (ovl (wyE c f (.d (fromD g)) (.d up) .nils u) rest)) (M' : Ms) (w' : Nat → Nat) (h84 : ∀ rest : Heap, HCall Pg 84 [ckP] (ovl (mkBE c f (fromD g) up 1 f.vals.toNat (List.replicate f.vals.toNat (-1, 0)) fun _ => 0) rest) [dB true] (ovl (mkBE c f (fromD g) up 1 f.vals.toNat M' w') rest)) (t : Bool) (u' : Nat → Nat) (h85 : ∀ rest : Heap, HCall Pg 85 [ckP] (ovl (rdOE c f g up 1 f.vals.toNat M' (vL [w' 0, 0, 0, 0, 0, 0, 0])) rest) [dB t] (ovl (rdOE c f g up 1 f.vals.toNat M' u') rest)) (h_a : (decide (f.params < 0)) = false) (h_b : (decide (6 < f.params)) = false) (h_d : (decide (f.vars < 0)) = false) (h_e : (decide (255 < f.vars)) = false) (h_v : (decide (f.vals < 0)) = false) (h_w : (decide (60000 < f.vals)) = false)  :
    Pure Pg 57 [codeD c, funD f] [.bool t] :=
 qU { calls := fun f' s _ => if f' = 57 then (if s = 41 then some ⟨83, _, _, _, _, fits_of h83⟩ else if s = 67 then some ⟨84, _, _, _, _, fits_of h84⟩ else if s = 70 then some ⟨85, _, _, _, _, fits_of h85⟩ else none) else none, loops := fun f' q => if f' = 57 then (if q = 6 then qP (fnLoop c f (fromD g) up f.vals.toNat hn2) else none) else none, hint := qT 57 [(13, qB h_a), (17, qB h_b), (22, qB h_d), (27, qB h_e), (32, qB h_v), (37, qB h_w), (47, .mk f.vals (by simp at h_v; omega) (by simp at h_v; omega))] }
theorem fn4_F (g : Graph) (up : D) (u : Nat) (hn2 : f.vals.toNat < 4000000) (h83 : ∀ rest : Heap, HCall Pg 83 [ckP] (ovl (wyE c f .nils .nils .nils 0) rest) [dB true] (ovl (wyE c f (.d (fromD g)) (.d up) .nils u) rest)) (M' : Ms) (w' : Nat → Nat) (h84 : ∀ rest : Heap, HCall Pg 84 [ckP] (ovl (mkBE c f (fromD g) up 1 f.vals.toNat (List.replicate f.vals.toNat (-1, 0)) fun _ => 0) rest) [dB true] (ovl (mkBE c f (fromD g) up 1 f.vals.toNat M' w') rest)) (t : Bool) (u' : Nat → Nat) (h85 : ∀ rest : Heap, HCall Pg 85 [ckP] (ovl (rdOE c f g up 1 f.vals.toNat M' (vL [w' 0, 0, 0, 0, 0, 0, 0])) rest) [dB t] (ovl (rdOE c f g up 1 f.vals.toNat M' u') rest)) (h : ((decide (f.params < 0)) || ((decide (6 < f.params)) || ((decide (f.vars < 0)) || ((decide (255 < f.vars)) || ((decide (f.vals < 0)) || (decide (60000 < f.vals))))))) = false)  :
    Pure Pg 57 [codeD c, funD f] [.bool t] := by
 cases h_a : (decide (f.params < 0)) with
 | true =>
  simp [h_a] at h
 | false =>
  cases h_b : (decide (6 < f.params)) with
  | true =>
   simp [h_a, h_b] at h
  | false =>
   cases h_d : (decide (f.vars < 0)) with
   | true =>
    simp [h_a, h_b, h_d] at h
   | false =>
    cases h_e : (decide (255 < f.vars)) with
    | true =>
     simp [h_a, h_b, h_d, h_e] at h
    | false =>
     cases h_v : (decide (f.vals < 0)) with
     | true =>
      simp [h_a, h_b, h_d, h_e, h_v] at h
     | false =>
      cases h_w : (decide (60000 < f.vals)) with
      | true =>
       simp [h_a, h_b, h_d, h_e, h_v, h_w] at h
      | false =>
       exact fn4_F1 c f g up u hn2 h83 M' w' h84 t u' h85  h_a h_b h_d h_e h_v h_w
end
end Go.Avm
namespace Go.Avm
open Go.Proofs Go.Avm.Dom
theorem reach_all {g : Graph} (h0 : 0 < g.length) : (reachL g 0 none).all id = true ↔ ∀ b, b < g.length → Reached g b := by
 rw [List.all_eq_true]
 constructor
 ·intro h b hb
  have h1 := reachL_get (g := g) (n := 0) (but := none) hb
  have h2 := h _ (List.mem_of_getElem? h1)
  exact ((reachL_met hb).1 h2).2
 ·intro h x hx
  obtain ⟨b, hb, rfl⟩ := List.mem_iff_getElem.1 hx
  rw [reachL_len] at hb
  have h1 := reachL_get (g := g) (n := 0) (but := none) hb
  have h2 := (reachL_met (g := g) (n := 0) (but := none) hb).2 ⟨h0, h b hb⟩
  rw [get_of (by rw [reachL_len]; exact hb)] at h1
  rw [Option.some.inj h1, h2]
  rfl
theorem order_len {g : Graph} (hg : Valid g) (h0 : 0 < g.length) : (orderOf g).length = g.length ↔ ∀ b, b < g.length → Reached g b := by
 have hlt : ∀ b ∈ orderOf g, b < g.length := fun b hb => Re.lt hg ((order_mem hg b).1 hb).2 h0
 constructor
 ·intro hl b hb
  refine Classical.byContradiction fun hn => ?_
  have hs : orderOf g ⊆ (List.range g.length).erase b := fun x hx => by
   have hne : x ≠ b := fun e => hn (by subst e; exact ((order_mem hg x).1 hx).2)
   exact (List.mem_erase_of_ne hne).2 (List.mem_range.2 (hlt x hx))
  have h1 := List.Nodup.length_le_of_subset (order_nodup hg) hs
  rw [List.length_erase_of_mem (List.mem_range.2 hb), List.length_range] at h1
  omega
 ·intro h
  have h1 := List.Nodup.length_le_of_subset (order_nodup hg) (fun x hx => List.mem_range.2 (hlt x hx))
  have h2 := List.Nodup.length_le_of_subset (List.nodup_range (n := g.length)) (fun x hx => (order_mem hg x).2 ⟨h0, h x (List.mem_range.1 hx)⟩)
  rw [List.length_range] at h1 h2
  omega
open Classical in
theorem over_dom {g : Graph} (hg : Valid g) (h0 : 0 < g.length) (hgl : g.length < 100000) {V : Nat → Nat} (hV : Fixed g V) (hall : ∀ b, b < g.length → Reached g b) {a b : Nat} (ha : a < g.length) (hb : b < g.length) :
    Pure Pg 45 [rowD (outL2 g (allO V)), .int .i64 (a : Int), .int .i64 (b : Int)] [.bool (domAt g (a : Int) (b : Int))] := by
 have e : domAt g (a : Int) (b : Int) = domB g a b := by
  unfold domAt domsL
  rw [Int.toNat_natCast, Int.toNat_natCast, List.getD_eq_getElem?_getD, List.getElem?_map, List.getElem?_range hb]
  rfl
 rw [e]
 obtain ⟨i, hi, rfl⟩ := nodeAt_ex hg h0 (hall a ha)
 obtain ⟨j, hj, rfl⟩ := nodeAt_ex hg h0 (hall b hb)
 have hov := overC hg hV.good hgl (reachN_le hg h0) hi hj
 have hiff := anc_doms hg hV hi hj
 by_cases hd : Doms g (nodeAt g i) (nodeAt g j)
 ·rw [domB_true hd]
  rw [decide_eq_true (hiff.2 hd)] at hov
  exact hov
 ·rw [domB_false hd]
  rw [decide_eq_false (fun h => hd (hiff.1 h))] at hov
  exact hov
theorem lastD_mem {α : Type} : ∀ (l : List α) (d : α), l ≠ [] → l.getLastD d ∈ l
 | [], _, h => absurd rfl h
 | [a], _, _ => by simp
 | a :: b :: l, d, _ => by
  rw [List.getLastD_cons]
  exact List.mem_cons_of_mem _ (lastD_mem (b :: l) a (by simp))
theorem made_at (f : FunR) {M : Ms} (hM : mkAll f (defs f) (made0 f) = some M) : ∀ p ∈ M, 0 ≤ p.1 → ∃ a : Nat, p.1 = (a : Int) ∧ a < f.blocks.length := by
 obtain ⟨h1, h2⟩ := mkAll_val f _ _ _ (by simp [made0]) hM
 intro p hp h0
 obtain ⟨v, hv, rfl⟩ := List.mem_iff_getElem.1 hp
 have hl : M.length = f.vals.toNat := by rw [h1]; simp [made0]
 have h3 := h2 (v : Int) (valB_iff.2 ⟨by omega, by omega⟩)
 rw [Int.toNat_natCast, List.getD_eq_getElem?_getD, get_of hv, made0_get] at h3
 simp only [Option.getD_some] at h3
 rw [h3] at h0 ⊢
 cases hh : ofV (v : Int) (defs f) with
 | nil =>
  rw [hh] at h0
  simp at h0
 | cons s r =>
  have hm : (ofV (v : Int) (defs f)).getLastD (-1, 0) ∈ ofV (v : Int) (defs f) := lastD_mem _ _ (by rw [hh]; simp)
  obtain ⟨a, ha, _, hb⟩ := defBs_pos _ _ _ (ofV_mem.1 hm)
  rw [hh] at ha
  exact ⟨a, ha, by omega⟩
theorem numA_bad (f : FunR) : numBad f = (((decide (f.params < 0)) || ((decide (6 < f.params)) || ((decide (f.vars < 0)) || ((decide (255 < f.vars)) || ((decide (f.vals < 0)) || (decide (60000 < f.vals))))))) || ((decide ((f.blocks.length : Int) < 1)) || (decide ((60000 : Int) < f.blocks.length)))) := by
 unfold numBad
 simp only [Bool.or_assoc]
theorem usesC (c : CodeR) (f : FunR) (g : Graph) (ul : List Int) {M : Ms} (hM : mkAll f (defs f) (made0 f) = some M) (hov : ∀ a b : Nat, a < f.blocks.length → b < f.blocks.length → Pure Pg 45 [rowD ul, .int .i64 (a : Int), .int .i64 (b : Int)] [.bool (domAt g (a : Int) (b : Int))]) :
    UseC c f g (rowD ul) 1 f.vals.toNat M (usesP f M (domAt g)) := by
 have hl : M.length = f.vals.toNat := by rw [(mkAll_val f _ _ _ (by simp [made0]) hM).1]; simp [made0]
 intro v a j k0 k1 ha
 obtain ⟨u', w', h⟩ := ckUses c f (fromD g) (rowD ul) 1 M (domAt g) v ((a : Int), j) k0 k1 hl (fun p hp h0 _ => by
  obtain ⟨b, hb, hbl⟩ := made_at f hM p hp h0
  rw [hb]
  exact hov b a hbl ha)
 refine ⟨u', w', fun rest => ?_⟩
 have h := h rest
 unfold usH at h
 rw [ckH_n c f (fromD g) (rowD ul) 1 hl] at h
 exact h
theorem fun57 (c : CodeR) (f : FunR) (hf : fineF f) (hw : wfF f) : Pure Pg 57 [codeD c, funD f] [.bool (funR c f)] := by
 have hnb := numA_bad f
 unfold funR
 cases ha : ((decide (f.params < 0)) || ((decide (6 < f.params)) || ((decide (f.vars < 0)) || ((decide (255 < f.vars)) || ((decide (f.vals < 0)) || (decide (60000 < f.vals))))))) with
 | true =>
  rw [hnb, ha]
  exact fn1_T c f ha
 | false =>
  rw [hnb, ha, Bool.false_or]
  cases hn : ((decide ((f.blocks.length : Int) < 1)) || (decide ((60000 : Int) < f.blocks.length))) with
  | true => exact fn2_F c f _ _ _ (fun rest => wyN_T c f .nils .nils .nils 0 rest hn) ha
  | false =>
   have hb : 0 < f.blocks.length ∧ f.blocks.length ≤ 60000 := by
    simp only [Bool.or_eq_false_iff, decide_eq_false_iff_not] at hn
    omega
   have hL := wyLoop c f .nils .nils .nils hf.1 0
   cases hh : headsOk f with
   | false =>
    obtain ⟨u', hu⟩ := hL.2 hh
    exact fn2_F c f _ _ _ (fun rest => wyH_F c f .nils .nils .nils 0 u' rest hu hn) ha
   | true =>
    obtain ⟨u', hu⟩ := hL.1 hh
    have h27 := graph27 f hf.1
    have h73 := check73 (g := graphOf f) (by simp [graphOf]; omega) (fun r hr => by
     obtain ⟨b, _, rfl⟩ := List.mem_map.1 hr
     have := succB_len b
     omega)
    cases hk : okG (graphOf f) with
    | false =>
     rw [hk] at h73
     exact fn2_F c f _ _ _ (fun rest => wyX_F c f .nils .nils .nils 0 u' rest hu _ h27 (order46Bad h73) hn) ha
    | true =>
     rw [hk] at h73
     obtain ⟨e, hg⟩ := gOf_nat hk
     have hlen := gOf_len f
     have hsr := succ_len (g := gOf f) (gOf_small f)
     rw [e] at h27 h73
     have h0 : 0 < (gOf f).length := by omega
     have h46 := order46 h73 (orderC hg (by omega) hsr)
     have hol := order_len hg h0
     have hra := reach_all (g := gOf f) h0
     cases hr : (reachL (gOf f) 0 none).all id with
     | false =>
      refine fn2_F c f _ _ _ (fun rest => wyO_F c f .nils .nils .nils 0 u' rest hu _ h27 _ h46 ?_ hn) ha
      have : (orderOf (gOf f)).length ≠ (gOf f).length := fun hh => by
       rw [hra.2 (hol.1 hh)] at hr
       cases hr
      rw [hlen] at this
      rw [beq_eq_false_iff_ne.2 (by omega)]
      rfl
     | true =>
      have hall := hra.1 hr
      have ho : (!(((orderOf (gOf f)).length : Int) == (f.blocks.length : Int))) = false := by
       rw [hol.2 hall, hlen]
       simp
      have h47 := into47 h73 (intoC (g := gOf f) hg (by omega) hsr)
      obtain ⟨V, hV, h74⟩ := aboveC hg (by omega) hsr
      have h42 := above42 h73 h74
      have hrow : (intoOf (gOf f))[0]? = some ((intoOf (gOf f)).getD 0 []) := by
       rw [List.getD_eq_getElem?_getD, get_of (by simp [intoOf]; omega)]
       rfl
      have hb0 : f.blocks[0]? = some (f.blocks.getD 0 ⟨[], [], 0, 0, 0, 0⟩) := by
       rw [List.getD_eq_getElem?_getD, get_of hb.1]
       rfl
      have e1 : ((((intoOf (gOf f)).getD 0 []).length : Int) == 0) = ((intoOf (gOf f)).getD 0 []).isEmpty := by
       cases (intoOf (gOf f)).getD 0 [] with
       | nil => rfl
       | cons a l => exact beq_eq_false_iff_ne.2 (by simp only [List.length_cons]; omega)
      have e2 : (((f.blocks.getD 0 ⟨[], [], 0, 0, 0, 0⟩).phis.length : Int) == 0) = (f.blocks.getD 0 ⟨[], [], 0, 0, 0, 0⟩).phis.isEmpty := by
       cases (f.blocks.getD 0 ⟨[], [], 0, 0, 0, 0⟩).phis with
       | nil => rfl
       | cons a l => exact beq_eq_false_iff_ne.2 (by simp only [List.length_cons]; omega)
      cases hi : (((intoOf (gOf f)).getD 0 []).isEmpty && (f.blocks.getD 0 ⟨[], [], 0, 0, 0, 0⟩).phis.isEmpty) with
      | false =>
       have : (!false && (true && (true && (true && (((intoOf (gOf f)).getD 0 []).isEmpty && ((f.blocks.getD 0 ⟨[], [], 0, 0, 0, 0⟩).phis.isEmpty && blksOk c f (gOf f))))))) = false := by
        rw [← Bool.and_assoc (((intoOf (gOf f)).getD 0 []).isEmpty), hi]
        rfl
       rw [this]
       refine fn2_F c f _ _ _ (fun rest => wyG_false_F c f .nils .nils .nils 0 u' rest hu (gOf f) h27 _ h46 ho h47 _ h42 _ hrow _ hb0 ?_) ha
       rw [hn, e1, e2, hi]
       rfl
      | true =>
       rw [Bool.and_eq_true] at hi
       rw [hi.1, hi.2]
       have h83 : ∀ rest : Heap, HCall Pg 83 [ckP] (ovl (wyE c f .nils .nils .nils 0) rest) [dB true] (ovl (wyE c f (.d (fromD (gOf f))) (.d (rowD (outL2 (gOf f) (allO V)))) .nils u') rest) := fun rest => by
        refine wyG_true_F c f .nils .nils .nils 0 u' rest hu (gOf f) h27 _ h46 ho h47 _ h42 _ hrow _ hb0 ?_
        rw [Bool.or_eq_false_iff] at hn
        rw [hn.1, hn.2, e1, e2, hi.1, hi.2]
        rfl
       have hv2 : f.vals.toNat < 4000000 := by
        simp only [Bool.or_eq_false_iff, decide_eq_false_iff_not] at ha
        omega
       have hmk := mk84 c f (gOf f) (rowD (outL2 (gOf f) (allO V))) 1 f.vals.toNat rfl hlen hf hw (fun _ => 0)
       have hbi := blks_iff c f (gOf f) hw
       cases hm : makesP c f (gOf f) with
       | none =>
        have : blksOk c f (gOf f) = false := by
         rw [← Bool.not_eq_true, hbi, hm]
         rintro ⟨M, h, _⟩
         cases h
        rw [this]
        obtain ⟨M', w', h84⟩ := hmk.2 hm
        exact fn3_F c f (gOf f) _ u' hv2 h83 M' w' h84 ha
       | some M =>
        obtain ⟨_, w', h84⟩ := hmk.1 M hm
        have hmm : makesP c f (gOf f) = bif blksL c f (gOf f) 0 f.blocks then mkAll f (defs f) (made0 f) else none := fold_blks c f (gOf f) f.blocks 0 (made0 f)
        rw [hm] at hmm
        cases hbl : blksL c f (gOf f) 0 f.blocks with
        | false => rw [hbl] at hmm; cases hmm
        | true =>
         rw [hbl] at hmm
         have hM : mkAll f (defs f) (made0 f) = some M := hmm.symm
         have hU := usesC c f (gOf f) (outL2 (gOf f) (allO V)) hM (fun a b ha hb => over_dom hg h0 (by omega) hV hall (by omega) (by omega))
         have hloc := (blksL_iff c f (gOf f) f.blocks 0).1 hbl
         obtain ⟨u2, h85⟩ := rd85 c f (gOf f) (rowD (outL2 (gOf f) (allO V))) 1 f.vals.toNat M (usesP f M (domAt (gOf f))) (vL [w' 0, 0, 0, 0, 0, 0, 0]) hU hf hlen (fun j b hb x hx => by
          have h1 := hloc j b hb
          rw [Nat.zero_add] at h1
          unfold blkL at h1
          rw [Bool.and_eq_true, List.all_eq_true] at h1
          have h2 := h1.1 x hx
          unfold phiL phiGood at h2
          simp only [Bool.and_eq_true, beq_iff_eq] at h2
          omega)
         have hres : blksOk c f (gOf f) = readsP f (gOf f) (usesP f M (domAt (gOf f))) := by
          rw [Bool.eq_iff_iff, hbi, hm]
          constructor
          ·rintro ⟨M2, h1, h2⟩
           cases h1
           exact h2
          ·exact fun h => ⟨M, rfl, h⟩
         rw [hres]
         exact fn4_F c f (gOf f) _ u' hv2 h83 M w' h84 _ u2 h85 ha
end Go.Avm
namespace Go.Avm
open Go.Proofs Go.Avm.Dom
def csS (c : CodeR) (ok : Bool) (i : Nat) : List (Nat × AV) := [(1, .ptr 1 1 0 0 1), (3, dB ok), (33, .d (stopsD c.stops)), (34, dN c.stops.length), (35, dN i)]
def csF (c : CodeR) (ok : Bool) (i : Nat) : List (Nat × AV) := [(1, .ptr 1 1 0 0 1), (3, dB ok), (47, .d (funsD c.funs)), (48, dN c.funs.length), (49, dN i)]
def csFE (c : CodeR) (u : Nat) : List (Nat × Ent) := rcE c ++ [(500193, ⟨u, none⟩)]
section
variable (c : CodeR) (i : Nat) (s : List (Int × Int)) (f : FunR) (u : Nat)
theorem csSRound_true (hi : i < c.stops.length) (hl : c.stops.length < 4000000) (hx : c.stops[i]? = some s) (hs : decide ((0 : Int) < (s.length : Int)) = true) : RW 62 (lO 18 5) (csS c true i) (rcE c) .normal (csS c true (i + 1)) (rcE c) := qS { hint := qT 18 [(36, qL hi), (37, hIxM Pg spotsD c.stops i s hx), (42, hLenM Pg spotD s), (43, qB hs), (45, hSucc Pg i (by omega))] } 18 500000
theorem csFRound_true (hi : i < c.funs.length) (hl : c.funs.length < 4000000) (hx : c.funs[i]? = some f) (h57 : Pure Pg 57 [codeD c, funD f] [.bool true]) : RW 62 (lO 18 10) (csF c true i) (csFE c u) .normal (csF c true (i + 1)) (csFE c (u + 1)) := qS { hint := qT 18 [(50, qL hi), (51, hIxM Pg funD c.funs i f hx), (57, .call 57 _ _ h57), (59, hSucc Pg i (by omega))] } 18 500000
theorem csSRound_false (hi : i < c.stops.length) (hl : c.stops.length < 4000000) (hx : c.stops[i]? = some s) (hs : decide ((0 : Int) < (s.length : Int)) = false) : RW 62 (lO 18 5) (csS c true i) (rcE c) .normal (csS c false (i + 1)) (rcE c) := qS { hint := qT 18 [(36, qL hi), (37, hIxM Pg spotsD c.stops i s hx), (42, hLenM Pg spotD s), (43, qB hs), (45, hSucc Pg i (by omega))] } 18 500000
theorem csFRound_false (hi : i < c.funs.length) (hl : c.funs.length < 4000000) (hx : c.funs[i]? = some f) (h57 : Pure Pg 57 [codeD c, funD f] [.bool false]) : RW 62 (lO 18 10) (csF c true i) (csFE c u) .normal (csF c false (i + 1)) (csFE c (u + 1)) := qS { hint := qT 18 [(50, qL hi), (51, hIxM Pg funD c.funs i f hx), (57, .call 57 _ _ h57), (59, hSucc Pg i (by omega))] } 18 500000
theorem csSRound_no (hi : i < c.stops.length) (hl : c.stops.length < 4000000) (hx : c.stops[i]? = some s) : RW 62 (lO 18 5) (csS c false i) (rcE c) .normal (csS c false (i + 1)) (rcE c) := qS { hint := qT 18 [(36, qL hi), (37, hIxM Pg spotsD c.stops i s hx), (45, hSucc Pg i (by omega))] } 18 500000
theorem csFRound_no (hi : i < c.funs.length) (hl : c.funs.length < 4000000) (hx : c.funs[i]? = some f) : RW 62 (lO 18 10) (csF c false i) (csFE c u) .normal (csF c false (i + 1)) (csFE c (u + 1)) := qS { hint := qT 18 [(50, qL hi), (51, hIxM Pg funD c.funs i f hx), (59, hSucc Pg i (by omega))] } 18 500000
variable (ok : Bool)
theorem csSStop : RW 62 (lO 18 5) (csS c ok c.stops.length) (rcE c) (.exit 0) [(1, .ptr 1 1 0 0 1), (3, dB ok)] (rcE c) := qS { hint := qT 18 [(36, qG c.stops.length)] } 18 500000
theorem csFStop : RW 62 (lO 18 10) (csF c ok c.funs.length) (csFE c u) (.exit 2) [(1, .ptr 1 1 0 0 1), (3, dB ok)] (csFE c u) := qS { hint := qT 18 [(50, qG c.funs.length)] } 18 500000
end
theorem all_take {α : Type} (p : α → Bool) {l : List α} {i : Nat} {x : α} (h : l[i]? = some x) : (l.take (i + 1)).all p = ((l.take i).all p && p x) := by
 rw [List.take_add_one, h, List.all_append]
 simp
def stopP (s : List (Int × Int)) : Bool := decide ((0 : Int) < (s.length : Int))
section
variable (c : CodeR)
include c
theorem csSLoop (ok : Bool) (hl : c.stops.length < 4000000) : RE 62 (.loop (lO 18 5)) (csS c ok 0) (rcE c) (.exit 0) [(1, .ptr 1 1 0 0 1), (3, dB (ok && c.stops.all stopP))] (rcE c) := by
 intro rest X hP hN
 have h := (lw_count c.stops.length (fun i => ⟨envOf (csS c (ok && (c.stops.take i).all stopP) i), ovl (rcE c) rest⟩) (by simp) (fun i hi => by
     have hget := get_of hi
     simp only [all_take stopP hget]
     rw [← Bool.and_assoc]
     cases h1 : (ok && (c.stops.take i).all stopP) with
     | false => exact csSRound_no c i _ hi hl hget rest X hP hN
     | true =>
      cases h2 : stopP c.stops[i] with
      | true => exact csSRound_true c i _ hi hl hget h2 rest X hP hN
      | false => exact csSRound_false c i _ hi hl hget h2 rest X hP hN) (csSStop c _ rest X hP hN)).aw
 rw [List.take_length] at h
 simpa using h
theorem csFLoop (ok : Bool) (h : c.Good) : ∃ u', RE 62 (.loop (lO 18 10)) (csF c ok 0) (csFE c 0) (.exit 2) [(1, .ptr 1 1 0 0 1), (3, dB (ok && funsOk c))] (csFE c u') := by
 have hl := h.fine.funs
 have hh := lw_ver (P := Pg) (N := 62) (c := loopOf Pg 18 10) c.funs.length (fun i (u : Nat) rest => ⟨envOf (csF c (ok && (c.funs.take i).all (funR c)) i), ovl (csFE c u) rest⟩) (fun u rest => ⟨envOf [(1, .ptr 1 1 0 0 1), (3, dB (ok && funsOk c))], ovl (csFE c u) rest⟩) (e := .exit 2) (by simp)
  (fun i hi u => ⟨u + 1, fun rest X hP hN => by
   have hget := get_of hi
   have hmem := List.getElem_mem hi
   simp only [all_take (funR c) hget]
   rw [← Bool.and_assoc]
   cases h1 : (ok && (c.funs.take i).all (funR c)) with
   | false => exact csFRound_no c i _ u hi hl hget rest X hP hN
   | true =>
    have h57 := fun57 c c.funs[i] (h.fine.fn _ hmem) (h.wf _ hmem)
    cases h2 : funR c c.funs[i] with
    | true => rw [h2] at h57; exact csFRound_true c i _ u hi hl hget h57 rest X hP hN
    | false => rw [h2] at h57; exact csFRound_false c i _ u hi hl hget h57 rest X hP hN⟩)
  (fun u => ⟨u, fun rest X hP hN => by
   rw [List.take_length]
   exact csFStop c u _ rest X hP hN⟩) 0
 simpa using hh
theorem csBig (h22 : Pure Pg 22 [codeD c] [.int .i64 (szC c : Int)]) (hz : decide ((40000 : Int) < (szC c : Int)) = true) : Pure Pg 18 [codeD c] [.int .i64 15] := qU { hint := qT 18 [(9, .call 22 _ _ h22), (10, qB hz)] }
theorem csT0_T1 (h22 : Pure Pg 22 [codeD c] [.int .i64 (szC c : Int)]) (hz : decide ((40000 : Int) < (szC c : Int)) = false) (hm : 0 ≤ c.main → c.main.toNat < c.funs.length → c.funs[c.main.toNat]? = some (mainAt c)) (ok1 : Bool) (u' : Nat) (h5 : RE 62 (.loop (lO 18 5)) (csS c true 0) (rcE c) (.exit 0) [(1, .ptr 1 1 0 0 1), (3, dB ok1)] (rcE c)) (h10 : RE 62 (.loop (lO 18 10)) (csF c ok1 0) (csFE c 0) (.exit 2) [(1, .ptr 1 1 0 0 1), (3, dB true)] (csFE c u')) (h_p : (decide (0 ≤ c.main)) = true) (h_q : (decide (c.main < (c.funs.length : Int))) = true) (h_r : ((mainAt c).params == 0) = true)  :
    Pure Pg 18 [codeD c] [.int .i64 0] :=
 qU { loops := fun f' q => if f' = 18 then (if q = 5 then qP h5 else if q = 10 then qP h10 else none) else none, hint := qT 18 [(9, .call 22 _ _ h22), (10, qB hz), (13, qB h_p), (19, hLenM Pg funD c.funs), (20, qB h_q), (27, hIxZ Pg funD c.funs c.main (mainAt c) (by simp at h_p; omega) (hm (by simp at h_p; omega) (by simp at h_p h_q; omega))), (30, qB h_r), (34, hLenM Pg spotsD c.stops), (48, hLenM Pg funD c.funs)] }
theorem csT0_T (h22 : Pure Pg 22 [codeD c] [.int .i64 (szC c : Int)]) (hz : decide ((40000 : Int) < (szC c : Int)) = false) (hm : 0 ≤ c.main → c.main.toNat < c.funs.length → c.funs[c.main.toNat]? = some (mainAt c)) (ok1 : Bool) (u' : Nat) (h5 : RE 62 (.loop (lO 18 5)) (csS c true 0) (rcE c) (.exit 0) [(1, .ptr 1 1 0 0 1), (3, dB ok1)] (rcE c)) (h10 : RE 62 (.loop (lO 18 10)) (csF c ok1 0) (csFE c 0) (.exit 2) [(1, .ptr 1 1 0 0 1), (3, dB true)] (csFE c u')) (h : ((decide (0 ≤ c.main)) && ((decide (c.main < (c.funs.length : Int))) && ((mainAt c).params == 0))) = true)  :
    Pure Pg 18 [codeD c] [.int .i64 0] := by
 cases h_p : (decide (0 ≤ c.main)) with
 | true =>
  cases h_q : (decide (c.main < (c.funs.length : Int))) with
  | true =>
   cases h_r : ((mainAt c).params == 0) with
   | true =>
    exact csT0_T1 c h22 hz hm ok1 u' h5 h10  h_p h_q h_r
   | false =>
    simp [h_p, h_q, h_r] at h
  | false =>
   simp [h_p, h_q] at h
 | false =>
  simp [h_p] at h
theorem csT3_T1 (h22 : Pure Pg 22 [codeD c] [.int .i64 (szC c : Int)]) (hz : decide ((40000 : Int) < (szC c : Int)) = false) (hm : 0 ≤ c.main → c.main.toNat < c.funs.length → c.funs[c.main.toNat]? = some (mainAt c)) (ok1 : Bool) (u' : Nat) (h5 : RE 62 (.loop (lO 18 5)) (csS c true 0) (rcE c) (.exit 0) [(1, .ptr 1 1 0 0 1), (3, dB ok1)] (rcE c)) (h10 : RE 62 (.loop (lO 18 10)) (csF c ok1 0) (csFE c 0) (.exit 2) [(1, .ptr 1 1 0 0 1), (3, dB false)] (csFE c u')) (h_p : (decide (0 ≤ c.main)) = true) (h_q : (decide (c.main < (c.funs.length : Int))) = true) (h_r : ((mainAt c).params == 0) = true)  :
    Pure Pg 18 [codeD c] [.int .i64 3] :=
 qU { loops := fun f' q => if f' = 18 then (if q = 5 then qP h5 else if q = 10 then qP h10 else none) else none, hint := qT 18 [(9, .call 22 _ _ h22), (10, qB hz), (13, qB h_p), (19, hLenM Pg funD c.funs), (20, qB h_q), (27, hIxZ Pg funD c.funs c.main (mainAt c) (by simp at h_p; omega) (hm (by simp at h_p; omega) (by simp at h_p h_q; omega))), (30, qB h_r), (34, hLenM Pg spotsD c.stops), (48, hLenM Pg funD c.funs)] }
theorem csT3_T (h22 : Pure Pg 22 [codeD c] [.int .i64 (szC c : Int)]) (hz : decide ((40000 : Int) < (szC c : Int)) = false) (hm : 0 ≤ c.main → c.main.toNat < c.funs.length → c.funs[c.main.toNat]? = some (mainAt c)) (ok1 : Bool) (u' : Nat) (h5 : RE 62 (.loop (lO 18 5)) (csS c true 0) (rcE c) (.exit 0) [(1, .ptr 1 1 0 0 1), (3, dB ok1)] (rcE c)) (h10 : RE 62 (.loop (lO 18 10)) (csF c ok1 0) (csFE c 0) (.exit 2) [(1, .ptr 1 1 0 0 1), (3, dB false)] (csFE c u')) (h : ((decide (0 ≤ c.main)) && ((decide (c.main < (c.funs.length : Int))) && ((mainAt c).params == 0))) = true)  :
    Pure Pg 18 [codeD c] [.int .i64 3] := by
 cases h_p : (decide (0 ≤ c.main)) with
 | true =>
  cases h_q : (decide (c.main < (c.funs.length : Int))) with
  | true =>
   cases h_r : ((mainAt c).params == 0) with
   | true =>
    exact csT3_T1 c h22 hz hm ok1 u' h5 h10  h_p h_q h_r
   | false =>
    simp [h_p, h_q, h_r] at h
  | false =>
   simp [h_p, h_q] at h
 | false =>
  simp [h_p] at h
theorem csF3_F1 (h22 : Pure Pg 22 [codeD c] [.int .i64 (szC c : Int)]) (hz : decide ((40000 : Int) < (szC c : Int)) = false) (hm : 0 ≤ c.main → c.main.toNat < c.funs.length → c.funs[c.main.toNat]? = some (mainAt c)) (ok1 : Bool) (u' : Nat) (h5 : RE 62 (.loop (lO 18 5)) (csS c false 0) (rcE c) (.exit 0) [(1, .ptr 1 1 0 0 1), (3, dB ok1)] (rcE c)) (h10 : RE 62 (.loop (lO 18 10)) (csF c ok1 0) (csFE c 0) (.exit 2) [(1, .ptr 1 1 0 0 1), (3, dB false)] (csFE c u')) (h_p : (decide (0 ≤ c.main)) = true) (h_q : (decide (c.main < (c.funs.length : Int))) = true) (h_r : ((mainAt c).params == 0) = false)  :
    Pure Pg 18 [codeD c] [.int .i64 3] :=
 qU { loops := fun f' q => if f' = 18 then (if q = 5 then qP h5 else if q = 10 then qP h10 else none) else none, hint := qT 18 [(9, .call 22 _ _ h22), (10, qB hz), (13, qB h_p), (19, hLenM Pg funD c.funs), (20, qB h_q), (27, hIxZ Pg funD c.funs c.main (mainAt c) (by simp at h_p; omega) (hm (by simp at h_p; omega) (by simp at h_p h_q; omega))), (30, qB h_r), (34, hLenM Pg spotsD c.stops), (48, hLenM Pg funD c.funs)] }
theorem csF3_F2 (h22 : Pure Pg 22 [codeD c] [.int .i64 (szC c : Int)]) (hz : decide ((40000 : Int) < (szC c : Int)) = false) (hm : 0 ≤ c.main → c.main.toNat < c.funs.length → c.funs[c.main.toNat]? = some (mainAt c)) (ok1 : Bool) (u' : Nat) (h5 : RE 62 (.loop (lO 18 5)) (csS c false 0) (rcE c) (.exit 0) [(1, .ptr 1 1 0 0 1), (3, dB ok1)] (rcE c)) (h10 : RE 62 (.loop (lO 18 10)) (csF c ok1 0) (csFE c 0) (.exit 2) [(1, .ptr 1 1 0 0 1), (3, dB false)] (csFE c u')) (h_p : (decide (0 ≤ c.main)) = true) (h_q : (decide (c.main < (c.funs.length : Int))) = false)  :
    Pure Pg 18 [codeD c] [.int .i64 3] :=
 qU { loops := fun f' q => if f' = 18 then (if q = 5 then qP h5 else if q = 10 then qP h10 else none) else none, hint := qT 18 [(9, .call 22 _ _ h22), (10, qB hz), (13, qB h_p), (19, hLenM Pg funD c.funs), (20, qB h_q), (34, hLenM Pg spotsD c.stops), (48, hLenM Pg funD c.funs)] }
theorem csF3_F3 (h22 : Pure Pg 22 [codeD c] [.int .i64 (szC c : Int)]) (hz : decide ((40000 : Int) < (szC c : Int)) = false) (hm : 0 ≤ c.main → c.main.toNat < c.funs.length → c.funs[c.main.toNat]? = some (mainAt c)) (ok1 : Bool) (u' : Nat) (h5 : RE 62 (.loop (lO 18 5)) (csS c false 0) (rcE c) (.exit 0) [(1, .ptr 1 1 0 0 1), (3, dB ok1)] (rcE c)) (h10 : RE 62 (.loop (lO 18 10)) (csF c ok1 0) (csFE c 0) (.exit 2) [(1, .ptr 1 1 0 0 1), (3, dB false)] (csFE c u')) (h_p : (decide (0 ≤ c.main)) = false)  :
    Pure Pg 18 [codeD c] [.int .i64 3] :=
 qU { loops := fun f' q => if f' = 18 then (if q = 5 then qP h5 else if q = 10 then qP h10 else none) else none, hint := qT 18 [(9, .call 22 _ _ h22), (10, qB hz), (13, qB h_p), (34, hLenM Pg spotsD c.stops), (48, hLenM Pg funD c.funs)] }
theorem csF3_F (h22 : Pure Pg 22 [codeD c] [.int .i64 (szC c : Int)]) (hz : decide ((40000 : Int) < (szC c : Int)) = false) (hm : 0 ≤ c.main → c.main.toNat < c.funs.length → c.funs[c.main.toNat]? = some (mainAt c)) (ok1 : Bool) (u' : Nat) (h5 : RE 62 (.loop (lO 18 5)) (csS c false 0) (rcE c) (.exit 0) [(1, .ptr 1 1 0 0 1), (3, dB ok1)] (rcE c)) (h10 : RE 62 (.loop (lO 18 10)) (csF c ok1 0) (csFE c 0) (.exit 2) [(1, .ptr 1 1 0 0 1), (3, dB false)] (csFE c u')) (h : ((decide (0 ≤ c.main)) && ((decide (c.main < (c.funs.length : Int))) && ((mainAt c).params == 0))) = false)  :
    Pure Pg 18 [codeD c] [.int .i64 3] := by
 cases h_p : (decide (0 ≤ c.main)) with
 | true =>
  cases h_q : (decide (c.main < (c.funs.length : Int))) with
  | true =>
   cases h_r : ((mainAt c).params == 0) with
   | true =>
    simp [h_p, h_q, h_r] at h
   | false =>
    exact csF3_F1 c h22 hz hm ok1 u' h5 h10  h_p h_q h_r
  | false =>
   exact csF3_F2 c h22 hz hm ok1 u' h5 h10  h_p h_q
 | false =>
  exact csF3_F3 c h22 hz hm ok1 u' h5 h10  h_p
theorem stops_ok : c.stops.all stopP = stopsOk c := by
 unfold stopsOk
 congr 1
 funext s
 unfold stopP
 cases s with
 | nil => rfl
 | cons a l =>
  have h1 : decide ((0 : Int) < ((a :: l).length : Int)) = true := dec_true (by simp only [List.length_cons]; omega)
  have h2 : (((a :: l).length : Int) == 0) = false := beq_eq_false_iff_ne.2 (by simp only [List.length_cons]; omega)
  rw [h1, h2]
  rfl
theorem main_ok : ((decide (0 ≤ c.main)) && ((decide (c.main < (c.funs.length : Int))) && ((mainAt c).params == 0))) = !(mainBad c) := by
 unfold mainBad
 have e1 : decide (0 ≤ c.main) = !decide (c.main < 0) := by
  by_cases h : c.main < 0 <;> simp [h] <;> omega
 have e2 : decide (c.main < (c.funs.length : Int)) = !decide ((c.funs.length : Int) ≤ c.main) := by
  by_cases h : (c.funs.length : Int) ≤ c.main <;> simp [h] <;> omega
 rw [e1, e2]
 cases (decide (c.main < 0)) <;> cases (decide ((c.funs.length : Int) ≤ c.main)) <;> cases ((mainAt c).params == 0) <;> rfl
theorem check18 (h : c.Good) : Pure Pg 18 [codeD c] [.int .i64 (checkR c)] := by
 have h22 := size22 c h.fine.funs (fun f hf => (h.fine.fn f hf).1) (by have := h.size; omega)
 have hm : 0 ≤ c.main → c.main.toNat < c.funs.length → c.funs[c.main.toNat]? = some (mainAt c) := fun _ h2 => by
  unfold mainAt
  rw [List.getD_eq_getElem?_getD, get_of h2]
  rfl
 unfold checkR
 by_cases hz : 40000 < szC c
 ·rw [if_pos hz]
  exact csBig c h22 (dec_true (by omega))
 ·rw [if_neg hz]
  have hz' : decide ((40000 : Int) < (szC c : Int)) = false := dec_false (by omega)
  have hmo := main_ok c
  have hso := stops_ok c
  cases h1 : mainBad c with
  | true =>
   rw [h1] at hmo
   rw [if_neg (by simp)]
   obtain ⟨u', h10⟩ := csFLoop c (false && c.stops.all stopP) h
   rw [Bool.false_and, Bool.false_and] at h10
   exact csF3_F c h22 hz' hm _ u' (fun rest X hP hN => csSLoop c false h.fine.stops rest X hP hN) h10 hmo
  | false =>
   rw [h1] at hmo
   obtain ⟨u', h10⟩ := csFLoop c (true && c.stops.all stopP) h
   have h5 := fun rest X hP hN => csSLoop c true h.fine.stops rest X hP hN
   cases h2 : (true && c.stops.all stopP && funsOk c) with
   | true =>
    rw [h2] at h10
    rw [Bool.true_and, hso, Bool.and_eq_true] at h2
    rw [if_pos ⟨rfl, h2.1, h2.2⟩]
    exact csT0_T c h22 hz' hm _ u' h5 h10 hmo
   | false =>
    rw [h2] at h10
    rw [Bool.true_and, hso] at h2
    rw [if_neg (fun hh => by rw [hh.2.1, hh.2.2] at h2; cases h2)]
    exact csT3_T c h22 hz' hm _ u' h5 h10 hmo
end
end Go.Avm
namespace Go.Avm
open Go.Proofs Go.Avm.Dom
def ixF (vx : Nat) : AV := .fn 60 [.ptr 500158 vx 0 0 1]
def ixL (x : InstR) (vx i : Nat) : List (Nat × AV) := [(0, .d (dbgsD x.dbg)), (1, ixF vx), (7, dN x.dbg.length), (8, dN i)]
def ixE (x : InstR) (vx u : Nat) : List (Nat × Ent) := [(500158, ⟨vx, some (.arr 1 (cellsI x))⟩), (500154, ⟨u, none⟩)]
section
variable (x : InstR) (vx u i : Nat) (d : DbgR) (hi : i < x.dbg.length) (hl : x.dbg.length < 4000000) (hx : x.dbg[i]? = some d)
include x vx u i d hi hl hx
theorem ixR_T1 (h_p : (d.kind == 3) = true) (h_q : (x.op == 42) = true) : RW 19 (lO 91 2) (ixL x vx i) (ixE x vx u) .ret [(4, dN i)] (ixE x vx (u + 1)) := qS { hint := tabH Pg [(91, 9, qL hi), (91, 14, hIxM Pg dbgD x.dbg i d hx), (60, 6, qB h_p), (60, 10, qB h_q)] } 91 500000
theorem ixR_T2 (h_p : (d.kind == 3) = true) (h_q : (x.op == 42) = false) (h_r : (x.op == 39) = true) : RW 19 (lO 91 2) (ixL x vx i) (ixE x vx u) .ret [(4, dN i)] (ixE x vx (u + 1)) := qS { hint := tabH Pg [(91, 9, qL hi), (91, 14, hIxM Pg dbgD x.dbg i d hx), (60, 6, qB h_p), (60, 10, qB h_q), (60, 14, qB h_r)] } 91 500000
theorem ixR_T (h : ((d.kind == 3) && ((x.op == 42) || (x.op == 39))) = true) : RW 19 (lO 91 2) (ixL x vx i) (ixE x vx u) .ret [(4, dN i)] (ixE x vx (u + 1)) := by
 intro rest X hP hN
 cases h_p : (d.kind == 3) with
 | true =>
  cases h_q : (x.op == 42) with
  | true =>
   exact ixR_T1 x vx u i d hi hl hx  h_p h_q rest X hP hN
  | false =>
   cases h_r : (x.op == 39) with
   | true =>
    exact ixR_T2 x vx u i d hi hl hx  h_p h_q h_r rest X hP hN
   | false =>
    simp [h_p, h_q, h_r] at h
 | false =>
  simp [h_p] at h
theorem ixR_F1 (h_p : (d.kind == 3) = true) (h_q : (x.op == 42) = false) (h_r : (x.op == 39) = false) : RW 19 (lO 91 2) (ixL x vx i) (ixE x vx u) .normal (ixL x vx (i + 1)) (ixE x vx (u + 1)) := qS { hint := tabH Pg [(91, 9, qL hi), (91, 14, hIxM Pg dbgD x.dbg i d hx), (60, 6, qB h_p), (60, 10, qB h_q), (60, 14, qB h_r), (91, 18, hSucc Pg i (by omega))] } 91 500000
theorem ixR_F2 (h_p : (d.kind == 3) = false) : RW 19 (lO 91 2) (ixL x vx i) (ixE x vx u) .normal (ixL x vx (i + 1)) (ixE x vx (u + 1)) := qS { hint := tabH Pg [(91, 9, qL hi), (91, 14, hIxM Pg dbgD x.dbg i d hx), (60, 6, qB h_p), (91, 18, hSucc Pg i (by omega))] } 91 500000
theorem ixR_F (h : ((d.kind == 3) && ((x.op == 42) || (x.op == 39))) = false) : RW 19 (lO 91 2) (ixL x vx i) (ixE x vx u) .normal (ixL x vx (i + 1)) (ixE x vx (u + 1)) := by
 intro rest X hP hN
 cases h_p : (d.kind == 3) with
 | true =>
  cases h_q : (x.op == 42) with
  | true =>
   simp [h_p, h_q] at h
  | false =>
   cases h_r : (x.op == 39) with
   | true =>
    simp [h_p, h_q, h_r] at h
   | false =>
    exact ixR_F1 x vx u i d hi hl hx  h_p h_q h_r rest X hP hN
 | false =>
  exact ixR_F2 x vx u i d hi hl hx  h_p rest X hP hN
end
theorem ixStop (x : InstR) (vx u : Nat) : RW 19 (lO 91 2) (ixL x vx x.dbg.length) (ixE x vx u) (.exit 0) [] (ixE x vx u) := qS { hint := qT 91 [(9, qG x.dbg.length)] } 91 500000
theorem ixLoop (x : InstR) (vx : Nat) (hl : x.dbg.length < 4000000) :
    AllLoop Pg 19 (lO 91 2) (fun (u : Nat × Nat) rest => ⟨envOf (ixL x vx 0), ovl (ixE x vx u.1) rest⟩) (fun u rest => ⟨envOf [], ovl (ixE x vx u.1) rest⟩) (fun u rest => ⟨envOf [(4, dN u.2)], ovl (ixE x vx u.1) rest⟩) (.exit 0) (x.dbg.all (dbgPlain x)) :=
 lw_list x.dbg (dbgPlain x) (fun i (u : Nat × Nat) rest => ⟨envOf (ixL x vx i), ovl (ixE x vx u.1) rest⟩) _ _ (by simp)
  (fun i hi u => by
   have hget := get_of hi
   generalize x.dbg[i] = d at hget
   cases h : dbgPlain x d with
   | true => exact ⟨(u.1 + 1, 0), fun rest X hP hN => ixR_F x vx u.1 i d hi hl hget (not_f h) rest X hP hN⟩
   | false => exact ⟨(u.1 + 1, i), fun rest X hP hN => ixR_T x vx u.1 i d hi hl hget (not_t h) rest X hP hN⟩)
  (fun u => ⟨u, fun rest X hP hN => ixStop x vx u.1 rest X hP hN⟩)
theorem ixT (x : InstR) (vx u u' : Nat) (h : RE 19 (.loop (lO 91 2)) (ixL x vx 0) (ixE x vx u) (.exit 0) [] (ixE x vx u')) (rest : Heap) : HCall Pg 59 [.d (dbgsD x.dbg), ixF vx] (ovl (ixE x vx u) rest) [dB false] (ovl (ixE x vx u') rest) :=
 qH { loops := qO 91 2 (qP h), hint := qT 91 [(7, hLenM Pg dbgD x.dbg)] }
theorem ixN (x : InstR) (vx u u' j : Nat) (h : RE 19 (.loop (lO 91 2)) (ixL x vx 0) (ixE x vx u) .ret [(4, dN j)] (ixE x vx u')) (rest : Heap) : HCall Pg 59 [.d (dbgsD x.dbg), ixF vx] (ovl (ixE x vx u) rest) [dB true] (ovl (ixE x vx u') rest) :=
 qH { loops := qO 91 2 (qP h), hint := qT 91 [(7, hLenM Pg dbgD x.dbg)] }
theorem hits59 (x : InstR) (vx u : Nat) (hl : x.dbg.length < 4000000) : ∃ u', ∀ rest : Heap, HCall Pg 59 [.d (dbgsD x.dbg), ixF vx] (ovl (ixE x vx u) rest) [dB (!(x.dbg.all (dbgPlain x)))] (ovl (ixE x vx u') rest) := by
 have hL := ixLoop x vx hl (u, 0)
 cases h : x.dbg.all (dbgPlain x) with
 | true =>
  obtain ⟨u', hu⟩ := hL.1 h
  exact ⟨u'.1, fun rest => ixT x vx u u'.1 hu rest⟩
 | false =>
  obtain ⟨u', hu⟩ := hL.2 h
  exact ⟨u'.1, fun rest => ixN x vx u u'.1 u'.2 hu rest⟩
def ppF (fs : List FunR) (i : Nat) : List (Nat × AV) := [(13, .d (funsD fs)), (14, dN fs.length), (15, dN i)]
def ppB (fs : List FunR) (i : Nat) (bs : List BlkR) (k : Nat) : List (Nat × AV) := ppF fs i ++ [(20, .d (blksD bs)), (21, dN bs.length), (22, dN k)]
def ppI (fs : List FunR) (i : Nat) (bs : List BlkR) (k : Nat) (l : List InstR) (m : Nat) : List (Nat × AV) := ppB fs i bs k ++ [(27, .d (instsD l)), (28, dN l.length), (29, dN m)]
def ppIE (u : Nat → Nat) : List (Nat × Ent) := tm u [500158, 500154] 0
section
variable (fs : List FunR) (i : Nat) (bs : List BlkR) (k : Nat) (l : List InstR) (m : Nat) (x : InstR) (u : Nat → Nat)
theorem ppX_T1 (fs : List FunR) (i : Nat) (bs : List BlkR) (k : Nat) (l : List InstR) (m : Nat) (x : InstR) (u : Nat → Nat) (hm : m < l.length) (hl : l.length < 4000000) (hxm : l[m]? = some x)  (h_p : (x.op == 43) = true) : RW 50 (lO 20 10) (ppI fs i bs k l m) (ppIE u) .ret [(2, dB false)] (ppIE (vL [u 0 + 1, u 1])) := qS { hint := qT 20 [(30, qL hm), (31, hIxM Pg instD l m x hxm), (35, qB h_p)] } 20 500000
theorem ppX_T2 (fs : List FunR) (i : Nat) (bs : List BlkR) (k : Nat) (l : List InstR) (m : Nat) (x : InstR) (u : Nat → Nat) (hm : m < l.length) (hl : l.length < 4000000) (hxm : l[m]? = some x)  (h_p : (x.op == 43) = false) (h_q : (x.op == 44) = true) : RW 50 (lO 20 10) (ppI fs i bs k l m) (ppIE u) .ret [(2, dB false)] (ppIE (vL [u 0 + 1, u 1])) := qS { hint := qT 20 [(30, qL hm), (31, hIxM Pg instD l m x hxm), (35, qB h_p), (39, qB h_q)] } 20 500000
theorem ppX_T (fs : List FunR) (i : Nat) (bs : List BlkR) (k : Nat) (l : List InstR) (m : Nat) (x : InstR) (u : Nat → Nat) (hm : m < l.length) (hl : l.length < 4000000) (hxm : l[m]? = some x)  (h : ((x.op == 43) || (x.op == 44)) = true) : RW 50 (lO 20 10) (ppI fs i bs k l m) (ppIE u) .ret [(2, dB false)] (ppIE (vL [u 0 + 1, u 1])) := by
 intro rest X hP hN
 cases h_p : (x.op == 43) with
 | true =>
  exact ppX_T1 fs i bs k l m x u hm hl hxm  h_p rest X hP hN
 | false =>
  cases h_q : (x.op == 44) with
  | true =>
   exact ppX_T2 fs i bs k l m x u hm hl hxm  h_p h_q rest X hP hN
  | false =>
   simp [h_p, h_q] at h
theorem ppY_F1 (fs : List FunR) (i : Nat) (bs : List BlkR) (k : Nat) (l : List InstR) (m : Nat) (x : InstR) (u : Nat → Nat) (hm : m < l.length) (hl : l.length < 4000000) (hxm : l[m]? = some x) (u' : Nat) (h59 : ∀ rest : Heap, HCall Pg 59 [.d (dbgsD x.dbg), ixF (u 0 + 1)] (ovl (ixE x (u 0 + 1) (u 1)) rest) [dB false] (ovl (ixE x (u 0 + 1) u') rest))  (h_p : (x.op == 43) = false) (h_q : (x.op == 44) = false) : RW 50 (lO 20 10) (ppI fs i bs k l m) (ppIE u) .normal (ppI fs i bs k l (m + 1)) (ppIE (vL [u 0 + 1, u'])) := qS { calls := qC 20 45 59 (fits_of h59), hint := qT 20 [(30, qL hm), (31, hIxM Pg instD l m x hxm), (35, qB h_p), (39, qB h_q), (47, hSucc Pg m (by omega))] } 20 500000
theorem ppY_F (fs : List FunR) (i : Nat) (bs : List BlkR) (k : Nat) (l : List InstR) (m : Nat) (x : InstR) (u : Nat → Nat) (hm : m < l.length) (hl : l.length < 4000000) (hxm : l[m]? = some x) (u' : Nat) (h59 : ∀ rest : Heap, HCall Pg 59 [.d (dbgsD x.dbg), ixF (u 0 + 1)] (ovl (ixE x (u 0 + 1) (u 1)) rest) [dB false] (ovl (ixE x (u 0 + 1) u') rest))  (h : ((x.op == 43) || (x.op == 44)) = false) : RW 50 (lO 20 10) (ppI fs i bs k l m) (ppIE u) .normal (ppI fs i bs k l (m + 1)) (ppIE (vL [u 0 + 1, u'])) := by
 intro rest X hP hN
 cases h_p : (x.op == 43) with
 | true =>
  simp [h_p] at h
 | false =>
  cases h_q : (x.op == 44) with
  | true =>
   simp [h_p, h_q] at h
  | false =>
   exact ppY_F1 fs i bs k l m x u hm hl hxm u' h59  h_p h_q rest X hP hN
theorem ppZ_F1 (fs : List FunR) (i : Nat) (bs : List BlkR) (k : Nat) (l : List InstR) (m : Nat) (x : InstR) (u : Nat → Nat) (hm : m < l.length) (hl : l.length < 4000000) (hxm : l[m]? = some x) (u' : Nat) (h59 : ∀ rest : Heap, HCall Pg 59 [.d (dbgsD x.dbg), ixF (u 0 + 1)] (ovl (ixE x (u 0 + 1) (u 1)) rest) [dB true] (ovl (ixE x (u 0 + 1) u') rest))  (h_p : (x.op == 43) = false) (h_q : (x.op == 44) = false) : RW 50 (lO 20 10) (ppI fs i bs k l m) (ppIE u) .ret [(2, dB false)] (ppIE (vL [u 0 + 1, u'])) := qS { calls := qC 20 45 59 (fits_of h59), hint := qT 20 [(30, qL hm), (31, hIxM Pg instD l m x hxm), (35, qB h_p), (39, qB h_q)] } 20 500000
theorem ppZ_F (fs : List FunR) (i : Nat) (bs : List BlkR) (k : Nat) (l : List InstR) (m : Nat) (x : InstR) (u : Nat → Nat) (hm : m < l.length) (hl : l.length < 4000000) (hxm : l[m]? = some x) (u' : Nat) (h59 : ∀ rest : Heap, HCall Pg 59 [.d (dbgsD x.dbg), ixF (u 0 + 1)] (ovl (ixE x (u 0 + 1) (u 1)) rest) [dB true] (ovl (ixE x (u 0 + 1) u') rest))  (h : ((x.op == 43) || (x.op == 44)) = false) : RW 50 (lO 20 10) (ppI fs i bs k l m) (ppIE u) .ret [(2, dB false)] (ppIE (vL [u 0 + 1, u'])) := by
 intro rest X hP hN
 cases h_p : (x.op == 43) with
 | true =>
  simp [h_p] at h
 | false =>
  cases h_q : (x.op == 44) with
  | true =>
   simp [h_p, h_q] at h
  | false =>
   exact ppZ_F1 fs i bs k l m x u hm hl hxm u' h59  h_p h_q rest X hP hN
theorem ppIStop : RW 50 (lO 20 10) (ppI fs i bs k l l.length) (ppIE u) (.exit 4) (ppB fs i bs k) (ppIE u) := qS { hint := qT 20 [(30, qG l.length)] } 20 500000
theorem ppILoop (hs : smallIs l) : AllLoop Pg 50 (lO 20 10) (fun u rest => ⟨envOf (ppI fs i bs k l 0), ovl (ppIE u) rest⟩) (fun u rest => ⟨envOf (ppB fs i bs k), ovl (ppIE u) rest⟩) (fun u rest => ⟨envOf [(2, dB false)], ovl (ppIE u) rest⟩) (.exit 4) (l.all instPlain) :=
 lw_list l instPlain (fun m u rest => ⟨envOf (ppI fs i bs k l m), ovl (ppIE u) rest⟩) _ _ (by simp)
 (fun m hm u => by
  have hget := get_of hm
  have hx := hs.2 _ (List.getElem_mem hm)
  generalize l[m] = x at hget hx
  obtain ⟨u', h59⟩ := hits59 x (u 0 + 1) (u 1) hx.2
  unfold instPlain
  cases h1 : ((x.op == 43) || (x.op == 44)) with
  | true => exact ⟨_, fun rest X hP hN => ppX_T fs i bs k l m x u hm hs.1 hget h1 rest X hP hN⟩
  | false =>
   cases h2 : x.dbg.all (dbgPlain x) with
   | true =>
    rw [h2] at h59
    exact ⟨_, fun rest X hP hN => ppY_F fs i bs k l m x u hm hs.1 hget u' h59 h1 rest X hP hN⟩
   | false =>
    rw [h2] at h59
    exact ⟨_, fun rest X hP hN => ppZ_F fs i bs k l m x u hm hs.1 hget u' h59 h1 rest X hP hN⟩) (fun u => ⟨u, fun rest X hP hN => ppIStop fs i bs k l u rest X hP hN⟩)
end
def ppBE (u : Nat → Nat) : List (Nat × Ent) := tm u [500158, 500154, 500156] 0
section
variable (fs : List FunR) (i : Nat) (bs : List BlkR) (k : Nat) (u u' : Nat → Nat) (b : BlkR)
theorem ppBRound (hk : k < bs.length) (hl : bs.length < 4000000) (hxb : bs[k]? = some b) (hq : RE 50 (.loop (lO 20 10)) (ppI fs i bs k b.insts 0) (ppIE u) (.exit 4) (ppB fs i bs k) (ppIE u')) : RW 50 (lO 20 7) (ppB fs i bs k) (ppBE u) .normal (ppB fs i bs (k + 1)) (ppBE (vL [u' 0, u' 1, u 2 + 1])) := qS { loops := qO 20 10 (qP hq), hint := qT 20 [(23, qL hk), (24, hIxM Pg blkD bs k b hxb), (28, hLenM Pg instD b.insts), (48, hSucc Pg k (by omega))] } 20 500000
theorem ppBBad (hk : k < bs.length) (hxb : bs[k]? = some b) (hq : RE 50 (.loop (lO 20 10)) (ppI fs i bs k b.insts 0) (ppIE u) .ret [(2, dB false)] (ppIE u')) : RW 50 (lO 20 7) (ppB fs i bs k) (ppBE u) .ret [(2, dB false)] (ppBE (vL [u' 0, u' 1, u 2 + 1])) := qS { loops := qO 20 10 (qP hq), hint := qT 20 [(23, qL hk), (24, hIxM Pg blkD bs k b hxb), (28, hLenM Pg instD b.insts)] } 20 500000
theorem ppBStop : RW 50 (lO 20 7) (ppB fs i bs bs.length) (ppBE u) (.exit 2) (ppF fs i) (ppBE u) := qS { hint := qT 20 [(23, qG bs.length)] } 20 500000
theorem ppBLoop (hl : bs.length < 4000000) (hs : ∀ b ∈ bs, smallIs b.insts) : AllLoop Pg 50 (lO 20 7) (fun u rest => ⟨envOf (ppB fs i bs 0), ovl (ppBE u) rest⟩) (fun u rest => ⟨envOf (ppF fs i), ovl (ppBE u) rest⟩) (fun u rest => ⟨envOf [(2, dB false)], ovl (ppBE u) rest⟩) (.exit 2) (bs.all blkPlain) :=
 lw_list bs blkPlain (fun k u rest => ⟨envOf (ppB fs i bs k), ovl (ppBE u) rest⟩) _ _ (by simp)
 (fun k hk u => by
  have hL := ppILoop fs i bs k bs[k].insts (hs _ (List.getElem_mem hk)) u
  cases h2 : blkPlain bs[k] with
  | true =>
   obtain ⟨u', hu⟩ := hL.1 h2
   exact ⟨_, fun rest X hP hN => ppBRound fs i bs k u u' bs[k] hk hl (get_of hk) hu rest X hP hN⟩
  | false =>
   obtain ⟨u', hu⟩ := hL.2 h2
   exact ⟨_, fun rest X hP hN => ppBBad fs i bs k u u' bs[k] hk (get_of hk) hu rest X hP hN⟩) (fun u => ⟨u, fun rest X hP hN => ppBStop fs i bs u rest X hP hN⟩)
def ppFE (u : Nat → Nat) : List (Nat × Ent) := tm u [500158, 500154, 500156, 600154] 0
variable (f : FunR)
theorem ppFRound (hi : i < fs.length) (hl : fs.length < 4000000) (hxf : fs[i]? = some f) (hq : RE 50 (.loop (lO 20 7)) (ppB fs i f.blocks 0) (ppBE u) (.exit 2) (ppF fs i) (ppBE u')) : RW 50 (lO 20 4) (ppF fs i) (ppFE u) .normal (ppF fs (i + 1)) (ppFE (vL [u' 0, u' 1, u' 2, u 3 + 1])) := qS { loops := qO 20 7 (qP hq), hint := qT 20 [(16, qL hi), (17, hIxM Pg funD fs i f hxf), (21, hLenM Pg blkD f.blocks), (49, hSucc Pg i (by omega))] } 20 600000
theorem ppFBad (hi : i < fs.length) (hxf : fs[i]? = some f) (hq : RE 50 (.loop (lO 20 7)) (ppB fs i f.blocks 0) (ppBE u) .ret [(2, dB false)] (ppBE u')) : RW 50 (lO 20 4) (ppF fs i) (ppFE u) .ret [(2, dB false)] (ppFE (vL [u' 0, u' 1, u' 2, u 3 + 1])) := qS { loops := qO 20 7 (qP hq), hint := qT 20 [(16, qL hi), (17, hIxM Pg funD fs i f hxf), (21, hLenM Pg blkD f.blocks)] } 20 600000
theorem ppFStop : RW 50 (lO 20 4) (ppF fs fs.length) (ppFE u) (.exit 0) [] (ppFE u) := qS { hint := qT 20 [(16, qG fs.length)] } 20 500000
theorem ppFLoop (hl : fs.length < 4000000) (hs : ∀ f ∈ fs, fineF f) : AllLoop Pg 50 (lO 20 4) (fun u rest => ⟨envOf (ppF fs 0), ovl (ppFE u) rest⟩) (fun u rest => ⟨envOf [], ovl (ppFE u) rest⟩) (fun u rest => ⟨envOf [(2, dB false)], ovl (ppFE u) rest⟩) (.exit 0) (fs.all funPlain) :=
 lw_list fs funPlain (fun i u rest => ⟨envOf (ppF fs i), ovl (ppFE u) rest⟩) _ _ (by simp)
 (fun i hi u => by
  have hf := hs _ (List.getElem_mem hi)
  have hL := ppBLoop fs i fs[i].blocks hf.1 (fun b hb => (hf.2 b hb).2) u
  cases h2 : funPlain fs[i] with
  | true =>
   obtain ⟨u', hu⟩ := hL.1 h2
   exact ⟨_, fun rest X hP hN => ppFRound fs i u u' fs[i] hi hl (get_of hi) hu rest X hP hN⟩
  | false =>
   obtain ⟨u', hu⟩ := hL.2 h2
   exact ⟨_, fun rest X hP hN => ppFBad fs i u u' fs[i] hi (get_of hi) hu rest X hP hN⟩) (fun u => ⟨u, fun rest X hP hN => ppFStop fs u rest X hP hN⟩)
end
theorem ppNo (c : CodeR) (z : Int) (h18 : Pure Pg 18 [codeD c] [.int .i64 z]) (hz : (!(z == 0)) = true) : Pure Pg 20 [codeD c] [.bool false] := qU { hint := qT 20 [(10, .call 18 _ _ h18), (11, qB hz)] }
theorem ppBad (c : CodeR) (h18 : Pure Pg 18 [codeD c] [.int .i64 0]) (u' : Nat → Nat) (hq : RE 50 (.loop (lO 20 4)) (ppF c.funs 0) (ppFE fun _ => 0) .ret [(2, dB false)] (ppFE u')) : Pure Pg 20 [codeD c] [.bool false] :=
 qU { loops := qO 20 4 (qP hq), hint := qT 20 [(10, .call 18 _ _ h18), (14, hLenM Pg funD c.funs)] }
theorem ppGood (c : CodeR) (h18 : Pure Pg 18 [codeD c] [.int .i64 0]) (u' : Nat → Nat) (hq : RE 50 (.loop (lO 20 4)) (ppF c.funs 0) (ppFE fun _ => 0) (.exit 0) [] (ppFE u')) : Pure Pg 20 [codeD c] [.bool true] :=
 qU { loops := qO 20 4 (qP hq), hint := qT 20 [(10, .call 18 _ _ h18), (14, hLenM Pg funD c.funs)] }
theorem plain20 (c : CodeR) (h : c.Good) : Pure Pg 20 [codeD c] [.bool (plainR c)] := by
 have h18 := check18 c h
 unfold plainR
 by_cases hz : checkR c = 0
 ·rw [hz] at h18
  rw [decide_eq_true hz, Bool.true_and]
  have hL := ppFLoop c.funs h.fine.funs h.fine.fn (fun _ => 0)
  cases h2 : c.funs.all funPlain with
  | true => obtain ⟨u', hu⟩ := hL.1 h2; exact ppGood c h18 u' hu
  | false => obtain ⟨u', hu⟩ := hL.2 h2; exact ppBad c h18 u' hu
 ·rw [decide_eq_false hz, Bool.false_and]
  exact ppNo c _ h18 (by simpa using hz)
end Go.Avm
