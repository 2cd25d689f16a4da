/-
  Texts as programs: the reader's functions.
-/
import Derived.Test.YtkhcaamgjjhpeaaGreatDoorTrK
set_option linter.unusedSectionVars false
namespace Go.Avm
open Go.Proofs

abbrev pmL (r : List Pm) : List D := r.map pmD
/-- The function that is built: its parameters so far; the box that holds the reader. -/
abbrev fuE (nm : List UInt8) (p : Int) (v : Nat) (l : List D) : List (Nat × Ent) := [(299842, ⟨1, some (.arr 1 [.d (.str nm), .vec 400000 v 3 l, u8 0, .nils, dI p])⟩), (299672, ⟨1, some (.arr 1 [rP])⟩), (400000, ⟨v, none⟩)]
abbrev fuB (v : Nat) : List (Nat × Ent) := [(299842, ⟨1, none⟩), (299672, ⟨1, none⟩), (400000, ⟨v, none⟩)]
abbrev pclo : AV := .fn 37 [pC 299672, pC 299842]
section
variable {L : List T} (hL : Toks L)
include hL
theorem paramR (nm : List UInt8) (p : Int) (r : List Pm) (hr : r.length < 1000000) (s : RS) (l : s.i < L.length) : RCp L 37 [pC 299672, pC 299842] (fuE nm p r.length (pmL r)) (fun x => fuE nm p (r.length + 1) (pmL r ++ [pmD x])) (fuB r.length) (fun _ => []) s (sParam L s) := by
  unfold sParam
  refine RCp.bind (takeR l hL 1 (by decide)) ?_ ?_
  · exact fun _ _ _ c => hcleanP_of_run okP named { pans := tabP Tryz.prog [(37, 0, 299808, ⟨1, some (pOf c), []⟩)] } 2000 299808 _ 1000000 ⟨rfl, rfl, rfl, by kernel_rfl, by kernel_rfl, by kernel_rfl⟩ (by kernel_rfl) (fun _ => by kernel_rfl)
  · intro t s1 l1 c1
    refine RCp.bind (wantR l1 hL [58]) ?_ ?_
    · exact fun _ _ _ c => hcleanP_of_run okP named { calls := tabC Tryz.prog [(37, 4, 299828, cOf c1)], pans := tabP Tryz.prog [(37, 1, 299868, ⟨1, some (pOf c), []⟩)] } 2000 299808 _ 1000000 ⟨rfl, rfl, rfl, by kernel_rfl, by kernel_rfl, by kernel_rfl⟩ (by kernel_rfl) (fun _ => by kernel_rfl)
    · intro _ s2 l2 c2
      refine RCp.bindp (kind3 hL _ l2) ?_ ?_
      · exact fun _ _ _ c => hcleanP_of_run okP named { calls := tabC Tryz.prog [(37, 4, 299828, cOf c1), (37, 6, 299888, cOf c2)], pans := tabP Tryz.prog [(37, 2, 299888, ⟨6, some (pOf c), [7, 8]⟩)] } 2000 299808 _ 1000000 ⟨rfl, rfl, rfl, by kernel_rfl, by kernel_rfl, by kernel_rfl⟩ (by kernel_rfl) (fun _ => by kernel_rfl)
      · intro ty s3 l3 c3
        exact ⟨l3, hclean_of_run okP named { hint := tabH Tryz.prog [(37, 18, .app (pmL r) 1 (by simp only [List.length_map]; omega))], calls := tabC Tryz.prog [(37, 4, 299828, cOf c1), (37, 6, 299888, cOf c2), (37, 13, 300008, cOf c3)] } 2000 299808 _ 1000000 ⟨rfl, rfl, rfl, by kernel_rfl, by kernel_rfl, by kernel_rfl⟩ (fun _ => by kernel_rfl)⟩
end
def ppL : List (Nat × AV) := [(0, rP), (1, pclo)]
def PpAt (L : List T) (nm : List UInt8) (p : Int) (s : RS) (r : List Pm) : Res (List Pm) → Prop
  | .ok r2 s' => s'.i < L.length ∧ ∀ (rest : Heap) (X : Fix), X.P = Tryz.prog → X.N = 17 → LW X (loopOf Tryz.prog 36 3) ⟨envOf ppL, ovl (rd L s ++ fuE nm p r.length (pmL r)) rest⟩ fun e' S' => e' = .exit 0 ∧ S' = ⟨envOf [(0, rP)], ovl (rd L s' ++ fuE nm p r2.length (pmL r2)) rest⟩
  | .bad q t s' => ∃ v, ∀ (rest : Heap) (X : Fix), X.P = Tryz.prog → X.N = 17 → LW X (loopOf Tryz.prog 36 3) ⟨envOf ppL, ovl (rd L s ++ fuE nm p r.length (pmL r)) rest⟩ fun e' S' => e' = .panic (flt q t) ∧ S' = ⟨envOf [], ovl (rd L s' ++ fuB v) rest⟩
  | .out => True
noncomputable def ppLH {L : List T} {nm : List UInt8} {p : Int} {s : RS} {r : List Pm} {hp' : List (Nat × Ent)} {x : AExit} {l' : List (Nat × AV)} (h : ∀ (rest : Heap) (X : Fix), X.P = Tryz.prog → X.N = 17 → LW X (loopOf Tryz.prog 36 3) ⟨envOf ppL, ovl (rd L s ++ fuE nm p r.length (pmL r)) rest⟩ fun e' S' => e' = x ∧ S' = ⟨envOf l', ovl (hp') rest⟩) : LHint Tryz.prog :=
  ⟨17, loopOf Tryz.prog 36 3, ppL, fun _ => rd L s ++ fuE nm p r.length (pmL r), x, l', fun _ => hp', fun rest X hP hN => (h rest X hP hN).aw⟩
section
variable {L : List T} {s : RS} (l : s.i < L.length) (nm : List UInt8) (p : Int) (r : List Pm)
include l
theorem ppStop (h : isT L s [44] = false) :
    ∀ (rest : Heap) (X : Fix), X.P = Tryz.prog → X.N = 17 → AW X (loopOf Tryz.prog 36 3) ⟨envOf ppL, ovl (rd L s ++ fuE nm p r.length (pmL r)) rest⟩ fun e' S' => e' = .exit 0 ∧ S' = ⟨envOf [(0, rP)], ovl (rd L s ++ fuE nm p r.length (pmL r)) rest⟩ :=
  segC okP named { calls := tabC Tryz.prog [(36, 12, 3017, cOf (mayF l [44] h))] } 2000 36 3000 17 1000000 ([]) ⟨rfl, rfl, rfl, by kernel_rfl, by kernel_rfl, by kernel_rfl⟩ (by kernel_rfl) (by kernel_rfl) (fun _ => by kernel_rfl)
theorem ppBad2 (s1 : RS) (c1 : ∀ rest : Heap, HCall Tryz.prog 39 [rP, .d (.str [44])] (ovl (rd L s) rest) ([.bool true].map .d) (ovl (rd L s1) rest)) (q t : Int) (s2 : RS) (c : ∀ rest : Heap, HPan Tryz.prog 37 [pC 299672, pC 299842] (ovl (rd L s1 ++ fuE nm p r.length (pmL r)) rest) (flt q t) (ovl (rd L s2 ++ fuB r.length) rest)) :
    ∀ (rest : Heap) (X : Fix), X.P = Tryz.prog → X.N = 17 → AW X (loopOf Tryz.prog 36 3) ⟨envOf ppL, ovl (rd L s ++ fuE nm p r.length (pmL r)) rest⟩ fun e' S' => e' = .panic (flt q t) ∧ S' = ⟨envOf [], ovl (rd L s2 ++ fuB r.length) rest⟩ :=
  segC okP named { calls := tabC Tryz.prog [(36, 12, 3017, cOf c1)], pans := tabP Tryz.prog [(36, 4, 3017, ⟨1, some (pOf c), []⟩)] } 2000 36 3000 17 1000000 ([]) ⟨rfl, rfl, rfl, by kernel_rfl, by kernel_rfl, by kernel_rfl⟩ (by kernel_rfl) (by kernel_rfl) (fun _ => by kernel_rfl)
theorem ppGo (s1 : RS) (c1 : ∀ rest : Heap, HCall Tryz.prog 39 [rP, .d (.str [44])] (ovl (rd L s) rest) ([.bool true].map .d) (ovl (rd L s1) rest)) (x : Pm) (s2 : RS) (c : ∀ rest : Heap, HCall Tryz.prog 37 [pC 299672, pC 299842] (ovl (rd L s1 ++ fuE nm p r.length (pmL r)) rest) ([].map .d) (ovl (rd L s2 ++ fuE nm p (r.length + 1) (pmL r ++ [pmD x])) rest)) :
    ∀ (rest : Heap) (X : Fix), X.P = Tryz.prog → X.N = 17 → AW X (loopOf Tryz.prog 36 3) ⟨envOf ppL, ovl (rd L s ++ fuE nm p r.length (pmL r)) rest⟩ fun e' S' => e' = .normal ∧ S' = ⟨envOf ppL, ovl (rd L s2 ++ fuE nm p (r.length + 1) (pmL r ++ [pmD x])) rest⟩ :=
  segC okP named { calls := tabC Tryz.prog [(36, 12, 3017, cOf c1), (36, 14, 3034, cOf c)] } 2000 36 3000 17 1000000 ([]) ⟨rfl, rfl, rfl, by kernel_rfl, by kernel_rfl, by kernel_rfl⟩ (by kernel_rfl) (by kernel_rfl) (fun _ => by kernel_rfl)
end
theorem pm_gr (L : List T) (s : RS) : Gr s (sParam L s) := (take_gr L _ s).bind fun _ s1 _ => ((want_gr L _ s1).bind fun _ s2 _ => ((kind_gr L _ s2).bind fun _ _ _ => Gq.ok _ _).le).le
section
variable {L : List T} (hL : Toks L) (nm : List UInt8) (p : Int)
include hL
theorem ppAll : ∀ (n : Nat) (r : List Pm) (s : RS), s.i < L.length → r.length ≤ s.i → PpAt L nm p s r (sPMore L n r s)
  | 0, _, _, _, _ => trivial
  | n + 1, r, s, l, hr => by
    have hlen : r.length < 1000000 := by have := hL.len; omega
    simp only [sPMore, sMay]
    cases h : isT L s [44] with
    | false => exact ⟨l, fun rest X hP hN => lw_stop (ppStop l nm p r h rest X hP hN) (by simp)⟩
    | true =>
      have hw : sWant L [44] s = .ok (cur L s) s.nx := by simp only [sWant, h]; rfl
      have hn := isT_nx hL l h
      have c1 := mayT l [44] h (cur L s) s.nx (want0 l hL [44] h rfl rfl rfl rfl rfl rfl)
      simp only [cond_true, hw, Res.bind]
      have c := paramR hL nm p r hlen s.nx hn
      have g := pm_gr L s.nx
      revert c g
      cases sParam L s.nx with
      | out => exact fun _ _ => trivial
      | bad q t s2 => exact fun c _ => ⟨_, fun rest X hP hN => lw_stop (ppBad2 l nm p r s.nx c1 q t s2 c rest X hP hN) (by simp)⟩
      | ok x s2 =>
        intro c g
        have g := g x s2 rfl
        have e1 : (r ++ [x]).length = r.length + 1 := by simp
        have c2 := ppAll n (r ++ [x]) s2 c.1 (by simp only [RS.nx] at g; omega)
        have hgo := ppGo l nm p r s.nx c1 x s2 c.2
        have e2 : pmL (r ++ [x]) = pmL r ++ [pmD x] := by simp [pmL]
        simp only
        unfold PpAt at c2 ⊢
        simp only [e1, e2] at c2
        revert c2
        cases sPMore L n (r ++ [x]) s2 with
        | out => exact fun _ => trivial
        | bad q t s3 => exact fun ⟨v, c2⟩ => ⟨v, fun rest X hP hN => lw_step (hgo rest X hP hN) (c2 rest X hP hN)⟩
        | ok a s3 => exact fun c2 => ⟨c2.1, fun rest X hP hN => lw_step (hgo rest X hP hN) (c2.2 rest X hP hN)⟩
end
/-! ### list -/
section
variable {L : List T} (nm : List UInt8) (p : Int) {s s1 s2 s3 s4 : RS} {t1 t2 : T} {q t : Int}
theorem plP1 (c : ∀ rest : Heap, HPan Tryz.prog 34 [rP, .d (.str [40])] (ovl (rd L s) rest) (flt q t) (ovl (rd L s1) rest)) :
    ∀ rest : Heap, HPan Tryz.prog 36 [rP, pclo] (ovl (rd L s ++ fuE nm p 0 []) rest) (flt q t) (ovl (rd L s1 ++ fuB 0) rest) :=
  hcleanP_of_run okP named { pans := tabP Tryz.prog [(36, 0, 1000, ⟨1, some (pOf c), []⟩)] } 2000 1000 _ 1000000 ⟨rfl, rfl, rfl, by kernel_rfl, by kernel_rfl, by kernel_rfl⟩ (by kernel_rfl) (fun _ => by kernel_rfl)
theorem plE0 (l1 : s1.i < L.length) (c1 : ∀ rest : Heap, HCall Tryz.prog 34 [rP, .d (.str [40])] (ovl (rd L s) rest) ([tD t1].map .d) (ovl (rd L s1) rest)) (h : isT L s1 [41] = true) (c2 : ∀ rest : Heap, HCall Tryz.prog 34 [rP, .d (.str [41])] (ovl (rd L s1) rest) ([tD t2].map .d) (ovl (rd L s2) rest)) :
    ∀ rest : Heap, HCall Tryz.prog 36 [rP, pclo] (ovl (rd L s ++ fuE nm p 0 []) rest) ([].map .d) (ovl (rd L s2 ++ fuE nm p 0 []) rest) :=
  hclean_of_run okP named { calls := tabC Tryz.prog [(36, 5, 1017, cOf c1), (36, 7, 1034, cOf (isRT l1 [41] h)), (36, 16, 1068, cOf c2)] } 2000 1000 _ 1000000 ⟨rfl, rfl, rfl, by kernel_rfl, by kernel_rfl, by kernel_rfl⟩ (fun _ => by kernel_rfl)
theorem plE1 (l1 : s1.i < L.length) (c1 : ∀ rest : Heap, HCall Tryz.prog 34 [rP, .d (.str [40])] (ovl (rd L s) rest) ([tD t1].map .d) (ovl (rd L s1) rest)) (h : isT L s1 [41] = true) (c2 : ∀ rest : Heap, HPan Tryz.prog 34 [rP, .d (.str [41])] (ovl (rd L s1) rest) (flt q t) (ovl (rd L s2) rest)) :
    ∀ rest : Heap, HPan Tryz.prog 36 [rP, pclo] (ovl (rd L s ++ fuE nm p 0 []) rest) (flt q t) (ovl (rd L s2 ++ fuB 0) rest) :=
  hcleanP_of_run okP named { calls := tabC Tryz.prog [(36, 5, 1017, cOf c1), (36, 7, 1034, cOf (isRT l1 [41] h))], pans := tabP Tryz.prog [(36, 5, 1051, ⟨1, some (pOf c2), []⟩)] } 2000 1000 _ 1000000 ⟨rfl, rfl, rfl, by kernel_rfl, by kernel_rfl, by kernel_rfl⟩ (by kernel_rfl) (fun _ => by kernel_rfl)
theorem plB1 (l1 : s1.i < L.length) (c1 : ∀ rest : Heap, HCall Tryz.prog 34 [rP, .d (.str [40])] (ovl (rd L s) rest) ([tD t1].map .d) (ovl (rd L s1) rest)) (h : isT L s1 [41] = false) (c2 : ∀ rest : Heap, HPan Tryz.prog 37 [pC 299672, pC 299842] (ovl (rd L s1 ++ fuE nm p 0 []) rest) (flt q t) (ovl (rd L s2 ++ fuB 0) rest)) :
    ∀ rest : Heap, HPan Tryz.prog 36 [rP, pclo] (ovl (rd L s ++ fuE nm p 0 []) rest) (flt q t) (ovl (rd L s2 ++ fuB 0) rest) :=
  hcleanP_of_run okP named { calls := tabC Tryz.prog [(36, 5, 1017, cOf c1), (36, 7, 1034, cOf (isRT l1 [41] h))], pans := tabP Tryz.prog [(36, 2, 1051, ⟨1, some (pOf c2), []⟩)] } 2000 1000 _ 1000000 ⟨rfl, rfl, rfl, by kernel_rfl, by kernel_rfl, by kernel_rfl⟩ (by kernel_rfl) (fun _ => by kernel_rfl)
theorem plB2 (l1 : s1.i < L.length) (c1 : ∀ rest : Heap, HCall Tryz.prog 34 [rP, .d (.str [40])] (ovl (rd L s) rest) ([tD t1].map .d) (ovl (rd L s1) rest)) (h0 : isT L s1 [41] = false) (x : Pm) (c2 : ∀ rest : Heap, HCall Tryz.prog 37 [pC 299672, pC 299842] (ovl (rd L s1 ++ fuE nm p 0 []) rest) ([].map .d) (ovl (rd L s2 ++ fuE nm p 1 [pmD x]) rest)) (v : Nat) (h : ∀ (rest : Heap) (X : Fix), X.P = Tryz.prog → X.N = 17 → LW X (loopOf Tryz.prog 36 3) ⟨envOf ppL, ovl (rd L s2 ++ fuE nm p [x].length (pmL [x])) rest⟩ fun e' S' => e' = .panic (flt q t) ∧ S' = ⟨envOf [], ovl (rd L s3 ++ fuB v) rest⟩) :
    ∀ rest : Heap, HPan Tryz.prog 36 [rP, pclo] (ovl (rd L s ++ fuE nm p 0 []) rest) (flt q t) (ovl (rd L s3 ++ fuB v) rest) :=
  hcleanP_of_run okP named { loops := fun f q => if f = 36 then (if q = 3 then some (ppLH (r := [x]) h) else none) else none, calls := tabC Tryz.prog [(36, 5, 1017, cOf c1), (36, 7, 1034, cOf (isRT l1 [41] h0)), (36, 10, 1068, cOf c2)] } 2000 1000 _ 1000000 ⟨rfl, rfl, rfl, by kernel_rfl, by kernel_rfl, by kernel_rfl⟩ (by kernel_rfl) (fun _ => by kernel_rfl)
theorem plB3 (l1 : s1.i < L.length) (c1 : ∀ rest : Heap, HCall Tryz.prog 34 [rP, .d (.str [40])] (ovl (rd L s) rest) ([tD t1].map .d) (ovl (rd L s1) rest)) (h0 : isT L s1 [41] = false) (x : Pm) (c2 : ∀ rest : Heap, HCall Tryz.prog 37 [pC 299672, pC 299842] (ovl (rd L s1 ++ fuE nm p 0 []) rest) ([].map .d) (ovl (rd L s2 ++ fuE nm p 1 [pmD x]) rest)) (r : List Pm) (h : ∀ (rest : Heap) (X : Fix), X.P = Tryz.prog → X.N = 17 → LW X (loopOf Tryz.prog 36 3) ⟨envOf ppL, ovl (rd L s2 ++ fuE nm p [x].length (pmL [x])) rest⟩ fun e' S' => e' = .exit 0 ∧ S' = ⟨envOf [(0, rP)], ovl (rd L s3 ++ fuE nm p r.length (pmL r)) rest⟩) (c3 : ∀ rest : Heap, HPan Tryz.prog 34 [rP, .d (.str [41])] (ovl (rd L s3) rest) (flt q t) (ovl (rd L s4) rest)) :
    ∀ rest : Heap, HPan Tryz.prog 36 [rP, pclo] (ovl (rd L s ++ fuE nm p 0 []) rest) (flt q t) (ovl (rd L s4 ++ fuB r.length) rest) :=
  hcleanP_of_run okP named { loops := fun f q => if f = 36 then (if q = 3 then some (ppLH (r := [x]) h) else none) else none, calls := tabC Tryz.prog [(36, 5, 1017, cOf c1), (36, 7, 1034, cOf (isRT l1 [41] h0)), (36, 10, 1068, cOf c2)], pans := tabP Tryz.prog [(36, 5, 1068, ⟨1, some (pOf c3), []⟩)] } 2000 1000 _ 1000000 ⟨rfl, rfl, rfl, by kernel_rfl, by kernel_rfl, by kernel_rfl⟩ (by kernel_rfl) (fun _ => by kernel_rfl)
theorem plOk (l1 : s1.i < L.length) (c1 : ∀ rest : Heap, HCall Tryz.prog 34 [rP, .d (.str [40])] (ovl (rd L s) rest) ([tD t1].map .d) (ovl (rd L s1) rest)) (h0 : isT L s1 [41] = false) (x : Pm) (c2 : ∀ rest : Heap, HCall Tryz.prog 37 [pC 299672, pC 299842] (ovl (rd L s1 ++ fuE nm p 0 []) rest) ([].map .d) (ovl (rd L s2 ++ fuE nm p 1 [pmD x]) rest)) (r : List Pm) (h : ∀ (rest : Heap) (X : Fix), X.P = Tryz.prog → X.N = 17 → LW X (loopOf Tryz.prog 36 3) ⟨envOf ppL, ovl (rd L s2 ++ fuE nm p [x].length (pmL [x])) rest⟩ fun e' S' => e' = .exit 0 ∧ S' = ⟨envOf [(0, rP)], ovl (rd L s3 ++ fuE nm p r.length (pmL r)) rest⟩) (c3 : ∀ rest : Heap, HCall Tryz.prog 34 [rP, .d (.str [41])] (ovl (rd L s3) rest) ([tD t2].map .d) (ovl (rd L s4) rest)) :
    ∀ rest : Heap, HCall Tryz.prog 36 [rP, pclo] (ovl (rd L s ++ fuE nm p 0 []) rest) ([].map .d) (ovl (rd L s4 ++ fuE nm p r.length (pmL r)) rest) :=
  hclean_of_run okP named { loops := fun f q => if f = 36 then (if q = 3 then some (ppLH (r := [x]) h) else none) else none, calls := tabC Tryz.prog [(36, 5, 1017, cOf c1), (36, 7, 1034, cOf (isRT l1 [41] h0)), (36, 10, 1068, cOf c2), (36, 16, 1085, cOf c3)] } 2000 1000 _ 1000000 ⟨rfl, rfl, rfl, by kernel_rfl, by kernel_rfl, by kernel_rfl⟩ (fun _ => by kernel_rfl)
end
def PaC (L : List T) (nm : List UInt8) (p : Int) (s : RS) : Res (List Pm) → Prop
  | .ok r s' => s'.i < L.length ∧ ∀ rest : Heap, HCall Tryz.prog 36 [rP, pclo] (ovl (rd L s ++ fuE nm p 0 []) rest) ([].map .d) (ovl (rd L s' ++ fuE nm p r.length (pmL r)) rest)
  | .bad q t s' => ∃ v, ∀ rest : Heap, HPan Tryz.prog 36 [rP, pclo] (ovl (rd L s ++ fuE nm p 0 []) rest) (flt q t) (ovl (rd L s' ++ fuB v) rest)
  | .out => True
theorem paramsR {L : List T} (hL : Toks L) (n : Nat) (nm : List UInt8) (p : Int) (s : RS) (l : s.i < L.length) : PaC L nm p s (sParams L n s) := by
  unfold sParams
  have c1 := wantR l hL [40]
  have g1 := want_gr L [40] s
  revert c1 g1
  cases sWant L [40] s with
  | out => exact fun _ _ => trivial
  | bad q t s1 => exact fun c1 _ => ⟨0, plP1 nm p c1⟩
  | ok t1 s1 =>
    intro c1 g1
    have g1 := g1 t1 s1 rfl
    have l1 := c1.1
    simp only [Res.bind]
    cases h41 : isT L s1 [41] with
    | true =>
      have c2 := wantR l1 hL [41]
      simp only [cond_true]
      revert c2
      cases sWant L [41] s1 with
      | out => exact fun _ => trivial
      | bad q t s2 => exact fun c2 => ⟨0, plE1 nm p l1 c1.2 h41 c2⟩
      | ok t2 s2 => exact fun c2 => ⟨c2.1, plE0 nm p l1 c1.2 h41 c2.2⟩
    | false =>
      have c2 := paramR hL nm p [] (by decide) s1 l1
      have g2 := pm_gr L s1
      simp only [cond_false]
      revert c2 g2
      cases sParam L s1 with
      | out => exact fun _ _ => trivial
      | bad q t s2 => exact fun c2 _ => ⟨0, plB1 nm p l1 c1.2 h41 c2⟩
      | ok x s2 =>
        intro c2 g2
        have g2 := g2 x s2 rfl
        have c3 := ppAll hL nm p n [x] s2 c2.1 (by simp only [List.length_cons, List.length_nil]; omega)
        simp only
        revert c3
        cases sPMore L n [x] s2 with
        | out => exact fun _ => trivial
        | bad q t s3 => exact fun ⟨v, c3⟩ => ⟨v, plB2 nm p l1 c1.2 h41 x c2.2 v c3⟩
        | ok r s3 =>
          rintro ⟨l3, c3⟩
          have c4 := wantR l3 hL [41]
          simp only
          revert c4
          cases sWant L [41] s3 with
          | out => exact fun _ => trivial
          | bad q t s4 => exact fun c4 => ⟨_, plB3 nm p l1 c1.2 h41 x c2.2 r c3 c4⟩
          | ok t4 s4 => exact fun c4 => ⟨c4.1, plOk nm p l1 c1.2 h41 x c2.2 r c3 c4.2⟩
end Go.Avm
