/-
  Texts xs programs: the reader's expressions of signs.
-/
import Derived.Test.YtkhcaamgjjhpeaaGreatDoorTrD
import Derived.Test.YtkhcaamgjjhpeaaGreatDoorTrE
set_option linter.unusedSectionVars false
namespace Go.Avm
open Go.Proofs

/-- An expression's cells. -/
def exC : Ex → List AV
  | .mk k o nm n p xs => [u8 k, u8 o, .d (.str nm), dI n, dI p, .d (.ro (exL xs))]
def ex0 : Ex := .mk 0 0 [] 0 0 []
def exE (K : Nat) (e : Ex) : Nat × Ent := (K, ⟨1, some (.arr 1 (exC e))⟩)
def z0E (K : Nat) : Nat × Ent := (K, ⟨1, some (.arr 1 [u8 0, u8 0, .d (.str []), dI 0, dI 0, .nils])⟩)
def pC (K : Nat) : AV := .ptr K 1 0 0 1
/-! ### expr's loop -/
def tlL (least : Int) : List (Nat × AV) := [(0, rP), (1, dI least), (4, pC 1004), (5, pC 1083)]
def tlH (L : List T) (s : RS) (e : Ex) : List (Nat × Ent) := rd L s ++ [z0E 1004, exE 1083 e]
def tlR (L : List T) (s : RS) (e : Ex) : List (Nat × Ent) := rd L s ++ [exE 1004 e, (1083, ⟨1, none⟩)]
def tlB (L : List T) (s : RS) : List (Nat × Ent) := rd L s ++ [(1004, ⟨1, none⟩), (1083, ⟨1, none⟩)]
def TlAt (L : List T) (least : Int) (s : RS) (e : Ex) : Res Ex → Prop
  | .ok a s' => s'.i < L.length ∧ ∀ (rest : Heap) (X : Fix), X.P = Tryz.prog → X.N = 39 → LW X (loopOf Tryz.prog 77 2) ⟨envOf (tlL least), ovl (tlH L s e) rest⟩ fun e' S' => e' = .ret ∧ S' = ⟨envOf [(4, pC 1004)], ovl (tlR L s' a) rest⟩
  | .bad p q s' => ∀ (rest : Heap) (X : Fix), X.P = Tryz.prog → X.N = 39 → LW X (loopOf Tryz.prog 77 2) ⟨envOf (tlL least), ovl (tlH L s e) rest⟩ fun e' S' => e' = .panic (flt p q) ∧ S' = ⟨envOf [], ovl (tlB L s') rest⟩
  | .out => True
section
variable {L : List T} (hL : Toks L) {s : RS} (l : s.i < L.length) (least : Int) (k o : Int) (nm : List UInt8) (n p : Int) (xs : List Ex)
include l hL
theorem tlStop (h : ((sSign L least s).1 == 0) = true) : ∀ (rest : Heap) (X : Fix), X.P = Tryz.prog → X.N = 39 → AW X (loopOf Tryz.prog 77 2) ⟨envOf (tlL least), ovl (tlH L s (.mk k o nm n p xs)) rest⟩ fun e' S' => e' = .ret ∧ S' = ⟨envOf [(4, pC 1004)], ovl (tlR L s (.mk k o nm n p xs)) rest⟩ :=
  segC okP named { hint := tabH Tryz.prog [(77, 18, hB Tryz.prog ((sSign L least s).1 == 0) true h)], calls := tabC Tryz.prog [(77, 14, 2078, cOf (signR l least))] } 2000 77 2000 39 1000000 ([]) ⟨rfl, rfl, rfl, by kernel_rfl, by kernel_rfl, by kernel_rfl⟩ (by kernel_rfl) (by kernel_rfl) (fun _ => by kernel_rfl)
theorem tlBad (h : ((sSign L least s).1 == 0) = false) (q r : Int) (s2 : RS) (c : ∀ rest : Heap, HPan Tryz.prog 77 [rP, dI (w64 ((sSign L least s).2 + 1))] (ovl (rd L s.nx) rest) (flt q r) (ovl (rd L s2) rest)) :
    ∀ (rest : Heap) (X : Fix), X.P = Tryz.prog → X.N = 39 → AW X (loopOf Tryz.prog 77 2) ⟨envOf (tlL least), ovl (tlH L s (.mk k o nm n p xs)) rest⟩ fun e' S' => e' = .panic (flt q r) ∧ S' = ⟨envOf [], ovl (tlB L s2) rest⟩ :=
  segC okP named { hint := tabH Tryz.prog [(77, 18, hB Tryz.prog ((sSign L least s).1 == 0) false h), (77, 27, hSucc Tryz.prog s.i (by have := hL.len; omega))], calls := tabC Tryz.prog [(77, 14, 2078, cOf (signR l least)), (77, 21, 2390, cOf (nowR l))], pans := tabP Tryz.prog [(77, 7, 2780, ⟨6, some (pOf c), []⟩)] } 2000 77 2000 39 1000000 ([]) ⟨rfl, rfl, rfl, by kernel_rfl, by kernel_rfl, by kernel_rfl⟩ (by kernel_rfl) (by kernel_rfl) (fun _ => by kernel_rfl)
theorem tlGo (h : ((sSign L least s).1 == 0) = false) (k2 o2 : Int) (nm2 : List UInt8) (n2 p2 : Int) (xs2 : List Ex) (s2 : RS) (c : ∀ rest : Heap, HCall Tryz.prog 77 [rP, dI (w64 ((sSign L least s).2 + 1))] (ovl (rd L s.nx) rest) ([exD (.mk k2 o2 nm2 n2 p2 xs2)].map .d) (ovl (rd L s2) rest)) :
    ∀ (rest : Heap) (X : Fix), X.P = Tryz.prog → X.N = 39 → AW X (loopOf Tryz.prog 77 2) ⟨envOf (tlL least), ovl (tlH L s (.mk k o nm n p xs)) rest⟩ fun e' S' => e' = .normal ∧ S' = ⟨envOf (tlL least), ovl (tlH L s2 (.mk 9 (sSign L least s).1 [] 0 (cur L s).p [.mk k o nm n p xs, .mk k2 o2 nm2 n2 p2 xs2])) rest⟩ :=
  segC okP named { hint := tabH Tryz.prog [(77, 18, hB Tryz.prog ((sSign L least s).1 == 0) false h), (77, 27, hSucc Tryz.prog s.i (by have := hL.len; omega))], calls := tabC Tryz.prog [(77, 14, 2078, cOf (signR l least)), (77, 21, 2390, cOf (nowR l)), (77, 36, 3014, cOf c)] } 2000 77 2000 39 1000000 ([(1083, 5)]) ⟨rfl, rfl, rfl, by kernel_rfl, by kernel_rfl, by kernel_rfl⟩ (by kernel_rfl) (by kernel_rfl) (fun _ => by kernel_rfl)
end
noncomputable def tlLH {L : List T} {least : Int} {s : RS} {e : Ex} {hp' : List (Nat × Ent)} {x : AExit} {l' : List (Nat × AV)} (h : ∀ (rest : Heap) (X : Fix), X.P = Tryz.prog → X.N = 39 → LW X (loopOf Tryz.prog 77 2) ⟨envOf (tlL least), ovl (tlH L s e) rest⟩ fun e' S' => e' = x ∧ S' = ⟨envOf l', ovl hp' rest⟩) : LHint Tryz.prog :=
  ⟨39, loopOf Tryz.prog 77 2, tlL least, fun _ => tlH L s e, x, l', fun _ => hp', fun rest X hP hN => (h rest X hP hN).aw⟩
theorem exprOk {L : List T} {least : Int} {s s1 s2 : RS} {k o : Int} {nm : List UInt8} {n p : Int} {xs : List Ex} {k2 o2 : Int} {nm2 : List UInt8} {n2 p2 : Int} {xs2 : List Ex}
    (c : ∀ rest : Heap, HCall Tryz.prog 99 [rP] (ovl (rd L s) rest) ([exD (.mk k o nm n p xs)].map .d) (ovl (rd L s1) rest))
    (h : ∀ (rest : Heap) (X : Fix), X.P = Tryz.prog → X.N = 39 → LW X (loopOf Tryz.prog 77 2) ⟨envOf (tlL least), ovl (tlH L s1 (.mk k o nm n p xs)) rest⟩ fun e' S' => e' = .ret ∧ S' = ⟨envOf [(4, pC 1004)], ovl (tlR L s2 (.mk k2 o2 nm2 n2 p2 xs2)) rest⟩) :
    ∀ rest : Heap, HCall Tryz.prog 77 [rP, dI least] (ovl (rd L s) rest) ([exD (.mk k2 o2 nm2 n2 p2 xs2)].map .d) (ovl (rd L s2) rest) :=
  hclean_of_run okP named { loops := fun f q => if f = 77 then (if q = 2 then some (tlLH h) else none) else none, calls := tabC Tryz.prog [(77, 10, 1078, cOf c)] } 2000 1000 _ 1000000 ⟨rfl, rfl, rfl, by kernel_rfl, by kernel_rfl, by kernel_rfl⟩ (fun _ => by kernel_rfl)
theorem exprBad {L : List T} {least : Int} {s s1 s2 : RS} {k o : Int} {nm : List UInt8} {n p : Int} {xs : List Ex} {q r : Int}
    (c : ∀ rest : Heap, HCall Tryz.prog 99 [rP] (ovl (rd L s) rest) ([exD (.mk k o nm n p xs)].map .d) (ovl (rd L s1) rest))
    (h : ∀ (rest : Heap) (X : Fix), X.P = Tryz.prog → X.N = 39 → LW X (loopOf Tryz.prog 77 2) ⟨envOf (tlL least), ovl (tlH L s1 (.mk k o nm n p xs)) rest⟩ fun e' S' => e' = .panic (flt q r) ∧ S' = ⟨envOf [], ovl (tlB L s2) rest⟩) :
    ∀ rest : Heap, HPan Tryz.prog 77 [rP, dI least] (ovl (rd L s) rest) (flt q r) (ovl (rd L s2) rest) :=
  hcleanP_of_run okP named { loops := fun f q => if f = 77 then (if q = 2 then some (tlLH h) else none) else none, calls := tabC Tryz.prog [(77, 10, 1078, cOf c)] } 2000 1000 _ 1000000 ⟨rfl, rfl, rfl, by kernel_rfl, by kernel_rfl, by kernel_rfl⟩ (by kernel_rfl) (fun _ => by kernel_rfl)
theorem exprOne {L : List T} {least : Int} {s s1 : RS} {q r : Int} (c : ∀ rest : Heap, HPan Tryz.prog 99 [rP] (ovl (rd L s) rest) (flt q r) (ovl (rd L s1) rest)) :
    ∀ rest : Heap, HPan Tryz.prog 77 [rP, dI least] (ovl (rd L s) rest) (flt q r) (ovl (rd L s1) rest) :=
  hcleanP_of_run okP named { pans := tabP Tryz.prog [(77, 1, 1039, ⟨1, some (pOf c), []⟩)] } 2000 1000 _ 1000000 ⟨rfl, rfl, rfl, by kernel_rfl, by kernel_rfl, by kernel_rfl⟩ (by kernel_rfl) (fun _ => by kernel_rfl)
section
variable {L : List T} (hL : Toks L)
include hL
theorem tailStep (n : Nat) (ihE : ∀ (k : Int) (s : RS), s.i < L.length → RC L 77 [rP, dI k] (fun e => [exD e]) s (sExpr L n k s)) (ihT : ∀ (k : Int) (e : Ex) (s : RS), s.i < L.length → TlAt L k s e (sTail L n k e s))
    (least : Int) (e : Ex) (s : RS) (l : s.i < L.length) : TlAt L least s e (sTail L (n + 1) least e s) := by
  obtain ⟨k, o, nm, m, p, xs⟩ := e
  simp only [sTail]
  cases h : ((sSign L least s).1 == 0) with
  | true => exact ⟨l, fun rest X hP hN => lw_stop (tlStop hL l least k o nm m p xs h rest X hP hN) (by simp)⟩
  | false =>
    have ln : s.nx.i < L.length := sign_some l least hL signs (by simpa [sSign] using h)
    have c := ihE (w64 ((sSign L least s).2 + 1)) s.nx ln
    simp only [cond_false]
    revert c
    cases sExpr L n (w64 ((sSign L least s).2 + 1)) s.nx with
    | out => exact fun _ => trivial
    | bad q r s2 => exact fun c rest X hP hN => lw_stop (tlBad hL l least k o nm m p xs h q r s2 c rest X hP hN) (by simp)
    | ok e2 s2 =>
      obtain ⟨k2, o2, nm2, n2, p2, xs2⟩ := e2
      intro c
      have c2 := ihT least (.mk 9 (sSign L least s).1 [] 0 (cur L s).p [.mk k o nm m p xs, .mk k2 o2 nm2 n2 p2 xs2]) s2 c.1
      simp only [Res.bind]
      revert c2
      cases sTail L n least (.mk 9 (sSign L least s).1 [] 0 (cur L s).p [.mk k o nm m p xs, .mk k2 o2 nm2 n2 p2 xs2]) s2 with
      | out => exact fun _ => trivial
      | bad q r s3 => exact fun c2 rest X hP hN => lw_step (tlGo hL l least k o nm m p xs h k2 o2 nm2 n2 p2 xs2 s2 c.2 rest X hP hN) (c2 rest X hP hN)
      | ok a s3 => exact fun c2 => ⟨c2.1, fun rest X hP hN => lw_step (tlGo hL l least k o nm m p xs h k2 o2 nm2 n2 p2 xs2 s2 c.2 rest X hP hN) (c2.2 rest X hP hN)⟩
theorem exprStep (n : Nat) (ih1 : ∀ s : RS, s.i < L.length → RC L 99 [rP] (fun e => [exD e]) s (sOne L n s)) (ihT : ∀ (k : Int) (e : Ex) (s : RS), s.i < L.length → TlAt L k s e (sTail L n k e s))
    (least : Int) (s : RS) (l : s.i < L.length) : RC L 77 [rP, dI least] (fun e => [exD e]) s (sExpr L (n + 1) least s) := by
  simp only [sExpr]
  refine RC.bind (ih1 s l) (fun q r s1 c => exprOne c) (fun e s1 l1 c => ?_)
  have c2 := ihT least e s1 l1
  obtain ⟨k, o, nm, m, p, xs⟩ := e
  revert c2
  cases sTail L n least (.mk k o nm m p xs) s1 with
  | out => exact fun _ => trivial
  | bad q r s3 => exact fun c2 => exprBad c c2
  | ok a s3 =>
    obtain ⟨k2, o2, nm2, n2, p2, xs2⟩ := a
    exact fun c2 => ⟨c2.1, exprOk c c2.2⟩
end
end Go.Avm
