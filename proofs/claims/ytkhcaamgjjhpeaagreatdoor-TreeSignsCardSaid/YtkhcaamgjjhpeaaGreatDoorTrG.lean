/-
  Texts as programs: the reader's calls: what stands between brackets.
-/
import Derived.Test.YtkhcaamgjjhpeaaGreatDoorTrF
set_option linter.unusedSectionVars false
namespace Go.Avm
open Go.Proofs

def boxE : Nat × Ent := (1003, ⟨1, some (.arr 1 [rP])⟩)
def elA (l : List Ex) : List AV := l.map fun e => .d (exD e)
/-- The call that is built, with its arguments so far. -/
def caE (nm : List UInt8) (p : Int) (a : AV) : Nat × Ent := (1082, ⟨1, some (.arr 1 [u8 5, u8 0, .d (.str nm), dI 0, dI p, a])⟩)
def clo : AV := .fn 124 [pC 1082, pC 1003]
/-- Data alone. -/
theorem renL_data (ρ : Nat → Nat) : ∀ {l : List AV}, (∀ x ∈ l, ∃ d, x = .d d) → renL ρ l = l
  | [], _ => rfl
  | x :: l, h => by
    obtain ⟨d, rfl⟩ := h x (by simp)
    have ih := renL_data ρ (l := l) fun y hy => h y (by simp [hy])
    simp only [renL, renA, ih]
theorem elA_data (r : List Ex) : ∀ x ∈ elA r, ∃ d, x = .d d := fun x hx => by
  obtain ⟨e, _, rfl⟩ := List.mem_map.1 hx
  exact ⟨_, rfl⟩
def zD : D := .agg [.int .u8 0, .int .u8 0, .str [], .int .i64 0, .int .i64 0, .ro []]
section
variable {L : List T} (hL : Toks L) {s : RS} (l : s.i < L.length) (nm : List UInt8) (p : Int)
theorem cloA (k2 o2 : Int) (nm2 : List UInt8) (n2 p2 : Int) (xs2 : List Ex) (s2 : RS) (c : ∀ rest : Heap, HCall Tryz.prog 77 [rP, dI 1] (ovl (rd L s) rest) ([exD (.mk k2 o2 nm2 n2 p2 xs2)].map .d) (ovl (rd L s2) rest)) :
    ∀ rest : Heap, HCall Tryz.prog 124 [pC 1082, pC 1003] (ovl (rd L s ++ [caE nm p .nils, boxE, (400000, ⟨0, none⟩)]) rest) ([].map .d) (ovl (rd L s2 ++ [caE nm p (.sl 400000 2 0 1 6), boxE, (400000, ⟨2, some (.arr 6 (elA [.mk k2 o2 nm2 n2 p2 xs2]))⟩)]) rest) :=
  hclean_of_run okP named { nils := fun f r => if f = 124 then (if r = 0 then some ⟨1082, 5, 400000, 6, false, true⟩ else none) else none, calls := tabC Tryz.prog [(124, 5, 2033, cOf c)] } 2000 2000 _ 1000000 ⟨rfl, rfl, rfl, by kernel_rfl, by kernel_rfl, by kernel_rfl⟩ (fun _ => by kernel_rfl)
theorem cloData (r0 : List Ex) (n : Nat) (e : D) : ∀ x ∈ ((elA r0).take r0.length ++ [AV.d zD]).set n (AV.d e), ∃ d, x = .d d := fun x hx => by
  rcases List.mem_or_eq_of_mem_set hx with hx | rfl
  · rcases List.mem_append.1 hx with hx | hx
    · exact elA_data r0 x (List.mem_of_mem_take hx)
    · simp only [List.mem_singleton] at hx; exact ⟨_, hx⟩
  · exact ⟨_, rfl⟩
theorem cloB (v : Nat) (r0 : List Ex) (hr : r0.length < 1000000) (k2 o2 : Int) (nm2 : List UInt8) (n2 p2 : Int) (xs2 : List Ex) (s2 : RS) (c : ∀ rest : Heap, HCall Tryz.prog 77 [rP, dI 1] (ovl (rd L s) rest) ([exD (.mk k2 o2 nm2 n2 p2 xs2)].map .d) (ovl (rd L s2) rest)) :
    ∀ rest : Heap, HCall Tryz.prog 124 [pC 1082, pC 1003] (ovl (rd L s ++ [caE nm p (.sl 400000 v 0 r0.length 6), boxE, (400000, ⟨v, some (.arr 6 (elA r0))⟩)]) rest) ([].map .d) (ovl (rd L s2 ++ [caE nm p (.sl 400000 (v + 1) 0 (r0.length + 1) 6), boxE, (400000, ⟨v + 1, some (.arr 6 (((elA r0).take r0.length ++ [AV.d zD]).set (0 + r0.length) (AV.d (exD (.mk k2 o2 nm2 n2 p2 xs2)))))⟩)]) rest) :=
  hclean_of_run okP named { hint := tabH Tryz.prog [(124, 8, .apps (elA r0) r0.length 1 ⟨by simp [elA], by omega⟩), (124, 9, .inb (r0.length : Int) (r0.length + 1) (by omega) (by simp)), (124, 100008, .elt ((elA r0).take r0.length ++ [AV.d zD]) (0 + r0.length) (AV.d zD) (by simp [elA]))], calls := tabC Tryz.prog [(124, 5, 2033, cOf c)] } 2000 2000 _ 1000000 ⟨rfl, rfl, rfl, by kernel_rfl, by simp [renE, renO, renL, renA, rnK, caE, boxE, pC, rd, rP, rdC, u8, renL_data _ (elA_data r0)], by simp [renE, renO, renL, renA, rnK, caE, boxE, pC, rd, rP, rdC, u8, renL_data _ (cloData r0 _ _)]⟩ (fun _ => by kernel_rfl)
end
def acc0 (nm : List UInt8) (p : Int) : List (Nat × Ent) := [caE nm p .nils, boxE, (400000, ⟨0, none⟩)]
def accN (nm : List UInt8) (p : Int) (r : List Ex) : List (Nat × Ent) := [caE nm p (.sl 400000 (r.length + 1) 0 r.length 6), boxE, (400000, ⟨r.length + 1, some (.arr 6 (elA r))⟩)]
def accB (v : Nat) : List (Nat × Ent) := [(1082, ⟨1, none⟩), (1003, ⟨1, none⟩), (400000, ⟨v, none⟩)]
def accE (nm : List UInt8) (p : Int) : List Ex → List (Nat × Ent)
  | [] => acc0 nm p
  | r => accN nm p r
section
variable {L : List T} (hL : Toks L) {s : RS} (l : s.i < L.length) (nm : List UInt8) (p : Int)
theorem clo0 (e : Ex) (s2 : RS) (c : ∀ rest : Heap, HCall Tryz.prog 77 [rP, dI 1] (ovl (rd L s) rest) ([exD e].map .d) (ovl (rd L s2) rest)) :
    ∀ rest : Heap, HCall Tryz.prog 124 [pC 1082, pC 1003] (ovl (rd L s ++ acc0 nm p) rest) ([].map .d) (ovl (rd L s2 ++ accN nm p [e]) rest) := by
  obtain ⟨k2, o2, nm2, n2, p2, xs2⟩ := e
  exact cloA nm p k2 o2 nm2 n2 p2 xs2 s2 c
theorem cloN (r : List Ex) (hr : r.length < 1000000) (e : Ex) (s2 : RS) (c : ∀ rest : Heap, HCall Tryz.prog 77 [rP, dI 1] (ovl (rd L s) rest) ([exD e].map .d) (ovl (rd L s2) rest)) :
    ∀ rest : Heap, HCall Tryz.prog 124 [pC 1082, pC 1003] (ovl (rd L s ++ accN nm p r) rest) ([].map .d) (ovl (rd L s2 ++ accN nm p (r ++ [e])) rest) := by
  obtain ⟨k2, o2, nm2, n2, p2, xs2⟩ := e
  have h := cloB nm p (r.length + 1) r hr k2 o2 nm2 n2 p2 xs2 s2 c
  have e1 : ((elA r).take r.length ++ [AV.d zD]).set (0 + r.length) (AV.d (exD (.mk k2 o2 nm2 n2 p2 xs2))) = elA (r ++ [.mk k2 o2 nm2 n2 p2 xs2]) := by
    have hl : r.length = (elA r).length := by simp [elA]
    rw [Nat.zero_add, hl, List.take_length]
    simp [elA]
  rw [e1] at h
  have e2 : r.length + 1 = (r ++ [Ex.mk k2 o2 nm2 n2 p2 xs2]).length := by simp
  simp only [accN, ← e2]
  exact h
theorem cloP0 (q t : Int) (s2 : RS) (c : ∀ rest : Heap, HPan Tryz.prog 77 [rP, dI 1] (ovl (rd L s) rest) (flt q t) (ovl (rd L s2) rest)) :
    ∀ rest : Heap, HPan Tryz.prog 124 [pC 1082, pC 1003] (ovl (rd L s ++ acc0 nm p) rest) (flt q t) (ovl (rd L s2 ++ accB 0) rest) :=
  hcleanP_of_run okP named { pans := tabP Tryz.prog [(124, 0, 2000, ⟨3, some (pOf c), [4, 5]⟩)] } 2000 2000 _ 1000000 ⟨rfl, rfl, rfl, by kernel_rfl, by kernel_rfl, by kernel_rfl⟩ (by kernel_rfl) (fun _ => by kernel_rfl)
theorem cloPN (r : List Ex) (q t : Int) (s2 : RS) (c : ∀ rest : Heap, HPan Tryz.prog 77 [rP, dI 1] (ovl (rd L s) rest) (flt q t) (ovl (rd L s2) rest)) :
    ∀ rest : Heap, HPan Tryz.prog 124 [pC 1082, pC 1003] (ovl (rd L s ++ accN nm p r) rest) (flt q t) (ovl (rd L s2 ++ accB (r.length + 1)) rest) :=
  hcleanP_of_run okP named { pans := tabP Tryz.prog [(124, 0, 2000, ⟨3, some (pOf c), [4, 5]⟩)] } 2000 2000 _ 1000000 ⟨rfl, rfl, rfl, by kernel_rfl, by simp [renE, renO, renL, renA, rnK, acc0, accN, caE, boxE, pC, rd, rP, rdC, u8, renL_data _ (elA_data _)], by simp [renE, renO, renL, renA, rnK, acc0, accN, accB, caE, boxE, pC, rd, rP, rdC, u8, renL_data _ (elA_data _)]⟩ (by kernel_rfl) (fun _ => by kernel_rfl)
/-! ### The loop in list -/
def liL : List (Nat × AV) := [(0, rP), (1, clo)]
abbrev LiS (L : List T) (s : RS) (nm : List UInt8) (p : Int) (r : List Ex) (e : AExit) (l' : List (Nat × AV)) (post : List (Nat × Ent)) : Prop :=
  ∀ (rest : Heap) (X : Fix), X.P = Tryz.prog → X.N = 17 → AW X (loopOf Tryz.prog 36 3) ⟨envOf liL, ovl (rd L s ++ accN nm p r) rest⟩ fun e' S' => e' = e ∧ S' = ⟨envOf l', ovl post rest⟩
include l
theorem liStop (r : List Ex) (h : isT L s [44] = false) : ∀ (rest : Heap) (X : Fix), X.P = Tryz.prog → X.N = 17 → AW X (loopOf Tryz.prog 36 3) ⟨envOf liL, ovl (rd L s ++ accN nm p r) rest⟩ fun e' S' => e' = .exit 0 ∧ S' = ⟨envOf [(0, rP)], ovl (rd L s ++ accN nm p r) rest⟩ :=
  segC okP named { calls := tabC Tryz.prog [(36, 12, 3017, cOf (mayF l [44] h))] } 2000 36 3000 17 1000000 ([]) ⟨rfl, rfl, rfl, by kernel_rfl, by simp [renE, renO, renL, renA, rnK, acc0, accN, caE, boxE, pC, rd, rP, rdC, u8, renL_data _ (elA_data _)], by simp [renE, renO, renL, renA, rnK, acc0, accN, accB, caE, boxE, pC, rd, rP, rdC, u8, renL_data _ (elA_data _)]⟩ (by kernel_rfl) (by kernel_rfl) (fun _ => by kernel_rfl)
theorem liBad (r : List Ex) (q t : Int) (s2 : RS) (c : ∀ rest : Heap, HPan Tryz.prog 39 [rP, .d (.str [44])] (ovl (rd L s) rest) (flt q t) (ovl (rd L s2) rest)) : ∀ (rest : Heap) (X : Fix), X.P = Tryz.prog → X.N = 17 → AW X (loopOf Tryz.prog 36 3) ⟨envOf liL, ovl (rd L s ++ accN nm p r) rest⟩ fun e' S' => e' = .panic (flt q t) ∧ S' = ⟨envOf [], ovl (rd L s2 ++ accB (r.length + 1)) rest⟩ :=
  segC okP named { pans := tabP Tryz.prog [(36, 3, 3000, ⟨1, some (pOf c), []⟩)] } 2000 36 3000 17 1000000 ([]) ⟨rfl, rfl, rfl, by kernel_rfl, by simp [renE, renO, renL, renA, rnK, acc0, accN, caE, boxE, pC, rd, rP, rdC, u8, renL_data _ (elA_data _)], by simp [renE, renO, renL, renA, rnK, acc0, accN, accB, caE, boxE, pC, rd, rP, rdC, u8, renL_data _ (elA_data _)]⟩ (by kernel_rfl) (by kernel_rfl) (fun _ => by kernel_rfl)
theorem liBad2 (r : List Ex) (s1 : RS) (c1 : ∀ rest : Heap, HCall Tryz.prog 39 [rP, .d (.str [44])] (ovl (rd L s) rest) ([.bool true].map .d) (ovl (rd L s1) rest)) (q t : Int) (s2 : RS)
    (c : ∀ rest : Heap, HPan Tryz.prog 124 [pC 1082, pC 1003] (ovl (rd L s1 ++ accN nm p r) rest) (flt q t) (ovl (rd L s2 ++ accB (r.length + 1)) rest)) : ∀ (rest : Heap) (X : Fix), X.P = Tryz.prog → X.N = 17 → AW X (loopOf Tryz.prog 36 3) ⟨envOf liL, ovl (rd L s ++ accN nm p r) rest⟩ fun e' S' => e' = .panic (flt q t) ∧ S' = ⟨envOf [], ovl (rd L s2 ++ accB (r.length + 1)) rest⟩ :=
  segC okP named { calls := tabC Tryz.prog [(36, 12, 3017, cOf c1)], pans := tabP Tryz.prog [(36, 4, 3017, ⟨1, some (pOf c), []⟩)] } 2000 36 3000 17 1000000 ([]) ⟨rfl, rfl, rfl, by kernel_rfl, by simp [renE, renO, renL, renA, rnK, acc0, accN, caE, boxE, pC, rd, rP, rdC, u8, renL_data _ (elA_data _)], by simp [renE, renO, renL, renA, rnK, acc0, accN, accB, caE, boxE, pC, rd, rP, rdC, u8, renL_data _ (elA_data _)]⟩ (by kernel_rfl) (by kernel_rfl) (fun _ => by kernel_rfl)
theorem liGo (r : List Ex) (s1 : RS) (c1 : ∀ rest : Heap, HCall Tryz.prog 39 [rP, .d (.str [44])] (ovl (rd L s) rest) ([.bool true].map .d) (ovl (rd L s1) rest)) (e : Ex) (s2 : RS)
    (c : ∀ rest : Heap, HCall Tryz.prog 124 [pC 1082, pC 1003] (ovl (rd L s1 ++ accN nm p r) rest) ([].map .d) (ovl (rd L s2 ++ accN nm p (r ++ [e])) rest)) : ∀ (rest : Heap) (X : Fix), X.P = Tryz.prog → X.N = 17 → AW X (loopOf Tryz.prog 36 3) ⟨envOf liL, ovl (rd L s ++ accN nm p r) rest⟩ fun e' S' => e' = .normal ∧ S' = ⟨envOf liL, ovl (rd L s2 ++ accN nm p (r ++ [e])) rest⟩ :=
  segC okP named { calls := tabC Tryz.prog [(36, 12, 3017, cOf c1), (36, 14, 3034, cOf c)] } 2000 36 3000 17 1000000 ([]) ⟨rfl, rfl, rfl, by kernel_rfl, by simp [renE, renO, renL, renA, rnK, acc0, accN, caE, boxE, pC, rd, rP, rdC, u8, renL_data _ (elA_data _)], by simp [renE, renO, renL, renA, rnK, acc0, accN, accB, caE, boxE, pC, rd, rP, rdC, u8, renL_data _ (elA_data _)]⟩ (by kernel_rfl) (by kernel_rfl) (fun _ => by kernel_rfl)
end
/-- What the loop comes to. -/
def LiAt (L : List T) (nm : List UInt8) (p : Int) (s : RS) (r : List Ex) : Res (List Ex) → Prop
  | .ok r2 s' => s'.i < L.length ∧ r2 ≠ [] ∧ ∀ (rest : Heap) (X : Fix), X.P = Tryz.prog → X.N = 17 → LW X (loopOf Tryz.prog 36 3) ⟨envOf liL, ovl (rd L s ++ accN nm p r) rest⟩ fun e' S' => e' = .exit 0 ∧ S' = ⟨envOf [(0, rP)], ovl (rd L s' ++ accN nm p r2) rest⟩
  | .bad q t s' => ∃ v, ∀ (rest : Heap) (X : Fix), X.P = Tryz.prog → X.N = 17 → LW X (loopOf Tryz.prog 36 3) ⟨envOf liL, ovl (rd L s ++ accN nm p r) rest⟩ fun e' S' => e' = .panic (flt q t) ∧ S' = ⟨envOf [], ovl (rd L s' ++ accB v) rest⟩
  | .out => True
noncomputable def liLH {L : List T} {nm : List UInt8} {p : Int} {s : RS} {r : List Ex} {hp' : List (Nat × Ent)} {x : AExit} {l' : List (Nat × AV)} (h : ∀ (rest : Heap) (X : Fix), X.P = Tryz.prog → X.N = 17 → LW X (loopOf Tryz.prog 36 3) ⟨envOf liL, ovl (rd L s ++ accN nm p r) rest⟩ fun e' S' => e' = x ∧ S' = ⟨envOf l', ovl hp' rest⟩) : LHint Tryz.prog :=
  ⟨17, loopOf Tryz.prog 36 3, liL, fun _ => rd L s ++ accN nm p r, x, l', fun _ => hp', fun rest X hP hN => (h rest X hP hN).aw⟩
section
variable {L : List T} (hL : Toks L) (nm : List UInt8) (p : Int)
include hL
theorem moreStep (n : Nat) (ihE : ∀ (k : Int) (s : RS), s.i < L.length → RC L 77 [rP, dI k] (fun e => [exD e]) s (sExpr L n k s)) (ihM : ∀ (r : List Ex) (s : RS), s.i < L.length → r.length ≤ s.i → r ≠ [] → LiAt L nm p s r (sMore L n r s))
    (r : List Ex) (s : RS) (l : s.i < L.length) (hr : r.length ≤ s.i) (hne : r ≠ []) : LiAt L nm p s r (sMore L (n + 1) r s) := by
  have hlen : r.length < 1000000 := by have := hL.len; omega
  simp only [sMore, sMay]
  cases h : isT L s [44] with
  | false => exact ⟨l, hne, fun rest X hP hN => lw_stop (liStop l nm p r h rest X hP hN) (by simp)⟩
  | true =>
    have hw : sWant L [44] s = .ok (cur L s) s.nx := by simp only [sWant, h]; rfl
    have hn := isT_nx hL l h
    have c1 := mayT l [44] h (cur L s) s.nx (want0 l hL [44] h rfl rfl rfl rfl rfl rfl)
    simp only [cond_true, hw, Res.bind]
    have c := ihE 1 s.nx hn
    revert c
    have hi2 : ∀ a s2, sExpr L n 1 s.nx = .ok a s2 → s.nx.i < s2.i := fun a s2 he => exprGrows L n 1 s.nx a s2 he
    cases he : sExpr L n 1 s.nx with
    | out => exact fun _ => trivial
    | bad q t s2 => exact fun c => ⟨_, fun rest X hP hN => lw_stop (liBad2 l nm p r s.nx c1 q t s2 (cloPN nm p r q t s2 c) rest X hP hN) (by simp)⟩
    | ok e s2 =>
      intro c
      have h3 := hi2 e s2 he
      have c2 := ihM (r ++ [e]) s2 c.1 (by simp only [List.length_append, List.length_cons, List.length_nil, RS.nx] at *; omega) (by simp)
      have hgo := liGo l nm p r s.nx c1 e s2 (cloN nm p r hlen e s2 c.2)
      simp only
      revert c2
      cases sMore L n (r ++ [e]) s2 with
      | out => exact fun _ => trivial
      | bad q t s3 => exact fun ⟨v, c2⟩ => ⟨v, fun rest X hP hN => lw_step (hgo rest X hP hN) (c2 rest X hP hN)⟩
      | ok a s3 => exact fun c2 => ⟨c2.1, c2.2.1, fun rest X hP hN => lw_step (hgo rest X hP hN) (c2.2.2 rest X hP hN)⟩
end
/-! ### list, and call -/
section
variable {L : List T} (nm : List UInt8) (p : Int) {s s1 s2 s3 s4 : RS} {t1 t2 : T} {q t : Int}
theorem liP1 (c : ∀ rest : Heap, HPan Tryz.prog 34 [rP, .d (.str [40])] (ovl (rd L s) rest) (flt q t) (ovl (rd L s1) rest)) :
    ∀ rest : Heap, HPan Tryz.prog 36 [rP, clo] (ovl (rd L s ++ acc0 nm p) rest) (flt q t) (ovl (rd L s1 ++ accB 0) rest) :=
  hcleanP_of_run okP named { pans := tabP Tryz.prog [(36, 0, 1000, ⟨1, some (pOf c), []⟩)] } 2000 1000 _ 1000000 ⟨rfl, rfl, rfl, by kernel_rfl, by kernel_rfl, by kernel_rfl⟩ (by kernel_rfl) (fun _ => by kernel_rfl)
theorem liE0 (l1 : s1.i < L.length) (c1 : ∀ rest : Heap, HCall Tryz.prog 34 [rP, .d (.str [40])] (ovl (rd L s) rest) ([tD t1].map .d) (ovl (rd L s1) rest)) (h : isT L s1 [41] = true) (c2 : ∀ rest : Heap, HCall Tryz.prog 34 [rP, .d (.str [41])] (ovl (rd L s1) rest) ([tD t2].map .d) (ovl (rd L s2) rest)) :
    ∀ rest : Heap, HCall Tryz.prog 36 [rP, clo] (ovl (rd L s ++ acc0 nm p) rest) ([].map .d) (ovl (rd L s2 ++ acc0 nm p) rest) :=
  hclean_of_run okP named { calls := tabC Tryz.prog [(36, 5, 1017, cOf c1), (36, 7, 1034, cOf (isRT l1 [41] h)), (36, 16, 1068, cOf c2)] } 2000 1000 _ 1000000 ⟨rfl, rfl, rfl, by kernel_rfl, by kernel_rfl, by kernel_rfl⟩ (fun _ => by kernel_rfl)
theorem liE1 (l1 : s1.i < L.length) (c1 : ∀ rest : Heap, HCall Tryz.prog 34 [rP, .d (.str [40])] (ovl (rd L s) rest) ([tD t1].map .d) (ovl (rd L s1) rest)) (h : isT L s1 [41] = true) (c2 : ∀ rest : Heap, HPan Tryz.prog 34 [rP, .d (.str [41])] (ovl (rd L s1) rest) (flt q t) (ovl (rd L s2) rest)) :
    ∀ rest : Heap, HPan Tryz.prog 36 [rP, clo] (ovl (rd L s ++ acc0 nm p) rest) (flt q t) (ovl (rd L s2 ++ accB 0) rest) :=
  hcleanP_of_run okP named { calls := tabC Tryz.prog [(36, 5, 1017, cOf c1), (36, 7, 1034, cOf (isRT l1 [41] h))], pans := tabP Tryz.prog [(36, 5, 1051, ⟨1, some (pOf c2), []⟩)] } 2000 1000 _ 1000000 ⟨rfl, rfl, rfl, by kernel_rfl, by kernel_rfl, by kernel_rfl⟩ (by kernel_rfl) (fun _ => by kernel_rfl)
theorem liB1 (l1 : s1.i < L.length) (c1 : ∀ rest : Heap, HCall Tryz.prog 34 [rP, .d (.str [40])] (ovl (rd L s) rest) ([tD t1].map .d) (ovl (rd L s1) rest)) (h : isT L s1 [41] = false) (c2 : ∀ rest : Heap, HPan Tryz.prog 124 [pC 1082, pC 1003] (ovl (rd L s1 ++ acc0 nm p) rest) (flt q t) (ovl (rd L s2 ++ accB 0) rest)) :
    ∀ rest : Heap, HPan Tryz.prog 36 [rP, clo] (ovl (rd L s ++ acc0 nm p) rest) (flt q t) (ovl (rd L s2 ++ accB 0) rest) :=
  hcleanP_of_run okP named { calls := tabC Tryz.prog [(36, 5, 1017, cOf c1), (36, 7, 1034, cOf (isRT l1 [41] h))], pans := tabP Tryz.prog [(36, 2, 1051, ⟨1, some (pOf c2), []⟩)] } 2000 1000 _ 1000000 ⟨rfl, rfl, rfl, by kernel_rfl, by kernel_rfl, by kernel_rfl⟩ (by kernel_rfl) (fun _ => by kernel_rfl)
theorem liB2 (l1 : s1.i < L.length) (c1 : ∀ rest : Heap, HCall Tryz.prog 34 [rP, .d (.str [40])] (ovl (rd L s) rest) ([tD t1].map .d) (ovl (rd L s1) rest)) (h0 : isT L s1 [41] = false) (e : Ex) (c2 : ∀ rest : Heap, HCall Tryz.prog 124 [pC 1082, pC 1003] (ovl (rd L s1 ++ acc0 nm p) rest) ([].map .d) (ovl (rd L s2 ++ accN nm p [e]) rest)) (v : Nat) (h : ∀ (rest : Heap) (X : Fix), X.P = Tryz.prog → X.N = 17 → LW X (loopOf Tryz.prog 36 3) ⟨envOf liL, ovl (rd L s2 ++ accN nm p [e]) rest⟩ fun e' S' => e' = .panic (flt q t) ∧ S' = ⟨envOf [], ovl (rd L s3 ++ accB v) rest⟩) :
    ∀ rest : Heap, HPan Tryz.prog 36 [rP, clo] (ovl (rd L s ++ acc0 nm p) rest) (flt q t) (ovl (rd L s3 ++ accB v) rest) :=
  hcleanP_of_run okP named { loops := fun f q => if f = 36 then (if q = 3 then some (liLH h) else none) else none, calls := tabC Tryz.prog [(36, 5, 1017, cOf c1), (36, 7, 1034, cOf (isRT l1 [41] h0)), (36, 10, 1068, cOf c2)] } 2000 1000 _ 1000000 ⟨rfl, rfl, rfl, by kernel_rfl, by kernel_rfl, by kernel_rfl⟩ (by kernel_rfl) (fun _ => by kernel_rfl)
theorem liB3 (l1 : s1.i < L.length) (c1 : ∀ rest : Heap, HCall Tryz.prog 34 [rP, .d (.str [40])] (ovl (rd L s) rest) ([tD t1].map .d) (ovl (rd L s1) rest)) (h0 : isT L s1 [41] = false) (e : Ex) (c2 : ∀ rest : Heap, HCall Tryz.prog 124 [pC 1082, pC 1003] (ovl (rd L s1 ++ acc0 nm p) rest) ([].map .d) (ovl (rd L s2 ++ accN nm p [e]) rest)) (r : List Ex) (h : ∀ (rest : Heap) (X : Fix), X.P = Tryz.prog → X.N = 17 → LW X (loopOf Tryz.prog 36 3) ⟨envOf liL, ovl (rd L s2 ++ accN nm p [e]) rest⟩ fun e' S' => e' = .exit 0 ∧ S' = ⟨envOf [(0, rP)], ovl (rd L s3 ++ accN nm p r) rest⟩) (c3 : ∀ rest : Heap, HPan Tryz.prog 34 [rP, .d (.str [41])] (ovl (rd L s3) rest) (flt q t) (ovl (rd L s4) rest)) :
    ∀ rest : Heap, HPan Tryz.prog 36 [rP, clo] (ovl (rd L s ++ acc0 nm p) rest) (flt q t) (ovl (rd L s4 ++ accB (r.length + 1)) rest) :=
  hcleanP_of_run okP named { loops := fun f q => if f = 36 then (if q = 3 then some (liLH h) else none) else none, calls := tabC Tryz.prog [(36, 5, 1017, cOf c1), (36, 7, 1034, cOf (isRT l1 [41] h0)), (36, 10, 1068, cOf c2)], pans := tabP Tryz.prog [(36, 5, 1068, ⟨1, some (pOf c3), []⟩)] } 2000 1000 _ 1000000 ⟨rfl, rfl, rfl, by kernel_rfl, by kernel_rfl, by kernel_rfl⟩ (by kernel_rfl) (fun _ => by kernel_rfl)
theorem liOk (l1 : s1.i < L.length) (c1 : ∀ rest : Heap, HCall Tryz.prog 34 [rP, .d (.str [40])] (ovl (rd L s) rest) ([tD t1].map .d) (ovl (rd L s1) rest)) (h0 : isT L s1 [41] = false) (e : Ex) (c2 : ∀ rest : Heap, HCall Tryz.prog 124 [pC 1082, pC 1003] (ovl (rd L s1 ++ acc0 nm p) rest) ([].map .d) (ovl (rd L s2 ++ accN nm p [e]) rest)) (r : List Ex) (h : ∀ (rest : Heap) (X : Fix), X.P = Tryz.prog → X.N = 17 → LW X (loopOf Tryz.prog 36 3) ⟨envOf liL, ovl (rd L s2 ++ accN nm p [e]) rest⟩ fun e' S' => e' = .exit 0 ∧ S' = ⟨envOf [(0, rP)], ovl (rd L s3 ++ accN nm p r) rest⟩) (c3 : ∀ rest : Heap, HCall Tryz.prog 34 [rP, .d (.str [41])] (ovl (rd L s3) rest) ([tD t2].map .d) (ovl (rd L s4) rest)) :
    ∀ rest : Heap, HCall Tryz.prog 36 [rP, clo] (ovl (rd L s ++ acc0 nm p) rest) ([].map .d) (ovl (rd L s4 ++ accN nm p r) rest) :=
  hclean_of_run okP named { loops := fun f q => if f = 36 then (if q = 3 then some (liLH h) else none) else none, calls := tabC Tryz.prog [(36, 5, 1017, cOf c1), (36, 7, 1034, cOf (isRT l1 [41] h0)), (36, 10, 1068, cOf c2), (36, 16, 1085, cOf c3)] } 2000 1000 _ 1000000 ⟨rfl, rfl, rfl, by kernel_rfl, by simp [renE, renO, renL, renA, rnK, acc0, accN, caE, boxE, pC, rd, rP, rdC, u8, renL_data _ (elA_data _)], by simp [renE, renO, renL, renA, rnK, acc0, accN, accB, caE, boxE, pC, rd, rP, rdC, u8, renL_data _ (elA_data _)]⟩ (fun _ => by kernel_rfl)
theorem caOk0 (c : ∀ rest : Heap, HCall Tryz.prog 36 [rP, clo] (ovl (rd L s ++ acc0 nm p) rest) ([].map .d) (ovl (rd L s1 ++ acc0 nm p) rest)) :
    ∀ rest : Heap, HCall Tryz.prog 101 [rP, .d (.str nm), dI p] (ovl (rd L s) rest) ([exD (.mk 5 0 nm 0 p [])].map .d) (ovl (rd L s1) rest) :=
  hclean_of_run okP named { calls := tabC Tryz.prog [(101, 13, 1135, cOf c)] } 2000 1000 _ 1000000 ⟨rfl, rfl, rfl, by kernel_rfl, by kernel_rfl, by kernel_rfl⟩ (fun _ => by kernel_rfl)
theorem elA_view (h : Heap) : ∀ r : List Ex, viewL (view 3 h) (elA r) = some (exL r, [])
  | [] => rfl
  | x :: r => by
    have ih := elA_view h r
    simp only [elA] at ih
    simp only [elA, List.map_cons, viewL, ih, exL]
    rfl
def caZ (r : List Ex) : ZHint := ⟨1082, 5, 400000, r.length, elA r, exL r, by simp [elA], fun h => elA_view h r⟩
theorem caOkN (r : List Ex) (c : ∀ rest : Heap, HCall Tryz.prog 36 [rP, clo] (ovl (rd L s ++ acc0 nm p) rest) ([].map .d) (ovl (rd L s1 ++ accN nm p r) rest)) :
    ∀ rest : Heap, HCall Tryz.prog 101 [rP, .d (.str nm), dI p] (ovl (rd L s) rest) ([exD (.mk 5 0 nm 0 p r)].map .d) (ovl (rd L s1) rest) :=
  hclean_of_run okP named { frz := fun f q => if f = 101 then (if q = 3 then some (caZ r) else none) else none, calls := tabC Tryz.prog [(101, 13, 1135, cOf c)] } 2000 1000 _ 1000000 ⟨rfl, rfl, rfl, by kernel_rfl, by kernel_rfl, by kernel_rfl⟩ (fun _ => by kernel_rfl)
theorem caBad (v : Nat) (c : ∀ rest : Heap, HPan Tryz.prog 36 [rP, clo] (ovl (rd L s ++ acc0 nm p) rest) (flt q t) (ovl (rd L s1 ++ accB v) rest)) :
    ∀ rest : Heap, HPan Tryz.prog 101 [rP, .d (.str nm), dI p] (ovl (rd L s) rest) (flt q t) (ovl (rd L s1) rest) :=
  hcleanP_of_run okP named { pans := tabP Tryz.prog [(101, 2, 1105, ⟨2, some (pOf c), []⟩)] } 2000 1000 _ 1000000 ⟨rfl, rfl, rfl, by kernel_rfl, by kernel_rfl, by kernel_rfl⟩ (by kernel_rfl) (fun _ => by kernel_rfl)
end
end Go.Avm
