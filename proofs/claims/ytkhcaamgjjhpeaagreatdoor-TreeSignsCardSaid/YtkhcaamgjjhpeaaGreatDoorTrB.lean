/-
  Texts as programs: the reader's small functions.
-/
import Derived.Test.YtkhcaamgjjhpeaaGreatDoorTrH
set_option linter.unusedSectionVars false
namespace Go.Avm
open Go.Proofs

section
variable {L : List T} {s : RS} (hi : s.i < L.length)
include hi
theorem nowR : ∀ rest : Heap, HCall Tryz.prog 22 [rP] (ovl (rd L s) rest) ([tD (cur L s)].map .d) (ovl (rd L s) rest) :=
  hclean_of_run okP named { hint := tabH Tryz.prog [(22, 11, hCur Tryz.prog hi)] } 2000 1000 _ 1000000 ⟨rfl, rfl, rfl, by kernel_rfl, by kernel_rfl, by kernel_rfl⟩ (fun _ => by kernel_rfl)
theorem badR : ∀ rest : Heap, HPan Tryz.prog 61 [rP] (ovl (rd L s) rest) (flt (cur L s).p 4) (ovl (rd L s) rest) :=
  hcleanP_of_run okP named { calls := tabC Tryz.prog [(61, 3, 1007, cOf (nowR hi))], pans := tabP Tryz.prog [(61, 0, 1000, ⟨5, none, []⟩)] } 2000 1000 _ 1000000 ⟨rfl, rfl, rfl, by kernel_rfl, by kernel_rfl, by kernel_rfl⟩ (by kernel_rfl) (fun _ => by kernel_rfl)
theorem isA (x : List UInt8) (h1 : ((cur L s).k == 2) = true) : ∀ rest : Heap, HCall Tryz.prog 60 [rP, .d (.str x)] (ovl (rd L s) rest) ([.bool ((cur L s).t == x)].map .d) (ovl (rd L s) rest) :=
  hclean_of_run okP named { hint := tabH Tryz.prog [(60, 10, hB Tryz.prog ((cur L s).k == 2) true h1)], calls := tabC Tryz.prog [(60, 7, 1044, cOf (nowR hi))] } 2000 1000 _ 1000000 ⟨rfl, rfl, rfl, by kernel_rfl, by kernel_rfl, by kernel_rfl⟩ (fun _ => by kernel_rfl)
theorem isB (x : List UInt8) (h1 : ((cur L s).k == 2) = false) (h2 : ((cur L s).k == 4) = true) : ∀ rest : Heap, HCall Tryz.prog 60 [rP, .d (.str x)] (ovl (rd L s) rest) ([.bool ((cur L s).t == x)].map .d) (ovl (rd L s) rest) :=
  hclean_of_run okP named { hint := tabH Tryz.prog [(60, 10, hB Tryz.prog ((cur L s).k == 2) false h1), (60, 14, hB Tryz.prog ((cur L s).k == 4) true h2)], calls := tabC Tryz.prog [(60, 7, 1044, cOf (nowR hi))] } 2000 1000 _ 1000000 ⟨rfl, rfl, rfl, by kernel_rfl, by kernel_rfl, by kernel_rfl⟩ (fun _ => by kernel_rfl)
theorem isN (x : List UInt8) (h1 : ((cur L s).k == 2) = false) (h2 : ((cur L s).k == 4) = false) : ∀ rest : Heap, HCall Tryz.prog 60 [rP, .d (.str x)] (ovl (rd L s) rest) ([.bool false].map .d) (ovl (rd L s) rest) :=
  hclean_of_run okP named { hint := tabH Tryz.prog [(60, 10, hB Tryz.prog ((cur L s).k == 2) false h1), (60, 14, hB Tryz.prog ((cur L s).k == 4) false h2)], calls := tabC Tryz.prog [(60, 7, 1044, cOf (nowR hi))] } 2000 1000 _ 1000000 ⟨rfl, rfl, rfl, by kernel_rfl, by kernel_rfl, by kernel_rfl⟩ (fun _ => by kernel_rfl)
theorem isR (x : List UInt8) : ∀ rest : Heap, HCall Tryz.prog 60 [rP, .d (.str x)] (ovl (rd L s) rest) ([.bool (isT L s x)].map .d) (ovl (rd L s) rest) := by
  unfold isT
  cases h1 : ((cur L s).k == 2) with
  | true => exact isA hi x h1
  | false => cases h2 : ((cur L s).k == 4) with
    | true => exact isB hi x h1 h2
    | false => exact isN hi x h1 h2
/-! ### take -/
theorem takeT (hL : Toks L) (k : Int) (h : (cur L s).k = k) : ∀ rest : Heap, HCall Tryz.prog 35 [rP, .d (.int .u8 k)] (ovl (rd L s) rest) ([tD (cur L s)].map .d) (ovl (rd L s.nx) rest) :=
  hclean_of_run okP named { hint := tabH Tryz.prog [(35, 11, hB Tryz.prog ((cur L s).k != k) false (by simp [h])), (35, 18, hSucc Tryz.prog s.i (by have := hL.len; omega))], calls := tabC Tryz.prog [(35, 7, 1044, cOf (nowR hi))] } 2000 1000 _ 1000000 ⟨rfl, rfl, rfl, by kernel_rfl, by kernel_rfl, by kernel_rfl⟩ (fun _ => by kernel_rfl)
theorem takeF (k : Int) (h : (cur L s).k ≠ k) : ∀ rest : Heap, HPan Tryz.prog 35 [rP, .d (.int .u8 k)] (ovl (rd L s) rest) (flt (cur L s).p 4) (ovl (rd L s) rest) :=
  hcleanP_of_run okP named { hint := tabH Tryz.prog [(35, 11, hB Tryz.prog ((cur L s).k != k) true (by simpa using h))], calls := tabC Tryz.prog [(35, 7, 1044, cOf (nowR hi))], pans := tabP Tryz.prog [(35, 3, 1176, ⟨1, some (pOf (badR hi)), []⟩)] } 2000 1000 _ 1000000 ⟨rfl, rfl, rfl, by kernel_rfl, by kernel_rfl, by kernel_rfl⟩ (by kernel_rfl) (fun _ => by kernel_rfl)
theorem takeR (hL : Toks L) (k : Int) (hk : k ≠ 0) : RC L 35 [rP, .d (.int .u8 k)] (fun t => [tD t]) s (sTake L k s) := by
  unfold sTake
  cases h : ((cur L s).k == k) with
  | true =>
    have h := eq_of_beq h
    exact ⟨nx_lt hL hi (by rw [h]; exact hk), takeT hi hL k h⟩
  | false =>
    exact takeF hi k (by simpa using h)
/-! ### want -/
theorem wantF (x : List UInt8) (h : isT L s x = false) : ∀ rest : Heap, HPan Tryz.prog 34 [rP, .d (.str x)] (ovl (rd L s) rest) (flt (cur L s).p 4) (ovl (rd L s) rest) :=
  hcleanP_of_run okP named { hint := tabH Tryz.prog [(34, 9, hB Tryz.prog (!isT L s x) true (by simp [h]))], calls := tabC Tryz.prog [(34, 8, 1162, cOf (isR hi x))], pans := tabP Tryz.prog [(34, 2, 1216, ⟨1, some (pOf (badR hi)), []⟩)] } 2000 1000 _ 1000000 ⟨rfl, rfl, rfl, by kernel_rfl, by kernel_rfl, by kernel_rfl⟩ (by kernel_rfl) (fun _ => by kernel_rfl)
theorem want0 (hL : Toks L) (x : List UInt8) (h : isT L s x = true) (h1 : (x == [40]) = false) (h2 : (x == [91]) = false) (h3 : (x == [123]) = false) (h4 : (x == [41]) = false) (h5 : (x == [93]) = false) (h6 : (x == [125]) = false) :
    ∀ rest : Heap, HCall Tryz.prog 34 [rP, .d (.str x)] (ovl (rd L s) rest) ([tD (cur L s)].map .d) (ovl (rd L s.nx) rest) :=
  hclean_of_run okP named { hint := tabH Tryz.prog [(34, 9, hB Tryz.prog (!isT L s x) false (by simp [h])), (34, 16, hB Tryz.prog (x == [40]) false h1), (34, 17, hB Tryz.prog (x == [91]) false h2), (34, 18, hB Tryz.prog (x == [123]) false h3), (34, 36, hB Tryz.prog (x == [41]) false h4), (34, 37, hB Tryz.prog (x == [93]) false h5), (34, 38, hB Tryz.prog (x == [125]) false h6), (34, 50, hSucc Tryz.prog s.i (by have := hL.len; omega))], calls := tabC Tryz.prog [(34, 8, 1162, cOf (isR hi x)), (34, 13, 1270, cOf (nowR hi))] } 2000 1000 _ 1000000 ⟨rfl, rfl, rfl, by kernel_rfl, by kernel_rfl, by kernel_rfl⟩ (fun _ => by kernel_rfl)
theorem wantO40 (hL : Toks L) (h : isT L s [40] = true) (hd : decide (200 < w64 (s.op + 1)) = false) :
    ∀ rest : Heap, HCall Tryz.prog 34 [rP, .d (.str [40])] (ovl (rd L s) rest) ([tD (cur L s)].map .d) (ovl (rd L ⟨s.i + 1, w64 (s.op + 1), s.n⟩) rest) :=
  hclean_of_run okP named { hint := tabH Tryz.prog [(34, 9, hB Tryz.prog (!isT L s [40]) false (by simp [h])), (34, 30, hB Tryz.prog (decide (200 < IntKind.i64.wrap (s.op + 1))) false hd), (34, 50, hSucc Tryz.prog s.i (by have := hL.len; omega))], calls := tabC Tryz.prog [(34, 8, 1162, cOf (isR hi [40])), (34, 13, 1270, cOf (nowR hi))] } 2000 1000 _ 1000000 ⟨rfl, rfl, rfl, by kernel_rfl, by kernel_rfl, by kernel_rfl⟩ (fun _ => by kernel_rfl)
theorem wantD40 (h : isT L s [40] = true) (hd : decide (200 < w64 (s.op + 1)) = true) :
    ∀ rest : Heap, HPan Tryz.prog 34 [rP, .d (.str [40])] (ovl (rd L s) rest) (flt (cur L s).p 5) (ovl (rd L { s with op := w64 (s.op + 1) }) rest) :=
  hcleanP_of_run okP named { hint := tabH Tryz.prog [(34, 9, hB Tryz.prog (!isT L s [40]) false (by simp [h])), (34, 30, hB Tryz.prog (decide (200 < IntKind.i64.wrap (s.op + 1))) true hd)], calls := tabC Tryz.prog [(34, 8, 1162, cOf (isR hi [40])), (34, 13, 1270, cOf (nowR hi))], pans := tabP Tryz.prog [(34, 10, 2242, ⟨4, none, []⟩)] } 2000 1000 _ 1000000 ⟨rfl, rfl, rfl, by kernel_rfl, by kernel_rfl, by kernel_rfl⟩ (by kernel_rfl) (fun _ => by kernel_rfl)
theorem wantO91 (hL : Toks L) (h : isT L s [91] = true) (hd : decide (200 < w64 (s.op + 1)) = false) :
    ∀ rest : Heap, HCall Tryz.prog 34 [rP, .d (.str [91])] (ovl (rd L s) rest) ([tD (cur L s)].map .d) (ovl (rd L ⟨s.i + 1, w64 (s.op + 1), s.n⟩) rest) :=
  hclean_of_run okP named { hint := tabH Tryz.prog [(34, 9, hB Tryz.prog (!isT L s [91]) false (by simp [h])), (34, 30, hB Tryz.prog (decide (200 < IntKind.i64.wrap (s.op + 1))) false hd), (34, 50, hSucc Tryz.prog s.i (by have := hL.len; omega))], calls := tabC Tryz.prog [(34, 8, 1162, cOf (isR hi [91])), (34, 13, 1270, cOf (nowR hi))] } 2000 1000 _ 1000000 ⟨rfl, rfl, rfl, by kernel_rfl, by kernel_rfl, by kernel_rfl⟩ (fun _ => by kernel_rfl)
theorem wantD91 (h : isT L s [91] = true) (hd : decide (200 < w64 (s.op + 1)) = true) :
    ∀ rest : Heap, HPan Tryz.prog 34 [rP, .d (.str [91])] (ovl (rd L s) rest) (flt (cur L s).p 5) (ovl (rd L { s with op := w64 (s.op + 1) }) rest) :=
  hcleanP_of_run okP named { hint := tabH Tryz.prog [(34, 9, hB Tryz.prog (!isT L s [91]) false (by simp [h])), (34, 30, hB Tryz.prog (decide (200 < IntKind.i64.wrap (s.op + 1))) true hd)], calls := tabC Tryz.prog [(34, 8, 1162, cOf (isR hi [91])), (34, 13, 1270, cOf (nowR hi))], pans := tabP Tryz.prog [(34, 10, 2350, ⟨4, none, []⟩)] } 2000 1000 _ 1000000 ⟨rfl, rfl, rfl, by kernel_rfl, by kernel_rfl, by kernel_rfl⟩ (by kernel_rfl) (fun _ => by kernel_rfl)
theorem wantO123 (hL : Toks L) (h : isT L s [123] = true) (hd : decide (200 < w64 (s.op + 1)) = false) :
    ∀ rest : Heap, HCall Tryz.prog 34 [rP, .d (.str [123])] (ovl (rd L s) rest) ([tD (cur L s)].map .d) (ovl (rd L ⟨s.i + 1, w64 (s.op + 1), s.n⟩) rest) :=
  hclean_of_run okP named { hint := tabH Tryz.prog [(34, 9, hB Tryz.prog (!isT L s [123]) false (by simp [h])), (34, 30, hB Tryz.prog (decide (200 < IntKind.i64.wrap (s.op + 1))) false hd), (34, 50, hSucc Tryz.prog s.i (by have := hL.len; omega))], calls := tabC Tryz.prog [(34, 8, 1162, cOf (isR hi [123])), (34, 13, 1270, cOf (nowR hi))] } 2000 1000 _ 1000000 ⟨rfl, rfl, rfl, by kernel_rfl, by kernel_rfl, by kernel_rfl⟩ (fun _ => by kernel_rfl)
theorem wantD123 (h : isT L s [123] = true) (hd : decide (200 < w64 (s.op + 1)) = true) :
    ∀ rest : Heap, HPan Tryz.prog 34 [rP, .d (.str [123])] (ovl (rd L s) rest) (flt (cur L s).p 5) (ovl (rd L { s with op := w64 (s.op + 1) }) rest) :=
  hcleanP_of_run okP named { hint := tabH Tryz.prog [(34, 9, hB Tryz.prog (!isT L s [123]) false (by simp [h])), (34, 30, hB Tryz.prog (decide (200 < IntKind.i64.wrap (s.op + 1))) true hd)], calls := tabC Tryz.prog [(34, 8, 1162, cOf (isR hi [123])), (34, 13, 1270, cOf (nowR hi))], pans := tabP Tryz.prog [(34, 10, 2458, ⟨4, none, []⟩)] } 2000 1000 _ 1000000 ⟨rfl, rfl, rfl, by kernel_rfl, by kernel_rfl, by kernel_rfl⟩ (by kernel_rfl) (fun _ => by kernel_rfl)
theorem wantC41 (hL : Toks L) (h : isT L s [41] = true) :
    ∀ rest : Heap, HCall Tryz.prog 34 [rP, .d (.str [41])] (ovl (rd L s) rest) ([tD (cur L s)].map .d) (ovl (rd L ⟨s.i + 1, w64 (s.op - 1), s.n⟩) rest) :=
  hclean_of_run okP named { hint := tabH Tryz.prog [(34, 9, hB Tryz.prog (!isT L s [41]) false (by simp [h])), (34, 50, hSucc Tryz.prog s.i (by have := hL.len; omega))], calls := tabC Tryz.prog [(34, 8, 1162, cOf (isR hi [41])), (34, 13, 1270, cOf (nowR hi))] } 2000 1000 _ 1000000 ⟨rfl, rfl, rfl, by kernel_rfl, by kernel_rfl, by kernel_rfl⟩ (fun _ => by kernel_rfl)
theorem wantC93 (hL : Toks L) (h : isT L s [93] = true) :
    ∀ rest : Heap, HCall Tryz.prog 34 [rP, .d (.str [93])] (ovl (rd L s) rest) ([tD (cur L s)].map .d) (ovl (rd L ⟨s.i + 1, w64 (s.op - 1), s.n⟩) rest) :=
  hclean_of_run okP named { hint := tabH Tryz.prog [(34, 9, hB Tryz.prog (!isT L s [93]) false (by simp [h])), (34, 50, hSucc Tryz.prog s.i (by have := hL.len; omega))], calls := tabC Tryz.prog [(34, 8, 1162, cOf (isR hi [93])), (34, 13, 1270, cOf (nowR hi))] } 2000 1000 _ 1000000 ⟨rfl, rfl, rfl, by kernel_rfl, by kernel_rfl, by kernel_rfl⟩ (fun _ => by kernel_rfl)
theorem wantC125 (hL : Toks L) (h : isT L s [125] = true) :
    ∀ rest : Heap, HCall Tryz.prog 34 [rP, .d (.str [125])] (ovl (rd L s) rest) ([tD (cur L s)].map .d) (ovl (rd L ⟨s.i + 1, w64 (s.op - 1), s.n⟩) rest) :=
  hclean_of_run okP named { hint := tabH Tryz.prog [(34, 9, hB Tryz.prog (!isT L s [125]) false (by simp [h])), (34, 50, hSucc Tryz.prog s.i (by have := hL.len; omega))], calls := tabC Tryz.prog [(34, 8, 1162, cOf (isR hi [125])), (34, 13, 1270, cOf (nowR hi))] } 2000 1000 _ 1000000 ⟨rfl, rfl, rfl, by kernel_rfl, by kernel_rfl, by kernel_rfl⟩ (fun _ => by kernel_rfl)
theorem wantR (hL : Toks L) (x : List UInt8) : RC L 34 [rP, .d (.str x)] (fun t => [tD t]) s (sWant L x s) := by
  unfold sWant
  cases h : isT L s x with
  | false => exact wantF hi x h
  | true =>
    have hn := isT_nx hL hi h
    simp only [cond_true]
    cases h1 : (x == [40]) with
    | true =>
      obtain rfl : x = [40] := eq_of_beq h1
      simp only [Bool.true_or, cond_true]
      cases hd : decide (200 < w64 (s.op + 1)) with
      | true => exact wantD40 hi h hd
      | false => exact ⟨hn, wantO40 hi hL h hd⟩
    | false => cases h2 : (x == [91]) with
    | true =>
      obtain rfl : x = [91] := eq_of_beq h2
      simp only [Bool.true_or, Bool.or_true, cond_true]
      cases hd : decide (200 < w64 (s.op + 1)) with
      | true => exact wantD91 hi h hd
      | false => exact ⟨hn, wantO91 hi hL h hd⟩
    | false => cases h3 : (x == [123]) with
    | true =>
      obtain rfl : x = [123] := eq_of_beq h3
      simp only [Bool.true_or, Bool.or_true, cond_true]
      cases hd : decide (200 < w64 (s.op + 1)) with
      | true => exact wantD123 hi h hd
      | false => exact ⟨hn, wantO123 hi hL h hd⟩
    | false => cases h4 : (x == [41]) with
    | true =>
      obtain rfl : x = [41] := eq_of_beq h4
      exact ⟨hn, wantC41 hi hL h⟩
    | false => cases h5 : (x == [93]) with
    | true =>
      obtain rfl : x = [93] := eq_of_beq h5
      exact ⟨hn, wantC93 hi hL h⟩
    | false => cases h6 : (x == [125]) with
    | true =>
      obtain rfl : x = [125] := eq_of_beq h6
      exact ⟨hn, wantC125 hi hL h⟩
    | false => exact ⟨hn, want0 hi hL x h h1 h2 h3 h4 h5 h6⟩
/-! ### may -/
theorem mayF (x : List UInt8) (h : isT L s x = false) : ∀ rest : Heap, HCall Tryz.prog 39 [rP, .d (.str x)] (ovl (rd L s) rest) ([.bool false].map .d) (ovl (rd L s) rest) :=
  hclean_of_run okP named { hint := tabH Tryz.prog [(39, 8, hB Tryz.prog (!isT L s x) true (by simp [h]))], calls := tabC Tryz.prog [(39, 7, 1036, cOf (isR hi x))] } 2000 1000 _ 1000000 ⟨rfl, rfl, rfl, by kernel_rfl, by kernel_rfl, by kernel_rfl⟩ (fun _ => by kernel_rfl)
theorem mayT (x : List UInt8) (h : isT L s x = true) (t : T) (s' : RS) (hw : ∀ rest : Heap, HCall Tryz.prog 34 [rP, .d (.str x)] (ovl (rd L s) rest) ([tD t].map .d) (ovl (rd L s') rest)) : ∀ rest : Heap, HCall Tryz.prog 39 [rP, .d (.str x)] (ovl (rd L s) rest) ([.bool true].map .d) (ovl (rd L s') rest) :=
  hclean_of_run okP named { hint := tabH Tryz.prog [(39, 8, hB Tryz.prog (!isT L s x) false (by simp [h]))], calls := tabC Tryz.prog [(39, 7, 1036, cOf (isR hi x)), (39, 11, 1072, cOf hw)] } 2000 1000 _ 1000000 ⟨rfl, rfl, rfl, by kernel_rfl, by kernel_rfl, by kernel_rfl⟩ (fun _ => by kernel_rfl)
theorem mayP (x : List UInt8) (h : isT L s x = true) (p e : Int) (s' : RS) (hw : ∀ rest : Heap, HPan Tryz.prog 34 [rP, .d (.str x)] (ovl (rd L s) rest) (flt p e) (ovl (rd L s') rest)) : ∀ rest : Heap, HPan Tryz.prog 39 [rP, .d (.str x)] (ovl (rd L s) rest) (flt p e) (ovl (rd L s') rest) :=
  hcleanP_of_run okP named { hint := tabH Tryz.prog [(39, 8, hB Tryz.prog (!isT L s x) false (by simp [h]))], calls := tabC Tryz.prog [(39, 7, 1036, cOf (isR hi x))], pans := tabP Tryz.prog [(39, 3, 1048, ⟨2, some (pOf hw), []⟩)] } 2000 1000 _ 1000000 ⟨rfl, rfl, rfl, by kernel_rfl, by kernel_rfl, by kernel_rfl⟩ (by kernel_rfl) (fun _ => by kernel_rfl)
theorem mayR (hL : Toks L) (x : List UInt8) : RC L 39 [rP, .d (.str x)] (fun b => [.bool b]) s (sMay L x s) := by
  unfold sMay
  cases h : isT L s x with
  | false => exact ⟨hi, mayF hi x h⟩
  | true =>
    simp only [cond_true]
    have hw := wantR hi hL x
    revert hw
    cases sWant L x s with
    | ok t s' => exact fun hw => ⟨hw.1, mayT hi x h t s' hw.2⟩
    | bad p e s' => exact fun hw => mayP hi x h p e s' hw
    | out => exact fun _ => trivial
theorem isRT (x : List UInt8) {b : Bool} (h : isT L s x = b) : ∀ rest : Heap, HCall Tryz.prog 60 [rP, .d (.str x)] (ovl (rd L s) rest) ([.bool b].map .d) (ovl (rd L s) rest) := h ▸ isR hi x
end
/-! ### Joining -/
section
variable {L : List T} {F : Nat} {args : List AV} {s0 : RS} {α β : Type} {g : α → List D}
theorem RC.bind {f' : Nat} {args' : List AV} {g' : β → List D} {s : RS} {r : Res β} {k : β → RS → Res α} (h : RC L f' args' g' s r)
    (hb : ∀ p e s', (∀ rest : Heap, HPan Tryz.prog f' args' (ovl (rd L s) rest) (flt p e) (ovl (rd L s') rest)) → ∀ rest : Heap, HPan Tryz.prog F args (ovl (rd L s0) rest) (flt p e) (ovl (rd L s') rest))
    (hk : ∀ a s', s'.i < L.length → (∀ rest : Heap, HCall Tryz.prog f' args' (ovl (rd L s) rest) ((g' a).map .d) (ovl (rd L s') rest)) → RC L F args g s0 (k a s')) : RC L F args g s0 (r.bind k) := by
  cases r with
  | ok a s' => exact hk a s' h.1 h.2
  | bad p e s' => exact hb p e s' h
  | out => trivial
theorem RC.may {s : RS} (hi : s.i < L.length) (hL : Toks L) (x : List UInt8) {X Y : RS → Res α}
    (hb : ∀ p e s', (∀ rest : Heap, HPan Tryz.prog 39 [rP, .d (.str x)] (ovl (rd L s) rest) (flt p e) (ovl (rd L s') rest)) → ∀ rest : Heap, HPan Tryz.prog F args (ovl (rd L s0) rest) (flt p e) (ovl (rd L s') rest))
    (hT : ∀ s', s'.i < L.length → (∀ rest : Heap, HCall Tryz.prog 39 [rP, .d (.str x)] (ovl (rd L s) rest) ([.bool true].map .d) (ovl (rd L s') rest)) → RC L F args g s0 (X s'))
    (hF : isT L s x = false → RC L F args g s0 (Y s)) : RC L F args g s0 ((sMay L x s).bind fun b s1 => bif b then X s1 else Y s1) := by
  have h := mayR hi hL x
  revert h
  unfold sMay
  cases hx : isT L s x with
  | false => exact fun _ => hF hx
  | true =>
    simp only [cond_true]
    cases sWant L x s with
    | ok t s' => exact fun h => hT s' h.1 h.2
    | bad p e s' => exact fun h => hb p e s' h
    | out => exact fun _ => trivial
theorem RC.ite {c : Bool} {X Y : Res α} (hT : c = true → RC L F args g s0 X) (hF : c = false → RC L F args g s0 Y) : RC L F args g s0 (bif c then X else Y) := by
  cases h : c with
  | true => exact hT h
  | false => exact hF h
end
end Go.Avm
