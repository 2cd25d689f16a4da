/-
  Texts as programs: the reader's types, variables, and statements that begin with a name.
-/
import Derived.Test.YtkhcaamgjjhpeaaGreatDoorTrI
set_option linter.unusedSectionVars false
namespace Go.Avm
open Go.Proofs

/-- What a call does that turns other objects beside the reader. -/
def RCp {α : Type} (L : List T) (f : Nat) (args : List AV) (pre : List (Nat × Ent)) (post : α → List (Nat × Ent)) (bd : List (Nat × Ent)) (g : α → List D) (s : RS) : Res α → Prop
  | .ok a s' => s'.i < L.length ∧ ∀ rest : Heap, HCall Tryz.prog f args (ovl (rd L s ++ pre) rest) ((g a).map .d) (ovl (rd L s' ++ post a) rest)
  | .bad p e s' => ∀ rest : Heap, HPan Tryz.prog f args (ovl (rd L s ++ pre) rest) (flt p e) (ovl (rd L s' ++ bd) rest)
  | .out => True
section
variable {L : List T} {F : Nat} {args : List AV} {s0 : RS} {α β : Type} {g : α → List D} {pre : List (Nat × Ent)} {post : α → List (Nat × Ent)} {bd : List (Nat × Ent)}
theorem RCp.bind {f' : Nat} {args' : List AV} {g' : β → List D} {s : RS} {r : Res β} {k : β → RS → Res α} (h : RC L f' args' g' s r)
    (hb : ∀ p e s', (∀ rest : Heap, HPan Tryz.prog f' args' (ovl (rd L s) rest) (flt p e) (ovl (rd L s') rest)) → ∀ rest : Heap, HPan Tryz.prog F args (ovl (rd L s0 ++ pre) rest) (flt p e) (ovl (rd L s' ++ bd) rest))
    (hk : ∀ a s', s'.i < L.length → (∀ rest : Heap, HCall Tryz.prog f' args' (ovl (rd L s) rest) ((g' a).map .d) (ovl (rd L s') rest)) → RCp L F args pre post bd g s0 (k a s')) : RCp L F args pre post bd g s0 (r.bind k) := by
  cases r with
  | ok a s' => exact hk a s' h.1 h.2
  | bad p e s' => exact hb p e s' h
  | out => trivial
theorem RCp.bindp {f' : Nat} {args' : List AV} {pre' : List (Nat × Ent)} {post' : β → List (Nat × Ent)} {bd' : List (Nat × Ent)} {g' : β → List D} {s : RS} {r : Res β} {k : β → RS → Res α} (h : RCp L f' args' pre' post' bd' g' s r)
    (hb : ∀ p e s', (∀ rest : Heap, HPan Tryz.prog f' args' (ovl (rd L s ++ pre') rest) (flt p e) (ovl (rd L s' ++ bd') rest)) → ∀ rest : Heap, HPan Tryz.prog F args (ovl (rd L s0 ++ pre) rest) (flt p e) (ovl (rd L s' ++ bd) rest))
    (hk : ∀ a s', s'.i < L.length → (∀ rest : Heap, HCall Tryz.prog f' args' (ovl (rd L s ++ pre') rest) ((g' a).map .d) (ovl (rd L s' ++ post' a) rest)) → RCp L F args pre post bd g s0 (k a s')) : RCp L F args pre post bd g s0 (r.bind k) := by
  cases r with
  | ok a s' => exact hk a s' h.1 h.2
  | bad p e s' => exact hb p e s' h
  | out => trivial
theorem RCp.may {s : RS} (hi : s.i < L.length) (hL : Toks L) (x : List UInt8) {X Y : RS → Res α}
    (hb : ∀ p e s', (∀ rest : Heap, HPan Tryz.prog 39 [rP, .d (.str x)] (ovl (rd L s) rest) (flt p e) (ovl (rd L s') rest)) → ∀ rest : Heap, HPan Tryz.prog F args (ovl (rd L s0 ++ pre) rest) (flt p e) (ovl (rd L s' ++ bd) rest))
    (hT : ∀ s', s'.i < L.length → (∀ rest : Heap, HCall Tryz.prog 39 [rP, .d (.str x)] (ovl (rd L s) rest) ([.bool true].map .d) (ovl (rd L s') rest)) → RCp L F args pre post bd g s0 (X s'))
    (hF : isT L s x = false → RCp L F args pre post bd g s0 (Y s)) : RCp L F args pre post bd g s0 ((sMay L x s).bind fun b s1 => bif b then X s1 else Y s1) := by
  have h := mayR hi hL x
  revert h
  unfold sMay
  cases hx : isT L s x with
  | false => exact fun _ => hF hx
  | true =>
    simp only [cond_true]
    cases sWant L x s with
    | ok t s' => exact fun h => hT s' h.1 h.2
    | bad p e s' => exact fun h => hb p e s' h
    | out => exact fun _ => trivial
theorem RCp.ite {c : Bool} {X Y : Res α} (hT : c = true → RCp L F args pre post bd g s0 X) (hF : c = false → RCp L F args pre post bd g s0 Y) : RCp L F args pre post bd g s0 (bif c then X else Y) := by
  cases h : c with
  | true => exact hT h
  | false => exact hF h
end
/-! ### kind -/
abbrev kE : List (Nat × Ent) := [(300000, ⟨1, none⟩)]
abbrev kV (l : List Int) : AV := .vec 300000 1 1 (l.map fun k => .int .u8 k)
abbrev kG : Int → List D := fun k => [.int .u8 k]
section
variable {L : List T} (hL : Toks L)
include hL
theorem kind3 (s : RS) (l : s.i < L.length) : RCp L 38 [rP, kV [1, 2, 3]] kE (fun _ => kE) kE kG s (sKind L [1, 2, 3] s) := by
  simp only [sKind]
  refine RCp.may l hL (tName 1) ?_ ?_ ?_
  · exact fun _ _ _ c => hcleanP_of_run okP named { pans := tabP Tryz.prog [(38, 4, 310168, ⟨3, some (pOf c), []⟩)] } 2000 310000 _ 1000000 ⟨rfl, rfl, rfl, by kernel_rfl, by kernel_rfl, by kernel_rfl⟩ (by kernel_rfl) (fun _ => by kernel_rfl)
  · intro s1 l1 c1
    exact ⟨l1, hclean_of_run okP named { calls := tabC Tryz.prog [(38, 16, 310210, cOf c1)] } 2000 310000 _ 1000000 ⟨rfl, rfl, rfl, by kernel_rfl, by kernel_rfl, by kernel_rfl⟩ (fun _ => by kernel_rfl)⟩
  · intro h1
    refine RCp.may l hL (tName 2) ?_ ?_ ?_
    · exact fun _ _ _ c => hcleanP_of_run okP named { calls := tabC Tryz.prog [(38, 16, 310210, cOf (mayF l (tName 1) h1))], pans := tabP Tryz.prog [(38, 4, 310336, ⟨3, some (pOf c), []⟩)] } 2000 310000 _ 1000000 ⟨rfl, rfl, rfl, by kernel_rfl, by kernel_rfl, by kernel_rfl⟩ (by kernel_rfl) (fun _ => by kernel_rfl)
    · intro s2 l2 c2
      exact ⟨l2, hclean_of_run okP named { calls := tabC Tryz.prog [(38, 16, 310210, cOf (mayF l (tName 1) h1)), (38, 16, 310378, cOf c2)] } 2000 310000 _ 1000000 ⟨rfl, rfl, rfl, by kernel_rfl, by kernel_rfl, by kernel_rfl⟩ (fun _ => by kernel_rfl)⟩
    · intro h2
      refine RCp.may l hL (tName 3) ?_ ?_ ?_
      · exact fun _ _ _ c => hcleanP_of_run okP named { calls := tabC Tryz.prog [(38, 16, 310210, cOf (mayF l (tName 1) h1)), (38, 16, 310378, cOf (mayF l (tName 2) h2))], pans := tabP Tryz.prog [(38, 4, 310504, ⟨3, some (pOf c), []⟩)] } 2000 310000 _ 1000000 ⟨rfl, rfl, rfl, by kernel_rfl, by kernel_rfl, by kernel_rfl⟩ (by kernel_rfl) (fun _ => by kernel_rfl)
      · intro s3 l3 c3
        exact ⟨l3, hclean_of_run okP named { calls := tabC Tryz.prog [(38, 16, 310210, cOf (mayF l (tName 1) h1)), (38, 16, 310378, cOf (mayF l (tName 2) h2)), (38, 16, 310546, cOf c3)] } 2000 310000 _ 1000000 ⟨rfl, rfl, rfl, by kernel_rfl, by kernel_rfl, by kernel_rfl⟩ (fun _ => by kernel_rfl)⟩
      · intro h3
        exact (hcleanP_of_run okP named { calls := tabC Tryz.prog [(38, 16, 310210, cOf (mayF l (tName 1) h1)), (38, 16, 310378, cOf (mayF l (tName 2) h2)), (38, 16, 310546, cOf (mayF l (tName 3) h3))], pans := tabP Tryz.prog [(38, 7, 310609, ⟨1, some (pOf (badR l)), []⟩)] } 2000 310000 _ 1000000 ⟨rfl, rfl, rfl, by kernel_rfl, by kernel_rfl, by kernel_rfl⟩ (by kernel_rfl) (fun _ => by kernel_rfl) : ∀ rest : Heap, HPan Tryz.prog 38 [rP, kV [1, 2, 3]] (ovl (rd L s ++ kE) rest) (flt (cur L s).p 4) (ovl (rd L s ++ kE) rest))
theorem kind2 (s : RS) (l : s.i < L.length) : RCp L 38 [rP, kV [1, 2]] kE (fun _ => kE) kE kG s (sKind L [1, 2] s) := by
  simp only [sKind]
  refine RCp.may l hL (tName 1) ?_ ?_ ?_
  · exact fun _ _ _ c => hcleanP_of_run okP named { pans := tabP Tryz.prog [(38, 4, 310168, ⟨3, some (pOf c), []⟩)] } 2000 310000 _ 1000000 ⟨rfl, rfl, rfl, by kernel_rfl, by kernel_rfl, by kernel_rfl⟩ (by kernel_rfl) (fun _ => by kernel_rfl)
  · intro s1 l1 c1
    exact ⟨l1, hclean_of_run okP named { calls := tabC Tryz.prog [(38, 16, 310210, cOf c1)] } 2000 310000 _ 1000000 ⟨rfl, rfl, rfl, by kernel_rfl, by kernel_rfl, by kernel_rfl⟩ (fun _ => by kernel_rfl)⟩
  · intro h1
    refine RCp.may l hL (tName 2) ?_ ?_ ?_
    · exact fun _ _ _ c => hcleanP_of_run okP named { calls := tabC Tryz.prog [(38, 16, 310210, cOf (mayF l (tName 1) h1))], pans := tabP Tryz.prog [(38, 4, 310336, ⟨3, some (pOf c), []⟩)] } 2000 310000 _ 1000000 ⟨rfl, rfl, rfl, by kernel_rfl, by kernel_rfl, by kernel_rfl⟩ (by kernel_rfl) (fun _ => by kernel_rfl)
    · intro s2 l2 c2
      exact ⟨l2, hclean_of_run okP named { calls := tabC Tryz.prog [(38, 16, 310210, cOf (mayF l (tName 1) h1)), (38, 16, 310378, cOf c2)] } 2000 310000 _ 1000000 ⟨rfl, rfl, rfl, by kernel_rfl, by kernel_rfl, by kernel_rfl⟩ (fun _ => by kernel_rfl)⟩
    · intro h2
      exact (hcleanP_of_run okP named { calls := tabC Tryz.prog [(38, 16, 310210, cOf (mayF l (tName 1) h1)), (38, 16, 310378, cOf (mayF l (tName 2) h2))], pans := tabP Tryz.prog [(38, 7, 310441, ⟨1, some (pOf (badR l)), []⟩)] } 2000 310000 _ 1000000 ⟨rfl, rfl, rfl, by kernel_rfl, by kernel_rfl, by kernel_rfl⟩ (by kernel_rfl) (fun _ => by kernel_rfl) : ∀ rest : Heap, HPan Tryz.prog 38 [rP, kV [1, 2]] (ovl (rd L s ++ kE) rest) (flt (cur L s).p 4) (ovl (rd L s ++ kE) rest))
end
/-! ### let, named -/
def stC : St' → List AV
  | .mk k id nm ty n p es bd el => [u8 k, dI id, .d (.str nm), u8 ty, dI n, dI p, .d (.ro (exL es)), .d (.ro (stL bd)), .d (.ro (stL el))]
abbrev stE (a : St') : List (Nat × Ent) := [(2235, ⟨1, some (.arr 1 (stC a))⟩)]
abbrev st0 (id p : Int) : List (Nat × Ent) := [(2235, ⟨1, some (.arr 1 [u8 0, dI id, .d (.str []), u8 0, dI 0, dI p, .nils, .nils, .nils])⟩)]
abbrev stX : List (Nat × Ent) := [(2235, ⟨1, none⟩)]
section
variable {L : List T} (hL : Toks L)
include hL
theorem letR (n : Nat) (id p : Int) (s : RS) (l : s.i < L.length) : RCp L 76 [rP, pC 2235] (st0 id p) stE stX (fun _ => []) s (sLet L n id p s) := by
  unfold sLet
  refine RCp.bind (takeR l hL 1 (by decide)) ?_ ?_
  · exact fun _ _ _ c => hcleanP_of_run okP named { pans := tabP Tryz.prog [(76, 0, 299385, ⟨3, some (pOf c), []⟩)] } 2000 299385 _ 1000000 ⟨rfl, rfl, rfl, by kernel_rfl, by kernel_rfl, by kernel_rfl⟩ (by kernel_rfl) (fun _ => by kernel_rfl)
  · intro t s1 l1 c1
    refine RCp.bind (wantR l1 hL [58]) ?_ ?_
    · exact fun _ _ _ c => hcleanP_of_run okP named { calls := tabC Tryz.prog [(76, 7, 299523, cOf c1)], pans := tabP Tryz.prog [(76, 1, 299845, ⟨1, some (pOf c), []⟩)] } 2000 299385 _ 1000000 ⟨rfl, rfl, rfl, by kernel_rfl, by kernel_rfl, by kernel_rfl⟩ (by kernel_rfl) (fun _ => by kernel_rfl)
    · intro _ s2 l2 c2
      refine RCp.bindp (kind3 hL _ l2) ?_ ?_
      · exact fun _ _ _ c => hcleanP_of_run okP named { calls := tabC Tryz.prog [(76, 7, 299523, cOf c1), (76, 14, 299891, cOf c2)], pans := tabP Tryz.prog [(76, 2, 299891, ⟨3, some (pOf c), []⟩)] } 2000 299385 _ 1000000 ⟨rfl, rfl, rfl, by kernel_rfl, by kernel_rfl, by kernel_rfl⟩ (by kernel_rfl) (fun _ => by kernel_rfl)
      · intro ty s3 l3 c3
        refine RCp.ite (fun h4 => ?_) (fun h4 => ?_)
        ·
          refine RCp.bind (wantR l3 hL [91]) ?_ ?_
          · exact fun _ _ _ c => hcleanP_of_run okP named { hint := tabH Tryz.prog [(76, 25, hB Tryz.prog (ty == 3) true h4)], calls := tabC Tryz.prog [(76, 7, 299523, cOf c1), (76, 14, 299891, cOf c2), (76, 18, 300029, cOf c3)], pans := tabP Tryz.prog [(76, 4, 300397, ⟨1, some (pOf c), []⟩)] } 2000 299385 _ 1000000 ⟨rfl, rfl, rfl, by kernel_rfl, by kernel_rfl, by kernel_rfl⟩ (by kernel_rfl) (fun _ => by kernel_rfl)
          · intro _ s5 l5 c5
            refine RCp.bind (takeR l5 hL 3 (by decide)) ?_ ?_
            · exact fun _ _ _ c => hcleanP_of_run okP named { hint := tabH Tryz.prog [(76, 25, hB Tryz.prog (ty == 3) true h4)], calls := tabC Tryz.prog [(76, 7, 299523, cOf c1), (76, 14, 299891, cOf c2), (76, 18, 300029, cOf c3), (76, 27, 300443, cOf c5)], pans := tabP Tryz.prog [(76, 5, 300443, ⟨2, some (pOf c), []⟩)] } 2000 299385 _ 1000000 ⟨rfl, rfl, rfl, by kernel_rfl, by kernel_rfl, by kernel_rfl⟩ (by kernel_rfl) (fun _ => by kernel_rfl)
            · intro m s6 l6 c6
              refine RCp.bind (wantR l6 hL [93]) ?_ ?_
              · exact fun _ _ _ c => hcleanP_of_run okP named { hint := tabH Tryz.prog [(76, 25, hB Tryz.prog (ty == 3) true h4)], calls := tabC Tryz.prog [(76, 7, 299523, cOf c1), (76, 14, 299891, cOf c2), (76, 18, 300029, cOf c3), (76, 27, 300443, cOf c5), (76, 30, 300535, cOf c6)], pans := tabP Tryz.prog [(76, 6, 300719, ⟨1, some (pOf c), []⟩)] } 2000 299385 _ 1000000 ⟨rfl, rfl, rfl, by kernel_rfl, by kernel_rfl, by kernel_rfl⟩ (by kernel_rfl) (fun _ => by kernel_rfl)
              · intro _ s7 l7 c7
                refine RCp.bind (wantR l7 hL [59]) ?_ ?_
                · exact fun _ _ _ c => hcleanP_of_run okP named { hint := tabH Tryz.prog [(76, 25, hB Tryz.prog (ty == 3) true h4)], calls := tabC Tryz.prog [(76, 7, 299523, cOf c1), (76, 14, 299891, cOf c2), (76, 18, 300029, cOf c3), (76, 27, 300443, cOf c5), (76, 30, 300535, cOf c6), (76, 35, 300765, cOf c7)], pans := tabP Tryz.prog [(76, 9, 300765, ⟨1, some (pOf c), []⟩)] } 2000 299385 _ 1000000 ⟨rfl, rfl, rfl, by kernel_rfl, by kernel_rfl, by kernel_rfl⟩ (by kernel_rfl) (fun _ => by kernel_rfl)
                · intro _ s8 l8 c8
                  exact ⟨l8, hcleanF_of_run okP named { hint := tabH Tryz.prog [(76, 25, hB Tryz.prog (ty == 3) true h4)], calls := tabC Tryz.prog [(76, 7, 299523, cOf c1), (76, 14, 299891, cOf c2), (76, 18, 300029, cOf c3), (76, 27, 300443, cOf c5), (76, 30, 300535, cOf c6), (76, 35, 300765, cOf c7), (76, 45, 300811, cOf c8)] } 2000 299385 _ 1000000 ([(2235, 6), (2235, 7), (2235, 8)]) ⟨rfl, rfl, rfl, by kernel_rfl, by kernel_rfl, by kernel_rfl⟩ (fun _ => by kernel_rfl)⟩
        ·
          refine RCp.may l3 hL [61] ?_ ?_ ?_
          · exact fun _ _ _ c => hcleanP_of_run okP named { hint := tabH Tryz.prog [(76, 25, hB Tryz.prog (ty == 3) false h4)], calls := tabC Tryz.prog [(76, 7, 299523, cOf c1), (76, 14, 299891, cOf c2), (76, 18, 300029, cOf c3)], pans := tabP Tryz.prog [(76, 7, 300397, ⟨1, some (pOf c), []⟩)] } 2000 299385 _ 1000000 ⟨rfl, rfl, rfl, by kernel_rfl, by kernel_rfl, by kernel_rfl⟩ (by kernel_rfl) (fun _ => by kernel_rfl)
          · intro s5 l5 c5
            refine RCp.bind ((exAll hL n).expr 1 _ l5) ?_ ?_
            · exact fun _ _ _ c => hcleanP_of_run okP named { hint := tabH Tryz.prog [(76, 25, hB Tryz.prog (ty == 3) false h4)], calls := tabC Tryz.prog [(76, 7, 299523, cOf c1), (76, 14, 299891, cOf c2), (76, 18, 300029, cOf c3), (76, 37, 300443, cOf c5)], pans := tabP Tryz.prog [(76, 8, 300443, ⟨2, some (pOf c), []⟩)] } 2000 299385 _ 1000000 ⟨rfl, rfl, rfl, by kernel_rfl, by kernel_rfl, by kernel_rfl⟩ (by kernel_rfl) (fun _ => by kernel_rfl)
            · intro x s6 l6 c6
              obtain ⟨kx, ox, nmx, nx, px, xsx⟩ := x
              refine RCp.bind (wantR l6 hL [59]) ?_ ?_
              · exact fun _ _ _ c => hcleanP_of_run okP named { hint := tabH Tryz.prog [(76, 25, hB Tryz.prog (ty == 3) false h4)], calls := tabC Tryz.prog [(76, 7, 299523, cOf c1), (76, 14, 299891, cOf c2), (76, 18, 300029, cOf c3), (76, 37, 300443, cOf c5), (76, 40, 300535, cOf c6)], pans := tabP Tryz.prog [(76, 9, 300719, ⟨1, some (pOf c), []⟩)] } 2000 299385 _ 1000000 ⟨rfl, rfl, rfl, by kernel_rfl, by kernel_rfl, by kernel_rfl⟩ (by kernel_rfl) (fun _ => by kernel_rfl)
              · intro _ s7 l7 c7
                exact ⟨l7, hcleanF_of_run okP named { hint := tabH Tryz.prog [(76, 25, hB Tryz.prog (ty == 3) false h4)], calls := tabC Tryz.prog [(76, 7, 299523, cOf c1), (76, 14, 299891, cOf c2), (76, 18, 300029, cOf c3), (76, 37, 300443, cOf c5), (76, 40, 300535, cOf c6), (76, 45, 300765, cOf c7)] } 2000 299385 _ 1000000 ([(2235, 6), (2235, 7), (2235, 8)]) ⟨rfl, rfl, rfl, by kernel_rfl, by kernel_rfl, by kernel_rfl⟩ (fun _ => by kernel_rfl)⟩
          · intro h5
            refine RCp.bind (wantR l3 hL [59]) ?_ ?_
            · exact fun _ _ _ c => hcleanP_of_run okP named { hint := tabH Tryz.prog [(76, 25, hB Tryz.prog (ty == 3) false h4)], calls := tabC Tryz.prog [(76, 7, 299523, cOf c1), (76, 14, 299891, cOf c2), (76, 18, 300029, cOf c3), (76, 37, 300443, cOf (mayF l3 [61] h5))], pans := tabP Tryz.prog [(76, 9, 300443, ⟨1, some (pOf c), []⟩)] } 2000 299385 _ 1000000 ⟨rfl, rfl, rfl, by kernel_rfl, by kernel_rfl, by kernel_rfl⟩ (by kernel_rfl) (fun _ => by kernel_rfl)
            · intro _ s6 l6 c6
              exact ⟨l6, hcleanF_of_run okP named { hint := tabH Tryz.prog [(76, 25, hB Tryz.prog (ty == 3) false h4)], calls := tabC Tryz.prog [(76, 7, 299523, cOf c1), (76, 14, 299891, cOf c2), (76, 18, 300029, cOf c3), (76, 37, 300443, cOf (mayF l3 [61] h5)), (76, 45, 300489, cOf c6)] } 2000 299385 _ 1000000 ([(2235, 6), (2235, 7), (2235, 8)]) ⟨rfl, rfl, rfl, by kernel_rfl, by kernel_rfl, by kernel_rfl⟩ (fun _ => by kernel_rfl)⟩
theorem namedR (n : Nat) (id p : Int) (s : RS) (l : s.i < L.length) : RCp L 78 [rP, pC 2235] (st0 id p) stE stX (fun _ => []) s (sNamed L n id p s) := by
  unfold sNamed
  refine RCp.bind (takeR l hL 1 (by decide)) ?_ ?_
  · exact fun _ _ _ c => hcleanP_of_run okP named { pans := tabP Tryz.prog [(78, 0, 10000, ⟨1, some (pOf c), []⟩)] } 2000 10000 _ 1000000 ⟨rfl, rfl, rfl, by kernel_rfl, by kernel_rfl, by kernel_rfl⟩ (by kernel_rfl) (fun _ => by kernel_rfl)
  · intro t s1 l1 c1
    refine RCp.ite (fun h2 => ?_) (fun h2 => ?_)
    ·
      refine RCp.bind ((exAll hL n).call t.t p _ l1) ?_ ?_
      · exact fun _ _ _ c => hcleanP_of_run okP named { calls := tabC Tryz.prog [(78, 7, 10064, cOf c1), (78, 26, 10256, cOf (isRT l1 [40] h2))], pans := tabP Tryz.prog [(78, 5, 10320, ⟨8, some (pOf c), []⟩)] } 2000 10000 _ 1000000 ⟨rfl, rfl, rfl, by kernel_rfl, by kernel_rfl, by kernel_rfl⟩ (by kernel_rfl) (fun _ => by kernel_rfl)
      · intro x s3 l3 c3
        obtain ⟨kx, ox, nmx, nx, px, xsx⟩ := x
        refine RCp.bind (wantR l3 hL [59]) ?_ ?_
        · exact fun _ _ _ c => hcleanP_of_run okP named { calls := tabC Tryz.prog [(78, 7, 10064, cOf c1), (78, 26, 10256, cOf (isRT l1 [40] h2)), (78, 35, 10832, cOf c3)], pans := tabP Tryz.prog [(78, 11, 11280, ⟨1, some (pOf c), []⟩)] } 2000 10000 _ 1000000 ⟨rfl, rfl, rfl, by kernel_rfl, by kernel_rfl, by kernel_rfl⟩ (by kernel_rfl) (fun _ => by kernel_rfl)
        · intro _ s4 l4 c4
          exact ⟨l4, hcleanF_of_run okP named { calls := tabC Tryz.prog [(78, 7, 10064, cOf c1), (78, 26, 10256, cOf (isRT l1 [40] h2)), (78, 35, 10832, cOf c3), (78, 63, 11344, cOf c4)] } 2000 10000 _ 1000000 ([(2235, 6), (2235, 7), (2235, 8)]) ⟨rfl, rfl, rfl, by kernel_rfl, by kernel_rfl, by kernel_rfl⟩ (fun _ => by kernel_rfl)⟩
    ·
      refine RCp.ite (fun h3 => ?_) (fun h3 => ?_)
      ·
        refine RCp.bind ((exAll hL n).place _ l1) ?_ ?_
        · exact fun _ _ _ c => hcleanP_of_run okP named { calls := tabC Tryz.prog [(78, 7, 10064, cOf c1), (78, 26, 10256, cOf (isRT l1 [40] h2)), (78, 43, 10384, cOf (isRT l1 [91] h3))], pans := tabP Tryz.prog [(78, 8, 11024, ⟨1, some (pOf c), []⟩)] } 2000 10000 _ 1000000 ⟨rfl, rfl, rfl, by kernel_rfl, by kernel_rfl, by kernel_rfl⟩ (by kernel_rfl) (fun _ => by kernel_rfl)
        · intro x s4 l4 c4
          obtain ⟨kx, ox, nmx, nx, px, xsx⟩ := x
          refine RCp.bind (wantR l4 hL [61]) ?_ ?_
          · exact fun _ _ _ c => hcleanP_of_run okP named { calls := tabC Tryz.prog [(78, 7, 10064, cOf c1), (78, 26, 10256, cOf (isRT l1 [40] h2)), (78, 43, 10384, cOf (isRT l1 [91] h3)), (78, 52, 11088, cOf c4)], pans := tabP Tryz.prog [(78, 9, 11216, ⟨1, some (pOf c), []⟩)] } 2000 10000 _ 1000000 ⟨rfl, rfl, rfl, by kernel_rfl, by kernel_rfl, by kernel_rfl⟩ (by kernel_rfl) (fun _ => by kernel_rfl)
          · intro _ s5 l5 c5
            refine RCp.bind ((exAll hL n).expr 1 _ l5) ?_ ?_
            · exact fun _ _ _ c => hcleanP_of_run okP named { calls := tabC Tryz.prog [(78, 7, 10064, cOf c1), (78, 26, 10256, cOf (isRT l1 [40] h2)), (78, 43, 10384, cOf (isRT l1 [91] h3)), (78, 52, 11088, cOf c4), (78, 54, 11280, cOf c5)], pans := tabP Tryz.prog [(78, 10, 11280, ⟨3, some (pOf c), []⟩)] } 2000 10000 _ 1000000 ⟨rfl, rfl, rfl, by kernel_rfl, by kernel_rfl, by kernel_rfl⟩ (by kernel_rfl) (fun _ => by kernel_rfl)
            · intro y s6 l6 c6
              obtain ⟨ky, oy, nmy, ny, py, xsy⟩ := y
              refine RCp.bind (wantR l6 hL [59]) ?_ ?_
              · exact fun _ _ _ c => hcleanP_of_run okP named { calls := tabC Tryz.prog [(78, 7, 10064, cOf c1), (78, 26, 10256, cOf (isRT l1 [40] h2)), (78, 43, 10384, cOf (isRT l1 [91] h3)), (78, 52, 11088, cOf c4), (78, 54, 11280, cOf c5), (78, 58, 11472, cOf c6)], pans := tabP Tryz.prog [(78, 11, 11728, ⟨1, some (pOf c), []⟩)] } 2000 10000 _ 1000000 ⟨rfl, rfl, rfl, by kernel_rfl, by kernel_rfl, by kernel_rfl⟩ (by kernel_rfl) (fun _ => by kernel_rfl)
              · intro _ s7 l7 c7
                exact ⟨l7, hcleanF_of_run okP named { calls := tabC Tryz.prog [(78, 7, 10064, cOf c1), (78, 26, 10256, cOf (isRT l1 [40] h2)), (78, 43, 10384, cOf (isRT l1 [91] h3)), (78, 52, 11088, cOf c4), (78, 54, 11280, cOf c5), (78, 58, 11472, cOf c6), (78, 63, 11792, cOf c7)] } 2000 10000 _ 1000000 ([(2235, 6), (2235, 7), (2235, 8)]) ⟨rfl, rfl, rfl, by kernel_rfl, by kernel_rfl, by kernel_rfl⟩ (fun _ => by kernel_rfl)⟩
      ·
        refine RCp.bind (wantR l1 hL [61]) ?_ ?_
        · exact fun _ _ _ c => hcleanP_of_run okP named { calls := tabC Tryz.prog [(78, 7, 10064, cOf c1), (78, 26, 10256, cOf (isRT l1 [40] h2)), (78, 43, 10384, cOf (isRT l1 [91] h3))], pans := tabP Tryz.prog [(78, 2, 11024, ⟨1, some (pOf c), []⟩)] } 2000 10000 _ 1000000 ⟨rfl, rfl, rfl, by kernel_rfl, by kernel_rfl, by kernel_rfl⟩ (by kernel_rfl) (fun _ => by kernel_rfl)
        · intro _ s4 l4 c4
          refine RCp.bind ((exAll hL n).expr 1 _ l4) ?_ ?_
          · exact fun _ _ _ c => hcleanP_of_run okP named { calls := tabC Tryz.prog [(78, 7, 10064, cOf c1), (78, 26, 10256, cOf (isRT l1 [40] h2)), (78, 43, 10384, cOf (isRT l1 [91] h3)), (78, 17, 11088, cOf c4)], pans := tabP Tryz.prog [(78, 3, 11088, ⟨2, some (pOf c), []⟩)] } 2000 10000 _ 1000000 ⟨rfl, rfl, rfl, by kernel_rfl, by kernel_rfl, by kernel_rfl⟩ (by kernel_rfl) (fun _ => by kernel_rfl)
          · intro x s5 l5 c5
            obtain ⟨kx, ox, nmx, nx, px, xsx⟩ := x
            refine RCp.bind (wantR l5 hL [59]) ?_ ?_
            · exact fun _ _ _ c => hcleanP_of_run okP named { calls := tabC Tryz.prog [(78, 7, 10064, cOf c1), (78, 26, 10256, cOf (isRT l1 [40] h2)), (78, 43, 10384, cOf (isRT l1 [91] h3)), (78, 17, 11088, cOf c4), (78, 20, 11216, cOf c5)], pans := tabP Tryz.prog [(78, 11, 11472, ⟨1, some (pOf c), []⟩)] } 2000 10000 _ 1000000 ⟨rfl, rfl, rfl, by kernel_rfl, by kernel_rfl, by kernel_rfl⟩ (by kernel_rfl) (fun _ => by kernel_rfl)
            · intro _ s6 l6 c6
              exact ⟨l6, hcleanF_of_run okP named { calls := tabC Tryz.prog [(78, 7, 10064, cOf c1), (78, 26, 10256, cOf (isRT l1 [40] h2)), (78, 43, 10384, cOf (isRT l1 [91] h3)), (78, 17, 11088, cOf c4), (78, 20, 11216, cOf c5), (78, 63, 11536, cOf c6)] } 2000 10000 _ 1000000 ([(2235, 6), (2235, 7), (2235, 8)]) ⟨rfl, rfl, rfl, by kernel_rfl, by kernel_rfl, by kernel_rfl⟩ (fun _ => by kernel_rfl)⟩
end
end Go.Avm
