/-
  Texts as programs: the reader reads a function.
-/
import Derived.Test.YtkhcaamgjjhpeaaGreatDoorTrL
set_option linter.unusedSectionVars false
namespace Go.Avm
open Go.Proofs

theorem RC.bindv {L : List T} {F : Nat} {args : List AV} {s0 : RS} {α : Type} {g : α → List D} {nm : List UInt8} {p : Int} {s : RS} {r : Res (List Pm)} {k : List Pm → RS → Res α} (h : PaC L nm p s r)
    (hb : ∀ q e s' v, (∀ rest : Heap, HPan Tryz.prog 36 [rP, pclo] (ovl (rd L s ++ fuE nm p 0 []) rest) (flt q e) (ovl (rd L s' ++ fuB v) rest)) → ∀ rest : Heap, HPan Tryz.prog F args (ovl (rd L s0) rest) (flt q e) (ovl (rd L s') rest))
    (hk : ∀ a s', s'.i < L.length → (∀ rest : Heap, HCall Tryz.prog 36 [rP, pclo] (ovl (rd L s ++ fuE nm p 0 []) rest) ([].map .d) (ovl (rd L s' ++ fuE nm p a.length (pmL a)) rest)) → RC L F args g s0 (k a s')) : RC L F args g s0 (r.bind k) := by
  cases r with
  | ok a s' => exact hk a s' h.1 h.2
  | bad q e s' => obtain ⟨v, h⟩ := h; exact hb q e s' v h
  | out => trivial
abbrev fR : Fn → List D := fun f => [fnD f]
section
variable {L : List T} (hL : Toks L)
include hL
theorem fnR (n : Nat) (s : RS) (l : s.i < L.length) : RC L 21 [rP] fR s (sFn L n s) := by
  unfold sFn
  refine RC.bind (wantR l hL [102, 110]) ?_ ?_
  · exact fun _ _ _ c => hcleanP_of_run okP named { nils := fun f r => if f = 21 then (if r = 2 then some ⟨299842, 1, 400000, 3, false, false⟩ else none) else none, pans := tabP Tryz.prog [(21, 1, 299719, ⟨1, some (pOf c), [3, 7]⟩)] } 2000 299671 _ 1000000 ⟨rfl, rfl, rfl, by kernel_rfl, by kernel_rfl, by kernel_rfl⟩ (by kernel_rfl) (fun _ => by kernel_rfl)
  · intro t s1 l1 c1
    refine RC.bind (takeR l1 hL 1 (by decide)) ?_ ?_
    · exact fun _ _ _ c => hcleanP_of_run okP named { nils := fun f r => if f = 21 then (if r = 2 then some ⟨299842, 1, 400000, 3, false, false⟩ else none) else none, calls := tabC Tryz.prog [(21, 5, 299743, cOf c1)], pans := tabP Tryz.prog [(21, 1, 299719, ⟨4, some (pOf c), [7]⟩)] } 2000 299671 _ 1000000 ⟨rfl, rfl, rfl, by kernel_rfl, by kernel_rfl, by kernel_rfl⟩ (by kernel_rfl) (fun _ => by kernel_rfl)
    · intro u s2 l2 c2
      refine RC.bindv (paramsR hL n u.t t.p _ l2) ?_ ?_
      · exact fun _ _ _ _ c => hcleanP_of_run okP named { nils := fun f r => if f = 21 then (if r = 2 then some ⟨299842, 1, 400000, 3, false, false⟩ else none) else none, calls := tabC Tryz.prog [(21, 5, 299743, cOf c1), (21, 8, 299791, cOf c2)], pans := tabP Tryz.prog [(21, 2, 299887, ⟨2, some (pOf c), []⟩)] } 2000 299671 _ 1000000 ⟨rfl, rfl, rfl, by kernel_rfl, by kernel_rfl, by kernel_rfl⟩ (by kernel_rfl) (fun _ => by kernel_rfl)
      · intro ps s3 l3 c3
        refine RC.may l3 hL [58] ?_ ?_ ?_
        · exact fun _ _ _ c => hcleanP_of_run okP named { nils := fun f r => if f = 21 then (if r = 2 then some ⟨299842, 1, 400000, 3, false, false⟩ else none) else none, calls := tabC Tryz.prog [(21, 5, 299743, cOf c1), (21, 8, 299791, cOf c2), (21, 13, 299935, cOf c3)], pans := tabP Tryz.prog [(21, 3, 299935, ⟨1, some (pOf c), []⟩)] } 2000 299671 _ 1000000 ⟨rfl, rfl, rfl, by kernel_rfl, by kernel_rfl, by kernel_rfl⟩ (by kernel_rfl) (fun _ => by kernel_rfl)
        · intro s4 l4 c4
          refine RC.bindp (kind2 hL _ l4) ?_ ?_
          · exact fun _ _ _ c => hcleanP_of_run okP named { nils := fun f r => if f = 21 then (if r = 2 then some ⟨299842, 1, 400000, 3, false, false⟩ else none) else none, calls := tabC Tryz.prog [(21, 5, 299743, cOf c1), (21, 8, 299791, cOf c2), (21, 13, 299935, cOf c3), (21, 15, 299959, cOf c4)], pans := tabP Tryz.prog [(21, 4, 299959, ⟨2, some (pOf c), []⟩)] } 2000 299671 _ 1000000 ⟨rfl, rfl, rfl, by kernel_rfl, by kernel_rfl, by kernel_rfl⟩ (by kernel_rfl) (fun _ => by kernel_rfl)
          · intro k s5 l5 c5
            refine RC.bind ((stAll hL n).block _ l5) ?_ ?_
            · exact fun _ _ _ c => hcleanP_of_run okP named { nils := fun f r => if f = 21 then (if r = 2 then some ⟨299842, 1, 400000, 3, false, false⟩ else none) else none, calls := tabC Tryz.prog [(21, 5, 299743, cOf c1), (21, 8, 299791, cOf c2), (21, 13, 299935, cOf c3), (21, 15, 299959, cOf c4), (21, 18, 300007, cOf c5)], pans := tabP Tryz.prog [(21, 5, 300055, ⟨1, some (pOf c), []⟩)] } 2000 299671 _ 1000000 ⟨rfl, rfl, rfl, by kernel_rfl, by kernel_rfl, by kernel_rfl⟩ (by kernel_rfl) (fun _ => by kernel_rfl)
            · intro b s6 l6 c6
              exact ⟨l6, hclean_of_run okP named { nils := fun f r => if f = 21 then (if r = 2 then some ⟨299842, 1, 400000, 3, false, false⟩ else none) else none, calls := tabC Tryz.prog [(21, 5, 299743, cOf c1), (21, 8, 299791, cOf c2), (21, 13, 299935, cOf c3), (21, 15, 299959, cOf c4), (21, 18, 300007, cOf c5), (21, 21, 300079, cOf c6)] } 2000 299671 _ 1000000 ⟨rfl, rfl, rfl, by kernel_rfl, by kernel_rfl, by kernel_rfl⟩ (fun _ => by kernel_rfl)⟩
        · intro h4
          refine RC.bind ((stAll hL n).block _ l3) ?_ ?_
          · exact fun _ _ _ c => hcleanP_of_run okP named { nils := fun f r => if f = 21 then (if r = 2 then some ⟨299842, 1, 400000, 3, false, false⟩ else none) else none, calls := tabC Tryz.prog [(21, 5, 299743, cOf c1), (21, 8, 299791, cOf c2), (21, 13, 299935, cOf c3), (21, 15, 299959, cOf (mayF l3 [58] h4))], pans := tabP Tryz.prog [(21, 5, 299959, ⟨1, some (pOf c), []⟩)] } 2000 299671 _ 1000000 ⟨rfl, rfl, rfl, by kernel_rfl, by kernel_rfl, by kernel_rfl⟩ (by kernel_rfl) (fun _ => by kernel_rfl)
          · intro b s5 l5 c5
            exact ⟨l5, hclean_of_run okP named { nils := fun f r => if f = 21 then (if r = 2 then some ⟨299842, 1, 400000, 3, false, false⟩ else none) else none, calls := tabC Tryz.prog [(21, 5, 299743, cOf c1), (21, 8, 299791, cOf c2), (21, 13, 299935, cOf c3), (21, 15, 299959, cOf (mayF l3 [58] h4)), (21, 21, 299983, cOf c5)] } 2000 299671 _ 1000000 ⟨rfl, rfl, rfl, by kernel_rfl, by kernel_rfl, by kernel_rfl⟩ (fun _ => by kernel_rfl)⟩
end
end Go.Avm
