/-
  The abstract machine, part Q: from the contract of a law on data to what the statement asks behind the call.
-/
import Derived.Test.YtkhcaamgjjhpeaaGreatDoorAvmP
import Derived.ProofKit
import Derived.OpenShut
import Derived.Carry
set_option linter.unusedSectionVars false
namespace Go.Avm
open Go.ChangeShapes Go.WideShapes Go.ChangeAt Go.RowKit
variable [GlobTab]

theorem calls_of_pure {P : Program} {f : Nat} {ds : List D} (hp : Pure P f ds [.bool true]) {w : World} {I : Nat → Nat → Prop} {cargs : Array Value} (hg : Globs I w) (hI : ∀ b o, I b o → b < w.heap.size) (hs : cargs.size = ds.length)
    (hargs : ∀ (i : Nat) (x : D) (u : Value), ds[i]? = some x → cargs[i]? = some u → DRep I w x u) :
    Calls P f cargs w fun e w' => e = .returned (.bool true) ∧ Below w.heap.size w w' := by
  refine (hp.2 w I cargs hI hs hargs hg).mono ?_
  rintro e w' ⟨v, I', rfl, hb, _, _, _, hret⟩
  rcases hret with ⟨x, hx, hd⟩ | ⟨hn, _⟩
  · simp only [List.cons.injEq, and_true] at hx
    subst hx
    cases hd
    exact ⟨rfl, hb⟩
  · simp at hn

section
variable {H : Type} {enc : TypeId × Value → H} {P : Program}

theorem trodAll_below (hl : laidOutB P = true) {W W' : World} (hb : Below W.heap.size W W') : ∀ {ts : List TypeId} {vs : List Value} {ds : List (DataW H)} {p : List MemPlace}, (∀ t ∈ ts, P.readableRec t = true ∧ t < P.types.size) →
    DataW.TrodAll enc P W 0 (fun _ => true) true ts vs ds p → (∀ x ∈ p, x.block < W.heap.size) → DataW.TrodAll enc P W' 0 (fun b => decide (b < W.heap.size)) true ts vs ds p
  | [], vs, ds, p, _, h, _ => by
    obtain ⟨rfl, rfl, rfl⟩ := trodAll_nil h
    exact trodAll_mk0
  | t :: ts, vs, ds, p, hr, h, hlt => by
    obtain ⟨v, vs', d, ds', p1, p2, rfl, rfl, rfl, h1, h2⟩ := trodAll_cons h
    obtain ⟨hr1, hr2⟩ := hr t (by simp)
    exact trodAll_cons_mk (Below.trod hl hr1 hr2 h1 hb (fun x hx => hlt x (by simp [hx]))) (trodAll_below hl hb (fun t ht => hr t (by simp [ht])) h2 (fun x hx => hlt x (by simp [hx])))

/-- Behind a law's call: it returned true, nothing that was there has turned. -/
theorem law_post {f : Func} {s : ChangeSpec} {W W' : World} {args : Array Value} {ds gs : List (DataW H)} {before : List MemPlace} {tb : TypeId} (hl : laidOutB P = true) (hv : s.vars = []) (hfn : s.fn H ds = { results := [.lit (.bool true)], args := ds })
    (hres : f.resultTypes.toList = [tb]) (hbool : P.underlying tb = some .bool) (hread : ∀ t ∈ f.params.toList, P.readableRec t = true ∧ t < P.types.size)
    (hW : DataW.Whole enc P f.params.toList s.vars false W args.toList ds gs before) (hb : Below W.heap.size W W') : s.post enc P f false true false false W args (.bool true) W' := by
  have hlt : ∀ x ∈ before, x.block < W.heap.size := fun x hx => by simpa using hW.lt x hx
  have hW' := hW
  obtain ⟨p, q, hA, hV, hpq, _, _⟩ := hW
  rw [hv] at hV
  obtain ⟨rfl, rfl⟩ := trodVars_none hV
  subst hpq
  have hfn' : s.fn H (ds ++ []) = { results := [.lit (.bool true)], args := ds } := by rw [List.append_nil]; exact hfn
  refine ⟨ds, [], p ++ [], [], p, [], hW', ?_, ?_, ?_, ?_, fun h => by cases h⟩
  · rw [hfn', hres]
    have hsz : f.resultTypes.size = 1 := by rw [← Array.length_toList, hres]; rfl
    rw [hsz]
    exact trodAll_mk1 (shut_bool hbool true)
  · rw [hfn']
    exact trodAll_below hl hb hread hA (fun x hx => hlt x (by simp [hx]))
  · rw [hfn', hv]
    rfl
  · exact hb.frame _
end
end Go.Avm
